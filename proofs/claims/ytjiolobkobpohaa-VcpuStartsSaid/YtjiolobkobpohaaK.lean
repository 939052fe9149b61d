/- VcpuBegins and VcpuReadies. -/
import Derived.Test.YtjiolobkobpohaaJ
namespace Go.Proofs.Ytjiolobkobpohaa
open Go.RowKit Go.BigFrame

theorem sameVs_self {n : Nat} {l l' : Nat → V} (h : ∀ k, k < n → ∀ i, i < 52 → cellAt (l k) i = cellAt (l' k) i) : sameVs n l n l' = true := by
  unfold sameVs
  simp only [decide_true, Bool.true_and, decide_eq_true_eq]
  intro k hk
  rw [sameV_iff]
  exact h k hk
theorem sameV_self (x : V) : sameV x x = true := by rw [sameV_iff]; exact fun _ _ => rfl
theorem fr_below {w w' : World} (h : Fr (fun _ => False) w w') : Below w.heap.size w w' := h.below (fun _ h => h.elim) (Nat.le_refl _)

set_option maxRecDepth 100000 in
theorem begins_walk (h : Int) (pc : Nat) (w : World) (hp : pc < 18446744073709551616) :
    Calls Try.prog 3 #[.int .i64 h, .int .u64 pc] w fun e w' => e = .returned (.bool true) ∧ Below w.heap.size w w' := by
  have hn := beginN_le h
  have HS := Lib.hid (sameVs_self (n := beginN h) (l := beginL pc) (l' := beginL pc) (fun _ _ _ _ => rfl))
  have HP := Lib.hid hp
  clear hp
  go_enter Try.func3, Try.ntmps3
  go_wp2_with fail
  refine (begin_any h pc w HP.out).mono ?_
  rintro e w1 ⟨v, rfl, hV, hF⟩
  have HV := Lib.hid hV.rd
  have HF := Lib.hid hF
  clear hV hF
  go_wp2_with fail
  refine (refBegin_any h pc w1 HP.out).mono ?_
  rintro e w2 ⟨v2, rfl, hV2, hF2⟩
  obtain ⟨A, c, rfl, h1, h2, R1⟩ := HV.out
  obtain ⟨A2, c2, rfl, h3, h4, R2⟩ := hV2.rd
  have R1 := R1.fr hF2 (fun _ _ h => h)
  have HF2 := Lib.hid (HF.out.trans hF2 (fun _ _ h => h))
  clear hV2 hF2 HV HF h1 h2 h3 h4
  go_wp2_with fail
  refine (sameVcpus_any A _ c _ A2 _ c2 _ w2 (by unfold maxLen; omega) (by unfold maxLen; omega) R1 R2).mono ?_
  rintro e w3 ⟨he, q, rfl⟩
  rw [HS.out] at he
  subst he
  go_wp2_with fail
  refine (awake_any _).mono ?_
  rintro e w4 ⟨rfl, hF⟩
  have HF := Lib.hid (fr_below ((HF2.out.drewN q).trans hF (fun _ _ h => h)))
  clear hF
  go_wp2_with fail
  go_ret
  exact ⟨rfl, HF.out⟩

set_option maxRecDepth 100000 in
set_option maxHeartbeats 1000000 in
theorem readies_walk (x : V) (now : Nat) (ext : Bool) (A : Option Addr) (n c : Nat) (l : Nat → V) (i : Int) (gpa : Nat) (w : World) (hx : x.Wf) (hA : A = none → n = 0) (hR : SlR w A n l) (hn : n * 368 ≤ 140737488355328) (hw : ∀ k, k < n → (l k).Wf) (hg : gpa < 18446744073709551616) :
    Calls Try.prog 4 #[.agg (arr 52 (cellAt x)), .int .u64 now, .bool ext, .slice A n c, .int .i64 i, .int .u64 gpa] w fun e w' => e = .returned (.bool true) ∧ Below w.heap.size w w' := by
  have hM := Mem.refl (fun _ => False) w
  have hnb := len_small hn
  have HX := Lib.hid hx
  have HA := Lib.hid hA
  have HR := Lib.hid hR
  have HN := Lib.hid hn
  have HW := Lib.hid hw
  have HG := Lib.hid hg
  have hv1 : Hid ((!(sameV (x.ready now ext) (x.ready now ext))) = false) := by show _ = _; rw [sameV_self]; rfl
  have hv2 : Hid ((!(sameV x.wait x.wait)) = false) := by show _ = _; rw [sameV_self]; rfl
  clear hx hA hR hn hw hg
  go_enter Try.func4, Try.ntmps4
  go_upto_region 1 with (first | (refine wpList_box_fn (gd_none rfl) 32 _ rfl 52 _ rfl hM ?_; clear hM; intro w1 g1 hg1 hl1 hM; dsimp only [List.nil_append, List.cons_append] at hM))
  try dsimp only [Act.put]
  refine wp_region_quiet (C := fun w' => Mem (fun _ => False) w w' [Ent.fn g1 32 52 (cellAt x)]) (by kernel_rfl) (by kernel_rfl) hM.drew ?_
  dsimp only
  repeat (first
    | (refine wpQuiet_load_all (gd_want rfl) 32 _ rfl 0 g1 32 52 _ rfl rfl _ Try.underlying32 rfl Try.info32 ?_; simp only [Act.put, List.setIfInBounds_toArray, List.set_cons_zero, List.set_cons_succ])
    | (refine wpQuiet_call (F := 15) (args := #[.agg (arr 52 (cellAt x)), .int .u64 now, .bool ext]) (v := .agg (arr 52 (cellAt (x.ready now ext)))) (gd_want rfl) ?_ (fun w' hm => (ready_any x now ext _ HX.out).mono fun e w2 ⟨he, hf⟩ => ⟨he, Mem.call hm hf⟩) ?_; (focus (intro w'; go_simp; done)); simp only [Act.put, List.setIfInBounds_toArray, List.set_cons_zero, List.set_cons_succ])
    | (refine wpQuiet_call (F := 16) (args := #[.agg (arr 52 (cellAt x)), .int .u64 now, .bool ext]) (v := .agg (arr 52 (cellAt (x.ready now ext)))) (gd_want rfl) ?_ (fun w' hm => (refReady_any x now ext _ HX.out).mono fun e w2 ⟨he, hf⟩ => ⟨he, Mem.call hm hf⟩) ?_; (focus (intro w'; go_simp; done)); simp only [Act.put, List.setIfInBounds_toArray, List.set_cons_zero, List.set_cons_succ])
    | (refine wpQuiet_call (F := 17) (args := #[.agg (arr 52 (cellAt x))]) (v := .agg (arr 52 (cellAt x.wait))) (gd_want rfl) ?_ (fun w' hm => (wait_any x _).mono fun e w2 ⟨he, hf⟩ => ⟨he, Mem.call hm hf⟩) ?_; (focus (intro w'; go_simp; done)); simp only [Act.put, List.setIfInBounds_toArray, List.set_cons_zero, List.set_cons_succ])
    | (refine wpQuiet_call (F := 18) (args := #[.agg (arr 52 (cellAt x))]) (v := .agg (arr 52 (cellAt x.wait))) (gd_want rfl) ?_ (fun w' hm => (refWait_any x _).mono fun e w2 ⟨he, hf⟩ => ⟨he, Mem.call hm hf⟩) ?_; (focus (intro w'; go_simp; done)); simp only [Act.put, List.setIfInBounds_toArray, List.set_cons_zero, List.set_cons_succ])
    | (refine wpQuiet_neq_v (gd_want rfl) _ _ _ rfl (x.ready now ext) (x.ready now ext) rfl rfl false hv1.out ?_; simp only [Act.put, List.setIfInBounds_toArray, List.set_cons_zero, List.set_cons_succ])
    | (refine wpQuiet_neq_v (gd_want rfl) _ _ _ rfl x.wait x.wait rfl rfl false hv2.out ?_; simp only [Act.put, List.setIfInBounds_toArray, List.set_cons_zero, List.set_cons_succ])
    | (refine wpQuiet_pure (v := ?_) (gd_want rfl) ?_ ?_; rotate_left; (focus (intro w'; go_simp; try with_reducible rfl)); simp only [Act.put, List.setIfInBounds_toArray, List.set_cons_zero, List.set_cons_succ]))
  refine wpQuiet_nil ?_
  intro w2 hM2
  clear hM
  have HF := Lib.hid hM2.fr
  clear hM2
  have R1 := Lib.hid (HR.out.fr HF.out (fun _ _ h => h))
  go_wp2_with fail
  refine (copied_any A n c l w2 HA.out R1.out HN.out).mono ?_
  rintro e w3 ⟨v, rfl, hV, hF⟩
  obtain ⟨A3, c3, rfl, h1, h2, h3, h4⟩ := id hV
  have hR3 : SlR w3 A3 n l := by
    obtain ⟨_, _, e, _, _, hr⟩ := hV.rd
    cases e; exact hr
  have R3 := Lib.hid hR3
  have A3' := Lib.hid h3
  have F3 := Lib.hid (HF.out.trans hF (fun _ _ h => h))
  clear hV hF h1 h2 h3 h4 hR3
  go_wp2_with fail
  refine (wrote_any A3 n c3 l i gpa w3 A3'.out R3.out HN.out HW.out HG.out).mono ?_
  rintro e w4 ⟨v4, rfl, hV, hF⟩
  obtain ⟨A4, c4, rfl, h1, h2, hr4⟩ := hV.rd
  have R4 := Lib.hid hr4
  have R34 := Lib.hid (R3.out.fr hF (fun _ _ h => h))
  have F4 := Lib.hid (F3.out.trans hF (fun _ _ h => h))
  clear hV hF h1 h2 hr4
  have R14 := Lib.hid (HR.out.fr F4.out (fun _ _ h => h))
  have HS1 := Lib.hid (sameVs_self (n := n) (l := l) (l' := l) (fun _ _ _ _ => rfl))
  have HS2 := Lib.hid (sameVs_self (n := n) (l := wroteL i gpa l) (l' := wroteL i gpa l) (fun _ _ _ _ => rfl))
  go_wp2_with fail
  refine (sameVcpus_any A3 n c3 l A n c l w4 (by unfold maxLen; omega) (by unfold maxLen; omega) R34.out R14.out).mono ?_
  rintro e w5 ⟨he, q, rfl⟩
  rw [HS1.out] at he
  subst he
  have F5 := Lib.hid (F4.out.drewN q)
  have R15 := Lib.hid (HR.out.fr F5.out (fun _ _ h => h))
  go_wp2_with fail
  refine (refWrote_any A n c l i gpa _ HA.out R15.out HN.out HW.out HG.out).mono ?_
  rintro e w6 ⟨v6, rfl, hV, hF⟩
  obtain ⟨A6, c6, rfl, h1, h2, hr6⟩ := hV.rd
  have R46 := Lib.hid (R4.out.fr (((Fr.refl (fun _ => False) w4).drewN q).trans hF (fun _ _ h => h)) (fun _ _ h => h))
  have F6 := Lib.hid (F5.out.trans hF (fun _ _ h => h))
  clear hV hF h1 h2
  go_wp2_with fail
  refine (sameVcpus_any A4 n c4 _ A6 n c6 _ w6 (by unfold maxLen; omega) (by unfold maxLen; omega) R46.out hr6).mono ?_
  rintro e w7 ⟨he, q2, rfl⟩
  rw [HS2.out] at he
  subst he
  go_wp2_with fail
  refine (awake_any _).mono ?_
  rintro e w8 ⟨rfl, hF⟩
  have HF8 := Lib.hid (fr_below ((F6.out.drewN q2).trans hF (fun _ _ h => h)))
  clear hF hr6
  go_wp2_with fail
  go_ret
  exact ⟨rfl, HF8.out⟩
end Go.Proofs.Ytjiolobkobpohaa
