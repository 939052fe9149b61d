/- VcpuCalls: the walk. -/
import Derived.Test.YtjiolobkobpohaaYf
import Derived.Deep.CutBlock
namespace Go.Proofs.Ytjiolobkobpohaa
open Go.RowKit Go.BigFrame

/-- Registers set for a call. -/
def regs (x : V) (kind fn a b c : Nat) : V := ((((x.setU 17 kind).setU 16 fn).setU 10 a).setU 11 b).setU 12 c
theorem Mem.start0 {w w1 : World} {g n : Nat} {l : Nat → V} (hF : Fr (fun _ => False) w w1) (hg : w.heap.size ≤ g) (hok : (Ent.vs g n l).ok w1) : Mem (fun _ => False) w w1 [.vs g n l] := Mem.start hF hg hok
set_option maxRecDepth 100000 in
set_option maxHeartbeats 4000000 in
theorem calls_walk (A : Option Addr) (n c : Nat) (l : Nat → V) (i : Int) (kind fn a b d : Nat) (w : World) (hA : A = none → n = 0) (hR : SlR w A n l) (hn : n * 368 ≤ 140737488355328) (hw : ∀ k, k < n → (l k).Wf)
    (h1 : kind < 18446744073709551616) (h2 : fn < 18446744073709551616) (h3 : a < 18446744073709551616) (h4 : b < 18446744073709551616) (h5 : d < 18446744073709551616) :
    Calls Try.prog 5 #[.slice A n c, .int .i64 i, .int .u64 kind, .int .u64 fn, .int .u64 a, .int .u64 b, .int .u64 d] w fun e w' => e = .returned (.bool true) ∧ Below w.heap.size w w' := by
  have hnb := len_small hn
  have HA := Lib.hid hA
  have HR := Lib.hid hR
  have HN := Lib.hid hn
  have HW := Lib.hid hw
  have B1 := Lib.hid h1
  have B2 := Lib.hid h2
  have B3 := Lib.hid h3
  have B4 := Lib.hid h4
  have B5 := Lib.hid h5
  clear hA hR hn hw h1 h2 h3 h4 h5
  go_enter Try.func5, Try.ntmps5
  go_wp2_with fail
  refine (copied_any A n c l w HA.out HR.out HN.out).mono ?_
  rintro e w1 ⟨v1, rfl, hV, hF⟩
  obtain ⟨A1, c1, rfl, hc, hc2, hA1, hg1⟩ := id hV
  have HA1 := Lib.hid hA1
  have HG1 := Lib.hid hg1
  have HV := Lib.hid hV
  have HF := Lib.hid hF
  clear hV hF hc hc2 hA1 hg1
  go_upto_region 2 with fail
  go_cut [32] from 25 to 32 (fun t wc => t = .bool (decide (0 ≤ i ∧ i < (n : Int))) ∧ wc = w1)
  case first =>
    by_cases hi0 : 0 ≤ i
    · by_cases hj : i < (n : Int)
      · have hz : Hid (decide (0 ≤ i ∧ i < (n : Int)) = true) := by show _ = _; simp [hi0, hj]
        go_wp2_with (first | go_skip)
        go_meet
        exact ⟨by rw [hz.out], rfl⟩
      · have hz : Hid (decide (0 ≤ i ∧ i < (n : Int)) = false) := by show _ = _; simp [hj]
        have hj' : decide (i < (n : Int)) = false := by simp; omega
        clear hj
        go_wp2_with (first | go_skip)
        go_meet
        exact ⟨by rw [hz.out], rfl⟩
    · have hz : Hid (decide (0 ≤ i ∧ i < (n : Int)) = false) := by show _ = _; simp [hi0]
      have hi' : decide (0 ≤ i) = false := by simp; omega
      clear hi0
      go_wp2_with (first | go_skip)
      go_meet
      exact ⟨by rw [hz.out], rfl⟩
  case rest =>
  obtain ⟨rfl, rfl⟩ := hcut
  obtain ⟨bi, hbi⟩ : ∃ b, decide (0 ≤ i ∧ i < (n : Int)) = b := ⟨_, rfl⟩
  rw [hbi]
  have HBI := Lib.hid hbi
  clear hbi
  go_upto_if 32 with fail
  go_cut [] from 33 to 67 (fun wc => ∃ l2 : Nat → V, (∀ k, k < n → (l2 k).Wf) ∧ SlR wc A1 n l2 ∧ Fr (fun _ => False) w wc)
  case first =>
    cases bi with
    | true =>
      have hr := of_decide_eq_true HBI.out
      obtain ⟨j, rfl⟩ := Int.eq_ofNat_of_zero_le hr.1
      have hj : j < n := by omega
      clear hr
      obtain ⟨g, rfl, hg, hok⟩ := HG1.out (by omega)
      have hM := Mem.start0 HF.out hg hok
      have z1 : Hid (upd (cellAt (l j)) 17 (.int .u64 (kind : Int)) = cellAt ((l j).setU 17 kind)) := upd_cellU _ _ _ rfl
      have z2 : Hid (upd (cellAt (upd l j ((l j).setU 17 kind) j)) 16 (.int .u64 (fn : Int)) = cellAt (((l j).setU 17 kind).setU 16 fn)) := by show _ = _; rw [upd_same]; exact upd_cellU _ _ _ rfl
      have z3 : Hid (upd (cellAt (upd l j (((l j).setU 17 kind).setU 16 fn) j)) 10 (.int .u64 (a : Int)) = cellAt ((((l j).setU 17 kind).setU 16 fn).setU 10 a)) := by show _ = _; rw [upd_same]; exact upd_cellU _ _ _ rfl
      have z4 : Hid (upd (cellAt (upd l j ((((l j).setU 17 kind).setU 16 fn).setU 10 a) j)) 11 (.int .u64 (b : Int)) = cellAt (((((l j).setU 17 kind).setU 16 fn).setU 10 a).setU 11 b)) := by show _ = _; rw [upd_same]; exact upd_cellU _ _ _ rfl
      have z5 : Hid (upd (cellAt (upd l j (((((l j).setU 17 kind).setU 16 fn).setU 10 a).setU 11 b) j)) 12 (.int .u64 (d : Int)) = cellAt (regs (l j) kind fn a b d)) := by show _ = _; rw [upd_same]; exact upd_cellU _ _ _ rfl
      go_wp2_with (first
        | go_skip
        | (refine wpList_put_vs (gd_none rfl) 22 _ _ rfl 0 g n _ hM rfl j 17 _ rfl (by first | rfl | omega) hj (by omega) (.int .u64 (kind : Nat)) rfl Try.info22 (((l j).setU 17 kind)) (z1.out) ?_; clear hM; intro wp hwp hM; dsimp only [List.set_cons_zero, List.set_cons_succ] at hM; try simp only [updV_twice] at hM)
        | (refine wpList_put_vs (gd_none rfl) 22 _ _ rfl 0 g n _ hM rfl j 16 _ rfl (by first | rfl | omega) hj (by omega) (.int .u64 (fn : Nat)) rfl Try.info22 ((((l j).setU 17 kind).setU 16 fn)) (z2.out) ?_; clear hM; intro wp hwp hM; dsimp only [List.set_cons_zero, List.set_cons_succ] at hM; try simp only [updV_twice] at hM)
        | (refine wpList_put_vs (gd_none rfl) 22 _ _ rfl 0 g n _ hM rfl j 10 _ rfl (by first | rfl | omega) hj (by omega) (.int .u64 (a : Nat)) rfl Try.info22 (((((l j).setU 17 kind).setU 16 fn).setU 10 a)) (z3.out) ?_; clear hM; intro wp hwp hM; dsimp only [List.set_cons_zero, List.set_cons_succ] at hM; try simp only [updV_twice] at hM)
        | (refine wpList_put_vs (gd_none rfl) 22 _ _ rfl 0 g n _ hM rfl j 11 _ rfl (by first | rfl | omega) hj (by omega) (.int .u64 (b : Nat)) rfl Try.info22 ((((((l j).setU 17 kind).setU 16 fn).setU 10 a).setU 11 b)) (z4.out) ?_; clear hM; intro wp hwp hM; dsimp only [List.set_cons_zero, List.set_cons_succ] at hM; try simp only [updV_twice] at hM)
        | (refine wpList_put_vs (gd_none rfl) 22 _ _ rfl 0 g n _ hM rfl j 12 _ rfl (by first | rfl | omega) hj (by omega) (.int .u64 (d : Nat)) rfl Try.info22 ((regs (l j) kind fn a b d)) (z5.out) ?_; clear hM; intro wp hwp hM; dsimp only [List.set_cons_zero, List.set_cons_succ] at hM; try simp only [updV_twice] at hM))
      go_meet
      refine ⟨upd l j (regs (l j) kind fn a b d), fun k hk => ?_, fun _ => ⟨g, 0, rfl, hM.rd 0 rfl⟩, hM.fr⟩
      unfold upd
      split
      · rename_i he
        subst he
        exact (((((HW.out k hk).setU 17 _ B1.out).setU 16 _ B2.out).setU 10 _ B3.out).setU 11 _ B4.out).setU 12 _ B5.out
      · exact HW.out k hk
    | false =>
      go_wp2_with (first | go_skip)
      go_meet
      exact ⟨l, HW.out, by obtain ⟨_, _, e, _, _, hr⟩ := HV.out.rd; cases e; exact hr, HF.out⟩
  case rest =>
    obtain ⟨l2, hw2, hr2, hf2⟩ := hcut
    have HW2 := Lib.hid hw2
    have HR2 := Lib.hid hr2
    have HF2 := Lib.hid hf2
    obtain ⟨M, hM⟩ : ∃ M, callL l2 n i = M := ⟨_, rfl⟩
    obtain ⟨bs, hbs⟩ : ∃ M, callB l2 n i = M := ⟨_, rfl⟩
    obtain ⟨dn, hdn⟩ : ∃ M, callD l2 n i = M := ⟨_, rfl⟩
    have C1 := fun w hR => call_any A1 n c1 l2 i w HA1.out hR HN.out hw2
    have C2 := fun w hR => refCall_any A1 n c1 l2 i w HA1.out hR HN.out hw2
    rw [hM, hbs, hdn] at C1 C2
    have C1 := Lib.hid C1
    have C2 := Lib.hid C2
    have HS1 := Lib.hid (sameVs_self (n := n) (l := l2) (l' := l2) (fun _ _ _ _ => rfl))
    have HS2 := Lib.hid (sameVs_self (n := n) (l := M) (l' := M) (fun _ _ _ _ => rfl))
    clear hw2 hr2 hf2 hM hbs hdn
    go_wp2_with fail
    refine (copied_any A1 n c1 l2 wc HA1.out HR2.out HN.out).mono ?_
    rintro e w3 ⟨v3, rfl, hV, hF⟩
    obtain ⟨A3, c3, rfl, _, _, hr3⟩ := hV.rd
    have R3 := Lib.hid hr3
    have R2 := Lib.hid (HR2.out.fr hF (fun _ _ h => h))
    have F3 := Lib.hid (HF2.out.trans hF (fun _ _ h => h))
    clear hV hF hr3
    go_wp2_with fail
    refine (C1.out w3 R2.out).mono ?_
    intro e w4 hp
    obtain ⟨v4, o4, rfl, hV, ho, hF⟩ := hp.open
    obtain ⟨A4, c4, rfl, _, _, hr4⟩ := hV.rd
    have R4 := Lib.hid hr4
    have O4 := Lib.hid ho
    have R2 := Lib.hid (R2.out.fr hF (fun _ _ h => h))
    have R3 := Lib.hid (R3.out.fr hF (fun _ _ h => h))
    have F4 := Lib.hid (F3.out.trans hF (fun _ _ h => h))
    clear hp hV ho hF hr4
    go_wp2_with fail
    refine (C2.out w4 R2.out).mono ?_
    intro e w5 hp
    obtain ⟨v5, o5, rfl, hV, ho, hF⟩ := hp.open
    obtain ⟨A5, c5, rfl, _, _, hr5⟩ := hV.rd
    have R4 := Lib.hid (R4.out.fr hF (fun _ _ h => h))
    have O4 := Lib.hid (O4.out.fr hF)
    have O5 := Lib.hid ho
    have R2 := Lib.hid (R2.out.fr hF (fun _ _ h => h))
    have R3 := Lib.hid (R3.out.fr hF (fun _ _ h => h))
    have F5 := Lib.hid (F4.out.trans hF (fun _ _ h => h))
    clear hp hV ho hF
    go_wp2_with fail
    refine (sameVcpus_any A4 n c4 M A5 n c5 M w5 (by unfold maxLen; omega) (by unfold maxLen; omega) R4.out hr5).mono ?_
    rintro e w6 ⟨he, q, rfl⟩
    rw [HS2.out] at he
    subst he
    clear hr5
    have fq := (Fr.refl (fun _ => False) w5).drewN q
    have R2 := Lib.hid (R2.out.fr fq (fun _ _ h => h))
    have R3 := Lib.hid (R3.out.fr fq (fun _ _ h => h))
    have O4 := Lib.hid (O4.out.fr fq)
    have O5 := Lib.hid (O5.out.fr fq)
    have F6 := Lib.hid (F5.out.trans fq (fun _ _ h => h))
    clear fq
    go_wp2_with fail
    refine (sameBytes_any O4.out O5.out).mono ?_
    rintro e w7 ⟨rfl, q2, rfl⟩
    have fq := (Fr.refl (fun _ => False) (w5.drewN q)).drewN q2
    rw [World.drewN_drewN] at fq
    have R2 := Lib.hid (R2.out.fr fq (fun _ _ h => h))
    have R3 := Lib.hid (R3.out.fr fq (fun _ _ h => h))
    have F7 := Lib.hid (F6.out.trans fq (fun _ _ h => h))
    clear fq
    have hdd : (dn == dn) = true := by simp
    go_wp2_with fail
    refine (sameVcpus_any A1 n c1 l2 A3 n c3 l2 _ (by unfold maxLen; omega) (by unfold maxLen; omega) R2.out R3.out).mono ?_
    rintro e w8 ⟨he, q3, rfl⟩
    rw [HS1.out] at he
    subst he
    have f8 := F7.out.drewN q3
    rw [World.drewN_drewN] at f8
    have F8 := Lib.hid f8
    clear f8
    go_wp2_with fail
    refine (awake_any _).mono ?_
    rintro e w9 ⟨rfl, hF⟩
    have HF9 := Lib.hid (fr_below (F8.out.trans hF (fun _ _ h => h)))
    clear hF
    go_wp2_with fail
    go_ret
    exact ⟨rfl, HF9.out⟩
end Go.Proofs.Ytjiolobkobpohaa
