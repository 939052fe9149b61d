/- VcpuAlone: the walk. -/
import Derived.Test.YtjiolobkobpohaaAA
import Derived.Deep.CutBlock
import Derived.Deep.CutRange
namespace Go.Proofs.Ytjiolobkobpohaa
open Go.RowKit Go.BigFrame

inductive AloneSt (u17 u16 : Nat) (v y : V) (dn : Bool) : Bool → Prop
  | started : AloneSt u17 u16 v y dn true
  | sent (h1 : u17 = 7557193) (h2 : u16 = 0) (h3 : y = v.setU 46 (v.u 46 ||| 2)) : AloneSt u17 u16 v y dn false
  | ended (h1 : u17 = 1397904212) (h2 : dn = true) (h3 : y = v.setI 0) : AloneSt u17 u16 v y dn false
def CutSt (u17 u16 : Nat) (v y : V) (dn : Bool) (w : World) (s : Value) (wc : World) : Prop := wc = w ∧ ∃ st, s = .bool st ∧ AloneSt u17 u16 v y dn st
set_option maxRecDepth 100000 in
set_option maxHeartbeats 4000000 in
theorem alone_no (A : Option Addr) (n c : Nat) (l : Nat → V) (i : Int) (w : World) (hA : A = none → n = 0) (hR : SlR w A n l) (hn : n * 368 ≤ 140737488355328) (hw : ∀ k, k < n → (l k).Wf) (hi : ¬ (0 ≤ i ∧ i < (n : Int))) :
    Calls Try.prog 6 #[.slice A n c, .int .i64 i] w fun e w' => e = .returned (.bool true) ∧ Below w.heap.size w w' := by
  have hnb := len_small hn
  have HA := Lib.hid hA
  have HR := Lib.hid hR
  have HN := Lib.hid hn
  have HW := Lib.hid hw
  have C1 := fun w A c hA hR => call_any A n c l i w hA hR hn hw
  rw [callL_out l n i hi, callB_out l n i hi, callD_out l n i hi] at C1
  have C1 := Lib.hid C1
  have HS1 := Lib.hid (sameVs_self (n := n) (l := l) (l' := l) (fun _ _ _ _ => rfl))
  have hlt : decide (i < 0) = true ∨ (decide (i < 0) = false ∧ decide ((n : Int) ≤ i) = true) := by
    by_cases h0 : i < 0
    · exact .inl (by simpa using h0)
    · exact .inr ⟨by simpa using h0, by simp; omega⟩
  clear hA hR hn hw hi
  rcases hlt with h0 | ⟨h0, h1⟩
  all_goals
    go_enter Try.func6, Try.ntmps6
    go_wp2_with (first | go_skip)
    refine (copied_any A n c l _ HA.out HR.out HN.out).mono ?_
    rintro e w1 ⟨v1, rfl, hV, hF⟩
    obtain ⟨A1, c1, rfl, hc, hc2, hA1, hg1⟩ := id hV
    have hR1 : SlR w1 A1 n l := by obtain ⟨_, _, e, _, _, hr⟩ := hV.rd; cases e; exact hr
    have R1 := Lib.hid hR1
    have HA1 := Lib.hid hA1
    have F1 := Lib.hid hF
    clear hV hF hc hc2 hA1 hg1 hR1
    go_wp2_with fail
    refine (C1.out w1 A1 c1 HA1.out R1.out).mono ?_
    intro e w4 hp
    obtain ⟨v4, o4, rfl, hV, ho, hF⟩ := hp.open
    obtain ⟨A4, c4, rfl, _, _, hr4⟩ := hV.rd
    obtain rfl := ho.nil
    have R4 := Lib.hid hr4
    have F4 := Lib.hid (F1.out.trans hF (fun _ _ h => h))
    have R0 := Lib.hid (HR.out.fr F4.out (fun _ _ h => h))
    clear hp hV ho hF hr4
    go_wp2_with fail
    refine (sameVcpus_any A4 n c4 l A n c l w4 (by unfold maxLen; omega) (by unfold maxLen; omega) R4.out R0.out).mono ?_
    rintro e w6 ⟨he, q, rfl⟩
    rw [HS1.out] at he
    subst he
    go_wp2_with (first | go_skip)
    refine (awake_any _).mono ?_
    rintro e w9 ⟨rfl, hF⟩
    have HF9 := Lib.hid (fr_below ((F4.out.drewN q).trans hF (fun _ _ h => h)))
    clear hF
    go_wp2_with fail
    go_ret
    exact ⟨rfl, HF9.out⟩

set_option maxRecDepth 100000 in
set_option maxHeartbeats 20000000 in
theorem alone_yes (A : Option Addr) (n c : Nat) (l : Nat → V) (i : Nat) (w : World) (hA : A = none → n = 0) (hR : SlR w A n l) (hn : n * 368 ≤ 140737488355328) (hw : ∀ k, k < n → (l k).Wf) (hi : i < n) :
    Calls Try.prog 6 #[.slice A n c, .int .i64 i] w fun e w' => e = .returned (.bool true) ∧ Below w.heap.size w w' := by
  have hnb := len_small hn
  obtain ⟨b, off, rfl, hRd⟩ := hR (by omega)
  have hR : SlR w (some ⟨b, off, none⟩) n l := fun _ => ⟨b, off, rfl, hRd⟩
  have HA := Lib.hid hA
  have HR := Lib.hid hR
  have HRd := Lib.hid hRd
  have HN := Lib.hid hn
  have HW := Lib.hid hw
  have h0 : decide ((i : Int) < 0) = false := by simp
  have h1 : decide (n ≤ i) = false := by simp; omega
  have C1 := fun w A c hA hR => call_any A n c l i w hA hR hn hw
  have hbc := fun k hk hne => became l n i k hi hk hne
  obtain ⟨M, hM⟩ : ∃ M, callL l n i = M := ⟨_, rfl⟩
  obtain ⟨bs, hbs⟩ : ∃ M, callB l n i = M := ⟨_, rfl⟩
  obtain ⟨dn, hdn⟩ : ∃ M, callD l n i = M := ⟨_, rfl⟩
  rw [hM, hbs, hdn] at C1
  rw [hM, hdn] at hbc
  have C1 := Lib.hid C1
  have HBC := Lib.hid hbc
  clear hA hR hRd hn hw hM hbs hdn hbc
  go_enter Try.func6, Try.ntmps6
  go_wp2_with (first | go_skip)
  refine (copied_any _ n c l _ HA.out HR.out HN.out).mono ?_
  rintro e w1 ⟨v1, rfl, hV, hF⟩
  obtain ⟨A1, c1, rfl, hc, hc2, hA1, hg1⟩ := id hV
  have hR1 : SlR w1 A1 n l := by obtain ⟨_, _, e, _, _, hr⟩ := hV.rd; cases e; exact hr
  have R1 := Lib.hid hR1
  have HA1 := Lib.hid hA1
  have F1 := Lib.hid hF
  clear hV hF hc hc2 hA1 hg1 hR1
  go_wp2_with fail
  refine (C1.out w1 A1 c1 HA1.out R1.out).mono ?_
  intro e w4 hp
  obtain ⟨v4, o4, rfl, hV, ho, hF⟩ := hp.open
  obtain ⟨A4, c4, rfl, _, _, _, hg4⟩ := hV
  obtain ⟨gx, rfl, hgx, hok⟩ := hg4 (by omega)
  have F4 := F1.out.trans hF (fun _ _ h => h)
  have hM := Mem.start F4 (Nat.le_trans F1.out.size hgx) hok
  have R4 := HRd.out.fr F4 (fun _ h => h)
  clear hp ho hF hg4 hok F4 R1 F1 HA1 C1
  go_wp2_with (first
    | go_skip
    | (refine wpList_load_rd (gd_none rfl) 30 _ rfl b off n l R4 i _ 49 rfl (by first | rfl | omega) hi (by omega) _ Try.underlying30 rfl Try.info30 ?_)
    | (refine wpList_alloc_fn (gd_none rfl) 30 rfl 49 _ Try.zero30 hM ?_; clear hM; intro wh gh hgh hlh hM; dsimp only [List.nil_append, List.cons_append] at hM)
    | (refine wpList_store_all (gd_none rfl) 30 _ _ rfl 1 gh 30 49 _ hM rfl rfl _ rfl Try.info30 (fun j _ => cell_one _ j) ?_; clear hM; intro ws hws hM; dsimp only [List.set_cons_zero, List.set_cons_succ] at hM))
  go_loopw [12] (fun t wr => ∃ k : Nat, k ≤ n ∧ t = .int .i64 k ∧ Mem (fun _ => False) w wr [.vs gx n M, .fn gh 30 49 (cellAt (l i))]) (fun t _ => n - (intOf t).toNat)
  case atStart => exact ⟨0, Nat.zero_le _, rfl, hM⟩
  case round =>
    clear hM R4
    obtain ⟨k, hk, rfl, hM⟩ := hrel
    by_cases hlt : k < n
    · have R5 := HRd.out.fr hM.fr (fun _ h => h)
      have WK := Lib.hid (HW.out k hlt)
      have hbk := fun hne => HBC.out k hlt hne
      obtain ⟨x, hx⟩ : ∃ x, l k = x := ⟨_, rfl⟩
      obtain ⟨y, hy⟩ : ∃ y, M k = y := ⟨_, rfl⟩
      have HXk : Hid (cellAt (l k) = cellAt x) := by show _ = _; rw [hx]
      rw [hx] at WK hbk
      rw [hy] at hbk
      have HY := Lib.hid hy
      have HBK := Lib.hid hbk
      clear hx hy hbk
      have tok : True := trivial
      go_upto_region 12 with (first | (refine wpList_load_rd (gd_none rfl) 32 _ rfl b off n l R5 k _ 52 rfl (by first | rfl | omega) hlt (by omega) _ Try.underlying32 rfl Try.info32 ?_; rw [HXk.out]) | (refine wpList_alloc_fn (gd_none rfl) 32 rfl 52 _ Try.zero32 hM ?_; clear hM; intro wv gv hgv hlv hM; dsimp only [List.nil_append, List.cons_append] at hM) | (refine wpList_store_all (gd_none rfl) 32 _ _ rfl 2 gv 32 52 _ hM rfl rfl _ rfl Try.info32 (fun j _ => cell_one _ j) ?_; clear hM; intro ws hws hM; dsimp only [List.set_cons_zero, List.set_cons_succ] at hM))
      go_upto_region 13 with (first | (refine wpList_load_head (gd_none rfl) 30 _ rfl 2 gv 32 52 _ hM rfl 49 rfl _ Try.underlying30 rfl Try.info30 (by omega) ?_) | (go_at_call 25; refine (refOrder_any x _ WK.out).mono ?_; rintro e w' ⟨rfl, hf⟩; replace hM := hM.call hf) | (refine wpList_store_h (gd_none rfl) 30 _ _ rfl 2 gv 32 _ hM rfl rfl _ rfl Try.info30 ?_; clear hM; intro ws hws hM; dsimp only [List.set_cons_zero, List.set_cons_succ] at hM; rw [withH_ord] at hM))
      obtain ⟨v, hv⟩ : ∃ v, x.ord = v := ⟨_, rfl⟩
      rw [hv] at hM HBK
      have wv : v.Wf := by rw [← hv]; exact ord_wf WK.out
      have WV := Lib.hid wv
      clear hv wv R5
      by_cases hki : k = i
      · have hkb : ((k : Int) == (i : Int)) = true := by simp [hki]
        try dsimp only [Act.put]
        refine wp_region_quiet (C := fun w' => Mem (fun _ => False) w w' ([.vs gx n M, .fn gh 30 49 (cellAt (l i)), .fn gv 32 52 (cellAt v)])) (by kernel_rfl) (by kernel_rfl) (hM).drew ?_
        dsimp only
        repeat (first
          | go_big_quiet_skip
          | (refine wpQuiet_load_vs (gd_want rfl) 32 _ rfl 0 gx n M rfl k _ 52 rfl (by first | rfl | omega) hlt (by omega) _ Try.underlying32 rfl Try.info32 ?_; rw [HY.out]; simp only [Act.put, List.setIfInBounds_toArray, List.set_cons_zero, List.set_cons_succ])
          | (refine wpQuiet_load_all (gd_want rfl) 32 _ rfl 2 gv 32 52 _ rfl rfl _ Try.underlying32 rfl Try.info32 ?_; simp only [Act.put, List.setIfInBounds_toArray, List.set_cons_zero, List.set_cons_succ])
          | (refine wpQuiet_pure (v := ?_) (gd_want rfl) ?_ ?_; rotate_left; (focus (intro w'; go_simp; try with_reducible rfl)); simp only [Act.put, List.setIfInBounds_toArray, List.set_cons_zero, List.set_cons_succ]))
        refine wpQuiet_nil ?_
        intro wq hMq
        clear hM
        have hM := hMq
        clear hMq
        go_wp2_with (first | go_skip)
        have hM3 := Lib.hid (hM.weak (L' := [.vs gx n M, .fn gh 30 49 (cellAt (l i))]) (List.sublist_append_left [Ent.vs gx n M, Ent.fn gh 30 49 (cellAt (l i))] _))
        go_roundw
        case rel => exact ⟨k + 1, by omega, by go_num, hM3.out⟩
        case measure => simp [intOf]; omega
      have hkb : ((k : Int) == (i : Int)) = false := by simp; omega
      have HB := Lib.hid (HBK.out hki)
      clear hki HBK
      cases hsv : sameV y v with
      | true =>
        have HSV := Lib.hid hsv
        clear hsv
        try dsimp only [Act.put]
        refine wp_region_quiet (C := fun w' => Mem (fun _ => False) w w' ([.vs gx n M, .fn gh 30 49 (cellAt (l i)), .fn gv 32 52 (cellAt v)])) (by kernel_rfl) (by kernel_rfl) (hM).drew ?_
        dsimp only
        repeat (first
          | go_big_quiet_skip
          | (refine wpQuiet_load_vs (gd_want rfl) 32 _ rfl 0 gx n M rfl k _ 52 rfl (by first | rfl | omega) hlt (by omega) _ Try.underlying32 rfl Try.info32 ?_; rw [HY.out]; simp only [Act.put, List.setIfInBounds_toArray, List.set_cons_zero, List.set_cons_succ])
          | (refine wpQuiet_load_all (gd_want rfl) 32 _ rfl 2 gv 32 52 _ rfl rfl _ Try.underlying32 rfl Try.info32 ?_; simp only [Act.put, List.setIfInBounds_toArray, List.set_cons_zero, List.set_cons_succ])
          | (refine wpQuiet_eql_v (gd_want rfl) _ _ _ rfl y v rfl rfl true HSV.out ?_; simp only [Act.put, List.setIfInBounds_toArray, List.set_cons_zero, List.set_cons_succ])
          | (refine wpQuiet_pure (v := ?_) (gd_want rfl) ?_ ?_; rotate_left; (focus (intro w'; go_simp; try with_reducible rfl)); simp only [Act.put, List.setIfInBounds_toArray, List.set_cons_zero, List.set_cons_succ]))
        refine wpQuiet_nil ?_
        intro wq hMq
        clear hM
        have hM := hMq
        clear hMq
        go_wp2_with (first | go_skip)
        have hM3 := Lib.hid (hM.weak (L' := [.vs gx n M, .fn gh 30 49 (cellAt (l i))]) (List.sublist_append_left [Ent.vs gx n M, Ent.fn gh 30 49 (cellAt (l i))] _))
        go_roundw
        case rel => exact ⟨k + 1, by omega, by go_num, hM3.out⟩
        case measure => simp [intOf]; omega
      | false =>
        have HSV := Lib.hid hsv
        clear hsv
        try dsimp only [Act.put]
        refine wp_region_quiet (C := fun w' => Mem (fun _ => False) w w' ([.vs gx n M, .fn gh 30 49 (cellAt (l i)), .fn gv 32 52 (cellAt v)])) (by kernel_rfl) (by kernel_rfl) (hM).drew ?_
        dsimp only
        repeat (first
          | go_big_quiet_skip
          | (refine wpQuiet_load_vs (gd_want rfl) 32 _ rfl 0 gx n M rfl k _ 52 rfl (by first | rfl | omega) hlt (by omega) _ Try.underlying32 rfl Try.info32 ?_; rw [HY.out]; simp only [Act.put, List.setIfInBounds_toArray, List.set_cons_zero, List.set_cons_succ])
          | (refine wpQuiet_load_all (gd_want rfl) 32 _ rfl 2 gv 32 52 _ rfl rfl _ Try.underlying32 rfl Try.info32 ?_; simp only [Act.put, List.setIfInBounds_toArray, List.set_cons_zero, List.set_cons_succ])
          | (refine wpQuiet_eql_v (gd_want rfl) _ _ _ rfl y v rfl rfl false HSV.out ?_; simp only [Act.put, List.setIfInBounds_toArray, List.set_cons_zero, List.set_cons_succ])
          | (refine wpQuiet_pure (v := ?_) (gd_want rfl) ?_ ?_; rotate_left; (focus (intro w'; go_simp; try with_reducible rfl)); simp only [Act.put, List.setIfInBounds_toArray, List.set_cons_zero, List.set_cons_succ]))
        refine wpQuiet_nil ?_
        intro wq hMq
        clear hM
        have hM := hMq
        clear hMq
        obtain ⟨s, hs⟩ : ∃ s, v.u 46 = s := ⟨_, rfl⟩
        have ls : s < 18446744073709551616 := by rw [← hs]; exact WV.out.u 46
        obtain ⟨s2, hs2⟩ : ∃ s2, s ||| 2 = s2 := ⟨_, rfl⟩
        have es : bits .or .u64 (s : Int) 2 = s2 := by rw [← hs2]; exact u64_or_nat s 2 ls (by omega)
        have HS : Hid (cellAt v 46 = .int .u64 (s : Int)) := by show _ = _; rw [← hs]; rfl
        have HS2 : Hid (v.setU 46 (v.u 46 ||| 2) = v.setU 46 s2) := by show _ = _; rw [hs, hs2]
        have ek : IntKind.u64.wrap (k : Int) = k := by rw [IntKind.wrap_u64]; omega
        clear hs hs2 ls
        go_upto_region 14 with fail
        go_cut [14] from 91 to 121 (fun s wc => CutSt ((l i).u 17) ((l i).u 16) v y dn wq s wc)
        case first =>
          rcases HB.out with h | ⟨h1, h2, h3, h4, h5⟩ | ⟨h1, h2, h3⟩ | ⟨h1, h2, h3⟩
          · exfalso
            have := HSV.out
            rw [h, sameV_self] at this
            cases this
          · have H1 := Lib.hid h1
            have H2 := Lib.hid h2
            have H3 := Lib.hid h3
            have H4 : Hid (cellAt v 49 = .int .i64 0) := by show _ = _; rw [← h4]; rfl
            have H5 : Hid (cellAt (M k) 49 = .int .i64 1) := by show _ = _; rw [HY.out, ← h5]; rfl
            clear h1 h2 h3 h4 h5
            go_wp2_with (first | go_skip | (refine wpList_cell_fn (gd_want rfl) 22 _ rfl 1 gh 30 49 _ hM rfl 17 rfl _ Try.underlying22 rfl (by omega) (.int .u64 (4739917 : Nat)) (congrArg (fun n : Nat => Value.int .u64 (n : Int)) H1.out) ?_) | (refine wpList_cell_fn (gd_want rfl) 22 _ rfl 1 gh 30 49 _ hM rfl 16 rfl _ Try.underlying22 rfl (by omega) (.int .u64 (0 : Nat)) (congrArg (fun n : Nat => Value.int .u64 (n : Int)) H2.out) ?_) | (refine wpList_cell_fn (gd_want rfl) 22 _ rfl 1 gh 30 49 _ hM rfl 10 rfl _ Try.underlying22 rfl (by omega) (.int .u64 (k : Nat)) (congrArg (fun n : Nat => Value.int .u64 (n : Int)) H3.out) ?_) | (refine wpList_cell_fn (gd_want rfl) 3 _ rfl 2 gv 32 52 _ hM rfl 49 rfl _ Try.underlying3 rfl (by omega) (.int .i64 0) H4.out ?_) | (refine wpList_cell_vs (gd_want rfl) 3 _ rfl 0 gx n M hM rfl k 49 _ rfl (by first | rfl | omega) hlt (by omega) _ Try.underlying3 rfl (.int .i64 1) H5.out ?_))
            go_meet
            exact ⟨rfl, _, rfl, .started⟩
          · have H1 := Lib.hid h1
            have H2 := Lib.hid h2
            have H3 := Lib.hid h3
            clear h1 h2 h3
            go_wp2_with (first | go_skip | (refine wpList_cell_fn (gd_want rfl) 22 _ rfl 1 gh 30 49 _ hM rfl 17 rfl _ Try.underlying22 rfl (by omega) (.int .u64 (7557193 : Nat)) (congrArg (fun n : Nat => Value.int .u64 (n : Int)) H1.out) ?_))
            go_meet
            exact ⟨rfl, _, rfl, .sent H1.out H2.out H3.out⟩
          · have H1 := Lib.hid h1
            have H2 := Lib.hid h2
            have H3 := Lib.hid h3
            clear h1 h2 h3
            go_wp2_with (first | go_skip | (refine wpList_cell_fn (gd_want rfl) 22 _ rfl 1 gh 30 49 _ hM rfl 17 rfl _ Try.underlying22 rfl (by omega) (.int .u64 (1397904212 : Nat)) (congrArg (fun n : Nat => Value.int .u64 (n : Int)) H1.out) ?_))
            go_meet
            exact ⟨rfl, _, rfl, .ended H1.out H2.out H3.out⟩
        case rest =>
          obtain ⟨rfl, st, rfl, hst⟩ := hcut
          have HST := Lib.hid hst
          clear hst
          go_upto_region 15 with fail
          go_upto_region 16 with (first | (refine wpList_load_all (gd_none rfl) 32 _ rfl 2 gv 32 52 _ hM rfl rfl _ Try.underlying32 rfl Try.info32 ?_) | (have _t := tok; refine wpList_alloc_fn (gd_none rfl) 32 rfl 52 _ Try.zero32 hM ?_; clear hM; clear tok _t; intro wa ga hga hla hM; dsimp only [List.nil_append, List.cons_append] at hM) | (refine wpList_alloc_fn (gd_none rfl) 32 rfl 52 _ Try.zero32 hM ?_; clear hM; intro wb gb hgb hlb hM; dsimp only [List.nil_append, List.cons_append] at hM) | (refine wpList_store_all (gd_none rfl) 32 _ _ rfl 3 ga 32 52 _ hM rfl rfl (cellAt v) rfl Try.info32 (fun j _ => cell_one _ j) ?_; clear hM; intro ws hws hM; dsimp only [List.set_cons_zero, List.set_cons_succ] at hM))
          go_upto_region 17 with (first | (refine wpList_cell_fn (gd_none rfl) 22 _ rfl 3 ga 32 52 _ hM rfl 46 rfl _ Try.underlying22 rfl (by omega) (.int .u64 (s : Nat)) (HS.out) ?_) | (refine wpList_put_fn (gd_none rfl) 22 _ _ rfl 3 ga 32 52 _ hM rfl 46 rfl (.int .u64 (s2 : Nat)) rfl Try.info22 (by omega) rfl ?_; clear hM; intro wp hwp hM; dsimp only [List.set_cons_zero, List.set_cons_succ] at hM; simp only [upd_cellU _ _ _ (show kd 46 = .u from rfl)] at hM))
          go_upto_region 18 with (first | (refine wpList_load_all (gd_none rfl) 32 _ rfl 2 gv 32 52 _ hM rfl rfl _ Try.underlying32 rfl Try.info32 ?_) | (refine wpList_alloc_fn (gd_none rfl) 32 rfl 52 _ Try.zero32 hM ?_; clear hM; intro wb gb hgb hlb hM; dsimp only [List.nil_append, List.cons_append] at hM) | (refine wpList_store_all (gd_none rfl) 32 _ _ rfl 4 gb 32 52 _ hM rfl rfl (cellAt v) rfl Try.info32 (fun j _ => cell_one _ j) ?_; clear hM; intro ws hws hM; dsimp only [List.set_cons_zero, List.set_cons_succ] at hM))
          go_upto_region 19 with (first | (refine wpList_put_fn (gd_none rfl) 3 _ _ rfl 4 gb 32 52 _ hM rfl 49 rfl (.int .i64 0) rfl Try.info3 (by omega) rfl ?_; clear hM; intro wp hwp hM; dsimp only [List.set_cons_zero, List.set_cons_succ] at hM; simp only [upd_cellI _ _ _ (show kd 49 = .i from rfl)] at hM))
          cases HST.out with
          | started =>
            try dsimp only [Act.put]
            refine wp_region_quiet (C := fun w' => Mem (fun _ => False) w w' ([.vs gx n M, .fn gh 30 49 (cellAt (l i)), .fn gv 32 52 (cellAt v), .fn ga 32 52 (cellAt (v.setU 46 s2)), .fn gb 32 52 (cellAt (v.setI 0))])) (by kernel_rfl) (by kernel_rfl) (hM).drew ?_
            dsimp only
            repeat (first
              | go_big_quiet_skip
              | (refine wpQuiet_pure (v := ?_) (gd_want rfl) ?_ ?_; rotate_left; (focus (intro w'; go_simp; try with_reducible rfl)); simp only [Act.put, List.setIfInBounds_toArray, List.set_cons_zero, List.set_cons_succ]))
            refine wpQuiet_nil ?_
            intro wq hMq
            clear hM
            have hM := hMq
            clear hMq
            go_wp2_with (first | go_skip)
            have hM3 := Lib.hid (hM.weak (L' := [.vs gx n M, .fn gh 30 49 (cellAt (l i))]) (List.sublist_append_left [Ent.vs gx n M, Ent.fn gh 30 49 (cellAt (l i))] _))
            go_roundw
            case rel => exact ⟨k + 1, by omega, by go_num, hM3.out⟩
            case measure => simp [intOf]; omega
          | sent h1 h2 h3 =>
            have H1 := Lib.hid h1
            have H2 := Lib.hid h2
            have H3 : Hid (sameV y (v.setU 46 s2) = true) := by show _ = _; rw [h3, HS2.out, sameV_self]
            clear h1 h2 h3
            try dsimp only [Act.put]
            refine wp_region_quiet (C := fun w' => Mem (fun _ => False) w w' ([.vs gx n M, .fn gh 30 49 (cellAt (l i)), .fn gv 32 52 (cellAt v), .fn ga 32 52 (cellAt (v.setU 46 s2)), .fn gb 32 52 (cellAt (v.setI 0))])) (by kernel_rfl) (by kernel_rfl) (hM).drew ?_
            dsimp only
            repeat (first
              | go_big_quiet_skip
              | (refine wpQuiet_cell_fn (gd_want rfl) 22 _ rfl 1 gh 30 49 _ rfl 17 rfl _ Try.underlying22 rfl (by omega) (.int .u64 (7557193 : Nat)) (congrArg (fun n : Nat => Value.int .u64 (n : Int)) H1.out) ?_; simp only [Act.put, List.setIfInBounds_toArray, List.set_cons_zero, List.set_cons_succ])
              | (refine wpQuiet_cell_fn (gd_want rfl) 22 _ rfl 1 gh 30 49 _ rfl 16 rfl _ Try.underlying22 rfl (by omega) (.int .u64 (0 : Nat)) (congrArg (fun n : Nat => Value.int .u64 (n : Int)) H2.out) ?_; simp only [Act.put, List.setIfInBounds_toArray, List.set_cons_zero, List.set_cons_succ])
              | (refine wpQuiet_load_vs (gd_want rfl) 32 _ rfl 0 gx n M rfl k _ 52 rfl (by first | rfl | omega) hlt (by omega) _ Try.underlying32 rfl Try.info32 ?_; rw [HY.out]; simp only [Act.put, List.setIfInBounds_toArray, List.set_cons_zero, List.set_cons_succ])
              | (refine wpQuiet_load_all (gd_want rfl) 32 _ rfl 3 ga 32 52 _ rfl rfl _ Try.underlying32 rfl Try.info32 ?_; simp only [Act.put, List.setIfInBounds_toArray, List.set_cons_zero, List.set_cons_succ])
              | (refine wpQuiet_eql_v (gd_want rfl) _ _ _ rfl y (v.setU 46 s2) rfl rfl true H3.out ?_; simp only [Act.put, List.setIfInBounds_toArray, List.set_cons_zero, List.set_cons_succ])
              | (refine wpQuiet_pure (v := ?_) (gd_want rfl) ?_ ?_; rotate_left; (focus (intro w'; go_simp; try with_reducible rfl)); simp only [Act.put, List.setIfInBounds_toArray, List.set_cons_zero, List.set_cons_succ]))
            refine wpQuiet_nil ?_
            intro wq hMq
            clear hM
            have hM := hMq
            clear hMq
            go_wp2_with (first | go_skip)
            have hM3 := Lib.hid (hM.weak (L' := [.vs gx n M, .fn gh 30 49 (cellAt (l i))]) (List.sublist_append_left [Ent.vs gx n M, Ent.fn gh 30 49 (cellAt (l i))] _))
            go_roundw
            case rel => exact ⟨k + 1, by omega, by go_num, hM3.out⟩
            case measure => simp [intOf]; omega
          | ended h1 h2 h3 =>
            have H1 := Lib.hid h1
            have H3 : Hid (sameV y (v.setI 0) = true) := by show _ = _; rw [h3, sameV_self]
            subst h2
            clear h1 h3
            try dsimp only [Act.put]
            refine wp_region_quiet (C := fun w' => Mem (fun _ => False) w w' ([.vs gx n M, .fn gh 30 49 (cellAt (l i)), .fn gv 32 52 (cellAt v), .fn ga 32 52 (cellAt (v.setU 46 s2)), .fn gb 32 52 (cellAt (v.setI 0))])) (by kernel_rfl) (by kernel_rfl) (hM).drew ?_
            dsimp only
            repeat (first
              | go_big_quiet_skip
              | (refine wpQuiet_cell_fn (gd_want rfl) 22 _ rfl 1 gh 30 49 _ rfl 17 rfl _ Try.underlying22 rfl (by omega) (.int .u64 (1397904212 : Nat)) (congrArg (fun n : Nat => Value.int .u64 (n : Int)) H1.out) ?_; simp only [Act.put, List.setIfInBounds_toArray, List.set_cons_zero, List.set_cons_succ])
              | (refine wpQuiet_load_vs (gd_want rfl) 32 _ rfl 0 gx n M rfl k _ 52 rfl (by first | rfl | omega) hlt (by omega) _ Try.underlying32 rfl Try.info32 ?_; rw [HY.out]; simp only [Act.put, List.setIfInBounds_toArray, List.set_cons_zero, List.set_cons_succ])
              | (refine wpQuiet_load_all (gd_want rfl) 32 _ rfl 4 gb 32 52 _ rfl rfl _ Try.underlying32 rfl Try.info32 ?_; simp only [Act.put, List.setIfInBounds_toArray, List.set_cons_zero, List.set_cons_succ])
              | (refine wpQuiet_eql_v (gd_want rfl) _ _ _ rfl y (v.setI 0) rfl rfl true H3.out ?_; simp only [Act.put, List.setIfInBounds_toArray, List.set_cons_zero, List.set_cons_succ])
              | (refine wpQuiet_pure (v := ?_) (gd_want rfl) ?_ ?_; rotate_left; (focus (intro w'; go_simp; try with_reducible rfl)); simp only [Act.put, List.setIfInBounds_toArray, List.set_cons_zero, List.set_cons_succ]))
            refine wpQuiet_nil ?_
            intro wq hMq
            clear hM
            have hM := hMq
            clear hMq
            go_wp2_with (first | go_skip)
            have hM3 := Lib.hid (hM.weak (L' := [.vs gx n M, .fn gh 30 49 (cellAt (l i))]) (List.sublist_append_left [Ent.vs gx n M, Ent.fn gh 30 49 (cellAt (l i))] _))
            go_roundw
            case rel => exact ⟨k + 1, by omega, by go_num, hM3.out⟩
            case measure => simp [intOf]; omega
    · have HF := Lib.hid hM.fr
      clear hM
      go_wp2_with fail
      refine (awake_any _).mono ?_
      rintro e w9 ⟨rfl, hF⟩
      have HF9 := Lib.hid (fr_below (HF.out.trans hF (fun _ _ h => h)))
      clear hF
      go_wp2_with fail
      go_ret
      exact ⟨rfl, HF9.out⟩
end Go.Proofs.Ytjiolobkobpohaa
