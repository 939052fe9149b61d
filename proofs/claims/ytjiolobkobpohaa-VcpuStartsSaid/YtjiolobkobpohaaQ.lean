/- The calls' functions: poke, end. -/
import Derived.Test.YtjiolobkobpohaaO
namespace Go.Proofs.Ytjiolobkobpohaa
open Go.RowKit Go.BigFrame

/-- Is hart k poked? -/
def pokes (k a b : Nat) : Bool := b == 18446744073709551615 || (decide ((k + (18446744073709551616 - b)) % 18446744073709551616 < 64) && (a / 2 ^ ((k + (18446744073709551616 - b)) % 18446744073709551616) % 2 == 1))
def V.poked (x : V) (c : Bool) : V := if c then x.setU 46 (x.u 46 ||| 2) else x
def pokeW (a b : Nat) (L : Nat → V) : Nat → V := fun k => (L k).poked (pokes k a b)
def pokeL (r : CR) (n : Nat) (L : Nat → V) : Nat → V := if r.x 16 = 0 then stepL (pokeW (r.x 10) (r.x 11) L) L n else L
def endW (L : Nat → V) : Nat → V := fun k => (L k).setI 0
def endL (r : CR) (n : Nat) (L : Nat → V) : Nat → V := if r.x 16 = 0 then stepL (endW L) L n else L
def endR (r : CR) : CR := if r.x 16 = 0 then { { r with stays := true } with down := true } else r.noFn
theorem u64_bit1 (a d : Nat) (ha : a < 18446744073709551616) : bits .and .u64 ((a : Int) / 2 ^ d) 1 = ((a / 2 ^ d % 2 : Nat) : Int) := by
  have h1 : ((a : Int) / 2 ^ d) = ((a / 2 ^ d : Nat) : Int) := by push_cast; rfl
  rw [h1]
  have := u64_and_nat (a / 2 ^ d) 1 (Nat.lt_of_le_of_lt (Nat.div_le_self _ _) ha) (by omega)
  rw [show (((1 : Nat) : Int)) = 1 from rfl] at this
  rw [this]
  congr 1
  exact Nat.and_two_pow_sub_one_eq_mod _ 1
theorem Mem.fnEq {S : Nat → Prop} {w0 w : World} {L : List Ent} (hM : Mem S w0 w L) (k : Nat) {g n : Nat} {t : TypeId} {f f' : Nat → Value} (hk : L[k]? = some (.fn g t n f)) (h : ∀ j, j < n → f j = f' j) : Mem S w0 w (L.set k (.fn g t n f')) := by
  have hx : Ent.ok w (.fn g t n f') := by
    show Has w g t (arr n f')
    rw [← arr_congr h]
    exact hM.ok _ (List.mem_of_getElem? hk)
  have := hM.turn k hk rfl (y := .fn g t n f') (Fr.refl _ w) hx
  exact this

set_option maxRecDepth 100000 in
set_option maxHeartbeats 2000000 in
theorem end_any (gc gv n c : Nat) (L : Nat → V) (r : CR) (w : World) (hM0 : Mem (SC gc gv) w w (LC gc gv n L r)) (hv : r.vs = .slice (some ⟨gv, 0, none⟩) n c) (_hn : n ≤ 382438827053) :
    Calls Try.prog 47 #[.pointer (some ⟨gc, 0, none⟩)] w (Fin0 (SC gc gv) w (LC gc gv n (endL r n L) (endR r))) := by
  have hM := hM0
  obtain ⟨fn, hfn⟩ : ∃ f, r.x 16 = f := ⟨_, rfl⟩
  have HF := Lib.hid hfn
  have HV := Lib.hid hv
  clear hM0 hv
  by_cases h0 : fn = 0
  · have hR : Hid (endR r = { { r with stays := true } with down := true }) := by show endR r = _; unfold endR; rw [hfn, if_pos h0]
    have hL : Hid (endL r n L = stepL (endW L) L n) := by show endL r n L = _; unfold endL; rw [hfn, if_pos h0]
    subst h0
    clear hfn
    go_enter Try.func47, Try.ntmps47
    go_upto_region 2 with (first | (refine wpList_cell_fn (gd_none rfl) 22 _ rfl 1 gc 55 39 _ hM rfl 18 rfl _ Try.underlying22 rfl (by omega) (.int .u64 (0 : Nat)) (congrArg (fun n : Nat => Value.int .u64 (n : Int)) HF.out) ?_))
    go_upto_region 3 with (first | (refine wpList_cell_fn (gd_none rfl) 24 _ rfl 1 gc 55 39 _ hM rfl 0 rfl _ Try.underlying24 rfl (by omega) (.slice (some ⟨gv, 0, none⟩) n c) (HV.out) ?_))
    go_wp2_with fail
    go_loopw [17] (fun t wr => ∃ k : Nat, k ≤ n ∧ t = .int .i64 k ∧ Mem (SC gc gv) w wr (LC gc gv n (stepL (endW L) L k) r)) (fun t _ => n - (intOf t).toNat)
    case atStart => exact ⟨0, Nat.zero_le _, rfl, by rw [stepL_zero]; exact hM⟩
    case round =>
      clear hM
      obtain ⟨k, hk, rfl, hM⟩ := hrel
      by_cases hlt : k < n
      · obtain ⟨M, hMk⟩ : ∃ M, stepL (endW L) L k = M := ⟨_, rfl⟩
        rw [hMk] at hM
        have hLk : M k = L k := by rw [← hMk, stepL_at]
        have z1 : Hid (upd (cellAt (M k)) 49 (.int .i64 0) = cellAt ((L k).setI 0)) := by show _ = _; rw [hLk, upd_cellI _ _ _ (show kd 49 = .i from rfl)]
        have HM := Lib.hid hMk
        clear hMk hLk
        go_wp2_with (first
          | go_skip
          | (refine wpList_cell_fn (gd_none rfl) 24 _ rfl 1 gc 55 39 _ hM rfl 0 rfl _ Try.underlying24 rfl (by omega) (.slice (some ⟨gv, 0, none⟩) n c) (HV.out) ?_)
          | (refine wpList_put_vs (gd_none rfl) 3 _ _ rfl 0 gv n _ hM rfl k 49 _ rfl (by first | rfl | omega) hlt (by omega) (.int .i64 0) rfl Try.info3 ((L k).setI 0) (z1.out) ?_; clear hM; intro wp hwp hM; dsimp only [List.set_cons_zero, List.set_cons_succ] at hM))

        have hM2 : Hid (Mem (SC gc gv) w wp (LC gc gv n (stepL (endW L) L (k + 1)) r)) := by
          show Mem _ _ _ _
          rw [stepL_succ, HM.out]
          exact hM
        go_roundw
        case rel => exact ⟨k + 1, by omega, by go_num, hM2.out⟩
        case measure => simp [intOf]; omega
      · obtain rfl : k = n := by omega
        go_wp2_with (first
          | go_skip
          | (refine wpList_put_fn (gd_none rfl) 4 _ _ rfl 1 gc 55 39 _ hM rfl 36 rfl (.bool true) rfl Try.info4 (by omega) rfl ?_; clear hM; intro wp hwp hM; dsimp only [List.set_cons_zero, List.set_cons_succ] at hM; rw [cellC_stays] at hM)
          | (refine wpList_put_fn (gd_none rfl) 4 _ _ rfl 1 gc 55 39 _ hM rfl 38 rfl (.bool true) rfl Try.info4 (by omega) rfl ?_; clear hM; intro wp hwp hM; dsimp only [List.set_cons_zero, List.set_cons_succ] at hM))

        have hM2 : Hid (Mem (SC gc gv) w wp (LC gc gv k (stepL (endW L) L k) (endR r))) := by
          show Mem _ _ _ _
          rw [hR.out]
          refine hM.fnEq 1 rfl (fun j hj => ?_)
          exact cellC_down { r with stays := true } true j hj
        go_end0
        exact ⟨rfl, by rw [hL.out]; exact hM2.out⟩
  · have hR : Hid (endR r = r.noFn) := by show endR r = _; unfold endR; rw [hfn, if_neg h0]
    have hL : Hid (endL r n L = L) := by show endL r n L = _; unfold endL; rw [hfn, if_neg h0]
    have h0' : ((fn : Int) != 0) = true := by simp; omega
    clear hfn h0
    go_enter Try.func47, Try.ntmps47
    go_wp2_with (first
      | go_skip
      | (refine wpList_cell_fn (gd_none rfl) 22 _ rfl 1 gc 55 39 _ hM rfl 18 rfl _ Try.underlying22 rfl (by omega) (.int .u64 (fn : Nat)) (congrArg (fun n : Nat => Value.int .u64 (n : Int)) HF.out) ?_)
      | (refine wpList_put_fn (gd_none rfl) 22 _ _ rfl 1 gc 55 39 _ hM rfl 34 rfl (.int .u64 (18446744073709551614 : Nat)) rfl Try.info22 (by omega) rfl ?_; clear hM; intro wp hwp hM; dsimp only [List.set_cons_zero, List.set_cons_succ] at hM; rw [cellC_err] at hM))

    go_end0
    exact ⟨rfl, by rw [hR.out, hL.out]; exact hM⟩

set_option maxRecDepth 100000 in
set_option maxHeartbeats 4000000 in
theorem poke_any (gc gv n c : Nat) (L : Nat → V) (r : CR) (w : World) (hM0 : Mem (SC gc gv) w w (LC gc gv n L r)) (hv : r.vs = .slice (some ⟨gv, 0, none⟩) n c) (_hn : n ≤ 382438827053) (hw : ∀ k, k < n → (L k).Wf) (hx : ∀ j, r.x j < 18446744073709551616) :
    Calls Try.prog 43 #[.pointer (some ⟨gc, 0, none⟩)] w (Fin0 (SC gc gv) w (LC gc gv n (pokeL r n L) (clockR r))) := by
  have hM := hM0
  obtain ⟨fn, hfn⟩ : ∃ f, r.x 16 = f := ⟨_, rfl⟩
  obtain ⟨a, ha⟩ : ∃ f, r.x 10 = f := ⟨_, rfl⟩
  obtain ⟨b, hb⟩ : ∃ f, r.x 11 = f := ⟨_, rfl⟩
  have la : a < 18446744073709551616 := by rw [← ha]; exact hx 10
  have lb : b < 18446744073709551616 := by rw [← hb]; exact hx 11
  have HF := Lib.hid hfn
  have HA := Lib.hid ha
  have HB := Lib.hid hb
  have HV := Lib.hid hv
  have HWf := Lib.hid hw
  clear hM0 hv hw hx
  by_cases h0 : fn = 0
  · have hR : Hid (clockR r = r) := by show clockR r = _; unfold clockR; rw [hfn, if_pos h0]
    have hL : Hid (pokeL r n L = stepL (pokeW a b L) L n) := by show pokeL r n L = _; unfold pokeL; rw [hfn, if_pos h0, ha, hb]
    subst h0
    clear hfn ha hb
    go_enter Try.func43, Try.ntmps43
    go_upto_region 2 with (first | (refine wpList_cell_fn (gd_none rfl) 22 _ rfl 1 gc 55 39 _ hM rfl 18 rfl _ Try.underlying22 rfl (by omega) (.int .u64 (0 : Nat)) (congrArg (fun n : Nat => Value.int .u64 (n : Int)) HF.out) ?_))
    go_upto_region 3 with (first | (refine wpList_cell_fn (gd_none rfl) 24 _ rfl 1 gc 55 39 _ hM rfl 0 rfl _ Try.underlying24 rfl (by omega) (.slice (some ⟨gv, 0, none⟩) n c) (HV.out) ?_))
    go_wp2_with fail
    go_loopw [18] (fun t wr => ∃ k : Nat, k ≤ n ∧ t = .int .i64 k ∧ Mem (SC gc gv) w wr (LC gc gv n (stepL (pokeW a b L) L k) r)) (fun t _ => n - (intOf t).toNat)
    case atStart => exact ⟨0, Nat.zero_le _, rfl, by rw [stepL_zero]; exact hM⟩
    case round =>
      clear hM
      obtain ⟨k, hk, rfl, hM⟩ := hrel
      by_cases hlt : k < n
      · obtain ⟨M, hMk⟩ : ∃ M, stepL (pokeW a b L) L k = M := ⟨_, rfl⟩
        rw [hMk] at hM
        have hLk : M k = L k := by rw [← hMk, stepL_at]
        obtain ⟨s, hs⟩ : ∃ s, (L k).u 46 = s := ⟨_, rfl⟩
        have ls : s < 18446744073709551616 := by rw [← hs]; exact (HWf.out k hlt).u 46
        obtain ⟨s2, hs2⟩ : ∃ s2, s ||| 2 = s2 := ⟨_, rfl⟩
        have es : bits .or .u64 (s : Int) 2 = s2 := by rw [← hs2]; exact u64_or_nat s 2 ls (by omega)
        have z1 : Hid (upd (cellAt (M k)) 46 (.int .u64 (s2 : Int)) = cellAt ((L k).poked true)) := by
          show _ = _
          rw [hLk, upd_cellU _ _ _ (show kd 46 = .u from rfl), ← hs2, ← hs]; rfl
        have HS : Hid (cellAt (M k) 46 = .int .u64 (s : Int)) := by show _ = _; rw [hLk, ← hs]; rfl
        obtain ⟨d, hd⟩ : ∃ d, (k + (18446744073709551616 - b)) % 18446744073709551616 = d := ⟨_, rfl⟩
        have ek : IntKind.u64.wrap (k : Int) = k := by rw [IntKind.wrap_u64]; omega
        have ed : IntKind.u64.wrap ((k : Int) - b) = d := by rw [IntKind.wrap_u64]; omega
        have hp : pokes k a b = (b == 18446744073709551615 || (decide (d < 64) && (a / 2 ^ d % 2 == 1))) := by unfold pokes; rw [hd]
        have HM := Lib.hid hMk
        have HW : Hid (pokeW a b L k = (L k).poked (pokes k a b)) := by show _ = _; rfl
        have HPk := Lib.hid hp
        clear hMk hLk hs hs2 hd hp
        by_cases hbm : b = 18446744073709551615
        · have HP : Hid (pokes k a b = true) := by show _ = _; rw [HPk.out, hbm]; rfl
          have hbb : ((b : Int) == 18446744073709551615) = true := by simp; omega
          have HBm := Lib.hid hbm
          clear hbm
          go_wp2_with (first
            | go_skip
            | (refine wpList_cell_fn (gd_none rfl) 22 _ rfl 1 gc 55 39 _ hM rfl 13 rfl _ Try.underlying22 rfl (by omega) (.int .u64 (b : Nat)) (congrArg (fun n : Nat => Value.int .u64 (n : Int)) HB.out) ?_)
            | (refine wpList_cell_fn (gd_none rfl) 24 _ rfl 1 gc 55 39 _ hM rfl 0 rfl _ Try.underlying24 rfl (by omega) (.slice (some ⟨gv, 0, none⟩) n c) (HV.out) ?_)
            | (refine wpList_cell_vs (gd_none rfl) 22 _ rfl 0 gv n _ hM rfl k 46 _ rfl (by first | rfl | omega) hlt (by omega) _ Try.underlying22 rfl (.int .u64 (s : Nat)) (HS.out) ?_)
            | (refine wpList_put_vs (gd_none rfl) 22 _ _ rfl 0 gv n _ hM rfl k 46 _ rfl (by first | rfl | omega) hlt (by omega) (.int .u64 (s2 : Nat)) rfl Try.info22 ((L k).poked true) (z1.out) ?_; clear hM; intro wp hwp hM; dsimp only [List.set_cons_zero, List.set_cons_succ] at hM))
          have hM2 : Hid (Mem (SC gc gv) w wp (LC gc gv n (stepL (pokeW a b L) L (k + 1)) r)) := by
            show Mem _ _ _ _
            rw [stepL_succ, HM.out, HW.out, HP.out]
            exact hM
          go_roundw
          case rel => exact ⟨k + 1, by omega, by go_num, hM2.out⟩
          case measure => simp [intOf]; omega

        · have hbb : ((b : Int) == 18446744073709551615) = false := by simp; omega
          have hbn : (b == 18446744073709551615) = false := by simpa using hbm
          clear hbm
          by_cases hd : d < 64
          · have hdi : decide ((d : Int) < 64) = true := by simp; omega
            obtain ⟨t, ht⟩ : ∃ t, a / 2 ^ d % 2 = t := ⟨_, rfl⟩
            have et := u64_bit1 a (min d 64) la
            rw [show min d 64 = d by omega, ht, ← show min d 64 = d by omega] at et
            have hpt : pokes k a b = (t == 1) := by rw [HPk.out, hbn, ht]; simp [hd]
            have HT := Lib.hid ht
            have ht2 : t = 0 ∨ t = 1 := by omega
            clear ht hbn hd
            rcases ht2 with rfl | rfl
            · rw [show (((0 : Nat) : Int)) = 0 from rfl] at et
              have HP : Hid (pokes k a b = false) := by show _ = _; rw [hpt]; rfl
              clear hpt
              go_wp2_with (first
                | go_skip
                | (refine wpList_cell_fn (gd_none rfl) 22 _ rfl 1 gc 55 39 _ hM rfl 13 rfl _ Try.underlying22 rfl (by omega) (.int .u64 (b : Nat)) (congrArg (fun n : Nat => Value.int .u64 (n : Int)) HB.out) ?_)
                | (refine wpList_cell_fn (gd_want rfl) 22 _ rfl 1 gc 55 39 _ hM rfl 12 rfl _ Try.underlying22 rfl (by omega) (.int .u64 (a : Nat)) (congrArg (fun n : Nat => Value.int .u64 (n : Int)) HA.out) ?_))
              have hM2 : Hid (Mem (SC gc gv) w wr (LC gc gv n (stepL (pokeW a b L) L (k + 1)) r)) := by
                show Mem _ _ _ _
                rw [stepL_same _ _ _ (by rw [HW.out, HP.out]; rfl), HM.out]
                exact hM
              go_roundw
              case rel => exact ⟨k + 1, by omega, by go_num, hM2.out⟩
              case measure => simp [intOf]; omega

            · rw [show (((1 : Nat) : Int)) = 1 from rfl] at et
              have HP : Hid (pokes k a b = true) := by show _ = _; rw [hpt]; rfl
              clear hpt
              go_wp2_with (first
                | go_skip
                | (refine wpList_cell_fn (gd_none rfl) 22 _ rfl 1 gc 55 39 _ hM rfl 13 rfl _ Try.underlying22 rfl (by omega) (.int .u64 (b : Nat)) (congrArg (fun n : Nat => Value.int .u64 (n : Int)) HB.out) ?_)
                | (refine wpList_cell_fn (gd_want rfl) 22 _ rfl 1 gc 55 39 _ hM rfl 12 rfl _ Try.underlying22 rfl (by omega) (.int .u64 (a : Nat)) (congrArg (fun n : Nat => Value.int .u64 (n : Int)) HA.out) ?_)
                | (refine wpList_cell_fn (gd_none rfl) 24 _ rfl 1 gc 55 39 _ hM rfl 0 rfl _ Try.underlying24 rfl (by omega) (.slice (some ⟨gv, 0, none⟩) n c) (HV.out) ?_)
                | (refine wpList_cell_vs (gd_none rfl) 22 _ rfl 0 gv n _ hM rfl k 46 _ rfl (by first | rfl | omega) hlt (by omega) _ Try.underlying22 rfl (.int .u64 (s : Nat)) (HS.out) ?_)
                | (refine wpList_put_vs (gd_none rfl) 22 _ _ rfl 0 gv n _ hM rfl k 46 _ rfl (by first | rfl | omega) hlt (by omega) (.int .u64 (s2 : Nat)) rfl Try.info22 ((L k).poked true) (z1.out) ?_; clear hM; intro wp hwp hM; dsimp only [List.set_cons_zero, List.set_cons_succ] at hM))
              have hM2 : Hid (Mem (SC gc gv) w wp (LC gc gv n (stepL (pokeW a b L) L (k + 1)) r)) := by
                show Mem _ _ _ _
                rw [stepL_succ, HM.out, HW.out, HP.out]
                exact hM
              go_roundw
              case rel => exact ⟨k + 1, by omega, by go_num, hM2.out⟩
              case measure => simp [intOf]; omega

          · have hdi : decide ((d : Int) < 64) = false := by simp; omega
            have HP : Hid (pokes k a b = false) := by show _ = _; rw [HPk.out, hbn]; simp [hd]
            clear hbn hd
            go_wp2_with (first
              | go_skip
              | (refine wpList_cell_fn (gd_none rfl) 22 _ rfl 1 gc 55 39 _ hM rfl 13 rfl _ Try.underlying22 rfl (by omega) (.int .u64 (b : Nat)) (congrArg (fun n : Nat => Value.int .u64 (n : Int)) HB.out) ?_))
            have hM2 : Hid (Mem (SC gc gv) w wr (LC gc gv n (stepL (pokeW a b L) L (k + 1)) r)) := by
              show Mem _ _ _ _
              rw [stepL_same _ _ _ (by rw [HW.out, HP.out]; rfl), HM.out]
              exact hM
            go_roundw
            case rel => exact ⟨k + 1, by omega, by go_num, hM2.out⟩
            case measure => simp [intOf]; omega

      · obtain rfl : k = n := by omega
        go_wp2_with fail
        go_end0
        exact ⟨rfl, by rw [hL.out, hR.out]; exact hM⟩
  · have hR : Hid (clockR r = r.noFn) := by show clockR r = _; unfold clockR; rw [hfn, if_neg h0]
    have hL : Hid (pokeL r n L = L) := by show pokeL r n L = _; unfold pokeL; rw [hfn, if_neg h0]
    have h0' : ((fn : Int) != 0) = true := by simp; omega
    clear hfn ha hb h0
    go_enter Try.func43, Try.ntmps43
    go_wp2_with (first
      | go_skip
      | (refine wpList_cell_fn (gd_none rfl) 22 _ rfl 1 gc 55 39 _ hM rfl 18 rfl _ Try.underlying22 rfl (by omega) (.int .u64 (fn : Nat)) (congrArg (fun n : Nat => Value.int .u64 (n : Int)) HF.out) ?_)
      | (refine wpList_put_fn (gd_none rfl) 22 _ _ rfl 1 gc 55 39 _ hM rfl 34 rfl (.int .u64 (18446744073709551614 : Nat)) rfl Try.info22 (by omega) rfl ?_; clear hM; intro wp hwp hM; dsimp only [List.set_cons_zero, List.set_cons_succ] at hM; rw [cellC_err] at hM))

    go_end0
    exact ⟨rfl, by rw [hR.out, hL.out]; exact hM⟩
end Go.Proofs.Ytjiolobkobpohaa
