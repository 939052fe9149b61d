/- The reference's interrupt controller: Pending, New. -/
import Derived.Test.YtnjddnmekcjhnaaAB
import Derived.Deep.MidRow
namespace Go.Proofs.Ytnjddnmekcjhnaa
open Go.RowKit

set_option maxHeartbeats 1600000 in
theorem refPending_any (S : Nat → Prop) (r : Nat) (x : IA) (h : Int) (w : World) (hx : RIAt w S r x) (hw : x.Wf) (he : x.Ev) :
    Calls Try.prog 28 #[.pointer (some ⟨r, 0, none⟩), .int .i64 h] w fun e w' => e = .returned (.bool (x.pending h)) ∧ w' = w := by
  have HX := Lib.hid hx
  obtain ⟨v, Q, hp, hS, hv, h2⟩ := hx
  obtain ⟨A, c, rfl, hrd, _, _⟩ := hv.form
  have HP := Lib.hid hp
  clear hp hv h2 hrd
  have cL := HP.out.cell 96
  rw [riV] at cL
  by_cases h0 : 0 ≤ h
  · obtain ⟨k, rfl⟩ := Int.eq_ofNat_of_zero_le h0
    have h0' : (0 : Int) ≤ k := by omega
    by_cases hk : k < x.lets.length
    · have HE : Hid (x.pending k = (x.first x.lets[k] != 0)) := by
        show x.pending k = _
        unfold IA.pending
        rw [if_pos h0', Int.toNat_natCast, List.getElem?_eq_getElem hk]
      have HC : Hid (((x.first x.lets[k] : Int) != 0) = (x.first x.lets[k] != 0)) := by
        show ((x.first x.lets[k] : Int) != 0) = (x.first x.lets[k] != 0)
        rw [Bool.eq_iff_iff]; simp
      clear h0
      go_enter Try.func28, Try.ntmps28
      go_wp2_with (first | go_skip | (go_at_call 45; refine (refFirst_any S r x k _ HX.out hw he hk).mono ?_; rintro e w' ⟨rfl, rfl⟩))
      go_ret
      exact ⟨by rw [HE.out, ← HC.out]; rfl, rfl⟩
    · have HE : Hid (x.pending k = false) := by
        show x.pending k = _
        unfold IA.pending
        rw [if_pos h0', Int.toNat_natCast, List.getElem?_eq_none (by omega)]
      have hk' : decide (k < x.lets.length) = false := by simp; omega
      clear h0 hk
      go_enter Try.func28, Try.ntmps28
      go_wp2_with (first | go_skip)
      go_ret
      exact ⟨by rw [HE.out]; rfl, rfl⟩
  · have HE : Hid (x.pending h = false) := by
      show x.pending h = _
      unfold IA.pending
      rw [if_neg h0]
    have hk' : decide (0 ≤ h) = false := by simp; omega
    clear h0
    go_enter Try.func28, Try.ntmps28
    go_wp2_with (first | go_skip)
    go_ret
    exact ⟨by rw [HE.out]; rfl, rfl⟩

theorem refNew_no (n : Int) (w : World) (h : ¬ (1 ≤ n ∧ n ≤ 64)) : Calls Try.prog 21 #[.int .i64 n] w fun e w' => e = .returned (.tuple #[.pointer none, .int .i64 1]) ∧ w' = w := by
  by_cases h1 : n < 1
  · go_enter Try.func21, Try.ntmps21
    go_wp2
    go_ret2
    exact ⟨rfl, rfl⟩
  · have h2 : 1 ≤ n := by omega
    have h3 : 64 < n := by omega
    go_enter Try.func21, Try.ntmps21
    go_wp2
    go_ret2
    exact ⟨rfl, rfl⟩

/-- The cells while By is being set. -/
def newCell (v : Value) (k j : Nat) : Value := if j < 64 then .bool false else if j < 96 then (if j - 64 < k then .int .i64 (-1) else .int .i64 0) else v
theorem newCell_step (v : Value) (k : Nat) (hk : k < 32) : (arr 97 (newCell v k)).setIfInBounds (64 + k) (.int .i64 (-1)) = arr 97 (newCell v (k + 1)) := by
  refine arr_set fun j hj => ?_
  unfold newCell
  by_cases h1 : j < 64
  · rw [if_pos h1, if_pos h1, if_neg (show ¬ j = 64 + k by omega)]
  · rw [if_neg h1, if_neg h1]
    by_cases h2 : j < 96
    · rw [if_pos h2, if_pos h2]
      by_cases h3 : j = 64 + k
      · rw [if_pos h3, if_pos (by omega)]
      · rw [if_neg h3]
        by_cases h4 : j - 64 < k
        · rw [if_pos h4, if_pos (by omega)]
        · rw [if_neg h4, if_neg (by omega)]
    · rw [if_neg h2, if_neg h2, if_neg (show ¬ j = 64 + k by omega)]
theorem newCell_end (v : Value) (n : Nat) : arr 97 (newCell v 32) = arr 97 (riCell (ia0 n) v) := by
  refine arr_congr fun j hj => ?_
  unfold newCell riCell
  by_cases h1 : j < 32
  · rw [if_pos (by omega), if_pos h1]; simp [ia0]
  · rw [if_neg h1]
    by_cases h2 : j < 64
    · rw [if_pos h2, if_pos h2]; simp [ia0]
    · rw [if_neg h2, if_neg h2]
      by_cases h3 : j < 96
      · rw [if_pos h3, if_pos h3, if_pos (by omega)]
        have : (ia0 n).cl[j - 64]? = some 0 := by show (List.replicate 32 0)[j - 64]? = some 0; rw [List.getElem?_replicate, if_pos (by omega)]
        rw [this]; rfl
      · rw [if_neg h3, if_neg h3]
theorem Try.info27 : (Try.prog.info? 27).map (fun i => (i.zero, i.size, i.bytes)) = some (some (.int .u64 0), 1, 8) := by kernel_rfl

theorem built83 (A : Option Addr) (n c : Nat) : Try.prog.built 83 [(3, .slice A n c)] = some (arr 97 (newCell (.slice A n c) 0)) := by kernel_rfl
section
variable {P : Program} {ops : Array Oper} {rest : List Oper} {o : Oper} {a : Act} {w : World} {Q : Exit → Act → World → Prop}
theorem wpList_build_arr (hgd : o.guard = none) (t : TypeId) (parts : Array (Nat × Operand)) (ho : o.op = .build t parts) (n : Nat) (f : Nat → Value)
    (hb : P.built t (parts.toList.map fun p => (p.1, a.eval p.2)) = some (arr n f)) (h : wpList P ops Q rest (a.put o.dst (.agg (arr n f))) w) : wpList P ops Q (o :: rest) a w := by
  have hb' : P.built t (parts.map fun (i, x) => (i, a.eval x)).toList = some (arr n f) := by rw [Array.toList_map]; exact hb
  refine wpList_step fun K hK => ?_
  rw [if_pos (show Region.wanted o (yielded ops a.tmps) = true by simp [Region.wanted, hgd])]
  refine wp_build t parts ho (by rw [hb']; rfl) ?_
  rw [hb']
  exact hK _ _ h
end

set_option maxRecDepth 100000 in
theorem refNew_yes (n : Nat) (w : World) (h : 1 ≤ n ∧ n ≤ 64) : Calls Try.prog 21 #[.int .i64 n] w fun e w' =>
    ∃ p, w.heap.size ≤ p ∧ e = .returned (.tuple #[.pointer (some ⟨p, 0, none⟩), .int .i64 0]) ∧ RIAt w' (fun k => w.heap.size ≤ k) p (ia0 n) ∧ Fr (fun _ => False) w w' := by
  obtain ⟨h1, h2⟩ := h
  have h3 : (1 : Int) ≤ n := by omega
  have h4 : (n : Int) ≤ 64 := by omega
  obtain ⟨i0, hi, hz0, hz1, hz2⟩ := info_parts Try.info27
  have hmk := run_make (w := w) (P := Try.prog) 23 27 i0 _ Try.underlying23 hi hz0 .i64 .i64 n n (by omega) (Int.le_refl _) (by rw [hz2]; omega) (by omega)
  rw [hz1, show madeCells (Value.int .u64 0).cells ((n : Int).toNat * 1) = (List.replicate n (Value.int .u64 0)).toArray from by
    rw [Int.toNat_natCast, Nat.mul_one, ← Array.toArray_toList (xs := madeCells _ _)]
    exact congrArg _ (toList_madeCells_one _ _), Int.toNat_natCast] at hmk
  have hI := Lib.hid hi
  clear hi hz0 hz1 hz2
  go_enter Try.func21, Try.ntmps21
  go_wp2_with (refine wpList_build_arr rfl 83 _ rfl 97 (newCell (.slice (some ⟨w.heap.size, 0, none⟩) n n) 0) (built83 _ _ _) ?_)
  have hB := Has.new (w.alloc (Obj.cells (Array.replicate n (Value.int .u64 0)) 27)) 83 (arr 97 (newCell (.slice (some ⟨w.heap.size, 0, none⟩) n n) 0))
  rw [show (w.alloc (Obj.cells (Array.replicate n (Value.int .u64 0)) 27)).heap.size = w.heap.size + 1 by simp] at hB
  have hS0 := (Fr.refl (fun _ => False) _).alloc (Obj.cells (arr 97 (newCell (.slice (some ⟨w.heap.size, 0, none⟩) n n) 0)) 83) |>.has (Has.new w 27 (Array.replicate n (Value.int .u64 0))) (fun h => h)
  have hF := ((Fr.refl (fun _ => False) w).alloc (Obj.cells (Array.replicate n (Value.int .u64 0)) 27)).alloc (Obj.cells (arr 97 (newCell (.slice (some ⟨w.heap.size, 0, none⟩) n n) 0)) 83)
  have HB := Lib.hid hB
  have HS0 := Lib.hid hS0
  have HF := Lib.hid hF
  clear hB hS0 hF hmk
  trace_state
  go_loopw [5] (fun t wr => ∃ k : Nat, k ≤ 32 ∧ t = .int .i64 k ∧ Has wr (w.heap.size + 1) 83 (arr 97 (newCell (.slice (some ⟨w.heap.size, 0, none⟩) n n) k)) ∧ Has wr w.heap.size 27 (Array.replicate n (Value.int .u64 0)) ∧ Fr (fun _ => False) w wr) (fun t _ => 32 - (intOf t).toNat)
  case atStart => exact ⟨0, by omega, rfl, HB.out, HS0.out, HF.out⟩
  case round =>
    obtain ⟨k, hk, rfl, hp, hs, hf⟩ := hrel
    have HP := Lib.hid hp
    have HS := Lib.hid hs
    have HF := Lib.hid hf
    by_cases hk2 : k < 32
    · have hk3 : (k : Int) < 32 := by omega
      have cC := hp.cell (64 + k)
      have fC := hp.frozen (64 + k)
      have e1 : (arr 97 (newCell (.slice (some ⟨w.heap.size, 0, none⟩) n n) k))[64 + k]? = some (.int .i64 0) := by
        rw [arr_get _ _ _ (by omega)]; unfold newCell; rw [if_neg (by omega), if_pos (by omega), if_neg (by omega)]
      rw [e1] at cC
      have hp2 := hp.set (64 + k) (.int .i64 (-1))
      rw [newCell_step _ k hk2] at hp2
      have hs2 := (Fr.store wr (w.heap.size + 1) (64 + k) (.int .i64 (-1))).has hs (fun h => by omega)
      have hf2 := hf.setCell (p := ⟨w.heap.size + 1, 64 + k, none⟩) (fun (h : w.heap.size + 1 < w.heap.size) => by omega) (.int .i64 (-1))
      have HP2 := Lib.hid hp2
      have HS2 := Lib.hid hs2
      have HF2 := Lib.hid hf2
      clear hp hs hf hp2 hs2 hf2 e1
      go_wp2_with fail
      go_roundw
      case rel => exact ⟨k + 1, by omega, by go_num, HP2.out, HS2.out, HF2.out⟩
      case measure => simp [intOf]; omega
    · obtain rfl : k = 32 := by omega
      rw [newCell_end _ n] at hp
      have HP3 := Lib.hid hp
      clear hp hs hf
      go_wp2_with fail
      go_ret2
      refine ⟨w.heap.size + 1, by omega, rfl, ⟨.slice (some ⟨w.heap.size, 0, none⟩) n n, fun k => k = w.heap.size, HP3.out, Nat.le_succ _, ?_, fun k hk => ⟨by omega, by omega⟩⟩, HF.out⟩
      have hg : nats .u64 (ia0 n).lets = List.replicate n (Value.int .u64 0) := by simp [nats, ia0]
      rw [hg]
      refine ⟨by simp [ia0], .inr ⟨w.heap.size, 0, n, _, by simp [ia0], HS.out, rfl, by simp [ia0], by simp, by simp [maxLen]; omega, fun j hj => ?_⟩⟩
      simp only [Array.getElem?_replicate, List.getElem?_replicate, Nat.zero_add]
end Go.Proofs.Ytnjddnmekcjhnaa
