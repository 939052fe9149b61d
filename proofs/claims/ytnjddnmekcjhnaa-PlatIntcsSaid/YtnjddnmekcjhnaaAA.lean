/- The reference's interrupt controller: what it holds; bits; Level, Pulse. -/
import Derived.Test.YtnjddnmekcjhnaaN
namespace Go.Proofs.Ytnjddnmekcjhnaa
open Go.RowKit

/-- n cells, by their places. -/
def arr (n : Nat) (f : Nat → Value) : Array Value := ((List.range n).map f).toArray
theorem arr_get (n : Nat) (f : Nat → Value) (j : Nat) (h : j < n) : (arr n f)[j]? = some (f j) := by simp [arr, h]
theorem arr_none (n : Nat) (f : Nat → Value) (j : Nat) (h : n ≤ j) : (arr n f)[j]? = none := by simp [arr, h]
theorem arr_congr {n : Nat} {f g : Nat → Value} (h : ∀ j, j < n → f j = g j) : arr n f = arr n g := by
  unfold arr
  congr 1
  exact List.map_congr_left (fun j hj => h j (by simpa using hj))
theorem arr_set {n : Nat} {f g : Nat → Value} {i : Nat} {v : Value} (h : ∀ j, j < n → g j = if j = i then v else f j) : (arr n f).setIfInBounds i v = arr n g := by
  apply Array.ext_getElem?
  intro j
  by_cases hj : j < n
  · rw [arr_get _ _ _ hj, h j hj]
    by_cases he : j = i
    · subst he; simp [arr, hj]
    · rw [Array.getElem?_setIfInBounds_ne (fun e => he e.symm), arr_get _ _ _ hj, if_neg he]
  · rw [arr_none _ _ _ (by omega), Array.getElem?_eq_none (by simp [arr]; omega)]

/-- The reference's cells: levels, pulses, who has claimed which (-1: none), what each hart lets. -/
def riCell (x : IA) (v : Value) (j : Nat) : Value :=
  if j < 32 then .bool (x.lev.testBit j) else if j < 64 then .bool (x.pul.testBit (j - 32)) else if j < 96 then .int .i64 (((x.cl[j - 64]?.getD 0 : Nat) : Int) - 1) else v
def RIAt (w : World) (S : Nat → Prop) (r : Nat) (x : IA) : Prop :=
  ∃ (v : Value) (Q : Nat → Prop), Has w r 83 (arr 97 (riCell x v)) ∧ S r ∧ Sl w Q 27 1 v x.lets.length (nats .u64 x.lets) ∧ (∀ k, Q k → S k ∧ k ≠ r)
/-- Source 0 is never up, nor claimed. -/
structure IA.Ev (x : IA) : Prop where
  lev : x.lev.testBit 0 = false
  pul : x.pul.testBit 0 = false
  cl : x.cl[0]?.getD 0 = 0
section
variable {w w' : World} {S S' T : Nat → Prop} {p : Nat} {x : IA}
theorem RIAt.weak (h : RIAt w S p x) (hs : ∀ k, k < w.heap.size → S k → S' k) : RIAt w S' p x := by
  obtain ⟨v, Q, hp, hS, hv, h2⟩ := h
  exact ⟨v, fun k => Q k ∧ k < w.heap.size, hp, hs p hp.lt hS, hv.weak (fun k hk h => ⟨h, hk⟩), fun k hk => ⟨hs k hk.2 (h2 k hk.1).1, (h2 k hk.1).2⟩⟩
theorem RIAt.fr (h : RIAt w S p x) (hf : Fr T w w') (hd : ∀ k, k < w.heap.size → S k → ¬ T k) : RIAt w' S p x := by
  obtain ⟨v, Q, hp, hS, hv, h2⟩ := h
  exact ⟨v, Q, hf.has hp (hd p hp.lt hS), hS, hv.fr hf (fun k hk h => hd k hk (h2 k h).1), h2⟩
end
theorem riL (x : IA) (v : Value) (s : Nat) (h : s < 32) : (arr 97 (riCell x v))[s]? = some (.bool (x.lev.testBit s)) := by rw [arr_get _ _ _ (by omega)]; simp [riCell, h]
theorem riP (x : IA) (v : Value) (s : Nat) (h : s < 32) : (arr 97 (riCell x v))[32 + s]? = some (.bool (x.pul.testBit s)) := by
  rw [arr_get _ _ _ (by omega)]; unfold riCell; rw [if_neg (by omega), if_pos (by omega), show 32 + s - 32 = s by omega]
theorem riC (x : IA) (v : Value) (s : Nat) (h : s < 32) : (arr 97 (riCell x v))[64 + s]? = some (.int .i64 (((x.cl[s]?.getD 0 : Nat) : Int) - 1)) := by
  rw [arr_get _ _ _ (by omega)]; unfold riCell; rw [if_neg (by omega), if_neg (by omega), if_pos (by omega), show 64 + s - 64 = s by omega]
theorem riV (x : IA) (v : Value) : (arr 97 (riCell x v))[96]? = some v := by rw [arr_get _ _ _ (by omega)]; rfl

theorem big_bit {n j : Nat} (hn : n < 4294967296) (hj : 32 ≤ j) : n.testBit j = false :=
  Nat.testBit_lt_two_pow (Nat.lt_of_lt_of_le hn (Nat.pow_le_pow_right (by omega) hj : 2 ^ 32 ≤ 2 ^ j))
theorem clear_bit (n s j : Nat) (hs : s < 32) (hn : n < 4294967296) : (n &&& (4294967295 - 2 ^ s)).testBit j = if j = s then false else n.testBit j := by
  rw [Nat.testBit_and, mask_bit s j hs]
  by_cases h : j = s
  · simp [h]
  · by_cases h2 : j < 32
    · simp [h, h2]
    · simp [h, h2, big_bit hn (Nat.le_of_not_lt h2)]
theorem put_bit (n s j : Nat) : (n ||| 2 ^ s).testBit j = if j = s then true else n.testBit j := by
  rw [Nat.testBit_or, Nat.testBit_two_pow]
  by_cases h : j = s
  · simp [h]
  · have h2 : ¬ s = j := fun e => h e.symm
    simp [h, h2]
theorem setb_bit (n s j : Nat) (b : Bool) (hs : s < 32) (hn : n < 4294967296) : (setb n s b).testBit j = if j = s then b else n.testBit j := by
  unfold setb
  cases b with
  | true => rw [if_pos rfl, put_bit, clear_bit n s j hs hn]; split <;> rfl
  | false => rw [if_neg (by simp), clear_bit n s j hs hn]
theorem bit_eq (n s : Nat) : (n / 2 ^ s % 2 == 1) = n.testBit s := by
  rw [Nat.testBit_eq_decide_div_mod_eq]; rfl
theorem want_bits (x : IA) (l s : Nat) : x.want l s = ((x.cl[s]?.getD 1 == 0) && ((x.lev.testBit s || x.pul.testBit s) && l.testBit s)) := by
  unfold IA.want IA.up
  rw [bit_eq, Nat.testBit_and, Nat.testBit_or]
theorem want_zero {x : IA} (h : x.Ev) (l : Nat) : x.want l 0 = false := by
  rw [want_bits, h.lev, h.pul]; simp

/-! The invariant is kept. -/
theorem ia0_ev (n : Nat) : (ia0 n).Ev := ⟨by simp [ia0], by simp [ia0], by simp [ia0]⟩
theorem IA.Ev.level {x : IA} (h : x.Ev) (hw : x.Wf) {s : Nat} (b : Bool) (h1 : 1 ≤ s) (hs : s < 32) : (x.level s b).Ev :=
  ⟨by show (setb x.lev s b).testBit 0 = false; rw [setb_bit _ _ _ _ hs hw.lev, if_neg (by omega)]; exact h.lev, h.pul, h.cl⟩
theorem IA.Ev.pulse {x : IA} (h : x.Ev) {s : Nat} (h1 : 1 ≤ s) : (x.pulse s).Ev :=
  ⟨h.lev, by show (x.pul ||| 2 ^ s).testBit 0 = false; rw [put_bit, if_neg (by omega)]; exact h.pul, h.cl⟩
theorem IA.Ev.wr {x : IA} (h : x.Ev) (off v : Nat) : (x.wr off v).Ev := by
  unfold IA.wr
  split
  · exact ⟨h.lev, h.pul, h.cl⟩
  · split
    · split
      · rename_i hc
        refine ⟨h.lev, h.pul, ?_⟩
        have := h.cl
        show (x.cl.set (v % 4294967296) 0)[0]?.getD 0 = 0
        rw [List.getElem?_set]
        split
        · split <;> rfl
        · exact this
      · exact h
    · exact h
theorem IA.Ev.aft {x : IA} (h : x.Ev) (hw : x.Wf) (off : Nat) : (x.aft off).Ev := by
  unfold IA.aft
  split
  · exact h
  · split
    · exact h
    · split
      · rename_i k hk
        split
        · exact h
        · rename_i hf
          have hl := x.first_lt (x.lets[k]?.getD 0)
          refine ⟨h.lev, ?_, ?_⟩
          · show (x.pul &&& _).testBit 0 = false
            rw [clear_bit _ _ _ hl hw.pul]
            split
            · rfl
            · exact h.pul
          · show (x.cl.set _ _)[0]?.getD 0 = 0
            rw [List.getElem?_set, if_neg hf]
            exact h.cl
      · exact h

theorem ri_set {w : World} {S Q : Nat → Prop} {r : Nat} {x x' : IA} {v u : Value} (i : Nat) (hp : Has w r 83 (arr 97 (riCell x v))) (hS : S r) (hv : Sl w Q 27 1 v x.lets.length (nats .u64 x.lets)) (hd : ∀ k, Q k → S k ∧ k ≠ r)
    (he : ∀ j, j < 97 → riCell x' v j = if j = i then u else riCell x v j) (hl : x'.lets = x.lets) : RIAt (w.setCell ⟨r, i, none⟩ u) S r x' := by
  have hf := Fr.store w r i u
  refine ⟨v, Q, ?_, hS, ?_, hd⟩
  · have := hp.set i u
    rw [arr_set he] at this
    exact this
  · rw [hl]
    exact hv.fr hf (fun k _ h e => (hd k h).2 e)

theorem refLevel_any (S : Nat → Prop) (r : Nat) (x : IA) (s : Nat) (up : Bool) (w : World) (hx : RIAt w S r x) (hw : x.Wf) (h1 : 1 ≤ s) (h2 : s < 32) :
    Calls Try.prog 25 #[.pointer (some ⟨r, 0, none⟩), .int .i64 s, .bool up] w fun e w' => e = .returned (.tuple #[]) ∧ RIAt w' S r (x.level s up) ∧ Fr S w w' := by
  obtain ⟨v, Q, hp, hS, hv, hd⟩ := hx
  have HP := Lib.hid hp
  have HV := Lib.hid hv
  have HD := Lib.hid hd
  have cL := hp.cell s
  have fL := hp.frozen s
  rw [riL x v s h2] at cL
  have h1' : (1 : Int) ≤ s := by omega
  have h2' : (s : Int) ≤ 31 := by omega
  have h3' : (s : Int) < 32 := by omega
  have hl := hw.lev
  have HL := Lib.hid hl
  have H2 := Lib.hid h2
  clear hp hv hd hl h1 h2
  go_enter Try.func25, Try.ntmps25
  go_wp2_with fail
  go_end0
  refine ⟨rfl, ri_set s HP.out hS HV.out HD.out (fun j hj => ?_) rfl, (Fr.refl _ _).setCell (fun _ => hS) _⟩
  have H2' := H2.out
  unfold riCell
  by_cases hj1 : j < 32
  · rw [if_pos hj1, if_pos hj1]
    show Value.bool ((setb x.lev s up).testBit j) = _
    rw [setb_bit _ _ _ _ H2.out HL.out]
    by_cases he : j = s <;> simp [he]
  · rw [if_neg hj1, if_neg hj1, if_neg (show ¬ j = s by omega)]; rfl
theorem refLevel_no (S : Nat → Prop) (r : Nat) (x : IA) (s : Int) (up : Bool) (w : World) (_ : RIAt w S r x) (h : ¬ (1 ≤ s ∧ s < 32)) :
    Calls Try.prog 25 #[.pointer (some ⟨r, 0, none⟩), .int .i64 s, .bool up] w fun e w' => e = .returned (.tuple #[]) ∧ w' = w := by
  by_cases h1 : 1 ≤ s
  · have h2 : decide (s ≤ 31) = false := by simp; omega
    clear h
    go_enter Try.func25, Try.ntmps25
    go_wp2_with fail
    go_end0
    exact ⟨rfl, rfl⟩
  · have h2 : decide (1 ≤ s) = false := by simp; omega
    clear h h1
    go_enter Try.func25, Try.ntmps25
    go_wp2_with fail
    go_end0
    exact ⟨rfl, rfl⟩
theorem refPulse_any (S : Nat → Prop) (r : Nat) (x : IA) (s : Nat) (w : World) (hx : RIAt w S r x) (h1 : 1 ≤ s) (h2 : s < 32) :
    Calls Try.prog 27 #[.pointer (some ⟨r, 0, none⟩), .int .i64 s] w fun e w' => e = .returned (.tuple #[]) ∧ RIAt w' S r (x.pulse s) ∧ Fr S w w' := by
  obtain ⟨v, Q, hp, hS, hv, hd⟩ := hx
  have HP := Lib.hid hp
  have HV := Lib.hid hv
  have HD := Lib.hid hd
  have cL := hp.cell (32 + s)
  have fL := hp.frozen (32 + s)
  rw [riP x v s h2] at cL
  have h1' : (1 : Int) ≤ s := by omega
  have h2' : (s : Int) ≤ 31 := by omega
  have h3' : (s : Int) < 32 := by omega
  have H2 := Lib.hid h2
  clear hp hv hd h1 h2
  go_enter Try.func27, Try.ntmps27
  go_wp2_with fail
  go_end0
  refine ⟨rfl, ri_set (32 + s) HP.out hS HV.out HD.out (fun j hj => ?_) rfl, (Fr.refl _ _).setCell (fun _ => hS) _⟩
  have H2' := H2.out
  unfold riCell
  by_cases hj1 : j < 32
  · rw [if_pos hj1, if_pos hj1, if_neg (show ¬ j = 32 + s by omega)]; rfl
  · rw [if_neg hj1, if_neg hj1]
    by_cases hj2 : j < 64
    · rw [if_pos hj2, if_pos hj2]
      show Value.bool ((x.pul ||| 2 ^ s).testBit (j - 32)) = _
      rw [put_bit]
      by_cases he : j = 32 + s
      · simp [he]
      · rw [if_neg (show ¬ j - 32 = s by omega), if_neg he]
    · rw [if_neg hj2, if_neg hj2, if_neg (show ¬ j = 32 + s by omega)]; rfl
theorem refPulse_no (S : Nat → Prop) (r : Nat) (x : IA) (s : Int) (w : World) (_ : RIAt w S r x) (h : ¬ (1 ≤ s ∧ s < 32)) :
    Calls Try.prog 27 #[.pointer (some ⟨r, 0, none⟩), .int .i64 s] w fun e w' => e = .returned (.tuple #[]) ∧ w' = w := by
  by_cases h1 : 1 ≤ s
  · have h2 : decide (s ≤ 31) = false := by simp; omega
    clear h
    go_enter Try.func27, Try.ntmps27
    go_wp2_with fail
    go_end0
    exact ⟨rfl, rfl⟩
  · have h2 : decide (1 ≤ s) = false := by simp; omega
    clear h h1
    go_enter Try.func27, Try.ntmps27
    go_wp2_with fail
    go_end0
    exact ⟨rfl, rfl⟩
end Go.Proofs.Ytnjddnmekcjhnaa
