/- The interrupt controller: New, Level, Pulse, Pending, hart of the program. -/
import Derived.Test.YtnjddnmekcjhnaaG
import Derived.Laws.MakeOwn
namespace Go.Proofs.Ytnjddnmekcjhnaa
open Go.RowKit

def setb (n s : Nat) (b : Bool) : Nat := if b then (n &&& (4294967295 - 2 ^ s)) ||| 2 ^ s else n &&& (4294967295 - 2 ^ s)
def IA.level (x : IA) (s : Nat) (b : Bool) : IA := { x with lev := setb x.lev s b }
def IA.pulse (x : IA) (s : Nat) : IA := { x with pul := x.pul ||| 2 ^ s }
def IA.place (x : IA) (off row : Nat) : Option Nat := if row ≤ off ∧ off % 4 = 0 ∧ (off - row) / 4 < x.lets.length then some ((off - row) / 4) else none
def ia0 (n : Nat) : IA := ⟨0, 0, List.replicate 32 0, List.replicate n 0⟩

theorem pow_lt32 {s : Nat} (h : s < 32) : 2 ^ s < 4294967296 := Nat.pow_lt_pow_right (by omega) h (n := 32)
theorem setb_lt {n s : Nat} (b : Bool) (h : n < 4294967296) (hs : s < 32) : setb n s b < 4294967296 := by
  have h1 : n &&& (4294967295 - 2 ^ s) < 4294967296 := Nat.lt_of_le_of_lt Nat.and_le_left h
  unfold setb
  split
  · exact Nat.or_lt_two_pow (n := 32) h1 (pow_lt32 hs)
  · exact h1
theorem ia0_wf (n : Nat) (h : n ≤ 64) : (ia0 n).Wf := ⟨by simp [ia0], by simp [ia0], by simp [ia0], by simp [ia0], by simp [ia0], by simp [ia0]; omega⟩

theorem source_yes (s : Int) (w : World) (h : 1 ≤ s ∧ s < 32) : Calls Try.prog 41 #[.int .i64 s] w fun e w' => e = .returned (.bool true) ∧ w' = w := by
  obtain ⟨h1, h2⟩ := h
  go_enter Try.func41, Try.ntmps41
  go_wp2
  go_ret
  exact ⟨rfl, rfl⟩
theorem source_no (s : Int) (w : World) (h : ¬ (1 ≤ s ∧ s < 32)) : Calls Try.prog 41 #[.int .i64 s] w fun e w' => e = .returned (.bool false) ∧ w' = w := by
  by_cases h1 : s < 1
  · go_enter Try.func41, Try.ntmps41
    go_wp2
    go_ret
    exact ⟨rfl, rfl⟩
  · have h2 : 1 ≤ s := by omega
    have h3 : decide (s < 32) = false := by simp; omega
    go_enter Try.func41, Try.ntmps41
    go_wp2
    go_ret
    exact ⟨rfl, rfl⟩

theorem Try.info72 : (Try.prog.info? 72).map (fun i => (i.zero, i.size, i.bytes)) = some (some (.int .u32 0), 1, 4) := by kernel_rfl

theorem newIntc_no (n : Int) (w : World) (h : ¬ (1 ≤ n ∧ n ≤ 64)) : Calls Try.prog 16 #[.int .i64 n] w fun e w' => e = .returned (.tuple #[.pointer none, .int .i64 1]) ∧ w' = w := by
  by_cases h1 : n < 1
  · go_enter Try.func16, Try.ntmps16
    go_wp2
    go_ret2
    exact ⟨rfl, rfl⟩
  · have h2 : 1 ≤ n := by omega
    have h3 : 64 < n := by omega
    go_enter Try.func16, Try.ntmps16
    go_wp2
    go_ret2
    exact ⟨rfl, rfl⟩
theorem newIntc_yes (n : Nat) (w : World) (h : 1 ≤ n ∧ n ≤ 64) : Calls Try.prog 16 #[.int .i64 n] w fun e w' =>
    ∃ p, w.heap.size ≤ p ∧ e = .returned (.tuple #[.pointer (some ⟨p, 0, none⟩), .int .i64 0]) ∧ IAt w' (fun k => w.heap.size ≤ k) p (ia0 n) ∧ Fr (fun _ => False) w w' := by
  obtain ⟨h1, h2⟩ := h
  have h3 : (1 : Int) ≤ n := by omega
  have h4 : (n : Int) ≤ 64 := by omega
  obtain ⟨i0, hi, hz0, hz1, hz2⟩ := info_parts Try.info72
  have hmk := run_make (w := w) (P := Try.prog) 73 72 i0 _ Try.underlying73 hi hz0 .i64 .i64 n n (by omega) (Int.le_refl _) (by rw [hz2]; omega) (by omega)
  rw [hz1, show madeCells (Value.int .u32 0).cells ((n : Int).toNat * 1) = (List.replicate n (Value.int .u32 0)).toArray from by
    rw [Int.toNat_natCast, Nat.mul_one, ← Array.toArray_toList (xs := madeCells _ _)]
    exact congrArg _ (toList_madeCells_one _ _), Int.toNat_natCast] at hmk
  have hI := Lib.hid hi
  clear hi hz0 hz1 hz2
  go_enter Try.func16, Try.ntmps16
  go_wp2
  go_ret2
  have hf := ((Fr.refl (fun _ => False) w).alloc (.cells (Array.replicate n (Value.int .u32 0)) 72))
  refine ⟨w.heap.size + 1, by omega, rfl, ⟨.slice (some ⟨w.heap.size, 0, none⟩) n n, fun k => k = w.heap.size, ?_, Nat.le_succ _, ?_, fun k hk => ⟨by omega, by omega⟩⟩, hf.alloc _⟩
  · have h := Has.new (w.alloc (.cells (Array.replicate n (Value.int .u32 0)) 72)) 76 ((ia0 n).cells (.slice (some ⟨w.heap.size, 0, none⟩) n n))
    rw [show (w.alloc (.cells (Array.replicate n (Value.int .u32 0)) 72)).heap.size = w.heap.size + 1 by simp] at h
    exact h
  · have hg : nats .u32 (ia0 n).lets = List.replicate n (Value.int .u32 0) := by simp [nats, ia0]
    rw [hg]
    refine Sl.fr (T := fun _ => False) (w := w.alloc (.cells (Array.replicate n (Value.int .u32 0)) 72)) ?_ ((Fr.refl _ _).alloc _) (fun _ _ _ h => h)
    refine ⟨by simp [ia0], .inr ⟨w.heap.size, 0, n, _, by simp [ia0], Has.new _ _ _, rfl, by simp [ia0], by simp, by simp [maxLen]; omega, fun j hj => ?_⟩⟩
    simp only [Array.getElem?_replicate, List.getElem?_replicate, Nat.zero_add]
set_option maxHeartbeats 1600000 in
theorem hart_any (S : Nat → Prop) (p : Nat) (x : IA) (off row : Nat) (w : World) (hx : IAt w S p x) (hw : x.Wf) (ho : off < 18446744073709551616) (hr : row < 18446744073709551616) :
    Calls Try.prog 40 #[.pointer (some ⟨p, 0, none⟩), .int .u64 off, .int .u64 row] w fun e w' => (∃ m, e = .returned (.tuple #[.int .i64 m, .bool (x.place off row).isSome]) ∧ ∀ h, x.place off row = some h → m = h) ∧ ∃ nq, w' = w.drewN nq := by
  obtain ⟨v, Q, hp, hS, hv, h2⟩ := hx
  obtain ⟨A, c, rfl, hrd, _, _⟩ := hv.form
  have HP := Lib.hid hp
  clear hp hv h2 hrd
  have cL := HP.out.cell 34
  rw [IA.cellsL x _ hw.cl] at cL
  have hl64 := hw.harts
  by_cases h1 : off < row
  · have hpl : Hid (x.place off row = none) := by show x.place off row = none; unfold IA.place; rw [if_neg (by omega)]
    have h1' : decide (row ≤ off) = false := by simp; omega
    clear h1
    go_enter Try.func40, Try.ntmps40
    go_wp2_with fail
    go_quiet (fail)
    go_wp2
    go_ret2
    rw [hpl.out]
    exact ⟨⟨_, rfl, fun h he => by cases he⟩, _, rfl⟩
  · obtain ⟨d, hd⟩ : ∃ d, off = row + d := ⟨off - row, by omega⟩
    have h1' : row ≤ off := by omega
    have e1 : IntKind.u64.wrap ((off : Int) - row) = d := by rw [IntKind.wrap_u64]; omega
    obtain ⟨q, hq⟩ : ∃ q, d / 4 = q := ⟨_, rfl⟩
    have e2 : (d : Int) / 4 = q := by omega
    have e4 : IntKind.u64.wrap (q : Int) = q := by rw [IntKind.wrap_u64]; omega
    have e5 : IntKind.i64.wrap (q : Int) = q := by rw [IntKind.wrap_i64]; omega
    have e3 : (off : Int).tmod 4 = ((off % 4 : Nat) : Int) := by rw [Int.tmod_eq_emod_of_nonneg (by omega)]; omega
    have hod : (off - row) / 4 = q := by rw [show off - row = d by omega]; exact hq
    clear h1
    by_cases h4 : off % 4 = 0
    · rw [h4] at e3
      by_cases h5 : q < x.lets.length
      · have hpl : Hid (x.place off row = some q) := by show x.place off row = _; unfold IA.place; rw [hod, if_pos ⟨by omega, h4, h5⟩]
        have HO := Lib.hid hd
        have h6 : IntKind.u64.wrap ((x.lets.length : Nat) : Int) = x.lets.length := by rw [IntKind.wrap_u64]; omega
        clear hod hd h4 hq
        go_enter Try.func40, Try.ntmps40
        go_wp2_with fail
        go_quiet (fail)
        go_wp2
        go_ret2
        rw [hpl.out]
        exact ⟨⟨_, rfl, fun h he => by cases he; rfl⟩, _, rfl⟩
      · have hpl : Hid (x.place off row = none) := by show x.place off row = _; unfold IA.place; rw [hod, if_neg (by omega)]
        have HO := Lib.hid hd
        have h6 : IntKind.u64.wrap ((x.lets.length : Nat) : Int) = x.lets.length := by rw [IntKind.wrap_u64]; omega
        have h7 : decide (q < x.lets.length) = false := by simp; omega
        clear hod hd h4 h5 hq
        go_enter Try.func40, Try.ntmps40
        go_wp2_with fail
        go_quiet (fail)
        go_wp2
        go_ret2
        rw [hpl.out]
        exact ⟨⟨_, rfl, fun h he => by cases he⟩, _, rfl⟩
    · have hpl : Hid (x.place off row = none) := by show x.place off row = _; unfold IA.place; rw [hod, if_neg (by omega)]
      have HO := Lib.hid hd
      clear hod hd hq
      rcases (show off % 4 = 1 ∨ off % 4 = 2 ∨ off % 4 = 3 by omega) with h5 | h5 | h5 <;> rw [h5] at e3 <;> clear h4 h5
      all_goals
        go_enter Try.func40, Try.ntmps40
        go_wp2_with fail
        go_quiet (fail)
        go_wp2
        go_ret2
        rw [hpl.out]
        exact ⟨⟨_, rfl, fun h he => by cases he⟩, _, rfl⟩

theorem pow_mod32 {s : Nat} (h : s < 32) : (2 : Int) ^ s % 4294967296 = 2 ^ s := by
  have h1 := pow_lt32 h
  have h2 : ((2 ^ s : Nat) : Int) = 2 ^ s := by push_cast; rfl
  rw [← h2]
  generalize 2 ^ s = q at *
  omega
theorem u32_clear (n : Nat) {s : Nat} (hn : n < 4294967296) (h : s < 32) : bits .andNot .u32 (n : Int) (2 ^ s) = ((n &&& (4294967295 - 2 ^ s) : Nat) : Int) := by
  have h2 : ((2 ^ s : Nat) : Int) = 2 ^ s := by push_cast; rfl
  rw [← h2]
  exact u32_andNot_nat n (2 ^ s) hn (pow_lt32 h)
theorem u32_put (n : Nat) {s : Nat} (hn : n < 4294967296) (h : s < 32) : bits .or .u32 (n : Int) (2 ^ s) = ((n ||| 2 ^ s : Nat) : Int) := by
  have h2 : ((2 ^ s : Nat) : Int) = 2 ^ s := by push_cast; rfl
  rw [← h2]
  exact u32_or_nat n (2 ^ s) hn (pow_lt32 h)

def IA.pending (x : IA) (h : Int) : Bool := if 0 ≤ h then (match x.lets[h.toNat]? with | some l => x.first l != 0 | none => false) else false

set_option maxHeartbeats 1600000 in
theorem pending_any (S : Nat → Prop) (p : Nat) (x : IA) (h : Int) (w : World) (hx : IAt w S p x) (hw : x.Wf) :
    Calls Try.prog 20 #[.pointer (some ⟨p, 0, none⟩), .int .i64 h] w fun e w' => e = .returned (.bool (x.pending h)) ∧ ∃ nq, w' = w.drewN nq := by
  have HX := Lib.hid hx
  obtain ⟨v, Q, hp, hS, hv, h2⟩ := hx
  obtain ⟨A, c, rfl, hrd, _, _⟩ := hv.form
  have HP := Lib.hid hp
  clear hp hv h2 hrd
  have cL := HP.out.cell 34
  rw [IA.cellsL x _ hw.cl] at cL
  by_cases h0 : 0 ≤ h
  · obtain ⟨k, rfl⟩ := Int.eq_ofNat_of_zero_le h0
    have h0' : (0 : Int) ≤ k := by omega
    by_cases hk : k < x.lets.length
    · have HE : Hid (x.pending k = (x.first x.lets[k] != 0)) := by
        show x.pending k = _
        unfold IA.pending
        rw [if_pos h0', Int.toNat_natCast, List.getElem?_eq_getElem hk]
      have HC : Hid (((x.first x.lets[k] : Int) != 0) = (x.first x.lets[k] != 0)) := by
        show ((x.first x.lets[k] : Int) != 0) = (x.first x.lets[k] != 0)
        rw [Bool.eq_iff_iff]; simp
      clear h0
      go_enter Try.func20, Try.ntmps20
      go_wp2_with fail
      refine (first_any S p x k w HX.out hw hk).mono ?_
      rintro e w' ⟨rfl, nq, rfl⟩
      go_wp2
      go_ret
      exact ⟨by rw [HE.out, ← HC.out]; rfl, _, rfl⟩
    · have HE : Hid (x.pending k = false) := by
        show x.pending k = _
        unfold IA.pending
        rw [if_pos h0', Int.toNat_natCast, List.getElem?_eq_none (by omega)]
      have hk' : decide (k < x.lets.length) = false := by simp; omega
      clear h0 hk
      go_enter Try.func20, Try.ntmps20
      go_wp2_with fail
      go_ret
      exact ⟨by rw [HE.out]; rfl, 0, rfl⟩
  · have HE : Hid (x.pending h = false) := by
      show x.pending h = _
      unfold IA.pending
      rw [if_neg h0]
    have hk' : decide (0 ≤ h) = false := by simp; omega
    clear h0
    go_enter Try.func20, Try.ntmps20
    go_wp2_with fail
    go_ret
    exact ⟨by rw [HE.out]; rfl, 0, rfl⟩

theorem ia_set {w : World} {S Q : Nat → Prop} {p : Nat} {x x' : IA} {v u : Value} (i : Nat) (hp : Has w p 76 (x.cells v)) (hS : S p) (hv : Sl w Q 72 1 v x.lets.length (nats .u32 x.lets)) (hd : ∀ k, Q k → S k ∧ k ≠ p)
    (he : (x.cells v).setIfInBounds i u = x'.cells v) (hl : x'.lets = x.lets) : IAt (w.setCell ⟨p, i, none⟩ u) S p x' := by
  have hf := Fr.store w p i u
  refine ⟨v, Q, ?_, hS, ?_, hd⟩
  · have := hp.set i u
    rw [he] at this
    exact this
  · rw [hl]
    exact hv.fr hf (fun k _ h e => (hd k h).2 e)

set_option maxHeartbeats 1600000 in
theorem level_any (S : Nat → Prop) (p : Nat) (x : IA) (s : Nat) (up : Bool) (w : World) (hx : IAt w S p x) (hw : x.Wf) (h1 : 1 ≤ s) (h2 : s < 32) :
    Calls Try.prog 18 #[.pointer (some ⟨p, 0, none⟩), .int .i64 s, .bool up] w fun e w' => e = .returned (.tuple #[]) ∧ IAt w' S p (x.level s up) ∧ Fr S w w' := by
  obtain ⟨v, Q, hp, hS, hv, hd⟩ := hx
  have HP := Lib.hid hp
  have HV := Lib.hid hv
  have HD := Lib.hid hd
  clear hp hv hd
  have c0 := HP.out.cell 0
  have f0 := HP.out.frozen 0
  rw [IA.cells0] at c0
  have h1' : (1 : Int) ≤ s := by omega
  have h2' : (s : Int) < 32 := by omega
  have hm := pow_mod32 h2
  have e1 := u32_clear x.lev hw.lev h2
  have hlt : x.lev &&& (4294967295 - 2 ^ s) < 4294967296 := setb_lt false hw.lev h2
  obtain ⟨m, hm1⟩ : ∃ m, x.lev &&& (4294967295 - 2 ^ s) = m := ⟨_, rfl⟩
  rw [hm1] at e1 hlt
  have e2 := u32_put m hlt h2
  obtain ⟨m2, hm2⟩ : ∃ m2, m ||| 2 ^ s = m2 := ⟨_, rfl⟩
  rw [hm2] at e2
  have HP2 := HP.out.set 0 (.int .u32 m)
  rw [IA.set0] at HP2
  have c1 := HP2.cell 0
  rw [IA.cells0] at c1
  have f1 := HP2.frozen 0
  dsimp only at c1
  have HP2 := Lib.hid HP2
  have HM1 := Lib.hid hm1
  have HM2 := Lib.hid hm2
  clear hm1 hm2
  go_enter Try.func18, Try.ntmps18
  go_wp2_with fail
  refine (source_yes s w ⟨h1', h2'⟩).mono ?_
  rintro e w' ⟨rfl, hw'⟩
  subst hw'
  cases up with
  | false =>
    go_wp2_with fail
    go_region
    go_wp2_with fail
    go_end0
    refine ⟨rfl, (ia_set 0 HP.out hS HV.out HD.out (x' := x.level s false) ?_ rfl).fr (T := fun _ => False) (Fr.refl _ _).drew (fun _ _ _ h => h), ((Fr.refl _ _).setCell (fun _ => hS) _).drew⟩
    rw [IA.set0, ← HM1.out]
    rfl
  | true =>
    go_wp2_with fail
    go_region
    go_wp2_with fail
    go_region
    go_wp2_with fail
    go_end0
    refine ⟨rfl, (ia_set 0 HP2.out hS (HV.out.fr (Fr.store _ _ _ _) (fun k _ h e => (HD.out k h).2 e)) HD.out (x' := x.level s true) ?_ rfl).fr (T := fun _ => False) (Fr.refl _ _).drew.drew (fun _ _ _ h => h),
      (((Fr.refl _ _).setCell (fun _ => hS) _).setCell (fun _ => hS) _).drew.drew⟩
    rw [IA.set0, ← HM2.out, ← HM1.out]
    rfl

theorem level_no (S : Nat → Prop) (p : Nat) (x : IA) (s : Int) (up : Bool) (w : World) (_ : IAt w S p x) (h : ¬ (1 ≤ s ∧ s < 32)) :
    Calls Try.prog 18 #[.pointer (some ⟨p, 0, none⟩), .int .i64 s, .bool up] w fun e w' => e = .returned (.tuple #[]) ∧ w' = w := by
  go_enter Try.func18, Try.ntmps18
  go_wp2_with fail
  refine (source_no s w h).mono ?_
  rintro e w' ⟨rfl, hw'⟩
  subst hw'
  go_wp2_with fail
  refine bodyPost_ret (results_none rfl _ _ _) rfl ?_
  exact ⟨rfl, rfl⟩
theorem pulse_no (S : Nat → Prop) (p : Nat) (x : IA) (s : Int) (w : World) (_ : IAt w S p x) (h : ¬ (1 ≤ s ∧ s < 32)) :
    Calls Try.prog 26 #[.pointer (some ⟨p, 0, none⟩), .int .i64 s] w fun e w' => e = .returned (.tuple #[]) ∧ w' = w := by
  go_enter Try.func26, Try.ntmps26
  go_wp2_with fail
  refine (source_no s w h).mono ?_
  rintro e w' ⟨rfl, hw'⟩
  subst hw'
  go_wp2_with fail
  go_end0
  exact ⟨rfl, rfl⟩
set_option maxHeartbeats 1600000 in
theorem pulse_any (S : Nat → Prop) (p : Nat) (x : IA) (s : Nat) (w : World) (hx : IAt w S p x) (hw : x.Wf) (h1 : 1 ≤ s) (h2 : s < 32) :
    Calls Try.prog 26 #[.pointer (some ⟨p, 0, none⟩), .int .i64 s] w fun e w' => e = .returned (.tuple #[]) ∧ IAt w' S p (x.pulse s) ∧ Fr S w w' := by
  obtain ⟨v, Q, hp, hS, hv, hd⟩ := hx
  have HP := Lib.hid hp
  have HV := Lib.hid hv
  have HD := Lib.hid hd
  clear hp hv hd
  have c0 := HP.out.cell 1
  have f0 := HP.out.frozen 1
  rw [IA.cells1] at c0
  have h1' : (1 : Int) ≤ s := by omega
  have h2' : (s : Int) < 32 := by omega
  have hm := pow_mod32 h2
  have e2 := u32_put x.pul hw.pul h2
  obtain ⟨m2, hm2⟩ : ∃ m2, x.pul ||| 2 ^ s = m2 := ⟨_, rfl⟩
  rw [hm2] at e2
  have HM2 := Lib.hid hm2
  clear hm2
  go_enter Try.func26, Try.ntmps26
  go_wp2_with fail
  refine (source_yes s w ⟨h1', h2'⟩).mono ?_
  rintro e w' ⟨rfl, hw'⟩
  subst hw'
  go_wp2_with fail
  go_region
  go_wp2_with fail
  go_end0
  refine ⟨rfl, (ia_set 1 HP.out hS HV.out HD.out (x' := x.pulse s) ?_ rfl).fr (T := fun _ => False) (Fr.refl _ _).drew (fun _ _ _ h => h), ((Fr.refl _ _).setCell (fun _ => hS) _).drew⟩
  rw [IA.set1, ← HM2.out]
  rfl
end Go.Proofs.Ytnjddnmekcjhnaa
