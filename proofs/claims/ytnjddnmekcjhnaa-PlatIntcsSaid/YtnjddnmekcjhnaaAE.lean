/- The reference's interrupt controller: Read. -/
import Derived.Test.YtnjddnmekcjhnaaAD
namespace Go.Proofs.Ytnjddnmekcjhnaa
open Go.RowKit

theorem up_bit (x : IA) (s : Nat) : x.up.testBit s = (x.lev.testBit s || x.pul.testBit s) := by unfold IA.up; rw [Nat.testBit_or]
theorem mod_step (u k : Nat) : u % 2 ^ (k + 1) = if u.testBit k then u % 2 ^ k ||| 2 ^ k else u % 2 ^ k := by
  apply Nat.eq_of_testBit_eq
  intro j
  rw [Nat.testBit_mod_two_pow]
  split
  · rename_i h
    rw [put_bit, Nat.testBit_mod_two_pow]
    by_cases hj : j = k
    · subst hj; simp [h]
    · rw [if_neg hj]
      by_cases h2 : j < k
      · simp [h2, show j < k + 1 by omega]
      · simp [h2, show ¬ j < k + 1 by omega]
  · rename_i h
    rw [Nat.testBit_mod_two_pow]
    by_cases hj : j = k
    · subst hj; simp [h]
    · by_cases h2 : j < k
      · simp [h2, show j < k + 1 by omega]
      · simp [h2, show ¬ j < k + 1 by omega]
theorem up_lt {x : IA} (hw : x.Wf) : x.up < 4294967296 := Nat.or_lt_two_pow (n := 32) hw.lev hw.pul
theorem up_even {x : IA} (he : x.Ev) : x.up % 2 ^ 1 = 0 := by
  have h := up_bit x 0
  rw [he.lev, he.pul] at h
  rw [Nat.testBit_zero] at h
  simp at h
  omega

set_option maxHeartbeats 3200000 in
theorem refRead_zero (S : Nat → Prop) (p : Nat) (x : IA) (w : World) (hx : RIAt w S p x) (hw : x.Wf) (he : x.Ev) :
    Calls Try.prog 23 #[.pointer (some ⟨p, 0, none⟩), .int .u64 0, .int .i64 4] w fun e w' => e = .returned (.tuple #[.int .u64 x.up, .bool true]) ∧ w' = w := by
  obtain ⟨vl, Q, hp, hS, hv, hd⟩ := hx
  have HP := Lib.hid hp
  have hup := up_lt hw
  obtain ⟨u, hu⟩ : ∃ u, x.up = u := ⟨_, rfl⟩
  have hbit : ∀ s, u.testBit s = (x.lev.testBit s || x.pul.testBit s) := fun s => by rw [← hu]; exact up_bit x s
  have h0 := up_even he
  rw [hu] at hup h0
  have HU := Lib.hid hu
  have HBit := Lib.hid hbit
  have H0 := Lib.hid h0
  clear hp hv hd hu hbit h0
  go_enter Try.func23, Try.ntmps23
  go_wp2_with fail
  go_loopw [8, 9] (fun v t wr => ∃ k : Nat, 1 ≤ k ∧ k ≤ 32 ∧ t = .int .i64 k ∧ v = .int .u64 ((u % 2 ^ k : Nat) : Int) ∧ wr = w) (fun _ t _ => 32 - (intOf t).toNat)
  case atStart => exact ⟨1, by omega, by omega, rfl, by rw [H0.out]; rfl, rfl⟩
  case round =>
    obtain ⟨k, hk1, hk, rfl, rfl, rfl⟩ := hrel
    by_cases hk2 : k < 32
    · have hk3 : (k : Int) < 32 := by omega
      have cL := HP.out.cell k
      rw [riL x _ k hk2] at cL
      have cP := HP.out.cell (32 + k)
      rw [riP x _ k hk2] at cP
      have hb := HBit.out k
      obtain ⟨bl, hbl⟩ : ∃ b, x.lev.testBit k = b := ⟨_, rfl⟩
      obtain ⟨bp, hbp⟩ : ∃ b, x.pul.testBit k = b := ⟨_, rfl⟩
      rw [hbl] at cL; rw [hbp] at cP; rw [hbl, hbp] at hb
      have hms := mod_step u k
      obtain ⟨m, hm⟩ : ∃ m, u % 2 ^ k = m := ⟨_, rfl⟩
      obtain ⟨m2, hm2⟩ : ∃ m, u % 2 ^ (k + 1) = m := ⟨_, rfl⟩
      have hml : m < 4294967296 := by rw [← hm]; exact Nat.lt_of_le_of_lt (Nat.mod_le _ _) hup
      have hpk := pow_lt32 hk2
      have hor : bits .or .u64 (m : Int) (2 ^ k) = ((m ||| 2 ^ k : Nat) : Int) := by
        have := u64_or_nat m (2 ^ k) (by omega) (by omega)
        push_cast at this
        exact this
      have ew : IntKind.u64.wrap ((2 : Int) ^ k) = 2 ^ k := by
        have h3 : ((2 ^ k : Nat) : Int) = (2 : Int) ^ k := by push_cast; rfl
        rw [← h3, IntKind.wrap_u64]; omega
      obtain ⟨mo, hmo⟩ : ∃ mo, m ||| 2 ^ k = mo := ⟨_, rfl⟩
      rw [hm] at hms ⊢
      rw [hmo] at hor hms
      rw [hm2] at hms
      have HM2 := Lib.hid hm2
      have HMS := Lib.hid hms
      have HB := Lib.hid hb
      clear hbl hbp hb hms hm hm2 hmo hpk
      rcases hbl : bl with _ | _
      · subst hbl
        rcases hbp : bp with _ | _
        · subst hbp
          have hz : Hid (m2 = m) := by show m2 = m; rw [HMS.out, HB.out]; rfl
          go_wp2_with (first | go_skip)
          go_roundw
          case rel => exact ⟨k + 1, by omega, by omega, by go_num, by rw [HM2.out, hz.out], by first | rfl | exact trivial⟩
          case measure => simp [intOf]; omega
        · subst hbp
          have hz : Hid (m2 = mo) := by show m2 = _; rw [HMS.out, HB.out]; rfl
          go_wp2_with (first | go_skip)
          go_roundw
          case rel => exact ⟨k + 1, by omega, by omega, by go_num, by rw [HM2.out, hz.out], by first | rfl | exact trivial⟩
          case measure => simp [intOf]; omega
      · subst hbl
        have hz : Hid (m2 = mo) := by show m2 = _; rw [HMS.out, HB.out]; rfl
        go_wp2_with (first | go_skip)
        go_roundw
        case rel => exact ⟨k + 1, by omega, by omega, by go_num, by rw [HM2.out, hz.out], by first | rfl | exact trivial⟩
        case measure => simp [intOf]; omega
    · obtain rfl : k = 32 := by omega
      have hz : Hid (x.up = u % 2 ^ 32) := by show x.up = _; rw [HU.out, Nat.mod_eq_of_lt hup]
      go_wp2_with (first | go_skip)
      go_ret2
      exact ⟨by rw [hz.out]; rfl, rfl⟩

set_option maxHeartbeats 3200000 in
theorem refIRead_yes (S : Nat → Prop) (p : Nat) (x : IA) (off : Nat) (w : World) (hx : RIAt w S p x) (hw : x.Wf) (he : x.Ev) (ho : off < 18446744073709551616) :
    Calls Try.prog 23 #[.pointer (some ⟨p, 0, none⟩), .int .u64 off, .int .i64 4] w fun e w' => e = .returned (.tuple #[.int .u64 (x.val off), .bool (x.rok off)]) ∧ RIAt w' S p (x.aft off) ∧ Fr S w w' := by
  have HX := Lib.hid hx
  by_cases h0 : off = 0
  · subst h0
    refine (refRead_zero S p x w hx hw he).mono fun e w' ⟨h1, h2⟩ => ?_
    subst h2
    have hok : x.rok 0 = true := rfl
    have hva : x.val 0 = x.up := rfl
    have haf : x.aft 0 = x := rfl
    rw [hok, hva, haf]
    exact ⟨h1, hx, Fr.refl _ _⟩
  have h0' : ((off : Int) == 0) = false := by simp; omega
  obtain ⟨vl, Q, hp, hS, hv, hd⟩ := hx
  have HP := Lib.hid hp
  have HV := Lib.hid hv
  have HD := Lib.hid hd
  have cL := HP.out.cell 96
  rw [riV] at cL
  have HEv := Lib.hid he
  have HO := Lib.hid ho
  have H0 := Lib.hid h0
  clear hp hv hd he ho h0
  rcases hpl : x.place off 4096 with _ | h
  · have HPL := Lib.hid hpl
    clear hpl
    have pl1 : Hid (plN (x.place off 4096) = -1) := by show _ = _; rw [HPL.out]; rfl
    rcases hpl2 : x.place off 8192 with _ | h
    · have HPL2 := Lib.hid hpl2
      have pl2 : Hid (plN (x.place off 8192) = -1) := by show _ = _; rw [hpl2]; rfl
      clear hpl2
      go_enter Try.func23, Try.ntmps23
      go_wp2_with fail
      refine (refPlace_any S p x off 4096 w HX.out hw HO.out (by omega) (by omega)).mono ?_
      rintro e w' ⟨he, rfl⟩
      rw [pl1.out] at he
      subst he
      go_wp2_with fail
      refine (refPlace_any S p x off 8192 _ HX.out hw HO.out (by omega) (by omega)).mono ?_
      rintro e w' ⟨he, rfl⟩
      rw [pl2.out] at he
      subst he
      go_wp2_with fail
      go_ret2
      have hok : x.rok off = false := by unfold IA.rok IA.wok; rw [HPL.out, HPL2.out]; simp [H0.out]
      have hva : x.val off = 0 := by unfold IA.val; rw [if_neg H0.out, HPL.out, HPL2.out]
      have haf : x.aft off = x := by unfold IA.aft; rw [if_neg H0.out, HPL.out, HPL2.out]
      refine ⟨by rw [hok, hva]; rfl, ?_, Fr.refl _ _⟩
      rw [haf]
      exact HX.out
    · have hh := IA.place_lt hpl2
      have h64 := hw.harts
      have pl2 : Hid (plN (x.place off 8192) = h) := by show _ = _; rw [hpl2]; rfl
      have HPL2 := Lib.hid hpl2
      clear hpl2
      have hok : Hid (x.rok off = true) := by show x.rok off = true; unfold IA.rok IA.wok; rw [HPL.out, HPL2.out]; simp
      have hlh : x.lets[h]?.getD 0 = x.lets[h] := by rw [List.getElem?_eq_getElem hh]; rfl
      obtain ⟨s, hs⟩ : ∃ s, x.first x.lets[h] = s := ⟨_, rfl⟩
      have hsl : s < 32 := by rw [← hs]; exact IA.first_lt _ _
      have hva : Hid (x.val off = s) := by show x.val off = s; unfold IA.val; rw [if_neg H0.out, HPL.out, HPL2.out]; dsimp only; rw [hlh]; exact hs
      have haf : Hid (x.aft off = if s = 0 then x else { x with cl := x.cl.set s (h + 1), pul := x.pul &&& (4294967295 - 2 ^ s) }) := by
        show x.aft off = _; unfold IA.aft; rw [if_neg H0.out, HPL.out, HPL2.out]; dsimp only; rw [hlh, hs]
      have HS := Lib.hid hs
      have hwS := wrap64 s (by omega)
      have hh0 : decide ((h : Int) < 0) = false := by simp
      clear hs hlh
      rcases Nat.eq_zero_or_pos s with hs0 | hs0
      · subst hs0
        have hz : ((0 : Nat) : Int) = 0 := rfl
        go_enter Try.func23, Try.ntmps23
        go_wp2_with fail
        refine (refPlace_any S p x off 4096 w HX.out hw HO.out (by omega) (by omega)).mono ?_
        rintro e w' ⟨he, rfl⟩
        rw [pl1.out] at he
        subst he
        go_wp2_with fail
        refine (refPlace_any S p x off 8192 _ HX.out hw HO.out (by omega) (by omega)).mono ?_
        rintro e w' ⟨he, rfl⟩
        rw [pl2.out] at he
        subst he
        go_wp2_with fail
        refine (refFirst_any S p x h _ HX.out hw HEv.out hh).mono ?_
        rintro e w' ⟨he, rfl⟩
        rw [HS.out] at he
        subst he
        go_wp2_with fail
        go_ret2
        refine ⟨by rw [hok.out, hva.out]; rfl, ?_, Fr.refl _ _⟩
        rw [haf.out, if_pos trivial]
        exact HX.out
      · have hne : ((s : Int) != 0) = true := by simp; omega
        have hi3 : (s : Int) < 32 := by omega
        have cC := HP.out.cell (64 + s)
        have fC := HP.out.frozen (64 + s)
        rw [riC x _ s hsl] at cC
        have cP := HP.out.cell (32 + s)
        have fP := HP.out.frozen (32 + s)
        rw [riP x _ s hsl] at cP
        have h4 := ri_set (x := x) (x' := { x with cl := x.cl.set s (h + 1) }) (u := .int .i64 (h : Int)) (64 + s) HP.out hS HV.out HD.out (fun j hj => by rw [ri_claim hsl hw.cl j hj, show (((h + 1 : Nat) : Int) - 1) = (h : Int) by omega]) rfl
        have HP2 : Hid (Has (w.setCell ⟨p, 64 + s, none⟩ (.int .i64 (h : Int))) p 83 (arr 97 (riCell { x with cl := x.cl.set s (h + 1) } vl))) := by
          have := HP.out.set (64 + s) (.int .i64 (h : Int))
          rw [arr_set (g := riCell { x with cl := x.cl.set s (h + 1) } vl) (fun j hj => by rw [ri_claim hsl hw.cl j hj, show (((h + 1 : Nat) : Int) - 1) = (h : Int) by omega])] at this
          exact this
        have HSL := Lib.hid hsl
        have HS0 := Lib.hid hs0
        clear hs0 hsl h4
        go_enter Try.func23, Try.ntmps23
        go_wp2_with fail
        refine (refPlace_any S p x off 4096 w HX.out hw HO.out (by omega) (by omega)).mono ?_
        rintro e w' ⟨he, rfl⟩
        rw [pl1.out] at he
        subst he
        go_wp2_with fail
        refine (refPlace_any S p x off 8192 _ HX.out hw HO.out (by omega) (by omega)).mono ?_
        rintro e w' ⟨he, rfl⟩
        rw [pl2.out] at he
        subst he
        go_wp2_with fail
        refine (refFirst_any S p x h _ HX.out hw HEv.out hh).mono ?_
        rintro e w' ⟨he, rfl⟩
        rw [HS.out] at he
        subst he
        go_wp2_with fail
        go_ret2
        have h5 := ri_set (x := { x with cl := x.cl.set s (h + 1) }) (x' := { x with cl := x.cl.set s (h + 1), pul := x.pul &&& (4294967295 - 2 ^ s) }) (u := .bool false) (32 + s) HP2.out hS (HV.out.fr (Fr.store _ _ _ _) (fun k _ h e => (HD.out k h).2 e)) HD.out (fun j hj => ri_unpulse (x := { x with cl := x.cl.set s (h + 1) }) HSL.out hw.pul j hj) rfl
        refine ⟨by rw [hok.out, hva.out]; rfl, ?_, ((Fr.refl _ _).setCell (fun _ => hS) _).setCell (fun _ => hS) _⟩
        rw [haf.out, if_neg (by have := HS0.out; omega)]
        exact h5
  · have hh := IA.place_lt hpl
    have hlh : x.lets[h]?.getD 0 = x.lets[h] := by rw [List.getElem?_eq_getElem hh]; rfl
    have hok : Hid (x.rok off = true) := by show x.rok off = true; unfold IA.rok IA.wok; rw [hpl]; simp
    have hva : Hid (x.val off = x.lets[h]) := by show x.val off = _; unfold IA.val; rw [if_neg H0.out, hpl]; dsimp only; rw [hlh]
    have haf : Hid (x.aft off = x) := by show x.aft off = _; unfold IA.aft; rw [if_neg H0.out, hpl]
    have pl1 : Hid (plN (x.place off 4096) = h) := by show _ = _; rw [hpl]; rfl
    obtain ⟨A, c, rfl, hrd, _, _⟩ := HV.out.form
    obtain ⟨b, o, hA, hb, _, hcl⟩ := hrd (by intro h0; have := nats_length .u64 x.lets; rw [h0] at this; simp at this; omega)
    subst hA
    have cH := hcl h _ (nats_get _ _ _ hh)
    obtain ⟨l, hl⟩ : ∃ l, x.lets[h] = l := ⟨_, rfl⟩
    rw [hl] at cH hva
    have hh0 : (0 : Int) ≤ (h : Int) := by omega
    clear hcl hrd hlh hl hpl
    go_enter Try.func23, Try.ntmps23
    go_wp2_with fail
    refine (refPlace_any S p x off 4096 w HX.out hw HO.out (by omega) (by omega)).mono ?_
    rintro e w' ⟨he, rfl⟩
    rw [pl1.out] at he
    subst he
    go_wp2_with fail
    go_ret2
    refine ⟨by rw [hok.out, hva.out]; rfl, ?_, Fr.refl _ _⟩
    rw [haf.out]
    exact HX.out
theorem refIRead_no (p : Nat) (off size : Int) (w : World) (h : size ≠ 4) :
    Calls Try.prog 23 #[.pointer (some ⟨p, 0, none⟩), .int .u64 off, .int .i64 size] w fun e w' => e = .returned (.tuple #[.int .u64 0, .bool false]) ∧ w' = w := by
  have h1 : (size != 4) = true := by simp [h]
  go_enter Try.func23, Try.ntmps23
  go_wp2
  go_ret2
  exact ⟨rfl, rfl⟩
end Go.Proofs.Ytnjddnmekcjhnaa
