/- The reference's interrupt controller: Write, Read. -/
import Derived.Test.YtnjddnmekcjhnaaAC
namespace Go.Proofs.Ytnjddnmekcjhnaa
open Go.RowKit

theorem ri_let {w : World} {S Q : Nat → Prop} {p g o h n2 : Nat} {x : IA} {v : Value} (hp : Has w p 83 (arr 97 (riCell x v))) (hS : S p) (hd : ∀ k, Q k → S k ∧ k ≠ p) (hg : Q g)
    (hst : Sl (w.setCell ⟨g, o + h, none⟩ (.int .u64 n2)) Q 27 1 v x.lets.length ((nats .u64 x.lets).set h (.int .u64 n2))) :
    RIAt (w.setCell ⟨g, o + h, none⟩ (.int .u64 n2)) S p { x with lets := x.lets.set h n2 } ∧ Fr S w (w.setCell ⟨g, o + h, none⟩ (.int .u64 n2)) := by
  refine ⟨⟨v, Q, ?_, hS, ?_, hd⟩, (Fr.refl _ _).setCell (fun _ => (hd g hg).1) _⟩
  · exact (Fr.store w g (o + h) (.int .u64 n2)).has hp (fun e => (hd g hg).2 e.symm)
  · rw [nats_set] at hst
    rw [List.length_set]
    exact hst
/-- A claim's cell is set. -/
theorem ri_claim {x : IA} {v : Value} {s c : Nat} (hs : s < 32) (hl : x.cl.length = 32) (j : Nat) (_hj : j < 97) : riCell { x with cl := x.cl.set s c } v j = if j = 64 + s then .int .i64 ((c : Int) - 1) else riCell x v j := by
  unfold riCell
  by_cases h1 : j < 32
  · rw [if_pos h1, if_pos h1, if_neg (show ¬ j = 64 + s by omega)]
  · rw [if_neg h1, if_neg h1]
    by_cases h2 : j < 64
    · rw [if_pos h2, if_pos h2, if_neg (show ¬ j = 64 + s by omega)]
    · rw [if_neg h2, if_neg h2]
      by_cases h3 : j < 96
      · rw [if_pos h3, if_pos h3]
        show Value.int .i64 ((((x.cl.set s c)[j - 64]?.getD 0 : Nat) : Int) - 1) = _
        by_cases h4 : j = 64 + s
        · rw [if_pos h4, List.getElem?_set, if_pos (by omega), if_pos (by omega)]; rfl
        · rw [if_neg h4, List.getElem?_set, if_neg (by omega)]
      · rw [if_neg h3, if_neg h3, if_neg (show ¬ j = 64 + s by omega)]
theorem ri_unpulse {x : IA} {v : Value} {s : Nat} (hs : s < 32) (hn : x.pul < 4294967296) (j : Nat) (_hj : j < 97) : riCell { x with pul := x.pul &&& (4294967295 - 2 ^ s) } v j = if j = 32 + s then .bool false else riCell x v j := by
  unfold riCell
  by_cases h1 : j < 32
  · rw [if_pos h1, if_pos h1, if_neg (show ¬ j = 32 + s by omega)]
  · rw [if_neg h1, if_neg h1]
    by_cases h2 : j < 64
    · rw [if_pos h2, if_pos h2]
      show Value.bool ((x.pul &&& (4294967295 - 2 ^ s)).testBit (j - 32)) = _
      rw [clear_bit _ _ _ hs hn]
      by_cases h4 : j = 32 + s
      · rw [if_pos h4, if_pos (by omega)]
      · rw [if_neg h4, if_neg (by omega)]
    · rw [if_neg h2, if_neg h2, if_neg (show ¬ j = 32 + s by omega)]

set_option maxHeartbeats 3200000 in
theorem refIWrite_yes (S : Nat → Prop) (p : Nat) (x : IA) (off v : Nat) (w : World) (hx : RIAt w S p x) (hw : x.Wf) (he : x.Ev) (ho : off < 18446744073709551616) (_hvv : v < 18446744073709551616) :
    Calls Try.prog 24 #[.pointer (some ⟨p, 0, none⟩), .int .u64 off, .int .i64 4, .int .u64 v] w fun e w' => e = .returned (.bool (x.wok off)) ∧ RIAt w' S p (x.wr off v) ∧ Fr S w w' := by
  have HX := Lib.hid hx
  obtain ⟨vl, Q, hp, hS, hv, hd⟩ := hx
  have HP := Lib.hid hp
  have HV := Lib.hid hv
  have HD := Lib.hid hd
  have cL := HP.out.cell 96
  rw [riV] at cL
  have HEv := Lib.hid he
  have HO := Lib.hid ho
  clear hp hv hd he ho
  obtain ⟨m, hm⟩ : ∃ m, v % 4294967296 = m := ⟨_, rfl⟩
  have e1 : (v : Int) % 4294967296 = m := by omega
  have e1' : (v : Int).tmod 4294967296 = m := by rw [Int.tmod_eq_emod_of_nonneg (by omega)]; exact e1
  have hml : m < 4294967296 := by omega
  have HM := Lib.hid hm
  clear hm
  rcases hpl : x.place off 4096 with _ | h
  · have HPL := Lib.hid hpl
    clear hpl
    have pl1 : Hid (plN (x.place off 4096) = -1) := by show _ = _; rw [HPL.out]; rfl
    rcases hpl2 : x.place off 8192 with _ | h
    · have HPL2 := Lib.hid hpl2
      have pl2 : Hid (plN (x.place off 8192) = -1) := by show _ = _; rw [hpl2]; rfl
      clear hpl2
      go_enter Try.func24, Try.ntmps24
      go_wp2_with fail
      refine (refPlace_any S p x off 4096 w HX.out hw HO.out (by omega) (by omega)).mono ?_
      rintro e w' ⟨he, rfl⟩
      rw [pl1.out] at he
      subst he
      go_wp2_with fail
      refine (refPlace_any S p x off 8192 _ HX.out hw HO.out (by omega) (by omega)).mono ?_
      rintro e w' ⟨he, rfl⟩
      rw [pl2.out] at he
      subst he
      go_wp2_with fail
      go_ret
      have hok : x.wok off = false := by unfold IA.wok; rw [HPL.out, HPL2.out]; rfl
      have hwr : x.wr off v = x := by unfold IA.wr; rw [HPL.out, HPL2.out]
      refine ⟨by rw [hok]; rfl, ?_, Fr.refl _ _⟩
      rw [hwr]
      exact HX.out
    · have hh := IA.place_lt hpl2
      have HPL2 := Lib.hid hpl2
      have pl2 : Hid (plN (x.place off 8192) = h) := by show _ = _; rw [hpl2]; rfl
      have hok : Hid (x.wok off = true) := by show _ = _; unfold IA.wok; rw [HPL.out, hpl2]; rfl
      have hwr : Hid (x.wr off v = if x.cl[m]? = some (h + 1) then { x with cl := x.cl.set m 0 } else x) := by show _ = _; unfold IA.wr; rw [HPL.out, hpl2, HM.out]
      have hh0 : decide ((h : Int) < 0) = false := by simp
      have hh1 : (h : Int) < 64 := by have := hw.harts; omega
      clear hpl2
      have start : True := trivial
      rcases (show m = 0 ∨ (1 ≤ m ∧ m < 32) ∨ 32 ≤ m by omega) with h0 | ⟨h1, h2⟩ | h1
      · have hr : Hid (x.wr off v = x) := by
          show _ = _
          rw [hwr.out, if_neg]
          intro hc
          have h3 := HEv.out.cl
          rw [h0] at hc
          rw [hc] at h3
          simp at h3
        subst h0
        go_enter Try.func24, Try.ntmps24
        go_wp2_with fail
        refine (refPlace_any S p x off 4096 w HX.out hw HO.out (by omega) (by omega)).mono ?_
        rintro e w' ⟨he, rfl⟩
        rw [pl1.out] at he
        subst he
        go_wp2_with fail
        refine (refPlace_any S p x off 8192 _ HX.out hw HO.out (by omega) (by omega)).mono ?_
        rintro e w' ⟨he, rfl⟩
        rw [pl2.out] at he
        subst he
        go_wp2_with (first | go_skip)
        go_ret
        refine ⟨by rw [hok.out]; rfl, ?_, Fr.refl _ _⟩
        rw [hr.out]
        exact HX.out
      · have hi1 : (1 : Int) ≤ m := by omega
        have hi2 : (m : Int) ≤ 31 := by omega
        have hi3 : (m : Int) < 32 := by omega
        have cC := HP.out.cell (64 + m)
        have fC := HP.out.frozen (64 + m)
        rw [riC x vl m h2] at cC
        obtain ⟨cv, hcv⟩ : ∃ cv, x.cl[m]?.getD 0 = cv := ⟨_, rfl⟩
        have hcs : x.cl[m]? = some cv := by rw [← hcv, List.getElem?_eq_getElem (by rw [hw.cl]; exact h2)]; rfl
        rw [hcv] at cC
        have H2 := Lib.hid h2
        by_cases hc : cv = h + 1
        · have hr : Hid (x.wr off v = { x with cl := x.cl.set m 0 }) := by show _ = _; rw [hwr.out, hcs, if_pos (by rw [hc])]
          have cC2 : w.cell? ⟨p, 64 + m, none⟩ = some (.int .i64 (h : Int)) := by rw [cC, hc]; congr 2; omega
          clear hc cC hcs hcv h1 h2
          go_enter Try.func24, Try.ntmps24
          go_wp2_with fail
          refine (refPlace_any S p x off 4096 w HX.out hw HO.out (by omega) (by omega)).mono ?_
          rintro e w' ⟨he, rfl⟩
          rw [pl1.out] at he
          subst he
          go_wp2_with fail
          refine (refPlace_any S p x off 8192 _ HX.out hw HO.out (by omega) (by omega)).mono ?_
          rintro e w' ⟨he, rfl⟩
          rw [pl2.out] at he
          subst he
          go_wp2_with (first | go_skip)
          go_ret
          refine ⟨by rw [hok.out]; rfl, ?_, (Fr.refl _ _).setCell (fun _ => hS) _⟩
          rw [hr.out]
          exact ri_set (64 + m) HP.out hS HV.out HD.out (fun j hj => by rw [ri_claim H2.out hw.cl j hj]; rfl) rfl
        · have hr : Hid (x.wr off v = x) := by show _ = _; rw [hwr.out, hcs, if_neg (fun e => hc (Option.some.inj e))]
          have hne : (((cv : Int) - 1) == (h : Int)) = false := by simp; omega
          clear hc hcs hcv h1 h2
          go_enter Try.func24, Try.ntmps24
          go_wp2_with fail
          refine (refPlace_any S p x off 4096 w HX.out hw HO.out (by omega) (by omega)).mono ?_
          rintro e w' ⟨he, rfl⟩
          rw [pl1.out] at he
          subst he
          go_wp2_with fail
          refine (refPlace_any S p x off 8192 _ HX.out hw HO.out (by omega) (by omega)).mono ?_
          rintro e w' ⟨he, rfl⟩
          rw [pl2.out] at he
          subst he
          go_wp2_with (first | go_skip)
          go_ret
          refine ⟨by rw [hok.out]; rfl, ?_, Fr.refl _ _⟩
          rw [hr.out]
          exact HX.out
      · have hr : Hid (x.wr off v = x) := by
          show _ = _
          rw [hwr.out, if_neg]
          intro hc
          rw [List.getElem?_eq_none (by rw [hw.cl]; exact h1)] at hc
          cases hc
        have hi1 : (1 : Int) ≤ m := by omega
        have hi2 : decide ((m : Int) ≤ 31) = false := by simp; omega
        clear h1
        go_enter Try.func24, Try.ntmps24
        go_wp2_with fail
        refine (refPlace_any S p x off 4096 w HX.out hw HO.out (by omega) (by omega)).mono ?_
        rintro e w' ⟨he, rfl⟩
        rw [pl1.out] at he
        subst he
        go_wp2_with fail
        refine (refPlace_any S p x off 8192 _ HX.out hw HO.out (by omega) (by omega)).mono ?_
        rintro e w' ⟨he, rfl⟩
        rw [pl2.out] at he
        subst he
        go_wp2_with (first | go_skip)
        go_ret
        refine ⟨by rw [hok.out]; rfl, ?_, Fr.refl _ _⟩
        rw [hr.out]
        exact HX.out
  · have hh := IA.place_lt hpl
    obtain ⟨g, o, c, rfl, hSg, hc, hfz, hst⟩ := HV.out.store h hh
    have HST := Lib.hid hst
    have hok : Hid (x.wok off = true) := by show _ = _; unfold IA.wok; rw [hpl]; rfl
    have pl1 : Hid (plN (x.place off 4096) = h) := by show _ = _; rw [hpl]; rfl
    rw [nats_get _ _ _ hh] at hc
    obtain ⟨m2, hm2⟩ : ∃ m2, m / 2 * 2 = m2 := ⟨_, rfl⟩
    have e2 : (m : Int) / 2 * 2 = m2 := by omega
    have hwr : Hid (x.wr off v = { x with lets := x.lets.set h m2 }) := by show _ = _; unfold IA.wr; rw [hpl, HM.out]; simp only [hm2]
    have hh0 : (0 : Int) ≤ (h : Int) := by omega
    clear hst hpl hm2
    go_enter Try.func24, Try.ntmps24
    go_wp2_with fail
    refine (refPlace_any S p x off 4096 w HX.out hw HO.out (by omega) (by omega)).mono ?_
    rintro e w' ⟨he, rfl⟩
    rw [pl1.out] at he
    subst he
    go_wp2_with (first | go_skip)
    go_ret
    obtain ⟨h1, h2⟩ := ri_let HP.out hS HD.out hSg (HST.out (.int .u64 m2))
    refine ⟨by rw [hok.out]; rfl, ?_, h2⟩
    rw [hwr.out]
    exact h1
theorem refIWrite_no (p : Nat) (off size v : Int) (w : World) (h : size ≠ 4) :
    Calls Try.prog 24 #[.pointer (some ⟨p, 0, none⟩), .int .u64 off, .int .i64 size, .int .u64 v] w fun e w' => e = .returned (.bool false) ∧ w' = w := by
  have h1 : (size != 4) = true := by simp [h]
  go_enter Try.func24, Try.ntmps24
  go_wp2
  go_ret
  exact ⟨rfl, rfl⟩
end Go.Proofs.Ytnjddnmekcjhnaa
