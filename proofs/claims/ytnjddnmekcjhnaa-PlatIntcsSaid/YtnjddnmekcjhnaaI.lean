/- The interrupt controller: Write and Read of the program. -/
import Derived.Test.YtnjddnmekcjhnaaH
namespace Go.Proofs.Ytnjddnmekcjhnaa
open Go.RowKit

theorem clear_bit0 (m : Nat) (hm : m < 4294967296) : m &&& 4294967294 = m / 2 * 2 := by
  have h1 : (m &&& 4294967294) / 2 = m / 2 &&& 2147483647 := Nat.and_div_two
  have h2 : m / 2 &&& 2147483647 = m / 2 % 2147483648 := Nat.and_two_pow_sub_one_eq_mod (m / 2) 31
  have h3 : (m &&& 4294967294) % 2 ^ 1 = (m % 2 ^ 1) &&& (4294967294 % 2 ^ 1) := Nat.and_mod_two_pow
  simp at h3
  omega

def IA.wr (x : IA) (off v : Nat) : IA :=
  match x.place off 4096 with
  | some h => { x with lets := x.lets.set h (v % 4294967296 / 2 * 2) }
  | none => match x.place off 8192 with
    | some h => if x.cl[v % 4294967296]? = some (h + 1) then { x with cl := x.cl.set (v % 4294967296) 0 } else x
    | none => x
def IA.wok (x : IA) (off : Nat) : Bool := (x.place off 4096).isSome || (x.place off 8192).isSome
def IA.val (x : IA) (off : Nat) : Nat :=
  if off = 0 then x.up else match x.place off 4096 with
  | some h => x.lets[h]?.getD 0
  | none => match x.place off 8192 with
    | some h => x.first (x.lets[h]?.getD 0)
    | none => 0
def IA.rok (x : IA) (off : Nat) : Bool := (off == 0) || x.wok off
def IA.aft (x : IA) (off : Nat) : IA :=
  if off = 0 then x else match x.place off 4096 with
  | some _ => x
  | none => match x.place off 8192 with
    | some h => if x.first (x.lets[h]?.getD 0) = 0 then x else { x with cl := x.cl.set (x.first (x.lets[h]?.getD 0)) (h + 1), pul := x.pul &&& (4294967295 - 2 ^ x.first (x.lets[h]?.getD 0)) }
    | none => x

theorem IA.place_lt {x : IA} {off row h : Nat} (hp : x.place off row = some h) : h < x.lets.length := by
  unfold IA.place at hp
  split at hp
  · rename_i h2; cases hp; exact h2.2.2
  · cases hp
theorem IA.first_lt (x : IA) (l : Nat) : x.first l < 32 := by
  unfold IA.first
  rcases h : (List.range 32).find? (x.want l) with _ | s
  · simp
  · have := List.mem_of_find?_eq_some h
    simpa using this

theorem Sl.store {w : World} {S : Nat → Prop} {e : TypeId} {v : Value} {n : Nat} {xs : List Value} (h : Sl w S e 1 v n xs) (i : Nat) (hi : i < n) :
    ∃ g off c, v = .slice (some ⟨g, off, none⟩) n c ∧ S g ∧ w.cell? ⟨g, off + i, none⟩ = xs[i]? ∧ w.frozen? ⟨g, off + i, none⟩ = false ∧ ∀ u, Sl (w.setCell ⟨g, off + i, none⟩ u) S e 1 v n (xs.set i u) := by
  obtain ⟨hl, h | ⟨g, off, cap, cur, rfl, hg, hS, h1, h2, h3, h4⟩⟩ := h
  · omega
  · refine ⟨g, off, cap, rfl, hS, by rw [hg.cell]; exact h4 i (by omega), hg.frozen _, fun u => ⟨by simpa using hl, .inr ⟨g, off, cap, _, rfl, hg.set _ u, hS, h1, by simpa using h2, h3, fun j hj => ?_⟩⟩⟩
    rw [Array.getElem?_setIfInBounds, List.getElem?_set]
    by_cases hij : i = j
    · subst hij
      have : off + i < cur.size := by omega
      have : i < xs.length := by omega
      simp_all
    · rw [if_neg (by omega), if_neg hij]
      exact h4 j hj

theorem ia_let {w : World} {S Q : Nat → Prop} {p g o h n2 : Nat} {x : IA} {v : Value} (hp : Has w p 76 (x.cells v)) (hS : S p) (hd : ∀ k, Q k → S k ∧ k ≠ p) (hg : Q g)
    (hst : Sl (w.setCell ⟨g, o + h, none⟩ (.int .u32 n2)) Q 72 1 v x.lets.length ((nats .u32 x.lets).set h (.int .u32 n2))) :
    IAt (w.setCell ⟨g, o + h, none⟩ (.int .u32 n2)) S p { x with lets := x.lets.set h n2 } ∧ Fr S w (w.setCell ⟨g, o + h, none⟩ (.int .u32 n2)) := by
  refine ⟨⟨v, Q, ?_, hS, ?_, hd⟩, (Fr.refl _ _).setCell (fun _ => (hd g hg).1) _⟩
  · exact (Fr.store w g (o + h) (.int .u32 n2)).has hp (fun e => (hd g hg).2 e.symm)
  · rw [nats_set] at hst
    rw [List.length_set]
    exact hst

set_option maxHeartbeats 3200000 in
theorem write_yes (S : Nat → Prop) (p : Nat) (x : IA) (off v : Nat) (w : World) (hx : IAt w S p x) (hw : x.Wf) (ho : off < 18446744073709551616) (_hvv : v < 18446744073709551616) :
    Calls Try.prog 17 #[.pointer (some ⟨p, 0, none⟩), .int .u64 off, .int .i64 4, .int .u64 v] w fun e w' => e = .returned (.bool (x.wok off)) ∧ IAt w' S p (x.wr off v) ∧ Fr S w w' := by
  have HX := Lib.hid hx
  obtain ⟨vl, Q, hp, hS, hv, hd⟩ := hx
  have HP := Lib.hid hp
  have HV := Lib.hid hv
  have HD := Lib.hid hd
  have cL := HP.out.cell 34
  rw [IA.cellsL x _ hw.cl] at cL
  clear hp hv hd
  obtain ⟨m, hm⟩ : ∃ m, v % 4294967296 = m := ⟨_, rfl⟩
  have e1 : IntKind.u32.wrap (v : Int) = m := by rw [IntKind.wrap_u32']; omega
  have hml : m < 4294967296 := by omega
  have e2 : bits .andNot .u32 (m : Int) 1 = ((m / 2 * 2 : Nat) : Int) := by
    have := u32_andNot_nat m 1 hml (by omega)
    rw [show 4294967295 - 1 = 4294967294 from rfl, clear_bit0 m hml] at this
    exact this
  have HM := Lib.hid hm
  clear hm
  rcases hpl : x.place off 4096 with _ | h
  · have HPL := Lib.hid hpl
    clear hpl
    rcases hpl2 : x.place off 8192 with _ | h
    · have HPL2 := Lib.hid hpl2
      clear hpl2
      go_enter Try.func17, Try.ntmps17
      go_wp2_with fail
      refine (hart_any S p x off 4096 w HX.out hw ho (by omega)).mono ?_
      rintro e w' ⟨⟨q, he, _⟩, nq, rfl⟩
      rw [HPL.out] at he
      have he3 : e = .returned (.tuple #[.int .i64 q, .bool false]) := he
      subst he3
      clear he
      go_wp2_with fail
      refine (hart_any S p x off 8192 _ (HX.out.fr ((Fr.refl (fun _ => False) w).drewN nq) (fun _ _ _ h => h)) hw ho (by omega)).mono ?_
      rintro e w' ⟨⟨q2, he, _⟩, nq2, rfl⟩
      rw [HPL2.out] at he
      have he3 : e = .returned (.tuple #[.int .i64 q2, .bool false]) := he
      subst he3
      clear he
      go_wp2_with fail
      go_ret
      have hok : x.wok off = false := by unfold IA.wok; rw [HPL.out, HPL2.out]; rfl
      have hwr : x.wr off v = x := by unfold IA.wr; rw [HPL.out, HPL2.out]
      refine ⟨by rw [hok]; rfl, ?_, ((Fr.refl _ _).drewN _)⟩
      rw [hwr]
      exact HX.out.fr (Fr.drewN (Fr.refl (fun _ => False) _) _) (fun _ _ _ h => h)
    · have hh := IA.place_lt hpl2
      have h64 := hw.harts
      have HPL2 := Lib.hid hpl2
      clear hpl2
      have hok : Hid (x.wok off = true) := by show x.wok off = true; unfold IA.wok; rw [HPL.out, HPL2.out]; rfl
      have hwr : Hid (x.wr off v = if x.cl[m]? = some (h + 1) then { x with cl := x.cl.set m 0 } else x) := by
        show x.wr off v = _; unfold IA.wr; rw [HPL.out, HPL2.out]; simp only [HM.out]
      have hw1 : IntKind.i64.wrap ((h : Int) + 1) = ((h + 1 : Nat) : Int) := by rw [IntKind.wrap_i64]; omega
      obtain ⟨h1, hh1⟩ : ∃ h1, h + 1 = h1 := ⟨_, rfl⟩
      rw [hh1] at hw1
      have HH1 := Lib.hid hh1
      clear hh1
      by_cases hm32 : m < 32
      · have hml2 : m < x.cl.length := by rw [hw.cl]; exact hm32
        have cC := HP.out.cell (2 + m)
        have fC := HP.out.frozen (2 + m)
        rw [IA.cellsC x _ m hml2] at cC
        have hmi : (m : Int) < 32 := by omega
        have hcv : x.cl[m]? = some x.cl[m] := List.getElem?_eq_getElem hml2
        obtain ⟨cv, hcv2⟩ : ∃ cv, x.cl[m] = cv := ⟨_, rfl⟩
        rw [hcv2] at cC hcv
        have HC := Lib.hid hcv
        clear hcv hcv2
        by_cases hc : cv = h1
        · subst hc
          clear hml
          go_enter Try.func17, Try.ntmps17
          go_wp2_with fail
          refine (hart_any S p x off 4096 w HX.out hw ho (by omega)).mono ?_
          rintro e w' ⟨⟨q, he, _⟩, nq, rfl⟩
          rw [HPL.out] at he
          have he3 : e = .returned (.tuple #[.int .i64 q, .bool false]) := he
          subst he3
          clear he
          go_wp2_with fail
          refine (hart_any S p x off 8192 _ (HX.out.fr ((Fr.refl (fun _ => False) w).drewN nq) (fun _ _ _ h => h)) hw ho (by omega)).mono ?_
          rintro e w' ⟨⟨q2, he, hq2⟩, nq2, rfl⟩
          rw [HPL2.out] at he
          have he2 := hq2 h HPL2.out
          subst he2
          have he3 : e = .returned (.tuple #[.int .i64 h, .bool true]) := he
          subst he3
          clear he hq2
          go_wp2_with fail
          go_ret
          have h4 := ia_set (x' := { x with cl := x.cl.set m 0 }) (2 + m) HP.out hS HV.out HD.out (IA.setC x _ m 0 hml2) rfl
          refine ⟨by rw [hok.out]; rfl, ?_, ((Fr.refl _ _).drewN _).setCell (fun _ => hS) _⟩
          rw [hwr.out, HH1.out, if_pos HC.out]
          exact h4.fr (Fr.drewN (Fr.refl (fun _ => False) _) _) (fun _ _ _ h => h)
        · have hne : ((cv : Int) == (h1 : Int)) = false := by simp; omega
          have HNC := Lib.hid hc
          clear hml hc
          go_enter Try.func17, Try.ntmps17
          go_wp2_with fail
          refine (hart_any S p x off 4096 w HX.out hw ho (by omega)).mono ?_
          rintro e w' ⟨⟨q, he, _⟩, nq, rfl⟩
          rw [HPL.out] at he
          have he3 : e = .returned (.tuple #[.int .i64 q, .bool false]) := he
          subst he3
          clear he
          go_wp2_with fail
          refine (hart_any S p x off 8192 _ (HX.out.fr ((Fr.refl (fun _ => False) w).drewN nq) (fun _ _ _ h => h)) hw ho (by omega)).mono ?_
          rintro e w' ⟨⟨q2, he, hq2⟩, nq2, rfl⟩
          rw [HPL2.out] at he
          have he2 := hq2 h HPL2.out
          subst he2
          have he3 : e = .returned (.tuple #[.int .i64 h, .bool true]) := he
          subst he3
          clear he hq2
          go_wp2_with fail
          go_ret
          refine ⟨by rw [hok.out]; rfl, ?_, ((Fr.refl _ _).drewN _)⟩
          rw [hwr.out, HH1.out, if_neg (fun h => by rw [HC.out] at h; exact HNC.out (Option.some.inj h))]
          exact HX.out.fr (Fr.drewN (Fr.refl (fun _ => False) _) _) (fun _ _ _ h => h)
      · have hmi : decide ((m : Int) < 32) = false := by simp; omega
        have HNC := Lib.hid hm32
        clear hml hm32
        go_enter Try.func17, Try.ntmps17
        go_wp2_with fail
        refine (hart_any S p x off 4096 w HX.out hw ho (by omega)).mono ?_
        rintro e w' ⟨⟨q, he, _⟩, nq, rfl⟩
        rw [HPL.out] at he
        have he3 : e = .returned (.tuple #[.int .i64 q, .bool false]) := he
        subst he3
        clear he
        go_wp2_with fail
        refine (hart_any S p x off 8192 _ (HX.out.fr ((Fr.refl (fun _ => False) w).drewN nq) (fun _ _ _ h => h)) hw ho (by omega)).mono ?_
        rintro e w' ⟨⟨q2, he, hq2⟩, nq2, rfl⟩
        rw [HPL2.out] at he
        have he2 := hq2 h HPL2.out
        subst he2
        have he3 : e = .returned (.tuple #[.int .i64 h, .bool true]) := he
        subst he3
        clear he hq2
        go_wp2_with fail
        go_ret
        refine ⟨by rw [hok.out]; rfl, ?_, ((Fr.refl _ _).drewN _)⟩
        rw [hwr.out, if_neg (fun h => by rw [List.getElem?_eq_none (by rw [hw.cl]; exact Nat.le_of_not_lt HNC.out)] at h; cases h)]
        exact HX.out.fr (Fr.drewN (Fr.refl (fun _ => False) _) _) (fun _ _ _ h => h)
  · have hh := IA.place_lt hpl
    obtain ⟨g, o, c, rfl, hSg, hc, hfz, hst⟩ := HV.out.store h hh
    have HST := Lib.hid hst
    have HPL := Lib.hid hpl
    rw [nats_get _ _ _ hh] at hc
    obtain ⟨m2, hm2⟩ : ∃ m2, m / 2 * 2 = m2 := ⟨_, rfl⟩
    rw [hm2] at e2
    have HM2 := Lib.hid hm2
    clear hst hpl hm2
    go_enter Try.func17, Try.ntmps17
    go_wp2_with fail
    refine (hart_any S p x off 4096 w HX.out hw ho (by omega)).mono ?_
    rintro e w' ⟨⟨q, he, hq⟩, nq, rfl⟩
    rw [HPL.out] at he
    have he2 := hq h HPL.out
    subst he2
    have he3 : e = .returned (.tuple #[.int .i64 h, .bool true]) := he
    subst he3
    clear he hq
    go_wp2_with fail
    go_ret
    have hok : x.wok off = true := by unfold IA.wok; rw [HPL.out]; rfl
    have hwr : x.wr off v = { x with lets := x.lets.set h m2 } := by unfold IA.wr; rw [HPL.out, HM.out]; simp only [HM2.out]
    obtain ⟨h1, h2⟩ := ia_let HP.out hS HD.out hSg (HST.out (.int .u32 m2))
    refine ⟨by rw [hok]; rfl, ?_, h2.trans (Fr.drewN (Fr.refl (fun _ => False) _) nq) (fun _ _ h => h.elim)⟩
    rw [hwr]
    exact h1.fr (Fr.drewN (Fr.refl (fun _ => False) _) nq) (fun _ _ _ h => h)
theorem write_no (p : Nat) (off size v : Int) (w : World) (h : size ≠ 4) :
    Calls Try.prog 17 #[.pointer (some ⟨p, 0, none⟩), .int .u64 off, .int .i64 size, .int .u64 v] w fun e w' => e = .returned (.bool false) ∧ w' = w := by
  have h1 : (size != 4) = true := by simp [h]
  go_enter Try.func17, Try.ntmps17
  go_wp2
  go_ret
  exact ⟨rfl, rfl⟩
theorem read_no (p : Nat) (off size : Int) (w : World) (h : size ≠ 4) :
    Calls Try.prog 19 #[.pointer (some ⟨p, 0, none⟩), .int .u64 off, .int .i64 size] w fun e w' => e = .returned (.tuple #[.int .u64 0, .bool false]) ∧ w' = w := by
  have h1 : (size != 4) = true := by simp [h]
  go_enter Try.func19, Try.ntmps19
  go_wp2
  go_ret2
  exact ⟨rfl, rfl⟩

theorem wrap64 (n : Nat) (h : n < 4294967296) : IntKind.u64.wrap (n : Int) = n := by rw [IntKind.wrap_u64]; omega

set_option maxHeartbeats 3200000 in
theorem iread_yes (S : Nat → Prop) (p : Nat) (x : IA) (off : Nat) (w : World) (hx : IAt w S p x) (hw : x.Wf) (ho : off < 18446744073709551616) :
    Calls Try.prog 19 #[.pointer (some ⟨p, 0, none⟩), .int .u64 off, .int .i64 4] w fun e w' => e = .returned (.tuple #[.int .u64 (x.val off), .bool (x.rok off)]) ∧ IAt w' S p (x.aft off) ∧ Fr S w w' := by
  have HX := Lib.hid hx
  obtain ⟨vl, Q, hp, hS, hv, hd⟩ := hx
  have HP := Lib.hid hp
  have HV := Lib.hid hv
  have HD := Lib.hid hd
  have cL := HP.out.cell 34
  rw [IA.cellsL x _ hw.cl] at cL
  clear hp hv hd
  by_cases h0 : off = 0
  · subst h0
    have hup := wrap64 x.up (Nat.or_lt_two_pow (n := 32) hw.lev hw.pul)
    have hz : ((0 : Nat) : Int) = 0 := rfl
    go_enter Try.func19, Try.ntmps19
    go_wp2_with fail
    refine (up_any S p x w HX.out hw).mono ?_
    rintro e w' ⟨rfl, nq, rfl⟩
    go_wp2
    go_ret2
    exact ⟨rfl, HX.out.fr (Fr.drewN (Fr.refl (fun _ => False) _) _) (fun _ _ _ h => h), (Fr.refl _ _).drewN _⟩
  · have h0' : ((off : Int) == 0) = false := by simp; omega
    have H0 := Lib.hid h0
    clear h0
    rcases hpl : x.place off 4096 with _ | h
    · have HPL := Lib.hid hpl
      clear hpl
      rcases hpl2 : x.place off 8192 with _ | h
      · have HPL2 := Lib.hid hpl2
        clear hpl2
        go_enter Try.func19, Try.ntmps19
        go_wp2_with fail
        refine (hart_any S p x off 4096 w HX.out hw ho (by omega)).mono ?_
        rintro e w' ⟨⟨q, he, _⟩, nq, rfl⟩
        rw [HPL.out] at he
        have he3 : e = .returned (.tuple #[.int .i64 q, .bool false]) := he
        subst he3
        clear he
        go_wp2_with fail
        refine (hart_any S p x off 8192 _ (HX.out.fr ((Fr.refl (fun _ => False) w).drewN nq) (fun _ _ _ h => h)) hw ho (by omega)).mono ?_
        rintro e w' ⟨⟨q2, he, _⟩, nq2, rfl⟩
        rw [HPL2.out] at he
        have he3 : e = .returned (.tuple #[.int .i64 q2, .bool false]) := he
        subst he3
        clear he
        go_wp2_with fail
        go_ret2
        have hok : x.rok off = false := by unfold IA.rok IA.wok; rw [HPL.out, HPL2.out]; simp [H0.out]
        have hva : x.val off = 0 := by unfold IA.val; rw [if_neg H0.out, HPL.out, HPL2.out]
        have haf : x.aft off = x := by unfold IA.aft; rw [if_neg H0.out, HPL.out, HPL2.out]
        refine ⟨by rw [hok, hva]; rfl, ?_, ((Fr.refl _ _).drewN _)⟩
        rw [haf]
        exact HX.out.fr (Fr.drewN (Fr.refl (fun _ => False) _) _) (fun _ _ _ h => h)
      · have hh := IA.place_lt hpl2
        have h64 := hw.harts
        have HPL2 := Lib.hid hpl2
        clear hpl2
        have hok : Hid (x.rok off = true) := by show x.rok off = true; unfold IA.rok IA.wok; rw [HPL.out, HPL2.out]; simp
        have hlh : x.lets[h]?.getD 0 = x.lets[h] := by rw [List.getElem?_eq_getElem hh]; rfl
        obtain ⟨s, hs⟩ : ∃ s, x.first x.lets[h] = s := ⟨_, rfl⟩
        have hsl : s < 32 := by rw [← hs]; exact IA.first_lt _ _
        have hva : Hid (x.val off = s) := by show x.val off = s; unfold IA.val; rw [if_neg H0.out, HPL.out, HPL2.out]; dsimp only; rw [hlh]; exact hs
        have haf : Hid (x.aft off = if s = 0 then x else { x with cl := x.cl.set s (h + 1), pul := x.pul &&& (4294967295 - 2 ^ s) }) := by
          show x.aft off = _; unfold IA.aft; rw [if_neg H0.out, HPL.out, HPL2.out]; dsimp only; rw [hlh, hs]
        have hw1 : IntKind.i64.wrap ((h : Int) + 1) = ((h + 1 : Nat) : Int) := by rw [IntKind.wrap_i64]; omega
        obtain ⟨h1, hh1⟩ : ∃ h1, h + 1 = h1 := ⟨_, rfl⟩
        rw [hh1] at hw1
        have HH1 := Lib.hid hh1
        have HS := Lib.hid hs
        have hwS := wrap64 s (by omega)
        clear hh1 hs hlh
        rcases Nat.eq_zero_or_pos s with hs0 | hs0
        · subst hs0
          have hz : ((0 : Nat) : Int) = 0 := rfl
          go_enter Try.func19, Try.ntmps19
          go_wp2_with fail
          refine (hart_any S p x off 4096 w HX.out hw ho (by omega)).mono ?_
          rintro e w' ⟨⟨q, he, _⟩, nq, rfl⟩
          rw [HPL.out] at he
          have he3 : e = .returned (.tuple #[.int .i64 q, .bool false]) := he
          subst he3
          clear he
          go_wp2_with fail
          refine (hart_any S p x off 8192 _ (HX.out.fr ((Fr.refl (fun _ => False) w).drewN nq) (fun _ _ _ h => h)) hw ho (by omega)).mono ?_
          rintro e w' ⟨⟨q2, he, hq2⟩, nq2, rfl⟩
          rw [HPL2.out] at he
          have he2 := hq2 h HPL2.out
          subst he2
          have he3 : e = .returned (.tuple #[.int .i64 h, .bool true]) := he
          subst he3
          clear he hq2
          go_wp2_with fail
          refine (first_any S p x h _ (HX.out.fr ((Fr.refl (fun _ => False) w).drewN _) (fun _ _ _ h => h)) hw hh).mono ?_
          rintro e w' ⟨he, nq3, rfl⟩
          rw [HS.out] at he
          subst he
          go_wp2_with fail
          go_ret2
          refine ⟨by rw [hok.out, hva.out]; rfl, ?_, ((Fr.refl _ _).drewN _)⟩
          rw [haf.out, if_pos trivial]
          exact HX.out.fr (Fr.drewN (Fr.refl (fun _ => False) _) _) (fun _ _ _ h => h)
        · have hne : ((s : Int) != 0) = true := by simp; omega
          have hsl2 : s < x.cl.length := by rw [hw.cl]; exact hsl
          have cC := HP.out.cell (2 + s)
          have fC := HP.out.frozen (2 + s)
          rw [IA.cellsC x _ s hsl2] at cC
          have hm := pow_mod32 hsl
          have HP2 := HP.out.set (2 + s) (.int .i64 h1)
          rw [IA.setC _ _ _ _ hsl2] at HP2
          have c1 := HP2.cell 1
          rw [IA.cells1] at c1
          dsimp only at c1
          have f1 := HP2.frozen 1
          have c1w := HP.out.cell 1
          rw [IA.cells1] at c1w
          have f1w := HP.out.frozen 1
          have e1 := u32_clear x.pul hw.pul hsl
          obtain ⟨m, hm1⟩ : ∃ m, x.pul &&& (4294967295 - 2 ^ s) = m := ⟨_, rfl⟩
          rw [hm1] at e1
          have HM1 := Lib.hid hm1
          have HP2 := Lib.hid HP2
          have HS0 := Lib.hid hs0
          clear hm1 hs0
          go_enter Try.func19, Try.ntmps19
          go_wp2_with fail
          refine (hart_any S p x off 4096 w HX.out hw ho (by omega)).mono ?_
          rintro e w' ⟨⟨q, he, _⟩, nq, rfl⟩
          rw [HPL.out] at he
          have he3 : e = .returned (.tuple #[.int .i64 q, .bool false]) := he
          subst he3
          clear he
          go_wp2_with fail
          refine (hart_any S p x off 8192 _ (HX.out.fr ((Fr.refl (fun _ => False) w).drewN nq) (fun _ _ _ h => h)) hw ho (by omega)).mono ?_
          rintro e w' ⟨⟨q2, he, hq2⟩, nq2, rfl⟩
          rw [HPL2.out] at he
          have he2 := hq2 h HPL2.out
          subst he2
          have he3 : e = .returned (.tuple #[.int .i64 h, .bool true]) := he
          subst he3
          clear he hq2
          go_wp2_with fail
          refine (first_any S p x h _ (HX.out.fr ((Fr.refl (fun _ => False) w).drewN _) (fun _ _ _ h => h)) hw hh).mono ?_
          rintro e w' ⟨he, nq3, rfl⟩
          rw [HS.out] at he
          subst he
          go_wp2_with fail
          go_region
          go_wp2_with fail
          go_ret2
          have h4 := ia_set (x := { x with cl := x.cl.set s h1 }) (x' := { x with cl := x.cl.set s h1, pul := m }) 1 HP2.out hS (HV.out.fr (Fr.store _ _ _ _) (fun k _ h e => (HD.out k h).2 e)) HD.out (IA.set1 _ _ m) rfl
          refine ⟨by rw [hok.out, hva.out]; rfl, ?_, ((((Fr.refl _ _).drewN _).setCell (fun _ => hS) _).setCell (fun _ => hS) _).drew⟩
          rw [haf.out, if_neg (by have := HS0.out; omega), HH1.out, HM1.out]
          exact h4.fr (Fr.drew (Fr.drewN (Fr.refl (fun _ => False) _) _)) (fun _ _ _ h => h)
    · have hh := IA.place_lt hpl
      have hlh : x.lets[h]?.getD 0 = x.lets[h] := by rw [List.getElem?_eq_getElem hh]; rfl
      have hok : Hid (x.rok off = true) := by show x.rok off = true; unfold IA.rok IA.wok; rw [hpl]; simp
      have hva : Hid (x.val off = x.lets[h]) := by show x.val off = _; unfold IA.val; rw [if_neg H0.out, hpl]; dsimp only; rw [hlh]
      have haf : Hid (x.aft off = x) := by show x.aft off = _; unfold IA.aft; rw [if_neg H0.out, hpl]
      have HPL := Lib.hid hpl
      obtain ⟨A, c, rfl, hrd, _, _⟩ := HV.out.form
      obtain ⟨b, o, hA, hb, _, hcl⟩ := hrd (by intro h0; have := nats_length .u32 x.lets; rw [h0] at this; simp at this; omega)
      subst hA
      have cH := hcl h _ (nats_get _ _ _ hh)
      have hwl := wrap64 x.lets[h] (hw.lets _ (List.getElem_mem hh))
      obtain ⟨l, hl⟩ : ∃ l, x.lets[h] = l := ⟨_, rfl⟩
      rw [hl] at cH hwl hva
      clear hcl hrd hlh hl hpl
      go_enter Try.func19, Try.ntmps19
      go_wp2_with fail
      refine (hart_any S p x off 4096 w HX.out hw ho (by omega)).mono ?_
      rintro e w' ⟨⟨q, he, hq⟩, nq, rfl⟩
      rw [HPL.out] at he
      have he2 := hq h HPL.out
      subst he2
      have he3 : e = .returned (.tuple #[.int .i64 h, .bool true]) := he
      subst he3
      clear he hq
      go_wp2_with fail
      go_ret2
      refine ⟨by rw [hok.out, hva.out]; rfl, ?_, (Fr.refl _ _).drewN _⟩
      rw [haf.out]
      exact HX.out.fr (Fr.drewN (Fr.refl (fun _ => False) _) _) (fun _ _ _ h => h)
end Go.Proofs.Ytnjddnmekcjhnaa
