/- PlatLets: the walk. -/
import Derived.Test.YtnjddnmekcjhnaaN
import Derived.Deep.DeepCutAuto
import Derived.Deep.CutBlock
import Derived.Deep.CutRange
namespace Go.Proofs.Ytnjddnmekcjhnaa
open Go.RowKit

/-- The law's controller: levels L, no pulse, two harts that let M0, M1. -/
def iT (L M0 M1 : Nat) (cl : List Nat) : IA := ⟨L, 0, cl, [M0, M1]⟩
theorem iT_wr0 (cl : List Nat) (a : Nat) : (iT 0 0 0 cl).wr 4096 a = iT 0 (a % 4294967296 / 2 * 2) 0 cl := rfl
theorem iT_wr1 (cl : List Nat) (m a : Nat) : (iT 0 m 0 cl).wr 4100 a = iT 0 m (a % 4294967296 / 2 * 2) cl := rfl
theorem iT_up (L a b : Nat) (cl : List Nat) : (iT L a b cl).up = L := Nat.or_zero L
def z32 : List Nat := List.replicate 32 0
theorem z32_get {t : Nat} (h : t < 32) : z32[t]? = some 0 := by unfold z32; rw [List.getElem?_replicate, if_pos h]
theorem ia0_two : ia0 2 = iT 0 0 0 z32 := rfl

theorem masked (a b K : Nat) : (a &&& b) &&& K = (a &&& K) &&& (b &&& K) := by
  apply Nat.eq_of_testBit_eq
  intro i
  simp only [Nat.testBit_and]
  cases a.testBit i <;> cases b.testBit i <;> cases K.testBit i <;> rfl
theorem even_mask (a : Nat) : (a &&& 4294967294) % 2 = 0 := by
  have h := lv_32 a
  rw [← h]
  unfold lv
  omega
theorem iT_want (L a b l : Nat) (cl : List Nat) (t : Nat) : (iT L a b cl).want l t = ((cl[t]?.getD 1 == 0) && ((L &&& l) / 2 ^ t % 2 == 1)) := by
  show ((cl[t]?.getD 1 == 0) && (((iT L a b cl).up &&& l) / 2 ^ t % 2 == 1)) = _
  rw [iT_up]
/-- A number below 2^32 with no bit is none. -/
theorem no_bits (v : Nat) (hv : v < 4294967296) (h : ∀ t, t < 32 → v / 2 ^ t % 2 = 0) : v = 0 := by
  apply Nat.eq_of_testBit_eq
  intro t
  rw [Nat.zero_testBit]
  by_cases ht : t < 32
  · rw [Nat.testBit_eq_decide_div_mod_eq, h t ht]; rfl
  · exact Nat.testBit_lt_two_pow (Nat.lt_of_lt_of_le hv (Nat.pow_le_pow_right (n := 2) (by omega) (show 32 ≤ t by omega)))
theorem first_zero_iff (L a b l : Nat) (hv : (L &&& l) < 4294967296) (he : (L &&& l) % 2 = 0) : ((iT L a b z32).first l != 0) = ((L &&& l) != 0) := by
  have hw : ∀ t, t < 32 → (iT L a b z32).want l t = ((L &&& l) / 2 ^ t % 2 == 1) := fun t ht => by
    rw [iT_want, z32_get ht]; simp
  by_cases h : ∀ t, t < 32 → (L &&& l) / 2 ^ t % 2 = 0
  · rw [first_none (fun t ht => by rw [hw t ht, h t ht]; rfl), no_bits _ hv h]
  · have hne : (L &&& l) ≠ 0 := fun h0 => h (fun t _ => by rw [h0]; simp)
    have hf : (iT L a b z32).first l ≠ 0 := by
      intro h0
      apply h
      intro t ht
      unfold IA.first at h0
      rcases hq : (List.range 32).find? ((iT L a b z32).want l) with _ | k
      · have h3 := List.find?_eq_none.1 hq t (by simpa using ht)
        rw [hw t ht] at h3
        simp at h3
        omega
      · rw [hq] at h0
        have hk : k = 0 := h0
        subst hk
        have h3 := List.find?_some hq
        rw [hw 0 (by omega)] at h3
        rw [Nat.pow_zero, Nat.div_one, he] at h3
        cases h3
    rw [bne_iff_ne.2 hne, bne_iff_ne.2 hf]

/-- Behind the questions for the sources below s: each of them that was wanted is claimed, the others are not. -/
def CL (V s : Nat) (cl : List Nat) : Prop := cl.length = 32 ∧ ∀ t, t < 32 → (s ≤ t → cl[t]? = some 0) ∧ (t < s → V / 2 ^ t % 2 = 1 → ∃ c, cl[t]? = some (c + 1))
theorem CL.start (V : Nat) (he : V % 2 = 0) : CL V 1 z32 := by
  refine ⟨by simp [z32], fun t ht => ⟨fun _ => z32_get ht, fun h1 h2 => ?_⟩⟩
  obtain rfl : t = 0 := by omega
  simp at h2
  omega
theorem CL.skip {V s : Nat} {cl : List Nat} (h : CL V s cl) (hb : V / 2 ^ s % 2 = 0) : CL V (s + 1) cl := by
  refine ⟨h.1, fun t ht => ⟨fun h1 => (h.2 t ht).1 (by omega), fun h1 h2 => ?_⟩⟩
  rcases (show t < s ∨ t = s by omega) with h3 | rfl
  · exact (h.2 t ht).2 h3 h2
  · omega
theorem CL.claim {V s : Nat} {cl : List Nat} (h : CL V s cl) (hs : s < 32) : CL V (s + 1) (cl.set s 1) := by
  refine ⟨by simpa using h.1, fun t ht => ⟨fun h1 => ?_, fun h1 h2 => ?_⟩⟩
  · rw [List.getElem?_set_ne (by omega)]; exact (h.2 t ht).1 (by omega)
  · by_cases h3 : s = t
    · subst h3; exact ⟨0, by rw [List.getElem?_set_self (by rw [h.1]; exact hs)]⟩
    · rw [List.getElem?_set_ne h3]; exact (h.2 t ht).2 (by omega) h2
theorem CL.not {V s : Nat} {cl : List Nat} (h : CL V s cl) {L a b l : Nat} (hV : L &&& l = V) (t : Nat) (ht : t < 32) (hts : t < s) : (iT L a b cl).want l t = false := by
  rw [iT_want, hV]
  by_cases hb : V / 2 ^ t % 2 = 1
  · obtain ⟨c, hc⟩ := (h.2 t ht).2 hts hb
    rw [hc]; simp
  · have : (V / 2 ^ t % 2 == 1) = false := by simpa using hb
    rw [this, Bool.and_false]
theorem CL.first {V s : Nat} {cl : List Nat} (h : CL V s cl) {L a b l : Nat} (hV : L &&& l = V) (hs : s < 32) (hb : V / 2 ^ s % 2 = 1) : (iT L a b cl).first l = s := by
  refine first_is hs (fun t ht => h.not hV t (by omega) ht) ?_
  rw [iT_want, hV, (h.2 s hs).1 (Nat.le_refl _), hb]
  rfl
theorem CL.none {V : Nat} {cl : List Nat} (h : CL V 32 cl) {L a b l : Nat} (hV : L &&& l = V) : (iT L a b cl).first l = 0 :=
  first_none fun t ht => h.not hV t ht ht
theorem iT_val (L a b : Nat) (cl : List Nat) : (iT L a b cl).val 8192 = (iT L a b cl).first a := rfl
theorem iT_aft (L a b : Nat) (cl : List Nat) : (iT L a b cl).aft 8192 = if (iT L a b cl).first a = 0 then iT L a b cl else iT L a b (cl.set ((iT L a b cl).first a) 1) := by
  show (if (iT L a b cl).first a = 0 then iT L a b cl else { iT L a b cl with cl := cl.set ((iT L a b cl).first a) (0 + 1), pul := 0 &&& (4294967295 - 2 ^ (iT L a b cl).first a) }) = _
  split
  · rfl
  · simp [iT]

set_option maxRecDepth 100000 in
set_option maxHeartbeats 3200000 in
theorem lets_walk (ups mine others : Nat) (w : World) (hu : ups < 18446744073709551616) (hm : mine < 18446744073709551616) (ho : others < 18446744073709551616) :
    Calls Try.prog 5 #[.int .u64 ups, .int .u64 mine, .int .u64 others] w fun e w' => e = .returned (.bool true) ∧ Below w.heap.size w w' := by
  go_enter Try.func5, Try.ntmps5
  go_wp2_with fail
  refine (iown_new 2 w (by omega)).mono ?_
  rintro e w1 ⟨p, rfl, O1⟩
  rw [ia0_two] at O1
  have O1 := Lib.hid O1
  go_wp2_with fail
  refine (iown_write O1.out 4096 mine (by omega) hm).mono ?_
  rintro e w2 ⟨he, O2⟩
  have he2 : e = .returned (.bool true) := he
  subst he2
  rw [iT_wr0] at O2
  have O2 := Lib.hid O2
  clear O1 he
  go_wp2_with fail
  refine (iown_write O2.out 4100 others (by omega) ho).mono ?_
  rintro e w3 ⟨he, O3⟩
  have he2 : e = .returned (.bool true) := he
  subst he2
  rw [iT_wr1] at O3
  have O3 := Lib.hid O3
  clear O2 he
  go_wp2_with fail
  go_loopw [9] (fun i wr => ∃ s : Nat, s ≤ 32 ∧ i = .int .i64 s ∧ IOwn w wr p (iT (lv ups s) (mine % 4294967296 / 2 * 2) (others % 4294967296 / 2 * 2) z32)) (fun i _ => 32 - (intOf i).toNat)
  case atStart => exact ⟨0, by omega, rfl, by have h := O3.out; simpa [lv, Nat.mod_one] using h⟩
  case round =>
    obtain ⟨s, hs, rfl, O4⟩ := hrel
    have O4 := Lib.hid O4
    by_cases hs32 : s < 32
    · obtain ⟨bb, hbb⟩ : ∃ bb, (ups / 2 ^ s % 2 == 1) = bb := ⟨_, rfl⟩
      have hi : (((ups : Int) / 2 ^ s).tmod 2 == 1) = bb := by
        have h1 : (ups : Int) / 2 ^ s = ((ups / 2 ^ s : Nat) : Int) := by push_cast; rfl
        rw [← hbb, h1]
        generalize ups / 2 ^ s = q
        rw [Int.tmod_eq_emod_of_nonneg (by omega), Bool.eq_iff_iff]
        simp
        omega
      have HB := Lib.hid hbb
      clear hbb
      by_cases hs0 : s = 0
      · have hlv : lv ups (s + 1) = lv ups s := by subst hs0; unfold lv; omega
        have HLV := Lib.hid hlv
        clear hlv
        go_wp2_with fail
        refine (iown_level_no O4.out _ _ (by omega)).mono ?_
        rintro e w4 ⟨rfl, O5⟩
        have O5 := Lib.hid O5
        go_wp2
        go_roundw
        case rel => exact ⟨s + 1, by omega, by go_num, by rw [HLV.out]; exact O5.out⟩
        case measure => simp [intOf]; omega
      · go_wp2_with fail
        refine (iown_level O4.out s _ (by omega) (by omega)).mono ?_
        rintro e w4 ⟨rfl, O5⟩
        have O5 : Hid (IOwn w w4 p (iT (lv ups (s + 1)) (mine % 4294967296 / 2 * 2) (others % 4294967296 / 2 * 2) z32)) := by
          show IOwn _ _ _ _
          rw [← lv_step ups s (by omega) hs32, HB.out]
          exact O5
        go_wp2
        go_roundw
        case rel => exact ⟨s + 1, by omega, by go_num, O5.out⟩
        case measure => simp [intOf]; omega
    · obtain rfl : s = 32 := by omega
      have e0 : mine % 4294967296 / 2 * 2 = mine &&& 4294967294 := lv_32 mine
      have e0' : others % 4294967296 / 2 * 2 = others &&& 4294967294 := lv_32 others
      have O4 := O4.out
      rw [lv_32, e0, e0'] at O4
      have e1 := u64_and_nat ups mine hu hm
      have e3 : bits .and .u64 (ups : Int) 4294967294 = ((ups &&& 4294967294 : Nat) : Int) := u64_and_nat ups 4294967294 hu (by omega)
      have e4 := u64_and_nat ups others hu ho
      have l1 : ups &&& mine < 18446744073709551616 := Nat.lt_of_le_of_lt Nat.and_le_left hu
      have l2 : ups &&& others < 18446744073709551616 := Nat.lt_of_le_of_lt Nat.and_le_left hu
      have e2 : bits .and .u64 ((ups &&& mine : Nat) : Int) 4294967294 = (((ups &&& mine) &&& 4294967294 : Nat) : Int) := u64_and_nat (ups &&& mine) 4294967294 l1 (by omega)
      have e5 : bits .and .u64 ((ups &&& others : Nat) : Int) 4294967294 = (((ups &&& others) &&& 4294967294 : Nat) : Int) := u64_and_nat (ups &&& others) 4294967294 l2 (by omega)
      have hV := (masked ups mine 4294967294).symm
      have hVO := (masked ups others 4294967294).symm
      have hV2 := even_mask (ups &&& mine)
      have hVO2 := even_mask (ups &&& others)
      have hVl : (ups &&& mine) &&& 4294967294 < 4294967296 := Nat.lt_of_le_of_lt Nat.and_le_right (by omega)
      have hVOl : (ups &&& others) &&& 4294967294 < 4294967296 := Nat.lt_of_le_of_lt Nat.and_le_right (by omega)
      generalize (ups &&& mine) &&& 4294967294 = V at *
      generalize (ups &&& others) &&& 4294967294 = VO at *
      generalize ups &&& mine = A1 at *
      generalize ups &&& others = A2 at *
      generalize ups &&& 4294967294 = L at *
      generalize mine &&& 4294967294 = M0 at *
      generalize others &&& 4294967294 = M1 at *
      have O4 := Lib.hid O4
      have HV := Lib.hid hV
      have HV2 := Lib.hid hV2
      have p0 : Hid ((iT L M0 M1 z32).pending 0 = (V != 0)) := by
        show ((iT L M0 M1 z32).first M0 != 0) = _
        rw [first_zero_iff L M0 M1 M0 (by rw [hV]; exact hVl) (by rw [hV]; exact hV2), hV]
      have p1 : Hid ((iT L M0 M1 z32).pending 1 = (VO != 0)) := by
        show ((iT L M0 M1 z32).first M1 != 0) = _
        rw [first_zero_iff L M0 M1 M1 (by rw [hVO]; exact hVOl) (by rw [hVO]; exact hVO2), hVO]
      obtain ⟨bV, hbV⟩ : ∃ b, (V != 0) = b := ⟨_, rfl⟩
      obtain ⟨bO, hbO⟩ : ∃ b, (VO != 0) = b := ⟨_, rfl⟩
      have c0 : ((V : Int) != 0) = bV := by rw [← hbV, Bool.eq_iff_iff]; simp
      have c1 : ((VO : Int) != 0) = bO := by rw [← hbO, Bool.eq_iff_iff]; simp
      rw [hbV] at p0
      rw [hbO] at p1
      clear hV hVO hV2 hVO2 hbV hbO e0 e0'
      go_wp2_with fail
      refine (iown_read O4.out 0 (by omega)).mono ?_
      rintro e w4 ⟨he, O5⟩
      have he2 : e = .returned (.tuple #[.int .u64 L, .bool true]) := by rw [he]; show Ending.returned (.tuple #[.int .u64 ((iT L M0 M1 z32).up : Nat), .bool true]) = _; rw [iT_up]
      subst he2
      have O5 : Hid (IOwn w w4 p (iT L M0 M1 z32)) := O5
      clear he O4
      go_wp2_with fail
      refine (iown_pending O5.out 0).mono ?_
      rintro e w5 ⟨he, O6⟩
      rw [p0.out] at he
      subst he
      have O6 := Lib.hid O6
      clear O5 p0
      go_wp2_with fail
      refine (iown_pending O6.out 1).mono ?_
      rintro e w6 ⟨he, O7⟩
      rw [p1.out] at he
      subst he
      have O7 := Lib.hid O7
      clear O6 p1
      have h0 : Hid (CL V 1 z32) := CL.start V HV2.out
      go_wp2_with fail
      go_loopw [13] (fun i wr => ∃ s : Nat, 1 ≤ s ∧ s ≤ 32 ∧ i = .int .u64 s ∧ ∃ cl, CL V s cl ∧ IOwn w wr p (iT L M0 M1 cl)) (fun i _ => 32 - (intOf i).toNat)
      case atStart => exact ⟨1, by omega, by omega, rfl, _, h0.out, O7.out⟩
      case round =>
        obtain ⟨s, hs1, hs, rfl, cl, hcl, O8⟩ := hrel
        have O8 := Lib.hid O8
        have HCL := Lib.hid hcl
        clear hcl
        by_cases hs32 : s < 32
        · obtain ⟨q, hq⟩ : ∃ q, V / 2 ^ s % 2 = q := ⟨_, rfl⟩
          have hi : ((V : Int) / 2 ^ s).tmod 2 = q := by
            have h1 : (V : Int) / 2 ^ s = ((V / 2 ^ s : Nat) : Int) := by push_cast; rfl
            rw [← hq, h1]
            generalize V / 2 ^ s = y
            rw [Int.tmod_eq_emod_of_nonneg (by omega)]
            omega
          have HQ := Lib.hid hq
          have hq2 : q = 0 ∨ q = 1 := by omega
          clear hq
          rcases hq2 with rfl | rfl
          · go_wp2
            go_roundw
            case rel => exact ⟨s + 1, by omega, by omega, by go_num, _, HCL.out.skip HQ.out, O8.out⟩
            case measure => simp [intOf]; omega
          · have hfs := Lib.hid (HCL.out.first (a := M0) (b := M1) HV.out hs32 HQ.out)
            go_wp2_with fail
            refine (iown_read O8.out 8192 (by omega)).mono ?_
            rintro e w7 ⟨he, O9⟩
            rw [iT_val, hfs.out] at he
            have he2 : e = .returned (.tuple #[.int .u64 s, .bool true]) := he
            subst he2
            rw [iT_aft, hfs.out, if_neg (by omega)] at O9
            have O9 := Lib.hid O9
            clear he O8
            go_wp2
            go_roundw
            case rel => exact ⟨s + 1, by omega, by omega, by go_num, _, HCL.out.claim hs32, O9.out⟩
            case measure => simp [intOf]; omega
        · obtain rfl : s = 32 := by omega
          have hfs := Lib.hid (HCL.out.none (a := M0) (b := M1) HV.out)
          go_wp2_with fail
          refine (iown_read O8.out 8192 (by omega)).mono ?_
          rintro e w7 ⟨he, O9⟩
          rw [iT_val, hfs.out] at he
          have he2 : e = .returned (.tuple #[.int .u64 0, .bool true]) := he
          subst he2
          rw [iT_aft, hfs.out, if_pos rfl] at O9
          have O9 := Lib.hid O9
          clear he O8
          go_wp2_with fail
          refine (iown_pending O9.out 0).mono ?_
          rintro e w8 ⟨he, O10⟩
          have he2 : e = .returned (.bool false) := by
            rw [he]
            show Ending.returned (.bool ((iT L M0 M1 cl).first M0 != 0)) = _
            rw [hfs.out]
            rfl
          subst he2
          have O10 := Lib.hid O10
          clear he O9
          go_wp2_with fail
          refine (awake_any _).mono ?_
          rintro e w9 ⟨rfl, hf⟩
          go_wp2
          go_ret
          exact ⟨rfl, (O10.out.2.2.trans hf (fun _ _ h => h)).below (fun _ h => h.elim) (Nat.le_refl _)⟩
end Go.Proofs.Ytnjddnmekcjhnaa
