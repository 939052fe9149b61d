/- PlatClaims: the walk. -/
import Derived.Test.YtnjddnmekcjhnaaO
import Derived.Test.YtnjddnmekcjhnaaP
import Derived.Deep.DeepCutAuto
import Derived.Deep.CutBlock
import Derived.Deep.CutRange
namespace Go.Proofs.Ytnjddnmekcjhnaa
open Go.RowKit

/-- The law's controller: n harts, each lets s; s is up (or was pulsed and is left); claimed by hart c - 1 (0: by none). -/
def iC (pulse left : Bool) (c s n : Nat) : IA := ⟨if pulse then 0 else 2 ^ s, if pulse && left then 2 ^ s else 0, z32.set s c, List.replicate n (2 ^ s)⟩
/-- Ahead of the interrupt: the first h harts let s. -/
def iB (h s n : Nat) : IA := ⟨0, 0, z32, List.replicate h (2 ^ s) ++ List.replicate (n - h) 0⟩

theorem z32_len : z32.length = 32 := by simp [z32]
theorem z32_set {s c : Nat} (t : Nat) (ht : t < 32) : (z32.set s c)[t]? = some (if s = t then c else 0) := by
  by_cases h : s = t
  · subst h; rw [List.getElem?_set_self (by rw [z32_len]; exact ht), if_pos rfl]
  · rw [List.getElem?_set_ne h, z32_get ht, if_neg h]
theorem iC_up {pulse left : Bool} (hpl : pulse = false → left = true) (c s n : Nat) : (iC pulse left c s n).up = if left then 2 ^ s else 0 := by
  unfold IA.up iC
  cases pulse
  · simp [hpl rfl]
  · cases left <;> simp
theorem iC_want {pulse left : Bool} (hpl : pulse = false → left = true) (c s n t : Nat) (ht : t < 32) : (iC pulse left c s n).want (2 ^ s) t = (decide (s = t) && (decide (c = 0) && left)) := by
  unfold IA.want
  rw [iC_up hpl, show (iC pulse left c s n).cl = z32.set s c from rfl, z32_set t ht]
  cases left
  · simp
  · have h := Nat.testBit_two_pow (n := s) (m := t)
    rw [Nat.testBit_eq_decide_div_mod_eq] at h
    simp only [if_true, Nat.and_self, Option.getD_some, Bool.and_true]
    by_cases hst : s = t
    · subst hst
      simp at h ⊢
      rw [h]; simp
      exact Bool.eq_iff_iff.2 (by simp)
    · rw [if_neg hst]
      simp [hst] at h ⊢
      omega
theorem iC_first {pulse left : Bool} (hpl : pulse = false → left = true) (c s n : Nat) (hs : s < 32) : (iC pulse left c s n).first (2 ^ s) = if (decide (c = 0) && left) = true then s else 0 := by
  cases hb : (decide (c = 0) && left)
  · exact first_none fun t ht => by rw [iC_want hpl c s n t ht, hb, Bool.and_false]
  · rw [if_pos rfl]
    exact first_is hs (fun t ht => by rw [iC_want hpl c s n t (by omega), decide_eq_false (by omega), Bool.false_and]) (by rw [iC_want hpl c s n s hs, hb]; simp)
theorem rep_get {n h a : Nat} (hh : h < n) : (List.replicate n a)[h]? = some a := by rw [List.getElem?_replicate, if_pos hh]
theorem iC_pending {pulse left : Bool} (hpl : pulse = false → left = true) (c s n h : Nat) (hs1 : 1 ≤ s) (hs : s < 32) (hh : h < n) : (iC pulse left c s n).pending h = (decide (c = 0) && left) := by
  unfold IA.pending
  rw [if_pos (by omega), Int.toNat_natCast, show (iC pulse left c s n).lets = List.replicate n (2 ^ s) from rfl, rep_get hh]
  dsimp only
  rw [iC_first hpl c s n hs]
  cases (decide (c = 0) && left) <;> simp
  omega
theorem iC_place1 (pulse left : Bool) (c s n h : Nat) (hn : n ≤ 8) : (iC pulse left c s n).place (8192 + 4 * h) 4096 = none := by
  unfold IA.place
  rw [if_neg (by simp [iC]; omega)]
theorem iC_place2 (pulse left : Bool) (c s n h : Nat) (hh : h < n) : (iC pulse left c s n).place (8192 + 4 * h) 8192 = some h := by
  unfold IA.place
  rw [if_pos (by simp [iC]; omega)]
  congr 1
  omega
theorem iC_val {pulse left : Bool} (hpl : pulse = false → left = true) (c s n h : Nat) (hn : n ≤ 8) (hs : s < 32) (hh : h < n) : (iC pulse left c s n).val (8192 + 4 * h) = if (decide (c = 0) && left) = true then s else 0 := by
  unfold IA.val
  rw [if_neg (by omega), iC_place1 _ _ _ _ _ _ hn, iC_place2 _ _ _ _ _ _ hh]
  dsimp only
  rw [show (iC pulse left c s n).lets = List.replicate n (2 ^ s) from rfl, rep_get hh, Option.getD_some, iC_first hpl c s n hs]
theorem iC_ok (pulse left : Bool) (c s n h : Nat) (hn : n ≤ 8) (hh : h < n) : (iC pulse left c s n).wok (8192 + 4 * h) = true := by
  unfold IA.wok
  rw [iC_place1 _ _ _ _ _ _ hn, iC_place2 _ _ _ _ _ _ hh]; rfl
theorem iC_aft {pulse left : Bool} (hpl : pulse = false → left = true) (c s n h : Nat) (hn : n ≤ 8) (hs1 : 1 ≤ s) (hs : s < 32) (hh : h < n) :
    (iC pulse left c s n).aft (8192 + 4 * h) = if (decide (c = 0) && left) = true then iC pulse (!pulse) (h + 1) s n else iC pulse left c s n := by
  unfold IA.aft
  rw [if_neg (by omega), iC_place1 _ _ _ _ _ _ hn, iC_place2 _ _ _ _ _ _ hh]
  dsimp only
  rw [show (iC pulse left c s n).lets = List.replicate n (2 ^ s) from rfl, rep_get hh, Option.getD_some, iC_first hpl c s n hs]
  cases hb : (decide (c = 0) && left)
  · simp
  · rw [if_pos rfl, if_neg (by omega), if_pos rfl]
    have hz : (2 ^ s) &&& (4294967295 - 2 ^ s) = 0 := by
      apply Nat.eq_of_testBit_eq
      intro t
      rw [Nat.testBit_and, mask_bit s t hs, Nat.testBit_two_pow, Nat.zero_testBit]
      by_cases h : s = t
      · subst h; simp
      · simp [h]
    unfold iC
    simp only [List.set_set, IA.mk.injEq, true_and, and_true]
    cases pulse <;> cases left <;> simp_all
theorem iC_wr {pulse left : Bool} (c s n h : Nat) (hn : n ≤ 8) (hs : s < 32) (hh : h < n) :
    (iC pulse left c s n).wr (8192 + 4 * h) s = if c = h + 1 then iC pulse left 0 s n else iC pulse left c s n := by
  unfold IA.wr
  rw [iC_place1 _ _ _ _ _ _ hn, iC_place2 _ _ _ _ _ _ hh]
  dsimp only
  rw [Nat.mod_eq_of_lt (by omega), show (iC pulse left c s n).cl = z32.set s c from rfl, z32_set s hs, if_pos rfl]
  by_cases hc : c = h + 1
  · rw [if_pos (by rw [hc]), if_pos hc, List.set_set]; rfl
  · rw [if_neg (by simpa using hc), if_neg hc]
theorem iB_pending (h s n k : Nat) : (iB h s n).pending k = false := by
  have hf : ∀ l, (iB h s n).first l = 0 := fun l => first_none fun t _ => by simp [IA.want, IA.up, iB]
  unfold IA.pending
  rw [if_pos (by omega)]
  cases (iB h s n).lets[(k : Int).toNat]? with
  | none => rfl
  | some l => simp [hf l]
theorem iB_place (h s n : Nat) (hh : h < n) : (iB h s n).place (4096 + 4 * h) 4096 = some h := by
  unfold IA.place
  rw [if_pos (by simp [iB]; omega)]
  congr 1
  omega
theorem iB_wr (h s n : Nat) (hh : h < n) (hs1 : 1 ≤ s) (hs : s < 32) : (iB h s n).wr (4096 + 4 * h) (2 ^ s) = iB (h + 1) s n := by
  unfold IA.wr
  rw [iB_place h s n hh]
  dsimp only
  have hp := pow_lt32 hs
  have h2 : 2 ^ s % 4294967296 / 2 * 2 = 2 ^ s := by
    obtain ⟨q, hq⟩ : ∃ q, 2 ^ s = 2 * q := ⟨2 ^ (s - 1), by rw [← Nat.pow_succ']; congr 1; omega⟩
    omega
  rw [h2]
  obtain ⟨k, hk⟩ : ∃ k, n - h = k + 1 := ⟨n - h - 1, by omega⟩
  unfold iB
  simp only [IA.mk.injEq, true_and]
  rw [List.set_append_right _ _ (by simp), List.length_replicate, Nat.sub_self, hk, show n - (h + 1) = k by omega, List.replicate_succ, List.set_cons_zero, List.replicate_succ', List.append_assoc]
  rfl
theorem iB_ok (h s n : Nat) (hh : h < n) : (iB h s n).wok (4096 + 4 * h) = true := by
  unfold IA.wok
  rw [iB_place h s n hh]; rfl
theorem iB_level (s n : Nat) : (iB n s n).level s true = iC false true 0 s n := by
  unfold IA.level iB iC setb
  have : z32.set s 0 = z32 := by
    apply List.ext_getElem?
    intro t
    by_cases ht : t < 32
    · rw [z32_set t ht, z32_get ht]; simp
    · rw [List.getElem?_eq_none (by simp [z32]; omega), List.getElem?_eq_none (by simp [z32]; omega)]
  simp [this]
theorem iB_pulse (s n : Nat) : (iB n s n).pulse s = iC true true 0 s n := by
  unfold IA.pulse iB iC
  have : z32.set s 0 = z32 := by
    apply List.ext_getElem?
    intro t
    by_cases ht : t < 32
    · rw [z32_set t ht, z32_get ht]; simp
    · rw [List.getElem?_eq_none (by simp [z32]; omega), List.getElem?_eq_none (by simp [z32]; omega)]
  simp [this]
theorem iB_new (s n : Nat) : ia0 n = iB 0 s n := by unfold ia0 iB z32; simp

theorem iC_rok (pulse left : Bool) (c s n h : Nat) (hn : n ≤ 8) (hh : h < n) : (iC pulse left c s n).rok (8192 + 4 * h) = true := by
  unfold IA.rok
  rw [iC_ok pulse left c s n h hn hh, Bool.or_true]

set_option maxRecDepth 100000 in
set_option maxHeartbeats 6400000 in
theorem claims_walk (S : Nat → Prop) (src harts : Int) (A : Option Addr) (m c0 : Nat) (ord : List Int) (pulse : Bool) (w : World) (hm : m = ord.length) (_hs : m * 8 ≤ 140737488351232) (hrd : Rd w S A (ord.map fun z => .int .i64 z)) :
    Calls Try.prog 7 #[.int .i64 src, .int .i64 harts, .slice A m c0, .bool pulse] w fun e w' => e = .returned (.bool true) ∧ Below w.heap.size w w' := by
  have HM := Lib.hid hm; clear hm
  have HR := Lib.hid hrd; clear hrd
  obtain ⟨n, hn⟩ : ∃ n : Nat, 1 + harts % 8 = n := ⟨(1 + harts % 8).toNat, by omega⟩
  obtain ⟨s, hs⟩ : ∃ s : Nat, 1 + src % 31 = s := ⟨(1 + src % 31).toNat, by omega⟩
  have hn1 : 1 ≤ n ∧ n ≤ 8 := by omega
  have hs1 : 1 ≤ s := by omega
  have hs2 : s < 32 := by omega
  obtain ⟨v, hv⟩ : ∃ v : Nat, 2 ^ s = v := ⟨_, rfl⟩
  have hv32 : v < 4294967296 := by rw [← hv]; exact pow_lt32 hs2
  have hvi : (2 : Int) ^ s = v := by rw [← hv]; push_cast; rfl
  have HV := Lib.hid hv
  clear hv
  go_enter Try.func7, Try.ntmps7
  go_wp2_with fail
  refine (place_any harts 8 _ (by omega) (by omega)).mono ?_
  rintro e w2 ⟨rfl, hw2⟩
  subst hw2
  go_wp2_with fail
  refine (place_any src 31 _ (by omega) (by omega)).mono ?_
  rintro e w2 ⟨rfl, hw2⟩
  subst hw2
  go_wp2_with fail
  refine (iown_new n _ (by omega)).mono ?_
  rintro e w1 ⟨p, rfl, O1⟩
  rw [iB_new s n] at O1
  have O1 := Lib.hid O1
  have HN := Lib.hid hn
  have HSS := Lib.hid hs
  clear hn hs
  go_wp2_with fail
  go_loopw [13] (fun i wr => ∃ h : Nat, h ≤ n ∧ i = .int .i64 h ∧ IOwn w2 wr p (iB h s n)) (fun i _ => n - (intOf i).toNat)
  case atStart => exact ⟨0, by omega, rfl, O1.out⟩
  case round =>
    obtain ⟨h, hh, rfl, O2⟩ := hrel
    have O2 := Lib.hid O2
    by_cases hhn : h < n
    · obtain ⟨a, ha⟩ : ∃ a : Nat, 4096 + 4 * h = a := ⟨_, rfl⟩
      have hai : (4096 : Int) + 4 * (h : Int) = a := by omega
      have HA := Lib.hid ha
      have ha64 := wrap64 a (by omega)
      clear ha
      go_wp2_with fail
      refine (iown_pending O2.out h).mono ?_
      rintro e w3 ⟨he, O3⟩
      rw [iB_pending] at he
      subst he
      have O3 := Lib.hid O3
      go_wp2_with fail
      refine (iown_write O3.out a v (by omega) (by omega)).mono ?_
      rintro e w4 ⟨he, O4⟩
      rw [← HA.out, iB_ok h s n hhn] at he
      rw [← HA.out, ← HV.out, iB_wr h s n hhn hs1 hs2] at O4
      subst he
      have O4 := Lib.hid O4
      go_wp2
      go_roundw
      case rel => exact ⟨h + 1, by omega, by go_num, O4.out⟩
      case measure => simp [intOf]; omega
    · obtain rfl : h = n := by omega
      go_upto_if 58 with fail
      go_cut [] from 59 to 64 (fun wc => IOwn w2 wc p (iC pulse true 0 s h))
      case first =>
        cases pulse with
        | true =>
          go_wp2_with fail
          refine (iown_pulse O2.out s hs1 hs2).mono ?_
          rintro e w3 ⟨rfl, O3⟩
          rw [iB_pulse] at O3
          go_wp2
          go_meet
          exact O3
        | false =>
          go_wp2_with fail
          refine (iown_level O2.out s true hs1 hs2).mono ?_
          rintro e w3 ⟨rfl, O3⟩
          rw [iB_level] at O3
          go_wp2
          go_meet
          exact O3
      case rest =>
        have O5 := Lib.hid hcut
        clear hcut
        go_wp2_with fail
        go_loopw [14, 15, 16] (fun b lf i wr => ∃ k : Nat, k ≤ m ∧ i = .int .i64 k ∧ ∃ (c : Nat) (left : Bool), c ≤ h ∧ (pulse = false → left = true) ∧ (∃ bv : Int, b = .int .i64 bv ∧ bv = (c : Int) - 1) ∧ lf = .bool left ∧ IOwn w2 wr p (iC pulse left c s h)) (fun _ _ i _ => m - (intOf i).toNat)
        case atStart => exact ⟨0, by omega, rfl, 0, true, by omega, fun _ => rfl, ⟨-1, rfl, rfl⟩, rfl, O5.out⟩
        case round =>
          obtain ⟨k, hk, rfl, c, left, hc, hpl, ⟨bv, rfl, hbv⟩, rfl, O6⟩ := hrel
          have O6 := Lib.hid O6
          have HPL := Lib.hid hpl
          clear hpl
          by_cases hkm : k < m
          · have hko : k < ord.length := by have : m = ord.length := HM.out; omega
            obtain ⟨b, off, hA, hb, _, hcc⟩ := HR.out (by intro h; have h2 := congrArg List.length h; simp only [List.length_map, List.length_nil] at h2; omega)
            subst hA
            have d0 := (O6.out.2.2.cell (p := ⟨b, off + k, none⟩) hb (fun h => h)).trans (hcc k _ (by rw [List.getElem?_map, List.getElem?_eq_getElem hko]; rfl))
            clear hcc
            obtain ⟨j, hj⟩ : ∃ j : Nat, ord[k] % (h : Int) = j := ⟨(ord[k] % (h : Int)).toNat, by have := Int.emod_nonneg ord[k] (show (h : Int) ≠ 0 by omega); omega⟩
            have hjh : j < h := by have := Int.emod_lt_of_pos ord[k] (show (0 : Int) < h by omega); omega
            generalize ord[k] = z at *
            have HJ := Lib.hid hj
            clear hj
            obtain ⟨a, ha⟩ : ∃ a : Nat, 8192 + 4 * j = a := ⟨_, rfl⟩
            have hai : (8192 : Int) + 4 * (j : Int) = a := by omega
            have HA := Lib.hid ha
            have ha64 := wrap64 a (by omega)
            have hs64 := wrap64 s (by omega)
            clear ha
            have e2 : (k : Int).tmod 2 = ((k % 2 : Nat) : Int) := by rw [Int.tmod_eq_emod_of_nonneg (by omega)]; omega
            rcases (show k % 2 = 0 ∨ k % 2 = 1 by omega) with hk2 | hk2 <;> rw [hk2] at e2 <;> clear hk2
            · rcases Nat.eq_zero_or_pos c with hc0 | hc0
              · obtain rfl : c = 0 := hc0
                obtain rfl : bv = -1 := by omega
                clear hbv
                cases left with
                | true =>
                  have hse : ((s : Int) == s) = true := by simp
                  have hs0 : ((s : Int) != 0) = true := by simp; omega
                  go_wp2_with fail
                  refine (place_any z h _ (by omega) (by omega)).mono ?_
                  rintro e w3 ⟨he, hw3⟩
                  subst hw3
                  rw [HJ.out] at he
                  subst he
                  go_wp2_with fail
                  refine (iown_pending O6.out j).mono ?_
                  rintro e w4 ⟨he, O7⟩
                  rw [iC_pending (by first | exact HPL.out | exact fun _ => rfl) _ s h j hs1 hs2 hjh] at he
                  have he2 : e = .returned (.bool true) := he
                  subst he2
                  have O7 := Lib.hid O7
                  clear he
                  go_wp2_with fail
                  refine (iown_read O7.out a (by omega)).mono ?_
                  rintro e w5 ⟨he, O8⟩
                  rw [← HA.out, iC_val (by first | exact HPL.out | exact fun _ => rfl) _ s h j hn1.2 hs2 hjh, iC_rok _ _ _ s h j hn1.2 hjh] at he
                  rw [← HA.out, iC_aft (by first | exact HPL.out | exact fun _ => rfl) _ s h j hn1.2 hs1 hs2 hjh] at O8
                  have he2 : e = .returned (.tuple #[.int .u64 s, .bool true]) := he
                  subst he2
                  have O9 : Hid (IOwn w2 w5 p (iC pulse (!pulse) (j + 1) s h)) := O8
                  clear he O8
                  cases pulse with
                  | true =>
                    go_wp2
                    go_roundw
                    case rel => exact ⟨k + 1, by omega, by go_num, j + 1, false, by omega, (fun h => by cases h), ⟨j, rfl, by omega⟩, rfl, O9.out⟩
                    case measure => simp [intOf]; omega
                  | false =>
                    go_wp2
                    go_roundw
                    case rel => exact ⟨k + 1, by omega, by go_num, j + 1, true, by omega, (fun _ => rfl), ⟨j, rfl, by omega⟩, rfl, O9.out⟩
                    case measure => simp [intOf]; omega
                | false =>
                  have hse : ((0 : Int) == s) = false := by rw [beq_eq_false_iff_ne]; omega
                  go_wp2_with fail
                  refine (place_any z h _ (by omega) (by omega)).mono ?_
                  rintro e w3 ⟨he, hw3⟩
                  subst hw3
                  rw [HJ.out] at he
                  subst he
                  go_wp2_with fail
                  refine (iown_pending O6.out j).mono ?_
                  rintro e w4 ⟨he, O7⟩
                  rw [iC_pending (by first | exact HPL.out | exact fun _ => rfl) _ s h j hs1 hs2 hjh] at he
                  have he2 : e = .returned (.bool false) := by rw [he]; simp
                  subst he2
                  have O7 := Lib.hid O7
                  clear he
                  go_wp2_with fail
                  refine (iown_read O7.out a (by omega)).mono ?_
                  rintro e w5 ⟨he, O8⟩
                  rw [← HA.out, iC_val (by first | exact HPL.out | exact fun _ => rfl) _ s h j hn1.2 hs2 hjh, iC_rok _ _ _ s h j hn1.2 hjh] at he
                  rw [← HA.out, iC_aft (by first | exact HPL.out | exact fun _ => rfl) _ s h j hn1.2 hs1 hs2 hjh] at O8
                  have he2 : e = .returned (.tuple #[.int .u64 0, .bool true]) := by rw [he]; simp
                  subst he2
                  have O9 : Hid (IOwn w2 w5 p (iC pulse false 0 s h)) := by show IOwn _ _ _ _; simpa using O8
                  clear he O8
                  go_wp2
                  go_roundw
                  case rel => exact ⟨k + 1, by omega, by go_num, 0, false, by omega, HPL.out, ⟨-1, rfl, rfl⟩, rfl, O9.out⟩
                  case measure => simp [intOf]; omega
              · obtain ⟨d, hd⟩ : ∃ d : Nat, c = d + 1 := ⟨c - 1, by omega⟩
                obtain rfl : bv = (d : Int) := by omega
                have hcn : decide (c = 0) = false := by simp; omega
                have HD := Lib.hid hd
                clear hd hc0 hbv
                have hse : ((0 : Int) == s) = false := by rw [beq_eq_false_iff_ne]; omega
                go_wp2_with fail
                refine (place_any z h _ (by omega) (by omega)).mono ?_
                rintro e w3 ⟨he, hw3⟩
                subst hw3
                rw [HJ.out] at he
                subst he
                go_wp2_with fail
                refine (iown_pending O6.out j).mono ?_
                rintro e w4 ⟨he, O7⟩
                rw [iC_pending (by first | exact HPL.out | exact fun _ => rfl) _ s h j hs1 hs2 hjh] at he
                have he2 : e = .returned (.bool false) := by rw [he, hcn]; rfl
                subst he2
                have O7 := Lib.hid O7
                clear he
                go_wp2_with fail
                refine (iown_read O7.out a (by omega)).mono ?_
                rintro e w5 ⟨he, O8⟩
                rw [← HA.out, iC_val (by first | exact HPL.out | exact fun _ => rfl) _ s h j hn1.2 hs2 hjh, iC_rok _ _ _ s h j hn1.2 hjh] at he
                rw [← HA.out, iC_aft (by first | exact HPL.out | exact fun _ => rfl) _ s h j hn1.2 hs1 hs2 hjh] at O8
                have he2 : e = .returned (.tuple #[.int .u64 0, .bool true]) := by rw [he, hcn]; rfl
                subst he2
                have O9 : Hid (IOwn w2 w5 p (iC pulse left c s h)) := by show IOwn _ _ _ _; rw [hcn] at O8; exact O8
                clear he O8
                go_wp2
                go_roundw
                case rel => exact ⟨k + 1, by omega, by go_num, c, left, hc, HPL.out, ⟨d, rfl, by have := HD.out; omega⟩, rfl, O9.out⟩
                case measure => simp [intOf]; omega
            · rcases Nat.eq_zero_or_pos c with hc0 | hc0
              · obtain rfl : c = 0 := hc0
                obtain rfl : bv = -1 := by omega
                clear hbv
                cases left with
                | true =>
                  have hjn : ((-1 : Int) == j) = false := by rw [beq_eq_false_iff_ne]; omega
                  go_wp2_with fail
                  refine (place_any z h _ (by omega) (by omega)).mono ?_
                  rintro e w3 ⟨he, hw3⟩
                  subst hw3
                  rw [HJ.out] at he
                  subst he
                  go_wp2_with fail
                  refine (iown_pending O6.out j).mono ?_
                  rintro e w4 ⟨he, O7⟩
                  rw [iC_pending (by first | exact HPL.out | exact fun _ => rfl) _ s h j hs1 hs2 hjh] at he
                  have he2 : e = .returned (.bool true) := he
                  subst he2
                  have O7 := Lib.hid O7
                  clear he
                  go_wp2_with fail
                  refine (iown_write O7.out a s (by omega) (by omega)).mono ?_
                  rintro e w5 ⟨he, O8⟩
                  rw [← HA.out, iC_ok _ _ _ s h j hn1.2 hjh] at he
                  rw [← HA.out, iC_wr _ s h j hn1.2 hs2 hjh] at O8
                  subst he
                  rw [if_neg (by omega)] at O8
                  have O9 := Lib.hid O8
                  clear O8
                  go_wp2
                  go_roundw
                  case rel => exact ⟨k + 1, by omega, by go_num, 0, true, by omega, (fun _ => rfl), ⟨-1, rfl, rfl⟩, rfl, O9.out⟩
                  case measure => simp [intOf]; omega
                | false =>
                  have hjn : ((-1 : Int) == j) = false := by rw [beq_eq_false_iff_ne]; omega
                  go_wp2_with fail
                  refine (place_any z h _ (by omega) (by omega)).mono ?_
                  rintro e w3 ⟨he, hw3⟩
                  subst hw3
                  rw [HJ.out] at he
                  subst he
                  go_wp2_with fail
                  refine (iown_pending O6.out j).mono ?_
                  rintro e w4 ⟨he, O7⟩
                  rw [iC_pending (by first | exact HPL.out | exact fun _ => rfl) _ s h j hs1 hs2 hjh] at he
                  have he2 : e = .returned (.bool false) := by rw [he]; simp
                  subst he2
                  have O7 := Lib.hid O7
                  clear he
                  go_wp2_with fail
                  refine (iown_write O7.out a s (by omega) (by omega)).mono ?_
                  rintro e w5 ⟨he, O8⟩
                  rw [← HA.out, iC_ok _ _ _ s h j hn1.2 hjh] at he
                  rw [← HA.out, iC_wr _ s h j hn1.2 hs2 hjh] at O8
                  subst he
                  rw [if_neg (by omega)] at O8
                  have O9 := Lib.hid O8
                  clear O8
                  go_wp2
                  go_roundw
                  case rel => exact ⟨k + 1, by omega, by go_num, 0, false, by omega, HPL.out, ⟨-1, rfl, rfl⟩, rfl, O9.out⟩
                  case measure => simp [intOf]; omega
              · obtain ⟨d, hd⟩ : ∃ d : Nat, c = d + 1 := ⟨c - 1, by omega⟩
                obtain rfl : bv = (d : Int) := by omega
                have hcn : decide (c = 0) = false := by simp; omega
                have HD := Lib.hid hd
                clear hd hc0 hbv
                by_cases hdj : d = j
                · have hjn : ((d : Int) == j) = true := by simp [hdj]
                  go_wp2_with fail
                  refine (place_any z h _ (by omega) (by omega)).mono ?_
                  rintro e w3 ⟨he, hw3⟩
                  subst hw3
                  rw [HJ.out] at he
                  subst he
                  go_wp2_with fail
                  refine (iown_pending O6.out j).mono ?_
                  rintro e w4 ⟨he, O7⟩
                  rw [iC_pending (by first | exact HPL.out | exact fun _ => rfl) _ s h j hs1 hs2 hjh] at he
                  have he2 : e = .returned (.bool false) := by rw [he, hcn]; rfl
                  subst he2
                  have O7 := Lib.hid O7
                  clear he
                  go_wp2_with fail
                  refine (iown_write O7.out a s (by omega) (by omega)).mono ?_
                  rintro e w5 ⟨he, O8⟩
                  rw [← HA.out, iC_ok _ _ _ s h j hn1.2 hjh] at he
                  rw [← HA.out, iC_wr _ s h j hn1.2 hs2 hjh] at O8
                  subst he
                  rw [if_pos (by have := HD.out; omega)] at O8
                  have O9 := Lib.hid O8
                  clear O8
                  go_wp2
                  go_roundw
                  case rel => exact ⟨k + 1, by omega, by go_num, 0, left, by omega, HPL.out, ⟨-1, rfl, rfl⟩, rfl, O9.out⟩
                  case measure => simp [intOf]; omega
                · have hjn : ((d : Int) == j) = false := by rw [beq_eq_false_iff_ne]; omega
                  go_wp2_with fail
                  refine (place_any z h _ (by omega) (by omega)).mono ?_
                  rintro e w3 ⟨he, hw3⟩
                  subst hw3
                  rw [HJ.out] at he
                  subst he
                  go_wp2_with fail
                  refine (iown_pending O6.out j).mono ?_
                  rintro e w4 ⟨he, O7⟩
                  rw [iC_pending (by first | exact HPL.out | exact fun _ => rfl) _ s h j hs1 hs2 hjh] at he
                  have he2 : e = .returned (.bool false) := by rw [he, hcn]; rfl
                  subst he2
                  have O7 := Lib.hid O7
                  clear he
                  go_wp2_with fail
                  refine (iown_write O7.out a s (by omega) (by omega)).mono ?_
                  rintro e w5 ⟨he, O8⟩
                  rw [← HA.out, iC_ok _ _ _ s h j hn1.2 hjh] at he
                  rw [← HA.out, iC_wr _ s h j hn1.2 hs2 hjh] at O8
                  subst he
                  rw [if_neg (by have := HD.out; omega)] at O8
                  have O9 := Lib.hid O8
                  clear O8
                  go_wp2
                  go_roundw
                  case rel => exact ⟨k + 1, by omega, by go_num, c, left, hc, HPL.out, ⟨d, rfl, by have := HD.out; omega⟩, rfl, O9.out⟩
                  case measure => simp [intOf]; omega
          · go_wp2_with fail
            refine (awake_any _).mono ?_
            rintro e w9 ⟨rfl, hf⟩
            go_wp2
            go_ret
            exact ⟨rfl, (O6.out.2.2.trans hf (fun _ _ h => h)).below (fun _ h => h.elim) (Nat.le_refl _)⟩
end Go.Proofs.Ytnjddnmekcjhnaa
