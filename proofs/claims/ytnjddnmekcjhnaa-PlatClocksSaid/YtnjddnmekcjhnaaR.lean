/- PlatClocks: the walk. -/
import Derived.Test.YtnjddnmekcjhnaaP
import Derived.Deep.DeepCutAuto
import Derived.Deep.CutBlock
import Derived.Deep.CutRange
namespace Go.Proofs.Ytnjddnmekcjhnaa
open Go.RowKit

def kHi (size : Int) (off now : Nat) (hi : Int) : Int := if size = 4 ∧ off = 0 then (now : Int) / 4294967296 else hi
def kVal (size : Int) (off now : Nat) (hi : Int) : Int := if size = 4 then (if off = 0 then (now : Int) % 4294967296 else if off = 4 then hi else 0) else 0
def kOk (size : Int) (off : Nat) : Bool := decide (size = 4 ∧ (off = 0 ∨ off = 4))

theorem clock_any (p : Nat) (hi size : Int) (off now : Nat) (w : World) (h : Has w p 71 #[.int .u64 hi]) :
    Calls Try.prog 13 #[.pointer (some ⟨p, 0, none⟩), .int .u64 off, .int .i64 size, .int .u64 now] w fun e w' => e = .returned (.tuple #[.int .u64 (kVal size off now hi), .bool (kOk size off)]) ∧ Has w' p 71 #[.int .u64 (kHi size off now hi)] ∧ Fr (fun k => k = p) w w' := by
  by_cases h4 : size = 4
  · subst h4
    by_cases h0 : off = 0
    · subst h0
      refine (clock_low p now hi w h).mono fun e w' ⟨he, hw⟩ => ⟨by rw [he]; rfl, ?_, ?_⟩
      · rw [hw]; exact h.set 0 _
      · rw [hw]; exact Fr.store w p 0 _
    · by_cases h4 : off = 4
      · subst h4
        refine (clock_high p hi now w h).mono fun e w' ⟨he, hw⟩ => ⟨by rw [he]; rfl, ?_, ?_⟩
        · rw [hw]; exact h
        · rw [hw]; exact Fr.refl _ _
      · refine (clock_no p off 4 now w (by omega)).mono fun e w' ⟨he, hw⟩ => ⟨by rw [he]; simp [kVal, kOk, h0, h4], ?_, ?_⟩
        · rw [hw]; simpa [kHi, h0] using h
        · rw [hw]; exact Fr.refl _ _
  · refine (clock_no p off size now w (by omega)).mono fun e w' ⟨he, hw⟩ => ⟨by rw [he]; simp [kVal, kOk, h4], ?_, ?_⟩
    · rw [hw]; simpa [kHi, h4] using h
    · rw [hw]; exact Fr.refl _ _

theorem k_low (p : Nat) (now : Nat) (hi : Int) (w : World) (h : Has w p 29 #[.int .u64 hi]) :
    Calls Try.prog 14 #[.pointer (some ⟨p, 0, none⟩), .int .u64 0, .int .i64 4, .int .u64 now] w fun e w' => e = .returned (.tuple #[.int .u64 ((now : Int) % 4294967296), .bool true]) ∧ w' = w.setCell ⟨p, 0, none⟩ (.int .u64 ((now : Int) / 4294967296)) := by
  have c0 := h.cell 0
  have f0 := h.frozen 0
  have e1 : (now : Int).tmod 4294967296 = (now : Int) % 4294967296 := Int.tmod_eq_emod_of_nonneg (by omega)
  go_enter Try.func14, Try.ntmps14
  go_wp2
  go_ret2
  exact ⟨rfl, rfl⟩
theorem k_high (p : Nat) (hi now : Int) (w : World) (h : Has w p 29 #[.int .u64 hi]) :
    Calls Try.prog 14 #[.pointer (some ⟨p, 0, none⟩), .int .u64 4, .int .i64 4, .int .u64 now] w fun e w' => e = .returned (.tuple #[.int .u64 hi, .bool true]) ∧ w' = w := by
  have c0 := h.cell 0
  go_enter Try.func14, Try.ntmps14
  go_wp2
  go_ret2
  exact ⟨rfl, rfl⟩
theorem k_no (p : Nat) (off size now : Int) (w : World) (h : ¬ (size = 4 ∧ (off = 0 ∨ off = 4))) :
    Calls Try.prog 14 #[.pointer (some ⟨p, 0, none⟩), .int .u64 off, .int .i64 size, .int .u64 now] w fun e w' => e = .returned (.tuple #[.int .u64 0, .bool false]) ∧ w' = w := by
  by_cases h1 : size = 4
  · subst h1
    have h2 : (off == 0) = false := by simp; omega
    have h3 : (off == 4) = false := by simp; omega
    clear h
    go_enter Try.func14, Try.ntmps14
    go_wp2
    go_ret2
    exact ⟨rfl, rfl⟩
  · have h2 : (size == 4) = false := by simp; omega
    clear h h1
    go_enter Try.func14, Try.ntmps14
    go_wp2
    go_ret2
    exact ⟨rfl, rfl⟩
theorem k_any (p : Nat) (hi size : Int) (off now : Nat) (w : World) (h : Has w p 29 #[.int .u64 hi]) :
    Calls Try.prog 14 #[.pointer (some ⟨p, 0, none⟩), .int .u64 off, .int .i64 size, .int .u64 now] w fun e w' => e = .returned (.tuple #[.int .u64 (kVal size off now hi), .bool (kOk size off)]) ∧ Has w' p 29 #[.int .u64 (kHi size off now hi)] ∧ Fr (fun k => k = p) w w' := by
  by_cases h4 : size = 4
  · subst h4
    by_cases h0 : off = 0
    · subst h0
      refine (k_low p now hi w h).mono fun e w' ⟨he, hw⟩ => ⟨by rw [he]; rfl, ?_, ?_⟩
      · rw [hw]; exact h.set 0 _
      · rw [hw]; exact Fr.store w p 0 _
    · by_cases h4 : off = 4
      · subst h4
        refine (k_high p hi now w h).mono fun e w' ⟨he, hw⟩ => ⟨by rw [he]; rfl, ?_, ?_⟩
        · rw [hw]; exact h
        · rw [hw]; exact Fr.refl _ _
      · refine (k_no p off 4 now w (by omega)).mono fun e w' ⟨he, hw⟩ => ⟨by rw [he]; simp [kVal, kOk, h0, h4], ?_, ?_⟩
        · rw [hw]; simpa [kHi, h0] using h
        · rw [hw]; exact Fr.refl _ _
  · refine (k_no p off size now w (by omega)).mono fun e w' ⟨he, hw⟩ => ⟨by rw [he]; simp [kVal, kOk, h4], ?_, ?_⟩
    · rw [hw]; simpa [kHi, h4] using h
    · rw [hw]; exact Fr.refl _ _

set_option maxRecDepth 100000 in
set_option maxHeartbeats 3200000 in
theorem clocks_walk (S1 S2 : Nat → Prop) (A B : Option Addr) (n c m d : Nat) (ops : List Sc) (nows : List B64) (w : World) (hn : n = ops.length) (hs : n * 40 ≤ 140737488351232) (hrd : Rd w S1 A (flatS ops))
    (hm : m = nows.length) (_hs2 : m * 8 ≤ 140737488351232) (hrd2 : Rd w S2 B (nows.map fun z => .int .u64 (z.1 : Int))) :
    Calls Try.prog 3 #[.slice A n c, .slice B m d] w fun e w' => e = .returned (.bool true) ∧ Below w.heap.size w w' := by
  have HN := Lib.hid hn; clear hn
  have HM := Lib.hid hm; clear hm
  have HR := Lib.hid hrd; clear hrd
  have HR2 := Lib.hid hrd2; clear hrd2
  go_enter Try.func3, Try.ntmps3
  go_wp2_with fail
  refine (newClock_any w).mono ?_
  rintro e w1 ⟨rfl, hw1⟩
  subst hw1
  have hc := Has.new w 71 #[.int .u64 0]
  have hk := Has.new (w.alloc (.cells #[.int .u64 0] 71)) 29 #[.int .u64 0]
  have hc := ((Fr.refl (fun _ => False) _).alloc (.cells #[.int .u64 0] 29)).has hc (fun h => h)
  have hf := ((Fr.refl (fun _ => False) w).alloc (.cells #[.int .u64 0] 71)).alloc (.cells #[.int .u64 0] 29)
  rw [show (w.alloc (.cells #[.int .u64 0] 71)).heap.size = w.heap.size + 1 by simp] at hk
  have HC := Lib.hid hc
  have HK := Lib.hid hk
  have HF := Lib.hid hf
  clear hc hk hf
  go_wp2_with fail
  go_loopw [7] (fun i wr => ∃ k : Nat, k ≤ n ∧ i = .int .i64 k ∧ ∃ hi, Has wr w.heap.size 71 #[.int .u64 hi] ∧ Has wr (w.heap.size + 1) 29 #[.int .u64 hi] ∧ Fr (fun _ => False) w wr) (fun i _ => n - (intOf i).toNat)
  case atStart => exact ⟨0, Nat.zero_le _, rfl, 0, HC.out, HK.out, HF.out⟩
  case round =>
    obtain ⟨k, hk, rfl, hi, hc, hkk, hf⟩ := hrel
    have HC := Lib.hid hc
    have HK := Lib.hid hkk
    have HF := Lib.hid hf
    clear hc hkk hf
    by_cases hkn : k < n
    · have hko : k < ops.length := by have : n = ops.length := HN.out; omega
      obtain ⟨b, off, hA, hb, _, hc⟩ := HR.out (by intro h; have := flatS_length ops; rw [h] at this; simp at this; omega)
      subst hA
      obtain ⟨d0, d1, d2, d3, d4⟩ := sc_cells HF.out hb (fun h => h) hc hko
      clear hc
      generalize ops[k] = o at *
      go_upto_if 32 with fail
      go_cut [8] from 32 to 36 (fun v wc => ∃ now : Nat, v = .int .u64 now ∧ wc = wr)
      case first =>
        by_cases hkm : k < m
        · have hkm2 : k < nows.length := by have : m = nows.length := HM.out; omega
          obtain ⟨b2, off2, hB, hb2, _, hc2⟩ := HR2.out (by intro h; have h2 := congrArg List.length h; simp only [List.length_map, List.length_nil] at h2; omega)
          subst hB
          have g0 := (HF.out.cell (p := ⟨b2, off2 + k, none⟩) hb2 (fun h => h)).trans (hc2 k _ (by rw [List.getElem?_map, List.getElem?_eq_getElem hkm2]; rfl))
          clear hc2
          go_wp2
          go_meet
          exact ⟨_, rfl, rfl⟩
        · have hkm' : decide (k < m) = false := by simp; omega
          go_wp2
          go_meet
          exact ⟨_, rfl, rfl⟩
      case rest =>
        obtain ⟨now, rfl, rfl⟩ := hcut
        obtain ⟨wa, rfl⟩ : ∃ wa : World, wa = wc := ⟨_, rfl⟩
        go_upto_region 11 with fail
        go_cut [9, 10] from 37 to 52 (fun a b wc => a = .int .u64 (kVal o.size o.off now hi) ∧ b = .bool (kOk o.size o.off) ∧ Has wc w.heap.size 71 #[.int .u64 (kHi o.size o.off now hi)] ∧ Has wc (w.heap.size + 1) 29 #[.int .u64 hi] ∧ Fr (fun k => k = w.heap.size) wa wc)
        case first =>
          go_region_with (first | (go_at_call 13; refine (clock_any w.heap.size hi o.size o.off now wa.drew (((Fr.refl (fun _ => False) wa).drew).has HC.out (fun h => h))).mono ?_; rintro e w4 ⟨rfl, hc4, hf4⟩))
          all_goals
            go_wp2_with fail
            go_meet
            have hf5 := ((Fr.refl (fun k => k = w.heap.size) wa).drew).trans hf4 (fun _ _ h => h)
            exact ⟨rfl, rfl, hc4, hf5.has HK.out (fun h => by omega), hf5⟩
        case rest =>
          obtain ⟨rfl, rfl, hc2, hk2, hf2⟩ := hcut
          have HC2 := Lib.hid hc2
          have HK2 := Lib.hid hk2
          have HF2 := Lib.hid (HF.out.trans hf2 (fun k hk h => by omega))
          have hb2 := hf2.size
          have hbw := HF.out.size
          have hnb : b ≠ w.heap.size := by omega
          have d0' := (hf2.cell (p := ⟨b, _, none⟩) (Nat.lt_of_lt_of_le hb hbw) hnb).trans d1
          have d3' := (hf2.cell (p := ⟨b, _, none⟩) (Nat.lt_of_lt_of_le hb hbw) hnb).trans d3
          clear hc2 hk2 hf2 d0 d1 d2 d3 d4
          obtain ⟨wb, rfl⟩ : ∃ wb : World, wb = wc := ⟨_, rfl⟩
          go_upto_region 12 with fail
          go_cut [11, 12] from 53 to 68 (fun a b wc => a = .int .u64 (kVal o.size o.off now hi) ∧ b = .bool (kOk o.size o.off) ∧ Has wc w.heap.size 71 #[.int .u64 (kHi o.size o.off now hi)] ∧ Has wc (w.heap.size + 1) 29 #[.int .u64 (kHi o.size o.off now hi)] ∧ Fr (fun k => k = w.heap.size + 1) wb wc)
          case first =>
            go_region_with (first | (go_at_call 14; refine (k_any (w.heap.size + 1) hi o.size o.off now wb.drew (((Fr.refl (fun _ => False) wb).drew).has HK2.out (fun h => h))).mono ?_; rintro e w4 ⟨rfl, hc4, hf4⟩))
            all_goals
              go_wp2_with fail
              go_meet
              have hf5 := ((Fr.refl (fun k => k = w.heap.size + 1) wb).drew).trans hf4 (fun _ _ h => h)
              exact ⟨rfl, rfl, hf5.has HC2.out (fun h => by omega), hc4, hf5⟩
          case rest =>
            obtain ⟨rfl, rfl, hc3, hk3, hf3⟩ := hcut
            have HC3 := Lib.hid hc3
            have HK3 := Lib.hid hk3
            have HF3 := Lib.hid (HF2.out.trans hf3 (fun k hk h => by omega))
            clear hc3 hk3 hf3
            go_wp2
            go_roundw
            case rel => exact ⟨k + 1, by omega, by go_num, _, HC3.out, HK3.out, HF3.out⟩
            case measure => simp [intOf]; omega
    · go_wp2_with fail
      refine (awake_any _).mono ?_
      rintro e w9 ⟨rfl, hf⟩
      go_wp2
      go_ret
      exact ⟨rfl, (HF.out.trans hf (fun _ _ h => h)).below (fun _ h => h.elim) (Nat.le_refl _)⟩
end Go.Proofs.Ytnjddnmekcjhnaa
