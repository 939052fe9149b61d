/- The UART as the law holds it, step by step; the clock; Place; SameBytes. -/
import Derived.Test.YtnjddnmekcjhnaaJ
namespace Go.Proofs.Ytnjddnmekcjhnaa
open Go.RowKit

/-- Since w0 the law has made the UART at p, which holds u, and turned nothing of before. -/
def Own (w0 w : World) (p : Nat) (u : UA) : Prop := UAt w 86 (fun k => w0.heap.size ≤ k ∧ k < w.heap.size) p u ∧ u.Wf ∧ Fr (fun _ => False) w0 w

section
variable {w0 w w' : World} {p : Nat} {u : UA}
theorem Own.step {u' : UA} (h : Own w0 w p u) (ht : UAt w' 86 (More (fun k => w0.heap.size ≤ k ∧ k < w.heap.size) w) p u') (hw : u'.Wf) (hf : Fr (fun k => w0.heap.size ≤ k ∧ k < w.heap.size) w w') : Own w0 w' p u' := by
  have h1 := hf.size
  have h2 := h.2.2.size
  refine ⟨ht.weak (fun k hk h => ?_), hw, h.2.2.trans hf (fun k hk h => by omega)⟩
  rcases h with h | h <;> exact ⟨by omega, hk⟩
theorem Own.quiet (h : Own w0 w p u) (hf : Fr (fun _ => False) w w') : Own w0 w' p u := by
  have h1 := hf.size
  exact ⟨(h.1.fr hf (fun _ _ _ h => h)).weak (fun k hk h => ⟨h.1, hk⟩), h.2.1, h.2.2.trans hf (fun _ _ h => h)⟩
theorem own_new (w : World) : Calls Try.prog 29 #[] w fun e w' => e = .returned (.pointer (some ⟨w.heap.size, 0, none⟩)) ∧ Own w w' w.heap.size ua0 :=
  (newUart_any w).mono fun e w' ⟨he, hu, hf⟩ => ⟨he, hu.weak (fun k hk h => ⟨by omega, hk⟩), ua0_wf, hf⟩
theorem own_in (h : Own w0 w p u) (v : Nat) : Calls Try.prog 30 #[.pointer (some ⟨p, 0, none⟩), .int .u8 v] w fun e w' => e = .returned (.tuple #[]) ∧ Own w0 w' p (u.inn v) :=
  (in_any _ p u v w h.1 h.2.1).mono fun _ _ ⟨he, hu, hf⟩ => ⟨he, h.step hu (h.2.1.inn v) hf⟩
theorem own_read (h : Own w0 w p u) (off : Int) : Calls Try.prog 31 #[.pointer (some ⟨p, 0, none⟩), .int .u64 off] w fun e w' => e = .returned (.int .u8 (u.val off)) ∧ Own w0 w' p (u.aft off) :=
  (read_any _ p u off w h.1 h.2.1).mono fun _ _ ⟨he, hu, hf⟩ => ⟨he, h.step (hu.weak (fun _ _ h => .inl h)) (h.2.1.aft off) hf⟩
theorem own_write (h : Own w0 w p u) (off : Int) (v : Nat) (hv : v < 256) (hn : u.sent.length < 140737488355328) : Calls Try.prog 32 #[.pointer (some ⟨p, 0, none⟩), .int .u64 off, .int .u8 v] w fun e w' => e = .returned (.tuple #[]) ∧ Own w0 w' p (u.wr off v) :=
  (write_any _ p u off v w h.1 h.2.1 hv hn).mono fun _ _ ⟨he, hu, hf⟩ => ⟨he, h.step hu (h.2.1.wr off v hv) hf⟩
theorem own_irq (h : Own w0 w p u) : Calls Try.prog 35 #[.pointer (some ⟨p, 0, none⟩)] w fun e w' => e = .returned (.bool (u.cause != 1)) ∧ Own w0 w' p u :=
  (irq_any _ p u w h.1 h.2.1).mono fun _ _ ⟨he, hw⟩ => ⟨he, hw ▸ h⟩
theorem own_out (h : Own w0 w p u) (hn : u.sent.length ≤ 140737488355328) : Calls Try.prog 34 #[.pointer (some ⟨p, 0, none⟩)] w fun e w' => ∃ v, e = .returned v ∧ Sl w' (fun k => w.heap.size ≤ k) 5 1 v u.sent.length (bytes u.sent) ∧ Own w0 w' p u :=
  (out_any _ p u w h.1 hn).mono fun _ _ ⟨v, he, hs, hf⟩ => ⟨v, he, hs, h.quiet hf⟩
end

/-! The clock. -/
theorem newClock_any (w : World) : Calls Try.prog 12 #[] w fun e w' => e = .returned (.pointer (some ⟨w.heap.size, 0, none⟩)) ∧ w' = w.alloc (.cells #[.int .u64 0] 71) := by
  go_enter Try.func12, Try.ntmps12
  go_wp2
  go_ret
  exact ⟨rfl, rfl⟩
theorem clock_low (p : Nat) (now : Nat) (hi : Int) (w : World) (h : Has w p 71 #[.int .u64 hi]) :
    Calls Try.prog 13 #[.pointer (some ⟨p, 0, none⟩), .int .u64 0, .int .i64 4, .int .u64 now] w fun e w' => e = .returned (.tuple #[.int .u64 ((now : Int) % 4294967296), .bool true]) ∧ w' = w.setCell ⟨p, 0, none⟩ (.int .u64 ((now : Int) / 4294967296)) := by
  have c0 := h.cell 0
  have f0 := h.frozen 0
  go_enter Try.func13, Try.ntmps13
  go_wp2
  go_ret2
  exact ⟨rfl, rfl⟩
theorem clock_high (p : Nat) (hi now : Int) (w : World) (h : Has w p 71 #[.int .u64 hi]) :
    Calls Try.prog 13 #[.pointer (some ⟨p, 0, none⟩), .int .u64 4, .int .i64 4, .int .u64 now] w fun e w' => e = .returned (.tuple #[.int .u64 hi, .bool true]) ∧ w' = w := by
  have c0 := h.cell 0
  go_enter Try.func13, Try.ntmps13
  go_wp2
  go_ret2
  exact ⟨rfl, rfl⟩
theorem clock_no (p : Nat) (off size now : Int) (w : World) (h : ¬ (size = 4 ∧ (off = 0 ∨ off = 4))) :
    Calls Try.prog 13 #[.pointer (some ⟨p, 0, none⟩), .int .u64 off, .int .i64 size, .int .u64 now] w fun e w' => e = .returned (.tuple #[.int .u64 0, .bool false]) ∧ w' = w := by
  by_cases h1 : size = 4
  · subst h1
    have h2 : (off == 0) = false := by simp; omega
    have h3 : (off == 4) = false := by simp; omega
    clear h
    go_enter Try.func13, Try.ntmps13
    go_wp2
    go_ret2
    exact ⟨rfl, rfl⟩
  · have h2 : (size == 4) = false := by simp; omega
    clear h h1
    go_enter Try.func13, Try.ntmps13
    go_wp2
    go_ret2
    exact ⟨rfl, rfl⟩

theorem place_eq (v n : Int) (h : 0 < n) : v % n = if v.tmod n < 0 then v.tmod n + n else v.tmod n := by
  have h1 := Int.tmod_lt_of_pos v h
  have hm : v.tmod n = v - n * v.tdiv n := by rw [Int.tmod_def]
  by_cases hlt : v.tmod n < 0
  · rw [if_pos hlt]
    have hc := Int.tmod_lt_of_pos (-v) h
    rw [Int.neg_tmod] at hc
    have e : v = v.tmod n + n + n * (v.tdiv n - 1) := by rw [hm, Int.mul_sub]; omega
    have := Int.add_mul_emod_self_left (v.tmod n + n) n (v.tdiv n - 1)
    rw [← e] at this
    rw [this]
    exact Int.emod_eq_of_lt (by omega) (by omega)
  · rw [if_neg hlt]
    have e : v = v.tmod n + n * v.tdiv n := by omega
    have := Int.add_mul_emod_self_left (v.tmod n) n (v.tdiv n)
    rw [← e] at this
    rw [this]
    exact Int.emod_eq_of_lt (by omega) (by omega)
theorem place_any (v n : Int) (w : World) (h0 : 0 < n) (h1 : n ≤ 1000) :
    Calls Try.prog 22 #[.int .i64 v, .int .i64 n] w fun e w' => e = .returned (.int .i64 (v % n)) ∧ w' = w := by
  have hb := Int.tmod_lt_of_pos v h0
  have hc := Int.tmod_lt_of_pos (-v) h0
  rw [Int.neg_tmod] at hc
  have HE := Lib.hid (place_eq v n h0)
  by_cases hlt : v.tmod n < 0
  · go_enter Try.func22, Try.ntmps22
    go_wp2
    go_ret
    exact ⟨by rw [HE.out, if_pos hlt]; rfl, rfl⟩
  · go_enter Try.func22, Try.ntmps22
    go_wp2
    go_ret
    exact ⟨by rw [HE.out, if_neg (by omega)]; rfl, rfl⟩

/-! SameBytes. -/
theorem bytes_get (l : List Nat) (k : Nat) (h : k < l.length) : (bytes l)[k]? = some (.int .u8 (l[k] : Int)) := by simp [bytes, h]
theorem take_stepN (K L : List Nat) (k : Nat) (hk : k < K.length) (hl : k < L.length) (h : K.take k = L.take k) (he : K[k] = L[k]) : K.take (k + 1) = L.take (k + 1) := by
  rw [List.take_succ_eq_append_getElem hk, List.take_succ_eq_append_getElem hl, h, he]
set_option maxHeartbeats 1600000 in
theorem sameBytes_any (S1 S2 : Nat → Prop) (A B : Option Addr) (c d : Nat) (K L : List Nat) (w : World) (ha : Rd w S1 A (bytes K)) (hb : Rd w S2 B (bytes L)) (hk : K.length ≤ 4611686018427387904) (hl : L.length ≤ 4611686018427387904) :
    Calls Try.prog 33 #[.slice A K.length c, .slice B L.length d] w fun e w' => e = .returned (.bool (decide (K = L))) ∧ ∃ nq, w' = w.drewN nq := by
  have HA := Lib.hid ha; clear ha
  have HB := Lib.hid hb; clear hb
  by_cases hlen : K.length = L.length
  · have hl1 : ((K.length : Int) != (L.length : Int)) = false := by simp [hlen]
    generalize hn : L.length = n at *
    generalize hm : K.length = m at *
    have HN := Lib.hid hn
    have HM := Lib.hid hm
    clear hn hm
    subst hlen
    go_enter Try.func33, Try.ntmps33
    go_wp2
    go_loopw [5] (fun i wr => ∃ k : Nat, k ≤ m ∧ i = .int .i64 k ∧ K.take k = L.take k ∧ ∃ nq, wr = w.drewN nq) (fun i _ => m - (intOf i).toNat)
    case atStart => exact ⟨0, Nat.zero_le _, rfl, by simp, 0, rfl⟩
    case round =>
      obtain ⟨k, hk, rfl, hpre, nq, rfl⟩ := hrel
      have HP := Lib.hid hpre; clear hpre
      by_cases hkm : k < m
      · have hkK : k < K.length := by rw [HM.out]; exact hkm
        have hkL : k < L.length := by rw [HN.out]; exact hkm
        obtain ⟨b, off, hA, hb, _, hc⟩ := HA.out (by intro h; have := bytes_length K; rw [h] at this; simp at this; omega)
        obtain ⟨b', off', hB, hb', _, hc'⟩ := HB.out (by intro h; have := bytes_length L; rw [h] at this; simp at this; omega)
        subst hA
        subst hB
        have d0 := hc k _ (bytes_get K k hkK)
        have e0 := hc' k _ (bytes_get L k hkL)
        clear hc hc'
        by_cases hkl : K[k] = L[k]
        · have HT := Lib.hid (take_stepN K L k hkK hkL HP.out hkl)
          rw [hkl] at d0
          clear hkl
          go_wp2_with fail
          go_quiet (fail)
          go_wp2
          go_roundw
          case rel => exact ⟨k + 1, by omega, by go_num, HT.out, _, rfl⟩
          case measure => simp [intOf]; omega
        · have hd : ((K[k] : Int) != (L[k] : Int)) = true := by simp; omega
          have HT : Hid (decide (K = L) = false) := decide_eq_false (fun h => hkl (by subst h; rfl))
          clear hkl
          go_wp2_with fail
          go_quiet (fail)
          go_wp2
          go_ret
          exact ⟨by rw [HT.out]; rfl, _, World.drewN_drewN ..⟩
      · have HT : Hid (decide (K = L) = true) := decide_eq_true (by
          have h := HP.out
          rwa [List.take_of_length_le (by rw [HM.out]; omega), List.take_of_length_le (by rw [HN.out]; omega)] at h)
        go_wp2
        go_ret
        exact ⟨by rw [HT.out]; rfl, _, rfl⟩
  · have hl1 : ((K.length : Int) != (L.length : Int)) = true := by simp; omega
    go_enter Try.func33, Try.ntmps33
    go_wp2
    go_ret
    exact ⟨by rw [decide_eq_false (fun h => hlen (by rw [h]))]; rfl, 0, rfl⟩
end Go.Proofs.Ytnjddnmekcjhnaa
