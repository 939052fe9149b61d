/- PlatHalves, PlatLatches: the walks. -/
import Derived.Test.YtnjddnmekcjhnaaK
namespace Go.Proofs.Ytnjddnmekcjhnaa
open Go.RowKit

set_option maxRecDepth 100000 in
theorem halves_walk (now later : Nat) (w : World) (hn : now < 18446744073709551616) : Calls Try.prog 4 #[.int .u64 now, .int .u64 later] w fun e w' => e = .returned (.bool true) ∧ Below w.heap.size w w' := by
  have h1 : (now : Int) % 4294967296 < 4294967296 := Int.emod_lt_of_pos _ (by omega)
  have h2 : (now : Int) / 4294967296 < 4294967296 := by omega
  obtain ⟨lo, hlo⟩ : ∃ l : Nat, (now : Int) % 4294967296 = l := ⟨(now % 4294967296), by omega⟩
  obtain ⟨hi, hhi⟩ : ∃ l : Nat, (now : Int) / 4294967296 = l := ⟨(now / 4294967296), by omega⟩
  rw [hlo] at h1
  rw [hhi] at h2
  have e1 : (hi : Int) * 4294967296 % 18446744073709551616 = hi * 4294967296 := by omega
  have e2 : bits .or .u64 (hi * 4294967296 : Int) (lo : Int) = now := by
    have h3 := u64_or_nat (hi * 4294967296) lo (by omega) (by omega)
    rw [nat_join 32 _ _ (by omega) (by omega)] at h3
    rw [show ((hi * 4294967296 : Nat) : Int) = (hi : Int) * 4294967296 by omega] at h3
    rw [h3]
    omega
  have e3 : (lo : Int) < 4294967296 := h1
  have HLO := Lib.hid hlo
  have HHI := Lib.hid hhi
  clear hlo hhi
  go_enter Try.func4, Try.ntmps4
  go_wp2_with fail
  refine (newClock_any w).mono ?_
  rintro e w1 ⟨rfl, hw1⟩
  subst hw1
  have hc := Has.new w 71 #[.int .u64 0]
  go_wp2_with fail
  refine (clock_low w.heap.size now 0 _ hc).mono ?_
  rintro e w2 ⟨he, hw2⟩
  rw [HLO.out] at he
  rw [HHI.out] at hw2
  subst he
  have hc2 : Has w2 w.heap.size 71 #[.int .u64 hi] := by rw [hw2]; exact hc.set 0 _
  have hf2 : Fr (fun _ => False) w w2 := by rw [hw2]; exact ((Fr.refl _ _).alloc _).put 0 (Nat.le_refl _) _
  clear hw2 hc
  go_wp2_with fail
  refine (clock_high w.heap.size hi later _ hc2).mono ?_
  rintro e w3 ⟨rfl, hw3⟩
  subst hw3
  go_wp2_with fail
  refine (awake_any _).mono ?_
  rintro e w4 ⟨rfl, hf4⟩
  go_wp2
  go_ret
  exact ⟨rfl, (hf2.trans hf4 (fun _ _ h => h)).below (fun _ h => h.elim) (Nat.le_refl _)⟩

set_option maxRecDepth 100000 in
set_option maxHeartbeats 3200000 in
theorem latches_walk (dll dlm scr inn : Nat) (w : World) (h1 : dll < 256) (h2 : dlm < 256) (h3 : scr < 256) (_h4 : inn < 256) :
    Calls Try.prog 10 #[.int .u8 dll, .int .u8 dlm, .int .u8 scr, .int .u8 inn] w fun e w' => e = .returned (.bool true) ∧ Below w.heap.size w w' := by
  go_enter Try.func10, Try.ntmps10
  go_wp2_with fail
  refine (own_new w).mono ?_
  rintro e w1 ⟨rfl, O1⟩
  have O1 := Lib.hid O1
  go_wp2_with fail
  refine (own_in O1.out inn).mono ?_
  rintro e w2 ⟨rfl, O⟩
  have O2 : Hid (Own w w2 w.heap.size ⟨[inn], [], 0, 0, 0, 0, 0, 0, 0, false, false⟩) := by
    show Own _ _ _ _
    simpa [UA.wr, UA.inn, UA.aft, ua0, isB] using O
  clear O O1
  go_wp2_with fail
  refine (own_write O2.out 1 3 (by omega) (by simp)).mono ?_
  rintro e w3 ⟨rfl, O⟩
  have O3 : Hid (Own w w3 w.heap.size ⟨[inn], [], 3, 0, 0, 0, 0, 0, 0, false, true⟩) := by
    show Own _ _ _ _
    simpa [UA.wr, UA.inn, UA.aft, ua0, isB] using O
  clear O O2
  go_wp2_with fail
  refine (own_write O3.out 3 131 (by omega) (by simp)).mono ?_
  rintro e w4 ⟨rfl, O⟩
  have O4 : Hid (Own w w4 w.heap.size ⟨[inn], [], 3, 0, 131, 0, 0, 0, 0, false, true⟩) := by
    show Own _ _ _ _
    simpa [UA.wr, UA.inn, UA.aft, ua0, isB] using O
  clear O O3
  go_wp2_with fail
  refine (own_write O4.out 0 dll h1 (by simp)).mono ?_
  rintro e w5 ⟨rfl, O⟩
  have O5 : Hid (Own w w5 w.heap.size ⟨[inn], [], 3, 0, 131, 0, 0, dll, 0, false, true⟩) := by
    show Own _ _ _ _
    simpa [UA.wr, UA.inn, UA.aft, ua0, isB] using O
  clear O O4
  go_wp2_with fail
  refine (own_write O5.out 1 dlm h2 (by simp)).mono ?_
  rintro e w6 ⟨rfl, O⟩
  have O6 : Hid (Own w w6 w.heap.size ⟨[inn], [], 3, 0, 131, 0, 0, dll, dlm, false, true⟩) := by
    show Own _ _ _ _
    simpa [UA.wr, UA.inn, UA.aft, ua0, isB] using O
  clear O O5
  go_wp2_with fail
  refine (own_write O6.out 7 scr h3 (by simp)).mono ?_
  rintro e w7 ⟨rfl, O⟩
  have O7 : Hid (Own w w7 w.heap.size ⟨[inn], [], 3, 0, 131, 0, scr, dll, dlm, false, true⟩) := by
    show Own _ _ _ _
    simpa [UA.wr, UA.inn, UA.aft, ua0, isB] using O
  clear O O6
  go_wp2_with fail
  refine (own_read O7.out 0).mono ?_
  rintro e w8 ⟨he, O⟩
  have he2 : e = .returned (.int .u8 dll) := by rw [he]; simp [UA.val]
  subst he2
  clear he
  have O8 : Hid (Own w w8 w.heap.size ⟨[inn], [], 3, 0, 131, 0, scr, dll, dlm, false, true⟩) := by
    show Own _ _ _ _
    simpa [UA.wr, UA.inn, UA.aft, ua0, isB] using O
  clear O O7
  go_wp2_with fail
  refine (own_read O8.out 1).mono ?_
  rintro e w9 ⟨he, O⟩
  have he2 : e = .returned (.int .u8 dlm) := by rw [he]; simp [UA.val]
  subst he2
  clear he
  have O9 : Hid (Own w w9 w.heap.size ⟨[inn], [], 3, 0, 131, 0, scr, dll, dlm, false, true⟩) := by
    show Own _ _ _ _
    simpa [UA.wr, UA.inn, UA.aft, ua0, isB] using O
  clear O O8
  go_wp2_with fail
  refine (own_read O9.out 7).mono ?_
  rintro e w10 ⟨he, O⟩
  have he2 : e = .returned (.int .u8 scr) := by rw [he]; simp [UA.val]
  subst he2
  clear he
  have O10 : Hid (Own w w10 w.heap.size ⟨[inn], [], 3, 0, 131, 0, scr, dll, dlm, false, true⟩) := by
    show Own _ _ _ _
    simpa [UA.wr, UA.inn, UA.aft, ua0, isB] using O
  clear O O9
  go_wp2_with fail
  refine (own_out O10.out (by simp)).mono ?_
  rintro e w11 ⟨v, rfl, hs, O⟩
  obtain ⟨A, c, rfl, _, _, _⟩ := hs.form
  have O11 := Lib.hid O
  clear O O10 hs
  go_wp2_with fail
  refine (own_read O11.out 3).mono ?_
  rintro e w12 ⟨he, O⟩
  have he2 : e = .returned (.int .u8 131) := by rw [he]; simp [UA.val]
  subst he2
  clear he
  have O12 : Hid (Own w w12 w.heap.size ⟨[inn], [], 3, 0, 131, 0, scr, dll, dlm, false, true⟩) := by
    show Own _ _ _ _
    simpa [UA.wr, UA.inn, UA.aft, ua0, isB] using O
  clear O O11
  go_wp2_with fail
  refine (own_write O12.out 3 3 (by omega) (by simp)).mono ?_
  rintro e w13 ⟨rfl, O⟩
  have O13 : Hid (Own w w13 w.heap.size ⟨[inn], [], 3, 0, 3, 0, scr, dll, dlm, false, true⟩) := by
    show Own _ _ _ _
    simpa [UA.wr, UA.inn, UA.aft, ua0, isB] using O
  clear O O12
  go_wp2_with fail
  refine (own_read O13.out 1).mono ?_
  rintro e w14 ⟨he, O⟩
  have he2 : e = .returned (.int .u8 3) := by rw [he]; simp [UA.val]
  subst he2
  clear he
  have O14 : Hid (Own w w14 w.heap.size ⟨[inn], [], 3, 0, 3, 0, scr, dll, dlm, false, true⟩) := by
    show Own _ _ _ _
    simpa [UA.wr, UA.inn, UA.aft, ua0, isB] using O
  clear O O13
  go_wp2_with fail
  refine (own_read O14.out 0).mono ?_
  rintro e w15 ⟨he, O⟩
  have he2 : e = .returned (.int .u8 inn) := by rw [he]; simp [UA.val]
  subst he2
  clear he
  have O15 : Hid (Own w w15 w.heap.size ⟨[], [], 3, 0, 3, 0, scr, dll, dlm, false, true⟩) := by
    show Own _ _ _ _
    simpa [UA.wr, UA.inn, UA.aft, ua0, isB] using O
  clear O O14
  go_wp2_with fail
  refine (own_read O15.out 6).mono ?_
  rintro e w16 ⟨he, O⟩
  have he2 : e = .returned (.int .u8 176) := by rw [he]; simp [UA.val]
  subst he2
  clear he
  have O16 : Hid (Own w w16 w.heap.size ⟨[], [], 3, 0, 3, 0, scr, dll, dlm, false, true⟩) := by
    show Own _ _ _ _
    simpa [UA.wr, UA.inn, UA.aft, ua0, isB] using O
  clear O O15
  go_wp2_with fail
  refine (awake_any _).mono ?_
  rintro e w17 ⟨rfl, hf⟩
  go_wp2
  go_ret
  exact ⟨rfl, (O16.out.2.2.trans hf (fun _ _ h => h)).below (fun _ h => h.elim) (Nat.le_refl _)⟩
end Go.Proofs.Ytnjddnmekcjhnaa
