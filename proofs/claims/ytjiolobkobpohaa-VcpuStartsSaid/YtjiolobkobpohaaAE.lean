/- VcpuSends: the walk. -/
import Derived.Test.YtjiolobkobpohaaAD
import Derived.Deep.CutBlock
import Derived.Deep.CutRange
namespace Go.Proofs.Ytjiolobkobpohaa
open Go.RowKit Go.BigFrame

theorem place_eq (v n : Int) (h : 0 < n) : v % n = if v.tmod n < 0 then v.tmod n + n else v.tmod n := by
  have h1 := Int.tmod_lt_of_pos v h
  have hm : v.tmod n = v - n * v.tdiv n := by rw [Int.tmod_def]
  by_cases hlt : v.tmod n < 0
  · rw [if_pos hlt]
    have hc := Int.tmod_lt_of_pos (-v) h
    rw [Int.neg_tmod] at hc
    have e : v = v.tmod n + n + n * (v.tdiv n - 1) := by rw [hm, Int.mul_sub]; omega
    have := Int.add_mul_emod_self_left (v.tmod n + n) n (v.tdiv n - 1)
    rw [← e] at this
    rw [this]
    exact Int.emod_eq_of_lt (by omega) (by omega)
  · rw [if_neg hlt]
    have e : v = v.tmod n + n * v.tdiv n := by omega
    have := Int.add_mul_emod_self_left (v.tmod n) n (v.tdiv n)
    rw [← e] at this
    rw [this]
    exact Int.emod_eq_of_lt (by omega) (by omega)
theorem place_int (v n : Int) (w : World) (h0 : 0 < n) (h1 : n ≤ 1000) :
    Calls Try.prog 26 #[.int .i64 v, .int .i64 n] w fun e w' => e = .returned (.int .i64 (v % n)) ∧ w' = w := by
  have hb := Int.tmod_lt_of_pos v h0
  have hc := Int.tmod_lt_of_pos (-v) h0
  rw [Int.neg_tmod] at hc
  have HE := Lib.hid (place_eq v n h0)
  by_cases hlt : v.tmod n < 0
  · go_enter Try.func26, Try.ntmps26
    go_wp2
    go_ret
    exact ⟨by rw [HE.out, if_pos hlt]; rfl, rfl⟩
  · go_enter Try.func26, Try.ntmps26
    go_wp2
    go_ret
    exact ⟨by rw [HE.out, if_neg (by omega)]; rfl, rfl⟩
/-- A place, as a natural number. -/
theorem place_nat (v : Int) (n : Nat) (w : World) (h0 : 0 < n) (h1 : n ≤ 1000) :
    Calls Try.prog 26 #[.int .i64 v, .int .i64 n] w fun e w' => ∃ m : Nat, m < n ∧ e = .returned (.int .i64 m) ∧ w = w' := by
  refine (place_int v n w (by omega) (by omega)).mono fun e w' ⟨he, hw⟩ => ⟨(v % n).toNat, ?_, ?_, hw.symm⟩
  · have := Int.emod_lt_of_pos v (show (0 : Int) < n by omega)
    have := Int.emod_nonneg v (show (n : Int) ≠ 0 by omega)
    omega
  · rw [he]
    have := Int.emod_nonneg v (show (n : Int) ≠ 0 by omega)
    congr 2
    omega

def CutB (b : Bool) (w : World) (s : Value) (wc : World) : Prop := s = .bool b ∧ wc = w
set_option maxRecDepth 100000 in
set_option maxHeartbeats 8000000 in
theorem sends_walk (harts fr : Int) (mask first : Nat) (w : World) (la : mask < 18446744073709551616) (lb : first < 18446744073709551616) :
    Calls Try.prog 7 #[.int .i64 harts, .int .i64 fr, .int .u64 mask, .int .u64 first] w fun e w' => e = .returned (.bool true) ∧ Below w.heap.size w w' := by
  go_enter Try.func7, Try.ntmps7
  go_wp2_with fail
  refine (place_nat harts 8 _ (by omega) (by omega)).mono ?_
  rintro e w' ⟨m, hm, rfl, rfl⟩
  obtain ⟨n, hn⟩ : ∃ n : Nat, 1 + m = n := ⟨_, rfl⟩
  have en : (1 + (m : Int)) = (n : Int) := by omega
  have hn1 : (1 : Int) ≤ n := by omega
  have hn2 : (n : Int) ≤ 8 := by omega
  clear hn hm
  go_wp2_with fail
  refine (place_nat fr n _ (by omega) (by omega)).mono ?_
  rintro e w' ⟨i, hi, rfl, rfl⟩
  have SI := Lib.hid (sent_is n i mask first hi (by omega))
  go_wp2_with fail
  refine (calls_fn n i 7557193 0 mask first _ (by omega) hi (by omega) (by omega) la lb).mono ?_
  rintro e w2 ⟨g1, c1, g2, c2, o2, he, hM, ho⟩
  obtain ⟨W, hW⟩ : ∃ W, wasL i 7557193 0 mask first = W := ⟨_, rfl⟩
  rw [hW] at SI he hM ho
  obtain ⟨X, hX⟩ : ∃ X, callL W n i = X := ⟨_, rfl⟩
  rw [hX] at SI hM
  rw [SI.out.bs] at ho
  rw [SI.out.d] at he
  obtain rfl := ho.nil
  subst he
  clear ho hW hX
  obtain ⟨pc, hpc⟩ : ∃ pc, 2147483648 + 64 * i = pc := ⟨_, rfl⟩
  obtain ⟨pc4, hpc4⟩ : ∃ pc4, pc + 4 = pc4 := ⟨_, rfl⟩
  have ep : IntKind.u64.wrap ((pc : Int) + 4) = (pc4 : Int) := by rw [IntKind.wrap_u64]; omega
  have z10 : Hid (cellAt (X i) 10 = .int .u64 ((0 : Nat) : Int)) := by show _ = _; rw [← SI.out.e10]; rfl
  have z32 : Hid (cellAt (X i) 32 = .int .u64 (pc4 : Int)) := by show _ = _; rw [← hpc4, ← hpc, ← SI.out.pc]; rfl
  have y32 : Hid (cellAt (W i) 32 = .int .u64 (pc : Int)) := by show _ = _; rw [← hpc, ← SI.out.wpc]; rfl
  clear hpc hpc4
  go_upto_region 4 with fail
  try dsimp only [Act.put]
  refine wp_region_quiet (C := fun w' => Mem (fun _ => False) w w' ([.vs g1 n W, .vs g2 n X])) (by kernel_rfl) (by kernel_rfl) (hM).drew ?_
  dsimp only
  repeat (first
    | go_big_quiet_skip
    | (refine wpQuiet_cell_vs (gd_want rfl) 22 _ rfl 1 g2 n X rfl i 10 _ rfl (by first | rfl | omega) hi (by omega) _ Try.underlying22 rfl (.int .u64 (0 : Nat)) (z10.out) ?_; simp only [Act.put, List.setIfInBounds_toArray, List.set_cons_zero, List.set_cons_succ])
    | (refine wpQuiet_cell_vs (gd_want rfl) 22 _ rfl 1 g2 n X rfl i 32 _ rfl (by first | rfl | omega) hi (by omega) _ Try.underlying22 rfl (.int .u64 (pc4 : Nat)) (z32.out) ?_; simp only [Act.put, List.setIfInBounds_toArray, List.set_cons_zero, List.set_cons_succ])
    | (refine wpQuiet_cell_vs (gd_want rfl) 22 _ rfl 0 g1 n W rfl i 32 _ rfl (by first | rfl | omega) hi (by omega) _ Try.underlying22 rfl (.int .u64 (pc : Nat)) (y32.out) ?_; simp only [Act.put, List.setIfInBounds_toArray, List.set_cons_zero, List.set_cons_succ])
    | (refine wpQuiet_pure (v := ?_) (gd_want rfl) ?_ ?_; rotate_left; (focus (intro w'; go_simp; try with_reducible rfl)); simp only [Act.put, List.setIfInBounds_toArray, List.set_cons_zero, List.set_cons_succ]))
  refine wpQuiet_nil ?_
  intro wq hMq
  clear hM ep
  have hM := hMq
  clear hMq z10 z32 y32
  go_wp2_with fail
  go_loopw [15] (fun t wr => ∃ k : Nat, k ≤ n ∧ t = .int .i64 k ∧ Mem (fun _ => False) w wr [.vs g1 n W, .vs g2 n X]) (fun t _ => n - (intOf t).toNat)
  case atStart => exact ⟨0, Nat.zero_le _, rfl, hM⟩
  case round =>
    clear hM
    obtain ⟨k, hk, rfl, hM⟩ := hrel
    by_cases hlt : k < n
    · obtain ⟨d, hd⟩ : ∃ d, (k + (18446744073709551616 - first)) % 18446744073709551616 = d := ⟨_, rfl⟩
      have ek : IntKind.u64.wrap (k : Int) = k := by rw [IntKind.wrap_u64]; omega
      have ed : IntKind.u64.wrap ((k : Int) - first) = d := by rw [IntKind.wrap_u64]; omega
      have hp : pokes k mask first = (first == 18446744073709551615 || (decide (d < 64) && (mask / 2 ^ d % 2 == 1))) := by unfold pokes; rw [hd]
      obtain ⟨pk, hpk⟩ : ∃ b, pokes k mask first = b := ⟨_, rfl⟩
      have s46 := SI.out.s46 k hlt
      rw [hpk] at s46 hp
      obtain ⟨q, hq⟩ : ∃ q, k + 100 = q := ⟨_, rfl⟩
      have x46 : Hid (cellAt (X k) 46 = .int .u64 (((if pk then 2 else 0 : Nat)) : Int)) := by show _ = _; rw [← s46]; rfl
      have x49 : Hid (cellAt (X k) 49 = .int .i64 1) := by show _ = _; rw [← SI.out.st k hlt]; rfl
      have x5 : Hid (cellAt (X k) 5 = .int .u64 (q : Int)) := by show _ = _; rw [← hq, ← SI.out.u5 k hlt]; rfl
      have y5 : Hid (cellAt (W k) 5 = .int .u64 (q : Int)) := by show _ = _; rw [← hq, ← SI.out.w5 k hlt]; rfl
      have HP := Lib.hid hp
      have HM := Lib.hid hM
      clear hd hp hpk s46 hq hM
      go_upto_region 10 with fail
      go_cut [17] from 83 to 99 (fun s wc => CutB pk wr s wc)
      case first =>
        by_cases hbm : first = 18446744073709551615
        · have hz : Hid (pk = true) := by show _ = _; rw [HP.out, hbm]; rfl
          have hbb : ((first : Int) == 18446744073709551615) = true := by simp; omega
          clear hbm
          go_wp2_with (first | go_skip)
          go_meet
          exact ⟨by rw [hz.out], rfl⟩
        · have hbb : ((first : Int) == 18446744073709551615) = false := by simp; omega
          have hbn : (first == 18446744073709551615) = false := by simpa using hbm
          clear hbm
          by_cases hd : d < 64
          · have hdi : decide ((d : Int) < 64) = true := by simp; omega
            obtain ⟨t, ht⟩ : ∃ t, mask / 2 ^ d % 2 = t := ⟨_, rfl⟩
            have et : ((mask : Int) / 2 ^ min d 64).tmod 2 = (t : Int) := by
              rw [show min d 64 = d by omega, show ((mask : Int) / 2 ^ d) = ((mask / 2 ^ d : Nat) : Int) by push_cast; rfl, Int.tmod_eq_emod_of_nonneg (Int.natCast_nonneg _), ← ht]; push_cast; rfl
            have hpt : pk = (t == 1) := by rw [HP.out, hbn, ht]; simp [hd]
            have ht2 : t = 0 ∨ t = 1 := by omega
            clear ht hbn hd
            rcases ht2 with rfl | rfl
            · rw [show (((0 : Nat) : Int)) = 0 from rfl] at et
              have hz : Hid (pk = false) := by show _ = _; rw [hpt]; rfl
              clear hpt
              go_wp2_with (first | go_skip)
              go_meet
              exact ⟨by rw [hz.out], rfl⟩
            · rw [show (((1 : Nat) : Int)) = 1 from rfl] at et
              have hz : Hid (pk = true) := by show _ = _; rw [hpt]; rfl
              clear hpt
              go_wp2_with (first | go_skip)
              go_meet
              exact ⟨by rw [hz.out], rfl⟩
          · have hdi : decide ((d : Int) < 64) = false := by simp; omega
            have hz : Hid (pk = false) := by show _ = _; rw [HP.out, hbn]; simp [hd]
            clear hbn hd
            go_wp2_with (first | go_skip)
            go_meet
            exact ⟨by rw [hz.out], rfl⟩
      case rest =>
        obtain ⟨rfl, rfl⟩ := hcut
        have hM := HM.out
        clear HM HP
        have b2 : bits .and .u64 2 2 = 2 := by decide
        have b0 : bits .and .u64 0 2 = 0 := by decide
        go_upto_region 11 with fail
        cases pk with
        | true =>
          try dsimp only [Act.put]
          refine wp_region_quiet (C := fun w' => Mem (fun _ => False) w w' ([.vs g1 n W, .vs g2 n X])) (by kernel_rfl) (by kernel_rfl) (hM).drew ?_
          dsimp only
          repeat (first
            | go_big_quiet_skip
            | (refine wpQuiet_cell_vs (gd_want rfl) 22 _ rfl 1 g2 n X rfl k 46 _ rfl (by first | rfl | omega) hlt (by omega) _ Try.underlying22 rfl (.int .u64 (2 : Nat)) (x46.out) ?_; simp only [Act.put, List.setIfInBounds_toArray, List.set_cons_zero, List.set_cons_succ])
            | (refine wpQuiet_cell_vs (gd_want rfl) 3 _ rfl 1 g2 n X rfl k 49 _ rfl (by first | rfl | omega) hlt (by omega) _ Try.underlying3 rfl (.int .i64 1) (x49.out) ?_; simp only [Act.put, List.setIfInBounds_toArray, List.set_cons_zero, List.set_cons_succ])
            | (refine wpQuiet_cell_vs (gd_want rfl) 22 _ rfl 1 g2 n X rfl k 5 _ rfl (by first | rfl | omega) hlt (by omega) _ Try.underlying22 rfl (.int .u64 (q : Nat)) (x5.out) ?_; simp only [Act.put, List.setIfInBounds_toArray, List.set_cons_zero, List.set_cons_succ])
            | (refine wpQuiet_cell_vs (gd_want rfl) 22 _ rfl 0 g1 n W rfl k 5 _ rfl (by first | rfl | omega) hlt (by omega) _ Try.underlying22 rfl (.int .u64 (q : Nat)) (y5.out) ?_; simp only [Act.put, List.setIfInBounds_toArray, List.set_cons_zero, List.set_cons_succ])
            | (refine wpQuiet_pure (v := ?_) (gd_want rfl) ?_ ?_; rotate_left; (focus (intro w'; go_simp; try with_reducible rfl)); simp only [Act.put, List.setIfInBounds_toArray, List.set_cons_zero, List.set_cons_succ]))
          refine wpQuiet_nil ?_
          intro wq hMq
          have hM2 := Lib.hid hMq
          clear hM hMq
          go_wp2_with fail
          go_roundw
          case rel =>
            first
            | exact ⟨k + 1, by omega, by go_num, hM2.out⟩
            | ((repeat apply Exists.intro); refine ⟨⟨k + 1, by omega, ?_, hM2.out⟩, rfl⟩; go_num)
          case measure => simp [intOf]; omega
        | false =>
          try dsimp only [Act.put]
          refine wp_region_quiet (C := fun w' => Mem (fun _ => False) w w' ([.vs g1 n W, .vs g2 n X])) (by kernel_rfl) (by kernel_rfl) (hM).drew ?_
          dsimp only
          repeat (first
            | go_big_quiet_skip
            | (refine wpQuiet_cell_vs (gd_want rfl) 22 _ rfl 1 g2 n X rfl k 46 _ rfl (by first | rfl | omega) hlt (by omega) _ Try.underlying22 rfl (.int .u64 (0 : Nat)) (x46.out) ?_; simp only [Act.put, List.setIfInBounds_toArray, List.set_cons_zero, List.set_cons_succ])
            | (refine wpQuiet_cell_vs (gd_want rfl) 3 _ rfl 1 g2 n X rfl k 49 _ rfl (by first | rfl | omega) hlt (by omega) _ Try.underlying3 rfl (.int .i64 1) (x49.out) ?_; simp only [Act.put, List.setIfInBounds_toArray, List.set_cons_zero, List.set_cons_succ])
            | (refine wpQuiet_cell_vs (gd_want rfl) 22 _ rfl 1 g2 n X rfl k 5 _ rfl (by first | rfl | omega) hlt (by omega) _ Try.underlying22 rfl (.int .u64 (q : Nat)) (x5.out) ?_; simp only [Act.put, List.setIfInBounds_toArray, List.set_cons_zero, List.set_cons_succ])
            | (refine wpQuiet_cell_vs (gd_want rfl) 22 _ rfl 0 g1 n W rfl k 5 _ rfl (by first | rfl | omega) hlt (by omega) _ Try.underlying22 rfl (.int .u64 (q : Nat)) (y5.out) ?_; simp only [Act.put, List.setIfInBounds_toArray, List.set_cons_zero, List.set_cons_succ])
            | (refine wpQuiet_pure (v := ?_) (gd_want rfl) ?_ ?_; rotate_left; (focus (intro w'; go_simp; try with_reducible rfl)); simp only [Act.put, List.setIfInBounds_toArray, List.set_cons_zero, List.set_cons_succ]))
          refine wpQuiet_nil ?_
          intro wq hMq
          have hM2 := Lib.hid hMq
          clear hM hMq
          go_wp2_with fail
          go_roundw
          case rel =>
            first
            | exact ⟨k + 1, by omega, by go_num, hM2.out⟩
            | ((repeat apply Exists.intro); refine ⟨⟨k + 1, by omega, ?_, hM2.out⟩, rfl⟩; go_num)
          case measure => simp [intOf]; omega
    · have HF := Lib.hid hM.fr
      clear hM
      go_wp2_with fail
      refine (awake_any _).mono ?_
      rintro e w9 ⟨rfl, hF⟩
      have HF9 := Lib.hid (fr_below (HF.out.trans hF (fun _ _ h => h)))
      clear hF
      go_wp2_with fail
      go_ret
      exact ⟨rfl, HF9.out⟩
end Go.Proofs.Ytjiolobkobpohaa
