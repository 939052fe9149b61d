/- VcpuEnds: the walk. -/
import Derived.Test.YtjiolobkobpohaaAE
import Derived.Deep.CutBlock
import Derived.Deep.CutRange
import Derived.Deep.DeepCutAuto
namespace Go.Proofs.Ytjiolobkobpohaa
open Go.RowKit Go.BigFrame

theorem OutR.one {w : World} {v : Value} {u : Nat} (h : OutR w v [u]) : ∃ q, v = .slice (some ⟨q, 0, none⟩) 1 1 ∧ Has w q 5 #[.int .u8 (u : Int)] := by
  obtain ⟨oe, h1, h2⟩ := h
  cases h1 with
  | one q u =>
    have e1 : Ent.ok w (.fn q 5 1 (fun _ => .int .u8 (u : Int))) := h2 _ (by simp)
    exact ⟨q, rfl, e1⟩
def noKind (k : Nat) : Prop := k ≠ 16 ∧ k ≠ 1414090053 ∧ k ≠ 1 ∧ k ≠ 7557193 ∧ k ≠ 4739917 ∧ k ≠ 1397904212
def CutK (w : World) (s : Value) (wc : World) : Prop := w = wc ∧ ∃ k : Nat, s = .int .u64 (k : Int) ∧ noKind k ∧ k < 18446744073709551616
def CutQ (b : Bool) (w : World) (s : Value) (wc : World) : Prop := w = wc ∧ s = .bool b
theorem noKind7 : noKind 7 := by unfold noKind; omega
set_option maxRecDepth 100000 in
set_option maxHeartbeats 8000000 in
theorem ends_walk (harts fr : Int) (kind fn a b : Nat) (w : World) (lk : kind < 18446744073709551616) (lf : fn < 18446744073709551616) (la : a < 18446744073709551616) (lb : b < 18446744073709551616) :
    Calls Try.prog 9 #[.int .i64 harts, .int .i64 fr, .int .u64 kind, .int .u64 fn, .int .u64 a, .int .u64 b] w fun e w' => e = .returned (.bool true) ∧ Below w.heap.size w w' := by
  go_enter Try.func9, Try.ntmps9
  go_wp2_with fail
  refine (place_nat harts 8 _ (by omega) (by omega)).mono ?_
  rintro e w' ⟨m, hm, rfl, rfl⟩
  obtain ⟨n, hn⟩ : ∃ n : Nat, 1 + m = n := ⟨_, rfl⟩
  have en : (1 + (m : Int)) = (n : Int) := by omega
  have hn1 : (1 : Int) ≤ n := by omega
  have hn2 : (n : Int) ≤ 8 := by omega
  clear hn hm
  go_wp2_with fail
  refine (place_nat fr n _ (by omega) (by omega)).mono ?_
  rintro e w' ⟨i, hi, rfl, rfl⟩
  have SI := Lib.hid (ended_is n i a b hi)
  go_wp2_with fail
  refine (calls_fn n i 1397904212 0 a b _ (by omega) hi (by omega) (by omega) la lb).mono ?_
  rintro e w2 ⟨g1, c1, g2, c2, o2, he, hM, ho⟩
  obtain ⟨W, hW⟩ : ∃ W, wasL i 1397904212 0 a b = W := ⟨_, rfl⟩
  rw [hW] at SI he hM ho
  obtain ⟨X, hX⟩ : ∃ X, callL W n i = X := ⟨_, rfl⟩
  rw [hX] at SI hM
  rw [SI.out.bs] at ho
  rw [SI.out.d] at he
  obtain rfl := ho.nil
  subst he
  clear ho hW hX
  go_wp2_with (first | go_skip)
  go_loopw [19] (fun t wr => ∃ k : Nat, k ≤ n ∧ t = .int .i64 k ∧ Mem (fun _ => False) w wr [.vs g1 n W, .vs g2 n X]) (fun t _ => n - (intOf t).toNat)
  case atStart => exact ⟨0, Nat.zero_le _, rfl, hM⟩
  case round =>
    clear hM
    obtain ⟨k, hk, rfl, hM⟩ := hrel
    by_cases hlt : k < n
    · have x49 : Hid (cellAt (X k) 49 = .int .i64 0) := by show _ = _; rw [← SI.out.st k hlt]; rfl
      go_wp2_with (first
        | go_skip
        | (refine wpList_cell_vs (gd_none rfl) 3 _ rfl 1 g2 n X hM rfl k 49 _ rfl (by first | rfl | omega) hlt (by omega) _ Try.underlying3 rfl (.int .i64 0) (x49.out) ?_))
      have hM2 := Lib.hid hM
      clear hM
      go_roundw
      case rel =>
        first
        | exact ⟨k + 1, by omega, by go_num, hM2.out⟩
        | ((repeat apply Exists.intro); refine ⟨⟨k + 1, by omega, ?_, hM2.out⟩, rfl⟩; go_num)
      case measure => simp [intOf]; omega
    · have HF := Lib.hid hM.fr
      clear hM SI
      have SI := Lib.hid (put_is n i fn a b hi)
      go_wp2_with fail
      refine (calls_fn n i 1 fn a b _ (by omega) hi (by omega) lf la lb).mono ?_
      rintro e w3 ⟨g3, c3, g4, c4, o4, he, hM, ho⟩
      obtain ⟨Y, hX⟩ : ∃ X, callL (wasL i 1 fn a b) n i = X := ⟨_, rfl⟩
      rw [hX] at SI hM
      rw [SI.out.bs] at ho
      rw [SI.out.d] at he
      obtain ⟨q, rfl, hq⟩ := ho.one
      subst he
      have cq := hq.cell 0
      simp only [List.getElem?_toArray, List.getElem?_cons_zero] at cq
      obtain ⟨a8, ha8⟩ : ∃ a8, a % 256 = a8 := ⟨_, rfl⟩
      rw [ha8] at cq
      have ew : IntKind.u8.wrap (a : Int) = (a8 : Int) := by rw [IntKind.wrap_u8]; omega
      have z10 : Hid (cellAt (Y i) 10 = .int .u64 ((0 : Nat) : Int)) := by show _ = _; rw [← SI.out.e10]; rfl
      have z11 : Hid (cellAt (Y i) 11 = .int .u64 (b : Int)) := by show _ = _; rw [← SI.out.e11]; rfl
      have HF3 := Lib.hid (HF.out.trans hM.fr (fun _ _ h => h))
      have hMW := hM.weak (L' := [Ent.vs g4 n Y]) (List.sublist_cons_self _ _)
      clear hM hX ho hq ha8
      have hM := hMW
      clear hMW
      go_upto_region 14 with (first | go_skip | (refine wpList_cell_vs (gd_want rfl) 22 _ rfl 0 g4 n Y hM rfl i 10 _ rfl (by first | rfl | omega) hi (by omega) _ Try.underlying22 rfl (.int .u64 (0 : Nat)) (z10.out) ?_) | (refine wpList_cell_vs (gd_want rfl) 22 _ rfl 0 g4 n Y hM rfl i 11 _ rfl (by first | rfl | omega) hi (by omega) _ Try.underlying22 rfl (.int .u64 (b : Nat)) (z11.out) ?_))
      clear hM z10 z11 cq ew SI
      go_upto_region 15 with fail
      go_cut [143] from 122 to 142 (fun s wc => CutQ (isCall kind) w3 s wc)
      case first =>
        by_cases k16 : kind = 16
        · subst k16
          have hz : Hid (isCall 16 = true) := by show _ = _; rfl
          go_wp2_with (first | go_skip)
          go_meet
          exact ⟨rfl, by rw [hz.out]⟩
        have k16' : ((kind : Int) == 16) = false := by simp; omega
        by_cases kc : kind = 1414090053
        · subst kc
          have hz : Hid (isCall 1414090053 = true) := by show _ = _; rfl
          go_wp2_with (first | go_skip)
          go_meet
          exact ⟨rfl, by rw [hz.out]⟩
        have kc' : ((kind : Int) == 1414090053) = false := by simp; omega
        by_cases k1 : kind = 1
        · subst k1
          have hz : Hid (isCall 1 = true) := by show _ = _; rfl
          go_wp2_with (first | go_skip)
          go_meet
          exact ⟨rfl, by rw [hz.out]⟩
        have k1' : ((kind : Int) == 1) = false := by simp; omega
        by_cases kp : kind = 7557193
        · subst kp
          have hz : Hid (isCall 7557193 = true) := by show _ = _; rfl
          go_wp2_with (first | go_skip)
          go_meet
          exact ⟨rfl, by rw [hz.out]⟩
        have kp' : ((kind : Int) == 7557193) = false := by simp; omega
        by_cases ks : kind = 4739917
        · subst ks
          have hz : Hid (isCall 4739917 = true) := by show _ = _; rfl
          go_wp2_with (first | go_skip)
          go_meet
          exact ⟨rfl, by rw [hz.out]⟩
        have ks' : ((kind : Int) == 4739917) = false := by simp; omega
        by_cases ke : kind = 1397904212
        · subst ke
          have hz : Hid (isCall 1397904212 = true) := by show _ = _; rfl
          go_wp2_with (first | go_skip)
          go_meet
          exact ⟨rfl, by rw [hz.out]⟩
        have ke' : ((kind : Int) == 1397904212) = false := by simp; omega
        have hz : Hid (isCall kind = false) := by show _ = _; simp [isCall, k16, kc, k1, kp, ks, ke]
        clear k16 kc k1 kp ks ke
        go_wp2_with (first | go_skip)
        go_meet
        exact ⟨rfl, by rw [hz.out]⟩
      case rest =>
      obtain ⟨rfl, rfl⟩ := hcut
      obtain ⟨ic, hic⟩ : ∃ b, isCall kind = b := ⟨_, rfl⟩
      have HIC := Lib.hid hic
      rw [hic]
      clear hic
      go_upto_if 143 with fail
      go_cut [24] (fun s wc => CutK w3 s wc)
      case first =>
        cases ic with
        | true =>
          go_wp2_with fail
          go_meet
          exact ⟨rfl, 7, rfl, noKind7, by omega⟩
        | false =>
          have HK : Hid (noKind kind) := by
            show noKind kind
            have := HIC.out
            simp [isCall] at this
            unfold noKind
            omega
          go_wp2_with fail
          go_meet
          exact ⟨rfl, kind, rfl, HK.out, lk⟩
      case rest =>
        obtain ⟨rfl, kd, rfl, hkd, lkd⟩ := hcut
        have HKD := Lib.hid hkd
        clear hkd
        have SI := Lib.hid (noCall_is n i kd fn a b hi (by omega) HKD.out.1 HKD.out.2.1 HKD.out.2.2.1 HKD.out.2.2.2.1 HKD.out.2.2.2.2.1 HKD.out.2.2.2.2.2)
        go_wp2_with fail
        refine (calls_fn n i kd fn a b _ (by omega) hi lkd lf la lb).mono ?_
        rintro e w5 ⟨g5, c5, g6, c6, o6, he, hM, ho⟩
        obtain ⟨U, hW⟩ : ∃ W, wasL i kd fn a b = W := ⟨_, rfl⟩
        rw [hW] at SI he hM ho
        obtain ⟨Z, hX⟩ : ∃ X, callL U n i = X := ⟨_, rfl⟩
        rw [hX] at SI hM
        rw [SI.out.bs] at ho
        rw [SI.out.d] at he
        obtain rfl := ho.nil
        subst he
        have HF5 := HF3
        clear ho hW hX
        obtain ⟨pc, hpc⟩ : ∃ pc, 2147483648 + 64 * i = pc := ⟨_, rfl⟩
        obtain ⟨pc4, hpc4⟩ : ∃ pc4, pc + 4 = pc4 := ⟨_, rfl⟩
        have ep : IntKind.u64.wrap ((pc : Int) + 4) = (pc4 : Int) := by rw [IntKind.wrap_u64]; omega
        have z10 : Hid (cellAt (Z i) 10 = .int .u64 ((18446744073709551614 : Nat) : Int)) := by show _ = _; rw [← SI.out.e10]; rfl
        have z11 : Hid (cellAt (Z i) 11 = .int .u64 ((0 : Nat) : Int)) := by show _ = _; rw [← SI.out.e11]; rfl
        have z32 : Hid (cellAt (Z i) 32 = .int .u64 (pc4 : Int)) := by show _ = _; rw [← hpc4, ← hpc, ← SI.out.pc]; rfl
        have y32 : Hid (cellAt (U i) 32 = .int .u64 (pc : Int)) := by show _ = _; rw [← hpc, ← SI.out.wpc]; rfl
        clear hpc hpc4
        go_upto_region 18 with fail
        try dsimp only [Act.put]
        refine wp_region_quiet (C := fun w' => Mem (fun _ => False) w3 w' ([.vs g5 n U, .vs g6 n Z])) (by kernel_rfl) (by kernel_rfl) (hM).drew ?_
        dsimp only
        repeat (first
          | go_big_quiet_skip
          | (refine wpQuiet_cell_vs (gd_want rfl) 22 _ rfl 1 g6 n Z rfl i 10 _ rfl (by first | rfl | omega) hi (by omega) _ Try.underlying22 rfl (.int .u64 (18446744073709551614 : Nat)) (z10.out) ?_; simp only [Act.put, List.setIfInBounds_toArray, List.set_cons_zero, List.set_cons_succ])
          | (refine wpQuiet_cell_vs (gd_want rfl) 22 _ rfl 1 g6 n Z rfl i 11 _ rfl (by first | rfl | omega) hi (by omega) _ Try.underlying22 rfl (.int .u64 (0 : Nat)) (z11.out) ?_; simp only [Act.put, List.setIfInBounds_toArray, List.set_cons_zero, List.set_cons_succ])
          | (refine wpQuiet_cell_vs (gd_want rfl) 22 _ rfl 1 g6 n Z rfl i 32 _ rfl (by first | rfl | omega) hi (by omega) _ Try.underlying22 rfl (.int .u64 (pc4 : Nat)) (z32.out) ?_; simp only [Act.put, List.setIfInBounds_toArray, List.set_cons_zero, List.set_cons_succ])
          | (refine wpQuiet_cell_vs (gd_want rfl) 22 _ rfl 0 g5 n U rfl i 32 _ rfl (by first | rfl | omega) hi (by omega) _ Try.underlying22 rfl (.int .u64 (pc : Nat)) (y32.out) ?_; simp only [Act.put, List.setIfInBounds_toArray, List.set_cons_zero, List.set_cons_succ])
          | (refine wpQuiet_pure (v := ?_) (gd_want rfl) ?_ ?_; rotate_left; (focus (intro w'; go_simp; try with_reducible rfl)); simp only [Act.put, List.setIfInBounds_toArray, List.set_cons_zero, List.set_cons_succ]))
        refine wpQuiet_nil ?_
        intro wq hMq
        have HF6 := Lib.hid (HF5.out.trans hMq.fr (fun _ _ h => h))
        clear hM hMq ep z10 z11 z32 y32
        go_wp2_with fail
        refine (awake_any _).mono ?_
        rintro e w9 ⟨rfl, hF⟩
        have HF9 := Lib.hid (fr_below (HF6.out.trans hF (fun _ _ h => h)))
        clear hF
        go_wp2_with fail
        go_ret
        exact ⟨rfl, HF9.out⟩
end Go.Proofs.Ytjiolobkobpohaa
