/- The calls' functions: state: a hart is started; all of state. -/
import Derived.Test.YtjiolobkobpohaaR
namespace Go.Proofs.Ytjiolobkobpohaa
open Go.RowKit Go.BigFrame
set_option maxRecDepth 100000 in
set_option maxHeartbeats 2000000 in
theorem state_yes0 (gc gv n c i : Nat) (L : Nat → V) (r : CR) (w : World) (hM0 : Mem (SC gc gv) w w (LC gc gv n L r)) (hv : r.vs = .slice (some ⟨gv, 0, none⟩) n c) (hi : r.i = (i : Int)) (_hin : i < n) (_hn : n ≤ 382438827053) (hx : ∀ j, r.x j < 18446744073709551616) (h0 : r.x 16 = 0) (h3 : r.x 10 < n) (hst : (L (r.x 10)).i = 0) :
    Calls Try.prog 45 #[.pointer (some ⟨gc, 0, none⟩)] w (Fin0 (SC gc gv) w (LC gc gv n (stateL r i n L) (stateR r n L))) := by
  have hM := hM0
  obtain ⟨fn, hfn⟩ : ∃ f, r.x 16 = f := ⟨_, rfl⟩
  obtain ⟨a, ha⟩ : ∃ f, r.x 10 = f := ⟨_, rfl⟩
  obtain ⟨b, hb⟩ : ∃ f, r.x 11 = f := ⟨_, rfl⟩
  obtain ⟨d, hd⟩ : ∃ f, r.x 12 = f := ⟨_, rfl⟩
  have la : a < 18446744073709551616 := by rw [← ha]; exact hx 10
  have lb : b < 18446744073709551616 := by rw [← hb]; exact hx 11
  have ld : d < 18446744073709551616 := by rw [← hd]; exact hx 12
  have HF := Lib.hid hfn
  have HA := Lib.hid ha
  have HB := Lib.hid hb
  have HD := Lib.hid hd
  have HV := Lib.hid hv
  have HI := Lib.hid hi
  have hR : Hid (stateR r n L = r) := by show stateR r n L = _; unfold stateR; rw [if_neg (by omega), if_neg (by omega), if_neg (by omega), if_neg (by omega), if_pos hst]
  have hL : Hid (stateL r i n L = upd L (r.x 10) (startV (r.x 11) (r.x 10) (r.x 12))) := by show stateL r i n L = _; unfold stateL; rw [if_neg (by omega), if_pos ⟨h0, h3, hst⟩]
  obtain ⟨si, hsi⟩ : ∃ s, (L a).i = s := ⟨_, rfl⟩
  rw [ha, hsi] at hst
  rw [ha] at h3
  rw [h0] at hfn
  subst hfn
  subst hst
  have HS := Lib.hid (congrArg (Value.int .i64) hsi)
  have en : IntKind.u64.wrap (n : Int) = n := by rw [IntKind.wrap_u64]; omega
  have h3' : decide (n ≤ a) = false := by simp; omega
  clear hM0 hv hi hx ha hb hd h0 hsi
  go_enter Try.func45, Try.ntmps45
  go_upto_region 5 with (first | go_skip | (refine wpList_cell_fn (gd_none rfl) 22 _ rfl 1 gc 55 39 _ hM rfl 18 rfl _ Try.underlying22 rfl (by omega) (.int .u64 (0 : Nat)) (congrArg (fun n : Nat => Value.int .u64 (n : Int)) HF.out) ?_) | (refine wpList_cell_fn (gd_want rfl) 22 _ rfl 1 gc 55 39 _ hM rfl 18 rfl _ Try.underlying22 rfl (by omega) (.int .u64 (0 : Nat)) (congrArg (fun n : Nat => Value.int .u64 (n : Int)) HF.out) ?_))
  try dsimp only [Act.put]
  refine wp_region_quiet (C := fun w' => Mem (SC gc gv) w w' (LC gc gv n L r)) (by kernel_rfl) (by kernel_rfl) (hM).drew ?_
  dsimp only
  repeat (first
    | (refine wpQuiet_cell_fn (gd_want rfl) 22 _ rfl 1 gc 55 39 _ rfl 12 rfl _ Try.underlying22 rfl (by omega) (.int .u64 (a : Nat)) (congrArg (fun n : Nat => Value.int .u64 (n : Int)) HA.out) ?_; simp only [Act.put, List.setIfInBounds_toArray, List.set_cons_zero, List.set_cons_succ])
    | (refine wpQuiet_cell_fn (gd_want rfl) 24 _ rfl 1 gc 55 39 _ rfl 0 rfl _ Try.underlying24 rfl (by omega) (.slice (some ⟨gv, 0, none⟩) n c) (HV.out) ?_; simp only [Act.put, List.setIfInBounds_toArray, List.set_cons_zero, List.set_cons_succ])
    | (refine wpQuiet_pure (v := ?_) (gd_want rfl) ?_ ?_; rotate_left; (focus (intro w'; go_simp; try with_reducible rfl)); simp only [Act.put, List.setIfInBounds_toArray, List.set_cons_zero, List.set_cons_succ]))
  refine wpQuiet_nil ?_
  intro wq hMq
  clear hM
  have hM := hMq
  clear hMq
  go_upto_region 7 with fail
  try dsimp only [Act.put]
  refine wp_region_quiet (C := fun w' => Mem (SC gc gv) w w' (LC gc gv n L r)) (by kernel_rfl) (by kernel_rfl) (hM).drew ?_
  dsimp only
  repeat (first
    | (refine wpQuiet_cell_fn (gd_want rfl) 22 _ rfl 1 gc 55 39 _ rfl 12 rfl _ Try.underlying22 rfl (by omega) (.int .u64 (a : Nat)) (congrArg (fun n : Nat => Value.int .u64 (n : Int)) HA.out) ?_; simp only [Act.put, List.setIfInBounds_toArray, List.set_cons_zero, List.set_cons_succ])
    | (refine wpQuiet_cell_fn (gd_want rfl) 24 _ rfl 1 gc 55 39 _ rfl 0 rfl _ Try.underlying24 rfl (by omega) (.slice (some ⟨gv, 0, none⟩) n c) (HV.out) ?_; simp only [Act.put, List.setIfInBounds_toArray, List.set_cons_zero, List.set_cons_succ])
    | (refine wpQuiet_pure (v := ?_) (gd_want rfl) ?_ ?_; rotate_left; (focus (intro w'; go_simp; try with_reducible rfl)); simp only [Act.put, List.setIfInBounds_toArray, List.set_cons_zero, List.set_cons_succ]))
  refine wpQuiet_nil ?_
  intro wq hMq
  clear hM
  have hM := hMq
  clear hMq
  have WR := Lib.hid (reset_wf b a d lb la ld)
  have LB := Lib.hid lb
  have BB : Hid (Try.prog.built 32 [(0, .agg (arr 49 (cellAt (V.reset b a d)))), (1, .int .i64 1)] = some (arr 52 (cellAt (startV b a d)))) := built32 (V.reset b a d)
  go_upto_region 9 with (first | (refine wpList_cell_vs (gd_none rfl) 3 _ rfl 0 gv n _ hM rfl a 49 _ rfl (by first | rfl | omega) h3 (by omega) _ Try.underlying3 rfl (.int .i64 0) (HS.out) ?_) | (refine wpList_cell_fn (gd_none rfl) 22 _ rfl 1 gc 55 39 _ hM rfl 18 rfl _ Try.underlying22 rfl (by omega) (.int .u64 (0 : Nat)) (congrArg (fun n : Nat => Value.int .u64 (n : Int)) HF.out) ?_))
  try dsimp only [Act.put]
  refine wp_region_quiet_tail 20 (fun w' => Mem (SC gc gv) w w' (LC gc gv n L r)) (by kernel_rfl) (by kernel_rfl) (hM).drew ?_
  simp only [List.take_succ_cons, List.take_zero, List.drop_succ_cons, List.drop_zero]
  repeat (first
    | (refine wpQuiet_cell_fn (gd_want rfl) 22 _ rfl 1 gc 55 39 _ rfl 12 rfl _ Try.underlying22 rfl (by omega) (.int .u64 (a : Nat)) (congrArg (fun n : Nat => Value.int .u64 (n : Int)) HA.out) ?_; simp only [Act.put, List.setIfInBounds_toArray, List.set_cons_zero, List.set_cons_succ])
    | (refine wpQuiet_cell_fn (gd_want rfl) 22 _ rfl 1 gc 55 39 _ rfl 13 rfl _ Try.underlying22 rfl (by omega) (.int .u64 (b : Nat)) (congrArg (fun n : Nat => Value.int .u64 (n : Int)) HB.out) ?_; simp only [Act.put, List.setIfInBounds_toArray, List.set_cons_zero, List.set_cons_succ])
    | (refine wpQuiet_cell_fn (gd_want rfl) 22 _ rfl 1 gc 55 39 _ rfl 14 rfl _ Try.underlying22 rfl (by omega) (.int .u64 (d : Nat)) (congrArg (fun n : Nat => Value.int .u64 (n : Int)) HD.out) ?_; simp only [Act.put, List.setIfInBounds_toArray, List.set_cons_zero, List.set_cons_succ])
    | (refine wpQuiet_build_fn (gd_want rfl) 32 _ rfl 52 (cellAt (startV b a d)) ?_ ?_; (focus exact BB.out); simp only [Act.put, List.setIfInBounds_toArray, List.set_cons_zero, List.set_cons_succ])
    | (refine wpQuiet_pure (v := ?_) (gd_want rfl) ?_ ?_; rotate_left; (focus (intro w'; go_simp; try with_reducible rfl)); simp only [Act.put, List.setIfInBounds_toArray, List.set_cons_zero, List.set_cons_succ])
    | (refine wpQuiet_call (F := 28) (args := #[.int .u64 b, .int .u64 a, .int .u64 d]) (v := .agg (arr 49 (cellAt (V.reset b a d)))) (gd_want rfl) ?_ (fun w' hm => (reset_any b a d _ LB.out).mono fun e w2 ⟨he, hf⟩ => ⟨he, Mem.call hm hf⟩) ?_; (focus (intro w'; go_simp; done)); simp only [Act.put, List.setIfInBounds_toArray, List.set_cons_zero, List.set_cons_succ])
    | (refine wpQuiet_call (F := 30) (args := #[.agg (arr 49 (cellAt (V.reset b a d)))]) (v := .agg (arr 49 (cellAt (V.reset b a d)))) (gd_want rfl) ?_ (fun w' hm => (vorder_reset b a d _ WR.out).mono fun e w2 ⟨he, hf⟩ => ⟨he, Mem.call hm hf⟩) ?_; (focus (intro w'; go_simp; done)); simp only [Act.put, List.setIfInBounds_toArray, List.set_cons_zero, List.set_cons_succ]))
  refine wpQuiet_nil ?_
  intro wq hMq
  clear hM
  have hM := hMq
  clear hMq
  go_wp2_with (first
    | go_skip
    | (refine wpList_store_vs (gd_none rfl) 32 _ _ rfl 0 gv n _ hM rfl a _ 52 rfl (by first | rfl | omega) h3 (by omega) (startV b a d) rfl Try.info32 (startV b a d) (fun _ _ => rfl) (fun j h1 h2 => absurd h1 (Nat.not_le.2 h2)) ?_; clear hM; intro ws hws hM; dsimp only [List.set_cons_zero, List.set_cons_succ] at hM))
  go_end0
  exact ⟨rfl, by rw [hR.out, hL.out, HA.out, HB.out, HD.out]; exact hM⟩


theorem state_any (gc gv n c i : Nat) (L : Nat → V) (r : CR) (w : World) (hM : Mem (SC gc gv) w w (LC gc gv n L r)) (hv : r.vs = .slice (some ⟨gv, 0, none⟩) n c) (hi : r.i = (i : Int)) (hin : i < n) (hn : n ≤ 382438827053) (hx : ∀ j, r.x j < 18446744073709551616) :
    Calls Try.prog 45 #[.pointer (some ⟨gc, 0, none⟩)] w (Fin0 (SC gc gv) w (LC gc gv n (stateL r i n L) (stateR r n L))) := by
  by_cases h1 : r.x 16 = 1
  · exact state_stop gc gv n c i L r w hM hv hi hin hn hx h1
  by_cases h0 : r.x 16 = 0
  · by_cases h3 : n ≤ r.x 10
    · exact state_wrong0 gc gv n c i L r w hM hv hi hin hn hx h0 h3
    · by_cases hs : (L (r.x 10)).i = 0
      · exact state_yes0 gc gv n c i L r w hM hv hi hin hn hx h0 (by omega) hs
      · exact state_no0 gc gv n c i L r w hM hv hi hin hn hx h0 (by omega) hs
  by_cases h2 : r.x 16 = 2
  · by_cases h3 : n ≤ r.x 10
    · exact state_wrong2 gc gv n c i L r w hM hv hi hin hn hx h2 h3
    · by_cases hs : (L (r.x 10)).i = 0
      · exact state_yes2 gc gv n c i L r w hM hv hi hin hn hx h2 (by omega) hs
      · exact state_no2 gc gv n c i L r w hM hv hi hin hn hx h2 (by omega) hs
  exact state_none gc gv n c i L r w hM hv hi hin hn hx h0 h1 h2
end Go.Proofs.Ytjiolobkobpohaa
