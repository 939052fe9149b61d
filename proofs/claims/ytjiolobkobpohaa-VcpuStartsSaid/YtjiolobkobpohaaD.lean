/- hart.Write at no register, the orders of the two packages, Wait of both. -/
import Derived.Test.YtjiolobkobpohaaC
namespace Go.Proofs.Ytjiolobkobpohaa
open Go.RowKit
theorem Try.info4 : (Try.prog.info? 4).map (·.size) = some 1 := by kernel_rfl
theorem Try.info3 : (Try.prog.info? 3).map (·.size) = some 1 := by kernel_rfl
theorem Try.info32 : (Try.prog.info? 32).map (·.size) = some 52 := by kernel_rfl
theorem Try.zero32 : (Try.prog.info? 32).bind (·.zero) = some (.agg (arr 52 (cellAt V.zero))) := by kernel_rfl
theorem withH_ord (x : V) : x.withH x.ord = x.ord := by
  refine V.ext3 (fun j => ?_) (fun j => ?_) rfl
  · simp only [V.withH, V.ord, V.setU, upd]
    (repeat' split) <;> first | omega | rfl
  · simp only [V.withH, V.ord, V.setU, upd]
    split <;> rfl
theorem ord_b (x : V) (j : Nat) : x.ord.b j = x.b j := rfl
set_option maxRecDepth 100000 in
theorem write_any (x : V) (w : World) (hx : x.Wf) :
    Calls Try.prog 36 #[.agg (arr 49 (cellAt x)), .int .i64 0, .int .u64 0] w fun e w' => e = .returned (.tuple #[.agg (arr 49 (cellAt x.ord)), .bool false]) ∧ Fr (fun _ => False) w w' := by
  have hM := Mem.refl (fun _ => False) w
  rcases hb : x.b 33 with _ | _
  · have HB := Lib.hid hb
    clear hb
    go_enter Try.func36, Try.ntmps36
    go_wp2_with (first
      | (refine wpList_box_fn (gd_none rfl) 30 _ rfl 49 _ rfl hM ?_; clear hM; intro w1 g1 hg1 hl1 hM; dsimp only [List.nil_append, List.cons_append] at hM)
      | (refine wpList_alloc_fn (gd_none rfl) 30 rfl 49 _ Try.zero30 hM ?_; clear hM; intro w2 g2 hg2 hl2 hM; dsimp only [List.nil_append, List.cons_append] at hM)
      | (refine wpList_load_all (gd_none rfl) 30 _ rfl 0 g1 30 49 _ hM rfl rfl _ Try.underlying30 rfl Try.info30 ?_)
      | (refine wpList_store_all (gd_none rfl) 30 _ _ rfl 0 g1 30 49 _ hM rfl rfl _ rfl Try.info30 (fun j _ => cell_one _ j) ?_; clear hM; intro ws hws hM; dsimp only [List.set_cons_zero, List.set_cons_succ] at hM)
      | (go_at_call 48; refine (order_any _ _ hx).mono ?_; rintro e w' ⟨rfl, hf⟩; replace hM := hM.call hf)
      | (refine wpList_store_all (gd_none rfl) 30 _ _ rfl 1 g2 30 49 _ hM rfl rfl _ rfl Try.info30 (fun j _ => cell_one _ j) ?_; clear hM; intro ws hws hM; dsimp only [List.set_cons_zero, List.set_cons_succ] at hM)
      | (refine wpList_cell_fn (gd_none rfl) 4 _ rfl 0 g1 30 49 _ hM rfl 33 rfl _ Try.underlying4 rfl (by omega) (.bool false) (congrArg Value.bool HB.out) ?_))
    refine bodyPost_ret (ret_fn_slot rfl _ 1 g2 49 _ hM rfl rfl _ Try.underlying30 rfl Try.info30) rfl ?_
    exact ⟨rfl, hM.fr⟩
  · have HB := Lib.hid hb
    clear hb
    go_enter Try.func36, Try.ntmps36
    go_wp2_with (first
      | (refine wpList_box_fn (gd_none rfl) 30 _ rfl 49 _ rfl hM ?_; clear hM; intro w1 g1 hg1 hl1 hM; dsimp only [List.nil_append, List.cons_append] at hM)
      | (refine wpList_alloc_fn (gd_none rfl) 30 rfl 49 _ Try.zero30 hM ?_; clear hM; intro w2 g2 hg2 hl2 hM; dsimp only [List.nil_append, List.cons_append] at hM)
      | (refine wpList_load_all (gd_none rfl) 30 _ rfl 0 g1 30 49 _ hM rfl rfl _ Try.underlying30 rfl Try.info30 ?_)
      | (refine wpList_store_all (gd_none rfl) 30 _ _ rfl 0 g1 30 49 _ hM rfl rfl _ rfl Try.info30 (fun j _ => cell_one _ j) ?_; clear hM; intro ws hws hM; dsimp only [List.set_cons_zero, List.set_cons_succ] at hM)
      | (go_at_call 48; refine (order_any _ _ hx).mono ?_; rintro e w' ⟨rfl, hf⟩; replace hM := hM.call hf)
      | (refine wpList_store_all (gd_none rfl) 30 _ _ rfl 1 g2 30 49 _ hM rfl rfl _ rfl Try.info30 (fun j _ => cell_one _ j) ?_; clear hM; intro ws hws hM; dsimp only [List.set_cons_zero, List.set_cons_succ] at hM)
      | (refine wpList_cell_fn (gd_none rfl) 4 _ rfl 0 g1 30 49 _ hM rfl 33 rfl _ Try.underlying4 rfl (by omega) (.bool true) (congrArg Value.bool HB.out) ?_))
    refine bodyPost_ret (ret_fn_slot rfl _ 1 g2 49 _ hM rfl rfl _ Try.underlying30 rfl Try.info30) rfl ?_
    exact ⟨rfl, hM.fr⟩
set_option maxRecDepth 100000 in
theorem vorder_any (x : V) (w : World) (hx : x.Wf) :
    Calls Try.prog 30 #[.agg (arr 49 (cellAt x))] w fun e w' => e = .returned (.agg (arr 49 (cellAt x.ord))) ∧ Fr (fun _ => False) w w' := by
  have hM := Mem.refl (fun _ => False) w
  go_enter Try.func30, Try.ntmps30
  go_wp2_with (first
    | (refine wpList_box_fn (gd_none rfl) 30 _ rfl 49 _ rfl hM ?_; clear hM; intro w1 g1 hg1 hl1 hM; dsimp only [List.nil_append, List.cons_append] at hM)
    | (refine wpList_alloc_fn (gd_none rfl) 30 rfl 49 _ Try.zero30 hM ?_; clear hM; intro w2 g2 hg2 hl2 hM; dsimp only [List.nil_append, List.cons_append] at hM)
    | (refine wpList_load_all (gd_none rfl) 30 _ rfl 0 g1 30 49 _ hM rfl rfl _ Try.underlying30 rfl Try.info30 ?_)
    | (refine wpList_store_all (gd_none rfl) 30 _ _ rfl 0 g1 30 49 _ hM rfl rfl _ rfl Try.info30 (fun j _ => cell_one _ j) ?_; clear hM; intro ws hws hM; dsimp only [List.set_cons_zero, List.set_cons_succ] at hM)
    | (go_at_call 36; refine (write_any _ _ hx).mono ?_; rintro e w' ⟨rfl, hf⟩; replace hM := hM.call hf)
    | (refine wpList_store_all (gd_none rfl) 30 _ _ rfl 1 g2 30 49 _ hM rfl rfl _ rfl Try.info30 (fun j _ => cell_one _ j) ?_; clear hM; intro ws hws hM; dsimp only [List.set_cons_zero, List.set_cons_succ] at hM))
  refine bodyPost_ret (ret_fn rfl _ 1 g2 49 _ hM rfl rfl _ Try.underlying30 rfl Try.info30) rfl ?_
  exact ⟨rfl, hM.fr⟩
set_option maxRecDepth 100000 in
theorem rorder_any (x : V) (w : World) (hx : x.Wf) :
    Calls Try.prog 31 #[.agg (arr 52 (cellAt x))] w fun e w' => e = .returned (.agg (arr 52 (cellAt x.ord))) ∧ Fr (fun _ => False) w w' := by
  have hM := Mem.refl (fun _ => False) w
  go_enter Try.func31, Try.ntmps31
  go_wp2_with (first
    | (refine wpList_box_fn (gd_none rfl) 32 _ rfl 52 _ rfl hM ?_; clear hM; intro w1 g1 hg1 hl1 hM; dsimp only [List.nil_append, List.cons_append] at hM)
    | (refine wpList_alloc_fn (gd_none rfl) 32 rfl 52 _ Try.zero32 hM ?_; clear hM; intro w2 g2 hg2 hl2 hM; dsimp only [List.nil_append, List.cons_append] at hM)
    | (refine wpList_load_head (gd_none rfl) 30 _ rfl 0 g1 32 52 _ hM rfl 49 rfl _ Try.underlying30 rfl Try.info30 (by omega) ?_)
    | (refine wpList_store_h (gd_none rfl) 30 _ _ rfl 0 g1 32 _ hM rfl rfl _ rfl Try.info30 ?_; clear hM; intro ws hws hM; dsimp only [List.set_cons_zero, List.set_cons_succ] at hM)
    | (go_at_call 25; refine (refOrder_any _ _ hx).mono ?_; rintro e w' ⟨rfl, hf⟩; replace hM := hM.call hf)
    | (refine wpList_load_all (gd_none rfl) 32 _ rfl 0 g1 32 52 _ hM rfl rfl _ Try.underlying32 rfl Try.info32 ?_)
    | (refine wpList_store_all (gd_none rfl) 32 _ _ rfl 1 g2 32 52 _ hM rfl rfl _ rfl Try.info32 (fun j _ => cell_one _ j) ?_; clear hM; intro ws hws hM; dsimp only [List.set_cons_zero, List.set_cons_succ] at hM))
  refine bodyPost_ret (ret_fn rfl _ 1 g2 52 _ hM rfl rfl _ Try.underlying32 rfl Try.info32) rfl ?_
  exact ⟨by rw [withH_ord], hM.fr⟩
/-- One that waits, if it ran. -/
def V.wait (x : V) : V := if x.i = 1 then x.setI 2 else x
set_option maxRecDepth 100000 in
theorem wait_any (x : V) (w : World) :
    Calls Try.prog 17 #[.agg (arr 52 (cellAt x))] w fun e w' => e = .returned (.agg (arr 52 (cellAt x.wait))) ∧ Fr (fun _ => False) w w' := by
  have hM := Mem.refl (fun _ => False) w
  by_cases hi : x.i = 1
  · have hR : Hid (x.wait = x.setI 2) := by show x.wait = _; unfold V.wait; rw [if_pos hi]
    go_enter Try.func17, Try.ntmps17
    go_wp2_with (first
      | (refine wpList_box_fn (gd_none rfl) 32 _ rfl 52 _ rfl hM ?_; clear hM; intro w1 g1 hg1 hl1 hM; dsimp only [List.nil_append, List.cons_append] at hM)
      | (refine wpList_alloc_fn (gd_none rfl) 32 rfl 52 _ Try.zero32 hM ?_; clear hM; intro w2 g2 hg2 hl2 hM; dsimp only [List.nil_append, List.cons_append] at hM)
      | (refine wpList_cell_fn (gd_none rfl) 3 _ rfl 0 g1 32 52 _ hM rfl 49 rfl _ Try.underlying3 rfl (by omega) (.int .i64 x.i) rfl ?_)
      | (refine wpList_put_fn (gd_none rfl) 3 _ _ rfl 0 g1 32 52 _ hM rfl 49 rfl (.int .i64 2) rfl Try.info3 (by omega) rfl ?_; clear hM; intro wp hwp hM; dsimp only [List.set_cons_zero, List.set_cons_succ] at hM; simp only [upd_cellI _ _ _ (show kd 49 = .i from rfl)] at hM)
      | (refine wpList_load_all (gd_none rfl) 32 _ rfl 0 g1 32 52 _ hM rfl rfl _ Try.underlying32 rfl Try.info32 ?_)
      | (refine wpList_store_all (gd_none rfl) 32 _ _ rfl 1 g2 32 52 _ hM rfl rfl _ rfl Try.info32 (fun j _ => cell_one _ j) ?_; clear hM; intro ws hws hM; dsimp only [List.set_cons_zero, List.set_cons_succ] at hM))
    refine bodyPost_ret (ret_fn rfl _ 1 g2 52 _ hM rfl rfl _ Try.underlying32 rfl Try.info32) rfl ?_
    exact ⟨by rw [hR.out], hM.fr⟩
  · have hR : Hid (x.wait = x) := by show x.wait = _; unfold V.wait; rw [if_neg hi]
    have hb : (x.i == 1) = false := by simpa using hi
    clear hi
    go_enter Try.func17, Try.ntmps17
    go_wp2_with (first
      | (refine wpList_box_fn (gd_none rfl) 32 _ rfl 52 _ rfl hM ?_; clear hM; intro w1 g1 hg1 hl1 hM; dsimp only [List.nil_append, List.cons_append] at hM)
      | (refine wpList_alloc_fn (gd_none rfl) 32 rfl 52 _ Try.zero32 hM ?_; clear hM; intro w2 g2 hg2 hl2 hM; dsimp only [List.nil_append, List.cons_append] at hM)
      | (refine wpList_cell_fn (gd_none rfl) 3 _ rfl 0 g1 32 52 _ hM rfl 49 rfl _ Try.underlying3 rfl (by omega) (.int .i64 x.i) rfl ?_)
      | (refine wpList_load_all (gd_none rfl) 32 _ rfl 0 g1 32 52 _ hM rfl rfl _ Try.underlying32 rfl Try.info32 ?_)
      | (refine wpList_store_all (gd_none rfl) 32 _ _ rfl 1 g2 32 52 _ hM rfl rfl _ rfl Try.info32 (fun j _ => cell_one _ j) ?_; clear hM; intro ws hws hM; dsimp only [List.set_cons_zero, List.set_cons_succ] at hM))
    refine bodyPost_ret (ret_fn rfl _ 1 g2 52 _ hM rfl rfl _ Try.underlying32 rfl Try.info32) rfl ?_
    exact ⟨by rw [hR.out], hM.fr⟩
set_option maxRecDepth 100000 in
theorem refWait_any (x : V) (w : World) :
    Calls Try.prog 18 #[.agg (arr 52 (cellAt x))] w fun e w' => e = .returned (.agg (arr 52 (cellAt x.wait))) ∧ Fr (fun _ => False) w w' := by
  have hM := Mem.refl (fun _ => False) w
  by_cases hi : x.i = 1
  · have hR : Hid (x.wait = x.setI 2) := by show x.wait = _; unfold V.wait; rw [if_pos hi]
    go_enter Try.func18, Try.ntmps18
    go_wp2_with (first
      | (refine wpList_box_fn (gd_none rfl) 32 _ rfl 52 _ rfl hM ?_; clear hM; intro w1 g1 hg1 hl1 hM; dsimp only [List.nil_append, List.cons_append] at hM)
      | (refine wpList_alloc_fn (gd_none rfl) 32 rfl 52 _ Try.zero32 hM ?_; clear hM; intro w2 g2 hg2 hl2 hM; dsimp only [List.nil_append, List.cons_append] at hM)
      | (refine wpList_cell_fn (gd_none rfl) 3 _ rfl 0 g1 32 52 _ hM rfl 49 rfl _ Try.underlying3 rfl (by omega) (.int .i64 x.i) rfl ?_)
      | (refine wpList_put_fn (gd_none rfl) 3 _ _ rfl 0 g1 32 52 _ hM rfl 49 rfl (.int .i64 2) rfl Try.info3 (by omega) rfl ?_; clear hM; intro wp hwp hM; dsimp only [List.set_cons_zero, List.set_cons_succ] at hM; simp only [upd_cellI _ _ _ (show kd 49 = .i from rfl)] at hM)
      | (refine wpList_load_all (gd_none rfl) 32 _ rfl 0 g1 32 52 _ hM rfl rfl _ Try.underlying32 rfl Try.info32 ?_)
      | (refine wpList_store_all (gd_none rfl) 32 _ _ rfl 1 g2 32 52 _ hM rfl rfl _ rfl Try.info32 (fun j _ => cell_one _ j) ?_; clear hM; intro ws hws hM; dsimp only [List.set_cons_zero, List.set_cons_succ] at hM))
    refine bodyPost_ret (ret_fn rfl _ 1 g2 52 _ hM rfl rfl _ Try.underlying32 rfl Try.info32) rfl ?_
    exact ⟨by rw [hR.out], hM.fr⟩
  · have hR : Hid (x.wait = x) := by show x.wait = _; unfold V.wait; rw [if_neg hi]
    have hb : (x.i == 1) = false := by simpa using hi
    clear hi
    go_enter Try.func18, Try.ntmps18
    go_wp2_with (first
      | (refine wpList_box_fn (gd_none rfl) 32 _ rfl 52 _ rfl hM ?_; clear hM; intro w1 g1 hg1 hl1 hM; dsimp only [List.nil_append, List.cons_append] at hM)
      | (refine wpList_alloc_fn (gd_none rfl) 32 rfl 52 _ Try.zero32 hM ?_; clear hM; intro w2 g2 hg2 hl2 hM; dsimp only [List.nil_append, List.cons_append] at hM)
      | (refine wpList_cell_fn (gd_none rfl) 3 _ rfl 0 g1 32 52 _ hM rfl 49 rfl _ Try.underlying3 rfl (by omega) (.int .i64 x.i) rfl ?_)
      | (refine wpList_load_all (gd_none rfl) 32 _ rfl 0 g1 32 52 _ hM rfl rfl _ Try.underlying32 rfl Try.info32 ?_)
      | (refine wpList_store_all (gd_none rfl) 32 _ _ rfl 1 g2 32 52 _ hM rfl rfl _ rfl Try.info32 (fun j _ => cell_one _ j) ?_; clear hM; intro ws hws hM; dsimp only [List.set_cons_zero, List.set_cons_succ] at hM))
    refine bodyPost_ret (ret_fn rfl _ 1 g2 52 _ hM rfl rfl _ Try.underlying32 rfl Try.info32) rfl ?_
    exact ⟨by rw [hR.out], hM.fr⟩
end Go.Proofs.Ytjiolobkobpohaa
