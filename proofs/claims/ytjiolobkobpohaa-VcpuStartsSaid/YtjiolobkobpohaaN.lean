/- The calls' functions: clock; the functions that were captured. -/
import Derived.Test.YtjiolobkobpohaaM
import Derived.Test.YtjiolobkobpohaaT
namespace Go.Proofs.Ytjiolobkobpohaa
open Go.RowKit Go.BigFrame

def V.clock (x : V) (a : Nat) : V := ((x.setB 50 true).setU 51 a).setU 46 (x.u 46 &&& 18446744073709551583)
def CR.noFn (r : CR) : CR := { r with err := 18446744073709551614 }
def clockL (r : CR) (i : Nat) (L : Nat → V) : Nat → V := if r.x 16 = 0 then upd L i ((L i).clock (r.x 10)) else L
def clockR (r : CR) : CR := if r.x 16 = 0 then r else r.noFn
theorem updV_twice (L : Nat → V) (i : Nat) (x y : V) : upd (upd L i x) i y = upd L i y := by
  funext k; unfold upd; split <;> rfl

set_option maxRecDepth 100000 in
set_option maxHeartbeats 1000000 in
theorem clock_any (gc gv n i c : Nat) (L : Nat → V) (r : CR) (w : World) (hM0 : Mem (SC gc gv) w w (LC gc gv n L r)) (hv : r.vs = .slice (some ⟨gv, 0, none⟩) n c) (hi : r.i = (i : Int)) (hin : i < n) (_hn : n ≤ 382438827053) (hw : (L i).Wf) :
    Calls Try.prog 40 #[.pointer (some ⟨gc, 0, none⟩)] w (Fin0 (SC gc gv) w (LC gc gv n (clockL r i L) (clockR r))) := by
  have hM := hM0
  obtain ⟨fn, hfn⟩ : ∃ f, r.x 16 = f := ⟨_, rfl⟩
  obtain ⟨a, ha⟩ : ∃ a, r.x 10 = a := ⟨_, rfl⟩
  have HF := Lib.hid hfn
  have HA := Lib.hid ha
  have HV := Lib.hid hv
  have HI := Lib.hid hi
  clear hM0 hv hi
  by_cases h0 : fn = 0
  · have hR : Hid (clockR r = r) := by show clockR r = _; unfold clockR; rw [hfn, if_pos h0]
    have hL : Hid (clockL r i L = upd L i ((L i).clock a)) := by show clockL r i L = _; unfold clockL; rw [hfn, if_pos h0, ha]
    obtain ⟨x, hx⟩ : ∃ x, L i = x := ⟨_, rfl⟩
    rw [hx] at hw
    obtain ⟨s, hs⟩ : ∃ s, x.u 46 &&& 18446744073709551583 = s := ⟨_, rfl⟩
    have es : bits .andNot .u64 (x.u 46 : Int) 32 = s := by rw [← hs]; exact u64_andNot_nat _ 32 (hw.u 46) (by omega)
    have HS := Lib.hid hs
    have HX := Lib.hid hx
    subst h0
    clear hfn ha hs hx
    go_enter Try.func40, Try.ntmps40
    go_upto_region 2 with (first | (refine wpList_cell_fn (gd_none rfl) 22 _ rfl 1 gc 55 39 _ hM rfl 18 rfl _ Try.underlying22 rfl (by omega) (.int .u64 (0 : Nat)) (congrArg (fun n : Nat => Value.int .u64 (n : Int)) HF.out) ?_))
    try dsimp only [Act.put]
    refine wp_region_quiet (C := fun w' => Mem (SC gc gv) w w' (LC gc gv n L r)) (by kernel_rfl) (by kernel_rfl) (hM).drew ?_
    dsimp only
    repeat (first
      | (refine wpQuiet_cell_fn (gd_want rfl) 24 _ rfl 1 gc 55 39 _ rfl 0 rfl _ Try.underlying24 rfl (by omega) (.slice (some ⟨gv, 0, none⟩) n c) (HV.out) ?_; simp only [Act.put, List.setIfInBounds_toArray, List.set_cons_zero, List.set_cons_succ])
      | (refine wpQuiet_cell_fn (gd_want rfl) 3 _ rfl 1 gc 55 39 _ rfl 1 rfl _ Try.underlying3 rfl (by omega) (.int .i64 i) (congrArg (Value.int .i64) HI.out) ?_; simp only [Act.put, List.setIfInBounds_toArray, List.set_cons_zero, List.set_cons_succ])
      | (refine wpQuiet_pure (v := ?_) (gd_want rfl) ?_ ?_; rotate_left; (focus (intro w'; go_simp; try with_reducible rfl)); simp only [Act.put, List.setIfInBounds_toArray, List.set_cons_zero, List.set_cons_succ]))
    refine wpQuiet_nil ?_
    intro wq hMq
    clear hM
    have hM := hMq
    clear hMq
    have z1 : Hid (upd (cellAt (L i)) 50 (.bool true) = cellAt (x.setB 50 true)) := by show _ = _; rw [HX.out, upd_cellB _ _ _ (show kd 50 = .b from rfl)]
    have z2 : Hid (upd (cellAt (upd L i (x.setB 50 true) i)) 51 (.int .u64 (a : Int)) = cellAt ((x.setB 50 true).setU 51 a)) := by show _ = _; rw [upd_same, upd_cellU _ _ _ (show kd 51 = .u from rfl)]
    have z3 : Hid (upd (cellAt (upd L i ((x.setB 50 true).setU 51 a) i)) 46 (.int .u64 (s : Int)) = cellAt (x.clock a)) := by show _ = _; rw [upd_same, upd_cellU _ _ _ (show kd 46 = .u from rfl), ← HS.out]; rfl
    have z4 : Hid (cellAt (upd L i ((x.setB 50 true).setU 51 a) i) 46 = .int .u64 (x.u 46 : Int)) := by show _ = _; rw [upd_same]; rfl
    go_wp2_with (first
      | go_skip
      | (refine wpList_cell_fn (gd_none rfl) 22 _ rfl 1 gc 55 39 _ hM rfl 12 rfl _ Try.underlying22 rfl (by omega) (.int .u64 (a : Nat)) (congrArg (fun n : Nat => Value.int .u64 (n : Int)) HA.out) ?_)
      | (refine wpList_put_vs (gd_none rfl) 4 _ _ rfl 0 gv n _ hM rfl i 50 _ rfl (by first | rfl | omega) hin (by omega) (.bool true) rfl Try.info4 (x.setB 50 true) (z1.out) ?_; clear hM; intro wp hwp hM; dsimp only [List.set_cons_zero, List.set_cons_succ] at hM)
      | (refine wpList_put_vs (gd_none rfl) 22 _ _ rfl 0 gv n _ hM rfl i 51 _ rfl (by first | rfl | omega) hin (by omega) (.int .u64 (a : Nat)) rfl Try.info22 ((x.setB 50 true).setU 51 a) (z2.out) ?_; clear hM; intro wp hwp hM; dsimp only [List.set_cons_zero, List.set_cons_succ] at hM; simp only [updV_twice] at hM)
      | (refine wpList_cell_vs (gd_none rfl) 22 _ rfl 0 gv n _ hM rfl i 46 _ rfl (by first | rfl | omega) hin (by omega) _ Try.underlying22 rfl (.int .u64 (x.u 46 : Nat)) (z4.out) ?_)
      | (refine wpList_put_vs (gd_none rfl) 22 _ _ rfl 0 gv n _ hM rfl i 46 _ rfl (by first | rfl | omega) hin (by omega) (.int .u64 (s : Nat)) rfl Try.info22 (x.clock a) (z3.out) ?_; clear hM; intro wp hwp hM; dsimp only [List.set_cons_zero, List.set_cons_succ] at hM; simp only [updV_twice] at hM))
    go_end0
    exact ⟨rfl, by rw [hR.out, hL.out, HX.out]; exact hM⟩
  · have hR : Hid (clockR r = r.noFn) := by show clockR r = _; unfold clockR; rw [hfn, if_neg h0]
    have hL : Hid (clockL r i L = L) := by show clockL r i L = _; unfold clockL; rw [hfn, if_neg h0]
    have h0' : ((fn : Int) != 0) = true := by simp; omega
    clear hfn ha h0
    go_enter Try.func40, Try.ntmps40
    go_wp2_with (first
      | go_skip
      | (refine wpList_cell_fn (gd_none rfl) 22 _ rfl 1 gc 55 39 _ hM rfl 18 rfl _ Try.underlying22 rfl (by omega) (.int .u64 (fn : Nat)) (congrArg (fun n : Nat => Value.int .u64 (n : Int)) HF.out) ?_)
      | (refine wpList_put_fn (gd_none rfl) 22 _ _ rfl 1 gc 55 39 _ hM rfl 34 rfl (.int .u64 (18446744073709551614 : Nat)) rfl Try.info22 (by omega) rfl ?_; clear hM; intro wp hwp hM; dsimp only [List.set_cons_zero, List.set_cons_succ] at hM; rw [cellC_err] at hM))
    go_end0
    exact ⟨rfl, by rw [hR.out, hL.out]; exact hM⟩
end Go.Proofs.Ytjiolobkobpohaa
