/- The calls' functions: state. -/
import Derived.Test.YtjiolobkobpohaaQ
namespace Go.Proofs.Ytjiolobkobpohaa
open Go.RowKit Go.BigFrame

def startV (pc a b : Nat) : V := (V.zero.withH (V.reset pc a b)).setI 1
def stateL (r : CR) (i n : Nat) (L : Nat → V) : Nat → V :=
  if r.x 16 = 1 then upd L i ((L i).setI 0) else if r.x 16 = 0 ∧ r.x 10 < n ∧ (L (r.x 10)).i = 0 then upd L (r.x 10) (startV (r.x 11) (r.x 10) (r.x 12)) else L
def stateR (r : CR) (n : Nat) (L : Nat → V) : CR :=
  if r.x 16 = 1 then { r with stays := true } else if r.x 16 ≠ 0 ∧ r.x 16 ≠ 2 then r.noFn else if n ≤ r.x 10 then { r with err := 18446744073709551613 }
  else if r.x 16 = 2 then (if (L (r.x 10)).i = 0 then { r with val := 1 } else r) else if (L (r.x 10)).i = 0 then r else { r with err := 18446744073709551610 }
theorem reset_ord2 (pc a b : Nat) : (V.reset pc a b).ord = V.reset pc a b := by
  refine V.ext3 (fun j => ?_) (fun _ => rfl) rfl
  simp only [V.ord, V.reset, V.setU, upd, V.zero]
  (repeat' split) <;> first | omega | rfl | (simp_all; done)
theorem reset_wf (pc a b : Nat) (h1 : pc < 18446744073709551616) (h2 : a < 18446744073709551616) (h3 : b < 18446744073709551616) : (V.reset pc a b).Wf :=
  ((zero_wf.setU 32 _ (by omega)).setU 10 a h2).setU 11 b h3
theorem vorder_reset (pc a b : Nat) (w : World) (h : (V.reset pc a b).Wf) :
    Calls Try.prog 30 #[.agg (arr 49 (cellAt (V.reset pc a b)))] w fun e w' => e = .returned (.agg (arr 49 (cellAt (V.reset pc a b)))) ∧ Fr (fun _ => False) w w' := by
  have := vorder_any (V.reset pc a b) w h
  rw [reset_ord2] at this
  exact this
section
variable {P : Program} {ops : Array Oper} {rest : List Oper} {o : Oper} {a : Act} {C : World → Prop} {Q : Act → Prop}
theorem wpQuiet_build_fn (hgd : Gd ops o a) (t : TypeId) (parts : Array (Nat × Operand)) (ho : o.op = .build t parts) (n : Nat) (f : Nat → Value)
    (hb : P.built t (parts.toList.map fun p => (p.1, a.eval p.2)) = some (arr n f)) (h : wpQuiet P ops C Q rest (a.put o.dst (.agg (arr n f)))) : wpQuiet P ops C Q (o :: rest) a := by
  have hb' : P.built t (parts.map fun (i, x) => (i, a.eval x)).toList = some (arr n f) := by rw [Array.toList_map]; exact hb
  refine wpQuiet_pure hgd (fun w => ?_) h
  unfold execOp
  simp only [ho, Sem.run_bind, run_build w t _ _ hb', Result.andThen_ok, Sem.run_pure]
end

set_option maxRecDepth 100000 in
set_option maxHeartbeats 2000000 in
theorem state_stop (gc gv n c i : Nat) (L : Nat → V) (r : CR) (w : World) (hM0 : Mem (SC gc gv) w w (LC gc gv n L r)) (hv : r.vs = .slice (some ⟨gv, 0, none⟩) n c) (hi : r.i = (i : Int)) (hin : i < n) (_hn : n ≤ 382438827053) (hx : ∀ j, r.x j < 18446744073709551616) (h1 : r.x 16 = 1) :
    Calls Try.prog 45 #[.pointer (some ⟨gc, 0, none⟩)] w (Fin0 (SC gc gv) w (LC gc gv n (stateL r i n L) (stateR r n L))) := by
  have hM := hM0
  obtain ⟨fn, hfn⟩ : ∃ f, r.x 16 = f := ⟨_, rfl⟩
  obtain ⟨a, ha⟩ : ∃ f, r.x 10 = f := ⟨_, rfl⟩
  obtain ⟨b, hb⟩ : ∃ f, r.x 11 = f := ⟨_, rfl⟩
  obtain ⟨d, hd⟩ : ∃ f, r.x 12 = f := ⟨_, rfl⟩
  have la : a < 18446744073709551616 := by rw [← ha]; exact hx 10
  have lb : b < 18446744073709551616 := by rw [← hb]; exact hx 11
  have ld : d < 18446744073709551616 := by rw [← hd]; exact hx 12
  have HF := Lib.hid hfn
  have HA := Lib.hid ha
  have HB := Lib.hid hb
  have HD := Lib.hid hd
  have HV := Lib.hid hv
  have HI := Lib.hid hi
  have hR : Hid (stateR r n L = { r with stays := true }) := by show stateR r n L = _; unfold stateR; rw [if_pos h1]
  have hL : Hid (stateL r i n L = upd L i ((L i).setI 0)) := by show stateL r i n L = _; unfold stateL; rw [if_pos h1]
  rw [h1] at hfn
  subst hfn
  have c0 : w.drew.cell? ⟨gc, 0, none⟩ = some (.slice (some ⟨gv, 0, none⟩) n c) := by rw [← hv]; exact (Mem.cell hM0.drew 1 rfl 0 (by omega)).trans rfl
  have c1 : w.drew.cell? ⟨gc, 1, none⟩ = some (.int .i64 (i : Int)) := by rw [← hi]; exact (Mem.cell hM0.drew 1 rfl 1 (by omega)).trans rfl
  have cv : w.drew.cell? ⟨gv, i * 52 + 49, none⟩ = some (.int .i64 (L i).i) := (Mem.cellV hM0.drew 0 rfl i 49 hin (by omega)).trans rfl
  have fv : w.drew.frozen? ⟨gv, i * 52 + 49, none⟩ = false := Mem.frozenV hM0.drew 0 rfl _
  have hne : gc ≠ gv := fun e => by have := hM0.nd; simp [LC, Ent.g] at this; exact this e.symm
  have hne2 : gv ≠ gc := fun e => hne e.symm
  have w0c : w.cell? ⟨gc, 0, none⟩ = some (.slice (some ⟨gv, 0, none⟩) n c) := by simpa using c0
  have w1c : w.cell? ⟨gc, 1, none⟩ = some (.int .i64 (i : Int)) := by simpa using c1
  have hM2 := hM0.drew.putV 0 rfl i 49 hin (by omega) (.int .i64 0) ((L i).setI 0) (upd_cellI _ _ _ rfl)
  have HM2 := Lib.hid hM2
  clear hM0 hv hi hx hM2 ha hb hd h1
  go_enter Try.func45, Try.ntmps45
  go_upto_region 1 with (first | (refine wpList_cell_fn (gd_none rfl) 22 _ rfl 1 gc 55 39 _ hM rfl 18 rfl _ Try.underlying22 rfl (by omega) (.int .u64 (1 : Nat)) (congrArg (fun n : Nat => Value.int .u64 (n : Int)) HF.out) ?_))
  try dsimp only [Act.put]
  go_region_held3 (fun w' => w'.cell? ⟨gc, 0, none⟩ = some (.slice (some ⟨gv, 0, none⟩) n c) ∧ w'.cell? ⟨gc, 1, none⟩ = some (.int .i64 (i : Int))) (first | exact ⟨c0, c1⟩ | (simp [World.cell?_setCell_far, w0c, w1c, hne2]; done)) (fail)
  have hM3 := HM2.out
  simp only [World.setCell_drew, LC, List.set_cons_zero] at hM3
  clear hM
  have hM := hM3
  clear hM3
  go_wp2_with (first
    | go_skip
    | (refine wpList_put_fn (gd_none rfl) 4 _ _ rfl 1 gc 55 39 _ hM rfl 36 rfl (.bool true) rfl Try.info4 (by omega) rfl ?_; clear hM; intro wp hwp hM; dsimp only [List.set_cons_zero, List.set_cons_succ] at hM; rw [cellC_stays] at hM))

  go_end0
  exact ⟨rfl, by rw [hR.out, hL.out]; exact hM⟩

set_option maxRecDepth 100000 in
set_option maxHeartbeats 2000000 in
theorem state_none (gc gv n c i : Nat) (L : Nat → V) (r : CR) (w : World) (hM0 : Mem (SC gc gv) w w (LC gc gv n L r)) (hv : r.vs = .slice (some ⟨gv, 0, none⟩) n c) (hi : r.i = (i : Int)) (_hin : i < n) (_hn : n ≤ 382438827053) (hx : ∀ j, r.x j < 18446744073709551616) (h0 : r.x 16 ≠ 0) (h1 : r.x 16 ≠ 1) (h2 : r.x 16 ≠ 2) :
    Calls Try.prog 45 #[.pointer (some ⟨gc, 0, none⟩)] w (Fin0 (SC gc gv) w (LC gc gv n (stateL r i n L) (stateR r n L))) := by
  have hM := hM0
  obtain ⟨fn, hfn⟩ : ∃ f, r.x 16 = f := ⟨_, rfl⟩
  obtain ⟨a, ha⟩ : ∃ f, r.x 10 = f := ⟨_, rfl⟩
  obtain ⟨b, hb⟩ : ∃ f, r.x 11 = f := ⟨_, rfl⟩
  obtain ⟨d, hd⟩ : ∃ f, r.x 12 = f := ⟨_, rfl⟩
  have la : a < 18446744073709551616 := by rw [← ha]; exact hx 10
  have lb : b < 18446744073709551616 := by rw [← hb]; exact hx 11
  have ld : d < 18446744073709551616 := by rw [← hd]; exact hx 12
  have HF := Lib.hid hfn
  have HA := Lib.hid ha
  have HB := Lib.hid hb
  have HD := Lib.hid hd
  have HV := Lib.hid hv
  have HI := Lib.hid hi
  have hR : Hid (stateR r n L = r.noFn) := by show stateR r n L = _; unfold stateR; rw [if_neg h1, if_pos ⟨h0, h2⟩]
  have hL : Hid (stateL r i n L = L) := by show stateL r i n L = _; unfold stateL; rw [if_neg h1, if_neg (fun h => h0 h.1)]
  rw [hfn] at h0 h1 h2
  have b1 : ((fn : Int) == 1) = false := by simp; omega
  have b0 : ((fn : Int) != 0) = true := by simp; omega
  have b2 : ((fn : Int) != 2) = true := by simp; omega
  clear hM0 hv hi hx ha hb hd h1 h0 h2 hfn
  go_enter Try.func45, Try.ntmps45
  go_wp2_with (first
    | go_skip
    | (refine wpList_cell_fn (gd_none rfl) 22 _ rfl 1 gc 55 39 _ hM rfl 18 rfl _ Try.underlying22 rfl (by omega) (.int .u64 (fn : Nat)) (congrArg (fun n : Nat => Value.int .u64 (n : Int)) HF.out) ?_)
    | (refine wpList_cell_fn (gd_want rfl) 22 _ rfl 1 gc 55 39 _ hM rfl 18 rfl _ Try.underlying22 rfl (by omega) (.int .u64 (fn : Nat)) (congrArg (fun n : Nat => Value.int .u64 (n : Int)) HF.out) ?_)
    | (refine wpList_put_fn (gd_none rfl) 22 _ _ rfl 1 gc 55 39 _ hM rfl 34 rfl (.int .u64 (18446744073709551614 : Nat)) rfl Try.info22 (by omega) rfl ?_; clear hM; intro wp hwp hM; dsimp only [List.set_cons_zero, List.set_cons_succ] at hM; rw [cellC_err] at hM))

  go_end0
  exact ⟨rfl, by rw [hR.out, hL.out]; exact hM⟩

set_option maxRecDepth 100000 in
set_option maxHeartbeats 2000000 in
theorem state_wrong0 (gc gv n c i : Nat) (L : Nat → V) (r : CR) (w : World) (hM0 : Mem (SC gc gv) w w (LC gc gv n L r)) (hv : r.vs = .slice (some ⟨gv, 0, none⟩) n c) (hi : r.i = (i : Int)) (_hin : i < n) (_hn : n ≤ 382438827053) (hx : ∀ j, r.x j < 18446744073709551616) (h0 : r.x 16 = 0) (h3 : n ≤ r.x 10) :
    Calls Try.prog 45 #[.pointer (some ⟨gc, 0, none⟩)] w (Fin0 (SC gc gv) w (LC gc gv n (stateL r i n L) (stateR r n L))) := by
  have hM := hM0
  obtain ⟨fn, hfn⟩ : ∃ f, r.x 16 = f := ⟨_, rfl⟩
  obtain ⟨a, ha⟩ : ∃ f, r.x 10 = f := ⟨_, rfl⟩
  obtain ⟨b, hb⟩ : ∃ f, r.x 11 = f := ⟨_, rfl⟩
  obtain ⟨d, hd⟩ : ∃ f, r.x 12 = f := ⟨_, rfl⟩
  have la : a < 18446744073709551616 := by rw [← ha]; exact hx 10
  have lb : b < 18446744073709551616 := by rw [← hb]; exact hx 11
  have ld : d < 18446744073709551616 := by rw [← hd]; exact hx 12
  have HF := Lib.hid hfn
  have HA := Lib.hid ha
  have HB := Lib.hid hb
  have HD := Lib.hid hd
  have HV := Lib.hid hv
  have HI := Lib.hid hi
  have hR : Hid (stateR r n L = { r with err := 18446744073709551613 }) := by show stateR r n L = _; unfold stateR; rw [if_neg (by omega), if_neg (by omega), if_pos h3]
  have hL : Hid (stateL r i n L = L) := by show stateL r i n L = _; unfold stateL; rw [if_neg (by omega), if_neg (by omega)]
  rw [ha] at h3
  rw [h0] at hfn
  subst hfn
  have en : IntKind.u64.wrap (n : Int) = n := by rw [IntKind.wrap_u64]; omega
  clear hM0 hv hi hx ha hb hd h0
  go_enter Try.func45, Try.ntmps45
  go_upto_region 5 with (first | go_skip | (refine wpList_cell_fn (gd_none rfl) 22 _ rfl 1 gc 55 39 _ hM rfl 18 rfl _ Try.underlying22 rfl (by omega) (.int .u64 (0 : Nat)) (congrArg (fun n : Nat => Value.int .u64 (n : Int)) HF.out) ?_) | (refine wpList_cell_fn (gd_want rfl) 22 _ rfl 1 gc 55 39 _ hM rfl 18 rfl _ Try.underlying22 rfl (by omega) (.int .u64 (0 : Nat)) (congrArg (fun n : Nat => Value.int .u64 (n : Int)) HF.out) ?_))
  try dsimp only [Act.put]
  refine wp_region_quiet (C := fun w' => Mem (SC gc gv) w w' (LC gc gv n L r)) (by kernel_rfl) (by kernel_rfl) (hM).drew ?_
  dsimp only
  repeat (first
    | (refine wpQuiet_cell_fn (gd_want rfl) 22 _ rfl 1 gc 55 39 _ rfl 12 rfl _ Try.underlying22 rfl (by omega) (.int .u64 (a : Nat)) (congrArg (fun n : Nat => Value.int .u64 (n : Int)) HA.out) ?_; simp only [Act.put, List.setIfInBounds_toArray, List.set_cons_zero, List.set_cons_succ])
    | (refine wpQuiet_cell_fn (gd_want rfl) 24 _ rfl 1 gc 55 39 _ rfl 0 rfl _ Try.underlying24 rfl (by omega) (.slice (some ⟨gv, 0, none⟩) n c) (HV.out) ?_; simp only [Act.put, List.setIfInBounds_toArray, List.set_cons_zero, List.set_cons_succ])
    | (refine wpQuiet_pure (v := ?_) (gd_want rfl) ?_ ?_; rotate_left; (focus (intro w'; go_simp; try with_reducible rfl)); simp only [Act.put, List.setIfInBounds_toArray, List.set_cons_zero, List.set_cons_succ]))
  refine wpQuiet_nil ?_
  intro wq hMq
  clear hM
  have hM := hMq
  clear hMq
  go_wp2_with (first
    | go_skip
    | (refine wpList_put_fn (gd_none rfl) 22 _ _ rfl 1 gc 55 39 _ hM rfl 34 rfl (.int .u64 (18446744073709551613 : Nat)) rfl Try.info22 (by omega) rfl ?_; clear hM; intro wp hwp hM; dsimp only [List.set_cons_zero, List.set_cons_succ] at hM; rw [cellC_err] at hM))

  go_end0
  exact ⟨rfl, by rw [hR.out, hL.out]; exact hM⟩

set_option maxRecDepth 100000 in
set_option maxHeartbeats 2000000 in
theorem state_no0 (gc gv n c i : Nat) (L : Nat → V) (r : CR) (w : World) (hM0 : Mem (SC gc gv) w w (LC gc gv n L r)) (hv : r.vs = .slice (some ⟨gv, 0, none⟩) n c) (hi : r.i = (i : Int)) (_hin : i < n) (_hn : n ≤ 382438827053) (hx : ∀ j, r.x j < 18446744073709551616) (h0 : r.x 16 = 0) (h3 : r.x 10 < n) (hst : (L (r.x 10)).i ≠ 0) :
    Calls Try.prog 45 #[.pointer (some ⟨gc, 0, none⟩)] w (Fin0 (SC gc gv) w (LC gc gv n (stateL r i n L) (stateR r n L))) := by
  have hM := hM0
  obtain ⟨fn, hfn⟩ : ∃ f, r.x 16 = f := ⟨_, rfl⟩
  obtain ⟨a, ha⟩ : ∃ f, r.x 10 = f := ⟨_, rfl⟩
  obtain ⟨b, hb⟩ : ∃ f, r.x 11 = f := ⟨_, rfl⟩
  obtain ⟨d, hd⟩ : ∃ f, r.x 12 = f := ⟨_, rfl⟩
  have la : a < 18446744073709551616 := by rw [← ha]; exact hx 10
  have lb : b < 18446744073709551616 := by rw [← hb]; exact hx 11
  have ld : d < 18446744073709551616 := by rw [← hd]; exact hx 12
  have HF := Lib.hid hfn
  have HA := Lib.hid ha
  have HB := Lib.hid hb
  have HD := Lib.hid hd
  have HV := Lib.hid hv
  have HI := Lib.hid hi
  have hR : Hid (stateR r n L = { r with err := 18446744073709551610 }) := by show stateR r n L = _; unfold stateR; rw [if_neg (by omega), if_neg (by omega), if_neg (by omega), if_neg (by omega), if_neg hst]
  have hL : Hid (stateL r i n L = L) := by show stateL r i n L = _; unfold stateL; rw [if_neg (by omega), if_neg (fun h => hst h.2.2)]
  obtain ⟨si, hsi⟩ : ∃ s, (L a).i = s := ⟨_, rfl⟩
  rw [ha, hsi] at hst
  rw [ha] at h3
  rw [h0] at hfn
  subst hfn
  have bst : (si == 0) = false := by simpa using hst
  have HS := Lib.hid (congrArg (Value.int .i64) hsi)
  have en : IntKind.u64.wrap (n : Int) = n := by rw [IntKind.wrap_u64]; omega
  have h3' : decide (n ≤ a) = false := by simp; omega
  clear hM0 hv hi hx ha hb hd h0 hsi hst
  go_enter Try.func45, Try.ntmps45
  go_upto_region 5 with (first | go_skip | (refine wpList_cell_fn (gd_none rfl) 22 _ rfl 1 gc 55 39 _ hM rfl 18 rfl _ Try.underlying22 rfl (by omega) (.int .u64 (0 : Nat)) (congrArg (fun n : Nat => Value.int .u64 (n : Int)) HF.out) ?_) | (refine wpList_cell_fn (gd_want rfl) 22 _ rfl 1 gc 55 39 _ hM rfl 18 rfl _ Try.underlying22 rfl (by omega) (.int .u64 (0 : Nat)) (congrArg (fun n : Nat => Value.int .u64 (n : Int)) HF.out) ?_))
  try dsimp only [Act.put]
  refine wp_region_quiet (C := fun w' => Mem (SC gc gv) w w' (LC gc gv n L r)) (by kernel_rfl) (by kernel_rfl) (hM).drew ?_
  dsimp only
  repeat (first
    | (refine wpQuiet_cell_fn (gd_want rfl) 22 _ rfl 1 gc 55 39 _ rfl 12 rfl _ Try.underlying22 rfl (by omega) (.int .u64 (a : Nat)) (congrArg (fun n : Nat => Value.int .u64 (n : Int)) HA.out) ?_; simp only [Act.put, List.setIfInBounds_toArray, List.set_cons_zero, List.set_cons_succ])
    | (refine wpQuiet_cell_fn (gd_want rfl) 24 _ rfl 1 gc 55 39 _ rfl 0 rfl _ Try.underlying24 rfl (by omega) (.slice (some ⟨gv, 0, none⟩) n c) (HV.out) ?_; simp only [Act.put, List.setIfInBounds_toArray, List.set_cons_zero, List.set_cons_succ])
    | (refine wpQuiet_pure (v := ?_) (gd_want rfl) ?_ ?_; rotate_left; (focus (intro w'; go_simp; try with_reducible rfl)); simp only [Act.put, List.setIfInBounds_toArray, List.set_cons_zero, List.set_cons_succ]))
  refine wpQuiet_nil ?_
  intro wq hMq
  clear hM
  have hM := hMq
  clear hMq
  go_upto_region 7 with fail
  try dsimp only [Act.put]
  refine wp_region_quiet (C := fun w' => Mem (SC gc gv) w w' (LC gc gv n L r)) (by kernel_rfl) (by kernel_rfl) (hM).drew ?_
  dsimp only
  repeat (first
    | (refine wpQuiet_cell_fn (gd_want rfl) 22 _ rfl 1 gc 55 39 _ rfl 12 rfl _ Try.underlying22 rfl (by omega) (.int .u64 (a : Nat)) (congrArg (fun n : Nat => Value.int .u64 (n : Int)) HA.out) ?_; simp only [Act.put, List.setIfInBounds_toArray, List.set_cons_zero, List.set_cons_succ])
    | (refine wpQuiet_cell_fn (gd_want rfl) 24 _ rfl 1 gc 55 39 _ rfl 0 rfl _ Try.underlying24 rfl (by omega) (.slice (some ⟨gv, 0, none⟩) n c) (HV.out) ?_; simp only [Act.put, List.setIfInBounds_toArray, List.set_cons_zero, List.set_cons_succ])
    | (refine wpQuiet_pure (v := ?_) (gd_want rfl) ?_ ?_; rotate_left; (focus (intro w'; go_simp; try with_reducible rfl)); simp only [Act.put, List.setIfInBounds_toArray, List.set_cons_zero, List.set_cons_succ]))
  refine wpQuiet_nil ?_
  intro wq hMq
  clear hM
  have hM := hMq
  clear hMq
  go_wp2_with (first
    | go_skip
    | (refine wpList_cell_vs (gd_none rfl) 3 _ rfl 0 gv n _ hM rfl a 49 _ rfl (by first | rfl | omega) h3 (by omega) _ Try.underlying3 rfl (.int .i64 si) (HS.out) ?_)
    | (refine wpList_cell_fn (gd_none rfl) 22 _ rfl 1 gc 55 39 _ hM rfl 18 rfl _ Try.underlying22 rfl (by omega) (.int .u64 (0 : Nat)) (congrArg (fun n : Nat => Value.int .u64 (n : Int)) HF.out) ?_)
    | (refine wpList_put_fn (gd_none rfl) 22 _ _ rfl 1 gc 55 39 _ hM rfl 35 rfl (.int .u64 (1 : Nat)) rfl Try.info22 (by omega) rfl ?_; clear hM; intro wp hwp hM; dsimp only [List.set_cons_zero, List.set_cons_succ] at hM; rw [cellC_val] at hM)
    | (refine wpList_put_fn (gd_none rfl) 22 _ _ rfl 1 gc 55 39 _ hM rfl 34 rfl (.int .u64 (18446744073709551610 : Nat)) rfl Try.info22 (by omega) rfl ?_; clear hM; intro wp hwp hM; dsimp only [List.set_cons_zero, List.set_cons_succ] at hM; rw [cellC_err] at hM))
  go_end0
  exact ⟨rfl, by rw [hR.out, hL.out]; exact hM⟩

set_option maxRecDepth 100000 in
set_option maxHeartbeats 2000000 in
theorem state_wrong2 (gc gv n c i : Nat) (L : Nat → V) (r : CR) (w : World) (hM0 : Mem (SC gc gv) w w (LC gc gv n L r)) (hv : r.vs = .slice (some ⟨gv, 0, none⟩) n c) (hi : r.i = (i : Int)) (_hin : i < n) (_hn : n ≤ 382438827053) (hx : ∀ j, r.x j < 18446744073709551616) (h0 : r.x 16 = 2) (h3 : n ≤ r.x 10) :
    Calls Try.prog 45 #[.pointer (some ⟨gc, 0, none⟩)] w (Fin0 (SC gc gv) w (LC gc gv n (stateL r i n L) (stateR r n L))) := by
  have hM := hM0
  obtain ⟨fn, hfn⟩ : ∃ f, r.x 16 = f := ⟨_, rfl⟩
  obtain ⟨a, ha⟩ : ∃ f, r.x 10 = f := ⟨_, rfl⟩
  obtain ⟨b, hb⟩ : ∃ f, r.x 11 = f := ⟨_, rfl⟩
  obtain ⟨d, hd⟩ : ∃ f, r.x 12 = f := ⟨_, rfl⟩
  have la : a < 18446744073709551616 := by rw [← ha]; exact hx 10
  have lb : b < 18446744073709551616 := by rw [← hb]; exact hx 11
  have ld : d < 18446744073709551616 := by rw [← hd]; exact hx 12
  have HF := Lib.hid hfn
  have HA := Lib.hid ha
  have HB := Lib.hid hb
  have HD := Lib.hid hd
  have HV := Lib.hid hv
  have HI := Lib.hid hi
  have hR : Hid (stateR r n L = { r with err := 18446744073709551613 }) := by show stateR r n L = _; unfold stateR; rw [if_neg (by omega), if_neg (by omega), if_pos h3]
  have hL : Hid (stateL r i n L = L) := by show stateL r i n L = _; unfold stateL; rw [if_neg (by omega), if_neg (by omega)]
  rw [ha] at h3
  rw [h0] at hfn
  subst hfn
  have en : IntKind.u64.wrap (n : Int) = n := by rw [IntKind.wrap_u64]; omega
  clear hM0 hv hi hx ha hb hd h0
  go_enter Try.func45, Try.ntmps45
  go_upto_region 5 with (first | go_skip | (refine wpList_cell_fn (gd_none rfl) 22 _ rfl 1 gc 55 39 _ hM rfl 18 rfl _ Try.underlying22 rfl (by omega) (.int .u64 (2 : Nat)) (congrArg (fun n : Nat => Value.int .u64 (n : Int)) HF.out) ?_) | (refine wpList_cell_fn (gd_want rfl) 22 _ rfl 1 gc 55 39 _ hM rfl 18 rfl _ Try.underlying22 rfl (by omega) (.int .u64 (2 : Nat)) (congrArg (fun n : Nat => Value.int .u64 (n : Int)) HF.out) ?_))
  try dsimp only [Act.put]
  refine wp_region_quiet (C := fun w' => Mem (SC gc gv) w w' (LC gc gv n L r)) (by kernel_rfl) (by kernel_rfl) (hM).drew ?_
  dsimp only
  repeat (first
    | (refine wpQuiet_cell_fn (gd_want rfl) 22 _ rfl 1 gc 55 39 _ rfl 12 rfl _ Try.underlying22 rfl (by omega) (.int .u64 (a : Nat)) (congrArg (fun n : Nat => Value.int .u64 (n : Int)) HA.out) ?_; simp only [Act.put, List.setIfInBounds_toArray, List.set_cons_zero, List.set_cons_succ])
    | (refine wpQuiet_cell_fn (gd_want rfl) 24 _ rfl 1 gc 55 39 _ rfl 0 rfl _ Try.underlying24 rfl (by omega) (.slice (some ⟨gv, 0, none⟩) n c) (HV.out) ?_; simp only [Act.put, List.setIfInBounds_toArray, List.set_cons_zero, List.set_cons_succ])
    | (refine wpQuiet_pure (v := ?_) (gd_want rfl) ?_ ?_; rotate_left; (focus (intro w'; go_simp; try with_reducible rfl)); simp only [Act.put, List.setIfInBounds_toArray, List.set_cons_zero, List.set_cons_succ]))
  refine wpQuiet_nil ?_
  intro wq hMq
  clear hM
  have hM := hMq
  clear hMq
  go_wp2_with (first
    | go_skip
    | (refine wpList_put_fn (gd_none rfl) 22 _ _ rfl 1 gc 55 39 _ hM rfl 34 rfl (.int .u64 (18446744073709551613 : Nat)) rfl Try.info22 (by omega) rfl ?_; clear hM; intro wp hwp hM; dsimp only [List.set_cons_zero, List.set_cons_succ] at hM; rw [cellC_err] at hM))

  go_end0
  exact ⟨rfl, by rw [hR.out, hL.out]; exact hM⟩

set_option maxRecDepth 100000 in
set_option maxHeartbeats 2000000 in
theorem state_yes2 (gc gv n c i : Nat) (L : Nat → V) (r : CR) (w : World) (hM0 : Mem (SC gc gv) w w (LC gc gv n L r)) (hv : r.vs = .slice (some ⟨gv, 0, none⟩) n c) (hi : r.i = (i : Int)) (_hin : i < n) (_hn : n ≤ 382438827053) (hx : ∀ j, r.x j < 18446744073709551616) (h0 : r.x 16 = 2) (h3 : r.x 10 < n) (hst : (L (r.x 10)).i = 0) :
    Calls Try.prog 45 #[.pointer (some ⟨gc, 0, none⟩)] w (Fin0 (SC gc gv) w (LC gc gv n (stateL r i n L) (stateR r n L))) := by
  have hM := hM0
  obtain ⟨fn, hfn⟩ : ∃ f, r.x 16 = f := ⟨_, rfl⟩
  obtain ⟨a, ha⟩ : ∃ f, r.x 10 = f := ⟨_, rfl⟩
  obtain ⟨b, hb⟩ : ∃ f, r.x 11 = f := ⟨_, rfl⟩
  obtain ⟨d, hd⟩ : ∃ f, r.x 12 = f := ⟨_, rfl⟩
  have la : a < 18446744073709551616 := by rw [← ha]; exact hx 10
  have lb : b < 18446744073709551616 := by rw [← hb]; exact hx 11
  have ld : d < 18446744073709551616 := by rw [← hd]; exact hx 12
  have HF := Lib.hid hfn
  have HA := Lib.hid ha
  have HB := Lib.hid hb
  have HD := Lib.hid hd
  have HV := Lib.hid hv
  have HI := Lib.hid hi
  have hR : Hid (stateR r n L = { r with val := 1 }) := by show stateR r n L = _; unfold stateR; rw [if_neg (by omega), if_neg (by omega), if_neg (by omega), if_pos h0, if_pos hst]
  have hL : Hid (stateL r i n L = L) := by show stateL r i n L = _; unfold stateL; rw [if_neg (by omega), if_neg (by omega)]
  obtain ⟨si, hsi⟩ : ∃ s, (L a).i = s := ⟨_, rfl⟩
  rw [ha, hsi] at hst
  rw [ha] at h3
  rw [h0] at hfn
  subst hfn
  subst hst
  have HS := Lib.hid (congrArg (Value.int .i64) hsi)
  have en : IntKind.u64.wrap (n : Int) = n := by rw [IntKind.wrap_u64]; omega
  have h3' : decide (n ≤ a) = false := by simp; omega
  clear hM0 hv hi hx ha hb hd h0 hsi
  go_enter Try.func45, Try.ntmps45
  go_upto_region 5 with (first | go_skip | (refine wpList_cell_fn (gd_none rfl) 22 _ rfl 1 gc 55 39 _ hM rfl 18 rfl _ Try.underlying22 rfl (by omega) (.int .u64 (2 : Nat)) (congrArg (fun n : Nat => Value.int .u64 (n : Int)) HF.out) ?_) | (refine wpList_cell_fn (gd_want rfl) 22 _ rfl 1 gc 55 39 _ hM rfl 18 rfl _ Try.underlying22 rfl (by omega) (.int .u64 (2 : Nat)) (congrArg (fun n : Nat => Value.int .u64 (n : Int)) HF.out) ?_))
  try dsimp only [Act.put]
  refine wp_region_quiet (C := fun w' => Mem (SC gc gv) w w' (LC gc gv n L r)) (by kernel_rfl) (by kernel_rfl) (hM).drew ?_
  dsimp only
  repeat (first
    | (refine wpQuiet_cell_fn (gd_want rfl) 22 _ rfl 1 gc 55 39 _ rfl 12 rfl _ Try.underlying22 rfl (by omega) (.int .u64 (a : Nat)) (congrArg (fun n : Nat => Value.int .u64 (n : Int)) HA.out) ?_; simp only [Act.put, List.setIfInBounds_toArray, List.set_cons_zero, List.set_cons_succ])
    | (refine wpQuiet_cell_fn (gd_want rfl) 24 _ rfl 1 gc 55 39 _ rfl 0 rfl _ Try.underlying24 rfl (by omega) (.slice (some ⟨gv, 0, none⟩) n c) (HV.out) ?_; simp only [Act.put, List.setIfInBounds_toArray, List.set_cons_zero, List.set_cons_succ])
    | (refine wpQuiet_pure (v := ?_) (gd_want rfl) ?_ ?_; rotate_left; (focus (intro w'; go_simp; try with_reducible rfl)); simp only [Act.put, List.setIfInBounds_toArray, List.set_cons_zero, List.set_cons_succ]))
  refine wpQuiet_nil ?_
  intro wq hMq
  clear hM
  have hM := hMq
  clear hMq
  go_upto_region 7 with fail
  try dsimp only [Act.put]
  refine wp_region_quiet (C := fun w' => Mem (SC gc gv) w w' (LC gc gv n L r)) (by kernel_rfl) (by kernel_rfl) (hM).drew ?_
  dsimp only
  repeat (first
    | (refine wpQuiet_cell_fn (gd_want rfl) 22 _ rfl 1 gc 55 39 _ rfl 12 rfl _ Try.underlying22 rfl (by omega) (.int .u64 (a : Nat)) (congrArg (fun n : Nat => Value.int .u64 (n : Int)) HA.out) ?_; simp only [Act.put, List.setIfInBounds_toArray, List.set_cons_zero, List.set_cons_succ])
    | (refine wpQuiet_cell_fn (gd_want rfl) 24 _ rfl 1 gc 55 39 _ rfl 0 rfl _ Try.underlying24 rfl (by omega) (.slice (some ⟨gv, 0, none⟩) n c) (HV.out) ?_; simp only [Act.put, List.setIfInBounds_toArray, List.set_cons_zero, List.set_cons_succ])
    | (refine wpQuiet_pure (v := ?_) (gd_want rfl) ?_ ?_; rotate_left; (focus (intro w'; go_simp; try with_reducible rfl)); simp only [Act.put, List.setIfInBounds_toArray, List.set_cons_zero, List.set_cons_succ]))
  refine wpQuiet_nil ?_
  intro wq hMq
  clear hM
  have hM := hMq
  clear hMq
  go_wp2_with (first
    | go_skip
    | (refine wpList_cell_vs (gd_none rfl) 3 _ rfl 0 gv n _ hM rfl a 49 _ rfl (by first | rfl | omega) h3 (by omega) _ Try.underlying3 rfl (.int .i64 0) (HS.out) ?_)
    | (refine wpList_cell_fn (gd_none rfl) 22 _ rfl 1 gc 55 39 _ hM rfl 18 rfl _ Try.underlying22 rfl (by omega) (.int .u64 (2 : Nat)) (congrArg (fun n : Nat => Value.int .u64 (n : Int)) HF.out) ?_)
    | (refine wpList_put_fn (gd_none rfl) 22 _ _ rfl 1 gc 55 39 _ hM rfl 35 rfl (.int .u64 (1 : Nat)) rfl Try.info22 (by omega) rfl ?_; clear hM; intro wp hwp hM; dsimp only [List.set_cons_zero, List.set_cons_succ] at hM; rw [cellC_val] at hM)
    | (refine wpList_put_fn (gd_none rfl) 22 _ _ rfl 1 gc 55 39 _ hM rfl 34 rfl (.int .u64 (18446744073709551610 : Nat)) rfl Try.info22 (by omega) rfl ?_; clear hM; intro wp hwp hM; dsimp only [List.set_cons_zero, List.set_cons_succ] at hM; rw [cellC_err] at hM))
  go_end0
  exact ⟨rfl, by rw [hR.out, hL.out]; exact hM⟩

set_option maxRecDepth 100000 in
set_option maxHeartbeats 2000000 in
theorem state_no2 (gc gv n c i : Nat) (L : Nat → V) (r : CR) (w : World) (hM0 : Mem (SC gc gv) w w (LC gc gv n L r)) (hv : r.vs = .slice (some ⟨gv, 0, none⟩) n c) (hi : r.i = (i : Int)) (_hin : i < n) (_hn : n ≤ 382438827053) (hx : ∀ j, r.x j < 18446744073709551616) (h0 : r.x 16 = 2) (h3 : r.x 10 < n) (hst : (L (r.x 10)).i ≠ 0) :
    Calls Try.prog 45 #[.pointer (some ⟨gc, 0, none⟩)] w (Fin0 (SC gc gv) w (LC gc gv n (stateL r i n L) (stateR r n L))) := by
  have hM := hM0
  obtain ⟨fn, hfn⟩ : ∃ f, r.x 16 = f := ⟨_, rfl⟩
  obtain ⟨a, ha⟩ : ∃ f, r.x 10 = f := ⟨_, rfl⟩
  obtain ⟨b, hb⟩ : ∃ f, r.x 11 = f := ⟨_, rfl⟩
  obtain ⟨d, hd⟩ : ∃ f, r.x 12 = f := ⟨_, rfl⟩
  have la : a < 18446744073709551616 := by rw [← ha]; exact hx 10
  have lb : b < 18446744073709551616 := by rw [← hb]; exact hx 11
  have ld : d < 18446744073709551616 := by rw [← hd]; exact hx 12
  have HF := Lib.hid hfn
  have HA := Lib.hid ha
  have HB := Lib.hid hb
  have HD := Lib.hid hd
  have HV := Lib.hid hv
  have HI := Lib.hid hi
  have hR : Hid (stateR r n L = r) := by show stateR r n L = _; unfold stateR; rw [if_neg (by omega), if_neg (by omega), if_neg (by omega), if_pos h0, if_neg hst]
  have hL : Hid (stateL r i n L = L) := by show stateL r i n L = _; unfold stateL; rw [if_neg (by omega), if_neg (by omega)]
  obtain ⟨si, hsi⟩ : ∃ s, (L a).i = s := ⟨_, rfl⟩
  rw [ha, hsi] at hst
  rw [ha] at h3
  rw [h0] at hfn
  subst hfn
  have bst : (si == 0) = false := by simpa using hst
  have HS := Lib.hid (congrArg (Value.int .i64) hsi)
  have en : IntKind.u64.wrap (n : Int) = n := by rw [IntKind.wrap_u64]; omega
  have h3' : decide (n ≤ a) = false := by simp; omega
  clear hM0 hv hi hx ha hb hd h0 hsi hst
  go_enter Try.func45, Try.ntmps45
  go_upto_region 5 with (first | go_skip | (refine wpList_cell_fn (gd_none rfl) 22 _ rfl 1 gc 55 39 _ hM rfl 18 rfl _ Try.underlying22 rfl (by omega) (.int .u64 (2 : Nat)) (congrArg (fun n : Nat => Value.int .u64 (n : Int)) HF.out) ?_) | (refine wpList_cell_fn (gd_want rfl) 22 _ rfl 1 gc 55 39 _ hM rfl 18 rfl _ Try.underlying22 rfl (by omega) (.int .u64 (2 : Nat)) (congrArg (fun n : Nat => Value.int .u64 (n : Int)) HF.out) ?_))
  try dsimp only [Act.put]
  refine wp_region_quiet (C := fun w' => Mem (SC gc gv) w w' (LC gc gv n L r)) (by kernel_rfl) (by kernel_rfl) (hM).drew ?_
  dsimp only
  repeat (first
    | (refine wpQuiet_cell_fn (gd_want rfl) 22 _ rfl 1 gc 55 39 _ rfl 12 rfl _ Try.underlying22 rfl (by omega) (.int .u64 (a : Nat)) (congrArg (fun n : Nat => Value.int .u64 (n : Int)) HA.out) ?_; simp only [Act.put, List.setIfInBounds_toArray, List.set_cons_zero, List.set_cons_succ])
    | (refine wpQuiet_cell_fn (gd_want rfl) 24 _ rfl 1 gc 55 39 _ rfl 0 rfl _ Try.underlying24 rfl (by omega) (.slice (some ⟨gv, 0, none⟩) n c) (HV.out) ?_; simp only [Act.put, List.setIfInBounds_toArray, List.set_cons_zero, List.set_cons_succ])
    | (refine wpQuiet_pure (v := ?_) (gd_want rfl) ?_ ?_; rotate_left; (focus (intro w'; go_simp; try with_reducible rfl)); simp only [Act.put, List.setIfInBounds_toArray, List.set_cons_zero, List.set_cons_succ]))
  refine wpQuiet_nil ?_
  intro wq hMq
  clear hM
  have hM := hMq
  clear hMq
  go_upto_region 7 with fail
  try dsimp only [Act.put]
  refine wp_region_quiet (C := fun w' => Mem (SC gc gv) w w' (LC gc gv n L r)) (by kernel_rfl) (by kernel_rfl) (hM).drew ?_
  dsimp only
  repeat (first
    | (refine wpQuiet_cell_fn (gd_want rfl) 22 _ rfl 1 gc 55 39 _ rfl 12 rfl _ Try.underlying22 rfl (by omega) (.int .u64 (a : Nat)) (congrArg (fun n : Nat => Value.int .u64 (n : Int)) HA.out) ?_; simp only [Act.put, List.setIfInBounds_toArray, List.set_cons_zero, List.set_cons_succ])
    | (refine wpQuiet_cell_fn (gd_want rfl) 24 _ rfl 1 gc 55 39 _ rfl 0 rfl _ Try.underlying24 rfl (by omega) (.slice (some ⟨gv, 0, none⟩) n c) (HV.out) ?_; simp only [Act.put, List.setIfInBounds_toArray, List.set_cons_zero, List.set_cons_succ])
    | (refine wpQuiet_pure (v := ?_) (gd_want rfl) ?_ ?_; rotate_left; (focus (intro w'; go_simp; try with_reducible rfl)); simp only [Act.put, List.setIfInBounds_toArray, List.set_cons_zero, List.set_cons_succ]))
  refine wpQuiet_nil ?_
  intro wq hMq
  clear hM
  have hM := hMq
  clear hMq
  go_wp2_with (first
    | go_skip
    | (refine wpList_cell_vs (gd_none rfl) 3 _ rfl 0 gv n _ hM rfl a 49 _ rfl (by first | rfl | omega) h3 (by omega) _ Try.underlying3 rfl (.int .i64 si) (HS.out) ?_)
    | (refine wpList_cell_fn (gd_none rfl) 22 _ rfl 1 gc 55 39 _ hM rfl 18 rfl _ Try.underlying22 rfl (by omega) (.int .u64 (2 : Nat)) (congrArg (fun n : Nat => Value.int .u64 (n : Int)) HF.out) ?_)
    | (refine wpList_put_fn (gd_none rfl) 22 _ _ rfl 1 gc 55 39 _ hM rfl 35 rfl (.int .u64 (1 : Nat)) rfl Try.info22 (by omega) rfl ?_; clear hM; intro wp hwp hM; dsimp only [List.set_cons_zero, List.set_cons_succ] at hM; rw [cellC_val] at hM)
    | (refine wpList_put_fn (gd_none rfl) 22 _ _ rfl 1 gc 55 39 _ hM rfl 34 rfl (.int .u64 (18446744073709551610 : Nat)) rfl Try.info22 (by omega) rfl ?_; clear hM; intro wp hwp hM; dsimp only [List.set_cons_zero, List.set_cons_succ] at hM; rw [cellC_err] at hM))
  go_end0
  exact ⟨rfl, by rw [hR.out, hL.out]; exact hM⟩
end Go.Proofs.Ytjiolobkobpohaa
