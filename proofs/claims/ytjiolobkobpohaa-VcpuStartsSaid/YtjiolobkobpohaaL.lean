/- A call that is being made: its struct; the map of calls. -/
import Derived.Test.YtjiolobkobpohaaK
import Derived.MapKept
import Derived.Laws.EntriesVeiled
namespace Go.Proofs.Ytjiolobkobpohaa
open Go.RowKit Go.BigFrame

/-- What a call's struct holds. -/
structure CR where
  vs : Value
  i : Int
  x : Nat → Nat
  err : Nat
  val : Nat
  stays : Bool
  out : Value
  down : Bool
def cellC (r : CR) (j : Nat) : Value :=
  if j = 0 then r.vs else if j = 1 then .int .i64 r.i else if j < 34 then .int .u64 (r.x (j - 2)) else if j = 34 then .int .u64 r.err else if j = 35 then .int .u64 r.val
  else if j = 36 then .bool r.stays else if j = 37 then r.out else .bool r.down
theorem cellC_err (r : CR) (n : Nat) : upd (cellC r) 34 (.int .u64 n) = cellC { r with err := n } := by
  funext j; unfold upd cellC
  by_cases h : j = 34
  · subst h; rfl
  · rw [if_neg h]; simp [h]
theorem cellC_val (r : CR) (n : Nat) : upd (cellC r) 35 (.int .u64 n) = cellC { r with val := n } := by
  funext j; unfold upd cellC
  by_cases h : j = 35
  · subst h; rfl
  · rw [if_neg h]; simp [h]
theorem cellC_stays (r : CR) (b : Bool) : upd (cellC r) 36 (.bool b) = cellC { r with stays := b } := by
  funext j; unfold upd cellC
  by_cases h : j = 36
  · subst h; rfl
  · rw [if_neg h]; simp [h]
theorem cellC_out (r : CR) (v : Value) : upd (cellC r) 37 v = cellC { r with out := v } := by
  funext j; unfold upd cellC
  by_cases h : j = 37
  · subst h; rfl
  · rw [if_neg h]; simp [h]
theorem cellC_down (r : CR) (b : Bool) (j : Nat) (hj : j < 39) : upd (cellC r) 38 (.bool b) j = cellC { r with down := b } j := by
  unfold upd cellC
  by_cases h : j = 38
  · subst h; rfl
  · rw [if_neg h]
    (repeat' split) <;> first | rfl | omega
theorem cellC_x (r : CR) (y : V) : splice (cellC r) 2 32 (cellAt y) = cellC { r with x := y.u } := by
  funext j; unfold splice
  by_cases h : 2 ≤ j ∧ j < 2 + 32
  · rw [if_pos h, cellAt_u y (show kd (j - 2) = .u by unfold kd; rw [if_pos (by omega)])]
    unfold cellC
    rw [if_neg (by omega), if_neg (by omega), if_pos (by omega)]
  · rw [if_neg h]
    unfold cellC
    (repeat' split) <;> first | rfl | omega
def CR.start (v : Value) (i : Int) : CR := ⟨v, i, fun _ => 0, 0, 0, false, .slice none 0 0, false⟩
theorem built55 (v : Value) (i : Int) (hv : ∃ A n c, v = .slice A n c) : Try.prog.built 55 [(0, v), (1, .int .i64 i)] = some (arr 39 (cellC (CR.start v i))) := by
  obtain ⟨A, n, c, rfl⟩ := hv
  kernel_rfl
theorem Try.info55 : (Try.prog.info? 55).map (·.size) = some 39 := by kernel_rfl
theorem Try.info24 : (Try.prog.info? 24).map (·.size) = some 1 := by kernel_rfl
theorem Try.info38 : (Try.prog.info? 38).map (·.size) = some 1 := by kernel_rfl
theorem Try.info53 : (Try.prog.info? 53).map (·.size) = some 1 := by kernel_rfl

/-! ### The map of calls -/
/-- A map of calls under way: its block, the block of what its functions captured. -/
structure CM (w0 : World) (gb r gc : Nat) (es : Array MapEntry) (clock : Nat) (w : World) : Prop where
  map : w.heap[r]? = some (.map es clock)
  box : Has w gb 53 #[.pointer (some ⟨gc, 0, none⟩)]
  fr : Fr (fun _ => False) w0 w
  lb : w0.heap.size ≤ gb
  lr : w0.heap.size ≤ r
  ne : gb ≠ r
section
variable {ops : Array Oper} {rest : List Oper} {o : Oper} {a : Act} {w w0 : World} {Q : Exit → Act → World → Prop}
theorem run_insert {r : Nat} {es : Array MapEntry} {clock : Nat} (hb : w.heap[r]? = some (.map es clock)) (n : Int) (val : Value) (hf : Instr.findNow (.int .u64) (.int .u64 n) es.toList 0 = some none) :
    (Instr.mapUpdate 57 (.map (some r)) (.int .u64 n) val).run Try.prog w = .ok () { w with heap := w.heap.setIfInBounds r (.map (es.push { key := .int .u64 n, val, born := clock }) (clock + 1)) } := by
  have hk : MapKept.IsKey (.int .u64) (.int .u64 n) := rfl
  unfold Instr.mapUpdate
  simp only [Sem.run_bind, run_underlying Try.underlying57, MapKept.run_getObj_map hb, Result.andThen_ok, MapKept.run_checkKey Try.underlying22 hk false 9999, MapKept.run_findKey Try.underlying22 hf, MapKept.run_setObj_map _ hb]
theorem wpList_insert {gb r gc : Nat} {es : Array MapEntry} {clock : Nat} (hgd : Gd ops o a) (m x v : Operand) (ho : o.op = .insert 57 m x v) (hm : a.eval m = .map (some r)) (n : Int) (hx : a.eval x = .int .u64 n) (val : Value) (hv : a.eval v = val)
    (hI : CM w0 gb r gc es clock w) (hf : Instr.findNow (.int .u64) (.int .u64 n) es.toList 0 = some none)
    (h : ∀ w', CM w0 gb r gc (es.push { key := .int .u64 n, val, born := clock }) (clock + 1) w' → wpList Try.prog ops Q rest (a.put o.dst undef) w') : wpList Try.prog ops Q (o :: rest) a w := by
  refine wpList_want hgd fun K hK => ?_
  unfold Oper.wp execOp
  simp only [ho, hm, hx, hv, Sem.run_bind, run_insert hI.map n val hf, Result.andThen_ok, Sem.run_pure]
  obtain ⟨h1, h2⟩ := MapKept.heap_set (o' := .map (es.push { key := .int .u64 n, val, born := clock }) (clock + 1)) hI.map
  refine hK _ _ (h _ ⟨h1, ?_, ⟨hI.fr.os, hI.fr.tape, hI.fr.output, by simpa using hI.fr.size, fun k hk hn => ?_⟩, hI.lb, hI.lr, hI.ne⟩)
  · exact (h2 gb hI.ne).trans hI.box
  · have := hI.lr
    exact (h2 k (by omega)).trans (hI.fr.block k hk hn)
end

/-- The functions of the calls, and what they captured. -/
def hookF (gb F : Nat) : Value := .func (.func F) #[] #[.pointer (some ⟨gb, 0, none⟩)]
def ents (gb : Nat) : Array MapEntry := #[⟨.int .u64 16, hookF gb 37, 0⟩, ⟨.int .u64 1414090053, hookF gb 39, 1⟩, ⟨.int .u64 1, hookF gb 41, 2⟩, ⟨.int .u64 7557193, hookF gb 42, 3⟩, ⟨.int .u64 4739917, hookF gb 44, 4⟩, ⟨.int .u64 1397904212, hookF gb 46, 5⟩]
def isCall (k : Nat) : Bool := k == 16 || k == 1414090053 || k == 1 || k == 7557193 || k == 4739917 || k == 1397904212
def hook (gb k : Nat) : Value := if k = 16 then hookF gb 37 else if k = 1414090053 then hookF gb 39 else if k = 1 then hookF gb 41 else if k = 7557193 then hookF gb 42 else if k = 4739917 then hookF gb 44 else if k = 1397904212 then hookF gb 46 else .nilFunc
theorem zero_elem (w : World) : (zeroValue (match Try.prog.underlying 57 with | some (.map _ e) => e | _ => 0)).run Try.prog w = .ok .nilFunc w := by kernel_rfl
theorem key57 : ∃ e, Try.prog.underlying 57 = some (.map 22 e) ∧ ∀ w, (zeroValue e).run Try.prog w = .ok .nilFunc w := by
  refine ⟨_, Try.underlying57, fun w => ?_⟩
  have := zero_elem w
  rw [Try.underlying57] at this
  exact this
theorem find_ents (gb k : Nat) : ∃ i, Instr.findNow (.int .u64) (.int .u64 k) (ents gb).toList 0 = some (if isCall k then some (i, hook gb k) else none) := by
  have e : ∀ a : Int, (((k : Int) == a)) = decide ((k : Int) = a) := fun a => rfl
  simp only [ents, Instr.findNow, Instr.sameNow, if_true, e]
  by_cases h1 : k = 16
  · subst h1; exact ⟨_, rfl⟩
  by_cases h2 : k = 1414090053
  · subst h2; exact ⟨_, rfl⟩
  by_cases h3 : k = 1
  · subst h3; exact ⟨_, rfl⟩
  by_cases h4 : k = 7557193
  · subst h4; exact ⟨_, rfl⟩
  by_cases h5 : k = 4739917
  · subst h5; exact ⟨_, rfl⟩
  by_cases h6 : k = 1397904212
  · subst h6; exact ⟨_, rfl⟩
  have f1 : decide ((k : Int) = 16) = false := by simp; omega
  have f2 : decide ((k : Int) = 1414090053) = false := by simp; omega
  have f3 : decide ((k : Int) = 1) = false := by simp; omega
  have f4 : decide ((k : Int) = 7557193) = false := by simp; omega
  have f5 : decide ((k : Int) = 4739917) = false := by simp; omega
  have f6 : decide ((k : Int) = 1397904212) = false := by simp; omega
  refine ⟨0, ?_⟩
  rw [f1, f2, f3, f4, f5, f6]
  have : isCall k = false := by simp [isCall, h1, h2, h3, h4, h5, h6]
  rw [this]
  rfl
theorem run_lookup_calls {w : World} {r gb : Nat} (hb : w.heap[r]? = some (.map (ents gb) 6)) (k : Nat) :
    (Instr.lookup 57 (.map (some r)) (.int .u64 k) true).run Try.prog w = .ok (.tuple #[hook gb k, .bool (isCall k)]) w := by
  obtain ⟨e, he, hz⟩ := key57
  obtain ⟨i, hf⟩ := find_ents gb k
  have hk : MapKept.IsKey (.int .u64) (.int .u64 (k : Int)) := rfl
  unfold Instr.lookup
  simp only [Sem.run_bind, run_underlying he, MapKept.run_getObj_map hb, Result.andThen_ok, Sem.run_pure, MapKept.run_checkKey Try.underlying22 hk _ 9999, MapKept.run_findKey Try.underlying22 hf]
  cases hc : isCall k with
  | true => simp
  | false =>
    have : hook gb k = .nilFunc := by
      simp [isCall] at hc
      unfold hook
      simp [hc]
    simp [hz, this]

set_option maxRecDepth 100000 in
theorem calls_any (gc : Nat) (w : World) :
    Calls Try.prog 33 #[.pointer (some ⟨gc, 0, none⟩)] w fun e w' => ∃ gb r, e = .returned (.map (some r)) ∧ CM w gb r gc (ents gb) 6 w' := by
  have hmm := @run_makeMap Try.prog
  have hI : CM w w.heap.size (w.heap.size + 1) gc #[] 0 ((w.alloc (.cells #[.pointer (some ⟨gc, 0, none⟩)] 53)).alloc (.map #[] 0)) := by
    refine ⟨heap_alloc2_new w _ _, heap_alloc2_old w _ _, ((Fr.refl _ _).alloc _).alloc _, Nat.le_refl _, by omega, by omega⟩
  go_enter Try.func33, Try.ntmps33
  go_wp2_with (first
    | (refine wpList_insert (gd_none rfl) _ _ _ rfl rfl 16 rfl _ rfl hI rfl ?_; clear hI; intro w' hI)
    | (refine wpList_insert (gd_none rfl) _ _ _ rfl rfl 1414090053 rfl _ rfl hI rfl ?_; clear hI; intro w' hI)
    | (refine wpList_insert (gd_none rfl) _ _ _ rfl rfl 1 rfl _ rfl hI rfl ?_; clear hI; intro w' hI)
    | (refine wpList_insert (gd_none rfl) _ _ _ rfl rfl 7557193 rfl _ rfl hI rfl ?_; clear hI; intro w' hI)
    | (refine wpList_insert (gd_none rfl) _ _ _ rfl rfl 4739917 rfl _ rfl hI rfl ?_; clear hI; intro w' hI)
    | (refine wpList_insert (gd_none rfl) _ _ _ rfl rfl 1397904212 rfl _ rfl hI rfl ?_; clear hI; intro w' hI))
  go_ret
  exact ⟨_, _, rfl, hI⟩
end Go.Proofs.Ytjiolobkobpohaa
