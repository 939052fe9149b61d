/- Two virtual harts by ==: the same at each place. -/
import Derived.Test.YtjiolobkobpohaaD
import Derived.Laws.StructEq
import Derived.ChangeKeysEq
namespace Go.Proofs.Ytjiolobkobpohaa
open Go.RowKit

section
variable {P : Program} (w : World)
theorem part_leaf (e : TypeId) (d : TypeDesc) (hu : P.underlying e = some d) (hd : d.isRow = false) (n : Nat) (f : Nat → Value) (o : Nat) (ho : o < n) :
    (part e (arr n f) o).run P w = .ok (f o) w := by
  have hagg : (isAgg e).run P w = .ok false w := by
    unfold isAgg
    rw [Sem.run_bind, run_underlying hu w]
    cases d <;> simp_all
  simp [part, Sem.run_bind, hagg, arr_get _ _ _ ho]
theorem arr_extract (n a m : Nat) (f : Nat → Value) (h : a + m ≤ n) : (arr n f).extract a (a + m) = arr m (fun j => f (a + j)) := by
  apply Array.ext_getElem?
  intro j
  rw [Array.getElem?_extract]
  by_cases hj : j < m
  · rw [if_pos (by simp; omega), arr_get _ _ _ (by omega), arr_get _ _ _ hj]
  · rw [if_neg (by simp; omega), arr_none _ _ _ (by omega)]
theorem part_row (e : TypeId) (d : TypeDesc) (hu : P.underlying e = some d) (hd : d.isRow = true) (m : Nat) (hi : (P.info? e).map (·.size) = some m) (n : Nat) (f : Nat → Value) (o : Nat) (ho : o + m ≤ n) :
    (part e (arr n f) o).run P w = .ok (.agg (arr m (fun j => f (o + j)))) w := by
  have hagg : (isAgg e).run P w = .ok true w := by
    unfold isAgg
    rw [Sem.run_bind, run_underlying hu w]
    cases d <;> simp_all
  cases hq : P.info? e with
  | none => simp [hq] at hi
  | some i =>
    have hs : i.size = m := by simpa [hq] using hi
    simp [part, Sem.run_bind, hagg, sizeOf, typeInfo, hq, hs, arr_extract n o m f ho]
theorem eqFields_any (d : Nat) (xs ys : Array Value) (R : Field → Prop) : ∀ fs : List Field, (∀ f ∈ fs, f.name ≠ "_") →
    (∀ f ∈ fs, ∃ a b r, (part f.type xs f.offset).run P w = .ok a w ∧ (part f.type ys f.offset).run P w = .ok b w ∧ (Op.equalIn d f.type a b).run P w = .ok r w ∧ (r = true ↔ R f)) →
    ∃ r, (Op.eqFields d xs ys fs).run P w = .ok r w ∧ (r = true ↔ ∀ f ∈ fs, R f)
  | [], _, _ => ⟨true, by simp [Op.eqFields], by simp⟩
  | f :: fs, hn, h => by
    obtain ⟨a, b, r, h1, h2, h3, h4⟩ := h f (by simp)
    obtain ⟨r2, k1, k2⟩ := eqFields_any d xs ys R fs (fun f hf => hn f (by simp [hf])) (fun f hf => h f (by simp [hf]))
    have hnf := hn f (by simp)
    simp only [Op.eqFields, if_pos hnf, Sem.run_bind, h1, h2, h3, Result.andThen_ok]
    cases r
    · exact ⟨false, by simp, by simp; intro e; exact absurd (h4.2 e) (by simp)⟩
    · exact ⟨r2, by simpa using k1, by rw [k2]; simp [h4.1 rfl]⟩
theorem eqItems_any (d : Nat) (e : TypeId) (c : Nat) (xs ys : Array Value) (R : Nat → Prop) : ∀ is : List Nat,
    (∀ i ∈ is, ∃ a b r, (part e xs (i * c)).run P w = .ok a w ∧ (part e ys (i * c)).run P w = .ok b w ∧ (Op.equalIn d e a b).run P w = .ok r w ∧ (r = true ↔ R i)) →
    ∃ r, (Op.eqItems d e c xs ys is).run P w = .ok r w ∧ (r = true ↔ ∀ i ∈ is, R i)
  | [], _ => ⟨true, by simp [Op.eqItems], by simp⟩
  | i :: is, h => by
    obtain ⟨a, b, r, h1, h2, h3, h4⟩ := h i (by simp)
    obtain ⟨r2, k1, k2⟩ := eqItems_any d e c xs ys R is (fun i hi => h i (by simp [hi]))
    simp only [Op.eqItems, Sem.run_bind, h1, h2, h3, Result.andThen_ok]
    cases r
    · exact ⟨false, by simp, by simp; intro e; exact absurd (h4.2 e) (by simp)⟩
    · exact ⟨r2, by simpa using k1, by rw [k2]; simp [h4.1 rfl]⟩
end

theorem eq_u (w : World) (d : Nat) (x y : V) (j : Nat) (h : kd j = .u) : ∃ r, (Op.equalIn (d + 1) 22 (cellAt x j) (cellAt y j)).run Try.prog w = .ok r w ∧ (r = true ↔ cellAt x j = cellAt y j) := by
  rw [cellAt_u x h, cellAt_u y h]
  exact ⟨_, run_equalIn_int w d 22 .u64 .u64 _ _ Try.underlying22, by simp⟩
theorem eq_b (w : World) (d : Nat) (x y : V) (j : Nat) (h : kd j = .b) : ∃ r, (Op.equalIn (d + 1) 4 (cellAt x j) (cellAt y j)).run Try.prog w = .ok r w ∧ (r = true ↔ cellAt x j = cellAt y j) := by
  rw [cellAt_b x h, cellAt_b y h]
  exact ⟨_, run_equalIn_bool' w d 4 _ _ Try.underlying4, by simp⟩
theorem eq_i (w : World) (d : Nat) (x y : V) (j : Nat) (h : kd j = .i) : ∃ r, (Op.equalIn (d + 1) 3 (cellAt x j) (cellAt y j)).run Try.prog w = .ok r w ∧ (r = true ↔ cellAt x j = cellAt y j) := by
  have e1 : cellAt x j = .int .i64 x.i := by simp [cellAt, h]
  have e2 : cellAt y j = .int .i64 y.i := by simp [cellAt, h]
  rw [e1, e2]
  exact ⟨_, run_equalIn_int w d 3 .i64 .i64 _ _ Try.underlying3, by simp⟩

theorem Try.cells22 : Try.prog.cellsOf 22 = 1 := by kernel_rfl
theorem Try.info28 : (Try.prog.info? 28).map (·.size) = some 32 := by kernel_rfl
theorem info_some {P : Program} {t : TypeId} {n : Nat} (h : (P.info? t).map (·.size) = some n) : ∃ i, P.info? t = some i := by
  cases hq : P.info? t with
  | none => simp [hq] at h
  | some i => exact ⟨i, rfl⟩

/-- The numbered registers. -/
theorem eq_x (w : World) (d : Nat) (x y : V) : ∃ r, (Op.equalIn (d + 2) 28 (.agg (arr 32 (cellAt x))) (.agg (arr 32 (cellAt y)))).run Try.prog w = .ok r w ∧ (r = true ↔ ∀ i, i < 32 → cellAt x i = cellAt y i) := by
  obtain ⟨i, hi⟩ := info_some Try.info22
  rw [run_equalIn_array w (d + 1) _ _ Try.underlying28 hi, Try.cells22]
  obtain ⟨r, h1, h2⟩ := eqItems_any (P := Try.prog) w (d + 1) 22 1 (arr 32 (cellAt x)) (arr 32 (cellAt y)) (fun i => cellAt x i = cellAt y i) (List.range 32) (fun i hi => by
    have hi' : i < 32 := by simpa using hi
    have hk : kd i = .u := by unfold kd; rw [if_pos (by omega)]
    obtain ⟨r, h1, h2⟩ := eq_u w d x y i hk
    refine ⟨_, _, r, ?_, ?_, h1, h2⟩
    · rw [part_leaf w 22 _ Try.underlying22 rfl 32 _ (i * 1) (by omega), Nat.mul_one]
    · rw [part_leaf w 22 _ Try.underlying22 rfl 32 _ (i * 1) (by omega), Nat.mul_one])
  exact ⟨r, h1, by rw [h2]; simp⟩

def kdB (j : Nat) : Nat := match kd j with | .u => 0 | .b => 1 | .i => 2
theorem kdB_u {j : Nat} (h : kdB j = 0) : kd j = .u := by unfold kdB at h; split at h <;> first | assumption | cases h
theorem kdB_b {j : Nat} (h : kdB j = 1) : kd j = .b := by unfold kdB at h; split at h <;> first | assumption | cases h
theorem kdB_i {j : Nat} (h : kdB j = 2) : kd j = .i := by unfold kdB at h; split at h <;> first | assumption | cases h
def fok30 (f : Field) : Bool := f.name != "_" && ((f.type == 28 && f.offset == 0) || (f.type == 22 && kdB f.offset == 0 && decide (f.offset < 49)) || (f.type == 4 && kdB f.offset == 1 && decide (f.offset < 49)))
def fin30 (f : Field) (j : Nat) : Bool := (f.type == 28 && decide (j < 32)) || (f.type != 28 && f.offset == j)
theorem fields30 : (Try.prog.fieldsOf 30).toList.all fok30 = true := by kernel_rfl
theorem cover30 : ((List.range 49).all fun j => (Try.prog.fieldsOf 30).toList.any fun f => fin30 f j) = true := by kernel_rfl
theorem held30 : Try.prog.stoodInHeld 30 = false := by kernel_rfl
theorem struct30 : Try.prog.underlying 30 = some (.struct (Try.prog.fieldsOf 30)) := by kernel_rfl

/-- A hart. -/
theorem eq_h (w : World) (d : Nat) (x y : V) : ∃ r, (Op.equalIn (d + 3) 30 (.agg (arr 49 (cellAt x))) (.agg (arr 49 (cellAt y)))).run Try.prog w = .ok r w ∧ (r = true ↔ ∀ i, i < 49 → cellAt x i = cellAt y i) := by
  rw [run_equalIn_agg w (d + 2) 30 _ _ struct30 held30]
  have hf := List.all_eq_true.1 fields30
  obtain ⟨r, h1, h2⟩ := eqFields_any (P := Try.prog) w (d + 2) (arr 49 (cellAt x)) (arr 49 (cellAt y)) (fun f => ∀ j, j < 49 → fin30 f j = true → cellAt x j = cellAt y j) (Try.prog.fieldsOf 30).toList (fun f h => by
      have := hf f h
      simp only [fok30, Bool.and_eq_true, bne_iff_ne, ne_eq] at this
      exact this.1) (fun f h => by
    have := hf f h
    simp only [fok30, Bool.and_eq_true, Bool.or_eq_true, beq_iff_eq, decide_eq_true_eq] at this
    rcases this.2 with (⟨ht, ho⟩ | ⟨⟨ht, ho⟩, hl⟩) | ⟨⟨ht, ho⟩, hl⟩
    · rw [ht, ho]
      obtain ⟨r, h1, h2⟩ := eq_x w d x y
      refine ⟨_, _, r, part_row w 28 _ Try.underlying28 rfl 32 Try.info28 49 _ 0 (by omega), part_row w 28 _ Try.underlying28 rfl 32 Try.info28 49 _ 0 (by omega), by simpa using h1, ?_⟩
      rw [h2]
      constructor
      · intro h j _ hj
        simp [fin30, ht] at hj
        exact h j hj
      · intro h j hj
        exact h j (by omega) (by simp [fin30, ht, hj])
    · rw [ht]
      obtain ⟨r, h1, h2⟩ := eq_u w (d + 1) x y f.offset (kdB_u ho)
      refine ⟨_, _, r, part_leaf w 22 _ Try.underlying22 rfl 49 _ _ hl, part_leaf w 22 _ Try.underlying22 rfl 49 _ _ hl, h1, ?_⟩
      rw [h2]
      constructor
      · intro h j _ hj
        simp [fin30, ht] at hj
        rw [← hj]; exact h
      · intro h
        exact h _ hl (by simp [fin30, ht])
    · rw [ht]
      obtain ⟨r, h1, h2⟩ := eq_b w (d + 1) x y f.offset (kdB_b ho)
      refine ⟨_, _, r, part_leaf w 4 _ Try.underlying4 rfl 49 _ _ hl, part_leaf w 4 _ Try.underlying4 rfl 49 _ _ hl, h1, ?_⟩
      rw [h2]
      constructor
      · intro h j _ hj
        simp [fin30, ht] at hj
        rw [← hj]; exact h
      · intro h
        exact h _ hl (by simp [fin30, ht]))
  refine ⟨r, h1, ?_⟩
  rw [h2]
  constructor
  · intro h i hi
    have := List.all_eq_true.1 cover30 i (by simpa using hi)
    obtain ⟨f, hf1, hf2⟩ := List.any_eq_true.1 this
    exact h f hf1 i hi hf2
  · intro h f _ j hj _
    exact h j hj

def fok32 (f : Field) : Bool := f.name != "_" && ((f.type == 30 && f.offset == 0) || (f.type == 3 && f.offset == 49) || (f.type == 4 && f.offset == 50) || (f.type == 22 && f.offset == 51))
def fin32 (f : Field) (j : Nat) : Bool := (f.type == 30 && decide (j < 49)) || (f.type != 30 && f.offset == j)
theorem fields32 : (Try.prog.fieldsOf 32).toList.all fok32 = true := by kernel_rfl
theorem cover32 : ((List.range 52).all fun j => (Try.prog.fieldsOf 32).toList.any fun f => fin32 f j) = true := by kernel_rfl
theorem held32 : Try.prog.stoodInHeld 32 = false := by kernel_rfl
theorem struct32 : Try.prog.underlying 32 = some (.struct (Try.prog.fieldsOf 32)) := by kernel_rfl
theorem guard32 : Try.prog.eqGuardType Try.prog.depth 32 = false := by kernel_rfl

/-- Are two virtual harts the same? -/
noncomputable def sameV (x y : V) : Bool := @decide (∀ i, i < 52 → cellAt x i = cellAt y i) (Classical.propDecidable _)
theorem sameV_iff (x y : V) : sameV x y = true ↔ ∀ i, i < 52 → cellAt x i = cellAt y i := by simp [sameV]
theorem eq_v (w : World) (d : Nat) (x y : V) : (Op.equalIn (d + 4) 32 (.agg (arr 52 (cellAt x))) (.agg (arr 52 (cellAt y)))).run Try.prog w = .ok (sameV x y) w := by
  rw [run_equalIn_agg w (d + 3) 32 _ _ struct32 held32]
  have hf := List.all_eq_true.1 fields32
  obtain ⟨r, h1, h2⟩ := eqFields_any (P := Try.prog) w (d + 3) (arr 52 (cellAt x)) (arr 52 (cellAt y)) (fun f => ∀ j, j < 52 → fin32 f j = true → cellAt x j = cellAt y j) (Try.prog.fieldsOf 32).toList (fun f h => by
      have := hf f h
      simp only [fok32, Bool.and_eq_true, bne_iff_ne, ne_eq] at this
      exact this.1) (fun f h => by
    have := hf f h
    simp only [fok32, Bool.and_eq_true, Bool.or_eq_true, beq_iff_eq] at this
    rcases this.2 with ((⟨ht, ho⟩ | ⟨ht, ho⟩) | ⟨ht, ho⟩) | ⟨ht, ho⟩
    · rw [ht, ho]
      obtain ⟨r, h1, h2⟩ := eq_h w d x y
      refine ⟨_, _, r, part_row w 30 _ Try.underlying30 rfl 49 Try.info30 52 _ 0 (by omega), part_row w 30 _ Try.underlying30 rfl 49 Try.info30 52 _ 0 (by omega), by simpa using h1, ?_⟩
      rw [h2]
      constructor
      · intro h j _ hj
        simp [fin32, ht] at hj
        exact h j hj
      · intro h j hj
        exact h j (by omega) (by simp [fin32, ht, hj])
    · rw [ht]
      obtain ⟨r, h1, h2⟩ := eq_i w (d + 2) x y f.offset (by rw [ho]; rfl)
      refine ⟨_, _, r, part_leaf w 3 _ Try.underlying3 rfl 52 _ _ (by omega), part_leaf w 3 _ Try.underlying3 rfl 52 _ _ (by omega), h1, ?_⟩
      rw [h2]
      constructor
      · intro h j _ hj
        simp [fin32, ht] at hj
        rw [← hj]; exact h
      · intro h
        exact h _ (by omega) (by simp [fin32, ht])
    · rw [ht]
      obtain ⟨r, h1, h2⟩ := eq_b w (d + 2) x y f.offset (by rw [ho]; rfl)
      refine ⟨_, _, r, part_leaf w 4 _ Try.underlying4 rfl 52 _ _ (by omega), part_leaf w 4 _ Try.underlying4 rfl 52 _ _ (by omega), h1, ?_⟩
      rw [h2]
      constructor
      · intro h j _ hj
        simp [fin32, ht] at hj
        rw [← hj]; exact h
      · intro h
        exact h _ (by omega) (by simp [fin32, ht])
    · rw [ht]
      obtain ⟨r, h1, h2⟩ := eq_u w (d + 2) x y f.offset (by rw [ho]; rfl)
      refine ⟨_, _, r, part_leaf w 22 _ Try.underlying22 rfl 52 _ _ (by omega), part_leaf w 22 _ Try.underlying22 rfl 52 _ _ (by omega), h1, ?_⟩
      rw [h2]
      constructor
      · intro h j _ hj
        simp [fin32, ht] at hj
        rw [← hj]; exact h
      · intro h
        exact h _ (by omega) (by simp [fin32, ht]))
  have hr : r = sameV x y := by
    rw [Bool.eq_iff_iff, h2, sameV_iff]
    constructor
    · intro h i hi
      have := List.all_eq_true.1 cover32 i (by simpa using hi)
      obtain ⟨f, hf1, hf2⟩ := List.any_eq_true.1 this
      exact h f hf1 i hi hf2
    · intro h f _ j hj _
      exact h j hj
  rw [← hr]; exact h1

theorem run_neq_v (w : World) (x y : V) : (binOp .neq 32 (.agg (arr 52 (cellAt x))) (.agg (arr 52 (cellAt y)))).run Try.prog w = .ok (.bool (!(sameV x y))) w := by
  rw [run_neq_struct, eq_v w 9996 x y]; rfl
theorem run_eql_v (w : World) (x y : V) : (binOp .eql 32 (.agg (arr 52 (cellAt x))) (.agg (arr 52 (cellAt y)))).run Try.prog w = .ok (.bool (sameV x y)) w := by
  rw [run_eql_struct, eq_v w 9996 x y]; rfl

section
variable {ops : Array Oper} {rest : List Oper} {o : Oper} {a : Act} {w : World} {Q : Exit → Act → World → Prop}
theorem wpList_neq_v (hgd : Gd ops o a) (p q : Operand) (y : TypeId) (ho : o.op = .binOp .neq 32 p q y) (x z : V) (hp : a.eval p = .agg (arr 52 (cellAt x))) (hq : a.eval q = .agg (arr 52 (cellAt z)))
    (c : Bool) (hc : (!(sameV x z)) = c) (h : wpList Try.prog ops Q rest (a.put o.dst (.bool c)) w) : wpList Try.prog ops Q (o :: rest) a w := by
  subst hc
  refine wpList_want hgd fun K hK => ?_
  unfold Oper.wp execOp
  simp only [ho, hp, hq, Sem.run_bind, run_eqGuard_agg w .neq 32 p q _ _ guard32, run_neq_v, Result.andThen_ok, Sem.run_pure]
  exact hK _ _ h
theorem wpList_eql_v (hgd : Gd ops o a) (p q : Operand) (y : TypeId) (ho : o.op = .binOp .eql 32 p q y) (x z : V) (hp : a.eval p = .agg (arr 52 (cellAt x))) (hq : a.eval q = .agg (arr 52 (cellAt z)))
    (c : Bool) (hc : sameV x z = c) (h : wpList Try.prog ops Q rest (a.put o.dst (.bool c)) w) : wpList Try.prog ops Q (o :: rest) a w := by
  subst hc
  refine wpList_want hgd fun K hK => ?_
  unfold Oper.wp execOp
  simp only [ho, hp, hq, Sem.run_bind, run_eqGuard_agg w .eql 32 p q _ _ guard32, run_eql_v, Result.andThen_ok, Sem.run_pure]
  exact hK _ _ h
end
end Go.Proofs.Ytjiolobkobpohaa
