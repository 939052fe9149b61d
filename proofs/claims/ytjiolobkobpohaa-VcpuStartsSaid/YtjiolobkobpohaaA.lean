/- Memory that holds structs of many cells: each block's cells are kept as one function of their places. -/
import Derived.Test.YtjiolobkobpohaaW
import Derived.Laws.BitsAllLaws
import Derived.Deep.MidRow
namespace Go.Proofs.Ytjiolobkobpohaa
open Go.RowKit

/-- n cells, by their places. -/
def arr (n : Nat) (f : Nat → Value) : Array Value := ((List.range n).map f).toArray
@[simp] theorem arr_size (n : Nat) (f : Nat → Value) : (arr n f).size = n := by simp [arr]
theorem arr_get (n : Nat) (f : Nat → Value) (j : Nat) (h : j < n) : (arr n f)[j]? = some (f j) := by simp [arr, h]
theorem arr_none (n : Nat) (f : Nat → Value) (j : Nat) (h : n ≤ j) : (arr n f)[j]? = none := by simp [arr, h]
theorem arr_congr {n : Nat} {f g : Nat → Value} (h : ∀ j, j < n → f j = g j) : arr n f = arr n g := by
  unfold arr
  congr 1
  exact List.map_congr_left (fun j hj => h j (by simpa using hj))
theorem arr_inj {n : Nat} {f g : Nat → Value} (h : arr n f = arr n g) (j : Nat) (hj : j < n) : f j = g j := by
  have h1 := arr_get n f j hj
  rw [h, arr_get n g j hj] at h1
  exact (Option.some.inj h1).symm

/-- A place turned. -/
def upd {α : Type} (f : Nat → α) (i : Nat) (v : α) : Nat → α := fun j => if j = i then v else f j
theorem upd_same {α : Type} (f : Nat → α) (i : Nat) (v : α) : upd f i v i = v := by simp [upd]
theorem upd_ne {α : Type} (f : Nat → α) (i : Nat) (v : α) (j : Nat) (h : j ≠ i) : upd f i v j = f j := by simp [upd, h]
theorem arr_set (n : Nat) (f : Nat → Value) (i : Nat) (v : Value) : (arr n f).setIfInBounds i v = arr n (upd f i v) := by
  apply Array.ext_getElem?
  intro j
  by_cases hj : j < n
  · by_cases h : i = j
    · subst h; rw [arr_get _ _ _ hj, upd_same]; simp [hj]
    · rw [Array.getElem?_setIfInBounds_ne h, arr_get _ _ _ hj, arr_get _ _ _ hj, upd_ne _ _ _ _ (fun e => h e.symm)]
  · rw [arr_none _ _ _ (by omega), Array.getElem?_eq_none (by simp; omega)]
/-- Cells put in from place o on. -/
def splice (f : Nat → Value) (o m : Nat) (h : Nat → Value) : Nat → Value := fun j => if o ≤ j ∧ j < o + m then h (j - o) else f j

/-- What kind of cell stands at a place of a virtual hart: a number, a Boolean, its state. -/
inductive Kd
  | u | b | i
def kd (j : Nat) : Kd := if j < 33 then .u else if j < 40 then .b else if j < 49 then .u else if j = 49 then .i else if j = 50 then .b else .u
/-- A virtual hart: its numbers, its Booleans, its state. (A hart: the first 49 places.) -/
structure V where
  u : Nat → Nat
  b : Nat → Bool
  i : Int
def cellAt (x : V) (j : Nat) : Value := match kd j with
  | .u => .int .u64 (x.u j)
  | .b => .bool (x.b j)
  | .i => .int .i64 x.i
def V.setU (x : V) (j n : Nat) : V := { x with u := upd x.u j n }
def V.setB (x : V) (j : Nat) (c : Bool) : V := { x with b := upd x.b j c }
def V.setI (x : V) (i : Int) : V := { x with i := i }
/-- With another's hart. -/
def V.withH (x y : V) : V := ⟨fun j => if j < 49 then y.u j else x.u j, fun j => if j < 49 then y.b j else x.b j, x.i⟩
def V.zero : V := ⟨fun _ => 0, fun _ => false, 0⟩
theorem kd_i {j : Nat} (h : kd j = .i) : j = 49 := by
  unfold kd at h
  (repeat' split at h) <;> first | omega | cases h
theorem cellAt_u (x : V) {j : Nat} (h : kd j = .u) : cellAt x j = .int .u64 (x.u j) := by simp [cellAt, h]
theorem cellAt_b (x : V) {j : Nat} (h : kd j = .b) : cellAt x j = .bool (x.b j) := by simp [cellAt, h]
theorem upd_cellU (x : V) (j n : Nat) (h : kd j = .u) : upd (cellAt x) j (.int .u64 n) = cellAt (x.setU j n) := by
  funext k
  unfold upd
  split
  · rename_i e; subst e; simp [cellAt, h, V.setU, upd]
  · rename_i e; unfold cellAt; cases kd k <;> simp [V.setU, upd, e]
theorem upd_cellB (x : V) (j : Nat) (c : Bool) (h : kd j = .b) : upd (cellAt x) j (.bool c) = cellAt (x.setB j c) := by
  funext k
  unfold upd
  split
  · rename_i e; subst e; simp [cellAt, h, V.setB, upd]
  · rename_i e; unfold cellAt; cases kd k <;> simp [V.setB, upd, e]
theorem upd_cellI (x : V) (j : Nat) (i : Int) (h : kd j = .i) : upd (cellAt x) j (.int .i64 i) = cellAt (x.setI i) := by
  funext k
  unfold upd
  split
  · rename_i e; subst e; simp [cellAt, h, V.setI]
  · rename_i e
    unfold cellAt
    cases hk : kd k with
    | u => simp [V.setI]
    | b => simp [V.setI]
    | i => exact absurd ((kd_i hk).trans (kd_i h).symm) e
theorem splice_cell (x y : V) : splice (cellAt x) 0 49 (cellAt y) = cellAt (x.withH y) := by
  funext k
  unfold splice
  by_cases h : k < 49
  · rw [if_pos (by omega), Nat.sub_zero]
    unfold cellAt
    cases hk : kd k with
    | u => simp [V.withH, h]
    | b => simp [V.withH, h]
    | i => have := kd_i hk; omega
  · rw [if_neg (by omega)]
    unfold cellAt
    cases hk : kd k with
    | u => simp [V.withH, h]
    | b => simp [V.withH, h]
    | i => simp [V.withH]
theorem splice_all (n : Nat) (f h : Nat → Value) : arr n (splice f 0 n h) = arr n h := arr_congr (fun j hj => by simp [splice, hj])
theorem splice_sets (b m : Nat) (f h : Nat → Value) (n : Nat) (cur : Array Value) (he : cur = arr n f) : (arr n (splice f b m h)).size = cur.size := by subst he; simp

/-- What a block is known to hold: just n cells; or (at its head) so many virtual harts. -/
inductive Ent
  | fn (g : Nat) (t : TypeId) (n : Nat) (f : Nat → Value)
  | vs (g : Nat) (n : Nat) (l : Nat → V)
def Ent.g : Ent → Nat
  | .fn g _ _ _ => g
  | .vs g _ _ => g
def VsIn (cur : Array Value) (n : Nat) (l : Nat → V) : Prop := ∀ k j, k < n → j < 52 → cur[k * 52 + j]? = some (cellAt (l k) j)
def Ent.ok (w : World) : Ent → Prop
  | .fn g t n f => Has w g t (arr n f)
  | .vs g n l => ∃ cur, Has w g 32 cur ∧ VsIn cur n l

/-- From w0 to w nothing has turned but blocks of S and new ones; the blocks of L are known, and those of them that were there are of S. -/
structure Mem (S : Nat → Prop) (w0 w : World) (L : List Ent) : Prop where
  fr : Fr S w0 w
  ok : ∀ x ∈ L, x.ok w
  my : ∀ x ∈ L, x.g < w0.heap.size → S x.g
  nd : (L.map Ent.g).Nodup

section
variable {S : Nat → Prop} {w0 w w' : World} {L : List Ent}
theorem Mem.refl (S : Nat → Prop) (w : World) : Mem S w w [] := ⟨Fr.refl _ _, (fun _ h => by cases h), (fun _ h => by cases h), by simp⟩
theorem Ent.ok_lt {x : Ent} (h : x.ok w) : x.g < w.heap.size := by
  cases x with
  | fn g t n f => exact Has.lt h
  | vs g n l => exact Has.lt h.choose_spec.1
theorem Ent.ok_fr {x : Ent} {T : Nat → Prop} (h : x.ok w) (hf : Fr T w w') (hn : ¬ T x.g) : x.ok w' := by
  cases x with
  | fn g t n f => exact hf.has h hn
  | vs g n l =>
    obtain ⟨cur, h1, h2⟩ := h
    exact ⟨cur, hf.has h1 hn, h2⟩
theorem Mem.add (h : Mem S w0 w L) {x : Ent} (hw : Fr (fun _ => False) w w') (hx : x.ok w') (hg : w.heap.size ≤ x.g) : Mem S w0 w' (L ++ [x]) := by
  refine ⟨h.fr.trans hw (fun _ _ h => h.elim), fun y hy => ?_, fun y hy hl => ?_, ?_⟩
  · rcases List.mem_append.1 hy with hy | hy
    · exact Ent.ok_fr (h.ok y hy) hw (fun h => h)
    · simp at hy; subst hy; exact hx
  · rcases List.mem_append.1 hy with hy | hy
    · exact h.my y hy hl
    · simp at hy; subst hy; have := h.fr.size; omega
  · rw [List.map_append, List.nodup_append]
    refine ⟨h.nd, by simp, fun a ha b hb => ?_⟩
    obtain ⟨y, hy, rfl⟩ := List.mem_map.1 ha
    simp at hb; subst hb
    have := Ent.ok_lt (h.ok y hy)
    omega
theorem Mem.turn (h : Mem S w0 w L) (k : Nat) {x y : Ent} (hk : L[k]? = some x) (hg : y.g = x.g) (hw : Fr (fun i => i = x.g) w w') (hy : y.ok w') : Mem S w0 w' (L.set k y) := by
  have hx : x ∈ L := List.mem_of_getElem? hk
  have hkl : k < L.length := (List.getElem?_eq_some_iff.1 hk).1
  have hm : (L.set k y).map Ent.g = L.map Ent.g := by
    apply List.ext_getElem?
    intro j
    rw [List.getElem?_map, List.getElem?_map, List.getElem?_set]
    by_cases hj : k = j
    · subst hj; rw [if_pos rfl, if_pos hkl, hk]; simp [hg]
    · rw [if_neg hj]
  refine ⟨h.fr.trans hw (fun i hi he => by subst he; exact h.my x hx hi), fun z hz => ?_, fun z hz hl => ?_, by rw [hm]; exact h.nd⟩
  · obtain ⟨j, hj⟩ := List.getElem?_of_mem hz
    rw [List.getElem?_set] at hj
    by_cases he : k = j
    · subst he; simp [hkl] at hj; subst hj; exact hy
    · rw [if_neg he] at hj
      refine Ent.ok_fr (h.ok z (List.mem_of_getElem? hj)) hw (fun e => he ?_)
      have hjl : j < L.length := (List.getElem?_eq_some_iff.1 hj).1
      have h1 := List.pairwise_iff_getElem.1 h.nd
      rcases Nat.lt_or_ge k j with hlt | hge
      · have := h1 k j (by simpa using hkl) (by simpa using hjl) hlt
        simp [List.getElem?_eq_some_iff.1 hk |>.2, List.getElem?_eq_some_iff.1 hj |>.2] at this
        exact absurd e.symm this
      · rcases Nat.lt_or_eq_of_le hge with hlt | heq
        · have := h1 j k (by simpa using hjl) (by simpa using hkl) hlt
          simp [List.getElem?_eq_some_iff.1 hk |>.2, List.getElem?_eq_some_iff.1 hj |>.2] at this
          exact absurd e this
        · exact heq.symm
  · have hz' : z.g ∈ (L.set k y).map Ent.g := List.mem_map_of_mem hz
    rw [hm] at hz'
    obtain ⟨z2, hz2, he⟩ := List.mem_map.1 hz'
    rw [← he]
    exact h.my z2 hz2 (by rw [he]; exact hl)
theorem Mem.drew (h : Mem S w0 w L) : Mem S w0 w.drew L := ⟨h.fr.drew, fun x hx => Ent.ok_fr (h.ok x hx) ((Fr.refl (fun _ => False) w).drew) (fun h => h), h.my, h.nd⟩
theorem Mem.drewN (h : Mem S w0 w L) (n : Nat) : Mem S w0 (w.drewN n) L := ⟨h.fr.drewN n, fun x hx => Ent.ok_fr (h.ok x hx) ((Fr.refl (fun _ => False) w).drewN n) (fun h => h), h.my, h.nd⟩
/-- A call that turns nothing of ours. -/
theorem Mem.call (h : Mem S w0 w L) (hw : Fr (fun _ => False) w w') : Mem S w0 w' L := ⟨h.fr.trans hw (fun _ _ h => h.elim), fun x hx => Ent.ok_fr (h.ok x hx) hw (fun h => h), h.my, h.nd⟩
theorem Mem.weak (h : Mem S w0 w L) {L' : List Ent} (hs : L'.Sublist L) : Mem S w0 w L' := ⟨h.fr, fun x hx => h.ok x (hs.subset hx), fun x hx => h.my x (hs.subset hx), h.nd.sublist (hs.map _)⟩
end

section
variable {P : Program} {ops : Array Oper} {rest : List Oper} {o : Oper} {a : Act} {w w0 : World} {Q : Exit → Act → World → Prop} {S : Nat → Prop} {L : List Ent}

/-- The operation is to be run. -/
def Gd (ops : Array Oper) (o : Oper) (a : Act) : Prop := Region.wanted o (yielded ops a.tmps) = true
theorem gd_none (h : o.guard = none) : Gd ops o a := by simp [Gd, Region.wanted, h]
theorem gd_want (h : Region.wanted o (yielded ops a.tmps) = true) : Gd ops o a := h
theorem wpList_want (hw : Region.wanted o (yielded ops a.tmps) = true) (h : ∀ K : Act → World → Prop, (∀ a w, wpList P ops Q rest a w → K a w) → o.wp P a w K Q) : wpList P ops Q (o :: rest) a w :=
  wpList_step fun K hK => by rw [if_pos hw]; exact h K hK
theorem new_fn (w : World) (t : TypeId) (n : Nat) (f : Nat → Value) : Has (w.alloc (.cells (arr n f) t)) w.heap.size t (arr n f) := Has.new _ _ _

theorem wpList_box_fn (hgd : Gd ops o a) (ty : TypeId) (x : Operand) (ho : o.op = .box ty x) (n : Nat) (f : Nat → Value) (hx : a.eval x = .agg (arr n f)) (hM : Mem S w0 w L)
    (h : ∀ w' g, w.heap.size ≤ g → g < w'.heap.size → Mem S w0 w' (L ++ [.fn g ty n f]) → wpList P ops Q rest (a.put o.dst (.pointer (some ⟨g, 0, none⟩))) w') : wpList P ops Q (o :: rest) a w := by
  refine wpList_want hgd fun K hK => ?_
  unfold Oper.wp execOp
  simp only [ho, hx, Instr.box, newVar, newRow, Value.cells, Sem.run_bind, Sem.run_pure, run_newObj_alloc, Result.andThen_ok]
  refine hK _ _ (h _ _ (Nat.le_refl _) (by simp) ?_)
  exact hM.add ((Fr.refl _ _).alloc _) (new_fn w ty n f) (Nat.le_refl _)

theorem wpList_alloc_fn (hgd : Gd ops o a) (ty : TypeId) (ho : o.op = .alloc ty) (n : Nat) (f : Nat → Value) (hz : (P.info? ty).bind (·.zero) = some (.agg (arr n f))) (hM : Mem S w0 w L)
    (h : ∀ w' g, w.heap.size ≤ g → g < w'.heap.size → Mem S w0 w' (L ++ [.fn g ty n f]) → wpList P ops Q rest (a.put o.dst (.pointer (some ⟨g, 0, none⟩))) w') : wpList P ops Q (o :: rest) a w := by
  refine wpList_want hgd fun K hK => ?_
  have hzr : (zeroValue ty).run P w = .ok (.agg (arr n f)) w := by
    cases hi : P.info? ty with
    | none => simp [hi] at hz
    | some i =>
      have : i.zero = some (.agg (arr n f)) := by simpa [hi] using hz
      simp [zeroValue, typeInfo, hi, this]
  unfold Oper.wp execOp
  simp only [ho, Instr.alloc, newVar, newRow, Value.cells, Sem.run_bind, Sem.run_pure, run_newObj_alloc, Result.andThen_ok, hzr]
  refine hK _ _ (h _ _ (Nat.le_refl _) (by simp) ?_)
  exact hM.add ((Fr.refl _ _).alloc _) (new_fn w ty n f) (Nat.le_refl _)

/-- A part (or the whole) of a known block is loaded. -/
theorem wpList_load_fn (hgd : Gd ops o a) (ty : TypeId) (x : Operand) (ho : o.op = .load ty x) (k g : Nat) (t : TypeId) (n : Nat) (f : Nat → Value) (hM : Mem S w0 w L) (hk : L[k]? = some (.fn g t n f))
    (b m : Nat) (hx : a.eval x = .pointer (some ⟨g, b, none⟩)) (d : TypeDesc) (hu : P.underlying ty = some d) (hd : d.isRow = true) (hi : (P.info? ty).map (·.size) = some m) (hb : b + m ≤ n)
    (h : wpList P ops Q rest (a.put o.dst (.agg (arr m fun j => f (b + j)))) w) : wpList P ops Q (o :: rest) a w := by
  refine wpList_want hgd fun K hK => wp_load_mid ty x ho g b hx ((List.range m).map fun j => f (b + j)) d ?_ hu hd (by simpa using hi) (hK _ _ h)
  intro j v hv
  have hj : j < m := by have := (List.getElem?_eq_some_iff.1 hv).1; simpa using this
  have hH : Has w g t (arr n f) := hM.ok _ (List.mem_of_getElem? hk)
  rw [hH.cell, arr_get _ _ _ (by omega)]
  simpa [hj] using hv

theorem wpList_load_all (hgd : Gd ops o a) (ty : TypeId) (x : Operand) (ho : o.op = .load ty x) (k g : Nat) (t : TypeId) (n : Nat) (f : Nat → Value) (hM : Mem S w0 w L) (hk : L[k]? = some (.fn g t n f))
    (hx : a.eval x = .pointer (some ⟨g, 0, none⟩)) (d : TypeDesc) (hu : P.underlying ty = some d) (hd : d.isRow = true) (hi : (P.info? ty).map (·.size) = some n)
    (h : wpList P ops Q rest (a.put o.dst (.agg (arr n f))) w) : wpList P ops Q (o :: rest) a w := by
  refine wpList_load_fn hgd ty x ho k g t n f hM hk 0 n hx d hu hd hi (by omega) ?_
  simpa using h

/-- The head of a known block is loaded. -/
theorem wpList_load_head (hgd : Gd ops o a) (ty : TypeId) (x : Operand) (ho : o.op = .load ty x) (k g : Nat) (t : TypeId) (n : Nat) (f : Nat → Value) (hM : Mem S w0 w L) (hk : L[k]? = some (.fn g t n f))
    (m : Nat) (hx : a.eval x = .pointer (some ⟨g, 0, none⟩)) (d : TypeDesc) (hu : P.underlying ty = some d) (hd : d.isRow = true) (hi : (P.info? ty).map (·.size) = some m) (hb : m ≤ n)
    (h : wpList P ops Q rest (a.put o.dst (.agg (arr m f))) w) : wpList P ops Q (o :: rest) a w := by
  refine wpList_load_fn hgd ty x ho k g t n f hM hk 0 m hx d hu hd hi (by omega) ?_
  simpa using h

/-- A cell of a known block is loaded. -/
theorem wpList_cell_fn (hgd : Gd ops o a) (ty : TypeId) (x : Operand) (ho : o.op = .load ty x) (k g : Nat) (t : TypeId) (n : Nat) (f : Nat → Value) (hM : Mem S w0 w L) (hk : L[k]? = some (.fn g t n f))
    (b : Nat) (hx : a.eval x = .pointer (some ⟨g, b, none⟩)) (d : TypeDesc) (hu : P.underlying ty = some d) (hd : d.isRow = false) (hb : b < n)
    (v : Value) (hv : f b = v) (h : wpList P ops Q rest (a.put o.dst v) w) : wpList P ops Q (o :: rest) a w := by
  refine wpList_want hgd fun K hK => ?_
  have hH : Has w g t (arr n f) := hM.ok _ (List.mem_of_getElem? hk)
  have hc : w.cell? ⟨g, b, none⟩ = some v := by rw [hH.cell, arr_get _ _ _ hb, hv]
  have hagg : (isAgg ty).run P w = .ok false w := by
    unfold isAgg
    rw [Sem.run_bind, run_underlying hu w]
    cases d <;> simp_all
  have hl : (loadVar ty ⟨g, b, none⟩).run P w = .ok v w := by
    simp [loadVar, Sem.run_bind, hagg, load, Sem.run, hc]
  unfold Oper.wp execOp
  simp only [ho, hx, Instr.loadAt, Instr.sureAddr, Sem.run_bind, Sem.run_pure, Result.andThen_ok, hl]
  exact hK _ _ h

theorem all_one (n : Nat) (f : Nat → Value) (h : ∀ j, j < n → (f j).oneCell' = true) : (arr n f).all (·.oneCell') = true := by
  refine Array.all_eq_true_iff_forall_mem.2 (fun v hv => ?_)
  simp only [arr, List.mem_toArray, List.mem_map, List.mem_range] at hv
  obtain ⟨j, hj, rfl⟩ := hv
  exact h j hj
theorem cell_one (x : V) (j : Nat) : (cellAt x j).oneCell' = true := by unfold cellAt; cases kd j <;> rfl
theorem arr_toList (m : Nat) (h : Nat → Value) (j : Nat) (hj : j < m) : (arr m h).toList[j]? = some (h j) := by simp [arr, hj]

/-- Cells written into the midst of a block that is known whole. -/
theorem Has.splice {w : World} {g : Nat} {t : TypeId} {cur : Array Value} (h : Has w g t cur) (b m : Nat) (f : Nat → Value) (hb : b + m ≤ cur.size) :
    ∃ cur', Has (w.setCells g b (arr m f).toList) g t cur' ∧ cur'.size = cur.size ∧ (∀ j, j < b ∨ b + m ≤ j → cur'[j]? = cur[j]?) ∧ (∀ j, j < m → cur'[b + j]? = some (f j)) ∧ Fr (fun k => k = g) w (w.setCells g b (arr m f).toList) := by
  obtain ⟨cur', h1, h2, h3, h4, h5⟩ := Has.sets g t (arr m f).toList b w cur h (by simp; exact hb)
  refine ⟨cur', h1, h2, fun j hj => ?_, fun j hj => by rw [h4 j (by simpa using hj), arr_toList _ _ _ hj], h5⟩
  rcases hj with hj | hj
  · exact h3 j hj
  · have e1 : (w.setCells g b (arr m f).toList).cell? ⟨g, j, none⟩ = w.cell? ⟨g, j, none⟩ := World.cell?_setCells_out g (arr m f).toList b w ⟨g, j, none⟩ (fun _ _ => .inr (by simp; exact hj))
    rw [h1.cell, h.cell] at e1
    exact e1

/-- A whole struct's cells are stored into a known block. -/
theorem wpList_store_fn (hgd : Gd ops o a) (ty : TypeId) (x y : Operand) (ho : o.op = .store ty x y) (k g : Nat) (t : TypeId) (n : Nat) (f : Nat → Value) (hM : Mem S w0 w L) (hk : L[k]? = some (.fn g t n f))
    (b m : Nat) (hx : a.eval x = .pointer (some ⟨g, b, none⟩)) (v : Nat → Value) (hy : a.eval y = .agg (arr m v)) (hi : (P.info? ty).map (·.size) = some m) (hb : b + m ≤ n) (h1 : ∀ j, j < m → (v j).oneCell' = true)
    (h : ∀ w', w.heap.size ≤ w'.heap.size → Mem S w0 w' (L.set k (.fn g t n (splice f b m v))) → wpList P ops Q rest (a.put o.dst undef) w') : wpList P ops Q (o :: rest) a w := by
  have hH : Has w g t (arr n f) := hM.ok _ (List.mem_of_getElem? hk)
  obtain ⟨cur', e1, e2, e3, e4, e5⟩ := hH.splice b m v (by simp; exact hb)
  refine wpList_want hgd fun K hK => wp_store_mid ty x y ho g b (arr m v) hx hy (fun j hj => ⟨?_, hH.frozen _⟩) (by simpa using hi) (all_one _ _ h1) (hK _ _ (h _ e5.size (hM.turn k hk rfl e5 ?_)))
  · rw [hH.cell, arr_get _ _ _ (by simp at hj; omega)]; rfl
  · show Has _ g t (arr n (Go.Proofs.Ytjiolobkobpohaa.splice f b m v))
    have : cur' = arr n (Go.Proofs.Ytjiolobkobpohaa.splice f b m v) := by
      apply Array.ext_getElem?
      intro j
      by_cases hj : j < n
      · rw [arr_get _ _ _ hj]
        unfold Go.Proofs.Ytjiolobkobpohaa.splice
        by_cases hm : b ≤ j ∧ j < b + m
        · rw [if_pos hm, show j = b + (j - b) by omega, e4 _ (by omega)]; congr 2; omega
        · rw [if_neg hm, e3 j (by omega), arr_get _ _ _ hj]
      · rw [arr_none _ _ _ (by omega), Array.getElem?_eq_none (by rw [e2]; simp; omega)]
    rw [← this]
    exact e1

theorem wpList_store_all (hgd : Gd ops o a) (ty : TypeId) (x y : Operand) (ho : o.op = .store ty x y) (k g : Nat) (t : TypeId) (n : Nat) (f : Nat → Value) (hM : Mem S w0 w L) (hk : L[k]? = some (.fn g t n f))
    (hx : a.eval x = .pointer (some ⟨g, 0, none⟩)) (v : Nat → Value) (hy : a.eval y = .agg (arr n v)) (hi : (P.info? ty).map (·.size) = some n) (h1 : ∀ j, j < n → (v j).oneCell' = true)
    (h : ∀ w', w.heap.size ≤ w'.heap.size → Mem S w0 w' (L.set k (.fn g t n v)) → wpList P ops Q rest (a.put o.dst undef) w') : wpList P ops Q (o :: rest) a w := by
  refine wpList_store_fn hgd ty x y ho k g t n f hM hk 0 n hx v hy hi (by omega) h1 (fun w' hw hM' => h w' hw ?_)
  refine ⟨hM'.fr, fun z hz => ?_, fun z hz hl => ?_, ?_⟩
  · have e : (Ent.fn g t n (Go.Proofs.Ytjiolobkobpohaa.splice f 0 n v)).ok w' ↔ (Ent.fn g t n v).ok w' := by
      show Has w' g t _ ↔ Has w' g t _
      rw [splice_all]
    obtain ⟨j, hj⟩ := List.getElem?_of_mem hz
    rw [List.getElem?_set] at hj
    by_cases he : k = j
    · have hkl : k < L.length := (List.getElem?_eq_some_iff.1 hk).1
      subst he
      simp [hkl] at hj
      subst hj
      exact e.1 (hM'.ok _ (List.mem_of_getElem? (i := k) (by simp [hkl])))
    · rw [if_neg he] at hj
      exact hM'.ok z (List.mem_of_getElem? (i := j) (by rw [List.getElem?_set, if_neg he]; exact hj))
  · have h2 : z.g ∈ (L.set k (Ent.fn g t n v)).map Ent.g := List.mem_map_of_mem hz
    rw [List.map_set] at h2
    have h3 : (L.set k (Ent.fn g t n (Go.Proofs.Ytjiolobkobpohaa.splice f 0 n v))).map Ent.g = (L.map Ent.g).set k g := by rw [List.map_set]; rfl
    rw [show Ent.g (Ent.fn g t n v) = g from rfl, ← h3] at h2
    obtain ⟨z2, hz2, he⟩ := List.mem_map.1 h2
    rw [← he]
    exact hM'.my z2 hz2 (by rw [he]; exact hl)
  · have h3 := hM'.nd
    rw [List.map_set] at h3 ⊢
    exact h3

/-- A hart is stored into a virtual hart. -/
theorem wpList_store_h (hgd : Gd ops o a) (ty : TypeId) (x y : Operand) (ho : o.op = .store ty x y) (k g : Nat) (t : TypeId) (z : V) (hM : Mem S w0 w L) (hk : L[k]? = some (.fn g t 52 (cellAt z)))
    (hx : a.eval x = .pointer (some ⟨g, 0, none⟩)) (z2 : V) (hy : a.eval y = .agg (arr 49 (cellAt z2))) (hi : (P.info? ty).map (·.size) = some 49)
    (h : ∀ w', w.heap.size ≤ w'.heap.size → Mem S w0 w' (L.set k (.fn g t 52 (cellAt (z.withH z2)))) → wpList P ops Q rest (a.put o.dst undef) w') : wpList P ops Q (o :: rest) a w := by
  refine wpList_store_fn hgd ty x y ho k g t 52 _ hM hk 0 49 hx _ hy hi (by omega) (fun j _ => cell_one z2 j) (fun w' hw hM' => h w' hw ?_)
  rw [splice_cell] at hM'
  exact hM'

/-- A cell is stored into a known block. -/
theorem wpList_put_fn (hgd : Gd ops o a) (ty : TypeId) (x y : Operand) (ho : o.op = .store ty x y) (k g : Nat) (t : TypeId) (n : Nat) (f : Nat → Value) (hM : Mem S w0 w L) (hk : L[k]? = some (.fn g t n f))
    (b : Nat) (hx : a.eval x = .pointer (some ⟨g, b, none⟩)) (v : Value) (hy : a.eval y = v) (hi : (P.info? ty).map (·.size) = some 1) (hb : b < n) (h1 : v.oneCell' = true)
    (h : ∀ w', w.heap.size ≤ w'.heap.size → Mem S w0 w' (L.set k (.fn g t n (upd f b v))) → wpList P ops Q rest (a.put o.dst undef) w') : wpList P ops Q (o :: rest) a w := by
  have hH : Has w g t (arr n f) := hM.ok _ (List.mem_of_getElem? hk)
  have hc : w.cell? ⟨g, b, none⟩ = some (f b) := by rw [hH.cell, arr_get _ _ _ hb]
  have hs : (storeVar ty ⟨g, b, none⟩ v).run P w = .ok () (w.setCell ⟨g, b, none⟩ v) := by
    cases hq : P.info? ty with
    | none => simp [hq] at hi
    | some i =>
      have hs : i.size = 1 := by simpa [hq] using hi
      have hv : v.cells = #[v] := by cases v <;> first | rfl | cases h1
      have hst : (store (⟨g, b, none⟩ : Addr) v).run P w = .ok () (w.setCell ⟨g, b, none⟩ v) := by
        rw [run_store P w _ v _ h1, hc, hH.frozen]; rfl
      simp [storeVar, sizeOf, typeInfo, hq, hs, hv, storeCells, Addr.add_mid, hst]
  refine wpList_want hgd fun K hK => ?_
  unfold Oper.wp execOp
  simp only [ho, hx, hy, Instr.storeAt, Instr.sureAddr, Sem.run_bind, Sem.run_pure, Result.andThen_ok, hs]
  refine hK _ _ (h _ (by simp [World.setCell]) (hM.turn k hk rfl (Fr.store w g b v) ?_))
  show Has _ g t _
  rw [← arr_set]
  exact hH.set b v

/-- The result that lies in a known block. -/
theorem ret_fn {fn : Func} {p : Tmp} {ty : TypeId} (h : fn.results = #[.cell p ty]) (tmps : Array Value) (k g n : Nat) (f : Nat → Value) (hM : Mem S w0 w L) (hk : L[k]? = some (.fn g ty n f))
    (hp : tmps.getD p undef = .pointer (some ⟨g, 0, none⟩)) (d : TypeDesc) (hu : P.underlying ty = some d) (hd : d.isRow = true) (hi : (P.info? ty).map (·.size) = some n) :
    (results fn tmps).run P w = .ok (.agg (arr n f)) w := by
  have hH : Has w g ty (arr n f) := hM.ok _ (List.mem_of_getElem? hk)
  refine results_cell_row h tmps w g ty _ (0, 0) d hp hH hu ?_ (by simpa using hi)
  cases d <;> first | rfl | cases hd

theorem ret_fn_slot {fn : Func} {p q : Tmp} {ty : TypeId} (h : fn.results = #[.cell p ty, .tmp q]) (tmps : Array Value) (k g n : Nat) (f : Nat → Value) (hM : Mem S w0 w L) (hk : L[k]? = some (.fn g ty n f))
    (hp : tmps.getD p undef = .pointer (some ⟨g, 0, none⟩)) (d : TypeDesc) (hu : P.underlying ty = some d) (hd : d.isRow = true) (hi : (P.info? ty).map (·.size) = some n) :
    (results fn tmps).run P w = .ok (.tuple #[.agg (arr n f), tmps.getD q undef]) w := by
  have hH : Has w g ty (arr n f) := hM.ok _ (List.mem_of_getElem? hk)
  have hp' : tmps[p]?.getD undef = .pointer (some ⟨g, 0, none⟩) := by simpa using hp
  have hl : (loadVar ty ⟨g, 0, none⟩).run P w = .ok (.agg (arr n f)) w := by
    refine run_loadVar_row w g ty ty _ (0, 0) d hH hu ?_ (by simpa using hi)
    cases d <;> first | rfl | cases hd
  simp [results, h, hp', asAddr, hl]

/-- A struct's value out of parts. -/
theorem wpList_build_fn (hgd : Gd ops o a) (t : TypeId) (parts : Array (Nat × Operand)) (ho : o.op = .build t parts) (n : Nat) (f : Nat → Value)
    (hb : P.built t (parts.toList.map fun p => (p.1, a.eval p.2)) = some (arr n f)) (h : wpList P ops Q rest (a.put o.dst (.agg (arr n f))) w) : wpList P ops Q (o :: rest) a w := by
  have hb' : P.built t (parts.map fun (i, x) => (i, a.eval x)).toList = some (arr n f) := by rw [Array.toList_map]; exact hb
  refine wpList_want hgd fun K hK => wp_build t parts ho (by rw [hb']; rfl) ?_
  rw [hb']
  exact hK _ _ h

theorem vs_lt {n k : Nat} {l : Nat → V} {cur : Array Value} (h : VsIn cur n l) (hk : k < n) {j : Nat} (hj : j < 52) : k * 52 + j < cur.size := by
  have := h k j hk hj
  exact (Array.getElem?_eq_some_iff.1 this).1

theorem wpList_load_vs (hgd : Gd ops o a) (ty : TypeId) (x : Operand) (ho : o.op = .load ty x) (i g n : Nat) (l : Nat → V) (hM : Mem S w0 w L) (hi : L[i]? = some (.vs g n l))
    (k off m : Nat) (hx : a.eval x = .pointer (some ⟨g, off, none⟩)) (hoff : off = k * 52) (hk : k < n) (hm : m ≤ 52) (d : TypeDesc) (hu : P.underlying ty = some d) (hd : d.isRow = true) (hin : (P.info? ty).map (·.size) = some m)
    (h : wpList P ops Q rest (a.put o.dst (.agg (arr m (cellAt (l k))))) w) : wpList P ops Q (o :: rest) a w := by
  subst hoff
  refine wpList_want hgd fun K hK => wp_load_mid ty x ho g (k * 52) hx ((List.range m).map (cellAt (l k))) d ?_ hu hd (by simpa using hin) (hK _ _ h)
  intro j v hv
  have hj : j < m := by have := (List.getElem?_eq_some_iff.1 hv).1; simpa using this
  obtain ⟨cur, h1, h2⟩ := hM.ok _ (List.mem_of_getElem? hi)
  rw [h1.cell, h2 k j hk (by omega)]
  simpa [hj] using hv

theorem wpList_cell_vs (hgd : Gd ops o a) (ty : TypeId) (x : Operand) (ho : o.op = .load ty x) (i g n : Nat) (l : Nat → V) (hM : Mem S w0 w L) (hi : L[i]? = some (.vs g n l))
    (k j off : Nat) (hx : a.eval x = .pointer (some ⟨g, off, none⟩)) (hoff : off = k * 52 + j) (hk : k < n) (hj : j < 52) (d : TypeDesc) (hu : P.underlying ty = some d) (hd : d.isRow = false)
    (v : Value) (hv : cellAt (l k) j = v) (h : wpList P ops Q rest (a.put o.dst v) w) : wpList P ops Q (o :: rest) a w := by
  subst hoff
  refine wpList_want hgd fun K hK => ?_
  obtain ⟨cur, h1, h2⟩ := hM.ok _ (List.mem_of_getElem? hi)
  have hc : w.cell? ⟨g, k * 52 + j, none⟩ = some v := by rw [h1.cell, h2 k j hk hj, hv]
  have hagg : (isAgg ty).run P w = .ok false w := by
    unfold isAgg
    rw [Sem.run_bind, run_underlying hu w]
    cases d <;> simp_all
  have hl : (loadVar ty ⟨g, k * 52 + j, none⟩).run P w = .ok v w := by
    simp [loadVar, Sem.run_bind, hagg, load, Sem.run, hc]
  unfold Oper.wp execOp
  simp only [ho, hx, Instr.loadAt, Instr.sureAddr, Sem.run_bind, Sem.run_pure, Result.andThen_ok, hl]
  exact hK _ _ h

/-- The harts in a block, one turned. -/
theorem vs_turn {cur cur' : Array Value} {n k m : Nat} {l : Nat → V} {y : V} (h : VsIn cur n l) (hk : k < n) (h3 : ∀ j, j < k * 52 ∨ k * 52 + m ≤ j → cur'[j]? = cur[j]?) (f : Nat → Value) (h4 : ∀ j, j < m → cur'[k * 52 + j]? = some (f j))
    (hm : m ≤ 52) (hf : ∀ j, j < m → f j = cellAt y j) (hf2 : ∀ j, m ≤ j → j < 52 → cellAt (l k) j = cellAt y j) : VsIn cur' n (upd l k y) := by
  intro k2 j hk2 hj
  by_cases he : k2 = k
  · subst he
    rw [upd_same]
    by_cases hjm : j < m
    · rw [h4 j hjm, hf j hjm]
    · rw [h3 _ (by omega), h k2 j hk2 hj, hf2 j (by omega) hj]
  · rw [upd_ne _ _ _ _ he, h3 _ (by omega), h k2 j hk2 hj]

theorem wpList_store_vs (hgd : Gd ops o a) (ty : TypeId) (x y : Operand) (ho : o.op = .store ty x y) (i g n : Nat) (l : Nat → V) (hM : Mem S w0 w L) (hi : L[i]? = some (.vs g n l))
    (k off m : Nat) (hx : a.eval x = .pointer (some ⟨g, off, none⟩)) (hoff : off = k * 52) (hk : k < n) (hm : m ≤ 52) (z : V) (hy : a.eval y = .agg (arr m (cellAt z))) (hin : (P.info? ty).map (·.size) = some m)
    (z' : V) (hz1 : ∀ j, j < m → cellAt z j = cellAt z' j) (hz2 : ∀ j, m ≤ j → j < 52 → cellAt (l k) j = cellAt z' j)
    (h : ∀ w', w.heap.size ≤ w'.heap.size → Mem S w0 w' (L.set i (.vs g n (upd l k z'))) → wpList P ops Q rest (a.put o.dst undef) w') : wpList P ops Q (o :: rest) a w := by
  subst hoff
  obtain ⟨cur, h1, h2⟩ := hM.ok _ (List.mem_of_getElem? hi)
  have hsz : k * 52 + 51 < cur.size := vs_lt h2 hk (by omega)
  obtain ⟨cur', e1, e2, e3, e4, e5⟩ := h1.splice (k * 52) m (cellAt z) (by omega)
  refine wpList_want hgd fun K hK => wp_store_mid ty x y ho g (k * 52) (arr m (cellAt z)) hx hy (fun j hj => ⟨?_, h1.frozen _⟩) (by simpa using hin) (all_one _ _ (fun j _ => cell_one z j)) (hK _ _ (h _ e5.size (hM.turn i hi rfl e5 ⟨cur', e1, vs_turn h2 hk e3 _ e4 hm hz1 hz2⟩)))
  rw [h1.cell, h2 k j hk (by simp at hj; omega)]; rfl

theorem wpList_put_vs (hgd : Gd ops o a) (ty : TypeId) (x y : Operand) (ho : o.op = .store ty x y) (i g n : Nat) (l : Nat → V) (hM : Mem S w0 w L) (hi : L[i]? = some (.vs g n l))
    (k j off : Nat) (hx : a.eval x = .pointer (some ⟨g, off, none⟩)) (hoff : off = k * 52 + j) (hk : k < n) (hj : j < 52) (v : Value) (hy : a.eval y = v) (hin : (P.info? ty).map (·.size) = some 1)
    (z' : V) (hz : upd (cellAt (l k)) j v = cellAt z')
    (h : ∀ w', w.heap.size ≤ w'.heap.size → Mem S w0 w' (L.set i (.vs g n (upd l k z'))) → wpList P ops Q rest (a.put o.dst undef) w') : wpList P ops Q (o :: rest) a w := by
  subst hoff
  obtain ⟨cur, e1, e2⟩ := hM.ok _ (List.mem_of_getElem? hi)
  have hc : w.cell? ⟨g, k * 52 + j, none⟩ = some (cellAt (l k) j) := by rw [e1.cell, e2 k j hk hj]
  have hv : v = cellAt z' j := by rw [← hz, upd_same]
  have h1 : v.oneCell' = true := by rw [hv]; exact cell_one z' j
  have hs : (storeVar ty ⟨g, k * 52 + j, none⟩ v).run P w = .ok () (w.setCell ⟨g, k * 52 + j, none⟩ v) := by
    cases hq : P.info? ty with
    | none => simp [hq] at hin
    | some i =>
      have hs : i.size = 1 := by simpa [hq] using hin
      have hv : v.cells = #[v] := by cases v <;> first | rfl | cases h1
      have hst : (store (⟨g, k * 52 + j, none⟩ : Addr) v).run P w = .ok () (w.setCell ⟨g, k * 52 + j, none⟩ v) := by
        rw [run_store P w _ v _ h1, hc, e1.frozen]; rfl
      simp [storeVar, sizeOf, typeInfo, hq, hs, hv, storeCells, Addr.add_mid, hst]
  refine wpList_want hgd fun K hK => ?_
  unfold Oper.wp execOp
  simp only [ho, hx, hy, Instr.storeAt, Instr.sureAddr, Sem.run_bind, Sem.run_pure, Result.andThen_ok, hs]
  refine hK _ _ (h _ (by simp [World.setCell]) (hM.turn i hi rfl (Fr.store w g _ v) ⟨_, e1.set _ v, ?_⟩))
  intro k2 j2 hk2 hj2
  rw [Array.getElem?_setIfInBounds]
  by_cases he : k2 = k
  · subst he
    rw [upd_same, ← hz]
    by_cases hj3 : j = j2
    · subst hj3
      have := vs_lt e2 hk hj
      rw [if_pos rfl, if_pos this, upd_same]
    · rw [if_neg (by omega), e2 k2 j2 hk2 hj2, upd_ne _ _ _ _ (fun e => hj3 e.symm)]
  · rw [if_neg (by omega), e2 k2 j2 hk2 hj2, upd_ne _ _ _ _ he]

/-- So many virtual harts lie in a block from a place on, to be read. -/
structure RdV (w : World) (b off n : Nat) (l : Nat → V) : Prop where
  lt : 0 < n → b < w.heap.size
  at_ : ∀ k j, k < n → j < 52 → w.cell? ⟨b, off + (k * 52 + j), none⟩ = some (cellAt (l k) j)
theorem RdV.fr {w w' : World} {b off n : Nat} {l : Nat → V} {T : Nat → Prop} (h : RdV w b off n l) (hf : Fr T w w') (hn : b < w.heap.size → ¬ T b) : RdV w' b off n l :=
  ⟨fun hn0 => Nat.lt_of_lt_of_le (h.lt hn0) hf.size, fun k j hk hj => by
    have hb := h.lt (by omega)
    rw [hf.cell (p := ⟨b, _, none⟩) hb (hn hb)]
    exact h.at_ k j hk hj⟩
theorem Mem.rd (hM : Mem S w0 w L) {g n : Nat} {l : Nat → V} (i : Nat) (hi : L[i]? = some (.vs g n l)) : RdV w g 0 n l := by
  obtain ⟨cur, e1, e2⟩ := hM.ok _ (List.mem_of_getElem? hi)
  exact ⟨fun _ => e1.lt, fun k j hk hj => by rw [e1.cell, Nat.zero_add, e2 k j hk hj]⟩
theorem wpList_load_rd (hgd : Gd ops o a) (ty : TypeId) (x : Operand) (ho : o.op = .load ty x) (b off n : Nat) (l : Nat → V) (hR : RdV w b off n l)
    (k o2 m : Nat) (hx : a.eval x = .pointer (some ⟨b, o2, none⟩)) (ho2 : o2 = off + k * 52) (hk : k < n) (hm : m ≤ 52) (d : TypeDesc) (hu : P.underlying ty = some d) (hd : d.isRow = true) (hin : (P.info? ty).map (·.size) = some m)
    (h : wpList P ops Q rest (a.put o.dst (.agg (arr m (cellAt (l k))))) w) : wpList P ops Q (o :: rest) a w := by
  subst ho2
  refine wpList_want hgd fun K hK => wp_load_mid ty x ho b (off + k * 52) hx ((List.range m).map (cellAt (l k))) d ?_ hu hd (by simpa using hin) (hK _ _ h)
  intro j v hv
  have hj : j < m := by have := (List.getElem?_eq_some_iff.1 hv).1; simpa using this
  rw [Nat.add_assoc, hR.at_ k j hk (by omega)]
  simpa [hj] using hv
theorem wpList_cell_rd (hgd : Gd ops o a) (ty : TypeId) (x : Operand) (ho : o.op = .load ty x) (b off n : Nat) (l : Nat → V) (hR : RdV w b off n l)
    (k j o2 : Nat) (hx : a.eval x = .pointer (some ⟨b, o2, none⟩)) (ho2 : o2 = off + (k * 52 + j)) (hk : k < n) (hj : j < 52) (d : TypeDesc) (hu : P.underlying ty = some d) (hd : d.isRow = false)
    (v : Value) (hv : cellAt (l k) j = v) (h : wpList P ops Q rest (a.put o.dst v) w) : wpList P ops Q (o :: rest) a w := by
  subst ho2
  refine wpList_want hgd fun K hK => ?_
  have hc : w.cell? ⟨b, off + (k * 52 + j), none⟩ = some v := by rw [hR.at_ k j hk hj, hv]
  have hagg : (isAgg ty).run P w = .ok false w := by
    unfold isAgg
    rw [Sem.run_bind, run_underlying hu w]
    cases d <;> simp_all
  have hl : (loadVar ty ⟨b, off + (k * 52 + j), none⟩).run P w = .ok v w := by
    simp [loadVar, Sem.run_bind, hagg, load, Sem.run, hc]
  unfold Oper.wp execOp
  simp only [ho, hx, Instr.loadAt, Instr.sureAddr, Sem.run_bind, Sem.run_pure, Result.andThen_ok, hl]
  exact hK _ _ h
end
end Go.Proofs.Ytjiolobkobpohaa
