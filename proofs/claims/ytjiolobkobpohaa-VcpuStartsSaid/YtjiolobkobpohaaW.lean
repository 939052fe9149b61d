/- Words of memory for the proofs of this seat: blocks, slices that read as lists, what a call may turn. -/
import Derived.Test.YtjiolobkobpohaaRows
import Derived.WalkKit
import Derived.Maps.AppendAt
import Derived.Deep.AppendLies
import Derived.Deep.Draws
import Derived.Lib.Hide
namespace Go.Proofs.Ytjiolobkobpohaa
open Go.RowKit

/-- Block g holds just the cells cs of element type t, none of them frozen. -/
def Has (w : World) (g : Nat) (t : TypeId) (cs : Array Value) : Prop := w.heap[g]? = some (.cells cs t (0, 0))

section
variable {w w' w'' : World} {g : Nat} {t : TypeId} {cs : Array Value}
theorem Has.lt (h : Has w g t cs) : g < w.heap.size := by
  rcases Nat.lt_or_ge g w.heap.size with hlt | hge
  · exact hlt
  · unfold Has at h; rw [Array.getElem?_eq_none hge] at h; cases h
theorem Has.cell (h : Has w g t cs) (i : Nat) : w.cell? ⟨g, i, none⟩ = cs[i]? := cell_of_row w g i cs t (0, 0) h
theorem Has.frozen (h : Has w g t cs) (i : Nat) : w.frozen? ⟨g, i, none⟩ = false := by
  unfold Has at h; simp [World.frozen?, h]
theorem Has.new (w : World) (t : TypeId) (cs : Array Value) : Has (w.alloc (.cells cs t)) w.heap.size t cs := heap_alloc_new w _
theorem Has.set (h : Has w g t cs) (i : Nat) (u : Value) : Has (w.setCell ⟨g, i, none⟩ u) g t (cs.setIfInBounds i u) := by
  unfold Has at h ⊢; simp [World.setCell, Array.getElem?_modify, h]

/-- From w to w' nothing has turned but blocks of S and blocks that were not there. -/
structure Fr (S : Nat → Prop) (w w' : World) : Prop where
  os : w'.os = w.os
  tape : w'.tape = w.tape
  output : w'.output = w.output
  size : w.heap.size ≤ w'.heap.size
  block : ∀ k, k < w.heap.size → ¬ S k → w'.heap[k]? = w.heap[k]?

variable {S S' S'' : Nat → Prop}
theorem Fr.refl (S : Nat → Prop) (w : World) : Fr S w w := ⟨rfl, rfl, rfl, Nat.le_refl _, fun _ _ _ => rfl⟩
theorem Fr.trans (h : Fr S w w') (k : Fr S' w' w'') (hs : ∀ i, i < w.heap.size → S' i → S i) : Fr S w w'' :=
  ⟨k.os.trans h.os, k.tape.trans h.tape, k.output.trans h.output, Nat.le_trans h.size k.size,
    fun i hi hn => (k.block i (Nat.lt_of_lt_of_le hi h.size) (fun hk => hn (hs i hi hk))).trans (h.block i hi hn)⟩
theorem Fr.weak (h : Fr S w w') (hs : ∀ i, i < w.heap.size → S i → S' i) : Fr S' w w' :=
  ⟨h.os, h.tape, h.output, h.size, fun i hi hn => h.block i hi (fun hk => hn (hs i hi hk))⟩
theorem Fr.drew (h : Fr S w w') : Fr S w w'.drew := ⟨h.os, h.tape, h.output, h.size, h.block⟩
theorem Fr.drewN (h : Fr S w w') (n : Nat) : Fr S w (w'.drewN n) := ⟨h.os, h.tape, h.output, h.size, h.block⟩
theorem Fr.alloc (h : Fr S w w') (o : Obj) : Fr S w (w'.alloc o) :=
  ⟨h.os, h.tape, h.output, Nat.le_trans h.size (by simp), fun i hi hn => (Below.heap_alloc w' o i (Nat.lt_of_lt_of_le hi h.size)).trans (h.block i hi hn)⟩
theorem Fr.setCell (h : Fr S w w') {p : Addr} (hp : p.block < w.heap.size → S p.block) (u : Value) : Fr S w (w'.setCell p u) :=
  ⟨h.os, h.tape, h.output, by simpa [World.setCell] using h.size, fun i hi hn => (Below.heap_setCell w' p u i (by
    rintro rfl; exact hn (hp hi))).trans (h.block i hi hn)⟩
theorem Fr.store (w : World) (g i : Nat) (u : Value) : Fr (fun k => k = g) w (w.setCell ⟨g, i, none⟩ u) :=
  Fr.setCell (S := fun k => k = g) (p := ⟨g, i, none⟩) (Fr.refl _ w) (fun _ => rfl) u
theorem Fr.put (h : Fr S w w') {g : Nat} (i : Nat) (hg : w.heap.size ≤ g) (u : Value) : Fr S w (w'.setCell ⟨g, i, none⟩ u) := h.setCell (p := ⟨g, i, none⟩) (fun (hl : g < w.heap.size) => by omega) u
theorem Fr.grown {row : Option Nat} (h : Fr S w w') (hg : w'.grownBy w'' row) (hr : ∀ k, row = some k → k < w.heap.size → S k) : Fr S w w'' :=
  ⟨hg.os.trans h.os, hg.tape.trans h.tape, hg.output.trans h.output, Nat.le_trans h.size hg.size,
    fun i hi hn => (hg.block i (Nat.lt_of_lt_of_le hi h.size) (fun e => hn (hr i e.symm hi))).trans (h.block i hi hn)⟩
theorem Fr.has (h : Fr S w w') (hg : Has w g t cs) (hn : ¬ S g) : Has w' g t cs := (h.block g hg.lt hn).trans hg
theorem Fr.below (h : Fr S w w') {B : Nat} (hb : ∀ k, S k → B ≤ k) (hB : B ≤ w.heap.size) : Below B w w' :=
  ⟨h.os, h.tape, h.output, h.size, fun k hk => h.block k (by omega) (fun hs => by have := hb k hs; omega)⟩
theorem Fr.of_below {B : Nat} (h : Below B w w') : Fr (fun k => B ≤ k) w w' :=
  ⟨h.os, h.tape, h.output, h.size, fun k _ hn => h.block k (by omega)⟩
theorem Fr.cell (h : Fr S w w') {p : Addr} (hlt : p.block < w.heap.size) (hn : ¬ S p.block) : w'.cell? p = w.cell? p :=
  World.cell?_of_block (w := w) (h.block p.block hlt hn)
theorem Fr.frozen (h : Fr S w w') {p : Addr} (hlt : p.block < w.heap.size) (hn : ¬ S p.block) : w'.frozen? p = w.frozen? p :=
  World.frozen?_of_block (w := w) (h.block p.block hlt hn)
end

/-- The address A heads the cells xs (of its address nothing is said where xs is empty); they lie in blocks of S. -/
def Rd (w : World) (S : Nat → Prop) (A : Option Addr) (xs : List Value) : Prop :=
  xs ≠ [] → ∃ b off, A = some ⟨b, off, none⟩ ∧ b < w.heap.size ∧ S b ∧ ∀ j u, xs[j]? = some u → w.cell? ⟨b, off + j, none⟩ = some u

section
variable {w w' : World} {S S' : Nat → Prop} {A : Option Addr} {xs : List Value}
theorem Rd.nil (w : World) (S : Nat → Prop) (A : Option Addr) : Rd w S A [] := fun h => absurd rfl h
theorem Rd.new (w : World) (t : TypeId) (cs : List Value) : Rd (w.alloc (.cells cs.toArray t)) (fun k => k = w.heap.size) (some ⟨w.heap.size, 0, none⟩) cs := fun _ =>
  ⟨w.heap.size, 0, rfl, by simp, rfl, fun j u hu => by rw [(Has.new w t cs.toArray).cell]; simpa using hu⟩
theorem Rd.fr {T : Nat → Prop} (h : Rd w S A xs) (hf : Fr T w w') (hd : ∀ k, k < w.heap.size → S k → ¬ T k) : Rd w' S A xs := fun hx => by
  obtain ⟨b, off, hA, hb, hs, hc⟩ := h hx
  exact ⟨b, off, hA, Nat.lt_of_lt_of_le hb hf.size, hs, fun j u hu => (hf.cell (p := ⟨b, off + j, none⟩) hb (hd b hb hs)).trans (hc j u hu)⟩
theorem Rd.weak (h : Rd w S A xs) (hs : ∀ k, k < w.heap.size → S k → S' k) : Rd w S' A xs := fun hx => by
  obtain ⟨b, off, hA, hb, hk, hc⟩ := h hx
  exact ⟨b, off, hA, hb, hs b hb hk, hc⟩
end

/-- The slice value v of n elements of type e (size cells each) reads as the cells xs, in a block of its own of S, not frozen. -/
def Sl (w : World) (S : Nat → Prop) (e : TypeId) (size : Nat) (v : Value) (n : Nat) (xs : List Value) : Prop :=
  xs.length = n * size ∧ ((v = .slice none 0 0 ∧ n = 0) ∨
    ∃ g off cap cur, v = .slice (some ⟨g, off, none⟩) n cap ∧ Has w g e cur ∧ S g ∧ n ≤ cap ∧ off + cap * size ≤ cur.size ∧ cap ≤ maxLen ∧ ∀ j, j < n * size → cur[off + j]? = xs[j]?)

section
variable {w w' : World} {S S' : Nat → Prop} {e : TypeId} {size : Nat} {v : Value} {n : Nat} {xs : List Value}
theorem Sl.nil (w : World) (S : Nat → Prop) (e : TypeId) (size : Nat) : Sl w S e size (.slice none 0 0) 0 [] := ⟨by simp, .inl ⟨rfl, rfl⟩⟩
theorem Sl.len (h : Sl w S e size v n xs) : xs.length = n * size := h.1
theorem Sl.fr {T : Nat → Prop} (h : Sl w S e size v n xs) (hf : Fr T w w') (hd : ∀ k, k < w.heap.size → S k → ¬ T k) : Sl w' S e size v n xs := by
  refine ⟨h.1, ?_⟩
  rcases h.2 with h2 | ⟨g, off, cap, cur, hv, hh, hs, r⟩
  · exact .inl h2
  · exact .inr ⟨g, off, cap, cur, hv, hf.has hh (hd g hh.lt hs), hs, r⟩
theorem Sl.weak (h : Sl w S e size v n xs) (hs : ∀ k, k < w.heap.size → S k → S' k) : Sl w S' e size v n xs := by
  refine ⟨h.1, ?_⟩
  rcases h.2 with h2 | ⟨g, off, cap, cur, hv, hh, hk, r⟩
  · exact .inl h2
  · exact .inr ⟨g, off, cap, cur, hv, hh, hs g hh.lt hk, r⟩
theorem Sl.form (h : Sl w S e size v n xs) : ∃ A c, v = .slice A n c ∧ Rd w S A xs ∧ n ≤ c ∧ (A = none → c = 0) := by
  rcases h.2 with ⟨rfl, rfl⟩ | ⟨g, off, cap, cur, rfl, hh, hs, hn, hc, _, hx⟩
  · exact ⟨none, 0, rfl, fun hx => absurd (List.length_eq_zero_iff.1 (by simpa using h.1)) hx, Nat.le_refl _, fun _ => rfl⟩
  · refine ⟨_, cap, rfl, fun _ => ⟨g, off, rfl, hh.lt, hs, fun j u hu => ?_⟩, hn, fun h => by cases h⟩
    rw [hh.cell]
    have hj : j < xs.length := (List.getElem?_eq_some_iff.1 hu).1
    rw [hx j (by have := h.1; omega), hu]
theorem Sl.of_own {base : Nat} (h : w.ownsRow base e size v n xs) : Sl w (fun k => base ≤ k) e size v n xs := by
  refine ⟨h.1, ?_⟩
  rcases h.2 with h2 | ⟨g, cap, cur, hv, hb, hh, hn, hm, hs, ht⟩
  · exact .inl h2
  · refine .inr ⟨g, 0, cap, cur, hv, hh, hb, hn, by omega, hm, fun j hj => ?_⟩
    rw [← ht, List.getElem?_take, if_pos hj]
    simp
theorem own_fr {T : Nat → Prop} {base : Nat} (h : w.ownsRow base e size v n xs) (hf : Fr T w w') (hd : ∀ k, base ≤ k → ¬ T k) : w'.ownsRow base e size v n xs := by
  refine ⟨h.1, ?_⟩
  rcases h.2 with h2 | ⟨g, cap, cur, hv, hb, hh, r⟩
  · exact .inl h2
  · exact .inr ⟨g, cap, cur, hv, hb, hf.has (g := g) hh (hd g hb), r⟩
end


/-- Cells written one by one into a block that is known whole. -/
theorem Has.sets (g : Nat) (t : TypeId) : ∀ (vs : List Value) (o : Nat) (w : World) (cur : Array Value), Has w g t cur → o + vs.length ≤ cur.size →
    ∃ cur', Has (w.setCells g o vs) g t cur' ∧ cur'.size = cur.size ∧ (∀ j, j < o → cur'[j]? = cur[j]?) ∧ (∀ j, j < vs.length → cur'[o + j]? = vs[j]?) ∧ Fr (fun k => k = g) w (w.setCells g o vs)
  | [], o, w, cur, h, _ => ⟨cur, h, rfl, fun _ _ => rfl, fun j hj => by simp at hj, Fr.refl _ _⟩
  | v :: r, o, w, cur, h, hlen => by
    have h1 := h.set o v
    obtain ⟨cur', h2, hs, hb, hi, hf⟩ := Has.sets g t r (o + 1) (w.setCell ⟨g, o, none⟩ v) _ h1 (by simp at hlen ⊢; omega)
    refine ⟨cur', h2, by simpa using hs, fun j hj => ?_, fun j hj => ?_, (Fr.store w g o v).trans hf (fun _ _ h => h)⟩
    · rw [hb j (by omega)]; simp [Array.getElem?_setIfInBounds]; intro he; omega
    · cases j with
      | zero => rw [Nat.add_zero, hb o (by omega)]; simp at hlen; simp [show o < cur.size by omega]
      | succ j => rw [show o + (j + 1) = o + 1 + j by omega, hi j (by simpa using hj)]; rfl

theorem bytes_nil {P : Program} {w : World} (t ty e : TypeId) (i : TypeInfo) (ht : P.underlying t = some (.slice e)) (hi : P.info? e = some i) (ao : Option Addr) (n cap c : Nat) (hn : n ≤ cap) (hx : ao = none → n = 0 ∧ cap = 0) :
    (Builtin.append_ #[t, t] ty #[.slice ao n cap, .slice none 0 c]).run P w = .ok (.slice ao n cap) w := by
  cases ao with
  | none =>
    obtain ⟨rfl, rfl⟩ := hx rfl
    simp [Builtin.append_, run_underlying ht, sizeOf, typeInfo, hi, Builtin.lenOf, Builtin.firstCells]
  | some g => simp [Builtin.append_, run_underlying ht, sizeOf, typeInfo, hi, Builtin.lenOf, Builtin.firstCells, hn, storeCells]

/-- append onto a slice that owns its block, the source whatever. -/
theorem run_append_sl {P : Program} (w : World) (S S2 : Nat → Prop) (t ty e : TypeId) (i : TypeInfo) (z : Value) (size bytes : Nat) (ht : P.underlying t = some (.slice e)) (hi : P.info? e = some i) (hz : i.zero = some z)
    (hsize : i.size = size) (hby : i.bytes = bytes) (hzs : z.cells.size = size) (hsz : 0 < size)
    (v : Value) (n : Nat) (xs : List Value) (hv : Sl w S e size v n xs)
    (A : Option Addr) (m c : Nat) (news : List Value) (hr : Rd w S2 A news) (hl : news.length = m * size) (h1 : ∀ u ∈ news, u.oneCell' = true)
    (h63 : n + m ≤ maxLen) (hbytes : (n + m) * bytes ≤ 140737488355328) :
    ∃ v' w', (Builtin.append_ #[t, t] ty #[v, .slice A m c]).run P w = .ok v' w' ∧ Sl w' (fun k => S k ∨ w.heap.size ≤ k) e size v' (n + m) (xs ++ news) ∧ Fr S w w' := by
  by_cases hm : m = 0
  · subst hm
    obtain rfl : news = [] := List.eq_nil_of_length_eq_zero (by simpa using hl)
    have hv' : Sl w (fun k => S k ∨ w.heap.size ≤ k) e size v (n + 0) (xs ++ []) := by simpa using hv.weak (fun _ _ h => .inl h)
    cases A with
    | none =>
      obtain ⟨B, cb, rfl, _, hn, hB⟩ := hv.form
      exact ⟨_, w, bytes_nil t ty e i ht hi B n cb c hn (fun h => ⟨by have := hB h; omega, hB h⟩), hv', Fr.refl _ _⟩
    | some a =>
      refine ⟨v, w, ?_, hv', Fr.refl _ _⟩
      rcases hv.2 with ⟨rfl, rfl⟩ | ⟨g, off, cap, cur, rfl, hh, hS, hn, _⟩
      · simp [Builtin.append_, run_underlying ht, sizeOf, typeInfo, hi, Builtin.lenOf, Builtin.firstCells, loadCells, loadCellsFrom]
      · simp [Builtin.append_, run_underlying ht, sizeOf, typeInfo, hi, Builtin.lenOf, Builtin.firstCells, loadCells, loadCellsFrom, hn, storeCells]
  · have hne : news ≠ [] := fun h => by
      subst h
      have : 0 < m * size := Nat.mul_pos (by omega) hsz
      simp at hl; omega
    obtain ⟨b, off2, rfl, _, _, hc⟩ := hr hne
    have hcells : ∀ j u, news[j]? = some u → w.cell? ((⟨b, off2, none⟩ : Addr).add j) = some u := fun j u hu => by rw [Addr.add_lit]; exact hc j u hu
    rcases hv.2 with ⟨rfl, rfl⟩ | ⟨g, off, cap, cur, rfl, hh, hS, hn, hco, hcm, hx⟩
    · obtain rfl : xs = [] := List.eq_nil_of_length_eq_zero (by simpa using hv.1)
      obtain ⟨v', w', hrun, hown, hg, _⟩ := run_append_own (P := P) w w.heap.size t ty e i z size bytes ht hi hz hsize hby hzs hsz (.slice none 0 0) 0 [] (World.ownsRow_nil w _ e size) ⟨b, off2, none⟩ m c news hl hcells h1 (by omega) hbytes (Nat.le_refl _)
      exact ⟨v', w', hrun, (Sl.of_own hown).weak (fun _ _ h => .inr h), (Fr.refl _ _).grown hg (fun k hk => by simp [Value.ownBlock] at hk)⟩
    · by_cases hroom : n + m ≤ cap
      · have hmul : n * size + m * size ≤ cap * size := by rw [← Nat.add_mul]; exact Nat.mul_le_mul_right _ hroom
        subst hsize
        have hrun := run_append_room_cells (P := P) w t ty e i ht hi g off n cap ⟨b, off2, none⟩ m c news hl hcells h1 hroom
          (fun j hj => by rw [hh.cell]; simp; omega) (fun j hj => hh.frozen _)
        obtain ⟨cur', hh', hs', hb', hi', hf'⟩ := Has.sets g e news (off + n * i.size) w cur hh (by omega)
        refine ⟨_, _, hrun, ⟨by rw [List.length_append, hv.1, hl, Nat.add_mul], .inr ⟨g, off, cap, cur', rfl, hh', .inl hS, hroom, by rw [hs']; exact hco, hcm, fun j hj => ?_⟩⟩, hf'.weak (fun k _ h => by subst h; exact hS)⟩
        rw [Nat.add_mul] at hj
        by_cases hjn : j < n * i.size
        · rw [hb' _ (by omega), hx j hjn, List.getElem?_append_left (by rw [hv.1]; exact hjn)]
        · rw [List.getElem?_append_right (by rw [hv.1]; omega), hv.1, show off + j = off + n * i.size + (j - n * i.size) by omega, hi' _ (by omega)]
      · have holds : ∀ j u, xs[j]? = some u → w.cell? ((⟨g, off, none⟩ : Addr).add j) = some u := fun j u hu => by
          have hj : j < xs.length := (List.getElem?_eq_some_iff.1 hu).1
          rw [Addr.add_lit, hh.cell, hx j (by have := hv.1; omega), hu]
        obtain ⟨v', w', hrun, hown, hg⟩ := run_append_arg_grows (P := P) w t ty e i z size bytes ht hi hz hsize hby hzs hsz ⟨g, off, none⟩ n cap xs hv.1 holds ⟨b, off2, none⟩ m c news hl hcells (by omega) h63 hbytes
        exact ⟨v', w', hrun, (Sl.of_own hown).weak (fun _ _ h => .inr h), (Fr.refl _ _).grown hg (fun k hk => by cases hk)⟩

section
variable {P : Program} (w : World) {ops : Array Oper} {rest : List Oper} {o : Oper} {a : Act} {Q : Exit → Act → World → Prop}
theorem wp_append_sl {K : Act → World → Prop} (s x : Operand) (t : TypeId) (ho : o.op = .call { callee := .builtin .append, args := #[s, x], argTypes := #[t, t] })
    (S S2 : Nat → Prop) (e : TypeId) (i : TypeInfo) (z : Value) (size bytes : Nat) (ht : P.underlying t = some (.slice e)) (hi : P.info? e = some i) (hz : i.zero = some z)
    (hsize : i.size = size) (hby : i.bytes = bytes) (hzs : z.cells.size = size) (hsz : 0 < size)
    (v : Value) (n : Nat) (xs : List Value) (hs : a.eval s = v) (hv : Sl w S e size v n xs)
    (A : Option Addr) (m c : Nat) (news : List Value) (hx : a.eval x = .slice A m c) (hr : Rd w S2 A news) (hl : news.length = m * size) (h1 : ∀ u ∈ news, u.oneCell' = true)
    (h63 : n + m ≤ maxLen) (hbytes : (n + m) * bytes ≤ 140737488355328)
    (h : ∀ v' w', Sl w' (fun k => S k ∨ w.heap.size ≤ k) e size v' (n + m) (xs ++ news) → Fr S w w' → K (a.put o.dst v') w') : o.wp P a w K Q := by
  obtain ⟨v', w', hrun, h2, h3⟩ := run_append_sl (P := P) w S S2 t o.type e i z size bytes ht hi hz hsize hby hzs hsz v n xs hv A m c news hr hl h1 h63 hbytes
  unfold Oper.wp execOp
  simp only [ho, resolve, invoke, builtin, Sem.run_bind, Sem.run_pure, Result.andThen_ok, List.map_toArray, List.map_cons, List.map_nil, hs, hx, hrun]
  exact h v' w' h2 h3

theorem wpList_append_sl (hgd : o.guard = none) (s x : Operand) (t : TypeId) (ho : o.op = .call { callee := .builtin .append, args := #[s, x], argTypes := #[t, t] })
    (S S2 : Nat → Prop) (e : TypeId) (i : TypeInfo) (z : Value) (size bytes : Nat) (ht : P.underlying t = some (.slice e)) (hi : P.info? e = some i) (hz : i.zero = some z)
    (hsize : i.size = size) (hby : i.bytes = bytes) (hzs : z.cells.size = size) (hsz : 0 < size)
    (v : Value) (n : Nat) (xs : List Value) (hs : a.eval s = v) (hv : Sl w S e size v n xs)
    (A : Option Addr) (m c : Nat) (news : List Value) (hx : a.eval x = .slice A m c) (hr : Rd w S2 A news) (hl : news.length = m * size) (h1 : ∀ u ∈ news, u.oneCell' = true)
    (h63 : n + m ≤ maxLen) (hbytes : (n + m) * bytes ≤ 140737488355328)
    (h : ∀ v' w', Sl w' (fun k => S k ∨ w.heap.size ≤ k) e size v' (n + m) (xs ++ news) → Fr S w w' → wpList P ops Q rest (a.put o.dst v') w') : wpList P ops Q (o :: rest) a w :=
  wpList_plain hgd fun _ hK => wp_append_sl w s x t ho S S2 e i z size bytes ht hi hz hsize hby hzs hsz v n xs hs hv A m c news hx hr hl h1 h63 hbytes fun v' w' h2 h3 => hK _ _ (h v' w' h2 h3)

theorem step_append_sl {K : Act → World → Prop} {E : Prop} (hgd : o.guard = none) (s x : Operand) (t : TypeId) (ho : o.op = .call { callee := .builtin .append, args := #[s, x], argTypes := #[t, t] })
    (S S2 : Nat → Prop) (e : TypeId) (i : TypeInfo) (z : Value) (size bytes : Nat) (ht : P.underlying t = some (.slice e)) (hi : P.info? e = some i) (hz : i.zero = some z)
    (hsize : i.size = size) (hby : i.bytes = bytes) (hzs : z.cells.size = size) (hsz : 0 < size)
    (v : Value) (n : Nat) (xs : List Value) (hs : a.eval s = v) (hv : Sl w S e size v n xs)
    (A : Option Addr) (m c : Nat) (news : List Value) (hx : a.eval x = .slice A m c) (hr : Rd w S2 A news) (hl : news.length = m * size) (h1 : ∀ u ∈ news, u.oneCell' = true)
    (h63 : n + m ≤ maxLen) (hbytes : (n + m) * bytes ≤ 140737488355328)
    (h : ∀ v' w', Sl w' (fun k => S k ∨ w.heap.size ≤ k) e size v' (n + m) (xs ++ news) → Fr S w w' → K (a.put o.dst v') w') :
    if Region.wanted o (yielded ops a.tmps) = true then Oper.wp P o a w K Q else E := by
  have hw : Region.wanted o (yielded ops a.tmps) = true := by simp [Region.wanted, hgd]
  rw [if_pos hw]
  exact wp_append_sl w s x t ho S S2 e i z size bytes ht hi hz hsize hby hzs hsz v n xs hs hv A m c news hx hr hl h1 h63 hbytes h
end

/-- x[lo:] of a slice that owns its block. -/
theorem Sl.cut {w : World} {S : Nat → Prop} {e : TypeId} {size : Nat} {A : Option Addr} {n c : Nat} {xs : List Value} (h : Sl w S e size (.slice A n c) n xs) (k : Nat) (hk : k ≤ n) :
    Sl w S e size (.slice (if c = k then A else A.map (·.add (k * size))) (n - k) (c - k)) (n - k) (xs.drop (k * size)) := by
  refine ⟨by rw [List.length_drop, h.1, Nat.sub_mul], ?_⟩
  rcases h.2 with ⟨hv, rfl⟩ | ⟨g, off, cap, cur, hv, hh, hS, hn, hco, hcm, hx⟩
  · cases hv
    obtain rfl : k = 0 := by omega
    exact .inl ⟨by simp, rfl⟩
  · cases hv
    by_cases hck : c = k
    · subst hck
      rw [if_pos rfl]
      refine .inr ⟨g, off, _, cur, rfl, hh, hS, by omega, by simp; omega, by omega, fun j hj => ?_⟩
      have : n - c = 0 := by omega
      rw [this] at hj; simp at hj
    · rw [if_neg hck]
      have hm1 : k * size + (c - k) * size = c * size := by rw [← Nat.add_mul]; congr 1; omega
      refine .inr ⟨g, off + k * size, _, cur, by rw [Option.map_some, Addr.add_lit], hh, hS, by omega, by omega, by omega, fun j hj => ?_⟩
      have hm2 : k * size + (n - k) * size = n * size := by rw [← Nat.add_mul]; congr 1; omega
      rw [Nat.add_assoc, hx _ (by omega), List.getElem?_drop]

/-- The run of x[lo:], whatever the world. -/
theorem Sl.run_cut {P : Program} {w : World} {S : Nat → Prop} {e : TypeId} {size : Nat} {A : Option Addr} {n c : Nat} {xs : List Value} (t : TypeId) (i : TypeInfo) (ht : P.underlying t = some (.slice e)) (hi : P.info? e = some i) (hz : i.size = size)
    (h : Sl w S e size (.slice A n c) n xs) (k : Nat) (hk : k ≤ n) :
    ∃ A' c', (∀ w1, (Instr.slice t (.slice A n c) (some (.int .i64 (k : Int))) none none).run P w1 = .ok (.slice A' (n - k) c') w1) ∧ Sl w S e size (.slice A' (n - k) c') (n - k) (xs.drop (k * size)) := by
  refine ⟨_, _, fun w1 => ?_, h.cut k hk⟩
  simp [Instr.slice, Instr.sliceBounds, Instr.sliceBound, run_underlying ht, sizeOf, typeInfo, hi, hz, hk, asIntOf]

end Go.Proofs.Ytjiolobkobpohaa
