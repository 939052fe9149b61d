/- Slices and scripts that come in, opened to cells. -/
import Derived.Test.YtnjddnmekcjhnaaS
namespace Go.Proofs.Ytnjddnmekcjhnaa
open Go.ChangeShapes Go.WideShapes Go.ChangeAt Go.RowKit Go.Deep

theorem Try.cells3 : Try.prog.cellsOf 3 = 1 := by kernel_rfl
theorem Try.cells5 : Try.prog.cellsOf 5 = 1 := by kernel_rfl
theorem Try.cells27 : Try.prog.cellsOf 27 = 1 := by kernel_rfl
theorem Try.cells31 : Try.prog.cellsOf 31 = 5 := by kernel_rfl
theorem Try.bytes3 : Try.prog.bytesOf 3 = 8 := by kernel_rfl
theorem Try.bytes5 : Try.prog.bytesOf 5 = 1 := by kernel_rfl
theorem Try.bytes27 : Try.prog.bytesOf 27 = 8 := by kernel_rfl
theorem Try.bytes31 : Try.prog.bytesOf 31 = 40 := by kernel_rfl

/-- One step of a script. -/
structure Sc where
  kind : Int
  size : Int
  src : Int
  off : Nat
  v : Nat
  ho : off < 18446744073709551616
  hv : v < 18446744073709551616
def Sc.cells (s : Sc) : List Value := [.int .i64 s.kind, .int .i64 s.size, .int .i64 s.src, .int .u64 s.off, .int .u64 s.v]

def B8 := { n : Nat // n < 256 }
def B64 := { n : Nat // n < 18446744073709551616 }

section
variable {H : Type} {enc : TypeId × Value → H} {w : World} {base : Nat} {spare : Nat → Bool} {held : Bool}

theorem field_any {P : Program} {t ty off size fuel i : Nat} {fs : Array Field} {cs : List Value} {x : DataW H × List MemPlace} (ht : P.underlying t = some (.struct fs)) (h : DataW.trod enc P w base spare held fuel t cs = some x)
    (hi : (fs[i]?).map (fun f => (f.type, f.offset)) = some (ty, off)) (hc : P.cellsOf ty = size) :
    ∃ m y, DataW.trod enc P w base spare held m ty ((cs.drop off).take size) = some y := by
  obtain ⟨xs, n, _, _, _, hl, hf⟩ := DataW.trod_struct ht h
  obtain ⟨f, hfi, hp⟩ := Option.map_eq_some_iff.1 hi
  simp only [Prod.mk.injEq] at hp
  obtain ⟨rfl, rfl⟩ := hp
  have h1 := hf i f hfi
  rw [hc] at h1
  have hlt : i < xs.length := by rw [hl]; exact (Array.getElem?_eq_some_iff.1 hfi).1
  rw [List.getElem?_eq_getElem hlt] at h1
  exact ⟨n, _, h1⟩

theorem field_int {P : Program} {t ty off fuel i : Nat} {k : IntKind} {fs : Array Field} {cs : List Value} {x : DataW H × List MemPlace} (ht : P.underlying t = some (.struct fs)) (h : DataW.trod enc P w base spare held fuel t cs = some x)
    (hi : (fs[i]?).map (fun f => (f.type, f.offset)) = some (ty, off)) (hc : P.cellsOf ty = 1) (hty : P.underlying ty = some (.int k)) :
    ∃ n, (cs.drop off).take 1 = [.int k n] ∧ (Lit.int k n).wf = true := by
  obtain ⟨m, y, h1⟩ := field_any ht h hi hc
  obtain ⟨n, e, _, hw⟩ := DataW.trod_int hty h1
  exact ⟨n, e, hw⟩

theorem open_sc {fuel : Nat} {cs : List Value} {x : DataW H × List MemPlace} (h : DataW.trod enc Try.prog w base spare held fuel 31 cs = some x) :
    ∃ s : Sc, cs = s.cells := by
  obtain ⟨_, _, _, _, hl, _⟩ := DataW.trod_struct Try.underlying31 h
  rw [Try.cells31] at hl
  obtain ⟨c0, c1, c2, c3, c4, rfl⟩ : ∃ c0 c1 c2 c3 c4, cs = [c0, c1, c2, c3, c4] := by
    match cs, hl with
    | [c0, c1, c2, c3, c4], _ => exact ⟨c0, c1, c2, c3, c4, rfl⟩
  obtain ⟨a0, e0, _⟩ := field_int (i := 0) Try.underlying31 h rfl Try.cells3 Try.underlying3
  obtain ⟨a1, e1, _⟩ := field_int (i := 1) Try.underlying31 h rfl Try.cells3 Try.underlying3
  obtain ⟨a2, e2, _⟩ := field_int (i := 2) Try.underlying31 h rfl Try.cells3 Try.underlying3
  obtain ⟨a3, e3, w3⟩ := field_int (i := 3) Try.underlying31 h rfl Try.cells27 Try.underlying27
  obtain ⟨a4, e4, w4⟩ := field_int (i := 4) Try.underlying31 h rfl Try.cells27 Try.underlying27
  obtain ⟨m3, rfl, h3⟩ := u64_of w3
  obtain ⟨m4, rfl, h4⟩ := u64_of w4
  simp at e0 e1 e2 e3 e4
  subst e0 e1 e2 e3 e4
  exact ⟨⟨a0, a1, a2, m3, m4, h3, h4⟩, rfl⟩
theorem open_i64 {fuel : Nat} {cs : List Value} {x : DataW H × List MemPlace} (h : DataW.trod enc Try.prog w base spare held fuel 3 cs = some x) : ∃ s : Int, cs = [.int .i64 s] := by
  obtain ⟨n, e, _, _⟩ := DataW.trod_int Try.underlying3 h
  exact ⟨n, e⟩
theorem open_u64 {fuel : Nat} {cs : List Value} {x : DataW H × List MemPlace} (h : DataW.trod enc Try.prog w base spare held fuel 27 cs = some x) : ∃ s : B64, cs = [.int .u64 (s.1 : Int)] := by
  obtain ⟨n, e, _, hw⟩ := DataW.trod_int Try.underlying27 h
  obtain ⟨m, rfl, hm⟩ := u64_of hw
  exact ⟨⟨m, hm⟩, e⟩
theorem open_u8 {fuel : Nat} {cs : List Value} {x : DataW H × List MemPlace} (h : DataW.trod enc Try.prog w base spare held fuel 5 cs = some x) : ∃ s : B8, cs = [.int .u8 (s.1 : Int)] := by
  obtain ⟨n, e, _, hw⟩ := DataW.trod_int Try.underlying5 h
  obtain ⟨m, rfl, hm⟩ := u8_of hw
  exact ⟨⟨m, hm⟩, e⟩

/-- A list of cells' rows, each of which reads as an element. -/
theorem rows_of {α : Type} (cells : α → List Value) (size : Nat) (hlen : ∀ x, (cells x).length = size) (a : Addr) : ∀ (n : Nat), (∀ i, i < n → ∃ x, ∀ j, j < size → w.cell? (a.add (i * size + j)) = (cells x)[j]?) →
    ∃ l : List α, l.length = n ∧ ∀ j, j < n * size → w.cell? (a.add j) = (l.flatMap cells)[j]?
  | 0, _ => ⟨[], rfl, fun j hj => by omega⟩
  | n + 1, h => by
    obtain ⟨l, hl, hc⟩ := rows_of cells size hlen a n (fun i hi => h i (by omega))
    obtain ⟨x, hx⟩ := h n (by omega)
    have hfl : (l.flatMap cells).length = n * size := by
      clear hc h hx
      induction l generalizing n with
      | nil => simp at hl; subst hl; simp
      | cons y l ih => simp at hl; subst hl; rw [List.flatMap_cons, List.length_append, hlen, ih l.length rfl, Nat.add_mul]; omega
    refine ⟨l ++ [x], by simp [hl], fun j hj => ?_⟩
    rw [List.flatMap_append]
    by_cases hj2 : j < n * size
    · rw [hc j hj2, List.getElem?_append_left (by omega)]
    · rw [List.getElem?_append_right (by omega), hfl]
      have := hx (j - n * size) (by rw [Nat.add_mul] at hj; omega)
      rw [show n * size + (j - n * size) = j by omega] at this
      rw [this]; simp

theorem flatMap_len {α : Type} (cells : α → List Value) (size : Nat) (hlen : ∀ x, (cells x).length = size) (l : List α) : (l.flatMap cells).length = l.length * size := by
  induction l with
  | nil => simp
  | cons y l ih => rw [List.flatMap_cons, List.length_append, hlen, ih, List.length_cons, Nat.add_mul]; omega
theorem open_rows {α : Type} (cells : α → List Value) (size bytes T E : Nat) (ht : Try.prog.underlying T = some (.slice E)) (hce : Try.prog.cellsOf E = size) (hbe : Try.prog.bytesOf E = bytes) (hlen : ∀ x, (cells x).length = size) (hpos : 0 < size)
    (hopen : ∀ {fuel : Nat} {cs : List Value} {x : DataW H × List MemPlace}, DataW.trod enc Try.prog w base spare held fuel E cs = some x → ∃ s : α, cs = cells s)
    {a : Option Addr} {len cap fuel : Nat} {x : DataW H × List MemPlace} (h : DataW.trod enc Try.prog w base spare held fuel T [.slice a len cap] = some x) :
    ∃ ops : List α, len = ops.length ∧ Rd w (fun _ => True) a (ops.flatMap cells) ∧ ((∀ n ∈ x.1.weights Try.prog T, n ≤ reachBytes) → len * bytes ≤ 140737488351232) := by
  rcases open_slice ht h with ⟨hcs, hx⟩ | ⟨a', len', cap', m, n, D, Pl, hcs, hb, hl, hm, hmm, hx, hi⟩
  · simp at hcs
    obtain ⟨rfl, rfl, rfl⟩ := hcs
    exact ⟨[], rfl, Rd.nil _ _ _, fun _ => by omega⟩
  · simp at hcs
    obtain ⟨rfl, rfl, rfl⟩ := hcs
    have hlm : len ≤ m := by rw [hmm]; split <;> omega
    obtain ⟨ops, ho, hc⟩ := rows_of (w := w) cells size hlen a' len (fun i hil => by
      obtain ⟨cs', hcs', ht⟩ := hi i (by omega)
      rw [hce] at hcs'
      obtain ⟨s, rfl⟩ := hopen ht
      obtain ⟨_, _, hat⟩ := World.cells?_some hcs'
      exact ⟨s, fun j hj => by rw [← hat j hj, Go.Deep.add_add]⟩)
    refine ⟨ops, ho.symm, fun hne => ?_, fun hw => ?_⟩
    · have hp : 0 < len := by
        rcases Nat.eq_zero_or_pos len with h0 | h0
        · subst h0
          have : ops = [] := List.eq_nil_of_length_eq_zero ho
          subst this
          exact absurd rfl hne
        · exact h0
      have hfl := flatMap_len cells size hlen ops
      obtain ⟨b, off, spot⟩ := a'
      have hc : ∀ j, j < len * size → w.cell? ((⟨b, off, spot⟩ : Addr).add j) = (ops.flatMap cells)[j]? := hc
      have hms : 0 < len * size := Nat.mul_pos hp hpos
      have h0 := hc 0 hms
      rw [List.getElem?_eq_getElem (by rw [hfl, ho]; exact hms)] at h0
      have hspot : spot = none := by simpa [Addr.add] using World.cell?_spot h0
      subst hspot
      refine ⟨b, off, rfl, World.block_lt_of_cell? _ _ h0, trivial, fun j u hu => ?_⟩
      have hj : j < (ops.flatMap cells).length := (List.getElem?_eq_some_iff.1 hu).1
      have := hc j (by rw [← ho, ← hfl]; exact hj)
      rw [Addr.add_lit] at this
      rw [this]; exact hu
    · have h1 := hw ((len + (m - len)) * Try.prog.bytesOf E) (by rw [hx]; simp [DataW.weights, ht])
      rw [hbe] at h1
      simp only [reachBytes] at h1
      rw [show len + (m - len) = m by omega] at h1
      exact Nat.le_trans (Nat.mul_le_mul_right _ hlm) h1

def flatS (l : List Sc) : List Value := l.flatMap Sc.cells
theorem open_script {a : Option Addr} {len cap fuel : Nat} {x : DataW H × List MemPlace} (h : DataW.trod enc Try.prog w base spare held fuel 22 [.slice a len cap] = some x) :
    ∃ ops : List Sc, len = ops.length ∧ Rd w (fun _ => True) a (flatS ops) ∧ ((∀ n ∈ x.1.weights Try.prog 22, n ≤ reachBytes) → len * 40 ≤ 140737488351232) :=
  open_rows Sc.cells 5 40 22 31 Try.underlying22 Try.cells31 Try.bytes31 (fun _ => rfl) (by omega) open_sc h
theorem flat_map1 {α : Type} (f : α → Value) (l : List α) : l.flatMap (fun x => [f x]) = l.map f := by
  induction l with
  | nil => rfl
  | cons x l ih => rw [List.flatMap_cons, ih]; rfl
theorem open_sints {a : Option Addr} {len cap fuel : Nat} {x : DataW H × List MemPlace} (h : DataW.trod enc Try.prog w base spare held fuel 53 [.slice a len cap] = some x) :
    ∃ l : List Int, len = l.length ∧ Rd w (fun _ => True) a (l.map fun z => .int .i64 z) ∧ ((∀ n ∈ x.1.weights Try.prog 53, n ≤ reachBytes) → len * 8 ≤ 140737488351232) := by
  obtain ⟨l, h1, h2, h3⟩ := open_rows (fun z : Int => [Value.int .i64 z]) 1 8 53 3 Try.underlying53 Try.cells3 Try.bytes3 (fun _ => rfl) (by omega) open_i64 h
  rw [flat_map1] at h2
  exact ⟨l, h1, h2, h3⟩
theorem open_words {a : Option Addr} {len cap fuel : Nat} {x : DataW H × List MemPlace} (h : DataW.trod enc Try.prog w base spare held fuel 23 [.slice a len cap] = some x) :
    ∃ l : List B64, len = l.length ∧ Rd w (fun _ => True) a (l.map fun z => .int .u64 (z.1 : Int)) ∧ ((∀ n ∈ x.1.weights Try.prog 23, n ≤ reachBytes) → len * 8 ≤ 140737488351232) := by
  obtain ⟨l, h1, h2, h3⟩ := open_rows (fun z : B64 => [Value.int .u64 (z.1 : Int)]) 1 8 23 27 Try.underlying23 Try.cells27 Try.bytes27 (fun _ => rfl) (by omega) open_u64 h
  rw [flat_map1] at h2
  exact ⟨l, h1, h2, h3⟩
theorem open_bytes {a : Option Addr} {len cap fuel : Nat} {x : DataW H × List MemPlace} (h : DataW.trod enc Try.prog w base spare held fuel 55 [.slice a len cap] = some x) :
    ∃ l : List Nat, (len = l.length ∧ ∀ z ∈ l, z < 256) ∧ Rd w (fun _ => True) a (bytes l) ∧ ((∀ n ∈ x.1.weights Try.prog 55, n ≤ reachBytes) → len * 1 ≤ 140737488351232) := by
  obtain ⟨l, h1, h2, h3⟩ := open_rows (fun z : B8 => [Value.int .u8 (z.1 : Int)]) 1 1 55 5 Try.underlying55 Try.cells5 Try.bytes5 (fun _ => rfl) (by omega) open_u8 h
  rw [flat_map1] at h2
  refine ⟨l.map (·.1), ⟨by simpa using h1, fun z hz => ?_⟩, by rw [bytes, List.map_map]; exact h2, h3⟩
  obtain ⟨y, _, rfl⟩ := List.mem_map.1 hz
  exact y.2
end

theorem flatS_length (l : List Sc) : (flatS l).length = l.length * 5 := flatMap_len Sc.cells 5 (fun _ => rfl) l
theorem flatS_at (l : List Sc) (k : Nat) (hk : k < l.length) (j : Nat) (hj : j < 5) : (flatS l)[k * 5 + j]? = l[k].cells[j]? := by
  induction l generalizing k with
  | nil => simp at hk
  | cons x l ih =>
    rw [show flatS (x :: l) = x.cells ++ flatS l from rfl]
    cases k with
    | zero => rw [List.getElem?_append_left (by simp [Sc.cells]; omega)]; simp
    | succ k =>
      rw [List.getElem?_append_right (by simp [Sc.cells]; omega), show x.cells.length = 5 from rfl, show (k + 1) * 5 + j - 5 = k * 5 + j by omega]
      exact ih k (by simpa using hk)
theorem sc_cells {w wr : World} {S : Nat → Prop} {b off : Nat} {l : List Sc} {k : Nat} (hfr : Fr S w wr) (hb : b < w.heap.size) (hn : ¬ S b)
    (hc : ∀ j u, (flatS l)[j]? = some u → w.cell? ⟨b, off + j, none⟩ = some u) (hk : k < l.length) :
    wr.cell? ⟨b, off + k * 5, none⟩ = some (.int .i64 l[k].kind) ∧ wr.cell? ⟨b, off + k * 5 + 1, none⟩ = some (.int .i64 l[k].size) ∧
      wr.cell? ⟨b, off + k * 5 + 2, none⟩ = some (.int .i64 l[k].src) ∧ wr.cell? ⟨b, off + k * 5 + 3, none⟩ = some (.int .u64 l[k].off) ∧
      wr.cell? ⟨b, off + k * 5 + 4, none⟩ = some (.int .u64 l[k].v) := by
  have h := fun j hj => flatS_at l k hk j hj
  exact ⟨(hfr.cell (p := ⟨b, _, none⟩) hb hn).trans (hc _ _ ((h 0 (by omega)).trans rfl)), (hfr.cell (p := ⟨b, _, none⟩) hb hn).trans (hc _ _ ((h 1 (by omega)).trans rfl)),
    (hfr.cell (p := ⟨b, _, none⟩) hb hn).trans (hc _ _ ((h 2 (by omega)).trans rfl)), (hfr.cell (p := ⟨b, _, none⟩) hb hn).trans (hc _ _ ((h 3 (by omega)).trans rfl)),
    (hfr.cell (p := ⟨b, _, none⟩) hb hn).trans (hc _ _ ((h 4 (by omega)).trans rfl))⟩

end Go.Proofs.Ytnjddnmekcjhnaa
