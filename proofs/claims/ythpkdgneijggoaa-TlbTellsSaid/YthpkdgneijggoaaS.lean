/- A script that comes in, opened to cells. -/
import Derived.Test.YthpkdgneijggoaaQ
import Derived.ProofKit
import Derived.OpenShut
import Derived.ShutString
import Derived.ChangeOld
import Derived.Below
import Derived.SizedLaws
import Derived.Carry
import Derived.Deep.Slices
namespace Go.Proofs.Ythpkdgneijggoaa
open Go.ChangeShapes Go.WideShapes Go.ChangeAt Go.RowKit Go.Deep

theorem Try.own : ownKnob Try.prog.godebug = none := by kernel_rfl
theorem Try.laidOut : laidOutB Try.prog = true := by kernel_rfl
theorem Try.cells3 : Try.prog.cellsOf 3 = 1 := by kernel_rfl
theorem Try.cells29 : Try.prog.cellsOf 29 = 1 := by kernel_rfl
theorem Try.cells31 : Try.prog.cellsOf 31 = 4 := by kernel_rfl
theorem Try.cells33 : Try.prog.cellsOf 33 = 6 := by kernel_rfl
theorem Try.bytes33 : Try.prog.bytesOf 33 = 48 := by kernel_rfl

section
variable {H : Type} {enc : TypeId × Value → H} {w : World} {base : Nat} {spare : Nat → Bool} {held : Bool}

theorem field_any {P : Program} {t ty off size fuel i : Nat} {fs : Array Field} {cs : List Value} {x : DataW H × List MemPlace} (ht : P.underlying t = some (.struct fs)) (h : DataW.trod enc P w base spare held fuel t cs = some x)
    (hi : (fs[i]?).map (fun f => (f.type, f.offset)) = some (ty, off)) (hc : P.cellsOf ty = size) :
    ∃ m y, DataW.trod enc P w base spare held m ty ((cs.drop off).take size) = some y := by
  obtain ⟨xs, n, _, _, _, hl, hf⟩ := DataW.trod_struct ht h
  obtain ⟨f, hfi, hp⟩ := Option.map_eq_some_iff.1 hi
  simp only [Prod.mk.injEq] at hp
  obtain ⟨rfl, rfl⟩ := hp
  have h1 := hf i f hfi
  rw [hc] at h1
  have hlt : i < xs.length := by rw [hl]; exact (Array.getElem?_eq_some_iff.1 hfi).1
  rw [List.getElem?_eq_getElem hlt] at h1
  exact ⟨n, _, h1⟩

theorem field_int {P : Program} {t ty off fuel i : Nat} {k : IntKind} {fs : Array Field} {cs : List Value} {x : DataW H × List MemPlace} (ht : P.underlying t = some (.struct fs)) (h : DataW.trod enc P w base spare held fuel t cs = some x)
    (hi : (fs[i]?).map (fun f => (f.type, f.offset)) = some (ty, off)) (hc : P.cellsOf ty = 1) (hty : P.underlying ty = some (.int k)) :
    ∃ n, (cs.drop off).take 1 = [.int k n] ∧ (Lit.int k n).wf = true := by
  obtain ⟨m, y, h1⟩ := field_any ht h hi hc
  obtain ⟨n, e, _, hw⟩ := DataW.trod_int hty h1
  exact ⟨n, e, hw⟩

theorem open_sc {fuel : Nat} {cs : List Value} {x : DataW H × List MemPlace} (h : DataW.trod enc Try.prog w base spare held fuel 33 cs = some x) :
    ∃ s : Sc, cs = s.cells := by
  obtain ⟨_, _, _, _, hl, _⟩ := DataW.trod_struct Try.underlying33 h
  rw [Try.cells33] at hl
  obtain ⟨c0, c1, c2, c3, c4, c5, rfl⟩ : ∃ c0 c1 c2 c3 c4 c5, cs = [c0, c1, c2, c3, c4, c5] := by
    match cs, hl with
    | [c0, c1, c2, c3, c4, c5], _ => exact ⟨c0, c1, c2, c3, c4, c5, rfl⟩
  obtain ⟨a0, e0, _⟩ := field_int (i := 0) Try.underlying33 h rfl Try.cells3 Try.underlying3
  obtain ⟨a1, e1, _⟩ := field_int (i := 1) Try.underlying33 h rfl Try.cells3 Try.underlying3
  obtain ⟨m, y, h2⟩ := field_any (i := 2) Try.underlying33 h rfl Try.cells31
  obtain ⟨b0, f0, _⟩ := field_int (i := 0) Try.underlying31 h2 rfl Try.cells3 Try.underlying3
  obtain ⟨b1, f1, _⟩ := field_int (i := 1) Try.underlying31 h2 rfl Try.cells29 Try.underlying29
  obtain ⟨b2, f2, _⟩ := field_int (i := 2) Try.underlying31 h2 rfl Try.cells29 Try.underlying29
  obtain ⟨b3, f3, _⟩ := field_int (i := 3) Try.underlying31 h2 rfl Try.cells3 Try.underlying3
  simp at e0 e1 f0 f1 f2 f3
  subst e0 e1 f0 f1 f2 f3
  exact ⟨⟨a0, a1, ⟨b0, b1, b2, b3⟩⟩, rfl⟩

/-- A list of cells' rows, each of which reads as an element. -/
theorem rows_of {α : Type} (cells : α → List Value) (size : Nat) (hlen : ∀ x, (cells x).length = size) (a : Addr) : ∀ (n : Nat), (∀ i, i < n → ∃ x, ∀ j, j < size → w.cell? (a.add (i * size + j)) = (cells x)[j]?) →
    ∃ l : List α, l.length = n ∧ ∀ j, j < n * size → w.cell? (a.add j) = (l.flatMap cells)[j]?
  | 0, _ => ⟨[], rfl, fun j hj => by omega⟩
  | n + 1, h => by
    obtain ⟨l, hl, hc⟩ := rows_of cells size hlen a n (fun i hi => h i (by omega))
    obtain ⟨x, hx⟩ := h n (by omega)
    have hfl : (l.flatMap cells).length = n * size := by
      clear hc h hx
      induction l generalizing n with
      | nil => simp at hl; subst hl; simp
      | cons y l ih => simp at hl; subst hl; rw [List.flatMap_cons, List.length_append, hlen, ih l.length rfl, Nat.add_mul]; omega
    refine ⟨l ++ [x], by simp [hl], fun j hj => ?_⟩
    rw [List.flatMap_append]
    by_cases hj2 : j < n * size
    · rw [hc j hj2, List.getElem?_append_left (by omega)]
    · rw [List.getElem?_append_right (by omega), hfl]
      have := hx (j - n * size) (by rw [Nat.add_mul] at hj; omega)
      rw [show n * size + (j - n * size) = j by omega] at this
      rw [this]; simp

theorem open_script {a : Option Addr} {len cap fuel : Nat} {x : DataW H × List MemPlace} (h : DataW.trod enc Try.prog w base spare held fuel 22 [.slice a len cap] = some x) :
    ∃ ops : List Sc, len = ops.length ∧ Rd w (fun _ => True) a (flatS ops) ∧ ((∀ n ∈ x.1.weights Try.prog 22, n ≤ reachBytes) → len * 48 ≤ 140737488351232) := by
  rcases open_slice Try.underlying22 h with ⟨hcs, hx⟩ | ⟨a', len', cap', m, n, D, Pl, hcs, hb, hl, hm, hmm, hx, hi⟩
  · simp at hcs
    obtain ⟨rfl, rfl, rfl⟩ := hcs
    exact ⟨[], rfl, Rd.nil _ _ _, fun _ => by omega⟩
  · simp at hcs
    obtain ⟨rfl, rfl, rfl⟩ := hcs
    have hlm : len ≤ m := by rw [hmm]; split <;> omega
    obtain ⟨ops, ho, hc⟩ := rows_of (w := w) Sc.cells 6 (fun _ => rfl) a' len (fun i hil => by
      obtain ⟨cs', hcs', ht⟩ := hi i (by omega)
      rw [Try.cells33] at hcs'
      obtain ⟨s, rfl⟩ := open_sc ht
      obtain ⟨_, _, hat⟩ := World.cells?_some hcs'
      exact ⟨s, fun j hj => by rw [← hat j hj, Go.Deep.add_add]⟩)
    refine ⟨ops, ho.symm, fun hne => ?_, fun hw => ?_⟩
    · have hpos : 0 < len := by
        rcases Nat.eq_zero_or_pos len with h0 | h0
        · subst h0
          have : ops = [] := List.eq_nil_of_length_eq_zero ho
          subst this
          exact absurd rfl hne
        · exact h0
      have hfl := flatS_length ops
      obtain ⟨b, off, spot⟩ := a'
      have hc : ∀ j, j < len * 6 → w.cell? ((⟨b, off, spot⟩ : Addr).add j) = (flatS ops)[j]? := hc
      have h0 := hc 0 (by omega)
      rw [List.getElem?_eq_getElem (by omega)] at h0
      have hspot : spot = none := by simpa [Addr.add] using World.cell?_spot h0
      subst hspot
      refine ⟨b, off, rfl, World.block_lt_of_cell? _ _ h0, trivial, fun j u hu => ?_⟩
      have hj : j < (flatS ops).length := (List.getElem?_eq_some_iff.1 hu).1
      have := hc j (by omega)
      rw [Addr.add_lit] at this
      rw [this]; exact hu
    · have h1 := hw ((len + (m - len)) * Try.prog.bytesOf 33) (by rw [hx]; simp [DataW.weights, Try.underlying22])
      rw [Try.bytes33] at h1
      simp only [reachBytes] at h1
      omega
end

end Go.Proofs.Ythpkdgneijggoaa
