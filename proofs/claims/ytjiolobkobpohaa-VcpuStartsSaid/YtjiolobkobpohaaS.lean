/- What comes in, opened: numbers, virtual harts by value, slices of them. -/
import Derived.Test.YtjiolobkobpohaaK
import Derived.ProofKit
import Derived.OpenShut
import Derived.ShutString
import Derived.ChangeOld
import Derived.Below
import Derived.SizedLaws
import Derived.Carry
import Derived.Deep.Slices
namespace Go.Proofs.Ytjiolobkobpohaa
open Go.ChangeShapes Go.WideShapes Go.ChangeAt Go.RowKit Go.Deep

theorem Try.own : ownKnob Try.prog.godebug = none := by kernel_rfl
theorem Try.laidOut : laidOutB Try.prog = true := by kernel_rfl
theorem u64_of {n : Int} (h : (Lit.int .u64 n).wf = true) : ∃ m : Nat, n = m ∧ m < 18446744073709551616 := by
  have h1 : IntKind.u64.min = 0 := by decide
  have h2 : IntKind.u64.max = 18446744073709551615 := by decide
  simp [Lit.wf, h1, h2] at h
  exact ⟨n.toNat, by omega, by omega⟩

/-- A cell of the kind of its place. -/
def OkCell (j : Nat) (c : Value) : Prop := match kd j with
  | .u => ∃ n : Nat, c = .int .u64 n ∧ n < 18446744073709551616
  | .b => ∃ b, c = .bool b
  | .i => ∃ i, c = .int .i64 i ∧ (Lit.int .i64 i).wf = true
theorem Try.cells28 : Try.prog.cellsOf 28 = 32 := by kernel_rfl
theorem Try.cells30 : Try.prog.cellsOf 30 = 49 := by kernel_rfl
theorem Try.cells32 : Try.prog.cellsOf 32 = 52 := by kernel_rfl
theorem Try.cells4 : Try.prog.cellsOf 4 = 1 := by kernel_rfl
theorem Try.cells3 : Try.prog.cellsOf 3 = 1 := by kernel_rfl
theorem Try.bytes32 : Try.prog.bytesOf 32 = 368 := by kernel_rfl

section
variable {H : Type} {enc : TypeId × Value → H} {w : World} {base : Nat} {spare : Nat → Bool} {held : Bool}
theorem one_cell {cs : List Value} {o : Nat} {c d : Value} (h : (cs.drop o).take 1 = [d]) (hc : cs[o]? = some c) : c = d := by
  have h1 : ((cs.drop o).take 1)[0]? = some c := by simp [hc]
  rw [h] at h1
  simpa using h1.symm
theorem ok_u {fuel : Nat} {cs : List Value} {x : DataW H × List MemPlace} {o : Nat} {c : Value} (h : DataW.trod enc Try.prog w base spare held fuel 22 ((cs.drop o).take 1) = some x) (hk : kd o = .u) (hc : cs[o]? = some c) : OkCell o c := by
  obtain ⟨n, e, _, hw⟩ := DataW.trod_int Try.underlying22 h
  obtain ⟨m, rfl, hm⟩ := u64_of hw
  unfold OkCell; rw [hk]
  exact ⟨m, one_cell e hc, hm⟩
theorem ok_b {fuel : Nat} {cs : List Value} {x : DataW H × List MemPlace} {o : Nat} {c : Value} (h : DataW.trod enc Try.prog w base spare held fuel 4 ((cs.drop o).take 1) = some x) (hk : kd o = .b) (hc : cs[o]? = some c) : OkCell o c := by
  obtain ⟨b, e, _⟩ := DataW.trod_bool Try.underlying4 h
  unfold OkCell; rw [hk]
  exact ⟨b, one_cell e hc⟩
theorem ok_i {fuel : Nat} {cs : List Value} {x : DataW H × List MemPlace} {o : Nat} {c : Value} (h : DataW.trod enc Try.prog w base spare held fuel 3 ((cs.drop o).take 1) = some x) (hk : kd o = .i) (hc : cs[o]? = some c) : OkCell o c := by
  obtain ⟨n, e, _, hw⟩ := DataW.trod_int Try.underlying3 h
  unfold OkCell; rw [hk]
  exact ⟨n, one_cell e hc, hw⟩
theorem ok_x {fuel : Nat} {cs : List Value} {x : DataW H × List MemPlace} (h : DataW.trod enc Try.prog w base spare held fuel 28 cs = some x) (j : Nat) (c : Value) (hc : cs[j]? = some c) : OkCell j c := by
  obtain ⟨xs, m, _, _, hl, hx, hi⟩ := DataW.trod_array Try.underlying28 h
  rw [Try.cells28] at hl
  have hj : j < 32 := by have := (List.getElem?_eq_some_iff.1 hc).1; omega
  have h1 := hi j hj
  rw [Try.cells22, Nat.mul_one, List.getElem?_eq_getElem (by omega)] at h1
  exact ok_u h1 (by unfold kd; rw [if_pos (by omega)]) hc
theorem ok_h {fuel : Nat} {cs : List Value} {x : DataW H × List MemPlace} (h : DataW.trod enc Try.prog w base spare held fuel 30 cs = some x) (j : Nat) (c : Value) (hc : cs[j]? = some c) : OkCell j c := by
  obtain ⟨xs, m, _, _, hl, hx, hi⟩ := DataW.trod_struct struct30 h
  rw [Try.cells30] at hl
  have hj : j < 49 := by have := (List.getElem?_eq_some_iff.1 hc).1; omega
  obtain ⟨f, hf1, hf2⟩ := List.any_eq_true.1 (List.all_eq_true.1 cover30 j (by simpa using hj))
  have hok := List.all_eq_true.1 fields30 f hf1
  obtain ⟨k, hk⟩ := List.getElem?_of_mem hf1
  have hk' : (Try.prog.fieldsOf 30)[k]? = some f := by simpa using hk
  have hkl : k < xs.length := by rw [hx]; exact (Array.getElem?_eq_some_iff.1 hk').1
  have h1 := hi k f hk'
  rw [List.getElem?_eq_getElem hkl] at h1
  simp only [fok30, Bool.and_eq_true, Bool.or_eq_true, beq_iff_eq, decide_eq_true_eq] at hok
  rcases hok.2 with (⟨ht, ho⟩ | ⟨⟨ht, ho⟩, hl2⟩) | ⟨⟨ht, ho⟩, hl2⟩
  · simp [fin30, ht] at hf2
    rw [ht, ho, Try.cells28] at h1
    exact ok_x h1 j c (by simp [hc, hf2])
  · simp [fin30, ht] at hf2
    subst hf2
    rw [ht, Try.cells22] at h1
    exact ok_u h1 (kdB_u ho) hc
  · simp [fin30, ht] at hf2
    subst hf2
    rw [ht, Try.cells4] at h1
    exact ok_b h1 (kdB_b ho) hc
theorem ok_v {fuel : Nat} {cs : List Value} {x : DataW H × List MemPlace} (h : DataW.trod enc Try.prog w base spare held fuel 32 cs = some x) : cs.length = 52 ∧ ∀ j c, cs[j]? = some c → OkCell j c := by
  obtain ⟨xs, m, _, _, hl, hx, hi⟩ := DataW.trod_struct struct32 h
  rw [Try.cells32] at hl
  refine ⟨hl, fun j c hc => ?_⟩
  have hj : j < 52 := by have := (List.getElem?_eq_some_iff.1 hc).1; omega
  obtain ⟨f, hf1, hf2⟩ := List.any_eq_true.1 (List.all_eq_true.1 cover32 j (by simpa using hj))
  have hok := List.all_eq_true.1 fields32 f hf1
  obtain ⟨k, hk⟩ := List.getElem?_of_mem hf1
  have hk' : (Try.prog.fieldsOf 32)[k]? = some f := by simpa using hk
  have hkl : k < xs.length := by rw [hx]; exact (Array.getElem?_eq_some_iff.1 hk').1
  have h1 := hi k f hk'
  rw [List.getElem?_eq_getElem hkl] at h1
  simp only [fok32, Bool.and_eq_true, Bool.or_eq_true, beq_iff_eq] at hok
  rcases hok.2 with ((⟨ht, ho⟩ | ⟨ht, ho⟩) | ⟨ht, ho⟩) | ⟨ht, ho⟩
  · simp [fin32, ht] at hf2
    rw [ht, ho, Try.cells30] at h1
    exact ok_h h1 j c (by simp [hc, hf2])
  · simp [fin32, ht] at hf2
    subst hf2
    rw [ht, Try.cells3] at h1
    exact ok_i h1 (by rw [ho]; rfl) hc
  · simp [fin32, ht] at hf2
    subst hf2
    rw [ht, Try.cells4] at h1
    exact ok_b h1 (by rw [ho]; rfl) hc
  · simp [fin32, ht] at hf2
    subst hf2
    rw [ht, Try.cells22] at h1
    exact ok_u h1 (by rw [ho]; rfl) hc
/-- The virtual hart that such cells are. -/
def ofCells (cs : List Value) : V :=
  ⟨fun j => match cs[j]? with | some (.int _ n) => n.toNat | _ => 0, fun j => match cs[j]? with | some (.bool b) => b | _ => false, match (cs[49]? : Option Value) with | some (Value.int _ n) => n | _ => 0⟩
end
theorem ofCells_at {cs : List Value} (h : ∀ j c, cs[j]? = some c → OkCell j c) (j : Nat) (c : Value) (hc : cs[j]? = some c) : c = cellAt (ofCells cs) j := by
  have h1 := h j c hc
  unfold OkCell at h1
  unfold cellAt
  cases hk : kd j with
  | u =>
    rw [hk] at h1
    obtain ⟨n, rfl, _⟩ := h1
    simp [ofCells, hc]
  | b =>
    rw [hk] at h1
    obtain ⟨b, rfl⟩ := h1
    simp [ofCells, hc]
  | i =>
    rw [hk] at h1
    obtain ⟨i, rfl, _⟩ := h1
    have := kd_i hk
    subst this
    simp [ofCells, hc]
/-- Its numbers at their places alone. -/
def V.trim (x : V) : V := ⟨fun j => if kdB j = 0 ∧ j < 52 then x.u j else 0, x.b, x.i⟩
theorem trim_at (x : V) (j : Nat) (hj : j < 52) : cellAt x.trim j = cellAt x j := by
  unfold cellAt
  cases hk : kd j with
  | u => simp [V.trim, kdB, hk, hj]
  | b => rfl
  | i => rfl
theorem ofCells_wf {cs : List Value} (hl : cs.length = 52) (h : ∀ j c, cs[j]? = some c → OkCell j c) : (ofCells cs).trim.Wf := by
  refine ⟨fun j => ?_, ?_⟩
  · show (if kdB j = 0 ∧ j < 52 then (ofCells cs).u j else 0) < 18446744073709551616
    split
    · rename_i hc
      have h1 := h j _ (List.getElem?_eq_getElem (by omega))
      unfold OkCell at h1
      rw [kdB_u hc.1] at h1
      obtain ⟨n, e, hn⟩ := h1
      simp only [ofCells, List.getElem?_eq_getElem (show j < cs.length by omega), e]
      simpa using hn
    · omega
  · have h1 := h 49 _ (List.getElem?_eq_getElem (by omega))
    obtain ⟨i, e, hi⟩ : ∃ i, cs[49] = .int .i64 i ∧ (Lit.int .i64 i).wf = true := h1
    show (Lit.int .i64 (ofCells cs).i).wf = true
    simp only [ofCells, List.getElem?_eq_getElem (show 49 < cs.length by omega), e]
    exact hi

section
variable {H : Type} {enc : TypeId × Value → H} {w : World} {base : Nat} {spare : Nat → Bool} {held : Bool}
theorem open_cells {fuel : Nat} {cs : List Value} {x : DataW H × List MemPlace} (h : DataW.trod enc Try.prog w base spare held fuel 32 cs = some x) :
    ∃ y : V, y.Wf ∧ cs.length = 52 ∧ ∀ j, j < 52 → cs[j]? = some (cellAt y j) := by
  obtain ⟨hl, hok⟩ := ok_v h
  refine ⟨(ofCells cs).trim, ofCells_wf hl hok, hl, fun j hj => ?_⟩
  rw [trim_at _ _ hj, ← ofCells_at hok j _ (List.getElem?_eq_getElem (by omega)), List.getElem?_eq_getElem (by omega)]
theorem open_v {r : Reach} {b0 : Nat} {v : Value} {d : DataW H} {p : List MemPlace} (hv : Value.okWide Try.prog w r b0 32 v) (h : DataW.Trod enc Try.prog w base spare held 32 v d p) :
    ∃ y : V, v = .agg (arr 52 (cellAt y)) ∧ y.Wf := by
  obtain ⟨cs, rfl, hsz⟩ := okWide_struct struct32 hv
  obtain ⟨fuel, hf⟩ := h
  obtain ⟨y, hy, hl, hc⟩ := open_cells hf
  refine ⟨y, ?_, hy⟩
  congr 1
  apply Array.ext_getElem?
  intro j
  by_cases hj : j < 52
  · rw [arr_get _ _ _ hj, ← hc j hj]; simp [Value.cells]
  · rw [arr_none _ _ _ (by omega), Array.getElem?_eq_none (by simp [Value.cells] at hl; omega)]
theorem open_vs {a : Option Addr} {len cap fuel : Nat} {x : DataW H × List MemPlace} (h : DataW.trod enc Try.prog w base spare held fuel 24 [.slice a len cap] = some x) :
    ∃ l : Nat → V, (a = none → len = 0) ∧ (SlR w a len l ∧ ∀ k, k < len → (l k).Wf) ∧ ((∀ n ∈ x.1.weights Try.prog 24, n ≤ reachBytes) → len * 368 ≤ 140737488351232) := by
  rcases open_slice Try.underlying24 h with ⟨hcs, hx⟩ | ⟨a', len', cap', m, n, D, Pl, hcs, hb, hl, hm, hmm, hx, hi⟩
  · simp at hcs
    obtain ⟨rfl, rfl, rfl⟩ := hcs
    exact ⟨fun _ => V.zero, fun _ => rfl, ⟨(fun h => absurd h (Nat.lt_irrefl _)), fun k hk => by omega⟩, fun _ => by omega⟩
  · simp at hcs
    obtain ⟨rfl, rfl, rfl⟩ := hcs
    have hlm : len ≤ m := by rw [hmm]; split <;> omega
    have hel : ∀ k, ∃ y : V, k < len → y.Wf ∧ ∀ j, j < 52 → w.cell? (a'.add (k * 52 + j)) = some (cellAt y j) := fun k => by
      by_cases hk : k < len
      · obtain ⟨cs', hcs', ht⟩ := hi k (by omega)
        rw [Try.cells32] at hcs'
        obtain ⟨y, hy, _, hc⟩ := open_cells ht
        obtain ⟨_, _, hat⟩ := World.cells?_some hcs'
        exact ⟨y, fun _ => ⟨hy, fun j hj => by rw [← hc j hj, ← hat j hj, Go.Deep.add_add]⟩⟩
      · exact ⟨V.zero, fun h => absurd h hk⟩
    obtain ⟨l, hL⟩ := Classical.axiomOfChoice hel
    refine ⟨l, (fun h => by cases h), ⟨fun h0 => ?_, fun k hk => (hL k hk).1⟩, fun hw => ?_⟩
    · obtain ⟨b, off, spot⟩ := a'
      have h1 := (hL 0 h0).2 0 (by omega)
      have hspot : spot = none := by simpa [Addr.add] using World.cell?_spot h1
      subst hspot
      refine ⟨b, off, rfl, fun _ => World.block_lt_of_cell? _ _ h1, fun k j hk hj => ?_⟩
      have := (hL k hk).2 j hj
      rw [Addr.add_lit] at this
      exact this
    · have h1 := hw ((len + (m - len)) * Try.prog.bytesOf 32) (by rw [hx]; simp [DataW.weights, Try.underlying24])
      rw [Try.bytes32] at h1
      simp only [reachBytes] at h1
      rw [show len + (m - len) = m by omega] at h1
      exact Nat.le_trans (Nat.mul_le_mul_right _ hlm) h1
end
end Go.Proofs.Ytjiolobkobpohaa
