/- Two lists of entries side by side; scripts. -/
import Derived.Test.YthpkdgneijggoaaP
import Derived.Test.YthpkdgneijggoaaG
namespace Go.Proofs.Ythpkdgneijggoaa
open Go.RowKit

/-- The TLB and the reference, apart, in blocks from base on: the one's below hi1, the other's below hi2. -/
def Two (base hi1 hi2 : Nat) (w : World) (pt pw : Nat) (room : Int) (L M : List Tr) : Prop :=
  ∃ S1 S2 : Nat → Prop, TlbAt w 52 S1 pt room L ∧ TlbAt w 48 S2 pw room M ∧ (∀ k, S1 k → ¬ S2 k) ∧ (∀ k, S1 k → base ≤ k ∧ k < hi1) ∧ (∀ k, S2 k → base ≤ k ∧ k < hi2)

section
variable {base hi1 hi2 : Nat} {w w' : World} {pt pw : Nat} {room : Int} {L M L' M' : List Tr}

theorem Two.fr (h : Two base hi1 hi2 w pt pw room L M) (hf : Fr (fun _ => False) w w') : Two base hi1 hi2 w' pt pw room L M := by
  obtain ⟨S1, S2, h1, h2, hd, b1, b2⟩ := h
  exact ⟨S1, S2, h1.fr hf (fun _ _ _ h => h), h2.fr hf (fun _ _ _ h => h), hd, b1, b2⟩

theorem Two.up {a b : Nat} (h : Two base hi1 hi2 w pt pw room L M) (ha : hi1 ≤ a) (hb : hi2 ≤ b) : Two base a b w pt pw room L M := by
  obtain ⟨S1, S2, h1, h2, hd, b1, b2⟩ := h
  exact ⟨S1, S2, h1, h2, hd, fun k hk => ⟨(b1 k hk).1, by have := (b1 k hk).2; omega⟩, fun k hk => ⟨(b2 k hk).1, by have := (b2 k hk).2; omega⟩⟩

theorem Two.left (h : Two base hi1 hi2 w pt pw room L M) (hb : base ≤ w.heap.size) (_hb1 : hi1 ≤ w.heap.size) (hb2 : hi2 ≤ w.heap.size) {f : FuncId} {args : Array Value} {R : Ending → Prop}
    (hc : ∀ S, TlbAt w 52 S pt room L → Calls Try.prog f args w fun e w' => R e ∧ TlbAt w' 52 (More S w) pt room L' ∧ Fr S w w') :
    Calls Try.prog f args w fun e w' => R e ∧ Two base w'.heap.size hi2 w' pt pw room L' M ∧ Fr (fun k => base ≤ k ∧ k < hi1) w w' := by
  obtain ⟨S1, S2, h1, h2, hd, b1, b2⟩ := h
  refine (hc S1 h1).mono fun e w' ⟨hR, ht, hf⟩ => ⟨hR, ?_, hf.weak (fun k _ hk => b1 k hk)⟩
  have hs := hf.size
  refine ⟨fun k => More S1 w k ∧ k < w'.heap.size, S2, ht.weak (fun k hk h => ⟨h, hk⟩), h2.fr hf (fun k _ h2 h1 => hd k h1 h2), ?_, ?_, b2⟩
  · rintro k ⟨h | h, _⟩ h2
    · exact hd k h h2
    · have := (b2 k h2).2; omega
  · rintro k ⟨h | h, hl⟩
    · exact ⟨(b1 k h).1, hl⟩
    · exact ⟨by omega, hl⟩

theorem Two.right (h : Two base hi1 hi2 w pt pw room L M) (hb : base ≤ w.heap.size) (hb1 : hi1 ≤ w.heap.size) (_hb2 : hi2 ≤ w.heap.size) {f : FuncId} {args : Array Value} {R : Ending → Prop}
    (hc : ∀ S, TlbAt w 48 S pw room M → Calls Try.prog f args w fun e w' => R e ∧ TlbAt w' 48 (More S w) pw room M' ∧ Fr S w w') :
    Calls Try.prog f args w fun e w' => R e ∧ Two base hi1 w'.heap.size w' pt pw room L M' ∧ Fr (fun k => base ≤ k ∧ k < hi2) w w' := by
  obtain ⟨S1, S2, h1, h2, hd, b1, b2⟩ := h
  refine (hc S2 h2).mono fun e w' ⟨hR, ht, hf⟩ => ⟨hR, ?_, hf.weak (fun k _ hk => b2 k hk)⟩
  have hs := hf.size
  refine ⟨S1, fun k => More S2 w k ∧ k < w'.heap.size, h1.fr hf (fun k _ h1 h2 => hd k h1 h2), ht.weak (fun k hk h => ⟨h, hk⟩), ?_, b1, ?_⟩
  · rintro k h1 ⟨h | h, _⟩
    · exact hd k h1 h
    · have := (b1 k h1).2; omega
  · rintro k ⟨h | h, hl⟩
    · exact ⟨(b2 k h).1, hl⟩
    · exact ⟨by omega, hl⟩

theorem Two.clearR (h : Two base hi1 hi2 w pt pw room L M) : Two base hi1 hi2 (w.setCell ⟨pw, 1, none⟩ (.slice none 0 0)) pt pw room L [] ∧ Fr (fun k => base ≤ k ∧ k < hi2) w (w.setCell ⟨pw, 1, none⟩ (.slice none 0 0)) := by
  obtain ⟨S1, S2, h1, ⟨v, hp, hS, hv⟩, hd, b1, b2⟩ := h
  have hf := Fr.store w pw 1 (.slice none 0 0)
  exact ⟨⟨S1, S2, h1.fr hf (fun k _ h1 (e : k = pw) => hd k h1 (e ▸ hS)), ⟨_, by simpa using hp.set 1 (.slice none 0 0), hS, Sl.nil _ _ _ _⟩, hd, b1, b2⟩, hf.weak (fun k _ (e : k = pw) => by rw [e]; exact b2 pw hS)⟩
theorem Two.cellR (h : Two base hi1 hi2 w pt pw room L M) : (∃ v, w.cell? ⟨pw, 1, none⟩ = some v) ∧ w.frozen? ⟨pw, 1, none⟩ = false := by
  obtain ⟨S1, S2, h1, ⟨v, hp, hS, hv⟩, hd, b1, b2⟩ := h
  exact ⟨⟨v, by rw [hp.cell 1]; rfl⟩, hp.frozen 1⟩
end

/-- A call of a script. -/
structure Sc where
  kind : Int
  n : Int
  t : Tr
def Sc.cells (s : Sc) : List Value := [.int .i64 s.kind, .int .i64 s.n, .int .i64 s.t.vm, .int .u64 s.t.pg, .int .u64 s.t.fr, .int .i64 s.t.pm]
def flatS (l : List Sc) : List Value := l.flatMap Sc.cells
theorem flatS_length (l : List Sc) : (flatS l).length = l.length * 6 := by
  induction l with
  | nil => rfl
  | cons t l ih => simp [flatS, Sc.cells] at ih ⊢; omega
theorem flatS_at (l : List Sc) (k : Nat) (hk : k < l.length) (j : Nat) (hj : j < 6) : (flatS l)[k * 6 + j]? = l[k].cells[j]? := by
  induction l generalizing k with
  | nil => simp at hk
  | cons t l ih =>
    have e : flatS (t :: l) = t.cells ++ flatS l := by simp [flatS]
    have hl : t.cells.length = 6 := rfl
    cases k with
    | zero => rw [e, List.getElem?_append_left (by omega)]; simp
    | succ k =>
      rw [e, List.getElem?_append_right (by omega), hl, show (k + 1) * 6 + j - 6 = k * 6 + j by omega]
      simpa using ih k (by simpa using hk)

/-- The six cells of call k, in a later world, in the walk's spelling. -/
theorem sc_cells {w wr : World} {S : Nat → Prop} {b off : Nat} {l : List Sc} {k : Nat} (hfr : Fr S w wr) (hb : b < w.heap.size) (hn : ¬ S b)
    (hc : ∀ j u, (flatS l)[j]? = some u → w.cell? ⟨b, off + j, none⟩ = some u) (hk : k < l.length) :
    wr.cell? ⟨b, off + k * 6, none⟩ = some (.int .i64 l[k].kind) ∧ wr.cell? ⟨b, off + k * 6 + 1, none⟩ = some (.int .i64 l[k].n) ∧
      wr.cell? ⟨b, off + k * 6 + 2, none⟩ = some (.int .i64 l[k].t.vm) ∧ wr.cell? ⟨b, off + k * 6 + 3, none⟩ = some (.int .u64 l[k].t.pg) ∧
      wr.cell? ⟨b, off + k * 6 + 4, none⟩ = some (.int .u64 l[k].t.fr) ∧ wr.cell? ⟨b, off + k * 6 + 5, none⟩ = some (.int .i64 l[k].t.pm) := by
  have h := fun j hj => flatS_at l k hk j hj
  exact ⟨(hfr.cell (p := ⟨b, _, none⟩) hb hn).trans (hc _ _ ((h 0 (by omega)).trans rfl)), (hfr.cell (p := ⟨b, _, none⟩) hb hn).trans (hc _ _ ((h 1 (by omega)).trans rfl)),
    (hfr.cell (p := ⟨b, _, none⟩) hb hn).trans (hc _ _ ((h 2 (by omega)).trans rfl)), (hfr.cell (p := ⟨b, _, none⟩) hb hn).trans (hc _ _ ((h 3 (by omega)).trans rfl)),
    (hfr.cell (p := ⟨b, _, none⟩) hb hn).trans (hc _ _ ((h 4 (by omega)).trans rfl)), (hfr.cell (p := ⟨b, _, none⟩) hb hn).trans (hc _ _ ((h 5 (by omega)).trans rfl))⟩

end Go.Proofs.Ythpkdgneijggoaa
