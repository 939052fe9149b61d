/-
  No cell of these rows narrows 'for every input' (looked for: loops, veiled, ifaces, maps, wideKeys, modest, calm, conditions, laid).
  DERIVED. THE GIVEN ROWS OF THIS SEAT. 3 by the template 'for every input the law returns true; each argument reads behind the call as it read before'; 0 by the template 'total and deterministic' (their statements: YthpkdgneijggoaaTotals.lean).
  GIVEN WITH THE SEED: the statements are not yours to turn. If you find one false, say at which input.
  Laid BY PROGRAM, IN A SANDBOX (cutbox-rows.mjs): the forced cells as the released guide's own fill.sh prints them over the translation a9e1ba30bd7197a9… (all of the seat's roots in one cut). By AI agents, Wed Nov 11 2026. No macro, syntax, notation, axiom, sorry.
-/
import Derived.Test.YthpkdgneijggoaaChecked
import GoSem.Claim
import GoSem.ClaimJoined
import GoSem.ClaimMapViews
import Derived.JoinedTies
import Derived.KernelRfl
namespace Go.Proofs.Ythpkdgneijggoaa
/- THE CELL 'sum', in the pinned program and in every row, IS THE sha256 OF THE DUMP (.gsa) THAT YthpkdgneijggoaaProg.lean LOADS. Nothing in Lean hashes anything: it is a label: what it is worth is what the hold of that sum in a sandbox is worth. -/
noncomputable def Try.pinned : Pinned := { name := "ythpkdgneijggoaa", sum := "a9e1ba30bd7197a904f4861dd03e7c1bbc5669919fdc1515267122c26320fc4c", checked := Try.checked }
namespace Rows
def none {H : Type} : Left H := { results := [], args := [] }

/-- 'citadellaw05.TlbFlushes': WHATEVER THE INPUT: true; the input reads as it did. -/
def tlbFlushesSpec : ChangeSpec := { name := "tlbFlushes", fn := fun _ => fun
  | [d1, d2, d3] => { results := [.lit (.bool true)], args := [d1, d2, d3] }
  | _ => none }
def tlbFlushesRow : OpenClaim := { program := "ythpkdgneijggoaa", sum := "a9e1ba30bd7197a904f4861dd03e7c1bbc5669919fdc1515267122c26320fc4c", func := "citadel/citadellaw05.TlbFlushes", spec := "tlbFlushes", unfollowed := true, recurses := true, apart := false }
def TlbFlushesSaid : Prop := tlbFlushesRow.holds Try.pinned (OpenSpec.ofChange tlbFlushesSpec)

/-- ITS FALSE NEIGHBOUR: 'it returns false'. Refute it at one input. -/
def tlbFlushesWrong : ChangeSpec := { name := "tlbFlushes", fn := fun _ => fun
  | [d1, d2, d3] => { results := [.lit (.bool false)], args := [d1, d2, d3] }
  | _ => none }
def TlbFlushesWrongFalsely : Prop := tlbFlushesRow.holds Try.pinned (OpenSpec.ofChange tlbFlushesWrong)

/-- 'citadellaw05.TlbPlays': WHATEVER THE INPUT: true; the input reads as it did. -/
def tlbPlaysSpec : ChangeSpec := { name := "tlbPlays", fn := fun _ => fun
  | [d1, d2] => { results := [.lit (.bool true)], args := [d1, d2] }
  | _ => none }
def tlbPlaysRow : OpenClaim := { program := "ythpkdgneijggoaa", sum := "a9e1ba30bd7197a904f4861dd03e7c1bbc5669919fdc1515267122c26320fc4c", func := "citadel/citadellaw05.TlbPlays", spec := "tlbPlays", unfollowed := true, recurses := true, apart := false }
def TlbPlaysSaid : Prop := tlbPlaysRow.holds Try.pinned (OpenSpec.ofChange tlbPlaysSpec)

/-- ITS FALSE NEIGHBOUR: 'it returns false'. Refute it at one input. -/
def tlbPlaysWrong : ChangeSpec := { name := "tlbPlays", fn := fun _ => fun
  | [d1, d2] => { results := [.lit (.bool false)], args := [d1, d2] }
  | _ => none }
def TlbPlaysWrongFalsely : Prop := tlbPlaysRow.holds Try.pinned (OpenSpec.ofChange tlbPlaysWrong)

/-- 'citadellaw05.TlbTells': WHATEVER THE INPUT: true; the input reads as it did. -/
def tlbTellsSpec : ChangeSpec := { name := "tlbTells", fn := fun _ => fun
  | [d1, d2, d3, d4] => { results := [.lit (.bool true)], args := [d1, d2, d3, d4] }
  | _ => none }
def tlbTellsRow : OpenClaim := { program := "ythpkdgneijggoaa", sum := "a9e1ba30bd7197a904f4861dd03e7c1bbc5669919fdc1515267122c26320fc4c", func := "citadel/citadellaw05.TlbTells", spec := "tlbTells", unfollowed := true, recurses := true, apart := false }
def TlbTellsSaid : Prop := tlbTellsRow.holds Try.pinned (OpenSpec.ofChange tlbTellsSpec)

/-- ITS FALSE NEIGHBOUR: 'it returns false'. Refute it at one input. -/
def tlbTellsWrong : ChangeSpec := { name := "tlbTells", fn := fun _ => fun
  | [d1, d2, d3, d4] => { results := [.lit (.bool false)], args := [d1, d2, d3, d4] }
  | _ => none }
def TlbTellsWrongFalsely : Prop := tlbTellsRow.holds Try.pinned (OpenSpec.ofChange tlbTellsWrong)

/- THE SECOND FORM. 'bulk': how many values and letters a reading holds, each counted each time it is reached (what is shared counts as often as it is met; a slice's spare places count too). A statement '..UptoSaid' is the law's where the arguments, and the package variables that the reading takes, are together of bulk at most 1048576: NARROWER than '..Said'. Prove '..Said' where nothing that the law and all that it calls make is longer than what came in: it says more and counts as full. Else prove '..UptoSaid'. A law counts once. -/
mutual
def uptoBulk {H : Type} : DataW H → Nat
  | .lit (.string bytes) => bytes.length + 1
  | .lit _ => 1
  | .nil => 1
  | .ptr d => uptoBulk d + 1
  | .slice elems spare => uptoBulkAll elems + uptoBulkAll spare + 1
  | .agg parts => uptoBulkAll parts + 1
  | .iface _ d => uptoBulk d + 1
  | .map entries => uptoBulkEntries entries + 1
  | .held _ => 1
def uptoBulkAll {H : Type} : List (DataW H) → Nat
  | [] => 0
  | d :: r => uptoBulk d + uptoBulkAll r
def uptoBulkEntries {H : Type} : List (Lit × DataW H) → Nat
  | [] => 0
  | x :: r => uptoBulkEntry x + uptoBulkEntries r
def uptoBulkEntry {H : Type} : Lit × DataW H → Nat
  | (.string bytes, d) => bytes.length + uptoBulk d + 1
  | (_, d) => uptoBulk d + 1
 end
def uptoSmall : (H : Type) → List (DataW H) → Bool := fun _ ds => decide (uptoBulkAll ds ≤ 1048576)
def OpenSpec.upto (s : _root_.Go.ChangeSpec) : _root_.Go.OpenSpec := { _root_.Go.OpenSpec.ofChange s with cond := some uptoSmall }

/-- 'citadellaw05.TlbFlushes', WHERE WHAT IT READS IS OF BULK AT MOST 1048576: true; the input reads as it did. -/
def tlbFlushesUptoRow : OpenClaim := { program := "ythpkdgneijggoaa", sum := "a9e1ba30bd7197a904f4861dd03e7c1bbc5669919fdc1515267122c26320fc4c", func := "citadel/citadellaw05.TlbFlushes", spec := "tlbFlushes", unfollowed := true, recurses := true, apart := false, narrowed := true }
def TlbFlushesUptoSaid : Prop := tlbFlushesUptoRow.holds Try.pinned (OpenSpec.upto tlbFlushesSpec)

/-- 'citadellaw05.TlbPlays', WHERE WHAT IT READS IS OF BULK AT MOST 1048576: true; the input reads as it did. -/
def tlbPlaysUptoRow : OpenClaim := { program := "ythpkdgneijggoaa", sum := "a9e1ba30bd7197a904f4861dd03e7c1bbc5669919fdc1515267122c26320fc4c", func := "citadel/citadellaw05.TlbPlays", spec := "tlbPlays", unfollowed := true, recurses := true, apart := false, narrowed := true }
def TlbPlaysUptoSaid : Prop := tlbPlaysUptoRow.holds Try.pinned (OpenSpec.upto tlbPlaysSpec)

/-- 'citadellaw05.TlbTells', WHERE WHAT IT READS IS OF BULK AT MOST 1048576: true; the input reads as it did. -/
def tlbTellsUptoRow : OpenClaim := { program := "ythpkdgneijggoaa", sum := "a9e1ba30bd7197a904f4861dd03e7c1bbc5669919fdc1515267122c26320fc4c", func := "citadel/citadellaw05.TlbTells", spec := "tlbTells", unfollowed := true, recurses := true, apart := false, narrowed := true }
def TlbTellsUptoSaid : Prop := tlbTellsUptoRow.holds Try.pinned (OpenSpec.upto tlbTellsSpec)

end Rows
end Go.Proofs.Ythpkdgneijggoaa
