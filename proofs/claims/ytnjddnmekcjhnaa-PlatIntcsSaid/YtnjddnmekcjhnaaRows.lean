/-
  No cell of these rows narrows 'for every input' (looked for: loops, veiled, ifaces, maps, wideKeys, modest, calm, conditions, laid).
  DERIVED. THE GIVEN ROWS OF THIS SEAT. 9 by the template 'for every input the law returns true; each argument reads behind the call as it read before'; 0 by the template 'total and deterministic' (their statements: YtnjddnmekcjhnaaTotals.lean).
  GIVEN WITH THE SEED: the statements are not yours to turn. If you find one false, say at which input.
  Laid BY PROGRAM, IN A SANDBOX (cutbox-rows.mjs): the forced cells as the released guide's own fill.sh prints them over the translation 5d9afadc75942372… (all of the seat's roots in one cut). By AI agents, Wed Nov 11 2026. No macro, syntax, notation, axiom, sorry.
-/
import Derived.Test.YtnjddnmekcjhnaaChecked
import GoSem.Claim
import GoSem.ClaimJoined
import GoSem.ClaimMapViews
import Derived.JoinedTies
import Derived.KernelRfl
namespace Go.Proofs.Ytnjddnmekcjhnaa
/- THE CELL 'sum', in the pinned program and in every row, IS THE sha256 OF THE DUMP (.gsa) THAT YtnjddnmekcjhnaaProg.lean LOADS. Nothing in Lean hashes anything: it is a label: what it is worth is what the hold of that sum in a sandbox is worth. -/
noncomputable def Try.pinned : Pinned := { name := "ytnjddnmekcjhnaa", sum := "5d9afadc7594237291b11e9f6263aa26453dcd45895fea4d6ae24ba4d66e38ce", checked := Try.checked }
namespace Rows
def none {H : Type} : Left H := { results := [], args := [] }

/-- 'citadellaw11.PlatClocks': WHATEVER THE INPUT: true; the input reads as it did. -/
def platClocksSpec : ChangeSpec := { name := "platClocks", fn := fun _ => fun
  | [d1, d2] => { results := [.lit (.bool true)], args := [d1, d2] }
  | _ => none }
def platClocksRow : OpenClaim := { program := "ytnjddnmekcjhnaa", sum := "5d9afadc7594237291b11e9f6263aa26453dcd45895fea4d6ae24ba4d66e38ce", func := "citadel/citadellaw11.PlatClocks", spec := "platClocks", apart := false }
def PlatClocksSaid : Prop := platClocksRow.holds Try.pinned (OpenSpec.ofChange platClocksSpec)

/-- ITS FALSE NEIGHBOUR: 'it returns false'. Refute it at one input. -/
def platClocksWrong : ChangeSpec := { name := "platClocks", fn := fun _ => fun
  | [d1, d2] => { results := [.lit (.bool false)], args := [d1, d2] }
  | _ => none }
def PlatClocksWrongFalsely : Prop := platClocksRow.holds Try.pinned (OpenSpec.ofChange platClocksWrong)

/-- 'citadellaw11.PlatHalves': WHATEVER THE INPUT: true; the input reads as it did. -/
def platHalvesSpec : ChangeSpec := { name := "platHalves", fn := fun _ => fun
  | [d1, d2] => { results := [.lit (.bool true)], args := [d1, d2] }
  | _ => none }
def platHalvesRow : OpenClaim := { program := "ytnjddnmekcjhnaa", sum := "5d9afadc7594237291b11e9f6263aa26453dcd45895fea4d6ae24ba4d66e38ce", func := "citadel/citadellaw11.PlatHalves", spec := "platHalves", apart := false }
def PlatHalvesSaid : Prop := platHalvesRow.holds Try.pinned (OpenSpec.ofChange platHalvesSpec)

/-- ITS FALSE NEIGHBOUR: 'it returns false'. Refute it at one input. -/
def platHalvesWrong : ChangeSpec := { name := "platHalves", fn := fun _ => fun
  | [d1, d2] => { results := [.lit (.bool false)], args := [d1, d2] }
  | _ => none }
def PlatHalvesWrongFalsely : Prop := platHalvesRow.holds Try.pinned (OpenSpec.ofChange platHalvesWrong)

/-- 'citadellaw11.PlatLets': WHATEVER THE INPUT: true; the input reads as it did. -/
def platLetsSpec : ChangeSpec := { name := "platLets", fn := fun _ => fun
  | [d1, d2, d3] => { results := [.lit (.bool true)], args := [d1, d2, d3] }
  | _ => none }
def platLetsRow : OpenClaim := { program := "ytnjddnmekcjhnaa", sum := "5d9afadc7594237291b11e9f6263aa26453dcd45895fea4d6ae24ba4d66e38ce", func := "citadel/citadellaw11.PlatLets", spec := "platLets", apart := false }
def PlatLetsSaid : Prop := platLetsRow.holds Try.pinned (OpenSpec.ofChange platLetsSpec)

/-- ITS FALSE NEIGHBOUR: 'it returns false'. Refute it at one input. -/
def platLetsWrong : ChangeSpec := { name := "platLets", fn := fun _ => fun
  | [d1, d2, d3] => { results := [.lit (.bool false)], args := [d1, d2, d3] }
  | _ => none }
def PlatLetsWrongFalsely : Prop := platLetsRow.holds Try.pinned (OpenSpec.ofChange platLetsWrong)

/-- 'citadellaw11.PlatIntcs': WHATEVER THE INPUT: true; the input reads as it did. -/
def platIntcsSpec : ChangeSpec := { name := "platIntcs", fn := fun _ => fun
  | [d1, d2] => { results := [.lit (.bool true)], args := [d1, d2] }
  | _ => none }
def platIntcsRow : OpenClaim := { program := "ytnjddnmekcjhnaa", sum := "5d9afadc7594237291b11e9f6263aa26453dcd45895fea4d6ae24ba4d66e38ce", func := "citadel/citadellaw11.PlatIntcs", spec := "platIntcs", apart := false }
def PlatIntcsSaid : Prop := platIntcsRow.holds Try.pinned (OpenSpec.ofChange platIntcsSpec)

/-- ITS FALSE NEIGHBOUR: 'it returns false'. Refute it at one input. -/
def platIntcsWrong : ChangeSpec := { name := "platIntcs", fn := fun _ => fun
  | [d1, d2] => { results := [.lit (.bool false)], args := [d1, d2] }
  | _ => none }
def PlatIntcsWrongFalsely : Prop := platIntcsRow.holds Try.pinned (OpenSpec.ofChange platIntcsWrong)

/-- 'citadellaw11.PlatClaims': WHATEVER THE INPUT: true; the input reads as it did. -/
def platClaimsSpec : ChangeSpec := { name := "platClaims", fn := fun _ => fun
  | [d1, d2, d3, d4] => { results := [.lit (.bool true)], args := [d1, d2, d3, d4] }
  | _ => none }
def platClaimsRow : OpenClaim := { program := "ytnjddnmekcjhnaa", sum := "5d9afadc7594237291b11e9f6263aa26453dcd45895fea4d6ae24ba4d66e38ce", func := "citadel/citadellaw11.PlatClaims", spec := "platClaims", apart := false }
def PlatClaimsSaid : Prop := platClaimsRow.holds Try.pinned (OpenSpec.ofChange platClaimsSpec)

/-- ITS FALSE NEIGHBOUR: 'it returns false'. Refute it at one input. -/
def platClaimsWrong : ChangeSpec := { name := "platClaims", fn := fun _ => fun
  | [d1, d2, d3, d4] => { results := [.lit (.bool false)], args := [d1, d2, d3, d4] }
  | _ => none }
def PlatClaimsWrongFalsely : Prop := platClaimsRow.holds Try.pinned (OpenSpec.ofChange platClaimsWrong)

/-- 'citadellaw11.PlatBytes': WHATEVER THE INPUT: true; the input reads as it did. -/
def platBytesSpec : ChangeSpec := { name := "platBytes", fn := fun _ => fun
  | [d1, d2, d3] => { results := [.lit (.bool true)], args := [d1, d2, d3] }
  | _ => none }
def platBytesRow : OpenClaim := { program := "ytnjddnmekcjhnaa", sum := "5d9afadc7594237291b11e9f6263aa26453dcd45895fea4d6ae24ba4d66e38ce", func := "citadel/citadellaw11.PlatBytes", spec := "platBytes", apart := false }
def PlatBytesSaid : Prop := platBytesRow.holds Try.pinned (OpenSpec.ofChange platBytesSpec)

/-- ITS FALSE NEIGHBOUR: 'it returns false'. Refute it at one input. -/
def platBytesWrong : ChangeSpec := { name := "platBytes", fn := fun _ => fun
  | [d1, d2, d3] => { results := [.lit (.bool false)], args := [d1, d2, d3] }
  | _ => none }
def PlatBytesWrongFalsely : Prop := platBytesRow.holds Try.pinned (OpenSpec.ofChange platBytesWrong)

/-- 'citadellaw11.PlatTells': WHATEVER THE INPUT: true; the input reads as it did. -/
def platTellsSpec : ChangeSpec := { name := "platTells", fn := fun _ => fun
  | [d1, d2, d3] => { results := [.lit (.bool true)], args := [d1, d2, d3] }
  | _ => none }
def platTellsRow : OpenClaim := { program := "ytnjddnmekcjhnaa", sum := "5d9afadc7594237291b11e9f6263aa26453dcd45895fea4d6ae24ba4d66e38ce", func := "citadel/citadellaw11.PlatTells", spec := "platTells", apart := false }
def PlatTellsSaid : Prop := platTellsRow.holds Try.pinned (OpenSpec.ofChange platTellsSpec)

/-- ITS FALSE NEIGHBOUR: 'it returns false'. Refute it at one input. -/
def platTellsWrong : ChangeSpec := { name := "platTells", fn := fun _ => fun
  | [d1, d2, d3] => { results := [.lit (.bool false)], args := [d1, d2, d3] }
  | _ => none }
def PlatTellsWrongFalsely : Prop := platTellsRow.holds Try.pinned (OpenSpec.ofChange platTellsWrong)

/-- 'citadellaw11.PlatLatches': WHATEVER THE INPUT: true; the input reads as it did. -/
def platLatchesSpec : ChangeSpec := { name := "platLatches", fn := fun _ => fun
  | [d1, d2, d3, d4] => { results := [.lit (.bool true)], args := [d1, d2, d3, d4] }
  | _ => none }
def platLatchesRow : OpenClaim := { program := "ytnjddnmekcjhnaa", sum := "5d9afadc7594237291b11e9f6263aa26453dcd45895fea4d6ae24ba4d66e38ce", func := "citadel/citadellaw11.PlatLatches", spec := "platLatches", apart := false }
def PlatLatchesSaid : Prop := platLatchesRow.holds Try.pinned (OpenSpec.ofChange platLatchesSpec)

/-- ITS FALSE NEIGHBOUR: 'it returns false'. Refute it at one input. -/
def platLatchesWrong : ChangeSpec := { name := "platLatches", fn := fun _ => fun
  | [d1, d2, d3, d4] => { results := [.lit (.bool false)], args := [d1, d2, d3, d4] }
  | _ => none }
def PlatLatchesWrongFalsely : Prop := platLatchesRow.holds Try.pinned (OpenSpec.ofChange platLatchesWrong)

/-- 'citadellaw11.PlatUarts': WHATEVER THE INPUT: true; the input reads as it did. -/
def platUartsSpec : ChangeSpec := { name := "platUarts", fn := fun _ => fun
  | [d] => { results := [.lit (.bool true)], args := [d] }
  | _ => none }
def platUartsRow : OpenClaim := { program := "ytnjddnmekcjhnaa", sum := "5d9afadc7594237291b11e9f6263aa26453dcd45895fea4d6ae24ba4d66e38ce", func := "citadel/citadellaw11.PlatUarts", spec := "platUarts", apart := false }
def PlatUartsSaid : Prop := platUartsRow.holds Try.pinned (OpenSpec.ofChange platUartsSpec)

/-- ITS FALSE NEIGHBOUR: 'it returns false'. Refute it at one input. -/
def platUartsWrong : ChangeSpec := { name := "platUarts", fn := fun _ => fun
  | [d] => { results := [.lit (.bool false)], args := [d] }
  | _ => none }
def PlatUartsWrongFalsely : Prop := platUartsRow.holds Try.pinned (OpenSpec.ofChange platUartsWrong)

/- THE SECOND FORM. 'bulk': how many values and letters a reading holds, each counted each time it is reached (what is shared counts as often as it is met; a slice's spare places count too). A statement '..UptoSaid' is the law's where the arguments, and the package variables that the reading takes, are together of bulk at most 1048576: NARROWER than '..Said'. Prove '..Said' where nothing that the law and all that it calls make is longer than what came in: it says more and counts as full. Else prove '..UptoSaid'. A law counts once. -/
mutual
def uptoBulk {H : Type} : DataW H → Nat
  | .lit (.string bytes) => bytes.length + 1
  | .lit _ => 1
  | .nil => 1
  | .ptr d => uptoBulk d + 1
  | .slice elems spare => uptoBulkAll elems + uptoBulkAll spare + 1
  | .agg parts => uptoBulkAll parts + 1
  | .iface _ d => uptoBulk d + 1
  | .map entries => uptoBulkEntries entries + 1
  | .held _ => 1
def uptoBulkAll {H : Type} : List (DataW H) → Nat
  | [] => 0
  | d :: r => uptoBulk d + uptoBulkAll r
def uptoBulkEntries {H : Type} : List (Lit × DataW H) → Nat
  | [] => 0
  | x :: r => uptoBulkEntry x + uptoBulkEntries r
def uptoBulkEntry {H : Type} : Lit × DataW H → Nat
  | (.string bytes, d) => bytes.length + uptoBulk d + 1
  | (_, d) => uptoBulk d + 1
 end
def uptoSmall : (H : Type) → List (DataW H) → Bool := fun _ ds => decide (uptoBulkAll ds ≤ 1048576)
def OpenSpec.upto (s : _root_.Go.ChangeSpec) : _root_.Go.OpenSpec := { _root_.Go.OpenSpec.ofChange s with cond := some uptoSmall }

/-- 'citadellaw11.PlatClocks', WHERE WHAT IT READS IS OF BULK AT MOST 1048576: true; the input reads as it did. -/
def platClocksUptoRow : OpenClaim := { program := "ytnjddnmekcjhnaa", sum := "5d9afadc7594237291b11e9f6263aa26453dcd45895fea4d6ae24ba4d66e38ce", func := "citadel/citadellaw11.PlatClocks", spec := "platClocks", apart := false, narrowed := true }
def PlatClocksUptoSaid : Prop := platClocksUptoRow.holds Try.pinned (OpenSpec.upto platClocksSpec)

/-- 'citadellaw11.PlatHalves', WHERE WHAT IT READS IS OF BULK AT MOST 1048576: true; the input reads as it did. -/
def platHalvesUptoRow : OpenClaim := { program := "ytnjddnmekcjhnaa", sum := "5d9afadc7594237291b11e9f6263aa26453dcd45895fea4d6ae24ba4d66e38ce", func := "citadel/citadellaw11.PlatHalves", spec := "platHalves", apart := false, narrowed := true }
def PlatHalvesUptoSaid : Prop := platHalvesUptoRow.holds Try.pinned (OpenSpec.upto platHalvesSpec)

/-- 'citadellaw11.PlatLets', WHERE WHAT IT READS IS OF BULK AT MOST 1048576: true; the input reads as it did. -/
def platLetsUptoRow : OpenClaim := { program := "ytnjddnmekcjhnaa", sum := "5d9afadc7594237291b11e9f6263aa26453dcd45895fea4d6ae24ba4d66e38ce", func := "citadel/citadellaw11.PlatLets", spec := "platLets", apart := false, narrowed := true }
def PlatLetsUptoSaid : Prop := platLetsUptoRow.holds Try.pinned (OpenSpec.upto platLetsSpec)

/-- 'citadellaw11.PlatIntcs', WHERE WHAT IT READS IS OF BULK AT MOST 1048576: true; the input reads as it did. -/
def platIntcsUptoRow : OpenClaim := { program := "ytnjddnmekcjhnaa", sum := "5d9afadc7594237291b11e9f6263aa26453dcd45895fea4d6ae24ba4d66e38ce", func := "citadel/citadellaw11.PlatIntcs", spec := "platIntcs", apart := false, narrowed := true }
def PlatIntcsUptoSaid : Prop := platIntcsUptoRow.holds Try.pinned (OpenSpec.upto platIntcsSpec)

/-- 'citadellaw11.PlatClaims', WHERE WHAT IT READS IS OF BULK AT MOST 1048576: true; the input reads as it did. -/
def platClaimsUptoRow : OpenClaim := { program := "ytnjddnmekcjhnaa", sum := "5d9afadc7594237291b11e9f6263aa26453dcd45895fea4d6ae24ba4d66e38ce", func := "citadel/citadellaw11.PlatClaims", spec := "platClaims", apart := false, narrowed := true }
def PlatClaimsUptoSaid : Prop := platClaimsUptoRow.holds Try.pinned (OpenSpec.upto platClaimsSpec)

/-- 'citadellaw11.PlatBytes', WHERE WHAT IT READS IS OF BULK AT MOST 1048576: true; the input reads as it did. -/
def platBytesUptoRow : OpenClaim := { program := "ytnjddnmekcjhnaa", sum := "5d9afadc7594237291b11e9f6263aa26453dcd45895fea4d6ae24ba4d66e38ce", func := "citadel/citadellaw11.PlatBytes", spec := "platBytes", apart := false, narrowed := true }
def PlatBytesUptoSaid : Prop := platBytesUptoRow.holds Try.pinned (OpenSpec.upto platBytesSpec)

/-- 'citadellaw11.PlatTells', WHERE WHAT IT READS IS OF BULK AT MOST 1048576: true; the input reads as it did. -/
def platTellsUptoRow : OpenClaim := { program := "ytnjddnmekcjhnaa", sum := "5d9afadc7594237291b11e9f6263aa26453dcd45895fea4d6ae24ba4d66e38ce", func := "citadel/citadellaw11.PlatTells", spec := "platTells", apart := false, narrowed := true }
def PlatTellsUptoSaid : Prop := platTellsUptoRow.holds Try.pinned (OpenSpec.upto platTellsSpec)

/-- 'citadellaw11.PlatLatches', WHERE WHAT IT READS IS OF BULK AT MOST 1048576: true; the input reads as it did. -/
def platLatchesUptoRow : OpenClaim := { program := "ytnjddnmekcjhnaa", sum := "5d9afadc7594237291b11e9f6263aa26453dcd45895fea4d6ae24ba4d66e38ce", func := "citadel/citadellaw11.PlatLatches", spec := "platLatches", apart := false, narrowed := true }
def PlatLatchesUptoSaid : Prop := platLatchesUptoRow.holds Try.pinned (OpenSpec.upto platLatchesSpec)

/-- 'citadellaw11.PlatUarts', WHERE WHAT IT READS IS OF BULK AT MOST 1048576: true; the input reads as it did. -/
def platUartsUptoRow : OpenClaim := { program := "ytnjddnmekcjhnaa", sum := "5d9afadc7594237291b11e9f6263aa26453dcd45895fea4d6ae24ba4d66e38ce", func := "citadel/citadellaw11.PlatUarts", spec := "platUarts", apart := false, narrowed := true }
def PlatUartsUptoSaid : Prop := platUartsUptoRow.holds Try.pinned (OpenSpec.upto platUartsSpec)

end Rows
end Go.Proofs.Ytnjddnmekcjhnaa
