/-
  No cell of these rows narrows 'for every input' (looked for: loops, veiled, ifaces, maps, wideKeys, modest, calm, conditions, laid).
  DERIVED. THE GIVEN ROWS OF THIS SEAT. 8 by the template 'for every input the law returns true; each argument reads behind the call as it read before'; 0 by the template 'total and deterministic' (their statements: YtjiolobkobpohaaTotals.lean).
  GIVEN WITH THE SEED: the statements are not yours to turn. If you find one false, say at which input.
  Laid BY PROGRAM, IN A SANDBOX (cutbox-rows.mjs): the forced cells as the released guide's own fill.sh prints them over the translation 52012f6cfa7fd0d5… (all of the seat's roots in one cut). By AI agents, Wed Nov 11 2026. No macro, syntax, notation, axiom, sorry.
-/
import Derived.Test.YtjiolobkobpohaaChecked
import GoSem.Claim
import GoSem.ClaimJoined
import GoSem.ClaimMapViews
import Derived.JoinedTies
import Derived.KernelRfl
namespace Go.Proofs.Ytjiolobkobpohaa
/- THE CELL 'sum', in the pinned program and in every row, IS THE sha256 OF THE DUMP (.gsa) THAT YtjiolobkobpohaaProg.lean LOADS. Nothing in Lean hashes anything: it is a label: what it is worth is what the hold of that sum in a sandbox is worth. -/
noncomputable def Try.pinned : Pinned := { name := "ytjiolobkobpohaa", sum := "52012f6cfa7fd0d5cf5321ddcef530a632703c007ada4e988c2e672678eb0232", checked := Try.checked }
namespace Rows
def none {H : Type} : Left H := { results := [], args := [] }

/-- 'citadellaw17.VcpuBegins': WHATEVER THE INPUT: true; the input reads as it did. -/
def vcpuBeginsSpec : ChangeSpec := { name := "vcpuBegins", fn := fun _ => fun
  | [d1, d2] => { results := [.lit (.bool true)], args := [d1, d2] }
  | _ => none }
def vcpuBeginsRow : OpenClaim := { program := "ytjiolobkobpohaa", sum := "52012f6cfa7fd0d5cf5321ddcef530a632703c007ada4e988c2e672678eb0232", func := "citadel/citadellaw17.VcpuBegins", spec := "vcpuBegins", apart := false }
def VcpuBeginsSaid : Prop := vcpuBeginsRow.holds Try.pinned (OpenSpec.ofChange vcpuBeginsSpec)

/-- ITS FALSE NEIGHBOUR: 'it returns false'. Refute it at one input. -/
def vcpuBeginsWrong : ChangeSpec := { name := "vcpuBegins", fn := fun _ => fun
  | [d1, d2] => { results := [.lit (.bool false)], args := [d1, d2] }
  | _ => none }
def VcpuBeginsWrongFalsely : Prop := vcpuBeginsRow.holds Try.pinned (OpenSpec.ofChange vcpuBeginsWrong)

/-- 'citadellaw17.VcpuReadies': WHATEVER THE INPUT: true; the input reads as it did. -/
def vcpuReadiesSpec : ChangeSpec := { name := "vcpuReadies", fn := fun _ => fun
  | [d1, d2, d3, d4, d5, d6] => { results := [.lit (.bool true)], args := [d1, d2, d3, d4, d5, d6] }
  | _ => none }
def vcpuReadiesRow : OpenClaim := { program := "ytjiolobkobpohaa", sum := "52012f6cfa7fd0d5cf5321ddcef530a632703c007ada4e988c2e672678eb0232", func := "citadel/citadellaw17.VcpuReadies", spec := "vcpuReadies", apart := false }
def VcpuReadiesSaid : Prop := vcpuReadiesRow.holds Try.pinned (OpenSpec.ofChange vcpuReadiesSpec)

/-- ITS FALSE NEIGHBOUR: 'it returns false'. Refute it at one input. -/
def vcpuReadiesWrong : ChangeSpec := { name := "vcpuReadies", fn := fun _ => fun
  | [d1, d2, d3, d4, d5, d6] => { results := [.lit (.bool false)], args := [d1, d2, d3, d4, d5, d6] }
  | _ => none }
def VcpuReadiesWrongFalsely : Prop := vcpuReadiesRow.holds Try.pinned (OpenSpec.ofChange vcpuReadiesWrong)

/-- 'citadellaw17.VcpuCalls': WHATEVER THE INPUT: true; the input reads as it did. -/
def vcpuCallsSpec : ChangeSpec := { name := "vcpuCalls", fn := fun _ => fun
  | [d1, d2, d3, d4, d5, d6, d7] => { results := [.lit (.bool true)], args := [d1, d2, d3, d4, d5, d6, d7] }
  | _ => none }
def vcpuCallsRow : OpenClaim := { program := "ytjiolobkobpohaa", sum := "52012f6cfa7fd0d5cf5321ddcef530a632703c007ada4e988c2e672678eb0232", func := "citadel/citadellaw17.VcpuCalls", spec := "vcpuCalls", unfollowed := true, recurses := true, apart := false }
def VcpuCallsSaid : Prop := vcpuCallsRow.holds Try.pinned (OpenSpec.ofChange vcpuCallsSpec)

/-- ITS FALSE NEIGHBOUR: 'it returns false'. Refute it at one input. -/
def vcpuCallsWrong : ChangeSpec := { name := "vcpuCalls", fn := fun _ => fun
  | [d1, d2, d3, d4, d5, d6, d7] => { results := [.lit (.bool false)], args := [d1, d2, d3, d4, d5, d6, d7] }
  | _ => none }
def VcpuCallsWrongFalsely : Prop := vcpuCallsRow.holds Try.pinned (OpenSpec.ofChange vcpuCallsWrong)

/-- 'citadellaw17.VcpuAlone': WHATEVER THE INPUT: true; the input reads as it did. -/
def vcpuAloneSpec : ChangeSpec := { name := "vcpuAlone", fn := fun _ => fun
  | [d1, d2] => { results := [.lit (.bool true)], args := [d1, d2] }
  | _ => none }
def vcpuAloneRow : OpenClaim := { program := "ytjiolobkobpohaa", sum := "52012f6cfa7fd0d5cf5321ddcef530a632703c007ada4e988c2e672678eb0232", func := "citadel/citadellaw17.VcpuAlone", spec := "vcpuAlone", unfollowed := true, recurses := true, apart := false }
def VcpuAloneSaid : Prop := vcpuAloneRow.holds Try.pinned (OpenSpec.ofChange vcpuAloneSpec)

/-- ITS FALSE NEIGHBOUR: 'it returns false'. Refute it at one input. -/
def vcpuAloneWrong : ChangeSpec := { name := "vcpuAlone", fn := fun _ => fun
  | [d1, d2] => { results := [.lit (.bool false)], args := [d1, d2] }
  | _ => none }
def VcpuAloneWrongFalsely : Prop := vcpuAloneRow.holds Try.pinned (OpenSpec.ofChange vcpuAloneWrong)

/-- 'citadellaw17.VcpuSends': WHATEVER THE INPUT: true; the input reads as it did. -/
def vcpuSendsSpec : ChangeSpec := { name := "vcpuSends", fn := fun _ => fun
  | [d1, d2, d3, d4] => { results := [.lit (.bool true)], args := [d1, d2, d3, d4] }
  | _ => none }
def vcpuSendsRow : OpenClaim := { program := "ytjiolobkobpohaa", sum := "52012f6cfa7fd0d5cf5321ddcef530a632703c007ada4e988c2e672678eb0232", func := "citadel/citadellaw17.VcpuSends", spec := "vcpuSends", unfollowed := true, recurses := true, apart := false }
def VcpuSendsSaid : Prop := vcpuSendsRow.holds Try.pinned (OpenSpec.ofChange vcpuSendsSpec)

/-- ITS FALSE NEIGHBOUR: 'it returns false'. Refute it at one input. -/
def vcpuSendsWrong : ChangeSpec := { name := "vcpuSends", fn := fun _ => fun
  | [d1, d2, d3, d4] => { results := [.lit (.bool false)], args := [d1, d2, d3, d4] }
  | _ => none }
def VcpuSendsWrongFalsely : Prop := vcpuSendsRow.holds Try.pinned (OpenSpec.ofChange vcpuSendsWrong)

/-- 'citadellaw17.VcpuStarts': WHATEVER THE INPUT: true; the input reads as it did. -/
def vcpuStartsSpec : ChangeSpec := { name := "vcpuStarts", fn := fun _ => fun
  | [d1, d2, d3, d4] => { results := [.lit (.bool true)], args := [d1, d2, d3, d4] }
  | _ => none }
def vcpuStartsRow : OpenClaim := { program := "ytjiolobkobpohaa", sum := "52012f6cfa7fd0d5cf5321ddcef530a632703c007ada4e988c2e672678eb0232", func := "citadel/citadellaw17.VcpuStarts", spec := "vcpuStarts", unfollowed := true, recurses := true, apart := false }
def VcpuStartsSaid : Prop := vcpuStartsRow.holds Try.pinned (OpenSpec.ofChange vcpuStartsSpec)

/-- ITS FALSE NEIGHBOUR: 'it returns false'. Refute it at one input. -/
def vcpuStartsWrong : ChangeSpec := { name := "vcpuStarts", fn := fun _ => fun
  | [d1, d2, d3, d4] => { results := [.lit (.bool false)], args := [d1, d2, d3, d4] }
  | _ => none }
def VcpuStartsWrongFalsely : Prop := vcpuStartsRow.holds Try.pinned (OpenSpec.ofChange vcpuStartsWrong)

/-- 'citadellaw17.VcpuEnds': WHATEVER THE INPUT: true; the input reads as it did. -/
def vcpuEndsSpec : ChangeSpec := { name := "vcpuEnds", fn := fun _ => fun
  | [d1, d2, d3, d4, d5, d6] => { results := [.lit (.bool true)], args := [d1, d2, d3, d4, d5, d6] }
  | _ => none }
def vcpuEndsRow : OpenClaim := { program := "ytjiolobkobpohaa", sum := "52012f6cfa7fd0d5cf5321ddcef530a632703c007ada4e988c2e672678eb0232", func := "citadel/citadellaw17.VcpuEnds", spec := "vcpuEnds", unfollowed := true, recurses := true, apart := false }
def VcpuEndsSaid : Prop := vcpuEndsRow.holds Try.pinned (OpenSpec.ofChange vcpuEndsSpec)

/-- ITS FALSE NEIGHBOUR: 'it returns false'. Refute it at one input. -/
def vcpuEndsWrong : ChangeSpec := { name := "vcpuEnds", fn := fun _ => fun
  | [d1, d2, d3, d4, d5, d6] => { results := [.lit (.bool false)], args := [d1, d2, d3, d4, d5, d6] }
  | _ => none }
def VcpuEndsWrongFalsely : Prop := vcpuEndsRow.holds Try.pinned (OpenSpec.ofChange vcpuEndsWrong)

/-- 'citadellaw17.VcpuTimers': WHATEVER THE INPUT: true; the input reads as it did. -/
def vcpuTimersSpec : ChangeSpec := { name := "vcpuTimers", fn := fun _ => fun
  | [d1, d2, d3, d4] => { results := [.lit (.bool true)], args := [d1, d2, d3, d4] }
  | _ => none }
def vcpuTimersRow : OpenClaim := { program := "ytjiolobkobpohaa", sum := "52012f6cfa7fd0d5cf5321ddcef530a632703c007ada4e988c2e672678eb0232", func := "citadel/citadellaw17.VcpuTimers", spec := "vcpuTimers", unfollowed := true, recurses := true, apart := false }
def VcpuTimersSaid : Prop := vcpuTimersRow.holds Try.pinned (OpenSpec.ofChange vcpuTimersSpec)

/-- ITS FALSE NEIGHBOUR: 'it returns false'. Refute it at one input. -/
def vcpuTimersWrong : ChangeSpec := { name := "vcpuTimers", fn := fun _ => fun
  | [d1, d2, d3, d4] => { results := [.lit (.bool false)], args := [d1, d2, d3, d4] }
  | _ => none }
def VcpuTimersWrongFalsely : Prop := vcpuTimersRow.holds Try.pinned (OpenSpec.ofChange vcpuTimersWrong)

/- THE SECOND FORM. 'bulk': how many values and letters a reading holds, each counted each time it is reached (what is shared counts as often as it is met; a slice's spare places count too). A statement '..UptoSaid' is the law's where the arguments, and the package variables that the reading takes, are together of bulk at most 1048576: NARROWER than '..Said'. Prove '..Said' where nothing that the law and all that it calls make is longer than what came in: it says more and counts as full. Else prove '..UptoSaid'. A law counts once. -/
mutual
def uptoBulk {H : Type} : DataW H → Nat
  | .lit (.string bytes) => bytes.length + 1
  | .lit _ => 1
  | .nil => 1
  | .ptr d => uptoBulk d + 1
  | .slice elems spare => uptoBulkAll elems + uptoBulkAll spare + 1
  | .agg parts => uptoBulkAll parts + 1
  | .iface _ d => uptoBulk d + 1
  | .map entries => uptoBulkEntries entries + 1
  | .held _ => 1
def uptoBulkAll {H : Type} : List (DataW H) → Nat
  | [] => 0
  | d :: r => uptoBulk d + uptoBulkAll r
def uptoBulkEntries {H : Type} : List (Lit × DataW H) → Nat
  | [] => 0
  | x :: r => uptoBulkEntry x + uptoBulkEntries r
def uptoBulkEntry {H : Type} : Lit × DataW H → Nat
  | (.string bytes, d) => bytes.length + uptoBulk d + 1
  | (_, d) => uptoBulk d + 1
 end
def uptoSmall : (H : Type) → List (DataW H) → Bool := fun _ ds => decide (uptoBulkAll ds ≤ 1048576)
def OpenSpec.upto (s : _root_.Go.ChangeSpec) : _root_.Go.OpenSpec := { _root_.Go.OpenSpec.ofChange s with cond := some uptoSmall }

/-- 'citadellaw17.VcpuBegins', WHERE WHAT IT READS IS OF BULK AT MOST 1048576: true; the input reads as it did. -/
def vcpuBeginsUptoRow : OpenClaim := { program := "ytjiolobkobpohaa", sum := "52012f6cfa7fd0d5cf5321ddcef530a632703c007ada4e988c2e672678eb0232", func := "citadel/citadellaw17.VcpuBegins", spec := "vcpuBegins", apart := false, narrowed := true }
def VcpuBeginsUptoSaid : Prop := vcpuBeginsUptoRow.holds Try.pinned (OpenSpec.upto vcpuBeginsSpec)

/-- 'citadellaw17.VcpuReadies', WHERE WHAT IT READS IS OF BULK AT MOST 1048576: true; the input reads as it did. -/
def vcpuReadiesUptoRow : OpenClaim := { program := "ytjiolobkobpohaa", sum := "52012f6cfa7fd0d5cf5321ddcef530a632703c007ada4e988c2e672678eb0232", func := "citadel/citadellaw17.VcpuReadies", spec := "vcpuReadies", apart := false, narrowed := true }
def VcpuReadiesUptoSaid : Prop := vcpuReadiesUptoRow.holds Try.pinned (OpenSpec.upto vcpuReadiesSpec)

/-- 'citadellaw17.VcpuCalls', WHERE WHAT IT READS IS OF BULK AT MOST 1048576: true; the input reads as it did. -/
def vcpuCallsUptoRow : OpenClaim := { program := "ytjiolobkobpohaa", sum := "52012f6cfa7fd0d5cf5321ddcef530a632703c007ada4e988c2e672678eb0232", func := "citadel/citadellaw17.VcpuCalls", spec := "vcpuCalls", unfollowed := true, recurses := true, apart := false, narrowed := true }
def VcpuCallsUptoSaid : Prop := vcpuCallsUptoRow.holds Try.pinned (OpenSpec.upto vcpuCallsSpec)

/-- 'citadellaw17.VcpuAlone', WHERE WHAT IT READS IS OF BULK AT MOST 1048576: true; the input reads as it did. -/
def vcpuAloneUptoRow : OpenClaim := { program := "ytjiolobkobpohaa", sum := "52012f6cfa7fd0d5cf5321ddcef530a632703c007ada4e988c2e672678eb0232", func := "citadel/citadellaw17.VcpuAlone", spec := "vcpuAlone", unfollowed := true, recurses := true, apart := false, narrowed := true }
def VcpuAloneUptoSaid : Prop := vcpuAloneUptoRow.holds Try.pinned (OpenSpec.upto vcpuAloneSpec)

/-- 'citadellaw17.VcpuSends', WHERE WHAT IT READS IS OF BULK AT MOST 1048576: true; the input reads as it did. -/
def vcpuSendsUptoRow : OpenClaim := { program := "ytjiolobkobpohaa", sum := "52012f6cfa7fd0d5cf5321ddcef530a632703c007ada4e988c2e672678eb0232", func := "citadel/citadellaw17.VcpuSends", spec := "vcpuSends", unfollowed := true, recurses := true, apart := false, narrowed := true }
def VcpuSendsUptoSaid : Prop := vcpuSendsUptoRow.holds Try.pinned (OpenSpec.upto vcpuSendsSpec)

/-- 'citadellaw17.VcpuStarts', WHERE WHAT IT READS IS OF BULK AT MOST 1048576: true; the input reads as it did. -/
def vcpuStartsUptoRow : OpenClaim := { program := "ytjiolobkobpohaa", sum := "52012f6cfa7fd0d5cf5321ddcef530a632703c007ada4e988c2e672678eb0232", func := "citadel/citadellaw17.VcpuStarts", spec := "vcpuStarts", unfollowed := true, recurses := true, apart := false, narrowed := true }
def VcpuStartsUptoSaid : Prop := vcpuStartsUptoRow.holds Try.pinned (OpenSpec.upto vcpuStartsSpec)

/-- 'citadellaw17.VcpuEnds', WHERE WHAT IT READS IS OF BULK AT MOST 1048576: true; the input reads as it did. -/
def vcpuEndsUptoRow : OpenClaim := { program := "ytjiolobkobpohaa", sum := "52012f6cfa7fd0d5cf5321ddcef530a632703c007ada4e988c2e672678eb0232", func := "citadel/citadellaw17.VcpuEnds", spec := "vcpuEnds", unfollowed := true, recurses := true, apart := false, narrowed := true }
def VcpuEndsUptoSaid : Prop := vcpuEndsUptoRow.holds Try.pinned (OpenSpec.upto vcpuEndsSpec)

/-- 'citadellaw17.VcpuTimers', WHERE WHAT IT READS IS OF BULK AT MOST 1048576: true; the input reads as it did. -/
def vcpuTimersUptoRow : OpenClaim := { program := "ytjiolobkobpohaa", sum := "52012f6cfa7fd0d5cf5321ddcef530a632703c007ada4e988c2e672678eb0232", func := "citadel/citadellaw17.VcpuTimers", spec := "vcpuTimers", unfollowed := true, recurses := true, apart := false, narrowed := true }
def VcpuTimersUptoSaid : Prop := vcpuTimersUptoRow.holds Try.pinned (OpenSpec.upto vcpuTimersSpec)

end Rows
end Go.Proofs.Ytjiolobkobpohaa
