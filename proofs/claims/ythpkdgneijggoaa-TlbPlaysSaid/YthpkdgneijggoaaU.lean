/- TlbPlays where no TLB is made. -/
import Derived.Test.YthpkdgneijggoaaT
namespace Go.Proofs.Ythpkdgneijggoaa
open Go.RowKit

theorem plays_no (room : Int) (A : Option Addr) (n c : Nat) (w : World) (hr : ¬ (1 ≤ room ∧ room ≤ 64)) :
    Calls Try.prog 4 #[.int .i64 room, .slice A n c] w fun e w' => e = .returned (.bool true) ∧ Fr (fun _ => False) w w' := by
  have hnil : ∀ (w : World), (binOp .neq 23 (.pointer none) (.pointer none)).run Try.prog w = .ok (.bool false) w := fun w => by go_simp
  go_enter Try.func4, Try.ntmps4
  go_wp2_with fail
  refine (new_no room w hr).mono ?_
  rintro e w1 ⟨rfl, hw1⟩
  subst hw1
  go_wp2_with fail
  refine (refNew_no room _ hr).mono ?_
  rintro e w2 ⟨rfl, hw2⟩
  subst hw2
  go_wp2_with fail
  refine (awake_any _).mono ?_
  rintro e w12 ⟨rfl, hf12⟩
  go_wp2
  go_ret
  exact ⟨rfl, hf12⟩

theorem plays_walk (S : Nat → Prop) (room : Int) (A : Option Addr) (n c : Nat) (ops : List Sc) (w : World) (hn : n = ops.length) (hs : n * 48 ≤ 140737488351232) (hrd : Rd w S A (flatS ops)) :
    Calls Try.prog 4 #[.int .i64 room, .slice A n c] w fun e w' => e = .returned (.bool true) ∧ Below w.heap.size w w' := by
  by_cases hr : 1 ≤ room ∧ room ≤ 64
  · exact (plays_yes S room A n c ops w hr hn (by omega) hrd).mono fun e w' ⟨h, hf⟩ => ⟨h, hf.below (fun _ h => h.elim) (Nat.le_refl _)⟩
  · exact (plays_no room A n c w hr).mono fun e w' ⟨h, hf⟩ => ⟨h, hf.below (fun _ h => h.elim) (Nat.le_refl _)⟩

end Go.Proofs.Ythpkdgneijggoaa
