/- What a call turns of other harts. -/
import Derived.Test.YtjiolobkobpohaaYf
namespace Go.Proofs.Ytjiolobkobpohaa
open Go.RowKit Go.BigFrame

theorem ord_x (x : V) (j : Nat) (h1 : 1 ≤ j) (h2 : j < 32) : x.ord.u j = x.u j := by
  unfold V.ord
  simp only [V.setU, upd]
  (repeat' split) <;> first | rfl | omega
/-- What becomes of hart k, which makes no call: nothing; or it is started; or told of an interrupt; or ended with all. -/
inductive Became (c v y : V) (k : Nat) (down : Bool) : Prop
  | same (h : y = v)
  | started (h1 : c.u 17 = 4739917) (h2 : c.u 16 = 0) (h3 : c.u 10 = k) (h4 : v.i = 0) (h5 : y.i = 1)
  | sent (h1 : c.u 17 = 7557193) (h2 : c.u 16 = 0) (h3 : y = v.setU 46 (v.u 46 ||| 2))
  | ended (h1 : c.u 17 = 1397904212) (h2 : down = true) (h3 : y = v.setI 0)
theorem finL_ne (r : CR) (i k : Nat) (L : Nat → V) (h : k ≠ i) : finL r i L k = L k := by
  unfold finL
  split
  · rfl
  · exact upd_ne _ _ _ _ h
theorem stepL_lt (f g : Nat → V) (n k : Nat) (h : k < n) : stepL f g n k = f k := by simp [stepL, h]
theorem became (l : Nat → V) (n i k : Nat) (hi : i < n) (hk : k < n) (hne : k ≠ i) : Became (l i) ((l k).ord) (callL l n (i : Int) k) k (callD l n (i : Int)) := by
  unfold callL callD
  have hc : 0 ≤ (i : Int) ∧ (i : Int) < (n : Int) := by omega
  rw [if_pos hc, if_pos hc, Int.toNat_natCast, finL_ne _ _ _ _ hne]
  have x17 : (callR l i).x 17 = (l i).u 17 := ord_x (l i) 17 (by omega) (by omega)
  have x16 : (callR l i).x 16 = (l i).u 16 := ord_x (l i) 16 (by omega) (by omega)
  have x10 : (callR l i).x 10 = (l i).u 10 := ord_x (l i) 10 (by omega) (by omega)
  unfold doL
  rw [x17]
  split
  · unfold clockL
    split
    · exact .same (upd_ne _ _ _ _ hne)
    · exact .same rfl
  · split
    · rename_i h1
      unfold pokeL
      rw [x16]
      split
      · rename_i h2
        rw [stepL_lt _ _ _ _ hk]
        show Became _ _ ((l k).ord.poked _) _ _
        unfold V.poked
        split
        · exact .sent h1 h2 rfl
        · exact .same rfl
      · exact .same rfl
    · split
      · rename_i h1
        unfold stateL
        rw [x16]
        split
        · exact .same (upd_ne _ _ _ _ hne)
        · split
          · rename_i h2
            by_cases he : k = (callR l i).x 10
            · rw [he, upd_same]
              refine .started h1 h2.1 ?_ ?_ rfl
              · rw [← he, ← x10, he]
              · rw [← he]; exact he ▸ h2.2.2
            · exact .same (upd_ne _ _ _ _ he)
          · exact .same rfl
      · split
        · rename_i h1
          unfold endL
          rw [x16]
          split
          · rename_i h2
            rw [stepL_lt _ _ _ _ hk]
            refine .ended h1 ?_ rfl
            unfold doR endR
            rw [x17, h1, x16, if_neg (by decide), if_neg (by decide), if_neg (by decide), if_neg (by decide), if_neg (by decide), if_pos rfl, if_pos h2]
          · exact .same rfl
        · exact .same rfl
theorem callL_out (l : Nat → V) (n : Nat) (i : Int) (h : ¬ (0 ≤ i ∧ i < (n : Int))) : callL l n i = l := by unfold callL; rw [if_neg h]
theorem callB_out (l : Nat → V) (n : Nat) (i : Int) (h : ¬ (0 ≤ i ∧ i < (n : Int))) : callB l n i = [] := by unfold callB; rw [if_neg h]
theorem callD_out (l : Nat → V) (n : Nat) (i : Int) (h : ¬ (0 ≤ i ∧ i < (n : Int))) : callD l n i = false := by unfold callD; rw [if_neg h]
theorem OutR.nil {w : World} {v : Value} (h : OutR w v []) : v = .slice none 0 0 := by
  obtain ⟨oe, h1, _⟩ := h
  cases h1
  rfl
end Go.Proofs.Ytjiolobkobpohaa
