/- What a call of the state comes to. -/
import Derived.Test.YtjiolobkobpohaaAD
namespace Go.Proofs.Ytjiolobkobpohaa
open Go.RowKit Go.BigFrame

section
variable {l : Nat → V} {n i a : Nat}
/-- The call at i, its parts. -/
theorem st_is (hi : i < n) (h17 : (l i).u 17 = 4739917) : callL l n (i : Int) = finL (stateR (callR l i) n (ordW l)) i (stateL (callR l i) i n (ordW l)) := by
  rw [callL_in _ _ _ hi]
  have e17 : (callR l i).x 17 = 4739917 := by rw [callR_x _ _ _ (by omega) (by omega), h17]
  have hR : doR (callR l i) n (ordW l) = stateR (callR l i) n (ordW l) := by
    unfold doR
    rw [e17, if_neg (by decide), if_neg (by decide), if_neg (by decide), if_neg (by decide), if_pos rfl]
  have hL : doL (callR l i) i n (ordW l) = stateL (callR l i) i n (ordW l) := by
    unfold doL
    rw [e17, if_neg (by decide), if_neg (by decide), if_pos rfl]
  rw [hR, hL]
theorem x_of (l : Nat → V) (i j : Nat) (h1 : 1 ≤ j) (h2 : j < 32) : (callR l i).x j = (l i).u j := callR_x l i j h1 h2

structure Started (l X : Nat → V) (i a : Nat) : Prop where
  e10 : (X i).u 10 = 0
  at_ : X a = startV ((l i).u 11) a ((l i).u 12)
theorem st_start (hi : i < n) (h17 : (l i).u 17 = 4739917) (h16 : (l i).u 16 = 0) (h10 : (l i).u 10 = a) (ha : a < n) (hne : a ≠ i) (hs : (l a).i = 0) : Started l (callL l n (i : Int)) i a := by
  rw [st_is hi h17]
  have e16 : (callR l i).x 16 = 0 := by rw [x_of _ _ _ (by omega) (by omega), h16]
  have e10 : (callR l i).x 10 = a := by rw [x_of _ _ _ (by omega) (by omega), h10]
  have e11 := x_of l i 11 (by omega) (by omega)
  have e12 := x_of l i 12 (by omega) (by omega)
  have hR : stateR (callR l i) n (ordW l) = callR l i := by
    unfold stateR
    rw [e16, e10, if_neg (by decide), if_neg (by omega), if_neg (by omega), if_neg (by decide), if_pos (show (ordW l a).i = 0 from hs)]
  have hL : stateL (callR l i) i n (ordW l) = upd (ordW l) a (startV ((l i).u 11) a ((l i).u 12)) := by
    unfold stateL
    rw [e16, e10, e11, e12, if_neg (by decide), if_pos ⟨rfl, ha, hs⟩]
  rw [hR, hL]
  refine ⟨?_, ?_⟩
  · rw [finL_at _ _ _ rfl]; rfl
  · rw [finL_ne _ _ _ _ hne, upd_same]
structure Already (l X : Nat → V) (i a : Nat) : Prop where
  e10 : (X i).u 10 = 18446744073709551610
  at_ : X a = (l a).ord
theorem st_already (hi : i < n) (h17 : (l i).u 17 = 4739917) (h16 : (l i).u 16 = 0) (h10 : (l i).u 10 = a) (ha : a < n) (hne : a ≠ i) (hs : (l a).i ≠ 0) : Already l (callL l n (i : Int)) i a := by
  rw [st_is hi h17]
  have e16 : (callR l i).x 16 = 0 := by rw [x_of _ _ _ (by omega) (by omega), h16]
  have e10 : (callR l i).x 10 = a := by rw [x_of _ _ _ (by omega) (by omega), h10]
  have hR : stateR (callR l i) n (ordW l) = { callR l i with err := 18446744073709551610 } := by
    unfold stateR
    rw [e16, e10, if_neg (by decide), if_neg (by omega), if_neg (by omega), if_neg (by decide), if_neg (show ¬ (ordW l a).i = 0 from hs)]
  have hL : stateL (callR l i) i n (ordW l) = ordW l := by
    unfold stateL
    rw [e16, e10, if_neg (by decide), if_neg (fun h => hs h.2.2)]
  rw [hR, hL]
  refine ⟨?_, ?_⟩
  · rw [finL_at _ _ _ rfl]; rfl
  · rw [finL_ne _ _ _ _ hne]; rfl
theorem st_stop (hi : i < n) (h17 : (l i).u 17 = 4739917) (h16 : (l i).u 16 = 1) : callL l n (i : Int) i = (l i).ord.setI 0 := by
  rw [st_is hi h17]
  have e16 : (callR l i).x 16 = 1 := by rw [x_of _ _ _ (by omega) (by omega), h16]
  have hR : stateR (callR l i) n (ordW l) = { callR l i with stays := true } := by
    unfold stateR
    rw [e16, if_pos rfl]
  have hL : stateL (callR l i) i n (ordW l) = upd (ordW l) i ((l i).ord.setI 0) := by
    unfold stateL
    rw [e16, if_pos rfl]
    rfl
  rw [hR, hL]
  show upd (ordW l) i ((l i).ord.setI 0) i = _
  rw [upd_same]
structure Stated (l X : Nat → V) (i a : Nat) : Prop where
  e10 : (X i).u 10 = 0
  e11 : (X i).u 11 = 1
  e17 : (X i).u 17 = (l i).u 17
  at_ : X a = (l a).ord
theorem st_state (hi : i < n) (h17 : (l i).u 17 = 4739917) (h16 : (l i).u 16 = 2) (h10 : (l i).u 10 = a) (ha : a < n) (hne : a ≠ i) (hs : (l a).i = 0) : Stated l (callL l n (i : Int)) i a := by
  rw [st_is hi h17]
  have e16 : (callR l i).x 16 = 2 := by rw [x_of _ _ _ (by omega) (by omega), h16]
  have e10 : (callR l i).x 10 = a := by rw [x_of _ _ _ (by omega) (by omega), h10]
  have hR : stateR (callR l i) n (ordW l) = { callR l i with val := 1 } := by
    unfold stateR
    rw [e16, e10, if_neg (by decide), if_neg (by omega), if_neg (by omega), if_pos rfl, if_pos (show (ordW l a).i = 0 from hs)]
  have hL : stateL (callR l i) i n (ordW l) = ordW l := by
    unfold stateL
    rw [e16, if_neg (by decide), if_neg (fun h => by cases h.1)]
  rw [hR, hL]
  refine ⟨?_, ?_, ?_, ?_⟩
  · rw [finL_at _ _ _ rfl]; rfl
  · rw [finL_at _ _ _ rfl]; rfl
  · rw [finL_at _ _ _ rfl, finV_u _ _ _ (by decide) (by decide) (by decide)]
    exact ord_x _ _ (by omega) (by omega)
  · rw [finL_ne _ _ _ _ hne]; rfl
theorem st_wrong (hi : i < n) (h17 : (l i).u 17 = 4739917) (h16 : (l i).u 16 = 2) (h10 : n ≤ (l i).u 10) : (callL l n (i : Int) i).u 10 = 18446744073709551613 := by
  rw [st_is hi h17]
  have e16 : (callR l i).x 16 = 2 := by rw [x_of _ _ _ (by omega) (by omega), h16]
  have e10 := x_of l i 10 (by omega) (by omega)
  have hR : stateR (callR l i) n (ordW l) = { callR l i with err := 18446744073709551613 } := by
    unfold stateR
    rw [e16, e10, if_neg (by decide), if_neg (by omega), if_pos h10]
  rw [hR, finL_at _ _ _ rfl]; rfl
theorem stateR_small (r : CR) (n : Nat) (L : Nat → V) (h1 : r.err = 0) (h2 : r.val = 0) : (stateR r n L).err < 18446744073709551616 ∧ (stateR r n L).val < 18446744073709551616 := by
  unfold stateR CR.noFn
  (repeat' split) <;> (try dsimp only) <;> omega
theorem startV_wf (pc a b : Nat) (h1 : pc < 18446744073709551616) (h2 : a < 18446744073709551616) (h3 : b < 18446744073709551616) : (startV pc a b).Wf := by
  have h := reset_wf pc a b h1 h2 h3
  refine ⟨fun j => ?_, rfl⟩
  show (if j < 49 then (V.reset pc a b).u j else 0) < _
  split
  · exact h.u j
  · omega
theorem finV_wf {r : CR} {x : V} (hx : x.Wf) (h1 : r.err < 18446744073709551616) (h2 : r.val < 18446744073709551616) : (finV r x).Wf := ((hx.setU 10 _ h1).setU 11 _ h2).setU 32 _ (Nat.mod_lt _ (by omega))
theorem st_wf (hi : i < n) (h17 : (l i).u 17 = 4739917) (hw : ∀ k, k < n → (l k).Wf) (k : Nat) (hk : k < n) : (callL l n (i : Int) k).Wf := by
  rw [st_is hi h17]
  have hx : ∀ j, (callR l i).x j < 18446744073709551616 := fun j => (ord_wf (hw i hi)).u j
  have hY : ∀ k, k < n → (stateL (callR l i) i n (ordW l) k).Wf := by
    intro k hk
    have ho : (ordW l k).Wf := ord_wf (hw k hk)
    unfold stateL
    split
    · unfold upd
      split
      · rename_i h; subst h; exact wf_setI ho 0 rfl
      · exact ho
    · split
      · unfold upd
        split
        · exact startV_wf _ _ _ (hx _) (hx _) (hx _)
        · exact ho
      · exact ho
  have he : (stateR (callR l i) n (ordW l)).err < 18446744073709551616 ∧ (stateR (callR l i) n (ordW l)).val < 18446744073709551616 := by
    exact stateR_small _ n _ rfl rfl
  unfold finL
  split
  · exact hY k hk
  · unfold upd
    split
    · rename_i h; subst h; exact finV_wf (hY k hk) he.1 he.2
    · exact hY k hk
end
theorem startV_ord (pc a b : Nat) : (startV pc a b).ord = startV pc a b := by
  refine V.ext3 (fun j => ?_) (fun _ => rfl) rfl
  simp only [startV, V.withH, V.setI, V.ord, V.reset, V.setU, upd, V.zero]
  (repeat' split) <;> first | omega | rfl | (simp_all; done)
theorem startV_32 (pc a b : Nat) : (startV pc a b).u 32 = pc / 2 * 2 := rfl
theorem startV_10 (pc a b : Nat) : (startV pc a b).u 10 = a := rfl
theorem startV_11 (pc a b : Nat) : (startV pc a b).u 11 = b := rfl
theorem startV_50 (pc a b : Nat) : (startV pc a b).b 50 = false := rfl
end Go.Proofs.Ytjiolobkobpohaa
