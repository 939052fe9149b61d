/- A statement that draws its order: all but its last operations are quiet in a class of worlds, and these last ones come in one order. -/
import Derived.Test.YtjiolobkobpohaaG
namespace Go.Proofs.Ytjiolobkobpohaa
open Go.RowKit Go.BigFrame

section
variable {P : Program} {ops : Array Oper} {md : Region.Mode} {C : World → Prop}

/-- The head's operations in whatever order, each of them quiet; then T. -/
def HeadQ (P : Program) (md : Region.Mode) (ops : Array Oper) (C : World → Prop) (n : Nat) (T : Array Bool → Act → Prop) : Nat → Array Bool → Act → Prop
  | 0, ls, a => T ls a
  | f + 1, ls, a => Region.ready md ops ls ≠ [] ∧ ∀ i ∈ Region.ready md ops ls, i < n ∧ qOp P ops C i (HeadQ P md ops C n T f (ls.setIfInBounds i true)) a

theorem HeadQ.run {n g : Nat} {T : Array Bool → Act → Prop} {Q : Exit → Act → World → Prop} (hT : ∀ ls a, T ls a → ∀ w, C w → wpAny P md ops Q g ls a w) (f : Nat) :
    ∀ (ls : Array Bool) (a : Act), HeadQ P md ops C n T f ls a → ∀ w, C w → wpAny P md ops Q (f + g) ls a w := by
  induction f with
  | zero =>
    intro ls a h w hw
    rw [Nat.zero_add]
    exact hT ls a h w hw
  | succ f ih =>
    intro ls a h w hw
    have e : f + 1 + g = (f + g) + 1 := by omega
    rw [e]
    refine ⟨fun h0 => (h.1 h0).elim, fun i hi => ?_⟩
    exact wpOp_of_qOp hw (fun a' w' hw' k => ih _ a' k w' hw') (h.2 i hi).2

theorem HeadQ.first {n i : Nat} {oi : Oper} {v : Value} {T : Array Bool → Act → Prop} (hi : ops[i]? = some oi) (hsel : ∀ (j : Nat) (o : Oper) cs b, ops[j]? = some o → o.op ≠ .select cs b)
    (hs : Region.sinkB md ops n = true) (hc : Region.chainB md ops n = true) (hn : n < ops.size) (hin : i < n) (hdone : ∀ ls a, T ls a → ∀ j ∈ Region.ready md ops ls, n ≤ j) (f : Nat) :
    ∀ (ls : Array Bool) (a : Act), HeadInv md ops n ls →
      (∀ j oj, ops[j]? = some oj → j ≠ i → ls.getD j true = false → (∀ e ∈ oj.after, Region.binds md e = true → e.on ≠ i) → oi.apart ops oj = true) →
      i ∈ Region.ready md ops ls → YieldsIn P ops C oi v a → HeadQ P md ops C n T f (ls.setIfInBounds i true) (a.put oi.dst v) → HeadQ P md ops C n T (f + 1) ls a := by
  induction f with
  | zero =>
    intro ls a inv _ hr hy H
    have low : ∀ j ∈ Region.ready md ops ls, j < n := fun j hj => by
      rcases Nat.lt_or_ge j n with h | h
      · exact h
      · exact (tail_waits hs hc hn inv _ i rfl hin (mem_ready.1 hr).1 j h hj).elim
    refine ⟨(fun h => by rw [h] at hr; cases hr), fun j hj => ⟨low j hj, ?_⟩⟩
    by_cases e : j = i
    · subst e; exact hy.qOp hi H
    · have h1 := hdone _ _ H j (ready_mono hj e)
      have h2 := low j hj
      omega
  | succ f ih =>
    intro ls a inv hfree hr hy H
    have hun := (mem_ready.1 hr).1
    have low : ∀ j ∈ Region.ready md ops ls, j < n := fun j hj => by
      rcases Nat.lt_or_ge j n with h | h
      · exact h
      · exact (tail_waits hs hc hn inv _ i rfl hin hun j h hj).elim
    refine ⟨(fun h => by rw [h] at hr; cases hr), fun j hj => ⟨low j hj, ?_⟩⟩
    by_cases e : j = i
    · subst e; exact hy.qOp hi H
    · obtain ⟨hjun, oj, hoj, hall⟩ := mem_ready.1 hj
      have hnot : ∀ d ∈ oj.after, Region.binds md d = true → d.on ≠ i := fun d hd hb heq => by
        have k := hall d hd hb
        rw [heq, getD_both hun] at k
        cases k
      have key := qOp_put hoj (hfree j oj hoj e hjun hnot) (fun cs b => hsel i oi cs b hi) (fun cs b => hsel j oj cs b hoj) hy (H.2 j (ready_mono hj e)).2
      refine qOp_mono (fun a' k => ih (ls.setIfInBounds j true) a' (inv.set hj (low j hj)) (fun k2 ok hk hki hu hno => hfree k2 ok hk hki ?_ hno) (ready_mono hr (Ne.symm e)) k.1 ?_) key
      · by_cases hjk : j = k2
        · subst hjk; exact hjun
        · rwa [getD_set_ne true hjk] at hu
      · rw [Array.setIfInBounds_comm _ _ e]
        exact k.2

theorem HeadQ.lex {n g : Nat} {T : Act → Prop} (hsel : Region.noSelect ops = true) (hs : Region.sinkB md ops n = true) (hc : Region.chainB md ops n = true) (hn : n < ops.size) (l : List Oper) :
    ∀ (k : Nat) (ls : Array Bool) (a : Act), (∀ j, j < l.length → l[j]? = ops[k + j]?) → k + l.length = n → HeadInv md ops n ls → Region.lexHead md ops g l.length k ls = true → wpQuiet P ops C T l a →
      HeadQ P md ops C n (fun ls' a' => Region.seqB md ops g n ls' = true ∧ T a') l.length ls a := by
  induction l with
  | nil =>
    intro k ls a _ hk _ hB h
    obtain rfl : k = n := by simpa using hk
    exact ⟨by simpa [Region.lexHead] using hB, h⟩
  | cons o l ih =>
    intro k ls a hl hk inv hB h
    have h0 : ops[k]? = some o := by simpa using (hl 0 (by simp)).symm
    simp only [List.length_cons, Region.lexHead, Bool.and_eq_true] at hB hk
    obtain ⟨⟨hr, hf⟩, hB2⟩ := hB
    have hr2 : k ∈ Region.ready md ops ls := by simpa using hr
    have hq : qOp P ops C k (wpQuiet P ops C T l) a := by unfold qOp; simp only [h0]; exact h
    obtain ⟨v, hy, hK⟩ := yieldsIn_of_qOp h0 hq
    refine HeadQ.first h0 (Region.noSelect_spec hsel) hs hc hn (by omega) (fun ls' a' hL => seqB_ready hL.1) l.length ls a inv (Region.free_spec h0 hf) hr2 hy ?_
    refine ih (k + 1) _ _ (fun j hj => ?_) (by omega) (inv.set hr2 (by omega)) hB2 hK
    have := hl (j + 1) (by simp; omega)
    simpa [Nat.add_assoc, Nat.add_comm 1 j] using this

theorem wp_region_quiet_tail {id : Nat} {Q : Exit → Act → World → Prop} {a : Act} {w : World} {l : List Oper} (n : Nat) (C : World → Prop) (hm : P.follows .mixedOrders = true) (hB : Region.lexTailB .any l.toArray n = true)
    (hC : C w.drew) (h : wpQuiet P l.toArray C (fun a' => ∀ w', C w' → wpList P l.toArray Q (l.drop n) a' w') (l.take n) a) : (Code.region id l.toArray true).wp P Q a w := by
  simp only [Region.lexTailB, Bool.and_eq_true, decide_eq_true_eq] at hB
  obtain ⟨⟨⟨⟨hsel, hn⟩, hs⟩, hc⟩, hlex⟩ := hB
  have hn2 : n < l.length := by simpa using hn
  have htl : (l.take n).length = n := by rw [List.length_take]; omega
  have hdl : (l.drop n).length = l.toArray.size - n := by simp
  have inv : HeadInv .any l.toArray n (Array.replicate l.toArray.size false) :=
    ⟨by simp, (fun j oj _ hl => by rw [getD_replicate_false] at hl; cases hl), fun t _ ht => getD_in (by simpa using ht) (getD_replicate_false _ _)⟩
  have H := HeadQ.lex (md := .any) (g := l.toArray.size - n) hsel hs hc hn (l.take n) 0 _ a
    (fun j hj => by
      have : j < n := by rw [htl] at hj; exact hj
      simp [this]) (by simpa using htl) inv (by rw [htl]; exact hlex) h
  refine wp_region_any hm ?_
  have R := HeadQ.run (Q := Q) (g := l.toArray.size - n) (fun ls a' hL w' hw' => by
    have := wpAny_of_seq (md := .any) (Q' := Q) (l.drop n) n ls a' w' (fun j => by simp [List.getElem?_drop]) (by rw [hdl]; exact hL.1) (hL.2 w' hw')
    rwa [hdl] at this) _ _ _ H w.drew hC
  rw [htl, show n + (l.toArray.size - n) = l.toArray.size by omega] at R
  exact R
end
end Go.Proofs.Ytjiolobkobpohaa
