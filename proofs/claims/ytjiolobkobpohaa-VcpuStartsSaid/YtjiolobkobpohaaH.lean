/- Copies of slices of virtual harts: append onto nothing; copied; slices.Clone. -/
import Derived.Test.YtjiolobkobpohaaG
import Derived.Lib.SliceRun
namespace Go.Proofs.Ytjiolobkobpohaa
open Go.RowKit Go.BigFrame

theorem Try.row32 : (Try.prog.info? 32).map (fun i => (i.zero, i.size, i.bytes)) = some (some (.agg (arr 52 (cellAt V.zero))), 52, 368) := by kernel_rfl

/-- A slice value of n virtual harts at the head of a block of its own from B on. -/
def VSl (w : World) (B : Nat) (v : Value) (n : Nat) (l : Nat → V) : Prop :=
  ∃ A c, v = .slice A n c ∧ n ≤ c ∧ c ≤ maxLen ∧ (A = none → n = 0) ∧ (0 < n → ∃ g, A = some ⟨g, 0, none⟩ ∧ B ≤ g ∧ (Ent.vs g n l).ok w)
theorem VSl.rd {w : World} {B : Nat} {v : Value} {n : Nat} {l : Nat → V} (h : VSl w B v n l) : ∃ A c, v = .slice A n c ∧ n ≤ c ∧ c ≤ maxLen ∧ SlR w A n l := by
  obtain ⟨A, c, hv, h1, h2, _, h4⟩ := h
  refine ⟨A, c, hv, h1, h2, fun h0 => ?_⟩
  obtain ⟨g, hA, _, cur, e1, e2⟩ := h4 h0
  exact ⟨g, 0, hA, fun _ => e1.lt, fun k j hk hj => by rw [e1.cell, Nat.zero_add, e2 k j hk hj]⟩
theorem VSl.fr {w w' : World} {B : Nat} {v : Value} {n : Nat} {l : Nat → V} {T : Nat → Prop} (h : VSl w B v n l) (hf : Fr T w w') (hn : ∀ b, B ≤ b → ¬ T b) : VSl w' B v n l := by
  obtain ⟨A, c, hv, h1, h2, h3, h4⟩ := h
  refine ⟨A, c, hv, h1, h2, h3, fun h0 => ?_⟩
  obtain ⟨g, hA, hg, hok⟩ := h4 h0
  exact ⟨g, hA, hg, Ent.ok_fr hok hf (hn g hg)⟩
def flat (n : Nat) (l : Nat → V) : List Value := (List.range (n * 52)).map fun j => cellAt (l (j / 52)) (j % 52)
theorem flat_length (n : Nat) (l : Nat → V) : (flat n l).length = n * 52 := by simp [flat]
theorem flat_get (n : Nat) (l : Nat → V) (j : Nat) (h : j < n * 52) : (flat n l)[j]? = some (cellAt (l (j / 52)) (j % 52)) := by simp [flat, h]
theorem flat_one (n : Nat) (l : Nat → V) : ∀ u ∈ flat n l, u.oneCell' = true := by
  intro u hu
  obtain ⟨j, _, rfl⟩ := List.mem_map.1 hu
  exact cell_one _ _
theorem own_vsl {w : World} {B : Nat} {v : Value} {n : Nat} {l : Nat → V} (h : w.ownsRow B 32 52 v n (flat n l)) : VSl w B v n l := by
  obtain ⟨_, ⟨rfl, rfl⟩ | ⟨g, cap, cur, rfl, hg, hh, hn, hm, hs, ht⟩⟩ := h
  · exact ⟨none, 0, rfl, Nat.le_refl _, Nat.zero_le _, fun _ => rfl, fun h => absurd h (Nat.lt_irrefl _)⟩
  · refine ⟨_, cap, rfl, hn, hm, (fun h => by cases h), fun _ => ⟨g, rfl, hg, cur, hh, fun k j hk hj => ?_⟩⟩
    have hlt : k * 52 + j < n * 52 := by omega
    have h1 := flat_get n l (k * 52 + j) hlt
    rw [← ht, List.getElem?_take, if_pos hlt] at h1
    rw [show (k * 52 + j) / 52 = k by omega, show (k * 52 + j) % 52 = j by omega] at h1
    simpa using h1

section
variable {ops : Array Oper} {rest : List Oper} {o : Oper} {a : Act} {w : World} {Q : Exit → Act → World → Prop}
set_option maxRecDepth 100000 in
theorem run_append_vs (ty : TypeId) (B : Nat) (hB : B ≤ w.heap.size) (v : Value) (hown : w.ownsRow B 32 52 v 0 []) (A : Option Addr) (m c : Nat) (l : Nat → V) (hA : A = none → m = 0) (hR : SlR w A m l) (hm : m * 368 ≤ 140737488355328) :
    ∃ v' w', (Builtin.append_ #[24, 24] ty #[v, .slice A m c]).run Try.prog w = .ok v' w' ∧ VSl w' B v' m l ∧ Fr (fun k => B ≤ k) w w' := by
  obtain ⟨i0, hi, hz0, hz1, hz2⟩ := info_parts Try.row32
  cases A with
  | none =>
    obtain rfl := hA rfl
    have h0 : VSl w B v 0 l := own_vsl (by simpa [flat] using hown)
    refine ⟨v, w, ?_, h0, Fr.refl _ _⟩
    obtain ⟨_, ⟨rfl, _⟩ | ⟨g, cap, cur, rfl, _⟩⟩ := hown
    · exact bytes_nil 24 ty 32 i0 Try.underlying24 hi none 0 0 c (Nat.le_refl _) (fun _ => ⟨rfl, rfl⟩)
    · exact bytes_nil 24 ty 32 i0 Try.underlying24 hi (some ⟨g, 0, none⟩) 0 cap c (Nat.zero_le _) (fun h => by cases h)
  | some ad =>
    have hnews : ∀ j u, (flat m l)[j]? = some u → w.cell? (ad.add j) = some u := fun j u hu => by
      have hj : j < m * 52 := by have := (List.getElem?_eq_some_iff.1 hu).1; simpa [flat_length] using this
      obtain ⟨b, off, e, hr⟩ := hR (by omega)
      cases e
      rw [flat_get m l j hj] at hu
      cases hu
      have := hr.at_ (j / 52) (j % 52) (by omega) (by omega)
      rw [show j / 52 * 52 + j % 52 = j by omega] at this
      rw [Addr.add_lit]; exact this
    obtain ⟨v', w', hrun, h1, h2, _⟩ := run_append_own (P := Try.prog) w B 24 ty 32 i0 _ 52 368 Try.underlying24 hi hz0 hz1 hz2 (arr_size _ _) (by decide) v 0 [] hown ad m c (flat m l) (flat_length m l) hnews (flat_one m l)
      (by unfold maxLen; omega) (by omega) hB
    refine ⟨v', w', hrun, own_vsl (by simpa using h1), ⟨h2.os, h2.tape, h2.output, h2.size, fun k hk hn => h2.block k hk (fun e => ?_)⟩⟩
    obtain ⟨_, ⟨rfl, _⟩ | ⟨g, cap, cur, rfl, hg, _⟩⟩ := hown
    · simp [Value.ownBlock] at e
    · simp [Value.ownBlock] at e
      omega
theorem wpList_append_vs (hgd : Gd ops o a) (s x : Operand) (ho : o.op = .call { callee := .builtin .append, args := #[s, x], argTypes := #[24, 24] }) (B : Nat) (hB : B ≤ w.heap.size) (v : Value) (hs : a.eval s = v) (hown : w.ownsRow B 32 52 v 0 [])
    (A : Option Addr) (m c : Nat) (hx : a.eval x = .slice A m c) (l : Nat → V) (hA : A = none → m = 0) (hR : SlR w A m l) (hm : m * 368 ≤ 140737488355328)
    (h : ∀ v' w', VSl w' B v' m l → Fr (fun k => B ≤ k) w w' → wpList Try.prog ops Q rest (a.put o.dst v') w') : wpList Try.prog ops Q (o :: rest) a w := by
  obtain ⟨v', w', hrun, h2, h3⟩ := run_append_vs o.type B hB v hown A m c l hA hR hm
  refine wpList_want hgd fun K hK => ?_
  unfold Oper.wp execOp
  simp only [ho, resolve, invoke, builtin, Sem.run_bind, Sem.run_pure, Result.andThen_ok, List.map_toArray, List.map_cons, List.map_nil, hs, hx, hrun]
  exact hK _ _ (h v' w' h2 h3)
end

theorem copied_any (A : Option Addr) (n c : Nat) (l : Nat → V) (w : World) (hA : A = none → n = 0) (hR : SlR w A n l) (hn : n * 368 ≤ 140737488355328) :
    Calls Try.prog 19 #[.slice A n c] w fun e w' => ∃ v, e = .returned v ∧ VSl w' w.heap.size v n l ∧ Fr (fun _ => False) w w' := by
  have HR := Lib.hid hR
  clear hR
  go_enter Try.func19, Try.ntmps19
  go_wp2_with (refine wpList_append_vs (gd_none rfl) _ _ rfl w.heap.size (Nat.le_refl _) _ rfl (World.ownsRow_nil w _ 32 52) A n c rfl l hA HR.out hn ?_)
  intro v' w' h1 h2
  have H1 := Lib.hid h1
  have H2 := Lib.hid (h2.weak (S' := fun _ => False) (fun k hk (h : w.heap.size ≤ k) => by omega))
  clear h1 h2
  go_wp2_with fail
  go_ret
  exact ⟨_, rfl, H1.out, H2.out⟩

theorem clone_any (A : Option Addr) (n c : Nat) (l : Nat → V) (w : World) (hA : A = none → n = 0) (hR : SlR w A n l) (hn : n * 368 ≤ 140737488355328) :
    Calls Try.prog 32 #[.slice A n c] w fun e w' => ∃ v, e = .returned v ∧ VSl w' w.heap.size v n l ∧ Fr (fun _ => False) w w' := by
  have HR := Lib.hid hR
  clear hR
  cases A with
  | none =>
    obtain rfl := hA rfl
    clear hA
    have heq : ∀ w, (binOp .eql 24 (.slice none 0 c) (.slice none 0 0)).run Try.prog w = .ok (.bool true) w := fun w => Lib.run_eql_slice_nil w 24 32 none 0 c 0 0 Try.underlying24
    go_enter Try.func32, Try.ntmps32
    go_wp2_with fail
    go_ret
    exact ⟨_, rfl, ⟨none, 0, rfl, Nat.le_refl _, Nat.zero_le _, fun _ => rfl, fun h => absurd h (Nat.lt_irrefl _)⟩, Fr.refl _ _⟩
  | some ad =>
    have heq : ∀ w, (binOp .eql 24 (.slice (some ad) n c) (.slice none 0 0)).run Try.prog w = .ok (.bool false) w := fun w => Lib.run_eql_slice_nil w 24 32 (some ad) n c 0 0 Try.underlying24
    go_enter Try.func32, Try.ntmps32
    have hown : (w.alloc (.cells #[] 32)).ownsRow w.heap.size 32 52 (.slice (some ⟨w.heap.size, 0, none⟩) 0 0) 0 [] :=
      ⟨rfl, .inr ⟨w.heap.size, 0, #[], rfl, Nat.le_refl _, heap_alloc_new w _, Nat.le_refl _, Nat.zero_le _, rfl, rfl⟩⟩
    have hR2 := Lib.hid (HR.out.fr ((Fr.refl (fun _ => False) w).alloc (.cells #[] 32)) (fun _ _ h => h))
    go_wp2_with (refine wpList_append_vs (gd_none rfl) _ _ rfl w.heap.size (by simp) _ rfl hown (some ad) n c rfl l hA hR2.out hn ?_)
    intro v' w' h1 h2
    have H1 := Lib.hid h1
    have H2 := Lib.hid ((((Fr.refl (fun _ => False) w).alloc (.cells #[] 32)).trans h2 (fun k hk (h : w.heap.size ≤ k) => by omega)))
    clear h1 h2 heq
    go_wp2_with fail
    go_ret
    exact ⟨_, rfl, H1.out, H2.out⟩
end Go.Proofs.Ytjiolobkobpohaa
