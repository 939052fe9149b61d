/- A call turns no other hart, but an interrupt that is sent to it, its start, and the end of all: for every list of virtual harts and number the law VcpuAlone returns true and leaves its arguments as they were. No condition of its own: the reading of the arguments and the form's own reach are the row's. -/
import Derived.Test.YtjiolobkobpohaaAB
import Derived.Test.YtjiolobkobpohaaS
namespace Go.Proofs.Ytjiolobkobpohaa
open Go.ChangeShapes Go.WideShapes Go.ChangeAt Go.RowKit
theorem alone_int (A : Option Addr) (n c : Nat) (l : Nat → V) (a1 : Int) (w : World) (_h1 : (Lit.int .i64 a1).wf = true)
    (hA : A = none → n = 0) (hR : SlR w A n l ∧ ∀ k, k < n → (l k).Wf) (hn : n * 368 ≤ 140737488351232) :
    Calls Try.prog 6 #[.slice A n c, .int .i64 a1] w fun e w' => e = .returned (.bool true) ∧ Below w.heap.size w w' := by
  by_cases h : 0 ≤ a1 ∧ a1 < (n : Int)
  · obtain ⟨j, rfl⟩ := Int.eq_ofNat_of_zero_le h.1
    exact alone_yes A n c l j w hA hR.1 (by omega) hR.2 (by omega)
  · exact alone_no A n c l a1 w hA hR.1 (by omega) hR.2 h

set_option maxRecDepth 100000 in
theorem vcpuAlone_lifted (os : Os) (started : os.Started) (H : Type) (enc : TypeId × Value → H) :
    ReturnsInHanded {} Try.checked os 6 .any (Rows.vcpuAloneSpec.pre6 enc Try.prog Try.f6 Rows.vcpuAloneRow.domain false) (Rows.vcpuAloneSpec.post enc Try.prog Try.f6 false true false false) := by
  refine returnsInHanded_of_change_sized (C := Try.checked) Try.own started (by kernel_rfl) Try.func6
    (ChangeSpec.witness6 (enc := enc) (C := Try.checked) false ⟨#[], #[.slice none 0 0, .int .i64 0], []⟩ 8 (by kernel_rfl) (by kernel_rfl) (by kernel_rfl) (by kernel_rfl)) ?_
  intro W base args ds gs before hval0 hW hcnd hsz0 _
  have hsz : (DataW.weightsEach Try.prog (Try.f6.params.toList ++ Rows.vcpuAloneSpec.plain.varTypes Try.prog) (ds ++ gs)).all (· ≤ reachBytes) = true := hsz0
  have hval : ∀ (j : Nat) t v, Try.f6.params[j]? = some t → args[j]? = some v → Value.okWide Try.prog W .any base t v := hval0
  have hW' := hW
  obtain ⟨p, q, hA0, hV, rfl, hfz, hnd⟩ := hW
  have hA : DataW.TrodAll enc Try.prog W 0 (fun _ => true) true Try.f6.params.toList args.toList ds p := hA0
  rw [Try.params6] at hA hval hsz
  obtain ⟨v0, vs0, d0, ds0, p0, q0, hargs, rfl, rfl, h0, r0⟩ := trodAll_cons hA
  obtain ⟨v1, vs1, d1, ds1, p1, q1, rfl, rfl, rfl, h1, r1⟩ := trodAll_cons r0
  obtain ⟨rfl, rfl, rfl⟩ := trodAll_nil r1
  obtain rfl : args = #[v0, v1] := by cases args; simp_all
  obtain ⟨rfl, rfl⟩ := trodVars_none hV
  obtain ⟨a0, len0, cap0, rfl⟩ := okWide_slice Try.underlying24 (hval 0 24 v0 rfl rfl)
  have k0 := h0
  have lt0 : ∀ x ∈ p0, x.block < W.heap.size := by obtain ⟨m, hm⟩ := k0; exact DataW.trod_lt m _ _ _ hm
  obtain ⟨fuel0, hf0⟩ := h0
  obtain ⟨ops0, hlen0, hrd0, hreach0⟩ := open_vs hf0
  have hr0 := hreach0 (fun n hn => by
    have := List.all_eq_true.1 hsz _ (DataW.weights_mem_each (j := 0) (t := 24) rfl rfl n hn)
    simpa using this)
  obtain ⟨a1, rfl, rfl, rfl, w1⟩ := open_int Try.underlying3 (hval 1 3 v1 rfl rfl) h1
  clear hA0 hval0
  refine (alone_int a0 len0 cap0 ops0 a1 W w1 hlen0 hrd0 hr0).mono fun e W' ⟨he, bel⟩ => ?_
  subst he
  exact ⟨_, rfl, _, _, _, [], _, [], hW', trodAll_mk1 (shut_bool Try.underlying4 _), (trodAll_cons_mk (Below.trod Try.laidOut (by kernel_rfl) (of_decide_eq_true (by kernel_rfl)) k0 bel lt0) (trodAll_cons_mk (shut_int Try.underlying3 w1) trodAll_mk0)), rfl, bel.frame _, fun h => by cases h⟩

theorem vcpuAlone_over : Rows.vcpuAloneRow.holds Try.pinned (OpenSpec.ofChange Rows.vcpuAloneSpec) :=
  OpenClaim.holds_of_wide 6 Try.f6 rfl rfl rfl rfl rfl rfl rfl ⟨rfl, rfl, rfl, rfl, rfl⟩ rfl rfl rfl rfl rfl (by kernel_rfl) Try.func6 (by kernel_rfl)
    (of_decide_eq_true (by kernel_rfl)) (by unfold Func.isWrapper; first | (rw [if_pos (by decide +kernel)]; kernel_rfl) | (rw [if_neg (by decide +kernel)]; exact ⟨rfl, rfl⟩))
    (fun os started H enc _ => vcpuAlone_lifted os started H enc)

theorem vcpuAlone_proved : Rows.VcpuAloneSaid := vcpuAlone_over
#print axioms vcpuAlone_proved
end Go.Proofs.Ytjiolobkobpohaa
