/- An interrupt controller answers any script of levels, pulses, claims and completions as the chapter says, for each hart: for every number of harts and script the law PlatIntcs returns true and leaves its arguments as they were. No condition of its own: the reading of the arguments and the form's own reach are the row's. -/
import Derived.Test.YtnjddnmekcjhnaaAG
namespace Go.Proofs.Ytnjddnmekcjhnaa
open Go.ChangeShapes Go.WideShapes Go.ChangeAt Go.RowKit
theorem intcs_any (S : Nat → Prop) (h : Int) (A : Option Addr) (n c : Nat) (ops : List Sc) (w : World) (hn : n = ops.length) (hs : n * 40 ≤ 140737488351232) (hrd : Rd w S A (flatS ops)) :
    Calls Try.prog 6 #[.int .i64 h, .slice A n c] w fun e w' => e = .returned (.bool true) ∧ Below w.heap.size w w' := by
  by_cases hh : 1 ≤ h ∧ h ≤ 64
  · obtain ⟨k, rfl⟩ := Int.eq_ofNat_of_zero_le (show 0 ≤ h by omega)
    exact intcs_walk S k A n c ops w hn hs hrd (by omega)
  · exact intcs_no S h A n c ops w hn hrd hh

set_option maxRecDepth 100000 in
theorem platIntcs_lifted (os : Os) (started : os.Started) (H : Type) (enc : TypeId × Value → H) :
    ReturnsInHanded {} Try.checked os 6 .any (Rows.platIntcsSpec.pre6 enc Try.prog Try.f6 Rows.platIntcsRow.domain false) (Rows.platIntcsSpec.post enc Try.prog Try.f6 false true false false) := by
  refine returnsInHanded_of_change_sized (C := Try.checked) Try.own started (by kernel_rfl) Try.func6
    (ChangeSpec.witness6 (enc := enc) (C := Try.checked) false ⟨#[], #[.int .i64 0, .slice none 0 0], []⟩ 8 (by kernel_rfl) (by kernel_rfl) (by kernel_rfl) (by kernel_rfl)) ?_
  intro W base args ds gs before hval0 hW hcnd hsz0 _
  have hsz : (DataW.weightsEach Try.prog (Try.f6.params.toList ++ Rows.platIntcsSpec.plain.varTypes Try.prog) (ds ++ gs)).all (· ≤ reachBytes) = true := hsz0
  have hval : ∀ (j : Nat) t v, Try.f6.params[j]? = some t → args[j]? = some v → Value.okWide Try.prog W .any base t v := hval0
  have hW' := hW
  obtain ⟨p, q, hA0, hV, rfl, hfz, hnd⟩ := hW
  have hA : DataW.TrodAll enc Try.prog W 0 (fun _ => true) true Try.f6.params.toList args.toList ds p := hA0
  rw [Try.params6] at hA hval hsz
  obtain ⟨v0, vs0, d0, ds0, p0, q0, hargs, rfl, rfl, h0, r0⟩ := trodAll_cons hA
  obtain ⟨v1, vs1, d1, ds1, p1, q1, rfl, rfl, rfl, h1, r1⟩ := trodAll_cons r0
  obtain ⟨rfl, rfl, rfl⟩ := trodAll_nil r1
  obtain rfl : args = #[v0, v1] := by cases args; simp_all
  obtain ⟨rfl, rfl⟩ := trodVars_none hV
  obtain ⟨a0, rfl, rfl, rfl, w0⟩ := open_int Try.underlying3 (hval 0 3 v0 rfl rfl) h0
  obtain ⟨a1, len1, cap1, rfl⟩ := okWide_slice Try.underlying22 (hval 1 22 v1 rfl rfl)
  have k1 := h1
  have lt1 : ∀ x ∈ p1, x.block < W.heap.size := by obtain ⟨m, hm⟩ := k1; exact DataW.trod_lt m _ _ _ hm
  obtain ⟨fuel1, hf1⟩ := h1
  obtain ⟨ops1, hlen1, hrd1, hreach1⟩ := open_script hf1
  have hr1 := hreach1 (fun n hn => by
    have := List.all_eq_true.1 hsz _ (DataW.weights_mem_each (j := 1) (t := 22) rfl rfl n hn)
    simpa using this)
  clear hA0 hval0
  refine (intcs_any _ a0 a1 len1 cap1 ops1 W hlen1 hr1 hrd1).mono fun e W' ⟨he, bel⟩ => ?_
  subst he
  exact ⟨_, rfl, _, _, _, [], _, [], hW', trodAll_mk1 (shut_bool Try.underlying4 _), (trodAll_cons_mk (shut_int Try.underlying3 w0) (trodAll_cons_mk (Below.trod Try.laidOut (by kernel_rfl) (of_decide_eq_true (by kernel_rfl)) k1 bel lt1) trodAll_mk0)), rfl, bel.frame _, fun h => by cases h⟩

theorem platIntcs_over : Rows.platIntcsRow.holds Try.pinned (OpenSpec.ofChange Rows.platIntcsSpec) :=
  OpenClaim.holds_of_wide 6 Try.f6 rfl rfl rfl rfl rfl rfl rfl ⟨rfl, rfl, rfl, rfl, rfl⟩ rfl rfl rfl rfl rfl (by kernel_rfl) Try.func6 (by kernel_rfl)
    (of_decide_eq_true (by kernel_rfl)) (by unfold Func.isWrapper; first | (rw [if_pos (by decide +kernel)]; kernel_rfl) | (rw [if_neg (by decide +kernel)]; exact ⟨rfl, rfl⟩))
    (fun os started H enc _ => platIntcs_lifted os started H enc)

theorem platIntcs_proved : Rows.PlatIntcsSaid := platIntcs_over
#print axioms platIntcs_proved
end Go.Proofs.Ytnjddnmekcjhnaa
