/- The TLB's flush of one VMID: for every room, script and VMID the law TlbFlushes returns true and leaves its arguments as they were. No condition of its own: the reading of a script and the form's own reach (a slice takes at most 2^47 - 4096 bytes) are the row's. -/
import Derived.Test.YthpkdgneijggoaaR
import Derived.Test.YthpkdgneijggoaaS
namespace Go.Proofs.Ythpkdgneijggoaa
open Go.ChangeShapes Go.WideShapes Go.ChangeAt Go.RowKit

theorem flushes_walk (S : Nat → Prop) (room V : Int) (A : Option Addr) (n c : Nat) (ops : List Sc) (w : World) (hn : n = ops.length) (hs : n * 48 ≤ 140737488351232) (hrd : Rd w S A (flatS ops)) :
    Calls Try.prog 3 #[.int .i64 room, .slice A n c, .int .i64 V] w fun e w' => e = .returned (.bool true) ∧ Below w.heap.size w w' := by
  by_cases hr : 1 ≤ room ∧ room ≤ 64
  · exact (flushes_yes S room V A n c ops w hr hn (by omega) hrd).mono fun e w' ⟨h, hf⟩ => ⟨h, hf.below (fun _ h => h.elim) (Nat.le_refl _)⟩
  · exact (flushes_no room V A n c w hr).mono fun e w' ⟨h, hf⟩ => ⟨h, hf.below (fun _ h => h.elim) (Nat.le_refl _)⟩

set_option maxRecDepth 100000 in
theorem flushes_lifted (os : Os) (started : os.Started) (H : Type) (enc : TypeId × Value → H) :
    ReturnsInHanded {} Try.checked os 3 .any (Rows.tlbFlushesSpec.pre6 enc Try.prog Try.f3 Rows.tlbFlushesRow.domain false) (Rows.tlbFlushesSpec.post enc Try.prog Try.f3 false true false false) := by
  refine returnsInHanded_of_change_sized (C := Try.checked) Try.own started (by kernel_rfl) Try.func3
    (ChangeSpec.witness6 (enc := enc) (C := Try.checked) false ⟨#[], #[.int .i64 0, .slice none 0 0, .int .i64 0], []⟩ 8 (by kernel_rfl) (by kernel_rfl) (by kernel_rfl) (by kernel_rfl)) ?_
  intro W base args ds gs before hval0 hW hcnd hsz0 _
  have hsz : (DataW.weightsEach Try.prog (Try.f3.params.toList ++ Rows.tlbFlushesSpec.plain.varTypes Try.prog) (ds ++ gs)).all (· ≤ reachBytes) = true := hsz0
  have hval : ∀ (j : Nat) t v, Try.f3.params[j]? = some t → args[j]? = some v → Value.okWide Try.prog W .any base t v := hval0
  have hW' := hW
  obtain ⟨p, q, hA0, hV, rfl, hfz, hnd⟩ := hW
  have hA : DataW.TrodAll enc Try.prog W 0 (fun _ => true) true Try.f3.params.toList args.toList ds p := hA0
  rw [Try.params3] at hA hval hsz
  obtain ⟨v0, vs0, d0, ds0, p0, q0, hargs, rfl, rfl, h0, r0⟩ := trodAll_cons hA
  obtain ⟨v1, vs1, d1, ds1, p1, q1, rfl, rfl, rfl, h1, r1⟩ := trodAll_cons r0
  obtain ⟨v2, vs2, d2, ds2, p2, q2, rfl, rfl, rfl, h2, r2⟩ := trodAll_cons r1
  obtain ⟨rfl, rfl, rfl⟩ := trodAll_nil r2
  obtain rfl : args = #[v0, v1, v2] := by cases args; simp_all
  obtain ⟨rfl, rfl⟩ := trodVars_none hV
  obtain ⟨a0, rfl, rfl, rfl, w0⟩ := open_int Try.underlying3 (hval 0 3 v0 rfl rfl) h0
  obtain ⟨a1, len1, cap1, rfl⟩ := okWide_slice Try.underlying22 (hval 1 22 v1 rfl rfl)
  obtain ⟨a2, rfl, rfl, rfl, w2⟩ := open_int Try.underlying3 (hval 2 3 v2 rfl rfl) h2
  have k1 := h1
  have lt1 : ∀ x ∈ p1, x.block < W.heap.size := by obtain ⟨m, hm⟩ := k1; exact DataW.trod_lt m _ _ _ hm
  obtain ⟨fuel, hf⟩ := h1
  obtain ⟨ops, hlen, hrd, hreach⟩ := open_script hf
  have hr1 := hreach (fun n hn => by
    have := List.all_eq_true.1 hsz _ (DataW.weights_mem_each (j := 1) (t := 22) rfl rfl n hn)
    simpa using this)
  clear hA0 hval0
  refine (flushes_walk _ a0 a2 a1 len1 cap1 ops W hlen hr1 hrd).mono fun e W' ⟨he, bel⟩ => ?_
  subst he
  exact ⟨_, rfl, _, _, _, [], _, [], hW', trodAll_mk1 (shut_bool Try.underlying4 _), (trodAll_cons_mk (shut_int Try.underlying3 w0) (trodAll_cons_mk (Below.trod Try.laidOut (by kernel_rfl) (of_decide_eq_true (by kernel_rfl)) k1 bel lt1) (trodAll_cons_mk (shut_int Try.underlying3 w2) trodAll_mk0))), rfl, bel.frame _, fun h => by cases h⟩

theorem flushes_over : Rows.tlbFlushesRow.holds Try.pinned (OpenSpec.ofChange Rows.tlbFlushesSpec) :=
  OpenClaim.holds_of_wide 3 Try.f3 rfl rfl rfl rfl rfl rfl rfl ⟨rfl, rfl, rfl, rfl, rfl⟩ rfl rfl rfl rfl rfl (by kernel_rfl) Try.func3 (by kernel_rfl)
    (of_decide_eq_true (by kernel_rfl)) (by unfold Func.isWrapper; first | (rw [if_pos (by decide +kernel)]; kernel_rfl) | (rw [if_neg (by decide +kernel)]; exact ⟨rfl, rfl⟩))
    (fun os started H enc _ => flushes_lifted os started H enc)

theorem flushes_proved : Rows.TlbFlushesSaid := flushes_over
#print axioms flushes_proved
end Go.Proofs.Ythpkdgneijggoaa
