/- PlatUarts: both UARTs, step by step. -/
import Derived.Test.YtnjddnmekcjhnaaV
import Derived.Test.YtnjddnmekcjhnaaX
import Derived.Test.YtnjddnmekcjhnaaP
namespace Go.Proofs.Ytnjddnmekcjhnaa
open Go.RowKit

/-- Since w0 the law has made the program's UART at p, which holds u, and the reference's at r, which holds v, apart from each other; nothing of before has turned. -/
def UU (w0 w : World) (p r : Nat) (u v : UA) : Prop :=
  ∃ SU SR : Nat → Prop, UAt w 86 SU p u ∧ UAt w 68 SR r v ∧ (∀ k, SU k → w0.heap.size ≤ k ∧ k < w.heap.size ∧ ¬ SR k) ∧ (∀ k, SR k → w0.heap.size ≤ k ∧ k < w.heap.size) ∧ u.Wf ∧ v.Wf ∧ Fr (fun _ => False) w0 w

section
variable {w0 w w' : World} {p r : Nat} {u v u' v' : UA}
theorem UU.fr (h : UU w0 w p r u v) : Fr (fun _ => False) w0 w := by
  obtain ⟨_, _, _, _, _, _, _, _, hf⟩ := h
  exact hf
theorem UU.quiet (h : UU w0 w p r u v) (hf : Fr (fun _ => False) w w') : UU w0 w' p r u v := by
  obtain ⟨SU, SR, hu, hr, h1, h2, hw, hx, hf0⟩ := h
  have hs := hf.size
  exact ⟨SU, SR, hu.fr hf (fun _ _ _ h => h), hr.fr hf (fun _ _ _ h => h), fun k hk => ⟨(h1 k hk).1, by have := (h1 k hk).2.1; omega, (h1 k hk).2.2⟩, fun k hk => ⟨(h2 k hk).1, by have := (h2 k hk).2; omega⟩, hw, hx, hf0.trans hf (fun _ _ h => h)⟩
theorem uu_left {SU SR : Nat → Prop} (hr : UAt w 68 SR r v) (h1 : ∀ k, SU k → w0.heap.size ≤ k ∧ k < w.heap.size ∧ ¬ SR k) (h2 : ∀ k, SR k → w0.heap.size ≤ k ∧ k < w.heap.size) (hx : v.Wf) (hf : Fr (fun _ => False) w0 w)
    (hu' : UAt w' 86 (More SU w) p u') (hf' : Fr SU w w') (hw : u'.Wf) : UU w0 w' p r u' v := by
  have hs := hf'.size
  have hs0 := hf.size
  refine ⟨fun k => More SU w k ∧ k < w'.heap.size, SR, hu'.weak (fun k hk h => ⟨h, hk⟩), hr.fr hf' (fun k _ hk hk2 => (h1 k hk2).2.2 hk), fun k hk => ?_, fun k hk => ⟨(h2 k hk).1, by have := (h2 k hk).2; omega⟩, hw, hx, hf.trans hf' (fun k hk h => by have := (h1 k h).1; omega)⟩
  rcases hk with ⟨h3 | h3, h4⟩
  · exact ⟨(h1 k h3).1, h4, (h1 k h3).2.2⟩
  · exact ⟨by omega, h4, fun h5 => by have := (h2 k h5).2; omega⟩
theorem uu_right {SU SR : Nat → Prop} (hu : UAt w 86 SU p u) (h1 : ∀ k, SU k → w0.heap.size ≤ k ∧ k < w.heap.size ∧ ¬ SR k) (h2 : ∀ k, SR k → w0.heap.size ≤ k ∧ k < w.heap.size) (hx : u.Wf) (hf : Fr (fun _ => False) w0 w)
    (hr' : UAt w' 68 (More SR w) r v') (hf' : Fr SR w w') (hw : v'.Wf) : UU w0 w' p r u v' := by
  have hs := hf'.size
  have hs0 := hf.size
  refine ⟨SU, fun k => More SR w k ∧ k < w'.heap.size, hu.fr hf' (fun k _ hk hk2 => (h1 k hk).2.2 hk2), hr'.weak (fun k hk h => ⟨h, hk⟩), fun k hk => ⟨(h1 k hk).1, by have := (h1 k hk).2.1; omega, fun h => ?_⟩, fun k hk => ?_, hx, hw, hf.trans hf' (fun k hk h => by have := (h2 k h).1; omega)⟩
  · rcases h.1 with h3 | h3
    · exact (h1 k hk).2.2 h3
    · have := (h1 k hk).2.1; omega
  · rcases hk with ⟨h3 | h3, h4⟩
    · exact ⟨(h2 k h3).1, h4⟩
    · exact ⟨by omega, h4⟩
theorem uu_in (h : UU w0 w p r u v) (x : Nat) : Calls Try.prog 30 #[.pointer (some ⟨p, 0, none⟩), .int .u8 x] w fun e w' => e = .returned (.tuple #[]) ∧ UU w0 w' p r (u.inn x) v := by
  obtain ⟨SU, SR, hu, hr, h1, h2, hw, hx, hf⟩ := h
  exact (in_any SU p u x w hu hw).mono fun _ _ ⟨he, hu', hf'⟩ => ⟨he, uu_left hr h1 h2 hx hf hu' hf' (hw.inn x)⟩
theorem uu_rin (h : UU w0 w p r u v) (x : Nat) : Calls Try.prog 38 #[.pointer (some ⟨r, 0, none⟩), .int .u8 x] w fun e w' => e = .returned (.tuple #[]) ∧ UU w0 w' p r u (v.inn x) := by
  obtain ⟨SU, SR, hu, hr, h1, h2, hw, hx, hf⟩ := h
  exact (refIn_any SR r v x w hr hx).mono fun _ _ ⟨he, hu', hf'⟩ => ⟨he, uu_right hu h1 h2 hw hf hu' hf' (hx.inn x)⟩
theorem uu_read (h : UU w0 w p r u v) (off : Int) : Calls Try.prog 31 #[.pointer (some ⟨p, 0, none⟩), .int .u64 off] w fun e w' => e = .returned (.int .u8 (u.val off)) ∧ UU w0 w' p r (u.aft off) v := by
  obtain ⟨SU, SR, hu, hr, h1, h2, hw, hx, hf⟩ := h
  exact (read_any SU p u off w hu hw).mono fun _ _ ⟨he, hu', hf'⟩ => ⟨he, uu_left hr h1 h2 hx hf (hu'.weak (fun _ _ h => .inl h)) hf' (hw.aft off)⟩
theorem uu_rread (h : UU w0 w p r u v) (off : Int) : Calls Try.prog 36 #[.pointer (some ⟨r, 0, none⟩), .int .u64 off] w fun e w' => e = .returned (.int .u8 (v.val off)) ∧ UU w0 w' p r u (v.aft off) := by
  obtain ⟨SU, SR, hu, hr, h1, h2, hw, hx, hf⟩ := h
  exact (refRead_any SR r v off w hr hx).mono fun _ _ ⟨he, hu', hf'⟩ => ⟨he, uu_right hu h1 h2 hw hf hu' hf' (hx.aft off)⟩
theorem uu_write (h : UU w0 w p r u v) (off : Int) (x : Nat) (hx2 : x < 256) (hn : u.sent.length < 140737488355328) : Calls Try.prog 32 #[.pointer (some ⟨p, 0, none⟩), .int .u64 off, .int .u8 x] w fun e w' => e = .returned (.tuple #[]) ∧ UU w0 w' p r (u.wr off x) v := by
  obtain ⟨SU, SR, hu, hr, h1, h2, hw, hx, hf⟩ := h
  exact (write_any SU p u off x w hu hw hx2 hn).mono fun _ _ ⟨he, hu', hf'⟩ => ⟨he, uu_left hr h1 h2 hx hf hu' hf' (hw.wr off x hx2)⟩
theorem uu_rwrite (h : UU w0 w p r u v) (off : Int) (x : Nat) (hx2 : x < 256) (hn : v.sent.length < 140737488355328) : Calls Try.prog 37 #[.pointer (some ⟨r, 0, none⟩), .int .u64 off, .int .u8 x] w fun e w' => e = .returned (.tuple #[]) ∧ UU w0 w' p r u (v.wr off x) := by
  obtain ⟨SU, SR, hu, hr, h1, h2, hw, hx, hf⟩ := h
  exact (refWrite_any SR r v off x w hr hx hx2 hn).mono fun _ _ ⟨he, hu', hf'⟩ => ⟨he, uu_right hu h1 h2 hw hf hu' hf' (hx.wr off x hx2)⟩
theorem uu_irq (h : UU w0 w p r u v) : Calls Try.prog 35 #[.pointer (some ⟨p, 0, none⟩)] w fun e w' => e = .returned (.bool (u.cause != 1)) ∧ w' = w := by
  obtain ⟨SU, SR, hu, _, _, _, hw, _, _⟩ := h
  exact irq_any SU p u w hu hw
theorem uu_rirq (h : UU w0 w p r u v) : Calls Try.prog 39 #[.pointer (some ⟨r, 0, none⟩)] w fun e w' => e = .returned (.bool (v.cause != 1)) ∧ w' = w := by
  obtain ⟨SU, SR, _, hr, _, _, _, hx, _⟩ := h
  exact refIrq_any SR r v w hr hx
theorem uu_out (h : UU w0 w p r u v) (hn : u.sent.length ≤ 140737488355328) : Calls Try.prog 34 #[.pointer (some ⟨p, 0, none⟩)] w fun e w' => ∃ x, e = .returned x ∧ Sl w' (fun k => w.heap.size ≤ k) 5 1 x u.sent.length (bytes u.sent) ∧ Fr (fun _ => False) w w' ∧ UU w0 w' p r u v := by
  have h0 := h
  obtain ⟨SU, SR, hu, _, _, _, hw, _, _⟩ := h
  exact (out_any SU p u w hu hn).mono fun _ _ ⟨x, he, hs, hf⟩ => ⟨x, he, hs, hf, h0.quiet hf⟩
end
/-- The same, and neither of them holds block g, which is there. -/
def UG (g : Nat) (w0 w : World) (p r : Nat) (u v : UA) : Prop :=
  ∃ SU SR : Nat → Prop, UAt w 86 SU p u ∧ UAt w 68 SR r v ∧ (∀ k, SU k → w0.heap.size ≤ k ∧ k < w.heap.size ∧ ¬ SR k ∧ k ≠ g) ∧ (∀ k, SR k → w0.heap.size ≤ k ∧ k < w.heap.size ∧ k ≠ g) ∧ u.Wf ∧ v.Wf ∧ g < w.heap.size ∧ Fr (fun _ => False) w0 w

section
variable {g : Nat} {w0 w w' : World} {p r : Nat} {u v u' v' : UA}
theorem UG.uu (h : UG g w0 w p r u v) : UU w0 w p r u v := by
  obtain ⟨SU, SR, hu, hr, h1, h2, hw, hx, _, hf⟩ := h
  exact ⟨SU, SR, hu, hr, fun k hk => ⟨(h1 k hk).1, (h1 k hk).2.1, (h1 k hk).2.2.1⟩, fun k hk => ⟨(h2 k hk).1, (h2 k hk).2.1⟩, hw, hx, hf⟩
theorem UU.ug (h : UU w0 w p r u v) (o : Obj) : UG w.heap.size w0 (w.alloc o) p r u v := by
  obtain ⟨SU, SR, hu, hr, h1, h2, hw, hx, hf⟩ := h
  have hfx := (Fr.refl (fun _ => False) w).alloc o
  have hs : (w.alloc o).heap.size = w.heap.size + 1 := by simp
  exact ⟨SU, SR, hu.fr hfx (fun _ _ _ h => h), hr.fr hfx (fun _ _ _ h => h), fun k hk => ⟨(h1 k hk).1, by have := (h1 k hk).2.1; omega, (h1 k hk).2.2, by have := (h1 k hk).2.1; omega⟩, fun k hk => ⟨(h2 k hk).1, by have := (h2 k hk).2; omega, by have := (h2 k hk).2; omega⟩, hw, hx, by omega, hf.trans hfx (fun _ _ h => h)⟩
theorem UG.quiet (h : UG g w0 w p r u v) (hf : Fr (fun _ => False) w w') : UG g w0 w' p r u v := by
  obtain ⟨SU, SR, hu, hr, h1, h2, hw, hx, hg, hf0⟩ := h
  have hs := hf.size
  exact ⟨SU, SR, hu.fr hf (fun _ _ _ h => h), hr.fr hf (fun _ _ _ h => h), fun k hk => ⟨(h1 k hk).1, by have := (h1 k hk).2.1; omega, (h1 k hk).2.2⟩, fun k hk => ⟨(h2 k hk).1, by have := (h2 k hk).2.1; omega, (h2 k hk).2.2⟩, hw, hx, by omega, hf0.trans hf (fun _ _ h => h)⟩
theorem ug_left {SU SR : Nat → Prop} (hr : UAt w 68 SR r v) (h1 : ∀ k, SU k → w0.heap.size ≤ k ∧ k < w.heap.size ∧ ¬ SR k ∧ k ≠ g) (h2 : ∀ k, SR k → w0.heap.size ≤ k ∧ k < w.heap.size ∧ k ≠ g) (hx : v.Wf) (hg : g < w.heap.size) (hf : Fr (fun _ => False) w0 w)
    (hu' : UAt w' 86 (More SU w) p u') (hf' : Fr SU w w') (hw : u'.Wf) : UG g w0 w' p r u' v ∧ ∀ t cs, Has w g t cs → Has w' g t cs := by
  have hs := hf'.size
  have hs0 := hf.size
  refine ⟨⟨fun k => More SU w k ∧ k < w'.heap.size, SR, hu'.weak (fun k hk h => ⟨h, hk⟩), hr.fr hf' (fun k _ hk hk2 => (h1 k hk2).2.2.1 hk), fun k hk => ?_, fun k hk => ⟨(h2 k hk).1, by have := (h2 k hk).2.1; omega, (h2 k hk).2.2⟩, hw, hx, by omega, hf.trans hf' (fun k hk h => by have := (h1 k h).1; omega)⟩,
    fun t cs h => hf'.has h (fun h3 => (h1 g h3).2.2.2 rfl)⟩
  rcases hk with ⟨h3 | h3, h4⟩
  · exact ⟨(h1 k h3).1, h4, (h1 k h3).2.2⟩
  · exact ⟨by omega, h4, fun h5 => by have := (h2 k h5).2.1; omega, by omega⟩
theorem ug_right {SU SR : Nat → Prop} (hu : UAt w 86 SU p u) (h1 : ∀ k, SU k → w0.heap.size ≤ k ∧ k < w.heap.size ∧ ¬ SR k ∧ k ≠ g) (h2 : ∀ k, SR k → w0.heap.size ≤ k ∧ k < w.heap.size ∧ k ≠ g) (hx : u.Wf) (hg : g < w.heap.size) (hf : Fr (fun _ => False) w0 w)
    (hr' : UAt w' 68 (More SR w) r v') (hf' : Fr SR w w') (hw : v'.Wf) : UG g w0 w' p r u v' ∧ ∀ t cs, Has w g t cs → Has w' g t cs := by
  have hs := hf'.size
  have hs0 := hf.size
  refine ⟨⟨SU, fun k => More SR w k ∧ k < w'.heap.size, hu.fr hf' (fun k _ hk hk2 => (h1 k hk).2.2.1 hk2), hr'.weak (fun k hk h => ⟨h, hk⟩), fun k hk => ⟨(h1 k hk).1, by have := (h1 k hk).2.1; omega, fun h => ?_, (h1 k hk).2.2.2⟩, fun k hk => ?_, hx, hw, by omega, hf.trans hf' (fun k hk h => by have := (h2 k h).1; omega)⟩,
    fun t cs h => hf'.has h (fun h3 => (h2 g h3).2.2 rfl)⟩
  · rcases h.1 with h3 | h3
    · exact (h1 k hk).2.2.1 h3
    · have := (h1 k hk).2.1; omega
  · rcases hk with ⟨h3 | h3, h4⟩
    · exact ⟨(h2 k h3).1, h4, (h2 k h3).2.2⟩
    · exact ⟨by omega, h4, by omega⟩
theorem ug_in (h : UG g w0 w p r u v) (x : Nat) : Calls Try.prog 30 #[.pointer (some ⟨p, 0, none⟩), .int .u8 x] w fun e w' => e = .returned (.tuple #[]) ∧ UG g w0 w' p r (u.inn x) v ∧ ∀ t cs, Has w g t cs → Has w' g t cs := by
  obtain ⟨SU, SR, hu, hr, h1, h2, hw, hx, hg, hf⟩ := h
  exact (in_any SU p u x w hu hw).mono fun _ _ ⟨he, hu', hf'⟩ => ⟨he, ug_left hr h1 h2 hx hg hf hu' hf' (hw.inn x)⟩
theorem ug_rin (h : UG g w0 w p r u v) (x : Nat) : Calls Try.prog 38 #[.pointer (some ⟨r, 0, none⟩), .int .u8 x] w fun e w' => e = .returned (.tuple #[]) ∧ UG g w0 w' p r u (v.inn x) ∧ ∀ t cs, Has w g t cs → Has w' g t cs := by
  obtain ⟨SU, SR, hu, hr, h1, h2, hw, hx, hg, hf⟩ := h
  exact (refIn_any SR r v x w hr hx).mono fun _ _ ⟨he, hu', hf'⟩ => ⟨he, ug_right hu h1 h2 hw hg hf hu' hf' (hx.inn x)⟩
theorem ug_read (h : UG g w0 w p r u v) (off : Int) : Calls Try.prog 31 #[.pointer (some ⟨p, 0, none⟩), .int .u64 off] w fun e w' => e = .returned (.int .u8 (u.val off)) ∧ UG g w0 w' p r (u.aft off) v ∧ ∀ t cs, Has w g t cs → Has w' g t cs := by
  obtain ⟨SU, SR, hu, hr, h1, h2, hw, hx, hg, hf⟩ := h
  exact (read_any SU p u off w hu hw).mono fun _ _ ⟨he, hu', hf'⟩ => ⟨he, ug_left hr h1 h2 hx hg hf (hu'.weak (fun _ _ h => .inl h)) hf' (hw.aft off)⟩
theorem ug_rread (h : UG g w0 w p r u v) (off : Int) : Calls Try.prog 36 #[.pointer (some ⟨r, 0, none⟩), .int .u64 off] w fun e w' => e = .returned (.int .u8 (v.val off)) ∧ UG g w0 w' p r u (v.aft off) ∧ ∀ t cs, Has w g t cs → Has w' g t cs := by
  obtain ⟨SU, SR, hu, hr, h1, h2, hw, hx, hg, hf⟩ := h
  exact (refRead_any SR r v off w hr hx).mono fun _ _ ⟨he, hu', hf'⟩ => ⟨he, ug_right hu h1 h2 hw hg hf hu' hf' (hx.aft off)⟩
theorem ug_write (h : UG g w0 w p r u v) (off : Int) (x : Nat) (hx2 : x < 256) (hn : u.sent.length < 140737488355328) : Calls Try.prog 32 #[.pointer (some ⟨p, 0, none⟩), .int .u64 off, .int .u8 x] w fun e w' => e = .returned (.tuple #[]) ∧ UG g w0 w' p r (u.wr off x) v ∧ ∀ t cs, Has w g t cs → Has w' g t cs := by
  obtain ⟨SU, SR, hu, hr, h1, h2, hw, hx, hg, hf⟩ := h
  exact (write_any SU p u off x w hu hw hx2 hn).mono fun _ _ ⟨he, hu', hf'⟩ => ⟨he, ug_left hr h1 h2 hx hg hf hu' hf' (hw.wr off x hx2)⟩
theorem ug_rwrite (h : UG g w0 w p r u v) (off : Int) (x : Nat) (hx2 : x < 256) (hn : v.sent.length < 140737488355328) : Calls Try.prog 37 #[.pointer (some ⟨r, 0, none⟩), .int .u64 off, .int .u8 x] w fun e w' => e = .returned (.tuple #[]) ∧ UG g w0 w' p r u (v.wr off x) ∧ ∀ t cs, Has w g t cs → Has w' g t cs := by
  obtain ⟨SU, SR, hu, hr, h1, h2, hw, hx, hg, hf⟩ := h
  exact (refWrite_any SR r v off x w hr hx hx2 hn).mono fun _ _ ⟨he, hu', hf'⟩ => ⟨he, ug_right hu h1 h2 hw hg hf hu' hf' (hx.wr off x hx2)⟩
theorem ug_irq (h : UG g w0 w p r u v) : Calls Try.prog 35 #[.pointer (some ⟨p, 0, none⟩)] w fun e w' => e = .returned (.bool (u.cause != 1)) ∧ w' = w := by
  obtain ⟨SU, SR, hu, _, _, _, hw, _, _, _⟩ := h
  exact irq_any SU p u w hu hw
theorem ug_rirq (h : UG g w0 w p r u v) : Calls Try.prog 39 #[.pointer (some ⟨r, 0, none⟩)] w fun e w' => e = .returned (.bool (v.cause != 1)) ∧ w' = w := by
  obtain ⟨SU, SR, _, hr, _, _, _, hx, _, _⟩ := h
  exact refIrq_any SR r v w hr hx
end
theorem sent_inn (u : UA) (x : Nat) : (u.inn x).sent = u.sent := by unfold UA.inn; split <;> rfl
theorem sent_aft (u : UA) (off : Int) : (u.aft off).sent = u.sent := by unfold UA.aft; (repeat' split) <;> rfl
theorem sent_wr (u : UA) (off : Int) (x : Nat) : (u.wr off x).sent.length ≤ u.sent.length + 1 := by
  unfold UA.wr
  repeat' split
  all_goals first | (simp; done) | exact Nat.le_succ _
end Go.Proofs.Ytnjddnmekcjhnaa
