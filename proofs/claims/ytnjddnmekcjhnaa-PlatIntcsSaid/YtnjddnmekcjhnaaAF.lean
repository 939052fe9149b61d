/- PlatIntcs: both controllers, step by step. -/
import Derived.Test.YtnjddnmekcjhnaaAE
import Derived.Test.YtnjddnmekcjhnaaJ
import Derived.Test.YtnjddnmekcjhnaaP
namespace Go.Proofs.Ytnjddnmekcjhnaa
open Go.RowKit

/-- Since w0 the law has made the program's controller at p, which holds x, and the reference's at r, which holds y, apart from each other and below block B; nothing of before has turned. -/
def II (B : Nat) (w0 w : World) (p r : Nat) (x y : IA) : Prop :=
  ∃ SU SR : Nat → Prop, IAt w SU p x ∧ RIAt w SR r y ∧ (∀ k, SU k → w0.heap.size ≤ k ∧ k < B ∧ ¬ SR k) ∧ (∀ k, SR k → w0.heap.size ≤ k ∧ k < B) ∧ x.Wf ∧ y.Wf ∧ y.Ev ∧ Fr (fun _ => False) w0 w ∧ B ≤ w.heap.size
def Keeps (B : Nat) (w w' : World) : Prop := ∀ g t cs, B ≤ g → Has w g t cs → Has w' g t cs

def rdV (x : IA) (off : Nat) (size : Int) : Nat := if size = 4 then x.val off else 0
def rdK (x : IA) (off : Nat) (size : Int) : Bool := if size = 4 then x.rok off else false
def rdA (x : IA) (off : Nat) (size : Int) : IA := if size = 4 then x.aft off else x
def wrK (x : IA) (off : Nat) (size : Int) : Bool := if size = 4 then x.wok off else false
def wrA (x : IA) (off : Nat) (size : Int) (v : Nat) : IA := if size = 4 then x.wr off v else x
def lvA (x : IA) (s : Int) (b : Bool) : IA := if 1 ≤ s ∧ s < 32 then x.level s.toNat b else x
def puA (x : IA) (s : Int) : IA := if 1 ≤ s ∧ s < 32 then x.pulse s.toNat else x
section
variable {B : Nat} {w0 w w' : World} {p r : Nat} {x y x' y' : IA}
theorem II.fr (h : II B w0 w p r x y) : Fr (fun _ => False) w0 w := by
  obtain ⟨_, _, _, _, _, _, _, _, _, hf, _⟩ := h
  exact hf
theorem II.size (h : II B w0 w p r x y) : B ≤ w.heap.size := by
  obtain ⟨_, _, _, _, _, _, _, _, _, _, hf⟩ := h
  exact hf
theorem II.quiet (h : II B w0 w p r x y) (hf : Fr (fun _ => False) w w') : II B w0 w' p r x y := by
  obtain ⟨SU, SR, hu, hr, h1, h2, hw, hx, hv, hf0, hb⟩ := h
  have hs := hf.size
  exact ⟨SU, SR, hu.fr hf (fun _ _ _ h => h), hr.fr hf (fun _ _ _ h => h), h1, h2, hw, hx, hv, hf0.trans hf (fun _ _ h => h), by omega⟩
theorem Keeps.refl (B : Nat) (w : World) : Keeps B w w := fun _ _ _ _ h => h
theorem ii_left {SU SR : Nat → Prop} (hr : RIAt w SR r y) (h1 : ∀ k, SU k → w0.heap.size ≤ k ∧ k < B ∧ ¬ SR k) (h2 : ∀ k, SR k → w0.heap.size ≤ k ∧ k < B) (hy : y.Wf) (hv : y.Ev) (hf : Fr (fun _ => False) w0 w) (hb : B ≤ w.heap.size)
    (hu' : IAt w' SU p x') (hf' : Fr SU w w') (hw : x'.Wf) : II B w0 w' p r x' y ∧ Keeps B w w' := by
  have hs := hf'.size
  refine ⟨⟨SU, SR, hu', hr.fr hf' (fun k _ hk hk2 => (h1 k hk2).2.2 hk), h1, h2, hw, hy, hv, hf.trans hf' (fun k hk h => by have := (h1 k h).1; omega), by omega⟩, fun g t cs hg h => hf'.has h (fun h3 => ?_)⟩
  have := (h1 g h3).2.1; omega
theorem ii_right {SU SR : Nat → Prop} (hu : IAt w SU p x) (h1 : ∀ k, SU k → w0.heap.size ≤ k ∧ k < B ∧ ¬ SR k) (h2 : ∀ k, SR k → w0.heap.size ≤ k ∧ k < B) (hx : x.Wf) (hf : Fr (fun _ => False) w0 w) (hb : B ≤ w.heap.size)
    (hr' : RIAt w' SR r y') (hf' : Fr SR w w') (hw : y'.Wf) (hv : y'.Ev) : II B w0 w' p r x y' ∧ Keeps B w w' := by
  have hs := hf'.size
  refine ⟨⟨SU, SR, hu.fr hf' (fun k _ hk hk2 => (h1 k hk).2.2 hk2), hr', h1, h2, hx, hw, hv, hf.trans hf' (fun k hk h => by have := (h2 k h).1; omega), by omega⟩, fun g t cs hg h => hf'.has h (fun h3 => ?_)⟩
  have := (h2 g h3).2; omega
theorem ii_read (h : II B w0 w p r x y) (off : Nat) (size : Int) (ho : off < 18446744073709551616) :
    Calls Try.prog 19 #[.pointer (some ⟨p, 0, none⟩), .int .u64 off, .int .i64 size] w fun e w' => e = .returned (.tuple #[.int .u64 (rdV x off size), .bool (rdK x off size)]) ∧ II B w0 w' p r (rdA x off size) y ∧ Keeps B w w' := by
  by_cases h4 : size = 4
  · subst h4
    obtain ⟨SU, SR, hu, hr, h1, h2, hw, hx, hv, hf, hb⟩ := h
    exact (iread_yes SU p x off w hu hw ho).mono fun _ _ ⟨he, hu', hf'⟩ => ⟨he, ii_left hr h1 h2 hx hv hf hb hu' hf' (hw.aft off)⟩
  · unfold rdV rdK rdA
    rw [if_neg h4, if_neg h4, if_neg h4]
    refine (read_no p off size w h4).mono fun _ _ ⟨he, hw⟩ => ?_
    subst hw
    exact ⟨he, h, Keeps.refl _ _⟩
theorem ii_rread (h : II B w0 w p r x y) (off : Nat) (size : Int) (ho : off < 18446744073709551616) :
    Calls Try.prog 23 #[.pointer (some ⟨r, 0, none⟩), .int .u64 off, .int .i64 size] w fun e w' => e = .returned (.tuple #[.int .u64 (rdV y off size), .bool (rdK y off size)]) ∧ II B w0 w' p r x (rdA y off size) ∧ Keeps B w w' := by
  by_cases h4 : size = 4
  · subst h4
    obtain ⟨SU, SR, hu, hr, h1, h2, hw, hx, hv, hf, hb⟩ := h
    exact (refIRead_yes SR r y off w hr hx hv ho).mono fun _ _ ⟨he, hu', hf'⟩ => ⟨he, ii_right hu h1 h2 hw hf hb hu' hf' (hx.aft off) (hv.aft hx off)⟩
  · unfold rdV rdK rdA
    rw [if_neg h4, if_neg h4, if_neg h4]
    refine (refIRead_no r off size w h4).mono fun _ _ ⟨he, hw⟩ => ?_
    subst hw
    exact ⟨he, h, Keeps.refl _ _⟩
theorem ii_write (h : II B w0 w p r x y) (off : Nat) (size : Int) (v : Nat) (ho : off < 18446744073709551616) (hvv : v < 18446744073709551616) :
    Calls Try.prog 17 #[.pointer (some ⟨p, 0, none⟩), .int .u64 off, .int .i64 size, .int .u64 v] w fun e w' => e = .returned (.bool (wrK x off size)) ∧ II B w0 w' p r (wrA x off size v) y ∧ Keeps B w w' := by
  by_cases h4 : size = 4
  · subst h4
    obtain ⟨SU, SR, hu, hr, h1, h2, hw, hx, hv, hf, hb⟩ := h
    exact (write_yes SU p x off v w hu hw ho hvv).mono fun _ _ ⟨he, hu', hf'⟩ => ⟨he, ii_left hr h1 h2 hx hv hf hb hu' hf' (hw.wr off v)⟩
  · unfold wrK wrA
    rw [if_neg h4, if_neg h4]
    refine (write_no p off size v w h4).mono fun _ _ ⟨he, hw⟩ => ?_
    subst hw
    exact ⟨he, h, Keeps.refl _ _⟩
theorem ii_rwrite (h : II B w0 w p r x y) (off : Nat) (size : Int) (v : Nat) (ho : off < 18446744073709551616) (hvv : v < 18446744073709551616) :
    Calls Try.prog 24 #[.pointer (some ⟨r, 0, none⟩), .int .u64 off, .int .i64 size, .int .u64 v] w fun e w' => e = .returned (.bool (wrK y off size)) ∧ II B w0 w' p r x (wrA y off size v) ∧ Keeps B w w' := by
  by_cases h4 : size = 4
  · subst h4
    obtain ⟨SU, SR, hu, hr, h1, h2, hw, hx, hv, hf, hb⟩ := h
    exact (refIWrite_yes SR r y off v w hr hx hv ho hvv).mono fun _ _ ⟨he, hu', hf'⟩ => ⟨he, ii_right hu h1 h2 hw hf hb hu' hf' (hx.wr off v) (hv.wr off v)⟩
  · unfold wrK wrA
    rw [if_neg h4, if_neg h4]
    refine (refIWrite_no r off size v w h4).mono fun _ _ ⟨he, hw⟩ => ?_
    subst hw
    exact ⟨he, h, Keeps.refl _ _⟩
theorem ii_level (h : II B w0 w p r x y) (s : Int) (b : Bool) :
    Calls Try.prog 18 #[.pointer (some ⟨p, 0, none⟩), .int .i64 s, .bool b] w fun e w' => e = .returned (.tuple #[]) ∧ II B w0 w' p r (lvA x s b) y ∧ Keeps B w w' := by
  obtain ⟨SU, SR, hu, hr, h1, h2, hw, hx, hv, hf, hb⟩ := id h
  unfold lvA
  by_cases hs : 1 ≤ s ∧ s < 32
  · rw [if_pos hs]
    obtain ⟨k, rfl⟩ := Int.eq_ofNat_of_zero_le (show 0 ≤ s by omega)
    rw [Int.toNat_natCast]
    exact (level_any SU p x k b w hu hw (by omega) (by omega)).mono fun _ _ ⟨he, hu', hf'⟩ => ⟨he, ii_left hr h1 h2 hx hv hf hb hu' hf' (hw.level b (by omega))⟩
  · rw [if_neg hs]
    refine (level_no SU p x s b w hu hs).mono fun _ _ ⟨he, hw⟩ => ?_
    subst hw
    exact ⟨he, h, Keeps.refl _ _⟩
theorem ii_rlevel (h : II B w0 w p r x y) (s : Int) (b : Bool) :
    Calls Try.prog 25 #[.pointer (some ⟨r, 0, none⟩), .int .i64 s, .bool b] w fun e w' => e = .returned (.tuple #[]) ∧ II B w0 w' p r x (lvA y s b) ∧ Keeps B w w' := by
  obtain ⟨SU, SR, hu, hr, h1, h2, hw, hx, hv, hf, hb⟩ := id h
  unfold lvA
  by_cases hs : 1 ≤ s ∧ s < 32
  · rw [if_pos hs]
    obtain ⟨k, rfl⟩ := Int.eq_ofNat_of_zero_le (show 0 ≤ s by omega)
    rw [Int.toNat_natCast]
    exact (refLevel_any SR r y k b w hr hx (by omega) (by omega)).mono fun _ _ ⟨he, hu', hf'⟩ => ⟨he, ii_right hu h1 h2 hw hf hb hu' hf' (hx.level b (by omega)) (hv.level hx b (by omega) (by omega))⟩
  · rw [if_neg hs]
    refine (refLevel_no SR r y s b w hr hs).mono fun _ _ ⟨he, hw⟩ => ?_
    subst hw
    exact ⟨he, h, Keeps.refl _ _⟩
theorem ii_pulse (h : II B w0 w p r x y) (s : Int) :
    Calls Try.prog 26 #[.pointer (some ⟨p, 0, none⟩), .int .i64 s] w fun e w' => e = .returned (.tuple #[]) ∧ II B w0 w' p r (puA x s) y ∧ Keeps B w w' := by
  obtain ⟨SU, SR, hu, hr, h1, h2, hw, hx, hv, hf, hb⟩ := id h
  unfold puA
  by_cases hs : 1 ≤ s ∧ s < 32
  · rw [if_pos hs]
    obtain ⟨k, rfl⟩ := Int.eq_ofNat_of_zero_le (show 0 ≤ s by omega)
    rw [Int.toNat_natCast]
    exact (pulse_any SU p x k w hu hw (by omega) (by omega)).mono fun _ _ ⟨he, hu', hf'⟩ => ⟨he, ii_left hr h1 h2 hx hv hf hb hu' hf' (hw.pulse (by omega))⟩
  · rw [if_neg hs]
    refine (pulse_no SU p x s w hu hs).mono fun _ _ ⟨he, hw⟩ => ?_
    subst hw
    exact ⟨he, h, Keeps.refl _ _⟩
theorem ii_rpulse (h : II B w0 w p r x y) (s : Int) :
    Calls Try.prog 27 #[.pointer (some ⟨r, 0, none⟩), .int .i64 s] w fun e w' => e = .returned (.tuple #[]) ∧ II B w0 w' p r x (puA y s) ∧ Keeps B w w' := by
  obtain ⟨SU, SR, hu, hr, h1, h2, hw, hx, hv, hf, hb⟩ := id h
  unfold puA
  by_cases hs : 1 ≤ s ∧ s < 32
  · rw [if_pos hs]
    obtain ⟨k, rfl⟩ := Int.eq_ofNat_of_zero_le (show 0 ≤ s by omega)
    rw [Int.toNat_natCast]
    exact (refPulse_any SR r y k w hr (by omega) (by omega)).mono fun _ _ ⟨he, hu', hf'⟩ => ⟨he, ii_right hu h1 h2 hw hf hb hu' hf' (hx.pulse (by omega)) (hv.pulse (by omega))⟩
  · rw [if_neg hs]
    refine (refPulse_no SR r y s w hr hs).mono fun _ _ ⟨he, hw⟩ => ?_
    subst hw
    exact ⟨he, h, Keeps.refl _ _⟩
theorem ii_pending (h : II B w0 w p r x y) (k : Int) :
    Calls Try.prog 20 #[.pointer (some ⟨p, 0, none⟩), .int .i64 k] w fun e w' => e = .returned (.bool (x.pending k)) ∧ II B w0 w' p r x y := by
  obtain ⟨SU, SR, hu, _, _, _, hw, _, _, _, _⟩ := id h
  exact (pending_any SU p x k w hu hw).mono fun _ _ ⟨he, nq, hq⟩ => ⟨he, hq ▸ h.quiet ((Fr.refl _ _).drewN nq)⟩
theorem ii_rpending (h : II B w0 w p r x y) (k : Int) :
    Calls Try.prog 28 #[.pointer (some ⟨r, 0, none⟩), .int .i64 k] w fun e w' => e = .returned (.bool (y.pending k)) ∧ w' = w := by
  obtain ⟨SU, SR, _, hr, _, _, _, hx, hv, _, _⟩ := id h
  exact refPending_any SR r y k w hr hx hv
end
theorem ii_new {w w1 w2 : World} {p r n : Nat} (hn : 1 ≤ n ∧ n ≤ 64) (h1 : IAt w1 (fun k => w.heap.size ≤ k) p (ia0 n)) (f1 : Fr (fun _ => False) w w1) (h2 : RIAt w2 (fun k => w1.heap.size ≤ k) r (ia0 n)) (f2 : Fr (fun _ => False) w1 w2) :
    II w2.heap.size w w2 p r (ia0 n) (ia0 n) := by
  have hs1 := f1.size
  have hs2 := f2.size
  refine ⟨fun k => w.heap.size ≤ k ∧ k < w1.heap.size, fun k => w1.heap.size ≤ k ∧ k < w2.heap.size, (h1.weak (S' := fun k => w.heap.size ≤ k ∧ k < w1.heap.size) (fun k hk h => ⟨h, hk⟩)).fr f2 (fun _ _ _ h => h), h2.weak (fun k hk h => ⟨h, hk⟩), fun k hk => ⟨hk.1, by omega, by omega⟩, fun k hk => ⟨by omega, hk.2⟩, ia0_wf n hn.2, ia0_wf n hn.2, ia0_ev n, f1.trans f2 (fun _ _ h => h), Nat.le_refl _⟩
end Go.Proofs.Ytnjddnmekcjhnaa
