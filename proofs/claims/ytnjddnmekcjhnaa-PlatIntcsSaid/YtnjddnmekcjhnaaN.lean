/- The controller as a law holds it, step by step; what is lowest. -/
import Derived.Test.YtnjddnmekcjhnaaK
namespace Go.Proofs.Ytnjddnmekcjhnaa
open Go.RowKit

/-- Since w0 the law has made the controller at p, which holds x, and turned nothing of before. -/
def IOwn (w0 w : World) (p : Nat) (x : IA) : Prop := IAt w (fun k => w0.heap.size ≤ k ∧ k < w.heap.size) p x ∧ x.Wf ∧ Fr (fun _ => False) w0 w

section
variable {w0 w w' : World} {p : Nat} {x : IA}
theorem IOwn.step {x' : IA} (h : IOwn w0 w p x) (ht : IAt w' (fun k => w0.heap.size ≤ k ∧ k < w.heap.size) p x') (hw : x'.Wf) (hf : Fr (fun k => w0.heap.size ≤ k ∧ k < w.heap.size) w w') : IOwn w0 w' p x' := by
  have h1 := hf.size
  have h2 := h.2.2.size
  exact ⟨ht.weak (fun k hk h => ⟨h.1, hk⟩), hw, h.2.2.trans hf (fun k hk h => by omega)⟩
theorem IOwn.quiet (h : IOwn w0 w p x) (hf : Fr (fun _ => False) w w') : IOwn w0 w' p x := by
  have h1 := hf.size
  exact ⟨(h.1.fr hf (fun _ _ _ h => h)).weak (fun k hk h => ⟨h.1, hk⟩), h.2.1, h.2.2.trans hf (fun _ _ h => h)⟩
theorem iown_new (n : Nat) (w : World) (h : 1 ≤ n ∧ n ≤ 64) : Calls Try.prog 16 #[.int .i64 n] w fun e w' => ∃ p, e = .returned (.tuple #[.pointer (some ⟨p, 0, none⟩), .int .i64 0]) ∧ IOwn w w' p (ia0 n) :=
  (newIntc_yes n w h).mono fun _ _ ⟨p, _, he, hi, hf⟩ => ⟨p, he, hi.weak (fun _ hk h => ⟨h, hk⟩), ia0_wf n h.2, hf⟩
theorem iown_write (h : IOwn w0 w p x) (off v : Nat) (ho : off < 18446744073709551616) (hv : v < 18446744073709551616) :
    Calls Try.prog 17 #[.pointer (some ⟨p, 0, none⟩), .int .u64 off, .int .i64 4, .int .u64 v] w fun e w' => e = .returned (.bool (x.wok off)) ∧ IOwn w0 w' p (x.wr off v) :=
  (write_yes _ p x off v w h.1 h.2.1 ho hv).mono fun _ _ ⟨he, hi, hf⟩ => ⟨he, h.step hi (h.2.1.wr off v) hf⟩
theorem iown_read (h : IOwn w0 w p x) (off : Nat) (ho : off < 18446744073709551616) :
    Calls Try.prog 19 #[.pointer (some ⟨p, 0, none⟩), .int .u64 off, .int .i64 4] w fun e w' => e = .returned (.tuple #[.int .u64 (x.val off), .bool (x.rok off)]) ∧ IOwn w0 w' p (x.aft off) :=
  (iread_yes _ p x off w h.1 h.2.1 ho).mono fun _ _ ⟨he, hi, hf⟩ => ⟨he, h.step hi (h.2.1.aft off) hf⟩
theorem iown_level (h : IOwn w0 w p x) (s : Nat) (b : Bool) (h1 : 1 ≤ s) (h2 : s < 32) :
    Calls Try.prog 18 #[.pointer (some ⟨p, 0, none⟩), .int .i64 s, .bool b] w fun e w' => e = .returned (.tuple #[]) ∧ IOwn w0 w' p (x.level s b) :=
  (level_any _ p x s b w h.1 h.2.1 h1 h2).mono fun _ _ ⟨he, hi, hf⟩ => ⟨he, h.step hi (h.2.1.level b h2) hf⟩
theorem iown_level_no (h : IOwn w0 w p x) (s : Int) (b : Bool) (hs : ¬ (1 ≤ s ∧ s < 32)) :
    Calls Try.prog 18 #[.pointer (some ⟨p, 0, none⟩), .int .i64 s, .bool b] w fun e w' => e = .returned (.tuple #[]) ∧ IOwn w0 w' p x :=
  (level_no _ p x s b w h.1 hs).mono fun _ _ ⟨he, hw⟩ => ⟨he, hw ▸ h⟩
theorem iown_pulse (h : IOwn w0 w p x) (s : Nat) (h1 : 1 ≤ s) (h2 : s < 32) :
    Calls Try.prog 26 #[.pointer (some ⟨p, 0, none⟩), .int .i64 s] w fun e w' => e = .returned (.tuple #[]) ∧ IOwn w0 w' p (x.pulse s) :=
  (pulse_any _ p x s w h.1 h.2.1 h1 h2).mono fun _ _ ⟨he, hi, hf⟩ => ⟨he, h.step hi (h.2.1.pulse h2) hf⟩
theorem iown_pulse_no (h : IOwn w0 w p x) (s : Int) (hs : ¬ (1 ≤ s ∧ s < 32)) :
    Calls Try.prog 26 #[.pointer (some ⟨p, 0, none⟩), .int .i64 s] w fun e w' => e = .returned (.tuple #[]) ∧ IOwn w0 w' p x :=
  (pulse_no _ p x s w h.1 hs).mono fun _ _ ⟨he, hw⟩ => ⟨he, hw ▸ h⟩
theorem iown_pending (h : IOwn w0 w p x) (k : Int) :
    Calls Try.prog 20 #[.pointer (some ⟨p, 0, none⟩), .int .i64 k] w fun e w' => e = .returned (.bool (x.pending k)) ∧ IOwn w0 w' p x :=
  (pending_any _ p x k w h.1 h.2.1).mono fun _ _ ⟨he, nq, hw⟩ => ⟨he, hw ▸ h.quiet ((Fr.refl _ _).drewN nq)⟩
end

theorem first_is {x : IA} {l k : Nat} (hk : k < 32) (hno : ∀ t, t < k → x.want l t = false) (h : x.want l k = true) : x.first l = k := by
  unfold IA.first; rw [find_yes hk hno h]; rfl
theorem first_none {x : IA} {l : Nat} (hno : ∀ t, t < 32 → x.want l t = false) : x.first l = 0 := by
  unfold IA.first; rw [find_no hno]; rfl

theorem mask_bit (s t : Nat) (hs : s < 32) : (4294967295 - 2 ^ s).testBit t = (decide (t < 32) && decide (t ≠ s)) := by
  have h1 : 4294967295 - 2 ^ s = 2 ^ 32 - (2 ^ s + 1) := by have := pow_lt32 hs; omega
  rw [h1, Nat.testBit_two_pow_sub_succ (pow_lt32 hs), Nat.testBit_two_pow]
  by_cases h : s = t
  · subst h; simp
  · have h2 : t ≠ s := fun e => h e.symm
    simp [h, h2]
theorem clear_same (n s : Nat) (hs : s < 32) (hn : n < 2 ^ s) : n &&& (4294967295 - 2 ^ s) = n := by
  apply Nat.eq_of_testBit_eq
  intro t
  rw [Nat.testBit_and, mask_bit s t hs]
  by_cases h : t < s
  · have h2 : t < 32 := by omega
    have h3 : t ≠ s := by omega
    simp [h2, h3]
  · have : n.testBit t = false := Nat.testBit_lt_two_pow (Nat.lt_of_lt_of_le hn (Nat.pow_le_pow_right (by omega) (by omega)))
    simp [this]

/-- The levels behind the first i sources. -/
def lv (ups i : Nat) : Nat := ups % 2 ^ i / 2 * 2
theorem lv_lt (ups i : Nat) : lv ups i < 2 ^ i := by
  have := Nat.mod_lt ups (show 0 < 2 ^ i from Nat.pos_of_ne_zero (by simp))
  unfold lv; omega
theorem lv_step (ups i : Nat) (h1 : 1 ≤ i) (h2 : i < 32) : setb (lv ups i) i (ups / 2 ^ i % 2 == 1) = lv ups (i + 1) := by
  have hm : ups % 2 ^ (i + 1) = ups % 2 ^ i + 2 ^ i * (ups / 2 ^ i % 2) := by rw [Nat.pow_succ, Nat.mod_mul]
  obtain ⟨q, hq⟩ : ∃ q, 2 ^ i = 2 * q := ⟨2 ^ (i - 1), by rw [← Nat.pow_succ']; congr 1; omega⟩
  have hl := lv_lt ups i
  unfold setb
  rw [clear_same _ i h2 hl]
  rcases (show ups / 2 ^ i % 2 = 0 ∨ ups / 2 ^ i % 2 = 1 by omega) with h | h
  · rw [h] at hm ⊢
    simp [lv, hm]
  · rw [h] at hm ⊢
    have e : lv ups (i + 1) = lv ups i + 2 ^ i := by
      unfold lv
      rw [hm, Nat.mul_one, hq]
      omega
    rw [e]
    simp only [beq_self_eq_true, if_true]
    rw [Nat.or_comm, nat_join i _ _ (Nat.mod_self _) hl]
    omega
theorem lv_32 (ups : Nat) : lv ups 32 = ups &&& 4294967294 := by
  have h1 : ups &&& 4294967294 = (ups % 4294967296) &&& 4294967294 := by
    have h := Nat.and_two_pow_sub_one_eq_mod ups 32
    rw [show ups % 4294967296 = ups &&& (2 ^ 32 - 1) from h.symm, Nat.and_assoc]
    rfl
  rw [h1, clear_bit0 _ (Nat.mod_lt _ (by omega))]
  rfl
end Go.Proofs.Ytnjddnmekcjhnaa
