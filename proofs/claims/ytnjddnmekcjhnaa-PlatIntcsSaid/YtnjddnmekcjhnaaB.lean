/- The UART: what it holds, and what the chapter says of it. -/
import Derived.Test.YtnjddnmekcjhnaaW
import Derived.Laws.BitsAllLaws
namespace Go.Proofs.Ytnjddnmekcjhnaa
open Go.RowKit

/-- What a UART holds. -/
structure UA where
  queue : List Nat
  sent : List Nat
  ier : Nat
  fcr : Nat
  lcr : Nat
  mcr : Nat
  scr : Nat
  dll : Nat
  dlm : Nat
  over : Bool
  empty : Bool

def ua0 : UA := ⟨[], [], 0, 0, 0, 0, 0, 0, 0, false, false⟩
def isB (n : Nat) (k : Nat) : Bool := n / k % 2 == 1

def UA.cause (u : UA) : Nat :=
  if u.over && isB u.ier 4 then 6 else if !u.queue.isEmpty && isB u.ier 1 then 4 else if u.empty && isB u.ier 2 then 2 else 1
def UA.inn (u : UA) (v : Nat) : UA := if 16 ≤ u.queue.length then { u with over := true } else { u with queue := u.queue ++ [v] }
def UA.val (u : UA) (off : Int) : Nat :=
  if off = 0 then (if 128 ≤ u.lcr then u.dll else u.queue.headD 0)
  else if off = 1 then (if 128 ≤ u.lcr then u.dlm else u.ier)
  else if off = 2 then u.cause + (if u.fcr = 1 then 192 else 0)
  else if off = 3 then u.lcr
  else if off = 4 then u.mcr
  else if off = 5 then 96 + (if u.queue.isEmpty then 0 else 1) + (if u.over then 2 else 0)
  else if off = 6 then 176
  else if off = 7 then u.scr
  else 0
def UA.aft (u : UA) (off : Int) : UA :=
  if off = 0 then (if 128 ≤ u.lcr then u else { u with queue := u.queue.tail })
  else if off = 2 then (if u.cause = 2 then { u with empty := false } else u)
  else if off = 5 then { u with over := false }
  else u
def UA.wr (u : UA) (off : Int) (v : Nat) : UA :=
  if off = 0 then (if 128 ≤ u.lcr then { u with dll := v } else { u with sent := u.sent ++ [v], empty := true })
  else if off = 1 then (if 128 ≤ u.lcr then { u with dlm := v } else { u with empty := u.empty || (!isB u.ier 2 && isB v 2), ier := v % 16 })
  else if off = 2 then (if isB v 2 then { u with fcr := v % 2, queue := [] } else { u with fcr := v % 2 })
  else if off = 3 then { u with lcr := v }
  else if off = 4 then { u with mcr := v % 32 }
  else if off = 7 then { u with scr := v }
  else u

/-- Its numbers fit. -/
structure UA.Wf (u : UA) : Prop where
  ier : u.ier < 16
  fcr : u.fcr < 2
  lcr : u.lcr < 256
  mcr : u.mcr < 32
  scr : u.scr < 256
  dll : u.dll < 256
  dlm : u.dlm < 256
  len : u.queue.length ≤ 16

theorem ua0_wf : ua0.Wf := ⟨by decide, by decide, by decide, by decide, by decide, by decide, by decide, by decide⟩
theorem UA.Wf.inn {u : UA} (h : u.Wf) (v : Nat) : (u.inn v).Wf := by
  obtain ⟨h1, h2, h3, h4, h5, h6, h7, h8⟩ := h
  unfold UA.inn
  split <;> constructor <;> dsimp only <;> first | omega | (simp; omega)
theorem UA.Wf.aft {u : UA} (h : u.Wf) (off : Int) : (u.aft off).Wf := by
  have h0 := h
  obtain ⟨h1, h2, h3, h4, h5, h6, h7, h8⟩ := h
  unfold UA.aft
  repeat' split
  all_goals first | exact h0 | (constructor <;> dsimp only <;> first | omega | (simp; omega))
theorem UA.Wf.wr {u : UA} (h : u.Wf) (off : Int) (v : Nat) (hv : v < 256) : (u.wr off v).Wf := by
  have h0 := h
  obtain ⟨h1, h2, h3, h4, h5, h6, h7, h8⟩ := h
  unfold UA.wr
  repeat' split
  all_goals first | exact h0 | (constructor <;> dsimp only <;> first | omega | (simp; done))

def bytes (l : List Nat) : List Value := l.map fun (n : Nat) => .int .u8 (n : Int)
theorem bytes_length (l : List Nat) : (bytes l).length = l.length := by simp [bytes]
theorem bytesCell (l : List Nat) : ∀ u ∈ bytes l, u.oneCell' = true := by
  intro u hu; obtain ⟨_, _, rfl⟩ := List.mem_map.1 hu; rfl

/-- At block p lies a UART of struct type ty that holds u; all of it in blocks of S. -/
def UAt (w : World) (ty : TypeId) (S : Nat → Prop) (p : Nat) (u : UA) : Prop :=
  ∃ (vq vs : Value) (Sq Ss : Nat → Prop), Has w p ty #[vq, vs, .int .u8 u.ier, .int .u8 u.fcr, .int .u8 u.lcr, .int .u8 u.mcr, .int .u8 u.scr, .int .u8 u.dll, .int .u8 u.dlm, .bool u.over, .bool u.empty] ∧ S p ∧
    Sl w Sq 5 1 vq u.queue.length (bytes u.queue) ∧ Sl w Ss 5 1 vs u.sent.length (bytes u.sent) ∧ (∀ k, Sq k → S k ∧ k ≠ p ∧ ¬ Ss k) ∧ (∀ k, Ss k → S k ∧ k ≠ p)

section
variable {w w' : World} {ty : TypeId} {S S' T : Nat → Prop} {p : Nat} {u : UA}
theorem UAt.weak (h : UAt w ty S p u) (hs : ∀ k, k < w.heap.size → S k → S' k) : UAt w ty S' p u := by
  obtain ⟨vq, vs, Sq, Ss, hp, hS, hq, hv, h1, h2⟩ := h
  exact ⟨vq, vs, fun k => Sq k ∧ k < w.heap.size, fun k => Ss k ∧ k < w.heap.size, hp, hs p hp.lt hS, hq.weak (fun k hk h => ⟨h, hk⟩), hv.weak (fun k hk h => ⟨h, hk⟩),
    fun k hk => ⟨hs k hk.2 (h1 k hk.1).1, (h1 k hk.1).2.1, fun h => (h1 k hk.1).2.2 h.1⟩, fun k hk => ⟨hs k hk.2 (h2 k hk.1).1, (h2 k hk.1).2⟩⟩
theorem UAt.fr (h : UAt w ty S p u) (hf : Fr T w w') (hd : ∀ k, k < w.heap.size → S k → ¬ T k) : UAt w' ty S p u := by
  obtain ⟨vq, vs, Sq, Ss, hp, hS, hq, hv, h1, h2⟩ := h
  exact ⟨vq, vs, Sq, Ss, hf.has hp (hd p hp.lt hS), hS, hq.fr hf (fun k hk h => hd k hk (h1 k h).1), hv.fr hf (fun k hk h => hd k hk (h2 k h).1), h1, h2⟩
end

def More (S : Nat → Prop) (w : World) : Nat → Prop := fun k => S k ∨ w.heap.size ≤ k

theorem u8_and_bit (x : Nat) (k : Nat) (hk : k = 1 ∨ k = 2 ∨ k = 4 ∨ k = 128) (hx : x < 256) : bits .and .u8 (x : Int) (k : Int) = if isB x k then (k : Int) else 0 := by
  rw [u8_and_nat x k hx (by omega)]
  have h : ∀ i, k = 2 ^ i → x &&& k = x / k % 2 * k := fun i hi => by rw [hi]; exact nat_bit i x
  have h2 : x &&& k = x / k % 2 * k := by
    rcases hk with rfl | rfl | rfl | rfl
    · exact h 0 rfl
    · exact h 1 rfl
    · exact h 2 rfl
    · exact h 7 rfl
  rw [h2]
  unfold isB
  rcases (show x / k % 2 = 0 ∨ x / k % 2 = 1 by omega) with h3 | h3 <;> rw [h3] <;> simp

end Go.Proofs.Ytnjddnmekcjhnaa
