/- The UART: the program's functions. -/
import Derived.Test.YtnjddnmekcjhnaaB
import Derived.Deep.QuietTactic
import Derived.BigQuiet
import Derived.Deep.RegionLaw
namespace Go.Proofs.Ytnjddnmekcjhnaa
open Go.RowKit

/-- What a walk reads and writes of a UART's block. -/
def Cells (w : World) (p : Nat) (vq vs : Value) (u : UA) : Prop :=
  w.cell? ⟨p, 0, none⟩ = some vq ∧ w.cell? ⟨p, 1, none⟩ = some vs ∧ w.cell? ⟨p, 2, none⟩ = some (.int .u8 u.ier) ∧ w.cell? ⟨p, 3, none⟩ = some (.int .u8 u.fcr) ∧ w.cell? ⟨p, 4, none⟩ = some (.int .u8 u.lcr) ∧
  w.cell? ⟨p, 5, none⟩ = some (.int .u8 u.mcr) ∧ w.cell? ⟨p, 6, none⟩ = some (.int .u8 u.scr) ∧ w.cell? ⟨p, 7, none⟩ = some (.int .u8 u.dll) ∧ w.cell? ⟨p, 8, none⟩ = some (.int .u8 u.dlm) ∧
  w.cell? ⟨p, 9, none⟩ = some (.bool u.over) ∧ w.cell? ⟨p, 10, none⟩ = some (.bool u.empty)
theorem cells_of {w : World} {p : Nat} {ty : TypeId} {vq vs : Value} {u : UA} (h : Has w p ty #[vq, vs, .int .u8 u.ier, .int .u8 u.fcr, .int .u8 u.lcr, .int .u8 u.mcr, .int .u8 u.scr, .int .u8 u.dll, .int .u8 u.dlm, .bool u.over, .bool u.empty]) : Cells w p vq vs u :=
  ⟨h.cell 0, h.cell 1, h.cell 2, h.cell 3, h.cell 4, h.cell 5, h.cell 6, h.cell 7, h.cell 8, h.cell 9, h.cell 10⟩

theorem isB_bool {x k : Nat} {b : Bool} (hk : k = 1 ∨ k = 2 ∨ k = 4 ∨ k = 128) (hx : x < 256) (h : isB x k = b) : bits .and .u8 (x : Int) (k : Int) = if b then (k : Int) else 0 := by rw [u8_and_bit x k hk hx, h]

set_option maxHeartbeats 1600000 in
theorem why_any (S : Nat → Prop) (p : Nat) (u : UA) (w : World) (h : UAt w 86 S p u) (hw : u.Wf) :
    Calls Try.prog 47 #[.pointer (some ⟨p, 0, none⟩)] w fun e w' => e = .returned (.int .u8 u.cause) ∧ w' = w := by
  obtain ⟨vq, vs, Sq, Ss, hp, hS, hq, hv, hd1, hd2⟩ := h
  obtain ⟨A, c, rfl, hrq, hnc, hAc⟩ := hq.form
  obtain ⟨A', c', rfl, hrs, hnc', hAc'⟩ := hv.form
  obtain ⟨c0, c1, c2, c3, c4, c5, c6, c7, c8, c9, c10⟩ := cells_of hp
  have HQ := Lib.hid hq; clear hq
  have HV := Lib.hid hv; clear hv
  have HP := Lib.hid hp; clear hp
  have HRQ := Lib.hid hrq; clear hrq
  have HRS := Lib.hid hrs; clear hrs
  have HD1 := Lib.hid hd1; clear hd1
  have HD2 := Lib.hid hd2; clear hd2
  have hi := hw.ier
  obtain ⟨b4, h4⟩ : ∃ b, isB u.ier 4 = b := ⟨_, rfl⟩
  obtain ⟨b1, h1⟩ : ∃ b, isB u.ier 1 = b := ⟨_, rfl⟩
  obtain ⟨b2, h2⟩ : ∃ b, isB u.ier 2 = b := ⟨_, rfl⟩
  have e4 : bits .and .u8 (u.ier : Int) 4 = if b4 then 4 else 0 := isB_bool (k := 4) (by omega) (by omega) h4
  have e1 : bits .and .u8 (u.ier : Int) 1 = if b1 then 1 else 0 := isB_bool (k := 1) (by omega) (by omega) h1
  have e2 : bits .and .u8 (u.ier : Int) 2 = if b2 then 2 else 0 := isB_bool (k := 2) (by omega) (by omega) h2
  have HC : Hid (u.cause = if u.over && b4 then 6 else if !u.queue.isEmpty && b1 then 4 else if u.empty && b2 then 2 else 1) := by
    show u.cause = _
    rw [UA.cause, h4, h1, h2]
  obtain ⟨bo, ho⟩ : ∃ b, u.over = b := ⟨_, rfl⟩
  obtain ⟨be, he⟩ : ∃ b, u.empty = b := ⟨_, rfl⟩
  rw [ho] at c9
  rw [he] at c10
  have HO := Lib.hid ho
  have HE := Lib.hid he
  clear ho he h4 h1 h2
  obtain ⟨n, hn⟩ : ∃ n, u.queue.length = n := ⟨_, rfl⟩
  have hemp : u.queue.isEmpty = decide (n = 0) := by rw [← hn]; cases u.queue <;> simp
  have HM := Lib.hid hemp
  clear hemp
  rw [hn] at c0 hnc
  have hn16 : n ≤ 16 := by have := hw.len; omega
  clear hn hw
  by_cases hn0 : n = 0
  · subst hn0
    cases bo <;> cases b4 <;> cases be <;> cases b2 <;> simp at e4 e2
    all_goals
      go_enter Try.func47, Try.ntmps47
      go_wp2
      go_ret
      exact ⟨by rw [HC.out, HO.out, HM.out, HE.out]; rfl, rfl⟩
  · have hn1 : 0 < n := by omega
    have hz : decide (n = 0) = false := by simp [hn0]
    have HZ := Lib.hid hz
    clear hz
    cases bo <;> cases b4 <;> cases b1 <;> cases be <;> cases b2 <;> simp at e4 e1 e2
    all_goals
      go_enter Try.func47, Try.ntmps47
      go_wp2
      go_ret
      exact ⟨by rw [HC.out, HO.out, HM.out, HZ.out, HE.out]; rfl, rfl⟩

end Go.Proofs.Ytnjddnmekcjhnaa
