/- vcpu.Call and citadelref17.Call: one answer. -/
import Derived.Test.YtjiolobkobpohaaYa
import Derived.Test.YtjiolobkobpohaaYb
import Derived.Test.YtjiolobkobpohaaYc
import Derived.Test.YtjiolobkobpohaaYd
import Derived.Test.YtjiolobkobpohaaYe
namespace Go.Proofs.Ytjiolobkobpohaa
open Go.RowKit Go.BigFrame

theorem refCall_yes (A : Option Addr) (n c : Nat) (l : Nat → V) (i : Nat) (w : World) (hA : A = none → n = 0) (hR : SlR w A n l) (hn : n * 368 ≤ 140737488355328) (hi : i < n) (hw : ∀ k, k < n → (l k).Wf) :
    Calls Try.prog 23 #[.slice A n c, .int .i64 i] w (CallPost w n (finL (doR (CR.at .nilFunc i (l i).ord) n (ordW l)) i (doL (CR.at .nilFunc i (l i).ord) i n (ordW l))) (doB (CR.at .nilFunc i (l i).ord)) (doR (CR.at .nilFunc i (l i).ord) n (ordW l)).down) := by
  by_cases h1 : RG_a ((l i).ord.u 17)
  · exact refCall_a A n c l i w hA hR hn hi hw h1
  by_cases h2 : RG_poke ((l i).ord.u 17)
  · exact refCall_poke A n c l i w hA hR hn hi hw h2
  by_cases h3 : RG_state ((l i).ord.u 17)
  · exact refCall_state A n c l i w hA hR hn hi hw h3
  by_cases h4 : RG_end ((l i).ord.u 17)
  · exact refCall_end A n c l i w hA hR hn hi hw h4
  unfold RG_a at h1
  unfold RG_poke at h2
  unfold RG_state at h3
  unfold RG_end at h4
  exact refCall_none A n c l i w hA hR hn hi hw (by unfold RG_none; omega)

def CR.setVs (r : CR) (v : Value) : CR := { r with vs := v }
theorem setVs_ite {c : Prop} [Decidable c] (a b : CR) (v : Value) : (if c then a else b).setVs v = if c then a.setVs v else b.setVs v := by split <;> rfl
theorem doR_free (r : CR) (v : Value) (n : Nat) (L : Nat → V) : doR { r with vs := v } n L = { doR r n L with vs := v } := by
  show doR (r.setVs v) n L = (doR r n L).setVs v
  unfold doR CR.base clockR stateR endR CR.noFn
  simp only [setVs_ite]
  rfl
/-- What a call at i makes of the harts; what it puts out; is the guest down? -/
def callR (l : Nat → V) (i : Nat) : CR := CR.at .nilFunc i (l i).ord
def callL (l : Nat → V) (n : Nat) (i : Int) : Nat → V := if 0 ≤ i ∧ i < n then finL (doR (callR l i.toNat) n (ordW l)) i.toNat (doL (callR l i.toNat) i.toNat n (ordW l)) else l
def callB (l : Nat → V) (n : Nat) (i : Int) : List Nat := if 0 ≤ i ∧ i < n then doB (callR l i.toNat) else []
def callD (l : Nat → V) (n : Nat) (i : Int) : Bool := if 0 ≤ i ∧ i < n then (doR (callR l i.toNat) n (ordW l)).down else false
theorem call_any (A : Option Addr) (n c : Nat) (l : Nat → V) (i : Int) (w : World) (hA : A = none → n = 0) (hR : SlR w A n l) (hn : n * 368 ≤ 140737488355328) (hw : ∀ k, k < n → (l k).Wf) :
    Calls Try.prog 22 #[.slice A n c, .int .i64 i] w (CallPost w n (callL l n i) (callB l n i) (callD l n i)) := by
  by_cases h : 0 ≤ i ∧ i < n
  · obtain ⟨j, rfl⟩ := Int.eq_ofNat_of_zero_le h.1
    refine (call_yes A n c l j w hA hR hn (by omega) hw).mono fun e w' ⟨v, hp⟩ => ?_
    unfold callL callB callD
    rw [if_pos h, if_pos h, if_pos h, Int.toNat_natCast]
    have e1 : CR.at v j (l j).ord = { callR l j with vs := v } := rfl
    rw [e1, doR_free] at hp
    exact hp
  · unfold callL callB callD
    rw [if_neg h, if_neg h, if_neg h]
    exact call_no A n c l i w hA hR hn (by omega)
theorem refCall_any (A : Option Addr) (n c : Nat) (l : Nat → V) (i : Int) (w : World) (hA : A = none → n = 0) (hR : SlR w A n l) (hn : n * 368 ≤ 140737488355328) (hw : ∀ k, k < n → (l k).Wf) :
    Calls Try.prog 23 #[.slice A n c, .int .i64 i] w (CallPost w n (callL l n i) (callB l n i) (callD l n i)) := by
  by_cases h : 0 ≤ i ∧ i < n
  · obtain ⟨j, rfl⟩ := Int.eq_ofNat_of_zero_le h.1
    refine (refCall_yes A n c l j w hA hR hn (by omega) hw).mono fun e w' hp => ?_
    unfold callL callB callD
    rw [if_pos h, if_pos h, if_pos h, Int.toNat_natCast]
    exact hp
  · unfold callL callB callD
    rw [if_neg h, if_neg h, if_neg h]
    exact refCall_no A n c l i w hA hR hn (by omega)

/-- Bytes that came out. -/
def OutR (w : World) (v : Value) (bs : List Nat) : Prop := ∃ oe, OutE v bs oe ∧ ∀ x ∈ oe, x.ok w
theorem OutR.fr {w w' : World} {v : Value} {bs : List Nat} (h : OutR w v bs) (hf : Fr (fun _ => False) w w') : OutR w' v bs := by
  obtain ⟨oe, h1, h2⟩ := h
  exact ⟨oe, h1, fun x hx => Ent.ok_fr (h2 x hx) hf (fun h => h)⟩
theorem CallPost.open {w : World} {n : Nat} {L : Nat → V} {bs : List Nat} {d : Bool} {e : Ending} {w' : World} (h : CallPost w n L bs d e w') :
    ∃ v vo, e = .returned (.tuple #[v, vo, .bool d]) ∧ VSl w' w.heap.size v n L ∧ OutR w' vo bs ∧ Fr (fun _ => False) w w' := by
  obtain ⟨v, vo, oe, he, h1, h2, h3, h4⟩ := h
  exact ⟨v, vo, he, h1, ⟨oe, h2, fun x hx => (h3 x hx).1⟩, h4⟩

theorem sameBytes_nil (w : World) : Calls Try.prog 24 #[.slice none 0 0, .slice none 0 0] w fun e w' => e = .returned (.bool true) ∧ ∃ q, w' = w.drewN q := by
  go_enter Try.func24, Try.ntmps24
  go_wp2_with fail
  go_loopw [5] (fun i wr => i = .int .i64 0 ∧ wr = w) (fun i _ => 0 - (intOf i).toNat)
  case atStart => exact ⟨rfl, rfl⟩
  case round =>
    obtain ⟨rfl, rfl⟩ := hrel
    go_wp2_with fail
    go_ret
    exact ⟨rfl, 0, rfl⟩
theorem sameBytes_one (p q u : Nat) (w : World) (h1 : Has w p 5 #[.int .u8 (u : Int)]) (h2 : Has w q 5 #[.int .u8 (u : Int)]) :
    Calls Try.prog 24 #[.slice (some ⟨p, 0, none⟩) 1 1, .slice (some ⟨q, 0, none⟩) 1 1] w fun e w' => e = .returned (.bool true) ∧ ∃ q, w' = w.drewN q := by
  go_enter Try.func24, Try.ntmps24
  go_wp2_with fail
  go_loopw [5] (fun i wr => ∃ k : Nat, k ≤ 1 ∧ i = .int .i64 k ∧ ∃ nq, wr = w.drewN nq) (fun i _ => 1 - (intOf i).toNat)
  case atStart => exact ⟨0, by omega, rfl, 0, rfl⟩
  case round =>
    obtain ⟨k, hk, rfl, nq, rfl⟩ := hrel
    rcases (show k = 0 ∨ k = 1 by omega) with rfl | rfl
    · have c1 := h1.cell 0
      have c2 := h2.cell 0
      simp at c1 c2
      go_wp2_with fail
      go_quiet (fail)
      go_wp2
      go_roundw
      case rel => exact ⟨1, by omega, rfl, _, rfl⟩
      case measure => simp [intOf]
    · go_wp2_with fail
      go_ret
      exact ⟨rfl, _, rfl⟩
theorem sameBytes_any {w : World} {v v' : Value} {bs : List Nat} (h1 : OutR w v bs) (h2 : OutR w v' bs) :
    Calls Try.prog 24 #[v, v'] w fun e w' => e = .returned (.bool true) ∧ ∃ q, w' = w.drewN q := by
  obtain ⟨_, h1, h3⟩ := h1
  obtain ⟨_, h2, h4⟩ := h2
  cases h1 with
  | none => cases h2; exact sameBytes_nil w
  | one p u =>
    cases h2 with
    | one q u =>
      have e1 : Ent.ok w (.fn p 5 1 (fun _ => .int .u8 (u : Int))) := h3 _ (by simp)
      have e2 : Ent.ok w (.fn q 5 1 (fun _ => .int .u8 (u : Int))) := h4 _ (by simp)
      exact sameBytes_one p q u w e1 e2
end Go.Proofs.Ytjiolobkobpohaa
