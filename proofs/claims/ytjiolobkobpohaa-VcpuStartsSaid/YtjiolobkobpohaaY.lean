/- citadelref17.Call. -/
import Derived.Test.YtjiolobkobpohaaV
import Derived.Deep.CutBlock
namespace Go.Proofs.Ytjiolobkobpohaa
open Go.RowKit Go.BigFrame

theorem known_any (k : Nat) (w : World) : Calls Try.prog 34 #[.int .u64 k] w fun e w' => e = .returned (.bool (isCall k)) ∧ w' = w := by
  by_cases h1 : k = 16
  · subst h1; go_enter Try.func34, Try.ntmps34; go_wp2; go_ret; exact ⟨rfl, rfl⟩
  by_cases h2 : k = 1414090053
  · subst h2; go_enter Try.func34, Try.ntmps34; go_wp2; go_ret; exact ⟨rfl, rfl⟩
  by_cases h3 : k = 1
  · subst h3; go_enter Try.func34, Try.ntmps34; go_wp2; go_ret; exact ⟨rfl, rfl⟩
  by_cases h4 : k = 7557193
  · subst h4; go_enter Try.func34, Try.ntmps34; go_wp2; go_ret; exact ⟨rfl, rfl⟩
  by_cases h5 : k = 4739917
  · subst h5; go_enter Try.func34, Try.ntmps34; go_wp2; go_ret; exact ⟨rfl, rfl⟩
  by_cases h6 : k = 1397904212
  · subst h6; go_enter Try.func34, Try.ntmps34; go_wp2; go_ret; exact ⟨rfl, rfl⟩
  have f1 : ((k : Int) == 16) = false := by simp; omega
  have f2 : ((k : Int) == 1414090053) = false := by simp; omega
  have f3 : ((k : Int) == 1) = false := by simp; omega
  have f4 : ((k : Int) == 7557193) = false := by simp; omega
  have f5 : ((k : Int) == 4739917) = false := by simp; omega
  have f6 : ((k : Int) == 1397904212) = false := by simp; omega
  have hc : Hid (isCall k = false) := by show isCall k = false; simp [isCall, h1, h2, h3, h4, h5, h6]
  clear h1 h2 h3 h4 h5 h6
  go_enter Try.func34, Try.ntmps34
  go_wp2
  go_ret
  exact ⟨by rw [hc.out]; rfl, rfl⟩
theorem minus3 (w : World) : Calls Try.prog 35 #[.int .u64 3] w fun e w' => e = .returned (.int .u64 18446744073709551613) ∧ w' = w := by
  go_enter Try.func35, Try.ntmps35; go_wp2; go_ret; exact ⟨rfl, rfl⟩
theorem minus6 (w : World) : Calls Try.prog 35 #[.int .u64 6] w fun e w' => e = .returned (.int .u64 18446744073709551610) ∧ w' = w := by
  go_enter Try.func35, Try.ntmps35; go_wp2; go_ret; exact ⟨rfl, rfl⟩
theorem minus2 (w : World) : Calls Try.prog 35 #[.int .u64 2] w fun e w' => e = .returned (.int .u64 18446744073709551614) ∧ w' = w := by
  go_enter Try.func35, Try.ntmps35; go_wp2; go_ret; exact ⟨rfl, rfl⟩
theorem Try.zero28 : (Try.prog.info? 28).bind (·.zero) = some (.agg (arr 32 (cellAt V.zero))) := by kernel_rfl

set_option maxRecDepth 100000 in
theorem refCall_no (A : Option Addr) (n c : Nat) (l : Nat → V) (i : Int) (w : World) (hA : A = none → n = 0) (hR : SlR w A n l) (hn : n * 368 ≤ 140737488355328) (hi : i < 0 ∨ (n : Int) ≤ i) :
    Calls Try.prog 23 #[.slice A n c, .int .i64 i] w (CallPost w n l [] false) := by
  have hnb := len_small hn
  have HR := Lib.hid hR
  have HA := Lib.hid hA
  have HN := Lib.hid hn
  clear hR hA hn
  have hlt : decide (i < 0) = true ∨ (decide (i < 0) = false ∧ decide ((n : Int) ≤ i) = true) := by
    rcases hi with h | h
    · exact .inl (by simpa using h)
    · by_cases h0 : i < 0
      · exact .inl (by simpa using h0)
      · exact .inr ⟨by simpa using h0, by simpa using h⟩
  clear hi
  go_enter Try.func23, Try.ntmps23
  go_wp2_with (refine wpList_append_vs (gd_none rfl) _ _ rfl w.heap.size (Nat.le_refl _) _ rfl (World.ownsRow_nil w _ 32 52) A n c rfl l HA.out HR.out HN.out ?_)
  intro v w1 hV hF0
  have HF := Lib.hid (hF0.weak (S' := fun _ => False) (fun k hk (h : w.heap.size ≤ k) => by omega))
  obtain ⟨A1, c1, rfl, h1, h2, h3⟩ := id hV
  have HV := Lib.hid hV
  clear hV hF0 h1 h2 h3
  rcases hlt with h0 | ⟨h0, h1⟩
  all_goals
    go_wp2_with fail
    go_ret3
    exact ⟨_, _, [], rfl, HV.out, .none, (fun x hx => by cases hx), HF.out⟩

def fv (er va : Nat) (x : V) : V := ((x.setU 32 ((x.u 32 + 4) % 18446744073709551616)).setU 10 er).setU 11 va
theorem finV_fv (r : CR) (x : V) : finV r x = fv r.err r.val x := by
  refine V.ext3 (fun j => ?_) (fun _ => rfl) rfl
  simp only [finV, fv, V.setU, upd]
  (repeat' split) <;> first | rfl | omega
def CutP (r1 : CR) (k i gv g9 : Nat) (L : Nat → V) (w : World) (x : V) (e v : Value) (wc : World) : Prop :=
  ∃ er va : Nat, ∃ M : Nat → V, e = .int .u64 er ∧ v = .int .u64 va ∧ finL (doR r1 k L) i (doL r1 i k L) = upd M i (fv er va (M i)) ∧ doB r1 = [] ∧ (doR r1 k L).down = false ∧ Mem (fun _ => False) w wc [.vs gv k M, .fn g9 28 32 (cellAt x)]
theorem cutP {r1 r2 : CR} {k i gv g9 : Nat} {L M : Nat → V} {w wc : World} {x : V} (h1 : doR r1 k L = r2) (h2 : doL r1 i k L = M) (h3 : r1.x 17 ≠ 1) (h4 : r2.stays = false) (h5 : r2.down = false) (er va : Nat) (h6 : r2.err = er) (h7 : r2.val = va) (hM : Mem (fun _ => False) w wc [.vs gv k M, .fn g9 28 32 (cellAt x)]) :
    CutP r1 k i gv g9 L w x (.int .u64 er) (.int .u64 va) wc := by
  subst h6 h7
  refine ⟨_, _, M, rfl, rfl, ?_, ?_, by rw [h1, h5], hM⟩
  · rw [h1, h2]; unfold finL; rw [h4, finV_fv]; rfl
  · unfold doB; rw [if_neg h3]
/-- A call that leaves without the registers. -/
theorem outP {r1 r2 : CR} {k i gv g9 c1 : Nat} {L M : Nat → V} {w wc : World} {x : V} {dn : Bool} (h1 : doR r1 k L = r2) (h2 : doL r1 i k L = M) (h3 : r1.x 17 ≠ 1) (h4 : r2.stays = true) (h5 : r2.down = dn) (hg : w.heap.size ≤ gv) (hc : k ≤ c1) (hc2 : c1 ≤ maxLen) (hM : Mem (fun _ => False) w wc [.vs gv k M, .fn g9 28 32 (cellAt x)]) :
    CallPost w k (finL (doR r1 k L) i (doL r1 i k L)) (doB r1) (doR r1 k L).down (.returned (.tuple #[.slice (some ⟨gv, 0, none⟩) k c1, .slice none 0 0, .bool dn])) wc := by
  have e1 : finL (doR r1 k L) i (doL r1 i k L) = M := by rw [h1, h2]; unfold finL; rw [h4]; rfl
  have e2 : doB r1 = [] := by unfold doB; rw [if_neg h3]
  rw [e1, e2, h1, h5]
  exact ⟨_, _, [], rfl, ⟨_, c1, rfl, hc, hc2, (fun h => by cases h), fun _ => ⟨gv, rfl, hg, hM.ok _ (by simp)⟩⟩, .none, (fun x hx => by cases hx), hM.fr⟩
def RG_a (k : Nat) : Prop := k = 1 ∨ k = 16 ∨ k = 1414090053
def RG_poke (k : Nat) : Prop := k = 7557193
def RG_state (k : Nat) : Prop := k = 4739917
def RG_end (k : Nat) : Prop := k = 1397904212
def RG_none (k : Nat) : Prop := k ≠ 1 ∧ k ≠ 16 ∧ k ≠ 1414090053 ∧ k ≠ 7557193 ∧ k ≠ 4739917 ∧ k ≠ 1397904212
end Go.Proofs.Ytjiolobkobpohaa
