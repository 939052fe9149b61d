/- The UART of the reference. -/
import Derived.Test.YtnjddnmekcjhnaaF
namespace Go.Proofs.Ytnjddnmekcjhnaa
open Go.RowKit

theorem isB_mod {x k : Nat} {b : Bool} (h : isB x k = b) : (((x / k : Nat) : Int)).tmod 2 = if b then 1 else 0 := by
  rw [← h]
  unfold isB
  generalize x / k = y
  rw [Int.tmod_eq_emod_of_nonneg (by omega)]
  rcases (show y % 2 = 0 ∨ y % 2 = 1 by omega) with h1 | h1
  · rw [show (y : Int) % 2 = ((y % 2 : Nat) : Int) by omega, h1]; rfl
  · rw [show (y : Int) % 2 = ((y % 2 : Nat) : Int) by omega, h1]; rfl

set_option maxHeartbeats 1600000 in
theorem refCause_any (S : Nat → Prop) (p : Nat) (u : UA) (w : World) (h : UAt w 68 S p u) (hw : u.Wf) :
    Calls Try.prog 49 #[.pointer (some ⟨p, 0, none⟩)] w fun e w' => e = .returned (.int .u8 u.cause) ∧ w' = w := by
  obtain ⟨vq, vs, Sq, Ss, hp, hS, hq, hv, hd1, hd2⟩ := h
  obtain ⟨A, c, rfl, hrq, hnc, hAc⟩ := hq.form
  obtain ⟨A', c', rfl, hrs, hnc', hAc'⟩ := hv.form
  obtain ⟨c0, c1, c2, c3, c4, c5, c6, c7, c8, c9, c10⟩ := cells_of hp
  have HQ := Lib.hid hq; clear hq
  have HV := Lib.hid hv; clear hv
  have HP := Lib.hid hp; clear hp
  have HRQ := Lib.hid hrq; clear hrq
  have HRS := Lib.hid hrs; clear hrs
  have HD1 := Lib.hid hd1; clear hd1
  have HD2 := Lib.hid hd2; clear hd2
  have hi := hw.ier
  obtain ⟨b4, h4⟩ : ∃ b, isB u.ier 4 = b := ⟨_, rfl⟩
  obtain ⟨b1, h1⟩ : ∃ b, isB u.ier 1 = b := ⟨_, rfl⟩
  obtain ⟨b2, h2⟩ : ∃ b, isB u.ier 2 = b := ⟨_, rfl⟩
  have e4 : ((u.ier : Int) / 4).tmod 2 = if b4 then 1 else 0 := isB_mod h4
  have e1 : (u.ier : Int).tmod 2 = if b1 then 1 else 0 := by have h0 := isB_mod h1; rwa [Nat.div_one] at h0
  have e2 : ((u.ier : Int) / 2).tmod 2 = if b2 then 1 else 0 := isB_mod h2
  have HC : Hid (u.cause = if u.over && b4 then 6 else if !u.queue.isEmpty && b1 then 4 else if u.empty && b2 then 2 else 1) := by
    show u.cause = _
    rw [UA.cause, h4, h1, h2]
  obtain ⟨bo, ho⟩ : ∃ b, u.over = b := ⟨_, rfl⟩
  obtain ⟨be, he⟩ : ∃ b, u.empty = b := ⟨_, rfl⟩
  rw [ho] at c9
  rw [he] at c10
  have HO := Lib.hid ho
  have HE := Lib.hid he
  clear ho he h4 h1 h2
  obtain ⟨n, hn⟩ : ∃ n, u.queue.length = n := ⟨_, rfl⟩
  have hemp : u.queue.isEmpty = decide (n = 0) := by rw [← hn]; cases u.queue <;> simp
  have HM := Lib.hid hemp
  clear hemp
  rw [hn] at c0 hnc
  have hn16 : n ≤ 16 := by have := hw.len; omega
  clear hn hw
  by_cases hn0 : n = 0
  · subst hn0
    cases bo <;> cases b4 <;> cases be <;> cases b2 <;> simp at e4 e2
    all_goals
      go_enter Try.func49, Try.ntmps49
      go_wp2
      go_ret
      exact ⟨by rw [HC.out, HO.out, HM.out, HE.out]; rfl, rfl⟩
  · have hn1 : 0 < n := by omega
    have hz : decide (n = 0) = false := by simp [hn0]
    have HZ := Lib.hid hz
    clear hz
    cases bo <;> cases b4 <;> cases b1 <;> cases be <;> cases b2 <;> simp at e4 e1 e2
    all_goals
      go_enter Try.func49, Try.ntmps49
      go_wp2
      go_ret
      exact ⟨by rw [HC.out, HO.out, HM.out, HZ.out, HE.out]; rfl, rfl⟩

theorem refIrq_any (S : Nat → Prop) (p : Nat) (u : UA) (w : World) (h : UAt w 68 S p u) (hw : u.Wf) :
    Calls Try.prog 39 #[.pointer (some ⟨p, 0, none⟩)] w fun e w' => e = .returned (.bool (u.cause != 1)) ∧ w' = w := by
  have H := Lib.hid h; clear h
  have hc : ((u.cause : Int) != 1) = (u.cause != 1) := by rw [Bool.eq_iff_iff]; simp; omega
  have HC := Lib.hid hc
  clear hc
  go_enter Try.func39, Try.ntmps39
  go_wp2_with fail
  refine (refCause_any S p u w H.out hw).mono ?_
  rintro e w' ⟨rfl, hw'⟩
  subst hw'
  go_wp2
  go_ret
  exact ⟨by rw [← HC.out]; rfl, rfl⟩

set_option maxHeartbeats 1600000 in
theorem refIn_any (S : Nat → Prop) (p : Nat) (u : UA) (v : Nat) (w : World) (h : UAt w 68 S p u) (hw : u.Wf) :
    Calls Try.prog 38 #[.pointer (some ⟨p, 0, none⟩), .int .u8 v] w fun e w' => e = .returned (.tuple #[]) ∧ UAt w' 68 (More S w) p (u.inn v) ∧ Fr S w w' := by
  obtain ⟨vq, vs, Sq, Ss, hp, hS, hq, hv, hd1, hd2⟩ := h
  obtain ⟨A, c, rfl, hrq, hnc, hAc⟩ := hq.form
  obtain ⟨A', c', rfl, hrs, hnc', hAc'⟩ := hv.form
  obtain ⟨c0, c1, c2, c3, c4, c5, c6, c7, c8, c9, c10⟩ := cells_of hp
  have HQ := Lib.hid hq; clear hq
  have HV := Lib.hid hv; clear hv
  have HP := Lib.hid hp; clear hp
  have HRQ := Lib.hid hrq; clear hrq
  have HRS := Lib.hid hrs; clear hrs
  have HD1 := Lib.hid hd1; clear hd1
  have HD2 := Lib.hid hd2; clear hd2
  have f0 := HP.out.frozen 0
  have f9 := HP.out.frozen 9
  have hlt := HP.out.lt
  have hlen := hw.len
  obtain ⟨i0, hi, hz0, hz1, hz2⟩ := info_parts Try.info5
  by_cases hn : 16 ≤ u.queue.length
  · have HE : Hid (u.inn v = { u with over := true }) := by show u.inn v = _; rw [UA.inn, if_pos hn]
    go_enter Try.func38, Try.ntmps38
    go_wp2
    refine bodyPost_ret (results_none rfl _ _ _) rfl ?_
    rw [HE.out]
    obtain ⟨h1, h2⟩ := ua_set (u' := { u with over := true }) 9 HP.out hS HQ.out HV.out HD1.out HD2.out rfl rfl rfl (Fr.refl S w)
    exact ⟨rfl, h1.weak (fun _ _ h => .inl h), h2⟩
  · have HE : Hid (u.inn v = { u with queue := u.queue ++ [v] }) := by show u.inn v = _; rw [UA.inn, if_neg hn]
    go_enter Try.func38, Try.ntmps38
    go_wp2_with (at_builtin; refine wpList_append_sl _ rfl (.tmp 17) (.tmp 19) 55 rfl Sq _ 5 i0 _ 1 1 Try.underlying55 hi hz0 hz1 hz2 rfl (by decide) _ _ _ rfl (HQ.out.fr ((Fr.refl (fun _ => False) w).alloc _) (fun _ _ _ h => h)) _ 1 1 [.int .u8 v] rfl (by exact Rd.new w 5 [.int .u8 v]) rfl (by intro x hx; simp at hx; subst hx; rfl) (by unfold maxLen; omega) (by omega) ?_)
    intro v' w3 hs3 hf3
    have hfx := (Fr.refl (fun _ => False) w).alloc (.cells #[.int .u8 (v : Int)] 5)
    have hp3 := hf3.has (hfx.has HP.out (fun h => h)) (fun h => (HD1.out p h).2.1 rfl)
    have hv3 := ((HV.out.weak (S' := fun k => Ss k ∧ k < w.heap.size) (fun k hk h => ⟨h, hk⟩)).fr hfx (fun _ _ _ h => h)).fr hf3 (fun k _ h h2 => (HD1.out k h2).2.2 h.1)
    have hfw : Fr S w w3 := (hfx.weak (fun _ _ h => h.elim)).trans hf3 (fun k _ h => (HD1.out k h).1)
    have g0 := hp3.cell 0
    have k0 := hp3.frozen 0
    obtain ⟨A3, c3, hv4, _⟩ := hs3.form
    subst hv4
    have HS3 := Lib.hid hs3
    have HV3 := Lib.hid hv3
    clear hs3 hv3
    go_wp2
    go_end0
    rw [HE.out]
    exact ⟨rfl, ua_queue (Sq := Sq) (u' := { u with queue := u.queue ++ [v] }) hp3 hS (by rw [bytes_append]; exact HS3.out) HV3.out (fun k hk h => by
      rcases h with h | h
      · exact ⟨.inl (HD1.out k h).1, (HD1.out k h).2.1, fun h2 => (HD1.out k h).2.2 h2.1⟩
      · have hk : w.heap.size ≤ k := by first | omega | (simp at h; omega)
        exact ⟨.inr hk, by omega, fun h2 => by omega⟩) (fun k h => HD2.out k h.1) rfl rfl hfw (fun _ h => .inl h) rfl⟩


end Go.Proofs.Ytnjddnmekcjhnaa
