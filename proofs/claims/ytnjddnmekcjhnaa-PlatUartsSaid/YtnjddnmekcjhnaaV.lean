/- The UART of the reference: Read. -/
import Derived.Test.YtnjddnmekcjhnaaU
namespace Go.Proofs.Ytnjddnmekcjhnaa
open Go.RowKit

set_option maxHeartbeats 3200000 in
theorem refRead_any (S : Nat → Prop) (p : Nat) (u : UA) (off : Int) (w : World) (h : UAt w 68 S p u) (hw : u.Wf) :
    Calls Try.prog 36 #[.pointer (some ⟨p, 0, none⟩), .int .u64 off] w fun e w' => e = .returned (.int .u8 (u.val off)) ∧ UAt w' 68 (More S w) p (u.aft off) ∧ Fr S w w' := by
  have H := Lib.hid h
  obtain ⟨vq, vs, Sq, Ss, hp, hS, hq, hv, hd1, hd2⟩ := h
  obtain ⟨A, c, rfl, hrq, hnc, hAc⟩ := hq.form
  obtain ⟨A', c', rfl, hrs, hnc', hAc'⟩ := hv.form
  obtain ⟨c0, c1, c2, c3, c4, c5, c6, c7, c8, c9, c10⟩ := cells_of hp
  have HQ := Lib.hid hq; clear hq
  have HV := Lib.hid hv; clear hv
  have HP := Lib.hid hp; clear hp
  have HRQ := Lib.hid hrq; clear hrq
  have HRS := Lib.hid hrs; clear hrs
  have HD1 := Lib.hid hd1; clear hd1
  have HD2 := Lib.hid hd2; clear hd2
  have hil := hw.lcr
  obtain ⟨b8, h8⟩ : ∃ b, isB u.lcr 128 = b := ⟨_, rfl⟩
  have hb8 : decide (128 ≤ u.lcr) = b8 := by rw [← h8, isB128 _ hw.lcr]
  have e8 : decide ((128 : Int) ≤ u.lcr) = b8 := by rw [← hb8]; exact decide_eq_decide.2 (by omega)
  by_cases o0 : off = 0
  · subst o0
    cases b8 with
    | true =>
      have hl : 128 ≤ u.lcr := of_decide_eq_true hb8
      have HE : Hid (u.val 0 = u.dll ∧ u.aft 0 = u) := by constructor <;> simp [UA.val, UA.aft, hl]
      clear hb8 h8
      go_enter Try.func36, Try.ntmps36
      go_wp2_with fail
      go_ret
      rw [HE.out.1, HE.out.2]
      exact ⟨rfl, H.out.weak (fun _ _ h => .inl h), Fr.refl _ _⟩
    | false =>
      have hl : ¬ 128 ≤ u.lcr := of_decide_eq_false hb8
      clear hb8 h8
      cases hqx : u.queue with
      | nil =>
        have HE : Hid (u.val 0 = 0 ∧ u.aft 0 = u) := by
          constructor
          · simp [UA.val, hl, hqx]
          · simp [UA.aft, hl, hqx]
            rw [← hqx]
        have hl0 : u.queue.length = 0 := by rw [hqx]; rfl
        rw [hl0] at c0
        clear hqx hl0 hl
        go_enter Try.func36, Try.ntmps36
        go_wp2_with fail
        go_ret
        rw [HE.out.1, HE.out.2]
        exact ⟨rfl, H.out.weak (fun _ _ h => .inl h), Fr.refl _ _⟩
      | cons x q =>
        have HE : Hid (u.val 0 = x ∧ u.aft 0 = { u with queue := q }) := by constructor <;> simp [UA.val, UA.aft, hl, hqx]
        have f0 := HP.out.frozen 0
        obtain ⟨i0, hi, hz0, hz1, hz2⟩ := info_parts Try.info5
        have hln : u.queue.length = q.length + 1 := by rw [hqx]; rfl
        have hq16 := hw.len
        have hb : bytes u.queue = .int .u8 x :: bytes q := by rw [hqx]; rfl
        obtain ⟨b, off, hA, hb0, _, hcc⟩ := HRQ.out (by rw [hb]; simp)
        subst hA
        have d0 : w.cell? ⟨b, off, none⟩ = some (.int .u8 x) := hcc 0 _ (by rw [hb]; rfl)
        obtain ⟨A2, c2', hcut, hsl⟩ := HQ.out.run_cut (P := Try.prog) 55 i0 Try.underlying55 hi hz1 1 (by omega)
        rw [hln] at c0 hcut
        have hcut1 : ∀ w1, (Instr.slice 55 (.slice (some ⟨b, off, none⟩) (q.length + 1) c) (some (.int .i64 1)) none none).run Try.prog w1 = .ok (.slice A2 (q.length + 1 - 1) c2') w1 := hcut
        have hsl2 : Sl w Sq 5 1 (.slice A2 (q.length + 1 - 1) c2') (q.length + 1 - 1) (bytes q) := by rw [hln, hb] at hsl; simpa using hsl
        rw [show q.length + 1 - 1 = q.length by omega] at hcut1 hsl2
        obtain ⟨A3, c3', hAe, hrd3, _, _⟩ := hsl2.form
        obtain ⟨rfl, _, rfl⟩ : A2 = A3 ∧ q.length = q.length ∧ c2' = c3' := by simpa using hAe
        have HRD3 := Lib.hid hrd3
        have hq15 : q.length ≤ 16 := by omega
        clear hcut hsl hsl2 hcc hb hqx hln hl hrd3 hAe hq16
        go_enter Try.func36, Try.ntmps36
        go_wp2_with (at_builtin; refine wpList_append_sl _ rfl (.const (.slice none 0 0)) (.tmp 39) 55 rfl (fun _ => False) _ 5 i0 _ 1 1 Try.underlying55 hi hz0 hz1 hz2 rfl (by decide) _ 0 [] rfl (Sl.nil _ _ _ _) _ q.length c2' (bytes q) rfl HRD3.out (by rw [bytes_length]; omega) (bytesCell q) (by unfold maxLen; omega) (by omega) ?_)
        intro v' w3 hs3 hf3
        have hp3 := hf3.has HP.out (fun h => h)
        have hv3 := HV.out.weak (S' := fun k => Ss k ∧ k < w.heap.size) (fun k hk h => ⟨h, hk⟩)
        have hv4 := hv3.fr hf3 (fun _ _ _ h => h)
        have g0 := hp3.cell 0
        have k0 := hp3.frozen 0
        have hlt := HP.out.lt
        obtain ⟨A4, c4', hv5, _⟩ := hs3.form
        subst hv5
        have HS3 := Lib.hid hs3
        have HV4 := Lib.hid hv4
        clear hs3 hv3 hv4
        go_wp2
        go_ret
        rw [HE.out.1, HE.out.2]
        exact ⟨rfl, ua_queue (Sq := Sq) (u' := { u with queue := q }) hp3 hS HS3.out HV4.out (fun k hk h => by
          have h9 : w.heap.size ≤ k := by first | exact h | exact h.resolve_left (fun h => h)
          exact ⟨.inr h9, by omega, fun h2 => by have := h2.2; omega⟩) (fun k h => HD2.out k h.1) rfl rfl ((hf3.weak (fun _ _ h => h.elim))) (fun _ h => .inl h) rfl⟩
  by_cases o1 : off = 1
  · subst o1
    cases b8 with
    | true =>
      have hl : 128 ≤ u.lcr := of_decide_eq_true hb8
      have HE : Hid (u.val 1 = u.dlm ∧ u.aft 1 = u) := by constructor <;> simp [UA.val, UA.aft, hl]
      clear hb8 h8
      go_enter Try.func36, Try.ntmps36
      go_wp2_with fail
      go_ret
      rw [HE.out.1, HE.out.2]
      exact ⟨rfl, H.out.weak (fun _ _ h => .inl h), Fr.refl _ _⟩
    | false =>
      have hl : ¬ 128 ≤ u.lcr := of_decide_eq_false hb8
      have HE : Hid (u.val 1 = u.ier ∧ u.aft 1 = u) := by constructor <;> simp [UA.val, UA.aft, hl]
      clear hb8 h8
      go_enter Try.func36, Try.ntmps36
      go_wp2_with fail
      go_ret
      rw [HE.out.1, HE.out.2]
      exact ⟨rfl, H.out.weak (fun _ _ h => .inl h), Fr.refl _ _⟩
  clear e8 hb8 h8
  by_cases o2 : off = 2
  · subst o2
    have hif := hw.fcr
    obtain ⟨cz, hcz⟩ : ∃ cz, u.cause = cz := ⟨_, rfl⟩
    have hc4 : cz = 1 ∨ cz = 2 ∨ cz = 4 ∨ cz = 6 := by
      rw [← hcz]; unfold UA.cause
      repeat' split
      all_goals simp
    obtain ⟨f1, hf1⟩ : ∃ f1, u.fcr = f1 := ⟨_, rfl⟩
    have HE : Hid (u.val 2 = cz + (if f1 = 1 then 192 else 0) ∧ u.aft 2 = if cz = 2 then { u with empty := false } else u) := by
      constructor
      · show u.val 2 = _
        simp [UA.val, hcz, hf1]
      · show u.aft 2 = _
        simp [UA.aft, hcz]
    have hf01 : f1 = 0 ∨ f1 = 1 := by omega
    have f10 := HP.out.frozen 10
    have W := Lib.hid hw
    have HC := Lib.hid hcz
    rw [hf1] at c3
    clear hcz hf1 hif hw
    rcases hc4 with rfl | rfl | rfl | rfl <;> rcases hf01 with rfl | rfl
    all_goals
      go_enter Try.func36, Try.ntmps36
      go_wp2_with fail
      refine (refCause_any S p u w H.out W.out).mono ?_
      rintro e w' ⟨rfl, hw'⟩
      subst hw'
      rw [HC.out]
      go_wp2_with fail
      go_ret
      rw [HE.out.1, HE.out.2]
      first
        | exact ⟨rfl, H.out.weak (fun _ _ h => .inl h), Fr.refl _ _⟩
        | exact ⟨rfl, ua_up (ua_set (u' := { u with empty := false }) 10 HP.out hS HQ.out HV.out HD1.out HD2.out rfl rfl rfl (Fr.refl S _))⟩
  by_cases o3 : off = 3
  · subst o3
    have HE : Hid (u.val 3 = u.lcr ∧ u.aft 3 = u) := by constructor <;> simp [UA.val, UA.aft]
    go_enter Try.func36, Try.ntmps36
    go_wp2
    go_ret
    rw [HE.out.1, HE.out.2]
    exact ⟨rfl, H.out.weak (fun _ _ h => .inl h), Fr.refl _ _⟩
  by_cases o4 : off = 4
  · subst o4
    have HE : Hid (u.val 4 = u.mcr ∧ u.aft 4 = u) := by constructor <;> simp [UA.val, UA.aft]
    go_enter Try.func36, Try.ntmps36
    go_wp2
    go_ret
    rw [HE.out.1, HE.out.2]
    exact ⟨rfl, H.out.weak (fun _ _ h => .inl h), Fr.refl _ _⟩
  by_cases o5 : off = 5
  · subst o5
    obtain ⟨bo, ho⟩ : ∃ b, u.over = b := ⟨_, rfl⟩
    have f9 := HP.out.frozen 9
    obtain ⟨n, hn⟩ : ∃ n, u.queue.length = n := ⟨_, rfl⟩
    have hemp : u.queue.isEmpty = decide (n = 0) := by rw [← hn]; cases u.queue <;> simp
    have HE : Hid (u.val 5 = 96 + (if decide (n = 0) = true then 0 else 1) + (if bo = true then 2 else 0) ∧ u.aft 5 = { u with over := false }) := by
      constructor
      · show u.val 5 = _
        simp [UA.val, hemp, ho]
      · show u.aft 5 = _
        simp [UA.aft]
    rw [ho] at c9
    rw [hn] at c0 hnc
    have hn16 : n ≤ 16 := by have := hw.len; omega
    clear ho hn hemp hw
    by_cases hn0 : n = 0
    · subst hn0
      cases bo
      all_goals
        go_enter Try.func36, Try.ntmps36
        go_wp2
        go_ret
        rw [HE.out.1, HE.out.2]
        exact ⟨rfl, ua_up (ua_set (u' := { u with over := false }) 9 HP.out hS HQ.out HV.out HD1.out HD2.out rfl rfl rfl (Fr.refl S _))⟩
    · have hn1 : 0 < n := by omega
      have HZ := Lib.hid (show decide (n = 0) = false by simp [hn0])
      cases bo
      all_goals
        go_enter Try.func36, Try.ntmps36
        go_wp2
        go_ret
        rw [HE.out.1, HE.out.2, HZ.out]
        exact ⟨rfl, ua_up (ua_set (u' := { u with over := false }) 9 HP.out hS HQ.out HV.out HD1.out HD2.out rfl rfl rfl (Fr.refl S _))⟩
  by_cases o6 : off = 6
  · subst o6
    have HE : Hid (u.val 6 = 176 ∧ u.aft 6 = u) := by constructor <;> simp [UA.val, UA.aft]
    go_enter Try.func36, Try.ntmps36
    go_wp2
    go_ret
    rw [HE.out.1, HE.out.2]
    exact ⟨rfl, H.out.weak (fun _ _ h => .inl h), Fr.refl _ _⟩
  by_cases o7 : off = 7
  · subst o7
    have HE : Hid (u.val 7 = u.scr ∧ u.aft 7 = u) := by constructor <;> simp [UA.val, UA.aft]
    go_enter Try.func36, Try.ntmps36
    go_wp2
    go_ret
    rw [HE.out.1, HE.out.2]
    exact ⟨rfl, H.out.weak (fun _ _ h => .inl h), Fr.refl _ _⟩
  · have HE : Hid (u.val off = 0 ∧ u.aft off = u) := by constructor <;> simp [UA.val, UA.aft, o0, o1, o2, o3, o4, o5, o6, o7]
    go_enter Try.func36, Try.ntmps36
    go_wp2
    go_ret
    rw [HE.out.1, HE.out.2]
    exact ⟨rfl, H.out.weak (fun _ _ h => .inl h), Fr.refl _ _⟩

end Go.Proofs.Ytnjddnmekcjhnaa
