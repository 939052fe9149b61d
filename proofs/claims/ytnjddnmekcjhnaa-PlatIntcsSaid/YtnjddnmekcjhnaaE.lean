/- The UART: Read and Write of the program. -/
import Derived.Test.YtnjddnmekcjhnaaD
namespace Go.Proofs.Ytnjddnmekcjhnaa
open Go.RowKit

theorem isB128 (x : Nat) (hx : x < 256) : isB x 128 = decide (128 ≤ x) := by
  unfold isB
  by_cases h : 128 ≤ x
  · have : x / 128 = 1 := by omega
    simp [h, this]
  · have : x / 128 = 0 := by omega
    simp [h, this]

/-- What is sent is written, and the flag. -/
theorem ua_sent {w w0 : World} {ty : TypeId} {S S' Sq Ss Ss' : Nat → Prop} {p : Nat} {u u' : UA} {vq vs vs' : Value} {n : Nat} (hp : Has w p ty (UC vq vs u)) (hS : S p)
    (hq : Sl w Sq 5 1 vq u.queue.length (bytes u.queue)) (hv : Sl w Ss' 5 1 vs' n (bytes u'.sent)) (hd1 : ∀ k, Sq k → S k ∧ k ≠ p) (hd2 : ∀ k, k < w.heap.size → Ss' k → S' k ∧ k ≠ p ∧ ¬ Sq k)
    (he : (UC vq vs' u).setIfInBounds 10 (.bool true) = UC vq vs' u') (h2 : u'.queue = u.queue) (hf : Fr S w0 w) (hS' : ∀ k, S k → S' k) (_ : Ss = Ss) :
    UAt ((w.setCell ⟨p, 1, none⟩ vs').setCell ⟨p, 10, none⟩ (.bool true)) ty S' p u' ∧ Fr S w0 ((w.setCell ⟨p, 1, none⟩ vs').setCell ⟨p, 10, none⟩ (.bool true)) := by
  have hf2 := (Fr.store w p 1 vs').trans (Fr.store _ p 10 (.bool true)) (fun _ _ h => h)
  have hn : n = u'.sent.length := by have := hv.1; rw [bytes_length] at this; omega
  subst hn
  refine ⟨⟨vq, vs', Sq, fun k => Ss' k ∧ k < w.heap.size, ?_, hS' p hS, by rw [h2]; exact hq.fr hf2 (fun k _ h e => (hd1 k h).2 e), (hv.weak (fun k hk h => ⟨h, hk⟩)).fr hf2 (fun k hk h e => (hd2 k hk h.1).2.1 e),
    fun k hk => ⟨hS' k (hd1 k hk).1, (hd1 k hk).2, fun h => (hd2 k h.2 h.1).2.2 hk⟩, fun k hk => ⟨(hd2 k hk.2 hk.1).1, (hd2 k hk.2 hk.1).2.1⟩⟩, (hf.setCell (fun _ => hS) _).setCell (fun _ => hS) _⟩
  have h3 := (hp.set 1 vs').set 10 (.bool true)
  rw [show (UC vq vs u).setIfInBounds 1 vs' = UC vq vs' u from rfl, he] at h3
  exact h3

set_option maxHeartbeats 3200000 in
theorem read_any (S : Nat → Prop) (p : Nat) (u : UA) (off : Int) (w : World) (h : UAt w 86 S p u) (hw : u.Wf) :
    Calls Try.prog 31 #[.pointer (some ⟨p, 0, none⟩), .int .u64 off] w fun e w' => e = .returned (.int .u8 (u.val off)) ∧ UAt w' 86 S p (u.aft off) ∧ Fr S w w' := by
  have H := Lib.hid h
  obtain ⟨vq, vs, Sq, Ss, hp, hS, hq, hv, hd1, hd2⟩ := h
  obtain ⟨A, c, rfl, hrq, hnc, hAc⟩ := hq.form
  obtain ⟨A', c', rfl, hrs, hnc', hAc'⟩ := hv.form
  obtain ⟨c0, c1, c2, c3, c4, c5, c6, c7, c8, c9, c10⟩ := cells_of hp
  have HQ := Lib.hid hq; clear hq
  have HV := Lib.hid hv; clear hv
  have HP := Lib.hid hp; clear hp
  have HRQ := Lib.hid hrq; clear hrq
  have HRS := Lib.hid hrs; clear hrs
  have HD1 := Lib.hid hd1; clear hd1
  have HD2 := Lib.hid hd2; clear hd2
  have hil := hw.lcr
  obtain ⟨b8, h8⟩ : ∃ b, isB u.lcr 128 = b := ⟨_, rfl⟩
  have e8 : bits .and .u8 (u.lcr : Int) 128 = if b8 then 128 else 0 := isB_bool (k := 128) (by omega) (by omega) h8
  have hb8 : decide (128 ≤ u.lcr) = b8 := by rw [← h8, isB128 _ hw.lcr]
  by_cases o0 : off = 0
  · subst o0
    cases b8 with
    | true =>
      have hl : 128 ≤ u.lcr := of_decide_eq_true hb8
      have HE : Hid (u.val 0 = u.dll ∧ u.aft 0 = u) := by constructor <;> simp [UA.val, UA.aft, hl]
      simp at e8
      clear hb8 h8
      go_enter Try.func31, Try.ntmps31
      go_wp2_with fail
      go_ret
      rw [HE.out.1, HE.out.2]
      exact ⟨rfl, H.out, Fr.refl _ _⟩
    | false =>
      have hl : ¬ 128 ≤ u.lcr := of_decide_eq_false hb8
      simp at e8
      clear hb8 h8
      cases hqx : u.queue with
      | nil =>
        have HE : Hid (u.val 0 = 0 ∧ u.aft 0 = u) := by
          constructor
          · simp [UA.val, hl, hqx]
          · simp [UA.aft, hl, hqx]
            rw [← hqx]
        have HQX := Lib.hid hqx
        clear hqx
        go_enter Try.func31, Try.ntmps31
        go_wp2_with fail
        refine (take_none S p u w H.out HQX.out).mono ?_
        rintro e w' ⟨rfl, hw'⟩
        subst hw'
        go_wp2_with fail
        go_ret
        rw [HE.out.1, HE.out.2]
        exact ⟨rfl, H.out, Fr.refl _ _⟩
      | cons x q =>
        have HE : Hid (u.val 0 = x ∧ u.aft 0 = { u with queue := q }) := by constructor <;> simp [UA.val, UA.aft, hl, hqx]
        have HQX := Lib.hid hqx
        clear hqx
        go_enter Try.func31, Try.ntmps31
        go_wp2_with fail
        refine (take_some S p u x q w H.out HQX.out).mono ?_
        rintro e w' ⟨rfl, h1⟩
        have H1 := Lib.hid h1
        clear h1
        go_wp2_with fail
        go_ret
        rw [HE.out.1, HE.out.2]
        exact ⟨rfl, H1.out⟩
  by_cases o1 : off = 1
  · subst o1
    cases b8 with
    | true =>
      have hl : 128 ≤ u.lcr := of_decide_eq_true hb8
      have HE : Hid (u.val 1 = u.dlm ∧ u.aft 1 = u) := by constructor <;> simp [UA.val, UA.aft, hl]
      simp at e8
      clear hb8 h8
      go_enter Try.func31, Try.ntmps31
      go_wp2_with fail
      go_ret
      rw [HE.out.1, HE.out.2]
      exact ⟨rfl, H.out, Fr.refl _ _⟩
    | false =>
      have hl : ¬ 128 ≤ u.lcr := of_decide_eq_false hb8
      have HE : Hid (u.val 1 = u.ier ∧ u.aft 1 = u) := by constructor <;> simp [UA.val, UA.aft, hl]
      simp at e8
      clear hb8 h8
      go_enter Try.func31, Try.ntmps31
      go_wp2_with fail
      go_ret
      rw [HE.out.1, HE.out.2]
      exact ⟨rfl, H.out, Fr.refl _ _⟩
  clear e8 hb8 h8
  by_cases o2 : off = 2
  · subst o2
    have hif := hw.fcr
    obtain ⟨cz, hcz⟩ : ∃ cz, u.cause = cz := ⟨_, rfl⟩
    have hc4 : cz = 1 ∨ cz = 2 ∨ cz = 4 ∨ cz = 6 := by
      rw [← hcz]; unfold UA.cause
      repeat' split
      all_goals simp
    obtain ⟨f1, hf1⟩ : ∃ f1, u.fcr = f1 := ⟨_, rfl⟩
    have HE : Hid (u.val 2 = cz + (if f1 = 1 then 192 else 0) ∧ u.aft 2 = if cz = 2 then { u with empty := false } else u) := by
      constructor
      · show u.val 2 = _
        simp [UA.val, hcz, hf1]
      · show u.aft 2 = _
        simp [UA.aft, hcz]
    have hf01 : f1 = 0 ∨ f1 = 1 := by omega
    have f10 := HP.out.frozen 10
    have W := Lib.hid hw
    have HC := Lib.hid hcz
    rw [hf1] at c3
    clear hcz hf1 hif hw
    rcases hc4 with rfl | rfl | rfl | rfl <;> rcases hf01 with rfl | rfl
    all_goals
      go_enter Try.func31, Try.ntmps31
      go_wp2_with fail
      refine (why_any S p u w H.out W.out).mono ?_
      rintro e w' ⟨rfl, hw'⟩
      subst hw'
      rw [HC.out]
      go_wp2_with fail
      go_ret
      rw [HE.out.1, HE.out.2]
      first
        | exact ⟨rfl, H.out, Fr.refl _ _⟩
        | exact ⟨rfl, ua_set (u' := { u with empty := false }) 10 HP.out hS HQ.out HV.out HD1.out HD2.out rfl rfl rfl (Fr.refl S _)⟩
  by_cases o3 : off = 3
  · subst o3
    have HE : Hid (u.val 3 = u.lcr ∧ u.aft 3 = u) := by constructor <;> simp [UA.val, UA.aft]
    go_enter Try.func31, Try.ntmps31
    go_wp2
    go_ret
    rw [HE.out.1, HE.out.2]
    exact ⟨rfl, H.out, Fr.refl _ _⟩
  by_cases o4 : off = 4
  · subst o4
    have HE : Hid (u.val 4 = u.mcr ∧ u.aft 4 = u) := by constructor <;> simp [UA.val, UA.aft]
    go_enter Try.func31, Try.ntmps31
    go_wp2
    go_ret
    rw [HE.out.1, HE.out.2]
    exact ⟨rfl, H.out, Fr.refl _ _⟩
  by_cases o5 : off = 5
  · subst o5
    obtain ⟨bo, ho⟩ : ∃ b, u.over = b := ⟨_, rfl⟩
    have f9 := HP.out.frozen 9
    obtain ⟨n, hn⟩ : ∃ n, u.queue.length = n := ⟨_, rfl⟩
    have hemp : u.queue.isEmpty = decide (n = 0) := by rw [← hn]; cases u.queue <;> simp
    have HE : Hid (u.val 5 = 96 + (if decide (n = 0) = true then 0 else 1) + (if bo = true then 2 else 0) ∧ u.aft 5 = { u with over := false }) := by
      constructor
      · show u.val 5 = _
        simp [UA.val, hemp, ho]
      · show u.aft 5 = _
        simp [UA.aft]
    rw [ho] at c9
    rw [hn] at c0 hnc
    have hn16 : n ≤ 16 := by have := hw.len; omega
    clear ho hn hemp hw
    by_cases hn0 : n = 0
    · subst hn0
      cases bo
      all_goals
        go_enter Try.func31, Try.ntmps31
        go_wp2
        go_ret
        rw [HE.out.1, HE.out.2]
        exact ⟨rfl, ua_set (u' := { u with over := false }) 9 HP.out hS HQ.out HV.out HD1.out HD2.out rfl rfl rfl (Fr.refl S _)⟩
    · have hn1 : 0 < n := by omega
      have HZ := Lib.hid (show decide (n = 0) = false by simp [hn0])
      cases bo
      all_goals
        go_enter Try.func31, Try.ntmps31
        go_wp2
        go_ret
        rw [HE.out.1, HE.out.2, HZ.out]
        exact ⟨rfl, ua_set (u' := { u with over := false }) 9 HP.out hS HQ.out HV.out HD1.out HD2.out rfl rfl rfl (Fr.refl S _)⟩
  by_cases o6 : off = 6
  · subst o6
    have HE : Hid (u.val 6 = 176 ∧ u.aft 6 = u) := by constructor <;> simp [UA.val, UA.aft]
    go_enter Try.func31, Try.ntmps31
    go_wp2
    go_ret
    rw [HE.out.1, HE.out.2]
    exact ⟨rfl, H.out, Fr.refl _ _⟩
  by_cases o7 : off = 7
  · subst o7
    have HE : Hid (u.val 7 = u.scr ∧ u.aft 7 = u) := by constructor <;> simp [UA.val, UA.aft]
    go_enter Try.func31, Try.ntmps31
    go_wp2
    go_ret
    rw [HE.out.1, HE.out.2]
    exact ⟨rfl, H.out, Fr.refl _ _⟩
  · have HE : Hid (u.val off = 0 ∧ u.aft off = u) := by constructor <;> simp [UA.val, UA.aft, o0, o1, o2, o3, o4, o5, o6, o7]
    go_enter Try.func31, Try.ntmps31
    go_wp2
    go_ret
    rw [HE.out.1, HE.out.2]
    exact ⟨rfl, H.out, Fr.refl _ _⟩

end Go.Proofs.Ytnjddnmekcjhnaa
