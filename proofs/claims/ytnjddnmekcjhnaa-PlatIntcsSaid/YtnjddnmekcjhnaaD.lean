/- The UART: In, take, Out, Irq, Read, Write of the program. -/
import Derived.Test.YtnjddnmekcjhnaaC
namespace Go.Proofs.Ytnjddnmekcjhnaa
open Go.RowKit

abbrev UC (vq vs : Value) (u : UA) : Array Value := #[vq, vs, .int .u8 u.ier, .int .u8 u.fcr, .int .u8 u.lcr, .int .u8 u.mcr, .int .u8 u.scr, .int .u8 u.dll, .int .u8 u.dlm, .bool u.over, .bool u.empty]

/-- A register is written. -/
theorem ua_set {w w0 : World} {ty : TypeId} {S Sq Ss : Nat → Prop} {p : Nat} {u u' : UA} {vq vs x : Value} (i : Nat) (hp : Has w p ty (UC vq vs u)) (hS : S p)
    (hq : Sl w Sq 5 1 vq u.queue.length (bytes u.queue)) (hv : Sl w Ss 5 1 vs u.sent.length (bytes u.sent)) (hd1 : ∀ k, Sq k → S k ∧ k ≠ p ∧ ¬ Ss k) (hd2 : ∀ k, Ss k → S k ∧ k ≠ p)
    (he : (UC vq vs u).setIfInBounds i x = UC vq vs u') (h1 : u'.queue = u.queue) (h2 : u'.sent = u.sent) (hf : Fr S w0 w) : UAt (w.setCell ⟨p, i, none⟩ x) ty S p u' ∧ Fr S w0 (w.setCell ⟨p, i, none⟩ x) := by
  have hf2 := Fr.store w p i x
  exact ⟨⟨vq, vs, Sq, Ss, by have := hp.set i x; rw [he] at this; exact this, hS, by rw [h1]; exact hq.fr hf2 (fun k _ h e => (hd1 k h).2.1 e), by rw [h2]; exact hv.fr hf2 (fun k _ h e => (hd2 k h).2 e), hd1, hd2⟩, hf.setCell (fun _ => hS) _⟩

/-- The queue is written. -/
theorem ua_queue {w w0 : World} {ty : TypeId} {S S' Sq Sq' Ss : Nat → Prop} {p : Nat} {u u' : UA} {vq vq' vs : Value} {n : Nat} (hp : Has w p ty (UC vq vs u)) (hS : S p)
    (hq : Sl w Sq' 5 1 vq' n (bytes u'.queue)) (hv : Sl w Ss 5 1 vs u.sent.length (bytes u.sent)) (hd1 : ∀ k, k < w.heap.size → Sq' k → S' k ∧ k ≠ p ∧ ¬ Ss k) (hd2 : ∀ k, Ss k → S k ∧ k ≠ p)
    (he : UC vq' vs u = UC vq' vs u') (h2 : u'.sent = u.sent) (hf : Fr S w0 w) (hS' : ∀ k, S k → S' k) (_ : Sq = Sq) : UAt (w.setCell ⟨p, 0, none⟩ vq') ty S' p u' ∧ Fr S w0 (w.setCell ⟨p, 0, none⟩ vq') := by
  have hf2 := Fr.store w p 0 vq'
  have hn : n = u'.queue.length := by have := hq.1; rw [bytes_length] at this; omega
  subst hn
  refine ⟨⟨vq', vs, fun k => Sq' k ∧ k < w.heap.size, Ss, ?_, hS' p hS, (hq.weak (fun k hk h => ⟨h, hk⟩)).fr hf2 (fun k hk h e => (hd1 k hk h.1).2.1 e), by rw [h2]; exact hv.fr hf2 (fun k _ h e => (hd2 k h).2 e),
    fun k hk => hd1 k hk.2 hk.1, fun k hk => ⟨hS' k (hd2 k hk).1, (hd2 k hk).2⟩⟩, hf.setCell (fun _ => hS) _⟩
  have h3 := hp.set 0 vq'
  rw [show (UC vq vs u).setIfInBounds 0 vq' = UC vq' vs u from rfl, he] at h3
  exact h3

theorem Try.info5 : (Try.prog.info? 5).map (fun i => (i.zero, i.size, i.bytes)) = some (some (.int .u8 0), 1, 1) := by kernel_rfl
theorem bytes_append (a b : List Nat) : bytes (a ++ b) = bytes a ++ bytes b := by simp [bytes]

theorem irq_any (S : Nat → Prop) (p : Nat) (u : UA) (w : World) (h : UAt w 86 S p u) (hw : u.Wf) :
    Calls Try.prog 35 #[.pointer (some ⟨p, 0, none⟩)] w fun e w' => e = .returned (.bool (u.cause != 1)) ∧ w' = w := by
  have H := Lib.hid h; clear h
  have hc : ((u.cause : Int) != 1) = (u.cause != 1) := by rw [Bool.eq_iff_iff]; simp; omega
  have HC := Lib.hid hc
  clear hc
  go_enter Try.func35, Try.ntmps35
  go_wp2_with fail
  refine (why_any S p u w H.out hw).mono ?_
  rintro e w' ⟨rfl, hw'⟩
  subst hw'
  go_wp2
  go_ret
  exact ⟨by rw [← HC.out]; rfl, rfl⟩

theorem newUart_any (w : World) : Calls Try.prog 29 #[] w fun e w' => e = .returned (.pointer (some ⟨w.heap.size, 0, none⟩)) ∧ UAt w' 86 (fun k => k = w.heap.size) w.heap.size ua0 ∧ Fr (fun _ => False) w w' := by
  go_enter Try.func29, Try.ntmps29
  go_wp2
  go_ret
  exact ⟨rfl, ⟨_, _, fun _ => False, fun _ => False, Has.new _ _ _, rfl, Sl.nil _ _ _ _, Sl.nil _ _ _ _, fun _ h => h.elim, fun _ h => h.elim⟩, (Fr.refl _ _).alloc _⟩

set_option maxHeartbeats 1600000 in
theorem in_any (S : Nat → Prop) (p : Nat) (u : UA) (v : Nat) (w : World) (h : UAt w 86 S p u) (hw : u.Wf) :
    Calls Try.prog 30 #[.pointer (some ⟨p, 0, none⟩), .int .u8 v] w fun e w' => e = .returned (.tuple #[]) ∧ UAt w' 86 (More S w) p (u.inn v) ∧ Fr S w w' := by
  obtain ⟨vq, vs, Sq, Ss, hp, hS, hq, hv, hd1, hd2⟩ := h
  obtain ⟨A, c, rfl, hrq, hnc, hAc⟩ := hq.form
  obtain ⟨A', c', rfl, hrs, hnc', hAc'⟩ := hv.form
  obtain ⟨c0, c1, c2, c3, c4, c5, c6, c7, c8, c9, c10⟩ := cells_of hp
  have HQ := Lib.hid hq; clear hq
  have HV := Lib.hid hv; clear hv
  have HP := Lib.hid hp; clear hp
  have HRQ := Lib.hid hrq; clear hrq
  have HRS := Lib.hid hrs; clear hrs
  have HD1 := Lib.hid hd1; clear hd1
  have HD2 := Lib.hid hd2; clear hd2
  have f0 := HP.out.frozen 0
  have f9 := HP.out.frozen 9
  have hlt := HP.out.lt
  have hlen := hw.len
  obtain ⟨i0, hi, hz0, hz1, hz2⟩ := info_parts Try.info5
  by_cases hn : 16 ≤ u.queue.length
  · have HE : Hid (u.inn v = { u with over := true }) := by show u.inn v = _; rw [UA.inn, if_pos hn]
    go_enter Try.func30, Try.ntmps30
    go_wp2
    refine bodyPost_ret (results_none rfl _ _ _) rfl ?_
    rw [HE.out]
    obtain ⟨h1, h2⟩ := ua_set (u' := { u with over := true }) 9 HP.out hS HQ.out HV.out HD1.out HD2.out rfl rfl rfl (Fr.refl S w)
    exact ⟨rfl, h1.weak (fun _ _ h => .inl h), h2⟩
  · have HE : Hid (u.inn v = { u with queue := u.queue ++ [v] }) := by show u.inn v = _; rw [UA.inn, if_neg hn]
    go_enter Try.func30, Try.ntmps30
    go_wp2_with (at_builtin; refine wpList_append_sl _ rfl (.tmp 17) (.tmp 19) 55 rfl Sq _ 5 i0 _ 1 1 Try.underlying55 hi hz0 hz1 hz2 rfl (by decide) _ _ _ rfl (HQ.out.fr ((Fr.refl (fun _ => False) w).alloc _) (fun _ _ _ h => h)) _ 1 1 [.int .u8 v] rfl (by exact Rd.new w 5 [.int .u8 v]) rfl (by intro x hx; simp at hx; subst hx; rfl) (by unfold maxLen; omega) (by omega) ?_)
    intro v' w3 hs3 hf3
    have hfx := (Fr.refl (fun _ => False) w).alloc (.cells #[.int .u8 (v : Int)] 5)
    have hp3 := hf3.has (hfx.has HP.out (fun h => h)) (fun h => (HD1.out p h).2.1 rfl)
    have hv3 := ((HV.out.weak (S' := fun k => Ss k ∧ k < w.heap.size) (fun k hk h => ⟨h, hk⟩)).fr hfx (fun _ _ _ h => h)).fr hf3 (fun k _ h h2 => (HD1.out k h2).2.2 h.1)
    have hfw : Fr S w w3 := (hfx.weak (fun _ _ h => h.elim)).trans hf3 (fun k _ h => (HD1.out k h).1)
    have g0 := hp3.cell 0
    have k0 := hp3.frozen 0
    obtain ⟨A3, c3, hv4, _⟩ := hs3.form
    subst hv4
    have HS3 := Lib.hid hs3
    have HV3 := Lib.hid hv3
    clear hs3 hv3
    go_wp2
    go_end0
    rw [HE.out]
    exact ⟨rfl, ua_queue (Sq := Sq) (u' := { u with queue := u.queue ++ [v] }) hp3 hS (by rw [bytes_append]; exact HS3.out) HV3.out (fun k hk h => by
      rcases h with h | h
      · exact ⟨.inl (HD1.out k h).1, (HD1.out k h).2.1, fun h2 => (HD1.out k h).2.2 h2.1⟩
      · have hk : w.heap.size ≤ k := by first | omega | (simp at h; omega)
        exact ⟨.inr hk, by omega, fun h2 => by omega⟩) (fun k h => HD2.out k h.1) rfl rfl hfw (fun _ h => .inl h) rfl⟩


theorem take_none (S : Nat → Prop) (p : Nat) (u : UA) (w : World) (h : UAt w 86 S p u) (hq0 : u.queue = []) :
    Calls Try.prog 46 #[.pointer (some ⟨p, 0, none⟩)] w fun e w' => e = .returned (.int .u8 0) ∧ w' = w := by
  obtain ⟨vq, vs, Sq, Ss, hp, hS, hq, hv, hd1, hd2⟩ := h
  obtain ⟨A, c, rfl, hrq, hnc, hAc⟩ := hq.form
  obtain ⟨A', c', rfl, hrs, hnc', hAc'⟩ := hv.form
  obtain ⟨c0, c1, c2, c3, c4, c5, c6, c7, c8, c9, c10⟩ := cells_of hp
  have HQ := Lib.hid hq; clear hq
  have HV := Lib.hid hv; clear hv
  have HP := Lib.hid hp; clear hp
  have HRQ := Lib.hid hrq; clear hrq
  have HRS := Lib.hid hrs; clear hrs
  have HD1 := Lib.hid hd1; clear hd1
  have HD2 := Lib.hid hd2; clear hd2
  have hl : u.queue.length = 0 := by rw [hq0]; rfl
  rw [hl] at c0
  clear hl hq0
  go_enter Try.func46, Try.ntmps46
  go_wp2
  go_ret
  exact ⟨rfl, rfl⟩

set_option maxHeartbeats 1600000 in
theorem take_some (S : Nat → Prop) (p : Nat) (u : UA) (x : Nat) (q : List Nat) (w : World) (h : UAt w 86 S p u) (hqx : u.queue = x :: q) :
    Calls Try.prog 46 #[.pointer (some ⟨p, 0, none⟩)] w fun e w' => e = .returned (.int .u8 x) ∧ UAt w' 86 S p { u with queue := q } ∧ Fr S w w' := by
  obtain ⟨vq, vs, Sq, Ss, hp, hS, hq, hv, hd1, hd2⟩ := h
  obtain ⟨A, c, rfl, hrq, hnc, hAc⟩ := hq.form
  obtain ⟨A', c', rfl, hrs, hnc', hAc'⟩ := hv.form
  obtain ⟨c0, c1, c2, c3, c4, c5, c6, c7, c8, c9, c10⟩ := cells_of hp
  have HQ := Lib.hid hq; clear hq
  have HV := Lib.hid hv; clear hv
  have HP := Lib.hid hp; clear hp
  have HRQ := Lib.hid hrq; clear hrq
  have HRS := Lib.hid hrs; clear hrs
  have HD1 := Lib.hid hd1; clear hd1
  have HD2 := Lib.hid hd2; clear hd2
  have f0 := HP.out.frozen 0
  obtain ⟨i0, hi, hz0, hz1, hz2⟩ := info_parts Try.info5
  have hl : u.queue.length = q.length + 1 := by rw [hqx]; rfl
  have hb : bytes u.queue = .int .u8 x :: bytes q := by rw [hqx]; rfl
  obtain ⟨b, off, hA, hb0, _, hcc⟩ := HRQ.out (by rw [hb]; simp)
  subst hA
  have d0 : w.cell? ⟨b, off, none⟩ = some (.int .u8 x) := hcc 0 _ (by rw [hb]; rfl)
  obtain ⟨A2, c2', hcut, hsl⟩ := HQ.out.run_cut (P := Try.prog) 55 i0 Try.underlying55 hi hz1 1 (by omega)
  rw [hl] at c0 hcut
  have hcut1 : ∀ w1, (Instr.slice 55 (.slice (some ⟨b, off, none⟩) (q.length + 1) c) (some (.int .i64 1)) none none).run Try.prog w1 = .ok (.slice A2 (q.length + 1 - 1) c2') w1 := hcut
  have hsl2 : Sl w Sq 5 1 (.slice A2 (q.length + 1 - 1) c2') (q.length + 1 - 1) (bytes q) := by rw [hl, hb] at hsl; simpa using hsl
  rw [show q.length + 1 - 1 = q.length by omega] at hcut1 hsl2
  have HS2 := Lib.hid hsl2
  clear hcut hsl hsl2 hcc hb
  have HQX := Lib.hid hqx
  clear hqx hl
  go_enter Try.func46, Try.ntmps46
  go_wp2
  go_ret
  exact ⟨rfl, ua_queue (Sq := Sq) (u' := { u with queue := q }) HP.out hS HS2.out HV.out (fun k _ h => HD1.out k h) HD2.out rfl rfl (Fr.refl _ _) (fun _ h => h) rfl⟩

set_option maxHeartbeats 1600000 in
theorem out_any (S : Nat → Prop) (p : Nat) (u : UA) (w : World) (h : UAt w 86 S p u) (hn : u.sent.length ≤ 140737488355328) :
    Calls Try.prog 34 #[.pointer (some ⟨p, 0, none⟩)] w fun e w' => ∃ v, e = .returned v ∧ Sl w' (fun k => w.heap.size ≤ k) 5 1 v u.sent.length (bytes u.sent) ∧ Fr (fun _ => False) w w' := by
  obtain ⟨vq, vs, Sq, Ss, hp, hS, hq, hv, hd1, hd2⟩ := h
  obtain ⟨A, c, rfl, hrq, hnc, hAc⟩ := hq.form
  obtain ⟨A', c', rfl, hrs, hnc', hAc'⟩ := hv.form
  obtain ⟨c0, c1, c2, c3, c4, c5, c6, c7, c8, c9, c10⟩ := cells_of hp
  have HQ := Lib.hid hq; clear hq
  have HV := Lib.hid hv; clear hv
  have HP := Lib.hid hp; clear hp
  have HRQ := Lib.hid hrq; clear hrq
  have HRS := Lib.hid hrs; clear hrs
  have HD1 := Lib.hid hd1; clear hd1
  have HD2 := Lib.hid hd2; clear hd2
  obtain ⟨i0, hi, hz0, hz1, hz2⟩ := info_parts Try.info5
  go_enter Try.func34, Try.ntmps34
  go_wp2_with (at_builtin; refine wpList_append_sl _ rfl _ (.tmp 6) 55 rfl (fun k => w.heap.size ≤ k) _ 5 i0 _ 1 1 Try.underlying55 hi hz0 hz1 hz2 rfl (by decide) (.slice none 0 0) 0 [] rfl (Sl.nil _ _ _ _) A' u.sent.length c' (bytes u.sent) rfl HRS.out (by rw [bytes_length]; omega) (bytesCell _) (by unfold maxLen; omega) (by omega) ?_)
  intro v' w3 hs3 hf3
  have HS3 := Lib.hid (show Sl w3 (fun k => w.heap.size ≤ k) 5 1 v' u.sent.length (bytes u.sent) by simpa using hs3)
  clear hs3
  go_wp2
  go_ret
  exact ⟨_, rfl, HS3.out, hf3.weak (fun k hk (h : w.heap.size ≤ k) => by omega)⟩

end Go.Proofs.Ytnjddnmekcjhnaa
