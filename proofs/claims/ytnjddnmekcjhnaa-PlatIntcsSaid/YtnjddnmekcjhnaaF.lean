/- The UART: Write of the program. -/
import Derived.Test.YtnjddnmekcjhnaaE
namespace Go.Proofs.Ytnjddnmekcjhnaa
open Go.RowKit

theorem ua_up {w0 w' : World} {ty : TypeId} {S : Nat → Prop} {p : Nat} {u : UA} (h : UAt w' ty S p u ∧ Fr S w0 w') : UAt w' ty (More S w0) p u ∧ Fr S w0 w' := ⟨h.1.weak (fun _ _ h => .inl h), h.2⟩

/-- Two registers are written. -/
theorem ua_set2 {w w0 : World} {ty : TypeId} {S Sq Ss : Nat → Prop} {p : Nat} {u u' : UA} {vq vs x y : Value} (i j : Nat) (hp : Has w p ty (UC vq vs u)) (hS : S p)
    (hq : Sl w Sq 5 1 vq u.queue.length (bytes u.queue)) (hv : Sl w Ss 5 1 vs u.sent.length (bytes u.sent)) (hd1 : ∀ k, Sq k → S k ∧ k ≠ p ∧ ¬ Ss k) (hd2 : ∀ k, Ss k → S k ∧ k ≠ p)
    (he : ((UC vq vs u).setIfInBounds i x).setIfInBounds j y = UC vq vs u') (h1 : u'.queue = u.queue) (h2 : u'.sent = u.sent) (hf : Fr S w0 w) :
    UAt ((w.setCell ⟨p, i, none⟩ x).setCell ⟨p, j, none⟩ y) ty S p u' ∧ Fr S w0 ((w.setCell ⟨p, i, none⟩ x).setCell ⟨p, j, none⟩ y) := by
  have hf2 := (Fr.store w p i x).trans (Fr.store _ p j y) (fun _ _ h => h)
  exact ⟨⟨vq, vs, Sq, Ss, by have := (hp.set i x).set j y; rw [he] at this; exact this, hS, by rw [h1]; exact hq.fr hf2 (fun k _ h e => (hd1 k h).2.1 e), by rw [h2]; exact hv.fr hf2 (fun k _ h e => (hd2 k h).2 e), hd1, hd2⟩, (hf.setCell (fun _ => hS) _).setCell (fun _ => hS) _⟩
/-- A register is written, and the queue is let go. -/
theorem ua_clear {w w0 : World} {ty : TypeId} {S Sq Ss : Nat → Prop} {p : Nat} {u u' : UA} {vq vs x : Value} (hp : Has w p ty (UC vq vs u)) (hS : S p)
    (hv : Sl w Ss 5 1 vs u.sent.length (bytes u.sent)) (hd2 : ∀ k, Ss k → S k ∧ k ≠ p) (_ : Sq = Sq)
    (he : ((UC vq vs u).setIfInBounds 3 x).setIfInBounds 0 (.slice none 0 0) = UC (.slice none 0 0) vs u') (h1 : u'.queue = []) (h2 : u'.sent = u.sent) (hf : Fr S w0 w) :
    UAt ((w.setCell ⟨p, 3, none⟩ x).setCell ⟨p, 0, none⟩ (.slice none 0 0)) ty S p u' ∧ Fr S w0 ((w.setCell ⟨p, 3, none⟩ x).setCell ⟨p, 0, none⟩ (.slice none 0 0)) := by
  have hf2 := (Fr.store w p 3 x).trans (Fr.store _ p 0 (.slice none 0 0)) (fun _ _ h => h)
  exact ⟨⟨_, vs, fun _ => False, Ss, by have := (hp.set 3 x).set 0 (.slice none 0 0); rw [he] at this; exact this, hS, by rw [h1]; exact Sl.nil _ _ _ _, by rw [h2]; exact hv.fr hf2 (fun k _ h e => (hd2 k h).2 e), fun _ h => h.elim, hd2⟩, (hf.setCell (fun _ => hS) _).setCell (fun _ => hS) _⟩

set_option maxHeartbeats 3200000 in
theorem write_any (S : Nat → Prop) (p : Nat) (u : UA) (off : Int) (v : Nat) (w : World) (h : UAt w 86 S p u) (hw : u.Wf) (hv256 : v < 256) (hsn : u.sent.length < 140737488355328) :
    Calls Try.prog 32 #[.pointer (some ⟨p, 0, none⟩), .int .u64 off, .int .u8 v] w fun e w' => e = .returned (.tuple #[]) ∧ UAt w' 86 (More S w) p (u.wr off v) ∧ Fr S w w' := by
  have H := Lib.hid h
  have HM := Lib.hid (h.weak (S' := More S w) (fun _ _ h => .inl h))
  obtain ⟨vq, vs, Sq, Ss, hp, hS, hq, hv, hd1, hd2⟩ := h
  obtain ⟨A, c, rfl, hrq, hnc, hAc⟩ := hq.form
  obtain ⟨A', c', rfl, hrs, hnc', hAc'⟩ := hv.form
  obtain ⟨c0, c1, c2, c3, c4, c5, c6, c7, c8, c9, c10⟩ := cells_of hp
  have HQ := Lib.hid hq; clear hq
  have HV := Lib.hid hv; clear hv
  have HP := Lib.hid hp; clear hp
  have HRQ := Lib.hid hrq; clear hrq
  have HRS := Lib.hid hrs; clear hrs
  have HD1 := Lib.hid hd1; clear hd1
  have HD2 := Lib.hid hd2; clear hd2
  have hil := hw.lcr
  have hii := hw.ier
  have hlt := HP.out.lt
  obtain ⟨i0, hi, hz0, hz1, hz2⟩ := info_parts Try.info5
  obtain ⟨b8, h8⟩ : ∃ b, isB u.lcr 128 = b := ⟨_, rfl⟩
  have e8 : bits .and .u8 (u.lcr : Int) 128 = if b8 then 128 else 0 := isB_bool (k := 128) (by omega) (by omega) h8
  have hb8 : decide (128 ≤ u.lcr) = b8 := by rw [← h8, isB128 _ hw.lcr]
  by_cases o0 : off = 0
  · subst o0
    cases b8 with
    | true =>
      have hl : 128 ≤ u.lcr := of_decide_eq_true hb8
      have HE : Hid (u.wr 0 v = { u with dll := v }) := by show u.wr 0 v = _; simp [UA.wr, hl]
      have f7 := HP.out.frozen 7
      simp at e8
      clear hb8 h8
      go_enter Try.func32, Try.ntmps32
      go_wp2_with fail
      refine bodyPost_ret (results_none rfl _ _ _) rfl ?_
      rw [HE.out]
      exact ⟨rfl, ua_up (ua_set (u' := { u with dll := v }) 7 HP.out hS HQ.out HV.out HD1.out HD2.out rfl rfl rfl (Fr.refl S _))⟩
    | false =>
      have hl : ¬ 128 ≤ u.lcr := of_decide_eq_false hb8
      have HE : Hid (u.wr 0 v = { u with sent := u.sent ++ [v], empty := true }) := by show u.wr 0 v = _; simp [UA.wr, hl]
      simp at e8
      clear hb8 h8
      go_enter Try.func32, Try.ntmps32
      go_wp2_with (at_builtin; refine wpList_append_sl _ rfl (.tmp 34) (.tmp 36) 55 rfl Ss _ 5 i0 _ 1 1 Try.underlying55 hi hz0 hz1 hz2 rfl (by decide) _ _ _ rfl (HV.out.fr ((Fr.refl (fun _ => False) w).alloc _) (fun _ _ _ h => h)) _ 1 1 [.int .u8 v] rfl (by exact Rd.new w 5 [.int .u8 v]) rfl (by intro x hx; simp at hx; subst hx; rfl) (by unfold maxLen; omega) (by omega) ?_)
      intro v' w3 hs3 hf3
      have hfx := (Fr.refl (fun _ => False) w).alloc (.cells #[.int .u8 (v : Int)] 5)
      have hp3 := hf3.has (hfx.has HP.out (fun h => h)) (fun h => (HD2.out p h).2 rfl)
      have hq3 := ((HQ.out.weak (S' := fun k => Sq k ∧ k < w.heap.size) (fun k hk h => ⟨h, hk⟩)).fr hfx (fun _ _ _ h => h)).fr hf3 (fun k _ h h2 => (HD1.out k h.1).2.2 h2)
      have hfw : Fr S w w3 := (hfx.weak (fun _ _ h => h.elim)).trans hf3 (fun k _ h => (HD2.out k h).1)
      have g1 := hp3.cell 1
      have k1 := hp3.frozen 1
      have g10 := hp3.cell 10
      have k10 := hp3.frozen 10
      obtain ⟨A3, c3, hv4, _⟩ := hs3.form
      subst hv4
      have HS3 := Lib.hid hs3
      have HQ3 := Lib.hid hq3
      clear hs3 hq3
      go_wp2
      go_end0
      rw [HE.out]
      exact ⟨rfl, ua_sent (Ss := Ss) (u' := { u with sent := u.sent ++ [v], empty := true }) hp3 hS HQ3.out (by rw [bytes_append]; exact HS3.out) (fun k h => ⟨(HD1.out k h.1).1, (HD1.out k h.1).2.1⟩) (fun k hk h => by
        rcases h with h | h
        · exact ⟨.inl (HD2.out k h).1, (HD2.out k h).2, fun h2 => (HD1.out k h2.1).2.2 h⟩
        · have hk : w.heap.size ≤ k := by first | omega | (simp at h; omega)
          exact ⟨.inr hk, by omega, fun h2 => by omega⟩) rfl rfl hfw (fun _ h => .inl h) rfl⟩
  by_cases o1 : off = 1
  · subst o1
    cases b8 with
    | true =>
      have hl : 128 ≤ u.lcr := of_decide_eq_true hb8
      have HE : Hid (u.wr 1 v = { u with dlm := v }) := by show u.wr 1 v = _; simp [UA.wr, hl]
      have f8 := HP.out.frozen 8
      simp at e8
      clear hb8 h8
      go_enter Try.func32, Try.ntmps32
      go_wp2_with fail
      refine bodyPost_ret (results_none rfl _ _ _) rfl ?_
      rw [HE.out]
      exact ⟨rfl, ua_up (ua_set (u' := { u with dlm := v }) 8 HP.out hS HQ.out HV.out HD1.out HD2.out rfl rfl rfl (Fr.refl S _))⟩
    | false =>
      have hl : ¬ 128 ≤ u.lcr := of_decide_eq_false hb8
      obtain ⟨b2, h2⟩ : ∃ b, isB u.ier 2 = b := ⟨_, rfl⟩
      obtain ⟨v2, hv2⟩ : ∃ b, isB v 2 = b := ⟨_, rfl⟩
      obtain ⟨be, he⟩ : ∃ b, u.empty = b := ⟨_, rfl⟩
      have HE : Hid (u.wr 1 v = { u with empty := be || (!b2 && v2), ier := v % 16 }) := by show u.wr 1 v = _; simp [UA.wr, hl, h2, hv2, he]
      have e2 : bits .and .u8 (u.ier : Int) 2 = if b2 then 2 else 0 := isB_bool (k := 2) (by omega) (by omega) h2
      have e3 : bits .and .u8 (v : Int) 2 = if v2 then 2 else 0 := isB_bool (k := 2) (by omega) (by omega) hv2
      have e15 : bits .and .u8 (v : Int) 15 = ((v % 16 : Nat) : Int) := by
        have := u8_and_nat v 15 hv256 (by omega)
        rw [nat_mask4] at this
        exact this
      have f2 := HP.out.frozen 2
      have f10 := HP.out.frozen 10
      have HEE := Lib.hid he
      rw [he] at c10
      simp at e8
      clear hb8 h8 he h2 hv2
      have HFIN : ∀ x : Bool, Hid (UAt ((w.setCell ⟨p, 10, none⟩ (.bool x)).setCell ⟨p, 2, none⟩ (.int .u8 ((v % 16 : Nat) : Int))) 86 S p { u with empty := x, ier := v % 16 } ∧ Fr S w ((w.setCell ⟨p, 10, none⟩ (.bool x)).setCell ⟨p, 2, none⟩ (.int .u8 ((v % 16 : Nat) : Int)))) :=
        fun x => ua_set2 (u' := { u with empty := x, ier := v % 16 }) 10 2 HP.out hS HQ.out HV.out HD1.out HD2.out rfl rfl rfl (Fr.refl S w)
      have HF := Lib.hid HFIN
      clear HFIN
      cases be <;> cases b2 <;> cases v2 <;> simp at e2 e3
      all_goals
        go_enter Try.func32, Try.ntmps32
        go_wp2_with fail
        go_end0
        rw [HE.out]
        exact ⟨rfl, ua_up (HF.out _).out⟩
  clear e8 hb8 h8
  by_cases o2 : off = 2
  · subst o2
    obtain ⟨v2, hv2⟩ : ∃ b, isB v 2 = b := ⟨_, rfl⟩
    have HE : Hid (u.wr 2 v = if v2 = true then { u with fcr := v % 2, queue := [] } else { u with fcr := v % 2 }) := by show u.wr 2 v = _; simp [UA.wr, hv2]
    have e3 : bits .and .u8 (v : Int) 2 = if v2 then 2 else 0 := isB_bool (k := 2) (by omega) (by omega) hv2
    have e1 : bits .and .u8 (v : Int) 1 = ((v % 2 : Nat) : Int) := by
      have := u8_and_nat v 1 hv256 (by omega)
      rw [nat_mask1] at this
      exact this
    have f3 := HP.out.frozen 3
    have f0 := HP.out.frozen 0
    clear hv2
    cases v2 <;> simp at e3
    · go_enter Try.func32, Try.ntmps32
      go_wp2_with fail
      go_end0
      rw [HE.out]
      exact ⟨rfl, ua_up (ua_set (u' := { u with fcr := v % 2 }) 3 HP.out hS HQ.out HV.out HD1.out HD2.out rfl rfl rfl (Fr.refl S _))⟩
    · go_enter Try.func32, Try.ntmps32
      go_wp2_with fail
      go_end0
      rw [HE.out]
      exact ⟨rfl, ua_up (ua_clear (Sq := Sq) (u' := { u with fcr := v % 2, queue := [] }) HP.out hS HV.out HD2.out rfl rfl rfl rfl (Fr.refl S _))⟩
  by_cases o3 : off = 3
  · subst o3
    have HE : Hid (u.wr 3 v = { u with lcr := v }) := by show u.wr 3 v = _; simp [UA.wr]
    have f4 := HP.out.frozen 4
    go_enter Try.func32, Try.ntmps32
    go_wp2
    go_end0
    rw [HE.out]
    exact ⟨rfl, ua_up (ua_set (u' := { u with lcr := v }) 4 HP.out hS HQ.out HV.out HD1.out HD2.out rfl rfl rfl (Fr.refl S _))⟩
  by_cases o4 : off = 4
  · subst o4
    have HE : Hid (u.wr 4 v = { u with mcr := v % 32 }) := by show u.wr 4 v = _; simp [UA.wr]
    have e31 : bits .and .u8 (v : Int) 31 = ((v % 32 : Nat) : Int) := by
      have := u8_and_nat v 31 hv256 (by omega)
      rw [nat_mask5] at this
      exact this
    have f5 := HP.out.frozen 5
    go_enter Try.func32, Try.ntmps32
    go_wp2
    go_end0
    rw [HE.out]
    exact ⟨rfl, ua_up (ua_set (u' := { u with mcr := v % 32 }) 5 HP.out hS HQ.out HV.out HD1.out HD2.out rfl rfl rfl (Fr.refl S _))⟩
  by_cases o7 : off = 7
  · subst o7
    have HE : Hid (u.wr 7 v = { u with scr := v }) := by show u.wr 7 v = _; simp [UA.wr]
    have f6 := HP.out.frozen 6
    go_enter Try.func32, Try.ntmps32
    go_wp2
    go_end0
    rw [HE.out]
    exact ⟨rfl, ua_up (ua_set (u' := { u with scr := v }) 6 HP.out hS HQ.out HV.out HD1.out HD2.out rfl rfl rfl (Fr.refl S _))⟩
  · have HE : Hid (u.wr off v = u) := by show u.wr off v = _; simp [UA.wr, o0, o1, o2, o3, o4, o7]
    go_enter Try.func32, Try.ntmps32
    go_wp2
    go_end0
    rw [HE.out]
    exact ⟨rfl, HM.out, Fr.refl _ _⟩
end Go.Proofs.Ytnjddnmekcjhnaa
