/- PlatUarts: the walk. -/
import Derived.Test.YtnjddnmekcjhnaaY
import Derived.Deep.DeepCutAuto
import Derived.Deep.CutBlock
import Derived.Deep.CutRange
namespace Go.Proofs.Ytnjddnmekcjhnaa
open Go.RowKit

set_option maxRecDepth 100000 in
set_option maxHeartbeats 6400000 in
theorem uarts_walk (S : Nat → Prop) (A : Option Addr) (n c : Nat) (ops : List Sc) (w : World) (hn : n = ops.length) (hs : n * 40 ≤ 140737488351232) (hrd : Rd w S A (flatS ops)) :
    Calls Try.prog 11 #[.slice A n c] w fun e w' => e = .returned (.bool true) ∧ Below w.heap.size w w' := by
  have HN := Lib.hid hn; clear hn
  have HR := Lib.hid hrd; clear hrd
  go_enter Try.func11, Try.ntmps11
  go_wp2_with fail
  refine (newUart_any w).mono ?_
  rintro e w1 ⟨rfl, hu, hf⟩
  have hw1 := hf.size
  have h2 : UU w (w1.alloc (.cells #[.slice none 0 0, .slice none 0 0, .int .u8 0, .int .u8 0, .int .u8 0, .int .u8 0, .int .u8 0, .int .u8 0, .int .u8 0, .bool false, .bool false] 68)) w.heap.size w1.heap.size ua0 ua0 := by
    have hfx := (Fr.refl (fun _ => False) w1).alloc (.cells #[.slice none 0 0, .slice none 0 0, .int .u8 0, .int .u8 0, .int .u8 0, .int .u8 0, .int .u8 0, .int .u8 0, .int .u8 0, .bool false, .bool false] 68)
    have hlt := (hu.weak (S' := fun k => k = w.heap.size ∧ k < w1.heap.size) (fun k hk h => ⟨h, hk⟩))
    exact ⟨fun k => k = w.heap.size ∧ k < w1.heap.size, fun k => k = w1.heap.size, hlt.fr hfx (fun _ _ _ h => h), ⟨_, _, fun _ => False, fun _ => False, Has.new _ _ _, rfl, Sl.nil _ _ _ _, Sl.nil _ _ _ _, fun _ h => h.elim, fun _ h => h.elim⟩,
      fun k hk => ⟨by omega, by simp; omega, by omega⟩, fun k hk => ⟨by omega, by simp; omega⟩, ua0_wf, ua0_wf, hf.trans hfx (fun _ _ h => h)⟩
  have H2 := Lib.hid h2
  clear h2 hu hf
  go_wp2_with fail
  go_loopw [5] (fun i wr => ∃ k : Nat, k ≤ n ∧ i = .int .i64 k ∧ ∃ u : UA, u.sent.length ≤ k ∧ UU w wr w.heap.size w1.heap.size u u) (fun i _ => n - (intOf i).toNat)
  case atStart => exact ⟨0, Nat.zero_le _, rfl, ua0, by simp [ua0], H2.out⟩
  case round =>
    obtain ⟨k, hk, rfl, u, hul, hU⟩ := hrel
    have HU := Lib.hid hU
    clear hU
    by_cases hkn : k < n
    · have hko : k < ops.length := by have : n = ops.length := HN.out; omega
      obtain ⟨b, off, hA, hb, _, hc⟩ := HR.out (by intro h; have := flatS_length ops; rw [h] at this; simp at this; omega)
      subst hA
      obtain ⟨d0, d1, d2, d3, d4⟩ := sc_cells HU.out.fr hb (fun h => h) hc hko
      clear hc
      generalize ops[k] = o at *
      have hfx := (Fr.refl (fun _ => False) wr).alloc (.cells #[.int .i64 o.kind, .int .i64 o.size, .int .i64 o.src, .int .u64 o.off, .int .u64 o.v] 31)
      have HB := Lib.hid (Has.new wr 31 #[.int .i64 o.kind, .int .i64 o.size, .int .i64 o.src, .int .u64 o.off, .int .u64 o.v])
      have HUB := Lib.hid (HU.out.ug (.cells #[.int .i64 o.kind, .int .i64 o.size, .int .i64 o.src, .int .u64 o.off, .int .u64 o.v] 31))
      go_wp2_with fail
      refine (place_any o.kind 3 _ (by omega) (by omega)).mono ?_
      rintro e w3 ⟨rfl, hw3⟩
      subst hw3
      clear d0 d1 d2 d3 d4
      generalize hwx : wr.alloc (.cells #[.int .i64 o.kind, .int .i64 o.size, .int .i64 o.src, .int .u64 o.off, .int .u64 o.v] 31) = wx at *
      clear hwx hfx
      have hv8 : IntKind.u8.wrap (o.v : Int) = ((o.v % 256 : Nat) : Int) := by rw [IntKind.wrap_u8]; omega
      obtain ⟨b8, hb8⟩ : ∃ b8, o.v % 256 = b8 := ⟨_, rfl⟩
      have hb256 : b8 < 256 := by omega
      rw [hb8] at hv8
      have x0 := HB.out.cell 0
      have x3 := HB.out.cell 3
      have x4 := HB.out.cell 4
      have HB8 := Lib.hid hb8
      clear hb8
      go_upto_block 2 with fail
      go_cut [] from 12 to 68 (fun wc => ∃ u' : UA, u'.sent.length ≤ k + 1 ∧ UU w wc w.heap.size w1.heap.size u' u')
      case first =>
        rcases (show o.kind % 3 = 0 ∨ o.kind % 3 = 1 ∨ o.kind % 3 = 2 by omega) with hkind | hkind | hkind
        · go_wp2_with fail
          go_region_with (first
            | (go_at_call 31
               refine (ug_read (HUB.out.quiet ((Fr.refl (fun _ => False) wx).drew)) o.off).mono ?_
               rintro e w4 ⟨rfl, h4, hk4⟩
               have H4 := Lib.hid h4
               have z3 := (hk4 _ _ ((Fr.refl (fun _ => False) wx).drew.has HB.out (fun h => h))).cell 3
               clear h4 hk4)
            | (go_at_call 36
               refine (ug_rread H4.out o.off).mono ?_
               rintro e w5 ⟨rfl, h5, _⟩
               have H5 := Lib.hid h5
               clear h5))
          all_goals
            go_wp2_with fail
            go_meet
            exact ⟨_, by rw [sent_aft]; omega, H5.out.uu⟩
        · go_wp2_with fail
          refine (ug_write HUB.out o.off b8 hb256 (by omega)).mono ?_
          rintro e w4 ⟨rfl, h4, hk4⟩
          have H4 := Lib.hid h4
          have hb4 := hk4 _ _ HB.out
          have z3 := hb4.cell 3
          have z4 := hb4.cell 4
          clear h4 hk4
          go_wp2_with fail
          refine (ug_rwrite H4.out o.off b8 hb256 (by omega)).mono ?_
          rintro e w5 ⟨rfl, h5, _⟩
          have H5 := Lib.hid h5
          clear h5
          go_wp2_with fail
          go_meet
          exact ⟨_, by have := sent_wr u o.off b8; omega, H5.out.uu⟩
        · go_wp2_with fail
          refine (ug_in HUB.out b8).mono ?_
          rintro e w4 ⟨rfl, h4, hk4⟩
          have H4 := Lib.hid h4
          have z4 := (hk4 _ _ HB.out).cell 4
          clear h4 hk4
          go_wp2_with fail
          refine (ug_rin H4.out b8).mono ?_
          rintro e w5 ⟨rfl, h5, _⟩
          have H5 := Lib.hid h5
          clear h5
          go_wp2_with fail
          go_meet
          exact ⟨_, by rw [sent_inn]; omega, H5.out.uu⟩
      case rest =>
        obtain ⟨u2, hu2, hU2⟩ := hcut
        have HU2 := Lib.hid hU2
        clear hU2
        go_wp2_with fail
        refine (uu_irq HU2.out).mono ?_
        rintro e w6 ⟨rfl, hw6⟩
        subst hw6
        go_wp2_with fail
        refine (uu_rirq HU2.out).mono ?_
        rintro e w6 ⟨rfl, hw6⟩
        subst hw6
        go_wp2
        go_roundw
        case rel => exact ⟨k + 1, by omega, by go_num, u2, hu2, HU2.out⟩
        case measure => simp [intOf]; omega
    · have hkk : k = n := by omega
      have hf0 := HU.out.fr
      obtain ⟨SU, SR, _, ⟨vq, vs, Sq, Ss, hp, _, _, hsv, _, _⟩, _, _, _, _, _⟩ := HU.out
      obtain ⟨A10, c10, rfl, hr10, _, _⟩ := hsv.form
      have HP := Lib.hid hp
      have HR10 := Lib.hid hr10
      have HF0 := Lib.hid hf0
      have y1 := HP.out.cell 1
      clear hp hr10 hsv hf0
      go_wp2_with fail
      go_region_with (first
        | (go_at_call 34
           refine (uu_out (HU.out.quiet ((Fr.refl (fun _ => False) wr).drew)) (by omega)).mono ?_
           rintro e w4 ⟨x, rfl, hs4, hf4, h4⟩
           obtain ⟨A9, c9, hx9, hr9, _, _⟩ := hs4.form
           subst hx9
           have hf5 := ((Fr.refl (fun _ => False) wr).drew).trans hf4 (fun _ _ h => h)
           have HR9 := Lib.hid hr9
           have HF5 := Lib.hid hf5
           have y2 := (hf5.has HP.out (fun h => h)).cell 1
           clear hs4 hf4 hr9 hf5 h4)
        | (go_at_call 33
           refine (sameBytes_any _ _ A9 A10 c9 c10 u.sent u.sent w4 HR9.out (HR10.out.fr HF5.out (fun _ _ _ h => h)) (by omega) (by omega)).mono ?_
           rintro e w5 ⟨rfl, nq, hw5⟩
           subst hw5
           rw [decide_eq_true rfl])
        | (go_at_call 15
           refine (awake_any _).mono ?_
           rintro e w6 ⟨rfl, hf6⟩
           have HF6 := Lib.hid hf6
           clear hf6))
      all_goals
        go_wp2
        go_ret
        exact ⟨rfl, ((HF0.out.trans (HF5.out.drewN nq) (fun _ _ h => h)).trans HF6.out (fun _ _ h => h)).below (fun _ h => h.elim) (Nat.le_refl _)⟩
end Go.Proofs.Ytnjddnmekcjhnaa
