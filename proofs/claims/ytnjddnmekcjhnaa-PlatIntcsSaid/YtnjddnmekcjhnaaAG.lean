/- PlatIntcs: the walk. -/
import Derived.Test.YtnjddnmekcjhnaaAF
import Derived.Deep.DeepCutAuto
import Derived.Deep.CutBlock
import Derived.Deep.CutRange
import Derived.Deep.RegionHeld3
namespace Go.Proofs.Ytnjddnmekcjhnaa
open Go.RowKit

set_option maxRecDepth 100000 in
theorem intcs_no (S : Nat → Prop) (h : Int) (A : Option Addr) (n c : Nat) (ops : List Sc) (w : World) (_hn : n = ops.length) (_hrd : Rd w S A (flatS ops)) (hh : ¬ (1 ≤ h ∧ h ≤ 64)) :
    Calls Try.prog 6 #[.int .i64 h, .slice A n c] w fun e w' => e = .returned (.bool true) ∧ Below w.heap.size w w' := by
  go_enter Try.func6, Try.ntmps6
  go_wp2_with fail
  refine (newIntc_no h w hh).mono ?_
  rintro e w' ⟨rfl, rfl⟩
  go_wp2_with fail
  refine (refNew_no h _ hh).mono ?_
  rintro e w' ⟨rfl, rfl⟩
  go_wp2_with (first | go_skip)
  refine (awake_any _).mono ?_
  rintro e w9 ⟨rfl, hf⟩
  go_wp2
  go_ret
  exact ⟨rfl, hf.below (fun _ h => h.elim) (Nat.le_refl _)⟩

set_option maxRecDepth 100000 in
set_option maxHeartbeats 6400000 in
theorem intcs_walk (S : Nat → Prop) (h : Nat) (A : Option Addr) (n c : Nat) (ops : List Sc) (w : World) (hn : n = ops.length) (hs : n * 40 ≤ 140737488351232) (hrd : Rd w S A (flatS ops)) (hh : 1 ≤ h ∧ h ≤ 64) :
    Calls Try.prog 6 #[.int .i64 h, .slice A n c] w fun e w' => e = .returned (.bool true) ∧ Below w.heap.size w w' := by
  have HN := Lib.hid hn; clear hn
  have HR := Lib.hid hrd; clear hrd
  have HH := Lib.hid hh
  have hh1 : (h : Int) ≤ 64 := by omega
  clear hh
  go_enter Try.func6, Try.ntmps6
  go_wp2_with fail
  refine (newIntc_yes h w HH.out).mono ?_
  rintro e w1 ⟨p, hp, rfl, hi1, hf1⟩
  have HI1 := Lib.hid hi1
  have HF1 := Lib.hid hf1
  clear hi1 hf1
  go_wp2_with fail
  refine (refNew_yes h w1 HH.out).mono ?_
  rintro e w2 ⟨r, hr, rfl, hi2, hf2⟩
  have HII := Lib.hid (ii_new HH.out HI1.out HF1.out hi2 hf2)
  clear hi2 hf2 HI1 HF1
  obtain ⟨B, hB⟩ : ∃ B, w2.heap.size = B := ⟨_, rfl⟩
  rw [hB] at HII
  clear hB hp hr
  go_wp2_with (first | go_skip)
  go_loopw [9] (fun i wr => ∃ k : Nat, k ≤ n ∧ i = .int .i64 k ∧ ∃ x : IA, II B w wr p r x x) (fun i _ => n - (intOf i).toNat)
  case atStart => exact ⟨0, Nat.zero_le _, rfl, _, HII.out⟩
  case round =>
    obtain ⟨k, hk, rfl, x, hU⟩ := hrel
    have HU := Lib.hid hU
    clear hU
    by_cases hkn : k < n
    · have hko : k < ops.length := by have : n = ops.length := HN.out; omega
      obtain ⟨b, off, hA, hb, _, hc⟩ := HR.out (by intro h; have := flatS_length ops; rw [h] at this; simp at this; omega)
      subst hA
      obtain ⟨d0, d1, d2, d3, d4⟩ := sc_cells HU.out.fr hb (fun h => h) hc hko
      clear hc
      generalize ops[k] = o at *
      have hg := HU.out.size
      have hfx := (Fr.refl (fun _ => False) wr).alloc (.cells #[.int .i64 o.kind, .int .i64 o.size, .int .i64 o.src, .int .u64 o.off, .int .u64 o.v] 31)
      have HB := Lib.hid (Has.new wr 31 #[.int .i64 o.kind, .int .i64 o.size, .int .i64 o.src, .int .u64 o.off, .int .u64 o.v])
      have HUB := Lib.hid (HU.out.quiet hfx)
      go_wp2_with fail
      refine (place_any o.kind 4 _ (by omega) (by omega)).mono ?_
      rintro e w3 ⟨rfl, hw3⟩
      subst hw3
      clear d0 d1 d2 d3 d4
      generalize hwx : wr.alloc (.cells #[.int .i64 o.kind, .int .i64 o.size, .int .i64 o.src, .int .u64 o.off, .int .u64 o.v] 31) = wx at *
      clear hwx hfx
      have x0 := HB.out.cell 0
      have x1 := HB.out.cell 1
      have x2 := HB.out.cell 2
      have x3 := HB.out.cell 3
      have x4 := HB.out.cell 4
      have HG := Lib.hid hg
      clear hg
      obtain ⟨t, ht⟩ : ∃ t : Nat, o.v % 2 = t := ⟨_, rfl⟩
      have e2 : (o.v : Int) % 2 = (t : Int) := by omega
      have HO := Lib.hid o.ho
      have HV := Lib.hid o.hv
      clear ht
      go_upto_block 2 with fail
      go_cut [11, 12, 13, 14, 15] from 52 to 127 (fun s _ _ _ _ wc => s = .bool true ∧ ∃ x' : IA, II B w wc p r x' x')
      case first =>
        rcases (show o.kind % 4 = 0 ∨ o.kind % 4 = 1 ∨ o.kind % 4 = 2 ∨ o.kind % 4 = 3 by omega) with hkind | hkind | hkind | hkind
        · go_wp2_with fail
          refine (ii_read HUB.out o.off o.size HO.out).mono ?_
          rintro e w4 ⟨rfl, h4, hk4⟩
          have H4 := Lib.hid h4
          have z1 := (hk4 _ _ _ HG.out HB.out).cell 1
          have z3 := (hk4 _ _ _ HG.out HB.out).cell 3
          clear h4 hk4
          go_wp2_with fail
          refine (ii_rread H4.out o.off o.size HO.out).mono ?_
          rintro e w5 ⟨rfl, h5, _⟩
          have H5 := Lib.hid h5
          clear h5
          have q1 : (((rdV x o.off o.size : Nat) : Int) == ((rdV x o.off o.size : Nat) : Int)) = true := by simp
          go_wp2_with (first | go_skip)
          go_meet
          exact ⟨by first | rfl | simp, _, H5.out⟩
        · go_wp2_with fail
          have k0 := Lib.hid ((Fr.refl (fun _ => False) wx).drew.has HB.out (fun h => h))
          have K0 : Hid (wx.drew.cell? ⟨wr.heap.size, 1, none⟩ = some (.int .i64 o.size) ∧ wx.drew.cell? ⟨wr.heap.size, 3, none⟩ = some (.int .u64 (o.off : Int)) ∧ wx.drew.cell? ⟨wr.heap.size, 4, none⟩ = some (.int .u64 (o.v : Int))) := ⟨k0.out.cell 1, k0.out.cell 3, k0.out.cell 4⟩
          go_region_held3 (fun w' => w'.cell? ⟨wr.heap.size, 1, none⟩ = some (.int .i64 o.size) ∧ w'.cell? ⟨wr.heap.size, 3, none⟩ = some (.int .u64 (o.off : Int)) ∧ w'.cell? ⟨wr.heap.size, 4, none⟩ = some (.int .u64 (o.v : Int))) (first | exact K0.out | exact K1.out | exact K2.out) (first
            | (go_at_call 17; refine (ii_write (HUB.out.quiet ((Fr.refl (fun _ => False) wx).drew)) o.off o.size o.v HO.out HV.out).mono ?_; rintro e w4 ⟨rfl, h4, hk4⟩; have H4 := Lib.hid h4; have hb4 := Lib.hid (hk4 _ _ _ HG.out k0.out); have K1 : Hid (w4.cell? ⟨wr.heap.size, 1, none⟩ = some (.int .i64 o.size) ∧ w4.cell? ⟨wr.heap.size, 3, none⟩ = some (.int .u64 (o.off : Int)) ∧ w4.cell? ⟨wr.heap.size, 4, none⟩ = some (.int .u64 (o.v : Int))) := ⟨hb4.out.cell 1, hb4.out.cell 3, hb4.out.cell 4⟩; clear h4 hk4)
            | (go_at_call 24; refine (ii_rwrite H4.out o.off o.size o.v HO.out HV.out).mono ?_; rintro e w5 ⟨rfl, h5, hk5⟩; have H5 := Lib.hid h5; have hb5 := hk5 _ _ _ HG.out hb4.out; have K2 : Hid (w5.cell? ⟨wr.heap.size, 1, none⟩ = some (.int .i64 o.size) ∧ w5.cell? ⟨wr.heap.size, 3, none⟩ = some (.int .u64 (o.off : Int)) ∧ w5.cell? ⟨wr.heap.size, 4, none⟩ = some (.int .u64 (o.v : Int))) := ⟨hb5.cell 1, hb5.cell 3, hb5.cell 4⟩; clear h5 hk5 hb5))
          all_goals
            go_wp2_with fail
            go_meet
            exact ⟨by first | rfl | simp, _, H5.out⟩
        · go_wp2_with fail
          refine (ii_level HUB.out o.src _).mono ?_
          rintro e w4 ⟨rfl, h4, hk4⟩
          have H4 := Lib.hid h4
          have z2 := (hk4 _ _ _ HG.out HB.out).cell 2
          have z4 := (hk4 _ _ _ HG.out HB.out).cell 4
          clear h4 hk4
          go_wp2_with fail
          refine (ii_rlevel H4.out o.src _).mono ?_
          rintro e w5 ⟨rfl, h5, _⟩
          have H5 := Lib.hid h5
          clear h5
          go_wp2_with fail
          go_meet
          exact ⟨rfl, _, H5.out⟩
        · go_wp2_with fail
          refine (ii_pulse HUB.out o.src).mono ?_
          rintro e w4 ⟨rfl, h4, hk4⟩
          have H4 := Lib.hid h4
          have z2 := (hk4 _ _ _ HG.out HB.out).cell 2
          clear h4 hk4
          go_wp2_with fail
          refine (ii_rpulse H4.out o.src).mono ?_
          rintro e w5 ⟨rfl, h5, _⟩
          have H5 := Lib.hid h5
          clear h5
          go_wp2_with fail
          go_meet
          exact ⟨rfl, _, H5.out⟩
      case rest =>
        obtain ⟨rfl, y, hU2⟩ := hcut
        have HU2 := Lib.hid hU2
        clear hU2
        go_wp2_with fail
        go_loopw [16, 11] (fun t s wr2 => ∃ z : Int, -1 ≤ z ∧ z ≤ 9 ∧ t = .int .i64 z ∧ s = .bool true ∧ II B w wr2 p r y y) (fun t _ _ => (9 - intOf t).toNat)
        case atStart => exact ⟨-1, by omega, by omega, rfl, rfl, HU2.out⟩
        case round =>
          obtain ⟨z, hz1, hz2, rfl, rfl, hU3⟩ := hrel
          have HU3 := Lib.hid hU3
          clear hU3
          by_cases c1 : z ≤ (h : Int)
          · by_cases c2 : z < 9
            · go_wp2_with (first | go_skip)
              refine (ii_pending HU3.out z).mono ?_
              rintro e w6 ⟨rfl, h6⟩
              have H6 := Lib.hid h6
              clear h6
              go_wp2_with fail
              refine (ii_rpending H6.out z).mono ?_
              rintro e w7 ⟨rfl, rfl⟩
              go_wp2_with (first | go_skip)
              go_roundw
              case rel => exact ⟨z + 1, by omega, by omega, rfl, by first | rfl | simp, H6.out⟩
              case measure => simp [intOf]; omega
            · have c2' : decide (z < 9) = false := by simp; omega
              clear c2
              go_wp2_with (first | go_skip)
              go_roundw
              case rel => exact ⟨k + 1, by omega, by go_num, _, HU3.out⟩
              case measure => simp [intOf]; omega
          · have c1' : decide (z ≤ (h : Int)) = false := by simp; omega
            clear c1
            go_wp2_with (first | go_skip)
            go_roundw
            case rel => exact ⟨k + 1, by omega, by go_num, _, HU3.out⟩
            case measure => simp [intOf]; omega
    · go_wp2_with fail
      refine (awake_any _).mono ?_
      rintro e w9 ⟨rfl, hf⟩
      go_wp2
      go_ret
      exact ⟨rfl, (HU.out.fr.trans hf (fun _ _ h => h)).below (fun _ h => h.elim) (Nat.le_refl _)⟩
end Go.Proofs.Ytnjddnmekcjhnaa
