/- vcpu.Ready and citadelref17.Ready. -/
import Derived.Test.YtjiolobkobpohaaD
import Derived.Deep.CutRange
import Derived.BigQuiet
namespace Go.Proofs.Ytjiolobkobpohaa
open Go.RowKit
theorem setU_same (x : V) (j m n : Nat) : (x.setU j m).setU j n = x.setU j n := V.ext3 (fun k => by simp only [V.setU, upd]; split <;> rfl) (fun _ => rfl) rfl
def V.armed (x : V) (now : Nat) : Bool := x.b 50 && decide (x.u 51 ≤ now)
def V.sip1 (x : V) (now : Nat) : Nat := if x.armed now then x.u 46 &&& 2 ||| 32 else x.u 46 &&& 2
def V.sip2 (x : V) (now : Nat) (ext : Bool) : Nat := if ext then x.sip1 now ||| 512 else x.sip1 now
def V.wakes (x : V) (now : Nat) (ext : Bool) : Bool := (x.i == 2) && (((x.sip2 now ext &&& (x.u 45 &&& 546) : Nat) : Int) != 0)
/-- What becomes of a virtual hart by the time and the board. -/
def V.ready (x : V) (now : Nat) (ext : Bool) : V := if x.wakes now ext then (x.ord.setU 46 (x.sip2 now ext)).setI 1 else x.ord.setU 46 (x.sip2 now ext)
theorem or_lt64 {a b : Nat} (ha : a < 18446744073709551616) (hb : b < 18446744073709551616) : a ||| b < 18446744073709551616 := Nat.or_lt_two_pow (n := 64) ha hb
theorem sip_and (a : Nat) : (a &&& 546) &&& (18446744073709551615 - 544) = a &&& 2 := by
  rw [Nat.and_assoc]; rfl
theorem sip_and2 (a : Nat) : (a &&& 546) &&& 2 = a &&& 2 := by
  rw [Nat.and_assoc]; rfl
theorem and_lt64 {a : Nat} (b : Nat) (ha : a < 18446744073709551616) : a &&& b < 18446744073709551616 := Nat.lt_of_le_of_lt Nat.and_le_left ha
set_option maxRecDepth 100000 in
set_option maxHeartbeats 4000000 in
theorem ready_any (x : V) (now : Nat) (ext : Bool) (w : World) (hx : x.Wf) :
    Calls Try.prog 15 #[.agg (arr 52 (cellAt x)), .int .u64 now, .bool ext] w fun e w' => e = .returned (.agg (arr 52 (cellAt (x.ready now ext)))) ∧ Fr (fun _ => False) w w' := by
  have hM := Mem.refl (fun _ => False) w
  obtain ⟨a, ha⟩ : ∃ a, x.u 46 &&& 546 = a := ⟨_, rfl⟩
  obtain ⟨s0, hs0⟩ : ∃ s, x.u 46 &&& 2 = s := ⟨_, rfl⟩
  obtain ⟨o1, ho1⟩ : ∃ s, s0 ||| 32 = s := ⟨_, rfl⟩
  obtain ⟨c1, hc1⟩ : ∃ c, x.armed now = c := ⟨_, rfl⟩
  obtain ⟨s1, hs1⟩ : ∃ s, x.sip1 now = s := ⟨_, rfl⟩
  obtain ⟨o2, ho2⟩ : ∃ s, s1 ||| 512 = s := ⟨_, rfl⟩
  obtain ⟨s2, hs2⟩ : ∃ s, x.sip2 now ext = s := ⟨_, rfl⟩
  obtain ⟨b45, hb45⟩ : ∃ s, x.u 45 &&& 546 = s := ⟨_, rfl⟩
  obtain ⟨m3, hm3⟩ : ∃ s, s2 &&& b45 = s := ⟨_, rfl⟩
  obtain ⟨c3, hc3⟩ : ∃ c, x.wakes now ext = c := ⟨_, rfl⟩
  have la : a < 18446744073709551616 := by rw [← ha]; exact and_lt64 _ (hx.u 46)
  have l0 : s0 < 18446744073709551616 := by rw [← hs0]; exact and_lt64 _ (hx.u 46)
  have lo1 : o1 < 18446744073709551616 := by rw [← ho1]; exact or_lt64 l0 (by omega)
  have h1 : (c1 = true → s1 = o1) ∧ (c1 = false → s1 = s0) := by
    rw [← hs1]; unfold V.sip1; rw [hc1, hs0, ho1]
    constructor <;> intro h <;> rw [h] <;> simp
  have l1 : s1 < 18446744073709551616 := by cases hc : c1 with | false => (rw [h1.2 hc]; exact l0) | true => (rw [h1.1 hc]; exact lo1)
  have lo2 : o2 < 18446744073709551616 := by rw [← ho2]; exact or_lt64 l1 (by omega)
  have h2 : (ext = true → s2 = o2) ∧ (ext = false → s2 = s1) := by
    rw [← hs2]; unfold V.sip2; rw [hs1, ho2]
    constructor <;> intro h <;> rw [h] <;> simp
  have l2 : s2 < 18446744073709551616 := by cases hc : ext with | false => (rw [h2.2 hc]; exact l1) | true => (rw [h2.1 hc]; exact lo2)
  have lb : b45 < 18446744073709551616 := by rw [← hb45]; exact and_lt64 _ (hx.u 45)
  have e0 : bits .andNot .u64 (a : Int) 544 = s0 := by
    have := u64_andNot_nat a 544 la (by omega)
    rw [← ha, sip_and, hs0, ha] at this
    exact this
  have e0r : bits .and .u64 (a : Int) 2 = s0 := by
    have := u64_and_nat a 2 la (by omega)
    rw [← ha, sip_and2, hs0, ha] at this
    exact this
  have e1 : bits .or .u64 (s0 : Int) 32 = o1 := by rw [← ho1]; exact u64_or_nat s0 32 l0 (by omega)
  have e2 : bits .or .u64 (s1 : Int) 512 = o2 := by rw [← ho2]; exact u64_or_nat s1 512 l1 (by omega)
  have e3 : bits .and .u64 (s2 : Int) b45 = m3 := by rw [← hm3]; exact u64_and_nat s2 b45 l2 lb
  have hw3 : c3 = ((x.i == 2) && ((m3 : Int) != 0)) := by rw [← hc3]; unfold V.wakes; rw [hs2, hb45, hm3]
  have hRt : c3 = true → x.ready now ext = (x.ord.setU 46 s2).setI 1 := by intro h; unfold V.ready; rw [hc3, hs2, h]; rfl
  have hRf : c3 = false → x.ready now ext = x.ord.setU 46 s2 := by intro h; unfold V.ready; rw [hc3, hs2, h]; rfl
  have HA := Lib.hid ha
  have HB := Lib.hid hb45
  have H1 := Lib.hid h1
  have H2 := Lib.hid h2
  have HW := Lib.hid hw3
  have HRt := Lib.hid hRt
  have HRf := Lib.hid hRf
  have HC := Lib.hid hc1
  clear ha hb45 h1 h2 hw3 hRt hRf hc1 hs0 ho1 hs1 ho2 hs2 hm3 hc3 la l0 lo1 l1 lo2 l2 lb
  have i1 : Hid (c1 = (x.b 50 && decide (x.u 51 ≤ now))) := by show c1 = _; rw [← HC.out]; rfl
  go_enter Try.func15, Try.ntmps15
  go_upto_region 3 with (first
    | (refine wpList_box_fn (gd_none rfl) 32 _ rfl 52 _ rfl hM ?_; clear hM; intro w1 g1 hg1 hl1 hM; dsimp only [List.nil_append, List.cons_append] at hM)
    | (refine wpList_alloc_fn (gd_none rfl) 32 rfl 52 _ Try.zero32 hM ?_; clear hM; intro w2 g2 hg2 hl2 hM; dsimp only [List.nil_append, List.cons_append] at hM)
    | (refine wpList_load_head (gd_none rfl) 30 _ rfl 0 g1 32 52 _ hM rfl 49 rfl _ Try.underlying30 rfl Try.info30 (by omega) ?_)
    | (refine wpList_store_h (gd_none rfl) 30 _ _ rfl 0 g1 32 _ hM rfl rfl _ rfl Try.info30 ?_; clear hM; intro ws hws hM; dsimp only [List.set_cons_zero, List.set_cons_succ] at hM; rw [withH_ord] at hM)
    | (go_at_call 30; refine (vorder_any _ _ hx).mono ?_; rintro e w' ⟨rfl, hf⟩; replace hM := hM.call hf)
    | (refine wpList_cell_fn (gd_none rfl) 22 _ rfl 0 g1 32 52 _ hM rfl 46 rfl _ Try.underlying22 rfl (by omega) (.int .u64 a) (congrArg (fun n : Nat => Value.int .u64 (n : Int)) HA.out) ?_)
    | (refine wpList_put_fn (gd_none rfl) 22 _ _ rfl 0 g1 32 52 _ hM rfl 46 rfl (.int .u64 (s0 : Nat)) rfl Try.info22 (by omega) rfl ?_; clear hM; intro wp hwp hM; dsimp only [List.set_cons_zero, List.set_cons_succ] at hM; simp only [upd_cellU _ _ _ (show kd 46 = .u from rfl)] at hM))
  try dsimp only [Act.put]
  go_cut [24] from 17 to 24 (fun v wc => v = .bool c1 ∧ Mem (fun _ => False) w wc [Ent.fn g1 32 52 (cellAt (x.ord.setU 46 s0)), Ent.fn g2 32 52 (cellAt (V.zero))])
  case first =>
    rcases hb : x.b 50 with _ | _
    · have HB5 := Lib.hid hb
      have i2 : c1 = false := by rw [i1.out, hb]; rfl
      clear hb
      go_wp2_with (first
        | go_skip
        | (refine wpList_cell_fn (gd_none rfl) 4 _ rfl 0 g1 32 52 _ hM rfl 50 rfl _ Try.underlying4 rfl (by omega) (.bool false) (congrArg Value.bool HB5.out) ?_))

      go_meet
      exact ⟨by rw [i2], hM⟩
    · have HB5 := Lib.hid hb
      have i2 : Hid (c1 = decide (x.u 51 ≤ now)) := by show c1 = _; rw [i1.out, hb]; rfl
      clear hb
      go_wp2_with (first
        | go_skip
        | (refine wpList_cell_fn (gd_none rfl) 4 _ rfl 0 g1 32 52 _ hM rfl 50 rfl _ Try.underlying4 rfl (by omega) (.bool true) (congrArg Value.bool HB5.out) ?_)
        | (refine wpList_cell_fn (gd_want rfl) 22 _ rfl 0 g1 32 52 _ hM rfl 51 rfl _ Try.underlying22 rfl (by omega) (.int .u64 (x.u 51 : Nat)) rfl ?_))

      go_meet
      exact ⟨by rw [i2.out], hM⟩
  case rest =>
    clear hM
    obtain ⟨rfl, hM⟩ := hcut
    go_upto_if 24 with fail
    go_cut [] from 25 to 30 (fun wc => Mem (fun _ => False) w wc [Ent.fn g1 32 52 (cellAt (x.ord.setU 46 s1)), Ent.fn g2 32 52 (cellAt (V.zero))])
    case first =>
      cases c1 with
      | false =>
        go_wp2_with fail
        go_meet
        have h := H1.out.2 (by first | rfl | trivial)
        rw [h]; exact hM
      | true =>
        go_wp2_with (first
          | go_skip
          | (refine wpList_cell_fn (gd_none rfl) 22 _ rfl 0 g1 32 52 _ hM rfl 46 rfl _ Try.underlying22 rfl (by omega) (.int .u64 (s0 : Nat)) rfl ?_)
          | (refine wpList_put_fn (gd_none rfl) 22 _ _ rfl 0 g1 32 52 _ hM rfl 46 rfl (.int .u64 (o1 : Nat)) rfl Try.info22 (by omega) rfl ?_; clear hM; intro wp hwp hM; dsimp only [List.set_cons_zero, List.set_cons_succ] at hM; simp only [upd_cellU _ _ _ (show kd 46 = .u from rfl)] at hM; rw [setU_same] at hM))

        go_meet
        have h := H1.out.1 (by first | rfl | trivial)
        rw [h]; exact hM
    case rest =>
      clear hM
      have hM := hcut
      clear hcut
      go_upto_if 31 with fail
      go_cut [] from 32 to 37 (fun wc => Mem (fun _ => False) w wc [Ent.fn g1 32 52 (cellAt (x.ord.setU 46 s2)), Ent.fn g2 32 52 (cellAt (V.zero))])
      case first =>
        cases ext with
        | false =>
          go_wp2_with fail
          go_meet
          have h := H2.out.2 (by first | rfl | trivial)
          rw [h]; exact hM
        | true =>
          go_wp2_with (first
            | go_skip
            | (refine wpList_cell_fn (gd_none rfl) 22 _ rfl 0 g1 32 52 _ hM rfl 46 rfl _ Try.underlying22 rfl (by omega) (.int .u64 (s1 : Nat)) rfl ?_)
            | (refine wpList_put_fn (gd_none rfl) 22 _ _ rfl 0 g1 32 52 _ hM rfl 46 rfl (.int .u64 (o2 : Nat)) rfl Try.info22 (by omega) rfl ?_; clear hM; intro wp hwp hM; dsimp only [List.set_cons_zero, List.set_cons_succ] at hM; simp only [upd_cellU _ _ _ (show kd 46 = .u from rfl)] at hM; rw [setU_same] at hM))

          go_meet
          have h := H2.out.1 (by first | rfl | trivial)
          rw [h]; exact hM
      case rest =>
        clear hM
        have hM := hcut
        clear hcut
        by_cases hi : x.i = 2
        · have hib : (x.i == 2) = true := by simpa using hi
          rcases hm : ((m3 : Int) != 0) with _ | _
          · have i3 : c3 = false := by rw [HW.out, hib, hm]; rfl
            have HR := Lib.hid (HRf.out i3)
            have HI := Lib.hid hi
            clear i3 hi hib
            go_wp2_with (first
              | go_skip
              | (refine wpList_cell_fn (gd_none rfl) 3 _ rfl 0 g1 32 52 _ hM rfl 49 rfl _ Try.underlying3 rfl (by omega) (.int .i64 2) (congrArg (Value.int .i64) HI.out) ?_)
              | (refine wpList_cell_fn (gd_want rfl) 22 _ rfl 0 g1 32 52 _ hM rfl 46 rfl _ Try.underlying22 rfl (by omega) (.int .u64 (s2 : Nat)) rfl ?_)
              | (refine wpList_cell_fn (gd_want rfl) 22 _ rfl 0 g1 32 52 _ hM rfl 45 rfl _ Try.underlying22 rfl (by omega) (.int .u64 (b45 : Nat)) (congrArg (fun n : Nat => Value.int .u64 (n : Int)) HB.out) ?_)
              | (refine wpList_load_all (gd_none rfl) 32 _ rfl 0 g1 32 52 _ hM rfl rfl _ Try.underlying32 rfl Try.info32 ?_)
              | (refine wpList_store_all (gd_none rfl) 32 _ _ rfl 1 g2 32 52 _ hM rfl rfl _ rfl Try.info32 (fun j _ => cell_one _ j) ?_; clear hM; intro ws hws hM; dsimp only [List.set_cons_zero, List.set_cons_succ] at hM))

            refine bodyPost_ret (ret_fn rfl _ 1 g2 52 _ hM rfl rfl _ Try.underlying32 rfl Try.info32) rfl ?_
            exact ⟨by rw [HR.out], hM.fr⟩
          · have i3 : c3 = true := by rw [HW.out, hib, hm]; rfl
            have HR := Lib.hid (HRt.out i3)
            have HI := Lib.hid hi
            clear i3 hi hib
            go_wp2_with (first
              | go_skip
              | (refine wpList_cell_fn (gd_none rfl) 3 _ rfl 0 g1 32 52 _ hM rfl 49 rfl _ Try.underlying3 rfl (by omega) (.int .i64 2) (congrArg (Value.int .i64) HI.out) ?_)
              | (refine wpList_cell_fn (gd_want rfl) 22 _ rfl 0 g1 32 52 _ hM rfl 46 rfl _ Try.underlying22 rfl (by omega) (.int .u64 (s2 : Nat)) rfl ?_)
              | (refine wpList_cell_fn (gd_want rfl) 22 _ rfl 0 g1 32 52 _ hM rfl 45 rfl _ Try.underlying22 rfl (by omega) (.int .u64 (b45 : Nat)) (congrArg (fun n : Nat => Value.int .u64 (n : Int)) HB.out) ?_)
              | (refine wpList_put_fn (gd_none rfl) 3 _ _ rfl 0 g1 32 52 _ hM rfl 49 rfl (.int .i64 1) rfl Try.info3 (by omega) rfl ?_; clear hM; intro wp hwp hM; dsimp only [List.set_cons_zero, List.set_cons_succ] at hM; simp only [upd_cellI _ _ _ (show kd 49 = .i from rfl)] at hM)
              | (refine wpList_load_all (gd_none rfl) 32 _ rfl 0 g1 32 52 _ hM rfl rfl _ Try.underlying32 rfl Try.info32 ?_)
              | (refine wpList_store_all (gd_none rfl) 32 _ _ rfl 1 g2 32 52 _ hM rfl rfl _ rfl Try.info32 (fun j _ => cell_one _ j) ?_; clear hM; intro ws hws hM; dsimp only [List.set_cons_zero, List.set_cons_succ] at hM))

            refine bodyPost_ret (ret_fn rfl _ 1 g2 52 _ hM rfl rfl _ Try.underlying32 rfl Try.info32) rfl ?_
            exact ⟨by rw [HR.out], hM.fr⟩
        · have hib : (x.i == 2) = false := by simpa using hi
          have i3 : c3 = false := by rw [HW.out, hib]; rfl
          have HR := Lib.hid (HRf.out i3)
          clear i3 hi
          go_wp2_with (first
            | go_skip
            | (refine wpList_cell_fn (gd_none rfl) 3 _ rfl 0 g1 32 52 _ hM rfl 49 rfl _ Try.underlying3 rfl (by omega) (.int .i64 x.i) rfl ?_)
            | (refine wpList_load_all (gd_none rfl) 32 _ rfl 0 g1 32 52 _ hM rfl rfl _ Try.underlying32 rfl Try.info32 ?_)
            | (refine wpList_store_all (gd_none rfl) 32 _ _ rfl 1 g2 32 52 _ hM rfl rfl _ rfl Try.info32 (fun j _ => cell_one _ j) ?_; clear hM; intro ws hws hM; dsimp only [List.set_cons_zero, List.set_cons_succ] at hM))

          refine bodyPost_ret (ret_fn rfl _ 1 g2 52 _ hM rfl rfl _ Try.underlying32 rfl Try.info32) rfl ?_
          exact ⟨by rw [HR.out], hM.fr⟩
set_option maxRecDepth 100000 in
set_option maxHeartbeats 4000000 in
theorem refReady_any (x : V) (now : Nat) (ext : Bool) (w : World) (hx : x.Wf) :
    Calls Try.prog 16 #[.agg (arr 52 (cellAt x)), .int .u64 now, .bool ext] w fun e w' => e = .returned (.agg (arr 52 (cellAt (x.ready now ext)))) ∧ Fr (fun _ => False) w w' := by
  have hM := Mem.refl (fun _ => False) w
  obtain ⟨a, ha⟩ : ∃ a, x.u 46 &&& 546 = a := ⟨_, rfl⟩
  obtain ⟨s0, hs0⟩ : ∃ s, x.u 46 &&& 2 = s := ⟨_, rfl⟩
  obtain ⟨o1, ho1⟩ : ∃ s, s0 ||| 32 = s := ⟨_, rfl⟩
  obtain ⟨c1, hc1⟩ : ∃ c, x.armed now = c := ⟨_, rfl⟩
  obtain ⟨s1, hs1⟩ : ∃ s, x.sip1 now = s := ⟨_, rfl⟩
  obtain ⟨o2, ho2⟩ : ∃ s, s1 ||| 512 = s := ⟨_, rfl⟩
  obtain ⟨s2, hs2⟩ : ∃ s, x.sip2 now ext = s := ⟨_, rfl⟩
  obtain ⟨b45, hb45⟩ : ∃ s, x.u 45 &&& 546 = s := ⟨_, rfl⟩
  obtain ⟨m3, hm3⟩ : ∃ s, s2 &&& b45 = s := ⟨_, rfl⟩
  obtain ⟨c3, hc3⟩ : ∃ c, x.wakes now ext = c := ⟨_, rfl⟩
  have la : a < 18446744073709551616 := by rw [← ha]; exact and_lt64 _ (hx.u 46)
  have l0 : s0 < 18446744073709551616 := by rw [← hs0]; exact and_lt64 _ (hx.u 46)
  have lo1 : o1 < 18446744073709551616 := by rw [← ho1]; exact or_lt64 l0 (by omega)
  have h1 : (c1 = true → s1 = o1) ∧ (c1 = false → s1 = s0) := by
    rw [← hs1]; unfold V.sip1; rw [hc1, hs0, ho1]
    constructor <;> intro h <;> rw [h] <;> simp
  have l1 : s1 < 18446744073709551616 := by cases hc : c1 with | false => (rw [h1.2 hc]; exact l0) | true => (rw [h1.1 hc]; exact lo1)
  have lo2 : o2 < 18446744073709551616 := by rw [← ho2]; exact or_lt64 l1 (by omega)
  have h2 : (ext = true → s2 = o2) ∧ (ext = false → s2 = s1) := by
    rw [← hs2]; unfold V.sip2; rw [hs1, ho2]
    constructor <;> intro h <;> rw [h] <;> simp
  have l2 : s2 < 18446744073709551616 := by cases hc : ext with | false => (rw [h2.2 hc]; exact l1) | true => (rw [h2.1 hc]; exact lo2)
  have lb : b45 < 18446744073709551616 := by rw [← hb45]; exact and_lt64 _ (hx.u 45)
  have e0 : bits .andNot .u64 (a : Int) 544 = s0 := by
    have := u64_andNot_nat a 544 la (by omega)
    rw [← ha, sip_and, hs0, ha] at this
    exact this
  have e0r : bits .and .u64 (a : Int) 2 = s0 := by
    have := u64_and_nat a 2 la (by omega)
    rw [← ha, sip_and2, hs0, ha] at this
    exact this
  have e1 : bits .or .u64 (s0 : Int) 32 = o1 := by rw [← ho1]; exact u64_or_nat s0 32 l0 (by omega)
  have e2 : bits .or .u64 (s1 : Int) 512 = o2 := by rw [← ho2]; exact u64_or_nat s1 512 l1 (by omega)
  have e3 : bits .and .u64 (s2 : Int) b45 = m3 := by rw [← hm3]; exact u64_and_nat s2 b45 l2 lb
  have hw3 : c3 = ((x.i == 2) && ((m3 : Int) != 0)) := by rw [← hc3]; unfold V.wakes; rw [hs2, hb45, hm3]
  have hRt : c3 = true → x.ready now ext = (x.ord.setU 46 s2).setI 1 := by intro h; unfold V.ready; rw [hc3, hs2, h]; rfl
  have hRf : c3 = false → x.ready now ext = x.ord.setU 46 s2 := by intro h; unfold V.ready; rw [hc3, hs2, h]; rfl
  have HA := Lib.hid ha
  have HB := Lib.hid hb45
  have H1 := Lib.hid h1
  have H2 := Lib.hid h2
  have HW := Lib.hid hw3
  have HRt := Lib.hid hRt
  have HRf := Lib.hid hRf
  have HC := Lib.hid hc1
  clear ha hb45 h1 h2 hw3 hRt hRf hc1 hs0 ho1 hs1 ho2 hs2 hm3 hc3 la l0 lo1 l1 lo2 l2 lb
  have i1 : Hid (c1 = (x.b 50 && decide (x.u 51 ≤ now))) := by show c1 = _; rw [← HC.out]; rfl
  go_enter Try.func16, Try.ntmps16
  go_upto_region 3 with (first
    | (refine wpList_box_fn (gd_none rfl) 32 _ rfl 52 _ rfl hM ?_; clear hM; intro w1 g1 hg1 hl1 hM; dsimp only [List.nil_append, List.cons_append] at hM)
    | (refine wpList_alloc_fn (gd_none rfl) 32 rfl 52 _ Try.zero32 hM ?_; clear hM; intro w2 g2 hg2 hl2 hM; dsimp only [List.nil_append, List.cons_append] at hM)
    | (refine wpList_load_all (gd_none rfl) 32 _ rfl 0 g1 32 52 _ hM rfl rfl _ Try.underlying32 rfl Try.info32 ?_)
    | (refine wpList_store_all (gd_none rfl) 32 _ _ rfl 0 g1 32 52 _ hM rfl rfl _ rfl Try.info32 (fun j _ => cell_one _ j) ?_; clear hM; intro ws hws hM; dsimp only [List.set_cons_zero, List.set_cons_succ] at hM)
    | (go_at_call 31; refine (rorder_any _ _ hx).mono ?_; rintro e w' ⟨rfl, hf⟩; replace hM := hM.call hf)
    | (refine wpList_cell_fn (gd_none rfl) 22 _ rfl 0 g1 32 52 _ hM rfl 46 rfl _ Try.underlying22 rfl (by omega) (.int .u64 a) (congrArg (fun n : Nat => Value.int .u64 (n : Int)) HA.out) ?_))
  try dsimp only [Act.put]
  go_cut [21] from 14 to 21 (fun v wc => v = .bool c1 ∧ Mem (fun _ => False) w wc [Ent.fn g1 32 52 (cellAt (x.ord)), Ent.fn g2 32 52 (cellAt V.zero)])
  case first =>
    rcases hb : x.b 50 with _ | _
    · have HB5 := Lib.hid hb
      have i2 : c1 = false := by rw [i1.out, hb]; rfl
      clear hb
      go_wp2_with (first
        | go_skip
        | (refine wpList_cell_fn (gd_none rfl) 4 _ rfl 0 g1 32 52 _ hM rfl 50 rfl _ Try.underlying4 rfl (by omega) (.bool false) (congrArg Value.bool HB5.out) ?_))

      go_meet
      exact ⟨by rw [i2], hM⟩
    · have HB5 := Lib.hid hb
      have i2 : Hid (c1 = decide (x.u 51 ≤ now)) := by show c1 = _; rw [i1.out, hb]; rfl
      clear hb
      go_wp2_with (first
        | go_skip
        | (refine wpList_cell_fn (gd_none rfl) 4 _ rfl 0 g1 32 52 _ hM rfl 50 rfl _ Try.underlying4 rfl (by omega) (.bool true) (congrArg Value.bool HB5.out) ?_)
        | (refine wpList_cell_fn (gd_want rfl) 22 _ rfl 0 g1 32 52 _ hM rfl 51 rfl _ Try.underlying22 rfl (by omega) (.int .u64 (x.u 51 : Nat)) rfl ?_))

      go_meet
      exact ⟨by rw [i2.out], hM⟩
  case rest =>
    clear hM
    obtain ⟨rfl, hM⟩ := hcut
    go_upto_if 21 with fail
    go_cut [7] from 22 to 23 (fun v wc => v = .int .u64 (s1 : Nat) ∧ Mem (fun _ => False) w wc [Ent.fn g1 32 52 (cellAt (x.ord)), Ent.fn g2 32 52 (cellAt V.zero)])
    case first =>
      cases c1 with
      | false =>
        go_wp2_with fail
        go_meet
        have h := H1.out.2 (by first | rfl | trivial)
        exact ⟨by rw [h], hM⟩
      | true =>
        go_wp2_with fail
        go_meet
        have h := H1.out.1 (by first | rfl | trivial)
        exact ⟨by rw [h], hM⟩
    case rest =>
      clear hM
      obtain ⟨rfl, hM⟩ := hcut
      go_upto_if 24 with fail
      go_cut [7] from 25 to 26 (fun v wc => v = .int .u64 (s2 : Nat) ∧ Mem (fun _ => False) w wc [Ent.fn g1 32 52 (cellAt (x.ord)), Ent.fn g2 32 52 (cellAt V.zero)])
      case first =>
        cases ext with
        | false =>
          go_wp2_with fail
          go_meet
          have h := H2.out.2 (by first | rfl | trivial)
          exact ⟨by rw [h], hM⟩
        | true =>
          go_wp2_with fail
          go_meet
          have h := H2.out.1 (by first | rfl | trivial)
          exact ⟨by rw [h], hM⟩
      case rest =>
        clear hM
        obtain ⟨rfl, hM⟩ := hcut
        by_cases hi : x.i = 2
        · have hib : (x.i == 2) = true := by simpa using hi
          rcases hm : ((m3 : Int) != 0) with _ | _
          · have i3 : c3 = false := by rw [HW.out, hib, hm]; rfl
            have HR := Lib.hid (HRf.out i3)
            have HI := Lib.hid hi
            clear i3 hi hib
            go_wp2_with (first
              | go_skip
              | (refine wpList_put_fn (gd_none rfl) 22 _ _ rfl 0 g1 32 52 _ hM rfl 46 rfl (.int .u64 (s2 : Nat)) rfl Try.info22 (by omega) rfl ?_; clear hM; intro wp hwp hM; dsimp only [List.set_cons_zero, List.set_cons_succ] at hM; simp only [upd_cellU _ _ _ (show kd 46 = .u from rfl)] at hM)
              | (refine wpList_cell_fn (gd_none rfl) 3 _ rfl 0 g1 32 52 _ hM rfl 49 rfl _ Try.underlying3 rfl (by omega) (.int .i64 2) (congrArg (Value.int .i64) HI.out) ?_)
              | (refine wpList_cell_fn (gd_want rfl) 22 _ rfl 0 g1 32 52 _ hM rfl 45 rfl _ Try.underlying22 rfl (by omega) (.int .u64 (b45 : Nat)) (congrArg (fun n : Nat => Value.int .u64 (n : Int)) HB.out) ?_)
              | (refine wpList_load_all (gd_none rfl) 32 _ rfl 0 g1 32 52 _ hM rfl rfl _ Try.underlying32 rfl Try.info32 ?_)
              | (refine wpList_store_all (gd_none rfl) 32 _ _ rfl 1 g2 32 52 _ hM rfl rfl _ rfl Try.info32 (fun j _ => cell_one _ j) ?_; clear hM; intro ws hws hM; dsimp only [List.set_cons_zero, List.set_cons_succ] at hM))

            refine bodyPost_ret (ret_fn rfl _ 1 g2 52 _ hM rfl rfl _ Try.underlying32 rfl Try.info32) rfl ?_
            exact ⟨by rw [HR.out], hM.fr⟩
          · have i3 : c3 = true := by rw [HW.out, hib, hm]; rfl
            have HR := Lib.hid (HRt.out i3)
            have HI := Lib.hid hi
            clear i3 hi hib
            go_wp2_with (first
              | go_skip
              | (refine wpList_put_fn (gd_none rfl) 22 _ _ rfl 0 g1 32 52 _ hM rfl 46 rfl (.int .u64 (s2 : Nat)) rfl Try.info22 (by omega) rfl ?_; clear hM; intro wp hwp hM; dsimp only [List.set_cons_zero, List.set_cons_succ] at hM; simp only [upd_cellU _ _ _ (show kd 46 = .u from rfl)] at hM)
              | (refine wpList_cell_fn (gd_none rfl) 3 _ rfl 0 g1 32 52 _ hM rfl 49 rfl _ Try.underlying3 rfl (by omega) (.int .i64 2) (congrArg (Value.int .i64) HI.out) ?_)
              | (refine wpList_cell_fn (gd_want rfl) 22 _ rfl 0 g1 32 52 _ hM rfl 45 rfl _ Try.underlying22 rfl (by omega) (.int .u64 (b45 : Nat)) (congrArg (fun n : Nat => Value.int .u64 (n : Int)) HB.out) ?_)
              | (refine wpList_put_fn (gd_none rfl) 3 _ _ rfl 0 g1 32 52 _ hM rfl 49 rfl (.int .i64 1) rfl Try.info3 (by omega) rfl ?_; clear hM; intro wp hwp hM; dsimp only [List.set_cons_zero, List.set_cons_succ] at hM; simp only [upd_cellI _ _ _ (show kd 49 = .i from rfl)] at hM)
              | (refine wpList_load_all (gd_none rfl) 32 _ rfl 0 g1 32 52 _ hM rfl rfl _ Try.underlying32 rfl Try.info32 ?_)
              | (refine wpList_store_all (gd_none rfl) 32 _ _ rfl 1 g2 32 52 _ hM rfl rfl _ rfl Try.info32 (fun j _ => cell_one _ j) ?_; clear hM; intro ws hws hM; dsimp only [List.set_cons_zero, List.set_cons_succ] at hM))

            refine bodyPost_ret (ret_fn rfl _ 1 g2 52 _ hM rfl rfl _ Try.underlying32 rfl Try.info32) rfl ?_
            exact ⟨by rw [HR.out], hM.fr⟩
        · have hib : (x.i == 2) = false := by simpa using hi
          have i3 : c3 = false := by rw [HW.out, hib]; rfl
          have HR := Lib.hid (HRf.out i3)
          clear i3 hi
          go_wp2_with (first
            | go_skip
            | (refine wpList_put_fn (gd_none rfl) 22 _ _ rfl 0 g1 32 52 _ hM rfl 46 rfl (.int .u64 (s2 : Nat)) rfl Try.info22 (by omega) rfl ?_; clear hM; intro wp hwp hM; dsimp only [List.set_cons_zero, List.set_cons_succ] at hM; simp only [upd_cellU _ _ _ (show kd 46 = .u from rfl)] at hM)
            | (refine wpList_cell_fn (gd_none rfl) 3 _ rfl 0 g1 32 52 _ hM rfl 49 rfl _ Try.underlying3 rfl (by omega) (.int .i64 x.i) rfl ?_)
            | (refine wpList_load_all (gd_none rfl) 32 _ rfl 0 g1 32 52 _ hM rfl rfl _ Try.underlying32 rfl Try.info32 ?_)
            | (refine wpList_store_all (gd_none rfl) 32 _ _ rfl 1 g2 32 52 _ hM rfl rfl _ rfl Try.info32 (fun j _ => cell_one _ j) ?_; clear hM; intro ws hws hM; dsimp only [List.set_cons_zero, List.set_cons_succ] at hM))

          refine bodyPost_ret (ret_fn rfl _ 1 g2 52 _ hM rfl rfl _ Try.underlying32 rfl Try.info32) rfl ?_
          exact ⟨by rw [HR.out], hM.fr⟩
end Go.Proofs.Ytjiolobkobpohaa
