/- VcpuTimers: the walk. -/
import Derived.Test.YtjiolobkobpohaaAD
import Derived.Deep.CutBlock
import Derived.Deep.CutRange
namespace Go.Proofs.Ytjiolobkobpohaa
open Go.RowKit Go.BigFrame

theorem fill1 (x : V) : Instr.fill (fun i => some (i * 52, 52)) ((Array.range (1 * 52)).map fun i => (Value.agg (arr 52 (cellAt V.zero))).cells[i % (Value.agg (arr 52 (cellAt V.zero))).cells.size]!) [(0, .agg (arr 52 (cellAt x)))] = some (arr 52 (cellAt x)) := by kernel_rfl
theorem run_build1 (x : V) (w : World) : (Instr.buildSlice 24 1 #[(0, .agg (arr 52 (cellAt x)))]).run Try.prog w = .ok (.slice (some ⟨w.heap.size, 0, none⟩) 1 1) (w.alloc (.cells (arr 52 (cellAt x)) 32)) := by
  obtain ⟨i0, hi, hz0, hz1, hz2⟩ := info_parts Try.row32
  have hz : (zeroValue 32).run Try.prog w = .ok (.agg (arr 52 (cellAt V.zero))) w := by simp [zeroValue, typeInfo, hi, hz0]
  have hf := fill1 x
  have hs : (sizeOf 32).run Try.prog w = .ok 52 w := by simp [sizeOf, typeInfo, hi, hz1]
  unfold Instr.buildSlice
  simp only [Sem.run_bind, run_underlying Try.underlying24, Result.andThen_ok, hs]
  rw [if_neg (by decide), if_neg (by decide)]
  simp only [Sem.run_bind, hz, Result.andThen_ok, Sem.run_pure, hf, newRow, run_newObj_alloc]
section
variable {ops : Array Oper} {rest : List Oper} {o : Oper} {a : Act} {w w0 : World} {Q : Exit → Act → World → Prop} {S : Nat → Prop} {L : List Ent}
theorem wpList_build1 (hgd : Gd ops o a) (p : Operand) (ho : o.op = .buildSlice 24 1 #[(0, p)]) (x : V) (hp : a.eval p = .agg (arr 52 (cellAt x))) (hM : Mem S w0 w L)
    (h : ∀ w' g, w.heap.size ≤ g → g < w'.heap.size → Mem S w0 w' (L ++ [.vs g 1 (fun _ => x)]) → wpList Try.prog ops Q rest (a.put o.dst (.slice (some ⟨g, 0, none⟩) 1 1)) w') : wpList Try.prog ops Q (o :: rest) a w := by
  refine wpList_want hgd fun K hK => ?_
  unfold Oper.wp execOp
  simp only [ho, List.map_toArray, List.map_cons, List.map_nil, hp, Sem.run_bind, Sem.run_pure, run_build1 x w, Result.andThen_ok]
  refine hK _ _ (h _ _ (Nat.le_refl _) (by simp) (hM.add ((Fr.refl _ _).alloc _) ?_ (Nat.le_refl _)))
  refine ⟨_, Has.new w 32 _, fun k j hk hj => ?_⟩
  obtain rfl : k = 0 := by omega
  rw [Nat.zero_mul, Nat.zero_add]
  exact arr_get _ _ _ hj
end

/-- A timer that is set. -/
structure Timed (x y : V) (at_ : Nat) : Prop where
  e10 : y.u 10 = 0
  s46 : y.u 46 &&& 32 = 0
  armed : ∀ now, y.armed now = decide (at_ ≤ now)
  st : y.i = x.i
  sie : y.u 45 = x.u 45 &&& 546
  wf : y.Wf
theorem and_gone (a b c : Nat) (h : b &&& c = 0) : (a &&& b) &&& c = 0 := by rw [Nat.and_assoc, h, Nat.and_zero]
theorem timed_is (x : V) (at_ : Nat) (hx : x.Wf) (h17 : x.u 17 = 1414090053) (h16 : x.u 16 = 0) (h10 : x.u 10 = at_) : Timed x (callL (fun _ => x) 1 (0 : Int) 0) at_ := by
  have hc : callL (fun _ => x) 1 (0 : Int) = finL (doR (callR (fun _ => x) 0) 1 (ordW (fun _ => x))) 0 (doL (callR (fun _ => x) 0) 0 1 (ordW (fun _ => x))) := by
    unfold callL; rw [if_pos (by omega)]; rfl
  have e17 : (callR (fun _ => x) 0).x 17 = 1414090053 := by rw [callR_x _ _ _ (by omega) (by omega), h17]
  have e16 : (callR (fun _ => x) 0).x 16 = 0 := by rw [callR_x _ _ _ (by omega) (by omega), h16]
  have e10 : (callR (fun _ => x) 0).x 10 = at_ := by rw [callR_x _ _ _ (by omega) (by omega), h10]
  have hR : doR (callR (fun _ => x) 0) 1 (ordW (fun _ => x)) = callR (fun _ => x) 0 := by
    unfold doR clockR
    rw [e17, e16, if_neg (by decide), if_pos rfl, if_pos rfl]
  have hL : doL (callR (fun _ => x) 0) 0 1 (ordW (fun _ => x)) 0 = x.ord.clock at_ := by
    unfold doL clockL
    rw [e17, e16, e10, if_pos rfl, if_pos rfl, upd_same]
    rfl
  rw [hc, hR, finL_at _ _ _ rfl, hL]
  have wo := ord_wf hx
  have la : at_ < 18446744073709551616 := by rw [← h10]; exact hx.u 10
  refine ⟨rfl, ?_, fun now => ?_, rfl, rfl, ?_⟩
  · rw [finV_u _ _ _ (by decide) (by decide) (by decide)]
    show (x.ord.u 46 &&& 18446744073709551583) &&& 32 = 0
    exact and_gone _ _ _ (by decide)
  · rfl
  · have w1 : (x.ord.clock at_).Wf := ((V.Wf.setU (x := x.ord.setB 50 true) ⟨wo.u, wo.i⟩ 51 _ la).setU 46 _ (Nat.lt_of_le_of_lt Nat.and_le_left (wo.u 46)))
    exact ((w1.setU 10 _ (by show (0 : Nat) < _; omega)).setU 11 _ (by show (0 : Nat) < _; omega)).setU 32 _ (Nat.mod_lt _ (by omega))

theorem bit5 (a : Nat) : (a ||| 32) &&& 32 = 32 := by
  rw [Nat.and_or_distrib_right]
  apply Nat.eq_of_testBit_eq
  intro j
  simp only [Nat.testBit_or, Nat.testBit_and]
  cases a.testBit j <;> cases (32 : Nat).testBit j <;> rfl
theorem bit5_ne {a : Nat} (h : a &&& 32 = 32) : a ≠ 0 := fun e => by rw [e] at h; simp at h
theorem ready_46 (q : V) (now : Nat) : (q.ready now false).u 46 = q.sip1 now := by
  unfold V.ready
  split <;> rfl
theorem ready_45 (q : V) (now : Nat) : (q.ready now false).u 45 = q.u 45 &&& 546 := by
  unfold V.ready
  split <;> rfl
theorem ready_sip (q : V) (now at_ : Nat) (ha : q.armed now = decide (at_ ≤ now)) : (q.ready now false).u 46 &&& 32 = if at_ ≤ now then 32 else 0 := by
  rw [ready_46]
  unfold V.sip1
  rw [ha]
  by_cases h : at_ ≤ now
  · rw [if_pos (by simpa using h), if_pos h]; exact bit5 _
  · rw [if_neg (by simpa using h), if_neg h]; exact and_gone _ _ _ (by decide)
theorem ready_wf {q : V} (h : q.Wf) (now : Nat) : (q.ready now false).Wf := by
  have wo := ord_wf h
  have hs : q.sip2 now false < 18446744073709551616 := by
    show q.sip1 now < _
    unfold V.sip1
    have h2 : q.u 46 &&& 2 < 18446744073709551616 := Nat.lt_of_le_of_lt Nat.and_le_left (h.u 46)
    split
    · exact or_lt64 h2 (by omega)
    · exact h2
  unfold V.ready
  split
  · exact ⟨(wo.setU 46 _ hs).u, rfl⟩
  · exact wo.setU 46 _ hs
/-- One that waits for a timer is brought up to the time. -/
structure Woken (z : V) (at_ now : Nat) : Prop where
  sip : z.u 46 &&& 32 = if at_ ≤ now then 32 else 0
  yes : at_ ≤ now → z.i = 1
  no : z.i = 1 → z.u 46 &&& z.u 45 ≠ 0
  st : z.i = 1 ∨ z.i = 2
theorem woken_is (q : V) (now at_ : Nat) (ha : q.armed now = decide (at_ ≤ now)) (hi : q.i = 2) (hs : q.u 45 &&& 32 = 32) : Woken (q.ready now false) at_ now := by
  refine ⟨ready_sip q now at_ ha, fun h => ?_, fun h => ?_, ?_⟩
  · unfold V.ready
    have hw : q.wakes now false = true := by
      unfold V.wakes
      rw [hi]
      simp only [beq_self_eq_true, Bool.true_and, bne_iff_ne, ne_eq]
      intro e
      have e2 : q.sip2 now false &&& (q.u 45 &&& 546) = 0 := by omega
      have e3 : (q.sip2 now false &&& (q.u 45 &&& 546)) &&& 32 = 32 := by
        show (q.sip1 now &&& (q.u 45 &&& 546)) &&& 32 = 32
        unfold V.sip1
        rw [ha, if_pos (by simpa using h), Nat.and_assoc, Nat.and_assoc, show (546 : Nat) &&& 32 = 32 from rfl, hs]
        exact bit5 _
      exact bit5_ne e3 e2
    rw [if_pos hw]; rfl
  · rw [ready_46, ready_45]
    unfold V.ready at h
    split at h
    · rename_i hw
      unfold V.wakes at hw
      simp only [Bool.and_eq_true, bne_iff_ne, ne_eq] at hw
      intro e
      apply hw.2
      have : q.sip2 now false &&& (q.u 45 &&& 546) = 0 := e
      rw [this]; rfl
    · rw [show (q.ord.setU 46 (q.sip2 now false)).i = q.i from rfl, hi] at h
      cases h
  · unfold V.ready
    split
    · exact .inl rfl
    · exact .inr hi
def tset (x : V) (a : Nat) : V := ((x.setU 17 1414090053).setU 16 0).setU 10 a
theorem tset_wf {x : V} (h : x.Wf) {a : Nat} (ha : a < 18446744073709551616) : (tset x a).Wf := ((h.setU 17 _ (by omega)).setU 16 _ (by omega)).setU 10 _ ha
def CutF (w : World) (s : Value) (wc : World) : Prop := w = wc ∧ s = .bool false

set_option maxRecDepth 100000 in
set_option maxHeartbeats 8000000 in
theorem timers_walk (v : V) (at_ now again : Nat) (w : World) (hv : v.Wf) (la : at_ < 18446744073709551616) (_ln : now < 18446744073709551616) (lg : again < 18446744073709551616) :
    Calls Try.prog 10 #[.agg (arr 52 (cellAt v)), .int .u64 at_, .int .u64 now, .int .u64 again] w fun e w' => e = .returned (.bool true) ∧ Below w.heap.size w w' := by
  have hM := Mem.refl (fun _ => False) w
  obtain ⟨e5, he5⟩ : ∃ e5, v.u 45 ||| 32 = e5 := ⟨_, rfl⟩
  have l5 : e5 < 18446744073709551616 := by rw [← he5]; exact or_lt64 (hv.u 45) (by omega)
  have eo : bits .or .u64 (v.u 45 : Int) 32 = (e5 : Int) := by rw [← he5]; exact u64_or_nat _ 32 (hv.u 45) (by omega)
  obtain ⟨x1, hx1⟩ : ∃ x1, ((tset v at_).setU 45 e5).setI 1 = x1 := ⟨_, rfl⟩
  have wx1 : x1.Wf := by rw [← hx1]; exact wf_setI ((tset_wf hv la).setU 45 _ l5) 1 rfl
  have hT := Lib.hid (timed_is x1 at_ wx1 (by rw [← hx1]; rfl) (by rw [← hx1]; rfl) (by rw [← hx1]; rfl))
  have h45 : x1.u 45 = e5 := by rw [← hx1]; rfl
  have hst : x1.i = 1 := by rw [← hx1]; rfl
  have hb5 : e5 &&& 32 = 32 := by rw [← he5]; exact bit5 _
  obtain ⟨Y, hY⟩ : ∃ Y, callL (fun _ => x1) 1 (0 : Int) = Y := ⟨_, rfl⟩
  obtain ⟨bs, hbs⟩ : ∃ Y, callB (fun _ => x1) 1 (0 : Int) = Y := ⟨_, rfl⟩
  obtain ⟨dn, hdn⟩ : ∃ Y, callD (fun _ => x1) 1 (0 : Int) = Y := ⟨_, rfl⟩
  have C1 := fun w hR => call_any (some ⟨w.heap.size - 1, 0, none⟩) 1 1 (fun _ => x1) 0 w (fun h => by cases h) hR (by omega) (fun _ _ => wx1)
  clear C1
  have C1 := fun g w hR => call_any (some ⟨g, 0, none⟩) 1 1 (fun _ => x1) 0 w (fun h => by cases h) hR (by omega) (fun _ _ => wx1)
  rw [hY, hbs, hdn] at C1
  rw [hY] at hT
  obtain ⟨y, hy⟩ : ∃ y, Y 0 = y := ⟨_, rfl⟩
  rw [hy] at hT
  have hq : y.wait = y.setI 2 := by unfold V.wait; rw [if_pos (by rw [hT.out.st, hst])]
  obtain ⟨q, hqq⟩ : ∃ q, y.wait = q := ⟨_, rfl⟩
  rw [hqq] at hq
  have qi : q.i = 2 := by rw [hq]; rfl
  have wq0 : q.Wf := by rw [hq]; exact wf_setI hT.out.wf 2 rfl
  obtain ⟨z, hz⟩ : ∃ z, q.ready now false = z := ⟨_, rfl⟩
  have wz : z.Wf := by rw [← hz]; exact ready_wf wq0 now
  have hWk := Lib.hid (hz ▸ woken_is q now at_ (by rw [hq]; exact hT.out.armed now) qi (by rw [hq]; show y.u 45 &&& 32 = 32; rw [hT.out.sie, h45, Nat.and_assoc, show (546 : Nat) &&& 32 = 32 from rfl, hb5]) : Woken z at_ now)
  have hX1 := Lib.hid hx1
  have C1 := Lib.hid C1
  have HYy : Hid (cellAt (Y 0) = cellAt y) := by show _ = _; rw [hy]
  have HQ := Lib.hid hqq
  have HZ := Lib.hid hz
  have WQ := Lib.hid wq0
  have WZ := Lib.hid wz
  have QI : Hid (cellAt q 49 = .int .i64 2) := by show _ = _; rw [← qi]; rfl
  obtain ⟨s, hs⟩ : ∃ s, y.u 46 = s := ⟨_, rfl⟩
  have es : bits .and .u64 (s : Int) 32 = 0 := by
    have := u64_and_nat s 32 (by rw [← hs]; exact hT.out.wf.u 46) (by omega)
    rw [← hs, hT.out.s46] at this
    rw [← hs]; exact this
  have Y10 : Hid (cellAt (Y 0) 10 = .int .u64 ((0 : Nat) : Int)) := by show _ = _; rw [hy, ← hT.out.e10]; rfl
  have Y46 : Hid (cellAt (Y 0) 46 = .int .u64 (s : Int)) := by show _ = _; rw [hy, ← hs]; rfl
  obtain ⟨p, hp⟩ : ∃ p, z.u 46 = p := ⟨_, rfl⟩
  obtain ⟨r, hr⟩ : ∃ r, z.u 45 = r := ⟨_, rfl⟩
  obtain ⟨si, hsi⟩ : ∃ si, z.i = si := ⟨_, rfl⟩
  have Z46 : Hid (cellAt z 46 = .int .u64 (p : Int)) := by show _ = _; rw [← hp]; rfl
  have Z45 : Hid (cellAt z 45 = .int .u64 (r : Int)) := by show _ = _; rw [← hr]; rfl
  have Z49 : Hid (cellAt z 49 = .int .i64 si) := by show _ = _; rw [← hsi]; rfl
  have ep : bits .and .u64 (p : Int) 32 = ((if at_ ≤ now then 32 else 0 : Nat) : Int) := by
    rw [← hp, ← hWk.out.sip]
    exact u64_and_nat _ 32 (wz.u 46) (by omega)
  obtain ⟨pr, hpr⟩ : ∃ pr, p &&& r = pr := ⟨_, rfl⟩
  have epr : bits .and .u64 (p : Int) (r : Int) = (pr : Int) := by
    rw [← hpr, ← hp, ← hr]
    exact u64_and_nat _ _ (wz.u 46) (wz.u 45)
  have Syes : Hid (at_ ≤ now → si = 1) := by show at_ ≤ now → si = 1; rw [← hsi]; exact hWk.out.yes
  have Sno : Hid (si = 1 → pr ≠ 0) := by show si = 1 → pr ≠ 0; rw [← hsi, ← hpr, ← hp, ← hr]; exact hWk.out.no
  have Sst : Hid (si = 1 ∨ si = 2) := by show si = 1 ∨ si = 2; rw [← hsi]; exact hWk.out.st
  have EP := Lib.hid ep
  -- the second call
  obtain ⟨x2, hx2⟩ : ∃ x2, tset z again = x2 := ⟨_, rfl⟩
  have wx2 : x2.Wf := by rw [← hx2]; exact tset_wf wz lg
  have hT2 := Lib.hid (timed_is x2 again wx2 (by rw [← hx2]; rfl) (by rw [← hx2]; rfl) (by rw [← hx2]; rfl))
  obtain ⟨Y2, hY2⟩ : ∃ Y, callL (fun _ => x2) 1 (0 : Int) = Y := ⟨_, rfl⟩
  obtain ⟨bs2, hbs2⟩ : ∃ Y, callB (fun _ => x2) 1 (0 : Int) = Y := ⟨_, rfl⟩
  obtain ⟨dn2, hdn2⟩ : ∃ Y, callD (fun _ => x2) 1 (0 : Int) = Y := ⟨_, rfl⟩
  have C2 := fun g w hR => call_any (some ⟨g, 0, none⟩) 1 1 (fun _ => x2) 0 w (fun h => by cases h) hR (by omega) (fun _ _ => wx2)
  rw [hY2, hbs2, hdn2] at C2
  rw [hY2] at hT2
  obtain ⟨y2, hy2⟩ : ∃ y, Y2 0 = y := ⟨_, rfl⟩
  rw [hy2] at hT2
  have HYy2 : Hid (cellAt (Y2 0) = cellAt y2) := by show _ = _; rw [hy2]
  obtain ⟨z2, hz2⟩ : ∃ z, y2.ready now false = z := ⟨_, rfl⟩
  have hs2 := ready_sip y2 now again (hT2.out.armed now)
  rw [hz2] at hs2
  have wz2 : z2.Wf := by rw [← hz2]; exact ready_wf hT2.out.wf now
  obtain ⟨p2, hp2⟩ : ∃ p, z2.u 46 = p := ⟨_, rfl⟩
  have Z2 : Hid (cellAt z2 46 = .int .u64 (p2 : Int)) := by show _ = _; rw [← hp2]; rfl
  have ep2 : bits .and .u64 (p2 : Int) 32 = ((if again ≤ now then 32 else 0 : Nat) : Int) := by
    rw [← hp2, ← hs2]
    exact u64_and_nat _ 32 (wz2.u 46) (by omega)
  have EP2 := Lib.hid ep2
  have WY2 := Lib.hid hT2.out.wf
  have HZ2 := Lib.hid hz2
  have HX2 := Lib.hid hx2
  have C2 := Lib.hid C2
  have H46 : Hid (cellAt v 45 = .int .u64 (v.u 45 : Int)) := rfl
  clear hv la lg he5 l5 hx1 wx1 hT h45 hst hb5 hY hbs hdn hy hq hqq qi wq0 hz wz hWk hs hp hr hsi ep hpr hx2 wx2 hT2 hY2 hbs2 hdn2 hy2 hz2 hs2 wz2 hp2 ep2
  go_enter Try.func10, Try.ntmps10
  go_upto_region 6 with (first | (refine wpList_box_fn (gd_none rfl) 32 _ rfl 52 _ rfl hM ?_; clear hM; intro w4 g4 hg4 hl4 hM; dsimp only [List.nil_append, List.cons_append] at hM) | (refine wpList_put_fn (gd_none rfl) 22 _ _ rfl 0 g4 32 52 _ hM rfl 17 rfl (.int .u64 (1414090053 : Nat)) rfl Try.info22 (by omega) rfl ?_; clear hM; intro wp hwp hM; dsimp only [List.set_cons_zero, List.set_cons_succ] at hM; simp only [upd_cellU _ _ _ (show kd 17 = .u from rfl)] at hM) | (refine wpList_put_fn (gd_none rfl) 22 _ _ rfl 0 g4 32 52 _ hM rfl 16 rfl (.int .u64 (0 : Nat)) rfl Try.info22 (by omega) rfl ?_; clear hM; intro wp hwp hM; dsimp only [List.set_cons_zero, List.set_cons_succ] at hM; simp only [upd_cellU _ _ _ (show kd 16 = .u from rfl)] at hM) | (refine wpList_put_fn (gd_none rfl) 22 _ _ rfl 0 g4 32 52 _ hM rfl 10 rfl (.int .u64 (at_ : Nat)) rfl Try.info22 (by omega) rfl ?_; clear hM; intro wp hwp hM; dsimp only [List.set_cons_zero, List.set_cons_succ] at hM; simp only [upd_cellU _ _ _ (show kd 10 = .u from rfl)] at hM) | (refine wpList_cell_fn (gd_none rfl) 22 _ rfl 0 g4 32 52 _ hM rfl 45 rfl _ Try.underlying22 rfl (by omega) (.int .u64 (v.u 45 : Nat)) (rfl) ?_) | (refine wpList_put_fn (gd_none rfl) 22 _ _ rfl 0 g4 32 52 _ hM rfl 45 rfl (.int .u64 (e5 : Nat)) rfl Try.info22 (by omega) rfl ?_; clear hM; intro wp hwp hM; dsimp only [List.set_cons_zero, List.set_cons_succ] at hM; simp only [upd_cellU _ _ _ (show kd 45 = .u from rfl)] at hM) | (refine wpList_put_fn (gd_none rfl) 3 _ _ rfl 0 g4 32 52 _ hM rfl 49 rfl (.int .i64 1) rfl Try.info3 (by omega) rfl ?_; clear hM; intro wp hwp hM; dsimp only [List.set_cons_zero, List.set_cons_succ] at hM; simp only [upd_cellI _ _ _ (show kd 49 = .i from rfl)] at hM))
  rw [show ((((((v.setU 17 1414090053).setU 16 0).setU 10 at_).setU 45 e5).setI 1)) = x1 from hX1.out] at hM
  go_wp2_with (first | go_skip | (refine wpList_load_all (gd_none rfl) 32 _ rfl 0 g4 32 52 _ hM rfl rfl _ Try.underlying32 rfl Try.info32 ?_) | (refine wpList_build1 (gd_none rfl) _ rfl x1 rfl hM ?_; clear hM; intro wB gs hgs hls hM; dsimp only [List.nil_append, List.cons_append] at hM))
  refine (C1.out gs _ (fun _ => ⟨gs, 0, rfl, hM.rd 1 rfl⟩)).mono ?_
  intro e wc1 hpC
  obtain ⟨vC, oC, rfl, hVC, _, hFC⟩ := hpC.open
  obtain ⟨AC, cC, rfl, _, _, _, hgC⟩ := hVC
  obtain ⟨gy, rfl, hgy, hokC⟩ := hgC (by omega)
  have hM5 := (hM.call hFC).addNew hokC (by
    intro y' hy'
    have h5 : y'.g < wB.heap.size := Ent.ok_lt (hM.ok y' hy')
    simp only [Ent.g] at h5 ⊢; omega) (by have := hM.fr.size; simp only [Ent.g]; omega)
  have hM6 := Lib.hid (hM5.weak (L' := [Ent.vs gy 1 Y]) (List.sublist_append_right [Ent.fn g4 32 52 (cellAt x1), Ent.vs gs 1 (fun _ => x1)] [Ent.vs gy 1 Y]))
  clear hM hpC hFC hgC hokC hM5
  have hM := hM6.out
  clear hM6
  have h01 : 0 < 1 := by omega
  go_upto_region 9 with (first | go_skip | (refine wpList_cell_vs (gd_want rfl) 22 _ rfl 0 gy 1 Y hM rfl 0 10 _ rfl (by first | rfl | omega) h01 (by omega) _ Try.underlying22 rfl (.int .u64 (0 : Nat)) (Y10.out) ?_) | (refine wpList_cell_vs (gd_want rfl) 22 _ rfl 0 gy 1 Y hM rfl 0 46 _ rfl (by first | rfl | omega) h01 (by omega) _ Try.underlying22 rfl (.int .u64 (s : Nat)) (Y46.out) ?_))
  go_upto_region 10 with (first | (refine wpList_load_vs (gd_none rfl) 32 _ rfl 0 gy 1 Y hM rfl 0 _ 52 rfl (by first | rfl | omega) h01 (by omega) _ Try.underlying32 rfl Try.info32 ?_; rw [HYy.out]) | (go_at_call 17; refine (wait_any y _).mono ?_; rintro e w' ⟨rfl, hf⟩; rw [HQ.out]; replace hM := hM.call hf) | (refine wpList_alloc_fn (gd_none rfl) 32 rfl 52 _ Try.zero32 hM ?_; clear hM; intro wq gq hgq hlq hM; dsimp only [List.nil_append, List.cons_append] at hM) | (refine wpList_store_all (gd_none rfl) 32 _ _ rfl 1 gq 32 52 _ hM rfl rfl _ rfl Try.info32 (fun j _ => cell_one _ j) ?_; clear hM; intro ws hws hM; dsimp only [List.set_cons_zero, List.set_cons_succ] at hM))
  go_upto_region 11 with (first | (refine wpList_load_all (gd_none rfl) 32 _ rfl 1 gq 32 52 _ hM rfl rfl _ Try.underlying32 rfl Try.info32 ?_) | (go_at_call 15; refine (ready_any q now false _ WQ.out).mono ?_; rintro e w' ⟨rfl, hf⟩; rw [HZ.out]; replace hM := hM.call hf) | (refine wpList_alloc_fn (gd_none rfl) 32 rfl 52 _ Try.zero32 hM ?_; clear hM; intro wz gz hgz hlz hM; dsimp only [List.nil_append, List.cons_append] at hM) | (refine wpList_store_all (gd_none rfl) 32 _ _ rfl 2 gz 32 52 _ hM rfl rfl _ rfl Try.info32 (fun j _ => cell_one _ j) ?_; clear hM; intro ws hws hM; dsimp only [List.set_cons_zero, List.set_cons_succ] at hM))
  simp only [Act.put, List.setIfInBounds_toArray, List.set_cons_zero, List.set_cons_succ]
  go_cut [80] from 67 to 79 (fun s wc => CutF ws s wc)
  case first =>
    by_cases hle : at_ ≤ now
    · have hle' : decide (at_ ≤ now) = true := by simpa using hle
      have e32 : bits .and .u64 (p : Int) 32 = 32 := by rw [EP.out, if_pos hle]; rfl
      clear hle
      go_wp2_with (first | go_skip | (refine wpList_cell_fn (gd_want rfl) 3 _ rfl 1 gq 32 52 _ hM rfl 49 rfl _ Try.underlying3 rfl (by omega) (.int .i64 2) (QI.out) ?_) | (refine wpList_cell_fn (gd_want rfl) 22 _ rfl 2 gz 32 52 _ hM rfl 46 rfl _ Try.underlying22 rfl (by omega) (.int .u64 (p : Nat)) (Z46.out) ?_))
      go_meet
      exact ⟨rfl, by first | rfl | simp⟩
    · have hle' : decide (at_ ≤ now) = false := by simpa using hle
      have e32 : bits .and .u64 (p : Int) 32 = 0 := by rw [EP.out, if_neg hle]; rfl
      clear hle
      go_wp2_with (first | go_skip | (refine wpList_cell_fn (gd_want rfl) 3 _ rfl 1 gq 32 52 _ hM rfl 49 rfl _ Try.underlying3 rfl (by omega) (.int .i64 2) (QI.out) ?_) | (refine wpList_cell_fn (gd_want rfl) 22 _ rfl 2 gz 32 52 _ hM rfl 46 rfl _ Try.underlying22 rfl (by omega) (.int .u64 (p : Nat)) (Z46.out) ?_))
      go_meet
      exact ⟨rfl, by first | rfl | simp⟩
  case rest =>
  obtain ⟨rfl, rfl⟩ := hcut
  go_upto_region 13 with fail
  go_cut [108] from 81 to 107 (fun s wc => CutF ws s wc)
  case first =>
    by_cases hle : at_ ≤ now
    · have hle' : decide (at_ ≤ now) = true := by simpa using hle
      have hlt' : decide (now < at_) = false := by simp; omega
      have hsi := Syes.out hle
      subst hsi
      clear hle
      go_wp2_with (first | go_skip | (refine wpList_cell_fn (gd_want rfl) 3 _ rfl 2 gz 32 52 _ hM rfl 49 rfl _ Try.underlying3 rfl (by omega) (.int .i64 1) (Z49.out) ?_) | (refine wpList_cell_fn (gd_want rfl) 22 _ rfl 2 gz 32 52 _ hM rfl 46 rfl _ Try.underlying22 rfl (by omega) (.int .u64 (p : Nat)) (Z46.out) ?_) | (refine wpList_cell_fn (gd_want rfl) 22 _ rfl 2 gz 32 52 _ hM rfl 45 rfl _ Try.underlying22 rfl (by omega) (.int .u64 (r : Nat)) (Z45.out) ?_))
      go_meet
      exact ⟨rfl, by first | rfl | simp⟩
    · have hle' : decide (at_ ≤ now) = false := by simpa using hle
      have hlt' : decide (now < at_) = true := by simp; omega
      clear hle
      rcases Sst.out with hsi | hsi
      · have hpr := Sno.out hsi
        have hpr' : ((pr : Int) == 0) = false := by simp; omega
        subst hsi
        clear hpr
        go_wp2_with (first | go_skip | (refine wpList_cell_fn (gd_want rfl) 3 _ rfl 2 gz 32 52 _ hM rfl 49 rfl _ Try.underlying3 rfl (by omega) (.int .i64 1) (Z49.out) ?_) | (refine wpList_cell_fn (gd_want rfl) 22 _ rfl 2 gz 32 52 _ hM rfl 46 rfl _ Try.underlying22 rfl (by omega) (.int .u64 (p : Nat)) (Z46.out) ?_) | (refine wpList_cell_fn (gd_want rfl) 22 _ rfl 2 gz 32 52 _ hM rfl 45 rfl _ Try.underlying22 rfl (by omega) (.int .u64 (r : Nat)) (Z45.out) ?_))
        go_meet
        exact ⟨rfl, by first | rfl | simp⟩
      · subst hsi
        go_wp2_with (first | go_skip | (refine wpList_cell_fn (gd_want rfl) 3 _ rfl 2 gz 32 52 _ hM rfl 49 rfl _ Try.underlying3 rfl (by omega) (.int .i64 2) (Z49.out) ?_) | (refine wpList_cell_fn (gd_want rfl) 22 _ rfl 2 gz 32 52 _ hM rfl 46 rfl _ Try.underlying22 rfl (by omega) (.int .u64 (p : Nat)) (Z46.out) ?_) | (refine wpList_cell_fn (gd_want rfl) 22 _ rfl 2 gz 32 52 _ hM rfl 45 rfl _ Try.underlying22 rfl (by omega) (.int .u64 (r : Nat)) (Z45.out) ?_))
        go_meet
        exact ⟨rfl, by first | rfl | simp⟩
  case rest =>
  obtain ⟨rfl, rfl⟩ := hcut
  go_upto_region 18 with (first | (refine wpList_put_fn (gd_none rfl) 22 _ _ rfl 2 gz 32 52 _ hM rfl 17 rfl (.int .u64 (1414090053 : Nat)) rfl Try.info22 (by omega) rfl ?_; clear hM; intro wp hwp hM; dsimp only [List.set_cons_zero, List.set_cons_succ] at hM; simp only [upd_cellU _ _ _ (show kd 17 = .u from rfl)] at hM) | (refine wpList_put_fn (gd_none rfl) 22 _ _ rfl 2 gz 32 52 _ hM rfl 16 rfl (.int .u64 (0 : Nat)) rfl Try.info22 (by omega) rfl ?_; clear hM; intro wp hwp hM; dsimp only [List.set_cons_zero, List.set_cons_succ] at hM; simp only [upd_cellU _ _ _ (show kd 16 = .u from rfl)] at hM) | (refine wpList_put_fn (gd_none rfl) 22 _ _ rfl 2 gz 32 52 _ hM rfl 10 rfl (.int .u64 (again : Nat)) rfl Try.info22 (by omega) rfl ?_; clear hM; intro wp hwp hM; dsimp only [List.set_cons_zero, List.set_cons_succ] at hM; simp only [upd_cellU _ _ _ (show kd 10 = .u from rfl)] at hM))
  rw [show (((z.setU 17 1414090053).setU 16 0).setU 10 again) = x2 from HX2.out] at hM
  go_wp2_with (first | go_skip | (refine wpList_load_all (gd_none rfl) 32 _ rfl 2 gz 32 52 _ hM rfl rfl _ Try.underlying32 rfl Try.info32 ?_) | (refine wpList_build1 (gd_none rfl) _ rfl x2 rfl hM ?_; clear hM; intro wB2 gs2 hgs2 hls hM; dsimp only [List.nil_append, List.cons_append] at hM))
  refine (C2.out gs2 _ (fun _ => ⟨gs2, 0, rfl, hM.rd 3 rfl⟩)).mono ?_
  intro e wc2 hpC
  obtain ⟨vC, oC, rfl, hVC, _, hFC⟩ := hpC.open
  obtain ⟨AC, cC, rfl, _, _, _, hgC⟩ := hVC
  obtain ⟨gy2, rfl, hgy, hokC⟩ := hgC (by omega)
  have hM5 := (hM.call hFC).addNew hokC (by
    intro y' hy'
    have h5 : y'.g < wB2.heap.size := Ent.ok_lt (hM.ok y' hy')
    simp only [Ent.g] at h5 ⊢; omega) (by have := hM.fr.size; simp only [Ent.g]; omega)
  have hM6 := Lib.hid (hM5.weak (L' := [Ent.vs gy2 1 Y2]) (List.sublist_append_right [Ent.vs gy 1 Y, Ent.fn gq 32 52 (cellAt q), Ent.fn gz 32 52 (cellAt x2), Ent.vs gs2 1 (fun _ => x2)] [Ent.vs gy2 1 Y2]))
  clear hM hpC hFC hgC hokC hM5
  have hM := hM6.out
  clear hM6
  go_upto_region 20 with (first | (refine wpList_load_vs (gd_none rfl) 32 _ rfl 0 gy2 1 Y2 hM rfl 0 _ 52 rfl (by first | rfl | omega) h01 (by omega) _ Try.underlying32 rfl Try.info32 ?_; rw [HYy2.out]) | (go_at_call 15; refine (ready_any y2 now false _ WY2.out).mono ?_; rintro e w' ⟨rfl, hf⟩; rw [HZ2.out]; replace hM := hM.call hf) | (refine wpList_alloc_fn (gd_none rfl) 32 rfl 52 _ Try.zero32 hM ?_; clear hM; intro wz2 gz2 hgz2 hlz2 hM; dsimp only [List.nil_append, List.cons_append] at hM) | (refine wpList_store_all (gd_none rfl) 32 _ _ rfl 1 gz2 32 52 _ hM rfl rfl _ rfl Try.info32 (fun j _ => cell_one _ j) ?_; clear hM; intro ws hws hM; dsimp only [List.set_cons_zero, List.set_cons_succ] at hM))
  by_cases hle : again ≤ now
  · have hle' : decide (again ≤ now) = true := by simpa using hle
    have e32 : bits .and .u64 (p2 : Int) 32 = 32 := by rw [EP2.out, if_pos hle]; rfl
    clear hle
    go_wp2_with (first | go_skip | (refine wpList_cell_fn (gd_none rfl) 22 _ rfl 1 gz2 32 52 _ hM rfl 46 rfl _ Try.underlying22 rfl (by omega) (.int .u64 (p2 : Nat)) (Z2.out) ?_) | (go_at_call 14; refine (awake_any _).mono ?_; rintro e w9 ⟨rfl, hF⟩; have HF9 := Lib.hid (fr_below (hM.fr.trans hF (fun _ _ h => h))); clear hF))
    go_ret
    exact ⟨rfl, HF9.out⟩
  · have hle' : decide (again ≤ now) = false := by simpa using hle
    have e32 : bits .and .u64 (p2 : Int) 32 = 0 := by rw [EP2.out, if_neg hle]; rfl
    clear hle
    go_wp2_with (first | go_skip | (refine wpList_cell_fn (gd_none rfl) 22 _ rfl 1 gz2 32 52 _ hM rfl 46 rfl _ Try.underlying22 rfl (by omega) (.int .u64 (p2 : Nat)) (Z2.out) ?_) | (go_at_call 14; refine (awake_any _).mono ?_; rintro e w9 ⟨rfl, hF⟩; have HF9 := Lib.hid (fr_below (hM.fr.trans hF (fun _ _ h => h))); clear hF))
    go_ret
    exact ⟨rfl, HF9.out⟩
end Go.Proofs.Ytjiolobkobpohaa
