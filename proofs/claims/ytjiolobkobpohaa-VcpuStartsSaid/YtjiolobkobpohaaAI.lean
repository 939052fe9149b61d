/- VcpuStarts: the walk. -/
import Derived.Test.YtjiolobkobpohaaAE
import Derived.Test.YtjiolobkobpohaaAH
namespace Go.Proofs.Ytjiolobkobpohaa
open Go.RowKit Go.BigFrame

def q5 (x : V) (a pc b : Nat) : V := ((((x.setU 17 4739917).setU 16 0).setU 10 a).setU 11 pc).setU 12 b
def q3 (x : V) (f a : Nat) : V := ((x.setU 17 4739917).setU 16 f).setU 10 a
def q2 (x : V) : V := (x.setU 17 4739917).setU 16 1
def qw (x : V) (a : Nat) : V := (x.setU 16 2).setU 10 a
theorem upd_wf {L : Nat → V} {n i : Nat} {x : V} (h : ∀ k, k < n → (L k).Wf) (hx : x.Wf) (k : Nat) (hk : k < n) : (upd L i x k).Wf := by
  unfold upd
  split
  · exact hx
  · exact h k hk
theorem wp_gen {P : Program} {c : Code} {Q : Exit → Act → World → Prop} {a : Act} {w : World} (R : World → Prop) (h : R w) (k : ∀ w', R w' → Code.wp P c Q a w') : Code.wp P c Q a w := k w h
/-- What stands at a round's head: the guest's harts, of which t stands still. -/
structure StInv (L : Nat → V) (n t q : Nat) : Prop where
  wf : ∀ k, k < n → (L k).Wf
  st : (L t).i = 0
  u17 : q = 0 ∨ (L 0).u 17 = 4739917
def StRel (n t : Nat) (w : World) (r lv : Value) (wr : World) : Prop :=
  ∃ q : Nat, q ≤ 2 ∧ r = .int .i64 q ∧ ∃ (gl c : Nat) (L : Nat → V), lv = .slice (some ⟨gl, 0, none⟩) n c ∧ Mem (fun _ => False) w wr [.vs gl n L] ∧ StInv L n t q
set_option maxRecDepth 100000 in
set_option maxHeartbeats 20000000 in
theorem starts_walk (harts target : Int) (pc give : Nat) (w : World) (lp : pc < 18446744073709551616) (lg : give < 18446744073709551616) :
    Calls Try.prog 8 #[.int .i64 harts, .int .i64 target, .int .u64 pc, .int .u64 give] w fun e w' => e = .returned (.bool true) ∧ Below w.heap.size w w' := by
  have LP := Lib.hid lp
  have LG := Lib.hid lg
  go_enter Try.func8, Try.ntmps8
  go_wp2_with fail
  refine (place_nat harts 6 _ (by omega) (by omega)).mono ?_
  rintro e w' ⟨m, hm, rfl, rfl⟩
  obtain ⟨n, hn⟩ : ∃ n : Nat, 2 + m = n := ⟨_, rfl⟩
  have en : (2 + (m : Int)) = (n : Int) := by omega
  obtain ⟨n1, hn1⟩ : ∃ n1 : Nat, n = n1 + 1 := ⟨n - 1, by omega⟩
  have en1 : ((n : Int) - 1) = (n1 : Int) := by omega
  have hn2 : 2 ≤ n := by omega
  have hn7 : n ≤ 7 := by omega
  have hN1 : 0 < n1 := by omega
  have hN7 : n1 ≤ 1000 := by omega
  have hnn : (n : Int) ≤ 7 := by omega
  have hnn2 : (2 : Int) ≤ n := by omega
  clear hn hm
  have HN1 := Lib.hid hn1
  clear hn1
  go_wp2_with fail
  refine (place_nat target n1 _ hN1 hN7).mono ?_
  rintro e w' ⟨m2, hm2, rfl, rfl⟩
  obtain ⟨t, ht⟩ : ∃ t : Nat, 1 + m2 = t := ⟨_, rfl⟩
  have et : (1 + (m2 : Int)) = (t : Int) := by omega
  have htn : t < n := by have := HN1.out; omega
  have ht0 : t ≠ 0 := by omega
  have h0n : 0 < n := by omega
  have ekt : IntKind.u64.wrap (t : Int) = t := by rw [IntKind.wrap_u64]; omega
  have ekn : IntKind.u64.wrap (n : Int) = n := by rw [IntKind.wrap_u64]; omega
  have HT0 := Lib.hid ht0
  clear ht hm2 ht0
  have hN : Hid (beginN n = n) := by show beginN n = n; unfold beginN; rw [if_pos (by omega)]; simp
  go_wp2_with fail
  refine (begin_any n 2147483648 w (by omega)).mono ?_
  rintro e w1 ⟨v, rfl, hV, hF⟩
  rw [hN.out] at hV
  obtain ⟨A1, c1, rfl, _, _, _, hg⟩ := hV
  obtain ⟨gv, rfl, hgv, hok⟩ := hg h0n
  have hM := Mem.start hF hgv hok
  have hbt : StInv (beginL 2147483648) n t 0 := ⟨fun k _ => beginL_wf _ k (by omega), by unfold beginL; rw [if_neg HT0.out]; rfl, .inl rfl⟩
  have HBT := Lib.hid hbt
  clear hF hok hg hbt lp lg
  go_wp2_with fail
  go_loopw [12, 11] (fun r lv wr => StRel n t w r lv wr) (fun r _ _ => 2 - (intOf r).toNat)
  case atStart => exact ⟨0, by omega, rfl, gv, c1, _, rfl, hM, HBT.out⟩
  case round =>
    clear hM HBT
    obtain ⟨q, hq, rfl, gl, cl, L, rfl, hM, hI⟩ := hrel
    have HI := Lib.hid hI
    clear hI
    by_cases hq2 : q < 2
    · have hq2' : (q : Int) < 2 := by omega
      obtain ⟨x, hx⟩ : ∃ x, L 0 = x := ⟨_, rfl⟩
      have HMp := Lib.hid hM
      have c17 : wr.cell? ⟨gl, 17, none⟩ = some (.int .u64 ((L 0).u 17 : Int)) := Mem.cellV hM 0 rfl 0 17 h0n (by omega)
      have f17 : wr.frozen? ⟨gl, 17, none⟩ = false := Mem.frozenV hM 0 rfl _
      have c16 : wr.cell? ⟨gl, 16, none⟩ = some (.int .u64 ((L 0).u 16 : Int)) := Mem.cellV hM 0 rfl 0 16 h0n (by omega)
      have f16 : wr.frozen? ⟨gl, 16, none⟩ = false := Mem.frozenV hM 0 rfl _
      have c10 : wr.cell? ⟨gl, 10, none⟩ = some (.int .u64 ((L 0).u 10 : Int)) := Mem.cellV hM 0 rfl 0 10 h0n (by omega)
      have f10 : wr.frozen? ⟨gl, 10, none⟩ = false := Mem.frozenV hM 0 rfl _
      have c11 : wr.cell? ⟨gl, 11, none⟩ = some (.int .u64 ((L 0).u 11 : Int)) := Mem.cellV hM 0 rfl 0 11 h0n (by omega)
      have f11 : wr.frozen? ⟨gl, 11, none⟩ = false := Mem.frozenV hM 0 rfl _
      have c12 : wr.cell? ⟨gl, 12, none⟩ = some (.int .u64 ((L 0).u 12 : Int)) := Mem.cellV hM 0 rfl 0 12 h0n (by omega)
      have f12 : wr.frozen? ⟨gl, 12, none⟩ = false := Mem.frozenV hM 0 rfl _
      have z0 : Hid (upd (cellAt (L 0)) 17 (.int .u64 ((4739917 : Nat) : Int)) = cellAt (x.setU 17 4739917)) := by show _ = _; rw [hx]; exact upd_cellU _ _ _ rfl
      have z1 : Hid (upd (cellAt (upd L 0 (x.setU 17 4739917) 0)) 16 (.int .u64 ((0 : Nat) : Int)) = cellAt ((x.setU 17 4739917).setU 16 0)) := by show _ = _; rw [upd_same]; exact upd_cellU _ _ _ rfl
      have z2 : Hid (upd (cellAt (upd L 0 ((x.setU 17 4739917).setU 16 0) 0)) 10 (.int .u64 ((t : Nat) : Int)) = cellAt (((x.setU 17 4739917).setU 16 0).setU 10 t)) := by show _ = _; rw [upd_same]; exact upd_cellU _ _ _ rfl
      have z3 : Hid (upd (cellAt (upd L 0 (((x.setU 17 4739917).setU 16 0).setU 10 t) 0)) 11 (.int .u64 ((pc : Nat) : Int)) = cellAt ((((x.setU 17 4739917).setU 16 0).setU 10 t).setU 11 pc)) := by show _ = _; rw [upd_same]; exact upd_cellU _ _ _ rfl
      have z4 : Hid (upd (cellAt (upd L 0 ((((x.setU 17 4739917).setU 16 0).setU 10 t).setU 11 pc) 0)) 12 (.int .u64 ((give : Nat) : Int)) = cellAt (q5 x t pc give)) := by show _ = _; rw [upd_same]; exact upd_cellU _ _ _ rfl
      clear hM
      have WX : Hid (∀ k, k < n → (upd L 0 (q5 x t pc give) k).Wf) := by
        show ∀ k, k < n → _
        have h := HI.out.wf 0 h0n
        rw [hx] at h
        exact upd_wf HI.out.wf (((((h.setU 17 _ (by omega)).setU 16 _ (by omega)).setU 10 _ (by omega)).setU 11 _ LP.out).setU 12 _ LG.out)
      clear hx
      go_upto_region 14 with fail
      have m0 := Mem.putV (HMp.out) 0 rfl 0 17 h0n (by omega) (.int .u64 ((4739917 : Nat) : Int)) (x.setU 17 4739917) z0.out
      simp only [List.set_cons_zero] at m0
      have m1 := Mem.putV (m0) 0 rfl 0 16 h0n (by omega) (.int .u64 ((0 : Nat) : Int)) ((x.setU 17 4739917).setU 16 0) z1.out
      simp only [List.set_cons_zero, updV_twice] at m1
      have m2 := Mem.putV (m1) 0 rfl 0 10 h0n (by omega) (.int .u64 ((t : Nat) : Int)) (((x.setU 17 4739917).setU 16 0).setU 10 t) z2.out
      simp only [List.set_cons_zero, updV_twice] at m2
      have m3 := Mem.putV (m2) 0 rfl 0 11 h0n (by omega) (.int .u64 ((pc : Nat) : Int)) ((((x.setU 17 4739917).setU 16 0).setU 10 t).setU 11 pc) z3.out
      simp only [List.set_cons_zero, updV_twice] at m3
      have m4 := Mem.putV (m3) 0 rfl 0 12 h0n (by omega) (.int .u64 ((give : Nat) : Int)) (q5 x t pc give) z4.out
      simp only [List.set_cons_zero, updV_twice] at m4
      refine wp_gen (fun w' => Mem (fun _ => False) w w' [.vs gl n (upd L 0 (q5 x t pc give))]) m4 ?_
      clear c17 f17 c16 f16 c10 f10 c11 f11 c12 f12 z0 m0 z1 m1 z2 m2 z3 m3 z4 m4 HMp
      intro wp hM
      obtain ⟨L1, hL1⟩ : ∃ L1, upd L 0 (q5 x t pc give) = L1 := ⟨_, rfl⟩
      have hst : (L1 t).i = 0 := by rw [← hL1, upd_ne _ _ _ _ HT0.out]; exact HI.out.st
      have hL0 : L1 0 = q5 x t pc give := by rw [← hL1, upd_same]
      rw [hL1] at hM WX
      have WL := WX
      have S1 := Lib.hid (st_start (l := L1) (n := n) (i := 0) (a := t) h0n (by rw [hL0]; rfl) (by rw [hL0]; rfl) (by rw [hL0]; rfl) htn HT0.out hst)
      have AT1 : Hid (callL L1 n ((0 : Nat) : Int) t = startV ((q5 x t pc give).u 11) t ((q5 x t pc give).u 12)) := by show _ = _; rw [S1.out.at_, hL0]
      have WX1 := Lib.hid (st_wf (l := L1) (n := n) (i := 0) h0n (by rw [hL0]; rfl) WL.out)
      obtain ⟨X1, hX1⟩ : ∃ X, callL L1 n ((0 : Nat) : Int) = X := ⟨_, rfl⟩
      rw [hX1] at S1 WX1 AT1
      have HX1 := Lib.hid hX1
      clear hL1 hst hL0 hX1 WX
      have hRR : SlR wp (some ⟨gl, 0, none⟩) n L1 := fun _ => ⟨gl, 0, rfl, hM.rd 0 rfl⟩
      have HRR := Lib.hid hRR
      have HMc := Lib.hid hM
      clear hRR hM
      go_wp2_with fail
      refine (call_any _ n cl L1 ((0 : Nat) : Int) wp (fun h => by cases h) HRR.out (by omega) WL.out).mono ?_
      intro e wc hpC
      obtain ⟨vC, oC, rfl, hVC, _, hFC⟩ := hpC.open
      obtain ⟨AC, cCg1, rfl, _, _, _, hgC⟩ := hVC
      obtain ⟨g1, rfl, hgy, hokC⟩ := hgC h0n
      have hM5 := (HMc.out.call hFC).addNew hokC (by
        intro y' hy'
        have h5 : y'.g < wp.heap.size := Ent.ok_lt (HMc.out.ok y' hy')
        simp only [Ent.g] at h5 ⊢; omega) (by have := HMc.out.fr.size; simp only [Ent.g]; omega)
      have HM5 := Lib.hid hM5
      clear hpC hFC hgC hokC hM5 HRR HMc
      have hM := HM5.out
      clear HM5
      rw [HX1.out] at hM
      have hM5 := hM.weak (L' := [Ent.vs g1 n X1]) (List.sublist_cons_self _ _)
      clear hM
      have hM := hM5
      clear hM5
      obtain ⟨pc2, hpc2⟩ : ∃ p, pc / 2 * 2 = p := ⟨_, rfl⟩
      obtain ⟨pch, hpch⟩ : ∃ p, pc / 2 = p := ⟨_, rfl⟩
      have lpp := LP.out
      have ep1 : IntKind.u64.wrap ((pc : Int) / 2) = (pch : Int) := by rw [IntKind.wrap_u64]; omega
      have epc : IntKind.u64.wrap ((pch : Int) * 2) = (pc2 : Int) := by rw [IntKind.wrap_u64]; omega
      clear hpch lpp
      have y10 : Hid (cellAt (X1 0) 10 = .int .u64 ((0 : Nat) : Int)) := by show _ = _; exact congrArg (fun n : Nat => Value.int .u64 (n : Int)) S1.out.e10
      have at_ := AT1.out
      have y49 : Hid (cellAt (X1 t) 49 = .int .i64 1) := by show _ = _; rw [at_]; rfl
      have y32 : Hid (cellAt (X1 t) 32 = .int .u64 (pc2 : Int)) := by show _ = _; rw [at_, ← hpc2]; rfl
      have yt10 : Hid (cellAt (X1 t) 10 = .int .u64 (t : Int)) := by show _ = _; rw [at_]; rfl
      have yt11 : Hid (cellAt (X1 t) 11 = .int .u64 (give : Int)) := by show _ = _; rw [at_]; rfl
      have yt50 : Hid (cellAt (X1 t) 50 = .bool false) := by show _ = _; rw [at_]; rfl
      obtain ⟨sv, hsv⟩ : ∃ sv, startV ((q5 x t pc give).u 11) t ((q5 x t pc give).u 12) = sv := ⟨_, rfl⟩
      have svi : sv.i = 1 := by rw [← hsv]; rfl
      have svo : sv.ord = sv := by rw [← hsv]; exact startV_ord _ _ _
      have sv32 : sv.u 32 = pc2 := by rw [← hsv, ← hpc2]; rfl
      have hat : X1 t = sv := by rw [at_, hsv]
      have HAT := Lib.hid hat
      have SVI := Lib.hid svi
      have SVO := Lib.hid svo
      have SV32 := Lib.hid sv32
      clear at_ hsv svi svo sv32 hat hpc2 S1 AT1 HX1 WL
      have k1 : wc.cell? ⟨g1, 10, none⟩ = some (.int .u64 (0 : Nat)) := (Mem.cellV hM 0 rfl 0 10 h0n (by omega)).trans (congrArg some y10.out)
      have k2 : wc.cell? ⟨g1, t * 52 + 49, none⟩ = some (.int .i64 1) := (Mem.cellV hM 0 rfl t 49 htn (by omega)).trans (congrArg some y49.out)
      have k3 : wc.cell? ⟨g1, t * 52 + 32, none⟩ = some (.int .u64 (pc2 : Nat)) := (Mem.cellV hM 0 rfl t 32 htn (by omega)).trans (congrArg some y32.out)
      have k4 : wc.cell? ⟨g1, t * 52 + 10, none⟩ = some (.int .u64 (t : Nat)) := (Mem.cellV hM 0 rfl t 10 htn (by omega)).trans (congrArg some yt10.out)
      have k5 : wc.cell? ⟨g1, t * 52 + 11, none⟩ = some (.int .u64 (give : Nat)) := (Mem.cellV hM 0 rfl t 11 htn (by omega)).trans (congrArg some yt11.out)
      have k6 : wc.cell? ⟨g1, t * 52 + 50, none⟩ = some (.bool false) := (Mem.cellV hM 0 rfl t 50 htn (by omega)).trans (congrArg some yt50.out)
      have HMr := Lib.hid hM
      clear hM
      go_upto_region 17 with (first | go_skip)
      have hM := HMr.out
      clear k1 k2 k3 k4 k5 k6 HMr
      clear y10 y49 y32 yt10 yt11 yt50 epc ep1
      obtain ⟨x1, hx⟩ : ∃ x, X1 0 = x := ⟨_, rfl⟩
      have HMp := Lib.hid hM
      have c17 : wc.cell? ⟨g1, 17, none⟩ = some (.int .u64 ((X1 0).u 17 : Int)) := Mem.cellV hM 0 rfl 0 17 h0n (by omega)
      have f17 : wc.frozen? ⟨g1, 17, none⟩ = false := Mem.frozenV hM 0 rfl _
      have c16 : wc.cell? ⟨g1, 16, none⟩ = some (.int .u64 ((X1 0).u 16 : Int)) := Mem.cellV hM 0 rfl 0 16 h0n (by omega)
      have f16 : wc.frozen? ⟨g1, 16, none⟩ = false := Mem.frozenV hM 0 rfl _
      have c10 : wc.cell? ⟨g1, 10, none⟩ = some (.int .u64 ((X1 0).u 10 : Int)) := Mem.cellV hM 0 rfl 0 10 h0n (by omega)
      have f10 : wc.frozen? ⟨g1, 10, none⟩ = false := Mem.frozenV hM 0 rfl _
      have z0 : Hid (upd (cellAt (X1 0)) 17 (.int .u64 ((4739917 : Nat) : Int)) = cellAt (x1.setU 17 4739917)) := by show _ = _; rw [hx]; exact upd_cellU _ _ _ rfl
      have z1 : Hid (upd (cellAt (upd X1 0 (x1.setU 17 4739917) 0)) 16 (.int .u64 ((0 : Nat) : Int)) = cellAt ((x1.setU 17 4739917).setU 16 0)) := by show _ = _; rw [upd_same]; exact upd_cellU _ _ _ rfl
      have z2 : Hid (upd (cellAt (upd X1 0 ((x1.setU 17 4739917).setU 16 0) 0)) 10 (.int .u64 ((t : Nat) : Int)) = cellAt (q3 x1 0 t)) := by show _ = _; rw [upd_same]; exact upd_cellU _ _ _ rfl
      clear hM
      have WX : Hid (∀ k, k < n → (upd X1 0 (q3 x1 0 t) k).Wf) := by
        show ∀ k, k < n → _
        have h := WX1.out 0 h0n
        rw [hx] at h
        exact upd_wf WX1.out (((h.setU 17 _ (by omega)).setU 16 _ (by omega)).setU 10 _ (by omega))
      clear hx
      go_upto_region 20 with fail
      have m0 := Mem.putV (HMp.out) 0 rfl 0 17 h0n (by omega) (.int .u64 ((4739917 : Nat) : Int)) (x1.setU 17 4739917) z0.out
      simp only [List.set_cons_zero] at m0
      have m1 := Mem.putV (m0) 0 rfl 0 16 h0n (by omega) (.int .u64 ((0 : Nat) : Int)) ((x1.setU 17 4739917).setU 16 0) z1.out
      simp only [List.set_cons_zero, updV_twice] at m1
      have m2 := Mem.putV (m1) 0 rfl 0 10 h0n (by omega) (.int .u64 ((t : Nat) : Int)) (q3 x1 0 t) z2.out
      simp only [List.set_cons_zero, updV_twice] at m2
      refine wp_gen (fun w' => Mem (fun _ => False) w w' [.vs g1 n (upd X1 0 (q3 x1 0 t))]) m2 ?_
      clear c17 f17 c16 f16 c10 f10 z0 m0 z1 m1 z2 m2 HMp
      intro wp hM
      obtain ⟨L2, hL2⟩ : ∃ L1, upd X1 0 (q3 x1 0 t) = L1 := ⟨_, rfl⟩
      have hat2 : L2 t = sv := by rw [← hL2, upd_ne _ _ _ _ HT0.out]; exact HAT.out
      have hL0 : L2 0 = q3 x1 0 t := by rw [← hL2, upd_same]
      rw [hL2] at hM WX
      have WL := WX
      have S2 := Lib.hid (st_already (l := L2) (n := n) (i := 0) (a := t) h0n (by rw [hL0]; rfl) (by rw [hL0]; rfl) (by rw [hL0]; rfl) htn HT0.out (by rw [hat2, SVI.out]; decide))
      have WX2 := Lib.hid (st_wf (l := L2) (n := n) (i := 0) h0n (by rw [hL0]; rfl) WL.out)
      obtain ⟨X2, hX2⟩ : ∃ X, callL L2 n ((0 : Nat) : Int) = X := ⟨_, rfl⟩
      rw [hX2] at S2 WX2
      have HX2 := Lib.hid hX2
      have HAT2 := Lib.hid hat2
      clear hL2 hL0 hX2 WX hat2 HAT WX1
      have hRR : SlR wp (some ⟨g1, 0, none⟩) n L2 := fun _ => ⟨g1, 0, rfl, hM.rd 0 rfl⟩
      have HRR := Lib.hid hRR
      have HMc := Lib.hid hM
      clear hRR hM
      go_wp2_with fail
      refine (call_any _ n cCg1 L2 ((0 : Nat) : Int) wp (fun h => by cases h) HRR.out (by omega) WL.out).mono ?_
      intro e wc hpC
      obtain ⟨vC, oC, rfl, hVC, _, hFC⟩ := hpC.open
      obtain ⟨AC, cCg2, rfl, _, _, _, hgC⟩ := hVC
      obtain ⟨g2, rfl, hgy, hokC⟩ := hgC h0n
      have hM5 := (HMc.out.call hFC).addNew hokC (by
        intro y' hy'
        have h5 : y'.g < wp.heap.size := Ent.ok_lt (HMc.out.ok y' hy')
        simp only [Ent.g] at h5 ⊢; omega) (by have := HMc.out.fr.size; simp only [Ent.g]; omega)
      have HM5 := Lib.hid hM5
      clear hpC hFC hgC hokC hM5 HRR HMc
      have hM := HM5.out
      clear HM5
      rw [HX2.out] at hM
      have y10 : Hid (cellAt (X2 0) 10 = .int .u64 ((18446744073709551610 : Nat) : Int)) := by show _ = _; exact congrArg (fun n : Nat => Value.int .u64 (n : Int)) S2.out.e10
      have hat3 : X2 t = sv := by rw [S2.out.at_, HAT2.out, SVO.out]
      have E2 : Hid (cellAt (X2 t) = cellAt sv) := by show _ = _; rw [hat3]
      have E1 : Hid (cellAt (L2 t) = cellAt sv) := by show _ = _; rw [HAT2.out]
      have HAT3 := Lib.hid hat3
      have SS : Hid ((!(sameV sv sv)) = false) := by show _ = _; rw [sameV_self]; rfl
      clear hat3 S2 HX2 WL
      go_upto_region 21 with fail
      try dsimp only [Act.put]
      refine wp_region_quiet (C := fun w' => Mem (fun _ => False) w w' ([.vs g1 n L2, .vs g2 n X2])) (by kernel_rfl) (by kernel_rfl) (hM).drew ?_
      dsimp only
      repeat (first
        | go_big_quiet_skip
        | (refine wpQuiet_cell_vs (gd_want rfl) 22 _ rfl 1 g2 n X2 rfl 0 10 _ rfl (by first | rfl | omega) h0n (by omega) _ Try.underlying22 rfl (.int .u64 (18446744073709551610 : Nat)) (y10.out) ?_; simp only [Act.put, List.setIfInBounds_toArray, List.set_cons_zero, List.set_cons_succ])
        | (refine wpQuiet_load_vs (gd_want rfl) 32 _ rfl 1 g2 n X2 rfl t _ 52 rfl (by first | rfl | omega) htn (by omega) _ Try.underlying32 rfl Try.info32 ?_; rw [E2.out]; simp only [Act.put, List.setIfInBounds_toArray, List.set_cons_zero, List.set_cons_succ])
        | (refine wpQuiet_load_vs (gd_want rfl) 32 _ rfl 0 g1 n L2 rfl t _ 52 rfl (by first | rfl | omega) htn (by omega) _ Try.underlying32 rfl Try.info32 ?_; rw [E1.out]; simp only [Act.put, List.setIfInBounds_toArray, List.set_cons_zero, List.set_cons_succ])
        | (refine wpQuiet_neq_v (gd_want rfl) _ _ _ rfl sv sv rfl rfl false SS.out ?_; simp only [Act.put, List.setIfInBounds_toArray, List.set_cons_zero, List.set_cons_succ])
        | (refine wpQuiet_pure (v := ?_) (gd_want rfl) ?_ ?_; rotate_left; (focus (intro w'; go_simp; try with_reducible rfl)); simp only [Act.put, List.setIfInBounds_toArray, List.set_cons_zero, List.set_cons_succ]))
      refine wpQuiet_nil ?_
      intro wq hMq
      clear hM
      have hM5 := hMq.weak (L' := [Ent.vs g2 n X2]) (List.sublist_cons_self _ _)
      clear hMq y10 E1 E2 SS HAT2
      have hM := hM5
      clear hM5
      go_upto_region 23 with fail
      obtain ⟨x2, hx⟩ : ∃ x, X2 t = x := ⟨_, rfl⟩
      have HMp := Lib.hid hM
      have c17 : wq.cell? ⟨g2, t * 52 + 17, none⟩ = some (.int .u64 ((X2 t).u 17 : Int)) := Mem.cellV hM 0 rfl t 17 htn (by omega)
      have f17 : wq.frozen? ⟨g2, t * 52 + 17, none⟩ = false := Mem.frozenV hM 0 rfl _
      have c16 : wq.cell? ⟨g2, t * 52 + 16, none⟩ = some (.int .u64 ((X2 t).u 16 : Int)) := Mem.cellV hM 0 rfl t 16 htn (by omega)
      have f16 : wq.frozen? ⟨g2, t * 52 + 16, none⟩ = false := Mem.frozenV hM 0 rfl _
      have z0 : Hid (upd (cellAt (X2 t)) 17 (.int .u64 ((4739917 : Nat) : Int)) = cellAt (x2.setU 17 4739917)) := by show _ = _; rw [hx]; exact upd_cellU _ _ _ rfl
      have z1 : Hid (upd (cellAt (upd X2 t (x2.setU 17 4739917) t)) 16 (.int .u64 ((1 : Nat) : Int)) = cellAt (q2 x2)) := by show _ = _; rw [upd_same]; exact upd_cellU _ _ _ rfl
      clear hM
      have WX : Hid (∀ k, k < n → (upd X2 t (q2 x2) k).Wf) := by
        show ∀ k, k < n → _
        have h := WX2.out t htn
        rw [hx] at h
        exact upd_wf WX2.out ((h.setU 17 _ (by omega)).setU 16 _ (by omega))
      have hx2s : x2 = sv := by rw [← hx]; exact HAT3.out
      have HX2S := Lib.hid hx2s
      clear hx hx2s
      go_upto_region 25 with fail
      have m0 := Mem.putV (HMp.out) 0 rfl t 17 htn (by omega) (.int .u64 ((4739917 : Nat) : Int)) (x2.setU 17 4739917) z0.out
      simp only [List.set_cons_zero] at m0
      have m1 := Mem.putV (m0) 0 rfl t 16 htn (by omega) (.int .u64 ((1 : Nat) : Int)) (q2 x2) z1.out
      simp only [List.set_cons_zero, updV_twice] at m1
      refine wp_gen (fun w' => Mem (fun _ => False) w w' [.vs g2 n (upd X2 t (q2 x2))]) m1 ?_
      clear c17 f17 c16 f16 z0 m0 z1 m1 HMp
      intro wp hM
      obtain ⟨L3, hL3⟩ : ∃ L1, upd X2 t (q2 x2) = L1 := ⟨_, rfl⟩
      have hL0 : L3 t = q2 x2 := by rw [← hL3, upd_same]
      rw [hL3] at hM WX
      have WL := WX
      have S3 := Lib.hid (st_stop (l := L3) (n := n) (i := t) htn (by rw [hL0]; rfl) (by rw [hL0]; rfl))
      have WX3 := Lib.hid (st_wf (l := L3) (n := n) (i := t) htn (by rw [hL0]; rfl) WL.out)
      obtain ⟨X3, hX3⟩ : ∃ X, callL L3 n (t : Int) = X := ⟨_, rfl⟩
      rw [hX3] at S3
      rw [hL0] at S3
      rw [hX3] at WX3
      have HX3 := Lib.hid hX3
      have w32 : Hid (cellAt (L3 t) 32 = .int .u64 (pc2 : Int)) := by show _ = _; rw [hL0, ← SV32.out, ← HX2S.out]; rfl
      clear hL3 hL0 hX3 WX HAT3 WX2
      have hRR : SlR wp (some ⟨g2, 0, none⟩) n L3 := fun _ => ⟨g2, 0, rfl, hM.rd 0 rfl⟩
      have HRR := Lib.hid hRR
      have HMc := Lib.hid hM
      clear hRR hM
      go_wp2_with fail
      refine (call_any _ n cCg2 L3 (t : Int) wp (fun h => by cases h) HRR.out (by omega) WL.out).mono ?_
      intro e wc hpC
      obtain ⟨vC, oC, rfl, hVC, _, hFC⟩ := hpC.open
      obtain ⟨AC, cCg3, rfl, _, _, _, hgC⟩ := hVC
      obtain ⟨g3, rfl, hgy, hokC⟩ := hgC h0n
      have hM5 := (HMc.out.call hFC).addNew hokC (by
        intro y' hy'
        have h5 : y'.g < wp.heap.size := Ent.ok_lt (HMc.out.ok y' hy')
        simp only [Ent.g] at h5 ⊢; omega) (by have := HMc.out.fr.size; simp only [Ent.g]; omega)
      have HM5 := Lib.hid hM5
      clear hpC hFC hgC hokC hM5 HRR HMc
      have hM := HM5.out
      clear HM5
      rw [HX3.out] at hM
      have y49 : Hid (cellAt (X3 t) 49 = .int .i64 0) := by show _ = _; rw [S3.out]; rfl
      have y32 : Hid (cellAt (X3 t) 32 = .int .u64 (pc2 : Int)) := by
        show _ = _
        have h : (X3 t).u 32 = pc2 := by
          rw [S3.out]
          show (q2 x2).ord.u 32 = pc2
          rw [ord_32]
          show x2.u 32 / 2 * 2 = pc2
          rw [HX2S.out, ← ord_32, SVO.out, SV32.out]
        rw [← h]; rfl
      have st3 : Hid ((X3 t).i = 0) := by show _ = _; rw [S3.out]; rfl
      clear S3 HX3 WL
      go_upto_region 26 with fail
      try dsimp only [Act.put]
      refine wp_region_quiet (C := fun w' => Mem (fun _ => False) w w' ([.vs g2 n L3, .vs g3 n X3])) (by kernel_rfl) (by kernel_rfl) (hM).drew ?_
      dsimp only
      repeat (first
        | go_big_quiet_skip
        | (refine wpQuiet_cell_vs (gd_want rfl) 3 _ rfl 1 g3 n X3 rfl t 49 _ rfl (by first | rfl | omega) htn (by omega) _ Try.underlying3 rfl (.int .i64 0) (y49.out) ?_; simp only [Act.put, List.setIfInBounds_toArray, List.set_cons_zero, List.set_cons_succ])
        | (refine wpQuiet_cell_vs (gd_want rfl) 22 _ rfl 1 g3 n X3 rfl t 32 _ rfl (by first | rfl | omega) htn (by omega) _ Try.underlying22 rfl (.int .u64 (pc2 : Nat)) (y32.out) ?_; simp only [Act.put, List.setIfInBounds_toArray, List.set_cons_zero, List.set_cons_succ])
        | (refine wpQuiet_cell_vs (gd_want rfl) 22 _ rfl 0 g2 n L3 rfl t 32 _ rfl (by first | rfl | omega) htn (by omega) _ Try.underlying22 rfl (.int .u64 (pc2 : Nat)) (w32.out) ?_; simp only [Act.put, List.setIfInBounds_toArray, List.set_cons_zero, List.set_cons_succ])
        | (refine wpQuiet_pure (v := ?_) (gd_want rfl) ?_ ?_; rotate_left; (focus (intro w'; go_simp; try with_reducible rfl)); simp only [Act.put, List.setIfInBounds_toArray, List.set_cons_zero, List.set_cons_succ]))
      refine wpQuiet_nil ?_
      intro wq hMq
      clear hM
      have hM5 := hMq.weak (L' := [Ent.vs g3 n X3]) (List.sublist_cons_self _ _)
      clear hMq y49 y32 w32
      have hM := hM5
      clear hM5
      go_upto_region 28 with fail
      obtain ⟨x3, hx⟩ : ∃ x, X3 0 = x := ⟨_, rfl⟩
      have HMp := Lib.hid hM
      have c17 : wq.cell? ⟨g3, 17, none⟩ = some (.int .u64 ((X3 0).u 17 : Int)) := Mem.cellV hM 0 rfl 0 17 h0n (by omega)
      have f17 : wq.frozen? ⟨g3, 17, none⟩ = false := Mem.frozenV hM 0 rfl _
      have c16 : wq.cell? ⟨g3, 16, none⟩ = some (.int .u64 ((X3 0).u 16 : Int)) := Mem.cellV hM 0 rfl 0 16 h0n (by omega)
      have f16 : wq.frozen? ⟨g3, 16, none⟩ = false := Mem.frozenV hM 0 rfl _
      have c10 : wq.cell? ⟨g3, 10, none⟩ = some (.int .u64 ((X3 0).u 10 : Int)) := Mem.cellV hM 0 rfl 0 10 h0n (by omega)
      have f10 : wq.frozen? ⟨g3, 10, none⟩ = false := Mem.frozenV hM 0 rfl _
      have z0 : Hid (upd (cellAt (X3 0)) 17 (.int .u64 ((4739917 : Nat) : Int)) = cellAt (x3.setU 17 4739917)) := by show _ = _; rw [hx]; exact upd_cellU _ _ _ rfl
      have z1 : Hid (upd (cellAt (upd X3 0 (x3.setU 17 4739917) 0)) 16 (.int .u64 ((2 : Nat) : Int)) = cellAt ((x3.setU 17 4739917).setU 16 2)) := by show _ = _; rw [upd_same]; exact upd_cellU _ _ _ rfl
      have z2 : Hid (upd (cellAt (upd X3 0 ((x3.setU 17 4739917).setU 16 2) 0)) 10 (.int .u64 ((t : Nat) : Int)) = cellAt (q3 x3 2 t)) := by show _ = _; rw [upd_same]; exact upd_cellU _ _ _ rfl
      clear hM
      have WX : Hid (∀ k, k < n → (upd X3 0 (q3 x3 2 t) k).Wf) := by
        show ∀ k, k < n → _
        have h := WX3.out 0 h0n
        rw [hx] at h
        exact upd_wf WX3.out (((h.setU 17 _ (by omega)).setU 16 _ (by omega)).setU 10 _ (by omega))
      clear hx
      go_upto_region 31 with fail
      have m0 := Mem.putV (HMp.out) 0 rfl 0 17 h0n (by omega) (.int .u64 ((4739917 : Nat) : Int)) (x3.setU 17 4739917) z0.out
      simp only [List.set_cons_zero] at m0
      have m1 := Mem.putV (m0) 0 rfl 0 16 h0n (by omega) (.int .u64 ((2 : Nat) : Int)) ((x3.setU 17 4739917).setU 16 2) z1.out
      simp only [List.set_cons_zero, updV_twice] at m1
      have m2 := Mem.putV (m1) 0 rfl 0 10 h0n (by omega) (.int .u64 ((t : Nat) : Int)) (q3 x3 2 t) z2.out
      simp only [List.set_cons_zero, updV_twice] at m2
      refine wp_gen (fun w' => Mem (fun _ => False) w w' [.vs g3 n (upd X3 0 (q3 x3 2 t))]) m2 ?_
      clear c17 f17 c16 f16 c10 f10 z0 m0 z1 m1 z2 m2 HMp
      intro wp hM
      obtain ⟨L4, hL4⟩ : ∃ L1, upd X3 0 (q3 x3 2 t) = L1 := ⟨_, rfl⟩
      have hst : (L4 t).i = 0 := by rw [← hL4, upd_ne _ _ _ _ HT0.out]; exact st3.out
      have hL0 : L4 0 = q3 x3 2 t := by rw [← hL4, upd_same]
      rw [hL4] at hM WX
      have WL := WX
      have S4 := Lib.hid (st_state (l := L4) (n := n) (i := 0) (a := t) h0n (by rw [hL0]; rfl) (by rw [hL0]; rfl) (by rw [hL0]; rfl) htn HT0.out hst)
      have WX4 := Lib.hid (st_wf (l := L4) (n := n) (i := 0) h0n (by rw [hL0]; rfl) WL.out)
      obtain ⟨X4, hX4⟩ : ∃ X, callL L4 n ((0 : Nat) : Int) = X := ⟨_, rfl⟩
      rw [hX4] at S4 WX4
      have hI4 : StInv X4 n t (q + 1) := ⟨WX4.out, by rw [S4.out.at_]; exact hst, .inr (by rw [S4.out.e17, hL0]; rfl)⟩
      have HI4 := Lib.hid hI4
      have HX4 := Lib.hid hX4
      clear hL4 hL0 hX4 WX hst WX3 hI4
      have hRR : SlR wp (some ⟨g3, 0, none⟩) n L4 := fun _ => ⟨g3, 0, rfl, hM.rd 0 rfl⟩
      have HRR := Lib.hid hRR
      have HMc := Lib.hid hM
      clear hRR hM
      go_wp2_with fail
      refine (call_any _ n cCg3 L4 ((0 : Nat) : Int) wp (fun h => by cases h) HRR.out (by omega) WL.out).mono ?_
      intro e wc hpC
      obtain ⟨vC, oC, rfl, hVC, _, hFC⟩ := hpC.open
      obtain ⟨AC, cCg4, rfl, _, _, _, hgC⟩ := hVC
      obtain ⟨g4, rfl, hgy, hokC⟩ := hgC h0n
      have hM5 := (HMc.out.call hFC).addNew hokC (by
        intro y' hy'
        have h5 : y'.g < wp.heap.size := Ent.ok_lt (HMc.out.ok y' hy')
        simp only [Ent.g] at h5 ⊢; omega) (by have := HMc.out.fr.size; simp only [Ent.g]; omega)
      have HM5 := Lib.hid hM5
      clear hpC hFC hgC hokC hM5 HRR HMc
      have hM := HM5.out
      clear HM5
      rw [HX4.out] at hM
      have hM5 := hM.weak (L' := [Ent.vs g4 n X4]) (List.sublist_cons_self _ _)
      clear hM
      have hM := hM5
      clear hM5
      have y10 : Hid (cellAt (X4 0) 10 = .int .u64 ((0 : Nat) : Int)) := by show _ = _; exact congrArg (fun n : Nat => Value.int .u64 (n : Int)) S4.out.e10
      have y11 : Hid (cellAt (X4 0) 11 = .int .u64 ((1 : Nat) : Int)) := by show _ = _; exact congrArg (fun n : Nat => Value.int .u64 (n : Int)) S4.out.e11
      clear S4 HX4 WL
      have k1 : wc.cell? ⟨g4, 10, none⟩ = some (.int .u64 (0 : Nat)) := (Mem.cellV hM 0 rfl 0 10 h0n (by omega)).trans (congrArg some y10.out)
      have k2 : wc.cell? ⟨g4, 11, none⟩ = some (.int .u64 (1 : Nat)) := (Mem.cellV hM 0 rfl 0 11 h0n (by omega)).trans (congrArg some y11.out)
      have HMr := Lib.hid hM
      clear hM
      go_wp2_with (first | go_skip)
      have hM := HMr.out
      clear k1 k2 HMr
      have hM2 := Lib.hid hM
      clear hM
      go_roundw
      case rel =>
        first
        | exact ⟨q + 1, by omega, by go_num, g4, _, X4, rfl, hM2.out, HI4.out⟩
        | ((repeat apply Exists.intro); refine ⟨⟨q + 1, by omega, ?_, g4, _, X4, rfl, hM2.out, HI4.out⟩, rfl⟩; go_num)
      case measure => simp [intOf]; omega
    · obtain rfl : q = 2 := by omega
      have h17 : (L 0).u 17 = 4739917 := by
        rcases HI.out.u17 with h | h
        · cases h
        · exact h
      obtain ⟨x, hx⟩ : ∃ x, L 0 = x := ⟨_, rfl⟩
      have HMp := Lib.hid hM
      have c16 : wr.cell? ⟨gl, 16, none⟩ = some (.int .u64 ((L 0).u 16 : Int)) := Mem.cellV hM 0 rfl 0 16 h0n (by omega)
      have f16 : wr.frozen? ⟨gl, 16, none⟩ = false := Mem.frozenV hM 0 rfl _
      have c10 : wr.cell? ⟨gl, 10, none⟩ = some (.int .u64 ((L 0).u 10 : Int)) := Mem.cellV hM 0 rfl 0 10 h0n (by omega)
      have f10 : wr.frozen? ⟨gl, 10, none⟩ = false := Mem.frozenV hM 0 rfl _
      have z0 : Hid (upd (cellAt (L 0)) 16 (.int .u64 ((2 : Nat) : Int)) = cellAt (x.setU 16 2)) := by show _ = _; rw [hx]; exact upd_cellU _ _ _ rfl
      have z1 : Hid (upd (cellAt (upd L 0 (x.setU 16 2) 0)) 10 (.int .u64 ((n : Nat) : Int)) = cellAt (qw x n)) := by show _ = _; rw [upd_same]; exact upd_cellU _ _ _ rfl
      clear hM
      have WX : Hid (∀ k, k < n → (upd L 0 (qw x n) k).Wf) := by
        show ∀ k, k < n → _
        have h := HI.out.wf 0 h0n
        rw [hx] at h
        exact upd_wf HI.out.wf ((h.setU 16 _ (by omega)).setU 10 _ (by omega))
      have hx17 : x.u 17 = 4739917 := by rw [← hx]; exact h17
      have H17 := Lib.hid hx17
      clear hx hx17 h17
      go_upto_region 36 with fail
      have m0 := Mem.putV (HMp.out) 0 rfl 0 16 h0n (by omega) (.int .u64 ((2 : Nat) : Int)) (x.setU 16 2) z0.out
      simp only [List.set_cons_zero] at m0
      have m1 := Mem.putV (m0) 0 rfl 0 10 h0n (by omega) (.int .u64 ((n : Nat) : Int)) (qw x n) z1.out
      simp only [List.set_cons_zero, updV_twice] at m1
      refine wp_gen (fun w' => Mem (fun _ => False) w w' [.vs gl n (upd L 0 (qw x n))]) m1 ?_
      clear c16 f16 c10 f10 z0 m0 z1 m1 HMp
      intro wp hM
      obtain ⟨L5, hL5⟩ : ∃ L1, upd L 0 (qw x n) = L1 := ⟨_, rfl⟩
      have hL0 : L5 0 = qw x n := by rw [← hL5, upd_same]
      rw [hL5] at hM WX
      have WL := WX
      have S5 := Lib.hid (st_wrong (l := L5) (n := n) (i := 0) h0n (by rw [hL0]; exact H17.out) (by rw [hL0]; rfl) (by rw [hL0]; exact Nat.le_refl _))
      obtain ⟨X5, hX5⟩ : ∃ X, callL L5 n ((0 : Nat) : Int) = X := ⟨_, rfl⟩
      rw [hX5] at S5
      have HX5 := Lib.hid hX5
      clear hL5 hL0 hX5 WX
      have hRR : SlR wp (some ⟨gl, 0, none⟩) n L5 := fun _ => ⟨gl, 0, rfl, hM.rd 0 rfl⟩
      have HRR := Lib.hid hRR
      have HMc := Lib.hid hM
      clear hRR hM
      go_wp2_with fail
      refine (call_any _ n cl L5 ((0 : Nat) : Int) wp (fun h => by cases h) HRR.out (by omega) WL.out).mono ?_
      intro e wc hpC
      obtain ⟨vC, oC, rfl, hVC, _, hFC⟩ := hpC.open
      obtain ⟨AC, cCg5, rfl, _, _, _, hgC⟩ := hVC
      obtain ⟨g5, rfl, hgy, hokC⟩ := hgC h0n
      have hM5 := (HMc.out.call hFC).addNew hokC (by
        intro y' hy'
        have h5 : y'.g < wp.heap.size := Ent.ok_lt (HMc.out.ok y' hy')
        simp only [Ent.g] at h5 ⊢; omega) (by have := HMc.out.fr.size; simp only [Ent.g]; omega)
      have HM5 := Lib.hid hM5
      clear hpC hFC hgC hokC hM5 HRR HMc
      have hM := HM5.out
      clear HM5
      rw [HX5.out] at hM
      have hM5 := hM.weak (L' := [Ent.vs g5 n X5]) (List.sublist_cons_self _ _)
      clear hM
      have hM := hM5
      clear hM5
      have y10 : Hid (cellAt (X5 0) 10 = .int .u64 ((18446744073709551613 : Nat) : Int)) := by show _ = _; exact congrArg (fun n : Nat => Value.int .u64 (n : Int)) S5.out
      clear S5 HX5 WL
      have k1 : wc.cell? ⟨g5, 10, none⟩ = some (.int .u64 (18446744073709551613 : Nat)) := (Mem.cellV hM 0 rfl 0 10 h0n (by omega)).trans (congrArg some y10.out)
      have HMr := Lib.hid hM
      clear hM
      go_wp2_with (first | go_skip | (go_at_call 14; refine (awake_any _).mono ?_; rintro e w9 ⟨rfl, hF⟩; have HF9 := Lib.hid (fr_below (HMr.out.fr.trans hF (fun _ _ h => h))); clear hF))
      go_ret
      exact ⟨rfl, HF9.out⟩
end Go.Proofs.Ytjiolobkobpohaa
