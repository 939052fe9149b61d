/- The law's own calls: a guest of so many harts, all running, of which one makes a call. -/
import Derived.Test.YtjiolobkobpohaaAA
namespace Go.Proofs.Ytjiolobkobpohaa
open Go.RowKit Go.BigFrame

theorem results_tmp4 {fn : Func} {t u v x : Tmp} (h : fn.results = #[.tmp t, .tmp u, .tmp v, .tmp x]) (tmps : Array Value) (P : Program) (w : World) :
    (results fn tmps).run P w = .ok (.tuple #[tmps.getD t undef, tmps.getD u undef, tmps.getD v undef, tmps.getD x undef]) w := by
  simp [results, h]
def baseV (k : Nat) : V := (((beginL 2147483648 k).setI 1).setU 32 (2147483648 + 64 * k)).setU 5 (k + 100)
def setC (x : V) (kind fn a b : Nat) : V := (((x.setU 17 kind).setU 16 fn).setU 10 a).setU 11 b
def wasL (i kind fn a b : Nat) : Nat → V := upd baseV i (setC (baseV i) kind fn a b)
theorem begun_wf (pc : Nat) (h : pc < 18446744073709551616) : (begun pc).Wf := by
  have h1 := (reset_wf pc 0 0 h (by omega) (by omega))
  refine ⟨fun j => ?_, ?_⟩
  · show ((V.zero.withH (V.reset pc 0 0)).setI 1).u j < _
    simp only [V.setI, V.withH]
    split
    · exact h1.u j
    · show (0 : Nat) < _; omega
  · rfl
theorem beginL_wf (pc k : Nat) (h : pc < 18446744073709551616) : (beginL pc k).Wf := by
  unfold beginL
  split
  · exact begun_wf pc h
  · exact zero_wf
theorem wf_setI {x : V} (h : x.Wf) (i : Int) (hi : (Lit.int .i64 i).wf = true) : (x.setI i).Wf := ⟨h.u, hi⟩
theorem baseV_wf (k : Nat) (h : k ≤ 64) : (baseV k).Wf := ((wf_setI (beginL_wf _ k (by omega)) 1 rfl).setU 32 _ (by omega)).setU 5 _ (by omega)
theorem setC_wf {x : V} (h : x.Wf) {kind fn a b : Nat} (h1 : kind < 18446744073709551616) (h2 : fn < 18446744073709551616) (h3 : a < 18446744073709551616) (h4 : b < 18446744073709551616) : (setC x kind fn a b).Wf :=
  (((h.setU 17 _ h1).setU 16 _ h2).setU 10 _ h3).setU 11 _ h4
theorem wasL_wf {i kind fn a b : Nat} (hi : i ≤ 64) (h1 : kind < 18446744073709551616) (h2 : fn < 18446744073709551616) (h3 : a < 18446744073709551616) (h4 : b < 18446744073709551616) (k : Nat) (hk : k ≤ 64) : (wasL i kind fn a b k).Wf := by
  unfold wasL upd
  split
  · exact setC_wf (baseV_wf i hi) h1 h2 h3 h4
  · exact baseV_wf k hk
def CallsPost (w : World) (n i : Nat) (W : Nat → V) (e : Ending) (w' : World) : Prop :=
  ∃ g1 c1 g2 c2 vo, e = .returned (.tuple #[.slice (some ⟨g1, 0, none⟩) n c1, .slice (some ⟨g2, 0, none⟩) n c2, vo, .bool (callD W n (i : Int))]) ∧ Mem (fun _ => False) w w' [.vs g1 n W, .vs g2 n (callL W n (i : Int))] ∧ OutR w' vo (callB W n (i : Int))

set_option maxRecDepth 100000 in
set_option maxHeartbeats 4000000 in
theorem calls_fn (n i kind fn a b : Nat) (w : World) (hn : 1 ≤ n ∧ n ≤ 64) (hi : i < n) (h1 : kind < 18446744073709551616) (h2 : fn < 18446744073709551616) (h3 : a < 18446744073709551616) (h4 : b < 18446744073709551616) :
    Calls Try.prog 27 #[.int .i64 n, .int .i64 i, .int .u64 kind, .int .u64 fn, .int .u64 a, .int .u64 b] w (CallsPost w n i (wasL i kind fn a b)) := by
  have HW := Lib.hid (fun k (hk : k < n) => wasL_wf (i := i) (by omega) h1 h2 h3 h4 k (by omega))
  have hN : Hid (beginN n = n) := by show beginN n = n; unfold beginN; rw [if_pos (by omega)]; simp
  have hn2 : (n : Int) ≤ 64 := by omega
  have HNn := Lib.hid hn
  clear h1 h2 h3 h4 hn
  go_enter Try.func27, Try.ntmps27
  go_wp2_with fail
  refine (begin_any n 2147483648 w (by omega)).mono ?_
  rintro e w1 ⟨v, rfl, hV, hF⟩
  rw [hN.out] at hV
  obtain ⟨A1, c1, rfl, hc, hc2, _, hg⟩ := hV
  obtain ⟨gv, rfl, hgv, hok⟩ := hg (by have := HNn.out; omega)
  have hM := Mem.start hF hgv hok
  have HC := Lib.hid hc
  clear hF hok hc hc2 hg
  go_wp2_with fail
  go_loopw [17] (fun t wr => ∃ k : Nat, k ≤ n ∧ t = .int .i64 k ∧ Mem (fun _ => False) w wr [.vs gv n (stepL baseV (beginL 2147483648) k)]) (fun t _ => n - (intOf t).toNat)
  case atStart => exact ⟨0, Nat.zero_le _, rfl, by rw [stepL_zero]; exact hM⟩
  case round =>
    clear hM
    obtain ⟨k, hk, rfl, hM⟩ := hrel
    by_cases hlt : k < n
    · obtain ⟨M, hMk⟩ : ∃ M, stepL baseV (beginL 2147483648) k = M := ⟨_, rfl⟩
      rw [hMk] at hM
      have hLk : M k = beginL 2147483648 k := by rw [← hMk, stepL_at]
      obtain ⟨x, hx⟩ : ∃ x, beginL 2147483648 k = x := ⟨_, rfl⟩
      obtain ⟨pc, hpc⟩ : ∃ pc, 2147483648 + 64 * k = pc := ⟨_, rfl⟩
      obtain ⟨q, hq⟩ : ∃ q, k + 100 = q := ⟨_, rfl⟩
      have eb : (2147483648 + 64 * (k : Int)) = (pc : Int) := by omega
      have eq1 : ((k : Int) + 100) = (q : Int) := by omega
      have pl : (pc : Int) ≤ 2147500000 := by omega
      have ql : (q : Int) ≤ 200 := by omega
      have pl0 : (0 : Int) ≤ pc := by omega
      have z1 : Hid (upd (cellAt (M k)) 49 (.int .i64 1) = cellAt (x.setI 1)) := by show _ = _; rw [hLk, hx]; exact upd_cellI _ _ _ rfl
      have z2 : Hid (upd (cellAt (upd M k (x.setI 1) k)) 32 (.int .u64 (pc : Int)) = cellAt ((x.setI 1).setU 32 pc)) := by show _ = _; rw [upd_same]; exact upd_cellU _ _ _ rfl
      have z3 : Hid (upd (cellAt (upd M k ((x.setI 1).setU 32 pc) k)) 5 (.int .u64 (q : Int)) = cellAt (((x.setI 1).setU 32 pc).setU 5 q)) := by show _ = _; rw [upd_same]; exact upd_cellU _ _ _ rfl
      have HB : Hid (baseV k = ((x.setI 1).setU 32 pc).setU 5 q) := by show _ = _; unfold baseV; rw [hx, hpc, hq]
      have HM := Lib.hid hMk
      clear hMk hLk hx hpc hq
      go_wp2_with (first
        | go_skip
        | (refine wpList_put_vs (gd_none rfl) 3 _ _ rfl 0 gv n _ hM rfl k 49 _ rfl (by first | rfl | omega) hlt (by omega) (.int .i64 1) rfl Try.info3 (x.setI 1) (z1.out) ?_; clear hM; intro wp hwp hM; dsimp only [List.set_cons_zero, List.set_cons_succ] at hM; try simp only [updV_twice] at hM)
        | (refine wpList_put_vs (gd_none rfl) 22 _ _ rfl 0 gv n _ hM rfl k 32 _ rfl (by first | rfl | omega) hlt (by omega) (.int .u64 (pc : Nat)) rfl Try.info22 ((x.setI 1).setU 32 pc) (z2.out) ?_; clear hM; intro wp hwp hM; dsimp only [List.set_cons_zero, List.set_cons_succ] at hM; try simp only [updV_twice] at hM)
        | (refine wpList_put_vs (gd_none rfl) 22 _ _ rfl 0 gv n _ hM rfl k 5 _ rfl (by first | rfl | omega) hlt (by omega) (.int .u64 (q : Nat)) rfl Try.info22 (((x.setI 1).setU 32 pc).setU 5 q) (z3.out) ?_; clear hM; intro wp hwp hM; dsimp only [List.set_cons_zero, List.set_cons_succ] at hM; try simp only [updV_twice] at hM))
      have hM2 : Hid (Mem (fun _ => False) w wp [.vs gv n (stepL baseV (beginL 2147483648) (k + 1))]) := by
        show Mem _ _ _ _
        rw [stepL_succ, HM.out, HB.out]
        exact hM
      go_roundw
      case rel => exact ⟨k + 1, by omega, by go_num, hM2.out⟩
      case measure => simp [intOf]; omega
    · obtain rfl : k = n := by omega
      have hM2 : Hid (Mem (fun _ => False) w wr [.vs gv k baseV]) := by
        show Mem _ _ _ _
        exact hM.vsEq 0 rfl (fun j hj => by simp [stepL, hj])
      clear hM
      have hM := hM2.out
      clear hM2
      obtain ⟨x, hx⟩ : ∃ x, baseV i = x := ⟨_, rfl⟩
      have z1 : Hid (upd (cellAt (baseV i)) 17 (.int .u64 (kind : Int)) = cellAt (x.setU 17 kind)) := by show _ = _; rw [hx]; exact upd_cellU _ _ _ rfl
      have z2 : Hid (upd (cellAt (upd baseV i (x.setU 17 kind) i)) 16 (.int .u64 (fn : Int)) = cellAt ((x.setU 17 kind).setU 16 fn)) := by show _ = _; rw [upd_same]; exact upd_cellU _ _ _ rfl
      have z3 : Hid (upd (cellAt (upd baseV i ((x.setU 17 kind).setU 16 fn) i)) 10 (.int .u64 (a : Int)) = cellAt (((x.setU 17 kind).setU 16 fn).setU 10 a)) := by show _ = _; rw [upd_same]; exact upd_cellU _ _ _ rfl
      have z4 : Hid (upd (cellAt (upd baseV i (((x.setU 17 kind).setU 16 fn).setU 10 a) i)) 11 (.int .u64 (b : Int)) = cellAt (setC x kind fn a b)) := by show _ = _; rw [upd_same]; exact upd_cellU _ _ _ rfl
      have HWL : Hid (upd baseV i (setC x kind fn a b) = wasL i kind fn a b) := by show _ = _; unfold wasL; rw [hx]
      have hik : (i : Int) < k := by omega
      clear hx
      go_upto_region 13 with (first | (refine wpList_put_vs (gd_none rfl) 22 _ _ rfl 0 gv k _ hM rfl i 17 _ rfl (by first | rfl | omega) hi (by omega) (.int .u64 (kind : Nat)) rfl Try.info22 (x.setU 17 kind) (z1.out) ?_; clear hM; intro wp hwp hM; dsimp only [List.set_cons_zero, List.set_cons_succ] at hM; try simp only [updV_twice] at hM) | (refine wpList_put_vs (gd_none rfl) 22 _ _ rfl 0 gv k _ hM rfl i 16 _ rfl (by first | rfl | omega) hi (by omega) (.int .u64 (fn : Nat)) rfl Try.info22 ((x.setU 17 kind).setU 16 fn) (z2.out) ?_; clear hM; intro wp hwp hM; dsimp only [List.set_cons_zero, List.set_cons_succ] at hM; try simp only [updV_twice] at hM) | (refine wpList_put_vs (gd_none rfl) 22 _ _ rfl 0 gv k _ hM rfl i 10 _ rfl (by first | rfl | omega) hi (by omega) (.int .u64 (a : Nat)) rfl Try.info22 (((x.setU 17 kind).setU 16 fn).setU 10 a) (z3.out) ?_; clear hM; intro wp hwp hM; dsimp only [List.set_cons_zero, List.set_cons_succ] at hM; try simp only [updV_twice] at hM) | (refine wpList_put_vs (gd_none rfl) 22 _ _ rfl 0 gv k _ hM rfl i 11 _ rfl (by first | rfl | omega) hi (by omega) (.int .u64 (b : Nat)) rfl Try.info22 (setC x kind fn a b) (z4.out) ?_; clear hM; intro wp hwp hM; dsimp only [List.set_cons_zero, List.set_cons_succ] at hM; try simp only [updV_twice] at hM))
      rw [HWL.out] at hM
      obtain ⟨L, hL⟩ : ∃ L, wasL i kind fn a b = L := ⟨_, rfl⟩
      rw [hL] at hM
      have HWf := Lib.hid (fun k2 (hk2 : k2 < k) => (hL ▸ HW.out k2 hk2 : (L k2).Wf))
      have hR : SlR wp (some ⟨gv, 0, none⟩) k L := fun _ => ⟨gv, 0, rfl, hM.rd 0 rfl⟩
      have HR := Lib.hid hR
      have HLL := Lib.hid hL
      have HMp := Lib.hid hM
      clear hR hL hM hik
      go_wp2_with (refine wpList_append_vs (gd_none rfl) _ _ rfl wp.heap.size (Nat.le_refl _) _ rfl (World.ownsRow_nil wp _ 32 52) (some ⟨gv, 0, none⟩) k c1 rfl L (fun h => by cases h) HR.out (by have := HNn.out; omega) ?_)
      intro v2 w2 hV hF0
      have hF : Fr (fun _ => False) wp w2 := hF0.weak (fun k hk (h : wp.heap.size ≤ k) => by omega)
      obtain ⟨A2, c2, rfl, _, _, _, hg⟩ := hV
      obtain ⟨g2, rfl, hg2, hok2⟩ := hg (by omega)
      have hM := (HMp.out.call hF).addNew hok2 (by
        intro y hy
        simp at hy
        subst hy
        have : gv < wp.heap.size := Ent.ok_lt (HMp.out.ok (.vs gv k L) (by simp))
        simp only [Ent.g]; omega) (by have := HMp.out.fr.size; simp only [Ent.g]; omega)
      have hR : SlR w2 (some ⟨gv, 0, none⟩) k L := fun _ => ⟨gv, 0, rfl, hM.rd 0 rfl⟩
      have HM2 := Lib.hid hM
      clear hF0 hF hg hok2 hM HMp HR
      go_wp2_with fail
      refine (call_any _ k c1 L i w2 (fun h => by cases h) hR (by have := HNn.out; omega) HWf.out).mono ?_
      intro e w3 hp
      obtain ⟨v4, o4, rfl, hV, ho, hF⟩ := hp.open
      obtain ⟨A4, c4, rfl, _, _, _, hg4⟩ := hV
      obtain ⟨g4, rfl, hg4, hok4⟩ := hg4 (by omega)
      have hM3 := (HM2.out.call hF).addNew hok4 (by
        intro y hy
        have h5 : y.g < w2.heap.size := Ent.ok_lt (HM2.out.ok y hy)
        simp only [Ent.g] at h5 ⊢; omega) (by have := HM2.out.fr.size; simp only [Ent.g]; omega)
      have hM4 := Lib.hid (hM3.weak (L' := [Ent.vs g2 k L, Ent.vs g4 k (callL L k i)]) (List.sublist_cons_self _ _))
      have HO := Lib.hid ho
      clear hp ho hF hok4 hM3 hR
      go_wp2_with fail
      refine bodyPost_ret (results_tmp4 rfl _ _ _) rfl ?_
      rw [HLL.out]
      exact ⟨g2, c2, g4, c4, o4, rfl, hM4.out, HO.out⟩
end Go.Proofs.Ytjiolobkobpohaa
