/- citadelref06.Order, hart.Reset, citadelref06.Reset. -/
import Derived.Test.YtjiolobkobpohaaB
namespace Go.Proofs.Ytjiolobkobpohaa
open Go.RowKit
theorem half_mul (n q : Nat) (h : n < 18446744073709551616) (hq : n / 2 = q) : IntKind.u64.wrap ((n : Int) / 2) = q ∧ IntKind.u64.wrap ((q : Int) * 2) = ((n / 2 * 2 : Nat) : Int) := by
  subst hq
  constructor <;> rw [IntKind.wrap_u64] <;> omega
set_option maxRecDepth 100000 in
theorem refOrder_any (x : V) (w : World) (hx : x.Wf) :
    Calls Try.prog 25 #[.agg (arr 49 (cellAt x))] w fun e w' => e = .returned (.agg (arr 49 (cellAt x.ord))) ∧ Fr (fun _ => False) w w' := by
  have hM := Mem.refl (fun _ => False) w
  obtain ⟨n32, h32⟩ : ∃ n, x.u 32 / 2 * 2 = n := ⟨_, rfl⟩
  obtain ⟨n42, h42⟩ : ∃ n, x.u 42 / 2 * 2 = n := ⟨_, rfl⟩
  obtain ⟨n40, h40⟩ : ∃ n, x.u 40 / 4 * 4 + x.u 40 % 2 = n := ⟨_, rfl⟩
  obtain ⟨n45, h45⟩ : ∃ n, x.u 45 &&& 546 = n := ⟨_, rfl⟩
  obtain ⟨n46, h46⟩ : ∃ n, x.u 46 &&& 546 = n := ⟨_, rfl⟩
  obtain ⟨q32, k32⟩ : ∃ n, x.u 32 / 2 = n := ⟨_, rfl⟩
  obtain ⟨q42, k42⟩ : ∃ n, x.u 42 / 2 = n := ⟨_, rfl⟩
  obtain ⟨q40, k40⟩ : ∃ n, x.u 40 / 4 = n := ⟨_, rfl⟩
  obtain ⟨p40, l40⟩ : ∃ n, q40 * 4 = n := ⟨_, rfl⟩
  obtain ⟨r40, m40⟩ : ∃ n, x.u 40 % 2 = n := ⟨_, rfl⟩
  obtain ⟨e32a, e32⟩ := half_mul _ _ (hx.u 32) k32
  obtain ⟨e42a, e42⟩ := half_mul _ _ (hx.u 42) k42
  have b40 := hx.u 40
  have e40a : IntKind.u64.wrap ((x.u 40 : Int) / 4) = q40 := by rw [IntKind.wrap_u64]; omega
  have e40b : IntKind.u64.wrap ((q40 : Int) * 4) = p40 := by rw [IntKind.wrap_u64]; omega
  have e40c : (x.u 40 : Int).tmod 2 = r40 := by rw [Int.tmod_eq_emod_of_nonneg (by omega)]; omega
  have e40 : IntKind.u64.wrap ((p40 : Int) + r40) = n40 := by rw [IntKind.wrap_u64]; omega
  have e45 : bits .and .u64 (x.u 45 : Int) 546 = _ := u64_and_nat _ 546 (hx.u 45) (by omega)
  have e46 : bits .and .u64 (x.u 46 : Int) 546 = _ := u64_and_nat _ 546 (hx.u 46) (by omega)
  rw [h32] at e32
  rw [h42] at e42
  rw [h45] at e45
  rw [h46] at e46
  have hR : Hid (x.ord = (((((x.setU 0 0).setU 32 n32).setU 42 n42).setU 40 n40).setU 45 n45).setU 46 n46) := by
    show x.ord = _
    rw [← h32, ← h42, ← h40, ← h45, ← h46]; rfl
  clear h32 h42 h40 h45 h46 k32 k42 k40 l40 m40 b40
  go_enter Try.func25, Try.ntmps25
  go_wp2_with (first
    | (refine wpList_box_fn (gd_none rfl) 30 _ rfl 49 _ rfl hM ?_; clear hM; intro w1 g1 hg1 hl1 hM; dsimp only [List.nil_append, List.cons_append] at hM)
    | (refine wpList_alloc_fn (gd_none rfl) 30 rfl 49 _ Try.zero30 hM ?_; clear hM; intro w2 g2 hg2 hl2 hM; dsimp only [List.nil_append, List.cons_append] at hM)
    | (refine wpList_put_fn (gd_none rfl) 22 _ _ rfl 0 g1 30 49 _ hM rfl 0 rfl (.int .u64 (0 : Nat)) rfl Try.info22 (by omega) rfl ?_; clear hM; intro wp hwp hM; dsimp only [List.set_cons_zero, List.set_cons_succ] at hM; simp only [upd_cellU _ _ _ (show kd 0 = .u from rfl)] at hM)
    | (refine wpList_cell_fn (gd_none rfl) 22 _ rfl 0 g1 30 49 _ hM rfl 32 rfl _ Try.underlying22 rfl (by omega) (.int .u64 (x.u 32 : Nat)) rfl ?_)
    | (refine wpList_put_fn (gd_none rfl) 22 _ _ rfl 0 g1 30 49 _ hM rfl 32 rfl (.int .u64 (n32 : Nat)) rfl Try.info22 (by omega) rfl ?_; clear hM; intro wp hwp hM; dsimp only [List.set_cons_zero, List.set_cons_succ] at hM; simp only [upd_cellU _ _ _ (show kd 32 = .u from rfl)] at hM)
    | (refine wpList_cell_fn (gd_none rfl) 22 _ rfl 0 g1 30 49 _ hM rfl 42 rfl _ Try.underlying22 rfl (by omega) (.int .u64 (x.u 42 : Nat)) rfl ?_)
    | (refine wpList_put_fn (gd_none rfl) 22 _ _ rfl 0 g1 30 49 _ hM rfl 42 rfl (.int .u64 (n42 : Nat)) rfl Try.info22 (by omega) rfl ?_; clear hM; intro wp hwp hM; dsimp only [List.set_cons_zero, List.set_cons_succ] at hM; simp only [upd_cellU _ _ _ (show kd 42 = .u from rfl)] at hM)
    | (refine wpList_cell_fn (gd_none rfl) 22 _ rfl 0 g1 30 49 _ hM rfl 40 rfl _ Try.underlying22 rfl (by omega) (.int .u64 (x.u 40 : Nat)) rfl ?_)
    | (refine wpList_put_fn (gd_none rfl) 22 _ _ rfl 0 g1 30 49 _ hM rfl 40 rfl (.int .u64 (n40 : Nat)) rfl Try.info22 (by omega) rfl ?_; clear hM; intro wp hwp hM; dsimp only [List.set_cons_zero, List.set_cons_succ] at hM; simp only [upd_cellU _ _ _ (show kd 40 = .u from rfl)] at hM)
    | (refine wpList_cell_fn (gd_none rfl) 22 _ rfl 0 g1 30 49 _ hM rfl 45 rfl _ Try.underlying22 rfl (by omega) (.int .u64 (x.u 45 : Nat)) rfl ?_)
    | (refine wpList_put_fn (gd_none rfl) 22 _ _ rfl 0 g1 30 49 _ hM rfl 45 rfl (.int .u64 (n45 : Nat)) rfl Try.info22 (by omega) rfl ?_; clear hM; intro wp hwp hM; dsimp only [List.set_cons_zero, List.set_cons_succ] at hM; simp only [upd_cellU _ _ _ (show kd 45 = .u from rfl)] at hM)
    | (refine wpList_cell_fn (gd_none rfl) 22 _ rfl 0 g1 30 49 _ hM rfl 46 rfl _ Try.underlying22 rfl (by omega) (.int .u64 (x.u 46 : Nat)) rfl ?_)
    | (refine wpList_put_fn (gd_none rfl) 22 _ _ rfl 0 g1 30 49 _ hM rfl 46 rfl (.int .u64 (n46 : Nat)) rfl Try.info22 (by omega) rfl ?_; clear hM; intro wp hwp hM; dsimp only [List.set_cons_zero, List.set_cons_succ] at hM; simp only [upd_cellU _ _ _ (show kd 46 = .u from rfl)] at hM)
    | (refine wpList_load_all (gd_none rfl) 30 _ rfl 0 g1 30 49 _ hM rfl rfl _ Try.underlying30 rfl Try.info30 ?_)
    | (refine wpList_store_all (gd_none rfl) 30 _ _ rfl 1 g2 30 49 _ hM rfl rfl _ rfl Try.info30 (fun j _ => cell_one _ j) ?_; clear hM; intro ws hws hM; dsimp only [List.set_cons_zero, List.set_cons_succ] at hM))
  refine bodyPost_ret (ret_fn rfl _ 1 g2 49 _ hM rfl rfl _ Try.underlying30 rfl Try.info30) rfl ?_
  exact ⟨by rw [hR.out], hM.fr⟩

/-- A hart at its beginning. -/
def V.reset (pc a b : Nat) : V := ((V.zero.setU 32 (pc / 2 * 2)).setU 10 a).setU 11 b
theorem built30 (n : Nat) : Try.prog.built 30 [(1, .int .u64 (n : Int))] = some (arr 49 (cellAt (V.zero.setU 32 n))) := by kernel_rfl
set_option maxRecDepth 100000 in
theorem reset_any (pc a b : Nat) (w : World) (hp : pc < 18446744073709551616) :
    Calls Try.prog 28 #[.int .u64 pc, .int .u64 a, .int .u64 b] w fun e w' => e = .returned (.agg (arr 49 (cellAt (V.reset pc a b)))) ∧ Fr (fun _ => False) w w' := by
  have hM := Mem.refl (fun _ => False) w
  obtain ⟨n, hn⟩ : ∃ n, pc / 2 * 2 = n := ⟨_, rfl⟩
  have e := clear0 _ hp
  rw [hn] at e
  have hR : Hid (V.reset pc a b = ((V.zero.setU 32 n).setU 10 a).setU 11 b) := by
    show V.reset pc a b = _
    rw [← hn]; rfl
  clear hn
  go_enter Try.func28, Try.ntmps28
  have tok1 : True := trivial
  go_wp2_with (first
    | (have _t := tok1; refine wpList_alloc_fn (gd_none rfl) 30 rfl 49 _ Try.zero30 hM ?_; clear hM; clear tok1 _t; intro w1 g1 hg1 hl1 hM; dsimp only [List.nil_append, List.cons_append] at hM)
    | (refine wpList_alloc_fn (gd_none rfl) 30 rfl 49 _ Try.zero30 hM ?_; clear hM; intro w2 g2 hg2 hl2 hM; dsimp only [List.nil_append, List.cons_append] at hM)
    | (refine wpList_build_fn (gd_none rfl) 30 _ rfl 49 _ (built30 n) ?_)
    | (refine wpList_store_all (gd_none rfl) 30 _ _ rfl 1 g2 30 49 _ hM rfl rfl (cellAt (V.zero.setU 32 n)) rfl Try.info30 (fun j _ => cell_one _ j) ?_; clear hM; intro ws hws hM; dsimp only [List.set_cons_zero, List.set_cons_succ] at hM)
    | (refine wpList_put_fn (gd_none rfl) 22 _ _ rfl 1 g2 30 49 _ hM rfl 10 rfl (.int .u64 (a : Nat)) rfl Try.info22 (by omega) rfl ?_; clear hM; intro wp hwp hM; dsimp only [List.set_cons_zero, List.set_cons_succ] at hM; simp only [upd_cellU _ _ _ (show kd 10 = .u from rfl)] at hM)
    | (refine wpList_put_fn (gd_none rfl) 22 _ _ rfl 1 g2 30 49 _ hM rfl 11 rfl (.int .u64 (b : Nat)) rfl Try.info22 (by omega) rfl ?_; clear hM; intro wp hwp hM; dsimp only [List.set_cons_zero, List.set_cons_succ] at hM; simp only [upd_cellU _ _ _ (show kd 11 = .u from rfl)] at hM)
    | (refine wpList_load_all (gd_none rfl) 30 _ rfl 1 g2 30 49 _ hM rfl rfl _ Try.underlying30 rfl Try.info30 ?_)
    | (refine wpList_store_all (gd_none rfl) 30 _ _ rfl 0 g1 30 49 _ hM rfl rfl _ rfl Try.info30 (fun j _ => cell_one _ j) ?_; clear hM; intro ws hws hM; dsimp only [List.set_cons_zero, List.set_cons_succ] at hM))
  refine bodyPost_ret (ret_fn rfl _ 0 g1 49 _ hM rfl rfl _ Try.underlying30 rfl Try.info30) rfl ?_
  exact ⟨by rw [hR.out], hM.fr⟩
theorem V.ext3 {x y : V} (h1 : ∀ j, x.u j = y.u j) (h2 : ∀ j, x.b j = y.b j) (h3 : x.i = y.i) : x = y := by
  cases x; cases y
  simp only at h1 h2 h3
  obtain rfl := funext h1
  obtain rfl := funext h2
  subst h3
  rfl
theorem reset_ord (pc a b : Nat) : ((((V.zero.setU 32 pc).setU 10 a).setU 11 b)).ord = V.reset pc a b := by
  refine V.ext3 (fun j => ?_) (fun _ => rfl) rfl
  simp only [V.ord, V.reset, V.setU, upd, V.zero]
  (repeat' split) <;> first | omega | rfl | (simp_all; done)
theorem V.Wf.setU {x : V} (h : x.Wf) (j n : Nat) (hn : n < 18446744073709551616) : (x.setU j n).Wf := ⟨fun k => by simp only [V.setU, upd]; split <;> first | exact hn | exact h.u k, h.i⟩
theorem zero_wf : V.zero.Wf := ⟨fun _ => by show (0 : Nat) < _; omega, rfl⟩
set_option maxRecDepth 100000 in
theorem refReset_any (pc a b : Nat) (w : World) (hp : pc < 18446744073709551616) (ha : a < 18446744073709551616) (hb : b < 18446744073709551616) :
    Calls Try.prog 29 #[.int .u64 pc, .int .u64 a, .int .u64 b] w fun e w' => e = .returned (.agg (arr 49 (cellAt (V.reset pc a b)))) ∧ Fr (fun _ => False) w w' := by
  have hM := Mem.refl (fun _ => False) w
  have hR := Lib.hid (reset_ord pc a b)
  have hW := (((zero_wf.setU 32 pc hp).setU 10 a ha).setU 11 b hb)
  clear hp ha hb
  have tok1 : True := trivial
  go_enter Try.func29, Try.ntmps29
  go_wp2_with (first
    | (have _t := tok1; refine wpList_alloc_fn (gd_none rfl) 30 rfl 49 _ Try.zero30 hM ?_; clear hM; clear tok1 _t; intro w1 g1 hg1 hl1 hM; dsimp only [List.nil_append, List.cons_append] at hM)
    | (refine wpList_alloc_fn (gd_none rfl) 30 rfl 49 _ Try.zero30 hM ?_; clear hM; intro w2 g2 hg2 hl2 hM; dsimp only [List.nil_append, List.cons_append] at hM)
    | (refine wpList_put_fn (gd_none rfl) 22 _ _ rfl 1 g2 30 49 _ hM rfl 32 rfl (.int .u64 (pc : Nat)) rfl Try.info22 (by omega) rfl ?_; clear hM; intro wp hwp hM; dsimp only [List.set_cons_zero, List.set_cons_succ] at hM; simp only [upd_cellU _ _ _ (show kd 32 = .u from rfl)] at hM)
    | (refine wpList_put_fn (gd_none rfl) 22 _ _ rfl 1 g2 30 49 _ hM rfl 10 rfl (.int .u64 (a : Nat)) rfl Try.info22 (by omega) rfl ?_; clear hM; intro wp hwp hM; dsimp only [List.set_cons_zero, List.set_cons_succ] at hM; simp only [upd_cellU _ _ _ (show kd 10 = .u from rfl)] at hM)
    | (refine wpList_put_fn (gd_none rfl) 22 _ _ rfl 1 g2 30 49 _ hM rfl 11 rfl (.int .u64 (b : Nat)) rfl Try.info22 (by omega) rfl ?_; clear hM; intro wp hwp hM; dsimp only [List.set_cons_zero, List.set_cons_succ] at hM; simp only [upd_cellU _ _ _ (show kd 11 = .u from rfl)] at hM)
    | (refine wpList_load_all (gd_none rfl) 30 _ rfl 1 g2 30 49 _ hM rfl rfl _ Try.underlying30 rfl Try.info30 ?_)
    | (refine wpList_store_all (gd_none rfl) 30 _ _ rfl 0 g1 30 49 _ hM rfl rfl _ rfl Try.info30 (fun j _ => cell_one _ j) ?_; clear hM; intro ws hws hM; dsimp only [List.set_cons_zero, List.set_cons_succ] at hM)
    | (go_at_call 25; refine (refOrder_any _ _ hW).mono ?_; rintro e w' ⟨rfl, hf⟩; replace hM := hM.call hf))
  refine bodyPost_ret (ret_fn rfl _ 0 g1 49 _ hM rfl rfl _ Try.underlying30 rfl Try.info30) rfl ?_
  exact ⟨by rw [hR.out], hM.fr⟩
end Go.Proofs.Ytjiolobkobpohaa
