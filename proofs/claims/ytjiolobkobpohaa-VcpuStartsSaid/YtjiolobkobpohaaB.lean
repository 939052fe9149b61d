/- hart.order and its kin. -/
import Derived.Test.YtjiolobkobpohaaA
namespace Go.Proofs.Ytjiolobkobpohaa
open Go.RowKit

theorem Try.info30 : (Try.prog.info? 30).map (·.size) = some 49 := by kernel_rfl
theorem Try.info22 : (Try.prog.info? 22).map (·.size) = some 1 := by kernel_rfl
theorem Try.zero30 : (Try.prog.info? 30).bind (·.zero) = some (.agg (arr 49 (cellAt V.zero))) := by kernel_rfl

/-- A hart in order. -/
def V.ord (x : V) : V := ((((((x.setU 0 0).setU 32 (x.u 32 / 2 * 2)).setU 42 (x.u 42 / 2 * 2)).setU 40 (x.u 40 / 4 * 4 + x.u 40 % 2)).setU 45 (x.u 45 &&& 546)).setU 46 (x.u 46 &&& 546))

structure V.Wf (x : V) : Prop where
  u : ∀ j, x.u j < 18446744073709551616
  i : (Lit.int .i64 x.i).wf = true

theorem clear0 (n : Nat) (h : n < 18446744073709551616) : bits .andNot .u64 (n : Int) 1 = ((n / 2 * 2 : Nat) : Int) := by
  have := u64_andNot_nat n 1 h (by omega)
  rw [show (((1 : Nat) : Int)) = 1 from rfl] at this
  rw [this]
  congr 1
  have h1 : (n &&& (18446744073709551615 - 1)) / 2 = n / 2 &&& 9223372036854775807 := Nat.and_div_two
  have h2 : n / 2 &&& 9223372036854775807 = n / 2 % 9223372036854775808 := Nat.and_two_pow_sub_one_eq_mod (n / 2) 63
  have h3 : (n &&& (18446744073709551615 - 1)) % 2 ^ 1 = (n % 2 ^ 1) &&& ((18446744073709551615 - 1) % 2 ^ 1) := Nat.and_mod_two_pow
  simp at h1 h3 ⊢
  omega
theorem clear1 (n : Nat) (h : n < 18446744073709551616) : bits .andNot .u64 (n : Int) 2 = ((n / 4 * 4 + n % 2 : Nat) : Int) := by
  have := u64_andNot_nat n 2 h (by omega)
  rw [show (((2 : Nat) : Int)) = 2 from rfl] at this
  rw [this]
  congr 1
  have h0 : n &&& (18446744073709551615 - 2) = n &&& 18446744073709551613 := rfl
  have h1 : (n &&& 18446744073709551613) / 2 ^ 2 = n / 2 ^ 2 &&& 18446744073709551613 / 2 ^ 2 := Nat.and_div_two_pow
  have h2 : n / 4 &&& 4611686018427387903 = n / 4 % 4611686018427387904 := Nat.and_two_pow_sub_one_eq_mod (n / 4) 62
  have h3 : (n &&& 18446744073709551613) % 2 ^ 2 = (n % 2 ^ 2) &&& (18446744073709551613 % 2 ^ 2) := Nat.and_mod_two_pow
  have h4 : n % 4 &&& 1 = n % 4 % 2 := Nat.and_two_pow_sub_one_eq_mod (n % 4) 1
  rw [h0]
  simp at h1 h3
  omega

set_option maxRecDepth 100000 in
theorem order_any (x : V) (w : World) (hx : x.Wf) :
    Calls Try.prog 48 #[.agg (arr 49 (cellAt x))] w fun e w' => e = .returned (.agg (arr 49 (cellAt x.ord))) ∧ Fr (fun _ => False) w w' := by
  have hM := Mem.refl (fun _ => False) w
  obtain ⟨n32, h32⟩ : ∃ n, x.u 32 / 2 * 2 = n := ⟨_, rfl⟩
  obtain ⟨n42, h42⟩ : ∃ n, x.u 42 / 2 * 2 = n := ⟨_, rfl⟩
  obtain ⟨n40, h40⟩ : ∃ n, x.u 40 / 4 * 4 + x.u 40 % 2 = n := ⟨_, rfl⟩
  obtain ⟨n45, h45⟩ : ∃ n, x.u 45 &&& 546 = n := ⟨_, rfl⟩
  obtain ⟨n46, h46⟩ : ∃ n, x.u 46 &&& 546 = n := ⟨_, rfl⟩
  have e32 := clear0 _ (hx.u 32)
  have e42 := clear0 _ (hx.u 42)
  have e40 := clear1 _ (hx.u 40)
  have e45 : bits .and .u64 (x.u 45 : Int) 546 = _ := u64_and_nat _ 546 (hx.u 45) (by omega)
  have e46 : bits .and .u64 (x.u 46 : Int) 546 = _ := u64_and_nat _ 546 (hx.u 46) (by omega)
  rw [h32] at e32
  rw [h42] at e42
  rw [h40] at e40
  rw [h45] at e45
  rw [h46] at e46
  have hR : Hid (x.ord = (((((x.setU 0 0).setU 32 n32).setU 42 n42).setU 40 n40).setU 45 n45).setU 46 n46) := by
    show x.ord = _
    rw [← h32, ← h42, ← h40, ← h45, ← h46]; rfl
  clear h32 h42 h40 h45 h46
  go_enter Try.func48, Try.ntmps48
  go_wp2_with (first
    | (refine wpList_box_fn (gd_none rfl) 30 _ rfl 49 _ rfl hM ?_; clear hM; intro w1 g1 hg1 hl1 hM; dsimp only [List.nil_append, List.cons_append] at hM)
    | (refine wpList_alloc_fn (gd_none rfl) 30 rfl 49 _ Try.zero30 hM ?_; clear hM; intro w2 g2 hg2 hl2 hM; dsimp only [List.nil_append, List.cons_append] at hM)
    | (refine wpList_put_fn (gd_none rfl) 22 _ _ rfl 0 g1 30 49 _ hM rfl 0 rfl (.int .u64 (0 : Nat)) rfl Try.info22 (by omega) rfl ?_; clear hM; intro wp hwp hM; dsimp only [List.set_cons_zero, List.set_cons_succ] at hM)
    | (refine wpList_cell_fn (gd_none rfl) 22 _ rfl 0 g1 30 49 _ hM rfl 32 rfl _ Try.underlying22 rfl (by omega) (.int .u64 (x.u 32 : Nat)) rfl ?_)
    | (refine wpList_put_fn (gd_none rfl) 22 _ _ rfl 0 g1 30 49 _ hM rfl 32 rfl (.int .u64 (n32 : Nat)) rfl Try.info22 (by omega) rfl ?_; clear hM; intro wp hwp hM; dsimp only [List.set_cons_zero, List.set_cons_succ] at hM)
    | (refine wpList_cell_fn (gd_none rfl) 22 _ rfl 0 g1 30 49 _ hM rfl 42 rfl _ Try.underlying22 rfl (by omega) (.int .u64 (x.u 42 : Nat)) rfl ?_)
    | (refine wpList_put_fn (gd_none rfl) 22 _ _ rfl 0 g1 30 49 _ hM rfl 42 rfl (.int .u64 (n42 : Nat)) rfl Try.info22 (by omega) rfl ?_; clear hM; intro wp hwp hM; dsimp only [List.set_cons_zero, List.set_cons_succ] at hM)
    | (refine wpList_cell_fn (gd_none rfl) 22 _ rfl 0 g1 30 49 _ hM rfl 40 rfl _ Try.underlying22 rfl (by omega) (.int .u64 (x.u 40 : Nat)) rfl ?_)
    | (refine wpList_put_fn (gd_none rfl) 22 _ _ rfl 0 g1 30 49 _ hM rfl 40 rfl (.int .u64 (n40 : Nat)) rfl Try.info22 (by omega) rfl ?_; clear hM; intro wp hwp hM; dsimp only [List.set_cons_zero, List.set_cons_succ] at hM)
    | (refine wpList_cell_fn (gd_none rfl) 22 _ rfl 0 g1 30 49 _ hM rfl 45 rfl _ Try.underlying22 rfl (by omega) (.int .u64 (x.u 45 : Nat)) rfl ?_)
    | (refine wpList_put_fn (gd_none rfl) 22 _ _ rfl 0 g1 30 49 _ hM rfl 45 rfl (.int .u64 (n45 : Nat)) rfl Try.info22 (by omega) rfl ?_; clear hM; intro wp hwp hM; dsimp only [List.set_cons_zero, List.set_cons_succ] at hM)
    | (refine wpList_cell_fn (gd_none rfl) 22 _ rfl 0 g1 30 49 _ hM rfl 46 rfl _ Try.underlying22 rfl (by omega) (.int .u64 (x.u 46 : Nat)) rfl ?_)
    | (refine wpList_put_fn (gd_none rfl) 22 _ _ rfl 0 g1 30 49 _ hM rfl 46 rfl (.int .u64 (n46 : Nat)) rfl Try.info22 (by omega) rfl ?_; clear hM; intro wp hwp hM; dsimp only [List.set_cons_zero, List.set_cons_succ] at hM)
    | (refine wpList_load_all (gd_none rfl) 30 _ rfl 0 g1 30 49 _ hM rfl rfl _ Try.underlying30 rfl Try.info30 ?_)
    | (refine wpList_store_all (gd_none rfl) 30 _ _ rfl 1 g2 30 49 _ hM rfl rfl _ rfl Try.info30 (by intro j _; simp only [upd_cellU _ _ _ (show kd 0 = .u from rfl), upd_cellU _ _ _ (show kd 32 = .u from rfl), upd_cellU _ _ _ (show kd 42 = .u from rfl), upd_cellU _ _ _ (show kd 40 = .u from rfl), upd_cellU _ _ _ (show kd 45 = .u from rfl), upd_cellU _ _ _ (show kd 46 = .u from rfl)]; exact cell_one _ j) ?_; clear hM; intro ws hws hM; dsimp only [List.set_cons_zero, List.set_cons_succ] at hM))
  simp only [upd_cellU _ _ _ (show kd 0 = .u from rfl), upd_cellU _ _ _ (show kd 32 = .u from rfl), upd_cellU _ _ _ (show kd 42 = .u from rfl), upd_cellU _ _ _ (show kd 40 = .u from rfl), upd_cellU _ _ _ (show kd 45 = .u from rfl), upd_cellU _ _ _ (show kd 46 = .u from rfl)] at hM
  refine bodyPost_ret (ret_fn rfl _ 1 g2 49 _ hM rfl rfl _ Try.underlying30 rfl Try.info30) rfl ?_
  exact ⟨by rw [hR.out], hM.fr⟩
end Go.Proofs.Ytjiolobkobpohaa
