/- vcpu.Begin and citadelref17.Begin; awake. -/
import Derived.Test.YtjiolobkobpohaaI
import Derived.Laws.MakeOwn
namespace Go.Proofs.Ytjiolobkobpohaa
open Go.RowKit Go.BigFrame

theorem made_vs (n : Nat) : VsIn (madeCells (arr 52 (cellAt V.zero)) (n * 52)) n (fun _ => V.zero) := by
  intro k j hk hj
  have h1 : k * 52 + j < n * 52 := by omega
  have h2 : (k * 52 + j) % 52 = j := by omega
  simp only [madeCells, Array.getElem?_map, arr_size]
  rw [Array.getElem?_range, if_pos h1]
  simp only [Option.map_some, h2]
  rw [getElem!_def, arr_get _ _ _ hj]

section
variable {ops : Array Oper} {rest : List Oper} {o : Oper} {a : Act} {w w0 : World} {Q : Exit → Act → World → Prop} {S : Nat → Prop} {L : List Ent}
theorem wpList_make_vs (hgd : Gd ops o a) (x y : Operand) (ho : o.op = .makeSlice 24 x y) (n : Nat) (hx : a.eval x = .int .i64 n) (hy : a.eval y = .int .i64 n) (hn : n ≤ 64) (hM : Mem S w0 w L)
    (h : ∀ w' g, w.heap.size ≤ g → g < w'.heap.size → Mem S w0 w' (L ++ [.vs g n (fun _ => V.zero)]) → wpList Try.prog ops Q rest (a.put o.dst (.slice (some ⟨g, 0, none⟩) n n)) w') : wpList Try.prog ops Q (o :: rest) a w := by
  obtain ⟨i0, hi, hz0, hz1, hz2⟩ := info_parts Try.row32
  have hmk := run_make (w := w) (P := Try.prog) 24 32 i0 _ Try.underlying24 hi hz0 .i64 .i64 n n (by omega) (Int.le_refl _) (by rw [hz2]; omega) (by omega)
  rw [hz1, Int.toNat_natCast] at hmk
  refine wpList_want hgd fun K hK => ?_
  unfold Oper.wp execOp
  simp only [ho, hx, hy, Sem.run_bind, Sem.run_pure, hmk, Result.andThen_ok]
  refine hK _ _ (h _ _ (Nat.le_refl _) (by simp) (hM.add ((Fr.refl _ _).alloc _) ?_ (Nat.le_refl _)))
  exact ⟨_, Has.new w 32 _, made_vs n⟩
end

theorem built32 (x : V) : Try.prog.built 32 [(0, .agg (arr 49 (cellAt x))), (1, .int .i64 1)] = some (arr 52 (cellAt ((V.zero.withH x).setI 1))) := by kernel_rfl

/-- A guest's harts at their beginning. -/
def begun (pc : Nat) : V := (V.zero.withH (V.reset pc 0 0)).setI 1
def beginL (pc : Nat) : Nat → V := fun k => if k = 0 then begun pc else V.zero
theorem beginL_upd (pc : Nat) : upd (fun _ => V.zero) 0 (begun pc) = beginL pc := funext fun k => by simp only [upd, beginL]
def beginN (h : Int) : Nat := if 1 ≤ h ∧ h ≤ 64 then h.toNat else 0
theorem beginN_le (h : Int) : beginN h ≤ 64 := by unfold beginN; split <;> omega
theorem vsl_nil (w : World) (B : Nat) (l : Nat → V) : VSl w B (.slice none 0 0) 0 l := ⟨none, 0, rfl, Nat.le_refl _, Nat.zero_le _, fun _ => rfl, fun h => absurd h (Nat.lt_irrefl _)⟩
theorem zero_reset : V.zero.withH (V.reset 0 0 0) = V.zero := by
  refine V.ext3 (fun j => ?_) (fun j => ?_) rfl
  · simp only [V.withH, V.reset, V.setU, upd, V.zero]
    (repeat' split) <;> rfl
  · simp only [V.withH, V.reset, V.setU, V.zero]
    split <;> rfl

set_option maxRecDepth 100000 in
theorem begin_any (h : Int) (pc : Nat) (w : World) (hp : pc < 18446744073709551616) :
    Calls Try.prog 12 #[.int .i64 h, .int .u64 pc] w fun e w' => ∃ v, e = .returned v ∧ VSl w' w.heap.size v (beginN h) (beginL pc) ∧ Fr (fun _ => False) w w' := by
  by_cases h1 : h < 1
  · have hN : Hid (beginN h = 0) := by show beginN h = 0; unfold beginN; rw [if_neg (by omega)]
    go_enter Try.func12, Try.ntmps12
    go_wp2_with fail
    go_ret
    exact ⟨_, rfl, by rw [hN.out]; exact vsl_nil _ _ _, Fr.refl _ _⟩
  · have h1' : decide (h < 1) = false := by simpa using h1
    by_cases h2 : h ≤ 64
    · obtain ⟨n, rfl⟩ : ∃ n : Nat, h = n := ⟨h.toNat, by omega⟩
      have hn : n ≤ 64 := by omega
      have hn0 : 0 < n := by omega
      have hN : Hid (beginN n = n) := by show beginN n = n; unfold beginN; rw [if_pos (by omega)]; simp
      have h2' : decide (64 < (n : Int)) = false := by simp; omega
      have hM := Mem.refl (fun _ => False) w
      have HP := Lib.hid hp
      clear h1 h2 hp
      go_enter Try.func12, Try.ntmps12
      go_wp2_with (first
        | go_skip
        | (refine wpList_make_vs (gd_none rfl) _ _ rfl n rfl rfl hn hM ?_; clear hM; intro w1 g hg hgl hM; dsimp only [List.nil_append, List.cons_append] at hM)
        | (go_at_call 28; refine (reset_any _ 0 0 _ HP.out).mono ?_; rintro e w' ⟨rfl, hf⟩; replace hM := hM.call hf)
        | (refine wpList_build_fn (gd_none rfl) 32 _ rfl 52 (cellAt ((V.zero.withH (V.reset pc 0 0)).setI 1)) ?hb ?_; case hb => exact built32 (V.reset pc 0 0))
        | (refine wpList_store_vs (gd_none rfl) 32 _ _ rfl 0 g n _ hM rfl 0 _ 52 rfl (by first | rfl | omega) hn0 (by omega) (begun pc) rfl Try.info32 (begun pc) (fun _ _ => rfl) (fun j h1 h2 => by omega) ?_; clear hM; intro ws hws hM; dsimp only [List.set_cons_zero, List.set_cons_succ] at hM))
      rw [beginL_upd] at hM
      obtain ⟨e1, e2⟩ := hM.done (l' := beginL pc) (c := n) (fun _ _ => rfl) hg (Nat.le_refl _) (by unfold maxLen; omega)
      have E1 := Lib.hid e1
      have E2 := Lib.hid e2
      clear e1 e2
      go_ret
      exact ⟨_, rfl, by rw [hN.out]; exact E1.out, E2.out⟩
    · have hN : Hid (beginN h = 0) := by show beginN h = 0; unfold beginN; rw [if_neg (by omega)]
      have h2' : decide (64 < h) = true := by simp; omega
      clear h2
      go_enter Try.func12, Try.ntmps12
      go_wp2_with fail
      go_ret
      exact ⟨_, rfl, by rw [hN.out]; exact vsl_nil _ _ _, Fr.refl _ _⟩

set_option maxRecDepth 100000 in
theorem refBegin_any (h : Int) (pc : Nat) (w : World) (hp : pc < 18446744073709551616) :
    Calls Try.prog 13 #[.int .i64 h, .int .u64 pc] w fun e w' => ∃ v, e = .returned v ∧ VSl w' w.heap.size v (beginN h) (beginL pc) ∧ Fr (fun _ => False) w w' := by
  by_cases h1 : h < 1
  · have hN : Hid (beginN h = 0) := by show beginN h = 0; unfold beginN; rw [if_neg (by omega)]
    go_enter Try.func13, Try.ntmps13
    go_wp2_with fail
    go_ret
    exact ⟨_, rfl, by rw [hN.out]; exact vsl_nil _ _ _, Fr.refl _ _⟩
  · have h1' : decide (h < 1) = false := by simpa using h1
    by_cases h2 : h ≤ 64
    · obtain ⟨n, rfl⟩ : ∃ n : Nat, h = n := ⟨h.toNat, by omega⟩
      have hn : n ≤ 64 := by omega
      have hn0 : 0 < n := by omega
      have hN : Hid (beginN n = n) := by show beginN n = n; unfold beginN; rw [if_pos (by omega)]; simp
      have h2' : decide (64 < (n : Int)) = false := by simp; omega
      have hM := Mem.refl (fun _ => False) w
      have HP := Lib.hid hp
      clear h1 h2 hp
      go_enter Try.func13, Try.ntmps13
      go_upto_region 4 with (first | (refine wpList_make_vs (gd_none rfl) _ _ rfl n rfl rfl hn hM ?_; clear hM; intro w1 g hg hgl hM; dsimp only [List.nil_append, List.cons_append] at hM))
      go_wp2_with fail
      go_loopw [6] (fun t wr => ∃ k : Nat, k ≤ n ∧ t = .int .i64 k ∧ Mem (fun _ => False) w wr [.vs g n (fun _ => V.zero)]) (fun t _ => n - (intOf t).toNat)
      case atStart => exact ⟨0, Nat.zero_le _, rfl, hM⟩
      case round =>
        clear hM
        obtain ⟨k, hk, rfl, hM⟩ := hrel
        by_cases hlt : k < n
        · have hU : Hid (upd (fun _ => V.zero) k V.zero = fun _ => V.zero) := by
            show upd (fun _ => V.zero) k V.zero = fun _ => V.zero
            funext j; unfold upd; split <;> rfl
          have hz1 : ∀ j, j < 49 → cellAt (V.reset 0 0 0) j = cellAt V.zero j := fun j hj => by
            rw [← zero_reset]
            unfold cellAt
            cases hk : kd j with
            | u => simp [V.withH, hj]
            | b => simp [V.withH, hj]
            | i => have := kd_i hk; omega
          have HZ := Lib.hid hz1
          clear hz1
          go_wp2_with (first
            | go_skip
            | (go_at_call 29; refine (refReset_any 0 0 0 _ (by omega) (by omega) (by omega)).mono ?_; rintro e w' ⟨rfl, hf⟩; replace hM := hM.call hf)
            | (refine wpList_store_vs (gd_none rfl) 30 _ _ rfl 0 g n _ hM rfl k _ 49 rfl (by first | rfl | omega) hlt (by omega) (V.reset 0 0 0) rfl Try.info30 (V.zero) (HZ.out) (fun _ _ _ => rfl) ?_; clear hM; intro ws hws hM; dsimp only [List.set_cons_zero, List.set_cons_succ] at hM))

          rw [hU.out] at hM
          go_roundw
          case rel => exact ⟨k + 1, by omega, by go_num, hM⟩
          case measure => simp [intOf]; omega
        · obtain rfl : k = n := by omega
          go_wp2_with (first
            | go_skip
            | (go_at_call 29; refine (refReset_any _ 0 0 _ HP.out (by omega) (by omega)).mono ?_; rintro e w' ⟨rfl, hf⟩; replace hM := hM.call hf)
            | (refine wpList_build_fn (gd_none rfl) 32 _ rfl 52 (cellAt ((V.zero.withH (V.reset pc 0 0)).setI 1)) ?hb ?_; case hb => exact built32 (V.reset pc 0 0))
            | (refine wpList_store_vs (gd_none rfl) 32 _ _ rfl 0 g k _ hM rfl 0 _ 52 rfl (by first | rfl | omega) hn0 (by omega) (begun pc) rfl Try.info32 (begun pc) (fun _ _ => rfl) (fun j h1 h2 => by omega) ?_; clear hM; intro ws hws hM; dsimp only [List.set_cons_zero, List.set_cons_succ] at hM))
          rw [beginL_upd] at hM
          obtain ⟨e1, e2⟩ := hM.done (l' := beginL pc) (c := k) (fun _ _ => rfl) hg (Nat.le_refl _) (by unfold maxLen; omega)
          have E1 := Lib.hid e1
          have E2 := Lib.hid e2
          clear e1 e2
          go_ret
          exact ⟨_, rfl, by rw [hN.out]; exact E1.out, E2.out⟩
    · have hN : Hid (beginN h = 0) := by show beginN h = 0; unfold beginN; rw [if_neg (by omega)]
      have h2' : decide (64 < h) = true := by simp; omega
      clear h2
      go_enter Try.func13, Try.ntmps13
      go_wp2_with fail
      go_ret
      exact ⟨_, rfl, by rw [hN.out]; exact vsl_nil _ _ _, Fr.refl _ _⟩

set_option maxRecDepth 100000 in
theorem awake_any (w : World) : Calls Try.prog 14 #[] w fun e w' => e = .returned (.bool true) ∧ Fr (fun _ => False) w w' := by
  go_enter Try.func14, Try.ntmps14
  go_wp2_with fail
  refine (begin_any 2 2147483648 w (by omega)).mono ?_
  rintro e w1 ⟨v, rfl, hV, hF⟩
  obtain ⟨A1, c1, rfl, h1, h2, h3, h4⟩ := hV
  obtain ⟨g, rfl, hg, hok⟩ := h4 (by decide)
  have hok2 : (Ent.vs g 2 (beginL 2147483648)).ok w1 := hok
  have hM := Mem.start hF hg hok2
  clear h1 h2 h3 h4 hok hok2
  have e2 : beginN 2 = 2 := rfl
  go_wp2_with (first
    | go_skip
    | (refine wpList_cell_vs (gd_want rfl) 3 _ rfl 0 g 2 _ hM rfl 0 49 _ rfl (by first | rfl | omega) (by omega) (by omega) _ Try.underlying3 rfl (.int .i64 1) (rfl) ?_)
    | (refine wpList_cell_vs (gd_want rfl) 22 _ rfl 0 g 2 _ hM rfl 0 32 _ rfl (by first | rfl | omega) (by omega) (by omega) _ Try.underlying22 rfl (.int .u64 2147483648) (rfl) ?_)
    | (refine wpList_cell_vs (gd_want rfl) 3 _ rfl 0 g 2 _ hM rfl 1 49 _ rfl (by first | rfl | omega) (by omega) (by omega) _ Try.underlying3 rfl (.int .i64 0) (rfl) ?_))
  go_ret
  exact ⟨rfl, hM.fr⟩
end Go.Proofs.Ytjiolobkobpohaa
