/- Statements that draw their order: a class of worlds in which what we know of memory holds; a tail in one order. -/
import Derived.Test.YtjiolobkobpohaaF
import Derived.Deep.Quiet
import Derived.StillTail
import Derived.BigQuiet
namespace Go.Proofs.Ytjiolobkobpohaa
open Go.RowKit Go.BigFrame

section
variable {P : Program} {ops : Array Oper} {rest : List Oper} {o : Oper} {a : Act} {w w0 : World} {C : World → Prop} {Q : Act → Prop} {S : Nat → Prop} {L : List Ent}

theorem wpQuiet_yield {v : Value} (hgd : Gd ops o a) (h : ∀ w, C w → (execOp a.eval o).run P w = .ok (.value v) w) (hn : wpQuiet P ops C Q rest (a.put o.dst v)) : wpQuiet P ops C Q (o :: rest) a := by
  refine wpQuiet_step fun K hK => ?_
  rw [if_pos (show Region.wanted o (yielded ops a.tmps) = true from hgd)]
  refine ⟨v, fun w hw => ?_, hK _ hn⟩
  unfold Oper.quietAt
  rw [h w hw]
  exact ⟨rfl, rfl⟩
theorem wpQuiet_pure {v : Value} (hgd : Gd ops o a) (h : ∀ w, (execOp a.eval o).run P w = .ok (.value v) w) (hn : wpQuiet P ops C Q rest (a.put o.dst v)) : wpQuiet P ops C Q (o :: rest) a :=
  wpQuiet_yield hgd (fun w _ => h w) hn
theorem wpQuiet_pass (hw : Region.wanted o (yielded ops a.tmps) = false) (hn : wpQuiet P ops C Q rest (a.put o.dst undef)) : wpQuiet P ops C Q (o :: rest) a := by
  refine wpQuiet_step fun K hK => ?_
  rw [hw]
  exact hK _ hn
/-- A call that hands back one value in each world of the class, and leaves one of it. -/
theorem wpQuiet_call {v : Value} {F : FuncId} {args : Array Value} (hgd : Gd ops o a) (he : ∀ w, (execOp a.eval o).run P w = .ok (.enter F args) w)
    (h : ∀ w, C w → Calls P F args w fun e w' => e = .returned v ∧ C w') (hn : wpQuiet P ops C Q rest (a.put o.dst v)) : wpQuiet P ops C Q (o :: rest) a := by
  refine wpQuiet_step fun K hK => ?_
  rw [if_pos (show Region.wanted o (yielded ops a.tmps) = true from hgd)]
  refine ⟨v, fun w hw => ?_, hK _ hn⟩
  unfold Oper.quietAt
  rw [he w]
  exact ⟨rfl, h w hw⟩

theorem run_cell (ty : TypeId) (x : Operand) (ho : o.op = .load ty x) (p : Addr) (hx : a.eval x = .pointer (some p)) (d : TypeDesc) (hu : P.underlying ty = some d) (hd : d.isRow = false) (v : Value) (hc : w.cell? p = some v) :
    (execOp a.eval o).run P w = .ok (.value v) w := by
  have hagg : (isAgg ty).run P w = .ok false w := by
    unfold isAgg
    rw [Sem.run_bind, run_underlying hu w]
    cases d <;> simp_all
  have hl : (loadVar ty p).run P w = .ok v w := by simp [loadVar, Sem.run_bind, hagg, load, Sem.run, hc]
  unfold execOp
  simp only [ho, hx, Instr.loadAt, Instr.sureAddr, Sem.run_bind, Sem.run_pure, Result.andThen_ok, hl]
theorem run_row (ty : TypeId) (x : Operand) (ho : o.op = .load ty x) (b off m : Nat) (f : Nat → Value) (hx : a.eval x = .pointer (some ⟨b, off, none⟩)) (d : TypeDesc) (hu : P.underlying ty = some d) (hd : d.isRow = true) (hi : (P.info? ty).map (·.size) = some m)
    (hc : ∀ j, j < m → w.cell? ⟨b, off + j, none⟩ = some (f j)) : (execOp a.eval o).run P w = .ok (.value (.agg (arr m f))) w := by
  have hl : (loadVar ty ⟨b, off, none⟩).run P w = .ok (.agg (arr m f)) w := run_loadVar_mid w b off ty ((List.range m).map f) d (fun j v hv => by
    have hj : j < m := by have := (List.getElem?_eq_some_iff.1 hv).1; simpa using this
    rw [hc j hj]
    simpa [hj] using hv) hu hd (by simpa using hi)
  unfold execOp
  simp only [ho, hx, Instr.loadAt, Instr.sureAddr, Sem.run_bind, Sem.run_pure, Result.andThen_ok, hl]

theorem Mem.cell (hM : Mem S w0 w L) {g n : Nat} {t : TypeId} {f : Nat → Value} (k : Nat) (hk : L[k]? = some (.fn g t n f)) (b : Nat) (hb : b < n) : w.cell? ⟨g, b, none⟩ = some (f b) := by
  have hH : Has w g t (arr n f) := hM.ok _ (List.mem_of_getElem? hk)
  rw [hH.cell, arr_get _ _ _ hb]
theorem Mem.cellV (hM : Mem S w0 w L) {g n : Nat} {l : Nat → V} (i : Nat) (hi : L[i]? = some (.vs g n l)) (k j : Nat) (hk : k < n) (hj : j < 52) : w.cell? ⟨g, k * 52 + j, none⟩ = some (cellAt (l k) j) := by
  obtain ⟨cur, e1, e2⟩ := hM.ok _ (List.mem_of_getElem? hi)
  rw [e1.cell, e2 k j hk hj]

theorem wpQuiet_cell_fn (hgd : Gd ops o a) (ty : TypeId) (x : Operand) (ho : o.op = .load ty x) (k g : Nat) (t : TypeId) (n : Nat) (f : Nat → Value) (hk : L[k]? = some (.fn g t n f))
    (b : Nat) (hx : a.eval x = .pointer (some ⟨g, b, none⟩)) (d : TypeDesc) (hu : P.underlying ty = some d) (hd : d.isRow = false) (hb : b < n) (v : Value) (hv : f b = v)
    (h : wpQuiet P ops (fun w => Mem S w0 w L) Q rest (a.put o.dst v)) : wpQuiet P ops (fun w => Mem S w0 w L) Q (o :: rest) a :=
  wpQuiet_yield hgd (fun _ hM => run_cell ty x ho _ hx d hu hd v (by rw [Mem.cell hM k hk b hb, hv])) h
theorem wpQuiet_load_all (hgd : Gd ops o a) (ty : TypeId) (x : Operand) (ho : o.op = .load ty x) (k g : Nat) (t : TypeId) (n : Nat) (f : Nat → Value) (hk : L[k]? = some (.fn g t n f))
    (hx : a.eval x = .pointer (some ⟨g, 0, none⟩)) (d : TypeDesc) (hu : P.underlying ty = some d) (hd : d.isRow = true) (hin : (P.info? ty).map (·.size) = some n)
    (h : wpQuiet P ops (fun w => Mem S w0 w L) Q rest (a.put o.dst (.agg (arr n f)))) : wpQuiet P ops (fun w => Mem S w0 w L) Q (o :: rest) a :=
  wpQuiet_yield hgd (fun _ hM => run_row ty x ho g 0 n f hx d hu hd hin (fun j hj => by rw [Nat.zero_add]; exact Mem.cell hM k hk j hj)) h
theorem wpQuiet_load_vs (hgd : Gd ops o a) (ty : TypeId) (x : Operand) (ho : o.op = .load ty x) (i g n : Nat) (l : Nat → V) (hi : L[i]? = some (.vs g n l))
    (k off m : Nat) (hx : a.eval x = .pointer (some ⟨g, off, none⟩)) (hoff : off = k * 52) (hk : k < n) (hm : m ≤ 52) (d : TypeDesc) (hu : P.underlying ty = some d) (hd : d.isRow = true) (hin : (P.info? ty).map (·.size) = some m)
    (h : wpQuiet P ops (fun w => Mem S w0 w L) Q rest (a.put o.dst (.agg (arr m (cellAt (l k)))))) : wpQuiet P ops (fun w => Mem S w0 w L) Q (o :: rest) a := by
  subst hoff
  exact wpQuiet_yield hgd (fun _ hM => run_row ty x ho g (k * 52) m _ hx d hu hd hin (fun j hj => Mem.cellV hM i hi k j hk (by omega))) h
theorem wpQuiet_cell_vs (hgd : Gd ops o a) (ty : TypeId) (x : Operand) (ho : o.op = .load ty x) (i g n : Nat) (l : Nat → V) (hi : L[i]? = some (.vs g n l))
    (k j off : Nat) (hx : a.eval x = .pointer (some ⟨g, off, none⟩)) (hoff : off = k * 52 + j) (hk : k < n) (hj : j < 52) (d : TypeDesc) (hu : P.underlying ty = some d) (hd : d.isRow = false) (v : Value) (hv : cellAt (l k) j = v)
    (h : wpQuiet P ops (fun w => Mem S w0 w L) Q rest (a.put o.dst v)) : wpQuiet P ops (fun w => Mem S w0 w L) Q (o :: rest) a := by
  subst hoff
  exact wpQuiet_yield hgd (fun _ hM => run_cell ty x ho _ hx d hu hd v (by rw [Mem.cellV hM i hi k j hk hj, hv])) h
theorem wpQuiet_load_rd {wr : World} (hgd : Gd ops o a) (ty : TypeId) (x : Operand) (ho : o.op = .load ty x) (b off n : Nat) (l : Nat → V) (hR : RdV wr b off n l)
    (k o2 m : Nat) (hx : a.eval x = .pointer (some ⟨b, o2, none⟩)) (ho2 : o2 = off + k * 52) (hk : k < n) (hm : m ≤ 52) (d : TypeDesc) (hu : P.underlying ty = some d) (hd : d.isRow = true) (hin : (P.info? ty).map (·.size) = some m)
    (h : wpQuiet P ops (fun w' => ∃ n, w' = wr.drewN n) Q rest (a.put o.dst (.agg (arr m (cellAt (l k)))))) : wpQuiet P ops (fun w' => ∃ n, w' = wr.drewN n) Q (o :: rest) a := by
  subst ho2
  refine wpQuiet_yield hgd (fun w' hw' => ?_) h
  obtain ⟨q, rfl⟩ := hw'
  refine run_row ty x ho b (off + k * 52) m _ hx d hu hd hin (fun j hj => ?_)
  have := (hR.fr ((Fr.refl (fun _ => False) wr).drewN q) (fun _ h => h)).at_ k j hk (by omega)
  rw [Nat.add_assoc]; exact this
end

section
variable {ops : Array Oper} {rest : List Oper} {o : Oper} {a : Act} {C : World → Prop} {Q : Act → Prop}
theorem wpQuiet_neq_v (hgd : Gd ops o a) (p q : Operand) (y : TypeId) (ho : o.op = .binOp .neq 32 p q y) (x z : V) (hp : a.eval p = .agg (arr 52 (cellAt x))) (hq : a.eval q = .agg (arr 52 (cellAt z)))
    (c : Bool) (hc : (!(sameV x z)) = c) (h : wpQuiet Try.prog ops C Q rest (a.put o.dst (.bool c))) : wpQuiet Try.prog ops C Q (o :: rest) a := by
  subst hc
  refine wpQuiet_pure hgd (fun w => ?_) h
  unfold execOp
  simp only [ho, hp, hq, Sem.run_bind, run_eqGuard_agg w .neq 32 p q _ _ guard32, run_neq_v, Result.andThen_ok, Sem.run_pure]
theorem wpQuiet_eql_v (hgd : Gd ops o a) (p q : Operand) (y : TypeId) (ho : o.op = .binOp .eql 32 p q y) (x z : V) (hp : a.eval p = .agg (arr 52 (cellAt x))) (hq : a.eval q = .agg (arr 52 (cellAt z)))
    (c : Bool) (hc : sameV x z = c) (h : wpQuiet Try.prog ops C Q rest (a.put o.dst (.bool c))) : wpQuiet Try.prog ops C Q (o :: rest) a := by
  subst hc
  refine wpQuiet_pure hgd (fun w => ?_) h
  unfold execOp
  simp only [ho, hp, hq, Sem.run_bind, run_eqGuard_agg w .eql 32 p q _ _ guard32, run_eql_v, Result.andThen_ok, Sem.run_pure]
end

/-- A slice of virtual harts, to be read. -/
def SlR (w : World) (A : Option Addr) (n : Nat) (l : Nat → V) : Prop := 0 < n → ∃ b off, A = some ⟨b, off, none⟩ ∧ RdV w b off n l
theorem SlR.fr {w w' : World} {A : Option Addr} {n : Nat} {l : Nat → V} {T : Nat → Prop} (h : SlR w A n l) (hf : Fr T w w') (hn : ∀ b, b < w.heap.size → ¬ T b) : SlR w' A n l := fun h0 => by
  obtain ⟨b, off, e, hR⟩ := h h0
  exact ⟨b, off, e, hR.fr hf (fun hb => hn b hb)⟩
noncomputable def sameVs (n : Nat) (l : Nat → V) (m : Nat) (l' : Nat → V) : Bool := decide (n = m) && @decide (∀ k, k < n → sameV (l k) (l' k) = true) (Classical.propDecidable _)

set_option maxRecDepth 100000 in
theorem sameVcpus_any (A : Option Addr) (n ca : Nat) (l : Nat → V) (B : Option Addr) (m cb : Nat) (l' : Nat → V) (w : World) (hn : n ≤ maxLen) (hm : m ≤ maxLen) (hA : SlR w A n l) (hB : SlR w B m l') :
    Calls Try.prog 11 #[.slice A n ca, .slice B m cb] w fun e w' => e = .returned (.bool (sameVs n l m l')) ∧ ∃ q, w' = w.drewN q := by
  unfold maxLen at hn hm
  by_cases he : n = m
  · subst he
    have HA := Lib.hid hA
    have HB := Lib.hid hB
    clear hA hB
    go_enter Try.func11, Try.ntmps11
    go_wp2_with fail
    go_loopw [5] (fun i wr => ∃ k : Nat, k ≤ n ∧ i = .int .i64 k ∧ (∀ j, j < k → sameV (l j) (l' j) = true) ∧ ∃ q, wr = w.drewN q) (fun i _ => n - (intOf i).toNat)
    case atStart => exact ⟨0, Nat.zero_le _, rfl, fun j hj => by omega, 0, rfl⟩
    case round =>
      obtain ⟨k, hk, rfl, hs, q, rfl⟩ := hrel
      have HS := Lib.hid hs
      clear hs
      by_cases hlt : k < n
      · obtain ⟨b1, o1, rfl, R1⟩ := HA.out (by omega)
        obtain ⟨b2, o2, rfl, R2⟩ := HB.out (by omega)
        have R1 := R1.fr ((Fr.refl (fun _ => False) w).drewN q) (fun _ h => h)
        have R2 := R2.fr ((Fr.refl (fun _ => False) w).drewN q) (fun _ h => h)
        rcases hv : sameV (l k) (l' k) with _ | _
        · have HV : Hid (sameVs n l n l' = false) := by
            show sameVs n l n l' = false
            unfold sameVs
            simp only [decide_true, Bool.true_and, decide_eq_false_iff_not]
            intro h
            have := h k hlt
            rw [hv] at this; cases this
          go_wp2_with fail
          refine wp_region_quiet_lit (by kernel_rfl) (by kernel_rfl) ?_
          repeat (first
            | (refine wpQuiet_load_rd (gd_none rfl) 32 (.tmp 19) rfl b1 o1 n l R1 k _ 52 rfl (by first | rfl | omega) hlt (by omega) _ Try.underlying32 rfl Try.info32 ?_; simp only [Act.put, List.setIfInBounds_toArray, List.set_cons_zero, List.set_cons_succ])
            | (refine wpQuiet_load_rd (gd_none rfl) 32 (.tmp 23) rfl b2 o2 n l' R2 k _ 52 rfl (by first | rfl | omega) hlt (by omega) _ Try.underlying32 rfl Try.info32 ?_; simp only [Act.put, List.setIfInBounds_toArray, List.set_cons_zero, List.set_cons_succ])
            | (refine wpQuiet_neq_v (gd_none rfl) _ _ _ rfl (l k) (l' k) rfl rfl true (by rw [hv]; rfl) ?_; simp only [Act.put, List.setIfInBounds_toArray, List.set_cons_zero, List.set_cons_succ])
            | go_big_quiet_step (fail))
          refine wpQuiet_nil ?_
          intro _ hw'
          obtain ⟨nq, hw''⟩ := hw'
          subst hw''
          go_wp2_with fail
          go_ret
          exact ⟨by rw [HV.out]; rfl, _, World.drewN_drewN ..⟩
        · have HV : Hid (∀ j, j < k + 1 → sameV (l j) (l' j) = true) := by
            intro j hj
            rcases Nat.lt_succ_iff_lt_or_eq.1 hj with h2 | h2
            · exact HS.out j h2
            · subst h2; exact hv
          go_wp2_with fail
          refine wp_region_quiet_lit (by kernel_rfl) (by kernel_rfl) ?_
          repeat (first
            | (refine wpQuiet_load_rd (gd_none rfl) 32 (.tmp 19) rfl b1 o1 n l R1 k _ 52 rfl (by first | rfl | omega) hlt (by omega) _ Try.underlying32 rfl Try.info32 ?_; simp only [Act.put, List.setIfInBounds_toArray, List.set_cons_zero, List.set_cons_succ])
            | (refine wpQuiet_load_rd (gd_none rfl) 32 (.tmp 23) rfl b2 o2 n l' R2 k _ 52 rfl (by first | rfl | omega) hlt (by omega) _ Try.underlying32 rfl Try.info32 ?_; simp only [Act.put, List.setIfInBounds_toArray, List.set_cons_zero, List.set_cons_succ])
            | (refine wpQuiet_neq_v (gd_none rfl) _ _ _ rfl (l k) (l' k) rfl rfl false (by rw [hv]; rfl) ?_; simp only [Act.put, List.setIfInBounds_toArray, List.set_cons_zero, List.set_cons_succ])
            | go_big_quiet_step (fail))
          refine wpQuiet_nil ?_
          intro _ hw'
          obtain ⟨nq, hw''⟩ := hw'
          subst hw''
          go_wp2_with fail
          go_roundw
          case rel => exact ⟨k + 1, by omega, by go_num, HV.out, _, by first | rfl | exact World.drewN_drewN ..⟩
          case measure => simp [intOf]; omega
      · have HV : Hid (sameVs n l n l' = true) := by
          show sameVs n l n l' = true
          unfold sameVs
          simp only [decide_true, Bool.true_and, decide_eq_true_eq]
          intro j hj
          exact HS.out j (by omega)
        go_wp2_with fail
        go_ret
        exact ⟨by rw [HV.out]; rfl, _, rfl⟩
  · have HV : Hid (sameVs n l m l' = false) := by
      show sameVs n l m l' = false
      unfold sameVs
      simp [he]
    have hne : ((n : Int) != (m : Int)) = true := by simp; omega
    clear he
    go_enter Try.func11, Try.ntmps11
    go_wp2_with fail
    go_ret
    exact ⟨by rw [HV.out]; rfl, 0, rfl⟩
end Go.Proofs.Ytjiolobkobpohaa
