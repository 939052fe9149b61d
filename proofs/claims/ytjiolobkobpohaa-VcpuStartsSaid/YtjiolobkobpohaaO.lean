/- The calls' functions: console. -/
import Derived.Test.YtjiolobkobpohaaN
namespace Go.Proofs.Ytjiolobkobpohaa
open Go.RowKit Go.BigFrame

section
variable {S : Nat → Prop} {w0 w : World} {L : List Ent}
theorem Mem.putC (hM : Mem S w0 w L) (k : Nat) {g n : Nat} {t : TypeId} {f : Nat → Value} (hk : L[k]? = some (.fn g t n f)) (b : Nat) (v : Value) : Mem S w0 (w.setCell ⟨g, b, none⟩ v) (L.set k (.fn g t n (upd f b v))) := by
  have hH : Has w g t (arr n f) := hM.ok _ (List.mem_of_getElem? hk)
  refine hM.turn k hk rfl (Fr.store w g b v) ?_
  show Has _ g t _
  rw [← arr_set]
  exact hH.set b v
theorem Mem.putV (hM : Mem S w0 w L) (i : Nat) {g n : Nat} {l : Nat → V} (hi : L[i]? = some (.vs g n l)) (k j : Nat) (hk : k < n) (hj : j < 52) (v : Value) (z' : V) (hz : upd (cellAt (l k)) j v = cellAt z') :
    Mem S w0 (w.setCell ⟨g, k * 52 + j, none⟩ v) (L.set i (.vs g n (upd l k z'))) := by
  obtain ⟨cur, e1, e2⟩ := hM.ok _ (List.mem_of_getElem? hi)
  refine hM.turn i hi rfl (Fr.store w g _ v) ⟨_, e1.set _ v, ?_⟩
  intro k2 j2 hk2 hj2
  rw [Array.getElem?_setIfInBounds]
  by_cases he : k2 = k
  · subst he
    rw [upd_same, ← hz]
    by_cases hj3 : j = j2
    · subst hj3
      have := vs_lt e2 hk hj
      rw [if_pos rfl, if_pos this, upd_same]
    · rw [if_neg (by omega), e2 k2 j2 hk2 hj2, upd_ne _ _ _ _ (fun e => hj3 e.symm)]
  · rw [if_neg (by omega), e2 k2 j2 hk2 hj2, upd_ne _ _ _ _ he]
theorem Mem.frozen (hM : Mem S w0 w L) {g n : Nat} {t : TypeId} {f : Nat → Value} (k : Nat) (hk : L[k]? = some (.fn g t n f)) (b : Nat) : w.frozen? ⟨g, b, none⟩ = false := by
  have hH : Has w g t (arr n f) := hM.ok _ (List.mem_of_getElem? hk)
  exact hH.frozen b
theorem Mem.frozenV (hM : Mem S w0 w L) {g n : Nat} {l : Nat → V} (i : Nat) (hi : L[i]? = some (.vs g n l)) (b : Nat) : w.frozen? ⟨g, b, none⟩ = false := by
  obtain ⟨cur, e1, e2⟩ := hM.ok _ (List.mem_of_getElem? hi)
  exact e1.frozen b
end

set_option maxRecDepth 100000 in
theorem console_any (gb gc gv n : Nat) (L : Nat → V) (r : CR) (w : World) (hM0 : Mem (SC gc gv) w w (LC gc gv n L r)) (hb : Has w gb 53 #[.pointer (some ⟨gc, 0, none⟩)]) (hbg : gb ≠ gc) :
    Calls Try.prog 41 #[.pointer (some ⟨gb, 0, none⟩)] w fun e w' => ∃ q, w.heap.size ≤ q ∧ Has w' q 5 #[.int .u8 ((r.x 10 % 256 : Nat) : Int)] ∧ Fin0 (SC gc gv) w (LC gc gv n L { r with out := .slice (some ⟨q, 0, none⟩) 1 1, val := r.x 11 }) e w' := by
  have hM := Lib.hid hM0
  have hgc : gc < w.heap.size := Ent.ok_lt (hM0.ok (.fn gc 55 39 (cellC r)) (by simp [LC]))
  have hgb : gb < w.heap.size := hb.lt
  obtain ⟨a, ha⟩ : ∃ a, r.x 10 = a := ⟨_, rfl⟩
  obtain ⟨b, hb11⟩ : ∃ a, r.x 11 = a := ⟨_, rfl⟩
  obtain ⟨q, hq⟩ : ∃ q, a % 256 = q := ⟨_, rfl⟩
  have ew : IntKind.u8.wrap (a : Int) = q := by rw [IntKind.wrap_u8]; omega
  have hc12 : cellC r 12 = .int .u64 (a : Int) := by rw [← ha]; rfl
  have hc13 : cellC r 13 = .int .u64 (b : Int) := by rw [← hb11]; rfl
  have hf : Fr (fun _ => False) w (w.alloc (Obj.cells #[.int .u8 (q : Int)] 5)) := (Fr.refl _ _).alloc _
  have hM1 := hM0.call hf
  have d0 : w.drew.cell? ⟨gb, 0, none⟩ = some (.pointer (some ⟨gc, 0, none⟩)) := by simpa using hb.cell 0
  have d12 : w.drew.cell? ⟨gc, 12, none⟩ = some (.int .u64 (a : Int)) := by rw [← hc12]; simpa using Mem.cell hM0 1 rfl 12 (by omega)
  have d13 : w.drew.cell? ⟨gc, 13, none⟩ = some (.int .u64 (b : Int)) := by rw [← hc13]; simpa using Mem.cell hM0 1 rfl 13 (by omega)
  have c0 : w.cell? ⟨gb, 0, none⟩ = some (.pointer (some ⟨gc, 0, none⟩)) := by simpa using d0
  have c12 : w.cell? ⟨gc, 12, none⟩ = some (.int .u64 (a : Int)) := by simpa using d12
  have c13 : w.cell? ⟨gc, 13, none⟩ = some (.int .u64 (b : Int)) := by simpa using d13
  have hbg2 : gc ≠ gb := fun e => hbg e.symm
  have k0 : (w.alloc (Obj.cells #[.int .u8 (q : Int)] 5)).cell? ⟨gb, 0, none⟩ = some (.pointer (some ⟨gc, 0, none⟩)) := (hf.has hb (fun h => h)).cell 0
  have k12 : (w.alloc (Obj.cells #[.int .u8 (q : Int)] 5)).cell? ⟨gc, 12, none⟩ = some (.int .u64 (a : Int)) := by rw [← hc12]; exact Mem.cell hM1 1 rfl 12 (by omega)
  have k13 : (w.alloc (Obj.cells #[.int .u8 (q : Int)] 5)).cell? ⟨gc, 13, none⟩ = some (.int .u64 (b : Int)) := by rw [← hc13]; exact Mem.cell hM1 1 rfl 13 (by omega)
  have k37 : (w.alloc (Obj.cells #[.int .u8 (q : Int)] 5)).cell? ⟨gc, 37, none⟩ = some r.out := Mem.cell hM1 1 rfl 37 (by omega)
  have k35 : (w.alloc (Obj.cells #[.int .u8 (q : Int)] 5)).cell? ⟨gc, 35, none⟩ = some (.int .u64 (r.val : Int)) := Mem.cell hM1 1 rfl 35 (by omega)
  have f37 : (w.alloc (Obj.cells #[.int .u8 (q : Int)] 5)).frozen? ⟨gc, 37, none⟩ = false := Mem.frozen hM1 1 rfl 37
  have f35 : (w.alloc (Obj.cells #[.int .u8 (q : Int)] 5)).frozen? ⟨gc, 35, none⟩ = false := Mem.frozen hM1 1 rfl 35
  have hW : (w.alloc (Obj.cells #[.int .u8 (q : Int)] 5)).setCell ⟨gc, 37, none⟩ (.slice (some ⟨w.heap.size, 0, none⟩) 1 1) = (w.setCell ⟨gc, 37, none⟩ (.slice (some ⟨w.heap.size, 0, none⟩) 1 1)).alloc (Obj.cells #[.int .u8 (q : Int)] 5) := by
    exact World.setCell_alloc_past _ gc 37 _ hgc
  have hM2 := hM1.putC 1 rfl 37 (.slice (some ⟨w.heap.size, 0, none⟩) 1 1)
  rw [hW] at hM2
  have m35 := Mem.cell hM2 1 rfl 35 (by omega)
  have e35 : upd (cellC r) 37 (.slice (some ⟨w.heap.size, 0, none⟩) 1 1) 35 = .int .u64 (r.val : Int) := rfl
  rw [e35] at m35
  have g35 := Mem.frozen hM2 1 rfl 35
  have HM2 := Lib.hid hM2
  clear e35 hW hM2
  have HM1 := Lib.hid hM1
  clear hM1 hc12 hc13 hf
  have HQ := Lib.hid hq
  have HA := Lib.hid ha
  have HB := Lib.hid hb11
  clear hM0 ha hb11 hq hb
  go_enter Try.func41, Try.ntmps41
  go_wp2_with fail
  go_region_held3 (fun w' => w'.cell? ⟨gb, 0, none⟩ = some (.pointer (some ⟨gc, 0, none⟩)) ∧ w'.cell? ⟨gc, 12, none⟩ = some (.int .u64 (a : Int)) ∧ w'.cell? ⟨gc, 13, none⟩ = some (.int .u64 (b : Int))) (first | exact ⟨d0, d12, d13⟩ | (simp [k0, k12, k13]; done) | (simp [World.cell?_alloc_some, World.cell?_setCell_other, c0, c12, c13]; done)) (fail)
  have hM3 := HM2.out.putC 1 rfl 35 (.int .u64 (b : Int))
  rw [World.setCell_alloc_past _ gc 35 _ (by simpa [World.setCell] using hgc)] at hM3
  have hM4 := hM3.drew
  have hBy : Has (((w.setCell ⟨gc, 37, none⟩ (.slice (some ⟨w.heap.size, 0, none⟩) 1 1)).setCell ⟨gc, 35, none⟩ (.int .u64 (b : Int))).alloc (Obj.cells #[.int .u8 (q : Int)] 5)) w.heap.size 5 #[.int .u8 (q : Int)] := by
    have := Has.new ((w.setCell ⟨gc, 37, none⟩ (.slice (some ⟨w.heap.size, 0, none⟩) 1 1)).setCell ⟨gc, 35, none⟩ (.int .u64 (b : Int))) 5 #[.int .u8 (q : Int)]
    simpa [World.setCell] using this
  have HBy := Lib.hid hBy
  have HM4 := Lib.hid hM4
  clear hM3 hM4 hBy m35 g35 k0 k12 k13 k37 k35 f37 f35
  go_wp2_with fail
  go_end0
  refine ⟨w.heap.size, Nat.le_refl _, ?_, rfl, ?_⟩
  · rw [HA.out, HQ.out]; exact HBy.out
  · have e : upd (upd (cellC r) 37 (.slice (some ⟨w.heap.size, 0, none⟩) 1 1)) 35 (.int .u64 (b : Int)) = cellC { r with out := .slice (some ⟨w.heap.size, 0, none⟩) 1 1, val := r.x 11 } := by
      rw [cellC_out, cellC_val, HB.out]
    have := HM4.out
    simp only [LC, List.set_cons_zero, List.set_cons_succ] at this
    rw [e] at this
    exact this
end Go.Proofs.Ytjiolobkobpohaa
