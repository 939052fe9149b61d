/- The calls' functions: base. -/
import Derived.Test.YtjiolobkobpohaaL
import Derived.Deep.RegionHeld3
namespace Go.Proofs.Ytjiolobkobpohaa
open Go.RowKit Go.BigFrame

/-- What a call's functions know of memory, and may turn: the harts' block, the call's own. -/
abbrev SC (gc gv : Nat) : Nat → Prop := fun k => k = gv ∨ k = gc
abbrev LC (gc gv n : Nat) (L : Nat → V) (r : CR) : List Ent := [.vs gv n L, .fn gc 55 39 (cellC r)]
theorem Mem.enter {S : Nat → Prop} {w0 w : World} {gc gv n : Nat} {L : Nat → V} {r : CR} (hM : Mem S w0 w (LC gc gv n L r)) : Mem (SC gc gv) w w (LC gc gv n L r) :=
  ⟨Fr.refl _ _, hM.ok, (fun x hx _ => by simp [LC] at hx; rcases hx with rfl | rfl <;> simp [SC, Ent.g]), hM.nd⟩
theorem Mem.meth {S : Nat → Prop} {w0 w w' : World} {gc gv n : Nat} {L L' : Nat → V} {r r' : CR} (hM : Mem S w0 w (LC gc gv n L r)) (h : Mem (SC gc gv) w w' (LC gc gv n L' r')) : Mem S w0 w' (LC gc gv n L' r') := by
  refine ⟨hM.fr.trans h.fr (fun i hi hs => ?_), h.ok, (fun x hx hl => ?_), h.nd⟩
  · rcases hs with rfl | rfl
    · exact hM.my (.vs i n L) (by simp [LC]) hi
    · exact hM.my (.fn i 55 39 (cellC r)) (by simp [LC]) hi
  · simp [LC] at hx
    rcases hx with rfl | rfl
    · exact hM.my (.vs gv n L) (by simp [LC]) hl
    · exact hM.my (.fn gc 55 39 (cellC r)) (by simp [LC]) hl
theorem Mem.tail {S : Nat → Prop} {w0 w w' : World} {gc gv n : Nat} {L L' : Nat → V} {r r' : CR} (h : Mem (SC gc gv) w w' (LC gc gv n L' r')) (hM : Mem S w0 w (LC gc gv n L r)) : Mem S w0 w' (LC gc gv n L' r') := hM.meth h

def CR.base (r : CR) : CR := if r.x 16 = 0 then { r with val := 33554432 } else if r.x 16 = 3 then (if isCall (r.x 10) then { r with val := 1 } else r) else { r with err := 18446744073709551614 }
structure CR.Wf (r : CR) : Prop where
  x : ∀ j, r.x j < 18446744073709551616
def Fin0 (S : Nat → Prop) (w : World) (L : List Ent) (e : Ending) (w' : World) : Prop := e = .returned (.tuple #[]) ∧ Mem S w w' L

set_option maxRecDepth 100000 in
theorem base_any (gc gv n : Nat) (L : Nat → V) (r : CR) (w : World) (hM0 : Mem (SC gc gv) w w (LC gc gv n L r)) :
    Calls Try.prog 38 #[.pointer (some ⟨gc, 0, none⟩)] w (Fin0 (SC gc gv) w (LC gc gv n L r.base)) := by
  have hM := hM0
  have hgc : gc < w.heap.size := Ent.ok_lt (hM0.ok (.fn gc 55 39 (cellC r)) (by simp [LC]))
  obtain ⟨fn, hfn⟩ : ∃ f, r.x 16 = f := ⟨_, rfl⟩
  obtain ⟨a, ha⟩ : ∃ a, r.x 10 = a := ⟨_, rfl⟩
  have hc := Mem.cell hM0 1 rfl 12 (by omega)
  have hc2 : cellC r 12 = .int .u64 a := by rw [← ha]; rfl
  rw [hc2] at hc
  clear hc2
  have HF := Lib.hid hfn
  have HA := Lib.hid ha
  clear hM0
  by_cases h0 : fn = 0
  · have hR : Hid (r.base = { r with val := 33554432 }) := by show r.base = _; unfold CR.base; rw [hfn, if_pos h0]
    subst h0
    clear hfn ha hc
    go_enter Try.func38, Try.ntmps38
    go_wp2_with (first
      | go_skip
      | (refine wpList_cell_fn (gd_none rfl) 22 _ rfl 1 gc 55 39 _ hM rfl 18 rfl _ Try.underlying22 rfl (by omega) (.int .u64 (0 : Nat)) (congrArg (fun n : Nat => Value.int .u64 (n : Int)) HF.out) ?_)
      | (refine wpList_put_fn (gd_none rfl) 22 _ _ rfl 1 gc 55 39 _ hM rfl 35 rfl (.int .u64 (33554432 : Nat)) rfl Try.info22 (by omega) rfl ?_; clear hM; intro wp hwp hM; dsimp only [List.set_cons_zero, List.set_cons_succ] at hM; rw [cellC_val] at hM))
    go_end0
    exact ⟨rfl, by rw [hR.out]; exact hM⟩
  by_cases h3 : fn = 3
  · have hR : Hid (r.base = if isCall a then { r with val := 1 } else r) := by show r.base = _; unfold CR.base; rw [hfn, if_neg h0, if_pos h3, ha]
    subst h3
    obtain ⟨ic, hic⟩ : ∃ b, isCall a = b := ⟨_, rfl⟩
    have HI := Lib.hid hic
    clear hfn ha h0 hic
    go_enter Try.func38, Try.ntmps38
    go_upto_region 5 with (first | (refine wpList_cell_fn (gd_none rfl) 22 _ rfl 1 gc 55 39 _ hM rfl 18 rfl _ Try.underlying22 rfl (by omega) (.int .u64 (3 : Nat)) (congrArg (fun n : Nat => Value.int .u64 (n : Int)) HF.out) ?_))
    try dsimp only [Act.put]
    have hcd : w.drew.cell? ⟨gc, 12, none⟩ = some (.int .u64 (a : Int)) := by simpa using hc
    go_region_held3 (fun w' => w'.cell? ⟨gc, 12, none⟩ = some (.int .u64 (a : Int))) (first | exact hcd | exact hK1.out) (first | (go_at_call 33; refine (calls_any gc _).mono ?_; rintro e w1 ⟨gb, q, rfl, hI⟩; have hK1 := Lib.hid ((hI.fr.cell (p := ⟨gc, 12, none⟩) hgc (fun h => h)).trans hcd); have hl := run_lookup_calls hI.map a; rw [HI.out] at hl))
    have hM := (hM.drew).call hI.fr
    cases ic with
    | false =>
      have hR2 : Hid (r.base = r) := by show r.base = r; rw [hR.out, HI.out]; rfl
      clear hl
      go_wp2_with fail
      go_end0
      exact ⟨rfl, by rw [hR2.out]; exact hM⟩
    | true =>
      have hR2 : Hid (r.base = { r with val := 1 }) := by show r.base = _; rw [hR.out, HI.out]; rfl
      clear hl
      go_wp2_with (first
        | go_skip
        | (refine wpList_put_fn (gd_none rfl) 22 _ _ rfl 1 gc 55 39 _ hM rfl 35 rfl (.int .u64 (1 : Nat)) rfl Try.info22 (by omega) rfl ?_; clear hM; intro wp hwp hM; dsimp only [List.set_cons_zero, List.set_cons_succ] at hM; rw [cellC_val] at hM))
      go_end0
      exact ⟨rfl, by rw [hR2.out]; exact hM⟩
  · have hR : Hid (r.base = { r with err := 18446744073709551614 }) := by show r.base = _; unfold CR.base; rw [hfn, if_neg h0, if_neg h3]
    have h0' : ((fn : Int) == 0) = false := by simp; omega
    have h3' : ((fn : Int) == 3) = false := by simp; omega
    clear hfn ha hc h0 h3
    go_enter Try.func38, Try.ntmps38
    go_wp2_with (first
      | go_skip
      | (refine wpList_cell_fn (gd_none rfl) 22 _ rfl 1 gc 55 39 _ hM rfl 18 rfl _ Try.underlying22 rfl (by omega) (.int .u64 (fn : Nat)) (congrArg (fun n : Nat => Value.int .u64 (n : Int)) HF.out) ?_)
      | (refine wpList_put_fn (gd_none rfl) 22 _ _ rfl 1 gc 55 39 _ hM rfl 34 rfl (.int .u64 (18446744073709551614 : Nat)) rfl Try.info22 (by omega) rfl ?_; clear hM; intro wp hwp hM; dsimp only [List.set_cons_zero, List.set_cons_succ] at hM; rw [cellC_err] at hM))
    go_end0
    exact ⟨rfl, by rw [hR.out]; exact hM⟩
end Go.Proofs.Ytjiolobkobpohaa
