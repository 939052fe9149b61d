/- The functions that were captured, called. -/
import Derived.Test.YtjiolobkobpohaaU
namespace Go.Proofs.Ytjiolobkobpohaa
open Go.RowKit Go.BigFrame
theorem hook_base (gb gc gv n : Nat) (L : Nat → V) (r : CR) (w : World) (hM : Mem (SC gc gv) w w (LC gc gv n L r)) (hb : Has w gb 53 #[.pointer (some ⟨gc, 0, none⟩)]) :
    Calls Try.prog 37 #[.pointer (some ⟨gb, 0, none⟩)] w (Fin0 (SC gc gv) w (LC gc gv n L r.base)) := by
  have hc : w.cell? ⟨gb, 0, none⟩ = some (.pointer (some ⟨gc, 0, none⟩)) := hb.cell 0
  clear hb
  go_enter Try.func37, Try.ntmps37
  go_wp2_with fail
  refine (base_any gc gv n L r w hM).mono ?_
  rintro e w' ⟨rfl, h⟩
  clear hc
  go_wp2_with fail
  go_end0
  exact ⟨rfl, h⟩
theorem hook_clock (gb gc gv n i c : Nat) (L : Nat → V) (r : CR) (w : World) (hM : Mem (SC gc gv) w w (LC gc gv n L r)) (hv : r.vs = .slice (some ⟨gv, 0, none⟩) n c) (hi : r.i = (i : Int)) (hin : i < n) (hn : n ≤ 382438827053) (hw : (L i).Wf) (hb : Has w gb 53 #[.pointer (some ⟨gc, 0, none⟩)]) :
    Calls Try.prog 39 #[.pointer (some ⟨gb, 0, none⟩)] w (Fin0 (SC gc gv) w (LC gc gv n (clockL r i L) (clockR r))) := by
  have hc : w.cell? ⟨gb, 0, none⟩ = some (.pointer (some ⟨gc, 0, none⟩)) := hb.cell 0
  have HV := Lib.hid hv
  have HI := Lib.hid hi
  clear hb hv hi
  go_enter Try.func39, Try.ntmps39
  go_wp2_with fail
  refine (clock_any gc gv n i c L r w hM HV.out HI.out hin hn hw).mono ?_
  rintro e w' ⟨rfl, h⟩
  clear hc
  go_wp2_with fail
  go_end0
  exact ⟨rfl, h⟩
theorem hook_state (gb gc gv n c i : Nat) (L : Nat → V) (r : CR) (w : World) (hM : Mem (SC gc gv) w w (LC gc gv n L r)) (hv : r.vs = .slice (some ⟨gv, 0, none⟩) n c) (hi : r.i = (i : Int)) (hin : i < n) (hn : n ≤ 382438827053) (hx : ∀ j, r.x j < 18446744073709551616) (hb : Has w gb 53 #[.pointer (some ⟨gc, 0, none⟩)]) :
    Calls Try.prog 44 #[.pointer (some ⟨gb, 0, none⟩)] w (Fin0 (SC gc gv) w (LC gc gv n (stateL r i n L) (stateR r n L))) := by
  have hc : w.cell? ⟨gb, 0, none⟩ = some (.pointer (some ⟨gc, 0, none⟩)) := hb.cell 0
  have HV := Lib.hid hv
  have HI := Lib.hid hi
  have HX := Lib.hid hx
  clear hb hv hi hx
  go_enter Try.func44, Try.ntmps44
  go_wp2_with fail
  refine (state_any gc gv n c i L r w hM HV.out HI.out hin hn HX.out).mono ?_
  rintro e w' ⟨rfl, h⟩
  clear hc
  go_wp2_with fail
  go_end0
  exact ⟨rfl, h⟩
theorem hook_poke (gb gc gv n c : Nat) (L : Nat → V) (r : CR) (w : World) (hM : Mem (SC gc gv) w w (LC gc gv n L r)) (hv : r.vs = .slice (some ⟨gv, 0, none⟩) n c) (hn : n ≤ 382438827053) (hw : ∀ k, k < n → (L k).Wf) (hx : ∀ j, r.x j < 18446744073709551616) (hb : Has w gb 53 #[.pointer (some ⟨gc, 0, none⟩)]) :
    Calls Try.prog 42 #[.pointer (some ⟨gb, 0, none⟩)] w (Fin0 (SC gc gv) w (LC gc gv n (pokeL r n L) (clockR r))) := by
  have hc : w.cell? ⟨gb, 0, none⟩ = some (.pointer (some ⟨gc, 0, none⟩)) := hb.cell 0
  have HV := Lib.hid hv
  have HW := Lib.hid hw
  have HX := Lib.hid hx
  clear hb hv hw hx
  go_enter Try.func42, Try.ntmps42
  go_wp2_with fail
  refine (poke_any gc gv n c L r w hM HV.out hn HW.out HX.out).mono ?_
  rintro e w' ⟨rfl, h⟩
  clear hc
  go_wp2_with fail
  go_end0
  exact ⟨rfl, h⟩
theorem hook_end (gb gc gv n c : Nat) (L : Nat → V) (r : CR) (w : World) (hM : Mem (SC gc gv) w w (LC gc gv n L r)) (hv : r.vs = .slice (some ⟨gv, 0, none⟩) n c) (hn : n ≤ 382438827053) (hb : Has w gb 53 #[.pointer (some ⟨gc, 0, none⟩)]) :
    Calls Try.prog 46 #[.pointer (some ⟨gb, 0, none⟩)] w (Fin0 (SC gc gv) w (LC gc gv n (endL r n L) (endR r))) := by
  have hc : w.cell? ⟨gb, 0, none⟩ = some (.pointer (some ⟨gc, 0, none⟩)) := hb.cell 0
  have HV := Lib.hid hv
  clear hb hv
  go_enter Try.func46, Try.ntmps46
  go_wp2_with fail
  refine (end_any gc gv n c L r w hM HV.out hn).mono ?_
  rintro e w' ⟨rfl, h⟩
  clear hc
  go_wp2_with fail
  go_end0
  exact ⟨rfl, h⟩
end Go.Proofs.Ytjiolobkobpohaa
