/- The awake answer, and the three laws' walks. -/
import Derived.Test.YthpkdgneijggoaaF
import Derived.Deep.RegionWith
namespace Go.Proofs.Ythpkdgneijggoaa
open Go.RowKit

theorem run_eql_ptr_nil (w : World) (t e : TypeId) (a : Addr) (h : Try.prog.underlying t = some (.pointer e)) : (binOp .eql t (.pointer (some a)) (.pointer none)).run Try.prog w = .ok (.bool false) w := by
  go_simp

theorem awake_any (w : World) : Calls Try.prog 7 #[] w fun e w' => e = .returned (.bool true) ∧ Fr (fun _ => False) w w' := by
  go_enter Try.func7, Try.ntmps7
  go_wp2_with fail
  refine (new_yes 2 w (by omega)).mono ?_
  rintro e w1 ⟨rfl, rfl⟩
  go_wp2_with fail
  have ht : TlbAt (w.alloc (.cells #[.int .i64 2, .slice none 0 0] 52)) 52 (fun k => k = w.heap.size) w.heap.size 2 [] := ⟨_, Has.new _ _ _, rfl, Sl.nil _ _ _ _⟩
  have ht1 := ht.fr ((Fr.refl (fun _ => False) _).alloc (.cells #[.int .i64 1, .int .u64 5, .int .u64 9, .int .i64 2] 31)) (fun _ _ _ h => h)
  have HT := Lib.hid ht1
  clear ht ht1
  refine (put_any _ _ 2 [] ⟨1, 5, 9, 2⟩ _ HT.out (by simp) (by omega)).mono ?_
  rintro e w2 ⟨rfl, ht, hf⟩
  have hx := hf.has (Has.new (w.alloc (.cells #[.int .i64 2, .slice none 0 0] 52)) 31 #[.int .i64 1, .int .u64 5, .int .u64 9, .int .i64 2]) (by simp)
  have hx : Has w2 (w.heap.size + 1) 31 #[.int .i64 1, .int .u64 5, .int .u64 9, .int .i64 2] := by simpa using hx
  have hp : put 2 [] ⟨1, 5, 9, 2⟩ = [⟨1, 5, 9, 2⟩] := by decide
  rw [hp] at ht
  have HT := Lib.hid ht
  have HX := Lib.hid hx
  clear hp ht hx
  go_wp2_with fail
  refine (tlbLook_any _ _ _ _ 1 5 w2 HT.out (by simp)).mono ?_
  rintro e w3 ⟨rfl, hf3⟩
  have hx3 := hf3.has HX.out (fun h => h)
  have x0 := hx3.cell 0
  have x1 := hx3.cell 1
  have x2 := hx3.cell 2
  have x3 := hx3.cell 3
  rw [show told (look [⟨1, 5, 9, 2⟩] 1 5) = .tuple #[.agg #[.int .i64 1, .int .u64 5, .int .u64 9, .int .i64 2], .bool true] from rfl]
  have hsz := hx3.lt
  clear hx3
  go_wp2
  go_ret
  exact ⟨rfl, ((((Fr.refl _ _).alloc _).alloc _).trans (hf.trans hf3 (fun _ _ h => h.elim)) (fun k hk h => by omega)).alloc _⟩
end Go.Proofs.Ythpkdgneijggoaa
