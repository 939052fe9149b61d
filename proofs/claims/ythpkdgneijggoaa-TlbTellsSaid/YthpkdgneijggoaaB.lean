/- The methods of the TLB. -/
import Derived.Test.YthpkdgneijggoaaA
import Derived.Deep.QuietTactic
import Derived.BigQuiet
namespace Go.Proofs.Ythpkdgneijggoaa
open Go.RowKit

/-- At block p lies a TLB with this room and these entries; all of it in blocks of S. -/
def TlbAt (w : World) (ty : TypeId) (S : Nat → Prop) (p : Nat) (room : Int) (L : List Tr) : Prop :=
  ∃ v, Has w p ty #[.int .i64 room, v] ∧ S p ∧ Sl w (fun k => S k ∧ k ≠ p) 31 4 v L.length (flat L)

section
variable {w w' : World} {ty : TypeId} {S S' T : Nat → Prop} {p : Nat} {room : Int} {L : List Tr}
theorem TlbAt.weak (h : TlbAt w ty S p room L) (hs : ∀ k, k < w.heap.size → S k → S' k) : TlbAt w ty S' p room L := by
  obtain ⟨v, hp, hS, hv⟩ := h
  exact ⟨v, hp, hs p hp.lt hS, hv.weak (fun k hk h => ⟨hs k hk h.1, h.2⟩)⟩
theorem TlbAt.fr (h : TlbAt w ty S p room L) (hf : Fr T w w') (hd : ∀ k, k < w.heap.size → S k → ¬ T k) : TlbAt w' ty S p room L := by
  obtain ⟨v, hp, hS, hv⟩ := h
  exact ⟨v, hf.has hp (hd p hp.lt hS), hS, hv.fr hf (fun k hk h => hd k hk h.1)⟩
end

/-- S and what is new since w. -/
def More (S : Nat → Prop) (w : World) : Nat → Prop := fun k => S k ∨ w.heap.size ≤ k

/-- The new entries are stored. -/
theorem tlb_store {w w2 : World} {ty : TypeId} {S : Nat → Prop} {p : Nat} {room : Int} {L : List Tr} {v v2 : Value} {W : Nat} (hp2 : Has w2 p ty #[.int .i64 room, v]) (hS : S p)
    (hv2 : Sl w2 (fun k => W ≤ k) 31 4 v2 L.length (flat L)) (hfr : Fr (fun _ => False) w w2) (hlt : p < w.heap.size) (hW : w.heap.size ≤ W) :
    TlbAt (w2.setCell ⟨p, 1, none⟩ v2) ty (More S w) p room L ∧ Fr S w (w2.setCell ⟨p, 1, none⟩ v2) := by
  refine ⟨⟨v2, by simpa using hp2.set 1 v2, .inl hS, ?_⟩, (hfr.weak (fun _ _ h => h.elim)).setCell (fun _ => hS) _⟩
  exact (hv2.fr (T := fun k => k = p) (Fr.store w2 p 1 v2) (fun k _ (h : W ≤ k) => by omega)).weak (fun k _ h => ⟨.inr (Nat.le_trans hW h), by have : W ≤ k := h; omega⟩)

theorem tlb_keep {w w2 : World} {ty : TypeId} {S E : Nat → Prop} {p : Nat} {room : Int} {L : List Tr} {v v2 : Value} {n : Nat} (hp2 : Has w2 p ty #[.int .i64 room, v]) (hS : S p)
    (hv2 : Sl w2 E 31 4 v2 n (flat L)) (hfr : Fr S w w2) (hE : ∀ k, k < w2.heap.size → E k → More S w k ∧ k ≠ p) :
    TlbAt (w2.setCell ⟨p, 1, none⟩ v2) ty (More S w) p room L ∧ Fr S w (w2.setCell ⟨p, 1, none⟩ v2) := by
  have hn : n = L.length := by have := hv2.1; have := flat_length L; omega
  subst hn
  refine ⟨⟨v2, by simpa using hp2.set 1 v2, .inl hS, ?_⟩, hfr.setCell (fun _ => hS) _⟩
  exact ((hv2.weak hE).fr (T := fun k => k = p) (Fr.store w2 p 1 v2) (fun k _ h => h.2))

theorem Try.cf25 : ∀ (args : Array Value) (w : World), (callFunc 25 args).run Try.prog w = .ok (.enter 25 args) w := by intro args w; simp [callFunc, Try.func25, Try.f25]
theorem Try.cf27 : ∀ (args : Array Value) (w : World), (callFunc 27 args).run Try.prog w = .ok (.enter 27 args) w := by intro args w; simp [callFunc, Try.func27, Try.f27]

theorem flush_any (S : Nat → Prop) (p : Nat) (room : Int) (L : List Tr) (V : Int) (w : World) (h : TlbAt w 52 S p room L) (hl : L.length ≤ 64) :
    Calls Try.prog 10 #[.pointer (some ⟨p, 0, none⟩), .int .i64 V] w fun e w' =>
      e = .returned (.tuple #[]) ∧ TlbAt w' 52 (More S w) p room (L.filter fun t => t.vm != V) ∧ Fr S w w' := by
  obtain ⟨v, hp, hS, hv⟩ := h
  obtain ⟨A, c, rfl, hr, _, _⟩ := hv.form
  have hlt := hp.lt
  have hc1 := hp.cell 1
  have hf1 := hp.frozen 1
  have hr1 := hr.fr ((Fr.refl (fun _ => False) w).alloc (.cells #[.int .i64 V] 3)) (fun _ _ _ h => h)
  have HR := Lib.hid hr1; clear hr hr1
  have HV := Lib.hid hv; clear hv
  have HP := Lib.hid hp; clear hp
  go_enter Try.func10, Try.ntmps10
  go_wp2_with fail
  refine (left_any _ A L.length c L 25 [.pointer (some ⟨w.heap.size, 0, none⟩)] (fun t => t.vm != V) _ rfl (by omega) HR.out ?hpick Try.cf25).mono ?_
  case hpick =>
    intro t w1 hf
    exact flushFn_any t w.heap.size V w1 (hf.has (Has.new w 3 #[.int .i64 V]) (fun h => h) |>.cell 0) (by have := hf.size; simp at this; omega)
  rintro e w2 ⟨v2, rfl, hv2, hfr2⟩
  have hfr : Fr (fun _ => False) w w2 := ((Fr.refl _ _).alloc _).trans hfr2 (fun _ _ h => h)
  have hp2 := hfr.has HP.out (fun h => h)
  have c1 := hp2.cell 1
  have f1 := hp2.frozen 1
  obtain ⟨A2, k2, rfl, _, _, _⟩ := hv2.form
  go_wp2
  go_end0
  exact ⟨rfl, tlb_store hp2 hS hv2 hfr hlt (by simp)⟩

theorem flushPage_any (S : Nat → Prop) (p : Nat) (room : Int) (L : List Tr) (V G : Int) (w : World) (h : TlbAt w 52 S p room L) (hl : L.length ≤ 64) :
    Calls Try.prog 20 #[.pointer (some ⟨p, 0, none⟩), .int .i64 V, .int .u64 G] w fun e w' =>
      e = .returned (.tuple #[]) ∧ TlbAt w' 52 (More S w) p room (L.filter fun t => t.vm != V || t.pg != G) ∧ Fr S w w' := by
  obtain ⟨v, hp, hS, hv⟩ := h
  obtain ⟨A, c, rfl, hr, _, _⟩ := hv.form
  have hlt := hp.lt
  have hc1 := hp.cell 1
  have hf1 := hp.frozen 1
  have hr1 := hr.fr (((Fr.refl (fun _ => False) w).alloc (.cells #[.int .i64 V] 3)).alloc (.cells #[.int .u64 G] 29)) (fun _ _ _ h => h)
  have HR := Lib.hid hr1; clear hr hr1
  have HV := Lib.hid hv; clear hv
  have HP := Lib.hid hp; clear hp
  go_enter Try.func20, Try.ntmps20
  go_wp2_with fail
  refine (left_any _ A L.length c L 27 [.pointer (some ⟨w.heap.size, 0, none⟩), .pointer (some ⟨w.heap.size + 1, 0, none⟩)] (fun t => t.vm != V || t.pg != G) _ rfl (by omega) HR.out ?hpick Try.cf27).mono ?_
  case hpick =>
    intro t w1 hf
    have h0 := hf.has ((Fr.refl (fun _ => False) _).alloc (.cells #[.int .u64 G] 29) |>.has (Has.new w 3 #[.int .i64 V]) (fun h => h)) (fun h => h)
    have h1 := hf.has (Has.new (w.alloc (.cells #[.int .i64 V] 3)) 29 #[.int .u64 G]) (fun h => h)
    have hs := hf.size
    simp at hs
    exact flushPageFn_any t w.heap.size (w.heap.size + 1) V G w1 (h0.cell 0) (by simpa using h1.cell 0) (by omega) (by omega)
  rintro e w2 ⟨v2, rfl, hv2, hfr2⟩
  have hfr : Fr (fun _ => False) w w2 := (((Fr.refl _ _).alloc _).alloc _).trans hfr2 (fun _ _ h => h)
  have hp2 := hfr.has HP.out (fun h => h)
  have c1 := hp2.cell 1
  have f1 := hp2.frozen 1
  obtain ⟨A2, k2, rfl, _, _, _⟩ := hv2.form
  go_wp2
  go_end0
  exact ⟨rfl, tlb_store hp2 hS hv2 hfr hlt (by simp; omega)⟩
end Go.Proofs.Ythpkdgneijggoaa
