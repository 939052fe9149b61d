/- Look, Evict, Put, FlushAll, Entries, New of the TLB; Place; SameTrans. -/
import Derived.Test.YthpkdgneijggoaaB
import Derived.Deep.RegionLaw
import Derived.ChangeAlike
namespace Go.Proofs.Ythpkdgneijggoaa
open Go.RowKit

theorem place_eq (v n : Int) (h0 : 0 < n) : v % n = if v.tmod n < 0 then v.tmod n + n else v.tmod n := by
  have h := Int.emod_nonneg v (show n ≠ 0 by omega)
  have h2 := Int.emod_lt_of_pos v h0
  rw [Int.tmod_eq_emod]
  split <;> rename_i h3
  · rw [if_neg (by omega)]; omega
  · have hn : (n.natAbs : Int) = n := by omega
    rw [hn] at *
    rw [if_pos (by omega)]; omega

theorem place_any (v n : Int) (w : World) (h0 : 0 < n) (h1 : n ≤ 1000) :
    Calls Try.prog 13 #[.int .i64 v, .int .i64 n] w fun e w' => e = .returned (.int .i64 (v % n)) ∧ w' = w := by
  have hb := Int.tmod_lt_of_pos v h0
  have hc := Int.tmod_lt_of_pos (-v) h0
  rw [Int.neg_tmod] at hc
  have HE := Lib.hid (place_eq v n h0)
  by_cases hlt : v.tmod n < 0
  · go_enter Try.func13, Try.ntmps13
    go_wp2
    go_ret
    exact ⟨by rw [HE.out, if_pos hlt]; rfl, rfl⟩
  · go_enter Try.func13, Try.ntmps13
    go_wp2
    go_ret
    exact ⟨by rw [HE.out, if_neg (by omega)]; rfl, rfl⟩

def trv (t : Tr) : Value := .agg #[.int .i64 t.vm, .int .u64 t.pg, .int .u64 t.fr, .int .i64 t.pm]
def tr0 : Tr := ⟨0, 0, 0, 0⟩
def look (L : List Tr) (V G : Int) : Option Tr := L.find? fun t => t.vm == V && t.pg == G

theorem new_yes (room : Int) (w : World) (h : 1 ≤ room ∧ room ≤ 64) :
    Calls Try.prog 6 #[.int .i64 room] w fun e w' => e = .returned (.tuple #[.pointer (some ⟨w.heap.size, 0, none⟩), .int .i64 0]) ∧ w' = w.alloc (.cells #[.int .i64 room, .slice none 0 0] 52) := by
  obtain ⟨h1, h2⟩ := h
  go_enter Try.func6, Try.ntmps6
  go_wp2
  go_ret2
  exact ⟨rfl, rfl⟩

theorem new_no (room : Int) (w : World) (h : ¬ (1 ≤ room ∧ room ≤ 64)) :
    Calls Try.prog 6 #[.int .i64 room] w fun e w' => e = .returned (.tuple #[.pointer none, .int .i64 1]) ∧ w' = w := by
  by_cases h1 : room < 1
  · go_enter Try.func6, Try.ntmps6
    go_wp2
    go_ret2
    exact ⟨rfl, rfl⟩
  · have h2 : 64 < room := by omega
    go_enter Try.func6, Try.ntmps6
    go_wp2
    go_ret2
    exact ⟨rfl, rfl⟩

theorem flushAll_any (S : Nat → Prop) (p : Nat) (room : Int) (L : List Tr) (w : World) (h : TlbAt w 52 S p room L) :
    Calls Try.prog 22 #[.pointer (some ⟨p, 0, none⟩)] w fun e w' =>
      e = .returned (.tuple #[]) ∧ TlbAt w' 52 S p room [] ∧ Fr S w w' := by
  obtain ⟨v, hp, hS, hv⟩ := h
  have hlt := hp.lt
  have hc1 := hp.cell 1
  have hf1 := hp.frozen 1
  have HV := Lib.hid hv; clear hv
  have HP := Lib.hid hp; clear hp
  go_enter Try.func22, Try.ntmps22
  go_wp2
  go_end0
  exact ⟨rfl, ⟨_, by simpa using HP.out.set 1 (.slice none 0 0), hS, Sl.nil _ _ _ _⟩, (Fr.refl _ _).setCell (fun _ => hS) _⟩


/-- What Look tells. -/
def told (o : Option Tr) : Value := match o with
  | some t => .tuple #[.agg #[.int .i64 t.vm, .int .u64 t.pg, .int .u64 t.fr, .int .i64 t.pm], .bool true]
  | none => .tuple #[.agg #[.int .i64 0, .int .u64 0, .int .u64 0, .int .i64 0], .bool false]

theorem look_at (L : List Tr) (V G : Int) (k : Nat) (hk : k < L.length) (hno : look (L.take k) V G = none) (h : (L[k].vm == V && L[k].pg == G) = true) : look L V G = some L[k] := by
  have e : L.take k ++ L[k] :: L.drop (k + 1) = L := by rw [← List.drop_eq_getElem_cons hk, List.take_append_drop]
  generalize L[k] = x at *
  unfold look at *
  rw [← e, List.find?_append, hno, List.find?_cons_of_pos (p := fun t : Tr => t.vm == V && t.pg == G) h]
  rfl
theorem look_step (L : List Tr) (V G : Int) (k : Nat) (hk : k < L.length) (hno : look (L.take k) V G = none) (h : (L[k].vm == V && L[k].pg == G) = false) : look (L.take (k + 1)) V G = none := by
  unfold look at *
  rw [List.take_succ_eq_append_getElem hk, List.find?_append, hno]
  simpa using h

set_option maxHeartbeats 1600000 in
theorem tlbLook_any (S : Nat → Prop) (p : Nat) (room : Int) (L : List Tr) (V G : Int) (w : World) (h : TlbAt w 52 S p room L) (hl : L.length ≤ 64) :
    Calls Try.prog 15 #[.pointer (some ⟨p, 0, none⟩), .int .i64 V, .int .u64 G] w fun e w' => e = .returned (told (look L V G)) ∧ Fr (fun _ => False) w w' := by
  obtain ⟨v, hp, hS, hv⟩ := h
  obtain ⟨A, c, rfl, hr, _, _⟩ := hv.form
  have hlt := hp.lt
  have hc1 := hp.cell 1
  have HR := Lib.hid hr; clear hr
  have HV := Lib.hid hv; clear hv
  have HP := Lib.hid hp; clear hp
  go_enter Try.func15, Try.ntmps15
  go_wp2
  go_loopw [15] (fun i wr => ∃ k : Nat, k ≤ L.length ∧ i = .int .i64 k ∧ look (L.take k) V G = none ∧ Fr (fun _ => False) (w.alloc (.cells #[.int .i64 0, .int .u64 0, .int .u64 0, .int .i64 0] 31)) wr)
    (fun i _ => L.length - (intOf i).toNat)
  case atStart => exact ⟨0, Nat.zero_le _, rfl, rfl, Fr.refl _ _⟩
  case round =>
    obtain ⟨k, hk, rfl, hno, hfr⟩ := hrel
    have hfw : Fr (fun _ => False) w wr := ((Fr.refl _ _).alloc _).trans hfr (fun _ _ h => h)
    by_cases hkl : k < L.length
    · obtain ⟨b, off, hA, hb, hs, hc⟩ := HR.out (by intro h; have := flat_length L; rw [h] at this; simp at this; omega)
      subst hA
      obtain ⟨d0, d1, d2, d3⟩ := tr_cells hfw hb (by simp) hc hkl
      clear hc
      have hrs := hfr.has (Has.new w 31 #[.int .i64 0, .int .u64 0, .int .u64 0, .int .i64 0]) (fun h => h)
      have r0 := hrs.cell 0
      have r1 := hrs.cell 1
      have r2 := hrs.cell 2
      have r3 := hrs.cell 3
      have q0 := hrs.frozen 0
      have q1 := hrs.frozen 1
      have q2 := hrs.frozen 2
      have q3 := hrs.frozen 3
      have hsz := hfr.size
      simp at hsz
      have hlt2 : w.heap.size < wr.heap.size := by omega
      have HNO := Lib.hid hno; clear hno
      by_cases hv : L[k].vm = V
      · by_cases hg : L[k].pg = G
        · have HL := Lib.hid (look_at L V G k hkl HNO.out (by simp [hv, hg]))
          go_wp2
          refine bodyPost_ret (v := .tuple #[.agg #[.int .i64 V, .int .u64 G, .int .u64 L[k].fr, .int .i64 L[k].pm], .bool true]) (by simp [results, Try.results15, go_sem, r0, r1, r2, r3, hlt2]) rfl ⟨by rw [HL.out]; simp [told, hv, hg], ?_⟩
          exact ((((hfw.put 0 (Nat.le_refl _) _).put 1 (Nat.le_refl _) _).put 2 (Nat.le_refl _) _).put 3 (Nat.le_refl _) _).alloc _
        · have HL := Lib.hid (look_step L V G k hkl HNO.out (by simp [hg]))
          go_wp2
          go_roundw
          case rel => exact ⟨k + 1, by omega, by go_num, HL.out, hfr.alloc _⟩
          case measure => simp [intOf]; omega
      · have HL := Lib.hid (look_step L V G k hkl HNO.out (by simp [hv]))
        go_wp2
        go_roundw
        case rel => exact ⟨k + 1, by omega, by go_num, HL.out, hfr.alloc _⟩
        case measure => simp [intOf]; omega
    · have hrs := hfr.has (Has.new w 31 #[.int .i64 0, .int .u64 0, .int .u64 0, .int .i64 0]) (fun h => h)
      have r0 := hrs.cell 0
      have r1 := hrs.cell 1
      have r2 := hrs.cell 2
      have r3 := hrs.cell 3
      have q0 := hrs.frozen 0
      have q1 := hrs.frozen 1
      have q2 := hrs.frozen 2
      have q3 := hrs.frozen 3
      rw [List.take_of_length_le (by omega)] at hno
      have HNO := Lib.hid hno; clear hno
      go_wp2
      refine bodyPost_ret (v := .tuple #[.agg #[.int .i64 0, .int .u64 0, .int .u64 0, .int .i64 0], .bool false]) (by simp [results, Try.results15, go_sem, r0, r1, r2, r3]) rfl ⟨by rw [HNO.out]; simp [told], ?_⟩
      exact (((hfw.put 0 (Nat.le_refl _) _).put 1 (Nat.le_refl _) _).put 2 (Nat.le_refl _) _).put 3 (Nat.le_refl _) _

end Go.Proofs.Ythpkdgneijggoaa
