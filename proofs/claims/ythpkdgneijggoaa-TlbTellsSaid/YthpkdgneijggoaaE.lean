/- Entries; SameTrans; the reference's list. -/
import Derived.Test.YthpkdgneijggoaaD
namespace Go.Proofs.Ythpkdgneijggoaa
open Go.RowKit

theorem entries_any (S : Nat → Prop) (p : Nat) (room : Int) (L : List Tr) (w : World) (h : TlbAt w 52 S p room L) (hl : L.length ≤ 64) :
    Calls Try.prog 9 #[.pointer (some ⟨p, 0, none⟩)] w fun e w' => ∃ v', e = .returned v' ∧ Sl w' (fun k => w.heap.size ≤ k) 31 4 v' L.length (flat L) ∧ Fr (fun _ => False) w w' := by
  obtain ⟨v, hp, hS, hv⟩ := h
  have p1 := hp.cell 1
  have HV := Lib.hid hv; clear hv
  obtain ⟨A, c, rfl, _⟩ := HV.out.form
  go_enter Try.func9, Try.ntmps9
  go_wp2_with fail
  refine (clone_any _ _ L w HV.out (by omega)).mono ?_
  rintro e w' ⟨v', rfl, hs, hf⟩
  obtain ⟨A', c', rfl, _⟩ := hs.form
  have HS := Lib.hid hs; clear hs
  go_wp2
  go_ret
  exact ⟨_, rfl, HS.out, hf⟩

theorem neq_tr (s t : Tr) (w : World) : (binOp .neq 31 (.agg #[.int .i64 s.vm, .int .u64 s.pg, .int .u64 s.fr, .int .i64 s.pm]) (.agg #[.int .i64 t.vm, .int .u64 t.pg, .int .u64 t.fr, .int .i64 t.pm])).run Try.prog w = .ok (.bool (!decide (s = t))) w := by
  go_simp
  obtain ⟨a, b, c, d⟩ := s
  obtain ⟨a', b', c', d'⟩ := t
  by_cases h1 : a = a' <;> by_cases h2 : b = b' <;> by_cases h3 : c = c' <;> by_cases h4 : d = d' <;> simp [h1, h2, h3, h4]

theorem take_step (K L : List Tr) (k : Nat) (hk : k < K.length) (hl : k < L.length) (h : K.take k = L.take k) (he : K[k] = L[k]) : K.take (k + 1) = L.take (k + 1) := by
  rw [List.take_succ_eq_append_getElem hk, List.take_succ_eq_append_getElem hl, h, he]

set_option maxHeartbeats 1600000 in
theorem sameTrans_any (S1 S2 : Nat → Prop) (A B : Option Addr) (c d : Nat) (K L : List Tr) (w : World) (ha : Rd w S1 A (flat K)) (hb : Rd w S2 B (flat L)) (hk : K.length ≤ 4611686018427387904) (hl : L.length ≤ 4611686018427387904) :
    Calls Try.prog 11 #[.slice A K.length c, .slice B L.length d] w fun e w' => e = .returned (.bool (decide (K = L))) ∧ ∃ nq, w' = w.drewN nq := by
  have HA := Lib.hid ha; clear ha
  have HB := Lib.hid hb; clear hb
  by_cases hlen : K.length = L.length
  · have hl1 : ((K.length : Int) != (L.length : Int)) = false := by simp [hlen]
    generalize hn : L.length = n at *
    generalize hm : K.length = m at *
    have HN := Lib.hid hn
    have HM := Lib.hid hm
    clear hn hm
    subst hlen
    go_enter Try.func11, Try.ntmps11
    go_wp2
    go_loopw [5] (fun i wr => ∃ k : Nat, k ≤ m ∧ i = .int .i64 k ∧ K.take k = L.take k ∧ ∃ nq, wr = w.drewN nq) (fun i _ => m - (intOf i).toNat)
    case atStart => exact ⟨0, Nat.zero_le _, rfl, by simp, 0, rfl⟩
    case round =>
      obtain ⟨k, hk, rfl, hpre, nq, rfl⟩ := hrel
      have HP := Lib.hid hpre; clear hpre
      by_cases hkm : k < m
      · have hkK : k < K.length := by rw [HM.out]; exact hkm
        have hkL : k < L.length := by rw [HN.out]; exact hkm
        obtain ⟨b, off, hA, hb, _, hc⟩ := HA.out (by intro h; have := flat_length K; rw [h] at this; simp at this; omega)
        obtain ⟨b', off', hB, hb', _, hc'⟩ := HB.out (by intro h; have := flat_length L; rw [h] at this; simp at this; omega)
        subst hA
        subst hB
        obtain ⟨d0, d1, d2, d3⟩ := tr_cells (Fr.refl (fun _ => False) w) hb (fun h => h) hc hkK
        obtain ⟨e0, e1, e2, e3⟩ := tr_cells (Fr.refl (fun _ => False) w) hb' (fun h => h) hc' hkL
        clear hc hc'
        have hneq := neq_tr K[k] L[k]
        by_cases hkl : K[k] = L[k]
        · have hd : (!decide (K[k] = L[k])) = false := by simp [hkl]
          have HT := Lib.hid (take_step K L k hkK hkL HP.out hkl)
          rw [hd] at hneq
          clear hkl hd
          go_wp2_with fail
          go_quiet (fail)
          go_wp2
          go_roundw
          case rel => exact ⟨k + 1, by omega, by go_num, HT.out, _, rfl⟩
          case measure => simp [intOf]; omega
        · have hd : (!decide (K[k] = L[k])) = true := by simp [hkl]
          have HT : Hid (decide (K = L) = false) := decide_eq_false (fun h => hkl (by subst h; rfl))
          rw [hd] at hneq
          clear hkl hd
          go_wp2_with fail
          go_quiet (fail)
          go_wp2
          go_ret
          exact ⟨by rw [HT.out]; rfl, _, World.drewN_drewN ..⟩
      · have HT : Hid (decide (K = L) = true) := decide_eq_true (by
          have h := HP.out
          rwa [List.take_of_length_le (by rw [HM.out]; omega), List.take_of_length_le (by rw [HN.out]; omega)] at h)
        go_wp2
        go_ret
        exact ⟨by rw [HT.out]; rfl, _, rfl⟩
  · have hl1 : ((K.length : Int) != (L.length : Int)) = true := by simp; omega
    go_enter Try.func11, Try.ntmps11
    go_wp2
    go_ret
    exact ⟨by rw [decide_eq_false (fun h => hlen (by rw [h]))]; rfl, 0, rfl⟩

/-! The reference's list of entries. -/

theorem refNew_yes (room : Int) (w : World) (h : 1 ≤ room ∧ room ≤ 64) :
    Calls Try.prog 12 #[.int .i64 room] w fun e w' => e = .returned (.tuple #[.pointer (some ⟨w.heap.size, 0, none⟩), .int .i64 0]) ∧ w' = w.alloc (.cells #[.int .i64 room, .slice none 0 0] 48) := by
  obtain ⟨h1, h2⟩ := h
  go_enter Try.func12, Try.ntmps12
  go_wp2
  go_ret2
  exact ⟨rfl, rfl⟩

theorem refNew_no (room : Int) (w : World) (h : ¬ (1 ≤ room ∧ room ≤ 64)) :
    Calls Try.prog 12 #[.int .i64 room] w fun e w' => e = .returned (.tuple #[.pointer none, .int .i64 1]) ∧ w' = w := by
  by_cases h1 : room < 1
  · go_enter Try.func12, Try.ntmps12
    go_wp2
    go_ret2
    exact ⟨rfl, rfl⟩
  · have h2 : 64 < room := by omega
    go_enter Try.func12, Try.ntmps12
    go_wp2
    go_ret2
    exact ⟨rfl, rfl⟩

theorem cells4_new {w : World} {t : TypeId} (a b c d : Value) (b0 : Nat) (hb0 : b0 = w.heap.size) : ∀ j u, [a, b, c, d][j]? = some u → (w.alloc (.cells #[a, b, c, d] t)).cell? ((⟨b0, 0, none⟩ : Addr).add j) = some u := by
  intro j u hj
  subst hb0
  rw [Addr.add_lit, (Has.new w t #[a, b, c, d]).cell, Nat.zero_add]
  simpa using hj

def keepB (V : Int) (one : Bool) (G : Int) (t : Tr) : Bool := t.vm != V || one && t.pg != G

set_option maxHeartbeats 1600000 in
theorem drop_any (S : Nat → Prop) (p : Nat) (room : Int) (L : List Tr) (V : Int) (one : Bool) (G : Int) (w : World) (h : TlbAt w 48 S p room L) (hl : L.length ≤ 64) :
    Calls Try.prog 26 #[.pointer (some ⟨p, 0, none⟩), .int .i64 V, .bool one, .int .u64 G] w fun e w' =>
      e = .returned (.tuple #[]) ∧ TlbAt w' 48 (More S w) p room (L.filter (keepB V one G)) ∧ Fr S w w' := by
  obtain ⟨v, hp, hS, hv⟩ := h
  obtain ⟨A, c, rfl, hr, _, _⟩ := hv.form
  obtain ⟨i0, hi, hz0, hz1, hz2⟩ := info_parts Try.info31
  have hlt := hp.lt
  have HR := Lib.hid hr; clear hr
  have HV := Lib.hid hv; clear hv
  have HP := Lib.hid hp; clear hp
  go_enter Try.func26, Try.ntmps26
  go_wp2
  go_loopw [8, 9] (fun v i wr => ∃ k : Nat, k ≤ L.length ∧ i = .int .i64 k ∧ wr.ownsRow w.heap.size 31 4 v ((L.take k).filter (keepB V one G)).length (flat ((L.take k).filter (keepB V one G))) ∧ Fr (fun _ => False) w wr)
    (fun _ i _ => L.length - (intOf i).toNat)
  case atStart => exact ⟨0, Nat.zero_le _, rfl, World.ownsRow_nil _ _ _ _, Fr.refl _ _⟩
  case round =>
    obtain ⟨k, hk, rfl, hown, hfr⟩ := hrel
    have hpr := hfr.has HP.out (fun h => h)
    have p1 := hpr.cell 1
    by_cases hkl : k < L.length
    · obtain ⟨b, off, hA, hb, hs, hc⟩ := HR.out (by intro h; have := flat_length L; rw [h] at this; simp at this; omega)
      subst hA
      obtain ⟨d0, d1, d2, d3⟩ := tr_cells hfr hb (by simp) hc hkl
      clear hc
      have hlen : ((L.take k).filter (keepB V one G)).length ≤ k := by have := List.length_filter_le (keepB V one G) (L.take k); simp at this; omega
      have hsz := hfr.size
      by_cases hv : L[k].vm = V
      · cases one with
        | false =>
          have HE := Lib.hid (filter_miss L (keepB V false G) k hkl (by simp [keepB, hv]))
          go_wp2
          go_roundw
          case rel => exact ⟨k + 1, by omega, by go_num, by rw [HE.out]; exact hown, hfr⟩
          case measure => simp [intOf]; omega
        | true =>
          by_cases hg : L[k].pg = G
          · have HE := Lib.hid (filter_miss L (keepB V true G) k hkl (by simp [keepB, hv, hg]))
            go_wp2
            go_roundw
            case rel => exact ⟨k + 1, by omega, by go_num, by rw [HE.out]; exact hown, hfr⟩
            case measure => simp [intOf]; omega
          · have HE := Lib.hid (filter_hit L (keepB V true G) k hkl (by simp [keepB, hg]))
            go_wp2_with (at_builtin; refine wpList_append_own _ rfl (.tmp 44) (.tmp 52) 34 rfl w.heap.size 31 i0 _ 4 32 Try.underlying34 hi hz0 hz1 hz2 rfl (by decide) _ _ _ rfl (hown.alloc _) ⟨wr.heap.size, 0, none⟩ 1 1 [.int .i64 V, .int .u64 L[k].pg, .int .u64 L[k].fr, .int .i64 L[k].pm] rfl rfl (cells4_new _ _ _ _ _ rfl) (by intro u hu; simp at hu; rcases hu with rfl | rfl | rfl | rfl <;> rfl) (by unfold maxLen; omega) (by omega) (by simp; omega) ?_)
            intro v' w3 hown3 hg3 _
            have hfr4 : Fr (fun _ => False) w w3 := (hfr.alloc _).grown hg3 (fun j hj hlt => by have := hown.lt j hj; omega)
            go_wp2
            go_roundw
            case rel => exact ⟨k + 1, by omega, by go_num, by rw [HE.out]; simpa [flat_append, flat, Tr.cells, hv] using hown3, hfr4⟩
            case measure => simp [intOf]; omega
      · have HE := Lib.hid (filter_hit L (keepB V one G) k hkl (by simp [keepB, hv]))
        go_wp2_with (at_builtin; refine wpList_append_own _ rfl (.tmp 44) (.tmp 52) 34 rfl w.heap.size 31 i0 _ 4 32 Try.underlying34 hi hz0 hz1 hz2 rfl (by decide) _ _ _ rfl (hown.alloc _) ⟨wr.heap.size, 0, none⟩ 1 1 [.int .i64 L[k].vm, .int .u64 L[k].pg, .int .u64 L[k].fr, .int .i64 L[k].pm] rfl rfl (cells4_new _ _ _ _ _ rfl) (by intro u hu; simp at hu; rcases hu with rfl | rfl | rfl | rfl <;> rfl) (by unfold maxLen; omega) (by omega) (by simp; omega) ?_)
        intro v' w3 hown3 hg3 _
        have hfr4 : Fr (fun _ => False) w w3 := (hfr.alloc _).grown hg3 (fun j hj hlt => by have := hown.lt j hj; omega)
        go_wp2
        go_roundw
        case rel => exact ⟨k + 1, by omega, by go_num, by rw [HE.out]; simpa [flat_append, flat, Tr.cells, hv] using hown3, hfr4⟩
        case measure => simp [intOf]; omega
    · have f1 := hpr.frozen 1
      have hs := Sl.of_own hown
      rw [List.take_of_length_le (by omega)] at hs
      obtain ⟨A2, c2, hv2, _⟩ := hs.form
      have HS := Lib.hid hs
      have HF := Lib.hid hfr
      clear hs hfr
      subst hv2
      go_wp2
      go_end0
      exact ⟨rfl, tlb_keep hpr hS HS.out (HF.out.weak (fun _ _ h => h.elim)) (fun k _ h => ⟨.inr h, by have : w.heap.size ≤ k := h; omega⟩)⟩
end Go.Proofs.Ythpkdgneijggoaa
