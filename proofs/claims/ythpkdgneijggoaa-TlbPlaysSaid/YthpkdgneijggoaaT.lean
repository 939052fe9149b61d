/- TlbPlays: the walk. -/
import Derived.Test.YthpkdgneijggoaaQ
namespace Go.Proofs.Ythpkdgneijggoaa
open Go.RowKit

def inL (i : Int) (L : List Tr) : Bool := decide (0 ≤ i ∧ i < L.length)
def evictL (i : Int) (L : List Tr) : List Tr := if 0 ≤ i ∧ i < L.length then L.take i.toNat ++ L.drop (i.toNat + 1) else L

theorem evict_any (S : Nat → Prop) (p : Nat) (room : Int) (L : List Tr) (i : Int) (w : World) (h : TlbAt w 52 S p room L) (hl : L.length ≤ 64) (hk : NK L) :
    Calls Try.prog 17 #[.pointer (some ⟨p, 0, none⟩), .int .i64 i] w fun e w' => e = .returned (.bool (inL i L)) ∧ TlbAt w' 52 (More S w) p room (evictL i L) ∧ Fr S w w' := by
  by_cases hi : 0 ≤ i ∧ i < L.length
  · obtain ⟨k, rfl⟩ := Int.eq_ofNat_of_zero_le hi.1
    have hkl : k < L.length := by have := hi.2; omega
    refine (evict_yes S p room L k w h hl hkl).mono fun e w' ⟨h1, h2, h3⟩ => ?_
    rw [evict_eq hk k hkl] at h2
    refine ⟨by rw [h1, inL, decide_eq_true hi], ?_, h3⟩
    rw [evictL, if_pos hi]
    exact h2
  · refine (evict_no S p room L i w h hi).mono fun e w' ⟨h1, h2⟩ => ?_
    subst h2
    exact ⟨by rw [h1, inL, decide_eq_false hi], by rw [evictL, if_neg hi]; exact h.weak (fun _ _ h => .inl h), Fr.refl _ _⟩

theorem refEvict_any (S : Nat → Prop) (p : Nat) (room : Int) (L : List Tr) (i : Int) (w : World) (h : TlbAt w 48 S p room L) (hl : L.length ≤ 64) :
    Calls Try.prog 18 #[.pointer (some ⟨p, 0, none⟩), .int .i64 i] w fun e w' => e = .returned (.bool (inL i L)) ∧ TlbAt w' 48 (More S w) p room (evictL i L) ∧ Fr S w w' := by
  by_cases hi : 0 ≤ i ∧ i < L.length
  · obtain ⟨k, rfl⟩ := Int.eq_ofNat_of_zero_le hi.1
    have hkl : k < L.length := by have := hi.2; omega
    refine (refEvict_yes S p room L k w h hl hkl).mono fun e w' ⟨h1, h2, h3⟩ => ?_
    refine ⟨by rw [h1, inL, decide_eq_true hi], ?_, h3⟩
    rw [evictL, if_pos hi]
    exact h2
  · refine (refEvict_no S p room L i w h hi).mono fun e w' ⟨h1, h2⟩ => ?_
    subst h2
    exact ⟨by rw [h1, inL, decide_eq_false hi], by rw [evictL, if_neg hi]; exact h.weak (fun _ _ h => .inl h), Fr.refl _ _⟩

theorem NK.evictL {L : List Tr} (h : NK L) (i : Int) : NK (evictL i L) := by
  unfold Ythpkdgneijggoaa.evictL
  split
  · exact h.evict _
  · exact h
theorem evictL_len (L : List Tr) (i : Int) : (evictL i L).length ≤ L.length := by
  unfold evictL
  split <;> simp
  omega

/-- What holds at the head of each round. -/
def Inv (base : Nat) (room : Int) (w wr : World) (pt pw : Nat) (L : List Tr) : Prop :=
  Two base wr.heap.size wr.heap.size wr pt pw room L L ∧ (L.length : Int) ≤ room ∧ NK L ∧ Fr (fun _ => False) w wr

set_option maxRecDepth 100000 in
set_option maxHeartbeats 16000000 in
theorem plays_yes (S : Nat → Prop) (room : Int) (A : Option Addr) (n c : Nat) (ops : List Sc) (w : World) (hr : 1 ≤ room ∧ room ≤ 64) (hn : n = ops.length) (hs : n * 48 ≤ 140737488355328) (hrd : Rd w S A (flatS ops)) :
    Calls Try.prog 4 #[.int .i64 room, .slice A n c] w fun e w' => e = .returned (.bool true) ∧ Fr (fun _ => False) w w' := by
  have HN := Lib.hid hn; clear hn
  have HR := Lib.hid hrd; clear hrd
  have hnil : ∀ (w : World) (b : Nat), (binOp .neq 23 (.pointer (some ⟨b, 0, none⟩)) (.pointer none)).run Try.prog w = .ok (.bool true) w := fun w b => by go_simp
  go_enter Try.func4, Try.ntmps4
  go_wp2_with fail
  refine (new_yes room w hr).mono ?_
  rintro e w1 ⟨rfl, rfl⟩
  go_wp2_with fail
  refine (refNew_yes room _ hr).mono ?_
  rintro e w2 ⟨rfl, rfl⟩
  have h2 : Two w.heap.size (w.heap.size + 2) (w.heap.size + 2) ((w.alloc (.cells #[.int .i64 room, .slice none 0 0] 52)).alloc (.cells #[.int .i64 room, .slice none 0 0] 48)) w.heap.size (w.heap.size + 1) room [] [] := by
    refine ⟨fun k => k = w.heap.size, fun k => k = w.heap.size + 1, ?_, ?_, fun k h1 h2 => by omega, fun k hk => by omega, fun k hk => by omega⟩
    · exact (show TlbAt (w.alloc (.cells #[.int .i64 room, .slice none 0 0] 52)) 52 (fun k => k = w.heap.size) w.heap.size room [] from ⟨_, Has.new _ _ _, rfl, Sl.nil _ _ _ _⟩).fr ((Fr.refl (fun _ => False) _).alloc _) (fun _ _ _ h => h)
    · have h := Has.new (w.alloc (.cells #[.int .i64 room, .slice none 0 0] 52)) 48 #[.int .i64 room, .slice none 0 0]
      exact ⟨_, by simpa using h, rfl, Sl.nil _ _ _ _⟩
  have H2 := Lib.hid h2
  clear h2
  go_wp2_with fail
  go_loopw [9] (fun i wr => ∃ k : Nat, k ≤ n ∧ i = .int .i64 k ∧ ∃ L : List Tr, Inv w.heap.size room w wr w.heap.size (w.heap.size + 1) L) (fun i _ => n - (intOf i).toNat)
  case atStart => exact ⟨0, Nat.zero_le _, rfl, [], by simpa using H2.out, by simp; omega, by simp [NK], ((Fr.refl _ _).alloc _).alloc _⟩
  case round =>
    obtain ⟨k, hk, rfl, L, htwo, hL, hnk, hf⟩ := hrel
    have HT := Lib.hid htwo; clear htwo
    have HK := Lib.hid hnk; clear hnk
    have hbase := hf.size
    by_cases hkn : k < n
    · have hko : k < ops.length := by have : n = ops.length := HN.out; omega
      obtain ⟨b, off, hA, hb, _, hc⟩ := HR.out (by intro h; have := flatS_length ops; rw [h] at this; simp at this; omega)
      subst hA
      obtain ⟨d0, d1, d2, d3, d4, d5⟩ := sc_cells hf hb (fun h => h) hc hko
      clear hc
      generalize ops[k] = o at *
      have hfb := hf.alloc (.cells #[.int .i64 o.kind, .int .i64 o.n, .int .i64 o.t.vm, .int .u64 o.t.pg, .int .u64 o.t.fr, .int .i64 o.t.pm] 33)
      have HB := Lib.hid (Has.new wr 33 #[.int .i64 o.kind, .int .i64 o.n, .int .i64 o.t.vm, .int .u64 o.t.pg, .int .u64 o.t.fr, .int .i64 o.t.pm])
      have HTB := Lib.hid (HT.out.fr ((Fr.refl (fun _ => False) wr).alloc (.cells #[.int .i64 o.kind, .int .i64 o.n, .int .i64 o.t.vm, .int .u64 o.t.pg, .int .u64 o.t.fr, .int .i64 o.t.pm] 33)))
      go_wp2_with fail
      refine (place_any o.kind 6 _ (by omega) (by omega)).mono ?_
      rintro e w3 ⟨rfl, hw3⟩
      subst hw3
      clear d0 d1 d2 d3 d4 d5
      generalize hwx : wr.alloc (.cells #[.int .i64 o.kind, .int .i64 o.n, .int .i64 o.t.vm, .int .u64 o.t.pg, .int .u64 o.t.fr, .int .i64 o.t.pm] 33) = wx at *
      have hbx : w.heap.size ≤ wx.heap.size := hfb.size
      have hbr : wr.heap.size < wx.heap.size := by rw [← hwx]; simp
      clear hwx
      have x0 := HB.out.cell 0
      have x1 := HB.out.cell 1
      have x2 := HB.out.cell 2
      have x3 := HB.out.cell 3
      have x4 := HB.out.cell 4
      have x5 := HB.out.cell 5
      rcases (show o.kind % 6 = 0 ∨ o.kind % 6 = 1 ∨ o.kind % 6 = 2 ∨ o.kind % 6 = 3 ∨ o.kind % 6 = 4 ∨ o.kind % 6 = 5 by omega) with hkind | hkind | hkind | hkind | hkind | hkind
      · rw [hkind]
        clear hkind
        go_wp2_with fail
        refine (HTB.out.left hbx (by omega) (by omega) (fun S h => put_any S _ room L o.t wx h hL hr)).mono ?_
        rintro e w4 ⟨rfl, h4, hf4⟩
        have H4 := Lib.hid h4; clear h4
        have hb4 := hf4.size
        have HB4 := Lib.hid (hf4.has HB.out (fun (h : w.heap.size ≤ wr.heap.size ∧ wr.heap.size < wr.heap.size) => by omega))
        have y0 := HB4.out.cell 0
        have y1 := HB4.out.cell 1
        have y2 := HB4.out.cell 2
        have y3 := HB4.out.cell 3
        have y4 := HB4.out.cell 4
        have y5 := HB4.out.cell 5
        go_wp2_with fail
        refine (H4.out.right (by omega) (by omega) (by omega) (fun S h => refPut_any S _ room L o.t w4 h hL hr)).mono ?_
        rintro e w5 ⟨rfl, h5, hf5⟩
        have H5 := Lib.hid h5; clear h5
        have hb5 := hf5.size
        go_wp2_with fail
        obtain ⟨S1, S2, t1, t2, hd, b1, b2⟩ := H5.out
        have HTW := Lib.hid (show Two w.heap.size w4.heap.size w5.heap.size w5 w.heap.size (w.heap.size + 1) room (put room L o.t) (put room L o.t) from ⟨S1, S2, t1, t2, hd, b1, b2⟩)
        obtain ⟨v2, hpw, hS2, hsl2⟩ := t2
        obtain ⟨A2, c2, rfl, hr2, _⟩ := hsl2.form
        have HLEN := Lib.hid (show (((put room L o.t)).length : Int) ≤ room from put_len L room o.t hr.1 hL)
        have hlen64 : ((put room L o.t)).length ≤ 64 := by have := HLEN.out; omega
        have HNK := Lib.hid (show NK ((put room L o.t)) from HK.out.put room o.t)
        have HFR := Lib.hid (show Fr (fun _ => False) w w5 from (hfb.trans hf4 (fun k hk h => by omega)).trans hf5 (fun k hk h => by omega))
        have hW : w.heap.size ≤ w5.heap.size := HFR.out.size
        have HT1 := Lib.hid t1
        have HPW := Lib.hid hpw
        have HR2 := Lib.hid hr2
        have pc := hpw.cell 1
        clear t1 hpw hr2 hsl2 hd b1 b2 hS2 H5 H4
        go_region_with (first
          | (go_at_call 9
             refine (entries_any S1 _ room ((put room L o.t)) (w5.drew) (HT1.out.fr ((Fr.refl (fun _ => False) w5).drew) (fun _ _ _ h => h)) hlen64).mono ?_
             rintro e w6 ⟨v6, rfl, hs6, hf6⟩
             obtain ⟨A6, c6, hv6, hr6, _⟩ := hs6.form
             subst hv6
             have HR6 := Lib.hid hr6
             have pc6 := (hf6.has ((Fr.refl (fun _ => False) w5).drew.has HPW.out (fun h => h)) (fun h => h)).cell 1
             have HF6 := Lib.hid ((Fr.refl (fun _ => False) w5).drew.trans hf6 (fun _ _ h => h))
             clear hs6 hr6 hf6)
          | (go_at_call 11
             refine (sameTrans_any _ _ A6 A2 c6 c2 ((put room L o.t)) ((put room L o.t)) w6 HR6.out (HR2.out.fr HF6.out (fun _ _ _ h => h)) (by omega) (by omega)).mono ?_
             rintro e w7 ⟨rfl, nq, hw7⟩
             subst hw7
             rw [decide_eq_true rfl]))
        all_goals
          go_wp2
          go_roundw
          case rel => exact ⟨k + 1, by omega, by go_num, _, (HTW.out.fr (HF6.out.drewN nq)).up (by have := HF6.out.size; simp; omega) (by have := HF6.out.size; simp; omega), HLEN.out, HNK.out, (HFR.out.trans HF6.out (fun _ _ h => h)).drewN nq⟩
          case measure => simp [intOf]; omega
      · rw [hkind]
        clear hkind
        obtain ⟨S1, S2, t1, t2, hd, b1, b2⟩ := HTB.out
        have HTT := Lib.hid t1
        have HTR := Lib.hid t2
        clear t1 t2 hd b1 b2
        cases hlk : look L o.t.vm o.t.pg with
        | none =>
          have HLK := Lib.hid hlk
          clear hlk
          go_wp2_with fail
          refine (tlbLook_any S1 _ room L o.t.vm o.t.pg wx HTT.out (by omega)).mono ?_
          rintro e w4 ⟨rfl, hf4⟩
          rw [HLK.out]
          simp only [told]
          have hb4 := hf4.size
          have HB4 := Lib.hid (hf4.has HB.out (fun h => h))
          have HTR4 := Lib.hid (HTR.out.fr (hf4.alloc (.cells #[.int .i64 0, .int .u64 0, .int .u64 0, .int .i64 0] 31)) (fun _ _ _ h => h))
          have HTW4 := Lib.hid (HTB.out.fr hf4)
          have hf4w := hfb.trans hf4 (fun _ _ h => h)
          have y0 := HB4.out.cell 0
          have y1 := HB4.out.cell 1
          have y2 := HB4.out.cell 2
          have y3 := HB4.out.cell 3
          have y4 := HB4.out.cell 4
          have y5 := HB4.out.cell 5
          have hbr4 : wr.heap.size < w4.heap.size := by omega
          clear x0 x1 x2 x3 x4 x5
          go_wp2_with fail
          refine (refLook_any S2 _ room L o.t.vm o.t.pg _ HTR4.out (by omega)).mono ?_
          rintro e w5 ⟨rfl, hf5⟩
          rw [HLK.out]
          simp only [told]
          have ha5 := hf5.has (Has.new w4 31 #[.int .i64 0, .int .u64 0, .int .u64 0, .int .i64 0]) (fun h => h)
          have z0 := ha5.cell 0
          have z1 := ha5.cell 1
          have z2 := ha5.cell 2
          have z3 := ha5.cell 3
          have hlt5 := ha5.lt
          clear ha5
          have H5 := Lib.hid ((HTW4.out.fr ((Fr.refl (fun _ => False) w4).alloc (.cells #[.int .i64 0, .int .u64 0, .int .u64 0, .int .i64 0] 31))).fr hf5 |>.fr ((Fr.refl (fun _ => False) w5).alloc (.cells #[.int .i64 0, .int .u64 0, .int .u64 0, .int .i64 0] 31)))
          have hf5w := ((hf4w.alloc (.cells #[.int .i64 0, .int .u64 0, .int .u64 0, .int .i64 0] 31)).trans hf5 (fun _ _ h => h)).alloc (.cells #[.int .i64 0, .int .u64 0, .int .u64 0, .int .i64 0] 31)
          have hbr5 : wr.heap.size < (w5.alloc (.cells #[.int .i64 0, .int .u64 0, .int .u64 0, .int .i64 0] 31)).heap.size := by have := hf5.size; simp at this ⊢; omega
          go_wp2_with fail
          generalize w5.alloc (.cells #[.int .i64 0, .int .u64 0, .int .u64 0, .int .i64 0] 31) = wz at *
          obtain ⟨S1, S2, t1, t2, hd, b1, b2⟩ := H5.out
          have HTW := Lib.hid (show Two w.heap.size wr.heap.size wr.heap.size wz w.heap.size (w.heap.size + 1) room L L from ⟨S1, S2, t1, t2, hd, b1, b2⟩)
          obtain ⟨v2, hpw, hS2, hsl2⟩ := t2
          obtain ⟨A2, c2, rfl, hr2, _⟩ := hsl2.form
          have HLEN := Lib.hid (show ((L).length : Int) ≤ room from hL)
          have hlen64 : (L).length ≤ 64 := by have := HLEN.out; omega
          have HNK := Lib.hid (show NK (L) from HK.out)
          have HFR := Lib.hid (show Fr (fun _ => False) w wz from hf5w)
          have hW : w.heap.size ≤ wz.heap.size := HFR.out.size
          have HT1 := Lib.hid t1
          have HPW := Lib.hid hpw
          have HR2 := Lib.hid hr2
          have pc := hpw.cell 1
          clear t1 hpw hr2 hsl2 hd b1 b2 hS2 H5 HTW4
          go_region_with (first
            | (go_at_call 9
               refine (entries_any S1 _ room (L) (wz.drew) (HT1.out.fr ((Fr.refl (fun _ => False) wz).drew) (fun _ _ _ h => h)) hlen64).mono ?_
               rintro e w6 ⟨v6, rfl, hs6, hf6⟩
               obtain ⟨A6, c6, hv6, hr6, _⟩ := hs6.form
               subst hv6
               have HR6 := Lib.hid hr6
               have pc6 := (hf6.has ((Fr.refl (fun _ => False) wz).drew.has HPW.out (fun h => h)) (fun h => h)).cell 1
               have HF6 := Lib.hid ((Fr.refl (fun _ => False) wz).drew.trans hf6 (fun _ _ h => h))
               clear hs6 hr6 hf6)
            | (go_at_call 11
               refine (sameTrans_any _ _ A6 A2 c6 c2 (L) (L) w6 HR6.out (HR2.out.fr HF6.out (fun _ _ _ h => h)) (by omega) (by omega)).mono ?_
               rintro e w7 ⟨rfl, nq, hw7⟩
               subst hw7
               rw [decide_eq_true rfl]))
          all_goals
            go_wp2
            go_roundw
            case rel => exact ⟨k + 1, by omega, by go_num, _, (HTW.out.fr (HF6.out.drewN nq)).up (by have := HF6.out.size; simp; omega) (by have := HF6.out.size; simp; omega), HLEN.out, HNK.out, (HFR.out.trans HF6.out (fun _ _ h => h)).drewN nq⟩
            case measure => simp [intOf]; omega
        | some r =>
          have HLK := Lib.hid hlk
          clear hlk
          go_wp2_with fail
          refine (tlbLook_any S1 _ room L o.t.vm o.t.pg wx HTT.out (by omega)).mono ?_
          rintro e w4 ⟨rfl, hf4⟩
          rw [HLK.out]
          simp only [told]
          have hb4 := hf4.size
          have HB4 := Lib.hid (hf4.has HB.out (fun h => h))
          have HTR4 := Lib.hid (HTR.out.fr (hf4.alloc (.cells #[.int .i64 r.vm, .int .u64 r.pg, .int .u64 r.fr, .int .i64 r.pm] 31)) (fun _ _ _ h => h))
          have HTW4 := Lib.hid (HTB.out.fr hf4)
          have hf4w := hfb.trans hf4 (fun _ _ h => h)
          have y0 := HB4.out.cell 0
          have y1 := HB4.out.cell 1
          have y2 := HB4.out.cell 2
          have y3 := HB4.out.cell 3
          have y4 := HB4.out.cell 4
          have y5 := HB4.out.cell 5
          have hbr4 : wr.heap.size < w4.heap.size := by omega
          clear x0 x1 x2 x3 x4 x5
          go_wp2_with fail
          refine (refLook_any S2 _ room L o.t.vm o.t.pg _ HTR4.out (by omega)).mono ?_
          rintro e w5 ⟨rfl, hf5⟩
          rw [HLK.out]
          simp only [told]
          have ha5 := hf5.has (Has.new w4 31 #[.int .i64 r.vm, .int .u64 r.pg, .int .u64 r.fr, .int .i64 r.pm]) (fun h => h)
          have z0 := ha5.cell 0
          have z1 := ha5.cell 1
          have z2 := ha5.cell 2
          have z3 := ha5.cell 3
          have hlt5 := ha5.lt
          clear ha5
          have H5 := Lib.hid ((HTW4.out.fr ((Fr.refl (fun _ => False) w4).alloc (.cells #[.int .i64 r.vm, .int .u64 r.pg, .int .u64 r.fr, .int .i64 r.pm] 31))).fr hf5 |>.fr ((Fr.refl (fun _ => False) w5).alloc (.cells #[.int .i64 r.vm, .int .u64 r.pg, .int .u64 r.fr, .int .i64 r.pm] 31)))
          have hf5w := ((hf4w.alloc (.cells #[.int .i64 r.vm, .int .u64 r.pg, .int .u64 r.fr, .int .i64 r.pm] 31)).trans hf5 (fun _ _ h => h)).alloc (.cells #[.int .i64 r.vm, .int .u64 r.pg, .int .u64 r.fr, .int .i64 r.pm] 31)
          have hbr5 : wr.heap.size < (w5.alloc (.cells #[.int .i64 r.vm, .int .u64 r.pg, .int .u64 r.fr, .int .i64 r.pm] 31)).heap.size := by have := hf5.size; simp at this ⊢; omega
          go_wp2_with fail
          generalize w5.alloc (.cells #[.int .i64 r.vm, .int .u64 r.pg, .int .u64 r.fr, .int .i64 r.pm] 31) = wz at *
          obtain ⟨S1, S2, t1, t2, hd, b1, b2⟩ := H5.out
          have HTW := Lib.hid (show Two w.heap.size wr.heap.size wr.heap.size wz w.heap.size (w.heap.size + 1) room L L from ⟨S1, S2, t1, t2, hd, b1, b2⟩)
          obtain ⟨v2, hpw, hS2, hsl2⟩ := t2
          obtain ⟨A2, c2, rfl, hr2, _⟩ := hsl2.form
          have HLEN := Lib.hid (show ((L).length : Int) ≤ room from hL)
          have hlen64 : (L).length ≤ 64 := by have := HLEN.out; omega
          have HNK := Lib.hid (show NK (L) from HK.out)
          have HFR := Lib.hid (show Fr (fun _ => False) w wz from hf5w)
          have hW : w.heap.size ≤ wz.heap.size := HFR.out.size
          have HT1 := Lib.hid t1
          have HPW := Lib.hid hpw
          have HR2 := Lib.hid hr2
          have pc := hpw.cell 1
          clear t1 hpw hr2 hsl2 hd b1 b2 hS2 H5 HTW4
          go_region_with (first
            | (go_at_call 9
               refine (entries_any S1 _ room (L) (wz.drew) (HT1.out.fr ((Fr.refl (fun _ => False) wz).drew) (fun _ _ _ h => h)) hlen64).mono ?_
               rintro e w6 ⟨v6, rfl, hs6, hf6⟩
               obtain ⟨A6, c6, hv6, hr6, _⟩ := hs6.form
               subst hv6
               have HR6 := Lib.hid hr6
               have pc6 := (hf6.has ((Fr.refl (fun _ => False) wz).drew.has HPW.out (fun h => h)) (fun h => h)).cell 1
               have HF6 := Lib.hid ((Fr.refl (fun _ => False) wz).drew.trans hf6 (fun _ _ h => h))
               clear hs6 hr6 hf6)
            | (go_at_call 11
               refine (sameTrans_any _ _ A6 A2 c6 c2 (L) (L) w6 HR6.out (HR2.out.fr HF6.out (fun _ _ _ h => h)) (by omega) (by omega)).mono ?_
               rintro e w7 ⟨rfl, nq, hw7⟩
               subst hw7
               rw [decide_eq_true rfl]))
          all_goals
            go_wp2
            go_roundw
            case rel => exact ⟨k + 1, by omega, by go_num, _, (HTW.out.fr (HF6.out.drewN nq)).up (by have := HF6.out.size; simp; omega) (by have := HF6.out.size; simp; omega), HLEN.out, HNK.out, (HFR.out.trans HF6.out (fun _ _ h => h)).drewN nq⟩
            case measure => simp [intOf]; omega
      · rw [hkind]
        clear hkind
        have hib : inL o.n L = inL o.n L := rfl
        clear hib
        go_wp2_with fail
        go_region_with (first
          | (go_at_call 17
             refine ((HTB.out.fr (Fr.refl (fun _ => False) wx).drew).left (w := wx.drew) hbx (Nat.le_of_lt hbr) (Nat.le_of_lt hbr) (fun S h => evict_any S _ room L o.n wx.drew h (by omega) HK.out)).mono ?_
             rintro e w4 ⟨rfl, h4, hf4⟩
             have H4 := Lib.hid h4
             have HF4 := Lib.hid ((Fr.refl (fun _ => False) wx).drew.weak (S' := fun k => w.heap.size ≤ k ∧ k < wr.heap.size) (fun _ _ h => h.elim) |>.trans hf4 (fun _ _ h => h))
             have HB4 := Lib.hid (HF4.out.has HB.out (fun (h : w.heap.size ≤ wr.heap.size ∧ wr.heap.size < wr.heap.size) => by omega))
             have hb4 := HF4.out.size
             clear h4 hf4
             have y0 := HB4.out.cell 0
             have y1 := HB4.out.cell 1)
          | (go_at_call 18
             refine (H4.out.right (by omega) (Nat.le_refl _) (by omega) (fun S h => refEvict_any S _ room L o.n w4 h (by omega))).mono ?_
             rintro e w5 ⟨rfl, h5, hf5⟩
             have H5 := Lib.hid h5
             have HF5 := Lib.hid hf5
             have hb5 := HF5.out.size
             clear h5 hf5))
        all_goals
          go_wp2_with fail
          obtain ⟨S1, S2, t1, t2, hd, b1, b2⟩ := H5.out
          have HTW := Lib.hid (show Two w.heap.size w4.heap.size w5.heap.size w5 w.heap.size (w.heap.size + 1) room (evictL o.n L) (evictL o.n L) from ⟨S1, S2, t1, t2, hd, b1, b2⟩)
          obtain ⟨v2, hpw, hS2, hsl2⟩ := t2
          obtain ⟨A2, c2, rfl, hr2, _⟩ := hsl2.form
          have HLEN := Lib.hid (show (((evictL o.n L)).length : Int) ≤ room from (by have := evictL_len L o.n; omega))
          have hlen64 : ((evictL o.n L)).length ≤ 64 := by have := HLEN.out; omega
          have HNK := Lib.hid (show NK ((evictL o.n L)) from HK.out.evictL o.n)
          have HFR := Lib.hid (show Fr (fun _ => False) w w5 from (hfb.trans HF4.out (fun k hk h => by omega)).trans HF5.out (fun k hk h => by omega))
          have hW : w.heap.size ≤ w5.heap.size := HFR.out.size
          have HT1 := Lib.hid t1
          have HPW := Lib.hid hpw
          have HR2 := Lib.hid hr2
          have pc := hpw.cell 1
          clear t1 hpw hr2 hsl2 hd b1 b2 hS2 H5 H4
          go_region_with (first
            | (go_at_call 9
               refine (entries_any S1 _ room ((evictL o.n L)) (w5.drew) (HT1.out.fr ((Fr.refl (fun _ => False) w5).drew) (fun _ _ _ h => h)) hlen64).mono ?_
               rintro e w6 ⟨v6, rfl, hs6, hf6⟩
               obtain ⟨A6, c6, hv6, hr6, _⟩ := hs6.form
               subst hv6
               have HR6 := Lib.hid hr6
               have pc6 := (hf6.has ((Fr.refl (fun _ => False) w5).drew.has HPW.out (fun h => h)) (fun h => h)).cell 1
               have HF6 := Lib.hid ((Fr.refl (fun _ => False) w5).drew.trans hf6 (fun _ _ h => h))
               clear hs6 hr6 hf6)
            | (go_at_call 11
               refine (sameTrans_any _ _ A6 A2 c6 c2 ((evictL o.n L)) ((evictL o.n L)) w6 HR6.out (HR2.out.fr HF6.out (fun _ _ _ h => h)) (by omega) (by omega)).mono ?_
               rintro e w7 ⟨rfl, nq, hw7⟩
               subst hw7
               rw [decide_eq_true rfl]))
          all_goals
            go_wp2
            go_roundw
            case rel => exact ⟨k + 1, by omega, by go_num, _, (HTW.out.fr (HF6.out.drewN nq)).up (by have := HF6.out.size; simp; omega) (by have := HF6.out.size; simp; omega), HLEN.out, HNK.out, (HFR.out.trans HF6.out (fun _ _ h => h)).drewN nq⟩
            case measure => simp [intOf]; omega
      · rw [hkind]
        clear hkind
        go_wp2_with fail
        refine (HTB.out.left hbx (by omega) (by omega) (fun S h => flush_any S _ room L o.t.vm wx h (by omega))).mono ?_
        rintro e w4 ⟨rfl, h4, hf4⟩
        have H4 := Lib.hid h4; clear h4
        have hb4 := hf4.size
        have HB4 := Lib.hid (hf4.has HB.out (fun (h : w.heap.size ≤ wr.heap.size ∧ wr.heap.size < wr.heap.size) => by omega))
        have y0 := HB4.out.cell 0
        have y1 := HB4.out.cell 1
        have y2 := HB4.out.cell 2
        have y3 := HB4.out.cell 3
        have y4 := HB4.out.cell 4
        have y5 := HB4.out.cell 5
        go_wp2_with fail
        refine (H4.out.right (by omega) (by omega) (by omega) (fun S h => refFlush_any S _ room L o.t.vm w4 h (by omega))).mono ?_
        rintro e w5 ⟨rfl, h5, hf5⟩
        rw [flush_eq] at h5
        have H5 := Lib.hid h5; clear h5
        have hb5 := hf5.size
        go_wp2_with fail
        obtain ⟨S1, S2, t1, t2, hd, b1, b2⟩ := H5.out
        have HTW := Lib.hid (show Two w.heap.size w4.heap.size w5.heap.size w5 w.heap.size (w.heap.size + 1) room (L.filter fun t => t.vm != o.t.vm) (L.filter fun t => t.vm != o.t.vm) from ⟨S1, S2, t1, t2, hd, b1, b2⟩)
        obtain ⟨v2, hpw, hS2, hsl2⟩ := t2
        obtain ⟨A2, c2, rfl, hr2, _⟩ := hsl2.form
        have HLEN := Lib.hid (show (((L.filter fun t => t.vm != o.t.vm)).length : Int) ≤ room from (by have := List.length_filter_le (fun t => t.vm != o.t.vm) L; omega))
        have hlen64 : ((L.filter fun t => t.vm != o.t.vm)).length ≤ 64 := by have := HLEN.out; omega
        have HNK := Lib.hid (show NK ((L.filter fun t => t.vm != o.t.vm)) from HK.out.filter _)
        have HFR := Lib.hid (show Fr (fun _ => False) w w5 from (hfb.trans hf4 (fun k hk h => by omega)).trans hf5 (fun k hk h => by omega))
        have hW : w.heap.size ≤ w5.heap.size := HFR.out.size
        have HT1 := Lib.hid t1
        have HPW := Lib.hid hpw
        have HR2 := Lib.hid hr2
        have pc := hpw.cell 1
        clear t1 hpw hr2 hsl2 hd b1 b2 hS2 H5 H4
        go_region_with (first
          | (go_at_call 9
             refine (entries_any S1 _ room ((L.filter fun t => t.vm != o.t.vm)) (w5.drew) (HT1.out.fr ((Fr.refl (fun _ => False) w5).drew) (fun _ _ _ h => h)) hlen64).mono ?_
             rintro e w6 ⟨v6, rfl, hs6, hf6⟩
             obtain ⟨A6, c6, hv6, hr6, _⟩ := hs6.form
             subst hv6
             have HR6 := Lib.hid hr6
             have pc6 := (hf6.has ((Fr.refl (fun _ => False) w5).drew.has HPW.out (fun h => h)) (fun h => h)).cell 1
             have HF6 := Lib.hid ((Fr.refl (fun _ => False) w5).drew.trans hf6 (fun _ _ h => h))
             clear hs6 hr6 hf6)
          | (go_at_call 11
             refine (sameTrans_any _ _ A6 A2 c6 c2 ((L.filter fun t => t.vm != o.t.vm)) ((L.filter fun t => t.vm != o.t.vm)) w6 HR6.out (HR2.out.fr HF6.out (fun _ _ _ h => h)) (by omega) (by omega)).mono ?_
             rintro e w7 ⟨rfl, nq, hw7⟩
             subst hw7
             rw [decide_eq_true rfl]))
        all_goals
          go_wp2
          go_roundw
          case rel => exact ⟨k + 1, by omega, by go_num, _, (HTW.out.fr (HF6.out.drewN nq)).up (by have := HF6.out.size; simp; omega) (by have := HF6.out.size; simp; omega), HLEN.out, HNK.out, (HFR.out.trans HF6.out (fun _ _ h => h)).drewN nq⟩
          case measure => simp [intOf]; omega
      · rw [hkind]
        clear hkind
        go_wp2_with fail
        refine (HTB.out.left hbx (by omega) (by omega) (fun S h => flushPage_any S _ room L o.t.vm o.t.pg wx h (by omega))).mono ?_
        rintro e w4 ⟨rfl, h4, hf4⟩
        have H4 := Lib.hid h4; clear h4
        have hb4 := hf4.size
        have HB4 := Lib.hid (hf4.has HB.out (fun (h : w.heap.size ≤ wr.heap.size ∧ wr.heap.size < wr.heap.size) => by omega))
        have y0 := HB4.out.cell 0
        have y1 := HB4.out.cell 1
        have y2 := HB4.out.cell 2
        have y3 := HB4.out.cell 3
        have y4 := HB4.out.cell 4
        have y5 := HB4.out.cell 5
        go_wp2_with fail
        refine (H4.out.right (by omega) (by omega) (by omega) (fun S h => refFlushPage_any S _ room L o.t.vm o.t.pg w4 h (by omega))).mono ?_
        rintro e w5 ⟨rfl, h5, hf5⟩
        rw [flushPage_eq] at h5
        have H5 := Lib.hid h5; clear h5
        have hb5 := hf5.size
        go_wp2_with fail
        obtain ⟨S1, S2, t1, t2, hd, b1, b2⟩ := H5.out
        have HTW := Lib.hid (show Two w.heap.size w4.heap.size w5.heap.size w5 w.heap.size (w.heap.size + 1) room (L.filter fun t => t.vm != o.t.vm || t.pg != o.t.pg) (L.filter fun t => t.vm != o.t.vm || t.pg != o.t.pg) from ⟨S1, S2, t1, t2, hd, b1, b2⟩)
        obtain ⟨v2, hpw, hS2, hsl2⟩ := t2
        obtain ⟨A2, c2, rfl, hr2, _⟩ := hsl2.form
        have HLEN := Lib.hid (show (((L.filter fun t => t.vm != o.t.vm || t.pg != o.t.pg)).length : Int) ≤ room from (by have := List.length_filter_le (fun t => t.vm != o.t.vm || t.pg != o.t.pg) L; omega))
        have hlen64 : ((L.filter fun t => t.vm != o.t.vm || t.pg != o.t.pg)).length ≤ 64 := by have := HLEN.out; omega
        have HNK := Lib.hid (show NK ((L.filter fun t => t.vm != o.t.vm || t.pg != o.t.pg)) from HK.out.filter _)
        have HFR := Lib.hid (show Fr (fun _ => False) w w5 from (hfb.trans hf4 (fun k hk h => by omega)).trans hf5 (fun k hk h => by omega))
        have hW : w.heap.size ≤ w5.heap.size := HFR.out.size
        have HT1 := Lib.hid t1
        have HPW := Lib.hid hpw
        have HR2 := Lib.hid hr2
        have pc := hpw.cell 1
        clear t1 hpw hr2 hsl2 hd b1 b2 hS2 H5 H4
        go_region_with (first
          | (go_at_call 9
             refine (entries_any S1 _ room ((L.filter fun t => t.vm != o.t.vm || t.pg != o.t.pg)) (w5.drew) (HT1.out.fr ((Fr.refl (fun _ => False) w5).drew) (fun _ _ _ h => h)) hlen64).mono ?_
             rintro e w6 ⟨v6, rfl, hs6, hf6⟩
             obtain ⟨A6, c6, hv6, hr6, _⟩ := hs6.form
             subst hv6
             have HR6 := Lib.hid hr6
             have pc6 := (hf6.has ((Fr.refl (fun _ => False) w5).drew.has HPW.out (fun h => h)) (fun h => h)).cell 1
             have HF6 := Lib.hid ((Fr.refl (fun _ => False) w5).drew.trans hf6 (fun _ _ h => h))
             clear hs6 hr6 hf6)
          | (go_at_call 11
             refine (sameTrans_any _ _ A6 A2 c6 c2 ((L.filter fun t => t.vm != o.t.vm || t.pg != o.t.pg)) ((L.filter fun t => t.vm != o.t.vm || t.pg != o.t.pg)) w6 HR6.out (HR2.out.fr HF6.out (fun _ _ _ h => h)) (by omega) (by omega)).mono ?_
             rintro e w7 ⟨rfl, nq, hw7⟩
             subst hw7
             rw [decide_eq_true rfl]))
        all_goals
          go_wp2
          go_roundw
          case rel => exact ⟨k + 1, by omega, by go_num, _, (HTW.out.fr (HF6.out.drewN nq)).up (by have := HF6.out.size; simp; omega) (by have := HF6.out.size; simp; omega), HLEN.out, HNK.out, (HFR.out.trans HF6.out (fun _ _ h => h)).drewN nq⟩
          case measure => simp [intOf]; omega
      · rw [hkind]
        clear hkind
        go_wp2_with fail
        refine (HTB.out.left (L' := []) hbx (by omega) (by omega) (fun S h => (flushAll_any S _ room L wx h).mono fun e w' ⟨h1, h2, h3⟩ => ⟨h1, h2.weak (fun _ _ h => .inl h), h3⟩)).mono ?_
        rintro e w4 ⟨rfl, h4, hf4⟩
        obtain ⟨⟨v4, c4⟩, f4⟩ := h4.cellR
        obtain ⟨h5, hf5⟩ := h4.clearR
        have H5 := Lib.hid h5
        have HF5 := Lib.hid hf5
        have hb4 := hf4.size
        clear h4 h5 hf5
        go_wp2_with fail
        have hf5 := HF5.out
        generalize w4.setCell ⟨w.heap.size + 1, 1, none⟩ (.slice none 0 0) = w5 at *
        have hb5 := hf5.size
        obtain ⟨S1, S2, t1, t2, hd, b1, b2⟩ := H5.out
        have HTW := Lib.hid (show Two w.heap.size w4.heap.size wr.heap.size w5 w.heap.size (w.heap.size + 1) room ([] : List Tr) ([] : List Tr) from ⟨S1, S2, t1, t2, hd, b1, b2⟩)
        obtain ⟨v2, hpw, hS2, hsl2⟩ := t2
        obtain ⟨A2, c2, rfl, hr2, _⟩ := hsl2.form
        have HLEN := Lib.hid (show ((([] : List Tr)).length : Int) ≤ room from (by simp; omega))
        have hlen64 : (([] : List Tr)).length ≤ 64 := by have := HLEN.out; omega
        have HNK := Lib.hid (show NK (([] : List Tr)) from (by simp [NK]))
        have HFR := Lib.hid (show Fr (fun _ => False) w w5 from (hfb.trans hf4 (fun k hk h => by omega)).trans hf5 (fun k hk h => by omega))
        have hW : w.heap.size ≤ w5.heap.size := HFR.out.size
        have HT1 := Lib.hid t1
        have HPW := Lib.hid hpw
        have HR2 := Lib.hid hr2
        have pc := hpw.cell 1
        clear t1 hpw hr2 hsl2 hd b1 b2 hS2 H5 HF5
        go_region_with (first
          | (go_at_call 9
             refine (entries_any S1 _ room (([] : List Tr)) (w5.drew) (HT1.out.fr ((Fr.refl (fun _ => False) w5).drew) (fun _ _ _ h => h)) hlen64).mono ?_
             rintro e w6 ⟨v6, rfl, hs6, hf6⟩
             obtain ⟨A6, c6, hv6, hr6, _⟩ := hs6.form
             subst hv6
             have HR6 := Lib.hid hr6
             have pc6 := (hf6.has ((Fr.refl (fun _ => False) w5).drew.has HPW.out (fun h => h)) (fun h => h)).cell 1
             have HF6 := Lib.hid ((Fr.refl (fun _ => False) w5).drew.trans hf6 (fun _ _ h => h))
             clear hs6 hr6 hf6)
          | (go_at_call 11
             refine (sameTrans_any _ _ A6 A2 c6 c2 (([] : List Tr)) (([] : List Tr)) w6 HR6.out (HR2.out.fr HF6.out (fun _ _ _ h => h)) (by omega) (by omega)).mono ?_
             rintro e w7 ⟨rfl, nq, hw7⟩
             subst hw7
             rw [decide_eq_true rfl]))
        all_goals
          go_wp2
          go_roundw
          case rel => exact ⟨k + 1, by omega, by go_num, _, (HTW.out.fr (HF6.out.drewN nq)).up (by have := HF6.out.size; simp; omega) (by have := HF6.out.size; simp; omega), HLEN.out, HNK.out, (HFR.out.trans HF6.out (fun _ _ h => h)).drewN nq⟩
          case measure => simp [intOf]; omega
    · go_wp2_with fail
      refine (awake_any wr).mono ?_
      rintro e w12 ⟨rfl, hf12⟩
      go_wp2
      go_ret
      exact ⟨rfl, hf.trans hf12 (fun _ _ h => h)⟩

end Go.Proofs.Ythpkdgneijggoaa
