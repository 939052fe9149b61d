/- TlbFlushes: the walk. -/
import Derived.Test.YthpkdgneijggoaaQ
namespace Go.Proofs.Ythpkdgneijggoaa
open Go.RowKit

/-- From place off of block g on lie these entries. -/
def LAt (w : World) (g off : Nat) (L : List Tr) : Prop := ∃ cur, Has w g 31 cur ∧ ∀ j u, (flat L)[j]? = some u → cur[off + j]? = some u

theorem LAt.fr {w w' : World} {T : Nat → Prop} {g off : Nat} {L : List Tr} (h : LAt w g off L) (hf : Fr T w w') (hn : ¬ T g) : LAt w' g off L := by
  obtain ⟨cur, hh, hx⟩ := h
  exact ⟨cur, hf.has hh hn, hx⟩
theorem LAt.lt {w : World} {g off : Nat} {L : List Tr} (h : LAt w g off L) : g < w.heap.size := by
  obtain ⟨cur, hh, hx⟩ := h
  exact hh.lt
theorem LAt.frozen {w : World} {g off : Nat} {L : List Tr} (h : LAt w g off L) (i : Nat) : w.frozen? ⟨g, i, none⟩ = false := by
  obtain ⟨cur, hh, hx⟩ := h
  exact hh.frozen i
theorem LAt.cells {w : World} {g off : Nat} {L : List Tr} (h : LAt w g off L) {k : Nat} (hk : k < L.length) :
    w.cell? ⟨g, off + k * 4, none⟩ = some (.int .i64 L[k].vm) ∧ w.cell? ⟨g, off + k * 4 + 1, none⟩ = some (.int .u64 L[k].pg) ∧
      w.cell? ⟨g, off + k * 4 + 2, none⟩ = some (.int .u64 L[k].fr) ∧ w.cell? ⟨g, off + k * 4 + 3, none⟩ = some (.int .i64 L[k].pm) := by
  obtain ⟨cur, hh, hx⟩ := h
  exact tr_cells (Fr.refl (fun _ => False) w) hh.lt (fun h => h) (fun j u hu => by rw [hh.cell]; exact hx j u hu) hk

def mark77 (L : List Tr) (k : Nat) : List Tr := (L.take k).map (fun t => { t with fr := 77 }) ++ L.drop k

theorem mark77_length (L : List Tr) (k : Nat) (hk : k ≤ L.length) : (mark77 L k).length = L.length := by simp [mark77]; omega
theorem mark77_at (L : List Tr) (k : Nat) (hk : k < L.length) : (mark77 L k)[k]? = some L[k] := by
  simp [mark77, List.getElem?_append, Nat.min_eq_left (Nat.le_of_lt hk), hk]
theorem flat_getElem? (L : List Tr) (k j : Nat) (hj : j < 4) : (flat L)[k * 4 + j]? = (L[k]?).bind fun t => t.cells[j]? := by
  induction L generalizing k with
  | nil => simp [flat]
  | cons t L ih =>
    have e : flat (t :: L) = t.cells ++ flat L := by simp [flat]
    have hl : t.cells.length = 4 := rfl
    cases k with
    | zero => rw [e, List.getElem?_append_left (by omega)]; simp
    | succ k => rw [e, List.getElem?_append_right (by omega), hl, show (k + 1) * 4 + j - 4 = k * 4 + j by omega, ih]; simp
theorem LAt.set77 {w : World} {g off : Nat} {L : List Tr} {k : Nat} (hk : k < L.length) (h : LAt w g off (mark77 L k)) :
    LAt (w.setCell ⟨g, off + k * 4 + 2, none⟩ (.int .u64 77)) g off (mark77 L (k + 1)) := by
  obtain ⟨cur, hh, hx⟩ := h
  refine ⟨_, hh.set _ _, fun j u hu => ?_⟩
  obtain ⟨i, r, hr, rfl⟩ : ∃ i r, r < 4 ∧ j = i * 4 + r := ⟨j / 4, j % 4, by omega, by omega⟩
  rw [flat_getElem? _ _ _ hr] at hu
  have hsame : ∀ i, i ≠ k → (mark77 L (k + 1))[i]? = (mark77 L k)[i]? := by
    intro i hi
    simp only [mark77, List.getElem?_append, List.length_map, List.length_take, List.getElem?_map, List.getElem?_take, List.getElem?_drop]
    by_cases h1 : i < k
    · simp [h1, show i < k + 1 by omega, show i < L.length by omega, show i < min (k + 1) L.length by omega, show i < min k L.length by omega]
    · have h2 : ¬ i < k + 1 := by omega
      simp only [show ¬ i < min (k + 1) L.length by omega, show ¬ i < min k L.length by omega, if_false]
      congr 1; omega
  by_cases hi : i = k
  · subst hi
    have e1 : (mark77 L (i + 1))[i]? = some { L[i] with fr := 77 } := by
      simp [mark77, List.getElem?_append, show i < min (i + 1) L.length by omega]
    have h0 := fun u hu => hx (i * 4 + r) u hu
    rw [flat_getElem? _ _ _ hr, mark77_at L i hk] at h0
    rw [e1] at hu
    have hcur : ∀ r' u', L[i].cells[r']? = some u' → r' < 4 → cur[off + (i * 4 + r')]? = some u' := fun r' u' h h4 => hx (i * 4 + r') u' (by rw [flat_getElem? _ _ _ h4, mark77_at L i hk]; exact h)
    have hsz : off + (i * 4 + 2) < cur.size := by
      have := hcur 2 _ rfl (by omega)
      exact (Array.getElem?_eq_some_iff.1 this).1
    match r, hr, hu with
    | 0, _, hu => rw [Array.getElem?_setIfInBounds_ne (by omega)]; exact hcur 0 u (by simpa [Tr.cells] using hu) (by omega)
    | 1, _, hu => rw [Array.getElem?_setIfInBounds_ne (by omega)]; exact hcur 1 u (by simpa [Tr.cells] using hu) (by omega)
    | 2, _, hu =>
      rw [show off + i * 4 + 2 = off + (i * 4 + 2) by omega, Array.getElem?_setIfInBounds_self_of_lt hsz]
      simpa [Tr.cells] using hu
    | 3, _, hu => rw [Array.getElem?_setIfInBounds_ne (by omega)]; exact hcur 3 u (by simpa [Tr.cells] using hu) (by omega)
  · rw [hsame i hi, ← flat_getElem? _ _ _ hr] at hu
    rw [Array.getElem?_setIfInBounds_ne (by omega)]
    exact hx _ _ hu
theorem Sl.at {w : World} {S : Nat → Prop} {n : Nat} {v : Value} {L : List Tr} (h : Sl w S 31 4 v n (flat L)) (hn : 0 < n) :
    ∃ g off cap, v = .slice (some ⟨g, off, none⟩) n cap ∧ LAt w g off L ∧ S g := by
  rcases h.2 with ⟨_, h0⟩ | ⟨g, off, cap, cur, rfl, hh, hs, _, _, _, hx⟩
  · omega
  · refine ⟨g, off, cap, rfl, ⟨cur, hh, fun j u hu => ?_⟩, hs⟩
    have hj : j < (flat L).length := (List.getElem?_eq_some_iff.1 hu).1
    rw [hx j (by have := h.1; omega), hu]


set_option maxHeartbeats 4000000 in
theorem flushes_yes (S : Nat → Prop) (room V : Int) (A : Option Addr) (n c : Nat) (ops : List Sc) (w : World) (hr : 1 ≤ room ∧ room ≤ 64) (hn : n = ops.length) (hs : n * 48 ≤ 140737488355328) (hrd : Rd w S A (flatS ops)) :
    Calls Try.prog 3 #[.int .i64 room, .slice A n c, .int .i64 V] w fun e w' => e = .returned (.bool true) ∧ Fr (fun _ => False) w w' := by
  have HN := Lib.hid hn; clear hn
  have HR := Lib.hid hrd; clear hrd
  obtain ⟨i0, hi, hz0, hz1, hz2⟩ := info_parts Try.info31
  have hnil : ∀ (w : World) (b : Nat), (binOp .eql 23 (.pointer (some ⟨b, 0, none⟩)) (.pointer none)).run Try.prog w = .ok (.bool false) w := fun w b => run_eql_ptr_nil w 23 52 _ Try.underlying23
  have hneq0 : (binOp .neq 24 (.int .i64 0) (.int .i64 0)).run Try.prog w = .ok (.bool false) w := by go_simp
  go_enter Try.func3, Try.ntmps3
  go_wp2_with fail
  refine (new_yes room w hr).mono ?_
  rintro e w1 ⟨rfl, rfl⟩
  have ht0 : TlbAt (w.alloc (.cells #[.int .i64 room, .slice none 0 0] 52)) 52 (fun k => w.heap.size ≤ k) w.heap.size room [] := ⟨_, Has.new _ _ _, Nat.le_refl _, Sl.nil _ _ _ _⟩
  have HT := Lib.hid ht0; clear ht0
  go_wp2_with fail
  go_loopw [9] (fun i wr => ∃ k : Nat, k ≤ n ∧ i = .int .i64 k ∧ ∃ L : List Tr, (L.length : Int) ≤ room ∧ TlbAt wr 52 (fun k => w.heap.size ≤ k) w.heap.size room L ∧ Fr (fun _ => False) w wr) (fun i _ => n - (intOf i).toNat)
  case atStart => exact ⟨0, Nat.zero_le _, rfl, [], by simp; omega, HT.out, (Fr.refl _ _).alloc _⟩
  case round =>
    obtain ⟨k, hk, rfl, L, hL, ht, hf⟩ := hrel
    have HT := Lib.hid ht; clear ht
    by_cases hkn : k < n
    · have hko : k < ops.length := by have : n = ops.length := HN.out; omega
      obtain ⟨b, off, hA, hb, _, hc⟩ := HR.out (by intro h; have := flatS_length ops; rw [h] at this; simp at this; omega)
      subst hA
      obtain ⟨d0, d1, d2, d3, d4, d5⟩ := sc_cells hf hb (fun h => h) hc hko
      clear hc
      go_wp2_with fail
      refine (put_any _ _ room L ops[k].t wr HT.out hL hr).mono ?_
      rintro e w2 ⟨rfl, ht2, hf2⟩
      have HT2 := Lib.hid (ht2.weak (S' := fun k => w.heap.size ≤ k) (fun k _ h => by
        have := hf.size
        rcases h with h | h
        · exact h
        · omega))
      clear ht2
      have HP := Lib.hid (put_len L room ops[k].t hr.1 hL)
      have hf3 := hf.trans hf2 (fun k hk (h : w.heap.size ≤ k) => by omega)
      go_wp2
      go_roundw
      case rel => exact ⟨k + 1, by omega, by go_num, _, HP.out, HT2.out, hf3⟩
      case measure => simp [intOf]; omega
    · obtain ⟨wa, rfl⟩ : ∃ wa : World, wa = wr := ⟨_, rfl⟩
      go_wp2_with fail
      refine (entries_any _ _ room L wa HT.out (by omega)).mono ?_
      rintro e w3 ⟨v3, rfl, hs3, hf3⟩
      obtain ⟨A3, c3, rfl, _⟩ := hs3.form
      have hfw3 := hf.trans hf3 (fun _ _ h => h)
      have ht3 := (HT.out.weak (S' := fun k => w.heap.size ≤ k ∧ k < wa.heap.size) (fun k hk h => ⟨h, hk⟩)).fr hf3 (fun _ _ _ h => h)
      have HT3 := Lib.hid ht3
      have HS3 := Lib.hid hs3
      clear ht3 hs3
      obtain ⟨g, off, hg⟩ : ∃ g off, 0 < L.length → A3 = some ⟨g, off, none⟩ ∧ LAt w3 g off (mark77 L 0) ∧ wa.heap.size ≤ g := by
        rcases Nat.eq_zero_or_pos L.length with h0 | h0
        · exact ⟨0, 0, fun h => by omega⟩
        · obtain ⟨g, off, cap, hv, hl, hs⟩ := HS3.out.at h0
          cases hv
          exact ⟨g, off, fun _ => ⟨rfl, by simpa [mark77] using hl, hs⟩⟩
      have HG := Lib.hid hg; clear hg
      have hszw := hf.size
      have hsz3 := hf3.size
      go_wp2_with fail
      go_loopw [10, 12] (fun v i wr => ∃ k : Nat, k ≤ L.length ∧ i = .int .i64 k ∧ (0 < L.length → LAt wr g off (mark77 L k)) ∧ wr.ownsRow w3.heap.size 31 4 v ((L.take k).filter fun t => t.vm != V).length (flat ((L.take k).filter fun t => t.vm != V)) ∧ Fr (fun b => b = g ∧ wa.heap.size ≤ b) w3 wr)
        (fun _ i _ => L.length - (intOf i).toNat)
      case atStart => exact ⟨0, Nat.zero_le _, rfl, fun h => (HG.out h).2.1, World.ownsRow_nil _ _ _ _, Fr.refl _ _⟩
      case round =>
        obtain ⟨k, hk, rfl, hla, hown, hf4⟩ := hrel
        have HLA := Lib.hid hla; clear hla
        by_cases hkl : k < L.length
        · have hlat := HLA.out (by omega)
          obtain ⟨hA3, hg30, hgw⟩ := HG.out (by omega)
          have hg3 := hg30.lt
          clear hg30
          subst hA3
          have hkm : k < (mark77 L k).length := by rw [mark77_length L k hk]; exact hkl
          have hmk : (mark77 L k)[k] = L[k] := by have := mark77_at L k hkl; rw [List.getElem?_eq_getElem hkm] at this; exact Option.some.inj this
          obtain ⟨d0, d1, d2, d3⟩ := hlat.cells hkm
          rw [hmk] at d0 d1 d2 d3
          have hgl := hlat.lt
          have fz := hlat.frozen (off + k * 4 + 2)
          have HSET := Lib.hid (hlat.set77 hkl)
          have HLAT := Lib.hid hlat
          clear hlat hmk
          have hlen : ((L.take k).filter fun t => t.vm != V).length ≤ k := by have := List.length_filter_le (fun t => t.vm != V) (L.take k); simp at this; omega
          have hsz4 := hf4.size
          by_cases hv : L[k].vm = V
          · have HE := Lib.hid (filter_miss L (fun t => t.vm != V) k hkl (by simp [hv]))
            go_wp2
            go_roundw
            case rel => exact ⟨k + 1, by omega, by go_num, fun _ => HSET.out, by rw [HE.out]; exact own_fr hown (Fr.store _ _ _ _) (fun b (hb : w3.heap.size ≤ b) (hbg : b = g) => by omega), hf4.setCell (fun _ => ⟨rfl, hgw⟩) _⟩
            case measure => simp [intOf]; omega
          · have HE := Lib.hid (filter_hit L (fun t => t.vm != V) k hkl (by simp [hv]))
            have hpos : ∀ (w : World), True := fun _ => trivial
            clear hpos
            go_wp2_with (at_builtin; refine wpList_append_own _ rfl (.tmp 63) (.tmp 68) 34 rfl w3.heap.size 31 i0 _ 4 32 Try.underlying34 hi hz0 hz1 hz2 rfl (by decide) _ _ _ rfl (hown.alloc _) ⟨wr.heap.size, 0, none⟩ 1 1 [.int .i64 L[k].vm, .int .u64 L[k].pg, .int .u64 L[k].fr, .int .i64 L[k].pm] rfl rfl (cells4_new _ _ _ _ _ rfl) (by intro u hu; simp at hu; rcases hu with rfl | rfl | rfl | rfl <;> rfl) (by unfold maxLen; omega) (by omega) (by simp; omega) ?_)
            intro v' w5 hown5 hg5 _
            have hf5 : Fr (fun b => b = g ∧ wa.heap.size ≤ b) w3 w5 := (hf4.alloc _).grown hg5 (fun j hj hlt => by have := hown.lt j hj; omega)
            have hg5f : Fr (fun b => w3.heap.size ≤ b) wr w5 := ((Fr.refl _ _).alloc _).grown hg5 (fun j hj _ => (hown.lt j hj).1)
            have hla5 := HLAT.out.fr hg5f (fun (hb : w3.heap.size ≤ g) => by omega)
            obtain ⟨d0, d1, d2, d3⟩ := hla5.cells hkm
            have fz5 := hla5.frozen (off + k * 4 + 2)
            have HSET5 := Lib.hid (hla5.set77 hkl)
            have HO5 := Lib.hid hown5
            clear hown5 hla5
            go_wp2
            go_roundw
            case rel => exact ⟨k + 1, by omega, by go_num, fun _ => HSET5.out, by rw [HE.out]; simpa [flat_append, flat, Tr.cells] using own_fr HO5.out (Fr.store _ _ _ _) (fun b (hb : w3.heap.size ≤ b) (hbg : b = g) => by omega), hf5.setCell (fun _ => ⟨rfl, hgw⟩) _⟩
            case measure => simp [intOf]; omega
        · obtain ⟨wb, rfl⟩ : ∃ wb : World, wb = wr := ⟨_, rfl⟩
          rw [List.take_of_length_le (by omega)] at hown
          have HTB := Lib.hid (HT3.out.fr hf4 (fun k _ (h : w.heap.size ≤ k ∧ k < wa.heap.size) (h2 : k = g ∧ wa.heap.size ≤ k) => by omega))
          have HO := Lib.hid hown; clear hown
          have hfwb : Fr (fun _ => False) w wb := hfw3.trans hf4 (fun k hk (h : k = g ∧ wa.heap.size ≤ k) => by omega)
          have hlenF : (L.filter fun t => t.vm != V).length ≤ 64 := by have := List.length_filter_le (fun t => t.vm != V) L; omega
          have hszb := hf4.size
          go_wp2_with fail
          refine (entries_any _ _ room L wb HTB.out (by omega)).mono ?_
          rintro e w5 ⟨v5, rfl, hs5, hf5⟩
          obtain ⟨A5, c5, rfl, hr5, _⟩ := hs5.form
          have HTC := Lib.hid (HTB.out.fr hf5 (fun _ _ _ h => h))
          have HO5 := Lib.hid (own_fr HO.out hf5 (fun _ _ h => h))
          have HR5 := Lib.hid hr5
          have hfw5 := hfwb.trans hf5 (fun _ _ h => h)
          have hsz5 := hf5.size
          clear hs5 hr5
          go_wp2_with fail
          go_loopw [13, 14] (fun v i wr => ∃ k : Nat, k ≤ L.length ∧ i = .int .i64 k ∧ wr.ownsRow w5.heap.size 31 4 v ((L.take k).filter fun t => t.vm != V).length (flat ((L.take k).filter fun t => t.vm != V)) ∧ Fr (fun _ => False) w5 wr)
            (fun _ i _ => L.length - (intOf i).toNat)
          case atStart => exact ⟨0, Nat.zero_le _, rfl, World.ownsRow_nil _ _ _ _, Fr.refl _ _⟩
          case round =>
            obtain ⟨k, hk, rfl, hown, hf6⟩ := hrel
            by_cases hkl : k < L.length
            · obtain ⟨b, off, hA, hb, _, hc⟩ := HR5.out (by intro h; have := flat_length L; rw [h] at this; simp at this; omega)
              subst hA
              obtain ⟨d0, d1, d2, d3⟩ := tr_cells hf6 hb (fun h => h) hc hkl
              clear hc
              have hlen : ((L.take k).filter fun t => t.vm != V).length ≤ k := by have := List.length_filter_le (fun t => t.vm != V) (L.take k); simp at this; omega
              have hsz6 := hf6.size
              by_cases hv : L[k].vm = V
              · have HE := Lib.hid (filter_miss L (fun t => t.vm != V) k hkl (by simp [hv]))
                go_wp2
                go_roundw
                case rel => exact ⟨k + 1, by omega, by go_num, by rw [HE.out]; exact hown, hf6⟩
                case measure => simp [intOf]; omega
              · have HE := Lib.hid (filter_hit L (fun t => t.vm != V) k hkl (by simp [hv]))
                go_wp2_with (at_builtin; refine wpList_append_own _ rfl (.tmp 89) (.tmp 94) 34 rfl w5.heap.size 31 i0 _ 4 32 Try.underlying34 hi hz0 hz1 hz2 rfl (by decide) _ _ _ rfl (hown.alloc _) ⟨wr.heap.size, 0, none⟩ 1 1 [.int .i64 L[k].vm, .int .u64 L[k].pg, .int .u64 L[k].fr, .int .i64 L[k].pm] rfl rfl (cells4_new _ _ _ _ _ rfl) (by intro u hu; simp at hu; rcases hu with rfl | rfl | rfl | rfl <;> rfl) (by unfold maxLen; omega) (by omega) (by simp; omega) ?_)
                intro v' w7 hown7 hg7 _
                have hf7 : Fr (fun _ => False) w5 w7 := (hf6.alloc _).grown hg7 (fun j hj hlt => by have := hown.lt j hj; omega)
                have HO7 := Lib.hid hown7
                clear hown7
                go_wp2
                go_roundw
                case rel => exact ⟨k + 1, by omega, by go_num, by rw [HE.out]; simpa [flat_append, flat, Tr.cells] using HO7.out, hf7⟩
                case measure => simp [intOf]; omega
            · obtain ⟨wc, rfl⟩ : ∃ wc : World, wc = wr := ⟨_, rfl⟩
              rw [List.take_of_length_le (by omega)] at hown
              have HTD := Lib.hid (HTC.out.fr hf6 (fun _ _ _ h => h))
              have HOC := Lib.hid (own_fr HO5.out hf6 (fun _ _ h => h))
              have HOW := Lib.hid hown; clear hown
              have hfwc := hfw5.trans hf6 (fun _ _ h => h)
              have hszc := hf6.size
              go_wp2_with fail
              refine (flush_any (fun k => w.heap.size ≤ k ∧ k < wa.heap.size) _ room L V wc HTD.out (by omega)).mono ?_
              rintro e w8 ⟨rfl, ht8, hf8⟩
              have HT8 := Lib.hid ht8; clear ht8
              have h1 := own_fr HOC.out hf8 (fun b (hb : w3.heap.size ≤ b) (h : w.heap.size ≤ b ∧ b < wa.heap.size) => by omega)
              have h2 := own_fr HOW.out hf8 (fun b (hb : w5.heap.size ≤ b) (h : w.heap.size ≤ b ∧ b < wa.heap.size) => by omega)
              have hfw8 : Fr (fun _ => False) w w8 := hfwc.trans hf8 (fun k hk (h : w.heap.size ≤ k ∧ k < wa.heap.size) => by omega)
              obtain ⟨A6, c6, hv6, hr6, _⟩ := (Sl.of_own h1).form
              obtain ⟨A7, c7, hv7, hr7, _⟩ := (Sl.of_own h2).form
              subst hv6
              subst hv7
              have HR6 := Lib.hid hr6
              have HR7 := Lib.hid hr7
              clear h1 h2 hr6 hr7
              go_wp2_with fail
              refine (sameTrans_any _ _ A6 A7 c6 c7 _ _ w8 HR6.out HR7.out (by omega) (by omega)).mono ?_
              rintro e w9 ⟨rfl, nq, rfl⟩
              rw [decide_eq_true rfl]
              go_wp2_with fail
              refine (entries_any _ _ room _ _ (HT8.out.fr ((Fr.refl (fun _ => False) w8).drewN nq) (fun _ _ _ h => h)) (by omega)).mono ?_
              rintro e w10 ⟨v10, rfl, hs10, hf10⟩
              obtain ⟨A10, c10, rfl, hr10, _⟩ := hs10.form
              have HR10 := Lib.hid hr10
              have HR7' := Lib.hid (HR7.out.fr (((Fr.refl (fun _ => False) w8).drewN nq).trans hf10 (fun _ _ h => h)) (fun _ _ _ h => h))
              clear hs10 hr10
              have hfw10 := (hfw8.drewN nq).trans hf10 (fun _ _ h => h)
              go_wp2_with fail
              refine (sameTrans_any _ _ A10 A7 c10 c7 _ _ w10 HR10.out HR7'.out (by omega) (by omega)).mono ?_
              rintro e w11 ⟨rfl, nq2, rfl⟩
              rw [decide_eq_true rfl]
              go_wp2_with fail
              refine (awake_any _).mono ?_
              rintro e w12 ⟨rfl, hf12⟩
              go_wp2
              go_ret
              exact ⟨rfl, (hfw10.drewN nq2).trans hf12 (fun _ _ h => h)⟩


theorem flushes_no (room V : Int) (A : Option Addr) (n c : Nat) (w : World) (hr : ¬ (1 ≤ room ∧ room ≤ 64)) :
    Calls Try.prog 3 #[.int .i64 room, .slice A n c, .int .i64 V] w fun e w' => e = .returned (.bool true) ∧ Fr (fun _ => False) w w' := by
  by_cases h1 : room < 1
  · go_enter Try.func3, Try.ntmps3
    go_wp2_with fail
    refine (new_no room w hr).mono ?_
    rintro e w1 ⟨rfl, hw1⟩
    subst hw1
    go_wp2_with fail
    refine (awake_any _).mono ?_
    rintro e w12 ⟨rfl, hf12⟩
    go_wp2
    go_ret
    exact ⟨rfl, hf12⟩
  · have h2 : 64 < room := by omega
    go_enter Try.func3, Try.ntmps3
    go_wp2_with fail
    refine (new_no room w hr).mono ?_
    rintro e w1 ⟨rfl, hw1⟩
    subst hw1
    go_wp2_with fail
    refine (awake_any _).mono ?_
    rintro e w12 ⟨rfl, hf12⟩
    go_wp2
    go_ret
    exact ⟨rfl, hf12⟩

end Go.Proofs.Ythpkdgneijggoaa
