/- The closures and the generic filter of the TLB. -/
import Derived.Test.YthpkdgneijggoaaW
namespace Go.Proofs.Ythpkdgneijggoaa
open Go.RowKit

/-- An entry of a TLB. -/
structure Tr where
  vm : Int
  pg : Int
  fr : Int
  pm : Int
deriving DecidableEq
def Tr.cells (t : Tr) : List Value := [.int .i64 t.vm, .int .u64 t.pg, .int .u64 t.fr, .int .i64 t.pm]
def flat (l : List Tr) : List Value := l.flatMap Tr.cells

theorem flat_nil : flat [] = [] := rfl
theorem flat_append (a b : List Tr) : flat (a ++ b) = flat a ++ flat b := by simp [flat]
theorem flat_length (l : List Tr) : (flat l).length = l.length * 4 := by
  induction l with
  | nil => rfl
  | cons t l ih => simp [flat, Tr.cells] at ih ⊢; omega
theorem flat_at (l : List Tr) (k : Nat) (hk : k < l.length) : (flat l)[k * 4]? = some (.int .i64 l[k].vm) ∧ (flat l)[k * 4 + 1]? = some (.int .u64 l[k].pg) ∧
    (flat l)[k * 4 + 2]? = some (.int .u64 l[k].fr) ∧ (flat l)[k * 4 + 3]? = some (.int .i64 l[k].pm) := by
  induction l generalizing k with
  | nil => simp at hk
  | cons t l ih =>
    cases k with
    | zero => simp [flat, Tr.cells]
    | succ k =>
      have h := ih k (by simpa using hk)
      have e : flat (t :: l) = t.cells ++ flat l := by simp [flat]
      have hl : t.cells.length = 4 := rfl
      have sk : ∀ j, (t.cells ++ flat l)[4 + j]? = (flat l)[j]? := fun j => by rw [List.getElem?_append_right (by omega), hl]; congr 1; omega
      rw [e]
      refine ⟨?_, ?_, ?_, ?_⟩
      · rw [show (k + 1) * 4 = 4 + k * 4 by omega, sk]; exact h.1
      · rw [show (k + 1) * 4 + 1 = 4 + (k * 4 + 1) by omega, sk]; exact h.2.1
      · rw [show (k + 1) * 4 + 2 = 4 + (k * 4 + 2) by omega, sk]; exact h.2.2.1
      · rw [show (k + 1) * 4 + 3 = 4 + (k * 4 + 3) by omega, sk]; exact h.2.2.2

theorem flushFn_any (t : Tr) (B : Nat) (V : Int) (w : World) (hB : w.cell? ⟨B, 0, none⟩ = some (.int .i64 V)) (hb : B < w.heap.size) :
    Calls Try.prog 25 #[.agg #[.int .i64 t.vm, .int .u64 t.pg, .int .u64 t.fr, .int .i64 t.pm], .pointer (some ⟨B, 0, none⟩)] w fun e w' =>
      e = .returned (.bool (t.vm != V)) ∧ Fr (fun _ => False) w w' := by
  have hB' := (World.cell?_alloc_past (w := w) (.cells #[.int .i64 t.vm, .int .u64 t.pg, .int .u64 t.fr, .int .i64 t.pm] 31) _ 0 hb).trans hB
  go_enter Try.func25, Try.ntmps25
  go_wp2
  go_ret
  exact ⟨rfl, (Fr.refl _ _).alloc _⟩


theorem flushPageFn_any (t : Tr) (B C : Nat) (V G : Int) (w : World) (hB : w.cell? ⟨B, 0, none⟩ = some (.int .i64 V)) (hC : w.cell? ⟨C, 0, none⟩ = some (.int .u64 G)) (hb : B < w.heap.size) (hc : C < w.heap.size) :
    Calls Try.prog 27 #[.agg #[.int .i64 t.vm, .int .u64 t.pg, .int .u64 t.fr, .int .i64 t.pm], .pointer (some ⟨B, 0, none⟩), .pointer (some ⟨C, 0, none⟩)] w fun e w' =>
      e = .returned (.bool (t.vm != V || t.pg != G)) ∧ Fr (fun _ => False) w w' := by
  have hB' := (World.cell?_alloc_past (w := w) (.cells #[.int .i64 t.vm, .int .u64 t.pg, .int .u64 t.fr, .int .i64 t.pm] 31) _ 0 hb).trans hB
  have hC' := (World.cell?_alloc_past (w := w) (.cells #[.int .i64 t.vm, .int .u64 t.pg, .int .u64 t.fr, .int .i64 t.pm] 31) _ 0 hc).trans hC
  by_cases hv : t.vm = V
  · have h1 : (t.vm != V) = false := by simp [hv]
    go_enter Try.func27, Try.ntmps27
    go_wp2
    go_ret
    exact ⟨by simp [h1], (Fr.refl _ _).alloc _⟩
  · have h1 : (t.vm != V) = true := by simp [hv]
    go_enter Try.func27, Try.ntmps27
    go_wp2
    go_ret
    exact ⟨by simp [h1], (Fr.refl _ _).alloc _⟩

/-- The four cells of entry k, in a later world, in the walk's spelling. -/
theorem tr_cells {w wr : World} {S : Nat → Prop} {b off : Nat} {l : List Tr} {k : Nat} (hfr : Fr S w wr) (hb : b < w.heap.size) (hn : ¬ S b)
    (hc : ∀ j u, (flat l)[j]? = some u → w.cell? ⟨b, off + j, none⟩ = some u) (hk : k < l.length) :
    wr.cell? ⟨b, off + k * 4, none⟩ = some (.int .i64 l[k].vm) ∧ wr.cell? ⟨b, off + k * 4 + 1, none⟩ = some (.int .u64 l[k].pg) ∧
      wr.cell? ⟨b, off + k * 4 + 2, none⟩ = some (.int .u64 l[k].fr) ∧ wr.cell? ⟨b, off + k * 4 + 3, none⟩ = some (.int .i64 l[k].pm) := by
  obtain ⟨c0, c1, c2, c3⟩ := flat_at l k hk
  exact ⟨(hfr.cell (p := ⟨b, _, none⟩) hb hn).trans (hc _ _ c0), (hfr.cell (p := ⟨b, _, none⟩) hb hn).trans (hc _ _ c1),
    (hfr.cell (p := ⟨b, _, none⟩) hb hn).trans (hc _ _ c2), (hfr.cell (p := ⟨b, _, none⟩) hb hn).trans (hc _ _ c3)⟩

theorem filter_hit (l : List Tr) (p : Tr → Bool) (k : Nat) (hk : k < l.length) (hp : p l[k] = true) : (l.take (k + 1)).filter p = (l.take k).filter p ++ [l[k]] := by
  rw [List.take_succ_eq_append_getElem hk, List.filter_append]; simp [hp]
theorem filter_miss (l : List Tr) (p : Tr → Bool) (k : Nat) (hk : k < l.length) (hp : p l[k] = false) : (l.take (k + 1)).filter p = (l.take k).filter p := by
  rw [List.take_succ_eq_append_getElem hk, List.filter_append]; simp [hp]

theorem Try.info31 : (Try.prog.info? 31).map (fun i => (i.zero, i.size, i.bytes)) = some (some (.agg #[.int .i64 0, .int .u64 0, .int .u64 0, .int .i64 0]), 4, 32) := by kernel_rfl

/-- What is asked of a function value that chooses entries. -/
def Picks (F : FuncId) (cap : List Value) (p : Tr → Bool) (w : World) : Prop :=
  ∀ (t : Tr) (w1 : World), Fr (fun _ => False) w w1 → Calls Try.prog F (.agg #[.int .i64 t.vm, .int .u64 t.pg, .int .u64 t.fr, .int .i64 t.pm] :: cap).toArray w1 fun e w' =>
      e = .returned (.bool (p t)) ∧ Fr (fun _ => False) w1 w'

set_option maxHeartbeats 1600000 in
theorem left_any (S : Nat → Prop) (A : Option Addr) (n c : Nat) (l : List Tr) (F : FuncId) (cap : List Value) (p : Tr → Bool) (w : World) (hn : n = l.length) (hs : n * 32 ≤ 140737488355328)
    (hr : Rd w S A (flat l)) (hp : Picks F cap p w) (hcf : ∀ args w, (callFunc F args).run Try.prog w = .ok (.enter F args) w) :
    Calls Try.prog 24 #[.slice A n c, .func (.func F) #[] cap.toArray] w fun e w' =>
      ∃ v, e = .returned v ∧ Sl w' (fun k => w.heap.size ≤ k) 31 4 v (l.filter p).length (flat (l.filter p)) ∧ Fr (fun _ => False) w w' := by
  obtain ⟨i0, hi, hz0, hz1, hz2⟩ := info_parts Try.info31
  have HP := Lib.hid hp; clear hp
  have HR := Lib.hid hr; clear hr
  have HN := Lib.hid hn; clear hn
  go_enter Try.func24, Try.ntmps24
  go_wp2
  go_loopw [5, 10] (fun v i wr => ∃ k : Nat, k ≤ n ∧ i = .int .i64 k ∧ wr.ownsRow w.heap.size 31 4 v ((l.take k).filter p).length (flat ((l.take k).filter p)) ∧ Fr (fun _ => False) w wr)
    (fun _ i _ => n - (intOf i).toNat)
  case atStart => exact ⟨0, Nat.zero_le _, rfl, World.ownsRow_nil _ _ _ _, Fr.refl _ _⟩
  case round =>
    obtain ⟨k, hk, rfl, hown, hfr⟩ := hrel
    by_cases hlt : k < n
    · have hln : n = l.length := HN.out
      have hkl : k < l.length := by omega
      obtain ⟨b, off, hA, hb, hs, hc⟩ := HR.out (by intro h; have := flat_length l; rw [h] at this; simp at this; omega)
      clear hln
      subst hA
      obtain ⟨d0, d1, d2, d3⟩ := tr_cells hfr hb (by simp) hc hkl
      clear hc
      go_wp2_with fail
      refine (HP.out l[k] _ (hfr.alloc _)).mono ?_
      rintro e w2 ⟨rfl, hfr2⟩
      have hfr3 : Fr (fun _ => False) w w2 := (hfr.alloc _).trans hfr2 (fun _ _ h => h)
      have hown2 := own_fr (hown.alloc (.cells #[.int .i64 l[k].vm, .int .u64 l[k].pg, .int .u64 l[k].fr, .int .i64 l[k].pm] 31)) hfr2 (fun _ _ h => h)
      have hbx := hfr2.has (Has.new wr 31 #[.int .i64 l[k].vm, .int .u64 l[k].pg, .int .u64 l[k].fr, .int .i64 l[k].pm]) (fun h => h)
      cases hpk : p l[k] with
      | true =>
        have HE := Lib.hid (filter_hit l p k hkl hpk); clear hpk
        have e0 := hbx.cell 0
        have e1 := hbx.cell 1
        have e2 := hbx.cell 2
        have e3 := hbx.cell 3
        have hlen : ((l.take k).filter p).length ≤ k := by have := List.length_filter_le p (l.take k); simp at this; omega
        have hsz := hfr3.size
        go_wp2_with (at_builtin; refine wpList_append_own _ rfl (.tmp 17) (.tmp 19) 34 rfl w.heap.size 31 i0 _ 4 32 Try.underlying34 hi hz0 hz1 hz2 rfl (by decide) _ _ _ rfl (hown2.alloc _) ⟨w2.heap.size, 0, none⟩ 1 1 [.int .i64 l[k].vm, .int .u64 l[k].pg, .int .u64 l[k].fr, .int .i64 l[k].pm] rfl rfl ?c1 ?c2 ?c3 ?c4 ?c5 ?_)
        case c1 =>
          intro j u hj
          match j, hj with
          | 0, hj => simp at hj; subst hj; simp [Addr.add]
          | 1, hj => simp at hj; subst hj; simp [Addr.add]
          | 2, hj => simp at hj; subst hj; simp [Addr.add]
          | 3, hj => simp at hj; subst hj; simp [Addr.add]
        case c2 => intro u hu; simp at hu; rcases hu with rfl | rfl | rfl | rfl <;> rfl
        case c3 => unfold maxLen; omega
        case c4 => omega
        case c5 => simp; omega
        intro v' w3 hown3 hg3 _
        have hfr4 : Fr (fun _ => False) w w3 := (hfr3.alloc _).grown hg3 (fun j hj hlt => by have := hown2.lt j hj; omega)
        go_wp2
        go_roundw
        case rel => exact ⟨k + 1, by omega, by go_num, by rw [HE.out]; simpa [flat_append, flat, Tr.cells] using hown3, hfr4⟩
        case measure => simp [intOf]; omega
      | false =>
        have HE := Lib.hid (filter_miss l p k hkl hpk); clear hpk
        go_wp2_with fail
        go_roundw
        case rel => exact ⟨k + 1, by omega, by go_num, by rw [HE.out]; exact own_fr (hown.alloc _) hfr2 (fun _ _ h => h), hfr3⟩
        case measure => simp [intOf]; omega
    · go_wp2
      go_ret
      have hkn : k = n := by omega
      have hln : n = l.length := HN.out
      subst hkn
      rw [List.take_of_length_le (by omega)] at hown
      exact ⟨_, rfl, Sl.of_own hown, hfr⟩
end Go.Proofs.Ythpkdgneijggoaa
