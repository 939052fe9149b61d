/- The interrupt controller: what it holds, and what the chapter says of it. -/
import Derived.Test.YtnjddnmekcjhnaaW
import Derived.Laws.BitsAllLaws
import Derived.BigQuiet
namespace Go.Proofs.Ytnjddnmekcjhnaa
open Go.RowKit

/-- What a controller holds: levels, pulses (as bits), who has claimed which (0: none), what each hart lets. -/
structure IA where
  lev : Nat
  pul : Nat
  cl : List Nat
  lets : List Nat

structure IA.Wf (x : IA) : Prop where
  lev : x.lev < 4294967296
  pul : x.pul < 4294967296
  cl : x.cl.length = 32
  cls : ∀ c ∈ x.cl, c ≤ 64
  lets : ∀ l ∈ x.lets, l < 4294967296
  harts : x.lets.length ≤ 64

def IA.up (x : IA) : Nat := x.lev ||| x.pul
/-- Does source s interrupt a hart that lets l? -/
def IA.want (x : IA) (l s : Nat) : Bool := (x.cl[s]?.getD 1 == 0) && ((x.up &&& l) / 2 ^ s % 2 == 1)
def IA.first (x : IA) (l : Nat) : Nat := ((List.range 32).find? (x.want l)).getD 0

def nats (k : IntKind) (l : List Nat) : List Value := l.map fun (n : Nat) => .int k (n : Int)
theorem nats_length (k : IntKind) (l : List Nat) : (nats k l).length = l.length := by simp [nats]
theorem nats_get (k : IntKind) (l : List Nat) (i : Nat) (h : i < l.length) : (nats k l)[i]? = some (.int k (l[i] : Int)) := by simp [nats, h]
theorem nats_set (k : IntKind) (l : List Nat) (i v : Nat) : (nats k l).set i (.int k (v : Int)) = nats k (l.set i v) := by simp [nats, List.map_set]
theorem nats_oneCell (k : IntKind) (l : List Nat) : ∀ u ∈ nats k l, u.oneCell' = true := by
  intro u hu; obtain ⟨_, _, rfl⟩ := List.mem_map.1 hu; rfl

/-- Its cells. -/
def IA.cells (x : IA) (v : Value) : Array Value := (Value.int .u32 x.lev :: Value.int .u32 x.pul :: (nats .i64 x.cl ++ [v])).toArray

theorem IA.cells0 (x : IA) (v : Value) : (x.cells v)[0]? = some (.int .u32 x.lev) := rfl
theorem IA.cells1 (x : IA) (v : Value) : (x.cells v)[1]? = some (.int .u32 x.pul) := rfl
theorem IA.cellsC (x : IA) (v : Value) (s : Nat) (h : s < x.cl.length) : (x.cells v)[2 + s]? = some (.int .i64 (x.cl[s] : Int)) := by
  rw [Nat.add_comm]
  show (Value.int .u32 x.lev :: Value.int .u32 x.pul :: (nats .i64 x.cl ++ [v])).toArray[s + 2]? = _
  rw [List.getElem?_toArray]
  simp only [List.getElem?_cons_succ]
  rw [List.getElem?_append_left (by rw [nats_length]; exact h)]
  exact nats_get _ _ _ h
theorem IA.cellsL (x : IA) (v : Value) (h : x.cl.length = 32) : (x.cells v)[34]? = some v := by
  show (Value.int .u32 x.lev :: Value.int .u32 x.pul :: (nats .i64 x.cl ++ [v])).toArray[32 + 2]? = _
  rw [List.getElem?_toArray]
  simp only [List.getElem?_cons_succ]
  rw [List.getElem?_append_right (by rw [nats_length]; omega), nats_length, h]
  rfl
theorem IA.set0 (x : IA) (v : Value) (n : Nat) : (x.cells v).setIfInBounds 0 (.int .u32 n) = ({ x with lev := n }).cells v := by simp [IA.cells]
theorem IA.set1 (x : IA) (v : Value) (n : Nat) : (x.cells v).setIfInBounds 1 (.int .u32 n) = ({ x with pul := n }).cells v := by simp [IA.cells]
theorem IA.setC (x : IA) (v : Value) (s n : Nat) (h : s < x.cl.length) : (x.cells v).setIfInBounds (2 + s) (.int .i64 n) = ({ x with cl := x.cl.set s n }).cells v := by
  rw [Nat.add_comm]
  simp only [IA.cells, List.setIfInBounds_toArray, List.set_cons_succ]
  rw [List.set_append_left _ _ (by rw [nats_length]; exact h), nats_set]

/-- At block p lies a controller that holds x; all of it in blocks of S. -/
def IAt (w : World) (S : Nat → Prop) (p : Nat) (x : IA) : Prop :=
  ∃ (v : Value) (Sl' : Nat → Prop), Has w p 76 (x.cells v) ∧ S p ∧ Sl w Sl' 72 1 v x.lets.length (nats .u32 x.lets) ∧ (∀ k, Sl' k → S k ∧ k ≠ p)

section
variable {w w' : World} {S S' T : Nat → Prop} {p : Nat} {x : IA}
theorem IAt.weak (h : IAt w S p x) (hs : ∀ k, k < w.heap.size → S k → S' k) : IAt w S' p x := by
  obtain ⟨v, Q, hp, hS, hv, h2⟩ := h
  exact ⟨v, fun k => Q k ∧ k < w.heap.size, hp, hs p hp.lt hS, hv.weak (fun k hk h => ⟨h, hk⟩), fun k hk => ⟨hs k hk.2 (h2 k hk.1).1, (h2 k hk.1).2⟩⟩
theorem IAt.fr (h : IAt w S p x) (hf : Fr T w w') (hd : ∀ k, k < w.heap.size → S k → ¬ T k) : IAt w' S p x := by
  obtain ⟨v, Q, hp, hS, hv, h2⟩ := h
  exact ⟨v, Q, hf.has hp (hd p hp.lt hS), hS, hv.fr hf (fun k hk h => hd k hk (h2 k h).1), h2⟩
end

theorem u32_bit (n k : Nat) (hn : n < 4294967296) : bits .and .u32 ((n : Int) / 2 ^ k) 1 = ((n / 2 ^ k % 2 : Nat) : Int) := by
  have h1 : ((n : Int) / 2 ^ k) = ((n / 2 ^ k : Nat) : Int) := by push_cast; rfl
  have h2 : n / 2 ^ k < 4294967296 := Nat.lt_of_le_of_lt (Nat.div_le_self _ _) hn
  rw [h1]
  have := u32_and_nat (n / 2 ^ k) 1 h2 (by omega)
  rw [nat_mask1] at this
  exact this
theorem find_yes {p : Nat → Bool} {n k : Nat} (hk : k < n) (hno : ∀ s, s < k → p s = false) (h : p k = true) : (List.range n).find? p = some k := by
  rw [List.find?_range_eq_some]
  exact ⟨h, by simpa using hk, fun j hj => by simp [hno j hj]⟩
theorem find_no {p : Nat → Bool} {n : Nat} (hno : ∀ s, s < n → p s = false) : (List.range n).find? p = none := by
  rw [List.find?_range_eq_none]
  exact fun j hj => by simp [hno j hj]

theorem quiet_at {F : FuncId} {args : Array Value} {w : World} {nq k : Nat} {v : Value} (h : Calls Try.prog F args (w.drewN (nq + k)) fun e w' => e = .returned v ∧ ∃ m, w' = (w.drewN (nq + k)).drewN m) :
    Calls Try.prog F args (w.drewN (nq + k)) fun e w' => e = .returned v ∧ ∃ n, w' = w.drewN (nq + n) :=
  h.mono fun e w' ⟨h1, m, h2⟩ => ⟨h1, k + m, by rw [h2, World.drewN_drewN, Nat.add_assoc]⟩

theorem up_any (S : Nat → Prop) (p : Nat) (x : IA) (w : World) (h : IAt w S p x) (hw : x.Wf) :
    Calls Try.prog 42 #[.pointer (some ⟨p, 0, none⟩)] w fun e w' => e = .returned (.int .u32 x.up) ∧ ∃ nq, w' = w.drewN nq := by
  obtain ⟨v, Q, hp, hS, hv, h2⟩ := h
  have c0 := hp.cell 0
  have c1 := hp.cell 1
  rw [IA.cells0] at c0
  rw [IA.cells1] at c1
  have e := u32_or_nat x.lev x.pul hw.lev hw.pul
  go_enter Try.func42, Try.ntmps42
  go_wp2_with fail
  go_quiet (fail)
  go_wp2
  go_ret
  exact ⟨rfl, _, rfl⟩

set_option maxHeartbeats 1600000 in
theorem first_any (S : Nat → Prop) (p : Nat) (x : IA) (h : Nat) (w : World) (hx : IAt w S p x) (hw : x.Wf) (hh : h < x.lets.length) :
    Calls Try.prog 43 #[.pointer (some ⟨p, 0, none⟩), .int .i64 h] w fun e w' => e = .returned (.int .i64 (x.first x.lets[h])) ∧ ∃ nq, w' = w.drewN nq := by
  have HX := Lib.hid hx
  obtain ⟨v, Q, hp, hS, hv, h2⟩ := hx
  obtain ⟨A, c, rfl, hr, _, _⟩ := hv.form
  have HV := Lib.hid hr
  have HP := Lib.hid hp
  clear hr hp hv h2
  have cL := HP.out.cell 34
  rw [IA.cellsL x _ hw.cl] at cL
  go_enter Try.func43, Try.ntmps43
  go_wp2_with fail
  go_loopw [6, 5] (fun i j wr => ∃ k : Nat, k ≤ 32 ∧ i = .int .i64 k ∧ (∀ s, s < k → x.want x.lets[h] s = false) ∧ ∃ nq, wr = w.drewN nq) (fun i _ _ => 32 - (intOf i).toNat)
  case atStart => exact ⟨0, by omega, rfl, fun s hs => by omega, 0, rfl⟩
  case round =>
    obtain ⟨k, hk, rfl, hno, nq, rfl⟩ := hrel
    by_cases hk2 : k < 32
    · have cC := HP.out.cell (2 + k)
      have hkl : k < x.cl.length := by rw [hw.cl]; exact hk2
      rw [IA.cellsC x _ k hkl] at cC
      obtain ⟨b, off, hA, hb, _, hcl⟩ := HV.out (by intro h0; have := nats_length .u32 x.lets; rw [h0] at this; simp at this; omega)
      subst hA
      have cH := hcl h _ (nats_get _ _ _ hh)
      clear hcl
      have hlh : x.lets[h] < 4294967296 := hw.lets _ (List.getElem_mem hh)
      have HN := Lib.hid hno
      clear hno
      have hwk : x.want x.lets[h] k = ((x.cl[k] == 0) && ((x.up &&& x.lets[h]) / 2 ^ k % 2 == 1)) := by simp [IA.want, hkl]
      have HWK := Lib.hid hwk
      clear hwk
      obtain ⟨l, hgl⟩ : ∃ l, x.lets[h] = l := ⟨_, rfl⟩
      rw [hgl] at cH hlh HN HWK
      have HG := Lib.hid hgl
      clear hgl
      have hup : x.up < 4294967296 := Nat.or_lt_two_pow (n := 32) hw.lev hw.pul
      have e1 := u32_and_nat x.up l hup hlh
      have e2 := u32_bit (x.up &&& l) k (Nat.lt_of_le_of_lt Nat.and_le_left hup)
      rcases Nat.eq_zero_or_pos x.cl[k] with hc | hc
      · rw [hc] at cC
        rcases (show (x.up &&& l) / 2 ^ k % 2 = 1 ∨ (x.up &&& l) / 2 ^ k % 2 = 0 by omega) with hq | hq
        · have HF : Hid (x.first l = k) := by
            show x.first l = k
            unfold IA.first
            rw [find_yes hk2 HN.out (by rw [HWK.out]; simp [hc, hq])]
            rfl
          rw [hq] at e2
          clear hq hc
          go_wp2_with fail
          go_quiet ((go_at_call 42; refine quiet_at (up_any S p x _ ?_ hw); exact HX.out.fr ((Fr.refl (fun _ => False) w).drewN _) (fun _ _ _ h => h)))
          go_wp2
          go_ret
          exact ⟨by rw [HG.out, HF.out]; rfl, _, World.drewN_drewN ..⟩
        · have HF : Hid (∀ s, s < k + 1 → x.want l s = false) := by
            intro s hs
            rcases Nat.lt_succ_iff_lt_or_eq.1 hs with h2 | h2
            · exact HN.out s h2
            · subst h2
              rw [HWK.out]
              simp [hq]
          rw [hq] at e2
          clear hq hc
          go_wp2_with fail
          go_quiet ((go_at_call 42; refine quiet_at (up_any S p x _ ?_ hw); exact HX.out.fr ((Fr.refl (fun _ => False) w).drewN _) (fun _ _ _ h => h)))
          go_wp2
          go_roundw
          case rel => exact ⟨k + 1, by omega, by go_num, by rw [HG.out]; exact HF.out, _, rfl⟩
          case measure => simp [intOf]; omega
      · have HF : Hid (∀ s, s < k + 1 → x.want l s = false) := by
          intro s hs
          rcases Nat.lt_succ_iff_lt_or_eq.1 hs with h2 | h2
          · exact HN.out s h2
          · subst h2
            rw [HWK.out]
            have : (x.cl[s] == 0) = false := by simp; omega
            simp [this]
        have hcn : ((x.cl[k] : Int) == 0) = false := by simp; omega
        clear hc
        go_wp2_with fail
        go_quiet (fail)
        go_wp2
        go_roundw
        case rel => exact ⟨k + 1, by omega, by go_num, by rw [HG.out]; exact HF.out, _, rfl⟩
        case measure => simp [intOf]; omega
    · have HF : Hid (x.first x.lets[h] = 0) := by
        show x.first x.lets[h] = 0
        unfold IA.first
        rw [find_no (fun s hs => hno s (by omega))]
        rfl
      go_wp2
      go_ret
      exact ⟨by rw [HF.out]; rfl, _, rfl⟩
end Go.Proofs.Ytnjddnmekcjhnaa
