/- The reference's interrupt controller: first, place, Pending, New. -/
import Derived.Test.YtnjddnmekcjhnaaAA
namespace Go.Proofs.Ytnjddnmekcjhnaa
open Go.RowKit

theorem rit_wf {x : IA} (h : x.Wf) {s : Nat} (hs : s < 32) : x.cl[s]?.getD 1 = x.cl[s]?.getD 0 := by
  rw [List.getElem?_eq_getElem (by rw [h.cl]; exact hs)]; rfl

set_option maxHeartbeats 1600000 in
theorem refFirst_any (S : Nat → Prop) (r : Nat) (x : IA) (h : Nat) (w : World) (hx : RIAt w S r x) (hw : x.Wf) (he : x.Ev) (hh : h < x.lets.length) :
    Calls Try.prog 45 #[.pointer (some ⟨r, 0, none⟩), .int .i64 h] w fun e w' => e = .returned (.int .i64 (x.first x.lets[h])) ∧ w' = w := by
  obtain ⟨v, Q, hp, hS, hv, h2⟩ := hx
  obtain ⟨A, c, rfl, hr, _, _⟩ := hv.form
  obtain ⟨b, off, hA, hb, _, hcl⟩ := hr (by intro h0; have := nats_length .u64 x.lets; rw [h0] at this; simp at this; omega)
  subst hA
  have cH := hcl h _ (nats_get _ _ _ hh)
  have cV := hp.cell 96
  rw [riV] at cV
  have HP := Lib.hid hp
  have HE := Lib.hid he
  have HW := Lib.hid hw
  have hlh : x.lets[h] < 4294967296 := hw.lets _ (List.getElem_mem hh)
  clear hr hp hv h2 hcl he hw
  obtain ⟨l, hgl⟩ : ∃ l, x.lets[h] = l := ⟨_, rfl⟩
  rw [hgl] at cH hlh
  have HG := Lib.hid hgl
  clear hgl
  go_enter Try.func45, Try.ntmps45
  go_wp2_with fail
  go_loopw [5] (fun i wr => ∃ k : Nat, 1 ≤ k ∧ k ≤ 32 ∧ i = .int .i64 k ∧ (∀ s, s < k → x.want l s = false) ∧ wr = w) (fun i _ => 32 - (intOf i).toNat)
  case atStart => exact ⟨1, by omega, by omega, rfl, fun s hs => by rw [show s = 0 by omega]; exact want_zero HE.out l, rfl⟩
  case round =>
    obtain ⟨k, hk1, hk, rfl, hno, rfl⟩ := hrel
    have HN := Lib.hid hno
    clear hno
    by_cases hk2 : k < 32
    · have hk3 : (k : Int) < 32 := by omega
      have cL := HP.out.cell k
      rw [riL x _ k hk2] at cL
      have cP := HP.out.cell (32 + k)
      rw [riP x _ k hk2] at cP
      have cC := HP.out.cell (64 + k)
      rw [riC x _ k hk2] at cC
      have hwk : x.want l k = ((x.cl[k]?.getD 0 == 0) && ((x.lev.testBit k || x.pul.testBit k) && l.testBit k)) := by rw [want_bits, rit_wf HW.out hk2]
      obtain ⟨bl, hbl⟩ : ∃ b, x.lev.testBit k = b := ⟨_, rfl⟩
      obtain ⟨bp, hbp⟩ : ∃ b, x.pul.testBit k = b := ⟨_, rfl⟩
      obtain ⟨bc, hbc⟩ : ∃ b, x.cl[k]?.getD 0 = b := ⟨_, rfl⟩
      rw [hbl] at cL; rw [hbp] at cP; rw [hbc] at cC
      rw [hbl, hbp, hbc] at hwk
      have HWK := Lib.hid hwk
      have hlb := bit_eq l k
      have e2 : ((l : Int) / 2 ^ k).tmod 2 = ((l / 2 ^ k % 2 : Nat) : Int) := by
        rw [show ((l : Int) / 2 ^ k) = ((l / 2 ^ k : Nat) : Int) by push_cast; rfl, Int.tmod_eq_emod_of_nonneg (Int.natCast_nonneg _)]; push_cast; rfl
      obtain ⟨t, ht⟩ : ∃ t, l / 2 ^ k % 2 = t := ⟨_, rfl⟩
      rw [ht] at e2 hlb
      have ht2 : t = 0 ∨ t = 1 := by omega
      have HLB := Lib.hid hlb
      clear hwk hlb ht hbl hbp hbc
      have fin : Hid (x.want l k = true → x.first l = k) := fun h => first_is hk2 HN.out h
      have nxt : Hid (x.want l k = false → ∀ s, s < k + 1 → x.want l s = false) := by
        intro h s hs
        rcases Nat.lt_succ_iff_lt_or_eq.1 hs with h2 | h2
        · exact HN.out s h2
        · subst h2; exact h
      have tst : Hid (∀ u : Bool, (bl || bp) = u → x.want l k = ((bc == 0) && (u && (t == 1)))) := by
        intro u hu; rw [HWK.out, hu, HLB.out]
      rcases Nat.eq_zero_or_pos bc with hc0 | hc0
      · subst hc0
        replace cC : wr.cell? ⟨r, 64 + k, none⟩ = some (.int .i64 (-1)) := cC
        rcases hbl : bl with _ | _
        · subst hbl
          rcases hbp : bp with _ | _
          · subst hbp
            have hf : Hid (∀ s, s < k + 1 → x.want l s = false) := nxt.out (by rw [tst.out _ rfl]; simp)
            go_wp2_with (first | go_skip)
            go_roundw
            case rel => exact ⟨k + 1, by omega, by omega, by go_num, hf.out, by first | rfl | exact trivial⟩
            case measure => simp [intOf]; omega
          · subst hbp
            rcases ht2 with rfl | rfl
            · rw [show (((0 : Nat) : Int)) = 0 from rfl] at e2
              have hf : Hid (∀ s, s < k + 1 → x.want l s = false) := nxt.out (by rw [tst.out _ rfl]; simp)
              go_wp2_with (first | go_skip)
              go_roundw
              case rel => exact ⟨k + 1, by omega, by omega, by go_num, hf.out, by first | rfl | exact trivial⟩
              case measure => simp [intOf]; omega
            · rw [show (((1 : Nat) : Int)) = 1 from rfl] at e2
              have hf : Hid (x.first l = k) := fin.out (by rw [tst.out _ rfl]; rfl)
              go_wp2_with (first | go_skip)
              go_ret
              exact ⟨by rw [HG.out, hf.out]; rfl, rfl⟩
        · subst hbl
          rcases ht2 with rfl | rfl
          · rw [show (((0 : Nat) : Int)) = 0 from rfl] at e2
            have hf : Hid (∀ s, s < k + 1 → x.want l s = false) := nxt.out (by rw [tst.out _ rfl]; simp)
            go_wp2_with (first | go_skip)
            go_roundw
            case rel => exact ⟨k + 1, by omega, by omega, by go_num, hf.out, by first | rfl | exact trivial⟩
            case measure => simp [intOf]; omega
          · rw [show (((1 : Nat) : Int)) = 1 from rfl] at e2
            have hf : Hid (x.first l = k) := fin.out (by rw [tst.out _ rfl]; rfl)
            go_wp2_with (first | go_skip)
            go_ret
            exact ⟨by rw [HG.out, hf.out]; rfl, rfl⟩
      · obtain ⟨c0, rfl⟩ : ∃ c0, bc = c0 + 1 := ⟨bc - 1, by omega⟩
        replace cC : wr.cell? ⟨r, 64 + k, none⟩ = some (.int .i64 (c0 : Int)) := by rw [cC]; congr 2; omega
        have hc1 : decide ((c0 : Int) < 0) = false := by simp
        rcases hbl : bl with _ | _
        · subst hbl
          rcases hbp : bp with _ | _
          · subst hbp
            have hf : Hid (∀ s, s < k + 1 → x.want l s = false) := nxt.out (by rw [tst.out _ rfl]; simp)
            go_wp2_with (first | go_skip)
            go_roundw
            case rel => exact ⟨k + 1, by omega, by omega, by go_num, hf.out, by first | rfl | exact trivial⟩
            case measure => simp [intOf]; omega
          · subst hbp
            have hf : Hid (∀ s, s < k + 1 → x.want l s = false) := nxt.out (by rw [tst.out _ rfl]; simp)
            go_wp2_with (first | go_skip)
            go_roundw
            case rel => exact ⟨k + 1, by omega, by omega, by go_num, hf.out, by first | rfl | exact trivial⟩
            case measure => simp [intOf]; omega
        · subst hbl
          have hf : Hid (∀ s, s < k + 1 → x.want l s = false) := nxt.out (by rw [tst.out _ rfl]; simp)
          go_wp2_with (first | go_skip)
          go_roundw
          case rel => exact ⟨k + 1, by omega, by omega, by go_num, hf.out, by first | rfl | exact trivial⟩
          case measure => simp [intOf]; omega
    · have HF : Hid (x.first l = 0) := by
        show x.first l = 0
        exact first_none (fun s hs => HN.out s (by omega))
      have hk' : k = 32 := by omega
      subst hk'
      go_wp2_with fail
      go_ret
      exact ⟨by rw [HG.out, HF.out]; rfl, rfl⟩

def plN (o : Option Nat) : Int := match o with | some h => (h : Int) | none => -1
theorem refPlace_any (S : Nat → Prop) (r : Nat) (x : IA) (off row : Nat) (w : World) (hx : RIAt w S r x) (hw : x.Wf) (ho : off < 18446744073709551616) (hr : row < 65536) (hr4 : row % 4 = 0) :
    Calls Try.prog 44 #[.pointer (some ⟨r, 0, none⟩), .int .u64 off, .int .u64 row] w fun e w' => e = .returned (.int .i64 (plN (x.place off row))) ∧ w' = w := by
  obtain ⟨v, Q, hp, hS, hv, h2⟩ := hx
  obtain ⟨A, c, rfl, hrd, _, _⟩ := hv.form
  have cV := hp.cell 96
  rw [riV] at cV
  have hn := hw.harts
  have hno : ¬ (row ≤ off ∧ off % 4 = 0 ∧ (off - row) / 4 < x.lets.length) → Hid (plN (x.place off row) = -1) := fun h => by show plN (x.place off row) = _; unfold IA.place; rw [if_neg h]; rfl
  have hyes : (row ≤ off ∧ off % 4 = 0 ∧ (off - row) / 4 < x.lets.length) → Hid (plN (x.place off row) = ((off - row) / 4 : Nat)) := fun h => by show plN (x.place off row) = _; unfold IA.place; rw [if_pos h]; rfl
  obtain ⟨n, hnn⟩ : ∃ n, x.lets.length = n := ⟨_, rfl⟩
  rw [hnn] at cV hn hno hyes
  clear hp hv h2 hrd hnn hw
  by_cases h1 : off < row
  · have HE := hno (by omega)
    clear hno hyes
    go_enter Try.func44, Try.ntmps44
    go_wp2_with (first | go_skip)
    go_ret
    exact ⟨by rw [HE.out]; rfl, rfl⟩
  · have h1' : decide (off < row) = false := by simp; omega
    by_cases h2 : row + 4 * n ≤ off
    · have HE := hno (by omega)
      have h2' : decide ((row : Int) + 4 * (n : Int) ≤ (off : Int)) = true := by simp; omega
      clear hno hyes h2
      go_enter Try.func44, Try.ntmps44
      go_wp2_with (first | go_skip)
      go_ret
      exact ⟨by rw [HE.out]; rfl, rfl⟩
    · have h2' : decide ((row : Int) + 4 * (n : Int) ≤ (off : Int)) = false := by simp; omega
      by_cases h3 : off % 4 = 0
      · have HE := hyes (by omega)
        have h3' : (((off : Int) % 4) != 0) = false := by simp; omega
        have e1 : (row : Int) ≤ (off : Int) := by omega
        have hd : (off : Int) ≤ 70000 := by omega
        have HQ : Hid ((((off - row) / 4 : Nat) : Int) = ((off : Int) - row) / 4) := by show _ = _; omega
        clear hno hyes h2 h1 h3 hr4
        go_enter Try.func44, Try.ntmps44
        go_wp2_with (first | go_skip)
        go_ret
        exact ⟨by rw [HE.out, HQ.out]; rfl, rfl⟩
      · have HE := hno (by omega)
        have h3' : (((off : Int) % 4) != 0) = true := by simp; omega
        clear hno hyes h2
        go_enter Try.func44, Try.ntmps44
        go_wp2_with (first | go_skip)
        go_ret
        exact ⟨by rw [HE.out]; rfl, rfl⟩
end Go.Proofs.Ytnjddnmekcjhnaa
