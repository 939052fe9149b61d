/- PlatTells: the walk. -/
import Derived.Test.YtnjddnmekcjhnaaK
import Derived.Deep.DeepCutAuto
import Derived.Deep.CutBlock
import Derived.Deep.CutRange
namespace Go.Proofs.Ytnjddnmekcjhnaa
open Go.RowKit

def uT (q s : List Nat) (l : Nat) (o e : Bool) : UA := ⟨q, s, l, 0, 0, 0, 0, 0, 0, o, e⟩
theorem and_isB : ∀ l : Fin 16, ((bits .and .i64 ((l.val : Nat) : Int) 4 != 0) = isB l.val 4) ∧ ((bits .and .i64 ((l.val : Nat) : Int) 1 != 0) = isB l.val 1) ∧ ((bits .and .i64 ((l.val : Nat) : Int) 2 != 0) = isB l.val 2) := by decide +kernel
theorem uT_inn (s : List Nat) (l i : Nat) (e : Bool) : (uT (List.range (min i 16)) s l (decide (16 < i)) e).inn i = uT (List.range (min (i + 1) 16)) s l (decide (16 < i + 1)) e := by
  unfold UA.inn uT
  by_cases h : i < 16
  · have h1 : min i 16 = i := by omega
    have h2 : min (i + 1) 16 = i + 1 := by omega
    rw [h1, h2, if_neg (by simp; omega), List.range_succ]
    simp; omega
  · have h1 : min i 16 = 16 := by omega
    have h2 : min (i + 1) 16 = 16 := by omega
    rw [h1, h2, if_pos (by simp)]
    simp; omega
theorem uT_read (q s : List Nat) (l : Nat) (o e : Bool) : (uT q s l o e).aft 0 = uT q.tail s l o e := by simp [UA.aft, uT]

theorem uT_aft2 (q s : List Nat) (l : Nat) (o e : Bool) : ∃ e2, (uT q s l o e).aft 2 = uT q s l o e2 := by
  by_cases h : (uT q s l o e).cause = 2
  · exact ⟨false, by simp [UA.aft, h]; simp [uT]⟩
  · exact ⟨e, by simp [UA.aft, h]⟩
theorem uT_aft5 (q s : List Nat) (l : Nat) (o e : Bool) : (uT q s l o e).aft 5 = uT q s l false e := by simp [UA.aft, uT]
theorem uT_val2 (q s : List Nat) (l : Nat) (o e : Bool) : (uT q s l o e).val 2 = (uT q s l o e).cause := by simp [UA.val, uT]
theorem uT_end (s : List Nat) (l : Nat) (e : Bool) : ∃ e2, (uT [] s l false e).aft 2 = uT [] s l false e2 ∧ (uT [] s l false e2).cause = 1 := by
  have h : (uT [] s l false e).cause = if e && isB l 2 then 2 else 1 := by simp [UA.cause, uT]
  cases h2 : (e && isB l 2) <;> rw [h2] at h
  · exact ⟨e, by simp [UA.aft, h], by simp [h]⟩
  · exact ⟨false, by simp [UA.aft, h]; simp [uT], by simp [UA.cause, uT]⟩

def uO (k l : Nat) : Bool := decide (16 < k) && isB l 4
def uD (k l : Nat) : Bool := decide (0 < k) && isB l 1
theorem uT_cause (k l : Nat) (s : List Nat) (e : Bool) (he : isB l 2 = true → e = true) : (uT (List.range (min k 16)) s l (decide (16 < k)) e).cause = if uO k l then 6 else if uD k l then 4 else if isB l 2 then 2 else 1 := by
  have h1 : (List.range (min k 16)).isEmpty = !decide (0 < k) := by
    rw [Bool.eq_iff_iff]; simp [List.isEmpty_iff]
  unfold UA.cause uT uO uD
  dsimp only
  rw [h1]
  cases h2 : isB l 2
  · simp
  · rw [he h2]
    simp

set_option maxRecDepth 100000 in
set_option maxHeartbeats 3200000 in
theorem tells_walk (ier n : Int) (sent : Bool) (w : World) :
    Calls Try.prog 9 #[.int .i64 ier, .int .i64 n, .bool sent] w fun e w' => e = .returned (.bool true) ∧ Below w.heap.size w w' := by
  obtain ⟨l, hl⟩ : ∃ l : Nat, ier % 16 = l := ⟨(ier % 16).toNat, by omega⟩
  obtain ⟨k, hk⟩ : ∃ k : Nat, n % 20 = k := ⟨(n % 20).toNat, by omega⟩
  have hl16 : l < 16 := by omega
  have hk20 : k < 20 := by omega
  have hw8 : IntKind.u8.wrap (l : Int) = l := by rw [IntKind.wrap_u8]; omega
  obtain ⟨b4, b1, b2⟩ := and_isB ⟨l, hl16⟩
  dsimp only at b4 b1 b2
  have HL := Lib.hid hl
  have HK := Lib.hid hk
  clear hl hk
  go_enter Try.func9, Try.ntmps9
  go_wp2_with fail
  refine (own_new w).mono ?_
  rintro e w1 ⟨rfl, O1⟩
  have O1 := Lib.hid O1
  go_wp2_with fail
  refine (place_any ier 16 _ (by omega) (by omega)).mono ?_
  rintro e w2 ⟨he, hw2⟩
  subst hw2
  rw [HL.out] at he
  subst he
  go_wp2_with fail
  refine (place_any n 20 _ (by omega) (by omega)).mono ?_
  rintro e w2 ⟨he, hw2⟩
  subst hw2
  rw [HK.out] at he
  subst he
  go_upto_if 23 with fail
  go_cut [] from 24 to 25 (fun wc => ∃ (s : List Nat) (e : Bool), s.length ≤ 1 ∧ Own w wc w.heap.size (uT [] s 0 false e))
  case first =>
    cases sent with
    | true =>
      go_wp2_with fail
      refine (own_write O1.out 0 5 (by omega) (by simp [ua0])).mono ?_
      rintro e w2 ⟨rfl, O2⟩
      go_wp2
      go_meet
      exact ⟨[5], true, by simp, by simpa [UA.wr, ua0, uT] using O2⟩
    | false =>
      go_wp2
      go_meet
      exact ⟨[], false, by simp, by simpa [ua0, uT] using O1.out⟩
  case rest =>
    obtain ⟨s, e, hs, O2⟩ := hcut
    have O2 := Lib.hid O2
    go_wp2_with fail
    refine (own_write O2.out 1 l (by omega) (by simp [uT]; omega)).mono ?_
    rintro e1 w2 ⟨rfl, O3⟩
    obtain ⟨em, hem⟩ : ∃ em, (e || isB l 2) = em := ⟨_, rfl⟩
    have he2 : isB l 2 = true → em = true := by rw [← hem]; intro h; simp [h]
    have HE := Lib.hid he2
    have O3 : Hid (Own w w2 w.heap.size (uT [] s l false em)) := by
      show Own _ _ _ _
      have h0 : isB 0 2 = false := by decide
      have h1 : l % 16 = l := Nat.mod_eq_of_lt hl16
      simp only [UA.wr, uT, h0, h1] at O3 ⊢
      rw [← hem]
      simpa using O3
    clear he2 hem
    go_wp2_with fail
    go_loopw [10] (fun i wr => ∃ j : Nat, j ≤ k ∧ i = .int .i64 j ∧ Own w wr w.heap.size (uT (List.range (min j 16)) s l (decide (16 < j)) em)) (fun i _ => k - (intOf i).toNat)
    case atStart => exact ⟨0, Nat.zero_le _, rfl, by simpa using O3.out⟩
    case round =>
      obtain ⟨j, hj, rfl, O4⟩ := hrel
      have O4 := Lib.hid O4
      by_cases hjk : j < k
      · have hwj : IntKind.u8.wrap (j : Int) = j := by rw [IntKind.wrap_u8]; omega
        go_wp2_with fail
        refine (own_in O4.out j).mono ?_
        rintro e1 w3 ⟨rfl, O5⟩
        rw [uT_inn] at O5
        have O5 := Lib.hid O5
        go_wp2
        go_roundw
        case rel => exact ⟨j + 1, by omega, by go_num, O5.out⟩
        case measure => simp [intOf]; omega
      · obtain rfl : j = k := by omega
        have hO : Hid (uO j l = (decide (16 < j) && isB l 4)) := by show _ = _; rfl
        have hD : Hid (uD j l = (decide (0 < j) && isB l 1)) := by show _ = _; rfl
        have hC := Lib.hid (uT_cause j l s em HE.out)
        generalize uO j l = O at *
        generalize uD j l = D at *
        generalize isB l 4 = B4 at *
        generalize isB l 1 = B1 at *
        generalize isB l 2 = B2 at *
        go_upto_region 13 with fail
        go_cut [11] from 39 to 45 (fun o wc => o = .bool O ∧ Own w wc w.heap.size (uT (List.range (min j 16)) s l (decide (16 < j)) em))
        case first =>
          by_cases h16 : 16 < j
          · have h16' : (16 : Int) < j := by omega
            have hO2 : Hid (O = B4) := by show _ = _; rw [hO.out]; simp [h16]
            go_wp2
            go_meet
            exact ⟨by rw [hO2.out], O4.out⟩
          · have h16' : decide ((16 : Int) < j) = false := by simp; omega
            have hO2 : Hid (O = false) := by show _ = _; rw [hO.out]; simp [h16]
            clear h16
            go_wp2
            go_meet
            exact ⟨by rw [hO2.out], O4.out⟩
        case rest =>
          obtain ⟨rfl, O5⟩ := hcut
          have O5 := Lib.hid O5
          clear O4
          go_upto_region 14 with fail
          go_cut [12] from 46 to 52 (fun d wc => d = .bool D ∧ Own w wc w.heap.size (uT (List.range (min j 16)) s l (decide (16 < j)) em))
          case first =>
            by_cases h16 : 0 < j
            · have h16' : (0 : Int) < j := by omega
              have hO2 : Hid (D = B1) := by show _ = _; rw [hD.out]; simp [h16]
              go_wp2
              go_meet
              exact ⟨by rw [hO2.out], O5.out⟩
            · have h16' : decide (0 < j) = false := by simp; omega
              have hO2 : Hid (D = false) := by show _ = _; rw [hD.out]; simp [h16]
              clear h16
              go_wp2
              go_meet
              exact ⟨by rw [hO2.out], O5.out⟩
          case rest =>
            obtain ⟨rfl, O6⟩ := hcut
            have O6 := Lib.hid O6
            clear O5 hO hD
            cases O with
            | true =>
              go_wp2_with fail
              refine (own_irq O6.out).mono ?_
              rintro e1 w4 ⟨he, O7⟩
              rw [hC.out] at he
              have he2 : e1 = .returned (.bool true) := he
              subst he2
              have O7 := Lib.hid O7
              clear he O6
              go_wp2_with fail
              refine (own_read O7.out 2).mono ?_
              rintro e1 w5 ⟨he, O8⟩
              rw [uT_val2, hC.out] at he
              have he2 : e1 = .returned (.int .u8 6) := he
              subst he2
              obtain ⟨em2, hem2⟩ := uT_aft2 (List.range (min j 16)) s l (decide (16 < j)) em
              rw [hem2] at O8
              have O8 := Lib.hid O8
              clear he O7 hem2 hC
              go_wp2_with fail
              refine (own_read O8.out 5).mono ?_
              rintro e1 w6 ⟨rfl, O9⟩
              rw [uT_aft5] at O9
              have O9 := Lib.hid O9
              clear O8
              generalize hq : List.range (min j 16) = q at *
              have hql : q.length ≤ 16 := by rw [← hq]; simp; omega
              have HQL := Lib.hid hql
              clear hq hql
              go_wp2_with fail
              go_loopw [15] (fun i wr => ∃ x : Nat, x ≤ 16 ∧ i = .int .i64 x ∧ Own w wr w.heap.size (uT (q.drop x) s l false em2)) (fun i _ => 16 - (intOf i).toNat)
              case atStart => exact ⟨0, Nat.zero_le _, rfl, O9.out⟩
              case round =>
                obtain ⟨x, hx, rfl, O10⟩ := hrel
                have O10 := Lib.hid O10
                by_cases hx16 : x < 16
                · go_wp2_with fail
                  refine (own_read O10.out 0).mono ?_
                  rintro e1 w7 ⟨rfl, O11⟩
                  rw [uT_read, List.tail_drop] at O11
                  have O11 := Lib.hid O11
                  go_wp2
                  go_roundw
                  case rel => exact ⟨x + 1, by omega, by go_num, O11.out⟩
                  case measure => simp [intOf]; omega
                · obtain ⟨em3, hem3, hc3⟩ := uT_end s l em2
                  have HE3 := Lib.hid hem3
                  have HC3 := Lib.hid hc3
                  have hd0 : q.drop x = [] := List.drop_eq_nil_of_le (by have := HQL.out; omega)
                  have O10 : Hid (Own w wr w.heap.size (uT [] s l false em2)) := by
                    show Own _ _ _ _
                    have h := O10.out
                    rw [hd0] at h
                    exact h
                  clear hd0 hem3 hc3
                  go_wp2_with fail
                  refine (own_read O10.out 2).mono ?_
                  rintro e1 w7 ⟨_, O11⟩
                  rw [HE3.out] at O11
                  have O11 := Lib.hid O11
                  clear O10 HE3
                  go_wp2_with fail
                  refine (own_irq O11.out).mono ?_
                  rintro e1 w8 ⟨he, O12⟩
                  rw [HC3.out] at he
                  have he2 : e1 = .returned (.bool false) := he
                  subst he2
                  have O12 := Lib.hid O12
                  clear he O11
                  go_wp2_with fail
                  refine (own_read O12.out 2).mono ?_
                  rintro e1 w9 ⟨he, O13⟩
                  rw [uT_val2, HC3.out] at he
                  have he2 : e1 = .returned (.int .u8 1) := he
                  subst he2
                  have O13 := Lib.hid O13
                  clear he O12 HC3
                  go_wp2_with fail
                  refine (awake_any _).mono ?_
                  rintro e1 w10 ⟨rfl, hf⟩
                  go_wp2
                  go_ret
                  exact ⟨rfl, (O13.out.2.2.trans hf (fun _ _ h => h)).below (fun _ h => h.elim) (Nat.le_refl _)⟩
            | false =>
              cases D with
              | true =>
                go_wp2_with fail
                refine (own_irq O6.out).mono ?_
                rintro e1 w4 ⟨he, O7⟩
                rw [hC.out] at he
                have he2 : e1 = .returned (.bool true) := he
                subst he2
                have O7 := Lib.hid O7
                clear he O6
                go_wp2_with fail
                refine (own_read O7.out 2).mono ?_
                rintro e1 w5 ⟨he, O8⟩
                rw [uT_val2, hC.out] at he
                have he2 : e1 = .returned (.int .u8 4) := he
                subst he2
                obtain ⟨em2, hem2⟩ := uT_aft2 (List.range (min j 16)) s l (decide (16 < j)) em
                rw [hem2] at O8
                have O8 := Lib.hid O8
                clear he O7 hem2 hC
                go_wp2_with fail
                refine (own_read O8.out 5).mono ?_
                rintro e1 w6 ⟨rfl, O9⟩
                rw [uT_aft5] at O9
                have O9 := Lib.hid O9
                clear O8
                generalize hq : List.range (min j 16) = q at *
                have hql : q.length ≤ 16 := by rw [← hq]; simp; omega
                have HQL := Lib.hid hql
                clear hq hql
                go_wp2_with fail
                go_loopw [15] (fun i wr => ∃ x : Nat, x ≤ 16 ∧ i = .int .i64 x ∧ Own w wr w.heap.size (uT (q.drop x) s l false em2)) (fun i _ => 16 - (intOf i).toNat)
                case atStart => exact ⟨0, Nat.zero_le _, rfl, O9.out⟩
                case round =>
                  obtain ⟨x, hx, rfl, O10⟩ := hrel
                  have O10 := Lib.hid O10
                  by_cases hx16 : x < 16
                  · go_wp2_with fail
                    refine (own_read O10.out 0).mono ?_
                    rintro e1 w7 ⟨rfl, O11⟩
                    rw [uT_read, List.tail_drop] at O11
                    have O11 := Lib.hid O11
                    go_wp2
                    go_roundw
                    case rel => exact ⟨x + 1, by omega, by go_num, O11.out⟩
                    case measure => simp [intOf]; omega
                  · obtain ⟨em3, hem3, hc3⟩ := uT_end s l em2
                    have HE3 := Lib.hid hem3
                    have HC3 := Lib.hid hc3
                    have hd0 : q.drop x = [] := List.drop_eq_nil_of_le (by have := HQL.out; omega)
                    have O10 : Hid (Own w wr w.heap.size (uT [] s l false em2)) := by
                      show Own _ _ _ _
                      have h := O10.out
                      rw [hd0] at h
                      exact h
                    clear hd0 hem3 hc3
                    go_wp2_with fail
                    refine (own_read O10.out 2).mono ?_
                    rintro e1 w7 ⟨_, O11⟩
                    rw [HE3.out] at O11
                    have O11 := Lib.hid O11
                    clear O10 HE3
                    go_wp2_with fail
                    refine (own_irq O11.out).mono ?_
                    rintro e1 w8 ⟨he, O12⟩
                    rw [HC3.out] at he
                    have he2 : e1 = .returned (.bool false) := he
                    subst he2
                    have O12 := Lib.hid O12
                    clear he O11
                    go_wp2_with fail
                    refine (own_read O12.out 2).mono ?_
                    rintro e1 w9 ⟨he, O13⟩
                    rw [uT_val2, HC3.out] at he
                    have he2 : e1 = .returned (.int .u8 1) := he
                    subst he2
                    have O13 := Lib.hid O13
                    clear he O12 HC3
                    go_wp2_with fail
                    refine (awake_any _).mono ?_
                    rintro e1 w10 ⟨rfl, hf⟩
                    go_wp2
                    go_ret
                    exact ⟨rfl, (O13.out.2.2.trans hf (fun _ _ h => h)).below (fun _ h => h.elim) (Nat.le_refl _)⟩
              | false =>
                cases B2 with
                | true =>
                  go_wp2_with fail
                  refine (own_irq O6.out).mono ?_
                  rintro e1 w4 ⟨he, O7⟩
                  rw [hC.out] at he
                  have he2 : e1 = .returned (.bool true) := he
                  subst he2
                  have O7 := Lib.hid O7
                  clear he O6
                  go_wp2_with fail
                  refine (own_read O7.out 2).mono ?_
                  rintro e1 w5 ⟨he, O8⟩
                  rw [uT_val2, hC.out] at he
                  have he2 : e1 = .returned (.int .u8 2) := he
                  subst he2
                  obtain ⟨em2, hem2⟩ := uT_aft2 (List.range (min j 16)) s l (decide (16 < j)) em
                  rw [hem2] at O8
                  have O8 := Lib.hid O8
                  clear he O7 hem2 hC
                  go_wp2_with fail
                  refine (own_read O8.out 5).mono ?_
                  rintro e1 w6 ⟨rfl, O9⟩
                  rw [uT_aft5] at O9
                  have O9 := Lib.hid O9
                  clear O8
                  generalize hq : List.range (min j 16) = q at *
                  have hql : q.length ≤ 16 := by rw [← hq]; simp; omega
                  have HQL := Lib.hid hql
                  clear hq hql
                  go_wp2_with fail
                  go_loopw [15] (fun i wr => ∃ x : Nat, x ≤ 16 ∧ i = .int .i64 x ∧ Own w wr w.heap.size (uT (q.drop x) s l false em2)) (fun i _ => 16 - (intOf i).toNat)
                  case atStart => exact ⟨0, Nat.zero_le _, rfl, O9.out⟩
                  case round =>
                    obtain ⟨x, hx, rfl, O10⟩ := hrel
                    have O10 := Lib.hid O10
                    by_cases hx16 : x < 16
                    · go_wp2_with fail
                      refine (own_read O10.out 0).mono ?_
                      rintro e1 w7 ⟨rfl, O11⟩
                      rw [uT_read, List.tail_drop] at O11
                      have O11 := Lib.hid O11
                      go_wp2
                      go_roundw
                      case rel => exact ⟨x + 1, by omega, by go_num, O11.out⟩
                      case measure => simp [intOf]; omega
                    · obtain ⟨em3, hem3, hc3⟩ := uT_end s l em2
                      have HE3 := Lib.hid hem3
                      have HC3 := Lib.hid hc3
                      have hd0 : q.drop x = [] := List.drop_eq_nil_of_le (by have := HQL.out; omega)
                      have O10 : Hid (Own w wr w.heap.size (uT [] s l false em2)) := by
                        show Own _ _ _ _
                        have h := O10.out
                        rw [hd0] at h
                        exact h
                      clear hd0 hem3 hc3
                      go_wp2_with fail
                      refine (own_read O10.out 2).mono ?_
                      rintro e1 w7 ⟨_, O11⟩
                      rw [HE3.out] at O11
                      have O11 := Lib.hid O11
                      clear O10 HE3
                      go_wp2_with fail
                      refine (own_irq O11.out).mono ?_
                      rintro e1 w8 ⟨he, O12⟩
                      rw [HC3.out] at he
                      have he2 : e1 = .returned (.bool false) := he
                      subst he2
                      have O12 := Lib.hid O12
                      clear he O11
                      go_wp2_with fail
                      refine (own_read O12.out 2).mono ?_
                      rintro e1 w9 ⟨he, O13⟩
                      rw [uT_val2, HC3.out] at he
                      have he2 : e1 = .returned (.int .u8 1) := he
                      subst he2
                      have O13 := Lib.hid O13
                      clear he O12 HC3
                      go_wp2_with fail
                      refine (awake_any _).mono ?_
                      rintro e1 w10 ⟨rfl, hf⟩
                      go_wp2
                      go_ret
                      exact ⟨rfl, (O13.out.2.2.trans hf (fun _ _ h => h)).below (fun _ h => h.elim) (Nat.le_refl _)⟩
                | false =>
                  go_wp2_with fail
                  refine (own_irq O6.out).mono ?_
                  rintro e1 w4 ⟨he, O7⟩
                  rw [hC.out] at he
                  have he2 : e1 = .returned (.bool false) := he
                  subst he2
                  have O7 := Lib.hid O7
                  clear he O6
                  go_wp2_with fail
                  refine (own_read O7.out 2).mono ?_
                  rintro e1 w5 ⟨he, O8⟩
                  rw [uT_val2, hC.out] at he
                  have he2 : e1 = .returned (.int .u8 1) := he
                  subst he2
                  obtain ⟨em2, hem2⟩ := uT_aft2 (List.range (min j 16)) s l (decide (16 < j)) em
                  rw [hem2] at O8
                  have O8 := Lib.hid O8
                  clear he O7 hem2 hC
                  go_wp2_with fail
                  refine (own_read O8.out 5).mono ?_
                  rintro e1 w6 ⟨rfl, O9⟩
                  rw [uT_aft5] at O9
                  have O9 := Lib.hid O9
                  clear O8
                  generalize hq : List.range (min j 16) = q at *
                  have hql : q.length ≤ 16 := by rw [← hq]; simp; omega
                  have HQL := Lib.hid hql
                  clear hq hql
                  go_wp2_with fail
                  go_loopw [15] (fun i wr => ∃ x : Nat, x ≤ 16 ∧ i = .int .i64 x ∧ Own w wr w.heap.size (uT (q.drop x) s l false em2)) (fun i _ => 16 - (intOf i).toNat)
                  case atStart => exact ⟨0, Nat.zero_le _, rfl, O9.out⟩
                  case round =>
                    obtain ⟨x, hx, rfl, O10⟩ := hrel
                    have O10 := Lib.hid O10
                    by_cases hx16 : x < 16
                    · go_wp2_with fail
                      refine (own_read O10.out 0).mono ?_
                      rintro e1 w7 ⟨rfl, O11⟩
                      rw [uT_read, List.tail_drop] at O11
                      have O11 := Lib.hid O11
                      go_wp2
                      go_roundw
                      case rel => exact ⟨x + 1, by omega, by go_num, O11.out⟩
                      case measure => simp [intOf]; omega
                    · obtain ⟨em3, hem3, hc3⟩ := uT_end s l em2
                      have HE3 := Lib.hid hem3
                      have HC3 := Lib.hid hc3
                      have hd0 : q.drop x = [] := List.drop_eq_nil_of_le (by have := HQL.out; omega)
                      have O10 : Hid (Own w wr w.heap.size (uT [] s l false em2)) := by
                        show Own _ _ _ _
                        have h := O10.out
                        rw [hd0] at h
                        exact h
                      clear hd0 hem3 hc3
                      go_wp2_with fail
                      refine (own_read O10.out 2).mono ?_
                      rintro e1 w7 ⟨_, O11⟩
                      rw [HE3.out] at O11
                      have O11 := Lib.hid O11
                      clear O10 HE3
                      go_wp2_with fail
                      refine (own_irq O11.out).mono ?_
                      rintro e1 w8 ⟨he, O12⟩
                      rw [HC3.out] at he
                      have he2 : e1 = .returned (.bool false) := he
                      subst he2
                      have O12 := Lib.hid O12
                      clear he O11
                      go_wp2_with fail
                      refine (own_read O12.out 2).mono ?_
                      rintro e1 w9 ⟨he, O13⟩
                      rw [uT_val2, HC3.out] at he
                      have he2 : e1 = .returned (.int .u8 1) := he
                      subst he2
                      have O13 := Lib.hid O13
                      clear he O12 HC3
                      go_wp2_with fail
                      refine (awake_any _).mono ?_
                      rintro e1 w10 ⟨rfl, hf⟩
                      go_wp2
                      go_ret
                      exact ⟨rfl, (O13.out.2.2.trans hf (fun _ _ h => h)).below (fun _ h => h.elim) (Nat.le_refl _)⟩
end Go.Proofs.Ytnjddnmekcjhnaa
