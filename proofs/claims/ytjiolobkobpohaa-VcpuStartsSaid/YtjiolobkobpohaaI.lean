/- vcpu.Wrote and citadelref17.Wrote. -/
import Derived.Test.YtjiolobkobpohaaH
import Derived.Test.YtjiolobkobpohaaE
namespace Go.Proofs.Ytjiolobkobpohaa
open Go.RowKit Go.BigFrame

/-- The first k of a list done. -/
def stepL (W l : Nat → V) (k : Nat) : Nat → V := fun j => if j < k then W j else l j
theorem stepL_zero (W l : Nat → V) : stepL W l 0 = l := funext fun j => by simp [stepL]
theorem stepL_at (W l : Nat → V) (k : Nat) : stepL W l k k = l k := by simp [stepL]
theorem stepL_same (W l : Nat → V) (k : Nat) (h : W k = l k) : stepL W l (k + 1) = stepL W l k := funext fun j => by
  simp only [stepL]
  by_cases h1 : j < k
  · rw [if_pos (by omega), if_pos h1]
  · rw [if_neg h1]
    by_cases h2 : j < k + 1
    · obtain rfl : j = k := by omega
      rw [if_pos h2, h]
    · rw [if_neg h2]
theorem stepL_succ (W l : Nat → V) (k : Nat) : stepL W l (k + 1) = upd (stepL W l k) k (W k) := funext fun j => by
  simp only [stepL, upd]
  by_cases h : j = k
  · subst h; simp
  · rw [if_neg h]
    by_cases h1 : j < k
    · rw [if_pos h1, if_pos (by omega)]
    · rw [if_neg h1, if_neg (by omega)]
theorem ent_congr {w : World} {g n : Nat} {l l' : Nat → V} (h : ∀ j, j < n → l j = l' j) (hok : (Ent.vs g n l).ok w) : (Ent.vs g n l').ok w := by
  obtain ⟨cur, e1, e2⟩ := hok
  exact ⟨cur, e1, fun k j hk hj => by rw [e2 k j hk hj, h k hk]⟩
theorem Mem.start {w w1 : World} {g n : Nat} {l : Nat → V} (hf : Fr (fun _ => False) w w1) (hg : w.heap.size ≤ g) (hok : (Ent.vs g n l).ok w1) : Mem (fun _ => False) w w1 [.vs g n l] :=
  ⟨hf, (fun x hx => by simp at hx; subst hx; exact hok), (fun x hx hl => by simp at hx; subst hx; simp [Ent.g] at hl; omega), by simp⟩
theorem Mem.done {w w1 : World} {g n c : Nat} {l l' : Nat → V} (hM : Mem (fun _ => False) w w1 [.vs g n l]) (hl : ∀ j, j < n → l j = l' j) (hg : w.heap.size ≤ g) (hn : n ≤ c) (hc : c ≤ maxLen) :
    VSl w1 w.heap.size (.slice (some ⟨g, 0, none⟩) n c) n l' ∧ Fr (fun _ => False) w w1 :=
  ⟨⟨_, c, rfl, hn, hc, (fun h => by cases h), fun _ => ⟨g, rfl, hg, ent_congr hl (hM.ok _ (by simp))⟩⟩, hM.fr⟩
theorem VSl.zero {w : World} {B : Nat} {v : Value} {l l' : Nat → V} (h : VSl w B v 0 l) : VSl w B v 0 l' := by
  obtain ⟨A, c, hv, h1, h2, h3, _⟩ := h
  exact ⟨A, c, hv, h1, h2, h3, fun h => absurd h (Nat.lt_irrefl _)⟩

/-- A store takes others' reservations of the same eight bytes. -/
def V.wrote (x : V) (mine : Bool) (gpa : Nat) : V := if mine = false ∧ x.b 39 = true ∧ x.u 48 / 8 = gpa / 8 then x.setB 39 false else x
def wroteL (i : Int) (gpa : Nat) (l : Nat → V) : Nat → V := fun k => (l k).wrote ((k : Int) == i) gpa
theorem len_small {n : Nat} (h : n * 368 ≤ 140737488355328) : n ≤ 382438827053 := by omega

set_option maxRecDepth 100000 in
set_option maxHeartbeats 1000000 in
theorem wrote_any (A : Option Addr) (n c : Nat) (l : Nat → V) (i : Int) (gpa : Nat) (w : World) (hA : A = none → n = 0) (hR : SlR w A n l) (hn : n * 368 ≤ 140737488355328) (hw : ∀ k, k < n → (l k).Wf) (hg : gpa < 18446744073709551616) :
    Calls Try.prog 20 #[.slice A n c, .int .i64 i, .int .u64 gpa] w fun e w' => ∃ v, e = .returned v ∧ VSl w' w.heap.size v n (wroteL i gpa l) ∧ Fr (fun _ => False) w w' := by
  have hnb := len_small hn
  have HR := Lib.hid hR
  have HA := Lib.hid hA
  have HN := Lib.hid hn
  have HW := Lib.hid hw
  clear hR hA hn hw
  obtain ⟨g8, hg8⟩ : ∃ q, gpa / 8 = q := ⟨_, rfl⟩
  have eg : IntKind.u64.wrap ((gpa : Int) / 8) = g8 := by rw [IntKind.wrap_u64]; omega
  have HG := Lib.hid hg8
  clear hg8 hg
  go_enter Try.func20, Try.ntmps20
  go_wp2_with fail
  refine (clone_any A n c l w HA.out HR.out HN.out).mono ?_
  rintro e w1 ⟨v, rfl, hV, hF⟩
  have HV := Lib.hid hV
  have HF := Lib.hid hF
  obtain ⟨A1, c1, rfl, h1, h2, h3, h4⟩ := hV
  have H2 := Lib.hid h2
  have H3 := Lib.hid h3
  have H4 := Lib.hid h4
  clear hF h2 h3 h4
  rcases Nat.eq_zero_or_pos n with h0 | h0
  · subst h0
    go_wp2_with fail
    go_loopw [14] (fun t wr => t = .int .i64 0 ∧ wr = w1) (fun _ _ => 0)
    case atStart => exact ⟨rfl, rfl⟩
    case round =>
      obtain ⟨rfl, rfl⟩ := hrel
      go_wp2_with fail
      go_ret
      exact ⟨_, rfl, HV.out.zero, HF.out⟩
  · obtain ⟨g, rfl, hgg, hok⟩ := H4.out h0
    have hM := Mem.start HF.out hgg hok
    clear H4 H3 hok
    go_wp2_with fail
    go_loopw [14] (fun t wr => ∃ k : Nat, k ≤ n ∧ t = .int .i64 k ∧ Mem (fun _ => False) w wr [.vs g n (stepL (wroteL i gpa l) l k)]) (fun t _ => n - (intOf t).toNat)
    case atStart => exact ⟨0, Nat.zero_le _, rfl, by rw [stepL_zero]; exact hM⟩
    case round =>
      clear hM
      obtain ⟨k, hk, rfl, hM⟩ := hrel
      by_cases hlt : k < n
      · obtain ⟨L, hL⟩ : ∃ L, stepL (wroteL i gpa l) l k = L := ⟨_, rfl⟩
        rw [hL] at hM
        have hLk : L k = l k := by rw [← hL, stepL_at]
        have HL := Lib.hid hL
        have HLK := Lib.hid hLk
        clear hL hLk
        obtain ⟨x, hx⟩ : ∃ x, l k = x := ⟨_, rfl⟩
        have hWk : wroteL i gpa l k = x.wrote ((k : Int) == i) gpa := by rw [← hx]; rfl
        obtain ⟨q8, hq8⟩ : ∃ q, x.u 48 / 8 = q := ⟨_, rfl⟩
        have lq := (HW.out k hlt).u 48
        rw [hx] at lq
        have eq8 : IntKind.u64.wrap ((x.u 48 : Int) / 8) = q8 := by rw [IntKind.wrap_u64]; omega
        have HQ := Lib.hid hq8
        have HX := Lib.hid (HLK.out.trans hx)
        have HXl := Lib.hid hx
        have HWK := Lib.hid hWk
        clear hx hWk hq8 lq HLK
        have same : Hid (x.wrote ((k : Int) == i) gpa = x → Mem (fun _ => False) w wr [.vs g n L] → Mem (fun _ => False) w wr [.vs g n (stepL (wroteL i gpa l) l (k + 1))]) := by
          intro h hM
          rw [stepL_same _ _ _ (by rw [HWK.out, h, HXl.out]), HL.out]
          exact hM
        by_cases hki : (k : Int) = i
        · have hb : ((k : Int) != i) = false := by simp [hki]
          have hs : x.wrote ((k : Int) == i) gpa = x := by unfold V.wrote; rw [if_neg]; simp [hki]
          have HS := Lib.hid hs
          have hM2 := Lib.hid (same.out hs hM)
          clear hki hs same
          go_wp2_with (first | go_skip | fail)
          go_roundw
          case rel => exact ⟨k + 1, by omega, by go_num, hM2.out⟩
          case measure => simp [intOf]; omega
        · have hb : ((k : Int) != i) = true := by simp [hki]
          rcases hbb : x.b 39 with _ | _
          · have hs : x.wrote ((k : Int) == i) gpa = x := by unfold V.wrote; rw [if_neg]; simp [hbb]
            have HB := Lib.hid hbb
            have hM2 := Lib.hid (same.out hs hM)
            clear hki hs same hbb
            go_wp2_with (first
              | go_skip
              | (refine wpList_cell_vs (gd_want rfl) 4 _ rfl 0 g n L hM rfl k 39 _ rfl (by first | rfl | omega) hlt (by omega) _ Try.underlying4 rfl (.bool false) (by rw [HX.out]; exact congrArg Value.bool HB.out) ?_))
            go_roundw
            case rel => exact ⟨k + 1, by omega, by go_num, hM2.out⟩
            case measure => simp [intOf]; omega
          · have HB := Lib.hid hbb
            by_cases hq : q8 = g8
            · have hs : x.wrote ((k : Int) == i) gpa = x.setB 39 false := by
                unfold V.wrote
                rw [if_pos ⟨by simp [hki], hbb, by rw [HQ.out, HG.out, hq]⟩]
              subst hq
              have hU : upd (cellAt (L k)) 39 (.bool false) = cellAt (x.setB 39 false) := by rw [HX.out, upd_cellB _ _ _ (show kd 39 = .b from rfl)]
              have HU := Lib.hid hU
              have HS := Lib.hid hs
              clear hki hs same hbb hU
              go_wp2_with (first
                | go_skip
                | (refine wpList_cell_vs (gd_want rfl) 4 _ rfl 0 g n L hM rfl k 39 _ rfl (by first | rfl | omega) hlt (by omega) _ Try.underlying4 rfl (.bool true) (by rw [HX.out]; exact congrArg Value.bool HB.out) ?_)
                | (refine wpList_cell_vs (gd_want rfl) 22 _ rfl 0 g n L hM rfl k 48 _ rfl (by first | rfl | omega) hlt (by omega) _ Try.underlying22 rfl (.int .u64 (x.u 48 : Nat)) (by rw [HX.out]; rfl) ?_)
                | (refine wpList_put_vs (gd_none rfl) 4 _ _ rfl 0 g n L hM rfl k 39 _ rfl (by first | rfl | omega) hlt (by omega) (.bool false) rfl Try.info4 (x.setB 39 false) (HU.out) ?_; clear hM; intro wp hwp hM; dsimp only [List.set_cons_zero, List.set_cons_succ] at hM))
              have hM2 : Hid (Mem (fun _ => False) w wp [.vs g n (stepL (wroteL i gpa l) l (k + 1))]) := by
                show Mem _ _ _ _
                rw [stepL_succ, HWK.out, HS.out, HL.out]
                exact hM
              go_roundw
              case rel => exact ⟨k + 1, by omega, by go_num, hM2.out⟩
              case measure => simp [intOf]; omega
            · have hs : x.wrote ((k : Int) == i) gpa = x := by unfold V.wrote; rw [if_neg]; rw [HQ.out, HG.out]; exact fun h => hq h.2.2
              have hM2 := Lib.hid (same.out hs hM)
              have hqb : ((q8 : Int) == g8) = false := by simp; omega
              clear hki hs same hbb hq
              go_wp2_with (first
                | go_skip
                | (refine wpList_cell_vs (gd_want rfl) 4 _ rfl 0 g n L hM rfl k 39 _ rfl (by first | rfl | omega) hlt (by omega) _ Try.underlying4 rfl (.bool true) (by rw [HX.out]; exact congrArg Value.bool HB.out) ?_)
                | (refine wpList_cell_vs (gd_want rfl) 22 _ rfl 0 g n L hM rfl k 48 _ rfl (by first | rfl | omega) hlt (by omega) _ Try.underlying22 rfl (.int .u64 (x.u 48 : Nat)) (by rw [HX.out]; rfl) ?_))
              go_roundw
              case rel => exact ⟨k + 1, by omega, by go_num, hM2.out⟩
              case measure => simp [intOf]; omega
      · obtain rfl : k = n := by omega
        obtain ⟨e1, e2⟩ := hM.done (l' := wroteL i gpa l) (c := c1) (fun j hj => by simp [stepL, hj]) hgg h1 H2.out
        have E1 := Lib.hid e1
        have E2 := Lib.hid e2
        clear e1 e2
        go_wp2_with fail
        go_ret
        exact ⟨_, rfl, E1.out, E2.out⟩

set_option maxRecDepth 100000 in
set_option maxHeartbeats 1000000 in
theorem refWrote_any (A : Option Addr) (n c : Nat) (l : Nat → V) (i : Int) (gpa : Nat) (w : World) (hA : A = none → n = 0) (hR : SlR w A n l) (hn : n * 368 ≤ 140737488355328) (hw : ∀ k, k < n → (l k).Wf) (hg : gpa < 18446744073709551616) :
    Calls Try.prog 21 #[.slice A n c, .int .i64 i, .int .u64 gpa] w fun e w' => ∃ v, e = .returned v ∧ VSl w' w.heap.size v n (wroteL i gpa l) ∧ Fr (fun _ => False) w w' := by
  have hnb := len_small hn
  have HR := Lib.hid hR
  have HA := Lib.hid hA
  have HN := Lib.hid hn
  have HW := Lib.hid hw
  clear hR hA hn hw
  obtain ⟨g8, hg8⟩ : ∃ q, gpa / 8 = q := ⟨_, rfl⟩
  have eg : IntKind.u64.wrap ((gpa : Int) / 8) = g8 := by rw [IntKind.wrap_u64]; omega
  have HG := Lib.hid hg8
  clear hg8 hg
  go_enter Try.func21, Try.ntmps21
  go_wp2_with (refine wpList_append_vs (gd_none rfl) _ _ rfl w.heap.size (Nat.le_refl _) _ rfl (World.ownsRow_nil w _ 32 52) A n c rfl l HA.out HR.out HN.out ?_)
  intro v w1 hV hF0
  have hF : Fr (fun _ => False) w w1 := hF0.weak (fun k hk (h : w.heap.size ≤ k) => by omega)
  clear hF0
  have HV := Lib.hid hV
  have HF := Lib.hid hF
  obtain ⟨A1, c1, rfl, h1, h2, h3, h4⟩ := hV
  have H2 := Lib.hid h2
  have H3 := Lib.hid h3
  have H4 := Lib.hid h4
  clear hF h2 h3 h4
  rcases Nat.eq_zero_or_pos n with h0 | h0
  · subst h0
    go_wp2_with fail
    go_loopw [8] (fun t wr => t = .int .i64 0 ∧ wr = w1) (fun _ _ => 0)
    case atStart => exact ⟨rfl, rfl⟩
    case round =>
      obtain ⟨rfl, rfl⟩ := hrel
      go_wp2_with fail
      go_ret
      exact ⟨_, rfl, HV.out.zero, HF.out⟩
  · obtain ⟨g, rfl, hgg, hok⟩ := H4.out h0
    have hM := Mem.start HF.out hgg hok
    clear H4 H3 hok
    go_wp2_with fail
    go_loopw [8] (fun t wr => ∃ k : Nat, k ≤ n ∧ t = .int .i64 k ∧ Mem (fun _ => False) w wr [.vs g n (stepL (wroteL i gpa l) l k)]) (fun t _ => n - (intOf t).toNat)
    case atStart => exact ⟨0, Nat.zero_le _, rfl, by rw [stepL_zero]; exact hM⟩
    case round =>
      clear hM
      obtain ⟨k, hk, rfl, hM⟩ := hrel
      by_cases hlt : k < n
      · obtain ⟨L, hL⟩ : ∃ L, stepL (wroteL i gpa l) l k = L := ⟨_, rfl⟩
        rw [hL] at hM
        have hLk : L k = l k := by rw [← hL, stepL_at]
        have HL := Lib.hid hL
        have HLK := Lib.hid hLk
        clear hL hLk
        obtain ⟨x, hx⟩ : ∃ x, l k = x := ⟨_, rfl⟩
        have hWk : wroteL i gpa l k = x.wrote ((k : Int) == i) gpa := by rw [← hx]; rfl
        obtain ⟨q8, hq8⟩ : ∃ q, x.u 48 / 8 = q := ⟨_, rfl⟩
        have lq := (HW.out k hlt).u 48
        rw [hx] at lq
        have eq8 : IntKind.u64.wrap ((x.u 48 : Int) / 8) = q8 := by rw [IntKind.wrap_u64]; omega
        have HQ := Lib.hid hq8
        have HX := Lib.hid (HLK.out.trans hx)
        have HXl := Lib.hid hx
        have HWK := Lib.hid hWk
        clear hx hWk hq8 lq HLK
        have same : Hid (x.wrote ((k : Int) == i) gpa = x → Mem (fun _ => False) w wr [.vs g n L] → Mem (fun _ => False) w wr [.vs g n (stepL (wroteL i gpa l) l (k + 1))]) := by
          intro h hM
          rw [stepL_same _ _ _ (by rw [HWK.out, h, HXl.out]), HL.out]
          exact hM
        by_cases hki : (k : Int) = i
        · have hb : ((k : Int) != i) = false := by simp [hki]
          have hs : x.wrote ((k : Int) == i) gpa = x := by unfold V.wrote; rw [if_neg]; simp [hki]
          have HS := Lib.hid hs
          have hM2 := Lib.hid (same.out hs hM)
          clear hki hs same
          go_wp2_with (first | go_skip | fail)
          go_roundw
          case rel => exact ⟨k + 1, by omega, by go_num, hM2.out⟩
          case measure => simp [intOf]; omega
        · have hb : ((k : Int) != i) = true := by simp [hki]
          rcases hbb : x.b 39 with _ | _
          · have hs : x.wrote ((k : Int) == i) gpa = x := by unfold V.wrote; rw [if_neg]; simp [hbb]
            have HB := Lib.hid hbb
            have hM2 := Lib.hid (same.out hs hM)
            clear hki hs same hbb
            go_wp2_with (first
              | go_skip
              | (refine wpList_cell_vs (gd_want rfl) 4 _ rfl 0 g n L hM rfl k 39 _ rfl (by first | rfl | omega) hlt (by omega) _ Try.underlying4 rfl (.bool false) (by rw [HX.out]; exact congrArg Value.bool HB.out) ?_))
            go_roundw
            case rel => exact ⟨k + 1, by omega, by go_num, hM2.out⟩
            case measure => simp [intOf]; omega
          · have HB := Lib.hid hbb
            by_cases hq : q8 = g8
            · have hs : x.wrote ((k : Int) == i) gpa = x.setB 39 false := by
                unfold V.wrote
                rw [if_pos ⟨by simp [hki], hbb, by rw [HQ.out, HG.out, hq]⟩]
              subst hq
              have hU : upd (cellAt (L k)) 39 (.bool false) = cellAt (x.setB 39 false) := by rw [HX.out, upd_cellB _ _ _ (show kd 39 = .b from rfl)]
              have HU := Lib.hid hU
              have HS := Lib.hid hs
              clear hki hs same hbb hU
              go_wp2_with (first
                | go_skip
                | (refine wpList_cell_vs (gd_want rfl) 4 _ rfl 0 g n L hM rfl k 39 _ rfl (by first | rfl | omega) hlt (by omega) _ Try.underlying4 rfl (.bool true) (by rw [HX.out]; exact congrArg Value.bool HB.out) ?_)
                | (refine wpList_cell_vs (gd_want rfl) 22 _ rfl 0 g n L hM rfl k 48 _ rfl (by first | rfl | omega) hlt (by omega) _ Try.underlying22 rfl (.int .u64 (x.u 48 : Nat)) (by rw [HX.out]; rfl) ?_)
                | (refine wpList_put_vs (gd_none rfl) 4 _ _ rfl 0 g n L hM rfl k 39 _ rfl (by first | rfl | omega) hlt (by omega) (.bool false) rfl Try.info4 (x.setB 39 false) (HU.out) ?_; clear hM; intro wp hwp hM; dsimp only [List.set_cons_zero, List.set_cons_succ] at hM))
              have hM2 : Hid (Mem (fun _ => False) w wp [.vs g n (stepL (wroteL i gpa l) l (k + 1))]) := by
                show Mem _ _ _ _
                rw [stepL_succ, HWK.out, HS.out, HL.out]
                exact hM
              go_roundw
              case rel => exact ⟨k + 1, by omega, by go_num, hM2.out⟩
              case measure => simp [intOf]; omega
            · have hs : x.wrote ((k : Int) == i) gpa = x := by unfold V.wrote; rw [if_neg]; rw [HQ.out, HG.out]; exact fun h => hq h.2.2
              have hM2 := Lib.hid (same.out hs hM)
              have hqb : ((q8 : Int) == g8) = false := by simp; omega
              clear hki hs same hbb hq
              go_wp2_with (first
                | go_skip
                | (refine wpList_cell_vs (gd_want rfl) 4 _ rfl 0 g n L hM rfl k 39 _ rfl (by first | rfl | omega) hlt (by omega) _ Try.underlying4 rfl (.bool true) (by rw [HX.out]; exact congrArg Value.bool HB.out) ?_)
                | (refine wpList_cell_vs (gd_want rfl) 22 _ rfl 0 g n L hM rfl k 48 _ rfl (by first | rfl | omega) hlt (by omega) _ Try.underlying22 rfl (.int .u64 (x.u 48 : Nat)) (by rw [HX.out]; rfl) ?_))
              go_roundw
              case rel => exact ⟨k + 1, by omega, by go_num, hM2.out⟩
              case measure => simp [intOf]; omega
      · obtain rfl : k = n := by omega
        obtain ⟨e1, e2⟩ := hM.done (l' := wroteL i gpa l) (c := c1) (fun j hj => by simp [stepL, hj]) hgg h1 H2.out
        have E1 := Lib.hid e1
        have E2 := Lib.hid e2
        clear e1 e2
        go_wp2_with fail
        go_ret
        exact ⟨_, rfl, E1.out, E2.out⟩
end Go.Proofs.Ytjiolobkobpohaa
