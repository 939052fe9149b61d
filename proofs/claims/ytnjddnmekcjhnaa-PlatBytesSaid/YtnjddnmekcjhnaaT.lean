/- PlatBytes: the walk. -/
import Derived.Test.YtnjddnmekcjhnaaM
import Derived.Test.YtnjddnmekcjhnaaP
namespace Go.Proofs.Ytnjddnmekcjhnaa
open Go.RowKit

/-- Since w0 the law has made the UART at p, which holds u, and apart from it the slice v, which reads as q; nothing of before has turned. -/
def OwnW (w0 w : World) (p : Nat) (u : UA) (v : Value) (q : List Nat) : Prop :=
  ∃ SU SW : Nat → Prop, UAt w 86 SU p u ∧ Sl w SW 5 1 v q.length (bytes q) ∧ (∀ k, SU k → w0.heap.size ≤ k ∧ k < w.heap.size ∧ ¬ SW k) ∧ (∀ k, SW k → w0.heap.size ≤ k ∧ k < w.heap.size) ∧ u.Wf ∧ Fr (fun _ => False) w0 w

section
variable {w0 w w' : World} {p : Nat} {u : UA} {v : Value} {q : List Nat}
theorem OwnW.fr (h : OwnW w0 w p u v q) : Fr (fun _ => False) w0 w := by
  obtain ⟨_, _, _, _, _, _, _, hf⟩ := h
  exact hf
theorem OwnW.start (h : Own w0 w p u) : OwnW w0 w p u (.slice none 0 0) [] :=
  ⟨_, fun _ => False, h.1, Sl.nil _ _ _ _, fun _ hk => ⟨hk.1, hk.2, fun h => h⟩, fun _ h => h.elim, h.2.1, h.2.2⟩
theorem OwnW.own (h : OwnW w0 w p u v q) : Own w0 w p u := by
  obtain ⟨SU, SW, hu, _, h1, _, hw, hf⟩ := h
  exact ⟨hu.weak (fun k _ hk => ⟨(h1 k hk).1, (h1 k hk).2.1⟩), hw, hf⟩
/-- Behind a call that may turn the UART alone. -/
theorem own_call {w0 w w' : World} {p : Nat} {u u' : UA} {v : Value} {q : List Nat} {SU SW : Nat → Prop} (hv : Sl w SW 5 1 v q.length (bytes q)) (h1 : ∀ k, SU k → w0.heap.size ≤ k ∧ k < w.heap.size ∧ ¬ SW k)
    (h2 : ∀ k, SW k → w0.heap.size ≤ k ∧ k < w.heap.size) (hf : Fr (fun _ => False) w0 w) (hu' : UAt w' 86 (More SU w) p u') (hf' : Fr SU w w') (hw : u'.Wf) (_ : u = u) : OwnW w0 w' p u' v q := by
  have hs := hf'.size
  have hs0 := hf.size
  refine ⟨fun k => More SU w k ∧ k < w'.heap.size, SW, hu'.weak (fun k hk h => ⟨h, hk⟩), hv.fr hf' (fun k _ hk hk2 => (h1 k hk2).2.2 hk), fun k hk => ?_, fun k hk => ⟨(h2 k hk).1, by have := (h2 k hk).2; omega⟩, hw, hf.trans hf' (fun k hk h => by have := (h1 k h).1; omega)⟩
  rcases hk with ⟨h3 | h3, h4⟩
  · exact ⟨(h1 k h3).1, h4, (h1 k h3).2.2⟩
  · exact ⟨by omega, h4, fun h5 => by have := (h2 k h5).2; omega⟩
theorem OwnW.quiet (h : OwnW w0 w p u v q) (hf : Fr (fun _ => False) w w') : OwnW w0 w' p u v q := by
  obtain ⟨SU, SW, hu, hv, h1, h2, hw, hf0⟩ := h
  have hs := hf.size
  exact ⟨SU, SW, hu.fr hf (fun _ _ _ h => h), hv.fr hf (fun _ _ _ h => h), fun k hk => ⟨(h1 k hk).1, by have := (h1 k hk).2.1; omega, (h1 k hk).2.2⟩, fun k hk => ⟨(h2 k hk).1, by have := (h2 k hk).2; omega⟩, hw, hf0.trans hf (fun _ _ h => h)⟩
theorem ownw_in (h : OwnW w0 w p u v q) (x : Nat) : Calls Try.prog 30 #[.pointer (some ⟨p, 0, none⟩), .int .u8 x] w fun e w' => e = .returned (.tuple #[]) ∧ OwnW w0 w' p (u.inn x) v q := by
  obtain ⟨SU, SW, hu, hv, h1, h2, hw, hf⟩ := h
  exact (in_any SU p u x w hu hw).mono fun _ _ ⟨he, hu', hf'⟩ => ⟨he, own_call hv h1 h2 hf hu' hf' (hw.inn x) (rfl : u = u)⟩
theorem ownw_read (h : OwnW w0 w p u v q) (off : Int) : Calls Try.prog 31 #[.pointer (some ⟨p, 0, none⟩), .int .u64 off] w fun e w' => e = .returned (.int .u8 (u.val off)) ∧ OwnW w0 w' p (u.aft off) v q := by
  obtain ⟨SU, SW, hu, hv, h1, h2, hw, hf⟩ := h
  exact (read_any SU p u off w hu hw).mono fun _ _ ⟨he, hu', hf'⟩ => ⟨he, own_call hv h1 h2 hf (hu'.weak (fun _ _ h => .inl h)) hf' (hw.aft off) (rfl : u = u)⟩
/-- The slice is another one, over the same blocks or new ones. -/
theorem OwnW.grow {w0 w w' : World} {p : Nat} {u : UA} {v' : Value} {q q' : List Nat} {SU SW : Nat → Prop} (hu : UAt w 86 SU p u) (h1 : ∀ k, SU k → w0.heap.size ≤ k ∧ k < w.heap.size ∧ ¬ SW k)
    (h2 : ∀ k, SW k → w0.heap.size ≤ k ∧ k < w.heap.size) (hw : u.Wf) (hf : Fr (fun _ => False) w0 w) (hv' : Sl w' (fun k => SW k ∨ w.heap.size ≤ k) 5 1 v' q'.length (bytes q')) (hf' : Fr SW w w') (_ : q = q) : OwnW w0 w' p u v' q' := by
  have hs := hf'.size
  have hs0 := hf.size
  refine ⟨SU, fun k => (SW k ∨ w.heap.size ≤ k) ∧ k < w'.heap.size, hu.fr hf' (fun k _ hk hk2 => (h1 k hk).2.2 hk2), hv'.weak (fun k hk h => ⟨h, hk⟩), fun k hk => ⟨(h1 k hk).1, by have := (h1 k hk).2.1; omega, fun h => ?_⟩, fun k hk => ⟨?_, hk.2⟩, hw, hf.trans hf' (fun k hk h => by have := (h2 k h).1; omega)⟩
  · rcases h.1 with h3 | h3
    · exact (h1 k hk).2.2 h3
    · have := (h1 k hk).2.1; omega
  · rcases hk.1 with h3 | h3
    · exact (h2 k h3).1
    · omega
end
theorem uB_val0 (q : List Nat) (o : Bool) : (uT q [] 0 o false).val 0 = q.headD 0 := by simp [UA.val, uT]
theorem uB_val5 (q : List Nat) (o : Bool) : (uT q [] 0 o false).val 5 = 96 + (if q.isEmpty then 0 else 1) + (if o then 2 else 0) := by cases o <;> simp [UA.val, uT]
theorem uB_bit (q : List Nat) (o : Bool) : (bits .and .u8 (((uT q [] 0 o false).val 5 : Nat) : Int) 1 == 1) = decide (0 < q.length) := by
  rw [uB_val5]
  cases q <;> cases o <;> simp <;> decide
theorem OwnW.cut {w0 w : World} {p : Nat} {u : UA} {A : Option Addr} {c y : Nat} {q : List Nat} (i0 : TypeInfo) (hi : Try.prog.info? 5 = some i0) (hz1 : i0.size = 1) (h : OwnW w0 w p u (.slice A (q.length + 1) c) (y :: q)) :
    ∃ A' c', (∀ w1, (Instr.slice 55 (.slice A (q.length + 1) c) (some (.int .i64 1)) none none).run Try.prog w1 = .ok (.slice A' q.length c') w1) ∧ OwnW w0 w p u (.slice A' q.length c') q := by
  obtain ⟨SU, SW, hu, hv, h1, h2, hw, hf⟩ := h
  obtain ⟨A2, c2', hcut, hsl⟩ := Sl.run_cut (P := Try.prog) 55 i0 Try.underlying55 hi hz1 (show Sl w SW 5 1 (.slice A (q.length + 1) c) (q.length + 1) (bytes (y :: q)) from hv) 1 (by omega)
  rw [show q.length + 1 - 1 = q.length by omega] at hcut hsl
  exact ⟨A2, c2', hcut, SU, SW, hu, by simpa [bytes] using hsl, h1, h2, hw, hf⟩
theorem OwnW.form {w0 w : World} {p : Nat} {u : UA} {v : Value} {q : List Nat} (h : OwnW w0 w p u v q) : ∃ A c, v = .slice A q.length c ∧ Rd w (fun _ => True) A (bytes q) := by
  obtain ⟨SU, SW, hu, hv, h1, h2, hw, hf⟩ := h
  obtain ⟨A, c, hv2, hr, _, _⟩ := hv.form
  exact ⟨A, c, hv2, fun hne => by obtain ⟨b, off, h3, h4, _, h5⟩ := hr hne; exact ⟨b, off, h3, h4, trivial, h5⟩⟩
theorem uB_inn (q : List Nat) (o : Bool) (x : Nat) : (uT q [] 0 o false).inn x = if q.length < 16 then uT (q ++ [x]) [] 0 o false else uT q [] 0 true false := by
  unfold UA.inn uT
  by_cases h : q.length < 16
  · rw [if_neg (by simp; omega), if_pos h]
  · rw [if_pos (by simp; omega), if_neg h]

set_option maxRecDepth 100000 in
set_option maxHeartbeats 6400000 in
theorem bytes_walk (S1 S2 S3 : Nat → Prop) (A B C : Option Addr) (n m k c1 c2 c3 : Nat) (L : List Nat) (ord : List Int) (O : List Nat) (w : World) (hn : n = L.length ∧ ∀ z ∈ L, z < 256) (_hs1 : n * 1 ≤ 140737488351232) (hr1 : Rd w S1 A (bytes L))
    (hm : m = ord.length) (_hs2 : m * 8 ≤ 140737488351232) (hr2 : Rd w S2 B (ord.map fun z => .int .i64 z)) (hk : k = O.length ∧ ∀ z ∈ O, z < 256) (_hs3 : k * 1 ≤ 140737488351232) (hr3 : Rd w S3 C (bytes O)) :
    Calls Try.prog 8 #[.slice A n c1, .slice B m c2, .slice C k c3] w fun e w' => e = .returned (.bool true) ∧ Below w.heap.size w w' := by
  obtain ⟨hn, hL⟩ := hn
  obtain ⟨hk, hO⟩ := hk
  have HN := Lib.hid hn
  have HL := Lib.hid hL
  have HK := Lib.hid hk
  have HO := Lib.hid hO
  have HM := Lib.hid hm
  have HR1 := Lib.hid hr1
  have HR2 := Lib.hid hr2
  have HR3 := Lib.hid hr3
  clear hn hL hk hO hm hr1 hr2 hr3
  obtain ⟨i0, hi, hz0, hz1, hz2⟩ := info_parts Try.info5
  go_enter Try.func8, Try.ntmps8
  go_wp2_with fail
  refine (own_new w).mono ?_
  rintro e w1 ⟨rfl, O1⟩
  have O1 : Hid (OwnW w w1 w.heap.size (uT [] [] 0 false false) (.slice none 0 0) []) := OwnW.start O1
  go_wp2_with fail
  go_loopw [8, 9, 10] (fun v8 i9 i10 wr => ∃ i : Nat, i ≤ n ∧ i9 = .int .i64 i ∧ i10 = .int .i64 i ∧ ∃ (q : List Nat) (o : Bool), q.length ≤ 16 ∧ OwnW w wr w.heap.size (uT q [] 0 o false) v8 q) (fun _ _ i _ => n - (intOf i).toNat)
  case atStart => exact ⟨0, by omega, rfl, rfl, [], false, by simp, O1.out⟩
  case round =>
    obtain ⟨i, hin, rfl, rfl, q, o, hq16, O2⟩ := hrel
    have O2 := Lib.hid O2
    by_cases hi2 : i < n
    · have hil : i < L.length := by have : n = L.length := HN.out; omega
      obtain ⟨b, off, hA, hb, _, hcc⟩ := HR1.out (by intro h; have := bytes_length L; rw [h] at this; simp at this; omega)
      subst hA
      have d0 := (O2.out.fr.cell (p := ⟨b, off + i, none⟩) hb (fun h => h)).trans (hcc i _ (bytes_get L i hil))
      obtain ⟨x, hx⟩ : ∃ x, L[i] = x := ⟨_, rfl⟩
      rw [hx] at d0
      clear hcc
      go_wp2_with fail
      refine (ownw_in O2.out x).mono ?_
      rintro e w2 ⟨rfl, O3⟩
      have O3 := Lib.hid O3
      obtain ⟨A2, c2x, rfl, _⟩ := O3.out.form
      have d1 := (O3.out.fr.cell (p := ⟨b, off + i, none⟩) hb (fun h => h)).trans ((O2.out.fr.cell (p := ⟨b, off + i, none⟩) hb (fun h => h)).symm.trans d0)
      clear d0
      go_upto_if 31 with fail
      go_cut [8] from 31 to 38 (fun v8 wc => ∃ (q : List Nat) (o : Bool), q.length ≤ 16 ∧ OwnW w wc w.heap.size (uT q [] 0 o false) v8 q)
      case first =>
        by_cases hq : q.length < 16
        · have hu3 : (uT q [] 0 o false).inn x = uT (q ++ [x]) [] 0 o false := by rw [uB_inn, if_pos hq]
          obtain ⟨SU, SW, hu, hv, h1, h2, hw, hf⟩ := O3.out
          rw [hu3] at hu hw
          have hfx := (Fr.refl (fun _ => False) w2).alloc (.cells #[.int .u8 (x : Int)] 5)
          have HU := Lib.hid hu
          have HV := Lib.hid hv
          have H1 := Lib.hid h1
          have H2 := Lib.hid h2
          have HF := Lib.hid hf
          have HW := Lib.hid hw
          clear hu hv h1 h2 hw hf hu3
          have hqi : (q.length : Int) < 16 := by omega
          go_wp2_with (at_builtin; refine wpList_append_sl _ rfl (.tmp 32) (.tmp 37) 55 rfl SW _ 5 i0 _ 1 1 Try.underlying55 hi hz0 hz1 hz2 rfl (by decide) _ _ _ rfl (HV.out.fr hfx (fun _ _ _ h => h)) _ 1 1 [.int .u8 x] rfl (by exact Rd.new w2 5 [.int .u8 x]) rfl (by intro x hx; simp at hx; subst hx; rfl) (by unfold maxLen; omega) (by omega) ?_)
          intro v' w3 hs3 hf3
          go_wp2
          go_meet
          refine ⟨q ++ [x], o, by simp; omega, ?_⟩
          have hsz : (w2.alloc (.cells #[.int .u8 (x : Int)] 5)).heap.size = w2.heap.size + 1 := by simp
          refine OwnW.grow (SU := SU) (SW := SW) (w := w2.alloc (.cells #[.int .u8 (x : Int)] 5)) (HU.out.fr hfx (fun _ _ _ h => h)) (fun k hk => ⟨(H1.out k hk).1, by have := (H1.out k hk).2.1; omega, (H1.out k hk).2.2⟩) (fun k hk => ⟨(H2.out k hk).1, by have := (H2.out k hk).2; omega⟩) HW.out (HF.out.trans hfx (fun _ _ h => h)) ?_ hf3 (rfl : q = q)
          rw [List.length_append, bytes_append, hsz]
          exact hs3
        · have hu3 : (uT q [] 0 o false).inn x = uT q [] 0 true false := by rw [uB_inn, if_neg hq]
          have hqi : ¬ ((q.length : Int) < 16) := by omega
          have O4 := O3.out
          rw [hu3] at O4
          have O4 := Lib.hid O4
          go_wp2
          go_meet
          exact ⟨q, true, hq16, O4.out⟩
      case rest =>
        obtain ⟨q4, o4, hq4, O4⟩ := hcut
        have O4 := Lib.hid O4
        clear O2 O3 hq16
        go_wp2_with fail
        go_loopw [8, 11] (fun v8 t wr => ∃ j : Nat, j ≤ 4 ∧ t = .int .i64 j ∧ ∃ (q : List Nat) (o : Bool), q.length ≤ 16 ∧ OwnW w wr w.heap.size (uT q [] 0 o false) v8 q) (fun _ t _ => 4 - (intOf t).toNat)
        case atStart => exact ⟨0, by omega, rfl, q4, o4, hq4, O4.out⟩
        case round =>
          obtain ⟨j, hj, rfl, q5, o5, hq5, O5⟩ := hrel
          have O5 := Lib.hid O5
          by_cases him : i < m
          · have hio : i < ord.length := by have : m = ord.length := HM.out; omega
            obtain ⟨b2, off2, hB, hb2, _, hcc2⟩ := HR2.out (by intro h; have h2 := congrArg List.length h; simp only [List.length_map, List.length_nil] at h2; omega)
            subst hB
            have g0 := (O5.out.fr.cell (p := ⟨b2, off2 + i, none⟩) hb2 (fun h => h)).trans (hcc2 i _ (by rw [List.getElem?_map, List.getElem?_eq_getElem hio]; rfl))
            clear hcc2
            obtain ⟨r, hr⟩ : ∃ r : Nat, ord[i] % 4 = r := ⟨(ord[i] % 4).toNat, by omega⟩
            generalize ord[i] = z at *
            have HRR := Lib.hid hr
            have hr4 : r < 4 := by omega
            clear hr
            go_wp2_with fail
            refine (place_any z 4 _ (by omega) (by omega)).mono ?_
            rintro e w5 ⟨he, hw5⟩
            subst hw5
            rw [HRR.out] at he
            subst he
            by_cases hjr : j < r
            · obtain ⟨A5, c5, rfl, hr5⟩ := O5.out.form
              rcases q5 with _ | ⟨y, q6⟩
              · have hbit := uB_bit [] o5
                obtain ⟨z5, hz5⟩ : ∃ z5, (uT [] [] 0 o5 false).val 5 = z5 := ⟨_, rfl⟩
                rw [hz5] at hbit
                have HZ5 := Lib.hid hz5
                clear hz5
                have hbit2 : (bits .and .u8 (z5 : Int) 1 == 1) = false := hbit
                clear hbit
                go_wp2_with fail
                refine (ownw_read O5.out 0).mono ?_
                rintro e w6 ⟨he, O7⟩
                rw [uB_val0] at he
                have he2 : e = .returned (.int .u8 0) := he
                subst he2
                rw [uT_read] at O7
                have O7 : Hid (OwnW w w6 w.heap.size (uT [] [] 0 o5 false) (.slice A5 0 c5) []) := O7
                clear he
                go_wp2_with fail
                refine (ownw_read O7.out 5).mono ?_
                rintro e w7 ⟨he, O8⟩
                rw [HZ5.out] at he
                subst he
                rw [uT_aft5] at O8
                have O8 := Lib.hid O8
                go_wp2
                go_roundw
                case rel => exact ⟨j + 1, by omega, by go_num, [], false, by simp, O8.out⟩
                case measure => simp [intOf]; omega
              · obtain ⟨A6, c6, hcut6, hO6⟩ := OwnW.cut i0 hi hz1 O5.out
                have O6 := Lib.hid hO6
                obtain ⟨b5, off5, hA5, hb5, _, hc5⟩ := hr5 (by simp [bytes])
                subst hA5
                have y0 : w5.cell? ⟨b5, off5, none⟩ = some (Value.int .u8 (y : Int)) := hc5 0 _ rfl
                clear hc5 hr5 hO6
                have hq6 : q6.length ≤ 16 := by simp at hq5; omega
                have hbit := uB_bit q6 o5
                obtain ⟨z5, hz5⟩ : ∃ z5, (uT q6 [] 0 o5 false).val 5 = z5 := ⟨_, rfl⟩
                rw [hz5] at hbit
                have HZ5 := Lib.hid hz5
                clear hz5
                have hlc : (y :: q6).length = q6.length + 1 := rfl
                rcases Nat.eq_zero_or_pos q6.length with hl6 | hl6
                · have hbit2 : (bits .and .u8 (z5 : Int) 1 == 1) = false := by rw [hbit, hl6]; rfl
                  have hl7 : decide (0 < q6.length) = false := by rw [hl6]; rfl
                  clear hl6
                  clear hbit
                  go_wp2_with fail
                  refine (ownw_read O6.out 0).mono ?_
                  rintro e w6 ⟨he, O7⟩
                  rw [uB_val0] at he
                  have he2 : e = .returned (.int .u8 y) := he
                  subst he2
                  rw [uT_read] at O7
                  have O7 : Hid (OwnW w w6 w.heap.size (uT q6 [] 0 o5 false) (.slice A6 q6.length c6) q6) := O7
                  clear he
                  go_wp2_with fail
                  refine (ownw_read O7.out 5).mono ?_
                  rintro e w7 ⟨he, O8⟩
                  rw [HZ5.out] at he
                  subst he
                  rw [uT_aft5] at O8
                  have O8 := Lib.hid O8
                  go_wp2
                  go_roundw
                  case rel => exact ⟨j + 1, by omega, by go_num, q6, false, hq6, O8.out⟩
                  case measure => simp [intOf]; omega
                · have hbit2 : (bits .and .u8 (z5 : Int) 1 == 1) = true := by rw [hbit]; exact decide_eq_true hl6
                  clear hbit
                  go_wp2_with fail
                  refine (ownw_read O6.out 0).mono ?_
                  rintro e w6 ⟨he, O7⟩
                  rw [uB_val0] at he
                  have he2 : e = .returned (.int .u8 y) := he
                  subst he2
                  rw [uT_read] at O7
                  have O7 : Hid (OwnW w w6 w.heap.size (uT q6 [] 0 o5 false) (.slice A6 q6.length c6) q6) := O7
                  clear he
                  go_wp2_with fail
                  refine (ownw_read O7.out 5).mono ?_
                  rintro e w7 ⟨he, O8⟩
                  rw [HZ5.out] at he
                  subst he
                  rw [uT_aft5] at O8
                  have O8 := Lib.hid O8
                  go_wp2
                  go_roundw
                  case rel => exact ⟨j + 1, by omega, by go_num, q6, false, hq6, O8.out⟩
                  case measure => simp [intOf]; omega
            · have hjr' : decide (j < r) = false := by simp; omega
              go_wp2
              go_roundw
              case rel => exact ⟨i + 1, by omega, by go_num, by go_num, q5, o5, hq5, O5.out⟩
              case measure => simp [intOf]; omega
          · have him' : decide (i < m) = false := by simp; omega
            go_wp2
            go_roundw
            case rel => exact ⟨i + 1, by omega, by go_num, by go_num, q5, o5, hq5, O5.out⟩
            case measure => simp [intOf]; omega
    · go_wp2_with fail
      go_loopw [13] (fun i wr => ∃ j : Nat, j ≤ k ∧ i = .int .i64 j ∧ ∃ (q : List Nat) (o em : Bool), Own w wr w.heap.size (uT q (O.take j) 0 o em)) (fun i _ => k - (intOf i).toNat)
      case atStart => exact ⟨0, Nat.zero_le _, rfl, q, o, false, by simpa using O2.out.own⟩
      case round =>
        obtain ⟨j, hj, rfl, q9, o9, em9, O9⟩ := hrel
        have O9 := Lib.hid O9
        by_cases hjk : j < k
        · have hjo : j < O.length := by have : k = O.length := HK.out; omega
          obtain ⟨b, off, hA, hb, _, hcc⟩ := HR3.out (by intro h; have := bytes_length O; rw [h] at this; simp at this; omega)
          subst hA
          have d0 := (O9.out.2.2.cell (p := ⟨b, off + j, none⟩) hb (fun h => h)).trans (hcc j _ (bytes_get O j hjo))
          have hx256 : O[j] < 256 := HO.out _ (List.getElem_mem hjo)
          have htk := List.take_succ_eq_append_getElem hjo
          obtain ⟨x, hx⟩ : ∃ x, O[j] = x := ⟨_, rfl⟩
          rw [hx] at d0 hx256 htk
          have HTK := Lib.hid htk
          clear hcc hx htk
          go_wp2_with fail
          refine (own_write O9.out 0 x hx256 (by simp [uT]; omega)).mono ?_
          rintro e w3 ⟨rfl, O10⟩
          have O11 : Hid (Own w w3 w.heap.size (uT q9 (O.take (j + 1)) 0 o9 true)) := by
            show Own _ _ _ _
            rw [HTK.out]
            simpa [UA.wr, uT] using O10
          clear O10
          go_wp2
          go_roundw
          case rel => exact ⟨j + 1, by omega, by go_num, _, _, _, O11.out⟩
          case measure => simp [intOf]; omega
        · obtain rfl : j = k := by omega
          have O10 := O9.out
          rw [List.take_of_length_le (by have : j = O.length := HK.out; omega)] at O10
          have O10 := Lib.hid O10
          clear O9
          go_wp2_with fail
          refine (own_out O10.out (by simp only [uT]; have : j = O.length := HK.out; omega)).mono ?_
          rintro e w3 ⟨v, rfl, hs, O11⟩
          obtain ⟨A9, c9, rfl, hr9, _, _⟩ := hs.form
          have HR9 := Lib.hid hr9
          have O11 := Lib.hid O11
          have hkk := HK.out
          clear O10 hs hr9
          go_wp2_with fail
          refine (sameBytes_any _ _ A9 C c9 c3 O O w3 HR9.out (HR3.out.fr O11.out.2.2 (fun _ _ _ h => h)) (by omega) (by omega)).mono ?_
          rintro e w4 ⟨rfl, nq, rfl⟩
          rw [decide_eq_true rfl]
          go_wp2_with fail
          refine (awake_any _).mono ?_
          rintro e w5 ⟨rfl, hf⟩
          go_wp2
          go_ret
          exact ⟨rfl, ((O11.out.2.2.drewN nq).trans hf (fun _ _ h => h)).below (fun _ h => h.elim) (Nat.le_refl _)⟩
end Go.Proofs.Ytnjddnmekcjhnaa
