/- The reference's methods. -/
import Derived.Test.YthpkdgneijggoaaE
namespace Go.Proofs.Ythpkdgneijggoaa
open Go.RowKit

theorem refFlush_any (S : Nat → Prop) (p : Nat) (room : Int) (L : List Tr) (V : Int) (w : World) (h : TlbAt w 48 S p room L) (hl : L.length ≤ 64) :
    Calls Try.prog 19 #[.pointer (some ⟨p, 0, none⟩), .int .i64 V] w fun e w' =>
      e = .returned (.tuple #[]) ∧ TlbAt w' 48 (More S w) p room (L.filter (keepB V false 0)) ∧ Fr S w w' := by
  have H := Lib.hid h; clear h
  go_enter Try.func19, Try.ntmps19
  go_wp2_with fail
  refine (drop_any S p room L V false 0 w H.out hl).mono ?_
  rintro e w' ⟨rfl, h⟩
  have H2 := Lib.hid h; clear h
  go_wp2
  go_end0
  exact ⟨rfl, H2.out⟩

theorem refFlushPage_any (S : Nat → Prop) (p : Nat) (room : Int) (L : List Tr) (V G : Int) (w : World) (h : TlbAt w 48 S p room L) (hl : L.length ≤ 64) :
    Calls Try.prog 21 #[.pointer (some ⟨p, 0, none⟩), .int .i64 V, .int .u64 G] w fun e w' =>
      e = .returned (.tuple #[]) ∧ TlbAt w' 48 (More S w) p room (L.filter (keepB V true G)) ∧ Fr S w w' := by
  have H := Lib.hid h; clear h
  go_enter Try.func21, Try.ntmps21
  go_wp2_with fail
  refine (drop_any S p room L V true G w H.out hl).mono ?_
  rintro e w' ⟨rfl, h⟩
  have H2 := Lib.hid h; clear h
  go_wp2
  go_end0
  exact ⟨rfl, H2.out⟩

set_option maxHeartbeats 1600000 in
theorem refLook_any (S : Nat → Prop) (p : Nat) (room : Int) (L : List Tr) (V G : Int) (w : World) (h : TlbAt w 48 S p room L) (hl : L.length ≤ 64) :
    Calls Try.prog 16 #[.pointer (some ⟨p, 0, none⟩), .int .i64 V, .int .u64 G] w fun e w' => e = .returned (told (look L V G)) ∧ Fr (fun _ => False) w w' := by
  obtain ⟨v, hp, hS, hv⟩ := h
  obtain ⟨A, c, rfl, hr, _, _⟩ := hv.form
  have hlt := hp.lt
  have HR := Lib.hid hr; clear hr
  have HV := Lib.hid hv; clear hv
  have HP := Lib.hid hp; clear hp
  have hw1 := Has.new w 31 #[.int .i64 0, .int .u64 0, .int .u64 0, .int .i64 0]
  have hfa := (Fr.refl (fun _ => False) w).alloc (.cells #[.int .i64 0, .int .u64 0, .int .u64 0, .int .i64 0] 31)
  have p1 := (hfa.has HP.out (fun h => h)).cell 1
  have r0 := hw1.cell 0
  have r1 := hw1.cell 1
  have r2 := hw1.cell 2
  have r3 := hw1.cell 3
  have q0 := hw1.frozen 0
  have q1 := hw1.frozen 1
  have q2 := hw1.frozen 2
  have q3 := hw1.frozen 3
  have HF := Lib.hid hfa
  clear hw1 hfa
  go_enter Try.func16, Try.ntmps16
  go_wp2
  go_loop [8] (fun i => ∃ k : Nat, k ≤ L.length ∧ i = .int .i64 k ∧ look (L.take k) V G = none)
    (fun i => L.length - (intOf i).toNat)
  case atStart => exact ⟨0, Nat.zero_le _, rfl, rfl⟩
  case round =>
    obtain ⟨k, hk, rfl, hno⟩ := hrel
    by_cases hkl : k < L.length
    · obtain ⟨b, off, hA, hb, hs, hc⟩ := HR.out (by intro h; have := flat_length L; rw [h] at this; simp at this; omega)
      subst hA
      obtain ⟨d0, d1, d2, d3⟩ := tr_cells HF.out hb (by simp) hc hkl
      clear hc
      have HNO := Lib.hid hno; clear hno
      by_cases hv : L[k].vm = V
      · by_cases hg : L[k].pg = G
        · have HL := Lib.hid (look_at L V G k hkl HNO.out (by simp [hv, hg]))
          go_wp2
          refine bodyPost_ret (v := .tuple #[.agg #[.int .i64 V, .int .u64 G, .int .u64 L[k].fr, .int .i64 L[k].pm], .bool true]) (by simp [results, Try.results16, go_sem]) rfl ⟨by rw [HL.out]; simp [told, hv, hg], ?_⟩
          exact (Fr.refl _ _).alloc _
        · have HL := Lib.hid (look_step L V G k hkl HNO.out (by simp [hg]))
          go_wp2
          go_round
          case rel => exact ⟨k + 1, by omega, by go_num, HL.out⟩
          case measure => simp [intOf]; omega
      · have HL := Lib.hid (look_step L V G k hkl HNO.out (by simp [hv]))
        go_wp2
        go_round
        case rel => exact ⟨k + 1, by omega, by go_num, HL.out⟩
        case measure => simp [intOf]; omega
    · rw [List.take_of_length_le (by omega)] at hno
      have HNO := Lib.hid hno; clear hno
      go_wp2
      refine bodyPost_ret (v := .tuple #[.agg #[.int .i64 0, .int .u64 0, .int .u64 0, .int .i64 0], .bool false]) (by simp [results, Try.results16, go_sem]) rfl ⟨by rw [HNO.out]; simp [told], ?_⟩
      exact (Fr.refl _ _).alloc _

theorem refEvict_no (S : Nat → Prop) (p : Nat) (room : Int) (L : List Tr) (i : Int) (w : World) (h : TlbAt w 48 S p room L) (hi : ¬ (0 ≤ i ∧ i < L.length)) :
    Calls Try.prog 18 #[.pointer (some ⟨p, 0, none⟩), .int .i64 i] w fun e w' => e = .returned (.bool false) ∧ w' = w := by
  obtain ⟨v, hp, hS, hv⟩ := h
  obtain ⟨A, c, rfl, hr, _, _⟩ := hv.form
  have hlt := hp.lt
  have hc1 := hp.cell 1
  have HR := Lib.hid hr; clear hr
  have HV := Lib.hid hv; clear hv
  have HP := Lib.hid hp; clear hp
  by_cases h1 : i < 0
  · go_enter Try.func18, Try.ntmps18
    go_wp2
    go_ret
    exact ⟨rfl, rfl⟩
  · have h2 : (L.length : Int) ≤ i := by omega
    go_enter Try.func18, Try.ntmps18
    go_wp2
    go_ret
    exact ⟨rfl, rfl⟩

theorem Rd.take {w : World} {S : Nat → Prop} {A : Option Addr} {xs : List Value} (h : Rd w S A xs) (k : Nat) : Rd w S A (xs.take k) := fun hx => by
  obtain ⟨b, off, hA, hb, hs, hc⟩ := h (fun h => hx (by simp [h]))
  refine ⟨b, off, hA, hb, hs, fun j u hu => ?_⟩
  rw [List.getElem?_take] at hu
  split at hu
  · exact hc j u hu
  · cases hu

theorem flat_take (M : List Tr) (k : Nat) : (flat M).take (k * 4) = flat (M.take k) := by
  induction k generalizing M with
  | zero => simp [flat]
  | succ k ih =>
    cases M with
    | nil => simp [flat]
    | cons t M =>
      have := ih M
      simp [flat, Tr.cells, Nat.add_mul] at this ⊢
      exact this
theorem flat_drop (M : List Tr) (k : Nat) : (flat M).drop (k * 4) = flat (M.drop k) := by
  induction k generalizing M with
  | zero => simp [flat]
  | succ k ih =>
    cases M with
    | nil => simp [flat]
    | cons t M =>
      have := ih M
      simp [flat, Tr.cells, Nat.add_mul] at this ⊢
      exact this

theorem run_head {P : Program} (t e : TypeId) (i : TypeInfo) (ht : P.underlying t = some (.slice e)) (hi : P.info? e = some i) (A : Option Addr) (n c k : Nat) (hk : k ≤ c) (w : World) :
    (Instr.slice t (.slice A n c) none (some (.int .i64 (k : Int))) none).run P w = .ok (.slice A k c) w := by
  simp [Instr.slice, Instr.sliceBounds, Instr.sliceBound, run_underlying ht, sizeOf, typeInfo, hi, hk, asIntOf]
  cases A with
  | none => simp
  | some a => simp [Addr.add]

set_option maxHeartbeats 1600000 in
theorem refEvict_yes (S : Nat → Prop) (p : Nat) (room : Int) (L : List Tr) (i : Nat) (w : World) (h : TlbAt w 48 S p room L) (hl : L.length ≤ 64) (hi : i < L.length) :
    Calls Try.prog 18 #[.pointer (some ⟨p, 0, none⟩), .int .i64 i] w fun e w' => e = .returned (.bool true) ∧ TlbAt w' 48 (More S w) p room (L.take i ++ L.drop (i + 1)) ∧ Fr S w w' := by
  obtain ⟨v, hp, hS, hv⟩ := h
  obtain ⟨A, c, rfl, hr, hnc, _⟩ := hv.form
  obtain ⟨i0, hi0, hz0, hz1, hz2⟩ := info_parts Try.info31
  have hlt := hp.lt
  have hc1 := hp.cell 1
  have hhead := fun w => run_head (P := Try.prog) 34 31 i0 Try.underlying34 hi0 A L.length c i (by omega) w
  obtain ⟨A', c', hcut, hsl⟩ := hv.run_cut (P := Try.prog) 34 i0 Try.underlying34 hi0 hz1 (i + 1) (by omega)
  have hcut1 : ∀ w1, (Instr.slice 34 (.slice A L.length c) (some (.int .i64 ((i : Int) + 1))) none none).run Try.prog w1 = .ok (.slice A' (L.length - (i + 1)) c') w1 := hcut
  clear hcut
  have HR := Lib.hid (hr.take (i * 4)); clear hr
  have HV := Lib.hid hv; clear hv
  have HP := Lib.hid hp; clear hp
  have HS := Lib.hid hsl; clear hsl
  have hl1 : (flat L).length = L.length * 4 := flat_length L
  have HL := Lib.hid hl1
  clear hl1
  go_enter Try.func18, Try.ntmps18
  go_wp2_with (at_builtin; refine wpList_append_sl _ rfl (.tmp 17) (.tmp 23) 34 rfl (fun k => w.heap.size ≤ k) _ 31 i0 _ 4 32 Try.underlying34 hi0 hz0 hz1 hz2 rfl (by decide) (.slice none 0 0) 0 [] rfl (Sl.nil _ _ _ _) A i c ((flat L).take (i * 4)) rfl HR.out ?len (fun u hu => flatCell L u (List.mem_of_mem_take hu)) ?m63 ?bts ?_)
  case len => rw [List.length_take, HL.out]; omega
  case m63 => unfold maxLen; omega
  case bts => omega
  intro v1 w1 hs1 hf1
  have hp1 := hf1.has HP.out (by simpa using hlt)
  have HP1 := Lib.hid hp1
  have c1 := hp1.cell 1
  have hfw1 : Fr (fun _ => False) w w1 := hf1.weak (fun k hk (h : w.heap.size ≤ k) => by omega)
  have hcutsl := HS.out.fr hfw1 (fun _ _ _ h => h)
  have hs2 : Sl w1 (fun k => w.heap.size ≤ k) 31 4 v1 i ((flat L).take (i * 4)) := by simpa using hs1
  have HS2 := Lib.hid hs2
  have HC := Lib.hid hcutsl
  clear hs1 hs2 hp1 hcutsl
  obtain ⟨A1, n1, rfl, _⟩ := HS2.out.form
  obtain ⟨A4, n4, hv4, hr4, _⟩ := HC.out.form
  cases hv4
  have HR4 := Lib.hid hr4
  clear hr4
  go_wp2_with (at_builtin; refine wpList_append_sl _ rfl (.tmp 26) (.tmp 33) 34 rfl (fun k => w.heap.size ≤ k) _ 31 i0 _ 4 32 Try.underlying34 hi0 hz0 hz1 hz2 rfl (by decide) _ i ((flat L).take (i * 4)) rfl HS2.out A' _ c' ((flat L).drop ((i + 1) * 4)) rfl HR4.out ?len2 (fun u hu => flatCell L u (List.mem_of_mem_drop hu)) ?m632 ?bts2 ?_)
  case len2 => rw [List.length_drop, HL.out]; omega
  case m632 => unfold maxLen; omega
  case bts2 => omega
  intro v2 w2 hs3 hf2
  have hp2 := hf2.has HP1.out (by simpa using hlt)
  have c2 := hp2.cell 1
  have f2 := hp2.frozen 1
  have HS3 := Lib.hid hs3
  clear hs3
  obtain ⟨A5, n5, rfl, _⟩ := HS3.out.form
  go_wp2
  go_ret
  exact ⟨rfl, tlb_keep hp2 hS (by rw [flat_append, ← flat_take, ← flat_drop]; exact HS3.out) ((hfw1.weak (fun _ _ h => h.elim)).trans hf2 (fun k hk (h : w.heap.size ≤ k) => by omega))
    (fun k _ h => by
      have hk : w.heap.size ≤ k := by
        have := hfw1.size
        rcases h with h | h
        · exact h
        · omega
      exact ⟨.inr hk, by omega⟩)⟩

set_option maxHeartbeats 1600000 in
theorem refPut_any (S : Nat → Prop) (p : Nat) (room : Int) (L : List Tr) (t : Tr) (w : World) (h : TlbAt w 48 S p room L) (hl : L.length ≤ room) (hr : 1 ≤ room ∧ room ≤ 64) :
    Calls Try.prog 14 #[.pointer (some ⟨p, 0, none⟩), .agg #[.int .i64 t.vm, .int .u64 t.pg, .int .u64 t.fr, .int .i64 t.pm]] w fun e w' => e = .returned (.tuple #[]) ∧ TlbAt w' 48 (More S w) p room (put room L t) ∧ Fr S w w' := by
  have h1 := (h.weak (S' := fun k => S k ∧ k < w.heap.size) (fun k hk h => ⟨h, hk⟩)).fr ((Fr.refl (fun _ => False) w).alloc (.cells #[.int .i64 t.vm, .int .u64 t.pg, .int .u64 t.fr, .int .i64 t.pm] 31)) (fun _ _ _ h => h)
  have hlt : p < w.heap.size := by obtain ⟨v, hp, _⟩ := h; exact hp.lt
  have hSp : S p := by obtain ⟨v, _, h, _⟩ := h; exact h
  obtain ⟨i0, hi, hz0, hz1, hz2⟩ := info_parts Try.info31
  have H1 := Lib.hid h1; clear h1 h
  go_enter Try.func14, Try.ntmps14
  go_wp2_with fail
  refine (drop_any _ p room L t.vm true t.pg _ H1.out (by omega)).mono ?_
  rintro e w2 ⟨rfl, ht, hf⟩
  have hbx := hf.has (Has.new w 31 #[.int .i64 t.vm, .int .u64 t.pg, .int .u64 t.fr, .int .i64 t.pm]) (fun h => by omega)
  have hfr : Fr S w w2 := ((Fr.refl _ _).alloc _).trans hf (fun _ _ h => h.1)
  have hsz := hf.size
  simp at hsz
  have hml := List.length_filter_le (keepB t.vm true t.pg) L
  have HM : Hid (put room L t = (if room ≤ ((L.filter (keepB t.vm true t.pg)).length : Int) then (L.filter (keepB t.vm true t.pg)).drop 1 else (L.filter (keepB t.vm true t.pg))) ++ [t]) := by
    show put room L t = _
    have e : keepB t.vm true t.pg = fun x => x.vm != t.vm || x.pg != t.pg := by funext x; simp [keepB]
    rw [e]; rfl
  generalize (L.filter (keepB t.vm true t.pg)) = M at *
  obtain ⟨v, hp, hS, hv⟩ := ht
  obtain ⟨A, c, rfl, hrd, hnc, hAc⟩ := hv.form
  have hlt2 := hp.lt
  have p0 := hp.cell 0
  have p1 := hp.cell 1
  have b0 := hbx.cell 0
  have b1 := hbx.cell 1
  have b2 := hbx.cell 2
  have b3 := hbx.cell 3
  have HV := Lib.hid hv; clear hv
  have HP := Lib.hid hp; clear hp
  have HB := Lib.hid hbx; clear hbx
  have HR := Lib.hid hrd; clear hrd
  by_cases hge : (M.length : Int) < room
  · go_wp2_with fail
    go_quiet (fail)
    go_wp2
    have hfx := (((Fr.refl (fun _ => False) w2).drewN (nq + 1)).alloc (.cells #[.int .i64 t.vm, .int .u64 t.pg, .int .u64 t.fr, .int .i64 t.pm] 31))
    have q1 := (hfx.has HP.out (fun h => h)).cell 1
    go_region_law (refine step_append_sl _ rfl (.tmp 33) (.tmp 35) 34 rfl _ _ 31 i0 _ 4 32 Try.underlying34 hi hz0 hz1 hz2 rfl (by decide) _ M.length (flat M) rfl (HV.out.fr (((Fr.refl (fun _ => False) w2).drewN (nq + 1)).alloc _) (fun _ _ _ h => h)) _ 1 1 t.cells rfl (by exact Rd.new (w2.drewN (nq + 1)) 31 t.cells) rfl (trCell t) (by unfold maxLen; omega) (by omega) ?_
                   intro v' w3 hs3 hf3
                   have hp3 := hf3.has (hfx.has HP.out (fun h => h)) (fun h => h.2 rfl)
                   obtain ⟨A3, c3, hv3, _⟩ := hs3.form
                   subst hv3
                   have g1 := hp3.cell 1
                   have g2 := hp3.frozen 1)
    all_goals
      go_end0
      refine ⟨rfl, ?_⟩
      rw [HM.out, if_neg (by omega)]
      exact tlb_keep hp3 hSp (by rw [flat_append]; simpa [flat] using hs3) (((hfr.drewN (nq + 1)).alloc _).trans hf3 (fun k hk h => put_in hk h.1)) (fun k hk h => put_out hsz hlt h)
  · have hge2 : room ≤ (M.length : Int) := by omega
    have hn1 : 1 ≤ M.length := by omega
    obtain ⟨A', c', hcut, hsl⟩ := HV.out.run_cut (P := Try.prog) 34 i0 Try.underlying34 hi hz1 1 hn1
    have hcut1 : ∀ w1, (Instr.slice 34 (.slice A M.length c) (some (.int .i64 1)) none none).run Try.prog w1 = .ok (.slice A' (M.length - 1) c') w1 := hcut
    clear hcut
    obtain ⟨A4, n4, hv4, hr4, _⟩ := hsl.form
    cases hv4
    have HR4 := Lib.hid hr4
    clear hr4 hsl
    go_wp2_with fail
    go_quiet (fail)
    go_wp2_with (at_builtin; refine wpList_append_sl _ rfl _ (.tmp 25) 34 rfl (fun k => w2.heap.size ≤ k) _ 31 i0 _ 4 32 Try.underlying34 hi hz0 hz1 hz2 rfl (by decide) (.slice none 0 0) 0 [] rfl (Sl.nil _ _ _ _) A' (M.length - 1) c' ((flat M).drop (1 * 4)) rfl (HR4.out.fr ((Fr.refl (fun _ => False) w2).drewN nq) (fun _ _ _ h => h)) ?len (fun u hu => flatCell M u (List.mem_of_mem_drop hu)) ?m63 ?bts ?_)
    case len => rw [List.length_drop, flat_length]; omega
    case m63 => unfold maxLen; omega
    case bts => omega
    intro v1 w5 hs5 hf5
    have hfd := (Fr.refl (fun _ => False) w2).drewN nq
    have hp5 := hf5.has (hfd.has HP.out (fun h => h)) (by simpa using hlt2)
    have hb5 := hf5.has (hfd.has HB.out (fun h => h)) (by simp; omega)
    have c1 := hp5.cell 1
    have f1 := hp5.frozen 1
    have hs6 : Sl w5 (fun k => w2.heap.size ≤ k) 31 4 v1 (M.length - 1) ((flat M).drop (1 * 4)) := by simpa using hs5
    have hsz5 := hf5.size
    simp at hsz5
    have hfr5 := (hfr.drewN nq).trans hf5 (fun k hk (h : w2.heap.size ≤ k) => by have := hfr.size; omega)
    obtain ⟨A6, c6, hv6, _⟩ := hs6.form
    subst hv6
    have HP5 := Lib.hid hp5
    have HB5 := Lib.hid hb5
    have HS6 := Lib.hid hs6
    have HF5 := Lib.hid hfr5
    clear hp5 hb5 hs5 hs6 hfr5 hf5 p0 p1 b0 b1 b2 b3 hcut1
    go_wp2
    have hp4 := HP5.out.set 1 (.slice A6 (M.length - 1) c6)
    have hf4 := Fr.store w5 p 1 (.slice A6 (M.length - 1) c6)
    have hb4 := hf4.has HB5.out (fun h => by omega)
    have hs4 := HS6.out.fr hf4 (fun k _ (h : w2.heap.size ≤ k) e => by omega)
    have hfr4 := HF5.out.trans hf4 (fun k _ h => by rw [h]; exact hSp)
    have hsz4 : w2.heap.size ≤ (w5.setCell ⟨p, 1, none⟩ (.slice A6 (M.length - 1) c6)).heap.size := by have := hf4.size; omega
    have hp4 : Has (w5.setCell ⟨p, 1, none⟩ (.slice A6 (M.length - 1) c6)) p 48 #[.int .i64 room, .slice A6 (M.length - 1) c6] := by simpa using hp4
    clear c1 f1
    have HB4 := Lib.hid hb4
    have HP4 := Lib.hid hp4
    have HS4 := Lib.hid hs4
    have HF4 := Lib.hid hfr4
    clear hb4 hp4 hs4 hfr4 hf4 HB HP HV HR hfr hf HP5 HB5 HS6 HF5
    generalize w5.setCell ⟨p, 1, none⟩ (.slice A6 (M.length - 1) c6) = w4 at *
    have b0 := HB4.out.cell 0
    have b1 := HB4.out.cell 1
    have b2 := HB4.out.cell 2
    have b3 := HB4.out.cell 3
    have p1 := HP4.out.cell 1
    have hlt4 := HP4.out.lt
    have hfx := (((Fr.refl (fun _ => False) w4).drewN 1).alloc (.cells #[.int .i64 t.vm, .int .u64 t.pg, .int .u64 t.fr, .int .i64 t.pm] 31))
    have q1 := (hfx.has HP4.out (fun h => h)).cell 1
    go_region_law (refine step_append_sl _ rfl (.tmp 33) (.tmp 35) 34 rfl _ _ 31 i0 _ 4 32 Try.underlying34 hi hz0 hz1 hz2 rfl (by decide) _ (M.length - 1) ((flat M).drop (1 * 4)) rfl (HS4.out.fr hfx (fun _ _ _ h => h)) _ 1 1 t.cells rfl (by exact Rd.new (w4.drewN 1) 31 t.cells) rfl (trCell t) (by unfold maxLen; omega) (by omega) ?_
                   intro v' w3 hs3 hf3
                   rw [show M.length - 1 + 1 = M.length by omega] at hs3
                   have hp3 := hf3.has (hfx.has HP4.out (fun h => h)) (fun h => by have h : w2.heap.size ≤ p := h; omega)
                   obtain ⟨A3, c3, hv3, _⟩ := hs3.form
                   subst hv3
                   have g1 := hp3.cell 1
                   have g2 := hp3.frozen 1)
    all_goals
      go_end0
      refine ⟨rfl, ?_⟩
      rw [HM.out, if_pos (by omega)]
      exact tlb_keep hp3 hSp (by rw [flat_append, flat_drop1]; simpa [flat] using hs3) (((HF4.out.drewN 1).alloc _).trans hf3 (fun k hk (h : w2.heap.size ≤ k) => by omega))
        (fun k hk h => by
          have hk : w.heap.size ≤ k := by
            rcases h with h | h
            · have h : w2.heap.size ≤ k := h
              omega
            · first | omega | (simp at h; omega)
          exact ⟨.inr hk, by omega⟩)

end Go.Proofs.Ythpkdgneijggoaa
