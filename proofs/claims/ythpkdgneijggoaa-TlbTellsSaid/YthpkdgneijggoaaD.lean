/- Evict, Put, Entries of the TLB; SameTrans. -/
import Derived.Test.YthpkdgneijggoaaC
import Derived.WalkSpells
namespace Go.Proofs.Ythpkdgneijggoaa
open Go.RowKit

theorem evict_no (S : Nat → Prop) (p : Nat) (room : Int) (L : List Tr) (i : Int) (w : World) (h : TlbAt w 52 S p room L) (hi : ¬ (0 ≤ i ∧ i < L.length)) :
    Calls Try.prog 17 #[.pointer (some ⟨p, 0, none⟩), .int .i64 i] w fun e w' => e = .returned (.bool false) ∧ w' = w := by
  obtain ⟨v, hp, hS, hv⟩ := h
  obtain ⟨A, c, rfl, hr, _, _⟩ := hv.form
  have hlt := hp.lt
  have hc1 := hp.cell 1
  have HR := Lib.hid hr; clear hr
  have HV := Lib.hid hv; clear hv
  have HP := Lib.hid hp; clear hp
  by_cases h1 : i < 0
  · go_enter Try.func17, Try.ntmps17
    go_wp2
    go_ret
    exact ⟨rfl, rfl⟩
  · have h2 : (L.length : Int) ≤ i := by omega
    go_enter Try.func17, Try.ntmps17
    go_wp2
    go_ret
    exact ⟨rfl, rfl⟩

theorem evict_yes (S : Nat → Prop) (p : Nat) (room : Int) (L : List Tr) (i : Nat) (w : World) (h : TlbAt w 52 S p room L) (hl : L.length ≤ 64) (hi : i < L.length) :
    Calls Try.prog 17 #[.pointer (some ⟨p, 0, none⟩), .int .i64 i] w fun e w' => e = .returned (.bool true) ∧ TlbAt w' 52 (More S w) p room (L.filter fun t => t.vm != L[i].vm || t.pg != L[i].pg) ∧ Fr S w w' := by
  have h0 := h
  obtain ⟨v, hp, hS, hv⟩ := h
  obtain ⟨A, c, rfl, hr, _, _⟩ := hv.form
  obtain ⟨b, off, hA, hb, hs, hc⟩ := hr (by intro h; have := flat_length L; rw [h] at this; simp at this; omega)
  subst hA
  obtain ⟨d0, d1, d2, d3⟩ := tr_cells (Fr.refl (fun _ => False) w) hb (fun h => h) hc hi
  have hlt := hp.lt
  have hc1 := hp.cell 1
  have HR := Lib.hid hr; clear hr hc
  have HV := Lib.hid hv; clear hv
  have HP := Lib.hid hp; clear hp
  have H0 := Lib.hid h0; clear h0
  go_enter Try.func17, Try.ntmps17
  go_wp2_with fail
  refine (flushPage_any S p room L L[i].vm L[i].pg _ (H0.out.fr ((Fr.refl (fun _ => False) w).alloc _) (fun _ _ _ h => h)) hl).mono ?_
  rintro e w2 ⟨rfl, ht, hf⟩
  go_wp2
  go_ret
  exact ⟨rfl, ht.weak (fun k _ h => h.imp id (fun h => by simp at h; omega)), (((Fr.refl _ _).alloc _).trans hf (fun _ _ h => h))⟩

theorem trCell (t : Tr) : ∀ u ∈ t.cells, u.oneCell' = true := by
  intro u hu; simp [Tr.cells] at hu; rcases hu with rfl | rfl | rfl | rfl <;> rfl
theorem flatCell (L : List Tr) : ∀ u ∈ flat L, u.oneCell' = true := by
  intro u hu; simp only [flat, List.mem_flatMap] at hu; obtain ⟨t, _, h⟩ := hu; exact trCell t u h

theorem clone_any (S : Nat → Prop) (v : Value) (L : List Tr) (w : World) (h : Sl w S 31 4 v L.length (flat L)) (hl : L.length * 32 ≤ 140737488355328) :
    Calls Try.prog 23 #[v] w fun e w' => ∃ v', e = .returned v' ∧ Sl w' (fun k => w.heap.size ≤ k) 31 4 v' L.length (flat L) ∧ Fr (fun _ => False) w w' := by
  obtain ⟨i0, hi, hz0, hz1, hz2⟩ := info_parts Try.info31
  obtain ⟨A, c, rfl, hr, _, _⟩ := h.form
  have HR := Lib.hid hr; clear hr
  have heq := fun (w : World) (a : Option Addr) (n c : Nat) => Lib.run_eql_slice_nil (P := Try.prog) w 34 31 a n c 0 0 Try.underlying34
  cases A with
  | none =>
    have h0 : flat L = [] := by
      rcases Classical.em (flat L = []) with h1 | h1
      · exact h1
      · obtain ⟨b, off, hA, _⟩ := HR.out h1; cases hA
    have h1 : L.length = 0 := by have := flat_length L; rw [h0] at this; simp at this; omega
    have H0 := Lib.hid h0
    have H1 := Lib.hid h1
    clear h0 h1
    go_enter Try.func23, Try.ntmps23
    go_wp2
    go_ret
    exact ⟨_, rfl, by rw [H0.out, H1.out]; exact Sl.nil _ _ _ _, Fr.refl _ _⟩
  | some a =>
    go_enter Try.func23, Try.ntmps23
    go_wp2_with (at_builtin; refine wpList_append_sl _ rfl (.tmp 5) (.tmp 6) 34 rfl (fun k => w.heap.size ≤ k) S 31 i0 _ 4 32 Try.underlying34 hi hz0 hz1 hz2 rfl (by decide) (.slice (some ⟨w.heap.size, 0, none⟩) 0 0) 0 [] rfl ?own (some a) L.length c (flat L) rfl ?rd (flat_length L) (flatCell L) ?m63 ?bts ?_)
    case own => exact ⟨by simp, .inr ⟨_, 0, 0, _, rfl, Has.new _ _ _, Nat.le_refl _, Nat.le_refl _, by simp, by simp, fun j hj => by omega⟩⟩
    case rd => exact HR.out.fr ((Fr.refl (fun _ => False) w).alloc _) (fun _ _ _ h => h)
    case m63 => unfold maxLen; omega
    case bts => omega
    intro v' w3 hs3 hf3
    go_wp2
    go_ret
    refine ⟨_, rfl, ?_, ((Fr.refl (fun _ => False) w).alloc _).trans hf3 (fun k hk h => by omega)⟩
    have h4 := hs3.weak (S' := fun k => w.heap.size ≤ k) (fun k _ h => by
      rcases h with h | h
      · exact h
      · first | omega | (simp at h; omega))
    exact h4

def put (room : Int) (L : List Tr) (t : Tr) : List Tr :=
  (let M := L.filter fun x => x.vm != t.vm || x.pg != t.pg
   if room ≤ M.length then M.drop 1 else M) ++ [t]

theorem flat_drop1 (M : List Tr) : flat (M.drop 1) = (flat M).drop (1 * 4) := by
  cases M with
  | nil => rfl
  | cons t M => simp [flat, Tr.cells]
theorem put_in {S : Nat → Prop} {w : World} {o : Obj} {k : Nat} (hk : k < w.heap.size) (h : More (fun k => S k ∧ k < w.heap.size) (w.alloc o) k) : S k := by
  rcases h with h | h
  · exact h.1
  · simp at h; omega
theorem put_out {S : Nat → Prop} {w w2 : World} {o : Obj} {p k : Nat} (hsz : w.heap.size + 1 ≤ w2.heap.size) (hlt : p < w.heap.size)
    (h : (More (fun k => S k ∧ k < w.heap.size) (w.alloc o) k ∧ k ≠ p) ∨ w2.heap.size + 1 ≤ k) : More S w k ∧ k ≠ p := by
  rcases h with ⟨h | h, hn⟩ | h
  · exact ⟨.inl h.1, hn⟩
  · exact ⟨.inr (by simp at h; omega), hn⟩
  · exact ⟨.inr (by omega), by omega⟩

theorem put_any (S : Nat → Prop) (p : Nat) (room : Int) (L : List Tr) (t : Tr) (w : World) (h : TlbAt w 52 S p room L) (hl : L.length ≤ room) (hr : 1 ≤ room ∧ room ≤ 64) :
    Calls Try.prog 8 #[.pointer (some ⟨p, 0, none⟩), .agg #[.int .i64 t.vm, .int .u64 t.pg, .int .u64 t.fr, .int .i64 t.pm]] w fun e w' => e = .returned (.tuple #[]) ∧ TlbAt w' 52 (More S w) p room (put room L t) ∧ Fr S w w' := by
  have h1 := (h.weak (S' := fun k => S k ∧ k < w.heap.size) (fun k hk h => ⟨h, hk⟩)).fr ((Fr.refl (fun _ => False) w).alloc (.cells #[.int .i64 t.vm, .int .u64 t.pg, .int .u64 t.fr, .int .i64 t.pm] 31)) (fun _ _ _ h => h)
  have hlt : p < w.heap.size := by obtain ⟨v, hp, _⟩ := h; exact hp.lt
  have hSp : S p := by obtain ⟨v, _, h, _⟩ := h; exact h
  obtain ⟨i0, hi, hz0, hz1, hz2⟩ := info_parts Try.info31
  have H1 := Lib.hid h1; clear h1 h
  go_enter Try.func8, Try.ntmps8
  go_wp2_with fail
  refine (flushPage_any _ p room L t.vm t.pg _ H1.out (by omega)).mono ?_
  rintro e w2 ⟨rfl, ht, hf⟩
  have hbx := hf.has (Has.new w 31 #[.int .i64 t.vm, .int .u64 t.pg, .int .u64 t.fr, .int .i64 t.pm]) (fun h => by omega)
  have hfr : Fr S w w2 := ((Fr.refl _ _).alloc _).trans hf (fun _ _ h => h.1)
  have hsz := hf.size
  simp at hsz
  have hml := List.length_filter_le (fun x => x.vm != t.vm || x.pg != t.pg) L
  have HM : Hid (put room L t = (if room ≤ ((L.filter fun x => x.vm != t.vm || x.pg != t.pg).length : Int) then (L.filter fun x => x.vm != t.vm || x.pg != t.pg).drop 1 else (L.filter fun x => x.vm != t.vm || x.pg != t.pg)) ++ [t]) := rfl
  generalize (L.filter fun x => x.vm != t.vm || x.pg != t.pg) = M at *
  obtain ⟨v, hp, hS, hv⟩ := ht
  obtain ⟨A, c, rfl, hrd, hnc, hAc⟩ := hv.form
  have hlt2 := hp.lt
  have p0 := hp.cell 0
  have p1 := hp.cell 1
  have b0 := hbx.cell 0
  have b1 := hbx.cell 1
  have b2 := hbx.cell 2
  have b3 := hbx.cell 3
  have HV := Lib.hid hv; clear hv
  have HP := Lib.hid hp; clear hp
  have HB := Lib.hid hbx; clear hbx
  have HR := Lib.hid hrd; clear hrd
  by_cases hge : (M.length : Int) < room
  · go_wp2_with fail
    go_quiet (fail)
    go_wp2
    have hfx := (((Fr.refl (fun _ => False) w2).drewN (nq + 1)).alloc (.cells #[.int .i64 t.vm, .int .u64 t.pg, .int .u64 t.fr, .int .i64 t.pm] 31))
    have q1 := (hfx.has HP.out (fun h => h)).cell 1
    go_region_law (refine step_append_sl _ rfl (.tmp 32) (.tmp 34) 34 rfl _ _ 31 i0 _ 4 32 Try.underlying34 hi hz0 hz1 hz2 rfl (by decide) _ M.length (flat M) rfl (HV.out.fr (((Fr.refl (fun _ => False) w2).drewN (nq + 1)).alloc _) (fun _ _ _ h => h)) _ 1 1 t.cells rfl (by exact Rd.new (w2.drewN (nq + 1)) 31 t.cells) rfl (trCell t) (by unfold maxLen; omega) (by omega) ?_
                   intro v' w3 hs3 hf3
                   have hp3 := hf3.has (hfx.has HP.out (fun h => h)) (fun h => h.2 rfl)
                   obtain ⟨A3, c3, hv3, _⟩ := hs3.form
                   subst hv3
                   have g1 := hp3.cell 1
                   have g2 := hp3.frozen 1)
    all_goals
      go_end0
      refine ⟨rfl, ?_⟩
      rw [HM.out, if_neg (by omega)]
      exact tlb_keep hp3 hSp (by rw [flat_append]; simpa [flat] using hs3) (((hfr.drewN (nq + 1)).alloc _).trans hf3 (fun k hk h => put_in hk h.1)) (fun k hk h => put_out hsz hlt h)
  · have hge2 : room ≤ (M.length : Int) := by omega
    have hn1 : 1 ≤ M.length := by omega
    obtain ⟨A', c', hcut, hsl⟩ := HV.out.run_cut (P := Try.prog) 34 i0 Try.underlying34 hi hz1 1 hn1
    have hcut1 : ∀ w1, (Instr.slice 34 (.slice A M.length c) (some (.int .i64 1)) none none).run Try.prog w1 = .ok (.slice A' (M.length - 1) c') w1 := hcut
    clear hcut
    have f1 := HP.out.frozen 1
    have HS := Lib.hid hsl
    clear hsl
    go_wp2_with fail
    go_quiet (fail)
    go_wp2
    have hp4 := ((Fr.refl (fun _ => False) w2).drewN nq |>.has HP.out (fun h => h)).set 1 (.slice A' (M.length - 1) c')
    have hf4 := ((Fr.refl (fun _ => False) w2).drewN nq).weak (S' := fun k => k = p) (fun _ _ h => h.elim) |>.trans (Fr.store (w2.drewN nq) p 1 (.slice A' (M.length - 1) c')) (fun _ _ h => h)
    have hb4 := hf4.has HB.out (fun h => by omega)
    have hs4 := HS.out.fr hf4 (fun k _ h e => h.2 e)
    have hfr4 := hfr.trans hf4 (fun k _ h => by rw [h]; exact hSp)
    have hsz4 : w.heap.size + 1 ≤ ((w2.drewN nq).setCell ⟨p, 1, none⟩ (.slice A' (M.length - 1) c')).heap.size := by have := hf4.size; omega
    have hp4 : Has ((w2.drewN nq).setCell ⟨p, 1, none⟩ (.slice A' (M.length - 1) c')) p 52 #[.int .i64 room, .slice A' (M.length - 1) c'] := by simpa using hp4
    clear p0 p1 b0 b1 b2 b3 f1 hcut1
    have HB4 := Lib.hid hb4
    have HP4 := Lib.hid hp4
    have HS4 := Lib.hid hs4
    have HF4 := Lib.hid hfr4
    clear hb4 hp4 hs4 hfr4 hf4 HB HP HS HV HR hfr hf
    generalize (w2.drewN nq).setCell ⟨p, 1, none⟩ (.slice A' (M.length - 1) c') = w4 at *
    have b0 := HB4.out.cell 0
    have b1 := HB4.out.cell 1
    have b2 := HB4.out.cell 2
    have b3 := HB4.out.cell 3
    have p1 := HP4.out.cell 1
    have hlt4 := HP4.out.lt
    have hfx := (((Fr.refl (fun _ => False) w4).drewN 1).alloc (.cells #[.int .i64 t.vm, .int .u64 t.pg, .int .u64 t.fr, .int .i64 t.pm] 31))
    have q1 := (hfx.has HP4.out (fun h => h)).cell 1
    have hdl : (M.drop 1).length = M.length - 1 := by simp
    go_region_law (refine step_append_sl _ rfl (.tmp 32) (.tmp 34) 34 rfl _ _ 31 i0 _ 4 32 Try.underlying34 hi hz0 hz1 hz2 rfl (by decide) _ (M.length - 1) ((flat M).drop (1 * 4)) rfl (HS4.out.fr hfx (fun _ _ _ h => h)) _ 1 1 t.cells rfl (by exact Rd.new (w4.drewN 1) 31 t.cells) rfl (trCell t) (by unfold maxLen; omega) (by omega) ?_
                   intro v' w3 hs3 hf3
                   rw [show M.length - 1 + 1 = M.length by omega] at hs3
                   have hp3 := hf3.has (hfx.has HP4.out (fun h => h)) (fun h => h.2 rfl)
                   obtain ⟨A3, c3, hv3, _⟩ := hs3.form
                   subst hv3
                   have g1 := hp3.cell 1
                   have g2 := hp3.frozen 1)
    all_goals
      go_end0
      refine ⟨rfl, ?_⟩
      rw [HM.out, if_pos (by omega)]
      exact tlb_keep hp3 hSp (by rw [flat_append, flat_drop1]; simpa [flat] using hs3) (((HF4.out.drewN 1).alloc _).trans hf3 (fun k hk h => put_in hk h.1)) (fun k hk h => put_out hsz4 hlt h)

end Go.Proofs.Ythpkdgneijggoaa
