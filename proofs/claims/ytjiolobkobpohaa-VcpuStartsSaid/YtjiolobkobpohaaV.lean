/- vcpu.Call. -/
import Derived.Test.YtjiolobkobpohaaX
import Derived.Test.YtjiolobkobpohaaU
namespace Go.Proofs.Ytjiolobkobpohaa
open Go.RowKit Go.BigFrame

def ordW (l : Nat → V) : Nat → V := fun k => (l k).ord
def doL (r : CR) (i n : Nat) (L : Nat → V) : Nat → V :=
  if r.x 17 = 1414090053 then clockL r i L else if r.x 17 = 7557193 then pokeL r n L else if r.x 17 = 4739917 then stateL r i n L else if r.x 17 = 1397904212 then endL r n L else L
def doR (r : CR) (n : Nat) (L : Nat → V) : CR :=
  if r.x 17 = 16 then r.base else if r.x 17 = 1414090053 then clockR r else if r.x 17 = 1 then { r with val := r.x 11 } else if r.x 17 = 7557193 then clockR r
  else if r.x 17 = 4739917 then stateR r n L else if r.x 17 = 1397904212 then endR r else r.noFn
def doB (r : CR) : List Nat := if r.x 17 = 1 then [r.x 10 % 256] else []
def finV (r : CR) (x : V) : V := ((x.setU 10 r.err).setU 11 r.val).setU 32 ((x.u 32 + 4) % 18446744073709551616)
def finL (r : CR) (i : Nat) (L : Nat → V) : Nat → V := if r.stays then L else upd L i (finV r (L i))
/-- What came out: nothing, or one byte. -/
inductive OutE : Value → List Nat → List Ent → Prop
  | none : OutE (.slice none 0 0) [] []
  | one (q u : Nat) : OutE (.slice (some ⟨q, 0, none⟩) 1 1) [u] [.fn q 5 1 (fun _ => .int .u8 (u : Int))]
theorem Mem.addNew {S : Nat → Prop} {w0 w : World} {L : List Ent} (hM : Mem S w0 w L) {x : Ent} (hx : x.ok w) (hnew : ∀ y ∈ L, y.g ≠ x.g) (hg : w0.heap.size ≤ x.g) : Mem S w0 w (L ++ [x]) := by
  refine ⟨hM.fr, fun y hy => ?_, fun y hy hl => ?_, ?_⟩
  · rcases List.mem_append.1 hy with hy | hy
    · exact hM.ok y hy
    · simp at hy; subst hy; exact hx
  · rcases List.mem_append.1 hy with hy | hy
    · exact hM.my y hy hl
    · simp at hy; subst hy; omega
  · rw [List.map_append, List.nodup_append]
    refine ⟨hM.nd, by simp, fun a ha b hb => ?_⟩
    obtain ⟨y, hy, rfl⟩ := List.mem_map.1 ha
    simp at hb; subst hb
    exact hnew y hy
theorem ord_wf {x : V} (h : x.Wf) : x.ord.Wf := by
  have := h.u
  refine ((((((h.setU 0 0 (by omega)).setU 32 _ ?_).setU 42 _ ?_).setU 40 _ ?_).setU 45 _ ?_).setU 46 _ ?_)
  · have := h.u 32; omega
  · have := h.u 42; omega
  · have := h.u 40; omega
  · exact and_lt64 _ (h.u 45)
  · exact and_lt64 _ (h.u 46)
theorem Mem.vsEq {S : Nat → Prop} {w0 w : World} {L : List Ent} (hM : Mem S w0 w L) (k : Nat) {g n : Nat} {l l' : Nat → V} (hk : L[k]? = some (.vs g n l)) (h : ∀ j, j < n → l j = l' j) : Mem S w0 w (L.set k (.vs g n l')) :=
  hM.turn k hk rfl (y := .vs g n l') (Fr.refl _ w) (ent_congr h (hM.ok _ (List.mem_of_getElem? hk)))
theorem withOut (r : CR) (v : Value) (h : r.out = v) : { r with out := v } = r := by cases r; simp at h; subst h; rfl
theorem base_out (r : CR) : r.base.out = r.out := by unfold CR.base; (repeat' split) <;> rfl
theorem clockR_out (r : CR) : (clockR r).out = r.out := by unfold clockR CR.noFn; split <;> rfl
theorem endR_out (r : CR) : (endR r).out = r.out := by unfold endR CR.noFn; split <;> rfl
theorem stateR_out (r : CR) (n : Nat) (L : Nat → V) : (stateR r n L).out = r.out := by unfold stateR CR.noFn; (repeat' split) <;> rfl
theorem doR_vs (r : CR) (n : Nat) (L : Nat → V) : (doR r n L).vs = r.vs := by unfold doR CR.base clockR stateR endR CR.noFn; (repeat' split) <;> rfl
def CallPost (w : World) (n : Nat) (L : Nat → V) (bs : List Nat) (down : Bool) (e : Ending) (w' : World) : Prop :=
  ∃ v vo oe, e = .returned (.tuple #[v, vo, .bool down]) ∧ VSl w' w.heap.size v n L ∧ OutE vo bs oe ∧ (∀ x ∈ oe, x.ok w' ∧ w.heap.size ≤ x.g) ∧ Fr (fun _ => False) w w'

set_option maxRecDepth 100000 in
theorem call_no (A : Option Addr) (n c : Nat) (l : Nat → V) (i : Int) (w : World) (hA : A = none → n = 0) (hR : SlR w A n l) (hn : n * 368 ≤ 140737488355328) (hi : i < 0 ∨ (n : Int) ≤ i) :
    Calls Try.prog 22 #[.slice A n c, .int .i64 i] w (CallPost w n l [] false) := by
  have hnb := len_small hn
  have HR := Lib.hid hR
  have HA := Lib.hid hA
  have HN := Lib.hid hn
  clear hR hA hn
  have hlt : decide (i < 0) = true ∨ (decide (i < 0) = false ∧ decide ((n : Int) ≤ i) = true) := by
    rcases hi with h | h
    · exact .inl (by simpa using h)
    · by_cases h0 : i < 0
      · exact .inl (by simpa using h0)
      · exact .inr ⟨by simpa using h0, by simpa using h⟩
  clear hi
  go_enter Try.func22, Try.ntmps22
  go_wp2_with fail
  refine (clone_any A n c l w HA.out HR.out HN.out).mono ?_
  rintro e w1 ⟨v, rfl, hV, hF⟩
  obtain ⟨A1, c1, rfl, h1, h2, h3⟩ := id hV
  have HB : Hid (Try.prog.built 55 [(0, .slice A1 n c1), (1, .int .i64 i)] = some (arr 39 (cellC (CR.start (.slice A1 n c1) i)))) := built55 _ i ⟨_, _, _, rfl⟩
  have hM := Mem.refl (fun _ => False) w1
  have HV := Lib.hid hV
  have HF := Lib.hid hF
  clear hV hF h1 h2 h3
  rcases hlt with h0 | ⟨h0, h1⟩
  all_goals
    go_wp2_with (first
      | go_skip
      | (refine wpList_build_fn (gd_none rfl) 55 _ rfl 39 (cellC (CR.start (.slice A1 n c1) i)) ?_ ?_; (focus exact HB.out))
      | (refine wpList_box_fn (gd_none rfl) 55 _ rfl 39 _ rfl hM ?_; clear hM; intro w2 gc hgc hgl hM; dsimp only [List.nil_append, List.cons_append] at hM)
      | (refine wpList_cell_fn (gd_none rfl) 24 _ rfl 0 gc 55 39 _ hM rfl 0 rfl _ Try.underlying24 rfl (by omega) (.slice A1 n c1) rfl ?_))
    go_ret3
    exact ⟨_, _, [], rfl, HV.out.fr hM.fr (fun _ _ h => h), .none, (fun x hx => by cases hx), HF.out.trans hM.fr (fun _ _ h => h)⟩

/-- The call's own, behind its beginning. -/
def CR.at (v : Value) (i : Nat) (x : V) : CR := { CR.start v i with x := x.u }
set_option maxRecDepth 100000 in
set_option maxHeartbeats 4000000 in
theorem call_yes (A : Option Addr) (n c : Nat) (l : Nat → V) (i : Nat) (w : World) (hA : A = none → n = 0) (hR : SlR w A n l) (hn : n * 368 ≤ 140737488355328) (hi : i < n) (hw : ∀ k, k < n → (l k).Wf) :
    Calls Try.prog 22 #[.slice A n c, .int .i64 i] w fun e w' => ∃ v, CallPost w n (finL (doR (CR.at v i (l i).ord) n (ordW l)) i (doL (CR.at v i (l i).ord) i n (ordW l))) (doB (CR.at v i (l i).ord)) (doR (CR.at v i (l i).ord) n (ordW l)).down e w' := by
  have hnb := len_small hn
  have HR := Lib.hid hR
  have HA := Lib.hid hA
  have HN := Lib.hid hn
  have HW := Lib.hid hw
  clear hR hA hn hw
  have h0 : decide ((i : Int) < 0) = false := by simp
  have h1 : decide (n ≤ i) = false := by simp; omega
  go_enter Try.func22, Try.ntmps22
  go_wp2_with fail
  refine (clone_any A n c l w HA.out HR.out HN.out).mono ?_
  rintro e w1 ⟨v, rfl, hV, hF⟩
  obtain ⟨A1, c1, rfl, h2, h3, h4, h5⟩ := id hV
  obtain ⟨gv, rfl, hgv, hok⟩ := h5 (by omega)
  have hM := Mem.start hF hgv hok
  have H2 := Lib.hid h2
  have H3 := Lib.hid h3
  clear hV hF h2 h3 h4 h5 hok
  have HB : Hid (Try.prog.built 55 [(0, .slice (some ⟨gv, 0, none⟩) n c1), (1, .int .i64 i)] = some (arr 39 (cellC (CR.start (.slice (some ⟨gv, 0, none⟩) n c1) i)))) := built55 _ i ⟨_, _, _, rfl⟩
  obtain ⟨r0, hr0⟩ : ∃ r, CR.start (.slice (some ⟨gv, 0, none⟩) n c1) i = r := ⟨_, rfl⟩
  rw [hr0] at HB
  have HVS : Hid (r0.vs = .slice (some ⟨gv, 0, none⟩) n c1) := by show _ = _; rw [← hr0]; rfl
  have HR0 := Lib.hid hr0
  clear hr0
  go_upto_region 2 with (first
    | (refine wpList_build_fn (gd_none rfl) 55 _ rfl 39 (cellC r0) ?_ ?_; (focus exact HB.out))
    | (refine wpList_box_fn (gd_none rfl) 55 _ rfl 39 _ rfl hM ?_; clear hM; intro w2 gc hgc hgl hM; dsimp only [List.nil_append, List.cons_append] at hM))
  go_upto_region 5 with (first | go_skip | (refine wpList_cell_fn (gd_none rfl) 24 _ rfl 1 gc 55 39 _ hM rfl 0 rfl _ Try.underlying24 rfl (by omega) (.slice (some ⟨gv, 0, none⟩) n c1) (HVS.out) ?_))
  go_wp2_with fail
  go_loopw [34] (fun t wr => ∃ k : Nat, k ≤ n ∧ t = .int .i64 k ∧ Mem (fun _ => False) w wr (LC gc gv n (stepL (ordW l) l k) r0)) (fun t _ => n - (intOf t).toNat)
  case atStart => exact ⟨0, Nat.zero_le _, rfl, by rw [stepL_zero]; exact hM⟩
  case round =>
    clear hM
    obtain ⟨k, hk, rfl, hM⟩ := hrel
    by_cases hlt : k < n
    · obtain ⟨M, hMk⟩ : ∃ M, stepL (ordW l) l k = M := ⟨_, rfl⟩
      rw [hMk] at hM
      have hLk : M k = l k := by rw [← hMk, stepL_at]
      have WK := Lib.hid (HW.out k hlt)
      obtain ⟨x, hx⟩ : ∃ x, l k = x := ⟨_, rfl⟩
      rw [hx] at WK hLk
      have HX := Lib.hid hLk
      have HM := Lib.hid hMk
      have HOW : Hid (ordW l k = x.ord) := by show ordW l k = _; rw [← hx]; rfl
      clear hMk hLk hx
      go_upto_region 7 with fail
      try dsimp only [Act.put]
      refine wp_region_quiet_tail 16 (fun w' => Mem (fun _ => False) w w' (LC gc gv n M r0)) (by kernel_rfl) (by kernel_rfl) (hM).drew ?_
      simp only [List.take_succ_cons, List.take_zero, List.drop_succ_cons, List.drop_zero]
      repeat (first
        | (refine wpQuiet_cell_fn (gd_want rfl) 24 _ rfl 1 gc 55 39 _ rfl 0 rfl _ Try.underlying24 rfl (by omega) (.slice (some ⟨gv, 0, none⟩) n c1) (HVS.out) ?_; simp only [Act.put, List.setIfInBounds_toArray, List.set_cons_zero, List.set_cons_succ])
        | (refine wpQuiet_load_vs (gd_want rfl) 30 _ rfl 0 gv n M rfl k _ 49 rfl (by first | rfl | omega) hlt (by omega) _ Try.underlying30 rfl Try.info30 ?_; rw [HX.out]; simp only [Act.put, List.setIfInBounds_toArray, List.set_cons_zero, List.set_cons_succ])
        | (refine wpQuiet_pure (v := ?_) (gd_want rfl) ?_ ?_; rotate_left; (focus (intro w'; go_simp; try with_reducible rfl)); simp only [Act.put, List.setIfInBounds_toArray, List.set_cons_zero, List.set_cons_succ])
        | (refine wpQuiet_call (F := 30) (args := #[.agg (arr 49 (cellAt x))]) (v := .agg (arr 49 (cellAt x.ord))) (gd_want rfl) ?_ (fun w' hm => (vorder_any x _ WK.out).mono fun e w2 ⟨he, hf⟩ => ⟨he, Mem.call hm hf⟩) ?_; (focus (intro w'; go_simp; done)); simp only [Act.put, List.setIfInBounds_toArray, List.set_cons_zero, List.set_cons_succ]))
      refine wpQuiet_nil ?_
      intro wq hMq
      clear hM
      have hM := hMq
      clear hMq
      have z1 : Hid (∀ j, 49 ≤ j → j < 52 → cellAt (M k) j = cellAt x.ord j) := by
        intro j h1 h2
        rw [HX.out, ← withH_ord x]
        unfold cellAt
        cases hk : kd j with
        | u => simp [V.withH, show ¬ j < 49 by omega]
        | b => simp [V.withH, show ¬ j < 49 by omega]
        | i => rfl
      go_wp2_with (first
        | go_skip
        | (refine wpList_store_vs (gd_none rfl) 30 _ _ rfl 0 gv n _ hM rfl k _ 49 rfl (by first | rfl | omega) hlt (by omega) (x.ord) rfl Try.info30 (x.ord) (fun _ _ => rfl) (z1.out) ?_; clear hM; intro ws hws hM; dsimp only [List.set_cons_zero, List.set_cons_succ] at hM))

      have hM2 : Hid (Mem (fun _ => False) w ws (LC gc gv n (stepL (ordW l) l (k + 1)) r0)) := by
        show Mem _ _ _ _
        rw [stepL_succ, HM.out, HOW.out]
        exact hM
      go_roundw
      case rel => exact ⟨k + 1, by omega, by go_num, hM2.out⟩
      case measure => simp [intOf]; omega
    · obtain rfl : k = n := by omega
      have hM2 : Hid (Mem (fun _ => False) w wr (LC gc gv k (ordW l) r0)) := by
        show Mem _ _ _ _
        exact hM.vsEq 0 rfl (fun j hj => by simp [stepL, hj])
      clear hM
      have hM := hM2.out
      clear hM2
      obtain ⟨x, hx⟩ : ∃ x, (l i).ord = x := ⟨_, rfl⟩
      have hLi : ordW l i = x := by rw [← hx]; rfl
      have wx : x.Wf := by rw [← hx]; exact ord_wf (HW.out i hi)
      obtain ⟨L, hL⟩ : ∃ L, ordW l = L := ⟨_, rfl⟩
      have wL : ∀ j, j < k → (L j).Wf := fun j hj => by rw [← hL]; exact ord_wf (HW.out j hj)
      rw [hL] at hM hLi
      obtain ⟨r1, hr1⟩ : ∃ r, CR.at (.slice (some ⟨gv, 0, none⟩) k c1) i x = r := ⟨_, rfl⟩
      have e1 : { r0 with x := x.u } = r1 := by rw [← hr1, ← HR0.out]; rfl
      have v1 : r1.vs = .slice (some ⟨gv, 0, none⟩) k c1 := by rw [← hr1]; rfl
      have i1 : r1.i = (i : Int) := by rw [← hr1]; rfl
      have o1 : r1.out = .slice none 0 0 := by rw [← hr1]; rfl
      have s1 : r1.stays = false := by rw [← hr1]; rfl
      have x1 : ∀ j, r1.x j < 18446744073709551616 := fun j => by rw [← hr1]; exact wx.u j
      obtain ⟨kn, hkn⟩ : ∃ q, r1.x 17 = q := ⟨_, rfl⟩
      have HX := Lib.hid hx
      have HLI := Lib.hid hLi
      have HL := Lib.hid hL
      have HR1 := Lib.hid hr1
      have E1 := Lib.hid e1
      have V1 := Lib.hid v1
      have I1 := Lib.hid i1
      have O1 := Lib.hid o1
      have X1 := Lib.hid x1
      have WL := Lib.hid wL
      have HK := Lib.hid hkn
      have tok1 : True := trivial
      clear hx hLi wx wL hL hr1 e1 v1 i1 o1 s1 x1 hkn HVS HB
      go_upto_region 9 with fail
      go_upto_region 10 with (first
        | (refine wpList_cell_fn (gd_none rfl) 24 _ rfl 1 gc 55 39 _ hM rfl 0 rfl _ Try.underlying24 rfl (by omega) (.slice (some ⟨gv, 0, none⟩) k c1) (by rw [← HR0.out]; rfl) ?_)
        | (refine wpList_load_vs (gd_none rfl) 28 _ rfl 0 gv k L hM rfl i _ 32 rfl (by first | rfl | omega) hi (by omega) _ Try.underlying28 rfl Try.info28 ?_; rw [HLI.out])
        | (refine wpList_store_fn (gd_none rfl) 28 _ _ rfl 1 gc 55 39 _ hM rfl 2 32 rfl (cellAt x) rfl Try.info28 (by omega) (fun j _ => cell_one x j) ?_; clear hM; intro ws hws hM; dsimp only [List.set_cons_zero, List.set_cons_succ] at hM; rw [cellC_x, E1.out] at hM))
      try dsimp only [Act.put]
      have hgc2 : gc < ws.heap.size := Ent.ok_lt (hM.ok (.fn gc 55 39 (cellC r1)) (by simp))
      have c19 : ws.drew.cell? ⟨gc, 19, none⟩ = some (.int .u64 (kn : Int)) := by
        rw [← HK.out]; exact (Mem.cell hM.drew 1 rfl 19 (by omega)).trans rfl
      go_region_held3 (fun w' => w'.cell? ⟨gc, 19, none⟩ = some (.int .u64 (kn : Int))) (first | exact c19 | exact hK1.out) (first | (go_at_call 33; refine (calls_any gc _).mono ?_; rintro e w3 ⟨gb, q, rfl, hI⟩; have hK1 := Lib.hid ((hI.fr.cell (p := ⟨gc, 19, none⟩) hgc2 (fun h => h)).trans c19); have hl := run_lookup_calls hI.map kn))
      have hM3 := (hM.drew).call hI.fr
      have hne : gb ≠ gc := by have := hI.lb; have : ws.drew.heap.size = ws.heap.size := rfl; omega
      have HBx := Lib.hid hI.box
      clear hM hl hI c19 hK1
      have hM := hM3
      clear hM3
      go_upto_if 77 with fail
      obtain ⟨ic, hic⟩ : ∃ b, isCall kn = b := ⟨_, rfl⟩
      rw [hic]
      have HIC := Lib.hid hic
      clear hic
      go_cut [] from 78 to 82 (fun wc => ∃ vo oe, OutE vo (doB r1) oe ∧ Mem (fun _ => False) w wc (.vs gv k (doL r1 i k L) :: .fn gc 55 39 (cellC { doR r1 k L with out := vo }) :: oe))
      case first =>
        by_cases k37 : kn = 16
        · subst k37
          have hk1 : hook gb 16 = .func (.func 37) #[] #[.pointer (some ⟨gb, 0, none⟩)] := rfl
          obtain rfl : ic = true := by rw [← HIC.out]; rfl
          go_wp2_with fail
          refine (hook_base gb gc gv k L r1 w3 hM.enter HBx.out).mono ?_
          rintro e w4 ⟨rfl, h⟩
          have hM := hM.meth h
          have hM2 : Hid (Mem (fun _ => False) w w4 (.vs gv k (doL r1 i k L) :: .fn gc 55 39 (cellC { doR r1 k L with out := .slice none 0 0 }) :: [])) := by
            show Mem _ _ _ _
            have hd : doL r1 i k L = L := by unfold doL; rw [HK.out]; rfl
            have hr : doR r1 k L = r1.base := by unfold doR; rw [HK.out]; rfl
            rw [hd, hr, withOut _ _ ((base_out r1).trans O1.out)]
            exact hM
          have hb2 : doB r1 = [] := by unfold doB; rw [HK.out]; rfl
          have HB2 := Lib.hid hb2
          clear hM hk1 h hb2
          go_wp2_with fail
          go_meet
          exact ⟨_, [], by rw [HB2.out]; exact .none, hM2.out⟩
        by_cases k39 : kn = 1414090053
        · subst k39
          have hk1 : hook gb 1414090053 = .func (.func 39) #[] #[.pointer (some ⟨gb, 0, none⟩)] := rfl
          obtain rfl : ic = true := by rw [← HIC.out]; rfl
          go_wp2_with fail
          refine (hook_clock gb gc gv k i c1 L r1 w3 hM.enter V1.out I1.out hi hnb (WL.out i hi) HBx.out).mono ?_
          rintro e w4 ⟨rfl, h⟩
          have hM := hM.meth h
          have hM2 : Hid (Mem (fun _ => False) w w4 (.vs gv k (doL r1 i k L) :: .fn gc 55 39 (cellC { doR r1 k L with out := .slice none 0 0 }) :: [])) := by
            show Mem _ _ _ _
            have hd : doL r1 i k L = clockL r1 i L := by unfold doL; rw [HK.out]; rfl
            have hr : doR r1 k L = clockR r1 := by unfold doR; rw [HK.out]; rfl
            rw [hd, hr, withOut _ _ ((clockR_out r1).trans O1.out)]
            exact hM
          have hb2 : doB r1 = [] := by unfold doB; rw [HK.out]; rfl
          have HB2 := Lib.hid hb2
          clear hM hk1 h hb2
          go_wp2_with fail
          go_meet
          exact ⟨_, [], by rw [HB2.out]; exact .none, hM2.out⟩
        by_cases k42 : kn = 7557193
        · subst k42
          have hk1 : hook gb 7557193 = .func (.func 42) #[] #[.pointer (some ⟨gb, 0, none⟩)] := rfl
          obtain rfl : ic = true := by rw [← HIC.out]; rfl
          go_wp2_with fail
          refine (hook_poke gb gc gv k c1 L r1 w3 hM.enter V1.out hnb WL.out X1.out HBx.out).mono ?_
          rintro e w4 ⟨rfl, h⟩
          have hM := hM.meth h
          have hM2 : Hid (Mem (fun _ => False) w w4 (.vs gv k (doL r1 i k L) :: .fn gc 55 39 (cellC { doR r1 k L with out := .slice none 0 0 }) :: [])) := by
            show Mem _ _ _ _
            have hd : doL r1 i k L = pokeL r1 k L := by unfold doL; rw [HK.out]; rfl
            have hr : doR r1 k L = clockR r1 := by unfold doR; rw [HK.out]; rfl
            rw [hd, hr, withOut _ _ ((clockR_out r1).trans O1.out)]
            exact hM
          have hb2 : doB r1 = [] := by unfold doB; rw [HK.out]; rfl
          have HB2 := Lib.hid hb2
          clear hM hk1 h hb2
          go_wp2_with fail
          go_meet
          exact ⟨_, [], by rw [HB2.out]; exact .none, hM2.out⟩
        by_cases k44 : kn = 4739917
        · subst k44
          have hk1 : hook gb 4739917 = .func (.func 44) #[] #[.pointer (some ⟨gb, 0, none⟩)] := rfl
          obtain rfl : ic = true := by rw [← HIC.out]; rfl
          go_wp2_with fail
          refine (hook_state gb gc gv k c1 i L r1 w3 hM.enter V1.out I1.out hi hnb X1.out HBx.out).mono ?_
          rintro e w4 ⟨rfl, h⟩
          have hM := hM.meth h
          have hM2 : Hid (Mem (fun _ => False) w w4 (.vs gv k (doL r1 i k L) :: .fn gc 55 39 (cellC { doR r1 k L with out := .slice none 0 0 }) :: [])) := by
            show Mem _ _ _ _
            have hd : doL r1 i k L = stateL r1 i k L := by unfold doL; rw [HK.out]; rfl
            have hr : doR r1 k L = stateR r1 k L := by unfold doR; rw [HK.out]; rfl
            rw [hd, hr, withOut _ _ ((stateR_out r1 k L).trans O1.out)]
            exact hM
          have hb2 : doB r1 = [] := by unfold doB; rw [HK.out]; rfl
          have HB2 := Lib.hid hb2
          clear hM hk1 h hb2
          go_wp2_with fail
          go_meet
          exact ⟨_, [], by rw [HB2.out]; exact .none, hM2.out⟩
        by_cases k46 : kn = 1397904212
        · subst k46
          have hk1 : hook gb 1397904212 = .func (.func 46) #[] #[.pointer (some ⟨gb, 0, none⟩)] := rfl
          obtain rfl : ic = true := by rw [← HIC.out]; rfl
          go_wp2_with fail
          refine (hook_end gb gc gv k c1 L r1 w3 hM.enter V1.out hnb HBx.out).mono ?_
          rintro e w4 ⟨rfl, h⟩
          have hM := hM.meth h
          have hM2 : Hid (Mem (fun _ => False) w w4 (.vs gv k (doL r1 i k L) :: .fn gc 55 39 (cellC { doR r1 k L with out := .slice none 0 0 }) :: [])) := by
            show Mem _ _ _ _
            have hd : doL r1 i k L = endL r1 k L := by unfold doL; rw [HK.out]; rfl
            have hr : doR r1 k L = endR r1 := by unfold doR; rw [HK.out]; rfl
            rw [hd, hr, withOut _ _ ((endR_out r1).trans O1.out)]
            exact hM
          have hb2 : doB r1 = [] := by unfold doB; rw [HK.out]; rfl
          have HB2 := Lib.hid hb2
          clear hM hk1 h hb2
          go_wp2_with fail
          go_meet
          exact ⟨_, [], by rw [HB2.out]; exact .none, hM2.out⟩
        by_cases k1 : kn = 1
        · subst k1
          have hk1 : hook gb 1 = .func (.func 41) #[] #[.pointer (some ⟨gb, 0, none⟩)] := rfl
          obtain rfl : ic = true := by rw [← HIC.out]; rfl
          go_wp2_with fail
          refine (console_any gb gc gv k L r1 w3 hM.enter HBx.out hne).mono ?_
          rintro e w4 ⟨q2, hq2, hq3, rfl, h⟩
          have hM4 := hM.meth h
          have hgv4 : gv < w3.heap.size := Ent.ok_lt (hM.ok (.vs gv k L) (by simp))
          have hgc4 : gc < w3.heap.size := Ent.ok_lt (hM.ok (.fn gc 55 39 (cellC r1)) (by simp))
          have hM5 := hM4.addNew (x := .fn q2 5 1 (fun _ => .int .u8 ((r1.x 10 % 256 : Nat) : Int))) hq3 (by
            intro y hy
            simp [LC] at hy
            rcases hy with rfl | rfl <;> simp [Ent.g] <;> omega) (by have := hM.fr.size; simp only [Ent.g]; omega)
          have hM2 : Hid (Mem (fun _ => False) w w4 (.vs gv k (doL r1 i k L) :: .fn gc 55 39 (cellC { doR r1 k L with out := .slice (some ⟨q2, 0, none⟩) 1 1 }) :: [.fn q2 5 1 (fun _ => .int .u8 ((r1.x 10 % 256 : Nat) : Int))])) := by
            show Mem _ _ _ _
            have hd : doL r1 i k L = L := by unfold doL; rw [HK.out]; rfl
            have hr : doR r1 k L = { r1 with val := r1.x 11 } := by unfold doR; rw [HK.out]; rfl
            rw [hd, hr]
            exact hM5
          have hb2 : doB r1 = [r1.x 10 % 256] := by unfold doB; rw [HK.out]; rfl
          have HB2 := Lib.hid hb2
          clear hM hk1 h hb2 hM4 hM5 hq2 hq3 hgv4 hgc4
          go_wp2_with fail
          go_meet
          exact ⟨_, _, by rw [HB2.out]; exact .one _ _, hM2.out⟩
        have hk2 : isCall kn = false := by simp [isCall, k37, k39, k42, k44, k46, k1]
        have hd : doL r1 i k L = L := by unfold doL; rw [HK.out]; simp [k39, k42, k44, k46]
        have hr : doR r1 k L = r1.noFn := by unfold doR; rw [HK.out]; simp [k37, k39, k42, k44, k46, k1]
        have hb2 : doB r1 = [] := by unfold doB; rw [HK.out]; simp [k1]
        have HD := Lib.hid hd
        have HRr := Lib.hid hr
        have HB2 := Lib.hid hb2
        clear k37 k39 k42 k44 k46 k1 hd hr hb2
        obtain rfl : ic = false := by rw [← HIC.out]; exact hk2
        clear hk2
        go_wp2_with (first
          | go_skip
          | (refine wpList_put_fn (gd_none rfl) 22 _ _ rfl 1 gc 55 39 _ hM rfl 34 rfl (.int .u64 (18446744073709551614 : Nat)) rfl Try.info22 (by omega) rfl ?_; clear hM; intro wp hwp hM; dsimp only [List.set_cons_zero, List.set_cons_succ] at hM; rw [cellC_err] at hM))
        go_meet
        refine ⟨_, [], by rw [HB2.out]; exact .none, ?_⟩
        rw [HD.out, HRr.out, withOut r1.noFn _ O1.out]
        exact hM
      case rest =>
        clear hM
        obtain ⟨vo, oe, hO, hM⟩ := hcut
        obtain ⟨r2, hr2⟩ : ∃ r, { doR r1 k L with out := vo } = r := ⟨_, rfl⟩
        obtain ⟨M, hMM⟩ : ∃ M, doL r1 i k L = M := ⟨_, rfl⟩
        rw [hr2, hMM] at hM
        have V2 : Hid (r2.vs = .slice (some ⟨gv, 0, none⟩) k c1) := by show _ = _; rw [← hr2]; exact (doR_vs r1 k L).trans V1.out
        have O2 : Hid (r2.out = vo) := by show _ = _; rw [← hr2]
        have D2 : Hid ((doR r1 k L).down = r2.down) := by show _ = _; rw [← hr2]
        have F2 : Hid (finL (doR r1 k L) i M = finL r2 i M) := by show _ = _; rw [← hr2]; rfl
        obtain ⟨dn, hdn⟩ : ∃ d, r2.down = d := ⟨_, rfl⟩
        obtain ⟨st, hst⟩ : ∃ d, r2.stays = d := ⟨_, rfl⟩
        have HDN := Lib.hid hdn
        have HST := Lib.hid hst
        have HMM := Lib.hid hMM
        have HO := Lib.hid hO
        clear hdn hst hMM hO hr2 HBx
        have fin : Hid (∀ wz, Mem (fun _ => False) w wz (.vs gv k (finL r2 i M) :: .fn gc 55 39 (cellC r2) :: oe) → ∃ v, CallPost w k (finL (doR (CR.at v i (l i).ord) k (ordW l)) i (doL (CR.at v i (l i).ord) i k (ordW l))) (doB (CR.at v i (l i).ord)) (doR (CR.at v i (l i).ord) k (ordW l)).down (.returned (.tuple #[.slice (some ⟨gv, 0, none⟩) k c1, vo, .bool dn])) wz) := by
          intro wz hz
          refine ⟨.slice (some ⟨gv, 0, none⟩) k c1, ?_⟩
          rw [HX.out, HL.out, HR1.out, HMM.out, F2.out, D2.out, HDN.out]
          refine ⟨_, vo, oe, rfl, ⟨_, c1, rfl, H2.out, H3.out, (fun h => by cases h), fun _ => ⟨gv, rfl, hgv, hz.ok _ (by simp)⟩⟩, HO.out, fun x hx => ⟨hz.ok x (by simp [hx]), ?_⟩, hz.fr⟩
          rcases Nat.lt_or_ge x.g w.heap.size with h | h
          · exact (hz.my x (by simp [hx]) h).elim
          · exact h
        have hgv3 : gv < wc.heap.size := Ent.ok_lt (hM.ok (.vs gv k M) (by simp))
        have hne2 : gv ≠ gc := fun e => by have := hM.nd; simp [Ent.g] at this; exact this.1.1 e
        cases st with
        | true =>
          have hfin : Hid (finL r2 i M = M) := by show finL r2 i M = M; unfold finL; rw [HST.out]; rfl
          go_upto_region 18 with (first | (refine wpList_cell_fn (gd_none rfl) 24 _ rfl 1 gc 55 39 _ hM rfl 0 rfl _ Try.underlying24 rfl (by omega) (.slice (some ⟨gv, 0, none⟩) k c1) (V2.out) ?_) | (refine wpList_cell_fn (gd_none rfl) 4 _ rfl 1 gc 55 39 _ hM rfl 36 rfl _ Try.underlying4 rfl (by omega) (.bool true) (congrArg Value.bool HST.out) ?_))
          try dsimp only [Act.put]
          refine wp_region_quiet (C := fun w' => Mem (fun _ => False) w w' (.vs gv k M :: .fn gc 55 39 (cellC r2) :: oe)) (by kernel_rfl) (by kernel_rfl) (hM).drew ?_
          dsimp only
          repeat (first
            | (refine wpQuiet_cell_fn (gd_want rfl) 24 _ rfl 1 gc 55 39 _ rfl 0 rfl _ Try.underlying24 rfl (by omega) (.slice (some ⟨gv, 0, none⟩) k c1) (V2.out) ?_; simp only [Act.put, List.setIfInBounds_toArray, List.set_cons_zero, List.set_cons_succ])
            | (refine wpQuiet_cell_fn (gd_want rfl) 38 _ rfl 1 gc 55 39 _ rfl 37 rfl _ Try.underlying38 rfl (by omega) (vo) (O2.out) ?_; simp only [Act.put, List.setIfInBounds_toArray, List.set_cons_zero, List.set_cons_succ])
            | (refine wpQuiet_cell_fn (gd_want rfl) 4 _ rfl 1 gc 55 39 _ rfl 38 rfl _ Try.underlying4 rfl (by omega) (.bool dn) (congrArg Value.bool HDN.out) ?_; simp only [Act.put, List.setIfInBounds_toArray, List.set_cons_zero, List.set_cons_succ])
            | (refine wpQuiet_pure (v := ?_) (gd_want rfl) ?_ ?_; rotate_left; (focus (intro w'; go_simp; try with_reducible rfl)); simp only [Act.put, List.setIfInBounds_toArray, List.set_cons_zero, List.set_cons_succ]))
          refine wpQuiet_nil ?_
          intro wq hMq
          have hMz := Lib.hid hMq
          clear hM hMq
          go_wp2_with fail
          go_ret3
          exact fin.out _ (by rw [hfin.out]; exact hMz.out)
        | false =>
          have hfin : Hid (finL r2 i M = upd M i (finV r2 (M i))) := by show finL r2 i M = _; unfold finL; rw [HST.out]; rfl
          go_upto_region 16 with (first | (refine wpList_cell_fn (gd_none rfl) 24 _ rfl 1 gc 55 39 _ hM rfl 0 rfl _ Try.underlying24 rfl (by omega) (.slice (some ⟨gv, 0, none⟩) k c1) (V2.out) ?_) | (refine wpList_cell_fn (gd_none rfl) 4 _ rfl 1 gc 55 39 _ hM rfl 36 rfl _ Try.underlying4 rfl (by omega) (.bool false) (congrArg Value.bool HST.out) ?_))
          try dsimp only [Act.put]
          obtain ⟨er, her⟩ : ∃ e, r2.err = e := ⟨_, rfl⟩
          obtain ⟨va, hva⟩ : ∃ e, r2.val = e := ⟨_, rfl⟩
          have d34 : wc.drew.cell? ⟨gc, 34, none⟩ = some (.int .u64 (er : Int)) := by rw [← her]; exact (Mem.cell hM.drew 1 rfl 34 (by omega)).trans rfl
          have d35 : wc.drew.cell? ⟨gc, 35, none⟩ = some (.int .u64 (va : Int)) := by rw [← hva]; exact (Mem.cell hM.drew 1 rfl 35 (by omega)).trans rfl
          have w34 : wc.cell? ⟨gc, 34, none⟩ = some (.int .u64 (er : Int)) := by simpa using d34
          have w35 : wc.cell? ⟨gc, 35, none⟩ = some (.int .u64 (va : Int)) := by simpa using d35
          have v10 : wc.cell? ⟨gv, i * 52 + 10, none⟩ = some (.int .u64 ((M i).u 10 : Int)) := (Mem.cellV hM 0 rfl i 10 hi (by omega)).trans rfl
          have v11 : wc.cell? ⟨gv, i * 52 + 11, none⟩ = some (.int .u64 ((M i).u 11 : Int)) := (Mem.cellV hM 0 rfl i 11 hi (by omega)).trans rfl
          have f10 : wc.frozen? ⟨gv, i * 52 + 10, none⟩ = false := Mem.frozenV hM 0 rfl _
          have f11 : wc.frozen? ⟨gv, i * 52 + 11, none⟩ = false := Mem.frozenV hM 0 rfl _
          have HER := Lib.hid her
          have HVA := Lib.hid hva
          clear her hva
          go_region_held3 (fun w' => w'.cell? ⟨gc, 34, none⟩ = some (.int .u64 (er : Int)) ∧ w'.cell? ⟨gc, 35, none⟩ = some (.int .u64 (va : Int))) (first | exact ⟨d34, d35⟩ | (simp [World.cell?_setCell_far, w34, w35, hne2]; done)) (fail)
          have hM1 := hM.putV 0 rfl i 10 hi (by omega) (.int .u64 (er : Int)) ((M i).setU 10 er) (upd_cellU _ _ _ rfl)
          have hM2 := hM1.putV 0 rfl i 11 hi (by omega) (.int .u64 (va : Int)) (((M i).setU 10 er).setU 11 va) (by rw [upd_same]; exact upd_cellU _ _ _ rfl)
          have hM3 := hM2.drew
          simp only [List.set_cons_zero, updV_twice] at hM3
          have e32 : cellAt (upd M i (((M i).setU 10 er).setU 11 va) i) 32 = .int .u64 ((M i).u 32 : Int) := by rw [upd_same]; rfl
          obtain ⟨p, hp⟩ : ∃ p, (M i).u 32 = p := ⟨_, rfl⟩
          obtain ⟨p4, hp4⟩ : ∃ p4, (p + 4) % 18446744073709551616 = p4 := ⟨_, rfl⟩
          rw [hp] at e32
          have ep : IntKind.u64.wrap ((p : Int) + 4) = p4 := by rw [IntKind.wrap_u64]; omega
          have zf : upd (cellAt (upd M i (((M i).setU 10 er).setU 11 va) i)) 32 (.int .u64 (p4 : Int)) = cellAt (finV r2 (M i)) := by
            rw [upd_same, upd_cellU _ _ _ (show kd 32 = .u from rfl)]
            unfold finV
            rw [HER.out, HVA.out, hp, hp4]
          have E32 := Lib.hid e32
          have ZF := Lib.hid zf
          clear hM hM1 hM2 e32 zf hp hp4 d34 d35 w34 w35 v10 v11 f10 f11
          have hM := hM3
          clear hM3
          go_upto_region 18 with (first
            | (refine wpList_cell_vs (gd_none rfl) 22 _ rfl 0 gv k _ hM rfl i 32 _ rfl (by first | rfl | omega) hi (by omega) _ Try.underlying22 rfl (.int .u64 (p : Nat)) (E32.out) ?_)
            | (refine wpList_put_vs (gd_none rfl) 22 _ _ rfl 0 gv k _ hM rfl i 32 _ rfl (by first | rfl | omega) hi (by omega) (.int .u64 (p4 : Nat)) rfl Try.info22 (finV r2 (M i)) (ZF.out) ?_; clear hM; intro wp hwp hM; dsimp only [List.set_cons_zero, List.set_cons_succ] at hM))
          simp only [updV_twice] at hM
          try dsimp only [Act.put]
          refine wp_region_quiet (C := fun w' => Mem (fun _ => False) w w' (.vs gv k (upd M i (finV r2 (M i))) :: .fn gc 55 39 (cellC r2) :: oe)) (by kernel_rfl) (by kernel_rfl) (hM).drew ?_
          dsimp only
          repeat (first
            | (refine wpQuiet_cell_fn (gd_want rfl) 24 _ rfl 1 gc 55 39 _ rfl 0 rfl _ Try.underlying24 rfl (by omega) (.slice (some ⟨gv, 0, none⟩) k c1) (V2.out) ?_; simp only [Act.put, List.setIfInBounds_toArray, List.set_cons_zero, List.set_cons_succ])
            | (refine wpQuiet_cell_fn (gd_want rfl) 38 _ rfl 1 gc 55 39 _ rfl 37 rfl _ Try.underlying38 rfl (by omega) (vo) (O2.out) ?_; simp only [Act.put, List.setIfInBounds_toArray, List.set_cons_zero, List.set_cons_succ])
            | (refine wpQuiet_cell_fn (gd_want rfl) 4 _ rfl 1 gc 55 39 _ rfl 38 rfl _ Try.underlying4 rfl (by omega) (.bool dn) (congrArg Value.bool HDN.out) ?_; simp only [Act.put, List.setIfInBounds_toArray, List.set_cons_zero, List.set_cons_succ])
            | (refine wpQuiet_pure (v := ?_) (gd_want rfl) ?_ ?_; rotate_left; (focus (intro w'; go_simp; try with_reducible rfl)); simp only [Act.put, List.setIfInBounds_toArray, List.set_cons_zero, List.set_cons_succ]))
          refine wpQuiet_nil ?_
          intro wq hMq
          have hMz := Lib.hid hMq
          clear hM hMq
          go_wp2_with fail
          go_ret3
          exact fin.out _ (by rw [hfin.out]; exact hMz.out)
end Go.Proofs.Ytjiolobkobpohaa
