/- citadelref17.Call: cases of it. -/
import Derived.Test.YtjiolobkobpohaaY
namespace Go.Proofs.Ytjiolobkobpohaa
open Go.RowKit Go.BigFrame
set_option maxRecDepth 100000 in
set_option maxHeartbeats 8000000 in
theorem refCall_state (A : Option Addr) (n c : Nat) (l : Nat → V) (i : Nat) (w : World) (hA : A = none → n = 0) (hR : SlR w A n l) (hn : n * 368 ≤ 140737488355328) (hi : i < n) (hw : ∀ k, k < n → (l k).Wf) (hG : RG_state ((l i).ord.u 17)) :
    Calls Try.prog 23 #[.slice A n c, .int .i64 i] w (CallPost w n (finL (doR (CR.at .nilFunc i (l i).ord) n (ordW l)) i (doL (CR.at .nilFunc i (l i).ord) i n (ordW l))) (doB (CR.at .nilFunc i (l i).ord)) (doR (CR.at .nilFunc i (l i).ord) n (ordW l)).down) := by
  have hnb := len_small hn
  have HR := Lib.hid hR
  have HA := Lib.hid hA
  have HN := Lib.hid hn
  have HW := Lib.hid hw
  have HGG := Lib.hid hG
  clear hR hA hn hw hG
  have h0 : decide ((i : Int) < 0) = false := by simp
  have h1 : decide (n ≤ i) = false := by simp; omega
  go_enter Try.func23, Try.ntmps23
  go_wp2_with (refine wpList_append_vs (gd_none rfl) _ _ rfl w.heap.size (Nat.le_refl _) _ rfl (World.ownsRow_nil w _ 32 52) A n c rfl l HA.out HR.out HN.out ?_)
  intro v w1 hV hF0
  have hF : Fr (fun _ => False) w w1 := hF0.weak (fun k hk (h : w.heap.size ≤ k) => by omega)
  clear hF0
  obtain ⟨A1, c1, rfl, h2, h3, h4, h5⟩ := id hV
  obtain ⟨gv, rfl, hgv, hok⟩ := h5 (by omega)
  have hM := Mem.start hF hgv hok
  have H2 := Lib.hid h2
  have H3 := Lib.hid h3
  clear hV hF h2 h3 h4 h5 hok
  go_upto_region 5 with (first | go_skip)
  go_wp2_with fail
  go_loopw [8] (fun t wr => ∃ k : Nat, k ≤ n ∧ t = .int .i64 k ∧ Mem (fun _ => False) w wr [.vs gv n (stepL (ordW l) l k)]) (fun t _ => n - (intOf t).toNat)
  case atStart => exact ⟨0, Nat.zero_le _, rfl, by rw [stepL_zero]; exact hM⟩
  case round =>
    clear hM
    obtain ⟨k, hk, rfl, hM⟩ := hrel
    by_cases hlt : k < n
    · obtain ⟨M, hMk⟩ : ∃ M, stepL (ordW l) l k = M := ⟨_, rfl⟩
      rw [hMk] at hM
      have hLk : M k = l k := by rw [← hMk, stepL_at]
      have WK := Lib.hid (HW.out k hlt)
      obtain ⟨x, hx⟩ : ∃ x, l k = x := ⟨_, rfl⟩
      rw [hx] at WK hLk
      have HX := Lib.hid hLk
      have HM := Lib.hid hMk
      have HOW : Hid (ordW l k = x.ord) := by show ordW l k = _; rw [← hx]; rfl
      clear hMk hLk hx
      go_wp2_with (first
        | go_skip
        | (refine wpList_load_vs (gd_none rfl) 32 _ rfl 0 gv n M hM rfl k _ 52 rfl (by first | rfl | omega) hlt (by omega) _ Try.underlying32 rfl Try.info32 ?_; rw [HX.out])
        | (go_at_call 31; refine (rorder_any x _ WK.out).mono ?_; rintro e w' ⟨rfl, hf⟩; replace hM := hM.call hf)
        | (refine wpList_store_vs (gd_none rfl) 32 _ _ rfl 0 gv n _ hM rfl k _ 52 rfl (by first | rfl | omega) hlt (by omega) (x.ord) rfl Try.info32 (x.ord) (fun _ _ => rfl) (fun j h1 h2 => absurd h1 (Nat.not_le.2 h2)) ?_; clear hM; intro ws hws hM; dsimp only [List.set_cons_zero, List.set_cons_succ] at hM))
      have hM2 : Hid (Mem (fun _ => False) w ws [.vs gv n (stepL (ordW l) l (k + 1))]) := by
        show Mem _ _ _ _
        rw [stepL_succ, HM.out, HOW.out]
        exact hM
      go_roundw
      case rel => exact ⟨k + 1, by omega, by go_num, hM2.out⟩
      case measure => simp [intOf]; omega
    · obtain rfl : k = n := by omega
      have hM2 : Hid (Mem (fun _ => False) w wr [.vs gv k (ordW l)]) := by
        show Mem _ _ _ _
        exact hM.vsEq 0 rfl (fun j hj => by simp [stepL, hj])
      clear hM
      have hM := hM2.out
      clear hM2
      obtain ⟨x, hx⟩ : ∃ x, (l i).ord = x := ⟨_, rfl⟩
      have hLi : ordW l i = x := by rw [← hx]; rfl
      have wx : x.Wf := by rw [← hx]; exact ord_wf (HW.out i hi)
      obtain ⟨L, hL⟩ : ∃ L, ordW l = L := ⟨_, rfl⟩
      have wL : ∀ j, j < k → (L j).Wf := fun j hj => by rw [← hL]; exact ord_wf (HW.out j hj)
      rw [hL] at hM hLi
      obtain ⟨r1, hr1⟩ : ∃ r, CR.at .nilFunc i x = r := ⟨_, rfl⟩
      have x1 : ∀ j, r1.x j = x.u j := fun j => by rw [← hr1]; rfl
      obtain ⟨kn, hkn⟩ : ∃ q, x.u 17 = q := ⟨_, rfl⟩
      obtain ⟨fn, hfn⟩ : ∃ q, x.u 16 = q := ⟨_, rfl⟩
      obtain ⟨a, ha⟩ : ∃ q, x.u 10 = q := ⟨_, rfl⟩
      obtain ⟨b, hb⟩ : ∃ q, x.u 11 = q := ⟨_, rfl⟩
      have la : a < 18446744073709551616 := by rw [← ha]; exact wx.u 10
      have lb : b < 18446744073709551616 := by rw [← hb]; exact wx.u 11
      have HX := Lib.hid hx
      have HLI := Lib.hid hLi
      have HL := Lib.hid hL
      have HR1 := Lib.hid hr1
      have X1 := Lib.hid x1
      have WX := Lib.hid wx
      have WL := Lib.hid wL
      have HK := Lib.hid hkn
      have HF := Lib.hid hfn
      have HAA := Lib.hid ha
      have HB := Lib.hid hb
      clear hx hLi wx wL hL hr1 x1 hkn hfn ha hb
      go_upto_block 2 with (first | (refine wpList_load_vs (gd_none rfl) 28 _ rfl 0 gv k L hM rfl i _ 32 rfl (by first | rfl | omega) hi (by omega) _ Try.underlying28 rfl Try.info28 ?_; rw [HLI.out]) | (refine wpList_alloc_fn (gd_none rfl) 28 rfl 32 _ Try.zero28 hM ?_; clear hM; intro w9 g9 hg9 hl9 hM; dsimp only [List.nil_append, List.cons_append] at hM) | (refine wpList_store_all (gd_none rfl) 28 _ _ rfl 1 g9 28 32 _ hM rfl rfl (cellAt x) rfl Try.info28 (fun j _ => cell_one x j) ?_; clear hM; intro ws hws hM; dsimp only [List.set_cons_zero, List.set_cons_succ] at hM) | (refine wpList_cell_fn (gd_none rfl) 22 _ rfl 1 g9 28 32 _ hM rfl 10 rfl _ Try.underlying22 rfl (by omega) (.int .u64 (a : Nat)) (congrArg (fun n : Nat => Value.int .u64 (n : Int)) HAA.out) ?_) | (refine wpList_cell_fn (gd_none rfl) 22 _ rfl 1 g9 28 32 _ hM rfl 11 rfl _ Try.underlying22 rfl (by omega) (.int .u64 (b : Nat)) (congrArg (fun n : Nat => Value.int .u64 (n : Int)) HB.out) ?_) | (refine wpList_cell_fn (gd_none rfl) 22 _ rfl 1 g9 28 32 _ hM rfl 17 rfl _ Try.underlying22 rfl (by omega) (.int .u64 (kn : Nat)) (congrArg (fun n : Nat => Value.int .u64 (n : Int)) HK.out) ?_) | (refine wpList_cell_fn (gd_none rfl) 22 _ rfl 1 g9 28 32 _ hM rfl 16 rfl _ Try.underlying22 rfl (by omega) (.int .u64 (fn : Nat)) (congrArg (fun n : Nat => Value.int .u64 (n : Int)) HF.out) ?_))
      have R17 : Hid (r1.x 17 = kn) := by show _ = _; rw [X1.out, HK.out]
      have R16 : Hid (r1.x 16 = fn) := by show _ = _; rw [X1.out, HF.out]
      have R10 : Hid (r1.x 10 = a) := by show _ = _; rw [X1.out, HAA.out]
      have R11 : Hid (r1.x 11 = b) := by show _ = _; rw [X1.out, HB.out]
      have S0 : Hid (r1.stays = false) := by show _ = _; rw [← HR1.out]; rfl
      have D0 : Hid (r1.down = false) := by show _ = _; rw [← HR1.out]; rfl
      have E0 : Hid (r1.err = 0) := by show _ = _; rw [← HR1.out]; rfl
      have V0 : Hid (r1.val = 0) := by show _ = _; rw [← HR1.out]; rfl
      go_cut [14, 15] from 16 to 253 (fun e v wc => CutP r1 k i gv g9 L w x e v wc)
      case first =>
        have hgg : RG_state kn := by rw [← HK.out, ← HX.out]; exact HGG.out
        unfold RG_state at hgg
        have kst : kn = 4739917 := by omega
        clear hgg
        subst kst
        by_cases f1 : fn = 1
        · subst f1
          have z1 : Hid (upd (cellAt (L i)) 49 (.int .i64 0) = cellAt (x.setI 0)) := by show _ = _; rw [HLI.out]; exact upd_cellI _ _ _ rfl
          have h1 : Hid (doR r1 k L = { r1 with stays := true }) := by show _ = _; unfold doR stateR; rw [R17.out, if_neg (by decide), if_neg (by decide), if_neg (by decide), if_neg (by decide), if_pos rfl, R16.out, if_pos rfl]
          have h2 : Hid (doL r1 i k L = upd L i (x.setI 0)) := by show _ = _; unfold doL stateL; rw [R17.out, if_neg (by decide), if_neg (by decide), if_pos rfl, R16.out, if_pos rfl, HLI.out]
          go_wp2_with (first
            | go_skip
            | (refine wpList_put_vs (gd_none rfl) 3 _ _ rfl 0 gv k _ hM rfl i 49 _ rfl (by first | rfl | omega) hi (by omega) (.int .i64 0) rfl Try.info3 (x.setI 0) (z1.out) ?_; clear hM; intro wp hwp hM; dsimp only [List.set_cons_zero, List.set_cons_succ] at hM; try simp only [updV_twice] at hM))
          go_ret3
          rw [HX.out, HL.out, HR1.out]
          exact outP h1.out h2.out (by rw [R17.out]; decide) rfl D0.out hgv H2.out H3.out hM
        by_cases f0 : fn = 0
        · subst f0
          clear f1
          have en : IntKind.u64.wrap (k : Int) = k := by rw [IntKind.wrap_u64]; omega
          by_cases ha : k ≤ a
          · have ha' : decide (k ≤ a) = true := by simpa using ha
            have h1 : Hid (doR r1 k L = { r1 with err := 18446744073709551613 }) := by show _ = _; unfold doR stateR; rw [R17.out, if_neg (by decide), if_neg (by decide), if_neg (by decide), if_neg (by decide), if_pos rfl, R16.out, if_neg (by decide), if_neg (by decide), R10.out, if_pos ha]
            have h2 : Hid (doL r1 i k L = L) := by show _ = _; unfold doL stateL; rw [R17.out, if_neg (by decide), if_neg (by decide), if_pos rfl, R16.out, if_neg (by decide), R10.out, if_neg (by omega)]
            clear ha
            go_wp2_with (first
              | go_skip
              | (go_at_call 35; refine (minus3 _).mono ?_; rintro e w' ⟨rfl, rfl⟩))
            go_meet
            exact cutP (i := i) h1.out h2.out (by rw [R17.out]; decide) S0.out D0.out _ _ (by first | exact E0.out | rfl) (by first | exact V0.out | rfl) hM
          have ha' : decide (k ≤ a) = false := by simp; omega
          have hak : a < k := by omega
          obtain ⟨st, hst⟩ : ∃ s, (L a).i = s := ⟨_, rfl⟩
          have HST : Hid (cellAt (L a) 49 = .int .i64 st) := by show _ = _; rw [← hst]; rfl
          by_cases hs : st = 0
          · subst hs
            obtain ⟨d, hd⟩ : ∃ d, x.u 12 = d := ⟨_, rfl⟩
            have ld : d < 18446744073709551616 := by rw [← hd]; exact WX.out.u 12
            have BB : Hid (Try.prog.built 32 [(0, .agg (arr 49 (cellAt (V.reset b a d)))), (1, .int .i64 1)] = some (arr 52 (cellAt (startV b a d)))) := built32 (V.reset b a d)
            have R12 : r1.x 12 = d := by rw [X1.out, hd]
            have HDD : Hid (cellAt x 12 = .int .u64 (d : Int)) := by show _ = _; rw [← hd]; rfl
            have LA := Lib.hid la
            have LB := Lib.hid lb
            have LD := Lib.hid ld
            have h1 : Hid (doR r1 k L = r1) := by show _ = _; unfold doR stateR; rw [R17.out, if_neg (by decide), if_neg (by decide), if_neg (by decide), if_neg (by decide), if_pos rfl, R16.out, if_neg (by decide), if_neg (by decide), R10.out, if_neg ha, if_neg (by decide), if_pos hst]
            have h2 : Hid (doL r1 i k L = upd L a (startV b a d)) := by show _ = _; unfold doL stateL; rw [R17.out, if_neg (by decide), if_neg (by decide), if_pos rfl, R16.out, if_neg (by decide), R10.out, if_pos ⟨rfl, hak, hst⟩, R11.out, R12]
            clear ha hst hd R12 la lb ld
            go_wp2_with (first
              | go_skip
              | (refine wpList_cell_vs (gd_none rfl) 3 _ rfl 0 gv k _ hM rfl a 49 _ rfl (by first | rfl | omega) hak (by omega) _ Try.underlying3 rfl (.int .i64 0) (HST.out) ?_)
              | (refine wpList_cell_fn (gd_none rfl) 22 _ rfl 1 g9 28 32 _ hM rfl 12 rfl _ Try.underlying22 rfl (by omega) (.int .u64 (d : Nat)) (HDD.out) ?_)
              | (go_at_call 29; refine (refReset_any b a d _ LB.out LA.out LD.out).mono ?_; rintro e w' ⟨rfl, hf⟩; replace hM := hM.call hf)
              | (refine wpList_build_fn (gd_none rfl) 32 _ rfl 52 (cellAt (startV b a d)) ?_ ?_; (focus exact BB.out))
              | (refine wpList_store_vs (gd_none rfl) 32 _ _ rfl 0 gv k _ hM rfl a _ 52 rfl (by first | rfl | omega) hak (by omega) (startV b a d) rfl Try.info32 (startV b a d) (fun _ _ => rfl) (fun j h1 h2 => absurd h1 (Nat.not_le.2 h2)) ?_; clear hM; intro ws hws hM; dsimp only [List.set_cons_zero, List.set_cons_succ] at hM))
            go_meet
            exact cutP (i := i) h1.out h2.out (by rw [R17.out]; decide) S0.out D0.out _ _ (by first | exact E0.out | rfl) (by first | exact V0.out | rfl) hM
          · have hs' : (st != 0) = true := by simpa using hs
            have h1 : Hid (doR r1 k L = { r1 with err := 18446744073709551610 }) := by show _ = _; unfold doR stateR; rw [R17.out, if_neg (by decide), if_neg (by decide), if_neg (by decide), if_neg (by decide), if_pos rfl, R16.out, if_neg (by decide), if_neg (by decide), R10.out, if_neg ha, if_neg (by decide), if_neg (by rw [hst]; exact hs)]
            have h2 : Hid (doL r1 i k L = L) := by show _ = _; unfold doL stateL; rw [R17.out, if_neg (by decide), if_neg (by decide), if_pos rfl, R16.out, if_neg (by decide), R10.out, if_neg (by rw [hst]; exact fun h => hs h.2.2)]
            clear ha hst hs
            go_wp2_with (first
              | go_skip
              | (refine wpList_cell_vs (gd_none rfl) 3 _ rfl 0 gv k _ hM rfl a 49 _ rfl (by first | rfl | omega) hak (by omega) _ Try.underlying3 rfl (.int .i64 st) (HST.out) ?_)
              | (go_at_call 35; refine (minus6 _).mono ?_; rintro e w' ⟨rfl, rfl⟩))
            go_meet
            exact cutP (i := i) h1.out h2.out (by rw [R17.out]; decide) S0.out D0.out _ _ (by first | exact E0.out | rfl) (by first | exact V0.out | rfl) hM
        by_cases f2 : fn = 2
        · subst f2
          clear f1 f0
          have en : IntKind.u64.wrap (k : Int) = k := by rw [IntKind.wrap_u64]; omega
          by_cases ha : k ≤ a
          · have ha' : decide (k ≤ a) = true := by simpa using ha
            have h1 : Hid (doR r1 k L = { r1 with err := 18446744073709551613 }) := by show _ = _; unfold doR stateR; rw [R17.out, if_neg (by decide), if_neg (by decide), if_neg (by decide), if_neg (by decide), if_pos rfl, R16.out, if_neg (by decide), if_neg (by decide), R10.out, if_pos ha]
            have h2 : Hid (doL r1 i k L = L) := by show _ = _; unfold doL stateL; rw [R17.out, if_neg (by decide), if_neg (by decide), if_pos rfl, R16.out, if_neg (by decide), R10.out, if_neg (by omega)]
            clear ha
            go_wp2_with (first
              | go_skip
              | (go_at_call 35; refine (minus3 _).mono ?_; rintro e w' ⟨rfl, rfl⟩))
            go_meet
            exact cutP (i := i) h1.out h2.out (by rw [R17.out]; decide) S0.out D0.out _ _ (by first | exact E0.out | rfl) (by first | exact V0.out | rfl) hM
          have ha' : decide (k ≤ a) = false := by simp; omega
          have hak : a < k := by omega
          obtain ⟨st, hst⟩ : ∃ s, (L a).i = s := ⟨_, rfl⟩
          have HST : Hid (cellAt (L a) 49 = .int .i64 st) := by show _ = _; rw [← hst]; rfl
          by_cases hs : st = 0
          · subst hs
            have h1 : Hid (doR r1 k L = { r1 with val := 1 }) := by show _ = _; unfold doR stateR; rw [R17.out, if_neg (by decide), if_neg (by decide), if_neg (by decide), if_neg (by decide), if_pos rfl, R16.out, if_neg (by decide), if_neg (by decide), R10.out, if_neg ha, if_pos rfl, if_pos hst]
            have h2 : Hid (doL r1 i k L = L) := by show _ = _; unfold doL stateL; rw [R17.out, if_neg (by decide), if_neg (by decide), if_pos rfl, R16.out, if_neg (by decide), R10.out, if_neg (by omega)]
            clear ha hst
            go_wp2_with (first
              | go_skip
              | (refine wpList_cell_vs (gd_none rfl) 3 _ rfl 0 gv k _ hM rfl a 49 _ rfl (by first | rfl | omega) hak (by omega) _ Try.underlying3 rfl (.int .i64 0) (HST.out) ?_))
            go_meet
            exact cutP (i := i) h1.out h2.out (by rw [R17.out]; decide) S0.out D0.out _ _ (by first | exact E0.out | rfl) (by first | exact V0.out | rfl) hM
          · have hs' : (st == 0) = false := by simpa using hs
            have h1 : Hid (doR r1 k L = r1) := by show _ = _; unfold doR stateR; rw [R17.out, if_neg (by decide), if_neg (by decide), if_neg (by decide), if_neg (by decide), if_pos rfl, R16.out, if_neg (by decide), if_neg (by decide), R10.out, if_neg ha, if_pos rfl, if_neg (by rw [hst]; exact hs)]
            have h2 : Hid (doL r1 i k L = L) := by show _ = _; unfold doL stateL; rw [R17.out, if_neg (by decide), if_neg (by decide), if_pos rfl, R16.out, if_neg (by decide), R10.out, if_neg (by omega)]
            clear ha hst hs
            go_wp2_with (first
              | go_skip
              | (refine wpList_cell_vs (gd_none rfl) 3 _ rfl 0 gv k _ hM rfl a 49 _ rfl (by first | rfl | omega) hak (by omega) _ Try.underlying3 rfl (.int .i64 st) (HST.out) ?_))
            go_meet
            exact cutP (i := i) h1.out h2.out (by rw [R17.out]; decide) S0.out D0.out _ _ (by first | exact E0.out | rfl) (by first | exact V0.out | rfl) hM
        · have f0' : ((fn : Int) == 0) = false := by simp; omega
          have f1' : ((fn : Int) == 1) = false := by simp; omega
          have f2' : ((fn : Int) == 2) = false := by simp; omega
          have h1 : Hid (doR r1 k L = r1.noFn) := by show _ = _; unfold doR stateR; rw [R17.out, if_neg (by decide), if_neg (by decide), if_neg (by decide), if_neg (by decide), if_pos rfl, R16.out, if_neg f1, if_pos ⟨f0, f2⟩]
          have h2 : Hid (doL r1 i k L = L) := by show _ = _; unfold doL stateL; rw [R17.out, if_neg (by decide), if_neg (by decide), if_pos rfl, R16.out, if_neg f1, if_neg (fun h => f0 h.1)]
          clear f0 f1 f2
          go_wp2_with (first
            | go_skip
            | (go_at_call 35; refine (minus2 _).mono ?_; rintro e w' ⟨rfl, rfl⟩))
          go_meet
          exact cutP (i := i) h1.out h2.out (by rw [R17.out]; decide) S0.out D0.out _ _ (by first | exact E0.out | rfl) (by first | exact V0.out | rfl) hM
      case rest =>
        obtain ⟨er, va, M, rfl, rfl, hfin, hb, hdn, hM⟩ := hcut
        obtain ⟨p, hp⟩ : ∃ p, (M i).u 32 = p := ⟨_, rfl⟩
        obtain ⟨p4, hp4⟩ : ∃ p4, (p + 4) % 18446744073709551616 = p4 := ⟨_, rfl⟩
        have ep : IntKind.u64.wrap ((p : Int) + 4) = p4 := by rw [IntKind.wrap_u64]; omega
        have e32 : Hid (cellAt (M i) 32 = .int .u64 (p : Int)) := by show _ = _; rw [← hp]; rfl
        have z32 : Hid (upd (cellAt (M i)) 32 (.int .u64 (p4 : Int)) = cellAt ((M i).setU 32 p4)) := by show _ = _; exact upd_cellU _ _ _ rfl
        have z10 : Hid (upd (cellAt (upd M i ((M i).setU 32 p4) i)) 10 (.int .u64 (er : Int)) = cellAt (((M i).setU 32 p4).setU 10 er)) := by show _ = _; rw [upd_same]; exact upd_cellU _ _ _ rfl
        have z11 : Hid (upd (cellAt (upd M i (((M i).setU 32 p4).setU 10 er) i)) 11 (.int .u64 (va : Int)) = cellAt (fv er va (M i))) := by show _ = _; unfold fv; rw [hp, hp4, upd_same]; exact upd_cellU _ _ _ rfl
        have HFin := Lib.hid hfin
        have HBB := Lib.hid hb
        have HDN := Lib.hid hdn
        clear hp hp4 hfin hb hdn
        go_wp2_with (first
          | go_skip
          | (refine wpList_cell_vs (gd_none rfl) 22 _ rfl 0 gv k _ hM rfl i 32 _ rfl (by first | rfl | omega) hi (by omega) _ Try.underlying22 rfl (.int .u64 (p : Nat)) (e32.out) ?_)
          | (refine wpList_put_vs (gd_none rfl) 22 _ _ rfl 0 gv k _ hM rfl i 32 _ rfl (by first | rfl | omega) hi (by omega) (.int .u64 (p4 : Nat)) rfl Try.info22 ((M i).setU 32 p4) (z32.out) ?_; clear hM; intro wp hwp hM; dsimp only [List.set_cons_zero, List.set_cons_succ] at hM; try simp only [updV_twice] at hM)
          | (refine wpList_put_vs (gd_none rfl) 22 _ _ rfl 0 gv k _ hM rfl i 10 _ rfl (by first | rfl | omega) hi (by omega) (.int .u64 (er : Nat)) rfl Try.info22 (((M i).setU 32 p4).setU 10 er) (z10.out) ?_; clear hM; intro wp hwp hM; dsimp only [List.set_cons_zero, List.set_cons_succ] at hM; try simp only [updV_twice] at hM)
          | (refine wpList_put_vs (gd_none rfl) 22 _ _ rfl 0 gv k _ hM rfl i 11 _ rfl (by first | rfl | omega) hi (by omega) (.int .u64 (va : Nat)) rfl Try.info22 (fv er va (M i)) (z11.out) ?_; clear hM; intro wp hwp hM; dsimp only [List.set_cons_zero, List.set_cons_succ] at hM; try simp only [updV_twice] at hM))
        go_ret3
        rw [HX.out, HL.out, HR1.out, HFin.out, HBB.out, HDN.out]
        exact ⟨_, _, [], rfl, ⟨_, c1, rfl, H2.out, H3.out, (fun h => by cases h), fun _ => ⟨gv, rfl, hgv, hM.ok _ (by simp)⟩⟩, .none, (fun x hx => by cases hx), hM.fr⟩
end Go.Proofs.Ytjiolobkobpohaa
