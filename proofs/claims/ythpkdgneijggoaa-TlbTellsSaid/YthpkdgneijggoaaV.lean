/- TlbTells: the walk. -/
import Derived.Test.YthpkdgneijggoaaQ
import Derived.Test.YthpkdgneijggoaaG
import Derived.Deep.DeepCutAuto
import Derived.Deep.CutBlock
import Derived.Deep.CutRange
namespace Go.Proofs.Ythpkdgneijggoaa
open Go.RowKit


theorem look_mem {L : List Tr} {V G : Int} {u : Tr} (h : look L V G = some u) : u ∈ L ∧ u.vm = V ∧ u.pg = G := by
  unfold look at h
  have h1 := List.mem_of_find?_eq_some h
  have h2 := List.find?_some h
  simp at h2
  exact ⟨h1, h2.1, h2.2⟩
theorem look_of {L : List Tr} {V G : Int} {u : Tr} (hk : NK L) (hm : u ∈ L) (hv : u.vm = V) (hg : u.pg = G) : look L V G = some u := by
  induction L with
  | nil => cases hm
  | cons t L ih =>
    unfold NK at hk
    rw [List.map_cons, List.nodup_cons] at hk
    unfold look
    rw [List.find?_cons]
    by_cases h : (t.vm == V && t.pg == G) = true
    · rw [h]
      rcases List.mem_cons.1 hm with rfl | hm2
      · rfl
      · exfalso
        apply hk.1
        have : key u = key t := by simp at h; simp [key, hv, hg, h.1, h.2]
        rw [← this]
        exact List.mem_map_of_mem hm2
    · rw [Bool.not_eq_true] at h
      rw [h]
      rcases List.mem_cons.1 hm with rfl | hm2
      · simp [hv, hg] at h
      · exact ih hk.2 hm2
/-- What was told of fewer entries was told of all. -/
theorem look_sub {L L' : List Tr} {V G : Int} {u : Tr} (hk : NK L) (hs : ∀ x ∈ L', x ∈ L) (h : look L' V G = some u) : look L V G = some u := by
  obtain ⟨h1, h2, h3⟩ := look_mem h
  exact look_of hk (hs u h1) h2 h3
theorem put_sub {L : List Tr} {room : Int} {t x : Tr} (h : x ∈ put room L t) : x = t ∨ (x ∈ L ∧ key x ≠ key t) := by
  unfold put at h
  dsimp only at h
  rw [List.mem_append] at h
  rcases h with h | h
  · right
    have : x ∈ L.filter fun x => x.vm != t.vm || x.pg != t.pg := by
      split at h
      · exact List.mem_of_mem_drop h
      · exact h
    rw [List.mem_filter] at this
    exact ⟨this.1, (not_key t x).1 this.2⟩
  · left; simpa using h


/-- What Look tells of the page, it tells of what was put last. -/
def Told (V G : Int) (L : List Tr) (there : Bool) (last : Tr) : Prop := ∀ t, look L V G = some t → there = true ∧ t = last

/-- What holds at the head of each round. -/
def InvT (room V G : Int) (w wr : World) (last : Tr) (there : Bool) (L : List Tr) : Prop :=
  TlbAt wr 52 (fun k => k = w.heap.size ∨ (w.heap.size + 2 ≤ k ∧ k < wr.heap.size)) w.heap.size room L ∧ Has wr (w.heap.size + 1) 31 #[.int .i64 last.vm, .int .u64 last.pg, .int .u64 last.fr, .int .i64 last.pm] ∧
    (L.length : Int) ≤ room ∧ NK L ∧ Told V G L there last ∧ Fr (fun _ => False) w wr

theorem look_put_match {L : List Tr} {room V G : Int} {t : Tr} (hv : t.vm = V) (hg : t.pg = G) : Told V G (put room L t) true t := by
  intro u h
  obtain ⟨h1, h2, h3⟩ := look_mem h
  rcases put_sub h1 with rfl | ⟨_, hn⟩
  · exact ⟨rfl, rfl⟩
  · exact absurd (by simp [key, h2, h3, hv, hg]) hn
theorem look_put_other {L : List Tr} {room V G : Int} {t last : Tr} {there : Bool} (hk : NK L) (hno : ¬ (t.vm = V ∧ t.pg = G)) (h0 : Told V G L there last) :
    Told V G (put room L t) there last := by
  intro u h
  obtain ⟨h1, h2, h3⟩ := look_mem h
  rcases put_sub h1 with rfl | ⟨hm, _⟩
  · exact absurd ⟨h2, h3⟩ hno
  · exact h0 u (look_of hk hm h2 h3)
theorem look_less {L L' : List Tr} {V G : Int} {last : Tr} {there there' : Bool} (hk : NK L) (hs : ∀ x ∈ L', x ∈ L) (hb : ∀ x ∈ L', x.vm = V → x.pg = G → there = true → there' = true) (h0 : Told V G L there last) :
    Told V G L' there' last := by
  intro u h
  obtain ⟨h1, h2, h3⟩ := look_mem h
  obtain ⟨h4, h5⟩ := h0 u (look_sub hk hs h)
  exact ⟨hb u h1 h2 h3 h4, h5⟩
theorem evict_sub {L : List Tr} (i : Nat) : ∀ x ∈ L.take i ++ L.drop (i + 1), x ∈ L := by
  intro x hx
  rcases List.mem_append.1 hx with h | h
  · exact List.mem_of_mem_take h
  · exact List.mem_of_mem_drop h

/-- Behind a call that may turn the TLB alone. -/
theorem InvT.step {room V G : Int} {w wr wx w4 : World} {last : Tr} {there' : Bool} {L' : List Tr} (hbr : wr.heap.size < wx.heap.size) (h1 : w.heap.size + 1 < wr.heap.size)
    (ht : TlbAt w4 52 (More (fun k => k = w.heap.size ∨ (w.heap.size + 2 ≤ k ∧ k < wr.heap.size)) wx) w.heap.size room L')
    (hf4 : Fr (fun k => k = w.heap.size ∨ (w.heap.size + 2 ≤ k ∧ k < wr.heap.size)) wx w4) (hfb : Fr (fun _ => False) w wx)
    (hla : Has wx (w.heap.size + 1) 31 #[.int .i64 last.vm, .int .u64 last.pg, .int .u64 last.fr, .int .i64 last.pm])
    (hL : (L'.length : Int) ≤ room) (hk : NK L') (hl : Told V G L' there' last) : InvT room V G w w4 last there' L' := by
  refine ⟨ht.weak (fun k hk h => ?_), hf4.has hla (fun h => by omega), hL, hk, hl, hfb.trans hf4 (fun k hk h => by omega)⟩
  rcases h with (h | h) | h
  · exact .inl h
  · exact .inr ⟨h.1, by omega⟩
  · exact .inr ⟨by omega, hk⟩

/-- Behind a put of the page itself: it is what was put last. -/
theorem InvT.last {room V G : Int} {w wr wx w4 : World} {last t : Tr} {L' : List Tr} (hv : t.vm = V) (hg : t.pg = G) (hbr : wr.heap.size < wx.heap.size) (h1 : w.heap.size + 1 < wr.heap.size)
    (ht : TlbAt w4 52 (More (fun k => k = w.heap.size ∨ (w.heap.size + 2 ≤ k ∧ k < wr.heap.size)) wx) w.heap.size room L')
    (hf4 : Fr (fun k => k = w.heap.size ∨ (w.heap.size + 2 ≤ k ∧ k < wr.heap.size)) wx w4) (hfb : Fr (fun _ => False) w wx)
    (hla : Has wx (w.heap.size + 1) 31 #[.int .i64 last.vm, .int .u64 last.pg, .int .u64 last.fr, .int .i64 last.pm])
    (hL : (L'.length : Int) ≤ room) (hk : NK L') (hl : Told V G L' true t) :
    InvT room V G w ((((w4.setCell ⟨w.heap.size + 1, 0, none⟩ (.int .i64 V)).setCell ⟨w.heap.size + 1, 1, none⟩ (.int .u64 G)).setCell ⟨w.heap.size + 1, 2, none⟩ (.int .u64 t.fr)).setCell ⟨w.heap.size + 1, 3, none⟩ (.int .i64 t.pm)) t true L' := by
  subst hv
  subst hg
  have hla4 := hf4.has hla (fun h => by omega)
  have hs := (((Has.set hla4 0 (.int .i64 t.vm)).set 1 (.int .u64 t.pg)).set 2 (.int .u64 t.fr)).set 3 (.int .i64 t.pm)
  have hq : Fr (fun k => k = w.heap.size + 1) w4 ((((w4.setCell ⟨w.heap.size + 1, 0, none⟩ (.int .i64 t.vm)).setCell ⟨w.heap.size + 1, 1, none⟩ (.int .u64 t.pg)).setCell ⟨w.heap.size + 1, 2, none⟩ (.int .u64 t.fr)).setCell ⟨w.heap.size + 1, 3, none⟩ (.int .i64 t.pm)) :=
    Fr.setCell (S := fun k => k = w.heap.size + 1) (Fr.setCell (S := fun k => k = w.heap.size + 1) (Fr.setCell (S := fun k => k = w.heap.size + 1) (Fr.setCell (S := fun k => k = w.heap.size + 1) (Fr.refl _ w4) (fun _ => rfl) _) (fun _ => rfl) _) (fun _ => rfl) _) (fun _ => rfl) _
  have hb : w.heap.size ≤ wx.heap.size := hfb.size
  have hb4 := hf4.size
  have hbq := hq.size
  have ht2 : TlbAt w4 52 (fun k => k = w.heap.size ∨ (w.heap.size + 2 ≤ k ∧ k < w4.heap.size)) w.heap.size room L' := ht.weak (fun k hk h => by
    rcases h with (h | h) | h
    · exact .inl h
    · exact .inr ⟨h.1, hk⟩
    · exact .inr ⟨by omega, hk⟩)
  refine ⟨(ht2.fr hq (fun k _ h e => by omega)).weak (fun k hk h => ?_), hs, hL, hk, hl, (hfb.trans hf4 (fun k hk h => by omega)).trans hq (fun k hk h => by omega)⟩
  rcases h with h | h
  · exact .inl h
  · exact .inr ⟨h.1, hk⟩

/-- Behind the questions of a round. -/
theorem InvT.fin {room V G : Int} {w wc w7 : World} {last : Tr} {there : Bool} {L : List Tr} (nq : Nat) (ht : TlbAt w7 52 (fun k => k = w.heap.size ∨ (w.heap.size + 2 ≤ k ∧ k < wc.heap.size)) w.heap.size room L)
    (hl : Has w7 (w.heap.size + 1) 31 #[.int .i64 last.vm, .int .u64 last.pg, .int .u64 last.fr, .int .i64 last.pm]) (hf : Fr (fun _ => False) w w7)
    (hL : (L.length : Int) ≤ room) (hk : NK L) (hT : Told V G L there last) : InvT room V G w (w7.drewN nq) last there L := by
  have hq := (Fr.refl (fun _ => False) w7).drewN nq
  exact ⟨(ht.weak (fun k hk h => h.imp id (fun h => ⟨h.1, hk⟩))).fr hq (fun _ _ _ h => h), hq.has hl (fun h => h), hL, hk, hT, hf.drewN nq⟩
theorem nk_pg {L : List Tr} (hk : NK L) {x y : Nat} (hx : x < L.length) (hy : y < L.length) (hne : y < x) (hv : L[x].vm = L[y].vm) : L[x].pg ≠ L[y].pg := by
  intro hp
  unfold NK at hk
  have h := (List.pairwise_iff_getElem.1 hk) y x (by simpa using hy) (by simpa using hx) hne
  apply h
  simp [key, hv, hp]

set_option maxRecDepth 100000 in
set_option maxHeartbeats 16000000 in
theorem tells_yes (S : Nat → Prop) (room : Int) (A : Option Addr) (n c : Nat) (ops : List Sc) (V G : Int) (w : World) (hr : 1 ≤ room ∧ room ≤ 64) (hn : n = ops.length) (hs : n * 48 ≤ 140737488355328) (hrd : Rd w S A (flatS ops)) :
    Calls Try.prog 5 #[.int .i64 room, .slice A n c, .int .i64 V, .int .u64 G] w fun e w' => e = .returned (.bool true) ∧ Fr (fun _ => False) w w' := by
  have HN := Lib.hid hn; clear hn
  have HR := Lib.hid hrd; clear hrd
  have hnil : ∀ (w : World) (b : Nat), (binOp .eql 23 (.pointer (some ⟨b, 0, none⟩)) (.pointer none)).run Try.prog w = .ok (.bool false) w := fun w b => run_eql_ptr_nil w 23 52 _ Try.underlying23
  go_enter Try.func5, Try.ntmps5
  go_wp2_with fail
  refine (new_yes room w hr).mono ?_
  rintro e w1 ⟨rfl, rfl⟩
  have h2 : InvT room V G w ((w.alloc (.cells #[.int .i64 room, .slice none 0 0] 52)).alloc (.cells #[.int .i64 0, .int .u64 0, .int .u64 0, .int .i64 0] 31)) ⟨0, 0, 0, 0⟩ false [] := by
    refine ⟨?_, ?_, by simp; omega, by simp [NK], fun t h => by simp [look] at h, ((Fr.refl _ _).alloc _).alloc _⟩
    · exact (show TlbAt (w.alloc (.cells #[.int .i64 room, .slice none 0 0] 52)) 52 _ w.heap.size room [] from ⟨_, Has.new _ _ _, .inl rfl, Sl.nil _ _ _ _⟩).fr ((Fr.refl (fun _ => False) _).alloc _) (fun _ _ _ h => h)
    · have h := Has.new (w.alloc (.cells #[.int .i64 room, .slice none 0 0] 52)) 31 #[.int .i64 0, .int .u64 0, .int .u64 0, .int .i64 0]
      simpa using h
  have H2 := Lib.hid h2
  clear h2
  go_wp2_with fail
  go_loopw [12, 13] (fun th i wr => ∃ k : Nat, k ≤ n ∧ i = .int .i64 k ∧ ∃ (L : List Tr) (last : Tr) (there : Bool), th = .bool there ∧ InvT room V G w wr last there L) (fun _ i _ => n - (intOf i).toNat)
  case atStart => exact ⟨0, Nat.zero_le _, rfl, [], ⟨0, 0, 0, 0⟩, false, rfl, H2.out⟩
  case round =>
    obtain ⟨k, hk, rfl, L, last, there, rfl, ht, hlast, hL, hnk, hlk, hf⟩ := hrel
    have HT := Lib.hid ht
    have HLA := Lib.hid hlast
    have HK := Lib.hid hnk
    have HLK := Lib.hid hlk
    clear ht hlast hnk hlk
    have hbase := hf.size
    have hl1 := HLA.out.lt
    by_cases hkn : k < n
    · have hko : k < ops.length := by have : n = ops.length := HN.out; omega
      obtain ⟨b, off, hA, hb, _, hc⟩ := HR.out (by intro h; have := flatS_length ops; rw [h] at this; simp at this; omega)
      subst hA
      obtain ⟨d0, d1, d2, d3, d4, d5⟩ := sc_cells hf hb (fun h => h) hc hko
      clear hc
      generalize ops[k] = o at *
      have hfx := (Fr.refl (fun _ => False) wr).alloc (.cells #[.int .i64 o.kind, .int .i64 o.n, .int .i64 o.t.vm, .int .u64 o.t.pg, .int .u64 o.t.fr, .int .i64 o.t.pm] 33)
      have hfb := hf.trans hfx (fun _ _ h => h)
      have HB := Lib.hid (Has.new wr 33 #[.int .i64 o.kind, .int .i64 o.n, .int .i64 o.t.vm, .int .u64 o.t.pg, .int .u64 o.t.fr, .int .i64 o.t.pm])
      have HTB := Lib.hid (HT.out.fr hfx (fun _ _ _ h => h))
      have HLB := Lib.hid (hfx.has HLA.out (fun h => h))
      go_wp2_with fail
      refine (place_any o.kind 6 _ (by omega) (by omega)).mono ?_
      rintro e w3 ⟨rfl, hw3⟩
      subst hw3
      clear d0 d1 d2 d3 d4 d5
      generalize hwx : wr.alloc (.cells #[.int .i64 o.kind, .int .i64 o.n, .int .i64 o.t.vm, .int .u64 o.t.pg, .int .u64 o.t.fr, .int .i64 o.t.pm] 33) = wx at *
      have hbx : w.heap.size ≤ wx.heap.size := hfb.size
      have hbr : wr.heap.size < wx.heap.size := by rw [← hwx]; simp
      clear hwx hfx
      have x0 := HB.out.cell 0
      have x1 := HB.out.cell 1
      have x2 := HB.out.cell 2
      have x3 := HB.out.cell 3
      have x4 := HB.out.cell 4
      have x5 := HB.out.cell 5
      go_upto_block 2 with fail
      go_cut [12] from 41 to 190 (fun th wc => ∃ (L' : List Tr) (last' : Tr) (there' : Bool), th = .bool there' ∧ InvT room V G w wc last' there' L')
      case first =>
        have hbr1 : w.heap.size + 1 < wr.heap.size := hl1
        rcases (show o.kind % 6 = 0 ∨ o.kind % 6 = 1 ∨ o.kind % 6 = 2 ∨ o.kind % 6 = 3 ∨ o.kind % 6 = 4 ∨ o.kind % 6 = 5 by omega) with hkind | hkind | hkind | hkind | hkind | hkind
        · go_wp2_with fail
          refine (put_any _ _ room L o.t wx HTB.out hL hr).mono ?_
          rintro e w4 ⟨rfl, h4, hf4⟩
          have H4 := Lib.hid h4
          have HF4 := Lib.hid hf4
          have HB4 := Lib.hid (hf4.has HB.out (fun h => by omega))
          have HL4 := Lib.hid (hf4.has HLB.out (fun h => by omega))
          clear h4 hf4
          have y0 := HB4.out.cell 0
          have y1 := HB4.out.cell 1
          have y2 := HB4.out.cell 2
          have y3 := HB4.out.cell 3
          have y4 := HB4.out.cell 4
          have y5 := HB4.out.cell 5
          have l0 := HL4.out.cell 0
          have l1 := HL4.out.cell 1
          have l2 := HL4.out.cell 2
          have l3 := HL4.out.cell 3
          have g0 := HL4.out.frozen 0
          have g1 := HL4.out.frozen 1
          have g2 := HL4.out.frozen 2
          have g3 := HL4.out.frozen 3
          by_cases hv : o.t.vm = V
          · by_cases hg : o.t.pg = G
            · go_wp2
              go_meet
              exact ⟨put room L o.t, o.t, true, rfl, InvT.last hv hg hbr hbr1 H4.out HF4.out hfb HLB.out (put_len L room o.t hr.1 hL) (HK.out.put room o.t) (look_put_match hv hg)⟩
            · go_wp2
              go_meet
              exact ⟨put room L o.t, last, there, rfl, InvT.step hbr hbr1 H4.out HF4.out hfb HLB.out (put_len L room o.t hr.1 hL) (HK.out.put room o.t) (look_put_other HK.out (fun h => hg h.2) HLK.out)⟩
          · go_wp2
            go_meet
            exact ⟨put room L o.t, last, there, rfl, InvT.step hbr hbr1 H4.out HF4.out hfb HLB.out (put_len L room o.t hr.1 hL) (HK.out.put room o.t) (look_put_other HK.out (fun h => hv h.1) HLK.out)⟩
        · go_wp2_with fail
          go_meet
          exact ⟨L, last, there, rfl, InvT.step hbr hbr1 (HTB.out.weak (fun _ _ h => .inl h)) (Fr.refl _ _) hfb HLB.out hL HK.out HLK.out⟩
        · by_cases hi : 0 ≤ o.n ∧ o.n < L.length
          · obtain ⟨j, hj⟩ := Int.eq_ofNat_of_zero_le hi.1
            have hjl : j < L.length := by have := hi.2; omega
            have HJ := Lib.hid hj
            clear hj hi
            go_wp2_with fail
            rw [HJ.out]
            refine (evict_yes _ _ room L j wx HTB.out (by omega) hjl).mono ?_
            rintro e w4 ⟨rfl, h4, hf4⟩
            rw [evict_eq HK.out j hjl] at h4
            have H4 := Lib.hid h4
            have HF4 := Lib.hid hf4
            clear h4 hf4
            go_wp2
            go_meet
            exact ⟨_, last, there, rfl, InvT.step hbr hbr1 H4.out HF4.out hfb HLB.out (by simp; omega) (HK.out.evict j) (look_less HK.out (evict_sub j) (fun _ _ _ _ h => h) HLK.out)⟩
          · go_wp2_with fail
            refine (evict_no _ _ room L o.n wx HTB.out hi).mono ?_
            rintro e w4 ⟨rfl, hw4⟩
            subst hw4
            go_wp2
            go_meet
            exact ⟨L, last, there, rfl, InvT.step hbr hbr1 (HTB.out.weak (fun _ _ h => .inl h)) (Fr.refl _ _) hfb HLB.out hL HK.out HLK.out⟩
        · go_wp2_with fail
          refine (flush_any _ _ room L o.t.vm wx HTB.out (by omega)).mono ?_
          rintro e w4 ⟨rfl, h4, hf4⟩
          have H4 := Lib.hid h4
          have HF4 := Lib.hid hf4
          have HB4 := Lib.hid (hf4.has HB.out (fun h => by omega))
          clear h4 hf4
          have y0 := HB4.out.cell 0
          have y1 := HB4.out.cell 1
          have y2 := HB4.out.cell 2
          have y3 := HB4.out.cell 3
          have hlf := List.length_filter_le (fun t => t.vm != o.t.vm) L
          have HS := Lib.hid (show ∀ x ∈ L.filter (fun t => t.vm != o.t.vm), x ∈ L from fun x hx => (List.mem_filter.1 hx).1)
          have HQ := look_less (there' := there && (o.t.vm != V)) HK.out HS.out (fun x hx hv hg ht => by
              have h5 := (List.mem_filter.1 hx).2
              rw [hv] at h5
              rw [ht, Bool.true_and, bne_comm]
              exact h5) HLK.out
          cases there with
          | true =>
            go_wp2
            go_meet
            exact ⟨_, last, o.t.vm != V, rfl, InvT.step hbr hbr1 H4.out HF4.out hfb HLB.out (by omega) (HK.out.filter _) HQ⟩
          | false =>
            go_wp2
            go_meet
            exact ⟨_, last, false, rfl, InvT.step hbr hbr1 H4.out HF4.out hfb HLB.out (by omega) (HK.out.filter _) HQ⟩
        · go_wp2_with fail
          refine (flushPage_any _ _ room L o.t.vm o.t.pg wx HTB.out (by omega)).mono ?_
          rintro e w4 ⟨rfl, h4, hf4⟩
          have H4 := Lib.hid h4
          have HF4 := Lib.hid hf4
          have HB4 := Lib.hid (hf4.has HB.out (fun h => by omega))
          clear h4 hf4
          have y0 := HB4.out.cell 0
          have y1 := HB4.out.cell 1
          have y2 := HB4.out.cell 2
          have y3 := HB4.out.cell 3
          have hlf := List.length_filter_le (fun t => t.vm != o.t.vm || t.pg != o.t.pg) L
          have HS := Lib.hid (show ∀ x ∈ L.filter (fun t => t.vm != o.t.vm || t.pg != o.t.pg), x ∈ L from fun x hx => (List.mem_filter.1 hx).1)
          have HQ := look_less (there' := there && (o.t.vm != V || o.t.pg != G)) HK.out HS.out (fun x hx hv hg ht => by
              have h5 := (List.mem_filter.1 hx).2
              rw [hv, hg] at h5
              rw [ht, Bool.true_and, bne_comm, bne_comm (a := o.t.pg)]
              exact h5) HLK.out
          cases there with
          | true =>
            by_cases hv : o.t.vm = V
            · have HQ1 : Told V G (L.filter fun t => t.vm != o.t.vm || t.pg != o.t.pg) (o.t.pg != G) last := by simpa [hv] using HQ
              go_wp2
              go_meet
              exact ⟨_, last, o.t.pg != G, rfl, InvT.step hbr hbr1 H4.out HF4.out hfb HLB.out (by omega) (HK.out.filter _) HQ1⟩
            · have HQ1 : Told V G (L.filter fun t => t.vm != o.t.vm || t.pg != o.t.pg) true last := by
                have e : (o.t.vm != V) = true := by simp [hv]
                rw [e] at HQ
                exact HQ
              go_wp2
              go_meet
              exact ⟨_, last, true, rfl, InvT.step hbr hbr1 H4.out HF4.out hfb HLB.out (by omega) (HK.out.filter _) HQ1⟩
          | false =>
            go_wp2
            go_meet
            exact ⟨_, last, false, rfl, InvT.step hbr hbr1 H4.out HF4.out hfb HLB.out (by omega) (HK.out.filter _) HQ⟩
        · go_wp2_with fail
          refine (flushAll_any _ _ room L wx HTB.out).mono ?_
          rintro e w4 ⟨rfl, h4, hf4⟩
          have H4 := Lib.hid h4
          have HF4 := Lib.hid hf4
          clear h4 hf4
          go_wp2
          go_meet
          exact ⟨[], last, false, rfl, InvT.step hbr hbr1 (H4.out.weak (fun _ _ h => .inl h)) HF4.out hfb HLB.out (by simp; omega) (by simp [NK]) (fun t h => by simp [look] at h)⟩
      case rest =>
        obtain ⟨L', last', there', rfl, hT, hLa, hLen, hNK, hTold, hfw⟩ := hcut
        obtain ⟨wa, rfl⟩ : ∃ wa : World, wa = wr := ⟨_, rfl⟩
        have hwc : w.heap.size ≤ wc.heap.size := hfw.size
        have HT2 := Lib.hid hT
        have HLA2 := Lib.hid hLa
        have HNK := Lib.hid hNK
        have HTO := Lib.hid hTold
        have HFW := Lib.hid hfw
        clear hT hLa hNK hTold hfw
        go_wp2_with fail
        refine (tlbLook_any _ _ room L' V G _ HT2.out (by omega)).mono ?_
        rintro e w5 ⟨he, hf5⟩
        have hw5 := hf5.size
        have hlw := HLA2.out.lt
        have HL5 := Lib.hid (hf5.has HLA2.out (fun h => h))
        have HT5 := Lib.hid (HT2.out.fr hf5 (fun _ _ _ h => h))
        have HF5 := Lib.hid (HFW.out.trans hf5 (fun _ _ h => h))
        clear hf5
        rcases hlk : look L' V G with _ | t
        · rw [hlk] at he
          have he2 : e = .returned (.tuple #[.agg #[.int .i64 0, .int .u64 0, .int .u64 0, .int .i64 0], .bool false]) := he
          subst he2
          clear he hlk
          go_wp2_with fail
          generalize hw6 : w5.alloc _ = w6
          have hf6 : Fr (fun _ => False) w5 w6 := by rw [← hw6]; exact (Fr.refl _ _).alloc _
          have HL6 := Lib.hid (hf6.has HL5.out (fun h => h))
          have HT6 := Lib.hid (HT5.out.fr hf6 (fun _ _ _ h => h))
          have HF6 := Lib.hid (HF5.out.trans hf6 (fun _ _ h => h))
          clear hw6 hf6
          refine (entries_any _ _ room L' _ HT6.out (by omega)).mono ?_
          rintro e w7 ⟨v7, rfl, hs7, hf7⟩
          obtain ⟨A7, c7, rfl, hr7, _, _⟩ := hs7.form
          have HR7 := Lib.hid hr7
          have HL7 := Lib.hid (hf7.has HL6.out (fun h => h))
          have HT7 := Lib.hid (HT6.out.fr hf7 (fun _ _ _ h => h))
          have HF7 := Lib.hid (HF6.out.trans hf7 (fun _ _ h => h))
          clear hs7 hr7 hf7
          have hw7 := HF7.out.size
          go_wp2
          go_loopw [18] (fun i wr => ∃ x : Nat, x ≤ L'.length ∧ i = .int .i64 x ∧ ∃ nq, wr = w7.drewN nq) (fun i _ => L'.length - (intOf i).toNat)
          case atStart => exact ⟨0, Nat.zero_le _, rfl, 0, rfl⟩
          case round =>
            obtain ⟨x, hx, rfl, nq, rfl⟩ := hrel
            by_cases hxl : x < L'.length
            · go_wp2
              go_loopw [19] (fun j wr => ∃ y : Nat, y ≤ x ∧ j = .int .i64 y ∧ ∃ nq, wr = w7.drewN nq) (fun j _ => x - (intOf j).toNat)
              case atStart => exact ⟨0, Nat.zero_le _, rfl, _, rfl⟩
              case round =>
                obtain ⟨y, hy, rfl, nq2, rfl⟩ := hrel
                by_cases hyx : y < x
                · have hyl : y < L'.length := by omega
                  obtain ⟨b7, o7, hA7, hb7, _, hc7⟩ := HR7.out (by intro h; have := flat_length L'; rw [h] at this; simp at this; omega)
                  subst hA7
                  obtain ⟨d0, d1, d2, d3⟩ := tr_cells (Fr.refl (fun _ => False) w7) hb7 (fun h => h) hc7 hxl
                  obtain ⟨e0, e1, e2, e3⟩ := tr_cells (Fr.refl (fun _ => False) w7) hb7 (fun h => h) hc7 hyl
                  have hpg := nk_pg HNK.out hxl hyl hyx
                  clear hc7
                  generalize L'[x] = s at *
                  generalize L'[y] = r at *
                  by_cases hv : s.vm = r.vm
                  · have hp2 : (s.pg == r.pg) = false := by simpa using hpg hv
                    clear hpg
                    go_wp2_with fail
                    go_quiet (fail)
                    go_wp2
                    go_roundw
                    case rel => exact ⟨y + 1, by omega, by go_num, _, rfl⟩
                    case measure => simp [intOf]; omega
                  · have hv2 : (s.vm == r.vm) = false := by simpa using hv
                    clear hpg hv
                    go_wp2_with fail
                    go_quiet (fail)
                    go_wp2
                    go_roundw
                    case rel => exact ⟨y + 1, by omega, by go_num, _, rfl⟩
                    case measure => simp [intOf]; omega
                · go_wp2
                  go_roundw
                  case rel => exact ⟨x + 1, by omega, by go_num, _, rfl⟩
                  case measure => simp [intOf]; omega
            · go_wp2
              go_roundw
              case rel => exact ⟨k + 1, by omega, by go_num, _, _, _, rfl, InvT.fin nq HT7.out HL7.out HF7.out hLen HNK.out HTO.out⟩
              case measure => simp [intOf]; omega
        · obtain ⟨hth, htl⟩ := HTO.out t hlk
          rw [hlk] at he
          have he2 : e = .returned (.tuple #[.agg #[.int .i64 t.vm, .int .u64 t.pg, .int .u64 t.fr, .int .i64 t.pm], .bool true]) := he
          subst he2
          subst hth
          subst htl
          clear he hlk
          have hf6 := (Fr.refl (fun _ => False) w5).alloc (.cells #[.int .i64 t.vm, .int .u64 t.pg, .int .u64 t.fr, .int .i64 t.pm] 31)
          have HL6 := Lib.hid (hf6.has HL5.out (fun h => h))
          have HT6 := Lib.hid (HT5.out.fr hf6 (fun _ _ _ h => h))
          have HF6 := Lib.hid (HF5.out.trans hf6 (fun _ _ h => h))
          have z0 := HL6.out.cell 0
          have z1 := HL6.out.cell 1
          have z2 := HL6.out.cell 2
          have z3 := HL6.out.cell 3
          go_wp2_with fail
          clear z0 z1 z2 z3
          generalize hw6 : w5.alloc _ = w6 at *
          clear hw6
          refine (entries_any _ _ room L' _ HT6.out (by omega)).mono ?_
          rintro e w7 ⟨v7, rfl, hs7, hf7⟩
          obtain ⟨A7, c7, rfl, hr7, _, _⟩ := hs7.form
          have HR7 := Lib.hid hr7
          have HL7 := Lib.hid (hf7.has HL6.out (fun h => h))
          have HT7 := Lib.hid (HT6.out.fr hf7 (fun _ _ _ h => h))
          have HF7 := Lib.hid (HF6.out.trans hf7 (fun _ _ h => h))
          clear hs7 hr7 hf7
          have hw7 := HF7.out.size
          go_wp2
          go_loopw [18] (fun i wr => ∃ x : Nat, x ≤ L'.length ∧ i = .int .i64 x ∧ ∃ nq, wr = w7.drewN nq) (fun i _ => L'.length - (intOf i).toNat)
          case atStart => exact ⟨0, Nat.zero_le _, rfl, 0, rfl⟩
          case round =>
            obtain ⟨x, hx, rfl, nq, rfl⟩ := hrel
            by_cases hxl : x < L'.length
            · go_wp2
              go_loopw [19] (fun j wr => ∃ y : Nat, y ≤ x ∧ j = .int .i64 y ∧ ∃ nq, wr = w7.drewN nq) (fun j _ => x - (intOf j).toNat)
              case atStart => exact ⟨0, Nat.zero_le _, rfl, _, rfl⟩
              case round =>
                obtain ⟨y, hy, rfl, nq2, rfl⟩ := hrel
                by_cases hyx : y < x
                · have hyl : y < L'.length := by omega
                  obtain ⟨b7, o7, hA7, hb7, _, hc7⟩ := HR7.out (by intro h; have := flat_length L'; rw [h] at this; simp at this; omega)
                  subst hA7
                  obtain ⟨d0, d1, d2, d3⟩ := tr_cells (Fr.refl (fun _ => False) w7) hb7 (fun h => h) hc7 hxl
                  obtain ⟨e0, e1, e2, e3⟩ := tr_cells (Fr.refl (fun _ => False) w7) hb7 (fun h => h) hc7 hyl
                  have hpg := nk_pg HNK.out hxl hyl hyx
                  clear hc7
                  generalize L'[x] = s at *
                  generalize L'[y] = r at *
                  by_cases hv : s.vm = r.vm
                  · have hp2 : (s.pg == r.pg) = false := by simpa using hpg hv
                    clear hpg
                    go_wp2_with fail
                    go_quiet (fail)
                    go_wp2
                    go_roundw
                    case rel => exact ⟨y + 1, by omega, by go_num, _, rfl⟩
                    case measure => simp [intOf]; omega
                  · have hv2 : (s.vm == r.vm) = false := by simpa using hv
                    clear hpg hv
                    go_wp2_with fail
                    go_quiet (fail)
                    go_wp2
                    go_roundw
                    case rel => exact ⟨y + 1, by omega, by go_num, _, rfl⟩
                    case measure => simp [intOf]; omega
                · go_wp2
                  go_roundw
                  case rel => exact ⟨x + 1, by omega, by go_num, _, rfl⟩
                  case measure => simp [intOf]; omega
            · go_wp2
              go_roundw
              case rel => exact ⟨k + 1, by omega, by go_num, _, _, _, rfl, InvT.fin nq HT7.out HL7.out HF7.out hLen HNK.out HTO.out⟩
              case measure => simp [intOf]; omega
    · have hbase2 := hf.size
      go_wp2_with fail
      refine (awake_any _).mono ?_
      rintro e w5 ⟨rfl, hf5⟩
      go_wp2
      go_ret
      exact ⟨rfl, hf.trans hf5 (fun _ _ h => h)⟩

set_option maxRecDepth 100000 in
theorem tells_no (room : Int) (A : Option Addr) (n c : Nat) (V G : Int) (w : World) (hr : ¬ (1 ≤ room ∧ room ≤ 64)) :
    Calls Try.prog 5 #[.int .i64 room, .slice A n c, .int .i64 V, .int .u64 G] w fun e w' => e = .returned (.bool true) ∧ Fr (fun _ => False) w w' := by
  by_cases h1 : room < 1
  · go_enter Try.func5, Try.ntmps5
    go_wp2_with fail
    refine (new_no room w hr).mono ?_
    rintro e w1 ⟨rfl, hw1⟩
    subst hw1
    go_wp2_with fail
    refine (awake_any _).mono ?_
    rintro e w5 ⟨rfl, hf5⟩
    go_wp2
    go_ret
    exact ⟨rfl, hf5⟩
  · have h2 : 64 < room := by omega
    go_enter Try.func5, Try.ntmps5
    go_wp2_with fail
    refine (new_no room w hr).mono ?_
    rintro e w1 ⟨rfl, hw1⟩
    subst hw1
    go_wp2_with fail
    refine (awake_any _).mono ?_
    rintro e w5 ⟨rfl, hf5⟩
    go_wp2
    go_ret
    exact ⟨rfl, hf5⟩

theorem tells_walk (S : Nat → Prop) (room : Int) (A : Option Addr) (n c : Nat) (ops : List Sc) (V G : Int) (w : World) (hn : n = ops.length) (hs : n * 48 ≤ 140737488351232) (hrd : Rd w S A (flatS ops)) :
    Calls Try.prog 5 #[.int .i64 room, .slice A n c, .int .i64 V, .int .u64 G] w fun e w' => e = .returned (.bool true) ∧ Below w.heap.size w w' := by
  by_cases hr : 1 ≤ room ∧ room ≤ 64
  · exact (tells_yes S room A n c ops V G w hr hn (by omega) hrd).mono fun e w' ⟨h, hf⟩ => ⟨h, hf.below (fun _ h => h.elim) (Nat.le_refl _)⟩
  · exact (tells_no room A n c V G w hr).mono fun e w' ⟨h, hf⟩ => ⟨h, hf.below (fun _ h => h.elim) (Nat.le_refl _)⟩

end Go.Proofs.Ythpkdgneijggoaa
