/- What the law's own calls come to: sends, ends, bytes, no calls. -/
import Derived.Test.YtjiolobkobpohaaAC
namespace Go.Proofs.Ytjiolobkobpohaa
open Go.RowKit Go.BigFrame

theorem baseV_u (k j : Nat) (h5 : j ≠ 5) (h32 : j ≠ 32) : (baseV k).u j = 0 := by
  unfold baseV beginL begun
  simp only [V.setU, V.setI, upd, if_neg h5, if_neg h32]
  split
  · simp only [V.withH, V.reset, V.setU, upd, V.zero, if_neg h32]
    (repeat' split) <;> rfl
  · rfl
theorem baseV_5 (k : Nat) : (baseV k).u 5 = k + 100 := rfl
theorem baseV_32 (k : Nat) : (baseV k).u 32 = 2147483648 + 64 * k := rfl
theorem baseV_i (k : Nat) : (baseV k).i = 1 := rfl
theorem wasL_u (i kind fn a b k j : Nat) (h1 : j ≠ 17) (h2 : j ≠ 16) (h3 : j ≠ 10) (h4 : j ≠ 11) : (wasL i kind fn a b k).u j = (baseV k).u j := by
  unfold wasL upd
  split
  · rename_i h
    subst h
    simp only [setC, V.setU, upd, if_neg h1, if_neg h2, if_neg h3, if_neg h4]
  · rfl
theorem wasL_i (i kind fn a b k : Nat) : (wasL i kind fn a b k).i = 1 := by
  unfold wasL upd
  split <;> rfl
theorem wasL_at (i kind fn a b : Nat) : wasL i kind fn a b i = setC (baseV i) kind fn a b := by unfold wasL; rw [upd_same]
theorem callR_x (W : Nat → V) (i j : Nat) (h1 : 1 ≤ j) (h2 : j < 32) : (callR W i).x j = (W i).u j := ord_x (W i) j h1 h2
section
variable (n i kind fn a b : Nat)
theorem was17 : (callR (wasL i kind fn a b) i).x 17 = kind := by rw [callR_x _ _ _ (by omega) (by omega), wasL_at]; rfl
theorem was16 : (callR (wasL i kind fn a b) i).x 16 = fn := by rw [callR_x _ _ _ (by omega) (by omega), wasL_at]; rfl
theorem was10 : (callR (wasL i kind fn a b) i).x 10 = a := by rw [callR_x _ _ _ (by omega) (by omega), wasL_at]; rfl
theorem was11 : (callR (wasL i kind fn a b) i).x 11 = b := by rw [callR_x _ _ _ (by omega) (by omega), wasL_at]; rfl
end
theorem finL_at (r : CR) (i : Nat) (L : Nat → V) (h : r.stays = false) : finL r i L i = finV r (L i) := by unfold finL; rw [h]; simp [upd]
theorem callL_in (W : Nat → V) (n i : Nat) (hi : i < n) : callL W n (i : Int) = finL (doR (callR W i) n (ordW W)) i (doL (callR W i) i n (ordW W)) := by
  unfold callL
  rw [if_pos (by omega), Int.toNat_natCast]
theorem callB_in (W : Nat → V) (n i : Nat) (hi : i < n) : callB W n (i : Int) = doB (callR W i) := by
  unfold callB
  rw [if_pos (by omega), Int.toNat_natCast]
theorem callD_in (W : Nat → V) (n i : Nat) (hi : i < n) : callD W n (i : Int) = (doR (callR W i) n (ordW W)).down := by
  unfold callD
  rw [if_pos (by omega), Int.toNat_natCast]
theorem finV_u (r : CR) (x : V) (j : Nat) (h1 : j ≠ 10) (h2 : j ≠ 11) (h3 : j ≠ 32) : (finV r x).u j = x.u j := by simp only [finV, V.setU, upd, if_neg h1, if_neg h2, if_neg h3]
theorem finV_10 (r : CR) (x : V) : (finV r x).u 10 = r.err := rfl
theorem finV_11 (r : CR) (x : V) : (finV r x).u 11 = r.val := rfl
theorem finV_32 (r : CR) (x : V) : (finV r x).u 32 = (x.u 32 + 4) % 18446744073709551616 := rfl
theorem finV_i (r : CR) (x : V) : (finV r x).i = x.i := rfl
theorem ord_i (x : V) : x.ord.i = x.i := rfl
theorem ord_32 (x : V) : x.ord.u 32 = x.u 32 / 2 * 2 := by simp [V.ord, V.setU, upd]
theorem ord_46 (x : V) (h : x.u 46 = 0) : x.ord.u 46 = 0 := by simp [V.ord, V.setU, upd, h]
theorem poked_u (x : V) (c : Bool) (j : Nat) (h : j ≠ 46) : (x.poked c).u j = x.u j := by unfold V.poked; split <;> simp [V.setU, upd, h]
theorem poked_i (x : V) (c : Bool) : (x.poked c).i = x.i := by unfold V.poked; split <;> rfl
theorem poked_46 (x : V) (c : Bool) (h : x.u 46 = 0) : (x.poked c).u 46 = if c then 2 else 0 := by unfold V.poked; split <;> simp [V.setU, upd, h]

/-- An interrupt that is sent. -/
structure Sent (n i mask first : Nat) (W X : Nat → V) (bs : List Nat) (d : Bool) : Prop where
  s46 : ∀ k, k < n → (X k).u 46 = if pokes k mask first then 2 else 0
  st : ∀ k, k < n → (X k).i = 1
  u5 : ∀ k, k < n → (X k).u 5 = k + 100
  w5 : ∀ k, k < n → (W k).u 5 = k + 100
  e10 : (X i).u 10 = 0
  pc : (X i).u 32 = 2147483648 + 64 * i + 4
  wpc : (W i).u 32 = 2147483648 + 64 * i
  bs : bs = []
  d : d = false
theorem sent_is (n i mask first : Nat) (hi : i < n) (hn : n ≤ 64) : Sent n i mask first (wasL i 7557193 0 mask first) (callL (wasL i 7557193 0 mask first) n (i : Int)) (callB (wasL i 7557193 0 mask first) n (i : Int)) (callD (wasL i 7557193 0 mask first) n (i : Int)) := by
  rw [callL_in _ _ _ hi, callB_in _ _ _ hi, callD_in _ _ _ hi]
  have e17 := was17 i 7557193 0 mask first
  have e16 := was16 i 7557193 0 mask first
  have e10 := was10 i 7557193 0 mask first
  have e11 := was11 i 7557193 0 mask first
  have hR : doR (callR (wasL i 7557193 0 mask first) i) n (ordW (wasL i 7557193 0 mask first)) = callR (wasL i 7557193 0 mask first) i := by
    unfold doR clockR
    rw [e17, e16, if_neg (by decide), if_neg (by decide), if_neg (by decide), if_pos rfl, if_pos rfl]
  have hL : doL (callR (wasL i 7557193 0 mask first) i) i n (ordW (wasL i 7557193 0 mask first)) = stepL (pokeW mask first (ordW (wasL i 7557193 0 mask first))) (ordW (wasL i 7557193 0 mask first)) n := by
    unfold doL pokeL
    rw [e17, e16, e10, e11, if_neg (by decide), if_pos rfl, if_pos rfl]
  rw [hR, hL]
  have hY : ∀ k, k < n → stepL (pokeW mask first (ordW (wasL i 7557193 0 mask first))) (ordW (wasL i 7557193 0 mask first)) n k = ((wasL i 7557193 0 mask first k).ord).poked (pokes k mask first) := fun k hk => stepL_lt _ _ _ _ hk
  have z46 : ∀ k, (wasL i 7557193 0 mask first k).ord.u 46 = 0 := fun k => ord_46 _ (by rw [wasL_u _ _ _ _ _ _ _ (by decide) (by decide) (by decide) (by decide), baseV_u _ _ (by decide) (by decide)])
  have w5 : ∀ k, (wasL i 7557193 0 mask first k).u 5 = k + 100 := fun k => by rw [wasL_u _ _ _ _ _ _ _ (by decide) (by decide) (by decide) (by decide), baseV_5]
  have w32 : ∀ k, (wasL i 7557193 0 mask first k).u 32 = 2147483648 + 64 * k := fun k => by rw [wasL_u _ _ _ _ _ _ _ (by decide) (by decide) (by decide) (by decide), baseV_32]
  have all : ∀ k, k < n → ∃ Z, finL (callR (wasL i 7557193 0 mask first) i) i (stepL (pokeW mask first (ordW (wasL i 7557193 0 mask first))) (ordW (wasL i 7557193 0 mask first)) n) k = Z ∧ (∀ j, j ≠ 10 → j ≠ 11 → j ≠ 32 → Z.u j = (((wasL i 7557193 0 mask first k).ord).poked (pokes k mask first)).u j) ∧ Z.i = (((wasL i 7557193 0 mask first k).ord).poked (pokes k mask first)).i := by
    intro k hk
    by_cases h : k = i
    · subst h
      rw [finL_at _ _ _ rfl, hY k hk]
      exact ⟨_, rfl, fun j h1 h2 h3 => finV_u _ _ _ h1 h2 h3, finV_i _ _⟩
    · rw [finL_ne _ _ _ _ h, hY k hk]
      exact ⟨_, rfl, fun _ _ _ _ => rfl, rfl⟩
  refine ⟨fun k hk => ?_, fun k hk => ?_, fun k hk => ?_, fun k _ => w5 k, ?_, ?_, w32 i, ?_, rfl⟩
  · obtain ⟨Z, hz, h1, _⟩ := all k hk
    rw [hz, h1 46 (by decide) (by decide) (by decide), poked_46 _ _ (z46 k)]
  · obtain ⟨Z, hz, _, h2⟩ := all k hk
    rw [hz, h2, poked_i, ord_i, wasL_i]
  · obtain ⟨Z, hz, h1, _⟩ := all k hk
    rw [hz, h1 5 (by decide) (by decide) (by decide), poked_u _ _ _ (by decide), ord_x _ _ (by decide) (by decide), w5]
  · rw [finL_at _ _ _ rfl]; rfl
  · rw [finL_at _ _ _ rfl, hY i hi, finV_32, poked_u _ _ _ (by decide), ord_32, w32]
    omega
  · unfold doB
    rw [e17, if_neg (by decide)]

/-- The end of all. -/
structure Ended (n : Nat) (X : Nat → V) (bs : List Nat) (d : Bool) : Prop where
  st : ∀ k, k < n → (X k).i = 0
  bs : bs = []
  d : d = true
theorem ended_is (n i a b : Nat) (hi : i < n) : Ended n (callL (wasL i 1397904212 0 a b) n (i : Int)) (callB (wasL i 1397904212 0 a b) n (i : Int)) (callD (wasL i 1397904212 0 a b) n (i : Int)) := by
  rw [callL_in _ _ _ hi, callB_in _ _ _ hi, callD_in _ _ _ hi]
  have e17 := was17 i 1397904212 0 a b
  have e16 := was16 i 1397904212 0 a b
  have hR : doR (callR (wasL i 1397904212 0 a b) i) n (ordW (wasL i 1397904212 0 a b)) = { { callR (wasL i 1397904212 0 a b) i with stays := true } with down := true } := by
    unfold doR endR
    rw [e17, e16, if_neg (by decide), if_neg (by decide), if_neg (by decide), if_neg (by decide), if_neg (by decide), if_pos rfl, if_pos rfl]
  have hL : doL (callR (wasL i 1397904212 0 a b) i) i n (ordW (wasL i 1397904212 0 a b)) = stepL (endW (ordW (wasL i 1397904212 0 a b))) (ordW (wasL i 1397904212 0 a b)) n := by
    unfold doL endL
    rw [e17, e16, if_neg (by decide), if_neg (by decide), if_neg (by decide), if_pos rfl, if_pos rfl]
  rw [hR, hL]
  refine ⟨fun k hk => ?_, ?_, rfl⟩
  · have : finL { { callR (wasL i 1397904212 0 a b) i with stays := true } with down := true } i (stepL (endW (ordW (wasL i 1397904212 0 a b))) (ordW (wasL i 1397904212 0 a b)) n) = stepL (endW (ordW (wasL i 1397904212 0 a b))) (ordW (wasL i 1397904212 0 a b)) n := rfl
    rw [this, stepL_lt _ _ _ _ hk]
    rfl
  · unfold doB
    rw [e17, if_neg (by decide)]
/-- A byte that is put. -/
structure Put (n i a b : Nat) (X : Nat → V) (bs : List Nat) (d : Bool) : Prop where
  e10 : (X i).u 10 = 0
  e11 : (X i).u 11 = b
  bs : bs = [a % 256]
  d : d = false
theorem put_is (n i fn a b : Nat) (hi : i < n) : Put n i a b (callL (wasL i 1 fn a b) n (i : Int)) (callB (wasL i 1 fn a b) n (i : Int)) (callD (wasL i 1 fn a b) n (i : Int)) := by
  rw [callL_in _ _ _ hi, callB_in _ _ _ hi, callD_in _ _ _ hi]
  have e17 := was17 i 1 fn a b
  have e10 := was10 i 1 fn a b
  have e11 := was11 i 1 fn a b
  have hR : doR (callR (wasL i 1 fn a b) i) n (ordW (wasL i 1 fn a b)) = { callR (wasL i 1 fn a b) i with val := b } := by
    unfold doR
    rw [e17, e11, if_neg (by decide), if_neg (by decide), if_pos rfl]
  rw [hR]
  refine ⟨?_, ?_, ?_, rfl⟩
  · rw [finL_at _ _ _ rfl]; rfl
  · rw [finL_at _ _ _ rfl]; rfl
  · unfold doB
    rw [e17, e10, if_pos rfl]
/-- What is no call. -/
structure NoCall (n i : Nat) (W X : Nat → V) (bs : List Nat) (d : Bool) : Prop where
  e10 : (X i).u 10 = 18446744073709551614
  e11 : (X i).u 11 = 0
  pc : (X i).u 32 = 2147483648 + 64 * i + 4
  wpc : (W i).u 32 = 2147483648 + 64 * i
  bs : bs = []
  d : d = false
theorem noCall_is (n i kind fn a b : Nat) (hi : i < n) (hn : n ≤ 64) (h16 : kind ≠ 16) (hc : kind ≠ 1414090053) (h1 : kind ≠ 1) (hp : kind ≠ 7557193) (hs : kind ≠ 4739917) (he : kind ≠ 1397904212) :
    NoCall n i (wasL i kind fn a b) (callL (wasL i kind fn a b) n (i : Int)) (callB (wasL i kind fn a b) n (i : Int)) (callD (wasL i kind fn a b) n (i : Int)) := by
  rw [callL_in _ _ _ hi, callB_in _ _ _ hi, callD_in _ _ _ hi]
  have e17 := was17 i kind fn a b
  have w32 : (wasL i kind fn a b i).u 32 = 2147483648 + 64 * i := by rw [wasL_u _ _ _ _ _ _ _ (by decide) (by decide) (by decide) (by decide), baseV_32]
  have hR : doR (callR (wasL i kind fn a b) i) n (ordW (wasL i kind fn a b)) = (callR (wasL i kind fn a b) i).noFn := by
    unfold doR
    rw [e17, if_neg h16, if_neg hc, if_neg h1, if_neg hp, if_neg hs, if_neg he]
  have hL : doL (callR (wasL i kind fn a b) i) i n (ordW (wasL i kind fn a b)) = ordW (wasL i kind fn a b) := by
    unfold doL
    rw [e17, if_neg hc, if_neg hp, if_neg hs, if_neg he]
  rw [hR, hL]
  refine ⟨?_, ?_, ?_, w32, ?_, rfl⟩
  · rw [finL_at _ _ _ rfl]; rfl
  · rw [finL_at _ _ _ rfl]; rfl
  · rw [finL_at _ _ _ rfl, finV_32]
    show ((wasL i kind fn a b i).ord.u 32 + 4) % _ = _
    rw [ord_32, w32]
    omega
  · unfold doB
    rw [e17, if_neg h1]
end Go.Proofs.Ytjiolobkobpohaa
