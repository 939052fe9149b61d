/- The controller's numbers stay in their bounds; awake. -/
import Derived.Test.YtnjddnmekcjhnaaI
import Derived.Test.YtnjddnmekcjhnaaF
namespace Go.Proofs.Ytnjddnmekcjhnaa
open Go.RowKit

theorem IA.Wf.level {x : IA} (h : x.Wf) {s : Nat} (b : Bool) (hs : s < 32) : (x.level s b).Wf := ⟨setb_lt b h.lev hs, h.pul, h.cl, h.cls, h.lets, h.harts⟩
theorem IA.Wf.pulse {x : IA} (h : x.Wf) {s : Nat} (hs : s < 32) : (x.pulse s).Wf := ⟨h.lev, Nat.or_lt_two_pow (n := 32) h.pul (pow_lt32 hs), h.cl, h.cls, h.lets, h.harts⟩
theorem IA.Wf.wr {x : IA} (h : x.Wf) (off v : Nat) : (x.wr off v).Wf := by
  unfold IA.wr
  split
  · refine ⟨h.lev, h.pul, h.cl, h.cls, fun l hl => ?_, by simpa using h.harts⟩
    rcases List.mem_or_eq_of_mem_set hl with h1 | h1
    · exact h.lets l h1
    · omega
  · split
    · split
      · refine ⟨h.lev, h.pul, by simpa using h.cl, fun c hc => ?_, h.lets, h.harts⟩
        rcases List.mem_or_eq_of_mem_set hc with h1 | h1
        · exact h.cls c h1
        · omega
      · exact h
    · exact h
theorem IA.Wf.aft {x : IA} (h : x.Wf) (off : Nat) : (x.aft off).Wf := by
  unfold IA.aft
  split
  · exact h
  · split
    · exact h
    · split
      · rename_i k hk
        have h1 := IA.place_lt hk
        have h2 := h.harts
        split
        · exact h
        · refine ⟨h.lev, Nat.lt_of_le_of_lt Nat.and_le_left h.pul, by simpa using h.cl, fun c hc => ?_, h.lets, h.harts⟩
          rcases List.mem_or_eq_of_mem_set hc with h3 | h3
          · exact h.cls c h3
          · omega
      · exact h
theorem IA.lets_aft (x : IA) (off : Nat) : (x.aft off).lets = x.lets := by
  unfold IA.aft
  repeat' split
  all_goals rfl
theorem IA.lets_wr (x : IA) (off v : Nat) : (x.wr off v).lets.length = x.lets.length := by
  unfold IA.wr
  repeat' split
  all_goals simp

set_option maxHeartbeats 1600000 in
theorem awake_any (w : World) : Calls Try.prog 15 #[] w fun e w' => e = .returned (.bool true) ∧ Fr (fun _ => False) w w' := by
  go_enter Try.func15, Try.ntmps15
  go_wp2_with fail
  refine (newUart_any w).mono ?_
  rintro e w1 ⟨rfl, hu1, hf1⟩
  have HU1 := Lib.hid hu1
  have HF1 := Lib.hid hf1
  have hs1 := hf1.size
  have hb1 := hu1.weak (S' := fun k => w.heap.size ≤ k ∧ k < w1.heap.size) (fun k hk h => by omega)
  have HB1 := Lib.hid hb1
  clear hu1 hf1 hb1
  go_wp2_with fail
  refine (in_any _ w.heap.size ua0 65 w1 HB1.out ua0_wf).mono ?_
  rintro e w2 ⟨rfl, hu2, hf2⟩
  have hs2 := hf2.size
  have HU2 := Lib.hid (hu2.weak (S' := fun k => w.heap.size ≤ k ∧ k < w2.heap.size) (fun k hk h => by rcases h with h | h <;> omega))
  have HF2 := Lib.hid (HF1.out.trans hf2 (fun k hk h => by omega))
  clear hu2 hf2
  go_wp2_with fail
  refine (newIntc_yes 1 w2 (by omega)).mono ?_
  rintro e w3 ⟨p, hp, rfl, hi3, hf3⟩
  have hs3 := hf3.size
  have HU3 := Lib.hid (HU2.out.fr hf3 (fun _ _ _ h => h))
  have HI3 := Lib.hid hi3
  have HF3 := Lib.hid (HF2.out.trans hf3 (fun _ _ h => h))
  clear hi3 hf3
  go_wp2_with fail
  refine (write_yes _ p (ia0 1) 4096 32 w3 HI3.out (ia0_wf 1 (by omega)) (by omega) (by omega)).mono ?_
  rintro e w4 ⟨he, hi4, hf4⟩
  have he2 : e = .returned (.bool true) := he
  subst he2
  have hs4 := hf4.size
  have HU4 := Lib.hid (HU3.out.fr hf4 (fun k hk h1 h2 => by omega))
  have HI4 := Lib.hid hi4
  have HF4 := Lib.hid (HF3.out.trans hf4 (fun k hk h => by omega))
  clear hi4 hf4 he
  go_wp2_with fail
  refine (level_any _ p ((ia0 1).wr 4096 32) 5 true w4 HI4.out ((ia0_wf 1 (by omega)).wr _ _) (by omega) (by omega)).mono ?_
  rintro e w5 ⟨rfl, hi5, hf5⟩
  have hs5 := hf5.size
  have HU5 := Lib.hid (HU4.out.fr hf5 (fun k hk h1 h2 => by omega))
  have HI5 := Lib.hid hi5
  have HF5 := Lib.hid (HF4.out.trans hf5 (fun k hk h => by omega))
  clear hi5 hf5
  go_wp2_with fail
  refine (read_any _ w.heap.size (ua0.inn 65) 5 w5 HU5.out (ua0_wf.inn 65)).mono ?_
  rintro e w6 ⟨he, hu6, hf6⟩
  have he2 : e = .returned (.int .u8 97) := he
  subst he2
  have hs6 := hf6.size
  have HI6 := Lib.hid (HI5.out.fr hf6 (fun k hk h1 h2 => by omega))
  have HU6 := Lib.hid hu6
  have HF6 := Lib.hid (HF5.out.trans hf6 (fun k hk h => by omega))
  clear hu6 hf6 he
  go_wp2_with fail
  refine (read_any _ w.heap.size ((ua0.inn 65).aft 5) 0 w6 HU6.out ((ua0_wf.inn 65).aft 5)).mono ?_
  rintro e w7 ⟨he, hu7, hf7⟩
  have he2 : e = .returned (.int .u8 65) := he
  subst he2
  have hs7 := hf7.size
  have HI7 := Lib.hid (HI6.out.fr hf7 (fun k hk h1 h2 => by omega))
  have HF7 := Lib.hid (HF6.out.trans hf7 (fun k hk h => by omega))
  clear hu7 hf7 he
  go_wp2_with fail
  refine (pending_any _ p (((ia0 1).wr 4096 32).level 5 true) 0 w7 HI7.out (((ia0_wf 1 (by omega)).wr _ _).level true (by omega))).mono ?_
  rintro e w8 ⟨he, nq, rfl⟩
  have he2 : e = .returned (.bool true) := by rw [he]; exact congrArg (fun b => Ending.returned (.bool b)) (by decide +kernel)
  subst he2
  clear he
  go_wp2_with fail
  go_ret
  exact ⟨rfl, HF7.out.drewN nq⟩
end Go.Proofs.Ytnjddnmekcjhnaa
