/- Plain facts on lists of entries. -/
import Derived.Test.YthpkdgneijggoaaF
namespace Go.Proofs.Ythpkdgneijggoaa

def key (t : Tr) : Int × Int := (t.vm, t.pg)
def NK (L : List Tr) : Prop := (L.map key).Nodup

theorem NK.filter {L : List Tr} (h : NK L) (p : Tr → Bool) : NK (L.filter p) :=
  h.sublist (List.Sublist.map _ List.filter_sublist)
theorem NK.drop1 {L : List Tr} (h : NK L) (n : Nat) : NK (L.drop n) := h.sublist (List.Sublist.map _ (List.drop_sublist n L))
theorem NK.evict {L : List Tr} (h : NK L) (i : Nat) : NK (L.take i ++ L.drop (i + 1)) := by
  refine List.Nodup.sublist (List.Sublist.map _ ?_) h
  have : L.eraseIdx i = L.take i ++ L.drop (i + 1) := List.eraseIdx_eq_take_drop_succ L i
  rw [← this]; exact List.eraseIdx_sublist L i
theorem not_key (t x : Tr) : (x.vm != t.vm || x.pg != t.pg) = true ↔ key x ≠ key t := by
  obtain ⟨a, b, c, d⟩ := t
  obtain ⟨a', b', c', d'⟩ := x
  simp [key]
  constructor
  · rintro (h | h) h1 h2
    · exact h h1
    · exact h h2
  · intro h
    by_cases h1 : a' = a
    · exact .inr (h h1)
    · exact .inl h1
theorem NK.put {L : List Tr} (h : NK L) (room : Int) (t : Tr) : NK (put room L t) := by
  have hM := h.filter (fun x => x.vm != t.vm || x.pg != t.pg)
  have hk : ∀ x ∈ L.filter (fun x => x.vm != t.vm || x.pg != t.pg), key x ≠ key t := fun x hx => (not_key t x).1 (List.mem_filter.1 hx).2
  have app : ∀ M : List Tr, NK M → (∀ x ∈ M, key x ≠ key t) → NK (M ++ [t]) := by
    intro M h1 h2
    unfold NK at *
    rw [List.map_append, List.nodup_append]
    refine ⟨h1, by simp, ?_⟩
    intro a ha b hb
    obtain ⟨x, hx, rfl⟩ := List.mem_map.1 ha
    simp at hb
    subst hb
    exact h2 x hx
  unfold Ythpkdgneijggoaa.put
  dsimp only
  split
  · exact app _ (hM.drop1 1) (fun x hx => hk x (List.mem_of_mem_drop hx))
  · exact app _ hM hk
theorem put_len (L : List Tr) (room : Int) (t : Tr) (h1 : 1 ≤ room) (h : (L.length : Int) ≤ room) : ((put room L t).length : Int) ≤ room := by
  have hml := List.length_filter_le (fun x => x.vm != t.vm || x.pg != t.pg) L
  unfold put
  dsimp only
  split
  · simp; omega
  · simp at *; omega
theorem evict_eq {L : List Tr} (h : NK L) (i : Nat) (hi : i < L.length) : (L.filter fun t => t.vm != L[i].vm || t.pg != L[i].pg) = L.take i ++ L.drop (i + 1) := by
  have e : L = L.take i ++ L[i] :: L.drop (i + 1) := by rw [← List.drop_eq_getElem_cons hi, List.take_append_drop]
  generalize hx : L[i] = x at *
  unfold NK at h
  rw [e] at h
  rw [List.map_append, List.map_cons, List.nodup_append] at h
  obtain ⟨_, h2, h3⟩ := h
  have h4 := (List.nodup_cons.1 h2).1
  have hp : ∀ t, (t.vm != x.vm || t.pg != x.pg) = true ↔ key t ≠ key x := fun t => not_key x t
  have k1 : (L.take i).filter (fun t => t.vm != x.vm || t.pg != x.pg) = L.take i := List.filter_eq_self.2 fun a ha => (hp a).2 fun hk => h3 (key a) (List.mem_map_of_mem ha) (key x) (by simp) hk
  have k2 : (L.drop (i + 1)).filter (fun t => t.vm != x.vm || t.pg != x.pg) = L.drop (i + 1) := List.filter_eq_self.2 fun a ha => (hp a).2 fun hk => h4 (hk ▸ List.mem_map_of_mem ha)
  have k3 : [x].filter (fun t => t.vm != x.vm || t.pg != x.pg) = [] := by simp
  conv => lhs; rw [e]
  rw [show L.take i ++ x :: L.drop (i + 1) = L.take i ++ ([x] ++ L.drop (i + 1)) from rfl, List.filter_append, List.filter_append, k1, k2, k3]; rfl
theorem flush_eq (L : List Tr) (V : Int) : L.filter (keepB V false 0) = L.filter fun t => t.vm != V := by
  congr 1; funext t; simp [keepB]
theorem flushPage_eq (L : List Tr) (V G : Int) : L.filter (keepB V true G) = L.filter fun t => t.vm != V || t.pg != G := by
  congr 1

end Go.Proofs.Ythpkdgneijggoaa
