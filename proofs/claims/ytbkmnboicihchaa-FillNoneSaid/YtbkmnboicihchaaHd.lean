/- Axes: ids, each live or dead; the plain facts. -/
import Derived.Test.YtbkmnboicihchaaHa
namespace Go.Proofs.Ytbkmnboicihchaa
set_option linter.unusedSimpArgs false
set_option linter.unusedVariables false

/-- ids, and whether they are live. -/
abbrev IL := List (Ik × Bool)
def IL.ids (L : IL) : List Ik := L.map (·.1)
/-- the live ones. -/
def IL.alive (L : IL) : List Ik := (L.filter (·.2)).map (·.1)
theorem IL.alive_append (L M : IL) : IL.alive (L ++ M) = IL.alive L ++ IL.alive M := by simp [IL.alive]
theorem IL.alive_take_succ {L : IL} {i : Nat} (h : i < L.length) : IL.alive (L.take (i + 1)) = IL.alive (L.take i) ++ if L[i].2 then [L[i].1] else [] := by
  rw [List.take_succ_eq_append_getElem h, IL.alive_append]
  congr 1
  unfold IL.alive
  cases hb : L[i].2 <;> simp [hb]
theorem IL.alive_take_len (L : IL) (i : Nat) : (IL.alive (L.take i)).length ≤ i := by
  unfold IL.alive
  rw [List.length_map]
  exact Nat.le_trans (List.length_filter_le _ _) (by rw [List.length_take]; omega)
theorem IL.alive_len (L : IL) : L.alive.length ≤ L.length := by
  unfold IL.alive
  rw [List.length_map]
  exact List.length_filter_le _ _
theorem IL.alive_mem {L : IL} {x : Ik} : x ∈ L.alive ↔ (x, true) ∈ L := by
  unfold IL.alive
  simp only [List.mem_map, List.mem_filter]
  constructor
  · rintro ⟨⟨y, b⟩, ⟨h1, h2⟩, rfl⟩
    dsimp only at h2
    subst h2
    exact h1
  · exact fun h => ⟨(x, true), ⟨h, rfl⟩, rfl⟩
theorem IL.alive_ids {L : IL} {x : Ik} (h : x ∈ L.alive) : x ∈ L.ids := List.mem_map.2 ⟨_, IL.alive_mem.1 h, rfl⟩
theorem IL.alive_nodup {L : IL} (hn : L.ids.Nodup) : L.alive.Nodup := by
  unfold IL.alive
  have hs : ((L.filter (·.2)).map (·.1)).Sublist (L.map (·.1)) := List.Sublist.map _ List.filter_sublist
  exact hs.nodup hn
theorem IL.place_out {L : IL} {x : Ik} (h : x ∉ L.ids) : placeL L.alive x = none := placeL_none.2 (fun h' => h (IL.alive_ids h'))
theorem IL.ids_inj {L : IL} (hn : L.ids.Nodup) {i j : Nat} (hi : i < L.length) (hj : j < L.length) (h : L[i].1 = L[j].1) : i = j := by
  have h1 : L.ids[i]'(by simpa [IL.ids] using hi) = L.ids[j]'(by simpa [IL.ids] using hj) := by simpa [IL.ids] using h
  exact (List.getElem_inj hn).1 h1
theorem IL.place_dead {L : IL} (hn : L.ids.Nodup) {i : Nat} (hi : i < L.length) (hl : L[i].2 = false) : placeL L.alive L[i].1 = none := by
  refine placeL_none.2 (fun h => ?_)
  obtain ⟨j, hj, e⟩ := List.mem_iff_getElem.1 (IL.alive_mem.1 h)
  have := IL.ids_inj hn hj hi (by rw [e])
  subst this
  rw [e] at hl
  cases hl
theorem IL.place_live {L : IL} (hn : L.ids.Nodup) {i : Nat} (hi : i < L.length) (hl : L[i].2 = true) : placeL L.alive L[i].1 = some (IL.alive (L.take i)).length := by
  have h1 : L.alive = IL.alive (L.take i) ++ L[i].1 :: IL.alive (L.drop (i + 1)) := by
    conv => lhs; rw [← List.take_append_drop (i + 1) L]
    rw [IL.alive_append, IL.alive_take_succ hi, if_pos hl, List.append_assoc]
    rfl
  have hlt : (IL.alive (L.take i)).length < L.alive.length := by rw [h1]; simp
  have := placeL_at (IL.alive_nodup hn) hlt
  have e : L.alive[(IL.alive (L.take i)).length] = L[i].1 := by
    have h2 : L.alive[(IL.alive (L.take i)).length]? = some L[i].1 := by rw [h1]; simp
    rw [List.getElem?_eq_getElem hlt] at h2
    exact Option.some.inj h2
  rwa [e] at this
/-- so many fresh ids. -/
def freshL (n : Nat) : List Ik := (List.range n).map fun i => ⟨0, ((i + 1 : Nat) : Int)⟩
theorem freshL_len (n : Nat) : (freshL n).length = n := by simp [freshL]
theorem freshL_at {n i : Nat} (h : i < n) : (freshL n)[i]'(by rw [freshL_len]; exact h) = ⟨0, ((i + 1 : Nat) : Int)⟩ := by simp [freshL]
theorem freshL_nodup (n : Nat) : (freshL n).Nodup := by
  unfold freshL List.Nodup
  rw [List.pairwise_map]
  refine (List.nodup_range (n := n)).imp (fun {x y} h e => h ?_)
  simp only [Ik.mk.injEq, true_and] at e
  omega
theorem freshL_nz (n : Nat) : ∀ x ∈ freshL n, x.z = false := by
  intro x hx
  obtain ⟨i, -, rfl⟩ := List.mem_map.1 hx
  unfold Ik.z
  simp
  omega
/-- all of a list, live. -/
def allL (l : List Ik) : IL := l.map fun x => (x, true)
theorem allL_ids (l : List Ik) : (allL l).ids = l := by simp [allL, IL.ids, List.map_map, Function.comp_def]
theorem allL_alive (l : List Ik) : (allL l).alive = l := by
  unfold allL IL.alive
  induction l with
  | nil => rfl
  | cons x l ih => simpa using ih
end Go.Proofs.Ytbkmnboicihchaa
