/- slices.Clone of nodes. -/
import Derived.Test.YtbkmnboicihchaaNd
import Derived.WalkSpells
import Derived.Lib.LazyBuf
namespace Go.Proofs.Ytbkmnboicihchaa
set_option linter.unusedSimpArgs false
set_option linter.unusedVariables false
open Go.RowKit Go.Shelf

theorem KidsAt.row {w : World} {B b : Nat} : ∀ {l : List Tr} {o : Nat}, KidsAt w B b o l → ∃ xs, NRow w B l xs ∧ ∀ j u, xs[j]? = some u → w.cell? ⟨b, o + j, none⟩ = some u
  | [], _, _ => ⟨[], by simp [NRow], fun j u h => by simp at h⟩
  | t :: ts, o, h => by
    simp only [KidsAt] at h
    obtain ⟨hn, hk⟩ := h
    obtain ⟨h1, h2, A, c, h3, h4⟩ := hn.open_
    obtain ⟨ys, h5, h6⟩ := KidsAt.row hk
    refine ⟨(t.d.head ++ [.slice A t.l.length c]) ++ ys, ⟨_, ys, rfl, ⟨A, c, rfl, h2, h4⟩, h5⟩, fun j u hu => ?_⟩
    have hl : (t.d.head ++ [Value.slice A t.l.length c]).length = 22 := rfl
    by_cases hj : j < 22
    · rw [List.getElem?_append_left (by rw [hl]; exact hj)] at hu
      have e : (nodeA t.d A t.l.length c)[j]? = (t.d.head ++ [Value.slice A t.l.length c])[j]? := by simp [nodeA]
      exact (h3 j hj).trans (e.trans hu)
    · rw [List.getElem?_append_right (by rw [hl]; omega), hl] at hu
      have := h6 (j - 22) u hu
      rwa [show o + 22 + (j - 22) = o + j by omega] at this
theorem SlAt.row {w : World} {B : Nat} {A : Option Addr} {c : Nat} {l : List Tr} (h : SlAt w B A c l) : ∃ xs, NRow w B l xs ∧ ((l = [] ∧ xs = []) ∨ ∃ b o, A = some ⟨b, o, none⟩ ∧ ∀ j u, xs[j]? = some u → w.cell? ⟨b, o + j, none⟩ = some u) := by
  rcases h.2.2 with rfl | ⟨b, o, hA, hk⟩
  · exact ⟨[], by simp [NRow], .inl ⟨rfl, rfl⟩⟩
  · obtain ⟨xs, h1, h2⟩ := hk.row
    exact ⟨xs, h1, .inr ⟨b, o, hA, h2⟩⟩
def ClonePost (w : World) (B : Nat) (l : List Tr) (e : Ending) (w' : World) : Prop := ∃ v xs, e = .returned v ∧ w'.ownsRow w.heap.size 44 22 v l.length xs ∧ NRow w B l xs ∧ Below w.heap.size w w'

set_option maxRecDepth 100000 in
theorem clone_c (w : World) (B : Nat) (A : Option Addr) (c : Nat) (l : List Tr) (hs : SlAt w B A c l) (hz : l.length ≤ 1048576) : Calls Try.prog 73 #[.slice A l.length c] w (ClonePost w B l) := by
  obtain ⟨xs, hx1, hx2⟩ := hs.row
  have hlen := hx1.len
  have HX := Lib.hid hx1
  have HLN := Lib.hid hlen
  have h1 := hs.1
  have h2 := hs.2.1
  have HS := Lib.hid hs
  obtain ⟨ti, hti, hz0, hz1, hz2⟩ := info_parts infoN
  clear hx1 hlen hs
  cases A with
  | none =>
    obtain ⟨rfl, rfl⟩ : l = [] ∧ xs = [] := by
      rcases hx2 with h | ⟨b, o, h, _⟩
      · exact h
      · cases h
    clear hx2
    simp only [List.length_nil]
    have e1 := fun w => Lib.run_eql_slice_nil (P := Try.prog) w 42 44 none 0 c 0 0 undNs
    go_enter Try.func73, Try.ntmps73
    go_wp2
    go_ret
    exact ⟨_, [], rfl, ⟨rfl, .inl ⟨rfl, rfl⟩⟩, HX.out, Below.refl _ _⟩
  | some p =>
    obtain ⟨n, hn⟩ : ∃ n, n = l.length := ⟨_, rfl⟩
    rw [← hn] at h1 hz ⊢
    have HN := Lib.hid hn
    have hlx : xs.length = n * 22 := by rw [hn]; exact HLN.out
    have HLX := Lib.hid hlx
    have hp : ∀ j u, xs[j]? = some u → (w.alloc (.cells #[] 44)).cell? (p.add j) = some u := by
      rcases hx2 with ⟨_, rfl⟩ | ⟨b, o, hA, h⟩
      · intro j u hu; simp at hu
      · intro j u hu
        obtain rfl : p = ⟨b, o, none⟩ := Option.some.inj hA
        have e := h j u hu
        have hadd : (⟨b, o, none⟩ : Addr).add j = ⟨b, o + j, none⟩ := by unfold Addr.add; split <;> simp_all
        rw [hadd]
        exact (World.cell?_alloc_some _ _ _ (by rw [e]; rfl)).trans e
    have e1 := fun w => Lib.run_eql_slice_nil (P := Try.prog) w 42 44 (some p) n c 0 0 undNs
    have hp1 := HX.out.one
    have hown : (w.alloc (.cells #[] 44)).ownsRow w.heap.size 44 22 (.slice (some ⟨w.heap.size, 0, none⟩) 0 0) 0 [] := ⟨rfl, .inr ⟨w.heap.size, 0, #[], rfl, Nat.le_refl _, World.alloc_heap_new w _, Nat.le_refl _, Nat.zero_le _, rfl, rfl⟩⟩
    have HOW := Lib.hid hown
    clear hown
    have HP := Lib.hid hp
    have HP1 := Lib.hid hp1
    clear hn hx2 hlx hp hp1
    go_enter Try.func73, Try.ntmps73
    go_wp2_with (at_builtin; refine wpList_append_own _ rfl _ _ 42 rfl w.heap.size 44 ti _ 22 192 undNs hti hz0 hz1 hz2 rfl (by decide) _ 0 [] rfl HOW.out p n c xs rfl HLX.out HP.out HP1.out (by unfold maxLen; omega) (by omega) (by simp) ?_; intro v' w3 hown3 hgrow hnil)
    have HO3 := Lib.hid hown3
    have HG := Lib.hid hgrow
    clear hown3 hgrow hnil
    go_wp2
    go_ret
    refine ⟨v', xs, rfl, ?_, HX.out, ?_⟩
    · have h3 := HO3.out
      rw [Nat.zero_add, List.nil_append] at h3
      rw [← HN.out]; exact h3
    · exact ((Below.refl _ w).alloc (Nat.le_refl _) _).grown HG.out (by simp) (fun k e => by have e2 : (some w.heap.size : Option Nat) = some k := e; have := Option.some.inj e2; omega)
end Go.Proofs.Ytbkmnboicihchaa
