/- The walks of strings.Cut at one byte, and of Absolute. -/
import Derived.Test.YtlbiofmcanjijaaDoorW12
import Derived.RegionTactic
namespace Go.Proofs.YtlbiofmcanjijaaDoor
open Go.RowKit
open Ad

theorem index_no (l : List UInt8) (c : UInt8) : Lib.indexByte l c = -1 ↔ hasB l c = false := by
  induction l with
  | nil => simp [Lib.indexByte, hasB]
  | cons b l ih =>
    have hg := Lib.indexByte_ge l c
    unfold hasB at ih ⊢
    simp only [Lib.indexByte, List.contains_cons]
    by_cases h : b == c
    · have : (c == b) = true := by simp at h ⊢; exact h.symm
      simp [h, this]
    · have h2 : (c == b) = false := by simp at h ⊢; exact fun e => h e.symm
      rw [if_neg h, h2]
      simp only [Bool.false_or]
      rw [← ih]
      by_cases h3 : Lib.indexByte l c = -1
      · simp [h3]
      · rw [if_neg (by simpa using h3)]; omega
theorem index_yes (l : List UInt8) (c : UInt8) (h : hasB l c = true) : Lib.indexByte l c = (ahead l c).length ∧ l.take (ahead l c).length = ahead l c ∧ l.drop ((ahead l c).length + 1) = behind l c ∧ (ahead l c).length + 1 ≤ l.length := by
  induction l with
  | nil => simp [hasB] at h
  | cons b l ih =>
    by_cases hb : b = c
    · subst hb
      simp [Lib.indexByte, ahead, behind]
    · have hne : (b == c) = false := by simpa using hb
      have hn2 : (b != c) = true := by simp [hb]
      have h' : hasB l c = true := by
        unfold hasB at h ⊢
        rw [List.contains_cons] at h
        have : (c == b) = false := by simp; exact fun e => hb e.symm
        rw [this] at h; simpa using h
      obtain ⟨i1, i2, i3, i4⟩ := ih h'
      have hi : ¬ Lib.indexByte l c = -1 := by omega
      have e1 : ahead (b :: l) c = b :: ahead l c := by simp [ahead, hn2]
      have e2 : behind (b :: l) c = behind l c := by simp [behind, hn2]
      rw [e1, e2]
      refine ⟨?_, by simp [i2], by simpa using i3, by simp; omega⟩
      simp only [Lib.indexByte, hne, if_false, Bool.false_eq_true]
      rw [if_neg (by simpa using hi), i1]; simp

def CutAt (s : ByteArray) (c : UInt8) (s1 s2 : ByteArray) (b : Bool) : Prop :=
  (b = true ∧ hasB s.data.toList c = true ∧ s1.data.toList = ahead s.data.toList c ∧ s2.data.toList = behind s.data.toList c) ∨ (b = false ∧ hasB s.data.toList c = false)

set_option maxHeartbeats 1000000 in
theorem cutLite (s : ByteArray) (c : UInt8) (w : World) (hs : s.size ≤ 9223372036854775807) :
    Calls Tryd.prog 40 #[.string s, .string ⟨#[c]⟩] w fun e w' => ∃ (s1 s2 : ByteArray) (b : Bool), e = .returned (.tuple #[.string s1, .string s2, .bool b]) ∧ (s1.size ≤ s.size ∧ s2.size ≤ s.size) ∧ Hid (CutAt s c s1 s2 b) ∧ Below w.heap.size w w' := by
  have hl : s.data.toList.length = s.size := by simp
  cases h : hasB s.data.toList c
  · have hi := Lib.hid ((index_no _ _).2 h)
    have HH := Lib.hid (show CutAt s c s ⟨#[]⟩ false from .inr ⟨rfl, h⟩)
    clear h hl
    go_enter Tryd.func40, Tryd.ntmps40
    go_wp2_with fail
    refine (Tryd.stringslite_Index_one _ _ _).mono ?_
    rintro e w' ⟨rfl, rfl⟩
    rw [hi.out]
    go_wp2_with fail
    go_ret3
    exact ⟨s, ⟨#[]⟩, false, rfl, ⟨Nat.le_refl _, Nat.zero_le _⟩, HH, Below.refl _ _⟩
  · obtain ⟨i1, i2, i3, i4⟩ := index_yes _ _ h
    have HI := Lib.hid i1
    generalize hk : (ahead s.data.toList c).length = k at *
    have HH := Lib.hid (show CutAt s c (s.extract 0 k) (s.extract (k + 1) s.size) true from .inl ⟨rfl, h, by rw [Lib.extract_data]; simpa using i2, by rw [Lib.extract_data, List.take_of_length_le (by simp)]; exact i3⟩)
    rw [hl] at i4
    clear h hl i1 i2 i3 hk
    have c1 : (0 : Int) ≤ ↑k := by omega
    have c2 : (↑k : Int) ≤ ↑s.size := by omega
    have c3 : (0 : Int) ≤ ↑k + 1 := by omega
    have c4 : (↑k + 1 : Int) ≤ ↑s.size := by omega
    go_enter Tryd.func40, Tryd.ntmps40
    go_wp2_with fail
    refine (Tryd.stringslite_Index_one _ _ _).mono ?_
    rintro e w' ⟨rfl, rfl⟩
    rw [HI.out]
    go_wp2_with fail
    go_region
    go_wp2
    go_ret3
    exact ⟨_, _, true, rfl, ⟨by simp; omega, by simp⟩, HH, (Below.refl _ _).drew⟩

set_option maxHeartbeats 1000000 in
theorem cutC (s : ByteArray) (c : UInt8) (w : World) (hs : s.size ≤ 9223372036854775807) :
    Calls Tryd.prog 34 #[.string s, .string ⟨#[c]⟩] w fun e w' => ∃ (s1 s2 : ByteArray) (b : Bool), e = .returned (.tuple #[.string s1, .string s2, .bool b]) ∧ (s1.size ≤ s.size ∧ s2.size ≤ s.size) ∧ Hid (CutAt s c s1 s2 b) ∧ Below w.heap.size w w' := by
  go_enter Tryd.func34, Tryd.ntmps34
  go_wp2_with fail
  refine (cutLite _ _ _ hs).mono ?_
  rintro e w' ⟨s1, s2, b, rfl, hz, HH, hb⟩
  go_wp2_with fail
  go_ret3
  exact ⟨s1, s2, b, rfl, hz, HH, hb⟩

def absL (s : List UInt8) (r c : Int) : Option Mk :=
  if Lib.hasPrefix s [82] && hasB (Lib.trimPrefix s [82]) 67 && rightB r c then
    if (placeL (ahead (Lib.trimPrefix s [82]) 67) r).2.2 && (placeL (behind (Lib.trimPrefix s [82]) 67) c).2.2 && rightB (placeL (ahead (Lib.trimPrefix s [82]) 67) r).1 (placeL (behind (Lib.trimPrefix s [82]) 67) c).1 then
      some ⟨(placeL (ahead (Lib.trimPrefix s [82]) 67) r).1, (placeL (behind (Lib.trimPrefix s [82]) 67) c).1, (placeL (ahead (Lib.trimPrefix s [82]) 67) r).2.1, (placeL (behind (Lib.trimPrefix s [82]) 67) c).2.1⟩
    else none
  else none

set_option maxRecDepth 100000 in
set_option maxHeartbeats 2000000 in
theorem absolute_any (s : ByteArray) (r c : Int) (w : World) (hs : s.size ≤ 9223372036854775807) :
    Calls Tryd.prog 20 #[.string s, .int .i64 r, .int .i64 c] w fun e w' => e = mkRet (absL s.data.toList r c) ∧ Below w.heap.size w w' := by
  go_enter Tryd.func20, Tryd.ntmps20
  go_wp2_with fail
  refine (cutP _ _ _).mono ?_
  rintro e w' ⟨s1, b1, rfl, hs1, H1, H2, rfl⟩
  go_wp2_with fail
  refine (cutC _ _ _ (by omega)).mono ?_
  rintro e w1 ⟨s2, s3, b2, rfl, ⟨hs2, hs3⟩, H3, hb1⟩
  have HB1 := Lib.hid (((Below.refl w.heap.size w).alloc (Nat.le_refl _) _).trans (hb1.mono (by simp)))
  have B1 := Lib.hid ((Blk.new w 28 #[.int .i64 0, .int .i64 0, .bool false, .bool false]).below hb1 (by simp))
  clear hb1
  obtain ⟨⟨x0, x1, x2, x3⟩, y0, y1, y2, y3⟩ := B1.out.four
  by_cases hall : (b1 && b2 && rightB r c) = true
  · simp only [Bool.and_eq_true] at hall
    obtain ⟨⟨rfl, rfl⟩, hrc⟩ := hall
    obtain ⟨g1, g2, g3, g4⟩ := right_bd hrc
    obtain ⟨hB, e2, e3⟩ : hasB (Lib.trimPrefix s.data.toList [82]) 67 = true ∧ s2.data.toList = ahead (Lib.trimPrefix s.data.toList [82]) 67 ∧ s3.data.toList = behind (Lib.trimPrefix s.data.toList [82]) 67 := by
      rcases H3.out with ⟨_, h1, h2, h3⟩ | ⟨h, _⟩
      · rw [H1.out] at h1 h2 h3; exact ⟨h1, h2, h3⟩
      · cases h
    have HP := Lib.hid (show Lib.hasPrefix s.data.toList [82] = true from H2.out.symm)
    have HA := Lib.hid (show absL s.data.toList r c = if (placeL s2.data.toList r).2.2 && (placeL s3.data.toList c).2.2 && rightB (placeL s2.data.toList r).1 (placeL s3.data.toList c).1 then
        some ⟨(placeL s2.data.toList r).1, (placeL s3.data.toList c).1, (placeL s2.data.toList r).2.1, (placeL s3.data.toList c).2.1⟩ else none by
      unfold absL; rw [if_pos (by rw [HP.out, hB, hrc]; rfl), e2, e3])
    clear hB e2 e3 H3 HP
    go_wp2_with (go_at_call 23; refine (right_any _ _ _).mono ?_; rintro e w' ⟨rfl, rfl⟩)
    refine (place_any _ _ _ (by omega) g1 g2).mono ?_
    rintro e w2 ⟨rfl, hb2⟩
    have HB2 := Lib.hid ((HB1.out.alloc HB1.out.size _).trans (hb2.mono (by have := HB1.out.size; simp; omega)))
    have B2 := Lib.hid ((B1.out.alloc _).below hb2 (B1.out.alloc _).lt)
    have C2 := Lib.hid ((Blk.new w1 28 #[.int .i64 0, .int .i64 0, .bool false, .bool false]).below hb2 (by simp))
    have hlt1 : w.heap.size < w1.heap.size := B1.out.lt
    clear hb2 B1 x0 x1 x2 x3 y0 y1 y2 y3
    generalize placeL s2.data.toList r = P at HA ⊢
    obtain ⟨pn, pf, po⟩ := P
    simp only at HA ⊢
    obtain ⟨⟨x0, x1, x2, x3⟩, y0, y1, y2, y3⟩ := C2.out.four
    go_wp2_with fail
    refine (place_any _ _ _ (by omega) g3 (by omega)).mono ?_
    rintro e w3 ⟨rfl, hb3⟩
    have B3 := Lib.hid (((B2.out.far (p := ⟨w1.heap.size, 0, none⟩) (by show w.heap.size ≠ w1.heap.size; omega) (.int .i64 pn)).far (p := ⟨w1.heap.size, 2, none⟩) (by show w.heap.size ≠ w1.heap.size; omega) (.bool pf)).below hb3 (((B2.out.far (p := ⟨w1.heap.size, 0, none⟩) (by show w.heap.size ≠ w1.heap.size; omega) (.int .i64 pn)).far (p := ⟨w1.heap.size, 2, none⟩) (by show w.heap.size ≠ w1.heap.size; omega) (.bool pf)).lt))
    have C3 := Lib.hid (((C2.out.set 0 (.int .i64 pn)).set 2 (.bool pf)).below hb3 (((C2.out.set 0 (.int .i64 pn)).set 2 (.bool pf)).lt))
    have HB3 := Lib.hid (((HB2.out.setCell (p := ⟨w1.heap.size, 0, none⟩) (by show w.heap.size ≤ w1.heap.size; omega) (.int .i64 pn)).setCell (p := ⟨w1.heap.size, 2, none⟩) (by show w.heap.size ≤ w1.heap.size; omega) (.bool pf)).trans (hb3.mono (by have := HB2.out.size; simpa [World.setCell] using this)))
    clear hb3 B2 C2 x0 x1 x2 x3 y0 y1 y2 y3
    generalize placeL s3.data.toList c = Q at HA ⊢
    obtain ⟨qn, qf, qo⟩ := Q
    simp only at HA ⊢
    obtain ⟨⟨x0, x1, x2, x3⟩, y0, y1, y2, y3⟩ := Blk.four (a := .int .i64 pn) (b := .int .i64 0) (c := .bool pf) (d := .bool false) C3.out
    obtain ⟨⟨u0, u1, u2, u3⟩, v0, v1, v2, v3⟩ := B3.out.four
    have hne : ¬ w.heap.size = w1.heap.size := by omega
    have hne' : ¬ w1.heap.size = w.heap.size := by omega
    by_cases hok : (po && qo && rightB pn qn) = true
    · have HF := Lib.hid (show absL s.data.toList r c = some ⟨pn, qn, pf, qf⟩ by rw [HA.out, if_pos hok])
      simp only [Bool.and_eq_true] at hok
      obtain ⟨⟨rfl, rfl⟩, hpq⟩ := hok
      go_wp2_with (go_at_call 23; refine (right_any _ _ _).mono ?_; rintro e w' ⟨rfl, rfl⟩)
      refine bodyPost_ret (v := .tuple #[.agg #[.int .i64 pn, .int .i64 qn, .bool pf, .bool qf], .bool true]) (by simp [results, Tryd.results20, go_sem, u0, u1, u2, u3, hne, hne']) rfl ⟨?_, ?_⟩
      · rw [HF.out]; rfl
      · exact (((((HB3.out.setCell (by show w.heap.size ≤ w1.heap.size; omega) _).setCell (by show w.heap.size ≤ w1.heap.size; omega) _).setCell (Nat.le_refl _) _).setCell (Nat.le_refl _) _).setCell (Nat.le_refl _) _).setCell (Nat.le_refl _) _
    · have HF := Lib.hid (show absL s.data.toList r c = none by rw [HA.out, if_neg hok])
      cases po
      · go_wp2_with fail
        refine bodyPost_ret (v := .tuple #[.agg #[.int .i64 0, .int .i64 0, .bool false, .bool false], .bool false]) (by simp [results, Tryd.results20, go_sem, u0, u1, u2, u3, hne, hne']) rfl ⟨?_, ?_⟩
        · rw [HF.out]; rfl
        · exact (((((HB3.out.setCell (by show w.heap.size ≤ w1.heap.size; omega) _).setCell (by show w.heap.size ≤ w1.heap.size; omega) _).setCell (Nat.le_refl _) _).setCell (Nat.le_refl _) _).setCell (Nat.le_refl _) _).setCell (Nat.le_refl _) _
      · cases qo
        · go_wp2_with fail
          refine bodyPost_ret (v := .tuple #[.agg #[.int .i64 0, .int .i64 0, .bool false, .bool false], .bool false]) (by simp [results, Tryd.results20, go_sem, u0, u1, u2, u3, hne, hne']) rfl ⟨?_, ?_⟩
          · rw [HF.out]; rfl
          · exact (((((HB3.out.setCell (by show w.heap.size ≤ w1.heap.size; omega) _).setCell (by show w.heap.size ≤ w1.heap.size; omega) _).setCell (Nat.le_refl _) _).setCell (Nat.le_refl _) _).setCell (Nat.le_refl _) _).setCell (Nat.le_refl _) _
        · have hpq : rightB pn qn = false := by simpa using hok
          clear hok
          go_wp2_with (go_at_call 23; refine (right_any _ _ _).mono ?_; rintro e w' ⟨rfl, rfl⟩)
          refine bodyPost_ret (v := .tuple #[.agg #[.int .i64 0, .int .i64 0, .bool false, .bool false], .bool false]) (by simp [results, Tryd.results20, go_sem, u0, u1, u2, u3, hne, hne']) rfl ⟨?_, ?_⟩
          · rw [HF.out]; rfl
          · exact (((((HB3.out.setCell (by show w.heap.size ≤ w1.heap.size; omega) _).setCell (by show w.heap.size ≤ w1.heap.size; omega) _).setCell (Nat.le_refl _) _).setCell (Nat.le_refl _) _).setCell (Nat.le_refl _) _).setCell (Nat.le_refl _) _
  · have HF := Lib.hid (show absL s.data.toList r c = none by
      unfold absL; rw [if_neg]
      intro h
      apply hall
      simp only [Bool.and_eq_true] at h ⊢
      refine ⟨⟨by rw [H2.out]; exact h.1.1, ?_⟩, h.2⟩
      rcases H3.out with ⟨e, _⟩ | ⟨_, e⟩
      · exact e
      · rw [H1.out] at e; rw [e] at h; cases h.1.2)
    cases b1
    · go_wp2_with fail
      refine bodyPost_ret (v := .tuple #[.agg #[.int .i64 0, .int .i64 0, .bool false, .bool false], .bool false]) (by simp [results, Tryd.results20, go_sem, x0, x1, x2, x3]) rfl ⟨?_, ?_⟩
      · rw [HF.out]; rfl
      · exact (((HB1.out.setCell (Nat.le_refl _) _).setCell (Nat.le_refl _) _).setCell (Nat.le_refl _) _).setCell (Nat.le_refl _) _
    · cases b2
      · go_wp2_with fail
        refine bodyPost_ret (v := .tuple #[.agg #[.int .i64 0, .int .i64 0, .bool false, .bool false], .bool false]) (by simp [results, Tryd.results20, go_sem, x0, x1, x2, x3]) rfl ⟨?_, ?_⟩
        · rw [HF.out]; rfl
        · exact (((HB1.out.setCell (Nat.le_refl _) _).setCell (Nat.le_refl _) _).setCell (Nat.le_refl _) _).setCell (Nat.le_refl _) _
      · have hrc : rightB r c = false := by simpa using hall
        clear hall
        go_wp2_with (go_at_call 23; refine (right_any _ _ _).mono ?_; rintro e w' ⟨rfl, rfl⟩)
        refine bodyPost_ret (v := .tuple #[.agg #[.int .i64 0, .int .i64 0, .bool false, .bool false], .bool false]) (by simp [results, Tryd.results20, go_sem, x0, x1, x2, x3]) rfl ⟨?_, ?_⟩
        · rw [HF.out]; rfl
        · exact (((HB1.out.setCell (Nat.le_refl _) _).setCell (Nat.le_refl _) _).setCell (Nat.le_refl _) _).setCell (Nat.le_refl _) _
end Go.Proofs.YtlbiofmcanjijaaDoor
