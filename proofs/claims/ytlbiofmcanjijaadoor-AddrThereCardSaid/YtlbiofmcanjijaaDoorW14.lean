/- The walks of the reference's part, half, Relative and Absolute. -/
import Derived.Test.YtlbiofmcanjijaaDoorW13
namespace Go.Proofs.YtlbiofmcanjijaaDoor
open Go.RowKit
open Ad

theorem itoa_neg' (n : Int) (h : n < 0) : Lib.itoa n = 45 :: Lib.decDigits (-n).toNat := by
  unfold Lib.itoa; rw [if_pos h, show n.natAbs = (-n).toNat by omega]

set_option maxHeartbeats 1000000 in
theorem part_any (p f : Int) (fx : Bool) (w : World) (h0 : 0 ≤ p) (h1 : p ≤ 9999998) (h2 : 0 ≤ f) (h3 : f ≤ 9999998) :
    Calls Tryd.prog 37 #[.int .i64 p, .bool fx, .int .i64 f] w fun e w' => e = .returned (S (seenL p f fx)) ∧ w = w' := by
  unfold seenL
  cases fx
  · by_cases hpf : p = f
    · subst hpf
      have hb : ((p : Int) == p) = true := by simp
      simp only [if_true, if_false, Bool.false_eq_true]
      go_enter Tryd.func37, Tryd.ntmps37
      go_wp2_with fail
      go_ret
      exact ⟨rfl, rfl⟩
    · have hb : ((p : Int) == f) = false := by simp; omega
      simp only [hpf, if_false, Bool.false_eq_true]
      by_cases hlt : p < f
      · have hi := Lib.hid (show Lib.itoa (p - f) = 45 :: Lib.decDigits (f - p).toNat by rw [itoa_neg' _ (by omega), show -(p - f) = f - p by omega])
        have hl := Lib.itoa_length_le (f - p) (by omega) (by omega)
        rw [itoa_pos _ (by omega)] at hl
        go_enter Tryd.func37, Tryd.ntmps37
        go_wp2_with fail
        refine (numS_any (f - p).toNat (f - p) _ (by omega) (by omega) (by omega)).mono ?_
        rintro e w' ⟨rfl, rfl⟩
        generalize Lib.decDigits (f - p).toNat = l at hi hl ⊢
        go_wp2_with fail
        go_ret
        exact ⟨ret_str (by rw [hi.out]; simp), rfl⟩
      · have hi := Lib.hid (show Lib.itoa (p - f) = Lib.decDigits (p - f).toNat from itoa_pos _ (by omega))
        have hl := Lib.itoa_length_le (p - f) (by omega) (by omega)
        rw [itoa_pos _ (by omega)] at hl
        go_enter Tryd.func37, Tryd.ntmps37
        go_wp2_with fail
        refine (numS_any (p - f).toNat (p - f) _ (by omega) (by omega) (by omega)).mono ?_
        rintro e w' ⟨rfl, rfl⟩
        generalize Lib.decDigits (p - f).toNat = l at hi hl ⊢
        go_wp2_with fail
        go_ret
        exact ⟨ret_str (by rw [hi.out]; simp), rfl⟩
  · simp only [if_true]
    have hi := Lib.hid (show Lib.itoa (p + 1) = Lib.decDigits (p + 1).toNat from itoa_pos _ (by omega))
    go_enter Tryd.func37, Tryd.ntmps37
    go_wp2_with fail
    refine (numS_any (p + 1).toNat (p + 1) _ (by omega) (by omega) (by omega)).mono ?_
    rintro e w' ⟨rfl, rfl⟩
    go_wp2_with fail
    go_ret
    exact ⟨by rw [hi.out]; rfl, rfl⟩

set_option maxHeartbeats 2000000 in
theorem refRelative_any (mr mc : Int) (fr fc : Bool) (r c : Int) (w : World) :
    Calls Tryd.prog 22 #[.agg #[.int .i64 mr, .int .i64 mc, .bool fr, .bool fc], .int .i64 r, .int .i64 c] w fun e w' => e = .returned (S (relL ⟨mr, mc, fr, fc⟩ r c)) ∧ Below w.heap.size w w' := by
  unfold relL
  by_cases g1 : rightB mr mc = true
  · by_cases g2 : rightB r c = true
    · obtain ⟨a1, a2, a3, a4⟩ := right_bd g1
      obtain ⟨c1, c2, c3, c4⟩ := right_bd g2
      simp only [g1, g2, Bool.and_self, if_true]
      go_enter Tryd.func22, Tryd.ntmps22
      go_wp2_with fail
      refine (refRight_any _ _ _ _ _).mono ?_
      rintro e w1 ⟨rfl, hb1⟩
      rw [g1]
      have HB1 := Lib.hid (((Below.refl w.heap.size w).alloc (Nat.le_refl _) _).trans (hb1.mono (by simp)))
      have B1 := Lib.hid ((Blk.new w 35 #[.int .i64 mr, .int .i64 mc, .bool fr, .bool fc]).below hb1 (by simp))
      clear hb1
      go_wp2_with fail
      refine (refRight_any _ _ _ _ _).mono ?_
      rintro e W ⟨rfl, hb2⟩
      rw [g2]
      have hBW := Lib.hid (HB1.out.trans (hb2.mono HB1.out.size))
      have B2 := Lib.hid (B1.out.below hb2 B1.out.lt)
      clear hb2 B1
      obtain ⟨⟨k0, k1, k2, k3⟩, k4⟩ := B2.out.four
      clear k4
      have hgW : w.heap.size < W.heap.size := B2.out.lt
      have l1 := seen_len mr r fr a1 a2 c1 c2
      have l2 := seen_len mc c fc a3 (by omega) c3 (by omega)
      go_upto_region 3 with fail
      have hb0 : Below W.heap.size W W.drew := (Below.refl _ _).drew
      have n1 : ¬ 9223372036854775807 < 1 + (seenL mr r fr).length := by omega
      have n2 : ¬ 9223372036854775807 < 1 + (seenL mr r fr).length + 1 := by omega
      have n3 : ¬ 9223372036854775807 < 1 + (seenL mr r fr).length + 1 + (seenL mc c fc).length := by omega
      go_region_held3 (fun w' => w'.cell? ⟨w.heap.size, 0, none⟩ = some (.int .i64 mr) ∧ w'.cell? ⟨w.heap.size, 1, none⟩ = some (.int .i64 mc) ∧ w'.cell? ⟨w.heap.size, 2, none⟩ = some (.bool fr) ∧ w'.cell? ⟨w.heap.size, 3, none⟩ = some (.bool fc) ∧ Below W.heap.size W w') (first | exact ⟨k0, k1, k2, k3, hb0⟩ | assumption | exact keep4 hgW (by assumption) (by assumption))
        (first | (go_at_call 37; refine (part_any _ _ _ _ (by omega) (by omega) (by omega) (by omega)).mono ?_; rintro e w' ⟨rfl, rfl⟩))
      rename_i hHeld
      have hh := Lib.hid hHeld.2.2.2.2
      clear hHeld
      go_wp2
      go_ret
      exact ⟨ret_str (by simp), hBW.out.trans (hh.out.mono (by omega))⟩
    · have g2' : rightB r c = false := by simpa using g2
      clear g2
      simp only [g1, g2', Bool.and_false, if_false, Bool.false_eq_true]
      go_enter Tryd.func22, Tryd.ntmps22
      go_wp2_with fail
      refine (refRight_any _ _ _ _ _).mono ?_
      rintro e w1 ⟨rfl, hb1⟩
      rw [g1]
      have HB1 := Lib.hid (((Below.refl w.heap.size w).alloc (Nat.le_refl _) _).trans (hb1.mono (by simp)))
      clear hb1
      go_wp2_with fail
      refine (refRight_any _ _ _ _ _).mono ?_
      rintro e W ⟨rfl, hb2⟩
      rw [g2']
      have hBW := Lib.hid (HB1.out.trans (hb2.mono HB1.out.size))
      clear hb2
      go_wp2_with fail
      go_ret
      exact ⟨rfl, hBW.out⟩
  · have g1' : rightB mr mc = false := by simpa using g1
    clear g1
    simp only [g1', Bool.false_and, if_false, Bool.false_eq_true]
    go_enter Tryd.func22, Tryd.ntmps22
    go_wp2_with fail
    refine (refRight_any _ _ _ _ _).mono ?_
    rintro e w1 ⟨rfl, hb1⟩
    rw [g1']
    have HB1 := Lib.hid (((Below.refl w.heap.size w).alloc (Nat.le_refl _) _).trans (hb1.mono (by simp)))
    clear hb1
    go_wp2_with fail
    go_ret
    exact ⟨rfl, HB1.out⟩

/-- what the reference's half tells, held against placeL. -/
def Half (l : List UInt8) (f : Int) (a : Int) (b ok : Bool) : Prop := ok = (placeL l f).2.2 ∧ (ok = true → a = (placeL l f).1 ∧ b = (placeL l f).2.1)

theorem num_is (l : List UInt8) : decide (0 < (num l).getD 0) = (num l).isSome := by
  rcases h : num l with _ | n
  · rfl
  · have := num_bd l n h; simp; omega
theorem half_plain (l : List UInt8) (f : Int) (he : l ≠ []) (h : Lib.hasPrefix l [91] = false) : Half l f ((num l).getD 0 - 1) true (num l).isSome := by
  have e : placeL l f = ((num l).getD 0 - 1, true, (num l).isSome) := by unfold placeL; rw [if_neg he, h]; rfl
  unfold Half; rw [e]; exact ⟨rfl, fun _ => ⟨rfl, rfl⟩⟩
theorem suffix_snoc (r : List UInt8) (x c : UInt8) : Lib.hasSuffix (r ++ [x]) [c] = (x == c) := by
  unfold Lib.hasSuffix
  rw [Bool.eq_iff_iff, List.isSuffixOf_iff_suffix, beq_iff_eq]
  constructor
  · rintro ⟨t, h⟩
    have := congrArg List.getLast? h
    simp at this
    exact this.symm
  · rintro rfl; exact ⟨r, rfl⟩
theorem half_open (t : List UInt8) (f : Int) (h : ∀ r x, t = r ++ [x] → x ≠ 93) : Half (91 :: t) f 0 false false := by
  have hs : Lib.hasSuffix t [93] = false := by
    rcases List.eq_nil_or_concat t with rfl | ⟨r, x, rfl⟩
    · simp [Lib.hasSuffix]
    · rw [List.concat_eq_append, suffix_snoc]; simpa using h r x (List.concat_eq_append ..)
  have e : placeL (91 :: t) f = (0, false, false) := by
    unfold placeL
    rw [if_neg (by simp), if_pos (by simp [Lib.hasPrefix]), show Lib.trimPrefix (91 :: t) [91] = t by simp [Lib.trimPrefix, Lib.hasPrefix], if_neg (by rw [hs]; simp)]
  unfold Half; rw [e]; exact ⟨rfl, fun h => by cases h⟩
theorem place_in (r : List UInt8) (f : Int) : placeL (91 :: (r ++ [93])) f = (f + (if Lib.hasPrefix r [45] then -(num (Lib.trimPrefix r [45])).getD 0 else (num (Lib.trimPrefix r [45])).getD 0), false, (num (Lib.trimPrefix r [45])).isSome) := by
  unfold placeL
  rw [if_neg (by simp), if_pos (by simp [Lib.hasPrefix]), show Lib.trimPrefix (91 :: (r ++ [93])) [91] = r ++ [93] by simp [Lib.trimPrefix, Lib.hasPrefix], if_pos (by rw [suffix_snoc]; rfl)]
  have e : Lib.trimSuffix (r ++ [93]) [93] = r := by unfold Lib.trimSuffix; rw [suffix_snoc]; simp
  simp only [e]
theorem half_empty (f : Int) : Half [91, 93] f 0 false false := by
  have e := place_in [] f
  unfold Half
  rw [show ([91, 93] : List UInt8) = 91 :: ([] ++ [93]) from rfl, e]
  exact ⟨rfl, fun h => by cases h⟩
theorem half_neg (t : List UInt8) (f : Int) : Half (91 :: ((45 :: t) ++ [93])) f (f - (num t).getD 0) false (num t).isSome := by
  have e := place_in (45 :: t) f
  rw [show Lib.hasPrefix (45 :: t) [45] = true by simp [Lib.hasPrefix], show Lib.trimPrefix (45 :: t) [45] = t by simp [Lib.trimPrefix, Lib.hasPrefix]] at e
  unfold Half; rw [e]; exact ⟨rfl, fun _ => ⟨by simp; omega, rfl⟩⟩
theorem half_pos (r : List UInt8) (f : Int) (h : r.head? ≠ some 45) : Half (91 :: (r ++ [93])) f (f + (num r).getD 0) false (num r).isSome := by
  have e := place_in r f
  obtain ⟨p1, p2⟩ := pre_no r 45 h
  rw [p1, p2] at e
  unfold Half; rw [e]; exact ⟨rfl, fun _ => ⟨by simp, rfl⟩⟩

set_option maxRecDepth 100000 in
set_option maxHeartbeats 2000000 in
theorem half_any (s : ByteArray) (f : Int) (w : World) (hs : s.size ≤ 9223372036854775807) (f0 : 0 ≤ f) (f1 : f ≤ 9999998) :
    Calls Tryd.prog 36 #[.string s, .int .i64 f] w fun e w' => ∃ (a : Int) (b ok : Bool), e = .returned (.tuple #[.int .i64 a, .bool b, .bool ok]) ∧ Hid (Half s.data.toList f a b ok) ∧ w = w' := by
  have hl : s.data.toList.length = s.size := by simp
  by_cases he : s.data.toList = []
  · have e1 : s.toList.isEmpty = true := by rw [toList_data, he]; rfl
    have HF := Lib.hid (show Half s.data.toList f f false true by unfold Half; rw [show placeL s.data.toList f = (f, false, true) by unfold placeL; rw [if_pos he]]; exact ⟨rfl, fun _ => ⟨rfl, rfl⟩⟩)
    clear he hl
    go_enter Tryd.func36, Tryd.ntmps36
    go_wp2_with fail
    go_ret3
    exact ⟨f, false, true, rfl, HF, rfl⟩
  have e1 : s.toList.isEmpty = false := by rw [toList_data]; simpa using he
  have h0 : 0 < s.size := by
    rcases Nat.eq_zero_or_pos s.size with h | h
    · exact absurd (List.eq_nil_of_length_eq_zero (by omega)) he
    · exact h
  have hs1 : s.size - 1 < s.size := by omega
  have hpa := pre_at s 91 h0
  cases hP : Pre s 91
  · have HF := Lib.hid (half_plain s.data.toList f he hP)
    have hb : ((s[0].toNat : Int) != 91) = true := by rw [hP] at hpa; simpa [bne] using hpa
    have hp := num_pos s.data.toList
    have hq := Lib.hid (num_is s.data.toList)
    clear hpa hP he hl
    go_enter Tryd.func36, Tryd.ntmps36
    go_wp2_with fail
    refine (count_any _ _ hs).mono ?_
    rintro e w1 ⟨rfl, rfl⟩
    generalize num s.data.toList = o at HF hp hq ⊢
    obtain ⟨p1, p2, -⟩ := hp
    go_wp2_with fail
    go_ret3
    exact ⟨_, true, o.isSome, ret3 rfl rfl (by rw [← hq.out]), HF, rfl⟩
  · have hb : ((s[0].toNat : Int) != 91) = false := by rw [hP] at hpa; simpa [bne] using hpa
    obtain ⟨t, ht⟩ : ∃ t, s.data.toList = 91 :: t := by
      have e := drop_cons s 0 h0
      rw [List.drop_zero] at e
      have h91 : s[0] = 91 := by
        have h1 : s[0].toNat = 91 := by simp [bne] at hb; omega
        exact UInt8.toNat_inj.1 h1
      exact ⟨_, by rw [e, h91]⟩
    have hlast : s.data.toList.getLast? = some (s[s.size - 1]'hs1) := by
      rw [List.getLast?_eq_getElem?, hl, List.getElem?_eq_getElem (by omega)]; rfl
    have hlt : t.length + 1 = s.size := by rw [← hl, ht]; simp
    clear hpa hP he
    by_cases h93 : (s[s.size - 1]'hs1).toNat = 93
    · have hb2 : (((s[s.size - 1]'hs1).toNat : Int) != 93) = false := by simp [bne]; omega
      have hx : (s[s.size - 1]'hs1) = 93 := UInt8.toNat_inj.1 h93
      rw [hx, ht] at hlast
      obtain ⟨r, hr⟩ : ∃ r, t = r ++ [93] := by
        rcases List.eq_nil_or_concat t with rfl | ⟨r, x, rfl⟩
        · simp at hlast
        · refine ⟨r, ?_⟩
          rw [List.concat_eq_append] at hlast ⊢
          have e2 : ((91 :: r) ++ [x]).getLast? = some x := List.getLast?_concat
          have e3 := hlast.symm.trans e2
          injection e3 with e3
          rw [e3]
      subst hr
      clear hlast hx h93
      by_cases h3 : s.size < 3
      · have hr0 : r = [] := by
          rw [List.length_append] at hlt; simp at hlt
          exact List.eq_nil_of_length_eq_zero (by omega)
        subst hr0
        have HF := Lib.hid (show Half s.data.toList f 0 false false by rw [ht]; exact half_empty f)
        clear ht hl hlt
        go_enter Tryd.func36, Tryd.ntmps36
        go_wp2_with fail
        go_ret3
        exact ⟨0, false, false, rfl, HF, rfl⟩
      · have hx2 : (s.extract 1 (s.size - 1)).data.toList = r := by
          rw [Lib.extract_data, ht]
          rw [List.length_append] at hlt; simp at hlt
          simp
          rw [show s.size - 1 - 1 = r.length by omega]; simp
        have HT := Lib.hid ht
        have HX := Lib.hid hx2
        have hsz2 : (s.extract 1 (s.size - 1)).size = s.size - 2 := by simp; omega
        have hlen : r.length = s.size - 2 := by rw [List.length_append] at hlt; simp at hlt; omega
        clear ht hx2 hlt hl
        go_enter Tryd.func36, Tryd.ntmps36
        go_upto_region 9 with fail
        generalize s.extract 1 (s.size - 1) = s2 at HX hsz2 ⊢
        have z0 : 0 < s2.size := by omega
        have hq := pre_at s2 45 z0
        have hle2 : s2.size ≤ 9223372036854775807 := by omega
        cases hP2 : Pre s2 45
        · have hb3 : ((s2[0].toNat : Int) == 45) = false := by rw [← hP2]; exact hq
          have HF := Lib.hid (show Half s.data.toList f (f + (num s2.data.toList).getD 0) false (num s2.data.toList).isSome by
            rw [HT.out, HX.out]; refine half_pos r f ?_
            intro hh
            have h1 := (pre_head s2 45 z0 (by rw [HX.out]; exact hh)).1
            unfold Pre at hP2; rw [h1] at hP2; cases hP2)
          have hp := num_pos s2.data.toList
          have hn := Lib.hid (num_is s2.data.toList)
          have HSZ := Lib.hid hsz2
          have HLEN := Lib.hid hlen
          clear hq hP2 hsz2 hlen
          go_wp2_with fail
          refine (count_any _ _ hle2).mono ?_
          rintro e w1 ⟨rfl, rfl⟩
          generalize num s2.data.toList = o at HF hp hn ⊢
          obtain ⟨p1, p2, -⟩ := hp
          go_wp2_with fail
          go_ret3
          exact ⟨_, false, o.isSome, ret3 rfl rfl (by rw [← hn.out]), HF, rfl⟩
        · have hb3 : ((s2[0].toNat : Int) == 45) = true := by rw [← hP2]; exact hq
          obtain ⟨-, hcz, hct, -⟩ := pre_yes s2 45 hP2
          have HF := Lib.hid (show Half s.data.toList f (f - (num (s2.extract 1 s2.size).data.toList).getD 0) false (num (s2.extract 1 s2.size).data.toList).isSome by
            rw [HT.out, hct, HX.out]
            unfold Pre at hP2
            rw [HX.out] at hP2
            cases r with
            | nil => simp [Lib.hasPrefix] at hP2
            | cons a t' =>
              have ha : a = 45 := by simp [Lib.hasPrefix, List.isPrefixOf] at hP2; exact hP2.symm
              subst ha
              rw [show Lib.trimPrefix (45 :: t') [45] = t' by simp [Lib.trimPrefix, Lib.hasPrefix]]
              exact half_neg t' f)
          have hp := num_pos (s2.extract 1 s2.size).data.toList
          have hn := Lib.hid (num_is (s2.extract 1 s2.size).data.toList)
          have HSZ := Lib.hid hsz2
          have HLEN := Lib.hid hlen
          have HCZ := Lib.hid hcz
          clear hq hP2 hct hsz2 hlen hcz
          go_wp2_with fail
          generalize s2.extract 1 s2.size = s3 at HF hp hn HCZ ⊢
          refine (count_any _ _ (Nat.le_trans HCZ.out hle2)).mono ?_
          rintro e w1 ⟨rfl, rfl⟩
          generalize num s3.data.toList = o at HF hp hn ⊢
          obtain ⟨p1, p2, -⟩ := hp
          generalize o.getD 0 = n at HF p1 p2 hn ⊢
          generalize o.isSome = b at HF hn ⊢

          go_wp2_with fail
          go_ret3
          exact ⟨_, false, b, ret3 rfl rfl (by rw [← hn.out]), HF, rfl⟩
    · have hb2 : (((s[s.size - 1]'hs1).toNat : Int) != 93) = true := by simp [bne]; omega
      have HF := Lib.hid (show Half s.data.toList f 0 false false by
        rw [ht]; refine half_open t f ?_
        rintro r x rfl rfl
        rw [ht] at hlast
        have e2 : ((91 :: r) ++ [93]).getLast? = some (93 : UInt8) := List.getLast?_concat
        have e3 := e2.symm.trans hlast
        injection e3 with e3
        rw [← e3] at h93; exact h93 rfl)
      clear ht hlast hlt hl h93
      go_enter Tryd.func36, Tryd.ntmps36
      go_wp2_with fail
      go_ret3
      exact ⟨0, false, false, rfl, HF, rfl⟩
end Go.Proofs.YtlbiofmcanjijaaDoor
