/- The walk of the reference's Absolute. -/
import Derived.Test.YtlbiofmcanjijaaDoorW14
namespace Go.Proofs.YtlbiofmcanjijaaDoor
open Go.RowKit
open Ad

def Scan2 (s : ByteArray) (k : Nat) : Prop :=
  ahead (s.data.toList.drop 1) 67 = (s.data.toList.drop 1).take (k - 1) ++ ahead (s.data.toList.drop k) 67 ∧ behind (s.data.toList.drop 1) 67 = behind (s.data.toList.drop k) 67 ∧
  hasB (s.data.toList.drop 1) 67 = hasB (s.data.toList.drop k) 67
theorem scan2_0 (s : ByteArray) : Scan2 s 1 := ⟨by simp, rfl, rfl⟩
theorem scan2_step (s : ByteArray) (k : Nat) (h1 : 1 ≤ k) (h : k < s.size) (hn : s[k] ≠ 67) (hs : Scan2 s k) : Scan2 s (k + 1) := by
  obtain ⟨i1, i2, i3⟩ := hs
  have hl : s.data.toList.length = s.size := by simp
  rw [drop_cons s k h] at i1 i2 i3
  have hne : (s[k] != 67) = true := by simpa using hn
  have e1 : ahead (s[k] :: s.data.toList.drop (k + 1)) 67 = s[k] :: ahead (s.data.toList.drop (k + 1)) 67 := by simp [ahead, hne]
  have e2 : behind (s[k] :: s.data.toList.drop (k + 1)) 67 = behind (s.data.toList.drop (k + 1)) 67 := by simp [behind, hne]
  have e3 : hasB (s[k] :: s.data.toList.drop (k + 1)) 67 = hasB (s.data.toList.drop (k + 1)) 67 := by
    unfold hasB; rw [List.contains_cons]
    have : ((67 : UInt8) == s[k]) = false := by simp; exact fun e => hn e.symm
    rw [this]; rfl
  refine ⟨?_, i2.trans e2, i3.trans e3⟩
  rw [i1, e1, show k + 1 - 1 = (k - 1) + 1 by omega, List.take_succ_eq_append_getElem (by simp; omega)]
  simp only [List.append_assoc, List.singleton_append]
  congr 2
  rw [List.getElem_drop]
  simp only [show 1 + (k - 1) = k by omega]
  rfl
theorem scan2_hit (s : ByteArray) (k : Nat) (h1 : 1 ≤ k) (h : k < s.size) (hn : s[k] = 67) (hs : Scan2 s k) :
    hasB (s.data.toList.drop 1) 67 = true ∧ (s.extract 1 k).data.toList = ahead (s.data.toList.drop 1) 67 ∧ (s.extract (k + 1) s.size).data.toList = behind (s.data.toList.drop 1) 67 := by
  obtain ⟨i1, i2, i3⟩ := hs
  rw [drop_cons s k h, hn] at i1 i2 i3
  refine ⟨i3.trans (by simp [hasB]), ?_, ?_⟩
  · rw [i1, Lib.extract_data]; simp [ahead]
  · rw [i2, Lib.extract_data, List.take_of_length_le (by simp)]; simp [behind]
theorem scan2_end (s : ByteArray) (k : Nat) (h : ¬ k < s.size) (hs : Scan2 s k) : hasB (s.data.toList.drop 1) 67 = false := by
  rw [hs.2.2, drop_end s k h]; rfl
theorem pre_rest (s : ByteArray) (h : Pre s 82 = true) : Lib.hasPrefix s.data.toList [82] = true ∧ Lib.trimPrefix s.data.toList [82] = s.data.toList.drop 1 := by
  refine ⟨h, ?_⟩
  obtain ⟨h0, _, hh, _⟩ := pre_yes s 82 h
  rw [← hh, Lib.extract_data, List.take_of_length_le (by simp)]
theorem abs_no1 (l : List UInt8) (r c : Int) (h : rightB r c = false) : absL l r c = none := by unfold absL; rw [h]; simp
theorem abs_no2 (l : List UInt8) (r c : Int) (h : Lib.hasPrefix l [82] = false) : absL l r c = none := by unfold absL; rw [h]; simp
theorem abs_no3 (l : List UInt8) (r c : Int) (h : hasB (Lib.trimPrefix l [82]) 67 = false) : absL l r c = none := by unfold absL; rw [h]; simp

set_option maxRecDepth 100000 in
set_option maxHeartbeats 2000000 in
theorem refAbsolute_any (s : ByteArray) (r c : Int) (w : World) (hs : s.size ≤ 9223372036854775807) :
    Calls Tryd.prog 21 #[.string s, .int .i64 r, .int .i64 c] w fun e w' => e = mkRet (absL s.data.toList r c) ∧ Below w.heap.size w w' := by
  have hl : s.data.toList.length = s.size := by simp
  go_enter Tryd.func21, Tryd.ntmps21
  go_wp2_with fail
  refine (refRight_any _ _ _ _ _).mono ?_
  rintro e w1 ⟨rfl, hb1⟩
  have HB1 := Lib.hid (((Below.refl w.heap.size w).alloc (Nat.le_refl _) _).trans (hb1.mono (by simp)))
  have B1 := Lib.hid ((Blk.new w 35 #[.int .i64 0, .int .i64 0, .bool false, .bool false]).below hb1 (by simp))
  clear hb1
  obtain ⟨⟨x0, x1, x2, x3⟩, y0, y1, y2, y3⟩ := B1.out.four
  cases hrc : rightB r c
  · have HF := Lib.hid (abs_no1 s.data.toList r c hrc)
    clear hrc hl
    go_wp2_with fail
    refine bodyPost_ret (v := .tuple #[.agg #[.int .i64 0, .int .i64 0, .bool false, .bool false], .bool false]) (by simp [results, Tryd.results21, go_sem, x0, x1, x2, x3]) rfl ⟨?_, ?_⟩
    · rw [HF.out]; rfl
    · exact (((HB1.out.setCell (Nat.le_refl _) _).setCell (Nat.le_refl _) _).setCell (Nat.le_refl _) _).setCell (Nat.le_refl _) _
  obtain ⟨g1, g2, g3, g4⟩ := right_bd hrc
  have HRC := Lib.hid hrc
  clear hrc
  by_cases h2 : s.size < 2
  · have HF := Lib.hid (show absL s.data.toList r c = none by
      cases hP : Pre s 82
      · exact abs_no2 _ _ _ hP
      · refine abs_no3 _ _ _ ?_
        rw [(pre_rest s hP).2, List.drop_eq_nil_of_le (by omega)]; rfl)
    clear hl
    go_wp2_with fail
    refine bodyPost_ret (v := .tuple #[.agg #[.int .i64 0, .int .i64 0, .bool false, .bool false], .bool false]) (by simp [results, Tryd.results21, go_sem, x0, x1, x2, x3]) rfl ⟨?_, ?_⟩
    · rw [HF.out]; rfl
    · exact (((HB1.out.setCell (Nat.le_refl _) _).setCell (Nat.le_refl _) _).setCell (Nat.le_refl _) _).setCell (Nat.le_refl _) _
  have h0 : 0 < s.size := by omega
  have d2 : decide ((s.size : Int) < 2) = false := by simp; omega
  have d2' : decide (s.size < 2) = false := decide_eq_false h2
  have hpa := pre_at s 82 h0
  clear hl
  cases hP : Pre s 82
  · have HF := Lib.hid (abs_no2 s.data.toList r c hP)
    have hb : ((s[0].toNat : Int) != 82) = true := by rw [hP] at hpa; simpa [bne] using hpa
    clear hP hpa
    go_wp2_with fail
    refine bodyPost_ret (v := .tuple #[.agg #[.int .i64 0, .int .i64 0, .bool false, .bool false], .bool false]) (by simp [results, Tryd.results21, go_sem, x0, x1, x2, x3]) rfl ⟨?_, ?_⟩
    · rw [HF.out]; rfl
    · exact (((HB1.out.setCell (Nat.le_refl _) _).setCell (Nat.le_refl _) _).setCell (Nat.le_refl _) _).setCell (Nat.le_refl _) _
  have hb : ((s[0].toNat : Int) != 82) = false := by rw [hP] at hpa; simpa [bne] using hpa
  have HPR := Lib.hid (pre_rest s hP)
  clear hP hpa
  go_wp2_with fail
  go_loop [8] (fun i => ∃ k : Nat, 1 ≤ k ∧ k ≤ s.size ∧ i = .int .i64 k ∧ Hid (Scan2 s k)) (fun i => s.size - (intOf i).toNat)
  case atStart => exact ⟨1, by omega, by omega, rfl, scan2_0 s⟩
  case round =>
    obtain ⟨k, hk1, hk, rfl, hsc⟩ := hrel
    by_cases hlt : k < s.size
    · by_cases h67 : s[k] = 67
      · have hhit := Lib.hid (scan2_hit s k hk1 hlt h67 hsc.out)
        have hbb : ((s[k].toNat : Int) != 67) = false := by rw [h67]; rfl
        have hkk : ((k : Int) == (s.size : Int)) = false := by simp; omega
        clear h67 hsc
        have hz1 : (s.extract 1 k).size ≤ 9223372036854775807 := by simp; omega
        have hz2 : (s.extract (k + 1) s.size).size ≤ 9223372036854775807 := by simp; omega
        have HZ1 := Lib.hid hz1
        have HZ2 := Lib.hid hz2
        clear hz1 hz2
        go_wp2_with fail
        refine (half_any _ _ _ HZ1.out g1 g2).mono ?_
        rintro e w2 ⟨pn, pf, po, rfl, HP, rfl⟩
        go_wp2_with fail
        refine (half_any _ _ _ HZ2.out g3 (by omega)).mono ?_
        rintro e w3 ⟨qn, qf, qo, rfl, HQ, rfl⟩
        have HA := Lib.hid (show absL s.data.toList r c = if po && qo && rightB pn qn then some ⟨pn, qn, pf, qf⟩ else none by
          obtain ⟨c1, c2, c3⟩ := hhit.out
          obtain ⟨p1, p2⟩ := HP.out
          obtain ⟨q1, q2⟩ := HQ.out
          unfold absL
          rw [if_pos (by rw [HPR.out.1, HPR.out.2, c1, HRC.out]; rfl), HPR.out.2, ← c2, ← c3, ← p1, ← q1]
          cases po
          · rfl
          · cases qo
            · rfl
            · rw [← (p2 rfl).1, ← (p2 rfl).2, ← (q2 rfl).1, ← (q2 rfl).2])
        clear HP HQ hhit
        have hlt1 : w.heap.size < w1.heap.size := B1.out.lt
        by_cases hok : (po && qo && rightB pn qn) = true
        · have HF := Lib.hid (show absL s.data.toList r c = some ⟨pn, qn, pf, qf⟩ by rw [HA.out, if_pos hok])
          simp only [Bool.and_eq_true] at hok
          obtain ⟨⟨rfl, rfl⟩, hpq⟩ := hok
          go_wp2_with fail
          refine (refRight_any _ _ _ _ _).mono ?_
          rintro e w4 ⟨rfl, hb4⟩
          rw [hpq]
          have B4 := Lib.hid ((B1.out.alloc _).below hb4 (B1.out.alloc _).lt)
          have C4 := Lib.hid ((Blk.new w1 35 #[.int .i64 pn, .int .i64 qn, .bool pf, .bool qf]).below hb4 (by simp))
          have HB4 := Lib.hid ((HB1.out.alloc HB1.out.size _).trans (hb4.mono (by have := HB1.out.size; simp; omega)))
          clear hb4 x0 x1 x2 x3 y0 y1 y2 y3
          obtain ⟨⟨x0, x1, x2, x3⟩, y0, y1, y2, y3⟩ := C4.out.four
          obtain ⟨⟨u0, u1, u2, u3⟩, v0, v1, v2, v3⟩ := B4.out.four
          go_wp2_with fail
          refine bodyPost_ret (v := .tuple #[.agg #[.int .i64 pn, .int .i64 qn, .bool pf, .bool qf], .bool true]) (by simp [results, Tryd.results21, go_sem, u0, u1, u2, u3]) rfl ⟨?_, ?_⟩
          · rw [HF.out]; rfl
          · exact (((HB4.out.setCell (Nat.le_refl _) _).setCell (Nat.le_refl _) _).setCell (Nat.le_refl _) _).setCell (Nat.le_refl _) _
        · have HF := Lib.hid (show absL s.data.toList r c = none by rw [HA.out, if_neg hok])
          cases po
          · go_wp2_with fail
            refine bodyPost_ret (v := .tuple #[.agg #[.int .i64 0, .int .i64 0, .bool false, .bool false], .bool false]) (by simp [results, Tryd.results21, go_sem, x0, x1, x2, x3, hlt1]) rfl ⟨?_, ?_⟩
            · rw [HF.out]; rfl
            · exact ((((HB1.out.setCell (Nat.le_refl _) _).setCell (Nat.le_refl _) _).setCell (Nat.le_refl _) _).setCell (Nat.le_refl _) _).alloc (by have := HB1.out.size; simpa [World.setCell] using this) _
          · cases qo
            · go_wp2_with fail
              refine bodyPost_ret (v := .tuple #[.agg #[.int .i64 0, .int .i64 0, .bool false, .bool false], .bool false]) (by simp [results, Tryd.results21, go_sem, x0, x1, x2, x3, hlt1]) rfl ⟨?_, ?_⟩
              · rw [HF.out]; rfl
              · exact ((((HB1.out.setCell (Nat.le_refl _) _).setCell (Nat.le_refl _) _).setCell (Nat.le_refl _) _).setCell (Nat.le_refl _) _).alloc (by have := HB1.out.size; simpa [World.setCell] using this) _
            · have hpq : rightB pn qn = false := by simpa using hok
              clear hok
              go_wp2_with fail
              refine (refRight_any _ _ _ _ _).mono ?_
              rintro e w4 ⟨rfl, hb4⟩
              rw [hpq]
              have B4 := Lib.hid ((B1.out.alloc _).below hb4 (B1.out.alloc _).lt)
              have HB4 := Lib.hid ((HB1.out.alloc HB1.out.size _).trans (hb4.mono (by have := HB1.out.size; simp; omega)))
              clear hb4 x0 x1 x2 x3 y0 y1 y2 y3
              obtain ⟨⟨u0, u1, u2, u3⟩, v0, v1, v2, v3⟩ := B4.out.four
              go_wp2_with fail
              refine bodyPost_ret (v := .tuple #[.agg #[.int .i64 0, .int .i64 0, .bool false, .bool false], .bool false]) (by simp [results, Tryd.results21, go_sem, u0, u1, u2, u3]) rfl ⟨?_, ?_⟩
              · rw [HF.out]; rfl
              · exact (((HB4.out.setCell (Nat.le_refl _) _).setCell (Nat.le_refl _) _).setCell (Nat.le_refl _) _).setCell (Nat.le_refl _) _
      · have hst := Lib.hid (scan2_step s k hk1 hlt h67 hsc.out)
        have hbb : ((s[k].toNat : Int) != 67) = true := by
          have h2 : s[k].toNat ≠ 67 := fun e => h67 (UInt8.toNat_inj.1 e)
          simp [bne]; omega
        clear h67 hsc
        go_wp2_with fail
        go_round
        case rel => exact ⟨k + 1, by omega, by omega, by go_num, hst⟩
        case measure => simp [intOf]; omega
    · have HF := Lib.hid (show absL s.data.toList r c = none from abs_no3 _ _ _ (by rw [HPR.out.2]; exact scan2_end s k hlt hsc.out))
      have hkk : ((k : Int) == (s.size : Int)) = true := by simp; omega
      clear hsc
      go_wp2_with fail
      refine bodyPost_ret (v := .tuple #[.agg #[.int .i64 0, .int .i64 0, .bool false, .bool false], .bool false]) (by simp [results, Tryd.results21, go_sem, x0, x1, x2, x3]) rfl ⟨?_, ?_⟩
      · rw [HF.out]; rfl
      · exact (((HB1.out.setCell (Nat.le_refl _) _).setCell (Nat.le_refl _) _).setCell (Nat.le_refl _) _).setCell (Nat.le_refl _) _
end Go.Proofs.YtlbiofmcanjijaaDoor
