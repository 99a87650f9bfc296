/- The walks of the laws AddrRelative and AddrThere. -/
import Derived.Test.YtlbiofmcanjijaaDoorW15
import Derived.Test.YtlbiofmcanjijaaDoorPlain3
namespace Go.Proofs.YtlbiofmcanjijaaDoor
open Go.RowKit
open Ad

set_option maxRecDepth 100000 in
set_option maxHeartbeats 2000000 in
theorem addrRelative_walk (mr mc : Int) (fr fc : Bool) (s : ByteArray) (r c : Int) (w : World) (ht : Tab w) (_l0 : -9223372036854775808 ≤ mr) (_l1 : mr ≤ 9223372036854775807) (_l2 : -9223372036854775808 ≤ mc) (_l3 : mc ≤ 9223372036854775807) (hs : s.size ≤ 9223372036854775807)
    (_l4 : -9223372036854775808 ≤ r) (_l5 : r ≤ 9223372036854775807) (_l6 : -9223372036854775808 ≤ c) (_l7 : c ≤ 9223372036854775807) :
    Calls Tryd.prog 7 #[.agg #[.int .i64 mr, .int .i64 mc, .bool fr, .bool fc], .string s, .int .i64 r, .int .i64 c] w fun e w' => e = .returned (.bool true) ∧ Below w.heap.size w w' := by
  have HT := Lib.hid ht
  clear ht _l0 _l1 _l2 _l3 _l4 _l5 _l6 _l7
  go_enter Tryd.func7, Tryd.ntmps7
  go_wp2_with fail
  refine (awake_any _ (tab_alloc HT.out _)).mono ?_
  rintro e w1 ⟨rfl, hb1⟩
  have HB1 := Lib.hid (((Below.refl w.heap.size w).alloc (Nat.le_refl _) _).trans (hb1.mono (by simp)))
  have B1 := Lib.hid ((Blk.new w 28 #[.int .i64 mr, .int .i64 mc, .bool fr, .bool fc]).below hb1 (by simp))
  clear hb1
  obtain ⟨⟨x0, x1, x2, x3⟩, y0, y1, y2, y3⟩ := B1.out.four
  by_cases h100 : 100 < s.size
  · go_wp2_with fail
    go_ret
    exact ⟨rfl, HB1.out⟩
  go_wp2_with fail
  refine (relative_any _ _ _ _ _ _ _ (tab_below HT.out HB1.out)).mono ?_
  rintro e w2 ⟨rfl, hb2⟩
  have HB2 := Lib.hid (HB1.out.trans (hb2.mono HB1.out.size))
  have B2 := Lib.hid (B1.out.below hb2 B1.out.lt)
  clear hb2 x0 x1 x2 x3 y0 y1 y2 y3 B1
  have HLN := Lib.hid (rel_len ⟨mr, mc, fr, fc⟩ r c)
  have HBK := Lib.hid (abs_back ⟨mr, mc, fr, fc⟩ r c)
  generalize hT : relL ⟨mr, mc, fr, fc⟩ r c = t at HLN HBK ⊢
  have HTT := Lib.hid hT
  clear hT
  go_wp2_with fail
  refine (absolute_any _ _ _ _ hs).mono ?_
  rintro e w3 ⟨rfl, hb3⟩
  have HB3 := Lib.hid (HB2.out.trans (hb3.mono HB2.out.size))
  have B3 := Lib.hid (B2.out.below hb3 B2.out.lt)
  clear hb3 B2
  obtain ⟨xr, xc, xa, xb, ok, hx, hok⟩ := mkRet_form (absL s.data.toList r c)
  rw [hx]
  have HX := Lib.hid hx
  clear hx hok
  go_wp2_with fail
  refine (refAbsolute_any _ _ _ _ hs).mono ?_
  rintro e w4 ⟨rfl, hb4⟩
  rw [HX.out]
  have HB4 := Lib.hid ((HB3.out.alloc HB3.out.size _).trans (hb4.mono (by have := HB3.out.size; simp; omega)))
  have B4 := Lib.hid ((B3.out.alloc _).below hb4 (B3.out.alloc _).lt)
  have C4 := Lib.hid ((Blk.new w3 28 #[.int .i64 xr, .int .i64 xc, .bool xa, .bool xb]).below hb4 (by simp))
  clear hb4
  have hlt3 : w.heap.size < w3.heap.size := B3.out.lt
  have hlt4 : w3.heap.size < w4.heap.size := C4.out.lt
  clear B3
  go_upto_region 8 with fail
  generalize hW : w4.alloc (.cells #[.int .i64 xr, .int .i64 xc, .bool xa, .bool xb] 35) = W
  have B := Lib.hid (show Blk W w.heap.size 28 #[.int .i64 mr, .int .i64 mc, .bool fr, .bool fc] by rw [← hW]; exact B4.out.alloc _)
  have C := Lib.hid (show Blk W w3.heap.size 28 #[.int .i64 xr, .int .i64 xc, .bool xa, .bool xb] by rw [← hW]; exact C4.out.alloc _)
  have D := Lib.hid (show Blk W w4.heap.size 35 #[.int .i64 xr, .int .i64 xc, .bool xa, .bool xb] by rw [← hW]; exact Blk.new _ _ _)
  have HBW := Lib.hid (show Below w.heap.size w W by rw [← hW]; exact HB4.out.alloc HB4.out.size _)
  clear hW B4 C4
  have hb0 : Below W.heap.size W W.drew := (Below.refl _ _).drew
  obtain ⟨⟨p0, p1, p2, p3⟩, p4⟩ := B.out.four
  obtain ⟨⟨q0, q1, q2, q3⟩, q4⟩ := C.out.four
  obtain ⟨⟨r0, r1, r2, r3⟩, r4⟩ := D.out.four
  clear p4 q4 r4
  have hg1 := B.out.lt
  have hg2 := C.out.lt
  have hg3 := D.out.lt
  have hTl : ∀ W, Tab w → Below w.heap.size w W → Tab W := fun _ h hb => tab_below h hb
  go_region_held3 (fun w' => (w'.cell? ⟨w.heap.size, 0, none⟩ = some (.int .i64 mr) ∧ w'.cell? ⟨w.heap.size, 1, none⟩ = some (.int .i64 mc) ∧ w'.cell? ⟨w.heap.size, 2, none⟩ = some (.bool fr) ∧ w'.cell? ⟨w.heap.size, 3, none⟩ = some (.bool fc)) ∧
      (w'.cell? ⟨w3.heap.size, 0, none⟩ = some (.int .i64 xr) ∧ w'.cell? ⟨w3.heap.size, 1, none⟩ = some (.int .i64 xc) ∧ w'.cell? ⟨w3.heap.size, 2, none⟩ = some (.bool xa) ∧ w'.cell? ⟨w3.heap.size, 3, none⟩ = some (.bool xb)) ∧
      (w'.cell? ⟨w4.heap.size, 0, none⟩ = some (.int .i64 xr) ∧ w'.cell? ⟨w4.heap.size, 1, none⟩ = some (.int .i64 xc) ∧ w'.cell? ⟨w4.heap.size, 2, none⟩ = some (.bool xa) ∧ w'.cell? ⟨w4.heap.size, 3, none⟩ = some (.bool xb)) ∧ Below W.heap.size W w')
    (first | exact ⟨⟨p0, p1, p2, p3⟩, ⟨q0, q1, q2, q3⟩, ⟨r0, r1, r2, r3⟩, hb0⟩ | assumption | exact keep12 hg1 hg2 hg3 (by assumption) (by assumption))
    (first | (go_at_call 19; refine (of_any _ _ _ _ _).mono ?_; rintro e w' ⟨rfl, hb⟩) | (go_at_call 22; refine (refRelative_any _ _ _ _ _ _ _).mono ?_; rintro e w' ⟨rfl, hb⟩; rw [HTT.out]))
  rename_i hHeld
  have HBX := Lib.hid (HBW.out.trans (hHeld.2.2.2.mono HBW.out.size))
  have BX := Lib.hid (B.out.below hHeld.2.2.2 hg1)
  clear hHeld hb p0 p1 p2 p3 q0 q1 q2 q3 r0 r1 r2 r3 B C D hb0 hTl
  by_cases t0 : t = []
  · subst t0
    go_wp2_with fail
    go_ret
    exact ⟨rfl, HBX.out⟩
  · have t1 : t.isEmpty = false := by simpa using t0
    have hpt := Lib.hid (HBK.out t0)
    have hlt : t.length ≤ 9223372036854775807 := by have := HLN.out; omega
    clear t0
    go_wp2_with fail
    refine (absolute_any _ _ _ _ (by show t.toArray.size ≤ _; simpa using hlt)).mono ?_
    rintro e w6 ⟨rfl, hb6⟩
    rw [show (ByteArray.mk t.toArray).data.toList = t by simp, hpt.out]
    simp only [mkRet]
    have HBY := Lib.hid (HBX.out.trans (hb6.mono HBX.out.size))
    have BY := Lib.hid (BX.out.below hb6 BX.out.lt)
    clear hb6 HBX BX
    have hltb : w.heap.size < w6.heap.size := BY.out.lt
    obtain ⟨⟨x0, x1, x2, x3⟩, x4⟩ := BY.out.four
    clear x4
    go_wp2_with fail
    go_ret
    exact ⟨ret_bool (by simp), HBY.out.alloc HBY.out.size _⟩

theorem wrap_mid (a : Int) (h2 : -30000000 ≤ a) (h3 : a ≤ 30000000) : wrap64 a = a := IntWalk.wrap64_in _ ⟨by omega, by omega⟩

set_option maxRecDepth 100000 in
set_option maxHeartbeats 2000000 in
theorem addrThere_walk (mr mc : Int) (fr fc : Bool) (r c dn rt : Int) (w : World) (ht : Tab w) (_l0 : -9223372036854775808 ≤ mr) (_l1 : mr ≤ 9223372036854775807) (_l2 : -9223372036854775808 ≤ mc) (_l3 : mc ≤ 9223372036854775807)
    (_l4 : -9223372036854775808 ≤ r) (_l5 : r ≤ 9223372036854775807) (_l6 : -9223372036854775808 ≤ c) (_l7 : c ≤ 9223372036854775807) (_l8 : -9223372036854775808 ≤ dn) (_l9 : dn ≤ 9223372036854775807) (_l10 : -9223372036854775808 ≤ rt) (_l11 : rt ≤ 9223372036854775807) :
    Calls Tryd.prog 8 #[.agg #[.int .i64 mr, .int .i64 mc, .bool fr, .bool fc], .int .i64 r, .int .i64 c, .int .i64 dn, .int .i64 rt] w fun e w' => e = .returned (.bool true) ∧ Below w.heap.size w w' := by
  have HT := Lib.hid ht
  clear ht _l0 _l1 _l2 _l3 _l4 _l5 _l6 _l7 _l8 _l9 _l10 _l11
  go_enter Tryd.func8, Tryd.ntmps8
  go_wp2_with fail
  refine (awake_any _ (tab_alloc HT.out _)).mono ?_
  rintro e w1 ⟨rfl, hb1⟩
  have HB1 := Lib.hid (((Below.refl w.heap.size w).alloc (Nat.le_refl _) _).trans (hb1.mono (by simp)))
  have B1 := Lib.hid ((Blk.new w 28 #[.int .i64 mr, .int .i64 mc, .bool fr, .bool fc]).below hb1 (by simp))
  clear hb1
  obtain ⟨⟨x0, x1, x2, x3⟩, y0, y1, y2, y3⟩ := B1.out.four
  go_wp2_with fail
  refine (relative_any _ _ _ _ _ _ _ (tab_below HT.out HB1.out)).mono ?_
  rintro e w2 ⟨rfl, hb2⟩
  have HB2 := Lib.hid (HB1.out.trans (hb2.mono HB1.out.size))
  have B2 := Lib.hid (B1.out.below hb2 B1.out.lt)
  clear hb2 x0 x1 x2 x3 y0 y1 y2 y3 B1
  have HLN := Lib.hid (rel_len ⟨mr, mc, fr, fc⟩ r c)
  have HRN := Lib.hid (rel_nil ⟨mr, mc, fr, fc⟩ r c)
  have HAR := Lib.hid (abs_rel ⟨mr, mc, fr, fc⟩ r c dn rt)
  generalize hT : relL ⟨mr, mc, fr, fc⟩ r c = t at HLN HRN HAR ⊢
  clear hT
  by_cases t0 : t = []
  · subst t0
    go_wp2_with fail
    go_ret
    exact ⟨rfl, HB2.out⟩
  have t1 : t.isEmpty = false := by simpa using t0
  obtain ⟨g1, g2⟩ := HRN.out t0
  simp only at g1 g2
  obtain ⟨a1, a2, a3, a4⟩ := right_bd g1
  obtain ⟨b1, b2, b3, b4⟩ := right_bd g2
  clear t0
  go_wp2_with fail
  refine (text_any _ _ _ _ _ (tab_below HT.out HB2.out)).mono ?_
  rintro e w3 ⟨rfl, hb3⟩
  have HB3 := Lib.hid (HB2.out.trans (hb3.mono HB2.out.size))
  have B3 := Lib.hid (B2.out.below hb3 B2.out.lt)
  clear hb3 B2
  cases g3 : rightB dn rt
  · rw [(text_nil ⟨dn, rt, false, false⟩).2 g3]
    clear g3
    go_wp2_with fail
    go_ret
    exact ⟨rfl, HB3.out⟩
  have hu : textL ⟨dn, rt, false, false⟩ ≠ [] := by intro h; rw [text_nil] at h; simp only at h; rw [g3] at h; cases h
  generalize textL ⟨dn, rt, false, false⟩ = u at hu ⊢
  have u1 : u.isEmpty = false := by simpa using hu
  obtain ⟨c1, c2, c3, c4⟩ := right_bd g3
  have HA := Lib.hid (HAR.out g1 g2 g3)
  clear hu HAR HRN
  have hlt : t.length ≤ 9223372036854775807 := by have := HLN.out; omega
  obtain ⟨⟨x0, x1, x2, x3⟩, y0, y1, y2, y3⟩ := B3.out.four
  have hlt3 : w.heap.size < w3.heap.size := B3.out.lt
  clear g1 g2 g3 HLN
  cases fr <;> cases fc
  · have HA2 := Lib.hid (show absL t dn rt = if rightB (mr + (dn - r)) (mc + (rt - c)) then some ⟨mr + (dn - r), mc + (rt - c), false, false⟩ else none by
      have h := HA.out
      simp only [if_true, if_false, Bool.false_eq_true] at h
      rw [show dn + (mr - r) = mr + (dn - r) by omega] at h; rw [show rt + (mc - c) = mc + (rt - c) by omega] at h
      exact h)
    clear HA
    go_wp2_with fail
    refine (absolute_any _ _ _ _ (by show t.toArray.size ≤ _; simpa using hlt)).mono ?_
    rintro e w4 ⟨rfl, hb4⟩
    rw [show (ByteArray.mk t.toArray).data.toList = t by simp, HA2.out]
    have C4 := Lib.hid ((Blk.new w3 28 #[.int .i64 (mr + (dn - r)), .int .i64 (mc + (rt - c)), .bool false, .bool false]).below hb4 (by simp))
    have HB4 := Lib.hid ((HB3.out.alloc HB3.out.size _).trans (hb4.mono (by have := HB3.out.size; simp; omega)))
    clear hb4 x0 x1 x2 x3 y0 y1 y2 y3
    obtain ⟨⟨x0, x1, x2, x3⟩, x4⟩ := C4.out.four
    clear x4
    have hlt4 : w3.heap.size < w4.heap.size := C4.out.lt
    by_cases hr : rightB (mr + (dn - r)) (mc + (rt - c)) = true
    · obtain ⟨e1, e2, e3, e4⟩ := right_bd hr
      rw [if_pos hr]
      simp only [mkRet]
      clear hr
      go_wp2_with fail
      go_ret
      exact ⟨ret_bool (by simp), HB4.out.alloc HB4.out.size _⟩
    · have hq : mr + (dn - r) < 0 ∨ 9999998 < mr + (dn - r) ∨ mc + (rt - c) < 0 ∨ 18277 < mc + (rt - c) := by
        unfold rightB at hr; simp at hr; omega
      rw [if_neg hr]
      simp only [mkRet]
      clear hr
      by_cases q1 : mr + (dn - r) < 0
      · first
          | (exfalso; omega)
          | (clear hq
             go_wp2_with fail
             go_ret
             exact ⟨ret_bool (by simp), HB4.out.alloc HB4.out.size _⟩)
      by_cases q2 : 9999998 < mr + (dn - r)
      · first
          | (exfalso; omega)
          | (clear hq
             go_wp2_with fail
             go_ret
             exact ⟨ret_bool (by simp), HB4.out.alloc HB4.out.size _⟩)
      by_cases q3 : mc + (rt - c) < 0
      · first
          | (exfalso; omega)
          | (clear hq
             go_wp2_with fail
             go_ret
             exact ⟨ret_bool (by simp), HB4.out.alloc HB4.out.size _⟩)
      have q4 : 18277 < mc + (rt - c) := by omega
      first
        | (exfalso; omega)
        | (clear hq
           go_wp2_with fail
           go_ret
           exact ⟨ret_bool (by simp), HB4.out.alloc HB4.out.size _⟩)
  · have HA2 := Lib.hid (show absL t dn rt = if rightB (mr + (dn - r)) (mc) then some ⟨mr + (dn - r), mc, false, true⟩ else none by
      have h := HA.out
      simp only [if_true, if_false, Bool.false_eq_true] at h
      rw [show dn + (mr - r) = mr + (dn - r) by omega] at h
      exact h)
    clear HA
    go_wp2_with fail
    refine (absolute_any _ _ _ _ (by show t.toArray.size ≤ _; simpa using hlt)).mono ?_
    rintro e w4 ⟨rfl, hb4⟩
    rw [show (ByteArray.mk t.toArray).data.toList = t by simp, HA2.out]
    have C4 := Lib.hid ((Blk.new w3 28 #[.int .i64 (mr + (dn - r)), .int .i64 (mc), .bool false, .bool true]).below hb4 (by simp))
    have HB4 := Lib.hid ((HB3.out.alloc HB3.out.size _).trans (hb4.mono (by have := HB3.out.size; simp; omega)))
    clear hb4 x0 x1 x2 x3 y0 y1 y2 y3
    obtain ⟨⟨x0, x1, x2, x3⟩, x4⟩ := C4.out.four
    clear x4
    have hlt4 : w3.heap.size < w4.heap.size := C4.out.lt
    by_cases hr : rightB (mr + (dn - r)) (mc) = true
    · obtain ⟨e1, e2, e3, e4⟩ := right_bd hr
      rw [if_pos hr]
      simp only [mkRet]
      clear hr
      go_wp2_with fail
      go_ret
      exact ⟨ret_bool (by simp), HB4.out.alloc HB4.out.size _⟩
    · have hq : mr + (dn - r) < 0 ∨ 9999998 < mr + (dn - r) ∨ mc < 0 ∨ 18277 < mc := by
        unfold rightB at hr; simp at hr; omega
      rw [if_neg hr]
      simp only [mkRet]
      clear hr
      by_cases q1 : mr + (dn - r) < 0
      · first
          | (exfalso; omega)
          | (clear hq
             go_wp2_with fail
             go_ret
             exact ⟨ret_bool (by simp), HB4.out.alloc HB4.out.size _⟩)
      by_cases q2 : 9999998 < mr + (dn - r)
      · first
          | (exfalso; omega)
          | (clear hq
             go_wp2_with fail
             go_ret
             exact ⟨ret_bool (by simp), HB4.out.alloc HB4.out.size _⟩)
      by_cases q3 : mc < 0
      · first
          | (exfalso; omega)
          | (clear hq
             go_wp2_with fail
             go_ret
             exact ⟨ret_bool (by simp), HB4.out.alloc HB4.out.size _⟩)
      have q4 : 18277 < mc := by omega
      first
        | (exfalso; omega)
        | (clear hq
           go_wp2_with fail
           go_ret
           exact ⟨ret_bool (by simp), HB4.out.alloc HB4.out.size _⟩)
  · have HA2 := Lib.hid (show absL t dn rt = if rightB (mr) (mc + (rt - c)) then some ⟨mr, mc + (rt - c), true, false⟩ else none by
      have h := HA.out
      simp only [if_true, if_false, Bool.false_eq_true] at h
      rw [show rt + (mc - c) = mc + (rt - c) by omega] at h
      exact h)
    clear HA
    go_wp2_with fail
    refine (absolute_any _ _ _ _ (by show t.toArray.size ≤ _; simpa using hlt)).mono ?_
    rintro e w4 ⟨rfl, hb4⟩
    rw [show (ByteArray.mk t.toArray).data.toList = t by simp, HA2.out]
    have C4 := Lib.hid ((Blk.new w3 28 #[.int .i64 (mr), .int .i64 (mc + (rt - c)), .bool true, .bool false]).below hb4 (by simp))
    have HB4 := Lib.hid ((HB3.out.alloc HB3.out.size _).trans (hb4.mono (by have := HB3.out.size; simp; omega)))
    clear hb4 x0 x1 x2 x3 y0 y1 y2 y3
    obtain ⟨⟨x0, x1, x2, x3⟩, x4⟩ := C4.out.four
    clear x4
    have hlt4 : w3.heap.size < w4.heap.size := C4.out.lt
    by_cases hr : rightB (mr) (mc + (rt - c)) = true
    · obtain ⟨e1, e2, e3, e4⟩ := right_bd hr
      rw [if_pos hr]
      simp only [mkRet]
      clear hr
      go_wp2_with fail
      go_ret
      exact ⟨ret_bool (by simp), HB4.out.alloc HB4.out.size _⟩
    · have hq : mr < 0 ∨ 9999998 < mr ∨ mc + (rt - c) < 0 ∨ 18277 < mc + (rt - c) := by
        unfold rightB at hr; simp at hr; omega
      rw [if_neg hr]
      simp only [mkRet]
      clear hr
      by_cases q1 : mr < 0
      · first
          | (exfalso; omega)
          | (clear hq
             go_wp2_with fail
             go_ret
             exact ⟨ret_bool (by simp), HB4.out.alloc HB4.out.size _⟩)
      by_cases q2 : 9999998 < mr
      · first
          | (exfalso; omega)
          | (clear hq
             go_wp2_with fail
             go_ret
             exact ⟨ret_bool (by simp), HB4.out.alloc HB4.out.size _⟩)
      by_cases q3 : mc + (rt - c) < 0
      · first
          | (exfalso; omega)
          | (clear hq
             go_wp2_with fail
             go_ret
             exact ⟨ret_bool (by simp), HB4.out.alloc HB4.out.size _⟩)
      have q4 : 18277 < mc + (rt - c) := by omega
      first
        | (exfalso; omega)
        | (clear hq
           go_wp2_with fail
           go_ret
           exact ⟨ret_bool (by simp), HB4.out.alloc HB4.out.size _⟩)
  · have HA2 := Lib.hid (show absL t dn rt = if rightB (mr) (mc) then some ⟨mr, mc, true, true⟩ else none by
      have h := HA.out
      simp only [if_true, if_false, Bool.false_eq_true] at h
      skip
      exact h)
    clear HA
    go_wp2_with fail
    refine (absolute_any _ _ _ _ (by show t.toArray.size ≤ _; simpa using hlt)).mono ?_
    rintro e w4 ⟨rfl, hb4⟩
    rw [show (ByteArray.mk t.toArray).data.toList = t by simp, HA2.out]
    have C4 := Lib.hid ((Blk.new w3 28 #[.int .i64 (mr), .int .i64 (mc), .bool true, .bool true]).below hb4 (by simp))
    have HB4 := Lib.hid ((HB3.out.alloc HB3.out.size _).trans (hb4.mono (by have := HB3.out.size; simp; omega)))
    clear hb4 x0 x1 x2 x3 y0 y1 y2 y3
    obtain ⟨⟨x0, x1, x2, x3⟩, x4⟩ := C4.out.four
    clear x4
    have hlt4 : w3.heap.size < w4.heap.size := C4.out.lt
    by_cases hr : rightB (mr) (mc) = true
    · obtain ⟨e1, e2, e3, e4⟩ := right_bd hr
      rw [if_pos hr]
      simp only [mkRet]
      clear hr
      go_wp2_with fail
      go_ret
      exact ⟨ret_bool (by simp), HB4.out.alloc HB4.out.size _⟩
    · have hq : mr < 0 ∨ 9999998 < mr ∨ mc < 0 ∨ 18277 < mc := by
        unfold rightB at hr; simp at hr; omega
      rw [if_neg hr]
      simp only [mkRet]
      clear hr
      by_cases q1 : mr < 0
      · first
          | (exfalso; omega)
          | (clear hq
             go_wp2_with fail
             go_ret
             exact ⟨ret_bool (by simp), HB4.out.alloc HB4.out.size _⟩)
      by_cases q2 : 9999998 < mr
      · first
          | (exfalso; omega)
          | (clear hq
             go_wp2_with fail
             go_ret
             exact ⟨ret_bool (by simp), HB4.out.alloc HB4.out.size _⟩)
      by_cases q3 : mc < 0
      · first
          | (exfalso; omega)
          | (clear hq
             go_wp2_with fail
             go_ret
             exact ⟨ret_bool (by simp), HB4.out.alloc HB4.out.size _⟩)
      have q4 : 18277 < mc := by omega
      first
        | (exfalso; omega)
        | (clear hq
           go_wp2_with fail
           go_ret
           exact ⟨ret_bool (by simp), HB4.out.alloc HB4.out.size _⟩)
end Go.Proofs.YtlbiofmcanjijaaDoor
