/- The walk of the law AddrTexts. -/
import Derived.Test.YtlbiofmcanjijaaDoorW10
import Derived.Test.YtlbiofmcanjijaaDoorPlain2
namespace Go.Proofs.YtlbiofmcanjijaaDoor
open Go.RowKit
open Ad

theorem mkRet_form (o : Option Mk) : ∃ (r c : Int) (a b ok : Bool), mkRet o = .returned (.tuple #[.agg #[.int .i64 r, .int .i64 c, .bool a, .bool b], .bool ok]) ∧ ((ok = true ∧ o = some ⟨r, c, a, b⟩) ∨ (ok = false ∧ o = none ∧ r = 0 ∧ c = 0 ∧ a = false ∧ b = false)) := by
  rcases o with _ | m
  · exact ⟨0, 0, false, false, false, rfl, .inr ⟨rfl, rfl, rfl, rfl, rfl, rfl⟩⟩
  · exact ⟨m.row, m.col, m.fr, m.fc, true, rfl, .inl ⟨rfl, rfl⟩⟩

/-- four cells of a block. -/
def Four (w : World) (g : Nat) (a b c d : Value) : Prop := w.cell? ⟨g, 0, none⟩ = some a ∧ w.cell? ⟨g, 1, none⟩ = some b ∧ w.cell? ⟨g, 2, none⟩ = some c ∧ w.cell? ⟨g, 3, none⟩ = some d
theorem Four.below {W w1 w2 : World} {g : Nat} {a b c d : Value} (hg : g < W.heap.size) (hW : Below W.heap.size W w1) (hb : Below w1.heap.size w1 w2) (h : Four w1 g a b c d) : Four w2 g a b c d := by
  have hlt : g < w1.heap.size := Nat.lt_of_lt_of_le hg hW.size
  obtain ⟨h0, h1, h2, h3⟩ := h
  exact ⟨(hb.cell (p := ⟨g, 0, none⟩) hlt).trans h0, (hb.cell (p := ⟨g, 1, none⟩) hlt).trans h1, (hb.cell (p := ⟨g, 2, none⟩) hlt).trans h2, (hb.cell (p := ⟨g, 3, none⟩) hlt).trans h3⟩
theorem keep12 {W w1 w2 : World} {g h k : Nat} {a0 a1 a2 a3 b0 b1 b2 b3 c0 c1 c2 c3 : Value} (hg : g < W.heap.size) (hh : h < W.heap.size) (hk : k < W.heap.size)
    (hs : (w1.cell? ⟨g, 0, none⟩ = some a0 ∧ w1.cell? ⟨g, 1, none⟩ = some a1 ∧ w1.cell? ⟨g, 2, none⟩ = some a2 ∧ w1.cell? ⟨g, 3, none⟩ = some a3) ∧
      (w1.cell? ⟨h, 0, none⟩ = some b0 ∧ w1.cell? ⟨h, 1, none⟩ = some b1 ∧ w1.cell? ⟨h, 2, none⟩ = some b2 ∧ w1.cell? ⟨h, 3, none⟩ = some b3) ∧
      (w1.cell? ⟨k, 0, none⟩ = some c0 ∧ w1.cell? ⟨k, 1, none⟩ = some c1 ∧ w1.cell? ⟨k, 2, none⟩ = some c2 ∧ w1.cell? ⟨k, 3, none⟩ = some c3) ∧ Below W.heap.size W w1) (hb : Below w1.heap.size w1 w2) :
    (w2.cell? ⟨g, 0, none⟩ = some a0 ∧ w2.cell? ⟨g, 1, none⟩ = some a1 ∧ w2.cell? ⟨g, 2, none⟩ = some a2 ∧ w2.cell? ⟨g, 3, none⟩ = some a3) ∧
      (w2.cell? ⟨h, 0, none⟩ = some b0 ∧ w2.cell? ⟨h, 1, none⟩ = some b1 ∧ w2.cell? ⟨h, 2, none⟩ = some b2 ∧ w2.cell? ⟨h, 3, none⟩ = some b3) ∧
      (w2.cell? ⟨k, 0, none⟩ = some c0 ∧ w2.cell? ⟨k, 1, none⟩ = some c1 ∧ w2.cell? ⟨k, 2, none⟩ = some c2 ∧ w2.cell? ⟨k, 3, none⟩ = some c3) ∧ Below W.heap.size W w2 :=
  ⟨Four.below hg hs.2.2.2 hb hs.1, Four.below hh hs.2.2.2 hb hs.2.1, Four.below hk hs.2.2.2 hb hs.2.2.1, hs.2.2.2.trans (hb.mono hs.2.2.2.size)⟩

set_option maxRecDepth 100000 in
set_option maxHeartbeats 2000000 in
theorem addrTexts_walk (mr mc : Int) (fr fc : Bool) (s : ByteArray) (w : World) (ht : Tab w) (_l0 : -9223372036854775808 ≤ mr) (_l1 : mr ≤ 9223372036854775807) (_l2 : -9223372036854775808 ≤ mc) (_l3 : mc ≤ 9223372036854775807) (hs : s.size ≤ 9223372036854775807) :
    Calls Tryd.prog 6 #[.agg #[.int .i64 mr, .int .i64 mc, .bool fr, .bool fc], .string s] w fun e w' => e = .returned (.bool true) ∧ Below w.heap.size w w' := by
  have HT := Lib.hid ht
  clear ht
  go_enter Tryd.func6, Tryd.ntmps6
  go_wp2_with fail
  refine (awake_any _ (tab_alloc HT.out _)).mono ?_
  rintro e w1 ⟨rfl, hb1⟩
  have HB1 := Lib.hid (((Below.refl w.heap.size w).alloc (Nat.le_refl _) _).trans (hb1.mono (by simp)))
  have B1 := Lib.hid ((Blk.new w 28 #[.int .i64 mr, .int .i64 mc, .bool fr, .bool fc]).below hb1 (by simp))
  clear hb1
  obtain ⟨⟨x0, x1, x2, x3⟩, y0, y1, y2, y3⟩ := B1.out.four
  by_cases h100 : 100 < s.size
  · go_wp2_with fail
    go_ret
    exact ⟨rfl, HB1.out⟩
  go_wp2_with fail
  refine (text_any _ _ _ _ _ (tab_below HT.out HB1.out)).mono ?_
  rintro e w2 ⟨rfl, hb2⟩
  have HB2 := Lib.hid (HB1.out.trans (hb2.mono HB1.out.size))
  have B2 := Lib.hid (B1.out.below hb2 B1.out.lt)
  clear hb2 x0 x1 x2 x3 y0 y1 y2 y3 B1
  generalize hT : textL ⟨mr, mc, fr, fc⟩ = t
  have HTT := Lib.hid hT
  clear hT
  go_wp2_with fail
  refine (parse_any _ _ hs).mono ?_
  rintro e w3 ⟨rfl, hb3⟩
  have HB3 := Lib.hid (HB2.out.trans (hb3.mono HB2.out.size))
  have B3 := Lib.hid (B2.out.below hb3 B2.out.lt)
  clear hb3 B2
  obtain ⟨xr, xc, xa, xb, ok, hx, hok⟩ := mkRet_form (parseL s.data.toList)
  rw [hx]
  have HX := Lib.hid hx
  have HOK := Lib.hid hok
  clear hx hok
  go_wp2_with fail
  refine (refParse_any _ _ hs).mono ?_
  rintro e w4 ⟨rfl, hb4⟩
  rw [HX.out]
  have HB4 := Lib.hid ((HB3.out.alloc HB3.out.size _).trans (hb4.mono (by have := HB3.out.size; simp; omega)))
  have B4 := Lib.hid ((B3.out.alloc _).below hb4 (B3.out.alloc _).lt)
  have C4 := Lib.hid ((Blk.new w3 28 #[.int .i64 xr, .int .i64 xc, .bool xa, .bool xb]).below hb4 (by simp))
  clear hb4
  have hlt3 : w.heap.size < w3.heap.size := B3.out.lt
  have hlt4 : w3.heap.size < w4.heap.size := C4.out.lt
  clear B3
  go_upto_region 8 with fail
  generalize hW : w4.alloc (.cells #[.int .i64 xr, .int .i64 xc, .bool xa, .bool xb] 35) = W
  have B := Lib.hid (show Blk W w.heap.size 28 #[.int .i64 mr, .int .i64 mc, .bool fr, .bool fc] by rw [← hW]; exact B4.out.alloc _)
  have C := Lib.hid (show Blk W w3.heap.size 28 #[.int .i64 xr, .int .i64 xc, .bool xa, .bool xb] by rw [← hW]; exact C4.out.alloc _)
  have D := Lib.hid (show Blk W w4.heap.size 35 #[.int .i64 xr, .int .i64 xc, .bool xa, .bool xb] by rw [← hW]; exact Blk.new _ _ _)
  have HBW := Lib.hid (show Below w.heap.size w W by rw [← hW]; exact HB4.out.alloc HB4.out.size _)
  clear hW B4 C4
  have hb0 : Below W.heap.size W W.drew := (Below.refl _ _).drew
  obtain ⟨⟨p0, p1, p2, p3⟩, p4⟩ := B.out.four
  obtain ⟨⟨q0, q1, q2, q3⟩, q4⟩ := C.out.four
  obtain ⟨⟨r0, r1, r2, r3⟩, r4⟩ := D.out.four
  clear p4 q4 r4
  have hg1 := B.out.lt
  have hg2 := C.out.lt
  have hg3 := D.out.lt
  have hTl : ∀ W, Tab w → Below w.heap.size w W → Tab W := fun _ h hb => tab_below h hb
  go_region_held3 (fun w' => (w'.cell? ⟨w.heap.size, 0, none⟩ = some (.int .i64 mr) ∧ w'.cell? ⟨w.heap.size, 1, none⟩ = some (.int .i64 mc) ∧ w'.cell? ⟨w.heap.size, 2, none⟩ = some (.bool fr) ∧ w'.cell? ⟨w.heap.size, 3, none⟩ = some (.bool fc)) ∧
      (w'.cell? ⟨w3.heap.size, 0, none⟩ = some (.int .i64 xr) ∧ w'.cell? ⟨w3.heap.size, 1, none⟩ = some (.int .i64 xc) ∧ w'.cell? ⟨w3.heap.size, 2, none⟩ = some (.bool xa) ∧ w'.cell? ⟨w3.heap.size, 3, none⟩ = some (.bool xb)) ∧
      (w'.cell? ⟨w4.heap.size, 0, none⟩ = some (.int .i64 xr) ∧ w'.cell? ⟨w4.heap.size, 1, none⟩ = some (.int .i64 xc) ∧ w'.cell? ⟨w4.heap.size, 2, none⟩ = some (.bool xa) ∧ w'.cell? ⟨w4.heap.size, 3, none⟩ = some (.bool xb)) ∧ Below W.heap.size W w')
    (first | exact ⟨⟨p0, p1, p2, p3⟩, ⟨q0, q1, q2, q3⟩, ⟨r0, r1, r2, r3⟩, hb0⟩ | assumption | exact keep12 hg1 hg2 hg3 (by assumption) (by assumption))
    (first | (go_at_call 19; refine (of_any _ _ _ _ _).mono ?_; rintro e w' ⟨rfl, hb⟩) | (go_at_call 18; refine (refText_any _ _ _ _ _).mono ?_; rintro e w' ⟨rfl, hb⟩; rw [HTT.out]))
  rename_i hHeld
  have HBX := Lib.hid (HBW.out.trans (hHeld.2.2.2.mono HBW.out.size))
  have BX := Lib.hid (B.out.below hHeld.2.2.2 hg1)
  have CX := Lib.hid (C.out.below hHeld.2.2.2 hg2)
  clear hHeld hb p0 p1 p2 p3 q0 q1 q2 q3 r0 r1 r2 r3 B C D hb0 hTl
  by_cases t0 : t = []
  · subst t0
    have HBB := HBX
    have CC := CX
    clear HBX CX
    rcases HOK.out with ⟨rfl, hp⟩ | ⟨rfl, _, rfl, rfl, rfl, rfl⟩
    · have HL := Lib.hid (parse_len _ _ hp)
      clear hp
      obtain ⟨⟨q0, q1, q2, q3⟩, q4⟩ := CC.out.four
      clear q4
      go_wp2_with fail
      refine (text_any _ _ _ _ _ (tab_below HT.out HBB.out)).mono ?_
      rintro e wz ⟨rfl, hbz⟩
      have HBZ := Lib.hid (HBB.out.trans (hbz.mono HBB.out.size))
      clear hbz
      have hlen := Lib.hid (show (textL ⟨xr, xc, xa, xb⟩).length = s.size by rw [HL.out]; simp)
      generalize textL ⟨xr, xc, xa, xb⟩ = u at hlen ⊢
      have hle : ((u.length : Int) == (s.size : Int)) = true := by simp; have := hlen.out; omega
      go_wp2_with fail
      go_ret
      exact ⟨ret_bool (by simp [hlen.out]), HBZ.out⟩
    · go_wp2_with fail
      go_ret
      exact ⟨rfl, HBB.out⟩
  · have t1 : t.isEmpty = false := by simpa using t0
    have hr : rightB mr mc = true := by
      cases h : rightB mr mc
      · exfalso; apply t0; rw [← HTT.out]; unfold textL; rw [h]; rfl
      · rfl
    have hpt := Lib.hid (show parseL t = some ⟨mr, mc, fr, fc⟩ by rw [← HTT.out]; exact parse_text ⟨mr, mc, fr, fc⟩ hr)
    have hlt : t.length ≤ 9223372036854775807 := by
      rw [← HTT.out]; unfold textL; rw [if_pos hr]
      obtain ⟨a1, a2, a3, a4⟩ := right_bd hr
      have l1 := dol_len fc
      have l2 := lets_len mc
      have l3 := dol_len fr
      have l4 := Lib.itoa_length_le (mr + 1) (by omega) (by omega)
      simp only [List.length_append]; omega
    clear t0 hr
    go_wp2_with fail
    refine (parse_any _ _ (by show t.toArray.size ≤ _; simpa using hlt)).mono ?_
    rintro e w6 ⟨rfl, hb6⟩
    rw [show (ByteArray.mk t.toArray).data.toList = t by simp, hpt.out]
    simp only [mkRet]
    have HBY := Lib.hid (HBX.out.trans (hb6.mono HBX.out.size))
    have BY := Lib.hid (BX.out.below hb6 BX.out.lt)
    have CY := Lib.hid (CX.out.below hb6 CX.out.lt)
    clear hb6 HBX BX CX
    have hltb : w.heap.size < w6.heap.size := BY.out.lt
    have hltc : w3.heap.size < w6.heap.size := CY.out.lt
    have CC := Lib.hid (CY.out.alloc (.cells #[.int .i64 mr, .int .i64 mc, .bool fr, .bool fc] 28))
    have HBB := Lib.hid (HBY.out.alloc HBY.out.size (.cells #[.int .i64 mr, .int .i64 mc, .bool fr, .bool fc] 28))
    obtain ⟨⟨x0, x1, x2, x3⟩, x4⟩ := BY.out.four
    obtain ⟨⟨z0, z1, z2, z3⟩, z4⟩ := CY.out.four
    clear x4 z4
    rcases HOK.out with ⟨rfl, hp⟩ | ⟨rfl, _, rfl, rfl, rfl, rfl⟩
    · have HL := Lib.hid (parse_len _ _ hp)
      clear hp
      go_wp2_with fail
      refine (text_any _ _ _ _ _ (tab_below HT.out HBB.out)).mono ?_
      rintro e wz ⟨rfl, hbz⟩
      have HBZ := Lib.hid (HBB.out.trans (hbz.mono HBB.out.size))
      clear hbz
      have hlen := Lib.hid (show (textL ⟨xr, xc, xa, xb⟩).length = s.size by rw [HL.out]; simp)
      generalize textL ⟨xr, xc, xa, xb⟩ = u at hlen ⊢
      have hle : ((u.length : Int) == (s.size : Int)) = true := by simp; have := hlen.out; omega
      go_wp2_with fail
      go_ret
      exact ⟨ret_bool (by simp [hlen.out]), HBZ.out⟩
    · go_wp2_with fail
      go_ret
      exact ⟨rfl, HBB.out⟩
end Go.Proofs.YtlbiofmcanjijaaDoor
