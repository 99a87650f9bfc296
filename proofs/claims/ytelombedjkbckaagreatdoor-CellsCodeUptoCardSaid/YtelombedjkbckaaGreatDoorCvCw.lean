/- tree.codeOfValue. tree.codeOf. -/
import Derived.Test.YtelombedjkbckaaGreatDoorCoCp
import Derived.Test.YtelombedjkbckaaGreatDoorOvNoGt
namespace Go.Proofs.YtelombedjkbckaaGreatDoor
open Go.RowKit Go.Shelf

def valL (v : Vl) : List UInt8 :=
  if v.k = 1 then [78] ++ Lib.itoa v.mant ++ [101] ++ Lib.itoa v.exp
  else if v.k = 2 then [83] ++ sizedL v.text.data.toList
  else if v.k = 3 then (if v.truth then [84] else [70])
  else [69] ++ Lib.itoa v.fault

theorem keepv {W w1 w2 : World} {g : Nat} {v1 v2 : Value} (hg : g < W.heap.size) (h : w1.cell? ⟨g, 1, none⟩ = some v1 ∧ w1.cell? ⟨g, 2, none⟩ = some v2 ∧ Below W.heap.size W w1) (hb : Below w1.heap.size w1 w2) :
    w2.cell? ⟨g, 1, none⟩ = some v1 ∧ w2.cell? ⟨g, 2, none⟩ = some v2 ∧ Below W.heap.size W w2 := by
  obtain ⟨h0, h1, h4⟩ := h
  have hlt : g < w1.heap.size := Nat.lt_of_lt_of_le hg h4.size
  exact ⟨(hb.cell (p := ⟨g, 1, none⟩) hlt).trans h0, (hb.cell (p := ⟨g, 2, none⟩) hlt).trans h1, h4.trans (hb.mono h4.size)⟩

set_option maxRecDepth 100000 in
set_option maxHeartbeats 2000000 in
theorem codeOfValue1 (m x f : Int) (s : ByteArray) (b : Bool) (hm : i64 m) (hx : i64 x) (w : World) (ht : Tab w) :
    Calls Tryz.prog 90 #[.agg #[.int .i64 1, .int .i64 m, .int .i64 x, .string s, .bool b, .int .i64 f]] w fun e w' => e = .returned (S ([78] ++ Lib.itoa m ++ [101] ++ Lib.itoa x)) ∧ Below w.heap.size w w' := by
  have l1 := itoa_le m hm
  have l2 := itoa_le x hx
  have HT2 := Lib.hid (tab_alloc ht (.cells #[.int .i64 1, .int .i64 m, .int .i64 x, .string s, .bool b, .int .i64 f] 34))
  have hIA := fun w (h : Tab w) => itoa_any m w hm h
  have hIN := fun w (h : Tab w) => itoa_any x w hx h
  generalize Lib.itoa m = la at *
  generalize Lib.itoa x = ln at *
  have HIA := Lib.hid hIA
  have HIN := Lib.hid hIN
  clear hIA hIN ht hm hx
  go_enter Tryz.func90, Tryz.ntmps90
  go_wp2_with fail
  generalize hW : w.alloc (.cells _ 34) = W at HT2 ⊢
  have k0 : W.cell? ⟨w.heap.size, 1, none⟩ = some (.int .i64 m) := by rw [← hW]; simp
  have k1 : W.cell? ⟨w.heap.size, 2, none⟩ = some (.int .i64 x) := by rw [← hW]; simp
  have HW := Lib.hid hW
  clear hW
  have hgW : w.heap.size < W.heap.size := by rw [← HW.out]; simp
  have hBW := Lib.hid (show Below w.heap.size w W by rw [← HW.out]; exact (Below.refl _ _).alloc (Nat.le_refl _) _)
  have hb0 : Below W.heap.size W W.drew := (Below.refl _ _).drew
  have n1 : ¬ 9223372036854775807 < 1 + la.length := by omega
  have n2 : ¬ 9223372036854775807 < 1 + la.length + 1 := by omega
  have n3 : ¬ 9223372036854775807 < 1 + la.length + 1 + ln.length := by omega
  go_region_held3 (fun w' => w'.cell? ⟨w.heap.size, 1, none⟩ = some (.int .i64 m) ∧ w'.cell? ⟨w.heap.size, 2, none⟩ = some (.int .i64 x) ∧ Below W.heap.size W w') (first | exact ⟨k0, k1, hb0⟩ | assumption | exact keepv hgW (by assumption) (by assumption))
    (first | (go_at_call_of 93 m; refine (HIA.out _ (tab_below HT2.out (And.right (And.right (by assumption))))).mono ?_; rintro e w' ⟨rfl, hb⟩) | (go_at_call_of 93 x; refine (HIN.out _ (tab_below HT2.out (And.right (And.right (by assumption))))).mono ?_; rintro e w' ⟨rfl, hb⟩))
  all_goals
    go_wp2
    go_ret
    refine ⟨ret_str (by simp), hBW.out.trans (Below.mono ?_ hBW.out.size)⟩
    rename_i hS
    exact hS.2.2

set_option maxRecDepth 100000 in
set_option maxHeartbeats 2000000 in
theorem codeOfValue_any (v : Vl) (hv : v.ok) (hs : v.text.size ≤ 9223372036854000000) (w : World) (ht : Tab w) :
    Calls Tryz.prog 90 #[.agg #[.int .i64 v.k, .int .i64 v.mant, .int .i64 v.exp, .string v.text, .bool v.truth, .int .i64 v.fault]] w fun e w' => e = .returned (S (valL v)) ∧ Below w.heap.size w w' := by
  obtain ⟨k, m, x, s, b, f⟩ := v
  obtain ⟨_, hm, hx, _, hf⟩ := hv
  dsimp only at hs hm hx hf ⊢
  unfold valL
  dsimp only
  by_cases h1 : k = 1
  · subst h1
    exact codeOfValue1 m x f s b hm hx w ht
  rw [if_neg h1]
  have hBW : Below w.heap.size w (w.alloc (.cells #[.int .i64 k, .int .i64 m, .int .i64 x, .string s, .bool b, .int .i64 f] 34)) := (Below.refl _ _).alloc (Nat.le_refl _) _
  have htW := tab_below ht hBW
  by_cases h2 : k = 2
  · subst h2
    rw [if_pos rfl]
    have hI := sized_any s (by omega) _ htW
    have hl : (sizedL s.data.toList).length ≤ s.size + 22 := by
      have := itoa_le (s.data.toList.length : Int) (by unfold i64; simp; omega)
      have h3 : s.data.toList.length = s.size := by simp
      unfold sizedL; simp only [List.length_append, List.length_singleton]; omega
    generalize sizedL s.data.toList = l at *
    have HI := Lib.hid hI
    have HB := Lib.hid hBW
    have n1 : ¬ 9223372036854775807 < 1 + l.length := by omega
    clear hI hBW htW ht hm hx hf h1
    go_enter Tryz.func90, Tryz.ntmps90
    go_wp2_with (go_at_call 92; refine HI.out.mono ?_; rintro e w' ⟨rfl, hb⟩)
    go_ret
    exact ⟨ret_str (by simp), HB.out.trans (hb.mono HB.out.size)⟩
  rw [if_neg h2]
  by_cases h3 : k = 3
  · subst h3
    rw [if_pos rfl]
    have HB := Lib.hid hBW
    clear hBW htW ht hm hx hf h1 h2
    cases b
    all_goals
      go_enter Tryz.func90, Tryz.ntmps90
      go_wp2
      go_ret
      exact ⟨rfl, HB.out⟩
  rw [if_neg h3]
  have hI := itoa_any f _ hf htW
  have l1 := itoa_le f hf
  generalize Lib.itoa f = l at *
  have HI := Lib.hid hI
  have HB := Lib.hid hBW
  have n1 : ¬ 9223372036854775807 < 1 + l.length := by omega
  clear hI hBW htW ht hm hx hf
  go_enter Tryz.func90, Tryz.ntmps90
  go_wp2_with (go_at_call 93; refine HI.out.mono ?_; rintro e w' ⟨rfl, hb⟩)
  go_ret
  exact ⟨ret_str (by simp), HB.out.trans (hb.mono HB.out.size)⟩
end Go.Proofs.YtelombedjkbckaaGreatDoor
namespace Go.Proofs.YtelombedjkbckaaGreatDoor
open Go.RowKit Go.Shelf

/-- a node's own part; n: how many nodes stand below it. -/
def partL (d : ND) (n : Nat) : List UInt8 :=
  if d.kind = 0 then valL d.v
  else if d.kind = 1 then [79] ++ cornerL d.a
  else if d.kind = 3 then [80] ++ cornerL d.a
  else if d.kind = 2 then [82] ++ cornerL d.a ++ [58] ++ cornerL d.b
  else if d.kind = 4 then [67] ++ sizedL d.name.data.toList ++ [44] ++ Lib.itoa n
  else if d.kind = 5 then [85] ++ d.name.data.toList
  else if d.kind = 6 then [66] ++ d.name.data.toList
  else if d.kind = 7 then [77] ++ sizedL d.name.data.toList
  else if d.kind = 8 then [65] ++ Lib.itoa d.rows ++ [44] ++ Lib.itoa n
  else [88]
theorem sized_le (s : ByteArray) (hs : s.size ≤ 9223372036854000000) : (sizedL s.data.toList).length ≤ s.size + 22 := by
  have := itoa_le (s.data.toList.length : Int) (by unfold i64; simp; omega)
  have h3 : s.data.toList.length = s.size := by simp
  unfold sizedL; simp only [List.length_append, List.length_singleton]; omega

theorem belowT {C : Prop} {w w1 w2 : World} (h : C ∧ Below w.heap.size w w1) (hb : Below w1.heap.size w1 w2) : Below w.heap.size w w2 := h.2.trans (hb.mono h.2.size)

set_option maxRecDepth 100000 in
set_option maxHeartbeats 4000000 in
theorem codeOf_any (w : World) (b o : Nat) (d : ND) (A : Option Addr) (n c : Nat) (h : NodeCells w b o d A n c) (hd : d.ok) (hn : n ≤ 9223372036854775807) (hs1 : d.v.text.size ≤ 9223372036854000000) (hs2 : d.name.size ≤ 9223372036854000000) (ht : Tab w) :
    Calls Tryz.prog 64 #[.pointer (some ⟨b, o, none⟩)] w fun e w' => e = .returned (S (partL d n)) ∧ Below w.heap.size w w' := by
  obtain ⟨h0, h1, h2, h3, h4, h5, h6, h7, h8, h9, h10, h11, h12, h13, h14, h15, h16, h17, h18, h19, h20, h21⟩ := h.all
  have hbw : b < w.heap.size := World.block_lt_of_cell? w _ h0
  have hV := fun w (h : Tab w) => codeOfValue_any d.v hd.2.1 hs1 w h
  have hA := fun w (h : Tab w) => codeOfCorner_any d.a hd.2.2.2.1 w h
  have hB := fun w (h : Tab w) => codeOfCorner_any d.b hd.2.2.2.2.1 w h
  have lA := corner_le d.a hd.2.2.2.1
  have lB := corner_le d.b hd.2.2.2.2.1
  have hS := fun w (h : Tab w) => sized_any d.name (by omega) w h
  have lS := sized_le d.name hs2
  have hin : i64 (n : Int) := by unfold i64; omega
  have hI := fun w (h : Tab w) => itoa_any (n : Int) w hin h
  have lI := itoa_le (n : Int) hin
  have hR := fun w (h : Tab w) => itoa_any d.rows w hd.2.2.2.2.2 h
  have lR := itoa_le d.rows hd.2.2.2.2.2
  unfold partL
  obtain ⟨kind, v, name, a, q, rows⟩ := d
  dsimp only at h0 h1 h2 h3 h4 h5 h6 h7 h8 h9 h10 h11 h12 h13 h14 h15 h16 h17 h18 h19 h20 h21 hV hA hB lA lB hS lS hI hR lR hs1 hs2 ⊢
  have hnm : name.data.toList.length = name.size := by simp
  generalize valL v = lv at *
  generalize cornerL a = ca at *
  generalize cornerL q = cq at *
  generalize sizedL name.data.toList = sn at *
  generalize Lib.itoa (n : Int) = li at *
  generalize Lib.itoa rows = lr at *
  have HV := Lib.hid hV
  have HA := Lib.hid hA
  have HB := Lib.hid hB
  have HS := Lib.hid hS
  have HI := Lib.hid hI
  have HR := Lib.hid hR
  have HT := Lib.hid ht
  clear hV hA hB hS hI hR ht h hd hin
  by_cases k0 : kind = 0
  · subst k0
    rw [if_pos rfl]
    go_enter Tryz.func64, Tryz.ntmps64
    go_wp2_with (go_at_call 90; refine (HV.out _ HT.out).mono ?_; rintro e w' ⟨rfl, hb⟩)
    go_ret
    exact ⟨rfl, hb⟩
  rw [if_neg k0]
  by_cases k1 : kind = 1
  · subst k1
    rw [if_pos rfl]
    have n1 : ¬ 9223372036854775807 < 1 + ca.length := by omega
    go_enter Tryz.func64, Tryz.ntmps64
    go_wp2_with (go_at_call 91; refine (HA.out _ HT.out).mono ?_; rintro e w' ⟨rfl, hb⟩)
    go_ret
    exact ⟨ret_str (by simp), hb⟩
  rw [if_neg k1]
  by_cases k3 : kind = 3
  · subst k3
    rw [if_pos rfl]
    have n1 : ¬ 9223372036854775807 < 1 + ca.length := by omega
    go_enter Tryz.func64, Tryz.ntmps64
    go_wp2_with (go_at_call 91; refine (HA.out _ HT.out).mono ?_; rintro e w' ⟨rfl, hb⟩)
    go_ret
    exact ⟨ret_str (by simp), hb⟩
  rw [if_neg k3]
  by_cases k2 : kind = 2
  · subst k2
    rw [if_pos rfl]
    have n1 : ¬ 9223372036854775807 < 1 + ca.length := by omega
    have n2 : ¬ 9223372036854775807 < 1 + ca.length + 1 := by omega
    have n3 : ¬ 9223372036854775807 < 1 + ca.length + 1 + cq.length := by omega
    have hso : ∀ wx, Below w.heap.size w wx → (wx.cell? ⟨b, o + 8, none⟩ = some (.int .i64 a.ra) ∧ wx.cell? ⟨b, o + 9, none⟩ = some (.int .i64 a.rn) ∧ wx.cell? ⟨b, o + 10, none⟩ = some (.int .i64 a.ca) ∧ wx.cell? ⟨b, o + 11, none⟩ = some (.int .i64 a.cn) ∧ wx.cell? ⟨b, o + 12, none⟩ = some (.bool a.fr) ∧ wx.cell? ⟨b, o + 13, none⟩ = some (.bool a.fc) ∧ wx.cell? ⟨b, o + 14, none⟩ = some (.int .i64 q.ra) ∧ wx.cell? ⟨b, o + 15, none⟩ = some (.int .i64 q.rn) ∧ wx.cell? ⟨b, o + 16, none⟩ = some (.int .i64 q.ca) ∧ wx.cell? ⟨b, o + 17, none⟩ = some (.int .i64 q.cn) ∧ wx.cell? ⟨b, o + 18, none⟩ = some (.bool q.fr) ∧ wx.cell? ⟨b, o + 19, none⟩ = some (.bool q.fc)) ∧ Below w.heap.size w wx := fun wx hx => ⟨⟨(hx.cell (p := ⟨b, o + 8, none⟩) hbw).trans h8, (hx.cell (p := ⟨b, o + 9, none⟩) hbw).trans h9, (hx.cell (p := ⟨b, o + 10, none⟩) hbw).trans h10, (hx.cell (p := ⟨b, o + 11, none⟩) hbw).trans h11, (hx.cell (p := ⟨b, o + 12, none⟩) hbw).trans h12, (hx.cell (p := ⟨b, o + 13, none⟩) hbw).trans h13, (hx.cell (p := ⟨b, o + 14, none⟩) hbw).trans h14, (hx.cell (p := ⟨b, o + 15, none⟩) hbw).trans h15, (hx.cell (p := ⟨b, o + 16, none⟩) hbw).trans h16, (hx.cell (p := ⟨b, o + 17, none⟩) hbw).trans h17, (hx.cell (p := ⟨b, o + 18, none⟩) hbw).trans h18, (hx.cell (p := ⟨b, o + 19, none⟩) hbw).trans h19⟩, hx⟩
    have HSO := Lib.hid hso
    have hb0 : Below w.heap.size w w.drew := (Below.refl _ _).drew
    clear hso
    go_enter Tryz.func64, Tryz.ntmps64
    go_wp2
    go_region_held3 (fun wx => (wx.cell? ⟨b, o + 8, none⟩ = some (.int .i64 a.ra) ∧ wx.cell? ⟨b, o + 9, none⟩ = some (.int .i64 a.rn) ∧ wx.cell? ⟨b, o + 10, none⟩ = some (.int .i64 a.ca) ∧ wx.cell? ⟨b, o + 11, none⟩ = some (.int .i64 a.cn) ∧ wx.cell? ⟨b, o + 12, none⟩ = some (.bool a.fr) ∧ wx.cell? ⟨b, o + 13, none⟩ = some (.bool a.fc) ∧ wx.cell? ⟨b, o + 14, none⟩ = some (.int .i64 q.ra) ∧ wx.cell? ⟨b, o + 15, none⟩ = some (.int .i64 q.rn) ∧ wx.cell? ⟨b, o + 16, none⟩ = some (.int .i64 q.ca) ∧ wx.cell? ⟨b, o + 17, none⟩ = some (.int .i64 q.cn) ∧ wx.cell? ⟨b, o + 18, none⟩ = some (.bool q.fr) ∧ wx.cell? ⟨b, o + 19, none⟩ = some (.bool q.fc)) ∧ Below w.heap.size w wx) (first | exact HSO.out _ hb0 | exact HSO.out _ (belowT (by assumption) (by assumption)))
      (first | (go_at_call_of 91 (a.ra); refine (HA.out _ (tab_below HT.out (And.right (by assumption)))).mono ?_; rintro e w' ⟨rfl, hb⟩) | (go_at_call_of 91 (q.ra); refine (HB.out _ (tab_below HT.out (And.right (by assumption)))).mono ?_; rintro e w' ⟨rfl, hb⟩))
    all_goals
      go_wp2
      go_ret
      refine ⟨ret_str (by simp), ?_⟩
      rename_i hS
      exact hS.2
  rw [if_neg k2]
  by_cases k4 : kind = 4
  · subst k4
    rw [if_pos rfl]
    have n1 : ¬ 9223372036854775807 < 1 + sn.length := by omega
    have n2 : ¬ 9223372036854775807 < 1 + sn.length + 1 := by omega
    have n3 : ¬ 9223372036854775807 < 1 + sn.length + 1 + li.length := by omega
    have hso : ∀ wx, Below w.heap.size w wx → (wx.cell? ⟨b, o + 7, none⟩ = some (.string name) ∧ wx.cell? ⟨b, o + 21, none⟩ = some (.slice A n c)) ∧ Below w.heap.size w wx := fun wx hx => ⟨⟨(hx.cell (p := ⟨b, o + 7, none⟩) hbw).trans h7, (hx.cell (p := ⟨b, o + 21, none⟩) hbw).trans h21⟩, hx⟩
    have HSO := Lib.hid hso
    have hb0 : Below w.heap.size w w.drew := (Below.refl _ _).drew
    clear hso
    go_enter Tryz.func64, Tryz.ntmps64
    go_wp2
    go_region_held3 (fun wx => (wx.cell? ⟨b, o + 7, none⟩ = some (.string name) ∧ wx.cell? ⟨b, o + 21, none⟩ = some (.slice A n c)) ∧ Below w.heap.size w wx) (first | exact HSO.out _ hb0 | exact HSO.out _ (belowT (by assumption) (by assumption)))
      (first | (go_at_call 92; refine (HS.out _ (tab_below HT.out (And.right (by assumption)))).mono ?_; rintro e w' ⟨rfl, hb⟩) | (go_at_call 93; refine (HI.out _ (tab_below HT.out (And.right (by assumption)))).mono ?_; rintro e w' ⟨rfl, hb⟩))
    all_goals
      go_wp2
      go_ret
      refine ⟨ret_str (by simp), ?_⟩
      rename_i hS
      exact hS.2
  rw [if_neg k4]
  by_cases k5 : kind = 5
  · subst k5
    rw [if_pos rfl]
    have n1 : ¬ 9223372036854775807 < 1 + name.size := by omega
    go_enter Tryz.func64, Tryz.ntmps64
    go_wp2
    go_ret
    refine ⟨?_, Below.refl _ _⟩
    have : (({ data := #[85] } : ByteArray) ++ name) = ⟨([85] ++ name.data.toList).toArray⟩ := by apply ByteArray.ext; simp [ByteArray.data_append]
    exact congrArg (fun x => Ending.returned (Value.string x)) this
  rw [if_neg k5]
  by_cases k6 : kind = 6
  · subst k6
    rw [if_pos rfl]
    have n1 : ¬ 9223372036854775807 < 1 + name.size := by omega
    go_enter Tryz.func64, Tryz.ntmps64
    go_wp2
    go_ret
    refine ⟨?_, Below.refl _ _⟩
    have : (({ data := #[66] } : ByteArray) ++ name) = ⟨([66] ++ name.data.toList).toArray⟩ := by apply ByteArray.ext; simp [ByteArray.data_append]
    exact congrArg (fun x => Ending.returned (Value.string x)) this
  rw [if_neg k6]
  by_cases k7 : kind = 7
  · subst k7
    rw [if_pos rfl]
    have n1 : ¬ 9223372036854775807 < 1 + sn.length := by omega
    go_enter Tryz.func64, Tryz.ntmps64
    go_wp2_with (go_at_call 92; refine (HS.out _ HT.out).mono ?_; rintro e w' ⟨rfl, hb⟩)
    go_ret
    exact ⟨ret_str (by simp), hb⟩
  rw [if_neg k7]
  by_cases k8 : kind = 8
  · subst k8
    rw [if_pos rfl]
    have n1 : ¬ 9223372036854775807 < 1 + lr.length := by omega
    have n2 : ¬ 9223372036854775807 < 1 + lr.length + 1 := by omega
    have n3 : ¬ 9223372036854775807 < 1 + lr.length + 1 + li.length := by omega
    have hso : ∀ wx, Below w.heap.size w wx → (wx.cell? ⟨b, o + 20, none⟩ = some (.int .i64 rows) ∧ wx.cell? ⟨b, o + 21, none⟩ = some (.slice A n c)) ∧ Below w.heap.size w wx := fun wx hx => ⟨⟨(hx.cell (p := ⟨b, o + 20, none⟩) hbw).trans h20, (hx.cell (p := ⟨b, o + 21, none⟩) hbw).trans h21⟩, hx⟩
    have HSO := Lib.hid hso
    have hb0 : Below w.heap.size w w.drew := (Below.refl _ _).drew
    clear hso
    go_enter Tryz.func64, Tryz.ntmps64
    go_wp2
    go_region_held3 (fun wx => (wx.cell? ⟨b, o + 20, none⟩ = some (.int .i64 rows) ∧ wx.cell? ⟨b, o + 21, none⟩ = some (.slice A n c)) ∧ Below w.heap.size w wx) (first | exact HSO.out _ hb0 | exact HSO.out _ (belowT (by assumption) (by assumption)))
      (first | (go_at_call_of 93 rows; refine (HR.out _ (tab_below HT.out (And.right (by assumption)))).mono ?_; rintro e w' ⟨rfl, hb⟩) | (go_at_call_of 93 n; refine (HI.out _ (tab_below HT.out (And.right (by assumption)))).mono ?_; rintro e w' ⟨rfl, hb⟩))
    all_goals
      go_wp2
      go_ret
      refine ⟨ret_str (by simp), ?_⟩
      rename_i hS
      exact hS.2
  rw [if_neg k8]
  go_enter Tryz.func64, Tryz.ntmps64
  go_wp2
  go_ret
  exact ⟨rfl, Below.refl _ _⟩
end Go.Proofs.YtelombedjkbckaaGreatDoor
