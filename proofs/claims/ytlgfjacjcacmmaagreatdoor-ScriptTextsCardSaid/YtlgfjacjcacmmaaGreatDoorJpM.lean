/- script: Text. -/
import Derived.Test.YtlgfjacjcacmmaaGreatDoorJlM
import Derived.Test.YtlgfjacjcacmmaaGreatDoorBuM
namespace Go.Proofs.YtlgfjacjcacmmaaGreatDoor
set_option linter.unusedSimpArgs false
set_option linter.unusedVariables false
open Go Go.RowKit Go.Shelf

theorem isBuilder_keep {T e : TypeId} {B b : Nat} {bs : List Value} {W W' : World} (h : Lib.IsBuilder T e B b bs W) (hk : ∀ (k : Nat) (cs : Array Value) (t : TypeId) (fz : Nat × Nat), W.heap[k]? = some (Obj.cells cs t fz) → (t = T ∨ t = e) → W'.heap[k]? = W.heap[k]?) : Lib.IsBuilder T e B b bs W' := by
  have key : ∀ p, Lib.BuilderAt T e B b p bs W → Lib.BuilderAt T e B b p bs W' := by
    rintro p ⟨hB, v, hb, hown, hne⟩
    refine ⟨hB, v, (hk b _ _ _ hb (.inl rfl)).trans hb, ⟨hown.1, ?_⟩, hne⟩
    rcases hown.2 with h | ⟨g, cap, cur, h1, h2, h3, h4⟩
    · exact .inl h
    · exact .inr ⟨g, cap, cur, h1, h2, (hk g _ _ _ h3 (.inr rfl)).trans h3, h4⟩
  exact h.elim (fun x => .inl (key _ x)) (fun x => .inr (key _ x))

/-- a script's text; none: empty. -/
def textI (s : Scr) : List UInt8 := if scrB s = true then textS s else []
/-- behind so many steps. -/
def textP (s : Scr) (j : Nat) : List UInt8 := headL s ++ 10 :: linesL (s.steps.take j)
theorem textP_next {s : Scr} {j : Nat} (h : j < s.steps.length) : textP s (j + 1) = textP s j ++ (stepL s.steps[j] ++ [10]) := by
  unfold textP
  rw [List.take_succ_eq_append_getElem h, linesL_append]
  simp [linesL]
theorem textP_all (s : Scr) : textP s s.steps.length = textS s := by unfold textP textS; rw [List.take_length]
theorem textP_len {s : Scr} (h : scrB s = true) (j : Nat) : (textP s j).length ≤ 80300 := by
  obtain ⟨h1, h2, h3⟩ := scrB_iff.1 h
  have := lines_len s.wr (scrB_wr h1) (s.steps.take j) (fun x hx => h3 x (List.mem_of_mem_take hx))
  have := headL_len h1
  have hl : (s.steps.take j).length ≤ 200 := by rw [List.length_take]; omega
  unfold textP
  rw [List.length_append, List.length_cons]
  omega
theorem cat_cells (a b : List UInt8) : Lib.byteCells (a ++ (b ++ [10])) = Lib.byteCells a ++ Lib.strCells ⟨b.toArray⟩ ++ [.int .u8 10] := by simp [Lib.byteCells, Lib.strCells]
theorem sizeP (l : List UInt8) : (⟨l.toArray⟩ : ByteArray).size = l.length := by simp [ByteArray.size]

set_option maxRecDepth 100000 in
set_option maxHeartbeats 4000000 in
theorem stext_c (s : Scr) (w : World) (B : Nat) (A : Option Addr) (c : Nat) (hB : B ≤ w.heap.size) (hs : StpsAt w B 45 A c s.steps) (hf : ∀ x ∈ s.steps, x.fit) (hi : i64 s.rows ∧ i64 s.cols ∧ i64 s.wr) (ht : Tab w) :
    Calls Tryz.prog 12 #[.agg #[.int .i64 s.rows, .int .i64 s.cols, .int .i64 s.wr, .slice A s.steps.length c]] w fun e w' => e = .returned (.tuple #[S (textI s), .int .i64 (if scrB s = true then 0 else 6)]) ∧ Below w.heap.size w w' := by
  obtain ⟨n, hn⟩ : ∃ n, s.steps.length = n := ⟨_, rfl⟩
  have hRT := fun (wx : World) (hx : Below w.heap.size w wx) => sright_c s wx B A c (by have := hx.size; omega) (hs.below (hx.mono hB)) hf
  have hHT := fun (wx : World) (hx : Below w.heap.size w wx) => headText_c s A n c wx hi.1 hi.2.1 hi.2.2 (tab_below ht hx)
  rw [hn] at hRT
  rw [hn]
  obtain ⟨W, hW⟩ : ∃ W, W = w.alloc (.cells #[.int .i64 s.rows, .int .i64 s.cols, .int .i64 s.wr, .slice A n c] 25) := ⟨_, rfl⟩
  obtain ⟨g, hg⟩ : ∃ g, g = w.heap.size := ⟨_, rfl⟩
  have hbW : Below w.heap.size w W := by rw [hW]; exact (Below.refl _ w).alloc (Nat.le_refl _) _
  have hkW : W.heap[g]? = some (.cells #[.int .i64 s.rows, .int .i64 s.cols, .int .i64 s.wr, .slice A n c] 25) := by rw [hW, hg]; exact heap_alloc_new w _
  have hzW : W.heap.size = g + 1 := by rw [hW, hg]; simp
  obtain ⟨r, hr⟩ : ∃ r, scrB s = r := ⟨_, rfl⟩
  have HSR := Lib.hid hr
  rw [hr] at hRT
  have htx : textI s = if r = true then textS s else [] := by unfold textI; rw [hr]
  rw [htx, hr]
  obtain ⟨TI, hTI⟩ : ∃ x, (if r = true then textS s else []) = x := ⟨_, rfl⟩
  obtain ⟨EI, hEI⟩ : ∃ x : Int, (if r = true then (0 : Int) else 6) = x := ⟨_, rfl⟩
  rw [hTI, hEI]
  have HTI := Lib.hid hTI
  have HEI := Lib.hid hEI
  clear hTI hEI
  obtain ⟨rows, cols, ws, l⟩ := s
  dsimp only at *
  have HRT := Lib.hid hRT
  have HHT := Lib.hid hHT
  have HW := Lib.hid hW
  have HG := Lib.hid hg
  have HBW := Lib.hid hbW
  have HKW := Lib.hid hkW
  have HZW := Lib.hid hzW
  have HS := Lib.hid hs
  have HF := Lib.hid hf
  have HN := Lib.hid hn
  have HT := Lib.hid ht
  have HBB := Lib.hid hB
  clear hRT hHT hbW hkW hzW hs hf hn ht hr htx hi hB
  go_enter Tryz.func12, Tryz.ntmps12
  go_upto_region 1 with (fail)
  rw [← hW, ← hg]
  clear hW hg
  have q0 : W.cell? ⟨g, 0, none⟩ = some (.int .i64 rows) := cell_of_row W g 0 _ _ _ HKW.out
  have q1 : W.cell? ⟨g, 1, none⟩ = some (.int .i64 cols) := cell_of_row W g 1 _ _ _ HKW.out
  have q2 : W.cell? ⟨g, 2, none⟩ = some (.int .i64 ws) := cell_of_row W g 2 _ _ _ HKW.out
  have q3 : W.cell? ⟨g, 3, none⟩ = some (.slice A n c) := cell_of_row W g 3 _ _ _ HKW.out
  cases r with
  | false =>
    obtain rfl : TI = [] := by rw [← HTI.out]; rfl
    obtain rfl : EI = 6 := by rw [← HEI.out]; rfl
    go_wp2_with (go_at_call 14; refine (HRT.out _ HBW.out).mono ?_; rintro e w1 ⟨rfl, hb1⟩)
    go_ret2
    exact ⟨rfl, HBW.out.trans (hb1.mono (by have := HZW.out; have := HG.out; omega))⟩
  | true =>
    obtain rfl : TI = textS ⟨rows, cols, ws, l⟩ := by rw [← HTI.out]; rfl
    obtain rfl : EI = 0 := by rw [← HEI.out]; rfl
    go_wp2_with fail
    refine (HRT.out _ HBW.out).mono ?_
    rintro e w1 ⟨rfl, hb1⟩
    have HB1 := Lib.hid (show Below w.heap.size w w1 from HBW.out.trans (hb1.mono (by have := HZW.out; have := HG.out; omega)))
    have HK1 := Lib.hid ((hb1.block g (by rw [HZW.out]; omega)).trans HKW.out)
    clear q0 q1 q2 q3 hb1
    obtain ⟨b, hb⟩ : ∃ b, b = w1.heap.size := ⟨_, rfl⟩
    obtain ⟨W2, hW2⟩ : ∃ x, x = w1.alloc (.cells #[.pointer none, .slice none 0 0] 57) := ⟨_, rfl⟩
    have hgb : g < b := by rw [hb]; exact (Array.getElem?_eq_some_iff.1 HK1.out).1
    have hwb : w.heap.size ≤ b := by rw [hb]; exact HB1.out.size
    have HI2 : Hid (Lib.IsBuilder 57 5 b b (Lib.byteCells []) W2) := Lib.hid (by rw [hW2, hb]; exact Lib.fresh_isBuilder 57 5 w1)
    have HB2 := Lib.hid (show Below b w1 W2 by rw [hW2, hb]; exact (Below.refl _ w1).alloc (Nat.le_refl _) _)
    have HZ2 := Lib.hid (show W2.heap.size = b + 1 by rw [hW2, hb]; simp)
    have HGB := Lib.hid hgb
    have HWB := Lib.hid hwb
    clear hgb hwb
    go_upto_region 4 with (fail)
    rw [← hb, ← hW2]
    clear hb hW2
    have hk : ∀ wx : World, Below b w1 wx → Hid (wx.heap[g]? = some (.cells #[.int .i64 rows, .int .i64 cols, .int .i64 ws, .slice A n c] 25)) := fun wx hx => Lib.hid ((hx.block g HGB.out).trans HK1.out)
    have hbl : ∀ wx : World, Below b w1 wx → Hid (Below w.heap.size w wx) := fun wx hx => Lib.hid (HB1.out.trans (hx.mono HWB.out))
    have q0 : W2.cell? ⟨g, 0, none⟩ = some (.int .i64 rows) := cell_of_row W2 g 0 _ _ _ (hk _ HB2.out).out
    have q1 : W2.cell? ⟨g, 1, none⟩ = some (.int .i64 cols) := cell_of_row W2 g 1 _ _ _ (hk _ HB2.out).out
    have q2 : W2.cell? ⟨g, 2, none⟩ = some (.int .i64 ws) := cell_of_row W2 g 2 _ _ _ (hk _ HB2.out).out
    have q3 : W2.cell? ⟨g, 3, none⟩ = some (.slice A n c) := cell_of_row W2 g 3 _ _ _ (hk _ HB2.out).out
    go_wp2_with fail
    refine (HHT.out _ (hbl _ HB2.out).out).mono ?_
    rintro e w3 ⟨rfl, hb3⟩
    have HB3 := Lib.hid (HB2.out.trans (hb3.mono (by rw [HZ2.out]; omega)))
    have hI3 := isBuilder_keep HI2.out (fun k cs t fz hk _ => hb3.block k (Array.getElem?_eq_some_iff.1 hk).1)
    have hlh : (headL ⟨rows, cols, ws, l⟩).length ≤ 20 := headL_len (scrB_iff.1 HSR.out).1
    have hz3 : b ≤ w3.heap.size := by have := hb3.size; have := HZ2.out; omega
    have hWS := writeString_any b b (Lib.byteCells []) ⟨(headL ⟨rows, cols, ws, l⟩).toArray⟩ w3 hI3 (by rw [Lib.byteCells_length, sizeP]; simp; omega) hz3
    have HWS := Lib.hid hWS
    have HZ3 := Lib.hid hz3
    clear hWS hI3 hlh q0 q1 q2 q3 hb3 hz3
    go_wp2_with fail
    refine HWS.out.mono ?_
    rintro e w4 ⟨rfl, hI4, hb4, -⟩
    have HB4 := Lib.hid (HB3.out.trans hb4)
    have hlh : (headL ⟨rows, cols, ws, l⟩).length ≤ 20 := headL_len (scrB_iff.1 HSR.out).1
    have hWY := writeByte_any b b _ 10 w4 (.inr hI4) (by rw [List.length_append, Lib.byteCells_length]; simp [Lib.strCells]; omega) (by have := HZ3.out; have := hb4.size; omega)
    have HWY := Lib.hid hWY
    clear hWY hlh hI4 hb4
    go_wp2_with fail
    refine HWY.out.mono ?_
    rintro e w5 ⟨rfl, hI5, hb5, -⟩
    have HB5 := Lib.hid (HB4.out.trans hb5)
    have HI5 : Hid (Lib.IsBuilder 57 5 b b (Lib.byteCells (textP ⟨rows, cols, ws, l⟩ 0)) w5) := Lib.hid (by
      have e : Lib.byteCells (textP ⟨rows, cols, ws, l⟩ 0) = Lib.byteCells [] ++ Lib.strCells ⟨(headL ⟨rows, cols, ws, l⟩).toArray⟩ ++ [.int .u8 10] := by
        have := cat_cells [] (headL ⟨rows, cols, ws, l⟩)
        rw [← this]
        simp [textP, linesL]
      rw [e]
      exact .inr hI5)
    have q3 : w5.cell? ⟨g, 3, none⟩ = some (.slice A n c) := cell_of_row w5 g 3 _ _ _ (hk _ HB5.out).out
    clear hI5 hb5
    go_wp2_with fail
    clear q3
    have hn200 : n ≤ 200 := by have h1 := (scrB_iff.1 HSR.out).2.1; have h2 := HN.out; dsimp only at h1; omega
    go_loopw [17] (fun i wr => ∃ j : Nat, j ≤ n ∧ i = .int .i64 j ∧ Hid (Below b w1 wr) ∧ Hid (Lib.IsBuilder 57 5 b b (Lib.byteCells (textP ⟨rows, cols, ws, l⟩ j)) wr)) (fun i _ => n - (intOf i).toNat)
    case atStart => exact ⟨0, Nat.zero_le _, rfl, HB5, HI5⟩
    case round =>
      obtain ⟨j, hj, rfl, hbr, hIr⟩ := hrel
      have hbs : b < wr.heap.size := by
        rcases hIr.out with h | h <;> exact h.lt
      by_cases hlt : j < n
      · have hjl : j < l.length := by rw [HN.out]; exact hlt
        obtain ⟨b2, o2, hA, hbB, hrg⟩ := (HS.out.below ((hbl _ hbr.out).out.mono HBB.out)).at_ hjl
        subst hA
        have hst : stepB l[j] ws = true := (scrB_iff.1 HSR.out).2.2 _ (List.getElem_mem hjl)
        have hws : ws ≤ 9999 := scrB_wr (s := ⟨rows, cols, ws, l⟩) (scrB_iff.1 HSR.out).1
        have hC := fun (wx : World) (hx : Below w.heap.size w wx) => stepText_c l[j] ws hws hst wx (tab_below HT.out hx)
        have hi := infSt l[j]
        have hnx := textP_next (s := ⟨rows, cols, ws, l⟩) hjl
        have hl1 := textP_len HSR.out (j + 1)
        dsimp only at hnx
        obtain ⟨L, hL⟩ : ∃ L, stepL l[j] = L := ⟨_, rfl⟩
        rw [hL] at hC hnx
        rw [hnx] at hl1
        simp only [List.length_append, List.length_singleton] at hl1
        clear hst hL
        generalize l[j] = x at hC hi hrg
        obtain ⟨k, wr', dst, row, col, name, text⟩ := x
        unfold Stp.cs at hC hi hrg
        dsimp only at hC hi hrg
        have HC := Lib.hid hC
        have HI := Lib.hid hi
        have HRG := Lib.hid hrg
        have HNX := Lib.hid hnx
        have HL1 := Lib.hid hl1
        have HBS := Lib.hid hbs
        have hj1 : (j : Int) < (n : Int) := by omega
        have hj0 : (0 : Int) ≤ (j : Int) := by omega
        clear hC hi hrg hnx hl1 hbs
        go_wp2_with (first | (refine wpList_load_mid rfl 45 _ rfl b2 (o2 + j * 7) rfl _ _ HRG.out undSt rfl HI.out ?_) | fail)
        refine (HC.out _ ((hbl _ hbr.out).out.alloc (by have := HWB.out; have := HBS.out; omega) _)).mono ?_
        rintro e w6 ⟨rfl, hb6⟩
        have hb6' : Below wr.heap.size wr w6 := ((Below.refl _ wr).alloc (Nat.le_refl _) _).trans (hb6.mono (by simp))
        have HB6 := Lib.hid (hbr.out.trans (hb6'.mono (by have := HBS.out; omega)))
        have hI6 := isBuilder_keep hIr.out (fun k cs t fz hk _ => hb6'.block k (Array.getElem?_eq_some_iff.1 hk).1)
        have hWS := writeString_any b b _ ⟨L.toArray⟩ w6 hI6 (by rw [Lib.byteCells_length, sizeP]; have := HL1.out; omega) (by have := hb6'.size; have := HBS.out; omega)
        have HWS := Lib.hid hWS
        have HZ6 := Lib.hid hb6'.size
        clear hWS hI6 hb6 hb6'
        go_wp2_with fail
        refine HWS.out.mono ?_
        rintro e w7 ⟨rfl, hI7, hb7, -⟩
        have HB7 := Lib.hid (HB6.out.trans hb7)
        have hWY := writeByte_any b b _ 10 w7 (.inr hI7) (by rw [List.length_append, Lib.byteCells_length]; have := HL1.out; simp [Lib.strCells]; omega) (by have := hb7.size; have := HZ6.out; have := HBS.out; omega)
        have HWY := Lib.hid hWY
        clear hWY hI7 hb7
        go_wp2_with fail
        refine HWY.out.mono ?_
        rintro e w8 ⟨rfl, hI8, hb8, -⟩
        have HB8 := Lib.hid (HB7.out.trans hb8)
        have HI8 := Lib.hid hI8
        clear hI8 hb8
        go_wp2
        go_roundw
        case rel => exact ⟨j + 1, by omega, by go_num, HB8, Lib.hid (by rw [HNX.out, cat_cells]; exact .inr HI8.out)⟩
        case measure => simp [intOf]; omega
      · obtain rfl : j = n := by omega
        have hI9 := hIr.out
        rw [← HN.out, textP_all ⟨rows, cols, ws, l⟩] at hI9
        have hstr := Tryz.Builder_String_any_k b b (textS ⟨rows, cols, ws, l⟩) wr (Lib.IsBuilderF.of hI9) (by omega)
        have HST := Lib.hid hstr
        clear hstr hI9
        go_wp2_with (go_at_call 27; refine HST.out.mono ?_; rintro e w9 ⟨rfl, -, hb9, -⟩)
        go_ret2
        exact ⟨rfl, (hbl _ hbr.out).out.trans (hb9.mono HWB.out)⟩
end Go.Proofs.YtlgfjacjcacmmaaGreatDoor
