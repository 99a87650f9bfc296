/- The walk of Parse. -/
import Derived.Test.YtlbiofmcanjijaaDoorW5
import Derived.Test.YtlbiofmcanjijaaDoorMem
namespace Go.Proofs.YtlbiofmcanjijaaDoor
open Go.RowKit
open Ad

def isLet (b : UInt8) : Bool := decide (0 ≤ cap b)
def parseL (s : List UInt8) : Option Mk :=
  match col ((Lib.trimPrefix s [36]).takeWhile isLet) with
  | none => none
  | some c =>
    match num (Lib.trimPrefix ((Lib.trimPrefix s [36]).dropWhile isLet) [36]) with
    | none => none
    | some n => some ⟨n - 1, c, Lib.hasPrefix ((Lib.trimPrefix s [36]).dropWhile isLet) [36], Lib.hasPrefix s [36]⟩

def Scan (s : ByteArray) (k : Nat) : Prop :=
  s.data.toList.take k ++ (s.data.toList.drop k).takeWhile isLet = s.data.toList.takeWhile isLet ∧ (s.data.toList.drop k).dropWhile isLet = s.data.toList.dropWhile isLet
theorem scan0 (s : ByteArray) : Scan s 0 := ⟨by simp, by simp⟩
theorem scan_step (s : ByteArray) (k : Nat) (h : k < s.size) (hi : isLet s[k] = true) (hs : Scan s k) : Scan s (k + 1) := by
  obtain ⟨h1, h2⟩ := hs
  rw [drop_cons s k h] at h1 h2
  rw [List.takeWhile_cons, if_pos hi] at h1
  rw [List.dropWhile_cons, if_pos hi] at h2
  refine ⟨?_, h2⟩
  rw [← h1, List.take_succ_eq_append_getElem (by simpa using h)]
  simp
  rfl
theorem scan_end (s : ByteArray) (k : Nat) (hs : Scan s k) (h : ∀ h : k < s.size, isLet s[k] = false) : s.data.toList.take k = s.data.toList.takeWhile isLet ∧ s.data.toList.drop k = s.data.toList.dropWhile isLet := by
  obtain ⟨h1, h2⟩ := hs
  by_cases hk : k < s.size
  · have hi := h hk
    rw [drop_cons s k hk] at h1 h2 ⊢
    rw [List.takeWhile_cons, if_neg (by simp [hi])] at h1
    rw [List.dropWhile_cons, if_neg (by simp [hi])] at h2
    exact ⟨by simpa using h1, h2⟩
  · rw [drop_end s k hk] at h1 h2 ⊢
    exact ⟨by simpa using h1, by simpa using h2⟩

theorem isLet_iff (b : UInt8) : isLet b = true ↔ (65 ≤ b.toNat ∧ b.toNat ≤ 90) ∨ (97 ≤ b.toNat ∧ b.toNat ≤ 122) := by
  unfold isLet cap
  simp only [decide_eq_true_eq]
  split
  · omega
  · split <;> omega

theorem bcell {W w1 : World} (hb : Below W.heap.size W w1) : (∀ b o, b < W.heap.size → w1.cell? ⟨b, o, none⟩ = W.cell? ⟨b, o, none⟩) ∧ (∀ b o, b < W.heap.size → w1.frozen? ⟨b, o, none⟩ = W.frozen? ⟨b, o, none⟩) :=
  ⟨fun b o h => hb.cell (p := ⟨b, o, none⟩) h, fun b o h => hb.frozen (p := ⟨b, o, none⟩) h⟩

def mkRet (o : Option Mk) : Ending :=
  match o with
  | none => .returned (.tuple #[.agg #[.int .i64 0, .int .i64 0, .bool false, .bool false], .bool false])
  | some m => .returned (.tuple #[.agg #[.int .i64 m.row, .int .i64 m.col, .bool m.fr, .bool m.fc], .bool true])


theorem trim_le (s p : List UInt8) : (Lib.trimPrefix s p).length ≤ s.length := by
  unfold Lib.trimPrefix; split
  · simp
  · exact Nat.le_refl _
theorem cutP (s : ByteArray) (c : UInt8) (w : World) :
    Calls Tryd.prog 29 #[.string s, .string ⟨#[c]⟩] w fun e w' => ∃ (s1 : ByteArray) (b : Bool), e = .returned (.tuple #[.string s1, .bool b]) ∧ s1.size ≤ s.size ∧ Hid (s1.data.toList = Lib.trimPrefix s.data.toList [c]) ∧ Hid (b = Lib.hasPrefix s.data.toList [c]) ∧ w = w' :=
  (Tryd.strings_CutPrefix s ⟨#[c]⟩ w).mono fun _ _ ⟨he, hw⟩ => ⟨⟨(Lib.trimPrefix s.data.toList [c]).toArray⟩, Lib.hasPrefix s.data.toList [c], he, by have := trim_le s.data.toList [c]; show (Lib.trimPrefix s.data.toList [c]).toArray.size ≤ s.data.size; simpa using this, by show _ = _; simp, rfl, hw.symm⟩
theorem parse_no1 (s : List UInt8) (h : col ((Lib.trimPrefix s [36]).takeWhile isLet) = none) : parseL s = none := by unfold parseL; rw [h]
theorem parse_no2 (s : List UInt8) (h : num (Lib.trimPrefix ((Lib.trimPrefix s [36]).dropWhile isLet) [36]) = none) : parseL s = none := by
  unfold parseL; split
  · rfl
  · rw [h]
theorem parse_yes (s : List UInt8) (c n : Int) (h1 : col ((Lib.trimPrefix s [36]).takeWhile isLet) = some c) (h : num (Lib.trimPrefix ((Lib.trimPrefix s [36]).dropWhile isLet) [36]) = some n) :
    parseL s = some ⟨n - 1, c, Lib.hasPrefix ((Lib.trimPrefix s [36]).dropWhile isLet) [36], Lib.hasPrefix s [36]⟩ := by unfold parseL; rw [h1, h]
set_option maxRecDepth 100000 in
set_option maxHeartbeats 1000000 in
theorem parse_any (s : ByteArray) (w : World) (hs : s.size ≤ 9223372036854775807) :
    Calls Tryd.prog 16 #[.string s] w fun e w' => e = mkRet (parseL s.data.toList) ∧ Below w.heap.size w w' := by
  go_enter Tryd.func16, Tryd.ntmps16
  go_wp2_with fail
  refine (cutP _ _ _).mono ?_
  rintro e w' ⟨s1, fc, rfl, hs1, H1, H2, rfl⟩
  go_wp2_with fail
  go_loop [5] (fun i => ∃ k : Nat, k ≤ s1.size ∧ i = .int .i64 k ∧ Hid (Scan s1 k)) (fun i => s1.size - (intOf i).toNat)
  case atStart => exact ⟨0, by omega, rfl, scan0 s1⟩
  case round =>
    obtain ⟨k, hk, rfl, hsc⟩ := hrel
    by_cases hlt : k < s1.size
    · have hbl := s1[k].toNat_lt
      by_cases hi : isLet s1[k] = true
      · have hst := Lib.hid (scan_step s1 k hlt hi hsc.out)
        have hcase := (isLet_iff _).1 hi
        clear hi hsc
        by_cases hu : 65 ≤ s1[k].toNat ∧ s1[k].toNat ≤ 90
        · obtain ⟨u1, u2⟩ := hu
          clear hcase
          go_wp2
          go_round
          case rel => exact ⟨k + 1, by omega, by go_num, hst⟩
          case measure => simp [intOf]; omega
        · have hv : 97 ≤ s1[k].toNat ∧ s1[k].toNat ≤ 122 := by omega
          obtain ⟨u1, u2⟩ := hv
          clear hcase
          go_wp2
          all_goals
            go_round
            case rel => exact ⟨k + 1, by omega, by go_num, hst⟩
            case measure => simp [intOf]; omega
      · have hi' : isLet s1[k] = false := by simpa using hi
        have hsplit := Lib.hid (scan_end s1 k hsc.out (fun _ => hi'))
        have hcase : ¬ ((65 ≤ s1[k].toNat ∧ s1[k].toNat ≤ 90) ∨ (97 ≤ s1[k].toNat ∧ s1[k].toNat ≤ 122)) := fun h => hi ((isLet_iff _).2 h)
        clear hi hi' hsc
        go_wp2_with fail
        all_goals
          refine (column_any _ _ (by simp; omega)).mono ?_
          rintro e w1 ⟨rfl, hb1⟩
          have hdt := Lib.hid (show (s1.extract 0 k).data.toList = (Lib.trimPrefix s.data.toList [36]).takeWhile isLet by rw [Lib.extract_data, ← H1.out, ← hsplit.out.1]; simp)
          have hBW := Lib.hid (show Below w.heap.size w w1 from (((Below.refl _ _).alloc (Nat.le_refl _) _).alloc (by simp) _).trans (hb1.mono (by simp; omega)))
          have B1 := Lib.hid (((Blk.new w 28 #[.int .i64 0, .int .i64 0, .bool false, .bool false]).alloc _).below hb1 (by simp; omega))
          have B2 := Lib.hid ((Blk.new (w.alloc (.cells #[.int .i64 0, .int .i64 0, .bool false, .bool false] 28)) 28 #[.int .i64 0, .int .i64 0, .bool false, .bool fc]).below hb1 (by simp))
          simp only [World.size_alloc] at B2
          clear hb1
          obtain ⟨⟨x0, x1, x2, x3⟩, y0, y1, y2, y3⟩ := B1.out.four
          obtain ⟨⟨p0, p1, p2, p3⟩, q0, q1, q2, q3⟩ := B2.out.four
          rcases hcol : col (s1.extract 0 k).data.toList with _ | c
          · have hno := Lib.hid (parse_no1 s.data.toList (by rw [← hdt.out, hcol]))
            clear hcol
            simp only [Option.getD_none, Option.isSome_none]
            go_wp2_with fail
            refine bodyPost_ret (v := .tuple #[.agg #[.int .i64 0, .int .i64 0, .bool false, .bool false], .bool false]) (by simp [results, Tryd.results16, go_sem, x0, x1, x2, x3]) rfl ⟨?_, ?_⟩
            · rw [hno.out]; rfl
            · exact (((hBW.out.setCell (Nat.le_refl _) _).setCell (Nat.le_refl _) _).setCell (Nat.le_refl _) _).setCell (Nat.le_refl _) _
          · have hcb := col_bd _ _ hcol
            have HC := Lib.hid (show col ((Lib.trimPrefix s.data.toList [36]).takeWhile isLet) = some c by rw [← hdt.out, hcol])
            clear hcol
            simp only [Option.getD_some, Option.isSome_some]
            go_wp2_with fail
            refine (cutP _ _ _).mono ?_
            rintro e w' ⟨s2, fr, rfl, hs2, H3, H4, rfl⟩
            have hdr := Lib.hid (show (s1.extract k s1.size).data.toList = (Lib.trimPrefix s.data.toList [36]).dropWhile isLet by rw [Lib.extract_data, ← H1.out, ← hsplit.out.2, List.take_of_length_le (by simp)])
            go_wp2_with fail
            refine (number_any _ _ (by simp at hs2; omega)).mono ?_
            rintro e w2 ⟨rfl, hb2⟩
            have C1 := Lib.hid ((B1.out.far (p := ⟨w.heap.size + 1, 2, none⟩) (by simp) (.bool fr)).below hb2 (B1.out.far (p := ⟨w.heap.size + 1, 2, none⟩) (by simp) (.bool fr)).lt)
            have C2 := Lib.hid ((B2.out.set 2 (.bool fr)).below hb2 (B2.out.set 2 (.bool fr)).lt)
            have hBW2 := Lib.hid ((hBW.out.setCell (p := ⟨w.heap.size + 1, 2, none⟩) (by show w.heap.size ≤ w.heap.size + 1; omega) (.bool fr)).trans (hb2.mono (by show w.heap.size ≤ (w1.setCell _ _).heap.size; have := hBW.out.size; simpa [World.setCell] using this)))
            clear hb2 x0 x1 x2 x3 y0 y1 y2 y3 p0 p1 p2 p3 q0 q1 q2 q3 B1 B2 hBW
            obtain ⟨⟨x0, x1, x2, x3⟩, y0, y1, y2, y3⟩ := C1.out.four
            obtain ⟨⟨p0, p1, p2, p3⟩, q0, q1, q2, q3⟩ := Blk.four (a := .int .i64 0) (b := .int .i64 0) (c := .bool fr) (d := .bool fc) C2.out
            rcases hnum : num s2.data.toList with _ | n
            · have hno := Lib.hid (parse_no2 s.data.toList (by rw [← hdr.out, ← H3.out, hnum]))
              clear hnum
              simp only [Option.getD_none, Option.isSome_none]
              go_wp2_with fail
              refine bodyPost_ret (v := .tuple #[.agg #[.int .i64 0, .int .i64 0, .bool false, .bool false], .bool false]) (by simp [results, Tryd.results16, go_sem, x0, x1, x2, x3]) rfl ⟨?_, ?_⟩
              · rw [hno.out]; rfl
              · exact (((hBW2.out.setCell (Nat.le_refl _) _).setCell (Nat.le_refl _) _).setCell (Nat.le_refl _) _).setCell (Nat.le_refl _) _
            · have hnb := num_bd _ _ hnum
              have hn1 := hnb.2.2.1
              have hn2 := hnb.2.2.2
              have hyes := Lib.hid (parse_yes s.data.toList c n HC.out (by rw [← hdr.out, ← H3.out, hnum]))
              clear hnum hnb
              simp only [Option.getD_some, Option.isSome_some]
              go_wp2_with fail
              refine bodyPost_ret (v := .tuple #[.agg #[.int .i64 (n - 1), .int .i64 c, .bool fr, .bool fc], .bool true]) (by simp [results, Tryd.results16, go_sem, x0, x1, x2, x3]) rfl ⟨?_, ?_⟩
              · rw [hyes.out, ← hdr.out, ← H4.out, ← H2.out]; rfl
              · exact (((((hBW2.out.setCell (by simp) _).setCell (by simp) _).setCell (Nat.le_refl _) _).setCell (Nat.le_refl _) _).setCell (Nat.le_refl _) _).setCell (Nat.le_refl _) _
    · have hsplit := Lib.hid (scan_end s1 k hsc.out (fun h => absurd h hlt))
      clear hsc
      go_wp2_with fail
      refine (column_any _ _ (by simp; omega)).mono ?_
      rintro e w1 ⟨rfl, hb1⟩
      have hdt := Lib.hid (show (s1.extract 0 k).data.toList = (Lib.trimPrefix s.data.toList [36]).takeWhile isLet by rw [Lib.extract_data, ← H1.out, ← hsplit.out.1]; simp)
      have hBW := Lib.hid (show Below w.heap.size w w1 from (((Below.refl _ _).alloc (Nat.le_refl _) _).alloc (by simp) _).trans (hb1.mono (by simp; omega)))
      have B1 := Lib.hid (((Blk.new w 28 #[.int .i64 0, .int .i64 0, .bool false, .bool false]).alloc _).below hb1 (by simp; omega))
      have B2 := Lib.hid ((Blk.new (w.alloc (.cells #[.int .i64 0, .int .i64 0, .bool false, .bool false] 28)) 28 #[.int .i64 0, .int .i64 0, .bool false, .bool fc]).below hb1 (by simp))
      simp only [World.size_alloc] at B2
      clear hb1
      obtain ⟨⟨x0, x1, x2, x3⟩, y0, y1, y2, y3⟩ := B1.out.four
      obtain ⟨⟨p0, p1, p2, p3⟩, q0, q1, q2, q3⟩ := B2.out.four
      rcases hcol : col (s1.extract 0 k).data.toList with _ | c
      · have hno := Lib.hid (parse_no1 s.data.toList (by rw [← hdt.out, hcol]))
        clear hcol
        simp only [Option.getD_none, Option.isSome_none]
        go_wp2_with fail
        refine bodyPost_ret (v := .tuple #[.agg #[.int .i64 0, .int .i64 0, .bool false, .bool false], .bool false]) (by simp [results, Tryd.results16, go_sem, x0, x1, x2, x3]) rfl ⟨?_, ?_⟩
        · rw [hno.out]; rfl
        · exact (((hBW.out.setCell (Nat.le_refl _) _).setCell (Nat.le_refl _) _).setCell (Nat.le_refl _) _).setCell (Nat.le_refl _) _
      · have hcb := col_bd _ _ hcol
        have HC := Lib.hid (show col ((Lib.trimPrefix s.data.toList [36]).takeWhile isLet) = some c by rw [← hdt.out, hcol])
        clear hcol
        simp only [Option.getD_some, Option.isSome_some]
        go_wp2_with fail
        refine (cutP _ _ _).mono ?_
        rintro e w' ⟨s2, fr, rfl, hs2, H3, H4, rfl⟩
        have hdr := Lib.hid (show (s1.extract k s1.size).data.toList = (Lib.trimPrefix s.data.toList [36]).dropWhile isLet by rw [Lib.extract_data, ← H1.out, ← hsplit.out.2, List.take_of_length_le (by simp)])
        go_wp2_with fail
        refine (number_any _ _ (by simp at hs2; omega)).mono ?_
        rintro e w2 ⟨rfl, hb2⟩
        have C1 := Lib.hid ((B1.out.far (p := ⟨w.heap.size + 1, 2, none⟩) (by simp) (.bool fr)).below hb2 (B1.out.far (p := ⟨w.heap.size + 1, 2, none⟩) (by simp) (.bool fr)).lt)
        have C2 := Lib.hid ((B2.out.set 2 (.bool fr)).below hb2 (B2.out.set 2 (.bool fr)).lt)
        have hBW2 := Lib.hid ((hBW.out.setCell (p := ⟨w.heap.size + 1, 2, none⟩) (by show w.heap.size ≤ w.heap.size + 1; omega) (.bool fr)).trans (hb2.mono (by show w.heap.size ≤ (w1.setCell _ _).heap.size; have := hBW.out.size; simpa [World.setCell] using this)))
        clear hb2 x0 x1 x2 x3 y0 y1 y2 y3 p0 p1 p2 p3 q0 q1 q2 q3 B1 B2 hBW
        obtain ⟨⟨x0, x1, x2, x3⟩, y0, y1, y2, y3⟩ := C1.out.four
        obtain ⟨⟨p0, p1, p2, p3⟩, q0, q1, q2, q3⟩ := Blk.four (a := .int .i64 0) (b := .int .i64 0) (c := .bool fr) (d := .bool fc) C2.out
        rcases hnum : num s2.data.toList with _ | n
        · have hno := Lib.hid (parse_no2 s.data.toList (by rw [← hdr.out, ← H3.out, hnum]))
          clear hnum
          simp only [Option.getD_none, Option.isSome_none]
          go_wp2_with fail
          refine bodyPost_ret (v := .tuple #[.agg #[.int .i64 0, .int .i64 0, .bool false, .bool false], .bool false]) (by simp [results, Tryd.results16, go_sem, x0, x1, x2, x3]) rfl ⟨?_, ?_⟩
          · rw [hno.out]; rfl
          · exact (((hBW2.out.setCell (Nat.le_refl _) _).setCell (Nat.le_refl _) _).setCell (Nat.le_refl _) _).setCell (Nat.le_refl _) _
        · have hnb := num_bd _ _ hnum
          have hn1 := hnb.2.2.1
          have hn2 := hnb.2.2.2
          have hyes := Lib.hid (parse_yes s.data.toList c n HC.out (by rw [← hdr.out, ← H3.out, hnum]))
          clear hnum hnb
          simp only [Option.getD_some, Option.isSome_some]
          go_wp2_with fail
          refine bodyPost_ret (v := .tuple #[.agg #[.int .i64 (n - 1), .int .i64 c, .bool fr, .bool fc], .bool true]) (by simp [results, Tryd.results16, go_sem, x0, x1, x2, x3]) rfl ⟨?_, ?_⟩
          · rw [hyes.out, ← hdr.out, ← H4.out, ← H2.out]; rfl
          · exact (((((hBW2.out.setCell (by simp) _).setCell (by simp) _).setCell (Nat.le_refl _) _).setCell (Nat.le_refl _) _).setCell (Nat.le_refl _) _).setCell (Nat.le_refl _) _
end Go.Proofs.YtlbiofmcanjijaaDoor
