/- The walks of the loops of package addr and of its reference over a string. -/
import Derived.Test.YtlbiofmcanjijaaDoorW1
namespace Go.Proofs.YtlbiofmcanjijaaDoor
open Go.RowKit
open Ad

theorem ret2 {k : IntKind} {a b : Int} {x y : Bool} (h : a = b) (hb : x = y) : Ending.returned (.tuple #[.int k a, .bool x]) = .returned (.tuple #[.int k b, .bool y]) := by rw [h, hb]
theorem iterPos_of {w : World} {k : Nat} {s : ByteArray} {p : Nat} (h : w.heap[k]? = some (.stringIter s p)) : w.iterPos k = p := by simp [World.iterPos, h]
theorem drop_cons (s : ByteArray) (k : Nat) (h : k < s.size) : s.data.toList.drop k = s[k] :: s.data.toList.drop (k + 1) := by
  rw [List.drop_eq_getElem_cons (by simpa using h)]; rfl
theorem drop_end (s : ByteArray) (k : Nat) (h : ¬ k < s.size) : s.data.toList.drop k = [] := by
  apply List.drop_eq_nil_of_le; simp; omega

theorem ascii_cases (s : ByteArray) (pos : Nat) (h : pos < s.size) : (Utf8.decode s pos = (s[pos].toNat, 1) ∧ s[pos].toNat < 128) ∨ (128 ≤ (Utf8.decode s pos).1 ∧ 128 ≤ s[pos].toNat) := by
  by_cases ha : s[pos].toNat < 128
  · exact .inl ⟨decode_ascii s pos h ha, ha⟩
  · exact .inr ⟨(decode_high s pos h (by omega)).1, by omega⟩

theorem cap_high (b : UInt8) (h : 128 ≤ b.toNat) : cap b = -1 := by unfold cap; rw [if_neg (by omega), if_neg (by omega)]
theorem cap_up (b : UInt8) (h1 : 65 ≤ b.toNat) (h2 : b.toNat ≤ 90) : cap b = (b.toNat : Int) - 65 := by unfold cap; rw [if_neg (by omega), if_pos ⟨h1, h2⟩]
theorem cap_lo (b : UInt8) (h1 : 97 ≤ b.toNat) (h2 : b.toNat ≤ 122) : cap b = (b.toNat : Int) - 97 := by unfold cap; rw [if_pos ⟨h1, h2⟩]
theorem cap_no (b : UInt8) (h1 : ¬ (65 ≤ b.toNat ∧ b.toNat ≤ 90)) (h2 : ¬ (97 ≤ b.toNat ∧ b.toNat ≤ 122)) : cap b = -1 := by unfold cap; rw [if_neg h2, if_neg h1]
theorem colGo_cons (b : UInt8) (t : List UInt8) (a : Int) (h : 0 ≤ cap b) : colGo (b :: t) a = colGo t (a * 26 + cap b + 1) := by simp only [colGo]; rw [if_neg (by omega)]
theorem colGo_bad (b : UInt8) (t : List UInt8) (a : Int) (h : cap b < 0) : colGo (b :: t) a = none := by simp only [colGo]; rw [if_pos h]


theorem toList_data (s : ByteArray) : s.toList = s.data.toList := by exact ByteArray.toList_eq s
set_option maxHeartbeats 1000000 in
theorem column_any (s : ByteArray) (w : World) (hs : s.size ≤ 9223372036854775807) :
    Calls Tryd.prog 11 #[.string s] w fun e w' => e = .returned (.tuple #[.int .i64 ((col s.data.toList).getD 0), .bool (col s.data.toList).isSome]) ∧ Below w.heap.size w w' := by
  have hl : s.data.toList.length = s.size := by simp
  by_cases h0 : s.size = 0
  · have e0 : s.data.toList = [] := List.eq_nil_of_length_eq_zero (by omega)
    have e1 : s.toList.isEmpty = true := by rw [toList_data, e0]; rfl
    have hc := Lib.hid (show col s.data.toList = none by unfold col; rw [if_pos e0])
    clear e0 h0 hl
    go_enter Tryd.func11, Tryd.ntmps11
    go_wp2
    go_ret2
    exact ⟨by rw [hc.out]; rfl, Below.refl _ _⟩
  have hne : s.data.toList ≠ [] := by
    intro h; apply h0; rw [← hl, h]; rfl
  have e1 : s.toList.isEmpty = false := by rw [toList_data]; simpa using hne
  by_cases h3 : 3 < s.size
  · have hc := Lib.hid (show col s.data.toList = none by unfold col; split <;> first | rfl | rw [if_pos (by omega)])
    clear hl hne
    go_enter Tryd.func11, Tryd.ntmps11
    go_wp2
    go_ret2
    exact ⟨by rw [hc.out]; rfl, Below.refl _ _⟩
  have hc := Lib.hid (show col s.data.toList = (colGo s.data.toList 0).map (· - 1) by unfold col; rw [if_neg hne, if_neg (by omega)])
  clear hl hne
  have d3 : decide ((3 : Int) < (s.size : Int)) = false := by simp; omega
  have d3' : decide (3 < s.size) = false := by simp; omega
  go_enter Tryd.func11, Tryd.ntmps11
  go_wp2
  go_loopw [4] (fun c wr => ∃ (pos : Nat) (a : Int), wr = w.iter s pos ∧ c = .int .i64 a ∧ pos ≤ s.size ∧ Hid (colGo (s.data.toList.drop pos) a = colGo s.data.toList 0) ∧ Hid (0 ≤ a ∧ a ≤ 18278 ∧ (pos < 3 → a ≤ 702) ∧ (pos < 2 → a ≤ 26) ∧ (pos < 1 → a ≤ 0))) (fun _ wr => s.size - wr.iterPos w.heap.size)
  case atStart => exact ⟨0, 0, rfl, rfl, by omega, rfl, by refine ⟨?_, ?_, ?_, ?_, ?_⟩ <;> omega⟩
  case round =>
    obtain ⟨pos, a, rfl, rfl, hp0, hco, hbd⟩ := hrel
    obtain ⟨b0, b1, b2, b3, b4⟩ := hbd.out
    by_cases hp : pos < s.size
    · have b5 : a ≤ 702 := b2 (by omega)
      have hnx : ∀ ty, (Instr.next (.pointer (some ⟨w.heap.size, 0, none⟩)) true ty).run Tryd.prog (w.iter s pos) = _ := fun ty => run_next_any w s pos ty hp
      have hdr := Lib.hid (drop_cons s pos hp)
      rcases ascii_cases s pos hp with ⟨hd, hlt⟩ | ⟨hd1, hge⟩
      · rw [hd] at hnx
        have hco2 := hco.out
        rw [hdr.out] at hco2
        have HC := Lib.hid hco2
        clear hco2 hd hdr hco
        generalize hb : s[pos] = b at *
        have Hb := Lib.hid hb
        clear hb
        by_cases hu : 65 ≤ b.toNat ∧ b.toNat ≤ 90
        · obtain ⟨u1, u2⟩ := hu
          have hcp := Lib.hid (cap_up b u1 u2)
          go_wp2
          go_roundw
          case rel => exact ⟨pos + 1, a * 26 + cap b + 1, rfl, by rw [hcp.out], by omega, by show _ = _; rw [← HC.out, colGo_cons _ _ _ (by rw [hcp.out]; omega)], by show _ ∧ _; rw [hcp.out]; refine ⟨?_, ?_, ?_, ?_, ?_⟩ <;> omega⟩
          case measure => simp; omega
        · by_cases hv : 97 ≤ b.toNat ∧ b.toNat ≤ 122
          · obtain ⟨u1, u2⟩ := hv
            have hcp := Lib.hid (cap_lo b u1 u2)
            go_wp2
            go_roundw
            case rel => exact ⟨pos + 1, a * 26 + cap b + 1, rfl, by rw [hcp.out], by omega, by show _ = _; rw [← HC.out, colGo_cons _ _ _ (by rw [hcp.out]; omega)], by show _ ∧ _; rw [hcp.out]; refine ⟨?_, ?_, ?_, ?_, ?_⟩ <;> omega⟩
            case measure => simp; omega
          · have hcn := Lib.hid (show col s.data.toList = none by rw [hc.out, ← HC.out, colGo_bad _ _ _ (by rw [cap_no b hu hv]; omega)]; rfl)
            go_wp2
            all_goals
              go_ret2
              exact ⟨by rw [hcn.out]; rfl, (Below.refl _ _).alloc (Nat.le_refl _) _⟩
      · have hcn := Lib.hid (show col s.data.toList = none by rw [hc.out, ← hco.out, hdr.out, colGo_bad _ _ _ (by rw [cap_high _ hge]; omega)]; rfl)
        clear hco hdr
        generalize Utf8.decode s pos = dd at *
        go_wp2
        go_ret2
        exact ⟨by rw [hcn.out]; rfl, (Below.refl _ _).alloc (Nat.le_refl _) _⟩
    · have hnx : ∀ ty, (Instr.next (.pointer (some ⟨w.heap.size, 0, none⟩)) true ty).run Tryd.prog (w.iter s pos) = _ := fun ty => run_next_end w s pos ty hp
      have hz := hco.out
      rw [drop_end s pos hp] at hz
      have HZ := Lib.hid hz
      clear hz hco
      go_wp2
      go_ret2
      refine ⟨ret2 ?_ ?_, (Below.refl _ _).alloc (Nat.le_refl _) _⟩
      · rw [hc.out, ← HZ.out]; rfl
      · rw [hc.out, ← HZ.out]; rfl
end Go.Proofs.YtlbiofmcanjijaaDoor
