/- The walks of strings.Cut at one byte, place and Absolute. -/
import Derived.Test.YtlbiofmcanjijaaDoorW11
namespace Go.Proofs.YtlbiofmcanjijaaDoor
open Go.RowKit
open Ad

/-- what lies ahead of, and behind, the first c. -/
def ahead (l : List UInt8) (c : UInt8) : List UInt8 := l.takeWhile (· != c)
def behind (l : List UInt8) (c : UInt8) : List UInt8 := (l.dropWhile (· != c)).drop 1
def hasB (l : List UInt8) (c : UInt8) : Bool := l.contains c

def placeL (s : List UInt8) (f : Int) : Int × Bool × Bool :=
  if s = [] then (f, false, true)
  else if Lib.hasPrefix s [91] then
    if Lib.hasSuffix (Lib.trimPrefix s [91]) [93] then
      let r := Lib.trimSuffix (Lib.trimPrefix s [91]) [93]
      let n := (num (Lib.trimPrefix r [45])).getD 0
      (f + (if Lib.hasPrefix r [45] then -n else n), false, (num (Lib.trimPrefix r [45])).isSome)
    else (0, false, false)
  else ((num s).getD 0 - 1, true, (num s).isSome)

theorem ret3 {k : IntKind} {a b : Int} {x y u v : Bool} (h : a = b) (hx : x = y) (hu : u = v) : Ending.returned (.tuple #[.int k a, .bool x, .bool u]) = .returned (.tuple #[.int k b, .bool y, .bool v]) := by rw [h, hx, hu]
theorem cutS (s : ByteArray) (c : UInt8) (w : World) (hs : s.size ≤ 9223372036854775807) :
    Calls Tryd.prog 41 #[.string s, .string ⟨#[c]⟩] w fun e w' => ∃ (s1 : ByteArray) (b : Bool), e = .returned (.tuple #[.string s1, .bool b]) ∧ s1.size ≤ s.size ∧ Hid (s1.data.toList = Lib.trimSuffix s.data.toList [c]) ∧ Hid (b = Lib.hasSuffix s.data.toList [c]) ∧ w = w' :=
  (Tryd.strings_CutSuffix s ⟨#[c]⟩ w hs).mono fun _ _ ⟨he, hw⟩ => ⟨⟨(Lib.trimSuffix s.data.toList [c]).toArray⟩, Lib.hasSuffix s.data.toList [c], he, by
    show (Lib.trimSuffix s.data.toList [c]).toArray.size ≤ s.data.size
    unfold Lib.trimSuffix; split <;> simp, by show _ = _; simp, rfl, hw.symm⟩

set_option maxRecDepth 100000 in
set_option maxHeartbeats 1000000 in
theorem place_any (s : ByteArray) (f : Int) (w : World) (hs : s.size ≤ 9223372036854775807) (f0 : 0 ≤ f) (f1 : f ≤ 9999998) :
    Calls Tryd.prog 35 #[.string s, .int .i64 f] w fun e w' => e = .returned (.tuple #[.int .i64 (placeL s.data.toList f).1, .bool (placeL s.data.toList f).2.1, .bool (placeL s.data.toList f).2.2]) ∧ Below w.heap.size w w' := by
  by_cases he : s.data.toList = []
  · have e1 : s.toList.isEmpty = true := by rw [toList_data, he]; rfl
    have HF := Lib.hid (show placeL s.data.toList f = (f, false, true) by unfold placeL; rw [if_pos he])
    clear he
    go_enter Tryd.func35, Tryd.ntmps35
    go_wp2_with fail
    go_ret3
    exact ⟨by rw [HF.out]; rfl, Below.refl _ _⟩
  have e1 : s.toList.isEmpty = false := by rw [toList_data]; simpa using he
  have HE := Lib.hid he
  clear he
  go_enter Tryd.func35, Tryd.ntmps35
  go_wp2_with fail
  refine (cutP _ _ _).mono ?_
  rintro e w' ⟨s1, b, rfl, hs1, H1, H2, rfl⟩
  rcases b with _ | _
  · go_wp2_with fail
    refine (number_any _ _ hs).mono ?_
    rintro e w1 ⟨rfl, hb1⟩
    have HF := Lib.hid (show placeL s.data.toList f = ((num s.data.toList).getD 0 - 1, true, (num s.data.toList).isSome) by unfold placeL; rw [if_neg HE.out, ← H2.out]; rfl)
    have hp := num_pos s.data.toList
    generalize num s.data.toList = o at HF hp ⊢
    obtain ⟨p1, p2, -⟩ := hp
    go_wp2_with fail
    go_ret3
    exact ⟨by rw [HF.out]; rfl, hb1⟩
  · go_wp2_with fail
    refine (cutS _ _ _ (by omega)).mono ?_
    rintro e w' ⟨s2, b2, rfl, hs2, H3, H4, rfl⟩
    rcases b2 with _ | _
    · have HF := Lib.hid (show placeL s.data.toList f = (0, false, false) by unfold placeL; rw [if_neg HE.out, if_pos H2.out.symm, ← H1.out, if_neg (by rw [← H4.out]; simp)])
      go_wp2_with fail
      go_ret3
      exact ⟨by rw [HF.out]; rfl, Below.refl _ _⟩
    · go_wp2_with fail
      refine (cutP _ _ _).mono ?_
      rintro e w' ⟨s3, b3, rfl, hs3, H5, H6, rfl⟩
      have HF := Lib.hid (show placeL s.data.toList f = (f + (if b3 then -(num s3.data.toList).getD 0 else (num s3.data.toList).getD 0), false, (num s3.data.toList).isSome) by
        unfold placeL; rw [if_neg HE.out, if_pos H2.out.symm, ← H1.out, if_pos H4.out.symm]; simp only; rw [← H3.out, ← H5.out, ← H6.out])
      go_wp2_with fail
      refine (number_any _ _ (by omega)).mono ?_
      rintro e w1 ⟨rfl, hb1⟩
      have hp := num_pos s3.data.toList
      generalize num s3.data.toList = o at HF hp ⊢
      obtain ⟨p1, p2, -⟩ := hp
      cases b3
      · go_wp2_with fail
        go_ret3
        exact ⟨by rw [HF.out]; rfl, hb1⟩
      · go_wp2_with fail
        go_ret3
        exact ⟨by rw [HF.out]; rfl, hb1⟩
end Go.Proofs.YtlbiofmcanjijaaDoor
