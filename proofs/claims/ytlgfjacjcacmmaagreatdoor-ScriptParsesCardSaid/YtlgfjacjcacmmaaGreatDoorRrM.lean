/- tree.isUnary, isBinary, rightRange. -/
import Derived.Test.YtlgfjacjcacmmaaGreatDoorChCm
import Derived.BigRegion
namespace Go.Proofs.YtlgfjacjcacmmaaGreatDoor
set_option linter.unusedSimpArgs false
set_option linter.unusedVariables false
open Go.RowKit Go.Shelf

/-- is the name one of those? -/
def unaryB (s : ByteArray) : Bool := (s.toList == [45]) || (s.toList == [43]) || (s.toList == [37])
def binaryB (s : ByteArray) : Bool := (s.toList == [43]) || (s.toList == [45]) || (s.toList == [42]) || (s.toList == [47]) || (s.toList == [94]) || (s.toList == [38]) || (s.toList == [61]) || (s.toList == [60, 62]) || (s.toList == [60]) || (s.toList == [60, 61]) || (s.toList == [62]) || (s.toList == [62, 61])

set_option maxRecDepth 100000 in
set_option maxHeartbeats 1000000 in
theorem isUnary_any (s : ByteArray) (w : World) : Calls Tryz.prog 71 #[.string s] w fun e w' => e = .returned (.bool (unaryB s)) ∧ w = w' := by
  obtain ⟨r, hr⟩ : ∃ r, unaryB s = r := ⟨_, rfl⟩
  rw [hr]
  unfold unaryB at hr
  have HR := Lib.hid hr
  clear hr
  go_enter Tryz.func71, Tryz.ntmps71
  go_wp2
  all_goals
    go_ret
    exact ⟨ret_bool (by rw [← HR.out]; clear HR; simp_all), rfl⟩
set_option maxRecDepth 100000 in
set_option maxHeartbeats 1000000 in
theorem isBinary_any (s : ByteArray) (w : World) : Calls Tryz.prog 72 #[.string s] w fun e w' => e = .returned (.bool (binaryB s)) ∧ w = w' := by
  obtain ⟨r, hr⟩ : ∃ r, binaryB s = r := ⟨_, rfl⟩
  rw [hr]
  unfold binaryB at hr
  have HR := Lib.hid hr
  clear hr
  go_enter Tryz.func72, Tryz.ntmps72
  go_wp2
  all_goals
    go_ret
    exact ⟨ret_bool (by rw [← HR.out]; clear HR; simp_all), rfl⟩

def Cn.arr (c : Cn) : Array Value := #[.int .i64 c.ra, .int .i64 c.rn, .int .i64 c.ca, .int .i64 c.cn, .bool c.fr, .bool c.fc]
def areaV (a b : Cn) : Array Value := #[.int .i64 a.ra, .int .i64 a.rn, .int .i64 a.ca, .int .i64 a.cn, .bool a.fr, .bool a.fc, .int .i64 b.ra, .int .i64 b.rn, .int .i64 b.ca, .int .i64 b.cn, .bool b.fr, .bool b.fc]
def Cn.row (c : Cn) : Bool := !decide (c.ra = 0 ∧ c.rn = 0)
def Cn.col (c : Cn) : Bool := !decide (c.ca = 0 ∧ c.cn = 0)
def rangeB (a b : Cn) : Bool := (a.row == b.row) && (a.col == b.col) && (a.row || a.col) && (a.row || !a.fr && !b.fr) && (a.col || !a.fc && !b.fc)

set_option maxRecDepth 100000 in
set_option maxHeartbeats 2000000 in
theorem rightRange_any (a b : Cn) (w : World) : Calls Tryz.prog 69 #[.agg (areaV a b)] w fun e w' => e = .returned (.bool (rangeB a b)) ∧ Below w.heap.size w w' := by
  have e1 := fun w => eqI w a.ra a.rn 0 0
  have e2 := fun w => eqI w a.ca a.cn 0 0
  have e3 := fun w => eqI w b.ra b.rn 0 0
  have e4 := fun w => eqI w b.ca b.cn 0 0
  unfold rangeB Cn.row Cn.col areaV
  generalize decide (a.ra = 0 ∧ a.rn = 0) = q1 at *
  generalize decide (a.ca = 0 ∧ a.cn = 0) = q2 at *
  generalize decide (b.ra = 0 ∧ b.rn = 0) = q3 at *
  generalize decide (b.ca = 0 ∧ b.cn = 0) = q4 at *
  obtain ⟨a1, a2, a3, a4, a5, a6⟩ := a
  obtain ⟨b1, b2, b3, b4, b5, b6⟩ := b
  dsimp only at e1 e2 e3 e4 ⊢
  go_enter Tryz.func69, Tryz.ntmps69
  go_wp2
  go_region
  all_goals
    go_wp2
    go_quiet (fail)
    cases q1 <;> cases q3
    case' false.false => cases q2 <;> cases q4
    case' true.true => cases q2 <;> cases q4
    all_goals
      go_wp2
      all_goals
        go_ret
        refine ⟨ret_bool (by simp_all), ?_⟩
        repeat (first | exact Below.refl _ _ | refine below_drewN ?_ _ | refine Below.alloc ?_ (by first | exact Nat.le_refl _ | (simp; done) | (simp; omega)) _ | refine Below.drew ?_)
end Go.Proofs.YtlgfjacjcacmmaaGreatDoor
