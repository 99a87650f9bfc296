/- tree.isName. tree.isUnary, isBinary, rightRange. tree.right: what it tells, in plain words. -/
import Derived.Test.YtbiacjkkgddclaaGreatRlChCmCc
import Derived.BigRegion
import Derived.Test.YtbiacjkkgddclaaGreatSzAlBa
import Derived.Test.YtbiacjkkgddclaaGreatNdSr
import Derived.Deep.MidRow
import Derived.BigFrame
import Derived.Deep.CutBlock
import Derived.IntWalk
namespace Go.Proofs.YtbiacjkkgddclaaGreat
open Go.RowKit Go.Shelf

def nameRest (s : ByteArray) : Bool := !(decide (s.data.toList = [84, 82, 85, 69]) || decide (s.data.toList = [70, 65, 76, 83, 69]) || isSeenB s) && !addrB s
theorem name_fin (s : ByteArray) (h0 : 1 ≤ s.size) (h1 : s.size ≤ 32) (h2 : (isCap s[0] || decide (s[0].toNat = 95)) = true) (h3 : ∀ j (hj : j < s.size), nameCh s[j] = true) : isNameB s = nameRest s := by
  unfold isNameB nameRest
  rw [decide_eq_true ⟨h0, h1⟩, headD_at s h0, h2, all_at h3]; simp
theorem name_no (s : ByteArray) {j : Nat} (hj : j < s.size) (h : nameCh s[j] = false) : isNameB s = false := by
  unfold isNameB
  rw [not_all_at hj h]; simp

set_option maxRecDepth 100000 in
set_option maxHeartbeats 2000000 in
theorem isName_any (s : ByteArray) (hs : s.size ≤ 9223372036854775807) (w : World) : Calls Tryz.prog 104 #[.string s] w fun e w' => e = .returned (.bool (isNameB s)) ∧ Below w.heap.size w w' := by
  by_cases h0 : s.size = 0
  · obtain rfl : s = ByteArray.mk #[] := by
      apply ByteArray.ext; exact Array.eq_empty_of_size_eq_zero h0
    go_enter Tryz.func104, Tryz.ntmps104
    go_wp2
    go_ret
    exact ⟨rfl, Below.refl _ w⟩
  have hne : s.toList.isEmpty = false := by
    rw [ByteArray.toList_eq]; cases hd : s.data.toList with
    | nil => exact absurd (by have := congrArg List.length hd; simpa using this) h0
    | cons a l => rfl
  have hne2 : ¬ s.toList = [] := by intro h; rw [h] at hne; cases hne
  by_cases h1 : 32 < s.size
  · have hr : isNameB s = false := by unfold isNameB; rw [decide_eq_false (by omega)]; rfl
    rw [hr]
    clear hr
    go_enter Tryz.func104, Tryz.ntmps104
    go_wp2
    go_ret
    exact ⟨rfl, Below.refl _ w⟩
  have h0' : 0 < s.size := by omega
  have hcap := fun w => isCapital_any s[0] w
  have hhd := headD_at s h0'
  have hb0 := s[0].toNat_lt
  by_cases h2 : (isCap s[0] || decide (s[0].toNat = 95)) = false
  · have hr : isNameB s = false := by unfold isNameB; rw [hhd, h2]; simp
    rw [hr]
    obtain ⟨h2a, h2b⟩ : isCap s[0] = false ∧ ¬ s[0].toNat = 95 := by simpa using h2
    rw [h2a] at hcap
    have HC := Lib.hid hcap
    have hq : ((s[0].toNat : Int) != 95) = true := by simp; omega
    clear hr hcap h2 h2a h2b hhd
    go_enter Tryz.func104, Tryz.ntmps104
    go_wp2_with (go_at_call 116; refine (HC.out _).mono ?_; rintro e w' ⟨rfl, rfl⟩)
    go_ret
    exact ⟨rfl, Below.refl _ w⟩
  have h2 : (isCap s[0] || decide (s[0].toNat = 95)) = true := by cases hh : (isCap s[0] || decide (s[0].toNat = 95)); exact absurd hh h2; rfl
  have H2 := Lib.hid h2
  have hq : isCap s[0] = false → ((s[0].toNat : Int) != 95) = false := by intro h; rw [h] at h2; simp at h2; simp [h2]
  have HQ := Lib.hid hq
  obtain ⟨c0, hc0⟩ : ∃ c, isCap s[0] = c := ⟨_, rfl⟩
  have HC0 := Lib.hid hc0
  rw [hc0] at hcap
  have HC := Lib.hid hcap
  clear hcap h2 hhd hc0 hq
  have hd32 : decide ((32 : Int) < (s.size : Int)) = false := by simp; omega
  obtain ⟨cap, C, hconv, hC⟩ := conv_bytes s w
  have HCC := Lib.hid hC
  clear hC
  obtain ⟨r, hr⟩ : ∃ r, r = isNameB s := ⟨_, rfl⟩
  rw [← hr]
  have HR := Lib.hid hr
  clear hr
  have hq0 : c0 = false → ((s[0].toNat : Int) != 95) = false := fun h => HQ.out (HC0.out.trans h)
  cases c0
  all_goals (try have hq1 := hq0 rfl)
  all_goals clear hq0
  all_goals
    go_enter Tryz.func104, Tryz.ntmps104
    go_wp2_with (go_at_call 116; refine (HC.out _).mono ?_; rintro e w' ⟨rfl, rfl⟩)
    clear hconv
    obtain ⟨W, hW⟩ : ∃ W, (w.alloc (.cells C 5 (C.size, C.size + 1))).drew = W := ⟨_, rfl⟩
    have hcell : ∀ j (hj : j < s.size), W.cell? ⟨w.heap.size, j, none⟩ = some (.int .u8 s[j].toNat) := by
      intro j hj; rw [← hW]; exact (cell_of_row _ _ j _ _ _ (World.alloc_heap_new w _)).trans (HCC.out j hj)
    have HCE := Lib.hid hcell
    have hB : Below w.heap.size w W := by rw [← hW]; exact ((Below.refl _ w).alloc (Nat.le_refl _) _).drew
    have HB := Lib.hid hB
    rw [hW]
    clear hcell hB hW hd32 hne hne2 HC0 HQ
    go_loop [4, 29] (fun _ i => ∃ k : Nat, k ≤ s.size ∧ i = .int .i64 k ∧ Hid (∀ j (hj : j < s.size), j < k → nameCh s[j] = true)) (fun _ i => s.size - (intOf i).toNat)
    case atStart => exact ⟨0, by omega, rfl, fun j _ h => by omega⟩
    case round =>
      obtain ⟨k, hk, rfl, hall⟩ := hrel
      by_cases hlt : k < s.size
      · have hc := HCE.out k hlt
        have hA := fun w => isCapital_any s[k] w
        have hD := fun w => isDigit_any s[k] w
        have hnext : nameCh s[k] = true → Hid (∀ j (hj : j < s.size), j < k + 1 → nameCh s[j] = true) := fun h j hj hjk => by
          by_cases e : j = k
          · subst e; exact h
          · exact hall.out j hj (by omega)
        have hstop : nameCh s[k] = false → Hid (isNameB s = false) := fun h => name_no s hlt h
        unfold nameCh at hnext hstop
        have hbl := s[k].toNat_lt
        obtain ⟨b, hb⟩ : ∃ b : UInt8, s[k] = b := ⟨_, rfl⟩
        rw [hb] at hA hD hc hnext hstop hbl
        clear hb
        obtain ⟨n, hn⟩ : ∃ n : Nat, b.toNat = n := ⟨_, rfl⟩
        rw [hn] at hA hD hc hnext hstop hbl
        clear hn
        obtain ⟨qa, hqa⟩ : ∃ q, isCap b = q := ⟨_, rfl⟩
        obtain ⟨qd, hqd⟩ : ∃ q, isDig b = q := ⟨_, rfl⟩
        rw [hqa] at hA hnext hstop
        rw [hqd] at hD hnext hstop
        clear hqa hqd
        have HA := Lib.hid hA
        have HD := Lib.hid hD
        have HN := Lib.hid hnext
        have HS := Lib.hid hstop
        clear hA hD hnext hstop hall
        cases qa
        · cases qd
          · by_cases hus : n = 95
            · have hnx := HN.out (by simp [hus])
              have hq : ((n : Int) != 95) = false := by simp [hus]
              clear hus HN HS
              go_wp2_with (first | (go_at_call 116; refine (HA.out _).mono ?_; rintro e w' ⟨rfl, rfl⟩) | (go_at_call 117; refine (HD.out _).mono ?_; rintro e w' ⟨rfl, rfl⟩))
              go_round
              case rel => exact ⟨k + 1, by omega, by go_num, hnx⟩
              case measure => simp [intOf]; omega
            · have hqu : ((n : Int) != 95) = true := by simp; omega
              by_cases hdot : n = 46
              · have hnx := HN.out (by simp [hdot])
                have hq : ((n : Int) != 46) = false := by simp [hdot]
                clear hdot hus HN HS
                go_wp2_with (first | (go_at_call 116; refine (HA.out _).mono ?_; rintro e w' ⟨rfl, rfl⟩) | (go_at_call 117; refine (HD.out _).mono ?_; rintro e w' ⟨rfl, rfl⟩))
                go_round
                case rel => exact ⟨k + 1, by omega, by go_num, hnx⟩
                case measure => simp [intOf]; omega
              · have hnx := HS.out (by simp [hdot, hus])
                have hq : ((n : Int) != 46) = true := by simp; omega
                clear hdot hus HN HS
                go_wp2_with (first | (go_at_call 116; refine (HA.out _).mono ?_; rintro e w' ⟨rfl, rfl⟩) | (go_at_call 117; refine (HD.out _).mono ?_; rintro e w' ⟨rfl, rfl⟩))
                go_ret
                exact ⟨ret_bool (by rw [HR.out, hnx.out]), HB.out⟩
          · have hnx := HN.out (by simp)
            clear HN HS
            go_wp2_with (first | (go_at_call 116; refine (HA.out _).mono ?_; rintro e w' ⟨rfl, rfl⟩) | (go_at_call 117; refine (HD.out _).mono ?_; rintro e w' ⟨rfl, rfl⟩))
            go_round
            case rel => exact ⟨k + 1, by omega, by go_num, hnx⟩
            case measure => simp [intOf]; omega
        · have hnx := HN.out (by simp)
          clear HN HS
          go_wp2_with (first | (go_at_call 116; refine (HA.out _).mono ?_; rintro e w' ⟨rfl, rfl⟩) | (go_at_call 117; refine (HD.out _).mono ?_; rintro e w' ⟨rfl, rfl⟩))
          go_round
          case rel => exact ⟨k + 1, by omega, by go_num, hnx⟩
          case measure => simp [intOf]; omega
      · have hfin := name_fin s (by omega) (by omega) H2.out (fun j hj => hall.out j hj (by omega))
        have hS := fun w => split_any s (by omega) w
        have hN := fun w => isSeen_any s (by omega) w
        unfold nameRest addrB at hfin
        have hLD := runOf_le isDig s (runOf isCap s 0) (by have := runOf_le isCap s 0 (by omega); omega)
        obtain ⟨L, hL⟩ : ∃ L, L = runOf isCap s 0 := ⟨_, rfl⟩
        rw [← hL] at hfin hS hLD
        obtain ⟨D, hD⟩ : ∃ D, D = runOf isDig s L := ⟨_, rfl⟩
        rw [← hD] at hfin hS hLD
        rw [← ByteArray.toList_eq] at hfin
        obtain ⟨qn, hqn⟩ : ∃ q, isSeenB s = q := ⟨_, rfl⟩
        rw [hqn] at hN hfin
        clear hL hD hall hqn
        have HF := Lib.hid hfin
        have HN := Lib.hid hN
        clear hfin hN
        by_cases et : s.toList = [84, 82, 85, 69]
        · have ft : Hid (r = false) := by show _ = _; rw [HR.out, HF.out]; simp [et]
          have q1 : (s.toList == [84, 82, 85, 69]) = true := by simp [et]
          have q2 : decide (s.toList = [84, 82, 85, 69]) = true := by simp [et]
          clear et hS
          go_wp2
          go_ret
          exact ⟨ret_bool ft.out.symm, HB.out⟩
        have q1 : (s.toList == [84, 82, 85, 69]) = false := by simp [et]
        have q2 : decide (s.toList = [84, 82, 85, 69]) = false := by simp [et]
        by_cases ef : s.toList = [70, 65, 76, 83, 69]
        · have ft : Hid (r = false) := by show _ = _; rw [HR.out, HF.out]; simp [ef]
          have q3 : (s.toList == [70, 65, 76, 83, 69]) = true := by simp [ef]
          have q4 : decide (s.toList = [70, 65, 76, 83, 69]) = true := by simp [ef]
          clear et ef hS
          go_wp2
          go_ret
          exact ⟨ret_bool ft.out.symm, HB.out⟩
        have q3 : (s.toList == [70, 65, 76, 83, 69]) = false := by simp [ef]
        have q4 : decide (s.toList = [70, 65, 76, 83, 69]) = false := by simp [ef]
        have ET := Lib.hid et
        have EF := Lib.hid ef
        clear et ef
        cases qn
        case true =>
          have ft : Hid (r = false) := by show _ = _; rw [HR.out, HF.out]; simp
          clear hS
          go_wp2_with (go_at_call 119; refine (HN.out _).mono ?_; rintro e w2 ⟨rfl, hbe⟩)
          go_ret
          exact ⟨ret_bool ft.out.symm, HB.out.trans (hbe.mono HB.out.size)⟩
        have ft : Hid (r = !decide (L + D = s.size ∧ 1 ≤ L ∧ L ≤ 3 ∧ 1 ≤ D)) := by show _ = _; rw [HR.out, HF.out]; simp [ET.out, EF.out]
        by_cases e1 : L + D = s.size
        · rw [decide_eq_true e1] at hS
          have HS := Lib.hid hS
          have E1 := Lib.hid e1
          clear hS e1
          go_wp2_with (first | (go_at_call 118; refine (HS.out _).mono ?_; rintro e w' ⟨rfl, rfl⟩) | (go_at_call 119; refine (HN.out _).mono ?_; rintro e w2 ⟨rfl, hbe⟩))
          all_goals
            go_ret
            exact ⟨ret_bool (by rw [ft.out, Bool.eq_iff_iff]; have := E1.out; simp; omega), HB.out.trans (hbe.mono HB.out.size)⟩
        · rw [decide_eq_false e1] at hS
          have HS := Lib.hid hS
          have E1 := Lib.hid e1
          clear hS e1
          go_wp2_with (first | (go_at_call 118; refine (HS.out _).mono ?_; rintro e w' ⟨rfl, rfl⟩) | (go_at_call 119; refine (HN.out _).mono ?_; rintro e w2 ⟨rfl, hbe⟩))
          go_ret
          exact ⟨ret_bool (by rw [ft.out]; simp [E1.out]), HB.out.trans (hbe.mono HB.out.size)⟩
end Go.Proofs.YtbiacjkkgddclaaGreat
namespace Go.Proofs.YtbiacjkkgddclaaGreat
open Go.RowKit Go.Shelf

/-- is the name one of those? -/
def unaryB (s : ByteArray) : Bool := (s.toList == [45]) || (s.toList == [43]) || (s.toList == [37])
def binaryB (s : ByteArray) : Bool := (s.toList == [43]) || (s.toList == [45]) || (s.toList == [42]) || (s.toList == [47]) || (s.toList == [94]) || (s.toList == [38]) || (s.toList == [61]) || (s.toList == [60, 62]) || (s.toList == [60]) || (s.toList == [60, 61]) || (s.toList == [62]) || (s.toList == [62, 61])

set_option maxRecDepth 100000 in
set_option maxHeartbeats 1000000 in
theorem isUnary_any (s : ByteArray) (w : World) : Calls Tryz.prog 102 #[.string s] w fun e w' => e = .returned (.bool (unaryB s)) ∧ w = w' := by
  obtain ⟨r, hr⟩ : ∃ r, unaryB s = r := ⟨_, rfl⟩
  rw [hr]
  unfold unaryB at hr
  have HR := Lib.hid hr
  clear hr
  go_enter Tryz.func102, Tryz.ntmps102
  go_wp2
  all_goals
    go_ret
    exact ⟨ret_bool (by rw [← HR.out]; clear HR; simp_all), rfl⟩
set_option maxRecDepth 100000 in
set_option maxHeartbeats 1000000 in
theorem isBinary_any (s : ByteArray) (w : World) : Calls Tryz.prog 103 #[.string s] w fun e w' => e = .returned (.bool (binaryB s)) ∧ w = w' := by
  obtain ⟨r, hr⟩ : ∃ r, binaryB s = r := ⟨_, rfl⟩
  rw [hr]
  unfold binaryB at hr
  have HR := Lib.hid hr
  clear hr
  go_enter Tryz.func103, Tryz.ntmps103
  go_wp2
  all_goals
    go_ret
    exact ⟨ret_bool (by rw [← HR.out]; clear HR; simp_all), rfl⟩

def Cn.arr (c : Cn) : Array Value := #[.int .i64 c.ra, .int .i64 c.rn, .int .i64 c.ca, .int .i64 c.cn, .bool c.fr, .bool c.fc]
def areaV (a b : Cn) : Array Value := #[.int .i64 a.ra, .int .i64 a.rn, .int .i64 a.ca, .int .i64 a.cn, .bool a.fr, .bool a.fc, .int .i64 b.ra, .int .i64 b.rn, .int .i64 b.ca, .int .i64 b.cn, .bool b.fr, .bool b.fc]
def Cn.row (c : Cn) : Bool := !decide (c.ra = 0 ∧ c.rn = 0)
def Cn.col (c : Cn) : Bool := !decide (c.ca = 0 ∧ c.cn = 0)
def rangeB (a b : Cn) : Bool := (a.row == b.row) && (a.col == b.col) && (a.row || a.col) && (a.row || !a.fr && !b.fr) && (a.col || !a.fc && !b.fc)

set_option maxRecDepth 100000 in
set_option maxHeartbeats 2000000 in
theorem rightRange_any (a b : Cn) (w : World) : Calls Tryz.prog 100 #[.agg (areaV a b)] w fun e w' => e = .returned (.bool (rangeB a b)) ∧ Below w.heap.size w w' := by
  have e1 := fun w => eqI w a.ra a.rn 0 0
  have e2 := fun w => eqI w a.ca a.cn 0 0
  have e3 := fun w => eqI w b.ra b.rn 0 0
  have e4 := fun w => eqI w b.ca b.cn 0 0
  unfold rangeB Cn.row Cn.col areaV
  generalize decide (a.ra = 0 ∧ a.rn = 0) = q1 at *
  generalize decide (a.ca = 0 ∧ a.cn = 0) = q2 at *
  generalize decide (b.ra = 0 ∧ b.rn = 0) = q3 at *
  generalize decide (b.ca = 0 ∧ b.cn = 0) = q4 at *
  obtain ⟨a1, a2, a3, a4, a5, a6⟩ := a
  obtain ⟨b1, b2, b3, b4, b5, b6⟩ := b
  dsimp only at e1 e2 e3 e4 ⊢
  go_enter Tryz.func100, Tryz.ntmps100
  go_wp2
  go_region
  all_goals
    go_wp2
    go_quiet (fail)
    cases q1 <;> cases q3
    case' false.false => cases q2 <;> cases q4
    case' true.true => cases q2 <;> cases q4
    all_goals
      go_wp2
      all_goals
        go_ret
        refine ⟨ret_bool (by simp_all), ?_⟩
        repeat (first | exact Below.refl _ _ | refine below_drewN ?_ _ | refine Below.alloc ?_ (by first | exact Nat.le_refl _ | (simp; done) | (simp; omega)) _ | refine Below.drew ?_)
end Go.Proofs.YtbiacjkkgddclaaGreat
namespace Go.Proofs.YtbiacjkkgddclaaGreat
open Go.RowKit Go.Shelf

def zeroCn : Cn := ⟨0, 0, 0, 0, false, false⟩
def zeroND : ND := ⟨0, zeroV, noBytes, zeroCn, zeroCn, 0⟩
/-- is a node right, but for those below it; k0: the kind of the first one below. -/
def ownB (d : ND) (n : Nat) (k0 above : Int) : Bool :=
  if d.kind = 0 then litRight d.v (decide (above = 8)) && decide (d = { zeroND with v := d.v, kind := d.kind } ∧ n = 0)
  else if d.kind = 1 ∨ d.kind = 3 then d.a.row && d.a.col && decide (d = { zeroND with a := d.a, kind := d.kind } ∧ n = 0)
  else if d.kind = 2 then rangeB d.a d.b && decide (d = { zeroND with a := d.a, b := d.b, kind := d.kind } ∧ n = 0)
  else if d.kind = 4 then isCallB d.name && decide (n ≤ 32) && !decide (n = 1 ∧ k0 = 9) && decide (d = { zeroND with name := d.name, kind := d.kind })
  else if d.kind = 5 then unaryB d.name && decide (n = 1) && decide (d = { zeroND with name := d.name, kind := d.kind })
  else if d.kind = 6 then binaryB d.name && decide (n = 2) && decide (d = { zeroND with name := d.name, kind := d.kind })
  else if d.kind = 7 then isNameB d.name && decide (d = { zeroND with name := d.name, kind := d.kind } ∧ n = 0)
  else if d.kind = 8 then decide (1 ≤ d.rows) && decide (1 ≤ n) && decide ((n : Int) % d.rows = 0) && decide (d = { zeroND with rows := d.rows, kind := d.kind })
  else if d.kind = 9 then decide (above = 4) && decide (d = { zeroND with kind := d.kind } ∧ n = 0)
  else false
def kind0 (l : List Tr) : Int := match l with | [] => 0 | t :: _ => t.d.kind
mutual
def rightB : Tr → Int → Bool
  | .mk d l, above => ownB d l.length (kind0 l) above && rightsB d.kind l
def rightsB (k : Int) : List Tr → Bool
  | [] => true
  | t :: ts => (decide (k ≠ 8) || decide (t.d.kind = 0)) && rightB t k && rightsB k ts
end

/-- what the loop has found after k nodes. -/
def accB (qo : Bool) (kind : Int) (l : List Tr) (k : Nat) : Bool := qo && rightsB kind (l.take k)
theorem rights_append (k : Int) : ∀ (l m : List Tr), rightsB k (l ++ m) = (rightsB k l && rightsB k m)
  | [], m => by simp [rightsB]
  | t :: l, m => by simp only [List.cons_append, rightsB, rights_append k l m, Bool.and_assoc]
theorem acc_step {qo : Bool} {kind : Int} {l : List Tr} {k : Nat} (hk : k < l.length) (h : accB qo kind l k = true) : accB qo kind l (k + 1) = ((decide (kind ≠ 8) || decide (l[k].d.kind = 0)) && rightB l[k] kind) := by
  unfold accB at h ⊢
  simp only [Bool.and_eq_true] at h
  rw [List.take_succ_eq_append_getElem hk, rights_append, h.1, h.2]
  simp [rightsB]
theorem acc_false {qo : Bool} {kind : Int} {l : List Tr} {n k : Nat} (_hn : n = l.length) (h : accB qo kind l k = false) : (qo && rightsB kind l) = false := by
  unfold accB at h
  cases qo with
  | false => rfl
  | true =>
    simp only [Bool.true_and] at h ⊢
    rw [← List.take_append_drop k l, rights_append, h]; rfl
theorem acc_end {qo : Bool} {kind : Int} {l : List Tr} {n : Nat} (hn : n = l.length) : accB qo kind l n = (qo && rightsB kind l) := by
  unfold accB; rw [hn, List.take_length]
theorem right_of {d : ND} {l : List Tr} {above : Int} {qo : Bool} (h : ownB d l.length (kind0 l) above = qo) : rightB (.mk d l) above = (qo && rightsB d.kind l) := by
  simp only [rightB, h]
theorem keep_n2 {b o c n : Nat} {name : ByteArray} {A : Option Addr} {w0 w w' : World} (h : (w.cell? ⟨b, o + 7, none⟩ = some (.string name) ∧ w.cell? ⟨b, o + 21, none⟩ = some (.slice A n c)) ∧ Below w0.heap.size w0 w) (hbw : Below w.heap.size w w') (hb : b < w0.heap.size) :
    (w'.cell? ⟨b, o + 7, none⟩ = some (.string name) ∧ w'.cell? ⟨b, o + 21, none⟩ = some (.slice A n c)) ∧ Below w0.heap.size w0 w' := by
  have hlt : b < w.heap.size := by have := h.2.size; omega
  exact ⟨⟨(hbw.cell (p := ⟨b, o + 7, none⟩) hlt).trans h.1.1, (hbw.cell (p := ⟨b, o + 21, none⟩) hlt).trans h.1.2⟩, h.2.trans (hbw.mono h.2.size)⟩
theorem keep_n3 {b o c n : Nat} {rows : Int} {A : Option Addr} {w0 w w' : World} (h : (w.cell? ⟨b, o + 20, none⟩ = some (.int .i64 rows) ∧ w.cell? ⟨b, o + 21, none⟩ = some (.slice A n c)) ∧ Below w0.heap.size w0 w) (hbw : Below w.heap.size w w') (hb : b < w0.heap.size) :
    (w'.cell? ⟨b, o + 20, none⟩ = some (.int .i64 rows) ∧ w'.cell? ⟨b, o + 21, none⟩ = some (.slice A n c)) ∧ Below w0.heap.size w0 w' := by
  have hlt : b < w.heap.size := by have := h.2.size; omega
  exact ⟨⟨(hbw.cell (p := ⟨b, o + 20, none⟩) hlt).trans h.1.1, (hbw.cell (p := ⟨b, o + 21, none⟩) hlt).trans h.1.2⟩, h.2.trans (hbw.mono h.2.size)⟩
theorem bare_ex (w : World) (b o : Nat) (d d' : ND) (A A' : Option Addr) (n c n' c' : Nat) (w0 : World) (hB : b < w0.heap.size) (h : NodeCells w0 b o d A n c) (hb : Below w0.heap.size w0 w) :
    Calls Tryz.prog 99 #[.pointer (some ⟨b, o, none⟩), .agg #[.int .i64 d'.kind, .int .i64 d'.v.k, .int .i64 d'.v.mant, .int .i64 d'.v.exp, .string d'.v.text, .bool d'.v.truth, .int .i64 d'.v.fault, .string d'.name, .int .i64 d'.a.ra, .int .i64 d'.a.rn, .int .i64 d'.a.ca, .int .i64 d'.a.cn, .bool d'.a.fr, .bool d'.a.fc, .int .i64 d'.b.ra, .int .i64 d'.b.rn, .int .i64 d'.b.ca, .int .i64 d'.b.cn, .bool d'.b.fr, .bool d'.b.fc, .int .i64 d'.rows, .slice A' n' c']] w fun e w' => e = .returned (.bool (decide (d = { d' with kind := d.kind } ∧ n = n'))) ∧ Below w.heap.size w w' :=
  bare_c w b o d d' A A' n c n' c' (h.keep (fun p hp => hb.cell (by omega)))

/-- the switch. -/
noncomputable def rightBlk : Code := match Tryz.f76.body with | some (.seq _ (.seq _ (.seq (.seq _ b) _))) => b | _ => .skip
set_option maxRecDepth 100000 in
/-- what the frame holds behind the switch. -/
def Own5 (b o : Nat) (above kind : Int) (qo : Bool) (w : World) (a' : Act) (w' : World) : Prop :=
  ∃ u5 u7 u8 u9 u11 u12 u13 u14 u15 u16 u17 u18 u19 u20 u21 u22 u23 u24 u25 u26 u27 u28 u29 u30 u31 u32 u33 u34 u35 u36 u37 u38 u39 u40 u41 u42 u43 u44 u45 u46 u47 u48 u49 u50 u51 u52 u53 u54 u55 u56 u57 u58 u59 u60 u61 u62 u63 u64 u65 u66 u67 u68 u69 u70 u71 u72 u73 u74 u75 u76 u77 u78 u79 u80 u81 u82 u83 u84 u85 u86 u87 u88 u89 u90 u91 u92 u93 u94 u95 u96 u97 u98 u99 u100 u101 u102 u103 u104 u105 u106 u107 u108 u109 u110 u111 u112 u113 u114 u115 u116 u117 u118 u119 u120 u121 u122 u123 u124 u125 u126 u127 u128 u129 u130 u131 u132 u133 u134 u135 u136 u137 u138 u139 u140 u141 u142 u143 u144 u145 u146 u147 u148 u149 u150 u151 u152 u153 u154 u155 u156 u157 u158 u159 u160 u161 u162 u163 u164 u165 u166 u167 u168 u169 u170 u171 u172 u173 u174 u175 u176 u177 u178 u179 u180 u181 u182 u183 u184 u185 u186 u187 u188 u189 u190 u191 u192 u193 u194 u195 u196 u197 u198 u199 u200 u201 u202 u203 u204 u205 u206 u207 u208 u209 u210 u211 u212 u213 u214 u215 u216 u217 u218 u219 u220 u221 u222 u223 u224 u225 u226 u227 u228 u229 u230 u231 u232 u233 u234 u235 u236 u237 u238 u239 u240 u241 u242 u243 u244 u245 u246 u247 u248 u249 u252 u253 u254 u255 u256 u257 u258 u259 u260 u261 u262 u263 u264 u265 u266 u267 u268 u269 u270 u271 u272 u273 u274 u275 u276 u277 u278 u279 u280 u281 u282 u283 u284 u285 u286 : Value, (u5 = .bool qo ∧ Below w.heap.size w w') ∧ a' = { tmps := #[.pointer (some ⟨b, o, none⟩), .int .i64 above, undef, undef, .bool false, u5, undef, u7, u8, u9, .int .i64 kind, u11, u12, u13, u14, u15, u16, u17, u18, u19, u20, u21, u22, u23, u24, u25, u26, u27, u28, u29, u30, u31, u32, u33, u34, u35, u36, u37, u38, u39, u40, u41, u42, u43, u44, u45, u46, u47, u48, u49, u50, u51, u52, u53, u54, u55, u56, u57, u58, u59, u60, u61, u62, u63, u64, u65, u66, u67, u68, u69, u70, u71, u72, u73, u74, u75, u76, u77, u78, u79, u80, u81, u82, u83, u84, u85, u86, u87, u88, u89, u90, u91, u92, u93, u94, u95, u96, u97, u98, u99, u100, u101, u102, u103, u104, u105, u106, u107, u108, u109, u110, u111, u112, u113, u114, u115, u116, u117, u118, u119, u120, u121, u122, u123, u124, u125, u126, u127, u128, u129, u130, u131, u132, u133, u134, u135, u136, u137, u138, u139, u140, u141, u142, u143, u144, u145, u146, u147, u148, u149, u150, u151, u152, u153, u154, u155, u156, u157, u158, u159, u160, u161, u162, u163, u164, u165, u166, u167, u168, u169, u170, u171, u172, u173, u174, u175, u176, u177, u178, u179, u180, u181, u182, u183, u184, u185, u186, u187, u188, u189, u190, u191, u192, u193, u194, u195, u196, u197, u198, u199, u200, u201, u202, u203, u204, u205, u206, u207, u208, u209, u210, u211, u212, u213, u214, u215, u216, u217, u218, u219, u220, u221, u222, u223, u224, u225, u226, u227, u228, u229, u230, u231, u232, u233, u234, u235, u236, u237, u238, u239, u240, u241, u242, u243, u244, u245, u246, u247, u248, u249, undef, undef, u252, u253, u254, u255, u256, u257, u258, u259, u260, u261, u262, u263, u264, u265, u266, u267, u268, u269, u270, u271, u272, u273, u274, u275, u276, u277, u278, u279, u280, u281, u282, u283, u284, u285, u286], defers := [] }
end Go.Proofs.YtbiacjkkgddclaaGreat
