/- tree.alike, tree.bare and what they compare. -/
import Derived.Test.YtggpffipijoddaaDoorSz
import Derived.Deep.QuietTactic
import Derived.BigQuiet
import Derived.Laws.StructEq
namespace Go.Proofs.YtggpffipijoddaaDoor
open Go.RowKit Go.Shelf

deriving instance DecidableEq for Cn
deriving instance DecidableEq for Vl
deriving instance DecidableEq for ND

theorem NodeCells.all {w : World} {b o : Nat} {d : ND} {A : Option Addr} {n c : Nat} (h : NodeCells w b o d A n c) : w.cell? ⟨b, o, none⟩ = some (.int .i64 d.kind) ∧ w.cell? ⟨b, o + 1, none⟩ = some (.int .i64 d.v.k) ∧ w.cell? ⟨b, o + 2, none⟩ = some (.int .i64 d.v.mant) ∧ w.cell? ⟨b, o + 3, none⟩ = some (.int .i64 d.v.exp) ∧ w.cell? ⟨b, o + 4, none⟩ = some (.string d.v.text) ∧ w.cell? ⟨b, o + 5, none⟩ = some (.bool d.v.truth) ∧ w.cell? ⟨b, o + 6, none⟩ = some (.int .i64 d.v.fault) ∧ w.cell? ⟨b, o + 7, none⟩ = some (.string d.name) ∧ w.cell? ⟨b, o + 8, none⟩ = some (.int .i64 d.a.ra) ∧ w.cell? ⟨b, o + 9, none⟩ = some (.int .i64 d.a.rn) ∧ w.cell? ⟨b, o + 10, none⟩ = some (.int .i64 d.a.ca) ∧ w.cell? ⟨b, o + 11, none⟩ = some (.int .i64 d.a.cn) ∧ w.cell? ⟨b, o + 12, none⟩ = some (.bool d.a.fr) ∧ w.cell? ⟨b, o + 13, none⟩ = some (.bool d.a.fc) ∧ w.cell? ⟨b, o + 14, none⟩ = some (.int .i64 d.b.ra) ∧ w.cell? ⟨b, o + 15, none⟩ = some (.int .i64 d.b.rn) ∧ w.cell? ⟨b, o + 16, none⟩ = some (.int .i64 d.b.ca) ∧ w.cell? ⟨b, o + 17, none⟩ = some (.int .i64 d.b.cn) ∧ w.cell? ⟨b, o + 18, none⟩ = some (.bool d.b.fr) ∧ w.cell? ⟨b, o + 19, none⟩ = some (.bool d.b.fc) ∧ w.cell? ⟨b, o + 20, none⟩ = some (.int .i64 d.rows) ∧ w.cell? ⟨b, o + 21, none⟩ = some (.slice A n c) :=
  ⟨h 0 (by decide), h 1 (by decide), h 2 (by decide), h 3 (by decide), h 4 (by decide), h 5 (by decide), h 6 (by decide), h 7 (by decide), h 8 (by decide), h 9 (by decide), h 10 (by decide), h 11 (by decide), h 12 (by decide), h 13 (by decide), h 14 (by decide), h 15 (by decide), h 16 (by decide), h 17 (by decide), h 18 (by decide), h 19 (by decide), h 20 (by decide), h 21 (by decide)⟩

theorem str_eq (s t : ByteArray) : (s.toList = t.toList) = (s = t) := by
  rw [ByteArray.toList_eq, ByteArray.toList_eq]
  exact propext ⟨fun h => ByteArray.ext (Array.ext' h), fun h => by rw [h]⟩
theorem ite_ok (c : Prop) [Decidable c] (b : Bool) (w : World) : (if c then (Result.ok b w : Result Bool) else .ok false w) = .ok (decide c && b) w := by split <;> simp [*]
theorem ite_ok1 (c : Prop) [Decidable c] (w : World) : (if c then (Result.ok true w : Result Bool) else .ok false w) = .ok (decide c) w := by split <;> simp [*]
/-- two values. -/
theorem eqV (w : World) (v v' : Vl) : (Op.equalIn 10000 25 (.agg #[.int .i64 v.k, .int .i64 v.mant, .int .i64 v.exp, .string v.text, .bool v.truth, .int .i64 v.fault]) (.agg #[.int .i64 v'.k, .int .i64 v'.mant, .int .i64 v'.exp, .string v'.text, .bool v'.truth, .int .i64 v'.fault])).run Tryd.prog w = .ok (decide (v = v')) w := by
  have hd : decide (v = v') = (decide (v.k = v'.k) && (decide (v.mant = v'.mant) && (decide (v.exp = v'.exp) && (decide (v.text = v'.text) && (decide (v.truth = v'.truth) && decide (v.fault = v'.fault)))))) := by
    cases v; cases v'; simp only [Vl.mk.injEq, Bool.decide_and]
  rw [hd]
  simp [go_sem, str_eq]
  simp only [ite_ok, Bool.and_true]
/-- two corners. -/
theorem eqC (w : World) (a a' : Cn) : (Op.equalIn 10000 29 (.agg #[.int .i64 a.ra, .int .i64 a.rn, .int .i64 a.ca, .int .i64 a.cn, .bool a.fr, .bool a.fc]) (.agg #[.int .i64 a'.ra, .int .i64 a'.rn, .int .i64 a'.ca, .int .i64 a'.cn, .bool a'.fr, .bool a'.fc])).run Tryd.prog w = .ok (decide (a = a')) w := by
  have hd : decide (a = a') = (decide (a.ra = a'.ra) && (decide (a.rn = a'.rn) && (decide (a.ca = a'.ca) && (decide (a.cn = a'.cn) && (decide (a.fr = a'.fr) && decide (a.fc = a'.fc)))))) := by
    cases a; cases a'; simp only [Cn.mk.injEq, Bool.decide_and]
  rw [hd]
  simp [go_sem]
  simp only [ite_ok, Bool.and_true]
set_option maxRecDepth 100000 in
set_option maxHeartbeats 2000000 in
/-- two areas. -/
theorem eqA (w : World) (a b a' b' : Cn) : (Op.equalIn 10000 31 (.agg #[.int .i64 a.ra, .int .i64 a.rn, .int .i64 a.ca, .int .i64 a.cn, .bool a.fr, .bool a.fc, .int .i64 b.ra, .int .i64 b.rn, .int .i64 b.ca, .int .i64 b.cn, .bool b.fr, .bool b.fc]) (.agg #[.int .i64 a'.ra, .int .i64 a'.rn, .int .i64 a'.ca, .int .i64 a'.cn, .bool a'.fr, .bool a'.fc, .int .i64 b'.ra, .int .i64 b'.rn, .int .i64 b'.ca, .int .i64 b'.cn, .bool b'.fr, .bool b'.fc])).run Tryd.prog w = .ok (decide (a = a' ∧ b = b')) w := by
  have hd : ∀ a a' : Cn, decide (a = a') = (decide (a.ra = a'.ra) && (decide (a.rn = a'.rn) && (decide (a.ca = a'.ca) && (decide (a.cn = a'.cn) && (decide (a.fr = a'.fr) && decide (a.fc = a'.fc)))))) := by
    intro a a'; cases a; cases a'; simp only [Cn.mk.injEq, Bool.decide_and]
  rw [Bool.decide_and, hd a a', hd b b']
  simp [go_sem]
  simp only [ite_ok, Bool.and_true, Bool.and_assoc]

set_option maxRecDepth 100000 in
set_option maxHeartbeats 2000000 in
theorem alike_c (w : World) (b o b' o' : Nat) (d d' : ND) (A A' : Option Addr) (n c n' c' : Nat) (h : NodeCells w b o d A n c) (h' : NodeCells w b' o' d' A' n' c') :
    Calls Tryd.prog 33 #[.pointer (some ⟨b, o, none⟩), .pointer (some ⟨b', o', none⟩)] w fun e w' => e = .returned (.bool (decide (d = d' ∧ n = n'))) ∧ ∃ m, w' = w.drewN m := by
  obtain ⟨h0, h1, h2, h3, h4, h5, h6, h7, h8, h9, h10, h11, h12, h13, h14, h15, h16, h17, h18, h19, h20, h21⟩ := h.all
  obtain ⟨h'0, h'1, h'2, h'3, h'4, h'5, h'6, h'7, h'8, h'9, h'10, h'11, h'12, h'13, h'14, h'15, h'16, h'17, h'18, h'19, h'20, h'21⟩ := h'.all
  clear h h'
  obtain ⟨kind, v, name, a, q, rows⟩ := d
  obtain ⟨kind', v', name', a', q', rows'⟩ := d'
  dsimp only at h0 h1 h2 h3 h4 h5 h6 h7 h8 h9 h10 h11 h12 h13 h14 h15 h16 h17 h18 h19 h20 h21 h'0 h'1 h'2 h'3 h'4 h'5 h'6 h'7 h'8 h'9 h'10 h'11 h'12 h'13 h'14 h'15 h'16 h'17 h'18 h'19 h'20 h'21
  have HV := Lib.hid (fun w => eqV w v v')
  have HA := Lib.hid (fun w => eqA w a q a' q')
  by_cases e : kind = kind'
  case neg =>
    have q1 : (kind == kind') = false := by simpa using e
    have q2 : decide (kind = kind') = false := by simpa using e
    go_enter Tryd.func33, Tryd.ntmps33
    go_wp2
    try simp only [List.append_eq, List.cons_append, List.nil_append]
    go_big_quiet (fail)
    go_wp2
    go_ret
    exact ⟨by simp [e], _, rfl⟩
  subst e
  by_cases e : v = v'
  case neg =>
    have q1 := fun w => HV.out w
    rw [decide_eq_false e] at q1
    go_enter Tryd.func33, Tryd.ntmps33
    go_wp2
    try simp only [List.append_eq, List.cons_append, List.nil_append]
    go_big_quiet (fail)
    go_wp2
    go_ret
    exact ⟨by simp [e], _, rfl⟩
  subst e
  have r1 := fun w => HV.out w
  rw [decide_eq_true rfl] at r1
  by_cases e : name = name'
  case neg =>
    have q1 : (name.toList == name'.toList) = false := by rw [beq_eq_false_iff_ne]; intro h; rw [str_eq] at h; exact e h
    have q2 : decide (name.toList = name'.toList) = false := by rw [decide_eq_false_iff_not, str_eq]; exact e
    go_enter Tryd.func33, Tryd.ntmps33
    go_wp2
    try simp only [List.append_eq, List.cons_append, List.nil_append]
    go_big_quiet (fail)
    go_wp2
    go_ret
    exact ⟨by simp [e], _, rfl⟩
  subst e
  by_cases e : a = a' ∧ q = q'
  case neg =>
    have q1 := fun w => HA.out w
    rw [decide_eq_false e] at q1
    go_enter Tryd.func33, Tryd.ntmps33
    go_wp2
    try simp only [List.append_eq, List.cons_append, List.nil_append]
    go_big_quiet (fail)
    go_wp2
    go_ret
    exact ⟨by simp only [ND.mk.injEq, true_and]; rw [decide_eq_false (fun h => e ⟨h.1.1, h.1.2.1⟩)]; rfl, _, rfl⟩
  obtain ⟨rfl, rfl⟩ := e
  have r2 := fun w => HA.out w
  rw [decide_eq_true ⟨rfl, rfl⟩] at r2
  by_cases e : rows = rows'
  case neg =>
    have q1 : (rows == rows') = false := by simpa using e
    have q2 : decide (rows = rows') = false := by simpa using e
    go_enter Tryd.func33, Tryd.ntmps33
    go_wp2
    try simp only [List.append_eq, List.cons_append, List.nil_append]
    go_big_quiet (fail)
    go_wp2
    go_ret
    exact ⟨by simp [e], _, rfl⟩
  subst e
  by_cases e : n = n'
  case neg =>
    have q1 : ((n : Int) == (n' : Int)) = false := by rw [beq_eq_false_iff_ne]; omega
    have q2 : decide ((n : Int) = (n' : Int)) = false := by rw [decide_eq_false_iff_not]; omega
    go_enter Tryd.func33, Tryd.ntmps33
    go_wp2
    try simp only [List.append_eq, List.cons_append, List.nil_append]
    go_big_quiet (fail)
    go_wp2
    go_ret
    exact ⟨by simp [e], _, rfl⟩
  subst e
  go_enter Tryd.func33, Tryd.ntmps33
  go_wp2
  try simp only [List.append_eq, List.cons_append, List.nil_append]
  go_big_quiet (fail)
  go_wp2
  go_ret
  exact ⟨by simp, _, rfl⟩
end Go.Proofs.YtggpffipijoddaaDoor
