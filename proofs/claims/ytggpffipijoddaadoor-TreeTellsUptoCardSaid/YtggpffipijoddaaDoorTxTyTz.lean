/- counterpaneref06.Text: a number's digits. counterpaneref06.counted, id, corner. counterpaneref06.part. -/
import Derived.Test.YtggpffipijoddaaDoorCoCp
import Derived.Test.YtggpffipijoddaaDoorCvCw
import Derived.Deep.Cut
namespace Go.Proofs.YtggpffipijoddaaDoor
open Go.RowKit Go.Shelf

/-- the digits of what is left. -/
def ddL (m : Nat) : List UInt8 := if m = 0 then [] else Lib.decDigits m
theorem dec_step (m : Nat) : Lib.decDigits m = ddL (m / 10) ++ [UInt8.ofNat (48 + m % 10)] := by
  unfold ddL
  rw [Lib.decDigits]
  split
  · rename_i h
    rw [if_pos (by omega)]
    simp only [List.nil_append]
    congr 2
    omega
  · rw [if_neg (by omega)]
theorem dec_len (m : Nat) : ∀ k, m < 10 ^ k → 1 ≤ k → (Lib.decDigits m).length ≤ k := by
  induction m using Nat.strongRecOn with
  | _ m ih =>
    intro k hk h1
    rw [dec_step]
    unfold ddL
    split
    · simp; omega
    · have h2 : 1 ≤ m / 10 := by omega
      have h3 : 2 ≤ k := by
        rcases Nat.lt_or_ge k 2 with h | h
        · have : k = 1 := by omega
          subst this; omega
        · exact h
      have h4 : m / 10 < 10 ^ (k - 1) := by
        have : 10 ^ k = 10 ^ (k - 1) * 10 := by rw [← Nat.pow_succ]; congr 1; omega
        omega
      have := ih (m / 10) (by omega) (k - 1) h4 (by omega)
      simp only [List.length_append, List.length_singleton]
      omega
/-- ten digits. -/
theorem digit_at (d : Nat) (hd : d < 10) : ((ByteArray.mk #[48, 49, 50, 51, 52, 53, 54, 55, 56, 57]).extract d (d + 1)) = ⟨#[UInt8.ofNat (48 + d)]⟩ := by
  match d, hd with
  | 0, _ => decide
  | 1, _ => decide
  | 2, _ => decide
  | 3, _ => decide
  | 4, _ => decide
  | 5, _ => decide
  | 6, _ => decide
  | 7, _ => decide
  | 8, _ => decide
  | 9, _ => decide
/-- what is left, and what has been written. -/
def TxInv (u : Nat) (f : Bool) (m : Nat) (l : List UInt8) : Prop := (if f then Lib.decDigits m else ddL m) ++ l = Lib.decDigits u
theorem TxInv.step {u m : Nat} {f : Bool} {l : List UInt8} (h : TxInv u f m l) (hm : f = true ∨ m ≠ 0) : TxInv u false (m / 10) (UInt8.ofNat (48 + m % 10) :: l) := by
  unfold TxInv at h ⊢
  rw [← h]
  have e : (if f then Lib.decDigits m else ddL m) = Lib.decDigits m := by
    cases f with
    | true => rfl
    | false =>
      have : m ≠ 0 := by simpa using hm
      simp [ddL, this]
  rw [e, dec_step m]
  simp
theorem TxInv.len {u m : Nat} {f : Bool} {l : List UInt8} (h : TxInv u f m l) (hu : u < 10 ^ 20) : l.length ≤ 20 := by
  have h1 := dec_len u 20 hu (by omega)
  unfold TxInv at h
  rw [← h, List.length_append] at h1
  omega
theorem TxInv.done {u : Nat} {l : List UInt8} (h : TxInv u false 0 l) : l = Lib.decDigits u := by
  unfold TxInv at h; simpa [ddL] using h

set_option maxRecDepth 100000 in
set_option maxHeartbeats 2000000 in
theorem rtext_pos (u : Nat) (hu : u ≤ 9223372036854775807) (w : World) :
    Calls Tryd.prog 53 #[.int .i64 u] w fun e w' => e = .returned (S (Lib.decDigits u)) ∧ w = w' := by
  have hp : (10:Nat) ^ 20 = 100000000000000000000 := by decide
  go_enter Tryd.func53, Tryd.ntmps53
  go_wp2
  go_loop [0, 4, 5] (fun n s f => ∃ (m : Nat) (l : List UInt8) (b : Bool), n = .int .i64 m ∧ s = S l ∧ f = .bool b ∧ m ≤ 9223372036854775807 ∧ Hid (TxInv u b m l)) (fun n _ f => (intOf n).toNat + (match f with | .bool true => 1 | _ => 0))
  case atStart => exact ⟨u, [], true, rfl, rfl, rfl, hu, by show TxInv _ _ _ _; simp [TxInv]⟩
  case round =>
    obtain ⟨m, l, b, rfl, rfl, rfl, hm, hi⟩ := hrel
    have hl := hi.out.len (by omega)
    have hd := digit_at (m % 10) (by omega)
    have n1 : ¬ 9223372036854775807 < min (m % 10 + 1) 10 - m % 10 + l.length := by omega
    by_cases hg : b = true ∨ m ≠ 0
    · have hst := Lib.hid (hi.out.step hg)
      have hS : Value.string ((ByteArray.mk #[48, 49, 50, 51, 52, 53, 54, 55, 56, 57]).extract (m % 10) (m % 10 + 1) ++ ⟨l.toArray⟩) = S (UInt8.ofNat (48 + m % 10) :: l) := by
        rw [hd]; exact congrArg Value.string (by apply ByteArray.ext; simp [ByteArray.data_append])
      have HS := Lib.hid hS
      clear hi hd hS
      cases b with
      | true =>
        clear hg
        go_wp2
        go_round
        case rel => exact ⟨m / 10, _, false, by go_num, HS.out, rfl, by omega, hst⟩
        case measure => simp [intOf]; omega
      | false =>
        have h0 : m ≠ 0 := by simpa using hg
        have h0' : ((m : Int) != 0) = true := by simp; omega
        clear hg
        go_wp2
        go_round
        case rel => exact ⟨m / 10, _, false, by go_num, HS.out, rfl, by omega, hst⟩
        case measure => simp [intOf]; omega
    · have hb : b = false := by cases b <;> simp at hg ⊢
      have h0 : m = 0 := by apply Classical.byContradiction; intro h; exact hg (.inr h)
      subst hb h0
      have hfin := hi.out.done
      subst hfin
      clear hi hg hd
      go_wp2
      go_ret
      exact ⟨ret_str (by simp), rfl⟩
set_option maxRecDepth 100000 in
set_option maxHeartbeats 2000000 in
theorem rtext_neg (u : Nat) (h1 : 1 ≤ u) (hu : u ≤ 9223372036854775808) (w : World) :
    Calls Tryd.prog 53 #[.int .i64 (-(u : Int))] w fun e w' => e = .returned (S (45 :: Lib.decDigits u)) ∧ w = w' := by
  have hp : (10:Nat) ^ 20 = 100000000000000000000 := by decide
  go_enter Tryd.func53, Tryd.ntmps53
  go_wp2
  go_loop [0, 4, 5] (fun n s f => ∃ (m : Nat) (l : List UInt8) (b : Bool), n = .int .i64 (-(m : Int)) ∧ s = S l ∧ f = .bool b ∧ m ≤ 9223372036854775808 ∧ Hid (TxInv u b m l)) (fun n _ f => (intOf n).natAbs + (match f with | .bool true => 1 | _ => 0))
  case atStart => exact ⟨u, [], true, rfl, rfl, rfl, hu, by show TxInv _ _ _ _; simp [TxInv]⟩
  case round =>
    obtain ⟨m, l, b, rfl, rfl, rfl, hm, hi⟩ := hrel
    have hl := hi.out.len (by omega)
    by_cases hg : b = true ∨ m ≠ 0
    · have hst := Lib.hid (hi.out.step hg)
      have h0' : b = false → ((-(m : Int)) != 0) = true := by intro hb; subst hb; have : m ≠ 0 := by simpa using hg
                                                              simp; omega
      clear hi
      by_cases hz : (m : Int) % 10 = 0
      · have hd := digit_at 0 (by omega)
        have n1 : ¬ 9223372036854775807 < 1 + l.length := by omega
        have hS : Value.string ((ByteArray.mk #[48, 49, 50, 51, 52, 53, 54, 55, 56, 57]).extract 0 1 ++ ⟨l.toArray⟩) = S (UInt8.ofNat (48 + m % 10) :: l) := by
          rw [hd, show m % 10 = 0 by omega]; exact congrArg Value.string (by apply ByteArray.ext; simp [ByteArray.data_append])
        have HS := Lib.hid hS
        clear hd hS
        cases b with
        | true =>
          clear hg h0'
          go_wp2
          go_round
          case rel => exact ⟨m / 10, _, false, by go_num, HS.out, rfl, by omega, hst⟩
          case measure => simp [intOf]; omega
        | false =>
          have h0 : m ≠ 0 := by simpa using hg
          have h1' := h0' rfl
          clear hg h0'
          go_wp2
          go_round
          case rel => exact ⟨m / 10, _, false, by go_num, HS.out, rfl, by omega, hst⟩
          case measure => simp [intOf]; omega
      · have hd := digit_at (m % 10) (by omega)
        have hz' : 0 < (m : Int) % 10 := by omega
        have n1 : ¬ 9223372036854775807 < min (m % 10 + 1) 10 - m % 10 + l.length := by omega
        have hS : Value.string ((ByteArray.mk #[48, 49, 50, 51, 52, 53, 54, 55, 56, 57]).extract (m % 10) (m % 10 + 1) ++ ⟨l.toArray⟩) = S (UInt8.ofNat (48 + m % 10) :: l) := by
          rw [hd]; exact congrArg Value.string (by apply ByteArray.ext; simp [ByteArray.data_append])
        have HS := Lib.hid hS
        clear hd hS hz
        cases b with
        | true =>
          clear hg h0'
          go_wp2
          go_round
          case rel => exact ⟨m / 10, _, false, by go_num, HS.out, rfl, by omega, hst⟩
          case measure => simp [intOf]; omega
        | false =>
          have h0 : m ≠ 0 := by simpa using hg
          have h1' := h0' rfl
          clear hg h0'
          go_wp2
          go_round
          case rel => exact ⟨m / 10, _, false, by go_num, HS.out, rfl, by omega, hst⟩
          case measure => simp [intOf]; omega
    · have hb : b = false := by cases b <;> simp at hg ⊢
      have h0 : m = 0 := by apply Classical.byContradiction; intro h; exact hg (.inr h)
      subst hb h0
      have hfin := hi.out.done
      have n1 : ¬ 9223372036854775807 < 1 + l.length := by omega
      subst hfin
      clear hi hg
      go_wp2
      go_ret
      exact ⟨ret_str (by simp), rfl⟩
theorem rtext_c (n : Int) (hn : i64 n) (w : World) : Calls Tryd.prog 53 #[.int .i64 n] w fun e w' => e = .returned (S (Lib.itoa n)) ∧ w = w' := by
  unfold Lib.itoa
  split
  · have := rtext_neg n.natAbs (by omega) (by have := hn.1; omega) w
    rwa [show (-(n.natAbs : Int)) = n by omega] at this
  · have := rtext_pos n.toNat (by have := hn.2; omega) w
    rwa [show ((n.toNat : Nat) : Int) = n by omega] at this
end Go.Proofs.YtggpffipijoddaaDoor
namespace Go.Proofs.YtggpffipijoddaaDoor
open Go.RowKit Go.Shelf

set_option maxRecDepth 100000 in
set_option maxHeartbeats 1000000 in
theorem rid_any (a n : Int) (ha : i64 a) (hn : i64 n) (w : World) :
    Calls Tryd.prog 66 #[.agg #[.int .i64 a, .int .i64 n]] w fun e w' => e = .returned (S (idL a n)) ∧ Below w.heap.size w w' := by
  have l1 := itoa_le a ha
  have l2 := itoa_le n hn
  unfold idL
  have hIA := fun w => rtext_c a ha w
  have hIN := fun w => rtext_c n hn w
  generalize Lib.itoa a = la at *
  generalize Lib.itoa n = ln at *
  have HIA := Lib.hid hIA
  have HIN := Lib.hid hIN
  clear hIA hIN ha hn
  go_enter Tryd.func66, Tryd.ntmps66
  go_wp2_with fail
  generalize hW : w.alloc (.cells #[.int .i64 a, .int .i64 n] 27) = W
  have k0 : W.cell? ⟨w.heap.size, 0, none⟩ = some (.int .i64 a) := by rw [← hW]; simp
  have k1 : W.cell? ⟨w.heap.size, 1, none⟩ = some (.int .i64 n) := by rw [← hW]; simp
  have HW := Lib.hid hW
  clear hW
  have hgW : w.heap.size < W.heap.size := by rw [← HW.out]; simp
  have hBW := Lib.hid (show Below w.heap.size w W by rw [← HW.out]; exact (Below.refl _ _).alloc (Nat.le_refl _) _)
  have hb0 : Below W.heap.size W W.drew := (Below.refl _ _).drew
  have n1 : ¬ 9223372036854775807 < la.length + 1 := by omega
  have n2 : ¬ 9223372036854775807 < la.length + 1 + ln.length := by omega
  go_region_held3 (fun w' => w'.cell? ⟨w.heap.size, 0, none⟩ = some (.int .i64 a) ∧ w'.cell? ⟨w.heap.size, 1, none⟩ = some (.int .i64 n) ∧ Below W.heap.size W w') (first | exact ⟨k0, k1, hb0⟩ | assumption | exact keep2 hgW (by assumption) (by assumption))
    (first | (go_at_call_of 53 a; refine (HIA.out _).mono ?_; rintro e w' ⟨rfl, rfl⟩) | (go_at_call_of 53 n; refine (HIN.out _).mono ?_; rintro e w' ⟨rfl, rfl⟩))
  all_goals
    go_wp2
    go_ret
    refine ⟨ret_str (by simp), hBW.out.trans (Below.mono ?_ hBW.out.size)⟩
    rename_i hS
    exact hS.2.2

set_option maxRecDepth 100000 in
set_option maxHeartbeats 2000000 in
theorem rcorner_any (c : Cn) (hc : c.ok) (w : World) :
    Calls Tryd.prog 55 #[.agg #[.int .i64 c.ra, .int .i64 c.rn, .int .i64 c.ca, .int .i64 c.cn, .bool c.fr, .bool c.fc]] w fun e w' => e = .returned (S (cornerL c)) ∧ Below w.heap.size w w' := by
  have l1 := id_le c.ra c.rn hc.1 hc.2.1
  have l2 := id_le c.ca c.cn hc.2.2.1 hc.2.2.2
  have l3 := itoa_le (fixI c) (fix_ok c)
  have hI1 := fun w => rid_any c.ra c.rn hc.1 hc.2.1 w
  have hI2 := fun w => rid_any c.ca c.cn hc.2.2.1 hc.2.2.2 w
  have hI3 := fun w => rtext_c (fixI c) (fix_ok c) w
  unfold cornerL
  unfold fixI at l3 hI3 ⊢
  obtain ⟨ra, rn, ca, cn, fr, fc⟩ := c
  dsimp only at l1 l2 l3 hI1 hI2 hI3 ⊢
  generalize idL ra rn = i1 at *
  generalize idL ca cn = i2 at *
  have HI1 := Lib.hid hI1
  have HI2 := Lib.hid hI2
  clear hI1 hI2 hc
  cases fr <;> cases fc
  all_goals
    simp only [if_true, if_false, Bool.false_eq_true, Int.add_zero, Int.zero_add, Int.reduceAdd] at l3 hI3 ⊢
    generalize Lib.itoa _ = i3 at *
    have HI3 := Lib.hid hI3
    clear hI3
    go_enter Tryd.func55, Tryd.ntmps55
    go_wp2_with fail
    generalize hW : w.alloc (.cells _ 29) = W
    have k0 : W.cell? ⟨w.heap.size, 0, none⟩ = some (.int .i64 ra) := by rw [← hW]; simp
    have k1 : W.cell? ⟨w.heap.size, 1, none⟩ = some (.int .i64 rn) := by rw [← hW]; simp
    have k2 : W.cell? ⟨w.heap.size, 2, none⟩ = some (.int .i64 ca) := by rw [← hW]; simp
    have k3 : W.cell? ⟨w.heap.size, 3, none⟩ = some (.int .i64 cn) := by rw [← hW]; simp
    have HW := Lib.hid hW
    clear hW
    have hgW : w.heap.size < W.heap.size := by rw [← HW.out]; simp
    have hBW := Lib.hid (show Below w.heap.size w W by rw [← HW.out]; exact (Below.refl _ _).alloc (Nat.le_refl _) _)
    have hb0 : Below W.heap.size W W.drew := (Below.refl _ _).drew
    have n1 : ¬ 9223372036854775807 < i1.length + 1 := by omega
    have n2 : ¬ 9223372036854775807 < i1.length + 1 + i2.length := by omega
    have n3 : ¬ 9223372036854775807 < i1.length + 1 + i2.length + 1 := by omega
    have n4 : ¬ 9223372036854775807 < i1.length + 1 + i2.length + 1 + i3.length := by omega
    go_region_held3 (fun w' => w'.cell? ⟨w.heap.size, 0, none⟩ = some (.int .i64 ra) ∧ w'.cell? ⟨w.heap.size, 1, none⟩ = some (.int .i64 rn) ∧ w'.cell? ⟨w.heap.size, 2, none⟩ = some (.int .i64 ca) ∧ w'.cell? ⟨w.heap.size, 3, none⟩ = some (.int .i64 cn) ∧ Below W.heap.size W w') (first | exact ⟨k0, k1, k2, k3, hb0⟩ | assumption | exact keepc hgW (by assumption) (by assumption))
      (first | (go_at_call 53; refine (HI3.out _).mono ?_; rintro e w' ⟨rfl, rfl⟩) | (go_at_call_of 66 ra; refine (HI1.out _).mono ?_; rintro e w' ⟨rfl, hb⟩) | (go_at_call_of 66 ca; refine (HI2.out _).mono ?_; rintro e w' ⟨rfl, hb⟩))
    all_goals
      go_wp2
      go_ret
      refine ⟨ret_str (by simp), hBW.out.trans (Below.mono ?_ hBW.out.size)⟩
      rename_i hS
      exact hS.2.2.2.2


set_option maxRecDepth 100000 in
set_option maxHeartbeats 1000000 in
theorem rcounted_any (s : ByteArray) (hs : s.size ≤ 9223372036854775000) (w : World) :
    Calls Tryd.prog 54 #[.string s] w fun e w' => e = .returned (S (sizedL s.data.toList)) ∧ w = w' := by
  have hi : i64 (s.size : Int) := by unfold i64; omega
  have l1 := itoa_le (s.size : Int) hi
  have hI := rtext_c (s.size : Int) hi w
  have hl : s.data.toList.length = s.size := by simp
  unfold sizedL
  rw [hl]
  generalize Lib.itoa (s.size : Int) = i1 at *
  have HI := Lib.hid hI
  have n1 : ¬ 9223372036854775807 < i1.length + 1 := by omega
  have n2 : ¬ 9223372036854775807 < i1.length + 1 + s.size := by omega
  clear hI hl
  go_enter Tryd.func54, Tryd.ntmps54
  go_wp2_with (go_at_call 53; refine HI.out.mono ?_; rintro e w' ⟨rfl, rfl⟩)
  go_ret
  refine ⟨?_, rfl⟩
  have : (({ data := i1.toArray } : ByteArray) ++ { data := #[58] } ++ s) = ⟨(i1 ++ [58] ++ s.data.toList).toArray⟩ := by
    apply ByteArray.ext; simp [ByteArray.data_append]
  exact congrArg (fun x => Ending.returned (Value.string x)) this
end Go.Proofs.YtggpffipijoddaaDoor
namespace Go.Proofs.YtggpffipijoddaaDoor
open Go.RowKit Go.Shelf

/-- the box of a node that came in. -/
theorem box_cells (w : World) (d : ND) (A : Option Addr) (n c : Nat) (T : TypeId) : NodeCells (w.alloc (.cells (nodeA d A n c) T)) w.heap.size 0 d A n c := fun j _ => by
  rw [cell_of_row _ _ _ _ _ _ (heap_alloc_new _ _), Nat.zero_add]

set_option maxRecDepth 100000 in
set_option maxHeartbeats 4000000 in
theorem rpart_lit (w : World) (d : ND) (A : Option Addr) (n c : Nat) (hk : d.kind = 0) (hd : d.ok) (hs1 : d.v.text.size ≤ 9223372036854000000) :
    Calls Tryd.prog 35 #[nodeV d A n c] w fun e w' => e = .returned (S (valL d.v)) ∧ Below w.heap.size w w' := by
  obtain ⟨N, hN⟩ : ∃ N, N = nodeA d A n c := ⟨_, rfl⟩
  obtain ⟨W, hW⟩ : ∃ W, W = w.alloc (.cells N 34) := ⟨_, rfl⟩
  have hBW : Below w.heap.size w W := by rw [hW]; exact (Below.refl _ w).alloc (Nat.le_refl _) _
  have hbx : NodeCells W w.heap.size 0 d A n c := by rw [hW, hN]; exact box_cells w d A n c _
  obtain ⟨h0, h1, h2, h3, h4, h5, h6, h7, h8, h9, h10, h11, h12, h13, h14, h15, h16, h17, h18, h19, h20, h21⟩ := hbx.all
  simp only [Nat.zero_add] at h0 h1 h2 h3 h4 h5 h6
  clear h7 h8 h9 h10 h11 h12 h13 h14 h15 h16 h17 h18 h19 h20 h21 hbx
  have hbw : w.heap.size < W.heap.size := by rw [hW]; simp
  rw [nodeV, ← hN]
  obtain ⟨kind, ⟨k, m, x, s, b, f⟩, name, a, q, rows⟩ := d
  dsimp only at h0 h1 h2 h3 h4 h5 h6 hk hs1 ⊢
  subst hk
  obtain ⟨_, ⟨_, hm, hx, _, hf⟩, _⟩ := hd
  dsimp only at hm hx hf
  unfold valL
  dsimp only
  have HW := Lib.hid hW
  have HBW := Lib.hid hBW
  have HTM := Lib.hid (fun w => rtext_c m hm w)
  have HTX := Lib.hid (fun w => rtext_c x hx w)
  have HTF := Lib.hid (fun w => rtext_c f hf w)
  have HTS := Lib.hid (fun w => rcounted_any s (by omega) w)
  have lm := itoa_le m hm
  have lx := itoa_le x hx
  have lf := itoa_le f hf
  have ls := sized_le s hs1
  generalize Lib.itoa m = lam at *
  generalize Lib.itoa x = lax at *
  generalize Lib.itoa f = laf at *
  generalize sizedL s.data.toList = las at *
  clear hN hW hBW hm hx hf
  by_cases k1 : k = 1
  · subst k1
    rw [if_pos rfl]
    have n1 : ¬ 9223372036854775807 < 1 + lam.length := by omega
    have n2 : ¬ 9223372036854775807 < 1 + lam.length + 1 := by omega
    have n3 : ¬ 9223372036854775807 < 1 + lam.length + 1 + lax.length := by omega
    go_enter Tryd.func35, Tryd.ntmps35
    go_upto_region 1 with (fail)
    rw [← HW.out]
    go_wp2
    go_quiet (first | (go_at_call_of 53 m; exact Calls.quiet_of_same ((HTM.out _).mono (fun _ _ h => ⟨h.1, h.2.symm⟩))) | (go_at_call_of 53 x; exact Calls.quiet_of_same ((HTX.out _).mono (fun _ _ h => ⟨h.1, h.2.symm⟩))))
    go_wp2
    go_ret
    exact ⟨ret_str (by simp), HBW.out.trans (below_drewN (((Below.refl _ W).alloc (Nat.le_refl _) _).mono HBW.out.size) _)⟩
  have hbV := Lib.hid (show ∀ o, Below w.heap.size w (W.alloc o) from fun o => HBW.out.trans (((Below.refl _ W).alloc (Nat.le_refl _) o).mono HBW.out.size))
  rw [if_neg k1]
  by_cases k2 : k = 2
  · subst k2
    rw [if_pos rfl]
    have n1 : ¬ 9223372036854775807 < 1 + las.length := by omega
    go_enter Tryd.func35, Tryd.ntmps35
    go_upto_region 1 with (fail)
    rw [← HW.out]
    go_wp2_with (go_at_call 54; refine (HTS.out _).mono ?_; rintro e w' ⟨rfl, rfl⟩)
    go_ret
    exact ⟨ret_str (by simp), hbV.out _⟩
  rw [if_neg k2]
  by_cases k3 : k = 3
  · subst k3
    rw [if_pos rfl]
    cases b
    all_goals
      go_enter Tryd.func35, Tryd.ntmps35
      go_upto_region 1 with (fail)
      rw [← HW.out]
      go_wp2
      go_ret
      exact ⟨rfl, hbV.out _⟩
  rw [if_neg k3]
  have n1 : ¬ 9223372036854775807 < 1 + laf.length := by omega
  go_enter Tryd.func35, Tryd.ntmps35
  go_upto_region 1 with (fail)
  rw [← HW.out]
  go_wp2_with (go_at_call 53; refine (HTF.out _).mono ?_; rintro e w' ⟨rfl, rfl⟩)
  go_ret
  exact ⟨ret_str (by simp), hbV.out _⟩

set_option maxRecDepth 100000 in
set_option maxHeartbeats 4000000 in
theorem rpart_any (w : World) (d : ND) (A : Option Addr) (n c : Nat) (hd : d.ok) (hn : n ≤ 9223372036854775807) (hs1 : d.v.text.size ≤ 9223372036854000000) (hs2 : d.name.size ≤ 9223372036854000000) :
    Calls Tryd.prog 35 #[nodeV d A n c] w fun e w' => e = .returned (S (partL d n)) ∧ Below w.heap.size w w' := by
  by_cases hk0 : d.kind = 0
  · have := rpart_lit w d A n c hk0 hd hs1
    unfold partL
    rwa [if_pos hk0]
  obtain ⟨N, hN⟩ : ∃ N, N = nodeA d A n c := ⟨_, rfl⟩
  obtain ⟨W, hW⟩ : ∃ W, W = w.alloc (.cells N 34) := ⟨_, rfl⟩
  have hBW : Below w.heap.size w W := by rw [hW]; exact (Below.refl _ w).alloc (Nat.le_refl _) _
  have hbx : NodeCells W w.heap.size 0 d A n c := by rw [hW, hN]; exact box_cells w d A n c _
  obtain ⟨h0, h1, h2, h3, h4, h5, h6, h7, h8, h9, h10, h11, h12, h13, h14, h15, h16, h17, h18, h19, h20, h21⟩ := hbx.all
  simp only [Nat.zero_add] at h0 h7 h8 h9 h10 h11 h12 h13 h14 h15 h16 h17 h18 h19 h20 h21
  clear h1 h2 h3 h4 h5 h6
  have hbw : w.heap.size < W.heap.size := by rw [hW]; simp
  have hA := fun w => rcorner_any d.a hd.2.2.2.1 w
  have hB := fun w => rcorner_any d.b hd.2.2.2.2.1 w
  have lA := corner_le d.a hd.2.2.2.1
  have lB := corner_le d.b hd.2.2.2.2.1
  have hS := fun w => rcounted_any d.name (by omega) w
  have lS := sized_le d.name hs2
  have hin : i64 (n : Int) := by unfold i64; omega
  have hI := fun w => rtext_c (n : Int) hin w
  have lI := itoa_le (n : Int) hin
  have hR := fun w => rtext_c d.rows hd.2.2.2.2.2 w
  have lR := itoa_le d.rows hd.2.2.2.2.2
  unfold partL
  rw [if_neg hk0]
  rw [nodeV, ← hN]
  have HW := Lib.hid hW
  have HBW := Lib.hid hBW
  clear hN hW hBW hbx
  obtain ⟨kind, v, name, a, q, rows⟩ := d
  dsimp only at h0 h7 h8 h9 h10 h11 h12 h13 h14 h15 h16 h17 h18 h19 h20 h21 hA hB lA lB hS lS hI hR lR hs1 hs2 hk0 ⊢
  have k0 := hk0
  have hnm : name.data.toList.length = name.size := by simp
  generalize cornerL a = ca at *
  generalize cornerL q = cq at *
  generalize sizedL name.data.toList = sn at *
  generalize Lib.itoa (n : Int) = li at *
  generalize Lib.itoa rows = lr at *
  have HA := Lib.hid hA
  have HB := Lib.hid hB
  have HS := Lib.hid hS
  have HI := Lib.hid hI
  have HR := Lib.hid hR
  clear hA hB hS hI hR hd hin hk0
  by_cases k1 : kind = 1
  · subst k1
    rw [if_pos rfl]
    have n1 : ¬ 9223372036854775807 < 1 + ca.length := by omega
    go_enter Tryd.func35, Tryd.ntmps35
    go_upto_region 1 with (fail)
    rw [← HW.out]
    go_wp2_with (go_at_call 55; refine (HA.out _).mono ?_; rintro e w' ⟨rfl, hb⟩)
    go_ret
    exact ⟨ret_str (by simp), HBW.out.trans (hb.mono HBW.out.size)⟩
  rw [if_neg k1]
  by_cases k3 : kind = 3
  · subst k3
    rw [if_pos rfl]
    have n1 : ¬ 9223372036854775807 < 1 + ca.length := by omega
    go_enter Tryd.func35, Tryd.ntmps35
    go_upto_region 1 with (fail)
    rw [← HW.out]
    go_wp2_with (go_at_call 55; refine (HA.out _).mono ?_; rintro e w' ⟨rfl, hb⟩)
    go_ret
    exact ⟨ret_str (by simp), HBW.out.trans (hb.mono HBW.out.size)⟩
  rw [if_neg k3]
  by_cases k2 : kind = 2
  · subst k2
    rw [if_pos rfl]
    have n1 : ¬ 9223372036854775807 < 1 + ca.length := by omega
    have n2 : ¬ 9223372036854775807 < 1 + ca.length + 1 := by omega
    have n3 : ¬ 9223372036854775807 < 1 + ca.length + 1 + cq.length := by omega
    have hso : ∀ wx, Below W.heap.size W wx → (wx.cell? ⟨w.heap.size, 8, none⟩ = some (.int .i64 a.ra) ∧ wx.cell? ⟨w.heap.size, 9, none⟩ = some (.int .i64 a.rn) ∧ wx.cell? ⟨w.heap.size, 10, none⟩ = some (.int .i64 a.ca) ∧ wx.cell? ⟨w.heap.size, 11, none⟩ = some (.int .i64 a.cn) ∧ wx.cell? ⟨w.heap.size, 12, none⟩ = some (.bool a.fr) ∧ wx.cell? ⟨w.heap.size, 13, none⟩ = some (.bool a.fc) ∧ wx.cell? ⟨w.heap.size, 14, none⟩ = some (.int .i64 q.ra) ∧ wx.cell? ⟨w.heap.size, 15, none⟩ = some (.int .i64 q.rn) ∧ wx.cell? ⟨w.heap.size, 16, none⟩ = some (.int .i64 q.ca) ∧ wx.cell? ⟨w.heap.size, 17, none⟩ = some (.int .i64 q.cn) ∧ wx.cell? ⟨w.heap.size, 18, none⟩ = some (.bool q.fr) ∧ wx.cell? ⟨w.heap.size, 19, none⟩ = some (.bool q.fc)) ∧ Below W.heap.size W wx := fun wx hx => ⟨⟨(hx.cell (p := ⟨w.heap.size, 8, none⟩) hbw).trans h8, (hx.cell (p := ⟨w.heap.size, 9, none⟩) hbw).trans h9, (hx.cell (p := ⟨w.heap.size, 10, none⟩) hbw).trans h10, (hx.cell (p := ⟨w.heap.size, 11, none⟩) hbw).trans h11, (hx.cell (p := ⟨w.heap.size, 12, none⟩) hbw).trans h12, (hx.cell (p := ⟨w.heap.size, 13, none⟩) hbw).trans h13, (hx.cell (p := ⟨w.heap.size, 14, none⟩) hbw).trans h14, (hx.cell (p := ⟨w.heap.size, 15, none⟩) hbw).trans h15, (hx.cell (p := ⟨w.heap.size, 16, none⟩) hbw).trans h16, (hx.cell (p := ⟨w.heap.size, 17, none⟩) hbw).trans h17, (hx.cell (p := ⟨w.heap.size, 18, none⟩) hbw).trans h18, (hx.cell (p := ⟨w.heap.size, 19, none⟩) hbw).trans h19⟩, hx⟩
    have HSO := Lib.hid hso
    have hb0 : Below W.heap.size W W.drew := (Below.refl _ _).drew
    clear hso
    go_enter Tryd.func35, Tryd.ntmps35
    go_upto_region 1 with (fail)
    rw [← HW.out]
    go_wp2
    go_region_held3 (fun wx => (wx.cell? ⟨w.heap.size, 8, none⟩ = some (.int .i64 a.ra) ∧ wx.cell? ⟨w.heap.size, 9, none⟩ = some (.int .i64 a.rn) ∧ wx.cell? ⟨w.heap.size, 10, none⟩ = some (.int .i64 a.ca) ∧ wx.cell? ⟨w.heap.size, 11, none⟩ = some (.int .i64 a.cn) ∧ wx.cell? ⟨w.heap.size, 12, none⟩ = some (.bool a.fr) ∧ wx.cell? ⟨w.heap.size, 13, none⟩ = some (.bool a.fc) ∧ wx.cell? ⟨w.heap.size, 14, none⟩ = some (.int .i64 q.ra) ∧ wx.cell? ⟨w.heap.size, 15, none⟩ = some (.int .i64 q.rn) ∧ wx.cell? ⟨w.heap.size, 16, none⟩ = some (.int .i64 q.ca) ∧ wx.cell? ⟨w.heap.size, 17, none⟩ = some (.int .i64 q.cn) ∧ wx.cell? ⟨w.heap.size, 18, none⟩ = some (.bool q.fr) ∧ wx.cell? ⟨w.heap.size, 19, none⟩ = some (.bool q.fc)) ∧ Below W.heap.size W wx) (first | exact HSO.out _ hb0 | exact HSO.out _ (belowT (by assumption) (by assumption)))
      (first | (go_at_call_of 55 (a.ra); refine (HA.out _).mono ?_; rintro e w' ⟨rfl, hb⟩) | (go_at_call_of 55 (q.ra); refine (HB.out _).mono ?_; rintro e w' ⟨rfl, hb⟩))
    all_goals
      go_wp2
      go_ret
      refine ⟨ret_str (by simp), ?_⟩
      rename_i hS
      exact HBW.out.trans (hS.2.mono HBW.out.size)
  rw [if_neg k2]
  by_cases k4 : kind = 4
  · subst k4
    rw [if_pos rfl]
    have n1 : ¬ 9223372036854775807 < 1 + sn.length := by omega
    have n2 : ¬ 9223372036854775807 < 1 + sn.length + 1 := by omega
    have n3 : ¬ 9223372036854775807 < 1 + sn.length + 1 + li.length := by omega
    have hso : ∀ wx, Below W.heap.size W wx → (wx.cell? ⟨w.heap.size, 7, none⟩ = some (.string name) ∧ wx.cell? ⟨w.heap.size, 21, none⟩ = some (.slice A n c)) ∧ Below W.heap.size W wx := fun wx hx => ⟨⟨(hx.cell (p := ⟨w.heap.size, 7, none⟩) hbw).trans h7, (hx.cell (p := ⟨w.heap.size, 21, none⟩) hbw).trans h21⟩, hx⟩
    have HSO := Lib.hid hso
    have hb0 : Below W.heap.size W W.drew := (Below.refl _ _).drew
    clear hso
    go_enter Tryd.func35, Tryd.ntmps35
    go_upto_region 1 with (fail)
    rw [← HW.out]
    go_wp2
    go_region_held3 (fun wx => (wx.cell? ⟨w.heap.size, 7, none⟩ = some (.string name) ∧ wx.cell? ⟨w.heap.size, 21, none⟩ = some (.slice A n c)) ∧ Below W.heap.size W wx) (first | exact HSO.out _ hb0 | exact HSO.out _ (belowT (by assumption) (by assumption)))
      (first | (go_at_call 54; refine (HS.out _).mono ?_; rintro e w' ⟨rfl, rfl⟩) | (go_at_call 53; refine (HI.out _).mono ?_; rintro e w' ⟨rfl, rfl⟩))
    all_goals
      go_wp2
      go_ret
      refine ⟨ret_str (by simp), ?_⟩
      rename_i hS
      exact HBW.out.trans (hS.2.mono HBW.out.size)
  rw [if_neg k4]
  by_cases k5 : kind = 5
  · subst k5
    rw [if_pos rfl]
    have n1 : ¬ 9223372036854775807 < 1 + name.size := by omega
    go_enter Tryd.func35, Tryd.ntmps35
    go_upto_region 1 with (fail)
    rw [← HW.out]
    go_wp2
    go_ret
    refine ⟨?_, HBW.out⟩
    have : (({ data := #[85] } : ByteArray) ++ name) = ⟨([85] ++ name.data.toList).toArray⟩ := by apply ByteArray.ext; simp [ByteArray.data_append]
    exact congrArg (fun x => Ending.returned (Value.string x)) this
  rw [if_neg k5]
  by_cases k6 : kind = 6
  · subst k6
    rw [if_pos rfl]
    have n1 : ¬ 9223372036854775807 < 1 + name.size := by omega
    go_enter Tryd.func35, Tryd.ntmps35
    go_upto_region 1 with (fail)
    rw [← HW.out]
    go_wp2
    go_ret
    refine ⟨?_, HBW.out⟩
    have : (({ data := #[66] } : ByteArray) ++ name) = ⟨([66] ++ name.data.toList).toArray⟩ := by apply ByteArray.ext; simp [ByteArray.data_append]
    exact congrArg (fun x => Ending.returned (Value.string x)) this
  rw [if_neg k6]
  by_cases k7 : kind = 7
  · subst k7
    rw [if_pos rfl]
    have n1 : ¬ 9223372036854775807 < 1 + sn.length := by omega
    go_enter Tryd.func35, Tryd.ntmps35
    go_upto_region 1 with (fail)
    rw [← HW.out]
    go_wp2_with (go_at_call 54; refine (HS.out _).mono ?_; rintro e w' ⟨rfl, rfl⟩)
    go_ret
    exact ⟨ret_str (by simp), HBW.out⟩
  rw [if_neg k7]
  by_cases k8 : kind = 8
  · subst k8
    rw [if_pos rfl]
    have n1 : ¬ 9223372036854775807 < 1 + lr.length := by omega
    have n2 : ¬ 9223372036854775807 < 1 + lr.length + 1 := by omega
    have n3 : ¬ 9223372036854775807 < 1 + lr.length + 1 + li.length := by omega
    have hso : ∀ wx, Below W.heap.size W wx → (wx.cell? ⟨w.heap.size, 20, none⟩ = some (.int .i64 rows) ∧ wx.cell? ⟨w.heap.size, 21, none⟩ = some (.slice A n c)) ∧ Below W.heap.size W wx := fun wx hx => ⟨⟨(hx.cell (p := ⟨w.heap.size, 20, none⟩) hbw).trans h20, (hx.cell (p := ⟨w.heap.size, 21, none⟩) hbw).trans h21⟩, hx⟩
    have HSO := Lib.hid hso
    have hb0 : Below W.heap.size W W.drew := (Below.refl _ _).drew
    clear hso
    go_enter Tryd.func35, Tryd.ntmps35
    go_upto_region 1 with (fail)
    rw [← HW.out]
    go_wp2
    go_region_held3 (fun wx => (wx.cell? ⟨w.heap.size, 20, none⟩ = some (.int .i64 rows) ∧ wx.cell? ⟨w.heap.size, 21, none⟩ = some (.slice A n c)) ∧ Below W.heap.size W wx) (first | exact HSO.out _ hb0 | exact HSO.out _ (belowT (by assumption) (by assumption)))
      (first | (go_at_call_of 53 rows; refine (HR.out _).mono ?_; rintro e w' ⟨rfl, rfl⟩) | (go_at_call_of 53 n; refine (HI.out _).mono ?_; rintro e w' ⟨rfl, rfl⟩))
    all_goals
      go_wp2
      go_ret
      refine ⟨ret_str (by simp), ?_⟩
      rename_i hS
      exact HBW.out.trans (hS.2.mono HBW.out.size)
  rw [if_neg k8]
  go_enter Tryd.func35, Tryd.ntmps35
  go_upto_region 1 with (fail)
  rw [← HW.out]
  go_wp2
  go_ret
  exact ⟨rfl, HBW.out⟩
end Go.Proofs.YtggpffipijoddaaDoor
