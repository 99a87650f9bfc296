/- script: readHead. -/
import Derived.Test.YtlgfjacjcacmmaaGreatDoorJlM
import Derived.Test.YtlgfjacjcacmmaaGreatDoorFh0CuRh
import Derived.Shelf.Strings.Split
namespace Go.Proofs.YtlgfjacjcacmmaaGreatDoor
set_option linter.unusedSimpArgs false
set_option linter.unusedVariables false
open Go Go.RowKit Go.Shelf

theorem infStr : (Tryz.prog.info? 9).map (fun i => (i.zero, i.size, i.bytes)) = some (some (.string ByteArray.empty), 1, 16) := by kernel_rfl
theorem countB_one (s : ByteArray) (c : UInt8) : Lib.countB s ⟨#[c]⟩ = s.data.toList.count c := Lib.count_one c s.data.toList
set_option maxRecDepth 100000 in
set_option maxHeartbeats 2000000 in
theorem split_c (s : ByteArray) (hs : s.size ≤ 1048576) (w : World) :
    Calls Tryz.prog 33 #[.string s, .string ⟨#[32]⟩] w fun e w' => e = .returned (.slice (some ⟨w.heap.size, 0, none⟩) (s.data.toList.count 32 + 1) (s.data.toList.count 32 + 1)) ∧ w' = w.alloc (.cells ((Lib.splitB ⟨#[32]⟩ 0 (s.data.toList.count 32) s).map Value.string).toArray 9) := by
  obtain ⟨k, hk⟩ : ∃ k, Lib.countB s ⟨#[32]⟩ = k := ⟨_, rfl⟩
  have hk2 : s.data.toList.count 32 = k := by rw [← hk, countB_one]
  have hle : k ≤ s.size := by rw [← hk]; exact Lib.countB_le ⟨#[32]⟩ (by decide) s.size s (Nat.le_refl _)
  have hI : ∀ (x : ByteArray) (c : Array Value), x.size ≤ s.size → Calls Tryz.prog 61 #[.string x, .string ⟨#[32]⟩] (w.alloc (.cells c 9)) fun e w' => e = .returned (.int .i64 (Lib.indexB x ⟨#[32]⟩)) ∧ w' = w.alloc (.cells c 9) := fun x c _ => (Tryz.strings_Index_one x 32 _).mono fun _ _ h => ⟨by rw [h.1, ← index_byte], h.2⟩
  have hC : Calls Tryz.prog 60 #[.string s, .string ⟨#[32]⟩] w fun e w' => e = .returned (.int .i64 (Lib.countB s ⟨#[32]⟩)) ∧ w' = w := (Tryz.strings_Count_one s 32 w).mono fun _ _ h => ⟨by rw [h.1, countB_one]; rfl, h.2⟩
  have c := Any.strings_genSplit_core Tryz.lays221 infStr s ⟨#[32]⟩ 0 (-1) (k + 1) w (by omega) (by decide) (Nat.zero_le _) hI hC (by decide) (by decide) (by rw [if_pos (by decide), hk]; omega)
  have hlen := Lib.splitB_all ⟨#[32]⟩ (by decide) 0 k s hk
  rw [Nat.add_sub_cancel, hlen] at c
  have e2 : Lib.cellsOf (Lib.splitB ⟨#[32]⟩ 0 k s) (k + 1) = ((Lib.splitB ⟨#[32]⟩ 0 k s).map Value.string).toArray := by rw [← hlen]; exact Lib.cellsOf_full _
  rw [e2] at c
  rw [hk2]
  generalize ((Lib.splitB ⟨#[32]⟩ 0 k s).map Value.string).toArray = cs at c ⊢
  have HC := Lib.hid c
  clear c hI hC e2 hlen hk hk2 hle
  go_enter Tryz.func33, Tryz.ntmps33
  go_wp2_with (go_at_call 45; refine HC.out.mono ?_; rintro e w' ⟨rfl, hw⟩; rw [hw])
  go_ret
  exact ⟨rfl, rfl⟩
/-- the four parts of a line with three blanks. -/
theorem parts_four {s : ByteArray} (h : s.data.toList.count 32 = 3) : ∃ b0 b1 b2 b3 : ByteArray, Lib.splitB ⟨#[32]⟩ 0 3 s = [b0, b1, b2, b3] ∧ b1.data.toList = (cutAt 32 (cutAt 32 s.data.toList).2.1).1 ∧ b2.data.toList = (cutAt 32 (cutAt 32 (cutAt 32 s.data.toList).2.1).2.1).1 ∧ b3.data.toList = (cutAt 32 (cutAt 32 (cutAt 32 s.data.toList).2.1).2.1).2.1 := by
  have h1 := Lib.splitB_data ⟨#[32]⟩ 0 3 s
  have h2 := split_four h
  change List.map _ _ = Lib.splitK [32] 0 3 s.data.toList at h1
  rw [h2] at h1
  obtain ⟨b0, l0, e⟩ : ∃ b l, Lib.splitB ⟨#[32]⟩ 0 3 s = b :: l := by cases hq : Lib.splitB ⟨#[32]⟩ 0 3 s with | nil => rw [hq] at h1; cases h1 | cons b l => exact ⟨b, l, rfl⟩
  rw [e] at h1 ⊢
  simp only [List.map_cons, List.cons.injEq] at h1
  obtain ⟨-, h1⟩ := h1
  obtain ⟨b1, l1, rfl⟩ : ∃ b l, l0 = b :: l := by cases l0 with | nil => cases h1 | cons b l => exact ⟨b, l, rfl⟩
  simp only [List.map_cons, List.cons.injEq] at h1
  obtain ⟨e1, h1⟩ := h1
  obtain ⟨b2, l2, rfl⟩ : ∃ b l, l1 = b :: l := by cases l1 with | nil => cases h1 | cons b l => exact ⟨b, l, rfl⟩
  simp only [List.map_cons, List.cons.injEq] at h1
  obtain ⟨e2, h1⟩ := h1
  obtain ⟨b3, l3, rfl⟩ : ∃ b l, l2 = b :: l := by cases l2 with | nil => cases h1 | cons b l => exact ⟨b, l, rfl⟩
  simp only [List.map_cons, List.cons.injEq, List.map_eq_nil_iff] at h1
  obtain ⟨e3, rfl⟩ := h1
  exact ⟨b0, b1, b2, b3, rfl, e1, e2, e3⟩
theorem part_size (s : ByteArray) (k : Nat) : ∀ b ∈ Lib.splitB ⟨#[32]⟩ 0 k s, b.size ≤ s.size := by
  induction k generalizing s with
  | zero => intro b hb; simp [Lib.splitB] at hb; subst hb; exact Nat.le_refl _
  | succ k ih =>
    intro b hb
    unfold Lib.splitB at hb
    split at hb
    · simp at hb; subst hb; exact Nat.le_refl _
    · rcases List.mem_cons.1 hb with rfl | hb
      · simp; omega
      · have := ih _ b hb
        simp at this
        omega
theorem ErrS.set {w : World} (h : ErrS w) {p j : Nat} (h1 : p ≠ 1) (h2 : p ≠ 2) (v : Value) : ErrS (w.setCell ⟨p, j, none⟩ v) := by
  obtain ⟨⟨e1, c1, k1⟩, ⟨e2, c2, k2⟩⟩ := h
  exact ⟨⟨e1, (World.cell?_of_block (a := ⟨1, 0, none⟩) (Below.heap_setCell w ⟨p, j, none⟩ v _ (fun e => h1 e.symm))).trans c1, k1⟩, ⟨e2, (World.cell?_of_block (a := ⟨2, 0, none⟩) (Below.heap_setCell w ⟨p, j, none⟩ v _ (fun e => h2 e.symm))).trans c2, k2⟩⟩
theorem ldStr_run {o : Oper} {ρ : Operand → Value} {w : World} (x : Operand) (ho : o.op = .load 9 x) (p : Addr) (hx : ρ x = .pointer (some p)) (v : Value) (hc : w.cell? p = some v) : (execOp ρ o).run Tryz.prog w = .ok (.value v) w := by
  unfold execOp
  simp only [ho, hx]
  simp [go_sem, hc]
/-- a block of a world, and what else was. -/
def HdW (W : World) (p g : Nat) (cs : Array Value) (w : World) : Prop := ErrS w ∧ w.heap[g]? = some (.cells cs 9) ∧ W.grownBy w (some p)
theorem grown_below2 {w w' : World} (b : Nat) (h : Below w.heap.size w w') : w.grownBy w' (some b) := ⟨h.os, h.tape, h.output, h.size, fun k hk _ => h.block k hk⟩
theorem grown_trans2 {a b c : World} {r : Option Nat} (h : a.grownBy b r) (k : b.grownBy c r) : a.grownBy c r :=
  ⟨k.os.trans h.os, k.tape.trans h.tape, k.output.trans h.output, Nat.le_trans h.size k.size, fun i hi hne => (k.block i (Nat.lt_of_lt_of_le hi h.size) hne).trans (h.block i hi hne)⟩
theorem grown_set2 (w : World) (b j : Nat) (v : Value) : w.grownBy (w.setCell ⟨b, j, none⟩ v) (some b) :=
  ⟨rfl, rfl, rfl, by simp, fun k _ hne => Below.heap_setCell w ⟨b, j, none⟩ v k (fun e => hne (by rw [e]))⟩
theorem tab_grown {w w' : World} {p : Nat} (h : Tab w) (hg : w.grownBy w' (some p)) (h3 : p ≠ 3) : Tab w' := by
  unfold Tab Lib.TabIs World.var? at h ⊢
  rw [gPow, Option.bind_some] at h ⊢
  rw [hg.block _ (by apply Classical.byContradiction; intro hn; rw [Array.getElem?_eq_none (by omega)] at h; cases h) (fun e => h3 (Option.some.inj e).symm)]
  exact h
theorem HdW.next {W w w2 : World} {p g : Nat} {cs : Array Value} (h : HdW W p g cs w) (hb : Below w.heap.size w w2) : HdW W p g cs w2 :=
  ⟨h.1.below hb, (hb.block g (Array.getElem?_eq_some_iff.1 h.2.1).1).trans h.2.1, grown_trans2 h.2.2 (grown_below2 p hb)⟩

theorem HdW.set {W w : World} {p g : Nat} {cs : Array Value} (h : HdW W p g cs w) (h1 : p ≠ 1) (h2 : p ≠ 2) (hg : g ≠ p) (j : Nat) (v : Value) : HdW W p g cs (w.setCell ⟨p, j, none⟩ v) :=
  ⟨h.1.set h1 h2 v, (Below.heap_setCell w ⟨p, j, none⟩ v g hg).trans h.2.1, grown_trans2 h.2.2 (grown_set2 w p j v)⟩
theorem fz_row {w : World} {p : Nat} {cs : Array Value} {t : TypeId} (h : w.heap[p]? = some (.cells cs t)) (j : Nat) : w.frozen? ⟨p, j, none⟩ = false := by simp only [World.frozen?, h]; simp

set_option maxRecDepth 100000 in
set_option maxHeartbeats 4000000 in
theorem readHead_c (p : Nat) (r0 c0 w0 : Int) (A0 : Option Addr) (n0 k0 : Nat) (l : ByteArray) (hl : l.size ≤ 1048576) (w : World) (hp : w.heap[p]? = some (.cells #[.int .i64 r0, .int .i64 c0, .int .i64 w0, .slice A0 n0 k0] 25)) (he : ErrS w) (ht : Tab w)
    (h1 : p ≠ 1) (h2 : p ≠ 2) (h3 : p ≠ 3) :
    Calls Tryz.prog 17 #[.pointer (some ⟨p, 0, none⟩), .string l] w fun e w' => w.grownBy w' (some p) ∧ (match rdH l.data.toList with
      | some s => e = .returned (.bool true) ∧ w'.heap[p]? = some (.cells #[.int .i64 s.rows, .int .i64 s.cols, .int .i64 s.wr, .slice A0 n0 k0] 25)
      | none => e = .returned (.bool false)) := by
  have hS := split_c l hl w
  obtain ⟨k, hk⟩ : ∃ k, l.data.toList.count 32 = k := ⟨_, rfl⟩
  rw [hk] at hS
  have hoo := rdH_prog l.data.toList
  rw [hk] at hoo
  obtain ⟨oo, hoe⟩ : ∃ o, rdH l.data.toList = o := ⟨_, rfl⟩
  rw [hoe] at hoo ⊢
  clear hoe
  by_cases hk3 : k = 3
  · subst hk3
    obtain ⟨b0, b1, b2, b3, hb, e1, e2, e3⟩ := parts_four hk
    have hsz := part_size l 3
    rw [hb] at hS hsz
    have z1 : b1.size ≤ 1048576 := by have := hsz b1 (by simp); omega
    have z2 : b2.size ≤ 1048576 := by have := hsz b2 (by simp); omega
    have z3 : b3.size ≤ 1048576 := by have := hsz b3 (by simp); omega
    obtain ⟨q, hq⟩ : ∃ q, q = headP numP l.data.toList := ⟨_, rfl⟩
    have q1 : q.rows = numP b1.data.toList := by rw [hq, e1]; rfl
    have q2 : q.cols = numP b2.data.toList := by rw [hq, e2]; rfl
    have q3 : q.wr = numP b3.data.toList := by rw [hq, e3]; rfl
    have i1 : i64 q.rows := by rw [q1]; exact numP_i64 _
    have i2 : i64 q.cols := by rw [q2]; exact numP_i64 _
    have i3 : i64 q.wr := by rw [q3]; exact numP_i64 _
    have hR := fun w => rightHead_c q A0 n0 k0 w
    have hH := fun w ht => headText_c q A0 n0 k0 w i1 i2 i3 ht
    have N1 := fun w he => number_c b1 z1 w he
    have N2 := fun w he => number_c b2 z2 w he
    have N3 := fun w he => number_c b3 z3 w he
    rw [← q1] at N1
    rw [← q2] at N2
    rw [← q3] at N3
    rw [← hq] at hoo
    obtain ⟨hb', ehb⟩ : ∃ b, headB q = b := ⟨_, rfl⟩
    obtain ⟨L, hL⟩ : ∃ L, headL q = L := ⟨_, rfl⟩
    rw [ehb] at hR hoo
    rw [hL] at hH hoo
    obtain ⟨cd, hcd⟩ : ∃ cd : ByteArray, cd = ⟨L.toArray⟩ := ⟨_, rfl⟩
    have hcl : cd.data.toList = L := by rw [hcd]
    simp only [S, ← hcd] at hH
    have HCL := Lib.hid hcl
    clear hcd hcl
    have HOO := Lib.hid hoo
    clear hoo
    obtain ⟨r, c, ws, st⟩ := q
    dsimp only at *
    simp only [List.map_cons, List.map_nil] at hS
    obtain ⟨W, hW⟩ : ∃ W, W = w.alloc (.cells #[.string b0, .string b1, .string b2, .string b3] 9) := ⟨_, rfl⟩
    obtain ⟨g, hg⟩ : ∃ g, g = w.heap.size := ⟨_, rfl⟩
    have hbW : Below w.heap.size w W := by rw [hW]; exact (Below.refl _ w).alloc (Nat.le_refl _) _
    have hkg : W.heap[g]? = some (.cells #[.string b0, .string b1, .string b2, .string b3] 9) := by rw [hW, hg]; exact heap_alloc_new w _
    have hpl : p < w.heap.size := (Array.getElem?_eq_some_iff.1 hp).1
    have hkp := (hbW.block p hpl).trans hp
    have hne : g ≠ p := by omega
    have hD0 : HdW W p g #[.string b0, .string b1, .string b2, .string b3] W := ⟨he.below hbW, hkg, ⟨rfl, rfl, rfl, Nat.le_refl _, fun _ _ _ => rfl⟩⟩
    have htW := tab_below ht hbW
    rw [← hW, ← hg] at hS
    have HS := Lib.hid hS
    have HR := Lib.hid hR
    have HH := Lib.hid hH
    have HN1 := Lib.hid N1
    have HN2 := Lib.hid N2
    have HN3 := Lib.hid N3
    have HBW := Lib.hid hbW
    have HKP := Lib.hid hkp
    have HD0 := Lib.hid hD0
    have HT := Lib.hid htW
    have HNE := Lib.hid hne
    have HP1 := Lib.hid h1
    have HP2 := Lib.hid h2
    have HP3 := Lib.hid h3
    have HL := Lib.hid hL
    have HG := Lib.hid hg
    have HW := Lib.hid hW
    clear hS hR hH N1 N2 N3 hbW hkp hD0 htW hne h1 h2 h3 hL hW hg hkg hp he ht hk hb hsz z1 z2 z3 q1 q2 q3 i1 i2 i3 e1 e2 e3 ehb hq hpl
    go_enter Tryz.func17, Tryz.ntmps17
    go_wp2_with (first | (go_at_call 33; refine HS.out.mono ?_; rintro e w' ⟨rfl, hw⟩; rw [hw]; clear hw) | fail)
    refine wp_region_held_drew (S := fun wx => HdW W p g #[.string b0, .string b1, .string b2, .string b3] wx) (by kernel_rfl) ⟨HD0.out.1, HD0.out.2.1, ⟨rfl, rfl, rfl, Nat.le_refl _, fun _ _ _ => rfl⟩⟩ (fun hHeld => ?_)
    refine wpAnyH_take (i := 0) (v := .pointer (some ⟨p, 0, none⟩)) rfl (by kernel_rfl) (by kernel_rfl) (by kernel_rfl) (fun _ _ _ h => h) (Or.inl ⟨by kernel_rfl, fun _ hS => by kernel_rfl⟩) hHeld ?_
    (try simp only [Act.put, List.getElem_toArray, List.getElem_cons_succ, List.getElem_cons_zero, List.setIfInBounds_toArray, List.set_cons_zero, List.set_cons_succ])
    refine wpAnyH_take (i := 1) (v := .pointer (some ⟨p, 0, none⟩)) rfl (by kernel_rfl) (by kernel_rfl) (by kernel_rfl) (fun _ _ _ h => h) (Or.inl ⟨by kernel_rfl, fun _ hS => by kernel_rfl⟩) hHeld ?_
    (try simp only [Act.put, List.getElem_toArray, List.getElem_cons_succ, List.getElem_cons_zero, List.setIfInBounds_toArray, List.set_cons_zero, List.set_cons_succ])
    refine wpAnyH_take (i := 2) (v := .pointer (some ⟨p, 0, none⟩)) rfl (by kernel_rfl) (by kernel_rfl) (by kernel_rfl) (fun _ _ _ h => h) (Or.inl ⟨by kernel_rfl, fun _ hS => by kernel_rfl⟩) hHeld ?_
    (try simp only [Act.put, List.getElem_toArray, List.getElem_cons_succ, List.getElem_cons_zero, List.setIfInBounds_toArray, List.set_cons_zero, List.set_cons_succ])
    refine wpAnyH_take (i := 3) (v := .slice (some ⟨g, 0, none⟩) 4 4) rfl (by kernel_rfl) (by kernel_rfl) (by kernel_rfl) (fun _ _ _ h => h) (Or.inl ⟨by kernel_rfl, fun _ hS => by kernel_rfl⟩) hHeld ?_
    (try simp only [Act.put, List.getElem_toArray, List.getElem_cons_succ, List.getElem_cons_zero, List.setIfInBounds_toArray, List.set_cons_zero, List.set_cons_succ])
    refine wpAnyH_take (i := 7) (v := .slice (some ⟨g, 0, none⟩) 4 4) rfl (by kernel_rfl) (by kernel_rfl) (by kernel_rfl) (fun _ _ _ h => h) (Or.inl ⟨by kernel_rfl, fun _ hS => by kernel_rfl⟩) hHeld ?_
    (try simp only [Act.put, List.getElem_toArray, List.getElem_cons_succ, List.getElem_cons_zero, List.setIfInBounds_toArray, List.set_cons_zero, List.set_cons_succ])
    refine wpAnyH_take (i := 11) (v := .slice (some ⟨g, 0, none⟩) 4 4) rfl (by kernel_rfl) (by kernel_rfl) (by kernel_rfl) (fun _ _ _ h => h) (Or.inl ⟨by kernel_rfl, fun _ hS => by kernel_rfl⟩) hHeld ?_
    (try simp only [Act.put, List.getElem_toArray, List.getElem_cons_succ, List.getElem_cons_zero, List.setIfInBounds_toArray, List.set_cons_zero, List.set_cons_succ])
    refine wpAnyH_take (i := 4) (v := .pointer (some ⟨g, 1, none⟩)) rfl (by kernel_rfl) (by kernel_rfl) (by kernel_rfl) (fun _ _ _ h => h) (Or.inl ⟨by kernel_rfl, fun _ hS => by kernel_rfl⟩) hHeld ?_
    (try simp only [Act.put, List.getElem_toArray, List.getElem_cons_succ, List.getElem_cons_zero, List.setIfInBounds_toArray, List.set_cons_zero, List.set_cons_succ])
    refine wpAnyH_take (i := 8) (v := .pointer (some ⟨g, 2, none⟩)) rfl (by kernel_rfl) (by kernel_rfl) (by kernel_rfl) (fun _ _ _ h => h) (Or.inl ⟨by kernel_rfl, fun _ hS => by kernel_rfl⟩) hHeld ?_
    (try simp only [Act.put, List.getElem_toArray, List.getElem_cons_succ, List.getElem_cons_zero, List.setIfInBounds_toArray, List.set_cons_zero, List.set_cons_succ])
    refine wpAnyH_take (i := 12) (v := .pointer (some ⟨g, 3, none⟩)) rfl (by kernel_rfl) (by kernel_rfl) (by kernel_rfl) (fun _ _ _ h => h) (Or.inl ⟨by kernel_rfl, fun _ hS => by kernel_rfl⟩) hHeld ?_
    (try simp only [Act.put, List.getElem_toArray, List.getElem_cons_succ, List.getElem_cons_zero, List.setIfInBounds_toArray, List.set_cons_zero, List.set_cons_succ])
    refine wpAnyH_take (i := 5) (v := .string b1) rfl (by kernel_rfl) (by kernel_rfl) (by kernel_rfl) (fun _ _ _ h => h) (Or.inl ⟨by kernel_rfl, fun _ hS => ldStr_run _ rfl ⟨g, 1, none⟩ rfl _ (cell_of_row _ _ 1 _ _ _ hS.2.1)⟩) hHeld ?_
    (try simp only [Act.put, List.getElem_toArray, List.getElem_cons_succ, List.getElem_cons_zero, List.setIfInBounds_toArray, List.set_cons_zero, List.set_cons_succ])
    refine wpAnyH_take (i := 9) (v := .string b2) rfl (by kernel_rfl) (by kernel_rfl) (by kernel_rfl) (fun _ _ _ h => h) (Or.inl ⟨by kernel_rfl, fun _ hS => ldStr_run _ rfl ⟨g, 2, none⟩ rfl _ (cell_of_row _ _ 2 _ _ _ hS.2.1)⟩) hHeld ?_
    (try simp only [Act.put, List.getElem_toArray, List.getElem_cons_succ, List.getElem_cons_zero, List.setIfInBounds_toArray, List.set_cons_zero, List.set_cons_succ])
    refine wpAnyH_take (i := 13) (v := .string b3) rfl (by kernel_rfl) (by kernel_rfl) (by kernel_rfl) (fun _ _ _ h => h) (Or.inl ⟨by kernel_rfl, fun _ hS => ldStr_run _ rfl ⟨g, 3, none⟩ rfl _ (cell_of_row _ _ 3 _ _ _ hS.2.1)⟩) hHeld ?_
    (try simp only [Act.put, List.getElem_toArray, List.getElem_cons_succ, List.getElem_cons_zero, List.setIfInBounds_toArray, List.set_cons_zero, List.set_cons_succ])
    refine wpAnyH_ready (rs := [6]) (by kernel_rfl) (by simp) ?_
    refine AllReadyH.cons rfl (fun K hK => ?_) AllReadyH.nil
    go_simp
    refine (HN1.out _ hHeld.1).mono ?_
    rintro e w1 ⟨rfl, hb1⟩
    try go_simp
    have hH1 := hHeld.next hb1
    refine hK.out _ _ hH1 (fun hHeld1 => ?_)
    have hBw1 := Lib.hid (hb1)
    clear hK K hHeld hb1 hH1
    have hHeld := hHeld1
    clear hHeld1
    (try simp only [Act.put, List.getElem_toArray, List.getElem_cons_succ, List.getElem_cons_zero, List.setIfInBounds_toArray, List.set_cons_zero, List.set_cons_succ])
    refine wpAnyH_ready (rs := [10]) (by kernel_rfl) (by simp) ?_
    refine AllReadyH.cons rfl (fun K hK => ?_) AllReadyH.nil
    go_simp
    refine (HN2.out _ hHeld.1).mono ?_
    rintro e w2 ⟨rfl, hb2⟩
    try go_simp
    have hH2 := hHeld.next hb2
    refine hK.out _ _ hH2 (fun hHeld2 => ?_)
    have hBw2 := Lib.hid (hBw1.out.trans (hb2.mono hBw1.out.size))
    clear hK K hHeld hb2 hH2
    have hHeld := hHeld2
    clear hHeld2
    (try simp only [Act.put, List.getElem_toArray, List.getElem_cons_succ, List.getElem_cons_zero, List.setIfInBounds_toArray, List.set_cons_zero, List.set_cons_succ])
    refine wpAnyH_ready (rs := [14]) (by kernel_rfl) (by simp) ?_
    refine AllReadyH.cons rfl (fun K hK => ?_) AllReadyH.nil
    go_simp
    refine (HN3.out _ hHeld.1).mono ?_
    rintro e w3 ⟨rfl, hb3⟩
    try go_simp
    have hH3 := hHeld.next hb3
    refine hK.out _ _ hH3 (fun hHeld3 => ?_)
    have hBw3 := Lib.hid (hBw2.out.trans (hb3.mono hBw2.out.size))
    clear hK K hHeld hb3 hH3
    have hHeld := hHeld3
    clear hHeld3
    (try simp only [Act.put, List.getElem_toArray, List.getElem_cons_succ, List.getElem_cons_zero, List.setIfInBounds_toArray, List.set_cons_zero, List.set_cons_succ])
    have HKP3 := Lib.hid ((hBw3.out.block p (Array.getElem?_eq_some_iff.1 HKP.out).1).trans HKP.out)
    refine wpAnyH_take (i := 15) (v := .pointer (some ⟨p, 0, none⟩)) rfl (by kernel_rfl) (by kernel_rfl) (by kernel_rfl) (fun _ _ _ h => h) (Or.inl ⟨by kernel_rfl, fun _ hS => by kernel_rfl⟩) hHeld ?_
    (try simp only [Act.put, List.getElem_toArray, List.getElem_cons_succ, List.getElem_cons_zero, List.setIfInBounds_toArray, List.set_cons_zero, List.set_cons_succ])
    refine wpAnyH_take (i := 16) (v := .pointer (some ⟨p, 0, none⟩)) rfl (by kernel_rfl) (by kernel_rfl) (by kernel_rfl) (fun _ _ _ h => h) (Or.inl ⟨by kernel_rfl, fun _ hS => by kernel_rfl⟩) hHeld ?_
    (try simp only [Act.put, List.getElem_toArray, List.getElem_cons_succ, List.getElem_cons_zero, List.setIfInBounds_toArray, List.set_cons_zero, List.set_cons_succ])
    have hc0 : w3.cell? ⟨p, 0, none⟩ = some (.int .i64 r0) := cell_of_row _ _ 0 _ _ _ HKP3.out
    have hf0 : w3.frozen? ⟨p, 0, none⟩ = false := fz_row HKP3.out 0
    refine wpAnyH_ready (rs := [17]) (by kernel_rfl) (by simp) ?_
    refine AllReadyH.cons rfl (fun K hK => ?_) AllReadyH.nil
    go_simp
    have hHn := hHeld.set HP1.out HP2.out HNE.out 0 (.int .i64 r)
    refine hK.out _ _ hHn (fun hHm => ?_)
    clear hK K hHeld hHn hc0 hf0
    have HKP4 := Lib.hid (heap_setCell_same w3 p 0 _ _ (.int .i64 r) HKP3.out)
    simp only [List.setIfInBounds_toArray, List.set_cons_zero, List.set_cons_succ] at HKP4
    obtain ⟨w4, hw4⟩ : ∃ x, x = w3.setCell ⟨p, 0, none⟩ (.int .i64 r) := ⟨_, rfl⟩
    rw [← hw4] at HKP4 hHm ⊢
    have hHeld := hHm
    clear hHm hw4
    (try simp only [Act.put, List.getElem_toArray, List.getElem_cons_succ, List.getElem_cons_zero, List.setIfInBounds_toArray, List.set_cons_zero, List.set_cons_succ])
    refine wpAnyH_take (i := 18) (v := .pointer (some ⟨p, 0, none⟩)) rfl (by kernel_rfl) (by kernel_rfl) (by kernel_rfl) (fun _ _ _ h => h) (Or.inl ⟨by kernel_rfl, fun _ hS => by kernel_rfl⟩) hHeld ?_
    (try simp only [Act.put, List.getElem_toArray, List.getElem_cons_succ, List.getElem_cons_zero, List.setIfInBounds_toArray, List.set_cons_zero, List.set_cons_succ])
    refine wpAnyH_take (i := 19) (v := .pointer (some ⟨p, 1, none⟩)) rfl (by kernel_rfl) (by kernel_rfl) (by kernel_rfl) (fun _ _ _ h => h) (Or.inl ⟨by kernel_rfl, fun _ hS => by kernel_rfl⟩) hHeld ?_
    (try simp only [Act.put, List.getElem_toArray, List.getElem_cons_succ, List.getElem_cons_zero, List.setIfInBounds_toArray, List.set_cons_zero, List.set_cons_succ])
    have hc1 : w4.cell? ⟨p, 1, none⟩ = some (.int .i64 c0) := cell_of_row _ _ 1 _ _ _ HKP4.out
    have hf1 : w4.frozen? ⟨p, 1, none⟩ = false := fz_row HKP4.out 1
    refine wpAnyH_ready (rs := [20]) (by kernel_rfl) (by simp) ?_
    refine AllReadyH.cons rfl (fun K hK => ?_) AllReadyH.nil
    go_simp
    have hHn := hHeld.set HP1.out HP2.out HNE.out 1 (.int .i64 c)
    refine hK.out _ _ hHn (fun hHm => ?_)
    clear hK K hHeld hHn hc1 hf1
    have HKP5 := Lib.hid (heap_setCell_same w4 p 1 _ _ (.int .i64 c) HKP4.out)
    simp only [List.setIfInBounds_toArray, List.set_cons_zero, List.set_cons_succ] at HKP5
    obtain ⟨w5, hw5⟩ : ∃ x, x = w4.setCell ⟨p, 1, none⟩ (.int .i64 c) := ⟨_, rfl⟩
    rw [← hw5] at HKP5 hHm ⊢
    have hHeld := hHm
    clear hHm hw5
    (try simp only [Act.put, List.getElem_toArray, List.getElem_cons_succ, List.getElem_cons_zero, List.setIfInBounds_toArray, List.set_cons_zero, List.set_cons_succ])
    refine wpAnyH_take (i := 21) (v := .pointer (some ⟨p, 0, none⟩)) rfl (by kernel_rfl) (by kernel_rfl) (by kernel_rfl) (fun _ _ _ h => h) (Or.inl ⟨by kernel_rfl, fun _ hS => by kernel_rfl⟩) hHeld ?_
    (try simp only [Act.put, List.getElem_toArray, List.getElem_cons_succ, List.getElem_cons_zero, List.setIfInBounds_toArray, List.set_cons_zero, List.set_cons_succ])
    refine wpAnyH_take (i := 22) (v := .pointer (some ⟨p, 2, none⟩)) rfl (by kernel_rfl) (by kernel_rfl) (by kernel_rfl) (fun _ _ _ h => h) (Or.inl ⟨by kernel_rfl, fun _ hS => by kernel_rfl⟩) hHeld ?_
    (try simp only [Act.put, List.getElem_toArray, List.getElem_cons_succ, List.getElem_cons_zero, List.setIfInBounds_toArray, List.set_cons_zero, List.set_cons_succ])
    have hc2 : w5.cell? ⟨p, 2, none⟩ = some (.int .i64 w0) := cell_of_row _ _ 2 _ _ _ HKP5.out
    have hf2 : w5.frozen? ⟨p, 2, none⟩ = false := fz_row HKP5.out 2
    refine wpAnyH_ready (rs := [23]) (by kernel_rfl) (by simp) ?_
    refine AllReadyH.cons rfl (fun K hK => ?_) AllReadyH.nil
    go_simp
    have hHn := hHeld.set HP1.out HP2.out HNE.out 2 (.int .i64 ws)
    refine hK.out _ _ hHn (fun hHm => ?_)
    clear hK K hHeld hHn hc2 hf2
    have HKP6 := Lib.hid (heap_setCell_same w5 p 2 _ _ (.int .i64 ws) HKP5.out)
    simp only [List.setIfInBounds_toArray, List.set_cons_zero, List.set_cons_succ] at HKP6
    obtain ⟨w6, hw6⟩ : ∃ x, x = w5.setCell ⟨p, 2, none⟩ (.int .i64 ws) := ⟨_, rfl⟩
    rw [← hw6] at HKP6 hHm ⊢
    have hHeld := hHm
    clear hHm hw6
    (try simp only [Act.put, List.getElem_toArray, List.getElem_cons_succ, List.getElem_cons_zero, List.setIfInBounds_toArray, List.set_cons_zero, List.set_cons_succ])
    refine wpAnyH_done (by kernel_rfl) ?_ _
    have HHD := Lib.hid hHeld
    clear hHeld
    have c0' : w6.cell? ⟨p, 0, none⟩ = some (.int .i64 r) := cell_of_row w6 p 0 _ _ _ HKP6.out
    have c1' : w6.cell? ⟨p, 1, none⟩ = some (.int .i64 c) := cell_of_row w6 p 1 _ _ _ HKP6.out
    have c2' : w6.cell? ⟨p, 2, none⟩ = some (.int .i64 ws) := cell_of_row w6 p 2 _ _ _ HKP6.out
    have c3' : w6.cell? ⟨p, 3, none⟩ = some (.slice A0 n0 k0) := cell_of_row w6 p 3 _ _ _ HKP6.out
    have HGW := Lib.hid (grown_trans2 (grown_below2 p HBW.out) HHD.out.2.2)
    have HT6 := Lib.hid (show Tab w6 from tab_grown HT.out HHD.out.2.2 HP3.out)
    cases hb' with
    | false =>
      obtain rfl : oo = none := by rw [HOO.out, if_neg (by simp)]
      go_wp2_with (go_at_call 30; refine (HR.out _).mono ?_; rintro e w7 ⟨rfl, hb7⟩)
      go_ret
      exact ⟨grown_trans2 HGW.out (grown_below2 p hb7), rfl⟩
    | true =>
      have HKP7 : ∀ w7, Below w6.heap.size w6 w7 → Hid (w7.heap[p]? = some (.cells #[.int .i64 r, .int .i64 c, .int .i64 ws, .slice A0 n0 k0] 25)) := fun w7 hb7 => Lib.hid ((hb7.block p (Array.getElem?_eq_some_iff.1 HKP6.out).1).trans HKP6.out)
      go_wp2_with (first | (go_at_call 30; refine (HR.out _).mono ?_; rintro e w7 ⟨rfl, hb7⟩; have d0 : w7.cell? ⟨p, 0, none⟩ = some (.int .i64 r) := cell_of_row w7 p 0 _ _ _ (HKP7 _ hb7).out; have d1 : w7.cell? ⟨p, 1, none⟩ = some (.int .i64 c) := cell_of_row w7 p 1 _ _ _ (HKP7 _ hb7).out; have d2 : w7.cell? ⟨p, 2, none⟩ = some (.int .i64 ws) := cell_of_row w7 p 2 _ _ _ (HKP7 _ hb7).out; have d3 : w7.cell? ⟨p, 3, none⟩ = some (.slice A0 n0 k0) := cell_of_row w7 p 3 _ _ _ (HKP7 _ hb7).out) | fail)
      refine (HH.out _ (tab_below HT6.out hb7)).mono ?_
      rintro e w8 ⟨rfl, hb8⟩
      have HB8 := Lib.hid (hb7.trans (hb8.mono hb7.size))
      have HK8 := HKP7 _ HB8.out
      clear HKP7 hb7 hb8 d0 d1 d2 d3 c0' c1' c2' c3'
      by_cases hE : L = l.data.toList
      · have q1 : (cd.toList == l.toList) = true := by rw [ByteArray.toList_eq, ByteArray.toList_eq, HCL.out, hE]; simp
        obtain rfl : oo = some ⟨r, c, ws, st⟩ := by rw [HOO.out]; simp [hE]
        go_wp2
        go_ret
        exact ⟨grown_trans2 HGW.out (grown_below2 p HB8.out), by kernel_rfl, HK8.out⟩
      · have q1 : (cd.toList == l.toList) = false := by rw [beq_eq_false_iff_ne, ByteArray.toList_eq, ByteArray.toList_eq, HCL.out]; exact hE
        obtain rfl : oo = none := by rw [HOO.out]; simp [hE]
        go_wp2
        go_ret
        exact ⟨grown_trans2 HGW.out (grown_below2 p HB8.out), by kernel_rfl⟩
  · obtain rfl : oo = none := by rw [hoo, if_neg (fun h => hk3 h.1)]
    clear hoo
    have HS := Lib.hid hS
    have q : ((k : Int) + 1 == 4) = false := by simp; omega
    have q2 : ((k : Int) + 1 != 4) = true := by simp; omega
    clear hS hk hp he ht h1 h2 h3
    go_enter Tryz.func17, Tryz.ntmps17
    go_wp2_with (go_at_call 33; refine HS.out.mono ?_; rintro e w' ⟨rfl, hw⟩; rw [hw]; clear hw)
    go_ret
    exact ⟨grown_below2 p ((Below.refl _ w).alloc (Nat.le_refl _) _), rfl⟩

end Go.Proofs.YtlgfjacjcacmmaaGreatDoor
