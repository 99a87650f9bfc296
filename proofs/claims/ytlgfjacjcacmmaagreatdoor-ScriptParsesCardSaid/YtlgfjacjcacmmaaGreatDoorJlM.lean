/- script.Right. -/
import Derived.Test.YtlgfjacjcacmmaaGreatDoorJkM
import Derived.Deep.MidRow
import Derived.BigFrame
namespace Go.Proofs.YtlgfjacjcacmmaaGreatDoor
set_option linter.unusedSimpArgs false
set_option linter.unusedVariables false
open Go Go.RowKit Go.Shelf

/-- a step's parts fit their types. -/
def Stp.fit (x : Stp) : Prop := x.ok ∧ x.name.size ≤ 9223372036854775807 ∧ x.text.size ≤ 9223372036854775807
/-- a list of steps lies there. -/
def StpsAt (w : World) (B : Nat) (T : TypeId) (A : Option Addr) (c : Nat) (l : List Stp) : Prop :=
  l.length ≤ c ∧ c ≤ 9223372036854775807 ∧ (l = [] ∨ ∃ b o, A = some ⟨b, o, none⟩ ∧ b < B ∧ ∀ j (h : j < l.length), w.rangeAt b (o + j * 7) l[j].cs.toList)
theorem StpsAt.below {w w' : World} {B : Nat} {T : TypeId} {A : Option Addr} {c : Nat} {l : List Stp} (h : StpsAt w B T A c l) (hb : Below B w w') : StpsAt w' B T A c l := by
  refine ⟨h.1, h.2.1, h.2.2.elim .inl ?_⟩
  rintro ⟨b, o, e, hbB, hr⟩
  exact .inr ⟨b, o, e, hbB, fun j hj i v hv => (hb.cell (p := ⟨b, o + j * 7 + i, none⟩) hbB).trans (hr j hj i v hv)⟩
theorem StpsAt.more {w : World} {B B' : Nat} {T : TypeId} {A : Option Addr} {c : Nat} {l : List Stp} (h : StpsAt w B T A c l) (hB : B ≤ B') : StpsAt w B' T A c l :=
  ⟨h.1, h.2.1, h.2.2.elim .inl fun ⟨b, o, e, hbB, hr⟩ => .inr ⟨b, o, e, by omega, hr⟩⟩
theorem StpsAt.at_ {w : World} {B : Nat} {T : TypeId} {A : Option Addr} {c : Nat} {l : List Stp} (h : StpsAt w B T A c l) {j : Nat} (hj : j < l.length) : ∃ b o, A = some ⟨b, o, none⟩ ∧ b < B ∧ w.rangeAt b (o + j * 7) l[j].cs.toList := by
  rcases h.2.2 with rfl | ⟨b, o, e, hbB, hr⟩
  · simp at hj
  · exact ⟨b, o, e, hbB, hr j hj⟩
theorem undSt : Tryz.prog.underlying 45 = some (.struct (Tryz.prog.fieldsOf 45)) := by kernel_rfl
theorem infSt (x : Stp) : (Tryz.prog.info? 45).map (·.size) = some x.cs.toList.length := by kernel_rfl
theorem all_take {p : Stp → Bool} {l : List Stp} {j : Nat} (hj : j < l.length) (h : (l.take j).all p = true) (hx : p l[j] = true) : (l.take (j + 1)).all p = true := by
  rw [List.take_succ_eq_append_getElem hj, List.all_append, h]; simp [hx]
theorem all_not {p : Stp → Bool} {l : List Stp} {j : Nat} (hj : j < l.length) (hx : p l[j] = false) : l.all p = false := by
  rw [Bool.eq_false_iff]
  intro h
  have := List.all_eq_true.1 h l[j] (List.getElem_mem hj)
  rw [hx] at this
  cases this

set_option maxRecDepth 100000 in
set_option maxHeartbeats 2000000 in
theorem sright_c (s : Scr) (w : World) (B : Nat) (A : Option Addr) (c : Nat) (hB : B ≤ w.heap.size) (hs : StpsAt w B 45 A c s.steps) (hf : ∀ x ∈ s.steps, x.fit) :
    Calls Tryz.prog 14 #[.agg #[.int .i64 s.rows, .int .i64 s.cols, .int .i64 s.wr, .slice A s.steps.length c]] w fun e w' => e = .returned (.bool (scrB s)) ∧ Below w.heap.size w w' := by
  obtain ⟨n, hn⟩ : ∃ n, s.steps.length = n := ⟨_, rfl⟩
  have h1 := fun w => rightHead_c s A n c w
  rw [hn]
  obtain ⟨r, hr⟩ : ∃ r, scrB s = r := ⟨_, rfl⟩
  rw [hr]
  unfold scrB at hr
  have hsl := hs.1
  have hsc := hs.2.1
  rw [hn] at hsl hr
  obtain ⟨rows, cols, ws, l⟩ := s
  dsimp only at *
  obtain ⟨hb, ehb⟩ : ∃ b, headB ⟨rows, cols, ws, l⟩ = b := ⟨_, rfl⟩
  rw [ehb] at h1 hr
  have H1 := Lib.hid h1
  have HS := Lib.hid hs
  have HF := Lib.hid hf
  have HN := Lib.hid hn
  clear h1 hs hf hn ehb
  cases hb with
  | false =>
    obtain rfl : r = false := by rw [← hr]; rfl
    clear hr
    go_enter Tryz.func14, Tryz.ntmps14
    go_wp2_with (go_at_call 30; refine (H1.out _).mono ?_; rintro e w' ⟨rfl, hb⟩)
    go_ret
    exact ⟨rfl, ((Below.refl _ w).alloc (Nat.le_refl _) _).trans (hb.mono (by simp))⟩
  | true =>
  by_cases hlen : 200 < n
  · obtain rfl : r = false := by rw [← hr, decide_eq_false (by omega)]; rfl
    clear hr
    have hl2 : (200 : Int) < (n : Int) := by omega
    go_enter Tryz.func14, Tryz.ntmps14
    go_wp2_with (go_at_call 30; refine (H1.out _).mono ?_; rintro e w' ⟨rfl, hb⟩; have hc3 : w'.cell? ⟨w.heap.size, 3, none⟩ = some (.slice A n c) := (hb.cell (p := ⟨w.heap.size, 3, none⟩) (by simp)).trans (by simp))
    go_ret
    exact ⟨rfl, ((Below.refl _ w).alloc (Nat.le_refl _) _).trans (hb.mono (by simp))⟩
  · rw [decide_eq_true (p := n ≤ 200) (by omega), Bool.and_self, Bool.true_and] at hr
    have HR := Lib.hid hr
    have hl2 : ¬ (200 : Int) < (n : Int) := by omega
    clear hr
    obtain ⟨W, hW⟩ : ∃ W, W = w.alloc (.cells #[.int .i64 rows, .int .i64 cols, .int .i64 ws, .slice A n c] 25) := ⟨_, rfl⟩
    obtain ⟨g, hg⟩ : ∃ g, g = w.heap.size := ⟨_, rfl⟩
    have hbW : Below g w W := by rw [hW, hg]; exact (Below.refl _ w).alloc (Nat.le_refl _) _
    have hzW : W.heap.size = g + 1 := by rw [hW, hg]; simp
    have hk : W.heap[g]? = some (.cells #[.int .i64 rows, .int .i64 cols, .int .i64 ws, .slice A n c] 25) := by rw [hW, hg]; exact heap_alloc_new w _
    rw [← hg] at hB ⊢
    have HW := Lib.hid hW
    have HG := Lib.hid hg
    have HBW := Lib.hid hbW
    have HZ := Lib.hid hzW
    have HK := Lib.hid hk
    clear hW hg hbW hzW hk
    go_enter Tryz.func14, Tryz.ntmps14
    go_upto_region 1 with (fail)
    rw [← HW.out, ← HG.out]
    have q0 : W.cell? ⟨g, 0, none⟩ = some (.int .i64 rows) := cell_of_row W g 0 _ _ _ HK.out
    have q1 : W.cell? ⟨g, 1, none⟩ = some (.int .i64 cols) := cell_of_row W g 1 _ _ _ HK.out
    have q2 : W.cell? ⟨g, 2, none⟩ = some (.int .i64 ws) := cell_of_row W g 2 _ _ _ HK.out
    have q3 : W.cell? ⟨g, 3, none⟩ = some (.slice A n c) := cell_of_row W g 3 _ _ _ HK.out
    go_wp2_with (go_at_call 30; refine (H1.out _).mono ?_; rintro e w1 ⟨rfl, hb⟩; have hc3 : w1.cell? ⟨g, 3, none⟩ = some (.slice A n c) := (hb.cell (p := ⟨g, 3, none⟩) (by rw [HZ.out]; simp)).trans q3)
    have HB1 := Lib.hid hb
    clear q0 q1 q2 q3 hc3 hb
    go_loopw [17] (fun i wr => ∃ j : Nat, j ≤ n ∧ i = .int .i64 j ∧ Hid ((l.take j).all (fun x => stepB x ws) = true) ∧ Below W.heap.size W wr) (fun i _ => n - (intOf i).toNat)
    case atStart => exact ⟨0, Nat.zero_le _, rfl, Lib.hid rfl, HB1.out⟩
    case round =>
      obtain ⟨j, hj, rfl, hacc, hbr⟩ := hrel
      have hfin : Below g w wr := HBW.out.trans (hbr.mono (by rw [HZ.out]; omega))
      by_cases hlt : j < n
      · have hjl : j < l.length := by rw [HN.out]; exact hlt
        obtain ⟨b2, o2, hA, hbB, hrg⟩ := (HS.out.below (hfin.mono hB)).at_ hjl
        subst hA
        have hx := HF.out l[j] (List.getElem_mem hjl)
        have hC := fun w => rightStep_c l[j] ws hx.2.1 hx.2.2 w
        have hi := infSt l[j]
        obtain ⟨rk, hrk⟩ : ∃ b, stepB l[j] ws = b := ⟨_, rfl⟩
        rw [hrk] at hC
        have HRK := Lib.hid hrk
        clear hrk hx
        generalize l[j] = x at hC hi hrg
        obtain ⟨k, wr', dst, row, col, name, text⟩ := x
        unfold Stp.cs at hC hi hrg
        dsimp only at hC hi hrg
        have HC := Lib.hid hC
        have HI := Lib.hid hi
        have HRG := Lib.hid hrg
        have HBR := Lib.hid hbr
        have HFI := Lib.hid hfin
        have hj1 : (j : Int) < (n : Int) := by omega
        have hj0 : (0 : Int) ≤ (j : Int) := by omega
        have q2 : wr.cell? ⟨g, 2, none⟩ = some (.int .i64 ws) := (hbr.cell (p := ⟨g, 2, none⟩) (by rw [HZ.out]; simp)).trans (cell_of_row W g 2 _ _ _ HK.out)
        have hgw : g < wr.heap.size := by have := hbr.size; have := HZ.out; omega
        clear hC hi hrg hbr hfin
        have hq2 : ∀ o, (wr.alloc o).cell? ⟨g, 2, none⟩ = some (.int .i64 ws) := fun o => (World.cell?_alloc_old wr o ⟨g, 2, none⟩ (by simp; omega)).trans q2
        cases rk with
        | true =>
          go_wp2_with (first | (refine wpList_load_mid rfl 45 _ rfl b2 (o2 + j * 7) rfl _ _ HRG.out undSt rfl HI.out ?_) | (go_at_call 31; refine (HC.out _).mono ?_; rintro e w2 ⟨rfl, hbe⟩))
          go_roundw
          case rel => exact ⟨j + 1, by omega, by go_num, Lib.hid (all_take hjl hacc.out HRK.out), HBR.out.trans (((Below.refl _ wr).alloc (Nat.le_refl _) _ |>.trans (hbe.mono (by simp))).mono HBR.out.size)⟩
          case measure => simp [intOf]; omega
        | false =>
          go_wp2_with (first | (refine wpList_load_mid rfl 45 _ rfl b2 (o2 + j * 7) rfl _ _ HRG.out undSt rfl HI.out ?_) | (go_at_call 31; refine (HC.out _).mono ?_; rintro e w2 ⟨rfl, hbe⟩))
          go_ret
          exact ⟨ret_bool (by rw [← HR.out, all_not hjl HRK.out]), HFI.out.trans (((Below.refl _ wr).alloc (Nat.le_refl _) _ |>.trans (hbe.mono (by simp))).mono (by have := HBR.out.size; have := HZ.out; omega))⟩
      · obtain rfl : j = n := by omega
        have HBR := Lib.hid hfin
        clear hfin hbr
        go_wp2
        go_ret
        exact ⟨ret_bool (by rw [HR.out.symm, ← hacc.out, ← HN.out, List.take_length]), HBR.out⟩
end Go.Proofs.YtlgfjacjcacmmaaGreatDoor
