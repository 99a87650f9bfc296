/- counterpaneref37.Put over a row of writes. counterpaneref37.Stand. -/
import Derived.Test.YtbiacjkkgddclaaGreatL1K5L2
import Derived.Test.YtbiacjkkgddclaaGreatJ6M
import Derived.Test.YtbiacjkkgddclaaGreatOg0Xk0K2
import Derived.Test.YtbiacjkkgddclaaGreatDpFlXt
namespace Go.Proofs.YtbiacjkkgddclaaGreat
set_option linter.unusedSimpArgs false
set_option linter.unusedVariables false
open Go Go.RowKit Go.Shelf Go.Maps

/-- a slice of one write of the reference. -/
theorem wpList_oneRw {ops : Array Oper} {rest : List Oper} {o : Oper} {a : Act} {w : World} {Q : Exit → Act → World → Prop} (hg : o.guard = none) (i : Nat) (ho : o.op = .buildSlice 22 1 #[(0, .tmp i)]) (N : Array Value) (hev : a.eval (.tmp i) = .agg N) (hn : N.size = 32)
    (h : wpList Tryz.prog ops Q rest (a.put o.dst (.slice (some ⟨w.heap.size, 0, none⟩) 1 1)) (w.alloc (.cells N 46))) : wpList Tryz.prog ops Q (o :: rest) a w := by
  obtain ⟨ie, z, hie, hzz, -, hsz, hby⟩ := infoWr_parts 46 (.inr rfl)
  refine wpList_buildSlice hg 22 46 1 #[(0, .tmp i)] ho N ie z undRws hie hzz (by rw [hsz]; decide) (by rw [hsz]; decide) ?_ h
  have e1 : ((#[(0, Operand.tmp i)] : Array (Nat × Operand)).map fun (i, x) => (i, a.eval x)).toList = (([Value.agg N]).zipIdx 0).map fun x => (x.2, x.1) := by simp [hev]
  have e2 : ([Value.agg N].flatMap fun v => v.cells.toList).toArray = N := by simp [Value.cells]
  rw [e1, hsz]
  have := Great.fill_whole (s := 32) (by decide) [Value.agg N] ((Array.range (1 * 32)).map (z.cells[· % z.cells.size]!)) (fun v hv => by simp only [List.mem_singleton] at hv; subst hv; exact hn) (by simp)
  rw [e2] at this
  exact this
theorem wr_row3 {w : World} {b o : Nat} {m : Wr} {A : Option Addr} {c : Nat} {Ao : Option Addr} {co : Nat} (h : w.rangeAt b o (wrA m A c Ao co).toList) : w.rangeAt b o m.id.cs ∧ w.cell? ⟨b, o + 31, none⟩ = some (.slice Ao m.o.length co) ∧ w.rangeAt b (o + 2) (contA m.x A c).toList := by
  have hl : (contA m.x A c).toList.length = 29 := by rw [Array.length_toList, contA_size]
  have hn : (nodeA m.x.t.d A m.x.t.l.length c).toList.length = 22 := by rw [Array.length_toList, nodeA_size]
  refine ⟨wr_id_range h, h 31 _ ?_, fun j v hv => ?_⟩
  · rw [wrA_parts, List.getElem?_append_right (by rw [wr_head9]; omega), wr_head9, List.getElem?_append_right (by rw [hn]; omega), hn]; rfl
  · rw [Nat.add_assoc]
    refine h (2 + j) v ?_
    have hj : j < 29 := by rw [← hl]; exact (List.getElem?_eq_some_iff.1 hv).1
    unfold wrA
    rw [show (m.id.cs ++ (contA m.x A c).toList ++ ([.slice Ao m.o.length co] : List Value)).toArray.toList = m.id.cs ++ ((contA m.x A c).toList ++ [.slice Ao m.o.length co]) from by simp [List.append_assoc], List.getElem?_append_right (show 2 ≤ 2 + j by omega), show 2 + j - m.id.cs.length = j from by show 2 + j - 2 = j; omega, List.getElem?_append_left (by omega)]
    exact hv
/-- the reference's loop: is it done? -/
def insF (w : Wr) : Bool → List Wr → List Wr
  | true, l => l
  | false, l => insW w l
theorem insF_no {w m : Wr} {l : List Wr} (h : ¬ bef w.id m.id) : insF w false (m :: l) = m :: insF w false l := by
  show insW w (m :: l) = m :: insW w l
  conv => lhs; unfold insW
  rw [if_neg h]
theorem insF_yes {w m : Wr} {l : List Wr} (h : bef w.id m.id) : insF w false (m :: l) = w :: m :: insF w true l := by
  show insW w (m :: l) = w :: m :: l
  unfold insW
  rw [if_pos h]
theorem othR_begin {w1 : World} {B : Nat} (hB : B ≤ w1.heap.size) : OthR 46 w1.heap.size w1 (fun k => k < B) [] (some ⟨w1.heap.size, 0, none⟩) 0 0 (w1.alloc (.cells #[] 46)) :=
  ⟨(bel1 _ _).1, ⟨rfl, .inr ⟨w1.heap.size, 0, #[], rfl, Nat.le_refl _, heap_alloc_new _ _, Nat.le_refl _, Nat.zero_le _, rfl, rfl⟩⟩, rfl, fun b hb => ⟨by have : b < B := hb; rw [World.size_alloc]; omega, fun e => by
    have : b < B := hb
    have := Option.some.inj (show some w1.heap.size = some b from e)
    omega⟩, fun _ h => (List.not_mem_nil h).elim⟩
/-- where the loop stands. -/
def RpI (base : Nat) (w2 : World) (B : Nat) (M : List Wr) (m : Wr) (n : Nat) (s dv iv : Value) (wr : World) : Prop :=
  ∃ i : Nat, i ≤ n ∧ iv = .int .i64 i ∧ ∃ (dd : Bool) (A' : Option Addr) (k cap : Nat) (pre : List Wn), s = .slice A' k cap ∧ dv = .bool dd ∧ Hid (OthR 46 base w2 (fun k => k < B) pre A' k cap wr ∧ pre.map Wn.m ++ insF m dd (M.drop i) = insW m M ∧ k ≤ i + 1 ∧ (dd = false → k ≤ i))
/-- what the reference's Put hands back. -/
def RputW (w : World) (G : Nat → Prop) (B : Nat) (M : List Wr) (m : Wr) (e : Ending) (w' : World) : Prop :=
  ∃ A' c', e = .returned (.tuple #[.slice A' (putW M m).1.length c', .int .i64 (putW M m).2]) ∧ Below w.heap.size w w' ∧ RowW w' (fun g => G g ∨ (w.heap.size ≤ g ∧ g < w'.heap.size)) (fun k => k < B) A' c' (putW M m).1
theorem rputW_same {w w' : World} {G : Nat → Prop} {B c n : Nat} {A : Option Addr} {M : List Wr} {m : Wr} {er : Int} (hrow : RowW w G (fun k => k < B) A c M) (hG : ∀ k, G k → k < w.heap.size) (hB : B ≤ w.heap.size) (hn : n = M.length) (hb : Below w.heap.size w w') (hp : putW M m = (M, er)) : RputW w G B M m (.returned (.tuple #[.slice A n c, .int .i64 er])) w' := by
  unfold RputW
  rw [hp]
  exact ⟨A, c, by rw [hn], hb, hrow.keep (fun k hk => ⟨hb.block k (hG k hk), .inl hk⟩) (fun k hk => ⟨hb.block k (Nat.lt_of_lt_of_le hk hB), hk⟩)⟩
set_option maxRecDepth 100000 in
set_option maxHeartbeats 16000000 in
theorem rput37_c {w : World} {G : Nat → Prop} {B c0 n : Nat} {A0 : Option Addr} {M : List Wr} (hrow : RowW w G (fun k => k < B) A0 c0 M) (hG : ∀ k, G k → k < w.heap.size) (hB : B ≤ w.heap.size) (hn : n = M.length) (hM : n ≤ 1000) (m : Wr) (A : Option Addr) (c : Nat) (Ao : Option Addr) (co : Nat) (hm : WrIn w B m A c Ao co) :
    Calls Tryz.prog 19 #[.slice A0 n c0, .agg (wrA m A c Ao co)] w (RputW w G B M m) := by
  obtain ⟨b, hb⟩ : ∃ b, b = w.heap.size := ⟨_, rfl⟩
  obtain ⟨CA, hCA⟩ : ∃ C, C = wrA m A c Ao co := ⟨_, rfl⟩
  obtain ⟨CX, hCX⟩ : ∃ C, C = contA m.x A c := ⟨_, rfl⟩
  obtain ⟨z, hz⟩ : ∃ z, z = m.id := ⟨_, rfl⟩
  obtain ⟨W0, hW0⟩ : ∃ W0, W0 = w.alloc (.cells CA 46) := ⟨_, rfl⟩
  have hbel : Below w.heap.size w W0 := by rw [hW0]; exact (bel1 _ _).1
  have hk0 : W0.heap[b]? = some (.cells CA 46) := by rw [hW0, hb]; exact heap_alloc_new _ _
  have hz0 : W0.heap.size = b + 1 := by rw [hW0, hb]; simp
  have hdt : ∀ wx, Below W0.heap.size W0 wx → Calls Tryz.prog 41 #[.agg CA] wx fun e w' => e = .returned (.bool (datedB m)) ∧ Below wx.heap.size wx w' := fun wx hx => by
    have h := hbel.trans (hx.mono hbel.size)
    rw [hCA]
    exact dated37_c wx (fun k => k < B) _ m.id Ao co m.o.length m.o (wcells_wr _ _ _ _ _) (hm.g.below (h.mono hB)) (fun k hk => Nat.lt_of_lt_of_le (Nat.lt_of_lt_of_le hk hB) h.size) rfl
  have hright : ∀ wx, Below W0.heap.size W0 wx → Calls Tryz.prog 11 #[.agg CX] wx fun e w' => e = .returned (.bool (rightC m.x)) ∧ Below wx.heap.size wx w' := fun wx hx => by
    have h := hbel.trans (hx.mono hbel.size)
    rw [hCX]
    exact rright18_c m.x wx B A c hm.v hm.d (hm.s.below (h.mono hB)) (Nat.le_trans hB h.size) hm.size
  have hct : ∀ wx, Below W0.heap.size W0 wx → wx.rangeAt b 2 CX.toList := fun wx hx => by rw [hCX]; exact (wr_rows (by rw [← hCA]; exact (hx.block b (by omega)).trans hk0)).2.1
  have hka : ∀ wx, Below W0.heap.size W0 wx → wx.rangeAt b 0 (Ik.cs z) := fun wx hx => by rw [hz]; exact (wr_rows (by rw [← hCA]; exact (hx.block b (by omega)).trans hk0)).1
  obtain ⟨ti, zv, hti, hz0', hzn, hz1, hz2⟩ := infoWr_parts 46 (.inr rfl)
  have HTI := Lib.hid (And.intro hti (And.intro hz0' (And.intro hz1 (And.intro hz2 hzn))))
  clear hti hz0' hzn hz1 hz2
  have hone : ∀ u ∈ CA.toList, u.oneCell' = true := by rw [hCA]; exact Wn.cells_one ⟨m, A, c, Ao, co⟩
  have hCAs : CA.size = 32 := by rw [hCA]; exact wrA_size _ _ _ _ _
  have hiw : (Tryz.prog.info? 46).map (·.size) = some CA.size := by rw [hCA]; exact (rw_info _ _ _ _ _).1
  have hil0 : (Tryz.prog.info? 37).map (·.size) = some CX.toList.length := by rw [hCX]; exact infC
  have HDT := Lib.hid hdt
  have HRI0 := Lib.hid hright
  have HCT := Lib.hid hct
  have HKA0 := Lib.hid hka
  have HON := Lib.hid (And.intro hone hCAs)
  have HIW := Lib.hid hiw
  have HIL := Lib.hid hil0
  have HIK := Lib.hid (show ∀ x : Ik, (Tryz.prog.info? 28).map (·.size) = some x.cs.length from fun _ => ikInfo)
  have HW0 := Lib.hid hW0
  have HB := Lib.hid hb
  have HK0 := Lib.hid hk0
  have HBL := Lib.hid hbel
  have HZ := Lib.hid hz0
  have HCA := Lib.hid hCA
  have HZM := Lib.hid hz
  have HROW := Lib.hid (And.intro hrow (And.intro hG (And.intro hB (And.intro hn hM))))
  have HSX := Lib.hid hm
  have hcc : 0 < n → n ≤ c0 ∧ c0 ≤ 9223372036854775807 := fun _ => ⟨by rw [hn]; exact hrow.1, hrow.2.1⟩
  have hn1000 : n ≤ 1000 := hM
  rw [← hCA]
  clear hCA hCX hW0 hb hk0 hdt hright hct hka hbel hz0 hone hCAs hiw hil0 hrow hG hB hn hM hm hz
  go_enter Tryz.func19, Tryz.ntmps19
  go_upto_region 1 with (fail)
  rw [← HW0.out, ← HB.out]
  cases hda : datedB m with
  | false =>
    have HDA := Lib.hid hda
    rw [hda] at HDT
    clear hda
    go_wp2_with (first | (refine wpList_row rfl 46 _ rfl b rfl 46 CA (0, 0) _ HK0.out undRw rfl HIW.out ?_) | (go_at_call 41; refine (HDT.out _ (Below.refl _ _)).mono ?_; rintro e w1 ⟨rfl, hb1⟩; have HX := Lib.hid hb1; have hct1 := HCT.out w1 hb1; clear hb1) | fail)
    first | go_ret | go_ret2 | (refine bodyPost_ret (results_tmp rfl _ _ _) rfl ?_)
    obtain ⟨q1, q2, q3, q4, q5⟩ := HROW.out
    exact rputW_same q1 q2 q3 q4 (HBL.out.trans (HX.out.mono HBL.out.size)) (by unfold putW; rw [if_pos HDA.out])
  | true =>
  have HDA := Lib.hid hda
  rw [hda] at HDT
  clear hda
  cases hri : rightC m.x with
  | false =>
    have HRF := Lib.hid hri
    rw [hri] at HRI0
    clear hri
    go_wp2_with (first | (refine wpList_row rfl 46 _ rfl b rfl 46 CA (0, 0) _ HK0.out undRw rfl HIW.out ?_) | (go_at_call 41; refine (HDT.out _ (Below.refl _ _)).mono ?_; rintro e w1 ⟨rfl, hb1⟩; have HX := Lib.hid hb1; have hct1 := HCT.out w1 hb1; clear hb1) | (refine wpList_mid rfl 37 _ rfl b 2 rfl CX.toList _ hct1 undC rfl HIL.out ?_; simp only [Array.toArray_toList]) | (go_at_call 11; refine (HRI0.out _ HX.out).mono ?_; rintro e w2 ⟨rfl, hb2⟩; have HY := Lib.hid (HX.out.trans (hb2.mono HX.out.size)); clear hb2) | fail)
    first | go_ret | go_ret2 | (refine bodyPost_ret (results_tmp rfl _ _ _) rfl ?_)
    obtain ⟨q1, q2, q3, q4, q5⟩ := HROW.out
    exact rputW_same q1 q2 q3 q4 (HBL.out.trans (HY.out.mono HBL.out.size)) (by unfold putW; rw [HDA.out, if_neg (by decide), if_pos HRF.out])
  | true =>
  have HRF := Lib.hid hri
  rw [hri] at HRI0
  clear hri
  go_wp2_with (first | (refine wpList_row rfl 46 _ rfl b rfl 46 CA (0, 0) _ HK0.out undRw rfl HIW.out ?_) | (go_at_call 41; refine (HDT.out _ (Below.refl _ _)).mono ?_; rintro e w1 ⟨rfl, hb1⟩; have HX := Lib.hid hb1; have hct1 := HCT.out w1 hb1; clear hb1) | (refine wpList_mid rfl 37 _ rfl b 2 rfl CX.toList _ hct1 undC rfl HIL.out ?_; simp only [Array.toArray_toList]) | (go_at_call 11; refine (HRI0.out _ HX.out).mono ?_; rintro e w2 ⟨rfl, hb2⟩; have HY := Lib.hid (HX.out.trans (hb2.mono HX.out.size)); clear hb2) | fail)
  have h02 : Below w.heap.size w w2 := HBL.out.trans (HY.out.mono HBL.out.size)
  have hrow2 : RowW w2 G (fun k => k < B) A0 c0 M := HROW.out.1.keep (fun k hk => ⟨h02.block k (HROW.out.2.1 k hk), hk⟩) (fun k hk => ⟨h02.block k (Nat.lt_of_lt_of_le hk HROW.out.2.2.1), hk⟩)
  have hr2 : ∀ i (hi : i < M.length), ∃ gl of, A0 = some ⟨gl, of, none⟩ ∧ gl < w2.heap.size ∧ ∃ A1 c1 Ao1 co1, (∀ wz, Below w2.heap.size w2 wz → wz.rangeAt gl (of + i * 32) (wrA M[i] A1 c1 Ao1 co1).toList) ∧ (∀ wz, Below w2.heap.size w2 wz → SlG wz (fun b _ => b < B) A1 c1 M[i].x.t.l ∧ IkG wz (fun k => k < B) Ao1 co1 M[i].o) ∧ True := fun i hi => by
    obtain ⟨gl, of, e, hg, hr⟩ := hrow2.2.2.resolve_left (fun e => by rw [e] at hi; exact absurd hi (Nat.not_lt_zero _))
    obtain ⟨A1, c1, Ao1, co1, q1, q2, q3⟩ := hr i hi
    have hgl : gl < w2.heap.size := Nat.lt_of_lt_of_le (HROW.out.2.1 gl hg) h02.size
    have hBw : B ≤ w2.heap.size := Nat.le_trans HROW.out.2.2.1 h02.size
    exact ⟨gl, of, e, hgl, A1, c1, Ao1, co1, fun wz hz j v hv => (World.cell?_of_block (a := ⟨gl, of + i * 32 + j, none⟩) (hz.block gl hgl)).trans (q1 j v hv), fun wz hz => ⟨q2.keep (fun _ _ h => h) (fun b o hb j _ => World.cell?_of_block (a := ⟨b, o + j, none⟩) (hz.block b (Nat.lt_of_lt_of_le hb hBw))), q3.keep (fun k hk => ⟨hz.block k (Nat.lt_of_lt_of_le hk hBw), hk⟩)⟩, trivial⟩
  have HR2 := Lib.hid hr2
  have H02 := Lib.hid h02
  have hst : ∃ i : Nat, i ≤ n ∧ Value.int .i64 0 = .int .i64 i ∧ Hid (Below w2.heap.size w2 w2 ∧ ∀ j (hj : j < M.length), j < i → M[j].id ≠ z) := ⟨0, Nat.zero_le _, rfl, Lib.hid ⟨Below.refl _ _, fun j _ h => absurd h (Nat.not_lt_zero _)⟩⟩
  have HST := Lib.hid hst
  clear h02 hrow2 hr2 hst hct1
  go_loopw [6] (fun iv wr => ∃ i : Nat, i ≤ n ∧ iv = .int .i64 i ∧ Hid (Below w2.heap.size w2 wr ∧ ∀ j (hj : j < M.length), j < i → M[j].id ≠ z)) (fun iv _ => n - (intOf iv).toNat)
  case atStart => exact HST.out
  case round =>
   obtain ⟨i, hin, rfl, hR⟩ := hrel
   by_cases hi : i < n
   · have hiI : (i : Int) < (n : Int) := by omega
     have hi0 : (0 : Int) ≤ i := by omega
     obtain ⟨hc1, hc2⟩ := hcc (by omega)
     have hil : i < M.length := by have := HROW.out.2.2.2.1; omega
     obtain ⟨gl, of, hA, hglG, hri⟩ := HR2.out i hil
     subst hA
     obtain ⟨A1, c1, Ao1, co1, hr1, hr2, hr3⟩ := hri
     obtain ⟨mi, hmi⟩ : ∃ x, x = M[i] := ⟨_, rfl⟩
     obtain ⟨ai, hai⟩ : ∃ x, x = mi.id := ⟨_, rfl⟩
     rw [← hmi] at hr1 hr2
     obtain ⟨NX, hNX⟩ : ∃ N, N = wrA mi A1 c1 Ao1 co1 := ⟨_, rfl⟩
     
     have HRI := Lib.hid (fun (wz : World) (h : Below wr.heap.size wr wz) => show wz.rangeAt gl (of + i * 32) (Ik.cs ai) ∧ True from ⟨by rw [hai]; exact (wr_row3 (hr1 wz (hR.out.1.trans (h.mono hR.out.1.size)))).1, trivial⟩)
     have HKA := Lib.hid (fun (wz : World) (h : Below wr.heap.size wr wz) => HKA0.out wz (HY.out.trans ((hR.out.1.trans (h.mono hR.out.1.size)).mono HY.out.size)))
     have HAI := Lib.hid (And.intro hmi (And.intro hai hil))
     clear hr1 hr2 hr3 hmi hai hNX hglG
     go_upto_region 8 with (fail)
     cases hq : decide (ai = z) with
     | true =>
       have HQ := Lib.hid hq
       clear hq
       refine wp_region_held_drew (S := fun wz => Below wr.heap.size wr wz) (by kernel_rfl) (Below.refl _ _).drew (fun hHeld => ?_)
       obtain ⟨wa, hwa⟩ : ∃ x, x = wr.drew := ⟨_, rfl⟩
       rw [← hwa] at hHeld ⊢
       clear hwa
       refine wpAnyH_take (i := 0) (v := .slice (some ⟨gl, of, none⟩) n c0) rfl (by kernel_rfl) (by kernel_rfl) (by kernel_rfl) (fun _ _ _ h => h) (Or.inl ⟨by kernel_rfl, fun _ hS => by kernel_rfl⟩) hHeld ?_
       (try simp only [Act.put, List.getElem_toArray, List.getElem_cons_succ, List.getElem_cons_zero, List.setIfInBounds_toArray, List.set_cons_zero, List.set_cons_succ])
       refine wpAnyH_take (i := 1) (v := .int .i64 (i : Nat)) rfl (by kernel_rfl) (by kernel_rfl) (by kernel_rfl) (fun _ _ _ h => h) (Or.inl ⟨by kernel_rfl, fun _ hS => by kernel_rfl⟩) hHeld ?_
       (try simp only [Act.put, List.getElem_toArray, List.getElem_cons_succ, List.getElem_cons_zero, List.setIfInBounds_toArray, List.set_cons_zero, List.set_cons_succ])
       refine wpAnyH_take (i := 2) (v := .pointer (some ⟨gl, of + i * 32, none⟩)) rfl (by kernel_rfl) (by kernel_rfl) (by kernel_rfl) (fun _ _ _ h => h) (Or.inl ⟨by kernel_rfl, fun _ hS => ix_at37 _ _ rfl gl of n c0 i rfl rfl hi⟩) hHeld ?_
       (try simp only [Act.put, List.getElem_toArray, List.getElem_cons_succ, List.getElem_cons_zero, List.setIfInBounds_toArray, List.set_cons_zero, List.set_cons_succ])
       refine wpAnyH_take (i := 3) (v := .pointer (some ⟨gl, of + i * 32, none⟩)) rfl (by kernel_rfl) (by kernel_rfl) (by kernel_rfl) (fun _ _ _ h => h) (Or.inl ⟨by kernel_rfl, fun _ hS => by kernel_rfl⟩) hHeld ?_
       (try simp only [Act.put, List.getElem_toArray, List.getElem_cons_succ, List.getElem_cons_zero, List.setIfInBounds_toArray, List.set_cons_zero, List.set_cons_succ])
       refine wpAnyH_take (i := 4) (v := .agg (Ik.cs ai).toArray) rfl (by kernel_rfl) (by kernel_rfl) (by kernel_rfl) (fun _ _ _ h => h) (yieldsIf_load_mid (by kernel_rfl) 28 _ rfl gl (of + i * 32) rfl (Ik.cs ai) _ (fun _ hS => (HRI.out _ hS).1) ikUnd rfl (HIK.out _)) hHeld ?_
       (try simp only [Act.put, List.getElem_toArray, List.getElem_cons_succ, List.getElem_cons_zero, List.setIfInBounds_toArray, List.set_cons_zero, List.set_cons_succ])
       refine wpAnyH_take (i := 5) (v := .pointer (some ⟨b, 0, none⟩)) rfl (by kernel_rfl) (by kernel_rfl) (by kernel_rfl) (fun _ _ _ h => h) (Or.inl ⟨by kernel_rfl, fun _ hS => by kernel_rfl⟩) hHeld ?_
       (try simp only [Act.put, List.getElem_toArray, List.getElem_cons_succ, List.getElem_cons_zero, List.setIfInBounds_toArray, List.set_cons_zero, List.set_cons_succ])
       refine wpAnyH_take (i := 6) (v := .agg (Ik.cs z).toArray) rfl (by kernel_rfl) (by kernel_rfl) (by kernel_rfl) (fun _ _ _ h => h) (yieldsIf_load_mid (by kernel_rfl) 28 _ rfl b 0 rfl (Ik.cs z) _ (fun _ hS => HKA.out _ hS) ikUnd rfl (HIK.out _)) hHeld ?_
       (try simp only [Act.put, List.getElem_toArray, List.getElem_cons_succ, List.getElem_cons_zero, List.setIfInBounds_toArray, List.set_cons_zero, List.set_cons_succ])
       refine wpAnyH_take (i := 7) (v := .bool true) rfl (by kernel_rfl) (by kernel_rfl) (by kernel_rfl) (fun _ _ _ h => h) (Or.inl ⟨by kernel_rfl, fun _ hS => ik_eq_run _ _ rfl ai z rfl rfl HQ.out⟩) hHeld ?_
       (try simp only [Act.put, List.getElem_toArray, List.getElem_cons_succ, List.getElem_cons_zero, List.setIfInBounds_toArray, List.set_cons_zero, List.set_cons_succ])
       have HE := Lib.hid hHeld
       refine wpAnyH_done (by kernel_rfl) ?_ _
       clear hHeld
       go_wp2
       first | go_ret | go_ret2 | (refine bodyPost_ret (results_tmp rfl _ _ _) rfl ?_)
       obtain ⟨q1, q2, q3, q4, q5⟩ := HROW.out
       refine rputW_same q1 q2 q3 q4 (H02.out.trans ((hR.out.1.trans (HE.out.mono hR.out.1.size)).mono H02.out.size)) ?_
       unfold putW
       obtain ⟨p1, p2, p3⟩ := HAI.out
       rw [HDA.out, HRF.out, if_neg (by decide), if_neg (by decide), if_pos]
       refine List.mem_map.2 ⟨mi, by rw [p1]; exact List.getElem_mem p3, ?_⟩
       rw [← p2, of_decide_eq_true HQ.out, HZM.out]
     | false =>
       have HQ := Lib.hid hq
       clear hq
       refine wp_region_held_drew (S := fun wz => Below wr.heap.size wr wz) (by kernel_rfl) (Below.refl _ _).drew (fun hHeld => ?_)
       obtain ⟨wa, hwa⟩ : ∃ x, x = wr.drew := ⟨_, rfl⟩
       rw [← hwa] at hHeld ⊢
       clear hwa
       refine wpAnyH_take (i := 0) (v := .slice (some ⟨gl, of, none⟩) n c0) rfl (by kernel_rfl) (by kernel_rfl) (by kernel_rfl) (fun _ _ _ h => h) (Or.inl ⟨by kernel_rfl, fun _ hS => by kernel_rfl⟩) hHeld ?_
       (try simp only [Act.put, List.getElem_toArray, List.getElem_cons_succ, List.getElem_cons_zero, List.setIfInBounds_toArray, List.set_cons_zero, List.set_cons_succ])
       refine wpAnyH_take (i := 1) (v := .int .i64 (i : Nat)) rfl (by kernel_rfl) (by kernel_rfl) (by kernel_rfl) (fun _ _ _ h => h) (Or.inl ⟨by kernel_rfl, fun _ hS => by kernel_rfl⟩) hHeld ?_
       (try simp only [Act.put, List.getElem_toArray, List.getElem_cons_succ, List.getElem_cons_zero, List.setIfInBounds_toArray, List.set_cons_zero, List.set_cons_succ])
       refine wpAnyH_take (i := 2) (v := .pointer (some ⟨gl, of + i * 32, none⟩)) rfl (by kernel_rfl) (by kernel_rfl) (by kernel_rfl) (fun _ _ _ h => h) (Or.inl ⟨by kernel_rfl, fun _ hS => ix_at37 _ _ rfl gl of n c0 i rfl rfl hi⟩) hHeld ?_
       (try simp only [Act.put, List.getElem_toArray, List.getElem_cons_succ, List.getElem_cons_zero, List.setIfInBounds_toArray, List.set_cons_zero, List.set_cons_succ])
       refine wpAnyH_take (i := 3) (v := .pointer (some ⟨gl, of + i * 32, none⟩)) rfl (by kernel_rfl) (by kernel_rfl) (by kernel_rfl) (fun _ _ _ h => h) (Or.inl ⟨by kernel_rfl, fun _ hS => by kernel_rfl⟩) hHeld ?_
       (try simp only [Act.put, List.getElem_toArray, List.getElem_cons_succ, List.getElem_cons_zero, List.setIfInBounds_toArray, List.set_cons_zero, List.set_cons_succ])
       refine wpAnyH_take (i := 4) (v := .agg (Ik.cs ai).toArray) rfl (by kernel_rfl) (by kernel_rfl) (by kernel_rfl) (fun _ _ _ h => h) (yieldsIf_load_mid (by kernel_rfl) 28 _ rfl gl (of + i * 32) rfl (Ik.cs ai) _ (fun _ hS => (HRI.out _ hS).1) ikUnd rfl (HIK.out _)) hHeld ?_
       (try simp only [Act.put, List.getElem_toArray, List.getElem_cons_succ, List.getElem_cons_zero, List.setIfInBounds_toArray, List.set_cons_zero, List.set_cons_succ])
       refine wpAnyH_take (i := 5) (v := .pointer (some ⟨b, 0, none⟩)) rfl (by kernel_rfl) (by kernel_rfl) (by kernel_rfl) (fun _ _ _ h => h) (Or.inl ⟨by kernel_rfl, fun _ hS => by kernel_rfl⟩) hHeld ?_
       (try simp only [Act.put, List.getElem_toArray, List.getElem_cons_succ, List.getElem_cons_zero, List.setIfInBounds_toArray, List.set_cons_zero, List.set_cons_succ])
       refine wpAnyH_take (i := 6) (v := .agg (Ik.cs z).toArray) rfl (by kernel_rfl) (by kernel_rfl) (by kernel_rfl) (fun _ _ _ h => h) (yieldsIf_load_mid (by kernel_rfl) 28 _ rfl b 0 rfl (Ik.cs z) _ (fun _ hS => HKA.out _ hS) ikUnd rfl (HIK.out _)) hHeld ?_
       (try simp only [Act.put, List.getElem_toArray, List.getElem_cons_succ, List.getElem_cons_zero, List.setIfInBounds_toArray, List.set_cons_zero, List.set_cons_succ])
       refine wpAnyH_take (i := 7) (v := .bool false) rfl (by kernel_rfl) (by kernel_rfl) (by kernel_rfl) (fun _ _ _ h => h) (Or.inl ⟨by kernel_rfl, fun _ hS => ik_eq_run _ _ rfl ai z rfl rfl HQ.out⟩) hHeld ?_
       (try simp only [Act.put, List.getElem_toArray, List.getElem_cons_succ, List.getElem_cons_zero, List.setIfInBounds_toArray, List.set_cons_zero, List.set_cons_succ])
       have HE := Lib.hid hHeld
       refine wpAnyH_done (by kernel_rfl) ?_ _
       clear hHeld
       go_wp2
       go_roundw
       case measure => simp [intOf]; omega
       case rel =>
         refine ⟨i + 1, by omega, by go_num, Lib.hid ⟨hR.out.1.trans (HE.out.mono hR.out.1.size), fun j hj hji => ?_⟩⟩
         by_cases e : j = i
         · subst e
           obtain ⟨p1, p2, p3⟩ := HAI.out
           rw [← p1, ← p2]
           exact of_decide_eq_false HQ.out
         · exact hR.out.2 j hj (by omega)
   · have hie : n = i := by omega
     subst hie
     have hiI : ¬ ((n : Int) < (n : Int)) := by omega
     have hnl : ¬ ((10000 : Int) ≤ (n : Int)) := by omega
     have hno : z ∉ idsW M := fun h => by
       obtain ⟨y, hy, e⟩ := List.mem_map.1 h
       obtain ⟨j, hj, e2⟩ := List.mem_iff_getElem.1 hy
       exact hR.out.2 j hj (by have := HROW.out.2.2.2.1; omega) (by rw [e2]; exact e)
     have HNO := Lib.hid hno
     obtain ⟨wq, hwq⟩ : ∃ x, x = wr := ⟨_, rfl⟩
     have hq2 : Below w2.heap.size w2 wq := by rw [hwq]; exact hR.out.1
     rw [← hwq]
     clear hno hwq hR HST
     obtain ⟨base, hbase⟩ : ∃ k, k = wq.heap.size := ⟨_, rfl⟩
     obtain ⟨W3, hW3⟩ : ∃ W3, W3 = wq.alloc (.cells #[] 46) := ⟨_, rfl⟩
     have h0q : Below w.heap.size w wq := H02.out.trans (hq2.mono H02.out.size)
     have hBb : B ≤ base := by have := HROW.out.2.2.1; have := h0q.size; omega
     have hpu0 : OthR 46 base wq (fun k => k < B) [] (some ⟨base, 0, none⟩) 0 0 W3 := by rw [hW3, hbase]; exact othR_begin (by rw [← hbase]; exact hBb)
     have hfk : ∀ wz, Below base wq wz → wz.heap[b]? = some (.cells CA 46) ∧ wz.rangeAt b 0 (Ik.cs z) := fun wz hz => by
       have hy := HY.out
       have h2q : Below W0.heap.size W0 wz := hy.trans ((hq2.trans (hz.mono (by rw [hbase]; exact hq2.size))).mono hy.size)
       exact ⟨(h2q.block b (by have := HZ.out; omega)).trans HK0.out, HKA0.out wz h2q⟩
     have hfin : ∀ (pre : List Wn) (A' : Option Addr) (k cap : Nat) (W : World), OthR 46 base wq (fun k => k < B) pre A' k cap W → pre.map Wn.m = insW m M → RputW w G B M m (.returned (.tuple #[.slice A' k cap, .int .i64 0])) W := fun pre A' k cap W hp he => by
       have hpr : putW M m = (insW m M, 0) := by
         unfold putW
         rw [HDA.out, HRF.out, if_neg (by decide), if_neg (by decide), if_neg (by rw [← HZM.out]; exact HNO.out), if_neg (by have := HROW.out.2.2.2.1; omega)]
       unfold RputW
       rw [hpr, ← he]
       have hbs : w.heap.size ≤ base := by rw [hbase]; exact h0q.size
       refine ⟨A', cap, by rw [List.length_map, hp.len], h0q.trans (hp.below.mono hbs), ?_⟩
       exact hp.row.keep (fun g hg => ⟨rfl, .inr ⟨by have := hg.1; omega, hg.2.1⟩⟩) (fun k hk => ⟨rfl, hk⟩)
     have HFIN := Lib.hid hfin
     have HPU0 := Lib.hid hpu0
     have HFK := Lib.hid hfk
     have HBS := Lib.hid (And.intro (show base ≤ wq.heap.size from by rw [hbase]; exact Nat.le_refl _) (And.intro hBb (And.intro hq2 (And.intro h0q (show wq.heap.size ≤ base from by rw [hbase]; exact Nat.le_refl _)))))
     clear hfin hpu0 hfk hBb h0q hq2
     go_upto_region 13 with (fail)
     rw [← hW3, ← hbase]
     clear hW3 hbase
     go_wp2_with (fail)
     go_loopw [7, 8, 9] (fun s dv iv wr => RpI base wq B M m n s dv iv wr) (fun _ _ iv _ => n - (intOf iv).toNat)
     case atStart => exact ⟨0, Nat.zero_le _, rfl, false, _, 0, 0, [], rfl, rfl, Lib.hid ⟨HPU0.out, rfl, by omega, fun _ => Nat.le_refl _⟩⟩
     case round =>
      obtain ⟨i, hin, rfl, dd, A', k, cap, pre, rfl, rfl, hR⟩ := hrel
      by_cases hi : i < n
      · have hiI : (i : Int) < (n : Int) := by omega
        have hi0 : (0 : Int) ≤ i := by omega
        obtain ⟨hc1, hc2⟩ := hcc (by omega)
        have hil : i < M.length := by have := HROW.out.2.2.2.1; omega
        obtain ⟨gl, of, hA, hglG, hri⟩ := HR2.out i hil
        subst hA
        obtain ⟨A1, c1, Ao1, co1, hr1, hr2, hr3⟩ := hri
        obtain ⟨mi, hmi⟩ : ∃ x, x = M[i] := ⟨_, rfl⟩
        obtain ⟨ai, hai⟩ : ∃ x, x = mi.id := ⟨_, rfl⟩
        rw [← hmi] at hr1 hr2
        obtain ⟨NX, hNX⟩ : ∃ N, N = wrA mi A1 c1 Ao1 co1 := ⟨_, rfl⟩
        
        have hbelq := hR.out.1.below
        have hws := hbelq.size
        have hbw : base ≤ wr.heap.size := by have := HBS.out.1; omega
        have hq3 : ∀ wz, Below base wq wz → Below w2.heap.size w2 wz := fun wz h => HBS.out.2.2.1.trans (h.mono (Nat.le_trans HBS.out.2.2.1.size HBS.out.2.2.2.2))
        have HRG := Lib.hid (fun (wz : World) (h : Below base wq wz) => show wz.rangeAt gl (of + i * 32) (Ik.cs ai) ∧ wz.rangeAt gl (of + i * 32) NX.toList from by
          have h1 := hr1 wz (hq3 wz h)
          exact ⟨by rw [hai]; exact (wr_row3 h1).1, by rw [hNX]; exact h1⟩)
        have HSI := Lib.hid (fun (wz : World) (h : Below base wq wz) => hr2 wz (hq3 wz h))
        have HRI := Lib.hid (fun (wz : World) (h : Below wr.heap.size wr wz) => HRG.out wz (hbelq.trans (h.mono hbw)))
        have HKA := Lib.hid (fun (wz : World) (h : Below wr.heap.size wr wz) => (HFK.out wz (hbelq.trans (h.mono hbw))).2)
        have hcut : M.drop i = mi :: M.drop (i + 1) := by rw [List.drop_eq_getElem_cons hil, hmi]
        have hNXs : (Tryz.prog.info? 46).map (·.size) = some NX.toList.length := by rw [hNX]; exact (rw_info _ _ _ _ _).2
        have HNX := Lib.hid (And.intro (show NX = wrA mi A1 c1 Ao1 co1 from hNX) (And.intro (show ∀ u ∈ NX.toList, u.oneCell' = true from by rw [hNX]; exact Wn.cells_one ⟨mi, A1, c1, Ao1, co1⟩) (And.intro trivial (And.intro trivial (And.intro hNXs hcut)))))
        have HNX2 := Lib.hid (And.intro HNX.out.2.1 (show NX.size = 32 from by rw [hNX]; exact wrA_size _ _ _ _ _))
        have HBW := Lib.hid (And.intro hbelq (And.intro hbw hws))
        have HAI := Lib.hid hai
        have hk1000 : k ≤ 1001 := by have := hR.out.2.2.1; omega
        have hsk : Below wr.heap.size wr wr.drew := (Below.refl _ _).drew
        clear hr1 hr2 hr3 hmi hai hNX hglG hil hbelq hws hq3 hcut hNXs
        go_upto_region 17 with (fail)
        cases dd with
        | true =>
          refine wp_region_held_drew (S := fun wz => Below wr.heap.size wr wz) (by kernel_rfl) (Below.refl _ _).drew (fun hHeld => ?_)
          obtain ⟨wa, hwa⟩ : ∃ x, x = wr.drew := ⟨_, rfl⟩
          rw [← hwa] at hHeld ⊢
          clear hwa
          refine wpAnyH_take (i := 0) (v := .bool true) rfl (by kernel_rfl) (by kernel_rfl) (by kernel_rfl) (fun _ _ _ h => h) (Or.inl ⟨by kernel_rfl, fun _ hS => by kernel_rfl⟩) hHeld ?_
          (try simp only [Act.put, List.getElem_toArray, List.getElem_cons_succ, List.getElem_cons_zero, List.setIfInBounds_toArray, List.set_cons_zero, List.set_cons_succ])
          refine wpAnyH_take (i := 1) (v := .bool false) rfl (by kernel_rfl) (by kernel_rfl) (by kernel_rfl) (fun _ _ _ h => h) (Or.inl ⟨by kernel_rfl, fun _ hS => by kernel_rfl⟩) hHeld ?_
          (try simp only [Act.put, List.getElem_toArray, List.getElem_cons_succ, List.getElem_cons_zero, List.setIfInBounds_toArray, List.set_cons_zero, List.set_cons_succ])
          refine wpAnyH_take (i := 2) (v := .bool false) rfl (by kernel_rfl) (by kernel_rfl) (by kernel_rfl) (fun _ _ _ h => h) (Or.inl ⟨by kernel_rfl, fun _ hS => by kernel_rfl⟩) hHeld ?_
          (try simp only [Act.put, List.getElem_toArray, List.getElem_cons_succ, List.getElem_cons_zero, List.setIfInBounds_toArray, List.set_cons_zero, List.set_cons_succ])
          refine wpAnyH_take (i := 3) (v := undef) rfl (by kernel_rfl) (by kernel_rfl) (by kernel_rfl) (fun _ _ _ h => h) (Or.inr ⟨by kernel_rfl, rfl⟩) hHeld ?_
          (try simp only [Act.put, List.getElem_toArray, List.getElem_cons_succ, List.getElem_cons_zero, List.setIfInBounds_toArray, List.set_cons_zero, List.set_cons_succ])
          refine wpAnyH_take (i := 4) (v := undef) rfl (by kernel_rfl) (by kernel_rfl) (by kernel_rfl) (fun _ _ _ h => h) (Or.inr ⟨by kernel_rfl, rfl⟩) hHeld ?_
          (try simp only [Act.put, List.getElem_toArray, List.getElem_cons_succ, List.getElem_cons_zero, List.setIfInBounds_toArray, List.set_cons_zero, List.set_cons_succ])
          refine wpAnyH_take (i := 5) (v := undef) rfl (by kernel_rfl) (by kernel_rfl) (by kernel_rfl) (fun _ _ _ h => h) (Or.inr ⟨by kernel_rfl, rfl⟩) hHeld ?_
          (try simp only [Act.put, List.getElem_toArray, List.getElem_cons_succ, List.getElem_cons_zero, List.setIfInBounds_toArray, List.set_cons_zero, List.set_cons_succ])
          refine wpAnyH_take (i := 6) (v := undef) rfl (by kernel_rfl) (by kernel_rfl) (by kernel_rfl) (fun _ _ _ h => h) (Or.inr ⟨by kernel_rfl, rfl⟩) hHeld ?_
          (try simp only [Act.put, List.getElem_toArray, List.getElem_cons_succ, List.getElem_cons_zero, List.setIfInBounds_toArray, List.set_cons_zero, List.set_cons_succ])
          refine wpAnyH_take (i := 7) (v := undef) rfl (by kernel_rfl) (by kernel_rfl) (by kernel_rfl) (fun _ _ _ h => h) (Or.inr ⟨by kernel_rfl, rfl⟩) hHeld ?_
          (try simp only [Act.put, List.getElem_toArray, List.getElem_cons_succ, List.getElem_cons_zero, List.setIfInBounds_toArray, List.set_cons_zero, List.set_cons_succ])
          refine wpAnyH_take (i := 8) (v := undef) rfl (by kernel_rfl) (by kernel_rfl) (by kernel_rfl) (fun _ _ _ h => h) (Or.inr ⟨by kernel_rfl, rfl⟩) hHeld ?_
          (try simp only [Act.put, List.getElem_toArray, List.getElem_cons_succ, List.getElem_cons_zero, List.setIfInBounds_toArray, List.set_cons_zero, List.set_cons_succ])
          refine wpAnyH_take (i := 9) (v := undef) rfl (by kernel_rfl) (by kernel_rfl) (by kernel_rfl) (fun _ _ _ h => h) (Or.inr ⟨by kernel_rfl, rfl⟩) hHeld ?_
          (try simp only [Act.put, List.getElem_toArray, List.getElem_cons_succ, List.getElem_cons_zero, List.setIfInBounds_toArray, List.set_cons_zero, List.set_cons_succ])
          refine wpAnyH_take (i := 10) (v := undef) rfl (by kernel_rfl) (by kernel_rfl) (by kernel_rfl) (fun _ _ _ h => h) (Or.inr ⟨by kernel_rfl, rfl⟩) hHeld ?_
          (try simp only [Act.put, List.getElem_toArray, List.getElem_cons_succ, List.getElem_cons_zero, List.setIfInBounds_toArray, List.set_cons_zero, List.set_cons_succ])
          refine wpAnyH_take (i := 11) (v := .bool false) rfl (by kernel_rfl) (by kernel_rfl) (by kernel_rfl) (fun _ _ _ h => h) (Or.inl ⟨by kernel_rfl, fun _ hS => by kernel_rfl⟩) hHeld ?_
          (try simp only [Act.put, List.getElem_toArray, List.getElem_cons_succ, List.getElem_cons_zero, List.setIfInBounds_toArray, List.set_cons_zero, List.set_cons_succ])
          obtain ⟨wb, hwb⟩ : ∃ x, x = wa := ⟨_, rfl⟩
          rw [← hwb] at hHeld ⊢
          clear hwb
          have HE := Lib.hid hHeld
          refine wpAnyH_done (by kernel_rfl) ?_ _
          clear hHeld
          have hpb := hR.out.1.kept HE.out HBS.out.1
          have hbwb : base ≤ wb.heap.size := by have := HE.out.size; omega
          have HPB := Lib.hid hpb
          obtain ⟨xs, hxs⟩ : ∃ l, l = pre.flatMap Wn.cells := ⟨_, rfl⟩
          have hown := hpb.own
          rw [← hxs] at hown
          have HOW := Lib.hid hown
          have HXS := Lib.hid hxs
          
          have HRN := Lib.hid (HRG.out wb hpb.below).2
          clear hpb hown hxs
          go_wp2_with (first | (at_builtin; refine wpList_append_lies _ rfl (.tmp 61) (.tmp 66) 22 rfl base 46 ti _ 32 296 undRws HTI.out.1 HTI.out.2.1 HTI.out.2.2.1 HTI.out.2.2.2.1 HTI.out.2.2.2.2 (by decide) (.slice A' k cap) (k) xs rfl (HOW.out.alloc _) ⟨wb.heap.size, 0, none⟩ 1 1 NX.toList rfl (by simp [HNX2.out.2]) (World.news_of_block (heap_alloc_new wb (.cells NX 46))) HNX2.out.1 (by decide) (by unfold maxLen; omega) (by omega) (by rw [World.size_alloc]; omega) (wb.heap.size + 1) (by rw [World.size_alloc]) ?_; intro g3 cap3 w4 hown4 hgrow hat hlt4; have HO1 := Lib.hid hown4; have HG1 := Lib.hid hgrow; have HA1 := Lib.hid hat; have HSZ1 := Lib.hid (show wb.heap.size ≤ w4.heap.size from by have := hgrow.size; rw [World.size_alloc] at this; omega); have hsz1 := HSZ1.out; clear hown4 hgrow hat hlt4) | (refine wpList_mid rfl 46 _ rfl gl (of + i * 32) rfl NX.toList _ HRN.out undRw rfl HNX.out.2.2.2.2.1 ?_; simp only [Array.toArray_toList]) | (refine wpList_oneRw rfl _ rfl NX rfl HNX2.out.2 ?_) | fail)
          go_roundw
          case measure => simp [intOf]; omega
          case rel =>
            have hst : OthR 46 base wq (fun k => k < B) (pre ++ [⟨mi, A1, c1, Ao1, co1⟩]) (some ⟨g3, 0, none⟩) (k + 1) cap3 w4 := by
              have hg := HG1.out
              have ho := HO1.out
              rw [HNX.out.1] at hg ho
              rw [HXS.out] at ho
              exact OthR.step (x := ⟨mi, A1, c1, Ao1, co1⟩) HPB.out HBS.out.1 (fun _ h => h) HPB.out.zone (HSI.out wb HPB.out.below) hg HA1.out ho
            have h := hR.out.2.1
            rw [HNX.out.2.2.2.2.2] at h
            exact ⟨i + 1, by omega, by go_num, true, some ⟨g3, 0, none⟩, k + 1, cap3, pre ++ [⟨mi, A1, c1, Ao1, co1⟩], rfl, rfl, Lib.hid ⟨hst, by rw [List.map_append, List.append_assoc]; exact h, by have := hR.out.2.2.1; omega, fun q => by cases q⟩⟩
        | false =>
          cases hah : decide (bef z ai) with
          | false =>
            have HBF := Lib.hid (fun wx => show Calls Tryz.prog 42 #[.agg (Ik.cs z).toArray, .agg (Ik.cs ai).toArray] wx fun e w' => e = .returned (.bool false) ∧ Below wx.heap.size wx w' from by have h := beforeR_c wx z ai; rw [hah] at h; exact h.mono fun _ _ h => ⟨h.1, h.2.1⟩)
            have HQA := Lib.hid (show decide (bef m.id ai) = false from by rw [← HZM.out]; exact hah)
            clear hah
            refine wp_region_held_drew (S := fun wz => Below wr.heap.size wr wz) (by kernel_rfl) (Below.refl _ _).drew (fun hHeld => ?_)
            obtain ⟨wa, hwa⟩ : ∃ x, x = wr.drew := ⟨_, rfl⟩
            rw [← hwa] at hHeld ⊢
            clear hwa
            refine wpAnyH_take (i := 0) (v := .bool false) rfl (by kernel_rfl) (by kernel_rfl) (by kernel_rfl) (fun _ _ _ h => h) (Or.inl ⟨by kernel_rfl, fun _ hS => by kernel_rfl⟩) hHeld ?_
            (try simp only [Act.put, List.getElem_toArray, List.getElem_cons_succ, List.getElem_cons_zero, List.setIfInBounds_toArray, List.set_cons_zero, List.set_cons_succ])
            refine wpAnyH_take (i := 1) (v := .bool true) rfl (by kernel_rfl) (by kernel_rfl) (by kernel_rfl) (fun _ _ _ h => h) (Or.inl ⟨by kernel_rfl, fun _ hS => by kernel_rfl⟩) hHeld ?_
            (try simp only [Act.put, List.getElem_toArray, List.getElem_cons_succ, List.getElem_cons_zero, List.setIfInBounds_toArray, List.set_cons_zero, List.set_cons_succ])
            refine wpAnyH_take (i := 2) (v := .bool true) rfl (by kernel_rfl) (by kernel_rfl) (by kernel_rfl) (fun _ _ _ h => h) (Or.inl ⟨by kernel_rfl, fun _ hS => by kernel_rfl⟩) hHeld ?_
            (try simp only [Act.put, List.getElem_toArray, List.getElem_cons_succ, List.getElem_cons_zero, List.setIfInBounds_toArray, List.set_cons_zero, List.set_cons_succ])
            refine wpAnyH_take (i := 3) (v := .pointer (some ⟨b, 0, none⟩)) rfl (by kernel_rfl) (by kernel_rfl) (by kernel_rfl) (fun _ _ _ h => h) (Or.inl ⟨by kernel_rfl, fun _ hS => by kernel_rfl⟩) hHeld ?_
            (try simp only [Act.put, List.getElem_toArray, List.getElem_cons_succ, List.getElem_cons_zero, List.setIfInBounds_toArray, List.set_cons_zero, List.set_cons_succ])
            refine wpAnyH_take (i := 4) (v := .agg (Ik.cs z).toArray) rfl (by kernel_rfl) (by kernel_rfl) (by kernel_rfl) (fun _ _ _ h => h) (yieldsIf_load_mid (by kernel_rfl) 28 _ rfl b 0 rfl (Ik.cs z) _ (fun _ hS => HKA.out _ hS) ikUnd rfl (HIK.out _)) hHeld ?_
            (try simp only [Act.put, List.getElem_toArray, List.getElem_cons_succ, List.getElem_cons_zero, List.setIfInBounds_toArray, List.set_cons_zero, List.set_cons_succ])
            refine wpAnyH_take (i := 5) (v := .slice (some ⟨gl, of, none⟩) n c0) rfl (by kernel_rfl) (by kernel_rfl) (by kernel_rfl) (fun _ _ _ h => h) (Or.inl ⟨by kernel_rfl, fun _ hS => by kernel_rfl⟩) hHeld ?_
            (try simp only [Act.put, List.getElem_toArray, List.getElem_cons_succ, List.getElem_cons_zero, List.setIfInBounds_toArray, List.set_cons_zero, List.set_cons_succ])
            refine wpAnyH_take (i := 6) (v := .int .i64 (i : Nat)) rfl (by kernel_rfl) (by kernel_rfl) (by kernel_rfl) (fun _ _ _ h => h) (Or.inl ⟨by kernel_rfl, fun _ hS => by kernel_rfl⟩) hHeld ?_
            (try simp only [Act.put, List.getElem_toArray, List.getElem_cons_succ, List.getElem_cons_zero, List.setIfInBounds_toArray, List.set_cons_zero, List.set_cons_succ])
            refine wpAnyH_take (i := 7) (v := .pointer (some ⟨gl, of + i * 32, none⟩)) rfl (by kernel_rfl) (by kernel_rfl) (by kernel_rfl) (fun _ _ _ h => h) (Or.inl ⟨by kernel_rfl, fun _ hS => ix_at37 _ _ rfl gl of n c0 i rfl rfl hi⟩) hHeld ?_
            (try simp only [Act.put, List.getElem_toArray, List.getElem_cons_succ, List.getElem_cons_zero, List.setIfInBounds_toArray, List.set_cons_zero, List.set_cons_succ])
            refine wpAnyH_take (i := 8) (v := .pointer (some ⟨gl, of + i * 32, none⟩)) rfl (by kernel_rfl) (by kernel_rfl) (by kernel_rfl) (fun _ _ _ h => h) (Or.inl ⟨by kernel_rfl, fun _ hS => by kernel_rfl⟩) hHeld ?_
            (try simp only [Act.put, List.getElem_toArray, List.getElem_cons_succ, List.getElem_cons_zero, List.setIfInBounds_toArray, List.set_cons_zero, List.set_cons_succ])
            refine wpAnyH_take (i := 9) (v := .agg (Ik.cs ai).toArray) rfl (by kernel_rfl) (by kernel_rfl) (by kernel_rfl) (fun _ _ _ h => h) (yieldsIf_load_mid (by kernel_rfl) 28 _ rfl gl (of + i * 32) rfl (Ik.cs ai) _ (fun _ hS => (HRI.out _ hS).1) ikUnd rfl (HIK.out _)) hHeld ?_
            (try simp only [Act.put, List.getElem_toArray, List.getElem_cons_succ, List.getElem_cons_zero, List.setIfInBounds_toArray, List.set_cons_zero, List.set_cons_succ])
            refine wpAnyH_ready (rs := [10]) (by kernel_rfl) (by simp) ?_
            refine AllReadyH.cons rfl (fun K hK => ?_) AllReadyH.nil
            go_simp
            refine (HBF.out _).mono ?_
            rintro e wb ⟨rfl, hbl⟩
            try go_simp
            have hbl2 := hHeld.trans (hbl.mono hHeld.size)
            refine hK.out _ _ hbl2 (fun hHeld1 => ?_)
            clear hK K hHeld hbl2
            have hHeld := hHeld1
            clear hHeld1
            (try simp only [Act.put, List.getElem_toArray, List.getElem_cons_succ, List.getElem_cons_zero, List.setIfInBounds_toArray, List.set_cons_zero, List.set_cons_succ])
            clear hbl
            refine wpAnyH_take (i := 11) (v := .bool false) rfl (by kernel_rfl) (by kernel_rfl) (by kernel_rfl) (fun _ _ _ h => h) (Or.inl ⟨by kernel_rfl, fun _ hS => by kernel_rfl⟩) hHeld ?_
            (try simp only [Act.put, List.getElem_toArray, List.getElem_cons_succ, List.getElem_cons_zero, List.setIfInBounds_toArray, List.set_cons_zero, List.set_cons_succ])
            have HE := Lib.hid hHeld
            refine wpAnyH_done (by kernel_rfl) ?_ _
            clear hHeld
            have hpb := hR.out.1.kept HE.out HBS.out.1
            have hbwb : base ≤ wb.heap.size := by have := HE.out.size; omega
            have HPB := Lib.hid hpb
            obtain ⟨xs, hxs⟩ : ∃ l, l = pre.flatMap Wn.cells := ⟨_, rfl⟩
            have hown := hpb.own
            rw [← hxs] at hown
            have HOW := Lib.hid hown
            have HXS := Lib.hid hxs
            
            have HRN := Lib.hid (HRG.out wb hpb.below).2
            clear hpb hown hxs
            go_wp2_with (first | (at_builtin; refine wpList_append_lies _ rfl (.tmp 61) (.tmp 66) 22 rfl base 46 ti _ 32 296 undRws HTI.out.1 HTI.out.2.1 HTI.out.2.2.1 HTI.out.2.2.2.1 HTI.out.2.2.2.2 (by decide) (.slice A' k cap) (k) xs rfl (HOW.out.alloc _) ⟨wb.heap.size, 0, none⟩ 1 1 NX.toList rfl (by simp [HNX2.out.2]) (World.news_of_block (heap_alloc_new wb (.cells NX 46))) HNX2.out.1 (by decide) (by unfold maxLen; omega) (by omega) (by rw [World.size_alloc]; omega) (wb.heap.size + 1) (by rw [World.size_alloc]) ?_; intro g3 cap3 w4 hown4 hgrow hat hlt4; have HO1 := Lib.hid hown4; have HG1 := Lib.hid hgrow; have HA1 := Lib.hid hat; have HSZ1 := Lib.hid (show wb.heap.size ≤ w4.heap.size from by have := hgrow.size; rw [World.size_alloc] at this; omega); have hsz1 := HSZ1.out; clear hown4 hgrow hat hlt4) | (refine wpList_mid rfl 46 _ rfl gl (of + i * 32) rfl NX.toList _ HRN.out undRw rfl HNX.out.2.2.2.2.1 ?_; simp only [Array.toArray_toList]) | (refine wpList_oneRw rfl _ rfl NX rfl HNX2.out.2 ?_) | fail)
            go_roundw
            case measure => simp [intOf]; omega
            case rel =>
              have hst : OthR 46 base wq (fun k => k < B) (pre ++ [⟨mi, A1, c1, Ao1, co1⟩]) (some ⟨g3, 0, none⟩) (k + 1) cap3 w4 := by
                have hg := HG1.out
                have ho := HO1.out
                rw [HNX.out.1] at hg ho
                rw [HXS.out] at ho
                exact OthR.step (x := ⟨mi, A1, c1, Ao1, co1⟩) HPB.out HBS.out.1 (fun _ h => h) HPB.out.zone (HSI.out wb HPB.out.below) hg HA1.out ho
              have h := hR.out.2.1
              rw [HNX.out.2.2.2.2.2] at h
              rw [insF_no (by rw [← HAI.out]; exact of_decide_eq_false HQA.out)] at h
              exact ⟨i + 1, by omega, by go_num, false, some ⟨g3, 0, none⟩, k + 1, cap3, pre ++ [⟨mi, A1, c1, Ao1, co1⟩], rfl, rfl, Lib.hid ⟨hst, by rw [List.map_append, List.append_assoc]; exact h, by have := hR.out.2.2.1; omega, fun q => by have := hR.out.2.2.2 rfl; omega⟩⟩
          | true =>
            have HBF := Lib.hid (fun wx => show Calls Tryz.prog 42 #[.agg (Ik.cs z).toArray, .agg (Ik.cs ai).toArray] wx fun e w' => e = .returned (.bool true) ∧ Below wx.heap.size wx w' from by have h := beforeR_c wx z ai; rw [hah] at h; exact h.mono fun _ _ h => ⟨h.1, h.2.1⟩)
            have HQA := Lib.hid (show decide (bef m.id ai) = true from by rw [← HZM.out]; exact hah)
            clear hah
            refine wp_region_held_drew (S := fun wz => Below wr.heap.size wr wz) (by kernel_rfl) (Below.refl _ _).drew (fun hHeld => ?_)
            obtain ⟨wa, hwa⟩ : ∃ x, x = wr.drew := ⟨_, rfl⟩
            rw [← hwa] at hHeld ⊢
            clear hwa
            refine wpAnyH_take (i := 0) (v := .bool false) rfl (by kernel_rfl) (by kernel_rfl) (by kernel_rfl) (fun _ _ _ h => h) (Or.inl ⟨by kernel_rfl, fun _ hS => by kernel_rfl⟩) hHeld ?_
            (try simp only [Act.put, List.getElem_toArray, List.getElem_cons_succ, List.getElem_cons_zero, List.setIfInBounds_toArray, List.set_cons_zero, List.set_cons_succ])
            refine wpAnyH_take (i := 1) (v := .bool true) rfl (by kernel_rfl) (by kernel_rfl) (by kernel_rfl) (fun _ _ _ h => h) (Or.inl ⟨by kernel_rfl, fun _ hS => by kernel_rfl⟩) hHeld ?_
            (try simp only [Act.put, List.getElem_toArray, List.getElem_cons_succ, List.getElem_cons_zero, List.setIfInBounds_toArray, List.set_cons_zero, List.set_cons_succ])
            refine wpAnyH_take (i := 2) (v := .bool true) rfl (by kernel_rfl) (by kernel_rfl) (by kernel_rfl) (fun _ _ _ h => h) (Or.inl ⟨by kernel_rfl, fun _ hS => by kernel_rfl⟩) hHeld ?_
            (try simp only [Act.put, List.getElem_toArray, List.getElem_cons_succ, List.getElem_cons_zero, List.setIfInBounds_toArray, List.set_cons_zero, List.set_cons_succ])
            refine wpAnyH_take (i := 3) (v := .pointer (some ⟨b, 0, none⟩)) rfl (by kernel_rfl) (by kernel_rfl) (by kernel_rfl) (fun _ _ _ h => h) (Or.inl ⟨by kernel_rfl, fun _ hS => by kernel_rfl⟩) hHeld ?_
            (try simp only [Act.put, List.getElem_toArray, List.getElem_cons_succ, List.getElem_cons_zero, List.setIfInBounds_toArray, List.set_cons_zero, List.set_cons_succ])
            refine wpAnyH_take (i := 4) (v := .agg (Ik.cs z).toArray) rfl (by kernel_rfl) (by kernel_rfl) (by kernel_rfl) (fun _ _ _ h => h) (yieldsIf_load_mid (by kernel_rfl) 28 _ rfl b 0 rfl (Ik.cs z) _ (fun _ hS => HKA.out _ hS) ikUnd rfl (HIK.out _)) hHeld ?_
            (try simp only [Act.put, List.getElem_toArray, List.getElem_cons_succ, List.getElem_cons_zero, List.setIfInBounds_toArray, List.set_cons_zero, List.set_cons_succ])
            refine wpAnyH_take (i := 5) (v := .slice (some ⟨gl, of, none⟩) n c0) rfl (by kernel_rfl) (by kernel_rfl) (by kernel_rfl) (fun _ _ _ h => h) (Or.inl ⟨by kernel_rfl, fun _ hS => by kernel_rfl⟩) hHeld ?_
            (try simp only [Act.put, List.getElem_toArray, List.getElem_cons_succ, List.getElem_cons_zero, List.setIfInBounds_toArray, List.set_cons_zero, List.set_cons_succ])
            refine wpAnyH_take (i := 6) (v := .int .i64 (i : Nat)) rfl (by kernel_rfl) (by kernel_rfl) (by kernel_rfl) (fun _ _ _ h => h) (Or.inl ⟨by kernel_rfl, fun _ hS => by kernel_rfl⟩) hHeld ?_
            (try simp only [Act.put, List.getElem_toArray, List.getElem_cons_succ, List.getElem_cons_zero, List.setIfInBounds_toArray, List.set_cons_zero, List.set_cons_succ])
            refine wpAnyH_take (i := 7) (v := .pointer (some ⟨gl, of + i * 32, none⟩)) rfl (by kernel_rfl) (by kernel_rfl) (by kernel_rfl) (fun _ _ _ h => h) (Or.inl ⟨by kernel_rfl, fun _ hS => ix_at37 _ _ rfl gl of n c0 i rfl rfl hi⟩) hHeld ?_
            (try simp only [Act.put, List.getElem_toArray, List.getElem_cons_succ, List.getElem_cons_zero, List.setIfInBounds_toArray, List.set_cons_zero, List.set_cons_succ])
            refine wpAnyH_take (i := 8) (v := .pointer (some ⟨gl, of + i * 32, none⟩)) rfl (by kernel_rfl) (by kernel_rfl) (by kernel_rfl) (fun _ _ _ h => h) (Or.inl ⟨by kernel_rfl, fun _ hS => by kernel_rfl⟩) hHeld ?_
            (try simp only [Act.put, List.getElem_toArray, List.getElem_cons_succ, List.getElem_cons_zero, List.setIfInBounds_toArray, List.set_cons_zero, List.set_cons_succ])
            refine wpAnyH_take (i := 9) (v := .agg (Ik.cs ai).toArray) rfl (by kernel_rfl) (by kernel_rfl) (by kernel_rfl) (fun _ _ _ h => h) (yieldsIf_load_mid (by kernel_rfl) 28 _ rfl gl (of + i * 32) rfl (Ik.cs ai) _ (fun _ hS => (HRI.out _ hS).1) ikUnd rfl (HIK.out _)) hHeld ?_
            (try simp only [Act.put, List.getElem_toArray, List.getElem_cons_succ, List.getElem_cons_zero, List.setIfInBounds_toArray, List.set_cons_zero, List.set_cons_succ])
            refine wpAnyH_ready (rs := [10]) (by kernel_rfl) (by simp) ?_
            refine AllReadyH.cons rfl (fun K hK => ?_) AllReadyH.nil
            go_simp
            refine (HBF.out _).mono ?_
            rintro e wb ⟨rfl, hbl⟩
            try go_simp
            have hbl2 := hHeld.trans (hbl.mono hHeld.size)
            refine hK.out _ _ hbl2 (fun hHeld1 => ?_)
            clear hK K hHeld hbl2
            have hHeld := hHeld1
            clear hHeld1
            (try simp only [Act.put, List.getElem_toArray, List.getElem_cons_succ, List.getElem_cons_zero, List.setIfInBounds_toArray, List.set_cons_zero, List.set_cons_succ])
            clear hbl
            refine wpAnyH_take (i := 11) (v := .bool true) rfl (by kernel_rfl) (by kernel_rfl) (by kernel_rfl) (fun _ _ _ h => h) (Or.inl ⟨by kernel_rfl, fun _ hS => by kernel_rfl⟩) hHeld ?_
            (try simp only [Act.put, List.getElem_toArray, List.getElem_cons_succ, List.getElem_cons_zero, List.setIfInBounds_toArray, List.set_cons_zero, List.set_cons_succ])
            have HE := Lib.hid hHeld
            refine wpAnyH_done (by kernel_rfl) ?_ _
            clear hHeld
            have hpb := hR.out.1.kept HE.out HBS.out.1
            have hbwb : base ≤ wb.heap.size := by have := HE.out.size; omega
            have HPB := Lib.hid hpb
            obtain ⟨xs, hxs⟩ : ∃ l, l = pre.flatMap Wn.cells := ⟨_, rfl⟩
            have hown := hpb.own
            rw [← hxs] at hown
            have HOW := Lib.hid hown
            have HXS := Lib.hid hxs
            
            have HF := Lib.hid (HFK.out wb hpb.below).1
            have hst2 : ∀ g3 cap3 w4, (wb.alloc (.cells CA 46)).grownBy w4 (Value.slice A' k cap).ownBlock → ((Value.slice A' k cap).ownBlock = some g3 ∨ g3 = wb.heap.size + 1) → w4.ownsRow base 46 32 (.slice (some ⟨g3, 0, none⟩) (k + 1) cap3) (k + 1) (xs ++ CA.toList) → OthR 46 base wq (fun k => k < B) (pre ++ [⟨m, A, c, Ao, co⟩]) (some ⟨g3, 0, none⟩) (k + 1) cap3 w4 := fun g3 cap3 w4 hg ha ho => by
              rw [HXS.out, HCA.out] at ho
              have h0b : Below w.heap.size w wb := HBS.out.2.2.2.1.trans (HPB.out.below.mono (Nat.le_trans HBS.out.2.2.2.1.size HBS.out.2.2.2.2))
              exact OthR.step (x := ⟨m, A, c, Ao, co⟩) HPB.out HBS.out.1 (fun _ h => h) HPB.out.zone ⟨(HSX.out.s.below (h0b.mono HROW.out.2.2.1)).slG, HSX.out.g.below (h0b.mono HROW.out.2.2.1)⟩ hg ha ho
            have HST2 := Lib.hid hst2
            clear hpb hown hxs hst2
            go_wp2_with (first | (at_builtin; refine wpList_append_lies _ rfl (.tmp 57) (.tmp 59) 22 rfl base 46 ti _ 32 296 undRws HTI.out.1 HTI.out.2.1 HTI.out.2.2.1 HTI.out.2.2.2.1 HTI.out.2.2.2.2 (by decide) (.slice A' k cap) (k) xs rfl (HOW.out.alloc _) ⟨wb.heap.size, 0, none⟩ 1 1 CA.toList rfl (by simp [HON.out.2]) (World.news_of_block (heap_alloc_new wb (.cells CA 46))) HON.out.1 (by decide) (by unfold maxLen; omega) (by omega) (by rw [World.size_alloc]; omega) (wb.heap.size + 1) (by rw [World.size_alloc]) ?_; intro g3 cap3 w4 hown4 hgrow hat hlt4; have HO1 := Lib.hid hown4; have HG1 := Lib.hid hgrow; have HA1 := Lib.hid hat; have HSZ1 := Lib.hid (show wb.heap.size ≤ w4.heap.size from by have := hgrow.size; rw [World.size_alloc] at this; omega); have hsz1 := HSZ1.out; clear hown4 hgrow hat hlt4; have hp4 := HST2.out g3 cap3 w4 HG1.out HA1.out HO1.out; have HP4 := Lib.hid hp4; have HRN := Lib.hid (HRG.out w4 hp4.below).2; clear hp4) | (refine wpList_row rfl 46 _ rfl b rfl 46 CA (0, 0) _ HF.out undRw rfl HIW.out ?_) | (refine wpList_oneRw rfl _ rfl CA rfl HON.out.2 ?_) | (refine wpList_mid rfl 46 _ rfl gl (of + i * 32) rfl NX.toList _ HRN.out undRw rfl HNX.out.2.2.2.2.1 ?_; simp only [Array.toArray_toList]) | (refine wpList_oneRw rfl _ rfl NX rfl HNX2.out.2 ?_) | (at_builtin; refine wpList_append_lies _ rfl (.tmp 61) (.tmp 66) 22 rfl base 46 ti _ 32 296 undRws HTI.out.1 HTI.out.2.1 HTI.out.2.2.1 HTI.out.2.2.2.1 HTI.out.2.2.2.2 (by decide) (.slice (some ⟨g3, 0, none⟩) (k + 1) cap3) ((k + 1)) (xs ++ CA.toList) rfl (HO1.out.alloc _) ⟨w4.heap.size, 0, none⟩ 1 1 NX.toList rfl (by simp [HNX2.out.2]) (World.news_of_block (heap_alloc_new w4 (.cells NX 46))) HNX2.out.1 (by decide) (by unfold maxLen; omega) (by omega) (by rw [World.size_alloc]; omega) (w4.heap.size + 1) (by rw [World.size_alloc]) ?_; intro g4 cap4 w6 hown4 hgrow hat hlt4; have HO2 := Lib.hid hown4; have HG2 := Lib.hid hgrow; have HA2 := Lib.hid hat; have HSZ2 := Lib.hid (show w4.heap.size ≤ w6.heap.size from by have := hgrow.size; rw [World.size_alloc] at this; omega); have hsz2 := HSZ2.out; clear hown4 hgrow hat hlt4) | fail)
            go_roundw
            case measure => simp [intOf]; omega
            case rel =>
              have hst : OthR 46 base wq (fun k => k < B) ((pre ++ [⟨m, A, c, Ao, co⟩]) ++ [⟨mi, A1, c1, Ao1, co1⟩]) (some ⟨g4, 0, none⟩) (k + 1 + 1) cap4 w6 := by
                have hg := HG2.out
                have ho := HO2.out
                rw [HNX.out.1] at hg ho
                have hpe : xs ++ CA.toList = (pre ++ [(⟨m, A, c, Ao, co⟩ : Wn)]).flatMap Wn.cells := by rw [List.flatMap_append, List.flatMap_singleton, HXS.out, HCA.out]; rfl
                rw [hpe] at ho
                exact OthR.step (x := ⟨mi, A1, c1, Ao1, co1⟩) HP4.out HBS.out.1 (fun _ h => h) HP4.out.zone (HSI.out w4 HP4.out.below) hg HA2.out ho
              have h := hR.out.2.1
              rw [HNX.out.2.2.2.2.2] at h
              rw [insF_yes (by rw [← HAI.out]; exact of_decide_eq_true HQA.out)] at h
              exact ⟨i + 1, by omega, by go_num, true, some ⟨g4, 0, none⟩, k + 1 + 1, cap4, (pre ++ [⟨m, A, c, Ao, co⟩]) ++ [⟨mi, A1, c1, Ao1, co1⟩], rfl, rfl, Lib.hid ⟨hst, by rw [List.map_append, List.map_append, List.append_assoc, List.append_assoc]; exact h, by have := hR.out.2.2.2 rfl; omega, fun q => by cases q⟩⟩
      · obtain rfl : i = n := by omega
        have hend : M.drop i = [] := List.drop_of_length_le (by have := HROW.out.2.2.2.1; omega)
        have hR2 := hR.out.2.1
        rw [hend] at hR2
        have HEN := Lib.hid hR2
        have hk1000 : k ≤ 1001 := by have := hR.out.2.2.1; omega
        have hiI : ¬ ((i : Int) < (i : Int)) := by omega
        cases dd with
        | true =>
          have HDONE := Lib.hid (HFIN.out pre A' k cap wr hR.out.1 (by have h := HEN.out; simpa [insF] using h))
          clear hend hR2
          go_wp2_with (fail)
          first | go_ret | go_ret2 | (refine bodyPost_ret (results_tmp rfl _ _ _) rfl ?_)
          exact HDONE.out
        | false =>
          have hbelq := hR.out.1.below
          have hbw : base ≤ wr.heap.size := by have := hbelq.size; have := HBS.out.1; omega
          obtain ⟨xs, hxs⟩ : ∃ l, l = pre.flatMap Wn.cells := ⟨_, rfl⟩
          have hown := hR.out.1.own
          rw [← hxs] at hown
          have HOW := Lib.hid hown
          have HXS := Lib.hid hxs
          have HF := Lib.hid (HFK.out wr hbelq).1
          have HDONE := Lib.hid (show ∀ g3 cap3 w4, (wr.alloc (.cells CA 46)).grownBy w4 (Value.slice A' k cap).ownBlock → ((Value.slice A' k cap).ownBlock = some g3 ∨ g3 = wr.heap.size + 1) → w4.ownsRow base 46 32 (.slice (some ⟨g3, 0, none⟩) (k + 1) cap3) (k + 1) (xs ++ CA.toList) → RputW w G B M m (.returned (.tuple #[.slice (some ⟨g3, 0, none⟩) (k + 1) cap3, .int .i64 0])) w4 from fun g3 cap3 w4 hg ha ho => by
            rw [HXS.out, HCA.out] at ho
            have h0b : Below w.heap.size w wr := HBS.out.2.2.2.1.trans (hR.out.1.below.mono (Nat.le_trans HBS.out.2.2.2.1.size HBS.out.2.2.2.2))
            refine HFIN.out (pre ++ [⟨m, A, c, Ao, co⟩]) _ _ _ _ (OthR.step (x := ⟨m, A, c, Ao, co⟩) hR.out.1 HBS.out.1 (fun _ h => h) hR.out.1.zone ⟨(HSX.out.s.below (h0b.mono HROW.out.2.2.1)).slG, HSX.out.g.below (h0b.mono HROW.out.2.2.1)⟩ hg ha ho) ?_
            have h := HEN.out
            rw [List.map_append]
            simpa [insF, insW] using h)
          clear hend hR2 hbelq hown hxs
          go_wp2_with (first | (at_builtin; refine wpList_append_lies _ rfl (.tmp 70) (.tmp 72) 22 rfl base 46 ti _ 32 296 undRws HTI.out.1 HTI.out.2.1 HTI.out.2.2.1 HTI.out.2.2.2.1 HTI.out.2.2.2.2 (by decide) (.slice A' k cap) (k) xs rfl (HOW.out.alloc _) ⟨wr.heap.size, 0, none⟩ 1 1 CA.toList rfl (by simp [HON.out.2]) (World.news_of_block (heap_alloc_new wr (.cells CA 46))) HON.out.1 (by decide) (by unfold maxLen; omega) (by omega) (by rw [World.size_alloc]; omega) (wr.heap.size + 1) (by rw [World.size_alloc]) ?_; intro g3 cap3 w4 hown4 hgrow hat hlt4; have HO1 := Lib.hid hown4; have HG1 := Lib.hid hgrow; have HA1 := Lib.hid hat; have HSZ1 := Lib.hid (show wr.heap.size ≤ w4.heap.size from by have := hgrow.size; rw [World.size_alloc] at this; omega); have hsz1 := HSZ1.out; clear hown4 hgrow hat hlt4) | (refine wpList_row rfl 46 _ rfl b rfl 46 CA (0, 0) _ HF.out undRw rfl HIW.out ?_) | (refine wpList_oneRw rfl _ rfl CA rfl HON.out.2 ?_) | fail)
          first | go_ret | go_ret2 | (refine bodyPost_ret (results_tmp rfl _ _ _) rfl ?_)
          exact HDONE.out _ _ _ HG1.out HA1.out HO1.out
end Go.Proofs.YtbiacjkkgddclaaGreat
namespace Go.Proofs.YtbiacjkkgddclaaGreat
set_option linter.unusedSimpArgs false
set_option linter.unusedVariables false
open Go Go.RowKit Go.Shelf Go.Maps

/-- what stands. -/
def stB (M : List Wr) (gl : List Ik) (z : Ik) (j : Nat) : Bool := !decide (z ∈ gl) && !((M.take j).any fun v => !decide (v.id ∈ gl) && decide (z ∈ v.o))
theorem stB_all {M : List Wr} {gl : List Ik} {n : Nat} (hn : n = M.length) (m : Wr) : stB M gl m.id n = (!decide (m.id ∈ gl) && !(M.any fun v => !decide (v.id ∈ gl) && decide (m.id ∈ v.o))) := by
  unfold stB
  rw [List.take_of_length_le (by omega)]
theorem take_any {M : List Wr} {gl : List Ik} {z : Ik} {j : Nat} {v : Wr} (hj : j < M.length) (hv : v = M[j]) : stB M gl z (j + 1) = (stB M gl z j && !(!decide (v.id ∈ gl) && decide (z ∈ v.o))) := by
  unfold stB
  rw [List.take_succ_eq_append_getElem hj, List.any_append, ← hv]
  simp only [List.any_cons, List.any_nil, Bool.or_false, Bool.not_or, Bool.and_assoc]
def StdI (base : Nat) (w : World) (B : Nat) (M : List Wr) (gl : List Ik) (n : Nat) (s iv : Value) (wr : World) : Prop :=
  ∃ i : Nat, i ≤ n ∧ iv = .int .i64 i ∧ ∃ (A' : Option Addr) (k cap : Nat) (pre : List Wn), s = .slice A' k cap ∧ Hid (OthR 46 base w (fun k => k < B) pre A' k cap wr ∧ pre.map Wn.m = (M.take i).filter (fun m => stB M gl m.id n) ∧ k ≤ i)
def RstP (w : World) (B : Nat) (L : List Wr) (e : Ending) (w' : World) : Prop :=
  ∃ A' c', e = .returned (.slice A' L.length c') ∧ Below w.heap.size w w' ∧ RowW w' (fun g => w.heap.size ≤ g ∧ g < w'.heap.size) (fun k => k < B) A' c' L
set_option maxRecDepth 100000 in
set_option maxHeartbeats 16000000 in
theorem rstand37_c {w : World} {G : Nat → Prop} {B B1 c0 n c1 kg : Nat} {A0 A1 : Option Addr} {M : List Wr} {gl0 : List Ik} (hrow : RowW w G (fun k => k < B) A0 c0 M) (hG : ∀ k, G k → k < w.heap.size) (hB : B ≤ w.heap.size) (hn : n = M.length) (hM : n ≤ 1000) (hgl : IkG w (fun k => k < B1) A1 c1 gl0) (hB1 : B1 ≤ w.heap.size) (hkg : kg = gl0.length) :
    Calls Tryz.prog 43 #[.slice A0 n c0, .slice A1 kg c1] w (RstP w B (standW M fun x => decide (x ∈ gl0))) := by
  obtain ⟨base, hbase⟩ : ∃ k, k = w.heap.size := ⟨_, rfl⟩
  obtain ⟨W3, hW3⟩ : ∃ W3, W3 = w.alloc (.cells #[] 46) := ⟨_, rfl⟩
  have hpu0 : OthR 46 base w (fun k => k < B) [] (some ⟨base, 0, none⟩) 0 0 W3 := by rw [hW3, hbase]; exact othR_begin hB
  have hr2 : ∀ i (hi : i < M.length), ∃ gl of, A0 = some ⟨gl, of, none⟩ ∧ ∀ k (hk : k < M.length), ∃ A1 c1 Ao1 co1, (∀ wz, Below base w wz → wz.rangeAt gl (of + k * 32) (wrA M[k] A1 c1 Ao1 co1).toList) ∧ (∀ wz, Below base w wz → SlG wz (fun b _ => b < B) A1 c1 M[k].x.t.l ∧ IkG wz (fun k => k < B) Ao1 co1 M[k].o) := fun i hi => by
    obtain ⟨gl, of, e, hg, hr⟩ := hrow.2.2.resolve_left (fun e => by rw [e] at hi; exact absurd hi (Nat.not_lt_zero _))
    have hgl : gl < w.heap.size := hG gl hg
    refine ⟨gl, of, e, fun k hk => ?_⟩
    obtain ⟨A1, c1, Ao1, co1, q1, q2, q3⟩ := hr k hk
    exact ⟨A1, c1, Ao1, co1, fun wz hz j v hv => (World.cell?_of_block (a := ⟨gl, of + k * 32 + j, none⟩) (hz.block gl (by omega))).trans (q1 j v hv), fun wz hz => ⟨q2.keep (fun _ _ h => h) (fun b o hb j _ => World.cell?_of_block (a := ⟨b, o + j, none⟩) (hz.block b (by have : b < B := hb; omega))), q3.keep (fun k hk => ⟨hz.block k (by have : k < B := hk; omega), hk⟩)⟩⟩
  have hhas : ∀ wx, Below base w wx → ∀ x : Ik, Calls Tryz.prog 65 #[.slice A1 kg c1, .agg #[.int .i64 x.a, .int .i64 x.n]] wx fun e w' => e = .returned (.bool (decide (x ∈ gl0))) ∧ Below wx.heap.size wx w' := fun wx hx x =>
    has37_c wx (fun k => k < B1) A1 c1 kg gl0 (hgl.below (hx.mono (by omega))) (fun k hk => by have h : k < B1 := hk; have := hx.size; omega) hkg x
  obtain ⟨ti, zv, hti, hz0', hzn, hz1, hz2⟩ := infoWr_parts 46 (.inr rfl)
  have HTI := Lib.hid (And.intro hti (And.intro hz0' (And.intro hz1 (And.intro hz2 hzn))))
  clear hti hz0' hzn hz1 hz2
  have hcc : 0 < n → n ≤ c0 ∧ c0 ≤ 9223372036854775807 := fun _ => ⟨by rw [hn]; exact hrow.1, hrow.2.1⟩
  have hfin : ∀ (pre : List Wn) (A' : Option Addr) (k cap : Nat) (W : World), OthR 46 base w (fun k => k < B) pre A' k cap W → pre.map Wn.m = (M.take n).filter (fun m => stB M gl0 m.id n) → RstP w B (standW M fun x => decide (x ∈ gl0)) (.returned (.slice A' k cap)) W := fun pre A' k cap W hp he => by
    have he2 : pre.map Wn.m = standW M (fun x => decide (x ∈ gl0)) := by
      rw [he, List.take_of_length_le (by omega)]
      unfold standW
      congr 1
      funext m
      exact stB_all hn m
    unfold RstP
    rw [← he2]
    exact ⟨A', cap, by rw [List.length_map, hp.len], by rw [← hbase]; exact hp.below, hp.row.keep (fun g hg => ⟨rfl, by rw [← hbase]; exact hg.1, hg.2.1⟩) (fun k hk => ⟨rfl, hk⟩)⟩
  have HR2 := Lib.hid hr2
  have HHAS := Lib.hid hhas
  have HFIN := Lib.hid hfin
  have HPU0 := Lib.hid hpu0
  have HN := Lib.hid hn
  have HBB := Lib.hid (And.intro (show base ≤ w.heap.size from by omega) (show B ≤ base from by omega))
  have HW3 := Lib.hid hW3
  have HBA := Lib.hid hbase
  have HIL := Lib.hid (show ∀ a b : Value, (Tryz.prog.info? 28).map (·.size) = some [a, b].length from fun _ _ => ikInfo)
  clear hr2 hhas hfin hpu0 hW3 hbase hrow hG hB hgl hB1 hkg hn
  go_enter Tryz.func43, Tryz.ntmps43
  go_upto_region 2 with (fail)
  rw [← HW3.out, ← HBA.out]
  go_wp2
  go_loopw [5, 6] (fun s iv wr => StdI base w B M gl0 n s iv wr) (fun _ iv _ => n - (intOf iv).toNat)
  case atStart => exact ⟨0, Nat.zero_le _, rfl, _, 0, 0, [], rfl, Lib.hid ⟨HPU0.out, by simp, Nat.le_refl _⟩⟩
  case round =>
   obtain ⟨i, hin, rfl, A', k, cap, pre, rfl, hR⟩ := hrel
   by_cases hi : i < n
   · have hiI : (i : Int) < (n : Int) := by omega
     have hi0 : (0 : Int) ≤ i := by omega
     obtain ⟨hc1, hc2⟩ := hcc (by omega)
     have hil : i < M.length := by rw [← HN.out]; exact hi
     obtain ⟨gl, of, hA, hrk⟩ := HR2.out i hil
     subst hA
     obtain ⟨A2, c2, Ao2, co2, hr1, hr3⟩ := hrk i hil
     have HRK := Lib.hid hrk
     obtain ⟨mi, hmi⟩ : ∃ x, x = M[i] := ⟨_, rfl⟩
     rw [← hmi] at hr1 hr3
     obtain ⟨NX, hNX⟩ : ∃ N, N = wrA mi A2 c2 Ao2 co2 := ⟨_, rfl⟩
     obtain ⟨z, hz⟩ : ∃ z, z = mi.id := ⟨_, rfl⟩
     have hk1000 : k ≤ 1000 := by have := hR.out.2.2; omega
     have HRZ0 := Lib.hid (fun (wz : World) (h : Below base w wz) => show wz.rangeAt gl (of + i * 32) [.int .i64 z.a, .int .i64 z.n] from by rw [hz]; exact (wr_row3 (hr1 wz h)).1)
     have HRX := Lib.hid (fun (wz : World) (h : Below base w wz) => show wz.rangeAt gl (of + i * 32) NX.toList from by rw [hNX]; exact hr1 wz h)
     have HSI := Lib.hid hr3
     have HMI := Lib.hid (And.intro hmi (And.intro hz hil))
     have hNXs : (Tryz.prog.info? 46).map (·.size) = some NX.toList.length := by rw [hNX]; exact (rw_info _ _ _ _ _).2
     have HNX := Lib.hid (And.intro hNX (And.intro trivial (And.intro hNXs trivial)))
     have HNX2 := Lib.hid (And.intro (show ∀ u ∈ NX.toList, u.oneCell' = true from by rw [hNX]; exact Wn.cells_one ⟨mi, A2, c2, Ao2, co2⟩) (show NX.size = 32 from by rw [hNX]; exact wrA_size _ _ _ _ _))
     clear hrk hr1 hr3 hmi hNX hNXs hz
     obtain ⟨za, zn⟩ := z
     dsimp only at HRZ0
     have hzr := HRZ0.out wr hR.out.1.below
     obtain ⟨hz1, hhz1⟩ : ∃ b, b = decide ((⟨za, zn⟩ : Ik) ∈ gl0) := ⟨_, rfl⟩
     have HHZ := Lib.hid (show Calls Tryz.prog 65 #[.slice A1 kg c1, .agg #[.int .i64 za, .int .i64 zn]] wr fun e w' => e = .returned (.bool hz1) ∧ Below wr.heap.size wr w' from by rw [hhz1]; exact HHAS.out wr hR.out.1.below ⟨za, zn⟩)
     have HZ1 := Lib.hid hhz1
     clear hhz1
     go_wp2_with (first | (refine wpList_mid rfl 28 _ rfl gl (of + i * 32) rfl [.int .i64 za, .int .i64 zn] _ hzr ikUnd rfl (HIL.out _ _) ?_) | (go_at_call 65; refine HHZ.out.mono ?_; rintro e w5 ⟨rfl, hb5⟩; have HB5 := Lib.hid hb5; clear hb5) | fail)
     clear hzr
     have hst : ∃ j : Nat, j ≤ n ∧ Value.int .i64 0 = .int .i64 j ∧ ∃ ob, Value.bool (!hz1) = .bool ob ∧ Hid (Below wr.heap.size wr w5 ∧ ob = stB M gl0 ⟨za, zn⟩ j) := ⟨0, Nat.zero_le _, rfl, _, rfl, Lib.hid ⟨HB5.out, by rw [HZ1.out]; simp [stB]⟩⟩
     have HST := Lib.hid hst
     clear hst
     have hRo := hR
     obtain ⟨wi, hwi⟩ : ∃ x, x = wr := ⟨_, rfl⟩
     rw [← hwi] at hRo HST HB5
     clear hR HHZ hwi
     have hR := hRo
     clear hRo
     go_loopw [7, 8] (fun ov jv wx => ∃ j : Nat, j ≤ n ∧ jv = .int .i64 j ∧ ∃ ob, ov = .bool ob ∧ Hid (Below wi.heap.size wi wx ∧ ob = stB M gl0 ⟨za, zn⟩ j)) (fun _ jv _ => n - (intOf jv).toNat)
     case atStart => exact HST.out
     case round =>
      obtain ⟨j, hjn, rfl, ob, rfl, hR2⟩ := hrel
      have hbr : Below base w wr := hR.out.1.below.trans (hR2.out.1.mono (by have := hR.out.1.below.size; have := HBB.out.1; omega))
      have HBR := Lib.hid hbr
      clear hbr
      by_cases hj : j < n
      · have hjI : (j : Int) < (n : Int) := by omega
        have hj0 : (0 : Int) ≤ j := by omega
        have hjl : j < M.length := by rw [← HN.out]; exact hj
        obtain ⟨A3, c3, Aj, cj, hs1, hs3⟩ := HRK.out j hjl
        obtain ⟨mj, hmj⟩ : ∃ x, x = M[j] := ⟨_, rfl⟩
        rw [← hmj] at hs1 hs3
        obtain ⟨v, hv⟩ : ∃ z, z = mj.id := ⟨_, rfl⟩
        obtain ⟨kj, hkj⟩ : ∃ k, k = mj.o.length := ⟨_, rfl⟩
        have hbase : base ≤ wr.heap.size := by have := HBR.out.size; have := HBB.out.1; omega
        have hxx : ∀ wz, Below wr.heap.size wr wz → Below base w wz := fun wz h => HBR.out.trans (h.mono hbase)
        have HRJ := Lib.hid (fun (wz : World) (h : Below wr.heap.size wr wz) => show wz.rangeAt gl (of + j * 32) [.int .i64 v.a, .int .i64 v.n] ∧ wz.cell? ⟨gl, of + j * 32 + 31, none⟩ = some (.slice Aj kj cj) from by
          have h1 := wr_row3 (hs1 wz (hxx wz h))
          rw [hv, hkj]
          exact ⟨h1.1, h1.2.1⟩)
        have HRZ := Lib.hid (fun (wz : World) (h : Below wr.heap.size wr wz) => HRZ0.out wz (hxx wz h))
        obtain ⟨h1, hh1⟩ : ∃ b, b = decide (v ∈ gl0) := ⟨_, rfl⟩
        obtain ⟨h2, hh2⟩ : ∃ b, b = decide ((⟨za, zn⟩ : Ik) ∈ mj.o) := ⟨_, rfl⟩
        have hc1 : ∀ wx, Below wr.heap.size wr wx → Calls Tryz.prog 65 #[.slice A1 kg c1, .agg #[.int .i64 v.a, .int .i64 v.n]] wx fun e w' => e = .returned (.bool h1) ∧ Below wx.heap.size wx w' := fun wx hx => by rw [hh1]; exact HHAS.out wx (hxx wx hx) v
        have hc2 : ∀ wx, Below wr.heap.size wr wx → Calls Tryz.prog 65 #[.slice Aj kj cj, .agg #[.int .i64 za, .int .i64 zn]] wx fun e w' => e = .returned (.bool h2) ∧ Below wx.heap.size wx w' := fun wx hx => by
          rw [hh2]
          exact has37_c wx (fun k => k < B) Aj cj kj mj.o (hs3 wx (hxx wx hx)).2 (fun k hk => by have h : k < B := hk; have := hx.size; have := HBB.out.2; omega) hkj ⟨za, zn⟩
        have HH1 := Lib.hid hc1
        have HH2 := Lib.hid hc2
        have HMJ := Lib.hid (And.intro hmj hjl)
        have HQ1 := Lib.hid (show decide (mj.id ∈ gl0) = h1 from by rw [← hv]; exact hh1.symm)
        have HQ2 := Lib.hid hh2.symm
        clear hs1 hs3 hmj hkj hxx hc1 hc2 hh1 hh2 hv hbase
        obtain ⟨va, vn⟩ := v
        dsimp only at HRJ HH1
        go_upto_region 9 with (fail)
        cases h1 with
        | true =>
          refine wp_region_held_drew (S := fun wz => Below wr.heap.size wr wz) (by kernel_rfl) (Below.refl _ _).drew (fun hHeld => ?_)
          obtain ⟨wa, hwa⟩ : ∃ x, x = wr.drew := ⟨_, rfl⟩
          rw [← hwa] at hHeld ⊢
          clear hwa
          refine wpAnyH_take (i := 0) (v := .slice A1 kg c1) rfl (by kernel_rfl) (by kernel_rfl) (by kernel_rfl) (fun _ _ _ h => h) (Or.inl ⟨by kernel_rfl, fun _ hS => by kernel_rfl⟩) hHeld ?_
          (try simp only [Act.put, List.getElem_toArray, List.getElem_cons_succ, List.getElem_cons_zero, List.setIfInBounds_toArray, List.set_cons_zero, List.set_cons_succ])
          refine wpAnyH_take (i := 1) (v := .slice (some ⟨gl, of, none⟩) n c0) rfl (by kernel_rfl) (by kernel_rfl) (by kernel_rfl) (fun _ _ _ h => h) (Or.inl ⟨by kernel_rfl, fun _ hS => by kernel_rfl⟩) hHeld ?_
          (try simp only [Act.put, List.getElem_toArray, List.getElem_cons_succ, List.getElem_cons_zero, List.setIfInBounds_toArray, List.set_cons_zero, List.set_cons_succ])
          refine wpAnyH_take (i := 2) (v := .int .i64 (j : Nat)) rfl (by kernel_rfl) (by kernel_rfl) (by kernel_rfl) (fun _ _ _ h => h) (Or.inl ⟨by kernel_rfl, fun _ hS => by kernel_rfl⟩) hHeld ?_
          (try simp only [Act.put, List.getElem_toArray, List.getElem_cons_succ, List.getElem_cons_zero, List.setIfInBounds_toArray, List.set_cons_zero, List.set_cons_succ])
          refine wpAnyH_take (i := 3) (v := .pointer (some ⟨gl, of + j * 32, none⟩)) rfl (by kernel_rfl) (by kernel_rfl) (by kernel_rfl) (fun _ _ _ h => h) (Or.inl ⟨by kernel_rfl, fun _ hS => ix_at37 _ _ rfl gl of n c0 j rfl rfl hj⟩) hHeld ?_
          (try simp only [Act.put, List.getElem_toArray, List.getElem_cons_succ, List.getElem_cons_zero, List.setIfInBounds_toArray, List.set_cons_zero, List.set_cons_succ])
          refine wpAnyH_take (i := 4) (v := .pointer (some ⟨gl, of + j * 32, none⟩)) rfl (by kernel_rfl) (by kernel_rfl) (by kernel_rfl) (fun _ _ _ h => h) (Or.inl ⟨by kernel_rfl, fun _ hS => by kernel_rfl⟩) hHeld ?_
          (try simp only [Act.put, List.getElem_toArray, List.getElem_cons_succ, List.getElem_cons_zero, List.setIfInBounds_toArray, List.set_cons_zero, List.set_cons_succ])
          refine wpAnyH_take (i := 5) (v := .agg #[.int .i64 va, .int .i64 vn]) rfl (by kernel_rfl) (by kernel_rfl) (by kernel_rfl) (fun _ _ _ h => h) (yieldsIf_load_mid (by kernel_rfl) 28 _ rfl gl (of + j * 32) rfl [.int .i64 va, .int .i64 vn] _ (fun _ hS => (HRJ.out _ hS).1) ikUnd rfl (HIL.out _ _)) hHeld ?_
          (try simp only [Act.put, List.getElem_toArray, List.getElem_cons_succ, List.getElem_cons_zero, List.setIfInBounds_toArray, List.set_cons_zero, List.set_cons_succ])
          refine wpAnyH_ready (rs := [6]) (by kernel_rfl) (by simp) ?_
          refine AllReadyH.cons rfl (fun K hK => ?_) AllReadyH.nil
          go_simp
          refine (HH1.out wa hHeld).mono ?_
          rintro e wb ⟨rfl, hbl⟩
          try go_simp
          have hbl2 := hHeld.trans (hbl.mono hHeld.size)
          refine hK.out _ _ hbl2 (fun hHeld1 => ?_)
          clear hK K hHeld hbl2
          have hHeld := hHeld1
          clear hHeld1
          (try simp only [Act.put, List.getElem_toArray, List.getElem_cons_succ, List.getElem_cons_zero, List.setIfInBounds_toArray, List.set_cons_zero, List.set_cons_succ])
          clear hbl
          refine wpAnyH_take (i := 7) (v := .bool false) rfl (by kernel_rfl) (by kernel_rfl) (by kernel_rfl) (fun _ _ _ h => h) (Or.inl ⟨by kernel_rfl, fun _ hS => by kernel_rfl⟩) hHeld ?_
          (try simp only [Act.put, List.getElem_toArray, List.getElem_cons_succ, List.getElem_cons_zero, List.setIfInBounds_toArray, List.set_cons_zero, List.set_cons_succ])
          refine wpAnyH_take (i := 8) (v := .bool false) rfl (by kernel_rfl) (by kernel_rfl) (by kernel_rfl) (fun _ _ _ h => h) (Or.inl ⟨by kernel_rfl, fun _ hS => by kernel_rfl⟩) hHeld ?_
          (try simp only [Act.put, List.getElem_toArray, List.getElem_cons_succ, List.getElem_cons_zero, List.setIfInBounds_toArray, List.set_cons_zero, List.set_cons_succ])
          refine wpAnyH_take (i := 9) (v := undef) rfl (by kernel_rfl) (by kernel_rfl) (by kernel_rfl) (fun _ _ _ h => h) (Or.inr ⟨by kernel_rfl, rfl⟩) hHeld ?_
          (try simp only [Act.put, List.getElem_toArray, List.getElem_cons_succ, List.getElem_cons_zero, List.setIfInBounds_toArray, List.set_cons_zero, List.set_cons_succ])
          refine wpAnyH_take (i := 10) (v := undef) rfl (by kernel_rfl) (by kernel_rfl) (by kernel_rfl) (fun _ _ _ h => h) (Or.inr ⟨by kernel_rfl, rfl⟩) hHeld ?_
          (try simp only [Act.put, List.getElem_toArray, List.getElem_cons_succ, List.getElem_cons_zero, List.setIfInBounds_toArray, List.set_cons_zero, List.set_cons_succ])
          refine wpAnyH_take (i := 11) (v := undef) rfl (by kernel_rfl) (by kernel_rfl) (by kernel_rfl) (fun _ _ _ h => h) (Or.inr ⟨by kernel_rfl, rfl⟩) hHeld ?_
          (try simp only [Act.put, List.getElem_toArray, List.getElem_cons_succ, List.getElem_cons_zero, List.setIfInBounds_toArray, List.set_cons_zero, List.set_cons_succ])
          refine wpAnyH_take (i := 12) (v := undef) rfl (by kernel_rfl) (by kernel_rfl) (by kernel_rfl) (fun _ _ _ h => h) (Or.inr ⟨by kernel_rfl, rfl⟩) hHeld ?_
          (try simp only [Act.put, List.getElem_toArray, List.getElem_cons_succ, List.getElem_cons_zero, List.setIfInBounds_toArray, List.set_cons_zero, List.set_cons_succ])
          refine wpAnyH_take (i := 13) (v := undef) rfl (by kernel_rfl) (by kernel_rfl) (by kernel_rfl) (fun _ _ _ h => h) (Or.inr ⟨by kernel_rfl, rfl⟩) hHeld ?_
          (try simp only [Act.put, List.getElem_toArray, List.getElem_cons_succ, List.getElem_cons_zero, List.setIfInBounds_toArray, List.set_cons_zero, List.set_cons_succ])
          refine wpAnyH_take (i := 14) (v := undef) rfl (by kernel_rfl) (by kernel_rfl) (by kernel_rfl) (fun _ _ _ h => h) (Or.inr ⟨by kernel_rfl, rfl⟩) hHeld ?_
          (try simp only [Act.put, List.getElem_toArray, List.getElem_cons_succ, List.getElem_cons_zero, List.setIfInBounds_toArray, List.set_cons_zero, List.set_cons_succ])
          refine wpAnyH_take (i := 15) (v := undef) rfl (by kernel_rfl) (by kernel_rfl) (by kernel_rfl) (fun _ _ _ h => h) (Or.inr ⟨by kernel_rfl, rfl⟩) hHeld ?_
          (try simp only [Act.put, List.getElem_toArray, List.getElem_cons_succ, List.getElem_cons_zero, List.setIfInBounds_toArray, List.set_cons_zero, List.set_cons_succ])
          refine wpAnyH_take (i := 16) (v := undef) rfl (by kernel_rfl) (by kernel_rfl) (by kernel_rfl) (fun _ _ _ h => h) (Or.inr ⟨by kernel_rfl, rfl⟩) hHeld ?_
          (try simp only [Act.put, List.getElem_toArray, List.getElem_cons_succ, List.getElem_cons_zero, List.setIfInBounds_toArray, List.set_cons_zero, List.set_cons_succ])
          refine wpAnyH_take (i := 17) (v := undef) rfl (by kernel_rfl) (by kernel_rfl) (by kernel_rfl) (fun _ _ _ h => h) (Or.inr ⟨by kernel_rfl, rfl⟩) hHeld ?_
          (try simp only [Act.put, List.getElem_toArray, List.getElem_cons_succ, List.getElem_cons_zero, List.setIfInBounds_toArray, List.set_cons_zero, List.set_cons_succ])
          refine wpAnyH_take (i := 18) (v := undef) rfl (by kernel_rfl) (by kernel_rfl) (by kernel_rfl) (fun _ _ _ h => h) (Or.inr ⟨by kernel_rfl, rfl⟩) hHeld ?_
          (try simp only [Act.put, List.getElem_toArray, List.getElem_cons_succ, List.getElem_cons_zero, List.setIfInBounds_toArray, List.set_cons_zero, List.set_cons_succ])
          refine wpAnyH_take (i := 19) (v := undef) rfl (by kernel_rfl) (by kernel_rfl) (by kernel_rfl) (fun _ _ _ h => h) (Or.inr ⟨by kernel_rfl, rfl⟩) hHeld ?_
          (try simp only [Act.put, List.getElem_toArray, List.getElem_cons_succ, List.getElem_cons_zero, List.setIfInBounds_toArray, List.set_cons_zero, List.set_cons_succ])
          refine wpAnyH_take (i := 20) (v := .bool false) rfl (by kernel_rfl) (by kernel_rfl) (by kernel_rfl) (fun _ _ _ h => h) (Or.inl ⟨by kernel_rfl, fun _ hS => by kernel_rfl⟩) hHeld ?_
          (try simp only [Act.put, List.getElem_toArray, List.getElem_cons_succ, List.getElem_cons_zero, List.setIfInBounds_toArray, List.set_cons_zero, List.set_cons_succ])
          have HE := Lib.hid hHeld
          refine wpAnyH_done (by kernel_rfl) ?_ _
          clear hHeld
          go_wp2
          go_roundw
          case measure => simp [intOf]; omega
          case rel => exact ⟨j + 1, by omega, by go_num, ob, rfl, Lib.hid ⟨hR2.out.1.trans (HE.out.mono hR2.out.1.size), by rw [take_any HMJ.out.2 HMJ.out.1, HQ1.out, hR2.out.2]; simp⟩⟩
        | false =>
          cases h2 with
          | true =>
            refine wp_region_held_drew (S := fun wz => Below wr.heap.size wr wz) (by kernel_rfl) (Below.refl _ _).drew (fun hHeld => ?_)
            obtain ⟨wa, hwa⟩ : ∃ x, x = wr.drew := ⟨_, rfl⟩
            rw [← hwa] at hHeld ⊢
            clear hwa
            refine wpAnyH_take (i := 0) (v := .slice A1 kg c1) rfl (by kernel_rfl) (by kernel_rfl) (by kernel_rfl) (fun _ _ _ h => h) (Or.inl ⟨by kernel_rfl, fun _ hS => by kernel_rfl⟩) hHeld ?_
            (try simp only [Act.put, List.getElem_toArray, List.getElem_cons_succ, List.getElem_cons_zero, List.setIfInBounds_toArray, List.set_cons_zero, List.set_cons_succ])
            refine wpAnyH_take (i := 1) (v := .slice (some ⟨gl, of, none⟩) n c0) rfl (by kernel_rfl) (by kernel_rfl) (by kernel_rfl) (fun _ _ _ h => h) (Or.inl ⟨by kernel_rfl, fun _ hS => by kernel_rfl⟩) hHeld ?_
            (try simp only [Act.put, List.getElem_toArray, List.getElem_cons_succ, List.getElem_cons_zero, List.setIfInBounds_toArray, List.set_cons_zero, List.set_cons_succ])
            refine wpAnyH_take (i := 2) (v := .int .i64 (j : Nat)) rfl (by kernel_rfl) (by kernel_rfl) (by kernel_rfl) (fun _ _ _ h => h) (Or.inl ⟨by kernel_rfl, fun _ hS => by kernel_rfl⟩) hHeld ?_
            (try simp only [Act.put, List.getElem_toArray, List.getElem_cons_succ, List.getElem_cons_zero, List.setIfInBounds_toArray, List.set_cons_zero, List.set_cons_succ])
            refine wpAnyH_take (i := 3) (v := .pointer (some ⟨gl, of + j * 32, none⟩)) rfl (by kernel_rfl) (by kernel_rfl) (by kernel_rfl) (fun _ _ _ h => h) (Or.inl ⟨by kernel_rfl, fun _ hS => ix_at37 _ _ rfl gl of n c0 j rfl rfl hj⟩) hHeld ?_
            (try simp only [Act.put, List.getElem_toArray, List.getElem_cons_succ, List.getElem_cons_zero, List.setIfInBounds_toArray, List.set_cons_zero, List.set_cons_succ])
            refine wpAnyH_take (i := 4) (v := .pointer (some ⟨gl, of + j * 32, none⟩)) rfl (by kernel_rfl) (by kernel_rfl) (by kernel_rfl) (fun _ _ _ h => h) (Or.inl ⟨by kernel_rfl, fun _ hS => by kernel_rfl⟩) hHeld ?_
            (try simp only [Act.put, List.getElem_toArray, List.getElem_cons_succ, List.getElem_cons_zero, List.setIfInBounds_toArray, List.set_cons_zero, List.set_cons_succ])
            refine wpAnyH_take (i := 5) (v := .agg #[.int .i64 va, .int .i64 vn]) rfl (by kernel_rfl) (by kernel_rfl) (by kernel_rfl) (fun _ _ _ h => h) (yieldsIf_load_mid (by kernel_rfl) 28 _ rfl gl (of + j * 32) rfl [.int .i64 va, .int .i64 vn] _ (fun _ hS => (HRJ.out _ hS).1) ikUnd rfl (HIL.out _ _)) hHeld ?_
            (try simp only [Act.put, List.getElem_toArray, List.getElem_cons_succ, List.getElem_cons_zero, List.setIfInBounds_toArray, List.set_cons_zero, List.set_cons_succ])
            refine wpAnyH_ready (rs := [6]) (by kernel_rfl) (by simp) ?_
            refine AllReadyH.cons rfl (fun K hK => ?_) AllReadyH.nil
            go_simp
            refine (HH1.out wa hHeld).mono ?_
            rintro e wb ⟨rfl, hbl⟩
            try go_simp
            have hbl2 := hHeld.trans (hbl.mono hHeld.size)
            refine hK.out _ _ hbl2 (fun hHeld1 => ?_)
            clear hK K hHeld hbl2
            have hHeld := hHeld1
            clear hHeld1
            (try simp only [Act.put, List.getElem_toArray, List.getElem_cons_succ, List.getElem_cons_zero, List.setIfInBounds_toArray, List.set_cons_zero, List.set_cons_succ])
            clear hbl
            refine wpAnyH_take (i := 7) (v := .bool true) rfl (by kernel_rfl) (by kernel_rfl) (by kernel_rfl) (fun _ _ _ h => h) (Or.inl ⟨by kernel_rfl, fun _ hS => by kernel_rfl⟩) hHeld ?_
            (try simp only [Act.put, List.getElem_toArray, List.getElem_cons_succ, List.getElem_cons_zero, List.setIfInBounds_toArray, List.set_cons_zero, List.set_cons_succ])
            refine wpAnyH_take (i := 8) (v := .bool true) rfl (by kernel_rfl) (by kernel_rfl) (by kernel_rfl) (fun _ _ _ h => h) (Or.inl ⟨by kernel_rfl, fun _ hS => by kernel_rfl⟩) hHeld ?_
            (try simp only [Act.put, List.getElem_toArray, List.getElem_cons_succ, List.getElem_cons_zero, List.setIfInBounds_toArray, List.set_cons_zero, List.set_cons_succ])
            obtain ⟨wa, hwa⟩ : ∃ x, x = wb := ⟨_, rfl⟩
            rw [← hwa] at hHeld ⊢
            clear hwa
            refine wpAnyH_take (i := 9) (v := .slice (some ⟨gl, of, none⟩) n c0) rfl (by kernel_rfl) (by kernel_rfl) (by kernel_rfl) (fun _ _ _ h => h) (Or.inl ⟨by kernel_rfl, fun _ hS => by kernel_rfl⟩) hHeld ?_
            (try simp only [Act.put, List.getElem_toArray, List.getElem_cons_succ, List.getElem_cons_zero, List.setIfInBounds_toArray, List.set_cons_zero, List.set_cons_succ])
            refine wpAnyH_take (i := 10) (v := .int .i64 (j : Nat)) rfl (by kernel_rfl) (by kernel_rfl) (by kernel_rfl) (fun _ _ _ h => h) (Or.inl ⟨by kernel_rfl, fun _ hS => by kernel_rfl⟩) hHeld ?_
            (try simp only [Act.put, List.getElem_toArray, List.getElem_cons_succ, List.getElem_cons_zero, List.setIfInBounds_toArray, List.set_cons_zero, List.set_cons_succ])
            refine wpAnyH_take (i := 11) (v := .pointer (some ⟨gl, of + j * 32, none⟩)) rfl (by kernel_rfl) (by kernel_rfl) (by kernel_rfl) (fun _ _ _ h => h) (Or.inl ⟨by kernel_rfl, fun _ hS => ix_at37 _ _ rfl gl of n c0 j rfl rfl hj⟩) hHeld ?_
            (try simp only [Act.put, List.getElem_toArray, List.getElem_cons_succ, List.getElem_cons_zero, List.setIfInBounds_toArray, List.set_cons_zero, List.set_cons_succ])
            refine wpAnyH_take (i := 12) (v := .pointer (some ⟨gl, of + j * 32 + 31, none⟩)) rfl (by kernel_rfl) (by kernel_rfl) (by kernel_rfl) (fun _ _ _ h => h) (Or.inl ⟨by kernel_rfl, fun _ hS => by kernel_rfl⟩) hHeld ?_
            (try simp only [Act.put, List.getElem_toArray, List.getElem_cons_succ, List.getElem_cons_zero, List.setIfInBounds_toArray, List.set_cons_zero, List.set_cons_succ])
            refine wpAnyH_take (i := 13) (v := .slice Aj kj cj) rfl (by kernel_rfl) (by kernel_rfl) (by kernel_rfl) (fun _ _ _ h => h) (Or.inl ⟨by kernel_rfl, fun _ hS => ldIds_run _ rfl ⟨gl, of + j * 32 + 31, none⟩ rfl _ (HRJ.out _ hS).2⟩) hHeld ?_
            (try simp only [Act.put, List.getElem_toArray, List.getElem_cons_succ, List.getElem_cons_zero, List.setIfInBounds_toArray, List.set_cons_zero, List.set_cons_succ])
            refine wpAnyH_take (i := 14) (v := .slice (some ⟨gl, of, none⟩) n c0) rfl (by kernel_rfl) (by kernel_rfl) (by kernel_rfl) (fun _ _ _ h => h) (Or.inl ⟨by kernel_rfl, fun _ hS => by kernel_rfl⟩) hHeld ?_
            (try simp only [Act.put, List.getElem_toArray, List.getElem_cons_succ, List.getElem_cons_zero, List.setIfInBounds_toArray, List.set_cons_zero, List.set_cons_succ])
            refine wpAnyH_take (i := 15) (v := .int .i64 (i : Nat)) rfl (by kernel_rfl) (by kernel_rfl) (by kernel_rfl) (fun _ _ _ h => h) (Or.inl ⟨by kernel_rfl, fun _ hS => by kernel_rfl⟩) hHeld ?_
            (try simp only [Act.put, List.getElem_toArray, List.getElem_cons_succ, List.getElem_cons_zero, List.setIfInBounds_toArray, List.set_cons_zero, List.set_cons_succ])
            refine wpAnyH_take (i := 16) (v := .pointer (some ⟨gl, of + i * 32, none⟩)) rfl (by kernel_rfl) (by kernel_rfl) (by kernel_rfl) (fun _ _ _ h => h) (Or.inl ⟨by kernel_rfl, fun _ hS => ix_at37 _ _ rfl gl of n c0 i rfl rfl hi⟩) hHeld ?_
            (try simp only [Act.put, List.getElem_toArray, List.getElem_cons_succ, List.getElem_cons_zero, List.setIfInBounds_toArray, List.set_cons_zero, List.set_cons_succ])
            refine wpAnyH_take (i := 17) (v := .pointer (some ⟨gl, of + i * 32, none⟩)) rfl (by kernel_rfl) (by kernel_rfl) (by kernel_rfl) (fun _ _ _ h => h) (Or.inl ⟨by kernel_rfl, fun _ hS => by kernel_rfl⟩) hHeld ?_
            (try simp only [Act.put, List.getElem_toArray, List.getElem_cons_succ, List.getElem_cons_zero, List.setIfInBounds_toArray, List.set_cons_zero, List.set_cons_succ])
            refine wpAnyH_take (i := 18) (v := .agg #[.int .i64 za, .int .i64 zn]) rfl (by kernel_rfl) (by kernel_rfl) (by kernel_rfl) (fun _ _ _ h => h) (yieldsIf_load_mid (by kernel_rfl) 28 _ rfl gl (of + i * 32) rfl [.int .i64 za, .int .i64 zn] _ (fun _ hS => HRZ.out _ hS) ikUnd rfl (HIL.out _ _)) hHeld ?_
            (try simp only [Act.put, List.getElem_toArray, List.getElem_cons_succ, List.getElem_cons_zero, List.setIfInBounds_toArray, List.set_cons_zero, List.set_cons_succ])
            refine wpAnyH_ready (rs := [19]) (by kernel_rfl) (by simp) ?_
            refine AllReadyH.cons rfl (fun K hK => ?_) AllReadyH.nil
            go_simp
            refine (HH2.out wa hHeld).mono ?_
            rintro e wc ⟨rfl, hbl⟩
            try go_simp
            have hbl2 := hHeld.trans (hbl.mono hHeld.size)
            refine hK.out _ _ hbl2 (fun hHeld1 => ?_)
            clear hK K hHeld hbl2
            have hHeld := hHeld1
            clear hHeld1
            (try simp only [Act.put, List.getElem_toArray, List.getElem_cons_succ, List.getElem_cons_zero, List.setIfInBounds_toArray, List.set_cons_zero, List.set_cons_succ])
            clear hbl
            refine wpAnyH_take (i := 20) (v := .bool true) rfl (by kernel_rfl) (by kernel_rfl) (by kernel_rfl) (fun _ _ _ h => h) (Or.inl ⟨by kernel_rfl, fun _ hS => by kernel_rfl⟩) hHeld ?_
            (try simp only [Act.put, List.getElem_toArray, List.getElem_cons_succ, List.getElem_cons_zero, List.setIfInBounds_toArray, List.set_cons_zero, List.set_cons_succ])
            have HE := Lib.hid hHeld
            refine wpAnyH_done (by kernel_rfl) ?_ _
            clear hHeld
            go_wp2
            go_roundw
            case measure => simp [intOf]; omega
            case rel => exact ⟨j + 1, by omega, by go_num, false, rfl, Lib.hid ⟨hR2.out.1.trans (HE.out.mono hR2.out.1.size), by rw [take_any HMJ.out.2 HMJ.out.1, HQ1.out, HQ2.out]; simp⟩⟩
          | false =>
            refine wp_region_held_drew (S := fun wz => Below wr.heap.size wr wz) (by kernel_rfl) (Below.refl _ _).drew (fun hHeld => ?_)
            obtain ⟨wa, hwa⟩ : ∃ x, x = wr.drew := ⟨_, rfl⟩
            rw [← hwa] at hHeld ⊢
            clear hwa
            refine wpAnyH_take (i := 0) (v := .slice A1 kg c1) rfl (by kernel_rfl) (by kernel_rfl) (by kernel_rfl) (fun _ _ _ h => h) (Or.inl ⟨by kernel_rfl, fun _ hS => by kernel_rfl⟩) hHeld ?_
            (try simp only [Act.put, List.getElem_toArray, List.getElem_cons_succ, List.getElem_cons_zero, List.setIfInBounds_toArray, List.set_cons_zero, List.set_cons_succ])
            refine wpAnyH_take (i := 1) (v := .slice (some ⟨gl, of, none⟩) n c0) rfl (by kernel_rfl) (by kernel_rfl) (by kernel_rfl) (fun _ _ _ h => h) (Or.inl ⟨by kernel_rfl, fun _ hS => by kernel_rfl⟩) hHeld ?_
            (try simp only [Act.put, List.getElem_toArray, List.getElem_cons_succ, List.getElem_cons_zero, List.setIfInBounds_toArray, List.set_cons_zero, List.set_cons_succ])
            refine wpAnyH_take (i := 2) (v := .int .i64 (j : Nat)) rfl (by kernel_rfl) (by kernel_rfl) (by kernel_rfl) (fun _ _ _ h => h) (Or.inl ⟨by kernel_rfl, fun _ hS => by kernel_rfl⟩) hHeld ?_
            (try simp only [Act.put, List.getElem_toArray, List.getElem_cons_succ, List.getElem_cons_zero, List.setIfInBounds_toArray, List.set_cons_zero, List.set_cons_succ])
            refine wpAnyH_take (i := 3) (v := .pointer (some ⟨gl, of + j * 32, none⟩)) rfl (by kernel_rfl) (by kernel_rfl) (by kernel_rfl) (fun _ _ _ h => h) (Or.inl ⟨by kernel_rfl, fun _ hS => ix_at37 _ _ rfl gl of n c0 j rfl rfl hj⟩) hHeld ?_
            (try simp only [Act.put, List.getElem_toArray, List.getElem_cons_succ, List.getElem_cons_zero, List.setIfInBounds_toArray, List.set_cons_zero, List.set_cons_succ])
            refine wpAnyH_take (i := 4) (v := .pointer (some ⟨gl, of + j * 32, none⟩)) rfl (by kernel_rfl) (by kernel_rfl) (by kernel_rfl) (fun _ _ _ h => h) (Or.inl ⟨by kernel_rfl, fun _ hS => by kernel_rfl⟩) hHeld ?_
            (try simp only [Act.put, List.getElem_toArray, List.getElem_cons_succ, List.getElem_cons_zero, List.setIfInBounds_toArray, List.set_cons_zero, List.set_cons_succ])
            refine wpAnyH_take (i := 5) (v := .agg #[.int .i64 va, .int .i64 vn]) rfl (by kernel_rfl) (by kernel_rfl) (by kernel_rfl) (fun _ _ _ h => h) (yieldsIf_load_mid (by kernel_rfl) 28 _ rfl gl (of + j * 32) rfl [.int .i64 va, .int .i64 vn] _ (fun _ hS => (HRJ.out _ hS).1) ikUnd rfl (HIL.out _ _)) hHeld ?_
            (try simp only [Act.put, List.getElem_toArray, List.getElem_cons_succ, List.getElem_cons_zero, List.setIfInBounds_toArray, List.set_cons_zero, List.set_cons_succ])
            refine wpAnyH_ready (rs := [6]) (by kernel_rfl) (by simp) ?_
            refine AllReadyH.cons rfl (fun K hK => ?_) AllReadyH.nil
            go_simp
            refine (HH1.out wa hHeld).mono ?_
            rintro e wb ⟨rfl, hbl⟩
            try go_simp
            have hbl2 := hHeld.trans (hbl.mono hHeld.size)
            refine hK.out _ _ hbl2 (fun hHeld1 => ?_)
            clear hK K hHeld hbl2
            have hHeld := hHeld1
            clear hHeld1
            (try simp only [Act.put, List.getElem_toArray, List.getElem_cons_succ, List.getElem_cons_zero, List.setIfInBounds_toArray, List.set_cons_zero, List.set_cons_succ])
            clear hbl
            refine wpAnyH_take (i := 7) (v := .bool true) rfl (by kernel_rfl) (by kernel_rfl) (by kernel_rfl) (fun _ _ _ h => h) (Or.inl ⟨by kernel_rfl, fun _ hS => by kernel_rfl⟩) hHeld ?_
            (try simp only [Act.put, List.getElem_toArray, List.getElem_cons_succ, List.getElem_cons_zero, List.setIfInBounds_toArray, List.set_cons_zero, List.set_cons_succ])
            refine wpAnyH_take (i := 8) (v := .bool true) rfl (by kernel_rfl) (by kernel_rfl) (by kernel_rfl) (fun _ _ _ h => h) (Or.inl ⟨by kernel_rfl, fun _ hS => by kernel_rfl⟩) hHeld ?_
            (try simp only [Act.put, List.getElem_toArray, List.getElem_cons_succ, List.getElem_cons_zero, List.setIfInBounds_toArray, List.set_cons_zero, List.set_cons_succ])
            obtain ⟨wa, hwa⟩ : ∃ x, x = wb := ⟨_, rfl⟩
            rw [← hwa] at hHeld ⊢
            clear hwa
            refine wpAnyH_take (i := 9) (v := .slice (some ⟨gl, of, none⟩) n c0) rfl (by kernel_rfl) (by kernel_rfl) (by kernel_rfl) (fun _ _ _ h => h) (Or.inl ⟨by kernel_rfl, fun _ hS => by kernel_rfl⟩) hHeld ?_
            (try simp only [Act.put, List.getElem_toArray, List.getElem_cons_succ, List.getElem_cons_zero, List.setIfInBounds_toArray, List.set_cons_zero, List.set_cons_succ])
            refine wpAnyH_take (i := 10) (v := .int .i64 (j : Nat)) rfl (by kernel_rfl) (by kernel_rfl) (by kernel_rfl) (fun _ _ _ h => h) (Or.inl ⟨by kernel_rfl, fun _ hS => by kernel_rfl⟩) hHeld ?_
            (try simp only [Act.put, List.getElem_toArray, List.getElem_cons_succ, List.getElem_cons_zero, List.setIfInBounds_toArray, List.set_cons_zero, List.set_cons_succ])
            refine wpAnyH_take (i := 11) (v := .pointer (some ⟨gl, of + j * 32, none⟩)) rfl (by kernel_rfl) (by kernel_rfl) (by kernel_rfl) (fun _ _ _ h => h) (Or.inl ⟨by kernel_rfl, fun _ hS => ix_at37 _ _ rfl gl of n c0 j rfl rfl hj⟩) hHeld ?_
            (try simp only [Act.put, List.getElem_toArray, List.getElem_cons_succ, List.getElem_cons_zero, List.setIfInBounds_toArray, List.set_cons_zero, List.set_cons_succ])
            refine wpAnyH_take (i := 12) (v := .pointer (some ⟨gl, of + j * 32 + 31, none⟩)) rfl (by kernel_rfl) (by kernel_rfl) (by kernel_rfl) (fun _ _ _ h => h) (Or.inl ⟨by kernel_rfl, fun _ hS => by kernel_rfl⟩) hHeld ?_
            (try simp only [Act.put, List.getElem_toArray, List.getElem_cons_succ, List.getElem_cons_zero, List.setIfInBounds_toArray, List.set_cons_zero, List.set_cons_succ])
            refine wpAnyH_take (i := 13) (v := .slice Aj kj cj) rfl (by kernel_rfl) (by kernel_rfl) (by kernel_rfl) (fun _ _ _ h => h) (Or.inl ⟨by kernel_rfl, fun _ hS => ldIds_run _ rfl ⟨gl, of + j * 32 + 31, none⟩ rfl _ (HRJ.out _ hS).2⟩) hHeld ?_
            (try simp only [Act.put, List.getElem_toArray, List.getElem_cons_succ, List.getElem_cons_zero, List.setIfInBounds_toArray, List.set_cons_zero, List.set_cons_succ])
            refine wpAnyH_take (i := 14) (v := .slice (some ⟨gl, of, none⟩) n c0) rfl (by kernel_rfl) (by kernel_rfl) (by kernel_rfl) (fun _ _ _ h => h) (Or.inl ⟨by kernel_rfl, fun _ hS => by kernel_rfl⟩) hHeld ?_
            (try simp only [Act.put, List.getElem_toArray, List.getElem_cons_succ, List.getElem_cons_zero, List.setIfInBounds_toArray, List.set_cons_zero, List.set_cons_succ])
            refine wpAnyH_take (i := 15) (v := .int .i64 (i : Nat)) rfl (by kernel_rfl) (by kernel_rfl) (by kernel_rfl) (fun _ _ _ h => h) (Or.inl ⟨by kernel_rfl, fun _ hS => by kernel_rfl⟩) hHeld ?_
            (try simp only [Act.put, List.getElem_toArray, List.getElem_cons_succ, List.getElem_cons_zero, List.setIfInBounds_toArray, List.set_cons_zero, List.set_cons_succ])
            refine wpAnyH_take (i := 16) (v := .pointer (some ⟨gl, of + i * 32, none⟩)) rfl (by kernel_rfl) (by kernel_rfl) (by kernel_rfl) (fun _ _ _ h => h) (Or.inl ⟨by kernel_rfl, fun _ hS => ix_at37 _ _ rfl gl of n c0 i rfl rfl hi⟩) hHeld ?_
            (try simp only [Act.put, List.getElem_toArray, List.getElem_cons_succ, List.getElem_cons_zero, List.setIfInBounds_toArray, List.set_cons_zero, List.set_cons_succ])
            refine wpAnyH_take (i := 17) (v := .pointer (some ⟨gl, of + i * 32, none⟩)) rfl (by kernel_rfl) (by kernel_rfl) (by kernel_rfl) (fun _ _ _ h => h) (Or.inl ⟨by kernel_rfl, fun _ hS => by kernel_rfl⟩) hHeld ?_
            (try simp only [Act.put, List.getElem_toArray, List.getElem_cons_succ, List.getElem_cons_zero, List.setIfInBounds_toArray, List.set_cons_zero, List.set_cons_succ])
            refine wpAnyH_take (i := 18) (v := .agg #[.int .i64 za, .int .i64 zn]) rfl (by kernel_rfl) (by kernel_rfl) (by kernel_rfl) (fun _ _ _ h => h) (yieldsIf_load_mid (by kernel_rfl) 28 _ rfl gl (of + i * 32) rfl [.int .i64 za, .int .i64 zn] _ (fun _ hS => HRZ.out _ hS) ikUnd rfl (HIL.out _ _)) hHeld ?_
            (try simp only [Act.put, List.getElem_toArray, List.getElem_cons_succ, List.getElem_cons_zero, List.setIfInBounds_toArray, List.set_cons_zero, List.set_cons_succ])
            refine wpAnyH_ready (rs := [19]) (by kernel_rfl) (by simp) ?_
            refine AllReadyH.cons rfl (fun K hK => ?_) AllReadyH.nil
            go_simp
            refine (HH2.out wa hHeld).mono ?_
            rintro e wc ⟨rfl, hbl⟩
            try go_simp
            have hbl2 := hHeld.trans (hbl.mono hHeld.size)
            refine hK.out _ _ hbl2 (fun hHeld1 => ?_)
            clear hK K hHeld hbl2
            have hHeld := hHeld1
            clear hHeld1
            (try simp only [Act.put, List.getElem_toArray, List.getElem_cons_succ, List.getElem_cons_zero, List.setIfInBounds_toArray, List.set_cons_zero, List.set_cons_succ])
            clear hbl
            refine wpAnyH_take (i := 20) (v := .bool false) rfl (by kernel_rfl) (by kernel_rfl) (by kernel_rfl) (fun _ _ _ h => h) (Or.inl ⟨by kernel_rfl, fun _ hS => by kernel_rfl⟩) hHeld ?_
            (try simp only [Act.put, List.getElem_toArray, List.getElem_cons_succ, List.getElem_cons_zero, List.setIfInBounds_toArray, List.set_cons_zero, List.set_cons_succ])
            have HE := Lib.hid hHeld
            refine wpAnyH_done (by kernel_rfl) ?_ _
            clear hHeld
            go_wp2
            go_roundw
            case measure => simp [intOf]; omega
            case rel => exact ⟨j + 1, by omega, by go_num, ob, rfl, Lib.hid ⟨hR2.out.1.trans (HE.out.mono hR2.out.1.size), by rw [take_any HMJ.out.2 HMJ.out.1, HQ1.out, HQ2.out, hR2.out.2]; simp⟩⟩
      · have hje : n = j := by omega
        subst hje
        have hjI : ¬ ((n : Int) < (n : Int)) := by omega
        have hbw : base ≤ wr.heap.size := by have := HBR.out.size; have := HBB.out.1; omega
        have hpb := hR.out.1.kept hR2.out.1 HBB.out.1
        have HPB := Lib.hid hpb
        have HOB := Lib.hid hR2.out.2
        cases ob with
        | false =>
          have hf : (M.take (i + 1)).filter (fun m => stB M gl0 m.id n) = (M.take i).filter (fun m => stB M gl0 m.id n) := by
            rw [List.take_succ_eq_append_getElem HMI.out.2.2, List.filter_append, ← HMI.out.1]
            have h := HOB.out
            rw [HMI.out.2.1] at h
            simp [← h]
          have HF := Lib.hid hf
          clear hf hpb
          go_wp2
          go_roundw
          case measure => simp [intOf]; omega
          case rel => exact ⟨i + 1, by omega, by go_num, A', k, cap, pre, rfl, Lib.hid ⟨HPB.out, by rw [HF.out]; exact hR.out.2.1, by have := hR.out.2.2; omega⟩⟩
        | true =>
          have hf : (M.take (i + 1)).filter (fun m => stB M gl0 m.id n) = (M.take i).filter (fun m => stB M gl0 m.id n) ++ [mi] := by
            rw [List.take_succ_eq_append_getElem HMI.out.2.2, List.filter_append, ← HMI.out.1]
            have h := HOB.out
            rw [HMI.out.2.1] at h
            simp [← h]
          have HF := Lib.hid hf
          obtain ⟨xs, hxs⟩ : ∃ l, l = pre.flatMap Wn.cells := ⟨_, rfl⟩
          have hown := hpb.own
          rw [← hxs] at hown
          have HOW := Lib.hid hown
          have HXS := Lib.hid hxs
          have HRN := Lib.hid (HRX.out wr HBR.out)
          clear hf hpb hxs hown
          go_wp2_with (first | (at_builtin; refine wpList_append_lies _ rfl (.tmp 52) (.tmp 57) 22 rfl base 46 ti _ 32 296 undRws HTI.out.1 HTI.out.2.1 HTI.out.2.2.1 HTI.out.2.2.2.1 HTI.out.2.2.2.2 (by decide) (.slice A' k cap) (k) xs rfl (HOW.out.alloc _) ⟨wr.heap.size, 0, none⟩ 1 1 NX.toList rfl (by simp [HNX2.out.2]) (World.news_of_block (heap_alloc_new wr (.cells NX 46))) HNX2.out.1 (by decide) (by unfold maxLen; omega) (by omega) (by rw [World.size_alloc]; omega) (wr.heap.size + 1) (by rw [World.size_alloc]) ?_; intro g3 cap3 w4 hown4 hgrow hat hlt4; have HO1 := Lib.hid hown4; have HG1 := Lib.hid hgrow; have HA1 := Lib.hid hat; clear hown4 hgrow hat hlt4) | (refine wpList_mid rfl 46 _ rfl gl (of + i * 32) rfl NX.toList _ HRN.out undRw rfl HNX.out.2.2.1 ?_; simp only [Array.toArray_toList]) | (refine wpList_oneRw rfl _ rfl NX rfl HNX2.out.2 ?_) | fail)
          go_roundw
          case measure => simp [intOf]; omega
          case rel =>
            have hst : OthR 46 base w (fun k => k < B) (pre ++ [⟨mi, A2, c2, Ao2, co2⟩]) (some ⟨g3, 0, none⟩) (k + 1) cap3 w4 := by
              have hg := HG1.out
              have ho := HO1.out
              rw [HNX.out.1] at hg ho
              rw [HXS.out] at ho
              exact OthR.step (x := ⟨mi, A2, c2, Ao2, co2⟩) HPB.out HBB.out.1 (fun _ h => h) HPB.out.zone (HSI.out wr HBR.out) hg HA1.out ho
            exact ⟨i + 1, by omega, by go_num, some ⟨g3, 0, none⟩, k + 1, cap3, pre ++ [⟨mi, A2, c2, Ao2, co2⟩], rfl, Lib.hid ⟨hst, by rw [HF.out, List.map_append, hR.out.2.1]; rfl, by have := hR.out.2.2; omega⟩⟩
   · have hie : n = i := by omega
     subst hie
     have hiI : ¬ ((n : Int) < (n : Int)) := by omega
     go_wp2
     first | go_ret | go_ret2 | (refine bodyPost_ret (results_tmp rfl _ _ _) rfl ?_)
     exact HFIN.out pre A' k cap wr hR.out.1 hR.out.2.1
end Go.Proofs.YtbiacjkkgddclaaGreat
