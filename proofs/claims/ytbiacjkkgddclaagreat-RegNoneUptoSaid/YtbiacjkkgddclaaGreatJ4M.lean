/- reg's Shown. -/
import Derived.Test.YtbiacjkkgddclaaGreatI8J1J5
import Derived.Test.YtbiacjkkgddclaaGreatJ3H5
import Derived.Test.YtbiacjkkgddclaaGreatH7I7
import Derived.Deep.AppendLies
namespace Go.Proofs.YtbiacjkkgddclaaGreat
set_option linter.unusedSimpArgs false
set_option linter.unusedVariables false
open Go Go.RowKit Go.Shelf Go.Maps

/-- those that aren't gone. -/
def leftW (M : List Wr) (g : Ik → Bool) : List Wr := M.filter fun m => !g m.id
theorem left_ids (M : List Wr) (g : Ik → Bool) : (idsW M).filter (fun x => !g x) = idsW (leftW M g) := by
  unfold idsW leftW
  rw [List.filter_map]
  rfl
theorem shown_plain (M : List Wr) (g : Ik → Bool) : (idsW (leftW M g)).filter (fun x => !decide (x ∈ (leftW M g).flatMap (·.o))) = idsW (standW M g) := by
  unfold idsW
  rw [List.filter_map]
  congr 1
  unfold leftW standW
  rw [List.filter_filter]
  refine List.filter_congr (fun m hm => ?_)
  have e : decide (m.id ∈ (M.filter fun m => !g m.id).flatMap (·.o)) = M.any fun v => !g v.id && decide (m.id ∈ v.o) := by
    rw [Bool.eq_iff_iff, decide_eq_true_eq, List.any_eq_true]
    simp only [List.mem_flatMap, List.mem_filter, Bool.and_eq_true, decide_eq_true_eq, and_assoc]
  simp only [Function.comp_apply, e]
  exact Bool.and_comm _ _
/-- what tells who is gone: nothing, or a function. -/
def GoneV (w : World) (gv : Value) (g : Ik → Bool) : Prop := (gv = .nilFunc ∧ ∀ x, g x = false) ∨ ∃ k lb, gv = .func (.func k) #[] lb ∧ FunI w (fun _ => False) k lb g
theorem GoneV.later {w w' : World} {gv : Value} {g : Ik → Bool} (h : GoneV w gv g) (hb : Below w.heap.size w w') : GoneV w' gv g := by
  rcases h with h | ⟨k, lb, e, h⟩
  · exact .inl h
  · exact .inr ⟨k, lb, e, h.later (KeepZ.of hb) (fun _ h => h)⟩
theorem eqGnil (w : World) : (binOp .eql 52 .nilFunc .nilFunc).run Tryz.prog w = .ok (.bool true) w := by kernel_rfl
theorem eqGfun (w : World) (fi : Nat) (caps : Array Value) : (binOp .eql 52 (.func (.func fi) #[] caps) .nilFunc).run Tryz.prog w = .ok (.bool false) w := by kernel_rfl
/-- ids that are being gathered. -/
structure LeR (base : Nat) (w1 : World) (ys : List Ik) (A : Option Addr) (k cap : Nat) (W : World) : Prop where
  below : Below base w1 W
  own : W.ownsRow base 28 2 (.slice A k cap) k (ikCells ys)
  len : k = ys.length
theorem LeR.kept {base k cap : Nat} {w1 W W' : World} {ys : List Ik} {A : Option Addr} (h : LeR base w1 ys A k cap W) (hb : Below W.heap.size W W') (hw : base ≤ w1.heap.size) : LeR base w1 ys A k cap W' :=
  ⟨h.below.trans (hb.mono (by have := h.below.size; omega)), own_sameC h.own (fun g cs hc _ _ => hb.block g (Array.getElem?_eq_some_iff.1 hc).1), h.len⟩
theorem LeR.step {base k cap g3 cap3 : Nat} {w1 W W4 : World} {ys : List Ik} {A : Option Addr} {x : Ik} {o : Obj} (h : LeR base w1 ys A k cap W) (hw : base ≤ w1.heap.size) (hg : (W.alloc o).grownBy W4 (Value.slice A k cap).ownBlock)
    (ho : W4.ownsRow base 28 2 (.slice (some ⟨g3, 0, none⟩) (k + 1) cap3) (k + 1) (ikCells ys ++ x.cs)) : LeR base w1 (ys ++ [x]) (some ⟨g3, 0, none⟩) (k + 1) cap3 W4 := by
  have hs := h.below.size
  have hob := own_blkC h.own
  have hbl : Below base W W4 := ⟨hg.os, hg.tape, hg.output, by have := hg.size; rw [World.size_alloc] at this; omega, fun j hj => (hg.block j (by rw [World.size_alloc]; omega) (fun e => by have := (hob j e.symm).1; omega)).trans (heapOld _ _ _ (by omega))⟩
  exact ⟨h.below.trans hbl, by rw [ikCells_snoc]; exact ho, by rw [List.length_append, List.length_singleton, h.len]⟩
/-- the first loop. -/
def ShI (base : Nat) (w1 : World) (l : List Ik) (g : Ik → Bool) (n : Nat) (s iv : Value) (wr : World) : Prop := ∃ i : Nat, i ≤ n ∧ iv = .int .i64 i ∧ ∃ A k cap, s = .slice A k cap ∧ k ≤ i ∧ Hid (LeR base w1 ((l.take i).filter fun x => !g x) A k cap wr)
theorem ShI.skip {l : List Ik} {g : Ik → Bool} {i : Nat} (hi : i < l.length) (hg : g l[i] = true) : (l.take (i + 1)).filter (fun x => !g x) = (l.take i).filter fun x => !g x := by
  rw [List.take_succ_eq_append_getElem hi, List.filter_append]
  simp [hg]
theorem ShI.more {l : List Ik} {g : Ik → Bool} {i : Nat} (hi : i < l.length) (hg : g l[i] = false) : (l.take (i + 1)).filter (fun x => !g x) = ((l.take i).filter fun x => !g x) ++ [l[i]] := by
  rw [List.take_succ_eq_append_getElem hi, List.filter_append]
  simp [hg]
/-- the second loop. -/
def ShJ (wL : World) (hm : Nat) (L : List Wr) (n : Nat) (iv : Value) (wr : World) : Prop := ∃ i : Nat, i ≤ n ∧ iv = .int .i64 i ∧ ∃ nH, Hid (nH ≤ i * 100000 ∧ Below hm wL wr ∧ HidM wr (hm + 1) hm nH ((L.take i).flatMap (·.o)))
/-- the third loop. -/
def ShK (wL : World) (hm : Nat) (S o : List Ik) (n0 ko : Nat) (iv : Value) (wr : World) : Prop := ∃ j : Nat, j ≤ ko ∧ iv = .int .i64 j ∧ ∃ nH, Hid (nH ≤ n0 + j ∧ Below hm wL wr ∧ HidM wr (hm + 1) hm nH (S ++ o.take j))
theorem ShJ.next {L : List Wr} {i : Nat} (hi : i < L.length) : (L.take (i + 1)).flatMap (·.o) = (L.take i).flatMap (·.o) ++ L[i].o := by
  rw [List.take_succ_eq_append_getElem hi, List.flatMap_append, List.flatMap_singleton]
theorem look_wr0 {W : World} {p : Nat} {m : Option Nat} {n : Nat} {D : DataW Value} (h : RgAt W p m n D) (a : Ik) (ha : a.ok) : ∃ cs : Array Value, (Instr.lookup 64 (.map m) a.val false).run Tryz.prog W = .ok (.agg cs) W ∧ D.atKey a.key (.held (.agg (wrA zWr none 0 none 0))) = .held (.agg cs) := by
  have h2 := h.2
  cases m with
  | none =>
    obtain rfl : D = .map [] := h2
    exact ⟨wrA zWr none 0 none 0, Maps.look_nil false ik_law undMw (zero_wr W) (ik_key a ha), rfl⟩
  | some b =>
    have ho : W.ownsMap Tryz.prog 28 heldW b n D := h2
    obtain ⟨v, ps, hr, hv⟩ := ho.lookup ik_law undMw (zero_wr W) (zd := .held (.agg (wrA zWr none 0 none 0))) (zp := []) (heldW_wr _ _ _ _ _) (ik_key a ha)
    obtain ⟨cs, rfl, h1, h2, h3⟩ := heldW_inv hv
    exact ⟨cs, hr, h3⟩
set_option maxRecDepth 100000 in
/-- what a look-up of a write that is there gives. -/
theorem look_there {W : World} {p n : Nat} {M : List Wr} {Z : Nat → Prop} (h : RgZ W p n M Z) : ∃ mm : Option Nat, W.heap[p]? = some (.cells #[.map mm] 66) ∧ p < W.heap.size ∧ ∀ m ∈ M, m.fit ∧ ∃ A c Ao co, SlG W (fun b _ => b < W.heap.size ∧ Z b) A c m.x.t.l ∧ IkG W (fun b => b < W.heap.size ∧ Z b) Ao co m.o ∧ ∀ wx, Below W.heap.size W wx → (Instr.lookup 64 (.map mm) m.id.val false).run Tryz.prog wx = .ok (.agg (wrA m A c Ao co)) wx := by
  obtain ⟨mm, D, T, hat, hrep, hp, hmz, hT⟩ := h
  refine ⟨mm, hat.1, (Array.getElem?_eq_some_iff.1 hat.1).1, fun m hm => ⟨hrep.ok m hm, ?_⟩⟩
  obtain ⟨A, c, Ao, co, h1, h2, h3⟩ := hrep.val m hm
  refine ⟨A, c, Ao, co, h2.keep (fun b _ hb => ⟨(hT b hb).2.2.2, (hT b hb).1⟩) (fun _ _ _ _ _ => rfl), h3.keep (fun k hk => ⟨rfl, (hT k hk).2.2.2, (hT k hk).1⟩), fun wx hx => ?_⟩
  obtain ⟨cs, h4, h5⟩ := look_wr0 (hat.below hx) m.id (hrep.ok m hm).id
  obtain ⟨CW, hCW⟩ : ∃ C, C = wrA m A c Ao co := ⟨_, rfl⟩
  rw [← hCW] at h1 ⊢
  have h6 := h1.symm.trans h5
  have e : CW = cs := by injection h6 with h6; injection h6
  rw [e]; exact h4
set_option maxRecDepth 100000 in
set_option maxHeartbeats 8000000 in
theorem shown_c {w : World} {p n : Nat} {M : List Wr} {Z : Nat → Prop} (h : RgZ w p n M Z) (hM : M.length ≤ 10000) (gv : Value) (g : Ik → Bool) (hg : GoneV w gv g) :
    Calls Tryz.prog 15 #[.pointer (some ⟨p, 0, none⟩), gv] w (IdsP w (idsW (standW M g))) := by
  have hids := ids_c h (by omega)
  obtain ⟨mm, hp0, hpl, hlk⟩ := look_there h
  have hok : ∀ x ∈ idsW M, x.ok := fun x hx => by obtain ⟨m, hm, rfl⟩ := List.mem_map.1 hx; exact (hlk m hm).1.id
  have hil0 : (idsW M).length = M.length := by simp [idsW]
  obtain ⟨ti, hti, hz0, hz1, hz2⟩ := info_partsC infoCe
  have HTI := Lib.hid (And.intro hti (And.intro hz0 (And.intro hz1 hz2)))
  clear hti hz0 hz1 hz2
  have HLK := Lib.hid (And.intro hp0 (And.intro hpl hlk))
  have HIDS := Lib.hid hids
  have HOK := Lib.hid hok
  have HGV := Lib.hid hg
  have HML := Lib.hid (And.intro hM hil0)
  have HIL := Lib.hid (show ∀ a b : Value, (Tryz.prog.info? 28).map (·.size) = some [a, b].length from fun _ _ => ikInfo)
  clear h hM hids hp0 hpl hlk hok hg hil0
  go_enter Tryz.func15, Tryz.ntmps15
  go_upto_region 3 with (first | (go_at_call 14; refine HIDS.out.mono ?_; rintro e w1 ⟨A1, c1, rfl, hb1, ho1⟩; have HI := Lib.hid (And.intro hb1 ho1); clear hb1 ho1) | fail)
  obtain ⟨ids, hids⟩ : ∃ l, l = idsW M := ⟨_, rfl⟩
  obtain ⟨n1, hn1⟩ : ∃ n1, n1 = ids.length := ⟨_, rfl⟩
  rw [← hids] at HI HOK HML
  rw [← hids, ← hn1]
  obtain ⟨base, hbase⟩ : ∃ b, b = w1.heap.size := ⟨_, rfl⟩
  have hG1 := own_ikG HI.out.2 rfl
  have hcc : n1 ≤ c1 ∧ c1 ≤ 9223372036854775807 := ⟨by rw [hn1]; exact hG1.1, hG1.2.1⟩
  have hc1 := hcc.1
  have hc2 := hcc.2
  have hnb : n1 ≤ 10000 := by rw [hn1, HML.out.2]; exact HML.out.1
  have hrow : ∀ wz : World, Below base w1 wz → ∀ j (hj : j < ids.length), ∃ b o, A1 = some ⟨b, o, none⟩ ∧ wz.rangeAt b (o + j * 2) [.int .i64 ids[j].a, .int .i64 ids[j].n] := fun wz hz j hj => by
    obtain ⟨b, o, e, hg', hr'⟩ := hG1.at_ j hj
    exact ⟨b, o, e, fun i v hv => (World.cell?_of_block (a := ⟨b, o + j * 2 + i, none⟩) (hz.block b (by rw [hbase]; exact hg'.2))).trans (hr' i v hv)⟩
  have hgl : ∀ wz, Below base w1 wz → GoneV wz gv g := fun wz hz => HGV.out.later (HI.out.1.trans (hz.mono (by rw [hbase]; exact HI.out.1.size)))
  have HROW := Lib.hid hrow
  have HGL := Lib.hid hgl
  have HIDL := Lib.hid hids
  have HN1 := Lib.hid hn1
  have HB1 := Lib.hid hbase
  clear hG1 hcc hrow hgl hids hn1 hbase
  go_loopw [5, 16] (fun s iv wr => ShI base w1 ids g n1 s iv wr) (fun _ iv _ => n1 - (intOf iv).toNat)
  case atStart => exact ⟨0, Nat.zero_le _, rfl, none, 0, 0, rfl, Nat.le_refl _, Lib.hid ⟨Below.refl _ _, ⟨rfl, .inl ⟨rfl, rfl⟩⟩, rfl⟩⟩
  case round =>
   obtain ⟨i, hin, rfl, A, k, cap, rfl, hki, hR⟩ := hrel
   by_cases hi : i < n1
   · have hiI : (i : Int) < (n1 : Int) := by omega
     have hi0 : (0 : Int) ≤ i := by omega
     have hil : i < ids.length := by rw [← HN1.out]; exact hi
     obtain ⟨q, o, hA, hrg⟩ := HROW.out wr hR.out.below i hil
     subst hA
     obtain ⟨y, hy⟩ : ∃ y, y = ids[i] := ⟨_, rfl⟩
     rw [← hy] at hrg
     have hyok : y.ok := by rw [hy]; exact HOK.out _ (List.getElem_mem hil)
     obtain ⟨gb, hgb⟩ : ∃ b, b = wr.heap.size := ⟨_, rfl⟩
     obtain ⟨w2, hw2⟩ : ∃ w2, w2 = wr.alloc (.cells #[.int .i64 y.a, .int .i64 y.n] 28) := ⟨_, rfl⟩
     have hb2 : Below wr.heap.size wr w2 := by rw [hw2]; exact (bel1 _ _).1
     have hky : w2.heap[gb]? = some (.cells #[.int .i64 y.a, .int .i64 y.n] 28) := by rw [hw2, hgb]; exact heap_alloc_new _ _
     have hyr : ∀ wz, Below w2.heap.size w2 wz → wz.rangeAt gb 0 [.int .i64 y.a, .int .i64 y.n] := fun wz hz => ik_range ((hz.block gb (Array.getElem?_eq_some_iff.1 hky).1).trans hky)
     have hle2 := hR.out.kept hb2 (by have := HB1.out; omega)
     have HLE2 := Lib.hid hle2
     have HW2 := Lib.hid hw2
     have HGB := Lib.hid hgb
     have HYR := Lib.hid hyr
     have HRG := Lib.hid hrg
     have HY := Lib.hid hy
     have HYO := Lib.hid hyok
     clear hw2 hgb hyr hrg hy hb2 hky hle2 hyok
     obtain ⟨ya, yn⟩ := y
     dsimp only at HRG HYR HW2
     rcases HGL.out w2 HLE2.out.below with ⟨hge, hgf⟩ | ⟨kf, lb, hge, hfun⟩
     · subst hge
       have HGF := Lib.hid (hgf ⟨ya, yn⟩)
       have hze := eqGnil
       clear hgf
       go_upto_region 6 with (first | (refine wpList_mid rfl 28 _ rfl q (o + i * 2) rfl [.int .i64 ya, .int .i64 yn] _ HRG.out ikUnd rfl (HIL.out _ _) ?_) | fail)
       rw [← HW2.out, ← HGB.out]
       clear hze
       obtain ⟨w5, hw5⟩ : ∃ w5, w5 = w2 := ⟨_, rfl⟩
       rw [← hw5]
       have hv5 : w5.rangeAt gb 0 [.int .i64 ya, .int .i64 yn] := by rw [hw5]; exact HYR.out w2 (Below.refl _ _)
       have hle5 : LeR base w1 ((ids.take i).filter fun x => !g x) A k cap w5 := by rw [hw5]; exact HLE2.out
       obtain ⟨ys, hys⟩ : ∃ ys, ys = ikCells ((ids.take i).filter fun x => !g x) := ⟨_, rfl⟩
       have HO := Lib.hid (show w5.ownsRow base 28 2 (.slice A k cap) k ys from by rw [hys]; exact hle5.own)
       have HBS := Lib.hid (show base ≤ w5.heap.size from by have := hle5.below.size; have := HB1.out; omega)
       have HYS := Lib.hid hys
       have HLE5 := Lib.hid hle5
       clear hys hle5
       go_wp2_with (first | (at_builtin; refine wpList_append_lies _ rfl (.tmp 28) (.tmp 30) 38 rfl base 28 ti _ 2 16 undCs HTI.out.1 HTI.out.2.1 HTI.out.2.2.1 HTI.out.2.2.2 rfl (by decide) (.slice A k cap) k ys rfl (HO.out.alloc _) ⟨w5.heap.size, 0, none⟩ 1 1 [.int .i64 ya, .int .i64 yn] rfl rfl (World.news_of_block (heap_alloc_new w5 (.cells #[.int .i64 ya, .int .i64 yn] 28))) (by intro u hu; simp only [List.mem_cons, List.not_mem_nil, or_false] at hu; rcases hu with rfl | rfl <;> rfl) (by decide) (by unfold maxLen; omega) (by omega) (by rw [World.size_alloc]; have := HBS.out; omega) (w5.heap.size + 1) (by rw [World.size_alloc]) ?_; intro g3 cap3 w6 hown6 hgrow6 hat6 hlt6; have HO6 := Lib.hid (And.intro hown6 hgrow6); clear hown6 hgrow6 hat6 hlt6) | (refine wpList_mid rfl 28 _ rfl gb 0 rfl [.int .i64 ya, .int .i64 yn] _ hv5 ikUnd rfl (HIL.out _ _) ?_) | (refine wpList_oneCell rfl _ rfl #[.int .i64 ya, .int .i64 yn] rfl rfl ?_) | fail)
       go_roundw
       case measure => simp [intOf]; omega
       case rel =>
         refine ⟨i + 1, by omega, by go_num, some ⟨g3, 0, none⟩, k + 1, cap3, rfl, by omega, Lib.hid ?_⟩
         rw [ShI.more hil (by rw [← HY.out]; exact HGF.out), ← HY.out]
         have h6 := HO6.out
         rw [HYS.out] at h6
         exact HLE5.out.step (x := ⟨ya, yn⟩) (by have := HB1.out; omega) h6.2 h6.1
     · subst hge
       have hen := hfun.1
       have hcall := hfun.2 w2 ⟨ya, yn⟩ HYO.out (KeepZ.refl _ _)
       have HC := Lib.hid hcall
       have hze := fun w => eqGfun w kf lb
       clear hfun hcall
       dsimp only at HC
       have hv2 := HYR.out w2 (Below.refl _ _)
       go_upto_region 5 with (first | (refine wpList_mid rfl 28 _ rfl q (o + i * 2) rfl [.int .i64 ya, .int .i64 yn] _ HRG.out ikUnd rfl (HIL.out _ _) ?_) | fail)
       rw [← HW2.out, ← HGB.out]
       cases hgy : g ⟨ya, yn⟩ with
       | true =>
         rw [hgy] at HC
         have HGT := Lib.hid hgy
         clear hgy
         go_wp2_with (first | (refine wpList_mid rfl 28 _ rfl gb 0 rfl [.int .i64 ya, .int .i64 yn] _ hv2 ikUnd rfl (HIL.out _ _) ?_) | (refine HC.out.mono ?_; rintro e w5 ⟨rfl, hb5⟩; have HB5 := Lib.hid hb5; clear hb5))
         go_roundw
         case measure => simp [intOf]; omega
         case rel =>
           refine ⟨i + 1, by omega, by go_num, A, k, cap, rfl, by omega, Lib.hid ?_⟩
           rw [ShI.skip hil (by rw [← HY.out]; exact HGT.out)]
           exact HLE2.out.kept HB5.out (by have := HB1.out; omega)
       | false =>
         rw [hgy] at HC
         have HGF := Lib.hid hgy
         clear hgy
         go_upto_region 6 with (first | (refine wpList_mid rfl 28 _ rfl gb 0 rfl [.int .i64 ya, .int .i64 yn] _ hv2 ikUnd rfl (HIL.out _ _) ?_) | (refine HC.out.mono ?_; rintro e w5 ⟨rfl, hb5⟩; have HB5 := Lib.hid hb5; clear hb5))
         clear hze hen hv2
         have hv5 : w5.rangeAt gb 0 [.int .i64 ya, .int .i64 yn] := HYR.out w5 HB5.out
         have hle5 : LeR base w1 ((ids.take i).filter fun x => !g x) A k cap w5 := HLE2.out.kept HB5.out (by have := HB1.out; omega)
         obtain ⟨ys, hys⟩ : ∃ ys, ys = ikCells ((ids.take i).filter fun x => !g x) := ⟨_, rfl⟩
         have HO := Lib.hid (show w5.ownsRow base 28 2 (.slice A k cap) k ys from by rw [hys]; exact hle5.own)
         have HBS := Lib.hid (show base ≤ w5.heap.size from by have := hle5.below.size; have := HB1.out; omega)
         have HYS := Lib.hid hys
         have HLE5 := Lib.hid hle5
         clear hys hle5
         go_wp2_with (first | (at_builtin; refine wpList_append_lies _ rfl (.tmp 28) (.tmp 30) 38 rfl base 28 ti _ 2 16 undCs HTI.out.1 HTI.out.2.1 HTI.out.2.2.1 HTI.out.2.2.2 rfl (by decide) (.slice A k cap) k ys rfl (HO.out.alloc _) ⟨w5.heap.size, 0, none⟩ 1 1 [.int .i64 ya, .int .i64 yn] rfl rfl (World.news_of_block (heap_alloc_new w5 (.cells #[.int .i64 ya, .int .i64 yn] 28))) (by intro u hu; simp only [List.mem_cons, List.not_mem_nil, or_false] at hu; rcases hu with rfl | rfl <;> rfl) (by decide) (by unfold maxLen; omega) (by omega) (by rw [World.size_alloc]; have := HBS.out; omega) (w5.heap.size + 1) (by rw [World.size_alloc]) ?_; intro g3 cap3 w6 hown6 hgrow6 hat6 hlt6; have HO6 := Lib.hid (And.intro hown6 hgrow6); clear hown6 hgrow6 hat6 hlt6) | (refine wpList_mid rfl 28 _ rfl gb 0 rfl [.int .i64 ya, .int .i64 yn] _ hv5 ikUnd rfl (HIL.out _ _) ?_) | (refine wpList_oneCell rfl _ rfl #[.int .i64 ya, .int .i64 yn] rfl rfl ?_) | fail)
         go_roundw
         case measure => simp [intOf]; omega
         case rel =>
           refine ⟨i + 1, by omega, by go_num, some ⟨g3, 0, none⟩, k + 1, cap3, rfl, by omega, Lib.hid ?_⟩
           rw [ShI.more hil (by rw [← HY.out]; exact HGF.out), ← HY.out]
           have h6 := HO6.out
           rw [HYS.out] at h6
           exact HLE5.out.step (x := ⟨ya, yn⟩) (by have := HB1.out; omega) h6.2 h6.1
   · have hie : i = n1 := by omega
     subst hie
     have hiI : ¬ ((i : Int) < (i : Int)) := by omega
     have hlist : (ids.take i).filter (fun x => !g x) = idsW (leftW M g) := by rw [List.take_of_length_le (by rw [← HN1.out]; exact Nat.le_refl _), HIDL.out, left_ids]
     have hle := hR.out
     rw [hlist] at hle
     obtain ⟨L, hL⟩ : ∃ L, L = leftW M g := ⟨_, rfl⟩
     rw [← hL] at hle
     have hsub : ∀ m ∈ L, m ∈ M := fun m hm => by rw [hL] at hm; exact (List.mem_filter.1 hm).1
     have hkl : k = L.length := by rw [hle.len]; simp [idsW]
     obtain ⟨wL, hwL⟩ : ∃ wL, wL = wr := ⟨_, rfl⟩
     obtain ⟨hm, hhm⟩ : ∃ hm, hm = wr.heap.size := ⟨_, rfl⟩
     obtain ⟨wH, hwH⟩ : ∃ wH, wH = (wr.alloc (.map #[] 0)).alloc (.cells #[.map (some wr.heap.size)] 82) := ⟨_, rfl⟩
     have hstart := HidM.start wr
     rw [← hwH, ← hhm] at hstart
     have hbH : Below hm wL wH := by rw [hwH, hwL, hhm]; exact (bel2 _ _ _).1
     have hH : ShJ wL hm L k (.int .i64 0) wH := ⟨0, Nat.zero_le _, rfl, 0, Lib.hid ⟨by omega, hbH, hstart⟩⟩
     have hbase2 : base ≤ hm := by have := hle.below.size; have := HB1.out; omega
     have hwb : w.heap.size ≤ base := by rw [HB1.out]; exact HI.out.1.size
     have hww : Below w.heap.size w wL := by rw [hwL]; exact HI.out.1.trans (hle.below.mono hwb)
     have hG2 := own_ikG hle.own hle.len
     have hkc : k ≤ cap ∧ cap ≤ 9223372036854775807 := ⟨by rw [hle.len]; exact hG2.1, hG2.2.1⟩
     have hkc1 := hkc.1
     have hkc2 := hkc.2
     have hrow2 : ∀ wz : World, Below hm wL wz → ∀ j (hj : j < L.length), ∃ b o, A = some ⟨b, o, none⟩ ∧ wz.rangeAt b (o + j * 2) [.int .i64 L[j].id.a, .int .i64 L[j].id.n] := fun wz hz j hj => by
       obtain ⟨b, o, e, hg', hr'⟩ := hG2.at_ j (by simpa [idsW] using hj)
       refine ⟨b, o, e, fun i v hv => (World.cell?_of_block (a := ⟨b, o + j * 2 + i, none⟩) ((hz.block b (by rw [hhm]; exact hg'.2)).trans (by rw [hwL]))).trans (hr' i v ?_)⟩
       have : (idsW L)[j]'(by simpa [idsW] using hj) = L[j].id := by simp [idsW]
       rw [this]; exact hv
     have HROW2 := Lib.hid hrow2
     have HLE := Lib.hid hle
     have HL := Lib.hid hL
     have HSUB := Lib.hid hsub
     have HKL := Lib.hid hkl
     have HWL := Lib.hid hwL
     have HHM := Lib.hid hhm
     have HWH := Lib.hid hwH
     have HH := Lib.hid hH
     have HBB := Lib.hid (And.intro hbase2 (And.intro hwb hww))
     have hkm : k ≤ 10000 := by omega
     have hmk := mk_mapH
     clear hlist hle hL hsub hkl hwL hhm hwH hstart hbH hH hbase2 hwb hww hG2 hkc hrow2 hR HROW HGL HGV HIDS HTI
     go_upto_region 9 with (fail)
     rw [← HWH.out, ← HHM.out]
     clear hmk
     go_wp2
     go_loopw [36] (fun iv wr => ShJ wL hm L k iv wr) (fun iv _ => k - (intOf iv).toNat)
     case atStart => exact HH.out
     case round =>
      obtain ⟨j, hjn, rfl, nH, hR⟩ := hrel
      by_cases hj : j < k
      · have hjI : (j : Int) < (k : Int) := by omega
        have hj0 : (0 : Int) ≤ j := by omega
        have hjl : j < L.length := by rw [← HKL.out]; exact hj
        obtain ⟨q, o, hA, hrg⟩ := HROW2.out wr hR.out.2.1 j hjl
        subst hA
        obtain ⟨m, hmj⟩ : ∃ m, m = L[j] := ⟨_, rfl⟩
        rw [← hmj] at hrg
        have hmM : m ∈ M := by rw [hmj]; exact HSUB.out _ (List.getElem_mem hjl)
        obtain ⟨hfit, Am, cm, Ao, co, -, hio, hlkm⟩ := HLK.out.2.2 m hmM
        obtain ⟨gb, hgb⟩ : ∃ b, b = wr.heap.size := ⟨_, rfl⟩
        obtain ⟨w2, hw2⟩ : ∃ w2, w2 = wr.alloc (.cells #[.int .i64 m.id.a, .int .i64 m.id.n] 28) := ⟨_, rfl⟩
        have hb2 : Below wr.heap.size wr w2 := by rw [hw2]; exact (bel1 _ _).1
        have hky : w2.heap[gb]? = some (.cells #[.int .i64 m.id.a, .int .i64 m.id.n] 28) := by rw [hw2, hgb]; exact heap_alloc_new _ _
        have hyr : ∀ wz, Below w2.heap.size w2 wz → wz.rangeAt gb 0 m.id.cs := fun wz hz => ik_range ((hz.block gb (Array.getElem?_eq_some_iff.1 hky).1).trans hky)
        have hsz2 : hm ≤ wr.heap.size := by have := hR.out.2.1.size; have := HHM.out; have := HWL.out; subst this; omega
        have hbL : Below hm wL w2 := hR.out.2.1.trans (hb2.mono hsz2)
        have hbw : Below w.heap.size w w2 := HBB.out.2.2.trans (hbL.mono (by have := HBB.out; omega))
        have hpc : ∀ wz, Below w2.heap.size w2 wz → wz.cell? ⟨p, 0, none⟩ = some (.map mm) := fun wz hz => cell_of_row _ _ 0 _ _ _ (((hbw.trans (hz.mono hbw.size)).block p HLK.out.2.1).trans HLK.out.1)
        have hlk2 : ∀ wz, Below w2.heap.size w2 wz → (Instr.lookup 64 (.map mm) m.id.val false).run Tryz.prog wz = .ok (.agg (wrA m Am cm Ao co)) wz := fun wz hz => hlkm wz (hbw.trans (hz.mono hbw.size))
        have hor : ∀ wz, Below hm wL wz → ∀ t (ht : t < m.o.length), ∃ b o, Ao = some ⟨b, o, none⟩ ∧ wz.rangeAt b (o + t * 2) [.int .i64 m.o[t].a, .int .i64 m.o[t].n] := fun wz hz t ht => by
          obtain ⟨b, o, e, hg', hr'⟩ := hio.at_ t ht
          have hbz := HBB.out.2.2.trans (hz.mono (by have := HBB.out; omega))
          exact ⟨b, o, e, fun i v hv => (World.cell?_of_block (a := ⟨b, o + t * 2 + i, none⟩) (hbz.block b hg'.1)).trans (hr' i v hv)⟩
        have hoc : m.o.length ≤ co ∧ co ≤ 9223372036854775807 := ⟨hio.1, hio.2.1⟩
        have hD2 := hR.out.2.2.below hb2
        have HPC := Lib.hid hpc
        have HLK2 := Lib.hid hlk2
        have HOR := Lib.hid hor
        have HYR := Lib.hid hyr
        have HW2 := Lib.hid hw2
        have HGB := Lib.hid hgb
        have HRG := Lib.hid hrg
        have HD2 := Lib.hid hD2
        have HBL2 := Lib.hid (And.intro hbL hsz2)
        have HFIT := Lib.hid hfit
        have HMJ := Lib.hid hmj
        have HB2 := Lib.hid hb2
        have hoc1 := hoc.1
        have hoc2 := hoc.2
        obtain ⟨CW, hCW⟩ : ∃ C, C = wrA m Am cm Ao co := ⟨_, rfl⟩
        rw [← hCW] at HLK2
        have HCW := Lib.hid hCW
        have HIK := Lib.hid (show ∀ x : Ik, (Tryz.prog.info? 28).map (·.size) = some x.cs.length from fun _ => ikInfo)
        clear hpc hlk2 hor hyr hw2 hgb hrg hD2 hbL hsz2 hbw hfit hmj hmM hio hlkm hoc hky hb2 hCW
        go_upto_region 12 with (first | (refine wpList_mid rfl 28 _ rfl q (o + j * 2) rfl [.int .i64 m.id.a, .int .i64 m.id.n] _ HRG.out ikUnd rfl (HIL.out _ _) ?_) | fail)
        rw [← HW2.out, ← HGB.out]
        refine wp_region_held_drew (S := fun wx => Below w2.heap.size w2 wx) (by kernel_rfl) (Below.refl _ _).drew (fun hHeld => ?_)
        obtain ⟨wa, hwa⟩ : ∃ x, x = w2.drew := ⟨_, rfl⟩
        rw [← hwa] at hHeld ⊢
        clear hwa
        refine wpAnyH_take (i := 0) (v := (.pointer (some ⟨p, 0, none⟩))) rfl (by kernel_rfl) (by kernel_rfl) (by kernel_rfl) (fun _ _ _ h => h) (Or.inl ⟨by kernel_rfl, fun _ hS => by kernel_rfl⟩) hHeld ?_
        (try simp only [Act.put, List.getElem_toArray, List.getElem_cons_succ, List.getElem_cons_zero, List.setIfInBounds_toArray, List.set_cons_zero, List.set_cons_succ])
        refine wpAnyH_take (i := 1) (v := (.pointer (some ⟨p, 0, none⟩))) rfl (by kernel_rfl) (by kernel_rfl) (by kernel_rfl) (fun _ _ _ h => h) (Or.inl ⟨by kernel_rfl, fun _ hS => by kernel_rfl⟩) hHeld ?_
        (try simp only [Act.put, List.getElem_toArray, List.getElem_cons_succ, List.getElem_cons_zero, List.setIfInBounds_toArray, List.set_cons_zero, List.set_cons_succ])
        refine wpAnyH_take (i := 2) (v := (.pointer (some ⟨p, 0, none⟩))) rfl (by kernel_rfl) (by kernel_rfl) (by kernel_rfl) (fun _ _ _ h => h) (Or.inl ⟨by kernel_rfl, fun _ hS => by kernel_rfl⟩) hHeld ?_
        (try simp only [Act.put, List.getElem_toArray, List.getElem_cons_succ, List.getElem_cons_zero, List.setIfInBounds_toArray, List.set_cons_zero, List.set_cons_succ])
        refine wpAnyH_take (i := 3) (v := (.map mm)) rfl (by kernel_rfl) (by kernel_rfl) (by kernel_rfl) (fun _ _ _ h => h) (Or.inl ⟨by kernel_rfl, fun _ hS => ld_mw _ rfl ⟨p, 0, none⟩ rfl _ (HPC.out _ hS)⟩) hHeld ?_
        (try simp only [Act.put, List.getElem_toArray, List.getElem_cons_succ, List.getElem_cons_zero, List.setIfInBounds_toArray, List.set_cons_zero, List.set_cons_succ])
        refine wpAnyH_take (i := 4) (v := .agg m.id.cs.toArray) rfl (by kernel_rfl) (by kernel_rfl) (by kernel_rfl) (fun _ _ _ h => h) (yieldsIf_load_mid (by kernel_rfl) 28 _ rfl gb 0 rfl m.id.cs _ (fun _ hS => HYR.out _ hS) ikUnd rfl (HIK.out _)) hHeld ?_
        (try simp only [Act.put, List.getElem_toArray, List.getElem_cons_succ, List.getElem_cons_zero, List.setIfInBounds_toArray, List.set_cons_zero, List.set_cons_succ])
        refine wpAnyH_take (i := 5) (v := (.agg CW)) rfl (by kernel_rfl) (by kernel_rfl) (by kernel_rfl) (fun _ _ _ h => h) (Or.inl ⟨by kernel_rfl, fun _ hS => lk_runW (mv := .map mm) (kv := .agg m.id.cs.toArray) _ _ false rfl rfl rfl (HLK2.out _ hS)⟩) hHeld ?_
        (try simp only [Act.put, List.getElem_toArray, List.getElem_cons_succ, List.getElem_cons_zero, List.setIfInBounds_toArray, List.set_cons_zero, List.set_cons_succ])
        rw [HCW.out]
        refine wpAnyH_take (i := 6) (v := (.slice Ao m.o.length co)) rfl (by kernel_rfl) (by kernel_rfl) (by kernel_rfl) (fun _ _ _ h => h) (Or.inl ⟨by kernel_rfl, fun _ hS => by kernel_rfl⟩) hHeld ?_
        (try simp only [Act.put, List.getElem_toArray, List.getElem_cons_succ, List.getElem_cons_zero, List.setIfInBounds_toArray, List.set_cons_zero, List.set_cons_succ])
        rw [← HCW.out]
        refine wpAnyH_take (i := 7) (v := (.int .i64 (m.o.length : Nat))) rfl (by kernel_rfl) (by kernel_rfl) (by kernel_rfl) (fun _ _ _ h => h) (Or.inl ⟨by kernel_rfl, fun _ hS => by kernel_rfl⟩) hHeld ?_
        (try simp only [Act.put, List.getElem_toArray, List.getElem_cons_succ, List.getElem_cons_zero, List.setIfInBounds_toArray, List.set_cons_zero, List.set_cons_succ])
        refine wpAnyH_take (i := 8) (v := (.int .i64 0)) rfl (by kernel_rfl) (by kernel_rfl) (by kernel_rfl) (fun _ _ _ h => h) (Or.inl ⟨by kernel_rfl, fun _ hS => by kernel_rfl⟩) hHeld ?_
        (try simp only [Act.put, List.getElem_toArray, List.getElem_cons_succ, List.getElem_cons_zero, List.setIfInBounds_toArray, List.set_cons_zero, List.set_cons_succ])
        have HA := Lib.hid hHeld
        refine wpAnyH_done (by kernel_rfl) ?_ _
        clear hHeld
        have hD3 := HD2.out.below HA.out
        have hbL3 : Below hm wL wa := HBL2.out.1.trans (HA.out.mono (by have := HBL2.out.2; have := HB2.out.size; omega))
        have HK0 := Lib.hid (show ShK wL hm ((L.take j).flatMap (·.o)) m.o (j * 100000) m.o.length (.int .i64 0) wa from ⟨0, Nat.zero_le _, rfl, nH, Lib.hid ⟨by rw [Nat.add_zero]; exact hR.out.1, hbL3, by rw [List.take_zero, List.append_nil]; exact hD3⟩⟩)
        clear hD3 hbL3
        obtain ⟨ko, hko⟩ : ∃ k, k = m.o.length := ⟨_, rfl⟩
        rw [← hko] at hoc1 HK0 ⊢
        have HKO := Lib.hid hko
        clear hko
        go_wp2
        go_loopw [48] (fun iv wr => ShK wL hm ((L.take j).flatMap (·.o)) m.o (j * 100000) ko iv wr) (fun iv _ => ko - (intOf iv).toNat)
        case atStart => exact HK0.out
        case round =>
         obtain ⟨t, htn, rfl, nK, hR3⟩ := hrel
         by_cases ht : t < ko
         · have htI : (t : Int) < (ko : Int) := by omega
           have ht0 : (0 : Int) ≤ t := by omega
           have htl : t < m.o.length := by rw [← HKO.out]; exact ht
           obtain ⟨q3, o3, hA3, hrg3⟩ := HOR.out wr hR3.out.2.1 t htl
           subst hA3
           obtain ⟨x, hx⟩ : ∃ x, x = m.o[t] := ⟨_, rfl⟩
           rw [← hx] at hrg3
           have hxok : x.ok := by rw [hx]; exact HFIT.out.o _ (List.getElem_mem htl)
           obtain ⟨w4, hw4⟩ : ∃ w4, w4 = wr.alloc (.cells #[.int .i64 x.a, .int .i64 x.n] 28) := ⟨_, rfl⟩
           have hb4 : Below wr.heap.size wr w4 := by rw [hw4]; exact (bel1 _ _).1
           have hkx : w4.rangeAt wr.heap.size 0 [.int .i64 x.a, .int .i64 x.n] := ik_range (by rw [hw4]; exact heap_alloc_new _ _)
           have hD4 := hR3.out.2.2.below hb4
           have hc4 := cell_of_row _ _ 0 _ _ _ hD4.box
           obtain ⟨D, hD⟩ := hD4.own
           have hkey := ik_key x hxok
           have hnk : nK < 1000000000 + 100000 := by have := hR3.out.1; have := HFIT.out.few; have := HKO.out; omega
           have HD4 := Lib.hid hD4
           have HDD := Lib.hid hD
           have HW4 := Lib.hid hw4
           have HX := Lib.hid (And.intro hx hxok)
           have HKX := Lib.hid hkx
           have HRG3 := Lib.hid hrg3
           have HKEY := Lib.hid hkey
           have HB4 := Lib.hid hb4
           clear hx hxok hw4 hb4 hkx hD4 hD hkey hrg3
           obtain ⟨xa, xn⟩ := x
           dsimp only [Ik.val] at HRG3 HW4 HKX HKEY
           go_upto_region 15 with (first | (refine wpList_mid rfl 28 _ rfl q3 (o3 + t * 2) rfl [.int .i64 xa, .int .i64 xn] _ HRG3.out ikUnd rfl (HIL.out _ _) ?_) | fail)
           rw [← HW4.out]
           go_wp2_with (first | (at_mapUpdate; refine wpList_mapUpdate_own _ rfl _ _ _ 82 rfl 28 4 ik_law undMb heldB hm nK D rfl HDD.out.1 (by unfold maxLen; omega) (.agg #[.int .i64 xa, .int .i64 xn]) (.bool true) _ rfl rfl HKEY.out (.held (.bool true)) [] rfl ?_; intro w5 hown5 hg5; have HO5 := Lib.hid (And.intro hown5 hg5); clear hown5 hg5) | (refine wpList_mid rfl 28 _ rfl wr.heap.size 0 rfl [.int .i64 xa, .int .i64 xn] _ HKX.out ikUnd rfl (HIL.out _ _) ?_) | fail)
           go_roundw
           case measure => simp [intOf]; omega
           case rel =>
             refine ⟨t + 1, by omega, by go_num, nK + 1, Lib.hid ⟨by have := hR3.out.1; omega, ?_, ?_⟩⟩
             · have h4 := hR3.out.2.1.trans (HB4.out.mono (by have := hR3.out.2.2.ne; omega))
               exact ⟨HO5.out.2.os.trans h4.os, HO5.out.2.tape.trans h4.tape, HO5.out.2.output.trans h4.output, Nat.le_trans h4.size HO5.out.2.size, fun b hb => (HO5.out.2.block b (by have := HB4.out.size; have := hR3.out.2.2.ne; omega) (fun e => by have := Option.some.inj e; omega)).trans (h4.block b hb)⟩
             · have h5 := HD4.out.ofMap HX.out.2 HDD.out HO5.out.1 HO5.out.2
               rw [List.take_succ_eq_append_getElem htl, ← List.append_assoc, ← HX.out.1]
               exact h5
         · have hte : t = ko := by omega
           subst hte
           have htI : ¬ ((t : Int) < (t : Int)) := by omega
           go_wp2
           go_roundw
           case measure => simp [intOf]; omega
           case rel =>
             refine ⟨j + 1, by omega, by go_num, nK, Lib.hid ⟨by have := hR3.out.1; have := HFIT.out.few; have := HKO.out; omega, hR3.out.2.1, ?_⟩⟩
             have h5 := hR3.out.2.2
             rw [List.take_of_length_le (l := m.o) (by rw [HKO.out]; exact Nat.le_refl _)] at h5
             rw [ShJ.next hjl, ← HMJ.out]
             exact h5
      · have hje : j = k := by omega
        subst hje
        have hjI : ¬ ((j : Int) < (j : Int)) := by omega
        have hD := hR.out.2.2
        rw [List.take_of_length_le (by rw [← HKL.out]; exact Nat.le_refl _)] at hD
        have hszb : hm ≤ wr.heap.size := by have := hD.ne; omega
        have hblk : ∀ b, A = some ⟨b, 0, none⟩ → b < hm ∧ base ≤ b := fun b e => by
          subst e
          have h1 := own_blkC HLE.out.own b rfl
          obtain ⟨h1, cur, h2⟩ := h1
          exact ⟨by rw [HHM.out]; exact (Array.getElem?_eq_some_iff.1 h2).1, h1⟩
        have hown : wr.ownsRow base 28 2 (.slice A j cap) j (ikCells (idsW L)) := own_sameC HLE.out.own (fun g cs hc _ _ => (hR.out.2.1.block g (by rw [HHM.out]; exact (Array.getElem?_eq_some_iff.1 hc).1)).trans (by rw [HWL.out]))
        have hf := hid_fun (Z := fun b => A = some ⟨b, 0, none⟩) hD (fun e => by have := hblk _ e; omega) (fun e => by have := hblk _ e; omega)
        have hdel := deleteF_c hf base A cap j (idsW L) hown (by rw [HKL.out]; simp [idsW]) (fun x hx => by obtain ⟨m, hm, rfl⟩ := List.mem_map.1 hx; exact (HLK.out.2.2 m (HSUB.out m hm)).1.id) (fun b e => e)
        rw [HL.out, shown_plain] at hdel
        have HDEL := Lib.hid hdel
        have HBK := Lib.hid hblk
        have hbw : Below w.heap.size w wr := HBB.out.2.2.trans (hR.out.2.1.mono (by have := HBB.out; omega))
        have HBW := Lib.hid hbw
        clear hD hszb hblk hown hf hdel hbw
        go_wp2_with (first | (go_at_call 37; refine HDEL.out.mono ?_; rintro e w6 ⟨A6, c6, rfl, ho6, hk6⟩; have HX := Lib.hid (And.intro ho6 hk6); clear ho6 hk6) | fail)
        first | go_ret | go_ret2
        refine ⟨A6, c6, rfl, ?_, ownsLow HX.out.1 HBB.out.2.1⟩
        have hk := HX.out.2
        have hb := HBW.out
        refine ⟨hk.os.trans hb.os, hk.tape.trans hb.tape, hk.output.trans hb.output, Nat.le_trans hb.size hk.size, fun b hlt => (hk.block b (by have := hb.size; omega) (fun e => by have := HBK.out b e; have := HBB.out.2.1; omega)).trans (hb.block b hlt)⟩
end Go.Proofs.YtbiacjkkgddclaaGreat
