/- reg's Clone. A nil register, a zero one. -/
import Derived.Test.YtbiacjkkgddclaaGreatXmJ7Xa1
import Derived.Test.YtbiacjkkgddclaaGreatJ2NoGt
import Derived.Maps.RangeWalk
import Derived.RangeFuncBox
import Derived.Test.YtbiacjkkgddclaaGreatL5M
namespace Go.Proofs.YtbiacjkkgddclaaGreat
set_option linter.unusedSimpArgs false
set_option linter.unusedVariables false
open Go Go.RowKit Go.Shelf Go.Maps

theorem filt_ins {M : List Wr} (ho : OrdW M) {xs : List Ik} {m : Wr} (hm : m ∈ M) (hx : m.id ∉ xs) : insW m (M.filter fun e => decide (e.id ∈ xs)) = M.filter fun e => decide (e.id ∈ xs ++ [m.id]) := by
  have hno : m.id ∉ idsW (M.filter fun e => decide (e.id ∈ xs)) := fun h => by
    obtain ⟨y, hy, e⟩ := List.mem_map.1 h
    have := (List.mem_filter.1 hy).2
    rw [decide_eq_true_eq, e] at this
    exact hx this
  refine ordW_ext (insW_order (List.Pairwise.filter _ ho) hno) (List.Pairwise.filter _ ho) (fun y => ?_)
  rw [insW_mem, List.mem_filter, List.mem_filter]
  simp only [decide_eq_true_eq, List.mem_append, List.mem_singleton]
  constructor
  · rintro (rfl | ⟨h1, h2⟩)
    · exact ⟨hm, .inr rfl⟩
    · exact ⟨h1, .inl h2⟩
  · rintro ⟨h1, h2 | h2⟩
    · exact .inr ⟨h1, h2⟩
    · exact .inl (ho.inj h1 hm h2)
/-- where the loop of Clone stands. -/
structure ClW (w : World) (b r nn : Nat) (D : DataW Value) (M : List Wr) (pc : Nat) (xs : List Ik) (left : Lit → Bool) (cnt : Nat) (wr : World) : Prop where
  bel : Below w.heap.size w wr
  rg : wr.ranges Tryz.prog 28 heldW b r nn D left cnt
  met : MetI D left xs
  len : xs.length + cnt ≤ Maps.size D
  reg : RgM wr pc xs.length (M.filter fun m => decide (m.id ∈ xs)) (fun k => w.heap.size ≤ k ∧ k ≠ r ∧ k < wr.heap.size)
  ri : r < wr.heap.size ∧ w.heap.size ≤ r
theorem hd3 {w w2 W3 wr : World} {r : Nat} (hg2 : wr.grownBy w2 (some r)) (hb3 : Below w2.heap.size w2 W3) (hs2 : w2.heap.size = wr.heap.size) : KeepZ (fun k => k = r) wr W3 :=
  ⟨hb3.os.trans hg2.os, hb3.tape.trans hg2.tape, hb3.output.trans hg2.output, by have := hb3.size; omega, fun k hk hne => (hb3.block k (by omega)).trans (hg2.block k hk (fun e => hne (Option.some.inj e)))⟩
/-- one more is copied. -/
theorem ClW.step {w : World} {b r nn : Nat} {D : DataW Value} {M : List Wr} {pc g n' : Nat} {T : Nat → Prop} {xs : List Ik} {left : Lit → Bool} {cnt cnt2 : Nat} {Dc : DataW Value} {wr w2 W3 x0 w4 w5 : World} {m : Wr} {A2 A3 : Option Addr} {c2 c3 : Nat}
    (h : ClW w b r nn D M pc xs left cnt wr) (ho : OrdW M) (hx : m ∈ M) (hf : m.fit) {y : DataW Value} (hlk : left m.id.key = true) (hat : ∀ zd, D.atKey m.id.key zd = y) (hn' : n' = xs.length)
    (hb : b < w.heap.size)
    (hrg2 : w2.ranges Tryz.prog 28 heldW b r nn D (fun z => left z && !z.sameKey m.id.key) cnt2) (hlt : cnt2 < cnt) (hg2 : wr.grownBy w2 (some r)) (hs2 : w2.heap.size = wr.heap.size) (hb3 : Below w2.heap.size w2 W3)
    (hreg : RgAt W3 pc (some g) n' Dc ∧ RepW W3 T Dc (M.filter fun m => decide (m.id ∈ xs)) ∧ (w.heap.size ≤ pc ∧ pc ≠ r ∧ pc < wr.heap.size) ∧ (w.heap.size ≤ g ∧ g ≠ r ∧ g < wr.heap.size) ∧ (∀ k, T k → (w.heap.size ≤ k ∧ k ≠ r ∧ k < wr.heap.size) ∧ k ≠ pc ∧ k ≠ g ∧ k < W3.heap.size)) (hpg : pc ≠ g)
    (hx0 : Below W3.heap.size W3 x0) (hb4 : Below x0.heap.size x0 w4)
    (hs4 : SlG w4 (fun b _ => x0.heap.size ≤ b ∧ b < w4.heap.size) A2 c2 m.x.t.l) (hok : w4.ownsRow x0.heap.size 28 2 (.slice A3 m.o.length c3) m.o.length (ikCells m.o)) (hg5 : w4.grownBy w5 (some g)) (ho5 : w5.ownsMap Tryz.prog 28 heldW g (n' + 1) (Dc.put m.id.key (.held (.agg (wrA m A2 c2 A3 c3))))) :
    ClW w b r nn D M pc (xs ++ [m.id]) (fun z => left z && !z.sameKey m.id.key) cnt2 w5 := by
  have e1 := h.bel.size
  have e2 := hb3.size
  have e3 := hx0.size
  have e4 := hb4.size
  have e5 := hg5.size
  obtain ⟨hat3, hrep, hzp, hzg, hT⟩ := hreg
  have hri := h.ri
  have hbk : ∀ k, k < wr.heap.size → k ≠ r → k ≠ g → w5.heap[k]? = wr.heap[k]? := fun k h1 h2 h3 =>
    (hg5.block k (by omega) (fun e => h3 (Option.some.inj e))).trans ((hb4.block k (by omega)).trans ((hx0.block k (by omega)).trans ((hb3.block k (by omega)).trans (hg2.block k h1 (fun e => h2 (Option.some.inj e))))))
  have hb53 : ∀ k, k < W3.heap.size → k ≠ g → w5.heap[k]? = W3.heap[k]? := fun k h1 h3 => (hg5.block k (by omega) (fun e => h3 (Option.some.inj e))).trans ((hb4.block k (by omega)).trans (hx0.block k h1))
  have hr5 : w5.heap[r]? = w2.heap[r]? := (hb53 r (by omega) (fun e => hzg.2.1 e.symm)).trans (hb3.block r (by omega))
  have hb5 : w5.heap[b]? = w2.heap[b]? := (hb53 b (by omega) (by omega)).trans (hb3.block b (by omega))
  have hbel : Below w.heap.size wr w5 := ⟨hg5.os.trans (hb4.os.trans (hx0.os.trans (hb3.os.trans hg2.os))), hg5.tape.trans (hb4.tape.trans (hx0.tape.trans (hb3.tape.trans hg2.tape))), hg5.output.trans (hb4.output.trans (hx0.output.trans (hb3.output.trans hg2.output))), by omega, fun k hk => hbk k (by omega) (by omega) (by omega)⟩
  have hnx : m.id ∉ xs := fun hm => by have := ((h.met.2.2 m.id hf.id).1 hm).2; rw [hlk] at this; cases this
  refine ⟨h.bel.trans hbel, ranges_same hrg2 hb5 hr5, h.met.step hf.id hlk hat, by have := h.len; rw [List.length_append, List.length_singleton]; omega, ?_, by omega, hri.2⟩
  refine ⟨g, _, fun k => T k ∨ (x0.heap.size ≤ k ∧ k < w4.heap.size), ⟨(hb53 pc (by omega) hpg).trans hat3.1, by rw [List.length_append, List.length_singleton, ← hn']; exact ho5⟩, ?_, ⟨hzp.1, hzp.2.1, by omega⟩, ⟨hzg.1, hzg.2.1, by omega⟩, fun k hk => ?_⟩
  · rw [← filt_ins ho hx hnx]
    have hng : ∀ k, x0.heap.size ≤ k → k < w4.heap.size → w5.heap[k]? = w4.heap[k]? := fun k h1 h2 => hg5.block k h2 (fun e => by have := Option.some.inj e; omega)
    refine hrep.put (Z' := fun k => T k ∨ (x0.heap.size ≤ k ∧ k < w4.heap.size)) (fun b h => .inl h) (fun k hk => hb53 k (hT k hk).2.2.2 (hT k hk).2.2.1) hf ?_ ?_ ?_
    · intro hm
      obtain ⟨y, hy, e⟩ := List.mem_map.1 hm
      have := (List.mem_filter.1 hy).2
      rw [decide_eq_true_eq, e] at this
      exact hnx this
    · exact hs4.keep (fun b o h => .inr h) (fun b o h j _ => World.cell?_of_block (a := ⟨b, o + j, none⟩) (hng b h.1 h.2))
    · exact (own_ikG hok rfl).keep (fun k hk => ⟨hng k hk.1 hk.2, .inr hk⟩)
  · rcases hk with hk | hk
    · obtain ⟨⟨q1, q2, q3⟩, q4, q5, q6⟩ := hT k hk
      exact ⟨⟨q1, q2, by omega⟩, q4, q5, by omega⟩
    · exact ⟨⟨by omega, by omega, by omega⟩, by omega, by omega, by omega⟩
set_option maxRecDepth 100000 in
set_option maxHeartbeats 16000000 in
theorem cloneNil_c (w : World) : Calls Tryz.prog 21 #[.pointer none] w fun e w' => ∃ pc, e = .returned (.pointer (some ⟨pc, 0, none⟩)) ∧ RgM w' pc 0 [] (fun b => w.heap.size ≤ b ∧ b < w'.heap.size) ∧ Below w.heap.size w w' := by
  have HNEW := Lib.hid (new_c w)
  go_enter Tryz.func21, Tryz.ntmps21
  go_wp2_with (go_at_call 12; refine HNEW.out.mono ?_; rintro e w' ⟨pc, rfl, hr, hb⟩; have H1 := Lib.hid (And.intro hr hb); clear hr hb)
  first | go_ret | go_ret2 | (refine bodyPost_ret (results_tmp rfl _ _ _) rfl ?_)
  exact ⟨pc, rfl, H1.out⟩
end Go.Proofs.YtbiacjkkgddclaaGreat
namespace Go.Proofs.YtbiacjkkgddclaaGreat
set_option linter.unusedSimpArgs false
set_option linter.unusedVariables false
open Go Go.RowKit Go.Shelf Go.Maps

set_option maxRecDepth 100000 in
set_option maxHeartbeats 16000000 in
theorem shownNil_c (w : World) (gv : Value) : Calls Tryz.prog 15 #[.pointer none, gv] w (IdsP w []) := by
  have HIDS := Lib.hid (fun wx => idsNil_c wx)
  go_enter Tryz.func15, Tryz.ntmps15
  go_upto_region 3 with (first | (go_at_call 14; refine (HIDS.out _).mono ?_; rintro e w1 ⟨A1, c1, rfl, hb1, -⟩; have HI := Lib.hid hb1; clear hb1) | fail)
  go_loopw [5, 16] (fun s iv wr => s = .slice none 0 0 ∧ iv = .int .i64 0 ∧ wr = w1) (fun _ _ _ => 0)
  case atStart => exact ⟨rfl, rfl, rfl⟩
  case round =>
   obtain ⟨rfl, rfl, rfl⟩ := hrel
   obtain ⟨hm, hhm⟩ : ∃ x, x = wr.heap.size := ⟨_, rfl⟩
   obtain ⟨wH, hwH⟩ : ∃ wH, wH = (wr.alloc (.map #[] 0)).alloc (.cells #[.map (some wr.heap.size)] 82) := ⟨_, rfl⟩
   have hstart := HidM.start wr
   rw [← hwH, ← hhm] at hstart
   have hbH : Below wr.heap.size wr wH := by rw [hwH]; exact (bel2 _ _ _).1
   have HST := Lib.hid (And.intro hstart hbH)
   have HWH := Lib.hid hwH
   have HHM := Lib.hid hhm
   have hmk := mk_mapH
   clear hstart hbH hwH hhm
   go_upto_region 9 with (fail)
   rw [← HWH.out, ← HHM.out]
   clear hmk
   go_wp2
   go_loopw [36] (fun iv wx => iv = .int .i64 0 ∧ wx = wH) (fun _ _ => 0)
   case atStart => exact ⟨rfl, rfl⟩
   case round =>
    obtain ⟨rfl, rfl⟩ := hrel
    have hf := hid_fun (Z := fun _ => False) HST.out.1 (fun e => e) (fun e => e)
    have hdel := deleteF_c hf w.heap.size none 0 0 [] ⟨rfl, .inl ⟨rfl, rfl⟩⟩ rfl (fun _ h => (List.not_mem_nil h).elim) (fun b e => by cases e)
    have HDEL := Lib.hid hdel
    clear hf hdel
    go_wp2_with (first | (go_at_call 37; refine HDEL.out.mono ?_; rintro e w6 ⟨A6, c6, rfl, ho6, hk6⟩; have HX := Lib.hid (And.intro ho6 hk6); clear ho6 hk6) | fail)
    first | go_ret | go_ret2 | (refine bodyPost_ret (results_tmp rfl _ _ _) rfl ?_)
    have h01 := HI.out.trans (HST.out.2.mono HI.out.size)
    have hk := HX.out.2
    have hb6 : Below w.heap.size w w6 := ⟨hk.os.trans h01.os, hk.tape.trans h01.tape, hk.output.trans h01.output, Nat.le_trans h01.size hk.size, fun b hlt => (hk.block b (Nat.lt_of_lt_of_le hlt h01.size) (fun e => by cases e)).trans (h01.block b hlt)⟩
    exact ⟨A6, c6, rfl, hb6, HX.out.1⟩
set_option maxRecDepth 100000 in
set_option maxHeartbeats 16000000 in
theorem getNil_c (w : World) (gv : Value) : Calls Tryz.prog 17 #[.pointer none, gv] w (GetP w []) := by
  obtain ⟨b, hb⟩ : ∃ b, b = w.heap.size := ⟨_, rfl⟩
  obtain ⟨CZ, hCZ⟩ : ∃ C, C = contA zCt none 0 := ⟨_, rfl⟩
  obtain ⟨W0, hW0⟩ : ∃ W0, W0 = w.alloc (.cells CZ 37) := ⟨_, rfl⟩
  have hbel : Below w.heap.size w W0 := by rw [hW0]; exact (bel1 _ _).1
  have hz0 : W0.heap.size = b + 1 := by rw [hW0, hb]; simp
  have hk0 : W0.heap[b]? = some (.cells CZ 37) := by rw [hW0, hb]; exact heap_alloc_new _ _
  have hicz : (Tryz.prog.info? 37).map (·.size) = some CZ.size ∧ CZ.all (·.oneCell') = true := by rw [hCZ]; exact ⟨infC, cont_one _ _ _⟩
  have HSH := Lib.hid (shownNil_c W0 gv)
  have HW0 := Lib.hid hW0
  have HB := Lib.hid hb
  have HZ := Lib.hid hz0
  have HK0 := Lib.hid hk0
  have HBL := Lib.hid hbel
  have HCZ := Lib.hid hCZ
  have HZI := Lib.hid hicz
  clear hb hCZ hW0 hbel hz0 hk0 hicz
  go_enter Tryz.func17, Tryz.ntmps17
  go_upto_region 1 with (refine wpList_contVar rfl rfl w.heap.size rfl ?_)
  change Code.wp _ _ _ _ (w.alloc (.cells (contA zCt none 0) 37))
  rw [← HCZ.out, ← HW0.out, ← HB.out]
  go_upto_region 2 with (first | (go_at_call 15; refine HSH.out.mono ?_; rintro e w1 ⟨A1, c1, rfl, hb1, -⟩; have HI := Lib.hid hb1; clear hb1) | fail)
  have HX := Lib.hid (HI.out.block b (by have := HZ.out; omega) |>.trans HK0.out)
  go_wp2_with (first | (refine wpList_buildSome rfl 37 _ rfl CZ ?_ ?_; focus (rw [HCZ.out]; kernel_rfl)) | (refine wpList_store_row rfl 37 _ _ rfl b CZ rfl rfl 37 CZ HX.out HZI.out.1 rfl HZI.out.2 ?_) | fail)
  refine bodyPost_ret (v := .tuple #[.agg CZ, .slice none 0 0]) (results_cell_tmpW (p := 4) (u := 5) rfl _ _ b 37 CZ (0, 0) _ rfl (setRow_heap _ _ _ _ _ _ HX.out) undC rfl HZI.out.1) rfl ?_
  have hb1 := HBL.out.trans (HI.out.mono HBL.out.size)
  have hbe := HB.out
  exact ⟨none, 0, none, 0, by rw [HCZ.out]; rfl, ⟨Nat.le_refl _, by omega, .inl rfl⟩, RowW.nil _ _ _ _ _ (by omega), below_row hb1 (by omega) _⟩
theorem regNil (w : World) : RegAt w (.pointer none) [] :=
  ⟨fun wx _ => idsNil_c wx, fun wx _ gv g _ => shownNil_c wx gv, fun wx _ gv g _ => getNil_c wx gv, fun wx _ => (lenNil_c wx).mono fun e w' h => ⟨h.1, by rw [h.2]; exact Below.refl _ _⟩⟩
theorem RgZ.regAt {w : World} {p n : Nat} {M : List Wr} {Z : Nat → Prop} (h : RgZ w p n M Z) (hM : M.length ≤ 1000) : RegAt w (.pointer (some ⟨p, 0, none⟩)) M :=
  ⟨fun wx hx => ids_c (h.below hx) (by omega), fun wx hx gv g hg => shown_c (h.below hx) (by omega) gv g hg, fun wx hx gv g hg => get_c (h.below hx) (by omega) gv g hg, fun wx hx => len_c (h.below hx)⟩
set_option maxRecDepth 100000 in
set_option maxHeartbeats 16000000 in
theorem putNil_c (w : World) (m : Wr) (A : Option Addr) (c : Nat) (Ao : Option Addr) (co : Nat) : Calls Tryz.prog 13 #[.pointer none, .agg (wrA m A c Ao co)] w fun e w' => e = .returned (.int .i64 1) ∧ Below w.heap.size w w' := by
  obtain ⟨CW, hCW⟩ : ∃ C, C = wrA m A c Ao co := ⟨_, rfl⟩
  rw [← hCW]
  have hb : Below w.heap.size w (w.alloc (.cells CW 49)) := (bel1 _ _).1
  have HB := Lib.hid hb
  clear hb hCW
  go_enter Tryz.func13, Tryz.ntmps13
  go_wp2
  first | go_ret | go_ret2 | (refine bodyPost_ret (results_tmp rfl _ _ _) rfl ?_)
  exact ⟨by kernel_rfl, HB.out⟩
theorem eqMapWN (w : World) : (binOp .eql 64 (.map none) (.map none)).run Tryz.prog w = .ok (.bool true) w := by kernel_rfl
/-- what Put does to a zero register. -/
def Put0 (w : World) (p : Nat) (m : Wr) (e : Ending) (w' : World) : Prop := e = .returned (.int .i64 (putW [] m).2) ∧ (∃ n Z, RgZ w' p n (putW [] m).1 Z) ∧ KeepZ (fun b => b = p) w w'
theorem Put0.old {w w' : World} {p : Nat} {m : Wr} {er : Int} (h : w.heap[p]? = some (.cells #[.map none] 66)) (hp : putW [] m = ([], er)) (hb : Below w.heap.size w w') : Put0 w p m (.returned (.int .i64 er)) w' := by
  unfold Put0
  rw [hp]
  exact ⟨rfl, ⟨0, fun _ => True, none, .map [], fun _ => False, ⟨(hb.block p (Array.getElem?_eq_some_iff.1 h).1).trans h, rfl⟩, RepW.empty _ _, trivial, fun b e => (by cases e), fun b hb => hb.elim⟩, KeepZ.of hb⟩
set_option maxRecDepth 100000 in
set_option maxHeartbeats 16000000 in
theorem put0_c {w : World} {p : Nat} (h : w.heap[p]? = some (.cells #[.map none] 66)) {B : Nat} (m : Wr) (A : Option Addr) (c : Nat) (Ao : Option Addr) (co : Nat) (hm : WrIn w B m A c Ao co) (hB : B ≤ w.heap.size) (hpB : B ≤ p) :
    Calls Tryz.prog 13 #[.pointer (some ⟨p, 0, none⟩), .agg (wrA m A c Ao co)] w (Put0 w p m) := by
  obtain ⟨b, hb⟩ : ∃ b, b = w.heap.size := ⟨_, rfl⟩
  obtain ⟨CW, hCW⟩ : ∃ C, C = wrA m A c Ao co := ⟨_, rfl⟩
  obtain ⟨CX, hCX⟩ : ∃ C, C = contA m.x A c := ⟨_, rfl⟩
  obtain ⟨CS, hCS⟩ : ∃ C, C = wrA zWr none 0 none 0 := ⟨_, rfl⟩
  obtain ⟨W0, hW0⟩ : ∃ W0, W0 = w.alloc (.cells CW 49) := ⟨_, rfl⟩
  have hbel : Below w.heap.size w W0 := by rw [hW0]; exact (bel1 _ _).1
  have hz0 : W0.heap.size = b + 1 := by rw [hW0, hb]; simp
  have hk0 : W0.heap[b]? = some (.cells CW 49) := by rw [hW0, hb]; exact heap_alloc_new _ _
  have hpl : p < w.heap.size := (Array.getElem?_eq_some_iff.1 h).1
  have hnm := fun (wx : World) (hx : Below W0.heap.size W0 wx) => named_c wx (fun k => k < B) CW m.id Ao co m.o.length m.o (by rw [hCW]; exact wcells_wr _ _ _ _ _) ((hm.later (hbel.mono hB) (Nat.le_refl _)).later (hx.mono (by omega)) (Nat.le_refl _)).g (fun k hk => by have : k < B := hk; have := hx.size; omega) rfl
  have hri : ∀ wx, Below W0.heap.size W0 wx → Calls Tryz.prog 30 #[.agg CX] wx fun e w' => e = .returned (.bool (rightC m.x)) ∧ Below wx.heap.size wx w' := fun wx hx => by
    have := cright_c m.x wx B A c hm.v hm.d ((hm.later (hbel.mono hB) (Nat.le_refl _)).later (hx.mono (by omega)) (Nat.le_refl _)).s (by have := hx.size; omega) (by have := hm.size; omega)
    rw [hCX]; exact this
  have hct : ∀ wx, Below W0.heap.size W0 wx → wx.rangeAt b 2 CX.toList := fun wx hx => by rw [hCX]; exact (wr_rows (by rw [← hCW]; exact (hx.block b (by omega)).trans hk0)).2.1
  have hp0 : ∀ wx, Below W0.heap.size W0 wx → wx.heap[p]? = some (.cells #[.map none] 66) := fun wx hx => (hx.block p (by omega)).trans ((hbel.block p hpl).trans h)
  have hold : ∀ er w', putW [] m = ([], er) → Below W0.heap.size W0 w' → Put0 w p m (.returned (.int .i64 er)) w' := fun er w' hp hx => Put0.old h hp (hbel.trans (hx.mono (by omega)))
  have hput : putW [] m = if (mayI m.id && chainB m.o m.id) = false then ([], 1) else if rightC m.x = false then ([], 6) else ([m], 0) := by
    unfold putW datedB
    rfl
  have hicl : (Tryz.prog.info? 37).map (·.size) = some CX.toList.length := by rw [hCX]; exact infC
  have hicw := wr_idx m A c Ao co
  rw [← hCW] at hicw
  have HM := Lib.hid (And.intro hm hB)
  have HOLD := Lib.hid hold
  have HPUT := Lib.hid hput
  have HNM := Lib.hid hnm
  have HRI := Lib.hid hri
  have HCT := Lib.hid hct
  have HP0 := Lib.hid hp0
  have HW0 := Lib.hid hW0
  have HB := Lib.hid hb
  have HZ := Lib.hid (And.intro hz0 (And.intro hpl hpB))
  have HCW := Lib.hid hCW
  have HBL := Lib.hid hbel
  have HIL := Lib.hid hicl
  have HIW := Lib.hid hicw
  have HK0 := Lib.hid hk0
  have HCS0 := Lib.hid hCS
  rw [← hCW]
  clear hm hB hold hput hnm hri hct hp0 hW0 hb hz0 hCW hCX hbel hicl hicw hk0 h hpl hpB hCS
  go_enter Tryz.func13, Tryz.ntmps13
  go_upto_region 1 with (fail)
  rw [← HW0.out, ← HB.out]
  cases hda : (mayI m.id && chainB m.o m.id) with
  | false =>
    have HDA := Lib.hid hda
    rw [hda] at HNM
    clear hda
    go_wp2_with (first | (refine wpList_row rfl 49 _ rfl b rfl 49 CW (0, 0) _ HK0.out undWr rfl HIW.out.1 ?_) | (go_at_call 29; refine (HNM.out _ (Below.refl _ _)).mono ?_; rintro e w1 ⟨rfl, hb1⟩; have HX := Lib.hid hb1; have hct1 := HCT.out w1 hb1; clear hb1) | fail)
    first | go_ret | go_ret2 | (refine bodyPost_ret (results_tmp rfl _ _ _) rfl ?_)
    exact HOLD.out _ _ (by rw [HPUT.out, if_pos HDA.out]) HX.out
  | true =>
  have HDA := Lib.hid hda
  rw [hda] at HNM
  clear hda
  cases hri : rightC m.x with
  | false =>
    have HRF := Lib.hid hri
    rw [hri] at HRI
    clear hri
    go_wp2_with (first | (refine wpList_row rfl 49 _ rfl b rfl 49 CW (0, 0) _ HK0.out undWr rfl HIW.out.1 ?_) | (go_at_call 29; refine (HNM.out _ (Below.refl _ _)).mono ?_; rintro e w1 ⟨rfl, hb1⟩; have HX := Lib.hid hb1; have hct1 := HCT.out w1 hb1; clear hb1) | (refine wpList_mid rfl 37 _ rfl b 2 rfl CX.toList _ hct1 undC rfl HIL.out ?_; simp only [Array.toArray_toList]) | (go_at_call 30; refine (HRI.out _ HX.out).mono ?_; rintro e w2 ⟨rfl, hb2⟩; have HY := Lib.hid (HX.out.trans (hb2.mono HX.out.size)); clear hb2) | fail)
    first | go_ret | go_ret2 | (refine bodyPost_ret (results_tmp rfl _ _ _) rfl ?_)
    exact HOLD.out _ _ (by rw [HPUT.out, HDA.out, HRF.out]; rfl) HY.out
  | true =>
  have HRT := Lib.hid hri
  rw [hri] at HRI
  clear hri
  go_upto_region 5 with (first | (refine wpList_row rfl 49 _ rfl b rfl 49 CW (0, 0) _ HK0.out undWr rfl HIW.out.1 ?_) | (go_at_call 29; refine (HNM.out _ (Below.refl _ _)).mono ?_; rintro e w1 ⟨rfl, hb1⟩; have HX := Lib.hid hb1; have hct1 := HCT.out w1 hb1; clear hb1) | (refine wpList_mid rfl 37 _ rfl b 2 rfl CX.toList _ hct1 undC rfl HIL.out ?_; simp only [Array.toArray_toList]) | (go_at_call 30; refine (HRI.out _ HX.out).mono ?_; rintro e w2 ⟨rfl, hb2⟩; have HY := Lib.hid (HX.out.trans (hb2.mono HX.out.size)); clear hb2) | fail)
  clear hct1
  have hlk : ∀ wx : World, (Instr.lookup 64 (.map none) m.id.val true).run Tryz.prog wx = .ok (.tuple #[.agg CS, .bool false]) wx := fun wx => by rw [HCS0.out]; exact Maps.look_nil true ik_law undMw (zero_wr wx) (ik_key m.id HM.out.1.id)
  have hpc : ∀ wx, Below w2.heap.size w2 wx → wx.cell? ⟨p, 0, none⟩ = some (.map none) := fun wx hx => cell_of_row _ _ 0 _ _ _ (HP0.out wx (HY.out.trans (hx.mono HY.out.size)))
  have hrow : ∀ wx, Below w2.heap.size w2 wx → wx.heap[b]? = some (.cells CW 49) := fun wx hx => ((HY.out.trans (hx.mono HY.out.size)).block b (by have := HZ.out.1; omega)).trans HK0.out
  have hid : ∀ wx, Below w2.heap.size w2 wx → wx.rangeAt b 0 m.id.cs := fun wx hx => (wr_rows (by rw [← HCW.out]; exact hrow wx hx)).1
  have hcs : (Tryz.prog.info? 49).map (·.size) = some CS.size ∧ (wrA zWr none 0 none 0).size = CS.size ∧ CS.all (·.oneCell') = true := by rw [HCS0.out]; exact ⟨(wr_idx _ _ _ _ _).1, rfl, wrA_one _ _ _ _ _⟩
  have HLK := Lib.hid hlk
  have HPC := Lib.hid hpc
  have HROW := Lib.hid hrow
  have HID := Lib.hid hid
  have HCS := Lib.hid hcs
  have HIK := Lib.hid (show ∀ x : Ik, (Tryz.prog.info? 28).map (·.size) = some x.cs.length from fun _ => ikInfo)
  obtain ⟨q, hq⟩ : ∃ q, q = w2.heap.size := ⟨_, rfl⟩
  have hb0 : Below w2.heap.size w2 w2.drew := (Below.refl _ _).drew
  have hb1 : Below w2.heap.size w2 (w2.drew.alloc (.cells (wrA zWr none 0 none 0) 49)) := hb0.alloc (Nat.le_refl _) _
  have hb2 : Below w2.heap.size w2 (w2.drew.alloc (.cells CS 49)) := hb0.alloc (Nat.le_refl _) _
  have HB1 := Lib.hid hb1
  have HB2 := Lib.hid hb2
  have HQ := Lib.hid hq
  clear hlk hpc hrow hid hcs hb1 hb2 hq
  go_wp2_with fail
  refine wp_region_held_drew (S := fun wx => Below w2.heap.size w2 wx) (by kernel_rfl) hb0 (fun hHeld => ?_)
  clear hb0
  refine wpAnyH_take (i := 0) (v := (.pointer (some ⟨p, 0, none⟩))) rfl (by kernel_rfl) (by kernel_rfl) (by kernel_rfl) (fun _ _ _ h => h) (Or.inl ⟨by kernel_rfl, fun _ hS => by kernel_rfl⟩) hHeld ?_
  (try simp only [Act.put, List.getElem_toArray, List.getElem_cons_succ, List.getElem_cons_zero, List.setIfInBounds_toArray, List.set_cons_zero, List.set_cons_succ])
  refine wpAnyH_take (i := 1) (v := (.pointer (some ⟨p, 0, none⟩))) rfl (by kernel_rfl) (by kernel_rfl) (by kernel_rfl) (fun _ _ _ h => h) (Or.inl ⟨by kernel_rfl, fun _ hS => by kernel_rfl⟩) hHeld ?_
  (try simp only [Act.put, List.getElem_toArray, List.getElem_cons_succ, List.getElem_cons_zero, List.setIfInBounds_toArray, List.set_cons_zero, List.set_cons_succ])
  refine wpAnyH_take (i := 2) (v := (.pointer (some ⟨p, 0, none⟩))) rfl (by kernel_rfl) (by kernel_rfl) (by kernel_rfl) (fun _ _ _ h => h) (Or.inl ⟨by kernel_rfl, fun _ hS => by kernel_rfl⟩) hHeld ?_
  (try simp only [Act.put, List.getElem_toArray, List.getElem_cons_succ, List.getElem_cons_zero, List.setIfInBounds_toArray, List.set_cons_zero, List.set_cons_succ])
  refine wpAnyH_take (i := 3) (v := (.map none)) rfl (by kernel_rfl) (by kernel_rfl) (by kernel_rfl) (fun _ _ _ h => h) (Or.inl ⟨by kernel_rfl, fun _ hS => ld_mw _ rfl ⟨p, 0, none⟩ rfl _ (HPC.out _ hS)⟩) hHeld ?_
  (try simp only [Act.put, List.getElem_toArray, List.getElem_cons_succ, List.getElem_cons_zero, List.setIfInBounds_toArray, List.set_cons_zero, List.set_cons_succ])
  refine wpAnyH_take (i := 4) (v := (.pointer (some ⟨b, 0, none⟩))) rfl (by kernel_rfl) (by kernel_rfl) (by kernel_rfl) (fun _ _ _ h => h) (Or.inl ⟨by kernel_rfl, fun _ hS => by kernel_rfl⟩) hHeld ?_
  (try simp only [Act.put, List.getElem_toArray, List.getElem_cons_succ, List.getElem_cons_zero, List.setIfInBounds_toArray, List.set_cons_zero, List.set_cons_succ])
  refine wpAnyH_take (i := 5) (v := .agg m.id.cs.toArray) rfl (by kernel_rfl) (by kernel_rfl) (by kernel_rfl) (fun _ _ _ h => h) (yieldsIf_load_mid (by kernel_rfl) 28 _ rfl b 0 rfl m.id.cs _ (fun _ hS => HID.out _ hS) ikUnd rfl (HIK.out _)) hHeld ?_
  (try simp only [Act.put, List.getElem_toArray, List.getElem_cons_succ, List.getElem_cons_zero, List.setIfInBounds_toArray, List.set_cons_zero, List.set_cons_succ])
  refine wpAnyH_take (i := 6) (v := (.tuple #[.agg CS, .bool false])) rfl (by kernel_rfl) (by kernel_rfl) (by kernel_rfl) (fun _ _ _ h => h) (Or.inl ⟨by kernel_rfl, fun _ hS => lk_runW (mv := .map none) (kv := .agg m.id.cs.toArray) _ _ true rfl rfl rfl (HLK.out _)⟩) hHeld ?_
  (try simp only [Act.put, List.getElem_toArray, List.getElem_cons_succ, List.getElem_cons_zero, List.setIfInBounds_toArray, List.set_cons_zero, List.set_cons_succ])
  refine wpAnyH_take (i := 7) (v := (.tuple #[.agg CS, .bool false])) rfl (by kernel_rfl) (by kernel_rfl) (by kernel_rfl) (fun _ _ _ h => h) (Or.inl ⟨by kernel_rfl, fun _ hS => by kernel_rfl⟩) hHeld ?_
  (try simp only [Act.put, List.getElem_toArray, List.getElem_cons_succ, List.getElem_cons_zero, List.setIfInBounds_toArray, List.set_cons_zero, List.set_cons_succ])
  refine wpAnyH_take (i := 8) (v := (.agg CS)) rfl (by kernel_rfl) (by kernel_rfl) (by kernel_rfl) (fun _ _ _ h => h) (Or.inl ⟨by kernel_rfl, fun _ hS => by kernel_rfl⟩) hHeld ?_
  (try simp only [Act.put, List.getElem_toArray, List.getElem_cons_succ, List.getElem_cons_zero, List.setIfInBounds_toArray, List.set_cons_zero, List.set_cons_succ])
  refine wpAnyH_take (i := 9) (v := (.bool false)) rfl (by kernel_rfl) (by kernel_rfl) (by kernel_rfl) (fun _ _ _ h => h) (Or.inl ⟨by kernel_rfl, fun _ hS => by kernel_rfl⟩) hHeld ?_
  (try simp only [Act.put, List.getElem_toArray, List.getElem_cons_succ, List.getElem_cons_zero, List.setIfInBounds_toArray, List.set_cons_zero, List.set_cons_succ])
  refine wpAnyH_wrVar (i := 10) (by kernel_rfl) rfl rfl rfl q (HQ.out.symm) (HB1.out) (fun hHeld => ?_)
  (try simp only [Act.put, List.getElem_toArray, List.getElem_cons_succ, List.getElem_cons_zero, List.setIfInBounds_toArray, List.set_cons_zero, List.set_cons_succ])
  refine wpAnyH_storeFresh (i := 11) (by kernel_rfl) rfl rfl 49 _ _ rfl q (HQ.out.symm) CS rfl rfl HCS.out.1 HCS.out.2.1 HCS.out.2.2 HB2.out (fun hHeld => ?_)
  (try simp only [Act.put, List.getElem_toArray, List.getElem_cons_succ, List.getElem_cons_zero, List.setIfInBounds_toArray, List.set_cons_zero, List.set_cons_succ])
  refine wpAnyH_take (i := 12) (v := (.bool false)) rfl (by kernel_rfl) (by kernel_rfl) (by kernel_rfl) (fun _ _ _ h => h) (Or.inl ⟨by kernel_rfl, fun _ hS => by kernel_rfl⟩) hHeld ?_
  (try simp only [Act.put, List.getElem_toArray, List.getElem_cons_succ, List.getElem_cons_zero, List.setIfInBounds_toArray, List.set_cons_zero, List.set_cons_succ])
  refine wpAnyH_done (by kernel_rfl) ?_ _
  clear hHeld
  obtain ⟨w3, hw3⟩ : ∃ w3, w3 = w2.drew.alloc (.cells CS 49) := ⟨_, rfl⟩
  have hb3 : Below w2.heap.size w2 w3 := by rw [hw3]; exact HB2.out
  rw [← hw3]
  have h03 : Below W0.heap.size W0 w3 := HY.out.trans (hb3.mono HY.out.size)
  have hp3 := HP0.out w3 h03
  obtain ⟨g, hg⟩ : ∃ g, g = w3.heap.size := ⟨_, rfl⟩
  obtain ⟨w4, hw4⟩ : ∃ x, x = (w3.alloc (.map #[] 0)).setCell ⟨p, 0, none⟩ (.map (some w3.heap.size)) := ⟨_, rfl⟩
  have hpl3 : p < w3.heap.size := (Array.getElem?_eq_some_iff.1 hp3).1
  have hk4 : KeepZ (fun k => k = p) w3 w4 := by
    rw [hw4]
    refine ⟨rfl, rfl, rfl, by simp, fun k hk hne => (Below.heap_setCell _ _ _ _ (fun e => hne e)).trans ((bel1 w3 (.map #[] 0)).1.block k hk)⟩
  have hpm : w4.heap[p]? = some (.cells #[.map (some g)] 66) := by
    rw [hw4, hg]
    exact (show Boxed _ p 66 (.map none) from ((bel1 w3 (.map #[] 0)).1.block p hpl3).trans hp3).set _
  have ho4 : w4.ownsMap Tryz.prog 28 heldW g 0 (.map []) := by
    obtain ⟨es, clock, e1, e2⟩ := World.ownsMap_made (H := Value) w3 Tryz.prog 28 heldW
    rw [hg]
    exact ⟨es, clock, by rw [hw4]; exact (Below.heap_setCell _ _ _ _ (fun e => by have : w3.heap.size = p := e; omega)).trans e1, e2⟩
  have hgp : g ≠ p := by omega
  have hgz : g < w4.heap.size := by obtain ⟨es, clock, e1, -⟩ := ho4; exact (Array.getElem?_eq_some_iff.1 e1).1
  have hkb4 : w4.heap[b]? = some (.cells CW 49) := (hk4.block b (by have := h03.size; have := HZ.out.1; omega) (by have := HZ.out.2.1; have := HB.out; omega)).trans (HROW.out w3 hb3)
  have hbl4 : b < w4.heap.size := (Array.getElem?_eq_some_iff.1 hkb4).1
  have hbg : b ≠ g := by have := h03.size; have := HZ.out.1; omega
  have hbB4 : Below B w w4 := by
    have h1 := (HBL.out.trans (h03.mono HBL.out.size)).mono HM.out.2
    exact ⟨hk4.os.trans h1.os, hk4.tape.trans h1.tape, hk4.output.trans h1.output, Nat.le_trans h1.size hk4.size, fun k hk => (hk4.block k (by have := HM.out.2; have := HBL.out.size; have := h03.size; omega) (by have := HZ.out.2.2; omega)).trans (h1.block k hk)⟩
  have hS4 : ∀ wx, KeepZ (fun k => k = g) w4 wx → wx.cell? ⟨p, 0, none⟩ = some (.map (some g)) ∧ wx.rangeAt b 0 m.id.cs ∧ wx.rangeAt b 0 CW.toList := fun wx hx => by
    have e1 := (hx.block p (Array.getElem?_eq_some_iff.1 hpm).1 (fun e => hgp e.symm)).trans hpm
    have e2 := (hx.block b hbl4 hbg).trans hkb4
    exact ⟨cell_of_row _ _ 0 _ _ _ e1, (wr_rows (by rw [← HCW.out]; exact e2)).1, row_range_ e2 _ _ (fun j v hv => by rw [Nat.zero_add, ← Array.getElem?_toList]; exact hv)⟩
  have hcl : Calls Tryz.prog 31 #[.agg CW] w4.drew (CloneW w4.drew m) := by
    rw [HCW.out]
    have hbw : Below B w w4.drew := hbB4.drew
    have hlt : B ≤ w4.drew.heap.size := by have := hbB4.size; have := HM.out.2; show B ≤ w4.heap.size; omega
    have hl := HM.out.1.later hbw hlt
    exact rclone_c m w4.drew A c Ao co hl.d hl.s hl.size hl.g (by have := hl.few; omega)
  have hkk : KeepZ (fun k => k = p) w w4 := (KeepZ.of (HBL.out.trans (h03.mono HBL.out.size))).trans hk4
  have hln := fun wx : World => Maps.len_nil (w := wx) undMw 3
  have hmk := mk_mapW
  have heq := eqMapWN
  have hc3 : w3.cell? ⟨p, 0, none⟩ = some (.map none) := cell_of_row _ _ 0 _ _ _ hp3
  have hc3b : (w3.alloc (.map #[] 0)).cell? ⟨p, 0, none⟩ = some (.map none) := (World.cell?_of_block (a := ⟨p, 0, none⟩) ((bel1 w3 (.map #[] 0)).1.block p hpl3)).trans hc3
  have hf3b : (w3.alloc (.map #[] 0)).frozen? ⟨p, 0, none⟩ = false := frozen_of_row _ _ _ _ _ (((bel1 w3 (.map #[] 0)).1.block p hpl3).trans hp3)
  have HS4 := Lib.hid hS4
  have HCL0 := Lib.hid hcl
  have HO4 := Lib.hid ho4
  have HPM := Lib.hid hpm
  have HKK := Lib.hid hkk
  have HW4 := Lib.hid hw4
  have HGP := Lib.hid (And.intro hgp (And.intro hgz (show p < w4.heap.size from (Array.getElem?_eq_some_iff.1 hpm).1)))
  have HG := Lib.hid hg
  have HPW := Lib.hid (show g ≥ w.heap.size from by have := HBL.out.size; have := h03.size; omega)
  clear hw3 hb3 HB1 HB2 h03 hp3 hg hw4 hpl3 hk4 hpm ho4 hgp hgz hkb4 hbl4 hbg hbB4 hS4 hcl hkk
  go_upto_region 12 with (fail)
  clear hln hmk heq hc3 hc3b hf3b
  (try change Code.wp _ _ _ _ ((w3.alloc (.map #[] 0)).setCell ⟨p, 0, none⟩ (.map (some w3.heap.size))))
  rw [← HW4.out]
  refine wp_region_held_drew (S := fun wx => KeepZ (fun k => k = g) w4 wx) (by kernel_rfl) (KeepZ.of (Below.refl _ _).drew) (fun hHeld => ?_)
  obtain ⟨wa, hwa⟩ : ∃ x, x = w4.drew := ⟨_, rfl⟩
  have hba : Below w4.heap.size w4 wa := by rw [hwa]; exact (Below.refl _ _).drew
  have HCL := Lib.hid (show Calls Tryz.prog 31 #[.agg CW] wa (CloneW wa m) from by rw [hwa]; exact HCL0.out)
  rw [← hwa] at hHeld ⊢
  have HBA := Lib.hid hba
  clear hwa hba HCL0
  refine wpAnyH_take (i := 0) (v := (.pointer (some ⟨p, 0, none⟩))) rfl (by kernel_rfl) (by kernel_rfl) (by kernel_rfl) (fun _ _ _ h => h) (Or.inl ⟨by kernel_rfl, fun _ hS => by kernel_rfl⟩) hHeld ?_
  (try simp only [Act.put, List.getElem_toArray, List.getElem_cons_succ, List.getElem_cons_zero, List.setIfInBounds_toArray, List.set_cons_zero, List.set_cons_succ])
  refine wpAnyH_take (i := 1) (v := (.pointer (some ⟨p, 0, none⟩))) rfl (by kernel_rfl) (by kernel_rfl) (by kernel_rfl) (fun _ _ _ h => h) (Or.inl ⟨by kernel_rfl, fun _ hS => by kernel_rfl⟩) hHeld ?_
  (try simp only [Act.put, List.getElem_toArray, List.getElem_cons_succ, List.getElem_cons_zero, List.setIfInBounds_toArray, List.set_cons_zero, List.set_cons_succ])
  refine wpAnyH_take (i := 2) (v := (.pointer (some ⟨p, 0, none⟩))) rfl (by kernel_rfl) (by kernel_rfl) (by kernel_rfl) (fun _ _ _ h => h) (Or.inl ⟨by kernel_rfl, fun _ hS => by kernel_rfl⟩) hHeld ?_
  (try simp only [Act.put, List.getElem_toArray, List.getElem_cons_succ, List.getElem_cons_zero, List.setIfInBounds_toArray, List.set_cons_zero, List.set_cons_succ])
  refine wpAnyH_take (i := 3) (v := (.map (some g))) rfl (by kernel_rfl) (by kernel_rfl) (by kernel_rfl) (fun _ _ _ h => h) (Or.inl ⟨by kernel_rfl, fun _ hS => ld_mw _ rfl ⟨p, 0, none⟩ rfl _ (HS4.out _ hS).1⟩) hHeld ?_
  (try simp only [Act.put, List.getElem_toArray, List.getElem_cons_succ, List.getElem_cons_zero, List.setIfInBounds_toArray, List.set_cons_zero, List.set_cons_succ])
  refine wpAnyH_take (i := 4) (v := (.pointer (some ⟨b, 0, none⟩))) rfl (by kernel_rfl) (by kernel_rfl) (by kernel_rfl) (fun _ _ _ h => h) (Or.inl ⟨by kernel_rfl, fun _ hS => by kernel_rfl⟩) hHeld ?_
  (try simp only [Act.put, List.getElem_toArray, List.getElem_cons_succ, List.getElem_cons_zero, List.setIfInBounds_toArray, List.set_cons_zero, List.set_cons_succ])
  refine wpAnyH_take (i := 5) (v := .agg m.id.cs.toArray) rfl (by kernel_rfl) (by kernel_rfl) (by kernel_rfl) (fun _ _ _ h => h) (yieldsIf_load_mid (by kernel_rfl) 28 _ rfl b 0 rfl m.id.cs _ (fun _ hS => (HS4.out _ hS).2.1) ikUnd rfl (HIK.out _)) hHeld ?_
  (try simp only [Act.put, List.getElem_toArray, List.getElem_cons_succ, List.getElem_cons_zero, List.setIfInBounds_toArray, List.set_cons_zero, List.set_cons_succ])
  refine wpAnyH_take (i := 6) (v := .agg CW.toList.toArray) rfl (by kernel_rfl) (by kernel_rfl) (by kernel_rfl) (fun _ _ _ h => h) (yieldsIf_load_mid (by kernel_rfl) 49 _ rfl b 0 rfl CW.toList _ (fun _ hS => (HS4.out _ hS).2.2) undWr rfl HIW.out.2) hHeld ?_
  (try simp only [Act.put, List.getElem_toArray, List.getElem_cons_succ, List.getElem_cons_zero, List.setIfInBounds_toArray, List.set_cons_zero, List.set_cons_succ])
  simp only [Array.toArray_toList]
  refine wpAnyH_ready (rs := [7]) (by kernel_rfl) (by simp) ?_
  refine AllReadyH.cons rfl (fun K hK => ?_) AllReadyH.nil
  go_simp
  refine HCL.out.mono ?_
  rintro e w5 ⟨A2, c2, A3, c3, rfl, hsl5, hok5, hb5⟩
  have HSL5 := Lib.hid (And.intro hsl5 hok5)
  clear hsl5 hok5
  try go_simp
  have hH5 : KeepZ (fun k => k = g) w4 w5 := hHeld.trans (KeepZ.of hb5)
  have HO5 := Lib.hid (own_map_below HO4.out (HBA.out.trans (hb5.mono HBA.out.size)))
  have HB5 := Lib.hid hb5
  refine hK.out _ _ hH5 (fun hHeld5 => ?_)
  clear hK K hHeld hH5
  (try simp only [Act.put, List.getElem_toArray, List.getElem_cons_succ, List.getElem_cons_zero, List.setIfInBounds_toArray, List.set_cons_zero, List.set_cons_succ])
  refine wpAnyH_putW (i := 8) (by kernel_rfl) rfl rfl _ _ _ rfl g 0 (.map []) rfl m.id HM.out.1.id rfl m A2 c2 A3 c3 rfl (by decide) HO5.out (fun w' hg => hHeld5.trans ⟨hg.os, hg.tape, hg.output, hg.size, fun k hk hne => hg.block k hk (fun e => hne (Option.some.inj e))⟩) (fun w6 ho6 hg6 hHeld6 => ?_)
  (try simp only [Act.put, List.getElem_toArray, List.getElem_cons_succ, List.getElem_cons_zero, List.setIfInBounds_toArray, List.set_cons_zero, List.set_cons_succ])
  refine wpAnyH_done (by kernel_rfl) ?_ _
  go_wp2
  first | go_ret | go_ret2 | (refine bodyPost_ret (results_tmp rfl _ _ _) rfl ?_)
  have e1 := HBA.out.size
  have e2 := HB5.out.size
  have e3 := hg6.size
  have hgg := HGP.out
  have hng : ∀ k, wa.heap.size ≤ k → k < w5.heap.size → w6.heap[k]? = w5.heap[k]? := fun k h1 h2 => hg6.block k h2 (fun e => by have := Option.some.inj e; omega)
  have hfit : m.fit := ⟨HM.out.1.id, HM.out.1.v, HM.out.1.d, HM.out.1.size, HRT.out, HDA.out, HM.out.1.o, HM.out.1.few⟩
  unfold Put0
  rw [HPUT.out, HDA.out, HRT.out]
  refine ⟨rfl, ⟨1, fun _ => True, some g, _, fun k => wa.heap.size ≤ k ∧ k < w5.heap.size, ⟨(hHeld6.block p hgg.2.2 (fun e => hgg.1 e.symm)).trans HPM.out, ho6⟩, ?_, trivial, fun _ _ => trivial, fun k hk => ⟨trivial, by omega, fun e => by have := Option.some.inj e; omega, by omega⟩⟩, ⟨hHeld6.os.trans HKK.out.os, hHeld6.tape.trans HKK.out.tape, hHeld6.output.trans HKK.out.output, Nat.le_trans HKK.out.size hHeld6.size, fun k hk hne => (hHeld6.block k (Nat.lt_of_lt_of_le hk HKK.out.size) (fun e => by have := HPW.out; omega)).trans (HKK.out.block k hk hne)⟩⟩
  · refine (RepW.empty w4 (fun k => False)).put (Z' := fun k => wa.heap.size ≤ k ∧ k < w5.heap.size) (fun b h => h.elim) (fun k hk => hk.elim) hfit (by simp [idsW]) ?_ ?_
    · exact HSL5.out.1.keep (fun b o h => h) (fun b o h j _ => World.cell?_of_block (a := ⟨b, o + j, none⟩) (hng b h.1 h.2))
    · exact (own_ikG HSL5.out.2 rfl).keep (fun k hk => ⟨hng k hk.1 hk.2, hk⟩)
end Go.Proofs.YtbiacjkkgddclaaGreat
