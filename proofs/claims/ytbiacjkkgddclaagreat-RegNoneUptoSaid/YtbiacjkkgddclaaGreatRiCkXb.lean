/- tree.right. tree.Check. cells.Right. -/
import Derived.Test.YtbiacjkkgddclaaGreatRaM
import Derived.Test.YtbiacjkkgddclaaGreatRbM
import Derived.Test.YtbiacjkkgddclaaGreatRcM
import Derived.Test.YtbiacjkkgddclaaGreatRdM
import Derived.Test.YtbiacjkkgddclaaGreatReRf
import Derived.Test.YtbiacjkkgddclaaGreatRgM
import Derived.Test.YtbiacjkkgddclaaGreatSzAlBa
import Derived.Test.YtbiacjkkgddclaaGreatXaNmVrVs
namespace Go.Proofs.YtbiacjkkgddclaaGreat
open Go.RowKit Go.Shelf

theorem right_c (t : Tr) : ∀ (w : World) (B b o : Nat) (above : Int) (_ : NodeAt w B b o t) (_ : B ≤ w.heap.size),
    Calls Tryz.prog 76 #[.pointer (some ⟨b, o, none⟩), .int .i64 above] w fun e w' => e = .returned (.bool (rightB t above)) ∧ Below w.heap.size w w' := by
  induction t using Tr.ind with | _ d l ih => ?_
  refine right_loop d l ih ?_
  intro w B b o above kind v name a q rows A c n qo hB hbw HC HD HS HN HQ J K' fn R hJ hK
  by_cases h1 : kind = 5
  · exact right_rb w B b o above kind v name a q rows l A c n qo hB hbw HC HD HS HN HQ h1 J K' fn R hJ hK
  by_cases h2 : kind = 4
  · exact right_rc w B b o above kind v name a q rows l A c n qo hB hbw HC HD HS HN HQ h2 J K' fn R hJ hK
  by_cases h3 : kind = 8
  · exact right_rd w B b o above kind v name a q rows l A c n qo hB hbw HC HD HS HN HQ h3 J K' fn R hJ hK
  by_cases h4 : kind = 6
  · exact right_rf w B b o above kind v name a q rows l A c n qo hB hbw HC HD HS HN HQ h4 J K' fn R hJ hK
  by_cases h5 : kind = 0 ∨ kind = 1 ∨ kind = 3
  · exact right_ra w B b o above kind v name a q rows l A c n qo hB hbw HC HD HS HN HQ h5 J K' fn R hJ hK
  exact right_re w B b o above kind v name a q rows l A c n qo hB hbw HC HD HS HN HQ (by omega) J K' fn R hJ hK
end Go.Proofs.YtbiacjkkgddclaaGreat
namespace Go.Proofs.YtbiacjkkgddclaaGreat
open Go.RowKit Go.Shelf
attribute [local go_sem] Oper.semAt_some

def checkI (t : Tr) : Int := if 256 < t.size then 5 else if 32 < t.depth then 8 else if rightB t 6 = true then 0 else 6
theorem BoxI.c3 {b : Nat} {w W : World} {p : Nat} {t : TypeId} {v : Value} {q q' : Nat × TypeId × Value} {cs : List (Nat × TypeId × Value)} (h : BoxI b w (q :: q' :: (p, t, v) :: cs) W) : Boxed W p t v := h.1 (p, t, v) (by simp)
theorem BoxI.mk3 {b : Nat} {w W : World} {p p' p'' : Nat} {t t' t'' : TypeId} {v v' v'' : Value} (h : Boxed W p t v) (h' : Boxed W p' t' v') (h'' : Boxed W p'' t'' v'') (hb : Below b w W) : BoxI b w [(p, t, v), (p', t', v'), (p'', t'', v'')] W :=
  ⟨fun q hq => by
    rcases List.mem_cons.1 hq with rfl | hq
    · exact h
    rcases List.mem_cons.1 hq with rfl | hq
    · exact h'
    rw [List.mem_singleton] at hq; subst hq; exact h'', hb⟩

theorem fin_cell {W : World} {p D : Nat} {t : TypeId} {v : Value} (h : Boxed W p t v) (hne : p ≠ D) (o : Obj) : (W.putObj D o).cell? ⟨p, 0, none⟩ = some v := (World.cell?_of_block (a := ⟨p, 0, none⟩) (World.putObj_heap_other hne)).trans h.cell

set_option maxRecDepth 100000 in
set_option maxHeartbeats 2000000 in
theorem check_c (w : World) (B : Nat) (hB : B ≤ w.heap.size) (t : Tr) (A : Option Addr) (c : Nat) (hd : t.d.ok) (hs : SlAt w B A c t.l) (hsz : t.size ≤ 1099511627776) :
    Calls Tryz.prog 56 #[nodeV t.d A t.l.length c] w fun e w' => e = .returned (.int .i64 (checkI t)) ∧ Below w.heap.size w w' := by
  refine callsIn_wide (n := 5) |>.1 ?_
  refine callsIn_of_wp_marks Tryz.func56 rfl trivial ?_ rfl
  simp only [Tryz.ntmps56, List.size_toArray, List.length_cons, List.length_nil, Nat.reduceAdd, Nat.reduceSub, Array.replicate_succ, Array.replicate_zero, List.push_toArray, List.append_toArray, List.nil_append, List.cons_append]
  have HD := Lib.hid hd
  have HS := Lib.hid hs
  clear hd hs
  obtain ⟨N, hN⟩ : ∃ N, N = nodeA t.d A t.l.length c := ⟨_, rfl⟩
  have HN := Lib.hid hN
  rw [nodeV, ← hN]
  clear hN
  have hf27 : Fence.wide.fn 75 := trivial
  gi_wp2_with (gi_at_call 75; refine (walk_opens 4 _ _).mono ?_; rintro e w' ⟨rfl, rfl⟩)
  obtain ⟨W0, hW0⟩ : ∃ W0, W0 = ((((w.alloc (.cells N 35)).alloc (.cells #[.int .i64 0] 47)).alloc (.cells #[.int .i64 0] 3)).alloc (.cells #[.int .i64 0] 3)).alloc (.cells #[.pointer (some ⟨w.heap.size, 0, none⟩)] 106) := ⟨_, rfl⟩
  have hsz0 : W0.heap.size = w.heap.size + 5 := by rw [hW0]; simp
  have hbel0 : Below w.heap.size w W0 := by rw [hW0]; exact ((((((Below.refl _ _).alloc (Nat.le_refl _) _).alloc (by simp) _).alloc (by simp <;> omega) _).alloc (by simp <;> omega) _).alloc (by simp <;> omega) _)
  have hblk : W0.heap[w.heap.size]? = some (.cells N 35) := by
    rw [hW0]; exact (heapOld _ _ _ (by simp <;> omega)).trans ((heapOld _ _ _ (by simp <;> omega)).trans ((heapOld _ _ _ (by simp <;> omega)).trans ((heapOld _ _ _ (by simp)).trans (heap_alloc_new _ _))))
  have hb1 : Boxed W0 (w.heap.size + 1) 47 (.int .i64 0) := by
    rw [hW0]
    have := heap_alloc_new (w.alloc (.cells N 35)) (.cells #[.int .i64 0] 47)
    rw [World.size_alloc] at this
    exact (heapOld _ _ _ (by simp <;> omega)).trans ((heapOld _ _ _ (by simp <;> omega)).trans ((heapOld _ _ _ (by simp)).trans this))
  have hb2 : Boxed W0 (w.heap.size + 2) 3 (.int .i64 0) := by
    rw [hW0]
    have := heap_alloc_new ((w.alloc (.cells N 35)).alloc (.cells #[.int .i64 0] 47)) (.cells #[.int .i64 0] 3)
    rw [World.size_alloc, World.size_alloc] at this
    exact (heapOld _ _ _ (by simp <;> omega)).trans ((heapOld _ _ _ (by simp)).trans this)
  have hb3 : Boxed W0 (w.heap.size + 3) 3 (.int .i64 0) := by
    rw [hW0]
    have := heap_alloc_new (((w.alloc (.cells N 35)).alloc (.cells #[.int .i64 0] 47)).alloc (.cells #[.int .i64 0] 3)) (.cells #[.int .i64 0] 3)
    rw [World.size_alloc, World.size_alloc, World.size_alloc] at this
    exact (heapOld _ _ _ (by simp)).trans this
  have hc4 : W0.cell? ⟨w.heap.size + 4, 0, none⟩ = some (.pointer (some ⟨w.heap.size, 0, none⟩)) := by
    rw [hW0]
    have := heap_alloc_new ((((w.alloc (.cells N 35)).alloc (.cells #[.int .i64 0] 47)).alloc (.cells #[.int .i64 0] 3)).alloc (.cells #[.int .i64 0] 3)) (.cells #[.pointer (some ⟨w.heap.size, 0, none⟩)] 106)
    rw [World.size_alloc, World.size_alloc, World.size_alloc, World.size_alloc] at this
    exact cell_of_row _ _ 0 _ _ _ this
  rw [HN.out] at hblk
  have hnode := boxed_node HD.out HS.out hB (hbel0.mono hB) hblk
  have HND := Lib.hid hnode
  obtain ⟨a, ha, hb, ho, hat⟩ := NodeAt.addr t _ _ hnode
  clear hnode
  rw [← hW0]
  have hszle : w.heap.size + 5 ≤ W0.heap.size := by omega
  clear hW0 hsz0
  refine range_T (T := 144) (n₀ := w.heap.size + 1) rfl (by omega) (gf := 97) (lb := #[.pointer (some ⟨w.heap.size + 4, 0, none⟩)]) rfl trivial (enters_of Tryz.func97 (by kernel_rfl) rfl)
    (walk_seq 4 W0 (w.heap.size + 4) (w.heap.size + 1) a.tr.size (fun _ => True) (fun _ _ _ _ => trivial) ⟨(a, 1), hat, a.tr.size_pos, trivial⟩ (by omega) (by omega) (by rw [hb, ho]; exact hc4) (by rw [AT.items_len]; exact Nat.le_refl _) rfl (by rw [ha]; exact hsz))
    (by omega) (Below.refl _ _) (fun _ => rfl)
    (fun pre W => BoxI (w.heap.size + 1) W0 [(w.heap.size + 1, 47, .int .i64 0), (w.heap.size + 2, 3, .int .i64 pre.length), (w.heap.size + 3, 3, .int .i64 (deep (pre.map (·.1))))] W ∧ pre.length ≤ 256)
    (fun c pre W => (c = .ret ∧ 256 < pre.length) ∧ BoxI (w.heap.size + 1) W0 [(w.heap.size + 1, 47, .int .i64 5)] W)
    (fun s A1 B1 r1 h hg hr => ⟨BoxI.own (cs := fun _ => [(w.heap.size + 1, 47, .int .i64 0), (w.heap.size + 2, 3, .int .i64 s.length), (w.heap.size + 3, 3, .int .i64 (deep (s.map (·.1))))]) (B := W0.heap.size) (by simp <;> omega) (by omega) (by omega) () A1 B1 r1 h.1 hg hr, h.2⟩)
    (fun s A1 B1 r1 h hg hr => ⟨BoxI.abides (cs := fun _ => [(w.heap.size + 1, 47, .int .i64 0), (w.heap.size + 2, 3, .int .i64 s.length), (w.heap.size + 3, 3, .int .i64 (deep (s.map (·.1))))]) (B := W0.heap.size) (by simp <;> omega) (by omega) (by omega) () A1 B1 r1 h.1 hg hr, h.2⟩)
    (fun _ s A1 B1 r1 h hg hr => ⟨h.1, BoxI.own (cs := fun _ => [(w.heap.size + 1, 47, .int .i64 5)]) (B := W0.heap.size) (by simp <;> omega) (by omega) (by omega) () A1 B1 r1 h.2 hg hr⟩)
    (fun _ s A1 B1 r1 h hg hr => ⟨h.1, BoxI.abides (cs := fun _ => [(w.heap.size + 1, 47, .int .i64 5)]) (B := W0.heap.size) (by simp <;> omega) (by omega) (by omega) () A1 B1 r1 h.2 hg hr⟩)
    ⟨BoxI.mk3 hb1 hb2 hb3 (Below.refl _ _), by simp⟩
    (fun x a' _ => a' = { tmps := #[.agg N, .pointer (some ⟨w.heap.size, 0, none⟩), .pointer (some ⟨w.heap.size + 1, 0, none⟩), .pointer (some ⟨w.heap.size + 1 + 1, 0, none⟩), .pointer (some ⟨w.heap.size + 1 + 1 + 1, 0, none⟩), undef, .int .i64 x.1.2, .func (.func 97) #[] #[.pointer (some ⟨w.heap.size + 1 + 1 + 1 + 1, 0, none⟩)], .pointer (some ⟨x.1.1.b, x.1.1.o, none⟩), .int .i64 x.1.2, undef, undef, undef, undef, undef, undef, undef, undef, undef, undef, undef], defers := [] })
    (fun _ _ => ownFrom_pure _ _) ?assign ?body ?done ?stop
  case assign =>
    intro l pre x W K hI hK
    dsimp only [Itm.encs]
    gi_wp2
    exact hK _ _ (KeepsFrom.refl _ _) (KeepT.refl _ _ _) hI (by simp)
  case body =>
    rintro l pre x a' W hl - ⟨hI, hpl⟩ rfl hlt
    have HI := Lib.hid hI
    have k1 := hI.c1.cell
    have z1 := hI.c1.frozen
    have k2 := hI.c2.cell
    have z2 := hI.c2.frozen
    have k3 := hI.c3.cell
    have z3 := hI.c3.frozen
    clear hI
    have hne23 : w.heap.size + 2 ≠ w.heap.size + 3 := by omega
    have hne12 : w.heap.size + 1 ≠ w.heap.size + 2 := by omega
    have hne13 : w.heap.size + 1 ≠ w.heap.size + 3 := by omega
    by_cases h256 : pre.length < 256
    · obtain ⟨dd, hdd⟩ : ∃ dd, dd = deep (pre.map (·.1)) := ⟨_, rfl⟩
      rw [← hdd] at k3
      have hds : (deep ((pre ++ [x]).map (·.1)) : Int) = if (x.1.2 : Int) > dd then (x.1.2 : Int) else dd := by
        rw [List.map_append, List.map_singleton, deep_snoc, ← hdd]; split <;> omega
      have HDS := Lib.hid hds
      have hlen : (pre.length : Int) + 1 ≤ 256 := by omega
      clear hdd hds
      gi_wp2
      all_goals
        refine ⟨(KeepsFrom.of_grownBy (grownBy_setCell' _ _ _) (fun j e => by cases e; first | omega | (simp; omega))).trans (KeepsFrom.of_grownBy (grownBy_setCell' _ _ _) (fun j e => by cases e; first | omega | (simp; omega))), (KeepT.setCell (by simp) (boxed_notOf HI.out.c2 (by decide)) _).trans (KeepT.setCell (by simp <;> omega) (boxed_notOf (HI.out.c3.other hne23.symm _) (by decide)) _), BoxI.mk3 ?_ ?_ ?_ ((HI.out.2.setCell (by simp) _).setCell (by simp <;> omega) _), ?_⟩
        · exact (HI.out.c1.other hne12 _).other hne13 _
        · rw [List.length_append, List.length_singleton, Int.natCast_add]
          exact (HI.out.c2.set _).other hne23 _
        · rw [HDS.out]
          first
            | (rw [if_pos (by omega)]; exact (HI.out.c3.other hne23.symm _).set _)
            | (rw [if_neg (by omega)]; exact (HI.out.c3.other hne23.symm _).set _)
            | (rw [show (if (x.1.2 : Int) > dd then (x.1.2 : Int) else dd) = max (dd : Int) (x.1.2 : Int) from by rw [Int.max_def]; split <;> split <;> omega]; exact (HI.out.c3.other hne23.symm _).set _)
        · rw [List.length_append, List.length_singleton]; omega
    · have hlen : (256 : Int) < (pre.length : Int) + 1 := by omega
      have hlen2 : (pre.length : Int) + 1 ≤ 257 := by omega
      gi_wp2
      refine ⟨(KeepsFrom.of_grownBy (grownBy_setCell' _ _ _) (fun j e => by cases e; first | omega | (simp; omega))).trans (KeepsFrom.of_grownBy (grownBy_setCell' _ _ _) (fun j e => by cases e; first | omega | (simp; omega))), ⟨rfl, by rw [List.length_append, List.length_singleton]; omega⟩, BoxI.mk1 ((HI.out.c1.other hne12 _).set _) ((HI.out.2.setCell (by simp) _).setCell (by simp) _)⟩
  case done =>
    rintro D xs W hD hS ⟨hI, hxl⟩ hK
    have hlen : xs.length = t.size := by have := congrArg List.length hS; rw [List.length_map, AT.items_len] at this; rw [this, ha]
    have hdp : deep (xs.map (·.1)) = t.depth := by rw [hS]; unfold deep; rw [AT.items_deep, ha]; have := t.depth_pos; omega
    have hWs : w.heap.size + 5 ≤ W.heap.size := by have := hI.2.size; omega
    have HK := Lib.hid hK
    rw [hdp] at hI
    have HI := Lib.hid hI
    have k1 := hI.c1.cell
    have z1 := hI.c1.frozen
    have k3 := hI.c3.cell
    clear hI hK hdp hS
    have hchk : checkI t = if 32 < t.depth then 8 else if rightB t 6 = true then 0 else 6 := by unfold checkI; rw [if_neg (by omega)]
    have HCH := Lib.hid hchk
    have hfin : ∀ v, Below w.heap.size w (W.setCell ⟨w.heap.size + 1, 0, none⟩ v) := fun v => (hbel0.trans (HI.out.2.mono (by omega))).setCell (by simp) _
    have HF := Lib.hid hfin
    clear hchk hfin
    have hset : ∀ (W' : World) v, W'.heap[D]? = some (.deferred (some [])) → (W'.setCell ⟨w.heap.size + 1, 0, none⟩ v).heap[D]? = some (.deferred (some [])) := fun W' v h => (heap_setCell_other _ _ _ _ (by simp; omega)).trans h
    have HSET := Lib.hid hset
    clear hset
    by_cases hdeep : 32 < t.depth
    · gi_wp2
      refine ⟨by simp, .inl ⟨_, _, rfl, run_takeDeferred (HSET.out _ _ HK.out), ?_⟩⟩
      have hcl := fin_cell (HI.out.c1.set (.int .i64 8)) (show w.heap.size + 1 ≠ D by omega) (.deferred none)
      refine ⟨.int .i64 8, by simp [results, Tryz.results56, go_sem, hcl], by rw [HCH.out, if_pos hdeep], (HF.out _).trans (belowK_b (w := w) (Nat.le_refl _) _ D _ _ (by omega) (HSET.out _ _ HK.out) rfl rfl)⟩
    · have hd2 : (t.depth : Int) ≤ 32 := by omega
      have hf28 : Fence.wide.fn 76 := trivial
      have hr := right_c t W (w.heap.size + 1) w.heap.size 0 6 (HND.out.below HI.out.2) (by omega)
      obtain ⟨r, hrr⟩ : ∃ r, rightB t 6 = r := ⟨_, rfl⟩
      rw [hrr] at hr
      have HRR := Lib.hid hrr
      have hr' := fun n => (callsIn_wide (n := n)).2 hr
      have HR := Lib.hid hr'
      clear hr hr' hrr
      cases r
      · gi_wp2_with (gi_at_call 76; refine (HR.out _).mono ?_; rintro e W2 ⟨rfl, hbe⟩; have hb1' : Boxed W2 (w.heap.size + 1) 47 (.int .i64 0) := (hbe.block _ HI.out.c1.lt).trans HI.out.c1; have c1' := hb1'.cell; have z1' := hb1'.frozen)
        have hKD : W2.heap[D]? = some (.deferred (some [])) := (hbe.block _ (Array.getElem?_eq_some_iff.1 HK.out).1).trans HK.out
        have hcl := fin_cell (hb1'.set (.int .i64 6)) (show w.heap.size + 1 ≠ D by omega) (.deferred none)
        have hbf : Below w.heap.size w (W2.setCell ⟨w.heap.size + 1, 0, none⟩ (.int .i64 6)) := ((hbel0.trans (HI.out.2.mono (by omega))).trans (hbe.mono (by omega))).setCell (by simp) _
        refine ⟨by simp, .inl ⟨_, _, rfl, run_takeDeferred (HSET.out _ _ hKD), ?_⟩⟩
        refine ⟨.int .i64 6, by simp [results, Tryz.results56, go_sem, hcl], by rw [HCH.out, if_neg hdeep, HRR.out]; rfl, hbf.trans (belowK_b (w := w) (Nat.le_refl _) _ D _ _ (by omega) (HSET.out _ _ hKD) rfl rfl)⟩
      · gi_wp2_with (gi_at_call 76; refine (HR.out _).mono ?_; rintro e W2 ⟨rfl, hbe⟩; have hb1' : Boxed W2 (w.heap.size + 1) 47 (.int .i64 0) := (hbe.block _ HI.out.c1.lt).trans HI.out.c1; have c1' := hb1'.cell; have z1' := hb1'.frozen)
        have hKD : W2.heap[D]? = some (.deferred (some [])) := (hbe.block _ (Array.getElem?_eq_some_iff.1 HK.out).1).trans HK.out
        have hcl := fin_cell (hb1'.set (.int .i64 0)) (show w.heap.size + 1 ≠ D by omega) (.deferred none)
        have hbf : Below w.heap.size w (W2.setCell ⟨w.heap.size + 1, 0, none⟩ (.int .i64 0)) := ((hbel0.trans (HI.out.2.mono (by omega))).trans (hbe.mono (by omega))).setCell (by simp) _
        refine ⟨by simp, .inl ⟨_, _, rfl, run_takeDeferred (HSET.out _ _ hKD), ?_⟩⟩
        refine ⟨.int .i64 0, by simp [results, Tryz.results56, go_sem, hcl], by rw [HCH.out, if_neg hdeep, HRR.out]; rfl, hbf.trans (belowK_b (w := w) (Nat.le_refl _) _ D _ _ (by omega) (HSET.out _ _ hKD) rfl rfl)⟩
  case stop =>
    rintro D c pre W hD hSp ⟨⟨rfl, hpl⟩, hI⟩ hK
    have hsz2 : 256 < t.size := by
      have h1 := hSp.length_le
      have h2 : a.tr.size = t.size := by rw [ha]
      rw [List.length_map, AT.items_len] at h1
      dsimp only at h1
      omega
    have HI := Lib.hid hI
    have HK := Lib.hid hK
    clear hI hK hSp
    gi_wp2
    have hcl := fin_cell HI.out.c1 (show w.heap.size + 1 ≠ D by omega) (.deferred none)
    refine ⟨by simp, .inl ⟨_, _, rfl, run_takeDeferred HK.out, ?_⟩⟩
    refine ⟨.int .i64 5, by simp [results, Tryz.results56, go_sem, hcl], by unfold checkI; rw [if_pos hsz2], (hbel0.trans (HI.out.2.mono (by omega))).trans (belowK_b (w := w) (Nat.le_refl _) _ D _ _ (by omega) HK.out rfl rfl)⟩
end Go.Proofs.YtbiacjkkgddclaaGreat
namespace Go.Proofs.YtbiacjkkgddclaaGreat
open Go Go.RowKit Go.Shelf

def zVl : Vl := ⟨0, 0, 0, ByteArray.mk #[], false, 0⟩
def zCn : Cn := ⟨0, 0, 0, 0, false, false⟩
def zNd : ND := ⟨0, zVl, ByteArray.mk #[], zCn, zCn, 0⟩
def zTr : Tr := .mk zNd []
def zCt : Ct := ⟨0, zVl, zTr⟩
theorem zNd_ok : zNd.ok := by unfold ND.ok Vl.ok Cn.ok i64; decide
/-- may a content be? -/
def rightC (x : Ct) : Bool :=
  if x.k = 0 then sameC x zCt else if x.k = 1 then sameB x.t zTr && (decide (x.v.k ≠ 0) && valRight x.v) else if x.k = 2 then decide (x.v = zVl) && decide (checkI x.t = 0) else false
theorem slAt_nil (w : World) (B : Nat) : SlAt w B none 0 [] := ⟨by simp, by omega, .inl rfl⟩

set_option maxRecDepth 100000 in
set_option maxHeartbeats 2000000 in
theorem cright_c (x : Ct) (w : World) (B : Nat) (A : Option Addr) (c : Nat) (hv : x.v.ok) (hd : x.t.d.ok) (hs : SlAt w B A c x.t.l) (hB : B ≤ w.heap.size) (hsz : x.t.size ≤ 1099511627776) :
    Calls Tryz.prog 30 #[contV x A c] w fun e w' => e = .returned (.bool (rightC x)) ∧ Below w.heap.size w w' := by
  obtain ⟨W0, hW0⟩ : ∃ W0, W0 = w.alloc (.cells (contA x A c) 37) := ⟨_, rfl⟩
  have hbel : Below w.heap.size w W0 := by rw [hW0]; exact (Below.refl _ w).alloc (Nat.le_refl _) _
  have hz0 : W0.heap.size = w.heap.size + 1 := by rw [hW0]; simp
  have hk0 : W0.heap[w.heap.size]? = some (.cells (contA x A c) 37) := by rw [hW0]; exact heap_alloc_new _ _
  have hsl : ∀ wx, Below W0.heap.size W0 wx → SlAt wx B A c x.t.l := fun wx hx => (hs.below (hbel.mono hB)).below (hx.mono (by omega))
  have hS : ∀ wx, Below W0.heap.size W0 wx → Calls Tryz.prog 53 #[.agg (contA x A c), .agg (contA zCt none 0)] wx fun e w' => e = .returned (.bool (sameC x zCt)) ∧ Below wx.heap.size wx w' := fun wx hx => csame_c x zCt wx B A none c 0 hd (hsl wx hx) zNd_ok (slAt_nil _ _) (by have := hx.size; omega) hsz
  have hT : ∀ wx, Below W0.heap.size W0 wx → Calls Tryz.prog 54 #[nodeV x.t.d A x.t.l.length c, .agg (nodeA zNd none 0 0)] wx fun e w' => e = .returned (.bool (sameB x.t zTr)) ∧ Below wx.heap.size wx w' := fun wx hx => tsame_c x.t zTr wx B A none c 0 hd (hsl wx hx) zNd_ok (slAt_nil _ _) (by have := hx.size; omega) hsz
  have hV := fun wx => valRight_any x.v hv wx
  have hC := fun wx (hx : Below W0.heap.size W0 wx) => check_c wx B (by have := hx.size; omega) x.t A c hd (hsl wx hx) hsz
  have hE : ∀ wx, (Op.equalIn 10000 26 (.agg x.v.cells.toArray) (.agg zVl.cells.toArray)).run Tryz.prog wx = .ok (decide (x.v = zVl)) wx := fun wx => eqV wx x.v zVl
  have hrow := fun wx (hx : Below W0.heap.size W0 wx) => cont_row ((hx.block w.heap.size (by omega)).trans hk0)
  obtain ⟨CA, hCA⟩ : ∃ C, C = contA x A c := ⟨_, rfl⟩
  rw [contV, ← hCA]
  rw [← hCA] at hW0 hk0 hS
  have hinf := infNl x.t.d A x.t.l.length c
  have hiv := infVl x.v
  have hic := infC
  rw [show (29 : Nat) = CA.size by rw [hCA]; rfl] at hic
  obtain ⟨b, hb⟩ : ∃ b, b = w.heap.size := ⟨_, rfl⟩
  have e0 := (hrow W0 (Below.refl _ _)).1
  have hr1 := fun wx hx => (hrow wx hx).2.1
  have hvk : ∀ wx, Below W0.heap.size W0 wx → wx.cell? ⟨w.heap.size, 1, none⟩ = some (.int .i64 x.v.k) := fun wx hx => hr1 wx hx 0 _ rfl
  have hr7 := fun wx hx => (hrow wx hx).2.2
  rw [nodeV] at hT
  obtain ⟨r, hr⟩ : ∃ r, rightC x = r := ⟨_, rfl⟩
  rw [hr]
  unfold rightC at hr
  obtain ⟨N, hN⟩ : ∃ N, N = nodeA x.t.d A x.t.l.length c := ⟨_, rfl⟩
  rw [nodeV, ← hN] at hC
  rw [← hN] at hT hr7 hinf
  clear hrow hd hs hCA hN hv hsl
  obtain ⟨k, v, t⟩ := x
  dsimp only at hT hV e0 hr1 hr7 hr hinf hiv hC hS hE hvk
  obtain ⟨vc, hvc⟩ : ∃ u, u = v.cells := ⟨_, rfl⟩
  have hva : v.arr = vc.toArray := by rw [hvc]; rfl
  rw [hva] at hV
  rw [← hvc] at hr1 hiv hE
  rw [← hb] at e0 hr1 hr7 hz0 hvk hk0
  have HT := Lib.hid hT
  have HV := Lib.hid hV
  have HS := Lib.hid hS
  have HC := Lib.hid hC
  have HI := Lib.hid hinf
  have HJ := Lib.hid hiv
  have HIC := Lib.hid hic
  have HR1 := Lib.hid hr1
  have HR7 := Lib.hid hr7
  have HR := Lib.hid hr
  have HW := Lib.hid hW0
  have HK0 := Lib.hid hk0
  have HBL := Lib.hid hbel
  have HVK := Lib.hid hvk
  clear hT hV hS hC hinf hiv hic hr1 hr7 hr hW0 hvc hva hbel hk0 hvk
  have HB := Lib.hid hb
  have hb00 : Below W0.heap.size W0 W0 := Below.refl _ _
  clear hb
  by_cases k0 : k = 0
  · subst k0
    clear hE
    have hr := HR.out
    rw [if_pos rfl] at hr
    have HS1 := Lib.hid (HS.out W0 hb00)
    rw [hr] at HS1
    clear hr
    go_enter Tryz.func30, Tryz.ntmps30
    go_upto_region 1 with (fail)
    rw [← HW.out, ← HB.out]
    go_wp2_with (first | (refine wpList_row rfl 37 _ rfl b rfl 37 CA (0, 0) _ HK0.out undC rfl HIC.out ?_) | (go_at_call 53; refine HS1.out.mono ?_; rintro e w2 ⟨rfl, hbe⟩))
    go_ret
    exact ⟨rfl, HBL.out.trans (hbe.mono HBL.out.size)⟩
  have q0 : (k == 0) = false := by simpa using k0
  by_cases k1 : k = 1
  · subst k1
    clear hE
    have hr := HR.out
    rw [if_neg (by decide), if_pos rfl] at hr
    cases ht : sameB t zTr with
    | false =>
      have HT1 := Lib.hid (HT.out W0 hb00)
      rw [ht] at hr HT1
      go_enter Tryz.func30, Tryz.ntmps30
      go_upto_region 1 with (fail)
      rw [← HW.out, ← HB.out]
      go_wp2_with (first | (refine wpList_mid rfl 35 _ rfl b 7 rfl N.toList _ (HR7.out _ hb00) undN rfl HI.out ?_; simp only [Array.toArray_toList]) | (go_at_call 54; refine HT1.out.mono ?_; rintro e w2 ⟨rfl, hbe⟩))
      go_ret
      exact ⟨ret_bool (by rw [← hr]; simp), HBL.out.trans (hbe.mono HBL.out.size)⟩
    | true =>
      have HT1 := Lib.hid (HT.out W0 hb00)
      rw [ht] at hr HT1
      by_cases vk : v.k = 0
      · have qv : (v.k != 0) = false := by simpa using vk
        rw [decide_eq_false (by simpa using vk)] at hr
        go_enter Tryz.func30, Tryz.ntmps30
        go_upto_region 1 with (fail)
        rw [← HW.out, ← HB.out]
        go_wp2_with (first | (refine wpList_mid rfl 35 _ rfl b 7 rfl N.toList _ (HR7.out _ hb00) undN rfl HI.out ?_; simp only [Array.toArray_toList]) | (go_at_call 54; refine HT1.out.mono ?_; rintro e w2 ⟨rfl, hbe⟩; have hvk2 := HVK.out _ hbe))
        go_ret
        exact ⟨ret_bool (by rw [← hr]; simp), HBL.out.trans (hbe.mono HBL.out.size)⟩
      · have qv : (v.k != 0) = true := by simpa using vk
        rw [decide_eq_true vk] at hr
        go_enter Tryz.func30, Tryz.ntmps30
        go_upto_region 1 with (fail)
        rw [← HW.out, ← HB.out]
        go_wp2_with (first | (refine wpList_mid rfl 35 _ rfl b 7 rfl N.toList _ (HR7.out _ hb00) undN rfl HI.out ?_; simp only [Array.toArray_toList]) | (go_at_call 54; refine HT1.out.mono ?_; rintro e w2 ⟨rfl, hbe⟩; have hvk2 := HVK.out _ hbe) | (refine wpList_mid rfl 26 _ rfl b 1 rfl vc _ (HR1.out _ hbe) undVl rfl HJ.out ?_) | (go_at_call 55; refine (HV.out _).mono ?_; rintro e w3 ⟨rfl, hb3⟩))
        go_ret
        exact ⟨ret_bool (by rw [← hr]; simp), HBL.out.trans ((hbe.trans (hb3.mono hbe.size)).mono HBL.out.size)⟩
  have q1 : (k == 1) = false := by simpa using k1
  by_cases k2 : k = 2
  · subst k2
    have hr := HR.out
    rw [if_neg (by decide), if_neg (by decide), if_pos rfl] at hr
    by_cases ev : v = zVl
    · have hE1 : ∀ wx, (Op.equalIn 10000 26 (.agg vc.toArray) (.agg zVl.cells.toArray)).run Tryz.prog wx = .ok true wx := fun wx => by have := hE wx; rwa [decide_eq_true ev] at this
      dsimp only [zVl, Vl.cells] at hE1
      rw [decide_eq_true ev] at hr
      have HE := Lib.hid hE1
      obtain ⟨ck, hck⟩ : ∃ ck, checkI t = ck := ⟨_, rfl⟩
      have HC1 := Lib.hid (HC.out W0 hb00)
      rw [hck] at HC1 hr
      clear hE hck
      by_cases ec : ck = 0
      · subst ec
        go_enter Tryz.func30, Tryz.ntmps30
        go_upto_region 1 with (fail)
        rw [← HW.out, ← HB.out]
        go_wp2_with (first | (refine wpList_mid rfl 35 _ rfl b 7 rfl N.toList _ (HR7.out _ hb00) undN rfl HI.out ?_; simp only [Array.toArray_toList]) | (refine wpList_mid rfl 26 _ rfl b 1 rfl vc _ (HR1.out _ hb00) undVl rfl HJ.out ?_) | (go_at_call 56; refine HC1.out.mono ?_; rintro e w2 ⟨rfl, hbe⟩))
        go_ret
        exact ⟨ret_bool (by rw [← hr]; simp), HBL.out.trans (hbe.mono HBL.out.size)⟩
      · have qc : (ck == 0) = false := by simpa using ec
        go_enter Tryz.func30, Tryz.ntmps30
        go_upto_region 1 with (fail)
        rw [← HW.out, ← HB.out]
        go_wp2_with (first | (refine wpList_mid rfl 35 _ rfl b 7 rfl N.toList _ (HR7.out _ hb00) undN rfl HI.out ?_; simp only [Array.toArray_toList]) | (refine wpList_mid rfl 26 _ rfl b 1 rfl vc _ (HR1.out _ hb00) undVl rfl HJ.out ?_) | (go_at_call 56; refine HC1.out.mono ?_; rintro e w2 ⟨rfl, hbe⟩))
        go_ret
        exact ⟨ret_bool (by rw [← hr]; simp [ec]), HBL.out.trans (hbe.mono HBL.out.size)⟩
    · have hE1 : ∀ wx, (Op.equalIn 10000 26 (.agg vc.toArray) (.agg zVl.cells.toArray)).run Tryz.prog wx = .ok false wx := fun wx => by have := hE wx; rwa [decide_eq_false ev] at this
      dsimp only [zVl, Vl.cells] at hE1
      rw [decide_eq_false ev] at hr
      clear hE
      go_enter Tryz.func30, Tryz.ntmps30
      go_upto_region 1 with (fail)
      rw [← HW.out, ← HB.out]
      go_wp2_with (first | (refine wpList_mid rfl 26 _ rfl b 1 rfl vc _ (HR1.out _ hb00) undVl rfl HJ.out ?_))
      go_ret
      exact ⟨ret_bool (by rw [← hr]; simp), HBL.out⟩
  have q2 : (k == 2) = false := by simpa using k2
  clear hE
  have hr := HR.out
  rw [if_neg k0, if_neg k1, if_neg k2] at hr
  have HR2 := Lib.hid hr
  clear hr
  go_enter Tryz.func30, Tryz.ntmps30
  go_upto_region 1 with (fail)
  rw [← HW.out, ← HB.out]
  go_wp2
  go_ret
  exact ⟨ret_bool HR2.out, HBL.out⟩
end Go.Proofs.YtbiacjkkgddclaaGreat
