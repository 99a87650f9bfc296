/- The functions that TreeMaps hands to tree.Map. TreeMaps: the plain law. -/
import Derived.Test.YtggpffipijoddaaDoorMpM
import Derived.Test.YtggpffipijoddaaDoorOvM
import Derived.Laws.Rows
import Derived.StillTail
import Derived.StillTailTactics
namespace Go.Proofs.YtggpffipijoddaaDoor
open Go.RowKit Go.Shelf

/-- how often f was called is kept in a variable of its own. -/
def JSeen (sb : Nat) (w0 : World) (k : Nat) (w : World) : Prop := ∃ v : Int, i64 v ∧ w.heap[sb]? = some (.cells #[.int .i64 v] 3) ∧ (k ≤ 4611686018427387904 → v = k) ∧ Below sb w0 w
theorem JSeen.ok {sb : Nat} {w0 : World} : JOk (sb + 1) (JSeen sb w0) := fun k w w' ⟨v, hv, hs, hk, hb⟩ hw => by
  have hlt : sb < w.heap.size := (Array.getElem?_eq_some_iff.1 hs).1
  exact ⟨v, hv, (hw.block sb (by omega)).trans hs, hk, hb.trans (hw.mono (by omega))⟩
/-- one, and the rows of the nodes below. -/
def sumR : List Tr → Int → Int
  | [], k => k
  | t :: ts, k => sumR ts (wrap64 (k + t.d.rows))
theorem sumR_snoc (t : Tr) : ∀ (l : List Tr) (k : Int), sumR (l ++ [t]) k = wrap64 (sumR l k + t.d.rows)
  | [], _ => rfl
  | _ :: ts, _ => sumR_snoc t ts _
theorem sumR_take {l : List Tr} {j : Nat} (hj : j < l.length) : sumR (l.take (j + 1)) 1 = wrap64 (sumR (l.take j) 1 + l[j].d.rows) := by
  rw [List.take_succ_eq_append_getElem hj, sumR_snoc]
theorem wrap_i64 (n : Int) : i64 (wrap64 n) := by unfold i64 wrap64; omega
theorem sumR_i64 : ∀ (l : List Tr) (k : Int), i64 k → i64 (sumR l k)
  | [], _, h => h
  | _ :: ts, _, _ => sumR_i64 ts _ (wrap_i64 _)
/-- what the first function makes of a node. -/
def cntF (t : Tr) : Tr := .mk { t.d with rows := sumR t.l 1 } t.l

set_option maxRecDepth 100000 in
set_option maxHeartbeats 4000000 in
theorem maps1_c (w0 : World) (sb : Nat) : FOk Tryd.prog 20 #[.pointer (some ⟨sb, 0, none⟩)] cntF (sb + 1) (JSeen sb w0) := by
  intro k wx d l A c G hj hlo hd hs hG hl
  obtain ⟨v, hv, hsb, hvk, hbl⟩ := hj
  obtain ⟨n, hn⟩ : ∃ n, n = l.length := ⟨_, rfl⟩
  obtain ⟨N, hN⟩ : ∃ N, N = nodeA d A n c := ⟨_, rfl⟩
  obtain ⟨W, hW⟩ : ∃ W, W = (wx.alloc (.cells N 34)).alloc (.cells (nodeA zD none 0 0) 34) := ⟨_, rfl⟩
  have hWs : W.heap.size = wx.heap.size + 2 := by rw [hW]; simp
  have hk0 : W.heap[wx.heap.size]? = some (.cells N 34) := by rw [hW]; exact (heapOld _ _ _ (by simp)).trans (heap_alloc_new _ _)
  have hk1 : W.heap[wx.heap.size + 1]? = some (.cells (nodeA zD none 0 0) 34) := by
    rw [hW]; have := heap_alloc_new (wx.alloc (.cells N 34)) (.cells (nodeA zD none 0 0) 34); rwa [World.size_alloc] at this
  have hWb : ∀ b, b < wx.heap.size → W.heap[b]? = wx.heap[b]? := fun b hb => by rw [hW]; exact (heapOld _ _ _ (by simp; omega)).trans (heapOld _ _ _ hb)
  have hsW : W.heap[sb]? = some (.cells #[.int .i64 v] 3) := (hWb sb (by omega)).trans hsb
  have hsc : W.cell? ⟨sb, 0, none⟩ = some (.int .i64 v) := by rw [Lib.cell_of_heap hsW]; rfl
  have hsf : W.frozen? ⟨sb, 0, none⟩ = false := by unfold World.frozen?; rw [hsW]; simp
  have hNs : N.size = 22 := by rw [hN]; rfl
  have hN20 : N.setIfInBounds 20 (.int .i64 (sumR l 1)) = nodeA (cntF (.mk d l)).d A n c := by rw [hN]; rfl
  have hN21 : N[21]? = some (.slice A n c) := by rw [hN]; exact (nodeA_all d A n c).2.2.2.2.2.2.2.2.2.2.2.2.2.2.2.2.2.2.2.2.2
  rw [nodeV, ← hn, ← hN]
  have HW := Lib.hid hW
  have HWB := Lib.hid hWb
  have HL := Lib.hid hn
  have HWS := Lib.hid hWs
  have HK0 := Lib.hid hk0
  have HK1 := Lib.hid hk1
  have HSW := Lib.hid hsW
  have HS := Lib.hid hs
  have HG := Lib.hid hG
  have HD := Lib.hid hd
  have HN := Lib.hid hN
  have HN20 := Lib.hid hN20
  have HN21 := Lib.hid hN21
  have HVK := Lib.hid hvk
  have HBL := Lib.hid hbl
  have HNS := Lib.hid hNs
  rw [hn.symm] at hl
  clear hW hWb hn hWs hk0 hk1 hsW hs hG hd hN hN20 hN21 hvk hbl hNs hv hsb
  go_enter Tryd.func20, Tryd.ntmps20
  go_wp2_with (first | (refine wpList_nodeVar rfl rfl (wx.heap.size + 1) (by simp) ?_; change wpList _ _ _ _ _ ((wx.alloc (.cells N 34)).alloc (.cells (nodeA zD none 0 0) 34)); rw [← HW.out]) | fail)
  obtain ⟨Wc, hWc⟩ : ∃ Wc, Wc = W.setCell ⟨sb, 0, none⟩ (.int .i64 (wrap64 (v + 1))) := ⟨_, rfl⟩
  rw [← hWc]
  have hcs : Wc.heap.size = wx.heap.size + 2 := by rw [hWc, size_setCell]; exact HWS.out
  have hcb : ∀ b, b ≠ sb → Wc.heap[b]? = W.heap[b]? := fun b hb => by rw [hWc]; exact heap_setCell_other _ _ _ _ hb
  have hcsb : Wc.heap[sb]? = some (.cells #[.int .i64 (wrap64 (v + 1))] 3) := by rw [hWc]; exact heap_setCell_same _ _ _ _ _ _ HSW.out
  have hc0 : Wc.heap[wx.heap.size]? = some (.cells N 34) := (hcb _ (by omega)).trans HK0.out
  have hc1 : Wc.heap[wx.heap.size + 1]? = some (.cells (nodeA zD none 0 0) 34) := (hcb _ (by omega)).trans HK1.out
  have h21 : Wc.cell? ⟨wx.heap.size, 21, none⟩ = some (.slice A n c) := by rw [Lib.cell_of_heap hc0]; exact HN21.out
  have hf0 : Wc.frozen? ⟨wx.heap.size, 20, none⟩ = false := by unfold World.frozen?; rw [hc0]; simp
  have h20 : Wc.cell? ⟨wx.heap.size, 20, none⟩ = some (.int .i64 d.rows) := by rw [Lib.cell_of_heap hc0, HN.out]; exact (nodeA_all d A n c).2.2.2.2.2.2.2.2.2.2.2.2.2.2.2.2.2.2.2.2.1
  have hcx : ∀ b, b < wx.heap.size → b ≠ sb → Wc.heap[b]? = wx.heap[b]? := fun b h1 h2 => (hcb b h2).trans (HWB.out b h1)
  have hBc : Below sb wx Wc := by rw [hWc, HW.out]; exact ⟨rfl, rfl, rfl, by simp [size_setCell]; omega, fun b hb => (heap_setCell_other _ _ _ _ (by simp; omega)).trans ((heapOld _ _ _ (by simp; omega)).trans (heapOld _ _ _ (by omega)))⟩
  have HBC := Lib.hid hBc
  have HCS := Lib.hid hcs
  have HCB := Lib.hid hcsb
  have HC0 := Lib.hid hc0
  have HC1 := Lib.hid hc1
  have HCX := Lib.hid hcx
  clear hBc hWc hcs hcb hcsb hc0 hc1 hcx hsc hsf
  have hcap : n ≤ c ∧ c ≤ 9223372036854775807 := by have := HS.out; exact ⟨by rw [HL.out]; exact this.1, this.2.1⟩
  obtain ⟨hcap1, hcap2⟩ := hcap
  go_loop [4, 5] (fun kv i => ∃ j : Nat, j ≤ n ∧ i = .int .i64 j ∧ kv = .int .i64 (sumR (l.take j) 1)) (fun _ i => n - (intOf i).toNat)
  case atStart => exact ⟨0, Nat.zero_le _, rfl, rfl⟩
  case round =>
    obtain ⟨j, hj, rfl, rfl⟩ := hrel
    by_cases hlt : j < n
    · have hjl : j < l.length := by rw [← HL.out]; exact hlt
      obtain ⟨b', o', hA, hnd⟩ := HS.out.get j hjl
      subst hA
      obtain ⟨hgb, -, kA, kc, hkc, -⟩ := hnd.open_
      have hbb := HG.out _ _ hgb
      have hr := (hkc.all).2.2.2.2.2.2.2.2.2.2.2.2.2.2.2.2.2.2.2.2.1
      have hr2 : Wc.cell? ⟨b', o' + j * 22 + 20, none⟩ = some (.int .i64 l[j].d.rows) := (World.cell?_of_block (a := ⟨b', o' + j * 22 + 20, none⟩) (HCX.out b' (by omega) (by omega))).trans hr
      have hst := sumR_take hjl
      generalize l[j].d.rows = rj at hr2 hst
      have HST := Lib.hid hst
      have hlt0 : (0 : Int) ≤ j := by omega
      have hlt2 : (j : Int) < n := by omega
      clear hr hkc hnd hgb hst
      go_wp2
      go_round
      case rel => exact ⟨j + 1, by omega, by go_num, by rw [HST.out]⟩
      case measure => simp [intOf]; omega
    · have hge : ¬ (j : Int) < n := by omega
      have hjn : j = l.length := by rw [← HL.out]; omega
      have hfull : l.take j = l := by rw [hjn]; exact List.take_length
      rw [hfull]
      obtain ⟨s, hs⟩ : ∃ s, s = sumR l 1 := ⟨_, rfl⟩
      rw [← hs]
      have hN' := HN20.out
      rw [← hs] at hN'
      have hw0 : (Wc.setCell ⟨wx.heap.size, 20, none⟩ (.int .i64 s)).heap[wx.heap.size]? = some (.cells (nodeA (cntF (.mk d l)).d A n c) 34) := by
        rw [heap_setCell_same _ _ _ _ _ _ HC0.out, hN']
      have hw1 : (Wc.setCell ⟨wx.heap.size, 20, none⟩ (.int .i64 s)).heap[wx.heap.size + 1]? = some (.cells (nodeA zD none 0 0) 34) := (heap_setCell_other _ _ _ _ (by simp)).trans HC1.out
      obtain ⟨N', hNN⟩ : ∃ N', N' = nodeA (cntF (.mk d l)).d A n c := ⟨_, rfl⟩
      rw [← hNN] at hw0
      have hNs' : N'.size = 22 := by rw [hNN]; rfl
      have hNo' : N'.all (·.oneCell') = true := by rw [hNN]; exact node_one _ _ _ _
      have HW0 := Lib.hid hw0
      have HW1 := Lib.hid hw1
      have HNS' := Lib.hid hNs'
      have HNO' := Lib.hid hNo'
      have HNN := Lib.hid hNN
      clear hw0 hw1 hNs' hNo' hNN hN' hfull hjn hs
      go_wp2_with (first | (refine wpList_row rfl 34 _ rfl wx.heap.size rfl 34 N' (0, 0) _ HW0.out undN rfl (infS HNS'.out) ?_) | (refine wpList_store_row rfl 34 _ _ rfl (wx.heap.size + 1) N' rfl rfl 34 (nodeA zD none 0 0) HW1.out (infS HNS'.out) HNS'.out.symm HNO'.out ?_) | fail)
      refine bodyPost_ret (v := .agg N') (results_cell_row rfl _ _ (wx.heap.size + 1) 34 N' (0, 0) _ rfl (setRow_heap _ _ _ _ _ _ HW1.out) undN rfl (infS HNS'.out)) rfl ?_
      have hcs := HCS.out
      have hkeep : ∀ b, b < wx.heap.size → b ≠ sb → ((Wc.setCell ⟨wx.heap.size, 20, none⟩ (.int .i64 s)).setRow (wx.heap.size + 1) N').heap[b]? = wx.heap[b]? := fun b h1 h2 =>
        (setRow_other _ _ _ _ (by omega)).trans ((heap_setCell_other _ _ _ _ (by simp; omega)).trans (HCX.out b h1 h2))
      refine ⟨A, c, by rw [HNN.out, nodeV, show (cntF (.mk d l)).l.length = n from HL.out.symm], ?_, ?_, ?_, ?_, fun b h1 h2 => hkeep b h2 (by omega)⟩
      · obtain ⟨q1, q2, q3, q4, q5, -⟩ := HD.out
        exact ⟨q1, q2, q3, q4, q5, sumR_i64 _ _ (by unfold i64; omega)⟩
      · exact HS.out.keep (fun b o hg => hg) (fun b o hg i _ => by have := HG.out b o hg; exact World.cell?_of_block (a := ⟨b, o + i, none⟩) (hkeep b this.2 (by omega)))
      · refine ⟨wrap64 (v + 1), wrap_i64 _, ?_, fun hk => ?_, ?_⟩
        · exact (setRow_other _ _ _ _ (by omega)).trans ((heap_setCell_other _ _ _ _ (by simp; omega)).trans HCB.out)
        · rw [HVK.out (by omega)]; unfold wrap64; omega
        · have hb := HBL.out
          exact ⟨HBC.out.os.trans hb.os, HBC.out.tape.trans hb.tape, HBC.out.output.trans hb.output, by have := hb.size; simp [size_setCell]; omega, fun b h1 => (hkeep b (by omega) (by omega)).trans (hb.block b h1)⟩
      · simp [size_setCell]; omega

/-- which of the nodes below is taken. -/
def pickI (by_ : Int) (n : Nat) : Nat := (wrap64 (by_.tmod n + n)).tmod n |>.toNat
theorem pickI_eq (by_ : Int) (n : Nat) (h : 0 < n) (hn : n ≤ 1048576) : (wrap64 (by_.tmod n + n)).tmod n = (pickI by_ n : Nat) ∧ pickI by_ n < n := by
  have h1 : -(n : Int) < by_.tmod n ∧ by_.tmod n < n := by
    have h2 := Int.natAbs_tmod by_ n
    have h3 : by_.natAbs % n < n := Nat.mod_lt _ h
    simp only [Int.natAbs_natCast] at h2
    omega
  have h2 : wrap64 (by_.tmod n + n) = by_.tmod n + n := by unfold wrap64; omega
  unfold pickI
  rw [h2]
  have h3 : 0 ≤ by_.tmod n + n := by omega
  have h4 : 0 ≤ (by_.tmod n + n).tmod n := Int.tmod_nonneg _ h3
  have h5 : (by_.tmod n + n).tmod n < n := Int.tmod_lt_of_pos _ (by omega)
  omega
/-- what the second function makes of a node. -/
def pickF (by_ : Int) (t : Tr) : Tr := match t.l[pickI by_ t.l.length]? with | some k => k | none => t
theorem pickF_none (by_ : Int) (t : Tr) (h : t.l = []) : pickF by_ t = t := by unfold pickF; rw [h]; rfl
theorem pickF_some (by_ : Int) (t : Tr) (h : pickI by_ t.l.length < t.l.length) : pickF by_ t = t.l[pickI by_ t.l.length] := by unfold pickF; rw [List.getElem?_eq_getElem h]
def JPick (lo : Nat) (w0 : World) (_ : Nat) (w : World) : Prop := Below lo w0 w
theorem JPick.ok {lo : Nat} {w0 : World} : JOk lo (JPick lo w0) := fun _ _ _ h hw => Below.trans h hw

set_option maxRecDepth 100000 in
set_option maxHeartbeats 4000000 in
theorem maps2_c (w0 : World) (lo bb : Nat) (by_ : Int) (hbb : w0.heap[bb]? = some (.cells #[.int .i64 by_] 3)) (hbl : bb < lo) (hlo0 : lo ≤ w0.heap.size) : FOk Tryd.prog 21 #[.pointer (some ⟨bb, 0, none⟩)] (pickF by_) lo (JPick lo w0) := by
  intro k wx d l A c G hj hlo hd hs hG hl
  obtain ⟨n, hn⟩ : ∃ n, n = l.length := ⟨_, rfl⟩
  obtain ⟨N, hN⟩ : ∃ N, N = nodeA d A n c := ⟨_, rfl⟩
  obtain ⟨W, hW⟩ : ∃ W, W = (wx.alloc (.cells N 34)).alloc (.cells (nodeA zD none 0 0) 34) := ⟨_, rfl⟩
  have hWs : W.heap.size = wx.heap.size + 2 := by rw [hW]; simp
  have hk0 : W.heap[wx.heap.size]? = some (.cells N 34) := by rw [hW]; exact (heapOld _ _ _ (by simp)).trans (heap_alloc_new _ _)
  have hk1 : W.heap[wx.heap.size + 1]? = some (.cells (nodeA zD none 0 0) 34) := by
    rw [hW]; have := heap_alloc_new (wx.alloc (.cells N 34)) (.cells (nodeA zD none 0 0) 34); rwa [World.size_alloc] at this
  have hWb : Below wx.heap.size wx W := by rw [hW]; exact ((Below.refl _ wx).alloc (Nat.le_refl _) _).alloc (by simp) _
  have hby : W.cell? ⟨bb, 0, none⟩ = some (.int .i64 by_) := by rw [Lib.cell_of_heap ((hWb.block bb (by omega)).trans ((Below.block hj bb hbl).trans hbb))]; rfl
  have hNs : N.size = 22 := by rw [hN]; rfl
  have hNo : N.all (·.oneCell') = true := by rw [hN]; exact node_one _ _ _ _
  have hN21 : W.cell? ⟨wx.heap.size, 21, none⟩ = some (.slice A n c) := by rw [Lib.cell_of_heap hk0, hN]; exact (nodeA_all d A n c).2.2.2.2.2.2.2.2.2.2.2.2.2.2.2.2.2.2.2.2.2
  rw [nodeV, ← hn, ← hN]
  have HW := Lib.hid hW
  have HWB := Lib.hid hWb
  have HL := Lib.hid hn
  have HWS := Lib.hid hWs
  have HK0 := Lib.hid hk0
  have HK1 := Lib.hid hk1
  have HS := Lib.hid hs
  have HG := Lib.hid hG
  have HD := Lib.hid hd
  have HN := Lib.hid hN
  have HNS := Lib.hid hNs
  have HNO := Lib.hid hNo
  have HJ := Lib.hid hj
  rw [hn.symm] at hl
  have hcap : n ≤ c ∧ c ≤ 9223372036854775807 := by have := HS.out; exact ⟨by rw [HL.out]; exact this.1, this.2.1⟩
  obtain ⟨hcap1, hcap2⟩ := hcap
  clear hW hWb hn hWs hk0 hk1 hs hG hd hN hNs hNo hj
  by_cases h0 : n = 0
  · have hl0 : l = [] := List.length_eq_zero_iff.1 (by rw [← HL.out]; exact h0)
    subst h0
    go_enter Tryd.func21, Tryd.ntmps21
    go_wp2_with (first | (refine wpList_nodeVar rfl rfl (wx.heap.size + 1) (by simp) ?_; change wpList _ _ _ _ _ ((wx.alloc (.cells N 34)).alloc (.cells (nodeA zD none 0 0) 34)); rw [← HW.out]) | (refine wpList_row rfl 34 _ rfl wx.heap.size rfl 34 N (0, 0) _ HK0.out undN rfl (infS HNS.out) ?_) | (refine wpList_store_row rfl 34 _ _ rfl (wx.heap.size + 1) N rfl rfl 34 (nodeA zD none 0 0) HK1.out (infS HNS.out) HNS.out.symm HNO.out ?_) | fail)
    refine bodyPost_ret (v := .agg N) (results_cell_row rfl _ _ (wx.heap.size + 1) 34 N (0, 0) _ rfl (setRow_heap _ _ _ _ _ _ HK1.out) undN rfl (infS HNS.out)) rfl ?_
    have hkeep : ∀ b, b < wx.heap.size → (W.setRow (wx.heap.size + 1) N).heap[b]? = wx.heap[b]? := fun b h1 => (setRow_other _ _ _ _ (by omega)).trans (HWB.out.block b h1)
    have hb2 : Below wx.heap.size wx (W.setRow (wx.heap.size + 1) N) := below_row HWB.out (by omega) _
    rw [pickF_none by_ (.mk d l) hl0]
    refine ⟨A, c, by rw [HN.out, nodeV, hl0]; rfl, HD.out, HS.out.keep (fun b o hg => hg) (fun b o hg i _ => World.cell?_of_block (a := ⟨b, o + i, none⟩) (hkeep b (HG.out b o hg).2)), HJ.out.trans (hb2.mono hlo), hb2.size, fun b _ h => hkeep b h⟩
  · have hpos : 0 < n := by omega
    obtain ⟨hpi, hpl⟩ := pickI_eq by_ n hpos hl
    obtain ⟨i, hi⟩ : ∃ i, i = pickI by_ n := ⟨_, rfl⟩
    rw [← hi] at hpi hpl
    have hil : i < l.length := by rw [← HL.out]; exact hpl
    obtain ⟨b', o', hA, hnd⟩ := HS.out.get i hil
    subst hA
    obtain ⟨hgb, hkd, kA, kc, hkc, hks⟩ := hnd.open_
    have hbb' := HG.out _ _ hgb
    obtain ⟨cs, e1, e2, e3⟩ := hkc.range (w' := W) (fun p hp => HWB.out.cell (by omega))
    have hinf : (Tryd.prog.info? 34).map (·.size) = some cs.length := by rw [e2]; exact infN
    have hcsz : cs.toArray.size = 22 := by simp [e2]
    have hcso : cs.toArray.all (·.oneCell') = true := by rw [e1]; exact node_one _ _ _ _
    have hpF : pickF by_ (.mk d l) = l[i] := by
      have : i = pickI by_ (Tr.mk d l).l.length := by rw [hi, HL.out]; rfl
      subst this
      exact pickF_some by_ (.mk d l) hil
    have HIN := Lib.hid hinf
    have HRG := Lib.hid e3
    have HCZ := Lib.hid hcsz
    have HCO := Lib.hid hcso
    have HE1 := Lib.hid e1
    have HPF := Lib.hid hpF
    have HKD := Lib.hid hkd
    have HKS := Lib.hid hks
    rw [← IntWalk.i64_left] at hpi
    have hlt0 : (0 : Int) ≤ (i : Int) := by omega
    have hlt2 : (i : Int) < (n : Int) := by omega
    clear hinf e1 e2 e3 hcsz hcso hpF hkd hks hkc hnd hi
    go_enter Tryd.func21, Tryd.ntmps21
    go_wp2_with (first | (refine wpList_nodeVar rfl rfl (wx.heap.size + 1) (by simp) ?_; change wpList _ _ _ _ _ ((wx.alloc (.cells N 34)).alloc (.cells (nodeA zD none 0 0) 34)); rw [← HW.out]) | fail)
    refine wp_region_still_tail 17 (by kernel_rfl) (by kernel_rfl) ?_
    simp only [List.take_succ_cons, List.take_zero, List.drop_succ_cons, List.drop_zero]
    iterate 16 still_step
    refine still_mid rfl 34 _ rfl b' (o' + i * 22) rfl cs _ HRG.out undN rfl HIN.out ?_
    (try simp only [Act.put, List.setIfInBounds_toArray, List.set_cons_zero, List.set_cons_succ])
    refine wpStill_nil ?_
    change wpList _ _ _ _ _ W.drew
    have HK1' : Hid (W.drew.heap[wx.heap.size + 1]? = some (.cells (nodeA zD none 0 0) 34)) := Lib.hid HK1.out
    go_wp2_with (first | (refine wpList_store_row rfl 34 _ _ rfl (wx.heap.size + 1) cs.toArray rfl rfl 34 (nodeA zD none 0 0) HK1'.out (infS HCZ.out) HCZ.out.symm HCO.out ?_) | fail)
    refine bodyPost_ret (v := .agg cs.toArray) (results_cell_row rfl _ _ (wx.heap.size + 1) 34 cs.toArray (0, 0) _ rfl (setRow_heap _ _ _ _ _ _ HK1'.out) undN rfl (infS HCZ.out)) rfl ?_
    have hkeep : ∀ b, b < wx.heap.size → (W.drew.setRow (wx.heap.size + 1) cs.toArray).heap[b]? = wx.heap[b]? := fun b h1 => (setRow_other _ _ _ _ (by omega)).trans (HWB.out.block b h1)
    have hb2 : Below wx.heap.size wx (W.drew.setRow (wx.heap.size + 1) cs.toArray) := below_row HWB.out.drew (by omega) _
    rw [HPF.out]
    exact ⟨kA, kc, by rw [HE1.out], HKD.out, HKS.out.keep (fun b o hg => hg) (fun b o hg i _ => World.cell?_of_block (a := ⟨b, o + i, none⟩) (hkeep b (HG.out b o hg).2)), HJ.out.trans (hb2.mono hlo), hb2.size, fun b _ h => hkeep b h⟩
end Go.Proofs.YtggpffipijoddaaDoor
namespace Go.Proofs.YtggpffipijoddaaDoor
open Go.RowKit Go.Shelf

theorem cnt_mk (d : ND) (l : List Tr) : mapT cntF (.mk d l) = .mk { d with rows := sumR (l.map (mapT cntF)) 1 } (l.map (mapT cntF)) := by rw [mapT_mk]; rfl
theorem cnt_eq (t : Tr) : mapT cntF t = .mk { t.d with rows := sumR (t.l.map (mapT cntF)) 1 } (t.l.map (mapT cntF)) := by obtain ⟨d, l⟩ := t; rw [cnt_mk]; rfl
theorem nodess_flat : ∀ l : List Tr, Tr.nodess l = l.flatMap Tr.nodes
  | [] => by simp [Tr.nodess]
  | t :: ts => by simp [Tr.nodess, nodess_flat ts]
theorem nodes_mk (d : ND) (l : List Tr) : (Tr.mk d l).nodes = .mk d l :: l.flatMap Tr.nodes := by simp [Tr.nodes, nodess_flat]
theorem cnt_nodes (t : Tr) : (mapT cntF t).nodes = t.nodes.map (mapT cntF) := by
  induction t using Tr.ind with
  | _ d l ih =>
    rw [cnt_mk, nodes_mk, nodes_mk, List.map_cons, cnt_mk]
    congr 1
    induction l with
    | nil => rfl
    | cons a l ihl => rw [List.map_cons, List.flatMap_cons, List.flatMap_cons, List.map_append, ih a (by simp), ihl (fun t ht => ih t (by simp [ht]))]
theorem sumR_sizes : ∀ (l : List Tr) (k : Int), (∀ x ∈ l, (mapT cntF x).d.rows = x.size) → 0 ≤ k → k + Tr.sizes l ≤ 9223372036854775807 → sumR (l.map (mapT cntF)) k = k + Tr.sizes l
  | [], k, _, _, _ => by simp [sumR, Tr.sizes]
  | t :: ts, k, h, h0, h1 => by
    simp only [Tr.sizes] at h1
    simp only [List.map_cons, sumR, Tr.sizes]
    rw [h t (by simp), sumR_sizes ts _ (fun x hx => h x (by simp [hx])) (by unfold wrap64; omega) (by unfold wrap64; omega)]
    unfold wrap64; omega
theorem cnt_rows (t : Tr) : t.size ≤ 1048576 → (mapT cntF t).d.rows = t.size := by
  induction t using Tr.ind with
  | _ d l ih =>
    intro h
    rw [Tr.size] at h
    rw [cnt_mk]
    simp only [Tr.d, Tr.size]
    have hle : ∀ x ∈ l, x.size ≤ Tr.sizes l := fun x hx => by
      clear ih h
      induction l with
      | nil => cases hx
      | cons a l ihl =>
        simp only [Tr.sizes]
        rcases List.mem_cons.1 hx with rfl | hx
        · omega
        · have := ihl hx; omega
    rw [sumR_sizes l 1 (fun x hx => ih x hx (by have := hle x hx; omega)) (by omega) (by omega)]
    omega
theorem cnt_len (t : Tr) : (mapT cntF t).l.length = t.l.length := by rw [cnt_eq]; simp [Tr.l]
theorem cnt_d (t : Tr) : (mapT cntF t).d.kind = t.d.kind ∧ (mapT cntF t).d.v = t.d.v ∧ (mapT cntF t).d.name = t.d.name ∧ (mapT cntF t).d.a = t.d.a ∧ (mapT cntF t).d.b = t.d.b := by
  rw [cnt_eq]; exact ⟨rfl, rfl, rfl, rfl, rfl⟩
theorem node_size {t : Tr} : ∀ x ∈ t.nodes, x.size ≤ t.size := by
  induction t using Tr.ind with
  | _ d l ih =>
    intro x hx
    rw [nodes_mk] at hx
    rcases List.mem_cons.1 hx with rfl | hx
    · exact Nat.le_refl _
    · obtain ⟨y, hy, hxy⟩ := List.mem_flatMap.1 hx
      have h1 := ih y hy x hxy
      have : ∀ m : List Tr, y ∈ m → y.size ≤ Tr.sizes m := by
        intro m
        induction m with
        | nil => intro h; cases h
        | cons q m ihm =>
          intro h
          simp only [Tr.sizes]
          rcases List.mem_cons.1 h with rfl | h
          · omega
          · have := ihm h; omega
      have := this l hy
      rw [Tr.size]; omega
/-- a part is taken for the whole. -/
theorem pick_leaf (by_ : Int) (t : Tr) (h : t.l = []) : mapT (pickF by_) t = t := by
  obtain ⟨d, l⟩ := t
  simp only [Tr.l] at h
  subst h
  rw [mapT_mk]; rfl
theorem pick_step (by_ : Int) (t : Tr) (h : pickI by_ t.l.length < t.l.length) : mapT (pickF by_) t = mapT (pickF by_) t.l[pickI by_ t.l.length] := by
  obtain ⟨d, l⟩ := t
  simp only [Tr.l] at h ⊢
  rw [mapT_mk, pickF_some _ _ (by simpa [Tr.l] using h)]
  simp [Tr.l]
end Go.Proofs.YtggpffipijoddaaDoor
