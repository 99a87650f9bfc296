/- The reference's Depth. counterpaneref06.Check. The reference's Right of a content. -/
import Derived.Test.YtbiacjkkgddclaaGreatJ2NoGt
import Derived.Test.YtbiacjkkgddclaaGreatFi9FjQbFk
import Derived.Test.YtbiacjkkgddclaaGreatXsFhTz0Cu
namespace Go.Proofs.YtbiacjkkgddclaaGreat
open Go.RowKit Go.Shelf

theorem ret_int {k : IntKind} {a b : Int} (h : a = b) : Ending.returned (.int k a) = .returned (.int k b) := by rw [h]
theorem depths_append : ∀ (l m : List Tr), Tr.depths (l ++ m) = max (Tr.depths l) (Tr.depths m)
  | [], m => by simp [Tr.depths]
  | t :: l, m => by simp only [List.cons_append, Tr.depths, depths_append l m]; omega
theorem depths_step {l : List Tr} {i : Nat} (hi : i < l.length) : Tr.depths (l.take (i + 1)) = max (Tr.depths (l.take i)) l[i].depth := by
  rw [List.take_succ_eq_append_getElem hi, depths_append]; simp [Tr.depths]
theorem depth_le_size (t : Tr) : t.depth ≤ t.size := by
  induction t using Tr.ind with
  | _ d l ih =>
    simp only [Tr.depth, Tr.size]
    have : Tr.depths l ≤ Tr.sizes l := by
      induction l with
      | nil => simp [Tr.depths, Tr.sizes]
      | cons a l ih2 =>
        have h1 := ih a (by simp)
        have h2 := ih2 (fun t ht => ih t (by simp [ht]))
        simp only [Tr.depths, Tr.sizes]; omega
    omega
theorem depths_le_sizes (l : List Tr) : Tr.depths l ≤ Tr.sizes l := by
  induction l with
  | nil => simp [Tr.depths, Tr.sizes]
  | cons a l ih2 =>
    have h1 := depth_le_size a
    simp only [Tr.depths, Tr.sizes]; omega

set_option maxRecDepth 100000 in
set_option maxHeartbeats 2000000 in
theorem rdepth_c (t : Tr) : ∀ (w : World) (B : Nat) (A : Option Addr) (c : Nat) (_ : t.d.ok) (_ : SlAt w B A c t.l) (_ : B ≤ w.heap.size) (_ : t.size ≤ 1048576),
    Calls Tryz.prog 49 #[nodeV t.d A t.l.length c] w fun e w' => e = .returned (.int .i64 t.depth) ∧ Below w.heap.size w w' := by
  induction t using Tr.ind with | _ d l ih => ?_
  intro w B A c hd hs hB hsz
  have IH := Lib.hid ih
  have HD := Lib.hid hd
  have HS := Lib.hid hs
  clear ih hd hs
  dsimp only [Tr.d, Tr.l] at HD HS ⊢
  obtain ⟨r, hr⟩ : ∃ r, Tr.depth (.mk d l) = r := ⟨_, rfl⟩
  rw [hr]
  simp only [Tr.depth] at hr
  obtain ⟨N, hN⟩ : ∃ N, N = nodeA d A l.length c := ⟨_, rfl⟩
  rw [nodeV, ← hN]
  have hN21 : N[21]? = some (.slice A l.length c) := by rw [hN]; rfl
  have HR := Lib.hid hr
  have hsl := HS.out.1
  have hsc := HS.out.2.1
  obtain ⟨n, hn⟩ : ∃ n, l.length = n := ⟨_, rfl⟩
  rw [hn] at hN21 hsl
  have HN := Lib.hid hn
  have hszl : Tr.sizes l + 1 ≤ 1048576 := by simpa [Tr.size] using hsz
  clear hr hN hn hsz
  have HN21 := Lib.hid hN21
  clear hN21
  go_enter Tryz.func49, Tryz.ntmps49
  go_wp2
  obtain ⟨W, hW⟩ : ∃ W, w.alloc (.cells N 35) = W := ⟨_, rfl⟩
  have hc21 : W.cell? ⟨w.heap.size, 21, none⟩ = some (.slice A n c) := by rw [← hW]; exact (cell_of_row _ _ 21 _ _ _ (World.alloc_heap_new w _)).trans HN21.out
  have hbW : Below w.heap.size w W := by rw [← hW]; exact (Below.refl _ w).alloc (Nat.le_refl _) _
  have hzW : W.heap.size = w.heap.size + 1 := by rw [← hW]; simp
  rw [hW]
  have HZ := Lib.hid hzW
  have HBW := Lib.hid hbW
  have HC := Lib.hid hc21
  clear hW hc21 hbW hzW
  go_loopw [3, 4] (fun v i wr => ∃ j : Nat, j ≤ n ∧ i = .int .i64 j ∧ v = .int .i64 (Tr.depths (l.take j) : Nat) ∧ Below W.heap.size W wr) (fun _ i _ => n - (intOf i).toNat)
  case atStart => exact ⟨0, Nat.zero_le _, rfl, by simp [Tr.depths], Below.refl _ _⟩
  case round =>
    obtain ⟨j, hj, rfl, rfl, hbr⟩ := hrel
    have hc : wr.cell? ⟨w.heap.size, 21, none⟩ = some (.slice A n c) := (hbr.cell (p := ⟨w.heap.size, 21, none⟩) (by have := HZ.out; simp; omega)).trans HC.out
    have hfin : Below w.heap.size w wr := HBW.out.trans (hbr.mono (by have := HZ.out; omega))
    have hdl : Tr.depths (l.take j) ≤ 1048576 := by
      have h1 := depths_le_sizes (l.take j)
      have h2 : Tr.sizes l = Tr.sizes (l.take j) + Tr.sizes (l.drop j) := by rw [← sizes_append, List.take_append_drop]
      omega
    by_cases hlt : j < n
    · have hjl : j < l.length := by rw [HN.out]; exact hlt
      have hst := sizes_take hjl
      obtain ⟨b2, o2, hA, hkn⟩ := HS.out.at_ j hjl
      subst hA
      obtain ⟨hkb, hkd, A2, c2, hkc, hks⟩ := hkn.open_
      have hkid := IH.out l[j] (List.getElem_mem hjl) wr B A2 c2 hkd (hks.below (hfin.mono hB)) (by have := hfin.size; omega) (by omega)
      obtain ⟨cs, hcs, hcl, hrg⟩ := hkc.range (w' := wr) (fun p hp => hfin.cell (by omega))
      rw [nodeV, ← hcs] at hkid
      have hinf := infN
      rw [← hcl] at hinf
      have hds := depths_step hjl
      obtain ⟨dk, hdk⟩ : ∃ dk, l[j].depth = dk := ⟨_, rfl⟩
      obtain ⟨dd, hdd⟩ : ∃ dd, Tr.depths (l.take j) = dd := ⟨_, rfl⟩
      rw [hdk] at hkid hds
      rw [hdd] at hds hdl ⊢
      have hdk2 : dk ≤ 1048576 := by rw [← hdk]; have := depth_le_size l[j]; omega
      have HRG := Lib.hid hrg
      have HIN := Lib.hid hinf
      have HK := Lib.hid hkid
      have HDS := Lib.hid hds
      have HWR := Lib.hid hbr
      have hj1 : (j : Int) < (n : Int) := by omega
      have hj0 : (0 : Int) ≤ (j : Int) := by omega
      clear hinf hrg hcl hcs hkid hkn hkb hkd hkc hks hbr hfin hds hdk hdd hst
      go_wp2_with (first | (refine wpList_load_mid rfl 35 _ rfl b2 (o2 + j * 22) rfl cs _ HRG.out undN rfl HIN.out ?_) | go_at_call 49; refine HK.out.mono ?_; rintro e w2 ⟨rfl, hbe⟩)
      all_goals
        go_roundw
        case rel => exact ⟨j + 1, by omega, by go_num, by rw [HDS.out]; go_num, HWR.out.trans (hbe.mono HWR.out.size)⟩
        case measure => simp [intOf]; omega
    · obtain rfl : j = n := by omega
      obtain ⟨dd, hdd⟩ : ∃ dd, Tr.depths (l.take j) = dd := ⟨_, rfl⟩
      rw [hdd] at hdl ⊢
      have HDD := Lib.hid hdd
      clear hdd
      go_wp2
      go_ret
      exact ⟨ret_int (by rw [← HR.out, ← HDD.out, ← HN.out, List.take_length]; omega), hfin⟩
end Go.Proofs.YtbiacjkkgddclaaGreat
namespace Go.Proofs.YtbiacjkkgddclaaGreat
open Go.RowKit Go.Shelf

set_option maxRecDepth 100000 in
set_option maxHeartbeats 2000000 in
theorem rcheck_c (t : Tr) (w : World) (B : Nat) (A : Option Addr) (c : Nat) (hd : t.d.ok) (hs : SlAt w B A c t.l) (hB : B ≤ w.heap.size) (hsz : t.size ≤ 1048576) :
    Calls Tryz.prog 28 #[nodeV t.d A t.l.length c] w fun e w' => e = .returned (.int .i64 (checkI t)) ∧ Below w.heap.size w w' := by
  rw [← rcheck_eq]
  have hN := fun wx (hx : Below w.heap.size w wx) => nodes_c t wx B A c hd (hs.below (hx.mono hB)) (by have := hx.size; omega) hsz
  have hD := fun wx (hx : Below w.heap.size w wx) => rdepth_c t wx B A c hd (hs.below (hx.mono hB)) (by have := hx.size; omega) hsz
  have hL := fun wx => rbelow_any wx t.d A t.l.length c
  have hR := fun wx (hx : Below w.heap.size w wx) => rright_c t wx B A c false hd (hs.below (hx.mono hB)) (by have := hx.size; omega)
  have hnl : t.nodes.length = t.size := nodes_len t
  obtain ⟨ts, hts⟩ : ∃ ts, t.nodes = ts := ⟨_, rfl⟩
  rw [hts] at hN hnl
  obtain ⟨N, hN0⟩ : ∃ N, N = nodeA t.d A t.l.length c := ⟨_, rfl⟩
  have hNs : N.size = 22 := by rw [hN0]; rfl
  simp only [nodeV, ← hN0] at hN hD hL hR ⊢
  have hdl : t.depth ≤ t.size := depth_le_size t
  obtain ⟨r, hr⟩ : ∃ r, r = rcheckI t := ⟨_, rfl⟩
  rw [← hr]
  unfold rcheckI at hr
  obtain ⟨sz, hsze⟩ : ∃ s, t.size = s := ⟨_, rfl⟩
  obtain ⟨dp, hdpe⟩ : ∃ s, t.depth = s := ⟨_, rfl⟩
  obtain ⟨bl, hble⟩ : ∃ s, belowB t.d = s := ⟨_, rfl⟩
  obtain ⟨rk, hrke⟩ : ∃ s, rrightB t false = s := ⟨_, rfl⟩
  rw [hsze] at hr hsz hdl
  rw [hsze] at hnl
  rw [hdpe] at hr hdl hD
  rw [hble] at hr hL
  rw [hrke] at hr hR
  have hinf := infN
  rw [← hNs] at hinf
  obtain ⟨W, hW⟩ : ∃ W, W = w.alloc (.cells N 35) := ⟨_, rfl⟩
  have hbW : Below w.heap.size w W := by rw [hW]; exact (Below.refl _ w).alloc (Nat.le_refl _) _
  have hkW : W.heap[w.heap.size]? = some (.cells N 35) := by rw [hW]; exact World.alloc_heap_new w _
  have hsW : w.heap.size + 1 = W.heap.size := by rw [hW]; simp
  have haft : ∀ wx, Below W.heap.size W wx → Below w.heap.size w wx ∧ wx.heap[w.heap.size]? = some (.cells N 35) := fun wx hx => ⟨hbW.trans (hx.mono (by omega)), (hx.block _ (by omega)).trans hkW⟩
  have HN := Lib.hid hN
  have HNL := Lib.hid hnl
  have HD := Lib.hid hD
  have HL := Lib.hid hL
  have HR := Lib.hid hR
  have HRR := Lib.hid hr
  have HIN := Lib.hid hinf
  have HW := Lib.hid hW
  have HA := Lib.hid haft
  have HKW := Lib.hid hkW
  have HBW := Lib.hid hbW
  clear hts hN hD hL hR hr hinf hW haft hkW hbW hsW hNs hN0 hsze hdpe hble hrke hnl hs hd
  go_enter Tryz.func28, Tryz.ntmps28
  go_upto_region 1 with (fail)
  (try simp only [Act.put, List.setIfInBounds_toArray, List.set_cons_zero, List.set_cons_succ])
  rw [← HW.out]
  go_wp2_with (first | (refine wpList_row rfl 35 _ rfl w.heap.size rfl 35 N (0, 0) _ HKW.out undN rfl HIN.out ?_) | fail)
  refine (HN.out _ HBW.out).mono ?_
  rintro e w2 ⟨g, cap, xs, rfl, -, -, hbe2⟩
  rw [HNL.out]
  have hw2 : Below W.heap.size W w2 := hbe2
  obtain ⟨hb2, hk2⟩ := HA.out w2 hw2
  have HK2 := Lib.hid hk2
  have HB2 := Lib.hid hb2
  have HW2 := Lib.hid hw2
  clear hbe2 hw2 hb2 hk2
  by_cases c1 : 256 < sz
  · go_wp2
    go_ret
    exact ⟨by rw [HRR.out, if_pos c1]; rfl, HB2.out⟩
  have h1 : r = if 32 < dp then 8 else if bl = true ∨ rk = false then 6 else 0 := by rw [HRR.out, if_neg c1]
  have H1 := Lib.hid h1
  clear h1
  go_wp2_with (first | (refine wpList_row rfl 35 _ rfl w.heap.size rfl 35 N (0, 0) _ HK2.out undN rfl HIN.out ?_) | fail)
  refine (HD.out _ HB2.out).mono ?_
  rintro e w3 ⟨rfl, hbe3⟩
  have hw3 : Below W.heap.size W w3 := HW2.out.trans (hbe3.mono HW2.out.size)
  obtain ⟨hb3, hk3⟩ := HA.out w3 hw3
  have HK3 := Lib.hid hk3
  have HB3 := Lib.hid hb3
  have HW3 := Lib.hid hw3
  clear hbe3 hw3 hb3 hk3
  by_cases c2 : 32 < dp
  · go_wp2
    go_ret
    exact ⟨by rw [H1.out, if_pos c2]; rfl, HB3.out⟩
  have h2 : r = if bl = true ∨ rk = false then 6 else 0 := by rw [H1.out, if_neg c2]
  have H2 := Lib.hid h2
  clear h2
  go_wp2_with (first | (refine wpList_row rfl 35 _ rfl w.heap.size rfl 35 N (0, 0) _ HK3.out undN rfl HIN.out ?_) | fail)
  refine (HL.out _).mono ?_
  rintro e w4 ⟨rfl, hbe4⟩
  have hw4 : Below W.heap.size W w4 := HW3.out.trans (hbe4.mono HW3.out.size)
  obtain ⟨hb4, hk4⟩ := HA.out w4 hw4
  have HK4 := Lib.hid hk4
  have HB4 := Lib.hid hb4
  clear hbe4 hw4 hb4 hk4
  cases bl
  · go_wp2_with (first | (refine wpList_row rfl 35 _ rfl w.heap.size rfl 35 N (0, 0) _ HK4.out undN rfl HIN.out ?_) | fail)
    refine (HR.out _ HB4.out).mono ?_
    rintro e w5 ⟨rfl, hbe5⟩
    have hb5 := HB4.out.trans (hbe5.mono HB4.out.size)
    cases rk
    · go_wp2
      go_ret
      exact ⟨by rw [H2.out]; rfl, hb5⟩
    · go_wp2
      go_ret
      exact ⟨by rw [H2.out]; rfl, hb5⟩
  · go_wp2
    go_ret
    exact ⟨by rw [H2.out]; rfl, HB4.out⟩
end Go.Proofs.YtbiacjkkgddclaaGreat
namespace Go.Proofs.YtbiacjkkgddclaaGreat
open Go Go.RowKit Go.Shelf

theorem r2_any (v : Vl) (hv : v.ok) (w : World) : Calls Tryz.prog 27 #[.agg v.cells.toArray] w fun e w' => e = .returned (.bool (r2 v)) ∧ Below w.heap.size w w' := by
  obtain ⟨k, m, x, s, b, f⟩ := v
  have hm : i64 m := hv.2.1
  have hs : s.size ≤ 9223372036854775807 := hv.2.2.2.1
  by_cases h0 : k = 0
  · subst h0; exact r2_0 m x f s b hm hs w
  by_cases h1 : k = 1
  · subst h1; exact r2_1 m x f s b hm hs w
  by_cases h2 : k = 2
  · subst h2; exact r2_2 m x f s b hm hs w
  by_cases h3 : k = 3
  · subst h3; exact r2_3 m x f s b hm hs w
  by_cases h4 : k = 4
  · subst h4; exact r2_4 m x f s b hm hs w
  exact r2_no k h0 h1 h2 h3 h4 m x f s b hm hs w
theorem nil_bytes (s : ByteArray) : s.toList = [] ↔ s = noBytes := by
  have e : noBytes.toList = [] := by unfold noBytes; rw [ByteArray.toList_eq]
  rw [← str_eq, e]
theorem r2_eq (v : Vl) : r2 v = valRight v := by
  obtain ⟨k, m, x, s, b, f⟩ := v
  unfold r2 valRight
  simp only [ne_eq, nil_bytes]
  by_cases h0 : k = 0
  · subst h0
    rw [Bool.eq_iff_iff]
    simp [zeroV]
    grind
  by_cases h1 : k = 1
  · subst h1
    rw [Bool.eq_iff_iff]
    simp [ofV]
    grind
  by_cases h2 : k = 2
  · subst h2
    rw [Bool.eq_iff_iff]
    simp [textV, badV]
    grind
  by_cases h3 : k = 3
  · subst h3
    rw [Bool.eq_iff_iff]
    simp [truthV]
    grind
  by_cases h4 : k = 4
  · subst h4
    rw [Bool.eq_iff_iff]
    simp [badV]
    grind
  rw [Bool.eq_iff_iff]
  simp [h0, h1, h2, h3, h4]
set_option maxRecDepth 100000 in
theorem rblank_c (v : Vl) (w : World) : Calls Tryz.prog 25 #[.agg v.cells.toArray] w fun e w' => e = .returned (.bool (decide (v = zVl))) ∧ Below w.heap.size w w' := by
  have hE : ∀ wx, (Op.equalIn 10000 26 (.agg v.cells.toArray) (.agg zVl.cells.toArray)).run Tryz.prog wx = .ok (decide (v = zVl)) wx := fun wx => eqV wx v zVl
  obtain ⟨r, hr⟩ : ∃ r, decide (v = zVl) = r := ⟨_, rfl⟩
  rw [hr] at hE ⊢
  obtain ⟨k, m, x, s, b, f⟩ := v
  dsimp only [zVl, Vl.cells] at hE ⊢
  clear hr
  go_enter Tryz.func25, Tryz.ntmps25
  go_wp2
  go_ret
  exact ⟨rfl, (Below.refl _ w).alloc (Nat.le_refl _) _⟩
set_option maxRecDepth 100000 in
set_option maxHeartbeats 2000000 in
theorem rbare_c (t : Tr) (w : World) (B : Nat) (A : Option Addr) (c : Nat) (hd : t.d.ok) (hs : SlAt w B A c t.l) (hB : B ≤ w.heap.size) :
    Calls Tryz.prog 26 #[nodeV t.d A t.l.length c] w fun e w' => e = .returned (.bool (sameB t zTr)) ∧ Below w.heap.size w w' := by
  have hb0 : Below w.heap.size w (w.alloc (.cells (nodeA t.d A t.l.length c) 35)) := (Below.refl _ w).alloc (Nat.le_refl _) _
  have hS : Calls Tryz.prog 40 #[nodeV t.d A t.l.length c, .agg (nodeA zNd none 0 0)] (w.alloc (.cells (nodeA t.d A t.l.length c) 35)) fun e w' => e = .returned (.bool (sameB t zTr)) ∧ Below (w.alloc (.cells (nodeA t.d A t.l.length c) 35)).heap.size (w.alloc (.cells (nodeA t.d A t.l.length c) 35)) w' :=
    rsame_c t zTr _ B A none c 0 hd (hs.below (hb0.mono hB)) zNd_ok (slAt_nil _ _) (by rw [World.size_alloc]; omega)
  obtain ⟨N, hN⟩ : ∃ N, N = nodeA t.d A t.l.length c := ⟨_, rfl⟩
  have hNs : N.size = 22 := by rw [hN]; rfl
  have hinf := infN
  rw [← hNs] at hinf
  rw [nodeV, ← hN] at hS
  rw [nodeV, ← hN]
  rw [← hN] at hb0
  obtain ⟨r, hr⟩ : ∃ r, sameB t zTr = r := ⟨_, rfl⟩
  rw [hr] at hS ⊢
  have HS := Lib.hid hS
  have HI := Lib.hid hinf
  have HB := Lib.hid hb0
  clear hS hinf hb0 hN hNs hr hd hs hB
  go_enter Tryz.func26, Tryz.ntmps26
  go_wp2_with (first | (refine wpList_row rfl 35 _ rfl w.heap.size rfl 35 N (0, 0) _ (World.alloc_heap_new w _) undN rfl HI.out ?_) | (go_at_call 40; refine HS.out.mono ?_; rintro e w2 ⟨rfl, hbe⟩))
  go_ret
  exact ⟨rfl, HB.out.trans (hbe.mono HB.out.size)⟩

theorem right18_eq (x : Ct) : rightC x = (if x.k = 0 then decide (x.v = zVl) && sameB x.t zTr else if x.k = 1 then decide (x.v.k ≠ 0) && (r2 x.v && sameB x.t zTr) else if x.k = 2 then decide (x.v = zVl) && decide (checkI x.t = 0) else false) := by
  unfold rightC sameC
  rw [r2_eq]
  split
  · rename_i h
    rw [decide_eq_true (show x.k = zCt.k from h), Bool.true_and]
    rfl
  · split
    · cases sameB x.t zTr <;> cases valRight x.v <;> simp
    · rfl

set_option maxRecDepth 100000 in
set_option maxHeartbeats 2000000 in
theorem rright18_c (x : Ct) (w : World) (B : Nat) (A : Option Addr) (c : Nat) (hv : x.v.ok) (hd : x.t.d.ok) (hs : SlAt w B A c x.t.l) (hB : B ≤ w.heap.size) (hsz : x.t.size ≤ 1048576) :
    Calls Tryz.prog 11 #[contV x A c] w fun e w' => e = .returned (.bool (rightC x)) ∧ Below w.heap.size w w' := by
  obtain ⟨W0, hW0⟩ : ∃ W0, W0 = w.alloc (.cells (contA x A c) 37) := ⟨_, rfl⟩
  have hbel : Below w.heap.size w W0 := by rw [hW0]; exact (Below.refl _ w).alloc (Nat.le_refl _) _
  have hz0 : W0.heap.size = w.heap.size + 1 := by rw [hW0]; simp
  have hk0 : W0.heap[w.heap.size]? = some (.cells (contA x A c) 37) := by rw [hW0]; exact heap_alloc_new _ _
  have hsl : ∀ wx, Below W0.heap.size W0 wx → SlAt wx B A c x.t.l := fun wx hx => (hs.below (hbel.mono hB)).below (hx.mono (by omega))
  have hT : ∀ wx, Below W0.heap.size W0 wx → Calls Tryz.prog 26 #[nodeV x.t.d A x.t.l.length c] wx fun e w' => e = .returned (.bool (sameB x.t zTr)) ∧ Below wx.heap.size wx w' := fun wx hx => rbare_c x.t wx B A c hd (hsl wx hx) (by have := hx.size; omega)
  have hV := fun wx => r2_any x.v hv wx
  have hE := fun wx => rblank_c x.v wx
  have hC := fun wx (hx : Below W0.heap.size W0 wx) => rcheck_c x.t wx B A c hd (hsl wx hx) (by have := hx.size; omega) hsz
  have hrow := fun wx (hx : Below W0.heap.size W0 wx) => cont_row ((hx.block w.heap.size (by omega)).trans hk0)
  obtain ⟨CA, hCA⟩ : ∃ C, C = contA x A c := ⟨_, rfl⟩
  rw [contV, ← hCA]
  rw [← hCA] at hW0 hk0
  have hinf := infNl x.t.d A x.t.l.length c
  have hiv := infVl x.v
  have hic := infC
  rw [show (29 : Nat) = CA.size by rw [hCA]; rfl] at hic
  obtain ⟨b, hb⟩ : ∃ b, b = w.heap.size := ⟨_, rfl⟩
  have e0 := (hrow W0 (Below.refl _ _)).1
  have hr1 := fun wx hx => (hrow wx hx).2.1
  have hvk : ∀ wx, Below W0.heap.size W0 wx → wx.cell? ⟨w.heap.size, 1, none⟩ = some (.int .i64 x.v.k) := fun wx hx => hr1 wx hx 0 _ rfl
  have hr7 := fun wx hx => (hrow wx hx).2.2
  rw [nodeV] at hT
  obtain ⟨r, hr⟩ : ∃ r, rightC x = r := ⟨_, rfl⟩
  rw [hr]
  rw [right18_eq] at hr
  obtain ⟨N, hN⟩ : ∃ N, N = nodeA x.t.d A x.t.l.length c := ⟨_, rfl⟩
  rw [nodeV, ← hN] at hC
  rw [← hN] at hT hr7 hinf
  clear hrow hd hs hCA hN hv hsl
  obtain ⟨k, v, t⟩ := x
  dsimp only at hT hV e0 hr1 hr7 hr hinf hiv hC hE hvk
  obtain ⟨vc, hvc⟩ : ∃ u, u = v.cells := ⟨_, rfl⟩
  rw [← hvc] at hr1 hiv hE hV
  rw [← hb] at e0 hr1 hr7 hz0 hvk hk0
  have HT := Lib.hid hT
  have HV := Lib.hid hV
  have HE := Lib.hid hE
  have HC := Lib.hid hC
  have HI := Lib.hid hinf
  have HJ := Lib.hid hiv
  have HIC := Lib.hid hic
  have HR1 := Lib.hid hr1
  have HR7 := Lib.hid hr7
  have HR := Lib.hid hr
  have HW := Lib.hid hW0
  have HK0 := Lib.hid hk0
  have HBL := Lib.hid hbel
  have HVK := Lib.hid hvk
  clear hT hV hE hC hinf hiv hic hr1 hr7 hr hW0 hvc hbel hk0 hvk
  have HB := Lib.hid hb
  have hb00 : Below W0.heap.size W0 W0 := Below.refl _ _
  clear hb
  by_cases k0 : k = 0
  · subst k0
    have hr := HR.out
    rw [if_pos rfl] at hr
    have HR2 := Lib.hid hr
    clear hr
    cases ev : decide (v = zVl) with
    | false =>
      have HE1 := Lib.hid (by have := HE.out W0; rw [ev] at this; exact this)
      go_enter Tryz.func11, Tryz.ntmps11
      go_upto_region 1 with (fail)
      rw [← HW.out, ← HB.out]
      go_wp2_with (first | (refine wpList_mid rfl 26 _ rfl b 1 rfl vc _ (HR1.out _ hb00) undVl rfl HJ.out ?_) | (go_at_call 25; refine HE1.out.mono ?_; rintro e w2 ⟨rfl, hbe⟩))
      go_ret
      exact ⟨ret_bool (by rw [← HR2.out, ev]; rfl), HBL.out.trans (hbe.mono HBL.out.size)⟩
    | true =>
      have HE1 := Lib.hid (by have := HE.out W0; rw [ev] at this; exact this)
      go_enter Tryz.func11, Tryz.ntmps11
      go_upto_region 1 with (fail)
      rw [← HW.out, ← HB.out]
      go_wp2_with (first | (refine wpList_mid rfl 26 _ rfl b 1 rfl vc _ (HR1.out _ hb00) undVl rfl HJ.out ?_) | (go_at_call 25; refine HE1.out.mono ?_; rintro e w2 ⟨rfl, hbe⟩) | (refine wpList_mid rfl 35 _ rfl b 7 rfl N.toList _ (HR7.out _ hbe) undN rfl HI.out ?_; simp only [Array.toArray_toList]) | (go_at_call 26; refine (HT.out _ hbe).mono ?_; rintro e w3 ⟨rfl, hb3⟩))
      go_ret
      exact ⟨ret_bool (by rw [← HR2.out, ev]; rfl), HBL.out.trans ((hbe.trans (hb3.mono hbe.size)).mono HBL.out.size)⟩
  have q0 : (k == 0) = false := by simpa using k0
  by_cases k1 : k = 1
  · subst k1
    have hr := HR.out
    rw [if_neg (by decide), if_pos rfl] at hr
    have HR2 := Lib.hid hr
    clear hr
    have hvk0 := HVK.out _ hb00
    by_cases vk : v.k = 0
    · have qv : (v.k != 0) = false := by simpa using vk
      have HVZ := Lib.hid vk
      clear vk
      go_enter Tryz.func11, Tryz.ntmps11
      go_upto_region 1 with (fail)
      rw [← HW.out, ← HB.out]
      go_wp2
      go_ret
      exact ⟨ret_bool (by rw [← HR2.out]; simp [HVZ.out]), HBL.out⟩
    · have qv : (v.k != 0) = true := by simpa using vk
      have HVZ := Lib.hid vk
      clear vk
      cases er : r2 v with
      | false =>
        have HV1 := Lib.hid (by have := HV.out W0; rw [er] at this; exact this)
        go_enter Tryz.func11, Tryz.ntmps11
        go_upto_region 1 with (fail)
        rw [← HW.out, ← HB.out]
        go_wp2_with (first | (refine wpList_mid rfl 26 _ rfl b 1 rfl vc _ (HR1.out _ hb00) undVl rfl HJ.out ?_) | (go_at_call 27; refine HV1.out.mono ?_; rintro e w2 ⟨rfl, hbe⟩))
        go_ret
        exact ⟨ret_bool (by rw [← HR2.out, er]; simp), HBL.out.trans (hbe.mono HBL.out.size)⟩
      | true =>
        have HV1 := Lib.hid (by have := HV.out W0; rw [er] at this; exact this)
        go_enter Tryz.func11, Tryz.ntmps11
        go_upto_region 1 with (fail)
        rw [← HW.out, ← HB.out]
        go_wp2_with (first | (refine wpList_mid rfl 26 _ rfl b 1 rfl vc _ (HR1.out _ hb00) undVl rfl HJ.out ?_) | (go_at_call 27; refine HV1.out.mono ?_; rintro e w2 ⟨rfl, hbe⟩) | (refine wpList_mid rfl 35 _ rfl b 7 rfl N.toList _ (HR7.out _ hbe) undN rfl HI.out ?_; simp only [Array.toArray_toList]) | (go_at_call 26; refine (HT.out _ hbe).mono ?_; rintro e w3 ⟨rfl, hb3⟩))
        go_ret
        exact ⟨ret_bool (by rw [← HR2.out, er]; simp [HVZ.out]), HBL.out.trans ((hbe.trans (hb3.mono hbe.size)).mono HBL.out.size)⟩
  have q1 : (k == 1) = false := by simpa using k1
  by_cases k2 : k = 2
  · subst k2
    have hr := HR.out
    rw [if_neg (by decide), if_neg (by decide), if_pos rfl] at hr
    have HR2 := Lib.hid hr
    clear hr
    cases ev : decide (v = zVl) with
    | false =>
      have HE1 := Lib.hid (by have := HE.out W0; rw [ev] at this; exact this)
      go_enter Tryz.func11, Tryz.ntmps11
      go_upto_region 1 with (fail)
      rw [← HW.out, ← HB.out]
      go_wp2_with (first | (refine wpList_mid rfl 26 _ rfl b 1 rfl vc _ (HR1.out _ hb00) undVl rfl HJ.out ?_) | (go_at_call 25; refine HE1.out.mono ?_; rintro e w2 ⟨rfl, hbe⟩))
      go_ret
      exact ⟨ret_bool (by rw [← HR2.out, ev]; rfl), HBL.out.trans (hbe.mono HBL.out.size)⟩
    | true =>
      have HE1 := Lib.hid (by have := HE.out W0; rw [ev] at this; exact this)
      obtain ⟨ck, hck⟩ : ∃ ck, checkI t = ck := ⟨_, rfl⟩
      have HCK := Lib.hid hck
      rw [hck] at HC
      clear hck
      by_cases ec : ck = 0
      · subst ec
        go_enter Tryz.func11, Tryz.ntmps11
        go_upto_region 1 with (fail)
        rw [← HW.out, ← HB.out]
        go_wp2_with (first | (refine wpList_mid rfl 26 _ rfl b 1 rfl vc _ (HR1.out _ hb00) undVl rfl HJ.out ?_) | (go_at_call 25; refine HE1.out.mono ?_; rintro e w2 ⟨rfl, hbe⟩) | (refine wpList_mid rfl 35 _ rfl b 7 rfl N.toList _ (HR7.out _ hbe) undN rfl HI.out ?_; simp only [Array.toArray_toList]) | (go_at_call 28; refine (HC.out _ hbe).mono ?_; rintro e w3 ⟨rfl, hb3⟩))
        go_ret
        exact ⟨ret_bool (by rw [← HR2.out, ev, HCK.out]; rfl), HBL.out.trans ((hbe.trans (hb3.mono hbe.size)).mono HBL.out.size)⟩
      · have qc : (ck == 0) = false := by simpa using ec
        have HEC := Lib.hid ec
        clear ec
        go_enter Tryz.func11, Tryz.ntmps11
        go_upto_region 1 with (fail)
        rw [← HW.out, ← HB.out]
        go_wp2_with (first | (refine wpList_mid rfl 26 _ rfl b 1 rfl vc _ (HR1.out _ hb00) undVl rfl HJ.out ?_) | (go_at_call 25; refine HE1.out.mono ?_; rintro e w2 ⟨rfl, hbe⟩) | (refine wpList_mid rfl 35 _ rfl b 7 rfl N.toList _ (HR7.out _ hbe) undN rfl HI.out ?_; simp only [Array.toArray_toList]) | (go_at_call 28; refine (HC.out _ hbe).mono ?_; rintro e w3 ⟨rfl, hb3⟩))
        go_ret
        exact ⟨ret_bool (by rw [← HR2.out, ev, HCK.out]; simp [HEC.out]), HBL.out.trans ((hbe.trans (hb3.mono hbe.size)).mono HBL.out.size)⟩
  have q2 : (k == 2) = false := by simpa using k2
  have hr := HR.out
  rw [if_neg k0, if_neg k1, if_neg k2] at hr
  have HR2 := Lib.hid hr
  clear hr
  go_enter Tryz.func11, Tryz.ntmps11
  go_upto_region 1 with (fail)
  rw [← HW.out, ← HB.out]
  go_wp2
  go_ret
  exact ⟨ret_bool HR2.out, HBL.out⟩
end Go.Proofs.YtbiacjkkgddclaaGreat
