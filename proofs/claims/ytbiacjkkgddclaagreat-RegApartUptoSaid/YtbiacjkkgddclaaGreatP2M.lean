/- RegApart: the walk. -/
import Derived.Test.YtbiacjkkgddclaaGreatK7P1
namespace Go.Proofs.YtbiacjkkgddclaaGreat
set_option linter.unusedSimpArgs false
set_option linter.unusedVariables false
open Go Go.RowKit Go.Shelf Go.Maps

theorem run_append_nonec {w : World} (base : Nat) (t ty e : TypeId) (i : TypeInfo) (size : Nat) (ht : Tryz.prog.underlying t = some (.slice e)) (hi : Tryz.prog.info? e = some i) (v : Value) (n c : Nat) (xs : List Value) (hown : w.ownsRow base e size v n xs) :
    (Builtin.append_ #[t, t] ty #[v, .slice none 0 c]).run Tryz.prog w = .ok v w := by
  rcases hown.2 with ⟨rfl, rfl⟩ | ⟨g, cap, cur, rfl, _, _, hnc, _⟩
  · simp [Builtin.append_, run_underlying ht, sizeOf, typeInfo, hi, Builtin.lenOf, Builtin.firstCells]
  · simp [Builtin.append_, run_underlying ht, sizeOf, typeInfo, hi, Builtin.lenOf, Builtin.firstCells, hnc, storeCells]
theorem bld_wr {o : Oper} {ρ : Operand → Value} {w : World} (x y z : Operand) (ho : o.op = .build 49 #[(0, x), (1, y), (2, z)]) (m : Wr) (A : Option Addr) (c : Nat) (Ao : Option Addr) (co no : Nat) (hx : ρ x = .agg m.id.cs.toArray) (hy : ρ y = .agg (contA m.x A c)) (hz : ρ z = .slice Ao no co) (hn : no = m.o.length) : (execOp ρ o).run Tryz.prog w = .ok (.value (.agg (wrA m A c Ao co))) w := by
  subst hn
  have h : (Instr.build 49 #[(0, .agg m.id.cs.toArray), (1, .agg (contA m.x A c)), (2, .slice Ao m.o.length co)]).run Tryz.prog w = .ok (.agg (wrA m A c Ao co)) w := by kernel_rfl
  unfold execOp
  simp only [ho, List.map_toArray, List.map_cons, List.map_nil, hx, hy, hz, Sem.run_bind, h, Result.andThen_ok, Sem.run_pure]
/-- ids that came in, whatever a nil slice's room, at the end of a row of one's own. -/
theorem wp_append_ikc {w : World} {o : Oper} {a : Act} {K : Act → World → Prop} {Q : Exit → Act → World → Prop} (s x : Operand)
    (ho : o.op = .call { callee := .builtin .append, args := #[s, x], argTypes := #[38, 38] }) (base : Nat) (v : Value) (n m k : Nat) (xs ys : List Ik) (hs : a.eval s = v)
    (hown : w.ownsRow base 28 2 v n (ikCells xs)) (A : Option Addr) (c : Nat) (G : Nat → Prop) (hx : a.eval x = .slice A m c) (hik : IkG w G A c ys) (hm : m = ys.length) (hk : k = n + m) (hle : k ≤ 100000) (hbase : base ≤ w.heap.size)
    (h : ∀ A' c' w', w'.ownsRow base 28 2 (.slice A' k c') k (ikCells (xs ++ ys)) → w.grownBy w' v.ownBlock → K (a.put o.dst (.slice A' k c')) w') : Oper.wp Tryz.prog o a w K Q := by
  cases A with
  | some p => exact wp_append_ik s x ho base v n m k xs ys hs hown (some p) c G hx hik hm (fun e => by cases e) hk hle hbase h
  | none =>
    subst hk
    obtain ⟨ti, hti, hz0, hz1, hz2⟩ := info_partsC infoCe
    obtain rfl : ys = [] := by
      rcases hik.2.2 with h | ⟨b, o, h, _⟩
      · exact h
      · cases h
    obtain rfl : m = 0 := hm
    obtain ⟨A', c', rfl⟩ := own_slice hown
    have hrun := run_append_nonec (w := w) base 38 o.type 28 ti 2 undCs hti (.slice A' n c') n c (ikCells xs) hown
    have := h A' c' w (by rw [List.append_nil]; exact hown) (World.grownBy.refl _ _)
    unfold Oper.wp
    simp [execOp, ho, resolve, invoke, builtin, hs, hx, hrun, Result.andThen]
    exact this
theorem own_far {w : World} {base : Nat} {v : Value} {n g : Nat} {xs : List Value} {cs : Array Value} (h : w.ownsRow base 28 2 v n xs) (hg : w.heap[g]? = some (.cells cs 49)) : some g ≠ v.ownBlock := fun e => by
  rcases h.2 with ⟨rfl, _⟩ | ⟨g', c, cur, rfl, h1, h2, -⟩
  · cases e
  · have e2 : g = g' := Option.some.inj (show some g = some g' from e)
    rw [← e2, hg] at h2
    cases h2
def ApI (w : World) (z0 p : Nat) (l : List Wr) (n : Nat) (av iv : Value) (wr : World) : Prop :=
  ∃ i : Nat, i ≤ n ∧ iv = .int .i64 i ∧ ∃ A2 nM c2, av = .slice A2 nM c2 ∧ Hid (RaS w z0 p i (playW (l.take i)) (playW (l.take i)) A2 c2 wr ∧ nM = (playW (l.take i)).length)
def ApY (w7 : World) (T : Nat → Prop) (A3 : Option Addr) (no : Nat) (iv : Value) (wr : World) : Prop := ∃ i : Nat, i ≤ no ∧ iv = .int .i64 i ∧ Hid (KeepZ (fun b => ∃ o, A3 = some ⟨b, o, none⟩) w7 wr ∧ SoftS wr T A3 no 2)
def ApJ (W : World) (s1 : Nat) (A : Option Addr) (D : List Wr) (nd : Nat) (jv : Value) (wr : World) : Prop := ∃ j : Nat, j ≤ nd ∧ jv = .int .i64 j ∧ Hid (Below W.heap.size W wr ∧ s1 ≤ wr.heap.size ∧ RowSoft wr (fun b => W.heap.size ≤ b ∧ b < s1) A D)
def ApL (W : World) (A : Option Addr) (n : Nat) (iv : Value) (wr : World) : Prop := ∃ i : Nat, i ≤ n ∧ iv = .int .i64 i ∧ Hid (Below W.heap.size W wr ∧ SoftS wr (fun b => W.heap.size ≤ b) A n 2)
def ApK (W : World) (s1 : Nat) (A : Option Addr) (D : List Wr) (g12 q : Nat) (CB : Array Value) (x : Wn) (n : Nat) (iv : Value) (wr : World) : Prop := ∃ i : Nat, i ≤ n ∧ iv = .int .i64 i ∧ Hid (Below W.heap.size W wr ∧ s1 ≤ wr.heap.size ∧ RowSoft wr (fun b => W.heap.size ≤ b ∧ b < s1) A D ∧ wr.heap[g12]? = some (.cells CB 49) ∧ SoftW wr (fun b => (W.heap.size ≤ b ∧ b < s1) ∧ b ≠ q) x)
/-- a write into a list that came from Get. -/
theorem ApK.write {W wr : World} {s1 g12 q : Nat} {A : Option Addr} {D : List Wr} {CB : Array Value} {x : Wn} (hA : ∀ q' o, A = some ⟨q', o, none⟩ → q' = q) (hg : s1 ≤ g12) (h : Below W.heap.size W wr ∧ s1 ≤ wr.heap.size ∧ RowSoft wr (fun b => W.heap.size ≤ b ∧ b < s1) A D ∧ wr.heap[g12]? = some (.cells CB 49) ∧ SoftW wr (fun b => (W.heap.size ≤ b ∧ b < s1) ∧ b ≠ q) x) (b o : Nat) (vs : List Value) (hb : (W.heap.size ≤ b ∧ b < s1) ∧ b ≠ q) :
    Below W.heap.size W (wr.setCells b o vs) ∧ s1 ≤ (wr.setCells b o vs).heap.size ∧ RowSoft (wr.setCells b o vs) (fun b => W.heap.size ≤ b ∧ b < s1) A D ∧ (wr.setCells b o vs).heap[g12]? = some (.cells CB 49) ∧ SoftW (wr.setCells b o vs) (fun b => (W.heap.size ≤ b ∧ b < s1) ∧ b ≠ q) x := by
  obtain ⟨h1, h2, h3, h4, h5⟩ := h
  exact ⟨h1.trans (below_setCells2 hb.1.1 _ _ _), by rw [sz_setCells]; exact h2, h3.write b o vs (fun q' o' e => by rw [hA q' o' e]; exact hb.2), (heap_setCells_far b (by omega) vs o wr).trans h4, h5.1.setCells b o vs, h5.2.setCells b o vs⟩
theorem wr_c30 {w : World} {g : Nat} {m : Wr} {A : Option Addr} {c : Nat} {Ao : Option Addr} {co : Nat} {t : TypeId} {fr : Nat × Nat} (h : w.heap[g]? = some (.cells (wrA m A c Ao co) t fr)) : w.cell? ⟨g, 30, none⟩ = some (.slice A m.x.t.l.length c) ∧ w.cell? ⟨g, 31, none⟩ = some (.slice Ao m.o.length co) := by
  obtain ⟨⟨a, n⟩, ⟨k, v, t'⟩, os⟩ := m
  exact ⟨(cell_of_row _ _ 30 _ _ _ h).trans rfl, (cell_of_row _ _ 31 _ _ _ h).trans rfl⟩
set_option maxRecDepth 100000 in
set_option maxHeartbeats 16000000 in
theorem regApart_walk (l : List Wr) (w : World) (A : Option Addr) (c : Nat) (hrow : RowW w (fun k => k < w.heap.size) (fun k => k < w.heap.size) A c l) (hok : ∀ m ∈ l, inOk m) :
    Calls Tryz.prog 5 #[.slice A l.length c] w fun e w' => e = .returned (.bool true) ∧ Below w.heap.size w w' := by
  have HAW := Lib.hid (fun wx => awake37_c wx)
  have HNEW := Lib.hid (fun wx => new_c wx)
  have hsm := fun (wx : World) (hx : Below w.heap.size w wx) => small37_c (w := wx) (hrow.keep (G' := fun k => k < w.heap.size) (T' := fun k => k < w.heap.size) (fun k hk => ⟨hx.block k hk, hk⟩) (fun k hk => ⟨hx.block k hk, hk⟩)) (fun k hk => Nat.lt_of_lt_of_le hk hx.size) (fun k hk => Nat.lt_of_lt_of_le hk hx.size) rfl (fun m hm => ⟨(hok m hm).2.1, (hok m hm).2.2.1, (hok m hm).2.2.2.1⟩)
  obtain ⟨n, hn⟩ : ∃ n, n = l.length := ⟨_, rfl⟩
  have hcc : n ≤ c ∧ c ≤ 9223372036854775807 := ⟨by rw [hn]; exact hrow.1, hrow.2.1⟩
  have hc1 := hcc.1
  have hc2 := hcc.2
  have HROW := Lib.hid (row_at hrow)
  have HOK := Lib.hid hok
  rw [← hn] at hsm
  rw [← hn]
  have HSM := Lib.hid hsm
  have HN := Lib.hid hn
  have HIK := Lib.hid (show ∀ x : Ik, (Tryz.prog.info? 28).map (·.size) = some x.cs.length from fun _ => ikInfo)
  have HIS := Lib.hid (show ∀ a b : Value, (Tryz.prog.info? 28).map (·.size) = some (#[a, b] : Array Value).size from fun _ _ => ikInfo)
  have HIC := Lib.hid (show ∀ (x : Ct) (A : Option Addr) (c : Nat), (Tryz.prog.info? 37).map (·.size) = some (contA x A c).size ∧ (Tryz.prog.info? 37).map (·.size) = some (contA x A c).toList.length ∧ (contA zCt none 0).size = (contA x A c).size ∧ (contA x A c).all (·.oneCell') = true from fun x A c => ⟨infC, infC, rfl, cont_one _ _ _⟩)
  clear hsm hn hrow hok hcc
  go_enter Tryz.func5, Tryz.ntmps5
  rcases smallW_cases l with hs | hs
  · rw [hs] at HSM
    clear hs
    go_wp2_with (first | (go_at_call 8; refine (HAW.out _).mono ?_; rintro e w1 ⟨rfl, hb1⟩; have HB1 := Lib.hid hb1; clear hb1) | (go_at_call 9; refine (HSM.out w1 HB1.out).mono ?_; rintro e w2 ⟨rfl, hb2⟩; have HB2 := Lib.hid hb2; clear hb2) | fail)
    first | go_ret | go_ret2 | (refine bodyPost_ret (results_tmp rfl _ _ _) rfl ?_)
    exact ⟨by kernel_rfl, HB1.out.trans (HB2.out.mono HB1.out.size)⟩
  · rw [hs] at HSM
    obtain ⟨h40, h60, -⟩ := smallW_one (l := l) (by rw [hs]; decide)
    have H40 := Lib.hid (And.intro h40 h60)
    have hn40 : n ≤ 40 := by rw [HN.out]; exact h40
    clear hs h40 h60
    go_upto_region 7 with (first | (go_at_call 8; refine (HAW.out _).mono ?_; rintro e w1 ⟨rfl, hb1⟩; have HB1 := Lib.hid hb1; clear hb1) | (go_at_call 9; refine (HSM.out w1 HB1.out).mono ?_; rintro e w2 ⟨rfl, hb2⟩; have HB2 := Lib.hid hb2; clear hb2) | (go_at_call 12; refine (HNEW.out _).mono ?_; rintro e w3 ⟨p, rfl, hr3, hb3⟩; have H3 := Lib.hid (And.intro hr3 hb3); clear hr3 hb3) | fail)
    obtain ⟨z0, hz0⟩ : ∃ z, z = w2.heap.size := ⟨_, rfl⟩
    have hb02 : Below w.heap.size w w2 := HB1.out.trans (HB2.out.mono HB1.out.size)
    have hz0w : w.heap.size ≤ z0 := by rw [hz0]; exact hb02.size
    have hst : ApI w z0 p l n (.slice none 0 0) (.int .i64 0) w3 :=
      ⟨0, Nat.zero_le _, rfl, none, 0, 0, rfl, Lib.hid ⟨RaS.start (hb02.trans (H3.out.2.mono hb02.size)) hz0w (by rw [hz0]; exact H3.out.2.size) (H3.out.1.zone (fun b hb => by rw [hz0]; exact hb)), rfl⟩⟩
    have HST := Lib.hid hst
    clear hz0 hb02 hst hz0w
    go_wp2
    go_loopw [4, 25] (fun av iv wr => ApI w z0 p l n av iv wr) (fun _ iv _ => n - (intOf iv).toNat)
    case atStart => exact HST.out
    case round =>
     rename World => wi
     obtain ⟨i, hin, rfl, A2, nM, c2, rfl, hR⟩ := hrel
     by_cases hi : i < n
     · have hiI : (i : Int) < (n : Int) := by omega
       have hi0 : (0 : Int) ≤ i := by omega
       have hil : i < l.length := by rw [← HN.out]; exact hi
       have hbw : Below w.heap.size w wi := hR.out.1.bel
       obtain ⟨q, o, hA, A', c', Ao, co, hrg, hsl, hio⟩ := HROW.out wi hbw i hil
       subst hA
       obtain ⟨m, hm⟩ : ∃ m, m = l[i] := ⟨_, rfl⟩
       rw [← hm] at hrg hsl hio
       have HSL0 := Lib.hid (And.intro hsl hio)
       have hmin := HOK.out m (by rw [hm]; exact List.getElem_mem hil)
       obtain ⟨CW, hCW⟩ : ∃ C, C = wrA m A' c' Ao co := ⟨_, rfl⟩
       obtain ⟨gb, hgb⟩ : ∃ b, b = wi.heap.size := ⟨_, rfl⟩
       obtain ⟨w5, hw5⟩ : ∃ w5, w5 = wi.alloc (.cells CW 46) := ⟨_, rfl⟩
       have hb5 : Below wi.heap.size wi w5 := by rw [hw5]; exact (bel1 _ _).1
       have hk5 : w5.heap[gb]? = some (.cells CW 46) := by rw [hw5, hgb]; exact heap_alloc_new _ _
       have hic := rw_info m A' c' Ao co
       have h1w := wrA_one m A' c' Ao co
       have hzs : (wrA zWr none 0 none 0).size = (wrA m A' c' Ao co).size := rfl
       have hws : w.heap.size ≤ wi.heap.size := Below.size hbw
       have hsl5 : SlAt w5 wi.heap.size A' c' m.x.t.l := (hsl.more hws).below hb5
       have hio5 : IkG w5 (fun k => k < wi.heap.size) Ao co m.o := (hio.mono (fun k hk => Nat.lt_of_lt_of_le hk hws)).below hb5
       rw [← hCW] at hrg hic h1w hzs
       have HX := Lib.hid (And.intro hrg (And.intro hic (And.intro h1w (And.intro hzs (And.intro hk5 (And.intro hb5 (And.intro hsl5 hio5)))))))
       have HMIN := Lib.hid hmin
       have HW5 := Lib.hid hw5
       have HGB := Lib.hid hgb
       have HM := Lib.hid hm
       have HCW := Lib.hid hCW
       clear hrg hic h1w hzs hk5 hb5 hsl5 hio5 hmin hw5 hgb hm hCW hsl hio hws
       obtain ⟨M, hM⟩ : ∃ M, M = playW (l.take i) := ⟨_, rfl⟩
       obtain ⟨M', hM'⟩ : ∃ M', M' = (putW M m).1 := ⟨_, rfl⟩
       obtain ⟨er, her⟩ : ∃ er, er = (putW M m).2 := ⟨_, rfl⟩
       obtain ⟨no, hno⟩ : ∃ n, n = m.o.length := ⟨_, rfl⟩
       have hfi := play_fit1 H40.out.1 HOK.out H40.out.2 i
       have hnx : playW (l.take (i + 1)) = M' := by rw [more_next hil, ← HM.out, ← hM, hM']
       rw [← hM] at hfi
       have hra := hR.out
       rw [← hM] at hra
       have hno60 : no ≤ 60 := by rw [hno, HM.out]; exact H40.out.2 _ (List.getElem_mem hil)
       have hb5 := HX.out.2.2.2.2.2.1
       have hk5 := HX.out.2.2.2.2.1
       have hgb5 : gb < w5.heap.size := (Array.getElem?_eq_some_iff.1 hk5).1
       have hgbr : gb = wi.heap.size := HGB.out
       have hboxes : ∀ wz, Below w5.heap.size w5 wz → wz.rangeAt gb 0 m.id.cs ∧ wz.rangeAt gb 2 (contA m.x A' c').toList ∧ wz.cell? ⟨gb, 31, none⟩ = some (.slice Ao no co) := fun wz hz => by
         have e := wr_rows (by rw [← HCW.out]; exact (hz.block gb hgb5).trans hk5)
         rw [hno]
         exact ⟨e.1, e.2.1, e.2.2.2.1⟩
       have hio5 : ∀ wz, Below w5.heap.size w5 wz → IkG wz (fun k => k < w.heap.size) Ao co m.o := fun wz hz => HSL0.out.2.below ((hb5.trans (hz.mono hb5.size)).mono hbw.size)
       have hsl5 : ∀ wz, Below w.heap.size wi wz → SlAt wz w.heap.size A' c' m.x.t.l ∧ IkG wz (fun k => k < w.heap.size) Ao co m.o := fun wz hz => ⟨HSL0.out.1.below hz, HSL0.out.2.below hz⟩
       have HB6 := Lib.hid hboxes
       have HIO5 := Lib.hid hio5
       have HSL5 := Lib.hid hsl5
       have HNO := Lib.hid hno
       have HFI := Lib.hid hfi
       have HNXT := Lib.hid hnx
       have HRA := Lib.hid (And.intro hra (And.intro hbw (And.intro hM' her)))
       have HG5 := Lib.hid (And.intro hgb5 hgbr)
       clear hM hM' her hfi hnx hra hbw hboxes hio5 hsl5 hno hb5 hk5 hgb5 hgbr HSL0
       go_upto_region 10 with (first | (refine wpList_mid rfl 46 _ rfl q (o + i * 32) rfl CW.toList _ HX.out.1 undRw rfl HX.out.2.1.2 ?_; simp only [Array.toArray_toList]) | (refine wpList_rwVar rfl rfl wi.heap.size rfl ?_) | (refine wpList_storeFresh (w := wi) rfl 46 _ _ rfl wi.heap.size rfl CW rfl rfl HX.out.2.1.1 HX.out.2.2.2.1 HX.out.2.2.1 ?_) | fail)
       rw [← HW5.out, ← HGB.out]
       (try simp only [Act.put, List.getElem_toArray, List.getElem_cons_succ, List.getElem_cons_zero, List.setIfInBounds_toArray, List.set_cons_zero, List.set_cons_succ])
       go_cut [7] (fun v wx => ∃ g7 A3 c3, v = .pointer (some ⟨g7, 0, none⟩) ∧ Hid (Below w5.heap.size w5 wx ∧ w5.heap.size ≤ g7 ∧ wx.heap[g7]? = some (.cells (wrA m A' c' A3 c3) 49) ∧ wx.ownsRow w5.heap.size 28 2 (.slice A3 no c3) no (ikCells m.o)))
       case first =>
        refine wp_region_held_drew (S := fun wx => Below w5.heap.size w5 wx) (by kernel_rfl) (Below.refl _ _).drew (fun hHeld => ?_)
        obtain ⟨wa, hwa⟩ : ∃ x, x = w5.drew := ⟨_, rfl⟩
        rw [← hwa] at hHeld ⊢
        clear hwa
        refine wpAnyH_take (i := 0) (v := .pointer (some ⟨gb, 0, none⟩)) rfl (by kernel_rfl) (by kernel_rfl) (by kernel_rfl) (fun _ _ _ h => h) (Or.inl ⟨by kernel_rfl, fun _ hS => by kernel_rfl⟩) hHeld ?_
        (try simp only [Act.put, List.getElem_toArray, List.getElem_cons_succ, List.getElem_cons_zero, List.setIfInBounds_toArray, List.set_cons_zero, List.set_cons_succ])
        refine wpAnyH_take (i := 1) (v := .agg m.id.cs.toArray) rfl (by kernel_rfl) (by kernel_rfl) (by kernel_rfl) (fun _ _ _ h => h) (yieldsIf_load_mid (by kernel_rfl) 28 _ rfl gb 0 rfl m.id.cs _ (fun _ hS => (HB6.out _ hS).1) ikUnd rfl (HIK.out _)) hHeld ?_
        (try simp only [Act.put, List.getElem_toArray, List.getElem_cons_succ, List.getElem_cons_zero, List.setIfInBounds_toArray, List.set_cons_zero, List.set_cons_succ])
        refine wpAnyH_take (i := 2) (v := .pointer (some ⟨gb, 2, none⟩)) rfl (by kernel_rfl) (by kernel_rfl) (by kernel_rfl) (fun _ _ _ h => h) (Or.inl ⟨by kernel_rfl, fun _ hS => by kernel_rfl⟩) hHeld ?_
        (try simp only [Act.put, List.getElem_toArray, List.getElem_cons_succ, List.getElem_cons_zero, List.setIfInBounds_toArray, List.set_cons_zero, List.set_cons_succ])
        refine wpAnyH_take (i := 3) (v := .agg (contA m.x A' c').toList.toArray) rfl (by kernel_rfl) (by kernel_rfl) (by kernel_rfl) (fun _ _ _ h => h) (yieldsIf_load_mid (by kernel_rfl) 37 _ rfl gb 2 rfl (contA m.x A' c').toList _ (fun _ hS => (HB6.out _ hS).2.1) undC rfl (HIC.out _ _ _).2.1) hHeld ?_
        (try simp only [Act.put, List.getElem_toArray, List.getElem_cons_succ, List.getElem_cons_zero, List.setIfInBounds_toArray, List.set_cons_zero, List.set_cons_succ])
        simp only [Array.toArray_toList]
        refine wpAnyH_take (i := 5) (v := .pointer (some ⟨gb, 31, none⟩)) rfl (by kernel_rfl) (by kernel_rfl) (by kernel_rfl) (fun _ _ _ h => h) (Or.inl ⟨by kernel_rfl, fun _ hS => by kernel_rfl⟩) hHeld ?_
        (try simp only [Act.put, List.getElem_toArray, List.getElem_cons_succ, List.getElem_cons_zero, List.setIfInBounds_toArray, List.set_cons_zero, List.set_cons_succ])
        refine wpAnyH_take (i := 6) (v := .slice Ao no co) rfl (by kernel_rfl) (by kernel_rfl) (by kernel_rfl) (fun _ _ _ h => h) (Or.inl ⟨by kernel_rfl, fun _ hS => ldIds_run _ rfl ⟨gb, 31, none⟩ rfl _ (HB6.out _ hS).2.2⟩) hHeld ?_
        (try simp only [Act.put, List.getElem_toArray, List.getElem_cons_succ, List.getElem_cons_zero, List.setIfInBounds_toArray, List.set_cons_zero, List.set_cons_succ])
        refine wpAnyH_ready (rs := [4, 9]) (by kernel_rfl) (by simp) ?_
        refine AllReadyH.cons rfl (fun K hK => ?_) (AllReadyH.cons rfl (fun K hK => ?_) AllReadyH.nil)
        · skip
          obtain ⟨wb, hwb⟩ : ∃ x, x = wa.alloc (.cells #[] 28) := ⟨_, rfl⟩
          obtain ⟨g1, hg1⟩ : ∃ x, x = wa.heap.size := ⟨_, rfl⟩
          have hbn : Below wa.heap.size wa wb := by rw [hwb]; exact (bel1 _ _).1
          have hown : wb.ownsRow w5.heap.size 28 2 (.slice (some ⟨g1, 0, none⟩) 0 0) 0 (ikCells []) := by rw [hwb, hg1]; exact own_none _ _ hHeld.size
          refine step_of rfl (wp_noIds rfl ?_)
          rw [← hwb, ← hg1]
          have hbn2 := hHeld.trans (hbn.mono hHeld.size)
          refine hK.out _ _ hbn2 (fun hHeld1 => ?_)
          clear hK K hHeld hbn2
          have hHeld := hHeld1
          clear hHeld1
          (try simp only [Act.put, List.getElem_toArray, List.getElem_cons_succ, List.getElem_cons_zero, List.setIfInBounds_toArray, List.set_cons_zero, List.set_cons_succ])
          clear hbn hwb hg1
          refine wpAnyH_ready (rs := [7, 9]) (by kernel_rfl) (by simp) ?_
          refine AllReadyH.cons rfl (fun K hK => ?_) (AllReadyH.cons rfl (fun K hK => ?_) AllReadyH.nil)
          · skip
            refine step_of rfl (wp_append_ikc (.tmp 33) (.tmp 35) rfl w5.heap.size (.slice (some ⟨g1, 0, none⟩) 0 0) 0 no no [] m.o rfl hown Ao co _ rfl (HIO5.out _ hHeld) HNO.out (by omega) (by omega) hHeld.size ?_)
            intro A3 c3 wc ho3 hg3
            have hbn2 : Below w5.heap.size w5 wc := hHeld.grown hg3 hHeld.size (own_base hown)
            refine hK.out _ _ hbn2 (fun hHeld1 => ?_)
            clear hK K hHeld hbn2
            have hHeld := hHeld1
            clear hHeld1
            (try simp only [Act.put, List.getElem_toArray, List.getElem_cons_succ, List.getElem_cons_zero, List.setIfInBounds_toArray, List.set_cons_zero, List.set_cons_succ])
            clear hown hg3
            rw [List.nil_append] at ho3
            have hown := ho3
            clear ho3
            refine wpAnyH_take (i := 8) (v := .agg (wrA m A' c' A3 c3)) rfl (by kernel_rfl) (by kernel_rfl) (by kernel_rfl) (fun _ _ _ h => h) (Or.inl ⟨by kernel_rfl, fun _ hS => bld_wr _ _ _ rfl m A' c' A3 c3 no rfl rfl rfl HNO.out⟩) hHeld ?_
            (try simp only [Act.put, List.getElem_toArray, List.getElem_cons_succ, List.getElem_cons_zero, List.setIfInBounds_toArray, List.set_cons_zero, List.set_cons_succ])
            refine wpAnyH_ready (rs := [9]) (by kernel_rfl) (by simp) ?_
            refine AllReadyH.cons rfl (fun K hK => ?_) AllReadyH.nil
            obtain ⟨wd, hwd⟩ : ∃ x, x = wc.alloc (.cells (wrA zWr none 0 none 0) 49) := ⟨_, rfl⟩
            obtain ⟨g7, hg7⟩ : ∃ x, x = wc.heap.size := ⟨_, rfl⟩
            have hbn : Below wc.heap.size wc wd := by rw [hwd]; exact (bel1 _ _).1
            have hbox : wd.heap[g7]? = some (.cells (wrA zWr none 0 none 0) 49) := by rw [hwd, hg7]; exact heap_alloc_new _ _
            have hgl : w5.heap.size ≤ g7 := by rw [hg7]; exact hHeld.size
            have hown2 := own_alloc hown (.cells (wrA zWr none 0 none 0) 49)
            rw [← hwd] at hown2
            clear hown
            have hown := hown2
            clear hown2
            rw [if_pos (wanted_none rfl)]
            refine wp_run (v := .pointer (some ⟨wc.heap.size, 0, none⟩)) (w' := wc.alloc (.cells (wrA zWr none 0 none 0) 49)) (by kernel_rfl) ?_
            rw [← hwd, ← hg7]
            have hbn2 := hHeld.trans (hbn.mono hHeld.size)
            refine hK.out _ _ hbn2 (fun hHeld1 => ?_)
            clear hK K hHeld hbn2
            have hHeld := hHeld1
            clear hHeld1
            (try simp only [Act.put, List.getElem_toArray, List.getElem_cons_succ, List.getElem_cons_zero, List.setIfInBounds_toArray, List.set_cons_zero, List.set_cons_succ])
            clear hbn hwd hg7
            refine wpAnyH_ready (rs := [10]) (by kernel_rfl) (by simp) ?_
            refine AllReadyH.cons rfl (fun K hK => ?_) AllReadyH.nil
            rw [if_pos (wanted_none rfl)]
            refine wp_store_row 49 _ _ rfl g7 (wrA m A' c' A3 c3) rfl rfl 49 (wrA zWr none 0 none 0) hbox (wr_idx _ _ _ _ _).1 rfl (wrA_one _ _ _ _ _) ?_
            have hr := setRow_heap wd g7 (wrA zWr none 0 none 0) (wrA m A' c' A3 c3) 49 (0, 0) hbox
            have hbr : Below w5.heap.size w5 (wd.setRow g7 (wrA m A' c' A3 c3)) := below_row hHeld hgl _
            have hown6 : (wd.setRow g7 (wrA m A' c' A3 c3)).ownsRow w5.heap.size 28 2 (.slice A3 no c3) no (ikCells m.o) := own_sameC hown (fun g cs hg _ _ => setRow_other _ _ _ _ (fun e => by rw [e, hbox] at hg; cases hg))
            refine hK.out _ _ hbr (fun hHeld1 => ?_)
            clear hK K hHeld hbr
            have hHeld := hHeld1
            clear hHeld1
            (try simp only [Act.put, List.getElem_toArray, List.getElem_cons_succ, List.getElem_cons_zero, List.setIfInBounds_toArray, List.set_cons_zero, List.set_cons_succ])
            refine wpAnyH_done (by kernel_rfl) ?_ _
            go_wp2_with fail
            go_meet
            exact ⟨g7, A3, c3, rfl, Lib.hid ⟨hHeld, hgl, hr, hown6⟩⟩
          · skip
            obtain ⟨wc, hwc⟩ : ∃ x, x = wb.alloc (.cells (wrA zWr none 0 none 0) 49) := ⟨_, rfl⟩
            obtain ⟨g7, hg7⟩ : ∃ x, x = wb.heap.size := ⟨_, rfl⟩
            have hbn : Below wb.heap.size wb wc := by rw [hwc]; exact (bel1 _ _).1
            have hbox : wc.heap[g7]? = some (.cells (wrA zWr none 0 none 0) 49) := by rw [hwc, hg7]; exact heap_alloc_new _ _
            have hgl : w5.heap.size ≤ g7 := by rw [hg7]; exact hHeld.size
            have hown2 := own_alloc hown (.cells (wrA zWr none 0 none 0) 49)
            rw [← hwc] at hown2
            clear hown
            have hown := hown2
            clear hown2
            rw [if_pos (wanted_none rfl)]
            refine wp_run (v := .pointer (some ⟨wb.heap.size, 0, none⟩)) (w' := wb.alloc (.cells (wrA zWr none 0 none 0) 49)) (by kernel_rfl) ?_
            rw [← hwc, ← hg7]
            have hbn2 := hHeld.trans (hbn.mono hHeld.size)
            refine hK.out _ _ hbn2 (fun hHeld1 => ?_)
            clear hK K hHeld hbn2
            have hHeld := hHeld1
            clear hHeld1
            (try simp only [Act.put, List.getElem_toArray, List.getElem_cons_succ, List.getElem_cons_zero, List.setIfInBounds_toArray, List.set_cons_zero, List.set_cons_succ])
            clear hbn hwc hg7
            refine wpAnyH_ready (rs := [7]) (by kernel_rfl) (by simp) ?_
            refine AllReadyH.cons rfl (fun K hK => ?_) AllReadyH.nil
            refine step_of rfl (wp_append_ikc (.tmp 33) (.tmp 35) rfl w5.heap.size (.slice (some ⟨g1, 0, none⟩) 0 0) 0 no no [] m.o rfl hown Ao co _ rfl (HIO5.out _ hHeld) HNO.out (by omega) (by omega) hHeld.size ?_)
            intro A3 c3 wd ho3 hg3
            have hbn2 : Below w5.heap.size w5 wd := hHeld.grown hg3 hHeld.size (own_base hown)
            have hbox2 : wd.heap[g7]? = some (.cells (wrA zWr none 0 none 0) 49) := (hg3.block g7 (Array.getElem?_eq_some_iff.1 hbox).1 (own_far hown hbox)).trans hbox
            clear hbox
            have hbox := hbox2
            clear hbox2
            refine hK.out _ _ hbn2 (fun hHeld1 => ?_)
            clear hK K hHeld hbn2
            have hHeld := hHeld1
            clear hHeld1
            (try simp only [Act.put, List.getElem_toArray, List.getElem_cons_succ, List.getElem_cons_zero, List.setIfInBounds_toArray, List.set_cons_zero, List.set_cons_succ])
            clear hown hg3
            rw [List.nil_append] at ho3
            have hown := ho3
            clear ho3
            refine wpAnyH_take (i := 8) (v := .agg (wrA m A' c' A3 c3)) rfl (by kernel_rfl) (by kernel_rfl) (by kernel_rfl) (fun _ _ _ h => h) (Or.inl ⟨by kernel_rfl, fun _ hS => bld_wr _ _ _ rfl m A' c' A3 c3 no rfl rfl rfl HNO.out⟩) hHeld ?_
            (try simp only [Act.put, List.getElem_toArray, List.getElem_cons_succ, List.getElem_cons_zero, List.setIfInBounds_toArray, List.set_cons_zero, List.set_cons_succ])
            refine wpAnyH_ready (rs := [10]) (by kernel_rfl) (by simp) ?_
            refine AllReadyH.cons rfl (fun K hK => ?_) AllReadyH.nil
            rw [if_pos (wanted_none rfl)]
            refine wp_store_row 49 _ _ rfl g7 (wrA m A' c' A3 c3) rfl rfl 49 (wrA zWr none 0 none 0) hbox (wr_idx _ _ _ _ _).1 rfl (wrA_one _ _ _ _ _) ?_
            have hr := setRow_heap wd g7 (wrA zWr none 0 none 0) (wrA m A' c' A3 c3) 49 (0, 0) hbox
            have hbr : Below w5.heap.size w5 (wd.setRow g7 (wrA m A' c' A3 c3)) := below_row hHeld hgl _
            have hown6 : (wd.setRow g7 (wrA m A' c' A3 c3)).ownsRow w5.heap.size 28 2 (.slice A3 no c3) no (ikCells m.o) := own_sameC hown (fun g cs hg _ _ => setRow_other _ _ _ _ (fun e => by rw [e, hbox] at hg; cases hg))
            refine hK.out _ _ hbr (fun hHeld1 => ?_)
            clear hK K hHeld hbr
            have hHeld := hHeld1
            clear hHeld1
            (try simp only [Act.put, List.getElem_toArray, List.getElem_cons_succ, List.getElem_cons_zero, List.setIfInBounds_toArray, List.set_cons_zero, List.set_cons_succ])
            refine wpAnyH_done (by kernel_rfl) ?_ _
            go_wp2_with fail
            go_meet
            exact ⟨g7, A3, c3, rfl, Lib.hid ⟨hHeld, hgl, hr, hown6⟩⟩
        · skip
          obtain ⟨wb, hwb⟩ : ∃ x, x = wa.alloc (.cells (wrA zWr none 0 none 0) 49) := ⟨_, rfl⟩
          obtain ⟨g7, hg7⟩ : ∃ x, x = wa.heap.size := ⟨_, rfl⟩
          have hbn : Below wa.heap.size wa wb := by rw [hwb]; exact (bel1 _ _).1
          have hbox : wb.heap[g7]? = some (.cells (wrA zWr none 0 none 0) 49) := by rw [hwb, hg7]; exact heap_alloc_new _ _
          have hgl : w5.heap.size ≤ g7 := by rw [hg7]; exact hHeld.size
          rw [if_pos (wanted_none rfl)]
          refine wp_run (v := .pointer (some ⟨wa.heap.size, 0, none⟩)) (w' := wa.alloc (.cells (wrA zWr none 0 none 0) 49)) (by kernel_rfl) ?_
          rw [← hwb, ← hg7]
          have hbn2 := hHeld.trans (hbn.mono hHeld.size)
          refine hK.out _ _ hbn2 (fun hHeld1 => ?_)
          clear hK K hHeld hbn2
          have hHeld := hHeld1
          clear hHeld1
          (try simp only [Act.put, List.getElem_toArray, List.getElem_cons_succ, List.getElem_cons_zero, List.setIfInBounds_toArray, List.set_cons_zero, List.set_cons_succ])
          clear hbn hwb hg7
          refine wpAnyH_ready (rs := [4]) (by kernel_rfl) (by simp) ?_
          refine AllReadyH.cons rfl (fun K hK => ?_) AllReadyH.nil
          obtain ⟨wc, hwc⟩ : ∃ x, x = wb.alloc (.cells #[] 28) := ⟨_, rfl⟩
          obtain ⟨g1, hg1⟩ : ∃ x, x = wb.heap.size := ⟨_, rfl⟩
          have hbn : Below wb.heap.size wb wc := by rw [hwc]; exact (bel1 _ _).1
          have hown : wc.ownsRow w5.heap.size 28 2 (.slice (some ⟨g1, 0, none⟩) 0 0) 0 (ikCells []) := by rw [hwc, hg1]; exact own_none _ _ hHeld.size
          have hbox2 : wc.heap[g7]? = some (.cells (wrA zWr none 0 none 0) 49) := (hbn.block g7 (Array.getElem?_eq_some_iff.1 hbox).1).trans hbox
          clear hbox
          have hbox := hbox2
          clear hbox2
          refine step_of rfl (wp_noIds rfl ?_)
          rw [← hwc, ← hg1]
          have hbn2 := hHeld.trans (hbn.mono hHeld.size)
          refine hK.out _ _ hbn2 (fun hHeld1 => ?_)
          clear hK K hHeld hbn2
          have hHeld := hHeld1
          clear hHeld1
          (try simp only [Act.put, List.getElem_toArray, List.getElem_cons_succ, List.getElem_cons_zero, List.setIfInBounds_toArray, List.set_cons_zero, List.set_cons_succ])
          clear hbn hwc hg1
          refine wpAnyH_ready (rs := [7]) (by kernel_rfl) (by simp) ?_
          refine AllReadyH.cons rfl (fun K hK => ?_) AllReadyH.nil
          refine step_of rfl (wp_append_ikc (.tmp 33) (.tmp 35) rfl w5.heap.size (.slice (some ⟨g1, 0, none⟩) 0 0) 0 no no [] m.o rfl hown Ao co _ rfl (HIO5.out _ hHeld) HNO.out (by omega) (by omega) hHeld.size ?_)
          intro A3 c3 wd ho3 hg3
          have hbn2 : Below w5.heap.size w5 wd := hHeld.grown hg3 hHeld.size (own_base hown)
          have hbox2 : wd.heap[g7]? = some (.cells (wrA zWr none 0 none 0) 49) := (hg3.block g7 (Array.getElem?_eq_some_iff.1 hbox).1 (own_far hown hbox)).trans hbox
          clear hbox
          have hbox := hbox2
          clear hbox2
          refine hK.out _ _ hbn2 (fun hHeld1 => ?_)
          clear hK K hHeld hbn2
          have hHeld := hHeld1
          clear hHeld1
          (try simp only [Act.put, List.getElem_toArray, List.getElem_cons_succ, List.getElem_cons_zero, List.setIfInBounds_toArray, List.set_cons_zero, List.set_cons_succ])
          clear hown hg3
          rw [List.nil_append] at ho3
          have hown := ho3
          clear ho3
          refine wpAnyH_take (i := 8) (v := .agg (wrA m A' c' A3 c3)) rfl (by kernel_rfl) (by kernel_rfl) (by kernel_rfl) (fun _ _ _ h => h) (Or.inl ⟨by kernel_rfl, fun _ hS => bld_wr _ _ _ rfl m A' c' A3 c3 no rfl rfl rfl HNO.out⟩) hHeld ?_
          (try simp only [Act.put, List.getElem_toArray, List.getElem_cons_succ, List.getElem_cons_zero, List.setIfInBounds_toArray, List.set_cons_zero, List.set_cons_succ])
          refine wpAnyH_ready (rs := [10]) (by kernel_rfl) (by simp) ?_
          refine AllReadyH.cons rfl (fun K hK => ?_) AllReadyH.nil
          rw [if_pos (wanted_none rfl)]
          refine wp_store_row 49 _ _ rfl g7 (wrA m A' c' A3 c3) rfl rfl 49 (wrA zWr none 0 none 0) hbox (wr_idx _ _ _ _ _).1 rfl (wrA_one _ _ _ _ _) ?_
          have hr := setRow_heap wd g7 (wrA zWr none 0 none 0) (wrA m A' c' A3 c3) 49 (0, 0) hbox
          have hbr : Below w5.heap.size w5 (wd.setRow g7 (wrA m A' c' A3 c3)) := below_row hHeld hgl _
          have hown6 : (wd.setRow g7 (wrA m A' c' A3 c3)).ownsRow w5.heap.size 28 2 (.slice A3 no c3) no (ikCells m.o) := own_sameC hown (fun g cs hg _ _ => setRow_other _ _ _ _ (fun e => by rw [e, hbox] at hg; cases hg))
          refine hK.out _ _ hbr (fun hHeld1 => ?_)
          clear hK K hHeld hbr
          have hHeld := hHeld1
          clear hHeld1
          (try simp only [Act.put, List.getElem_toArray, List.getElem_cons_succ, List.getElem_cons_zero, List.setIfInBounds_toArray, List.set_cons_zero, List.set_cons_succ])
          refine wpAnyH_done (by kernel_rfl) ?_ _
          go_wp2_with fail
          go_meet
          exact ⟨g7, A3, c3, rfl, Lib.hid ⟨hHeld, hgl, hr, hown6⟩⟩
       case rest =>
        obtain ⟨g7, A3, c3, rfl, hcut⟩ := hcut
        obtain ⟨w6, hw6⟩ : ∃ x, x = wc := ⟨_, rfl⟩
        rw [← hw6] at hcut ⊢
        clear hw6
        have HC := hcut
        clear hcut
        have hk7 := HC.out.2.2.1
        have hg7l : g7 < w6.heap.size := (Array.getElem?_eq_some_iff.1 hk7).1
        have hb56 := HC.out.1
        have hr5s := HX.out.2.2.2.2.2.1.size
        have hbr6 : Below wi.heap.size wi w6 := HX.out.2.2.2.2.2.1.trans (hb56.mono hr5s)
        have hws := HRA.out.2.1.size
        have hik : IkG w6 (fun b => b < w6.heap.size) A3 c3 m.o := (own_ikG HC.out.2.2.2 HNO.out).mono (fun b hb => hb.2)
        have hso : SoftS w6 (fun b => (w5.heap.size ≤ b ∧ b < w6.heap.size) ∧ b ≠ g7) A3 no 2 := by
          have h := SoftS.own HC.out.2.2.2 (by rw [ikCells_len, HNO.out])
          rcases h with h | ⟨b, o, e, h1, h2⟩
          · exact .inl h
          · exact .inr ⟨b, o, e, ⟨h1, fun e2 => own_far HC.out.2.2.2 hk7 (by rw [e, e2]; rfl)⟩, h2⟩
        have hcap : no ≤ c3 ∧ c3 ≤ 9223372036854775807 := by have h1 := hik.1; have h2 := hik.2.1; rw [← HNO.out] at h1; exact ⟨h1, h2⟩
        have hmo := HMIN.out
        have hwi : WrIn w6 w6.heap.size m A' c' A3 c3 := by
          have h := HSL5.out w6 (hbr6.mono hws)
          have h6s := hbr6.size
          exact ⟨hmo.1, hmo.2.1, hmo.2.2.1, hmo.2.2.2.1, h.1.more (by omega), hik, hmo.2.2.2.2, by have := HNO.out; omega⟩
        have hpt : Calls Tryz.prog 13 #[.pointer (some ⟨p, 0, none⟩), .agg (wrA m A' c' A3 c3)] w6 fun e w7 => e = .returned (.int .i64 er) ∧ (∀ b, wi.heap.size ≤ b → b < w6.heap.size → w7.heap[b]? = w6.heap[b]?) ∧ w6.heap.size ≤ w7.heap.size ∧ ∀ w8, KeepZ (fun b => wi.heap.size ≤ b ∧ b < w6.heap.size) w7 w8 → RaS w z0 p (i + 1) M' M A2 c2 w8 := by
          have h := HRA.out.1.1.put hbr6 (by omega) (by have := HFI.out.1; omega) m A' c' A3 c3 hwi
          rw [← HRA.out.2.2.1, ← HRA.out.2.2.2] at h
          exact h
        have HPT := Lib.hid hpt
        have HK7 := Lib.hid (And.intro hk7 (And.intro hg7l hbr6))
        have HSO := Lib.hid hso
        have hcap1 := hcap.1
        have hcap2 := hcap.2
        have HIW := Lib.hid (show (Tryz.prog.info? 49).map (·.size) = some (wrA m A' c' A3 c3).size from (wr_idx _ _ _ _ _).1)
        obtain ⟨CN, hCN⟩ : ∃ C, C = wrA m A' c' A3 c3 := ⟨_, rfl⟩
        have hk7' : w6.heap[g7]? = some (.cells CN 49) := by rw [hCN]; exact hk7
        rw [← hCN] at HPT HIW
        have HCN := Lib.hid hCN
        clear hk7 hg7l hb56 hr5s hbr6 hws hik hso hcap hmo hwi hpt hCN
        go_upto_region 12 with (first | (refine wpList_row rfl 49 _ rfl g7 rfl 49 CN (0, 0) _ hk7' undWr rfl HIW.out ?_) | (go_at_call 13; refine HPT.out.mono ?_; rintro e w7 ⟨rfl, hq1, hq2, hq3⟩; have HQ := Lib.hid (And.intro hq1 (And.intro hq2 hq3)); clear hq1 hq2 hq3) | fail)
        have hr5s := HX.out.2.2.2.2.2.1.size
        have h5g := HC.out.2.1
        have h56 := HC.out.1.size
        have hk77 : w7.heap[g7]? = some (.cells CN 49) := (HQ.out.1 g7 (by omega) HK7.out.2.1).trans hk7'
        have hsy : ApY w7 (fun b => (w5.heap.size ≤ b ∧ b < w6.heap.size) ∧ b ≠ g7) A3 no (.int .i64 0) w7 := ⟨0, Nat.zero_le _, rfl, Lib.hid ⟨KeepZ.refl _ _, HSO.out.keep (fun b hb => ⟨HQ.out.1 b (by omega) hb.1.2, hb⟩)⟩⟩
        have HSY := Lib.hid hsy
        have hcell : ∀ wz : World, wz.heap[g7]? = some (.cells CN 49) → wz.cell? ⟨g7, 31, none⟩ = some (.slice A3 no c3) := fun wz h => by rw [HCN.out] at h; rw [(wr_c30 h).2, HNO.out]
        have HCELL := Lib.hid hcell
        have h31 := hcell w7 hk77
        have HK77 := Lib.hid hk77
        have HSZ := Lib.hid (And.intro hr5s (And.intro h5g h56))
        clear hk7' hk77 hsy hcell hr5s h5g h56
        go_upto_region 13 with (fail)
        clear h31
        go_wp2
        go_loopw [44] (fun kv wx => ApY w7 (fun b => (w5.heap.size ≤ b ∧ b < w6.heap.size) ∧ b ≠ g7) A3 no kv wx) (fun kv _ => no - (intOf kv).toNat)
        case atStart => exact HSY.out
        case round =>
         obtain ⟨k, hkn, rfl, hY⟩ := hrel
         by_cases hk : k < no
         · have hkI : (k : Int) < (no : Int) := by omega
           have hk0 : (0 : Int) ≤ k := by omega
           obtain ⟨b3, o3, eA, hb3, hth⟩ := hY.out.2.at_ hk
           subst eA
           have hne : ¬ (∃ o, (some ⟨b3, o3, none⟩ : Option Addr) = some ⟨g7, o, none⟩) := fun ⟨o, e⟩ => hb3.2 (by injection e with e; injection e)
           have h31 := HCELL.out wr ((hY.out.1.block g7 (Array.getElem?_eq_some_iff.1 HK77.out).1 hne).trans HK77.out)
           have HB3 := Lib.hid hb3
           clear hb3 hne
           go_wp2_with (first | (refine wpList_store_mid rfl 28 _ _ rfl b3 (o3 + k * 2) #[.int .i64 0, .int .i64 0] rfl rfl hth (HIS.out _ _) (ik_one _ _) ?_) | fail)
           go_roundw
           case measure => simp [intOf]; omega
           case rel =>
             exact ⟨k + 1, by omega, by go_num, Lib.hid ⟨hY.out.1.trans ((keepZ_cells _ _ _).mono (fun b e => ⟨o3, by rw [e]⟩)), hY.out.2.setCells _ _ _⟩⟩
         · have hke : no = k := by omega
           subst hke
           have hkI : ¬ ((no : Int) < (no : Int)) := by omega
           have hyy : ∀ b, (∃ o, A3 = some ⟨b, o, none⟩) → w5.heap.size ≤ b ∧ b < w6.heap.size := fun b ⟨o, e⟩ => ⟨own_base HC.out.2.2.2 b (by rw [e]; rfl), own_lt HC.out.2.2.2 b (by rw [e]; rfl)⟩
           obtain ⟨hs1, hs2, hs3⟩ := HSZ.out
           have hra := HQ.out.2.2 wr (hY.out.1.mono (fun b hb => by have := hyy b hb; omega))
           obtain ⟨w8, hw8⟩ : ∃ x, x = wr := ⟨_, rfl⟩
           have hgw : w8.heap[gb]? = some (.cells CW 46) := by
             rw [hw8]
             obtain ⟨q1, q2⟩ := HG5.out
             exact (hY.out.1.block gb (by have := HQ.out.2.1; omega) (fun hb => by have := hyy gb hb; omega)).trans ((HQ.out.1 gb (by omega) (by omega)).trans ((HC.out.1.block gb q1).trans HX.out.2.2.2.2.1))
           rw [← hw8] at hra ⊢
           have hrp : Calls Tryz.prog 19 #[.slice A2 nM c2, .agg CW] w8 fun e w' => ∃ A9 c9 n9, e = .returned (.tuple #[.slice A9 n9 c9, .int .i64 er]) ∧ RaS w z0 p (i + 1) M' M' A9 c9 w' ∧ n9 = M'.length := by
             have hbb := hra.bel
             have hbi := HRA.out.2.1
             have h8 : SlAt w8 w.heap.size A' c' m.x.t.l ∧ IkG w8 (fun k => k < w.heap.size) Ao co m.o := HSL5.out w8 ⟨hbb.os.trans hbi.os.symm, hbb.tape.trans hbi.tape.symm, hbb.output.trans hbi.output.symm, (by have h1 := hY.out.1.size; have h2 := HQ.out.2.1; rw [← hw8] at h1; omega), fun k q => (hbb.block k q).trans (hbi.block k q).symm⟩
             rw [HRA.out.1.2, HCW.out]
             refine (hra.rput (by have := HFI.out.1; omega) m A' c' Ao co (wrIn_of HMIN.out (by have := HNO.out; omega) h8.1 h8.2)).mono ?_
             rintro e w' ⟨A9, c9, rfl, h⟩
             rw [← HRA.out.2.2.1] at h
             rw [← HRA.out.2.2.1, ← HRA.out.2.2.2]
             exact ⟨A9, c9, _, rfl, h, rfl⟩
           have HRP := Lib.hid hrp
           have hiwc : (Tryz.prog.info? 46).map (·.size) = some CW.size := HX.out.2.1.1
           have HIWC := Lib.hid hiwc
           clear hyy hs1 hs2 hs3 hra hw8 hrp hiwc
           go_wp2_with (first | (refine wpList_row rfl 46 _ rfl gb rfl 46 CW (0, 0) _ hgw undRw rfl HIWC.out ?_) | (go_at_call 19; refine HRP.out.mono ?_; rintro e w9 ⟨A9, c9, n9, rfl, hr9, hn9⟩; have HR9 := Lib.hid (And.intro hr9 hn9); clear hr9 hn9) | fail)
           go_roundw
           case measure => simp [intOf]; omega
           case rel => exact ⟨i + 1, by omega, by go_num, A9, n9, c9, rfl, Lib.hid ⟨by rw [HNXT.out]; exact HR9.out.1, by rw [HNXT.out]; exact HR9.out.2⟩⟩
     · have hie : n = i := by omega
       subst hie
       have hiI : ¬ ((n : Int) < (n : Int)) := by omega
       obtain ⟨M, hM⟩ : ∃ M, M = playW (l.take n) := ⟨_, rfl⟩
       have hfi := play_fit1 H40.out.1 HOK.out H40.out.2 n
       have hra := hR.out
       obtain ⟨W, hW⟩ : ∃ W, W = wi := ⟨_, rfl⟩
       rw [← hM, ← hW] at hra
       rw [← hM] at hfi
       rw [← hW]
       obtain ⟨L, hL⟩ : ∃ L, L = standW M (fun _ => false) := ⟨_, rfl⟩
       obtain ⟨D, hD⟩ : ∃ D, D = L.dropLast := ⟨_, rfl⟩
       obtain ⟨nd, hnd⟩ : ∃ k, k = L.length - 1 := ⟨_, rfl⟩
       have hndD : nd = D.length := by rw [hD, List.length_dropLast, hnd]
       have hfD : ∀ y ∈ D, y.o.length ≤ 100000 := fun y hy => by
         rw [hD] at hy
         have h := List.dropLast_subset _ hy
         rw [hL] at h
         exact (hfi.2 y (stand_sub.1 h).1).2
       have hgu := hra.1.getU (by have := hfi.1; omega)
       rw [← hL] at hgu
       have HGU := Lib.hid hgu
       have HRA := Lib.hid hra
       have HFI := Lib.hid hfi
       have HD := Lib.hid (And.intro hD (And.intro hnd (And.intro hndD hfD)))
       have hnd40 : nd ≤ 1000 := by rw [hnd, hL]; unfold standW; exact Nat.le_trans (Nat.sub_le _ _) (Nat.le_trans (List.length_filter_le _ _) (by have := hfi.1; omega))
       clear hM hfi hra hW hL hD hnd hndD hfD hgu hR HST
       go_upto_region 20 with (first | (go_at_call 17; refine HGU.out.mono ?_; rintro e w21 ⟨A21, c21, Ao21, co21, rfl, -, hr, hb, hso⟩; have HG21 := Lib.hid (And.intro hb (And.intro hr hso)); clear hr hb hso; obtain ⟨CA21, hCA⟩ : ∃ C, C = contA (lastC L) A21 c21 := ⟨_, rfl⟩; have hia := HIC.out (lastC L) A21 c21; rw [← hCA] at hia ⊢; have HCA21 := Lib.hid (And.intro hCA hia); clear hCA hia) | (refine wpList_contVar rfl rfl w21.heap.size rfl ?_) | (refine wpList_storeFresh (w := w21) rfl 37 _ _ rfl w21.heap.size rfl CA21 rfl rfl HCA21.out.2.1 HCA21.out.2.2.2.1 HCA21.out.2.2.2.2 ?_) | fail)
       obtain ⟨w22, hw22⟩ : ∃ x, x = w21.alloc (.cells CA21 37) := ⟨_, rfl⟩
       obtain ⟨s1, hs1⟩ : ∃ x, x = w21.heap.size := ⟨_, rfl⟩
       change Code.wp _ _ _ _ (w21.alloc (.cells CA21 37))
       rw [← hw22, ← HD.out.2.1]
       have hb22 : Below w21.heap.size w21 w22 := by rw [hw22]; exact (bel1 _ _).1
       have hsj : ApJ W s1 Ao21 D nd (.int .i64 0) w22 := by
         obtain ⟨g1, g2, g3⟩ := HG21.out
         rw [← HD.out.1] at g3
         refine ⟨0, Nat.zero_le _, rfl, Lib.hid ⟨g1.trans (hb22.mono g1.size), by rw [hs1]; exact hb22.size, ?_⟩⟩
         rw [hs1]
         exact g3.below (fun b hb => hb.2) hb22
       have hcapd : nd ≤ co21 ∧ co21 ≤ 9223372036854775807 := by
         have h1 := HG21.out.2.1.1
         have h2 := HG21.out.2.1.2.1
         rw [List.length_dropLast, ← HD.out.2.1] at h1
         exact ⟨h1, h2⟩
       have hd1 := hcapd.1
       have hd2 := hcapd.2
       have HSJ := Lib.hid hsj
       clear hw22 hs1 hb22 hsj hcapd
       go_wp2
       go_loopw [67] (fun jv wr => ApJ W s1 Ao21 D nd jv wr) (fun jv _ => nd - (intOf jv).toNat)
       case atStart => exact HSJ.out
       case round =>
        rename World => wj
        obtain ⟨j, hjn, rfl, hJ⟩ := hrel
        by_cases hj : j < nd
        · have hjI : (j : Int) < (nd : Int) := by omega
          have hj0 : (0 : Int) ≤ j := by omega
          have hjD : j < D.length := by rw [← HD.out.2.2.1]; exact hj
          obtain ⟨q, o, hA, hq, x, hx, hr, hs⟩ := hJ.out.2.2 j hjD
          subst hA
          obtain ⟨CB, hCB⟩ : ∃ C, C = wrA x.m x.A x.c x.Ao x.co := ⟨_, rfl⟩
          obtain ⟨ko, hko⟩ : ∃ k, k = x.m.o.length := ⟨_, rfl⟩
          obtain ⟨kl, hkl⟩ : ∃ k, k = x.m.x.t.l.length := ⟨_, rfl⟩
          have hko1 : ko ≤ 100000 := by rw [hko, hx]; exact HD.out.2.2.2 _ (List.getElem_mem hjD)
          have hkl1 : kl ≤ 9223372036854775807 := by
            have hrw := HG21.out.2.1
            rw [← HD.out.1] at hrw
            obtain ⟨b, o', e, hg, hrow⟩ := hrw.2.2.resolve_left (fun e => by rw [e] at hjD; exact absurd hjD (Nat.not_lt_zero _))
            obtain ⟨A', c', Ao, co, r1, r2, r3⟩ := hrow j hjD
            rw [hkl, hx]
            exact Nat.le_trans r2.1 r2.2.1
          have hrr : wj.rangeAt q (o + j * 32) CB.toList := by rw [hCB]; exact hr
          obtain ⟨w23, hw23⟩ : ∃ y, y = wj.alloc (.cells CB 49) := ⟨_, rfl⟩
          obtain ⟨g12, hg12⟩ : ∃ y, y = wj.heap.size := ⟨_, rfl⟩
          have hb23 : Below wj.heap.size wj w23 := by rw [hw23]; exact (bel1 _ _).1
          have hk23 : w23.heap[g12]? = some (.cells CB 49) := by rw [hw23, hg12]; exact heap_alloc_new _ _
          have hg1 : s1 ≤ g12 := by rw [hg12]; exact hJ.out.2.1
          have hcell : ∀ wz : World, wz.heap[g12]? = some (.cells CB 49) → wz.cell? ⟨g12, 30, none⟩ = some (.slice x.A kl x.c) ∧ wz.cell? ⟨g12, 31, none⟩ = some (.slice x.Ao ko x.co) := fun wz h => by rw [hCB] at h; rw [hko, hkl]; exact wr_c30 h
          have hicb : (Tryz.prog.info? 49).map (·.size) = some CB.toList.length ∧ (Tryz.prog.info? 49).map (·.size) = some CB.size ∧ (wrA zWr none 0 none 0).size = CB.size ∧ CB.all (·.oneCell') = true := by rw [hCB]; exact ⟨(wr_idx _ _ _ _ _).2, (wr_idx _ _ _ _ _).1, rfl, wrA_one _ _ _ _ _⟩
          have hs0 := hs
          rw [SoftW, ← hko, ← hkl] at hs0
          have hbb : ∀ b, (W.heap.size ≤ b ∧ b < s1) → b < wj.heap.size := fun b hb => by have := hJ.out.2.1; omega
          have hsk : ApK W s1 (some ⟨q, o, none⟩) D g12 q CB x ko (.int .i64 0) w23 :=
            ⟨0, Nat.zero_le _, rfl, Lib.hid ⟨hJ.out.1.trans (hb23.mono hJ.out.1.size), by have := hb23.size; have := hJ.out.2.1; omega, hJ.out.2.2.below hbb hb23, hk23, hs.keep (fun b hb => ⟨hb23.block b (hbb b hb.1), hb⟩)⟩⟩
          have hqa : ∀ q' o', (some ⟨q, o, none⟩ : Option Addr) = some ⟨q', o', none⟩ → q' = q := fun q' o' e => by injection e with e; injection e with e; exact e.symm
          have HW24 := Lib.hid (And.intro hko hkl)
          have HCB := Lib.hid hicb
          have HCELL := Lib.hid hcell
          have HSK := Lib.hid hsk
          have HJ3 := Lib.hid (And.intro hqa hg1)
          have HRR := Lib.hid hrr
          have HW23 := Lib.hid (And.intro hw23 (And.intro hg12 (And.intro hr hs)))
          have h31 := (hcell w23 hk23).2
          clear hx hr hs hs0 hrr hicb hsk hqa hcell hbb hb23 hg12 hw23 hko hkl hCB
          go_upto_region 23 with (first | (refine wpList_mid rfl 49 _ rfl q (o + j * 32) rfl CB.toList _ HRR.out undWr rfl HCB.out.1 ?_; simp only [Array.toArray_toList]) | (refine wpList_wrVar rfl rfl wj.heap.size rfl ?_) | (refine wpList_storeFresh (w := wj) rfl 49 _ _ rfl wj.heap.size rfl CB rfl rfl HCB.out.2.1 HCB.out.2.2.1 HCB.out.2.2.2 ?_) | fail)
          rw [← HW23.out.1, ← HW23.out.2.1]
          go_upto_region 24 with (fail)
          clear h31
          go_wp2
          go_loopw [74] (fun kv wx => ApK W s1 (some ⟨q, o, none⟩) D g12 q CB x ko kv wx) (fun kv _ => ko - (intOf kv).toNat)
          case atStart => exact HSK.out
          case round =>
           rename World => wk
           obtain ⟨k, hkn, rfl, hK⟩ := hrel
           by_cases hk : k < ko
           · have hkI : (k : Int) < (ko : Int) := by omega
             have hk0 : (0 : Int) ≤ k := by omega
             have hs2 := hK.out.2.2.2.2.2
             rw [← HW24.out.1] at hs2
             obtain ⟨b3, o3, eA, hb3, hth⟩ := hs2.at_ hk
             have h31 := (HCELL.out wk hK.out.2.2.2.1).2
             rw [eA] at h31
             have HTH := Lib.hid hth
             have HB3 := Lib.hid hb3
             clear hb3 hs2 eA
             go_wp2_with (first | (refine wpList_store_mid rfl 28 _ _ rfl b3 (o3 + k * 2) #[.int .i64 0, .int .i64 0] rfl rfl hth (HIS.out _ _) (ik_one _ _) ?_) | fail)
             go_roundw
             case measure => simp [intOf]; omega
             case rel => exact ⟨k + 1, by omega, by go_num, Lib.hid (ApK.write HJ3.out.1 HJ3.out.2 hK.out b3 _ _ HB3.out)⟩
           · have hke : ko = k := by omega
             subst hke
             have hkI : ¬ ((ko : Int) < (ko : Int)) := by omega
             have h30 := (HCELL.out wk hK.out.2.2.2.1).1
             have hsl : ApK W s1 (some ⟨q, o, none⟩) D g12 q CB x kl (.int .i64 0) wk := ⟨0, Nat.zero_le _, rfl, hK⟩
             have HSL := Lib.hid hsl
             clear hsl
             go_upto_region 29 with (fail)
             clear h30
             go_wp2
             go_loopw [88] (fun kv wx => ApK W s1 (some ⟨q, o, none⟩) D g12 q CB x kl kv wx) (fun kv _ => kl - (intOf kv).toNat)
             case atStart => exact HSL.out
             case round =>
              rename World => wl
              obtain ⟨k, hkn, rfl, hK⟩ := hrel
              by_cases hk : k < kl
              · have hkI : (k : Int) < (kl : Int) := by omega
                have hk0 : (0 : Int) ≤ k := by omega
                have hs2 := hK.out.2.2.2.2.1
                rw [← HW24.out.2] at hs2
                obtain ⟨b3, o3, eA, hb3, hth⟩ := hs2.at_ hk
                have h30 := (HCELL.out wl hK.out.2.2.2.1).1
                rw [eA] at h30
                obtain ⟨v0, hv0⟩ := Option.isSome_iff_exists.1 (hth 0 (by omega)).1
                have hf0 := (hth 0 (by omega)).2
                rw [Nat.add_zero] at hv0 hf0
                have HB3 := Lib.hid hb3
                clear hb3 hs2 eA hth
                go_wp2_with fail
                go_roundw
                case measure => simp [intOf]; omega
                case rel => exact ⟨k + 1, by omega, by go_num, Lib.hid (ApK.write HJ3.out.1 HJ3.out.2 hK.out b3 _ [.int .i64 99] HB3.out)⟩
              · have hke : kl = k := by omega
                subst hke
                have hkI : ¬ ((kl : Int) < (kl : Int)) := by omega
                go_wp2_with fail
                go_roundw
                case measure => simp [intOf]; omega
                case rel => exact ⟨j + 1, by omega, by go_num, Lib.hid ⟨hK.out.1, hK.out.2.1, hK.out.2.2.1⟩⟩
        · have hje : nd = j := by omega
          subst hje
          have hjI : ¬ ((nd : Int) < (nd : Int)) := by omega
          obtain ⟨ni, hni⟩ : ∃ k, k = (idsW M).length := ⟨_, rfl⟩
          have hid : Calls Tryz.prog 14 #[.pointer (some ⟨p, 0, none⟩)] wj fun e w' => ∃ Ai ci, e = .returned (.slice Ai ni ci) ∧ Below wj.heap.size wj w' ∧ w'.ownsRow wj.heap.size 28 2 (.slice Ai ni ci) ni (ikCells (idsW M)) := by
            rw [hni]
            exact (HRA.out.1.below hJ.out.1).ids (by have := HFI.out.1; omega)
          have HID := Lib.hid hid
          have hni1 : ni ≤ 40 := by rw [hni, idsW, List.length_map]; exact HFI.out.1
          have HNI := Lib.hid hni
          clear hid hni
          go_upto_region 35 with (first | (go_at_call 14; refine HID.out.mono ?_; rintro e w31 ⟨Ai, ci, rfl, hq1, hq2⟩; have HI := Lib.hid (And.intro hq1 hq2); clear hq1 hq2) | fail)
          have hsl : ApL W Ai ni (.int .i64 0) w31 := ⟨0, Nat.zero_le _, rfl, Lib.hid ⟨hJ.out.1.trans (HI.out.1.mono hJ.out.1.size), by
            have h := SoftS.own HI.out.2 (by rw [ikCells_len, HNI.out])
            rcases h with h | ⟨b, o, e, h1, h2⟩
            · exact .inl h
            · exact .inr ⟨b, o, e, Nat.le_trans hJ.out.1.size h1.1, h2⟩⟩⟩
          have HSL := Lib.hid hsl
          clear hsl
          go_wp2
          go_loopw [15] (fun kv wx => ApL W Ai ni kv wx) (fun kv _ => ni - (intOf kv).toNat)
          case atStart => exact HSL.out
          case round =>
           rename World => wk
           obtain ⟨k, hkn, rfl, hK⟩ := hrel
           by_cases hk : k < ni
           · have hkI : (k : Int) < (ni : Int) := by omega
             have hk0 : (0 : Int) ≤ k := by omega
             obtain ⟨b3, o3, eA, hb3, hth⟩ := hK.out.2.at_ hk
             subst eA
             have HTH := Lib.hid hth
             have HB3 := Lib.hid hb3
             clear hb3
             go_wp2_with (first | (refine wpList_store_mid rfl 28 _ _ rfl b3 (o3 + k * 2) #[.int .i64 0, .int .i64 0] rfl rfl hth (HIS.out _ _) (ik_one _ _) ?_) | fail)
             go_roundw
             case measure => simp [intOf]; omega
             case rel => exact ⟨k + 1, by omega, by go_num, Lib.hid ⟨hK.out.1.trans (below_setCells2 HB3.out _ _ _), hK.out.2.setCells _ _ _⟩⟩
           · have hke : ni = k := by omega
             subst hke
             have hkI : ¬ ((ni : Int) < (ni : Int)) := by omega
             have hsm := (HRA.out.1.below hK.out.1).same (by have := HFI.out.1; omega) HFI.out.2
             rw [← HRA.out.2] at hsm
             have HSAME := Lib.hid hsm
             clear hsm
             go_wp2_with (first | (go_at_call 20; refine HSAME.out.mono ?_; rintro e w40 ⟨rfl, hq⟩; have HS9 := Lib.hid hq; clear hq) | fail)
             first | go_ret | go_ret2 | (refine bodyPost_ret (results_tmp rfl _ _ _) rfl ?_)
             exact ⟨by kernel_rfl, (HRA.out.1.bel.trans (hK.out.1.mono HRA.out.1.bel.size)).trans (HS9.out.mono (Nat.le_trans HRA.out.1.bel.size hK.out.1.size))⟩
end Go.Proofs.YtbiacjkkgddclaaGreat
