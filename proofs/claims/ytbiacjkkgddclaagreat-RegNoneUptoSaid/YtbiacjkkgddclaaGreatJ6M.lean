/- reg's Get. -/
import Derived.Test.YtbiacjkkgddclaaGreatI8J1J5
import Derived.Test.YtbiacjkkgddclaaGreatJ4M
namespace Go.Proofs.YtbiacjkkgddclaaGreat
set_option linter.unusedSimpArgs false
set_option linter.unusedVariables false
open Go Go.RowKit Go.Shelf Go.Maps

theorem results_cell_tmpW {P : Program} {fn : Func} {p u : Tmp} {ty : TypeId} (h : fn.results = #[.cell p ty, .tmp u]) (tmps : Array Value) (w : World) (g : Nat) (t : TypeId) (cs : Array Value) (fr : Nat × Nat) (d : TypeDesc)
    (hp : tmps.getD p undef = .pointer (some ⟨g, 0, none⟩)) (hg : w.heap[g]? = some (.cells cs t fr))
    (hu : P.underlying ty = some d) (hd : (match d with | .struct _ | .array _ _ => true | _ => false) = true) (hi : (P.info? ty).map (·.size) = some cs.size) :
    (results fn tmps).run P w = .ok (.tuple #[.agg cs, tmps.getD u undef]) w := by
  have hp' : tmps[p]?.getD undef = .pointer (some ⟨g, 0, none⟩) := by simpa using hp
  simp [results, h, hp', asAddr, run_loadVar_row w g t ty cs fr d hg hu hd hi]
def lastC (L : List Wr) : Ct := match L.getLast? with | none => zCt | some m => m.x
theorem ix_atIo {o : Oper} {ρ : Operand → Value} {w : World} (x y : Operand) (ho : o.op = .indexAddr 38 x y) (g of ln cap i : Nat) (hx : ρ x = .slice (some ⟨g, of, none⟩) ln cap) (hy : ρ y = .int .i64 i) (hi : i < ln) : (execOp ρ o).run Tryz.prog w = .ok (.value (.pointer (some ⟨g, of + i * 2, none⟩))) w := by
  have h1 : (0 : Int) ≤ i := by omega
  have h2 : (i : Int) < ln := by omega
  unfold execOp
  simp only [ho, hx, hy]
  simp [go_sem, h1, h2]
/-- what Get hands back. -/
def GetP (w : World) (L : List Wr) (e : Ending) (w' : World) : Prop := ∃ A c Ao co, e = .returned (.tuple #[.agg (contA (lastC L) A c), .slice Ao (L.length - 1) co]) ∧ SlG w' (fun b _ => w.heap.size ≤ b ∧ b < w'.heap.size) A c (lastC L).t.l ∧ RowW w' (fun b => w.heap.size ≤ b ∧ b < w'.heap.size) (fun b => w.heap.size ≤ b ∧ b < w'.heap.size) Ao co L.dropLast ∧ Below w.heap.size w w'
/-- a write into whose lists one may write. -/
def SoftW (W : World) (T : Nat → Prop) (h : Wn) : Prop := SoftS W T h.A h.m.x.t.l.length 22 ∧ SoftS W T h.Ao h.m.o.length 2
theorem SoftW.keep {W W' : World} {T T' : Nat → Prop} {h : Wn} (hs : SoftW W T h) (hk : ∀ b, T b → W'.heap[b]? = W.heap[b]? ∧ T' b) : SoftW W' T' h := ⟨hs.1.keep hk, hs.2.keep hk⟩
/-- a row of such. -/
def RowSoft (W : World) (G : Nat → Prop) (A : Option Addr) (l : List Wr) : Prop := ∀ j (h : j < l.length), ∃ q o, A = some ⟨q, o, none⟩ ∧ G q ∧ ∃ x : Wn, x.m = l[j] ∧ W.rangeAt q (o + j * 32) x.cells ∧ SoftW W (fun b => G b ∧ b ≠ q) x
theorem RowSoft.keep {W W' : World} {G G' : Nat → Prop} {A : Option Addr} {l : List Wr} (h : RowSoft W G A l) (hk : ∀ b, G b → W'.heap[b]? = W.heap[b]? ∧ G' b) : RowSoft W' G' A l := fun j hj => by
  obtain ⟨q, o, e, hg, x, hx, hr, hs⟩ := h j hj
  exact ⟨q, o, e, (hk q hg).2, x, hx, fun i v hv => (World.cell?_of_block (a := ⟨q, o + j * 32 + i, none⟩) (hk q hg).1).trans (hr i v hv), hs.keep (fun b hb => ⟨(hk b hb.1).1, (hk b hb.1).2, hb.2⟩)⟩
theorem OthR.soft {t : TypeId} {base k cap : Nat} {w1 W : World} {T : Nat → Prop} {pre : List Wn} {A : Option Addr} (h : OthR t base w1 T pre A k cap W) (hs : ∀ x ∈ pre, SoftW W T x) : RowSoft W (fun g => (base ≤ g ∧ g < W.heap.size ∧ (Value.slice A k cap).ownBlock = some g) ∨ T g) A (pre.map Wn.m) := fun j hj => by
  rw [List.length_map] at hj
  have hl := h.len
  obtain ⟨g, c, cur, e, e2, e3, e4, e5, e6, e7⟩ : ∃ g c cur, (Value.slice A k cap) = .slice (some ⟨g, 0, none⟩) k c ∧ base ≤ g ∧ W.heap[g]? = some (.cells cur t) ∧ _ := by
    rcases h.own.2 with q | q
    · have : k = 0 := by injection q.1
      omega
    · exact q
  have eA : A = some ⟨g, 0, none⟩ := by injection e
  subst eA
  refine ⟨g, 0, rfl, .inl ⟨e2, (Array.getElem?_eq_some_iff.1 e3).1, rfl⟩, pre[j], by simp, fun i u hu => ?_, (hs _ (List.getElem_mem hj)).keep (fun b hb => ⟨rfl, .inr hb, fun e => (h.zone b hb).2 (by rw [e]; rfl)⟩)⟩
  have hi : i < 32 := by have := (List.getElem?_eq_some_iff.1 hu).1; rwa [Wn.cells_len] at this
  have := own_cellC h.own rfl (j * 32 + i) u (by
    rw [flatMap_get32 Wn.cells Wn.cells_len, show (j * 32 + i) / 32 = j by omega, show (j * 32 + i) % 32 = i by omega, List.getElem?_eq_getElem hj, Option.bind_some]
    exact hu)
  rwa [Nat.zero_add]
/-- what Get hands back, and one may write into it. -/
def GetU (w : World) (L : List Wr) (e : Ending) (w' : World) : Prop := ∃ A c Ao co, e = .returned (.tuple #[.agg (contA (lastC L) A c), .slice Ao (L.length - 1) co]) ∧ SlG w' (fun b _ => w.heap.size ≤ b ∧ b < w'.heap.size) A c (lastC L).t.l ∧ RowW w' (fun b => w.heap.size ≤ b ∧ b < w'.heap.size) (fun b => w.heap.size ≤ b ∧ b < w'.heap.size) Ao co L.dropLast ∧ Below w.heap.size w w' ∧ RowSoft w' (fun b => w.heap.size ≤ b ∧ b < w'.heap.size) Ao L.dropLast
/-- the loop over the others. -/
def GeI (base : Nat) (w1 : World) (L : List Wr) (n : Nat) (s iv : Value) (wr : World) : Prop := ∃ i : Nat, i ≤ n ∧ iv = .int .i64 i ∧ ∃ A cap T pre, s = .slice A i cap ∧ Hid (OthR 49 base w1 T pre A i cap wr ∧ pre.map Wn.m = L.take i ∧ (∀ b, T b → base ≤ b) ∧ ∀ h ∈ pre, SoftW wr T h)
set_option maxRecDepth 100000 in
set_option maxHeartbeats 8000000 in
theorem getU_c {w : World} {p n : Nat} {M : List Wr} {Z : Nat → Prop} (h : RgZ w p n M Z) (hM : M.length ≤ 10000) (gv : Value) (g : Ik → Bool) (hg : GoneV w gv g) :
    Calls Tryz.prog 17 #[.pointer (some ⟨p, 0, none⟩), gv] w (GetU w (standW M g)) := by
  obtain ⟨b, hb⟩ : ∃ b, b = w.heap.size := ⟨_, rfl⟩
  obtain ⟨CZ, hCZ⟩ : ∃ C, C = contA zCt none 0 := ⟨_, rfl⟩
  have hCZs : CZ.size = 29 := by rw [hCZ]; rfl
  obtain ⟨W0, hW0⟩ : ∃ W0, W0 = w.alloc (.cells CZ 37) := ⟨_, rfl⟩
  have hbel : Below w.heap.size w W0 := by rw [hW0]; exact (bel1 _ _).1
  have hz0 : W0.heap.size = b + 1 := by rw [hW0, hb]; simp
  have hk0 : W0.heap[b]? = some (.cells CZ 37) := by rw [hW0, hb]; exact heap_alloc_new _ _
  have hsh := shown_c (h.below hbel) hM gv g (hg.later hbel)
  obtain ⟨mm, hp0, hpl, hlk⟩ := look_there h
  obtain ⟨L, hL⟩ : ∃ L, L = standW M g := ⟨_, rfl⟩
  have hsub : ∀ m ∈ L, m ∈ M := fun m hm => by rw [hL] at hm; exact (stand_sub.1 hm).1
  have hLl : L.length ≤ 10000 := by rw [hL]; exact Nat.le_trans (List.length_filter_le _ _) hM
  rw [← hL] at hsh ⊢
  obtain ⟨ti, z, hti, hz0', hzn, hz1, hz2⟩ := infoWr_parts 49 (.inl rfl)
  have HTI := Lib.hid (And.intro hti (And.intro hz0' (And.intro hz1 (And.intro hz2 hzn))))
  clear hti hz0' hzn hz1 hz2
  have hlk' : ∀ m ∈ L, m.fit ∧ ∃ A c Ao co, SlG w (fun b _ => b < w.heap.size) A c m.x.t.l ∧ IkG w (fun b => b < w.heap.size) Ao co m.o ∧ ∀ wx, Below w.heap.size w wx → (Instr.lookup 64 (.map mm) m.id.val false).run Tryz.prog wx = .ok (.agg (wrA m A c Ao co)) wx := fun m hm => by
    obtain ⟨h1, A, c, Ao, co, h2, h3, h4⟩ := hlk m (hsub m hm)
    exact ⟨h1, A, c, Ao, co, h2.keep (fun b _ hb => hb.1) (fun _ _ _ _ _ => rfl), h3.keep (fun k hk => ⟨rfl, hk.1⟩), h4⟩
  have HLK := Lib.hid (And.intro hp0 (And.intro hpl hlk'))
  have HSH := Lib.hid hsh
  have HLL := Lib.hid hLl
  have HW0 := Lib.hid hW0
  have HB := Lib.hid hb
  have HZ := Lib.hid hz0
  have HK0 := Lib.hid hk0
  have HBL := Lib.hid hbel
  have HCZ := Lib.hid (And.intro hCZ hCZs)
  have HIL := Lib.hid (show ∀ a b : Value, (Tryz.prog.info? 28).map (·.size) = some [a, b].length from fun _ _ => ikInfo)
  have HIK := Lib.hid (show ∀ x : Ik, (Tryz.prog.info? 28).map (·.size) = some x.cs.length from fun _ => ikInfo)
  have HIC := Lib.hid (show ∀ (x : Ct) (A : Option Addr) (c : Nat), (Tryz.prog.info? 37).map (·.size) = some (contA x A c).size ∧ (contA x A c).all (·.oneCell') = true from fun x A c => ⟨infC, cont_one _ _ _⟩)
  clear h hM hg hb hCZ hCZs hW0 hbel hz0 hk0 hsh hp0 hpl hlk hlk' hsub hLl hL
  go_enter Tryz.func17, Tryz.ntmps17
  go_upto_region 1 with (refine wpList_contVar rfl rfl w.heap.size rfl ?_)
  change Code.wp _ _ _ _ (w.alloc (.cells (contA zCt none 0) 37))
  rw [← HCZ.out.1, ← HW0.out, ← HB.out]
  go_upto_region 2 with (first | (go_at_call 15; refine HSH.out.mono ?_; rintro e w1 ⟨A1, c1, rfl, hb1, ho1⟩; have HI := Lib.hid (And.intro hb1 ho1); clear hb1 ho1) | fail)
  by_cases hL0 : L = []
  · subst hL0
    have HX := Lib.hid (HI.out.1.block b (by have := HZ.out; omega) |>.trans HK0.out)
    have hicz : (Tryz.prog.info? 37).map (·.size) = some CZ.size ∧ CZ.all (·.oneCell') = true := by rw [HCZ.out.1]; exact HIC.out _ _ _
    have HZI := Lib.hid hicz
    clear hicz
    simp only [show idsW ([] : List Wr) = [] from rfl, List.length_nil]
    go_wp2_with (first | (refine wpList_buildSome rfl 37 _ rfl CZ ?_ ?_; focus (rw [HCZ.out.1]; kernel_rfl)) | (refine wpList_store_row rfl 37 _ _ rfl b CZ rfl rfl 37 CZ HX.out HZI.out.1 rfl HZI.out.2 ?_) | fail)
    refine bodyPost_ret (v := .tuple #[.agg CZ, .slice none 0 0]) (results_cell_tmpW (p := 4) (u := 5) rfl _ _ b 37 CZ (0, 0) _ rfl (setRow_heap _ _ _ _ _ _ HX.out) undC rfl HZI.out.1) rfl ?_
    have hb1 := HBL.out.trans (HI.out.1.mono HBL.out.size)
    have hbe := HB.out
    exact ⟨none, 0, none, 0, by rw [HCZ.out.1]; rfl, ⟨Nat.le_refl _, by omega, .inl rfl⟩, RowW.nil _ _ _ _ _ (by omega), below_row hb1 (by omega) _, fun j h => absurd h (Nat.not_lt_zero _)⟩
  · obtain ⟨nl, hnl⟩ : ∃ nl, L.length = nl + 1 := ⟨L.length - 1, by have := List.length_pos_iff.2 hL0; omega⟩
    have hlen1 : (idsW L).length = nl + 1 := by rw [show (idsW L).length = L.length from by simp [idsW], hnl]
    have hG1 := own_ikG HI.out.2 rfl
    obtain ⟨q, o, hA, -⟩ := hG1.at_ 0 (by omega)
    subst hA
    have hcc : nl + 1 ≤ c1 ∧ c1 ≤ 9223372036854775807 := ⟨by rw [← hlen1]; exact hG1.1, hG1.2.1⟩
    have hnb : nl ≤ 10000 := by have := HLL.out; omega
    obtain ⟨base, hbase⟩ : ∃ k, k = w1.heap.size := ⟨_, rfl⟩
    have hb01 : Below w.heap.size w w1 := HBL.out.trans (HI.out.1.mono HBL.out.size)
    have hbb : b + 1 ≤ base := by have := HI.out.1.size; have := HZ.out; omega
    have hql : q < base := by
      obtain ⟨q', o', e, hg', -⟩ := hG1.at_ 0 (by omega)
      cases e; rw [hbase]; exact hg'.2
    have hqb : q ≠ b := by
      obtain ⟨q', o', e, hg', -⟩ := hG1.at_ 0 (by omega)
      cases e
      have := hg'.1; have := HZ.out; omega
    have hrow : ∀ wz : World, Below base w1 wz → ∀ j (hj : j < L.length), wz.rangeAt q (o + j * 2) L[j].id.cs := fun wz hz j hj => by
      obtain ⟨q', o', e, hg', hr'⟩ := hG1.at_ j (by simpa [idsW] using hj)
      simp only [Option.some.injEq, Addr.mk.injEq, and_true] at e
      obtain ⟨rfl, rfl⟩ := e
      have e2 : (idsW L)[j]'(by simpa [idsW] using hj) = L[j].id := by simp [idsW]
      rw [e2] at hr'
      exact fun i v hv => (World.cell?_of_block (a := ⟨q, o + j * 2 + i, none⟩) (hz.block q hql)).trans (hr' i v hv)
    have hkb : ∀ wz, Below base w1 wz → wz.heap[b]? = some (.cells CZ 37) := fun wz hz => (hz.block b (by omega)).trans ((HI.out.1.block b (by have := HZ.out; omega)).trans HK0.out)
    have hbw : ∀ wz, Below base w1 wz → Below w.heap.size w wz := fun wz hz => hb01.trans (hz.mono (by have := HB.out; omega))
    have hpc : ∀ wz, Below w.heap.size w wz → wz.cell? ⟨p, 0, none⟩ = some (.map mm) := fun wz hz => cell_of_row _ _ 0 _ _ _ ((hz.block p HLK.out.2.1).trans HLK.out.1)
    have hcl : ∀ (wz : World) (m : Wr) (A : Option Addr) (c : Nat) (Ao : Option Addr) (co : Nat), Below w.heap.size w wz → m.fit → SlG w (fun b _ => b < w.heap.size) A c m.x.t.l → IkG w (fun b => b < w.heap.size) Ao co m.o → Calls Tryz.prog 31 #[.agg (wrA m A c Ao co)] wz (CloneS wz m) := fun wz m A c Ao co hz hf hs ho =>
      rcloneS_c m wz A c Ao co hf.d (((hs.at_ (B := w.heap.size) (fun _ _ h => h)).below hz).more hz.size) hf.size ((ho.keep (fun k hk => ⟨hz.block k hk, hk⟩)).mono (fun k hk => Nat.lt_of_lt_of_le hk hz.size)) (by have := hf.few; omega)
    have HROW := Lib.hid hrow
    have HKB := Lib.hid hkb
    have HBW := Lib.hid hbw
    have HPC := Lib.hid hpc
    have HCL := Lib.hid hcl
    have HBA := Lib.hid (And.intro hbase (And.intro hbb (And.intro hql hqb)))
    have HNL := Lib.hid hnl
    have hc1 := hcc.1
    have hc2 := hcc.2
    have HGS := Lib.hid (show GeI base w1 L nl (.slice none 0 0) (.int .i64 0) w1 from ⟨0, Nat.zero_le _, rfl, none, 0, _, [], rfl, Lib.hid ⟨OthR.start _ (Below.refl _ _), by simp, fun _ h => h.elim, fun _ h => (List.not_mem_nil h).elim⟩⟩)
    have hnl0 : ((nl : Int) + 1 == 0) = false := beq_eq_false_iff_ne.2 (by omega)
    rw [hlen1]
    clear hlen1 hG1 hcc hbase hb01 hbb hql hqb hrow hkb hbw hpc hcl hnl hL0
    go_wp2
    clear hnl0
    go_loopw [8, 25] (fun s iv wr => GeI base w1 L nl s iv wr) (fun _ iv _ => nl - (intOf iv).toNat)
    case atStart => exact HGS.out
    case round =>
     obtain ⟨i, hin, rfl, A, cap, T, pre, rfl, hR⟩ := hrel
     by_cases hi : i < nl
     · have hiI : (i : Int) < (nl : Int) := by omega
       have hi0 : (0 : Int) ≤ i := by omega
       have hil : i < L.length := by rw [HNL.out]; omega
       obtain ⟨m, hm⟩ : ∃ m, m = L[i] := ⟨_, rfl⟩
       have hrg := HROW.out wr hR.out.1.below i hil
       rw [← hm] at hrg
       obtain ⟨hfit, Am, cm, Ao, co, hsl, hio, hlkm⟩ := HLK.out.2.2 m (by rw [hm]; exact List.getElem_mem hil)
       obtain ⟨gb, hgb⟩ : ∃ b, b = wr.heap.size := ⟨_, rfl⟩
       obtain ⟨w2, hw2⟩ : ∃ w2, w2 = wr.alloc (.cells #[.int .i64 m.id.a, .int .i64 m.id.n] 28) := ⟨_, rfl⟩
       have hb2 : Below wr.heap.size wr w2 := by rw [hw2]; exact (bel1 _ _).1
       have hz2 : w2.heap.size = gb + 1 := by rw [hw2, hgb]; simp
       have hky : w2.heap[gb]? = some (.cells #[.int .i64 m.id.a, .int .i64 m.id.n] 28) := by rw [hw2, hgb]; exact heap_alloc_new _ _
       have hbs : base ≤ wr.heap.size := by have := hR.out.1.below.size; have := HBA.out.1; omega
       have hO2 := hR.out.1.kept hb2 (by have := HBA.out.1; omega)
       have hbw2 : ∀ wz, Below base w1 wz → Below w.heap.size w wz := fun wz hz => HBW.out wz hz
       have hlk2 : ∀ wz, Below base w1 wz → (Instr.lookup 64 (.map mm) m.id.val false).run Tryz.prog wz = .ok (.agg (wrA m Am cm Ao co)) wz := fun wz hz => hlkm wz (hbw2 wz hz)
       have hcl2 : ∀ wz, Below base w1 wz → Calls Tryz.prog 31 #[.agg (wrA m Am cm Ao co)] wz (CloneS wz m) := fun wz hz => HCL.out wz m Am cm Ao co (hbw2 wz hz) hfit hsl hio
       have hpc2 : ∀ wz, Below base w1 wz → wz.cell? ⟨p, 0, none⟩ = some (.map mm) := fun wz hz => HPC.out wz (hbw2 wz hz)
       obtain ⟨CW, hCW⟩ : ∃ C, C = wrA m Am cm Ao co := ⟨_, rfl⟩
       rw [← hCW] at hlk2 hcl2
       have HO2 := Lib.hid hO2
       have HKY := Lib.hid hky
       have HLK2 := Lib.hid hlk2
       have HCL2 := Lib.hid hcl2
       have HPC2 := Lib.hid hpc2
       have HW2 := Lib.hid hw2
       have HGB := Lib.hid hgb
       have HRG := Lib.hid hrg
       have HM := Lib.hid hm
       have HBS := Lib.hid (And.intro hbs (And.intro hb2 hz2))
       clear hm hrg hfit hsl hio hlkm hgb hw2 hb2 hz2 hky hbs hO2 hbw2 hlk2 hcl2 hpc2 hCW
       go_upto_region 9 with (first | (refine wpList_mid rfl 28 _ rfl q (o + i * 2) rfl [.int .i64 m.id.a, .int .i64 m.id.n] _ HRG.out ikUnd rfl (HIL.out _ _) ?_) | fail)
       rw [← HW2.out, ← HGB.out]
       refine wp_region_held_drew (S := fun wx => Below base w1 wx ∧ wx.heap[gb]? = some (.cells #[.int .i64 m.id.a, .int .i64 m.id.n] 28)) (by kernel_rfl) ⟨HO2.out.below.drew, HKY.out⟩ (fun hHeld => ?_)
       obtain ⟨wa, hwa⟩ : ∃ x, x = w2.drew := ⟨_, rfl⟩
       have hba : Below w2.heap.size w2 wa := by rw [hwa]; exact (Below.refl _ _).drew
       rw [← hwa] at hHeld ⊢
       have HWA := Lib.hid hba
       clear hwa hba
       refine wpAnyH_take (i := 0) (v := (.slice A i cap)) rfl (by kernel_rfl) (by kernel_rfl) (by kernel_rfl) (fun _ _ _ h => h) (Or.inl ⟨by kernel_rfl, fun _ hS => by kernel_rfl⟩) hHeld ?_
       (try simp only [Act.put, List.getElem_toArray, List.getElem_cons_succ, List.getElem_cons_zero, List.setIfInBounds_toArray, List.set_cons_zero, List.set_cons_succ])
       refine wpAnyH_take (i := 1) (v := (.pointer (some ⟨p, 0, none⟩))) rfl (by kernel_rfl) (by kernel_rfl) (by kernel_rfl) (fun _ _ _ h => h) (Or.inl ⟨by kernel_rfl, fun _ hS => by kernel_rfl⟩) hHeld ?_
       (try simp only [Act.put, List.getElem_toArray, List.getElem_cons_succ, List.getElem_cons_zero, List.setIfInBounds_toArray, List.set_cons_zero, List.set_cons_succ])
       refine wpAnyH_take (i := 2) (v := (.pointer (some ⟨p, 0, none⟩))) rfl (by kernel_rfl) (by kernel_rfl) (by kernel_rfl) (fun _ _ _ h => h) (Or.inl ⟨by kernel_rfl, fun _ hS => by kernel_rfl⟩) hHeld ?_
       (try simp only [Act.put, List.getElem_toArray, List.getElem_cons_succ, List.getElem_cons_zero, List.setIfInBounds_toArray, List.set_cons_zero, List.set_cons_succ])
       refine wpAnyH_take (i := 3) (v := (.pointer (some ⟨p, 0, none⟩))) rfl (by kernel_rfl) (by kernel_rfl) (by kernel_rfl) (fun _ _ _ h => h) (Or.inl ⟨by kernel_rfl, fun _ hS => by kernel_rfl⟩) hHeld ?_
       (try simp only [Act.put, List.getElem_toArray, List.getElem_cons_succ, List.getElem_cons_zero, List.setIfInBounds_toArray, List.set_cons_zero, List.set_cons_succ])
       refine wpAnyH_take (i := 4) (v := (.map mm)) rfl (by kernel_rfl) (by kernel_rfl) (by kernel_rfl) (fun _ _ _ h => h) (Or.inl ⟨by kernel_rfl, fun _ hS => ld_mw _ rfl ⟨p, 0, none⟩ rfl _ (HPC2.out _ hS.1)⟩) hHeld ?_
       (try simp only [Act.put, List.getElem_toArray, List.getElem_cons_succ, List.getElem_cons_zero, List.setIfInBounds_toArray, List.set_cons_zero, List.set_cons_succ])
       refine wpAnyH_take (i := 5) (v := .agg m.id.cs.toArray) rfl (by kernel_rfl) (by kernel_rfl) (by kernel_rfl) (fun _ _ _ h => h) (yieldsIf_load_mid (by kernel_rfl) 28 _ rfl gb 0 rfl m.id.cs _ (fun _ hS => ik_range hS.2) ikUnd rfl (HIK.out _)) hHeld ?_
       (try simp only [Act.put, List.getElem_toArray, List.getElem_cons_succ, List.getElem_cons_zero, List.setIfInBounds_toArray, List.set_cons_zero, List.set_cons_succ])
       refine wpAnyH_take (i := 6) (v := (.agg CW)) rfl (by kernel_rfl) (by kernel_rfl) (by kernel_rfl) (fun _ _ _ h => h) (Or.inl ⟨by kernel_rfl, fun _ hS => lk_runW (mv := .map mm) (kv := .agg m.id.cs.toArray) _ _ false rfl rfl rfl (HLK2.out _ hS.1)⟩) hHeld ?_
       (try simp only [Act.put, List.getElem_toArray, List.getElem_cons_succ, List.getElem_cons_zero, List.setIfInBounds_toArray, List.set_cons_zero, List.set_cons_succ])
       refine wpAnyH_ready (rs := [7]) (by kernel_rfl) (by simp) ?_
       refine AllReadyH.cons rfl (fun K hK => ?_) AllReadyH.nil
       go_simp
       refine (HCL2.out wa hHeld.1).mono ?_
       rintro e w4 ⟨A2, c2, A3, c3, rfl, hsl4, hok4, hb4, hsf4⟩
       try go_simp
       have HSF4 := Lib.hid hsf4
       clear hsf4
       have h24 : Below w2.heap.size w2 w4 := HWA.out.trans (hb4.mono HWA.out.size)
       have hO4 := HO2.out.kept h24 (by have := HBA.out.1; omega)
       obtain ⟨NA, hNA⟩ : ∃ N, N = wrA m A2 c2 A3 c3 := ⟨_, rfl⟩
       rw [← hNA]
       have HX4 := Lib.hid (And.intro hsl4 (And.intro hok4 (And.intro hb4 (And.intro h24 (And.intro hO4 hNA)))))
       clear hsl4 hok4 hb4 h24 hO4 hNA
       have hS4 : Below base w1 w4 ∧ w4.heap[gb]? = some (.cells #[.int .i64 m.id.a, .int .i64 m.id.n] 28) := ⟨HX4.out.2.2.2.2.1.below, (HX4.out.2.2.2.1.block gb (by have := HBS.out.2.2; omega)).trans HKY.out⟩
       refine hK.out _ _ hS4 (fun hHeld4 => ?_)
       clear hK K hHeld hS4
       (try simp only [Act.put, List.getElem_toArray, List.getElem_cons_succ, List.getElem_cons_zero, List.setIfInBounds_toArray, List.set_cons_zero, List.set_cons_succ])
       refine wpAnyH_ready (rs := [8]) (by kernel_rfl) (by simp) ?_
       refine AllReadyH.cons rfl (fun K hK => ?_) AllReadyH.nil
       refine step_oneWr 49 54 (.inl rfl) undWrs rfl 36 rfl NA rfl (by rw [HX4.out.2.2.2.2.2]; rfl) ?_
       have hS5 : Below base w1 (w4.alloc (.cells NA 49)) ∧ (w4.alloc (.cells NA 49)).heap[gb]? = some (.cells #[.int .i64 m.id.a, .int .i64 m.id.n] 28) := ⟨hHeld4.1.alloc (by have := HBS.out.1; have := HX4.out.2.2.2.1.size; have := HBS.out.2.1.size; omega) _, (heapOld _ _ _ (Array.getElem?_eq_some_iff.1 hHeld4.2).1).trans hHeld4.2⟩
       refine hK.out _ _ hS5 (fun hHeld5 => ?_)
       clear hK K hHeld4 hS5
       (try simp only [Act.put, List.getElem_toArray, List.getElem_cons_succ, List.getElem_cons_zero, List.setIfInBounds_toArray, List.set_cons_zero, List.set_cons_succ])
       obtain ⟨xs, hxs⟩ : ∃ xs, xs = pre.flatMap Wn.cells := ⟨_, rfl⟩
       have hown4 : w4.ownsRow base 49 32 (.slice A i cap) i xs := by rw [hxs]; exact HX4.out.2.2.2.2.1.own
       have hone : ∀ u ∈ NA.toList, u.oneCell' = true := by rw [HX4.out.2.2.2.2.2]; exact Wn.cells_one ⟨m, A2, c2, A3, c3⟩
       have hNl : NA.toList.length = 1 * 32 := by rw [HX4.out.2.2.2.2.2, Array.length_toList]; rfl
       have hbs5 : base ≤ (w4.alloc (.cells NA 49)).heap.size := by rw [World.size_alloc]; have := HBS.out.1; have := HX4.out.2.2.2.1.size; have := HBS.out.2.1.size; omega
       have HXS := Lib.hid hxs
       clear hxs
       refine wpAnyH_ready (rs := [9]) (by kernel_rfl) (by simp) ?_
       refine AllReadyH.cons rfl (fun K hK => ?_) AllReadyH.nil
       refine step_append_lies _ rfl (.tmp 29) (.tmp 37) 54 rfl base 49 ti z 32 296 undWrs HTI.out.1 HTI.out.2.1 HTI.out.2.2.1 HTI.out.2.2.2.1 HTI.out.2.2.2.2 (by decide) (.slice A i cap) i xs rfl (hown4.alloc _) ⟨w4.heap.size, 0, none⟩ 1 1 NA.toList rfl hNl (World.news_of_block (heap_alloc_new w4 (.cells NA 49))) hone (by decide) (by unfold maxLen; omega) (by omega) hbs5 (w4.heap.size + 1) (by rw [World.size_alloc]) ?_
       intro g3 cap3 w6 hown6 hgrow6 hat6 hlt6
       have hobw : ∀ k, (Value.slice A i cap).ownBlock = some k → base ≤ k ∧ k < gb := fun k e => by have h1 := own_blkC HO2.out.own k e; obtain ⟨h1, cur, h2⟩ := own_blkC hR.out.1.own k e; exact ⟨h1, by rw [HGB.out]; exact (Array.getElem?_eq_some_iff.1 h2).1⟩
       have hS6 : Below base w1 w6 ∧ w6.heap[gb]? = some (.cells #[.int .i64 m.id.a, .int .i64 m.id.n] 28) := ⟨⟨hgrow6.os.trans hHeld5.1.os, hgrow6.tape.trans hHeld5.1.tape, hgrow6.output.trans hHeld5.1.output, Nat.le_trans hHeld5.1.size hgrow6.size, fun k hk => (hgrow6.block k (by omega) (fun e => by have := hobw k e.symm; omega)).trans (hHeld5.1.block k hk)⟩, (hgrow6.block gb (Array.getElem?_eq_some_iff.1 hHeld5.2).1 (fun e => by have := hobw gb e.symm; omega)).trans hHeld5.2⟩
       have HX6 := Lib.hid (And.intro hown6 (And.intro hgrow6 (And.intro hat6 hobw)))
       clear hown6 hgrow6 hat6 hlt6 hown4 hone hNl hbs5 hobw
       refine hK.out _ _ hS6 (fun hHeld6 => ?_)
       clear hK K hHeld5 hS6
       (try simp only [Act.put, List.getElem_toArray, List.getElem_cons_succ, List.getElem_cons_zero, List.setIfInBounds_toArray, List.set_cons_zero, List.set_cons_succ])
       have hHeld := hHeld6
       clear hHeld6
       refine wpAnyH_take (i := 10) (v := (.slice (some ⟨g3, 0, none⟩) (i + 1) cap3)) rfl (by kernel_rfl) (by kernel_rfl) (by kernel_rfl) (fun _ _ _ h => h) (Or.inl ⟨by kernel_rfl, fun _ hS => by kernel_rfl⟩) hHeld ?_
       (try simp only [Act.put, List.getElem_toArray, List.getElem_cons_succ, List.getElem_cons_zero, List.setIfInBounds_toArray, List.set_cons_zero, List.set_cons_succ])
       refine wpAnyH_done (by kernel_rfl) ?_ _
       clear hHeld
       go_wp2
       go_roundw
       case measure => simp [intOf]; omega
       case rel =>
         refine ⟨i + 1, by omega, by go_num, some ⟨g3, 0, none⟩, cap3, fun k => T k ∨ (wa.heap.size ≤ k ∧ k < w4.heap.size), pre ++ [⟨m, A2, c2, A3, c3⟩], rfl, Lib.hid ⟨?_, ?_, ?_, ?_⟩⟩
         · obtain ⟨q1, q2, q3, q4, q5, q6⟩ := HX4.out
           obtain ⟨r1, r2, r3, r4⟩ := HX6.out
           have s2 := HWA.out.size
           have s4 := q3.size
           have s5 := HBS.out.2.2
           have h1 := HXS.out
           have h2 : NA.toList = Wn.cells ⟨m, A2, c2, A3, c3⟩ := by rw [q6]; rfl
           rw [h1, h2] at r1
           exact q5.step (x := ⟨m, A2, c2, A3, c3⟩) (by have := HBA.out.1; omega) (fun k hk => .inl hk) (fun k hk => hk.elim (fun hk => q5.zone k hk) (fun hk => ⟨hk.2, fun e => by have := r4 k e; omega⟩)) ⟨q1.keep (fun b _ h => .inr h) (fun _ _ _ _ _ => rfl), (own_ikG q2 rfl).keep (fun k hk => ⟨rfl, .inr hk⟩)⟩ r2 r3 r1
         · rw [List.map_append, hR.out.2.1, List.take_succ_eq_append_getElem hil, ← HM.out]
           rfl
         · intro k hk
           rcases hk with hk | hk
           · exact hR.out.2.2.1 k hk
           · have := HWA.out.size; have := HBS.out; have := this.2.1.size; omega
         · intro h hh
           obtain ⟨q1, q2, q3, q4, q5, q6⟩ := HX4.out
           obtain ⟨r1, r2, r3, r4⟩ := HX6.out
           have s2 := HWA.out.size
           have s4 := q3.size
           have s5 := HBS.out.2.2
           have s6 := HBS.out.2.1
           have hnew : ∀ k, wa.heap.size ≤ k → k < w4.heap.size → w6.heap[k]? = w4.heap[k]? := fun k h1 h2 => (r2.block k (by rw [World.size_alloc]; omega) (fun e => by have := r4 k e.symm; omega)).trans (heapOld _ _ _ h2)
           rcases List.mem_append.1 hh with hh | hh
           · refine (hR.out.2.2.2 h hh).keep (fun k hk => ⟨?_, .inl hk⟩)
             have hz := q5.zone k hk
             have hz0 := hR.out.1.zone k hk
             exact (r2.block k (by rw [World.size_alloc]; omega) (fun e => hz.2 e.symm)).trans ((heapOld _ _ _ hz.1).trans ((q4.block k (by have := s6.size; omega)).trans (s6.block k hz0.1)))
           · rw [List.mem_singleton] at hh
             subst hh
             exact ⟨HSF4.out.keep (fun k hk => ⟨hnew k hk.1 hk.2, .inr hk⟩), (SoftS.own q2 (ikCells_len _)).keep (fun k hk => ⟨hnew k hk.1 hk.2, .inr hk⟩)⟩
     · have hie : i = nl := by omega
       subst hie
       have hiI : ¬ ((i : Int) < (i : Int)) := by omega
       have hi0 : (0 : Int) ≤ i := by omega
       have hi1 : (i : Int) < (i : Int) + 1 := by omega
       have hil : i < L.length := by rw [HNL.out]; omega
       obtain ⟨m, hm⟩ : ∃ m, m = L[i] := ⟨_, rfl⟩
       obtain ⟨hfit, Am, cm, Ao, co, hsl, hio, hlkm⟩ := HLK.out.2.2 m (by rw [hm]; exact List.getElem_mem hil)
       have hbz : base ≤ wr.heap.size := by have := hR.out.1.below.size; have := HBA.out.1; omega
       have hbw3 : ∀ wz, KeepZ (fun k => k = b) wr wz → Below w.heap.size w wz := fun wz hz => by
         have h1 := HBW.out wr hR.out.1.below
         exact ⟨hz.os.trans h1.os, hz.tape.trans h1.tape, hz.output.trans h1.output, Nat.le_trans h1.size hz.size, fun k hk => (hz.block k (Nat.lt_of_lt_of_le hk h1.size) (by have := HB.out; omega)).trans (h1.block k hk)⟩
       have hrg : ∀ wz, KeepZ (fun k => k = b) wr wz → wz.rangeAt q (o + i * 2) m.id.cs := fun wz hz => by
         have h1 := HROW.out wr hR.out.1.below i hil
         rw [← hm] at h1
         exact fun t v hv => (World.cell?_of_block (a := ⟨q, o + i * 2 + t, none⟩) (hz.block q (by have := HBA.out; omega) HBA.out.2.2.2)).trans (h1 t v hv)
       have hlk2 : ∀ wz, KeepZ (fun k => k = b) wr wz → (Instr.lookup 64 (.map mm) m.id.val false).run Tryz.prog wz = .ok (.agg (wrA m Am cm Ao co)) wz := fun wz hz => hlkm wz (hbw3 wz hz)
       have hcl2 := HCL.out wr.drew m Am cm Ao co (hbw3 _ (KeepZ.of (Below.refl _ _).drew)) hfit hsl hio
       have hpc2 : ∀ wz, KeepZ (fun k => k = b) wr wz → wz.cell? ⟨p, 0, none⟩ = some (.map mm) := fun wz hz => HPC.out wz (hbw3 wz hz)
       have hlast : lastC L = m.x := by
         unfold lastC
         rw [List.getLast?_eq_getElem?, HNL.out, Nat.add_sub_cancel, List.getElem?_eq_getElem hil, hm]
       obtain ⟨CW, hCW⟩ : ∃ C, C = wrA m Am cm Ao co := ⟨_, rfl⟩
       rw [← hCW] at hlk2 hcl2
       have HBW3 := Lib.hid hbw3
       have HRG := Lib.hid hrg
       have HLK2 := Lib.hid hlk2
       have HCL2 := Lib.hid hcl2
       have HPC2 := Lib.hid hpc2
       have HLA := Lib.hid (And.intro hlast hbz)
       clear hm hfit hsl hio hlkm hbw3 hrg hlk2 hcl2 hpc2 hlast hCW hbz
       go_upto_region 11 with (fail)
       refine wp_region_held_drew (S := fun wx => KeepZ (fun k => k = b) wr wx) (by kernel_rfl) (KeepZ.of (Below.refl _ _).drew) (fun hHeld => ?_)
       obtain ⟨wa, hwa⟩ : ∃ x, x = wr.drew := ⟨_, rfl⟩
       have hba : Below wr.heap.size wr wa := by rw [hwa]; exact (Below.refl _ _).drew
       rw [← hwa] at hHeld HCL2 ⊢
       have HWA := Lib.hid hba
       clear hwa hba
       refine wpAnyH_take (i := 0) (v := (.pointer (some ⟨p, 0, none⟩))) rfl (by kernel_rfl) (by kernel_rfl) (by kernel_rfl) (fun _ _ _ h => h) (Or.inl ⟨by kernel_rfl, fun _ hS => by kernel_rfl⟩) hHeld ?_
       (try simp only [Act.put, List.getElem_toArray, List.getElem_cons_succ, List.getElem_cons_zero, List.setIfInBounds_toArray, List.set_cons_zero, List.set_cons_succ])
       refine wpAnyH_take (i := 1) (v := (.pointer (some ⟨p, 0, none⟩))) rfl (by kernel_rfl) (by kernel_rfl) (by kernel_rfl) (fun _ _ _ h => h) (Or.inl ⟨by kernel_rfl, fun _ hS => by kernel_rfl⟩) hHeld ?_
       (try simp only [Act.put, List.getElem_toArray, List.getElem_cons_succ, List.getElem_cons_zero, List.setIfInBounds_toArray, List.set_cons_zero, List.set_cons_succ])
       refine wpAnyH_take (i := 2) (v := (.pointer (some ⟨p, 0, none⟩))) rfl (by kernel_rfl) (by kernel_rfl) (by kernel_rfl) (fun _ _ _ h => h) (Or.inl ⟨by kernel_rfl, fun _ hS => by kernel_rfl⟩) hHeld ?_
       (try simp only [Act.put, List.getElem_toArray, List.getElem_cons_succ, List.getElem_cons_zero, List.setIfInBounds_toArray, List.set_cons_zero, List.set_cons_succ])
       refine wpAnyH_take (i := 3) (v := (.map mm)) rfl (by kernel_rfl) (by kernel_rfl) (by kernel_rfl) (fun _ _ _ h => h) (Or.inl ⟨by kernel_rfl, fun _ hS => ld_mw _ rfl ⟨p, 0, none⟩ rfl _ (HPC2.out _ hS)⟩) hHeld ?_
       (try simp only [Act.put, List.getElem_toArray, List.getElem_cons_succ, List.getElem_cons_zero, List.setIfInBounds_toArray, List.set_cons_zero, List.set_cons_succ])
       refine wpAnyH_take (i := 4) (v := (.slice (some ⟨q, o, none⟩) (i + 1) c1)) rfl (by kernel_rfl) (by kernel_rfl) (by kernel_rfl) (fun _ _ _ h => h) (Or.inl ⟨by kernel_rfl, fun _ hS => by kernel_rfl⟩) hHeld ?_
       (try simp only [Act.put, List.getElem_toArray, List.getElem_cons_succ, List.getElem_cons_zero, List.setIfInBounds_toArray, List.set_cons_zero, List.set_cons_succ])
       refine wpAnyH_take (i := 5) (v := (.int .i64 (i : Nat))) rfl (by kernel_rfl) (by kernel_rfl) (by kernel_rfl) (fun _ _ _ h => h) (Or.inl ⟨by kernel_rfl, fun _ hS => by kernel_rfl⟩) hHeld ?_
       (try simp only [Act.put, List.getElem_toArray, List.getElem_cons_succ, List.getElem_cons_zero, List.setIfInBounds_toArray, List.set_cons_zero, List.set_cons_succ])
       refine wpAnyH_take (i := 6) (v := (.pointer (some ⟨q, o + i * 2, none⟩))) rfl (by kernel_rfl) (by kernel_rfl) (by kernel_rfl) (fun _ _ _ h => h) (Or.inl ⟨by kernel_rfl, fun _ hS => ix_atIo _ _ rfl q o (i + 1) c1 i rfl rfl (Nat.lt_succ_self _)⟩) hHeld ?_
       (try simp only [Act.put, List.getElem_toArray, List.getElem_cons_succ, List.getElem_cons_zero, List.setIfInBounds_toArray, List.set_cons_zero, List.set_cons_succ])
       refine wpAnyH_take (i := 7) (v := .agg m.id.cs.toArray) rfl (by kernel_rfl) (by kernel_rfl) (by kernel_rfl) (fun _ _ _ h => h) (yieldsIf_load_mid (by kernel_rfl) 28 _ rfl q (o + i * 2) rfl m.id.cs _ (fun _ hS => HRG.out _ hS) ikUnd rfl (HIK.out _)) hHeld ?_
       (try simp only [Act.put, List.getElem_toArray, List.getElem_cons_succ, List.getElem_cons_zero, List.setIfInBounds_toArray, List.set_cons_zero, List.set_cons_succ])
       refine wpAnyH_take (i := 8) (v := (.agg CW)) rfl (by kernel_rfl) (by kernel_rfl) (by kernel_rfl) (fun _ _ _ h => h) (Or.inl ⟨by kernel_rfl, fun _ hS => lk_runW (mv := .map mm) (kv := .agg m.id.cs.toArray) _ _ false rfl rfl rfl (HLK2.out _ hS)⟩) hHeld ?_
       (try simp only [Act.put, List.getElem_toArray, List.getElem_cons_succ, List.getElem_cons_zero, List.setIfInBounds_toArray, List.set_cons_zero, List.set_cons_succ])
       refine wpAnyH_take (i := 11) (v := (.slice A i cap)) rfl (by kernel_rfl) (by kernel_rfl) (by kernel_rfl) (fun _ _ _ h => h) (Or.inl ⟨by kernel_rfl, fun _ hS => by kernel_rfl⟩) hHeld ?_
       (try simp only [Act.put, List.getElem_toArray, List.getElem_cons_succ, List.getElem_cons_zero, List.setIfInBounds_toArray, List.set_cons_zero, List.set_cons_succ])
       refine wpAnyH_ready (rs := [9]) (by kernel_rfl) (by simp) ?_
       refine AllReadyH.cons rfl (fun K hK => ?_) AllReadyH.nil
       go_simp
       refine HCL2.out.mono ?_
       rintro e w4 ⟨A2, c2, A3, c3, rfl, hsl4, hok4, hb4, -⟩
       try go_simp
       have HX4 := Lib.hid (And.intro hsl4 hb4)
       have hS4 : KeepZ (fun k => k = b) wr w4 := hHeld.trans (KeepZ.of hb4)
       clear hsl4 hok4 hb4
       refine hK.out _ _ hS4 (fun hHeld4 => ?_)
       clear hK K hHeld hS4
       (try simp only [Act.put, List.getElem_toArray, List.getElem_cons_succ, List.getElem_cons_zero, List.setIfInBounds_toArray, List.set_cons_zero, List.set_cons_succ])
       have hHeld := hHeld4
       clear hHeld4
       refine wpAnyH_take (i := 10) (v := (.agg (contA m.x A2 c2))) rfl (by kernel_rfl) (by kernel_rfl) (by kernel_rfl) (fun _ _ _ h => h) (Or.inl ⟨by kernel_rfl, fun _ hS => by kernel_rfl⟩) hHeld ?_
       (try simp only [Act.put, List.getElem_toArray, List.getElem_cons_succ, List.getElem_cons_zero, List.setIfInBounds_toArray, List.set_cons_zero, List.set_cons_succ])
       have hb4 : Below wr.heap.size wr w4 := HWA.out.trans (HX4.out.2.mono HWA.out.size)
       have hkb4 : w4.heap[b]? = some (.cells CZ 37) := (hb4.block b (by have := HLA.out.2; have := HBA.out; omega)).trans (HKB.out wr hR.out.1.below)
       obtain ⟨NX, hNX⟩ : ∃ N, N = contA m.x A2 c2 := ⟨_, rfl⟩
       have hni := HIC.out m.x A2 c2
       have hcz : CZ.size = NX.size := by rw [HCZ.out.2, hNX]; rfl
       rw [← hNX] at hni ⊢
       have HNX := Lib.hid hNX
       clear hNX
       refine wpAnyH_ready (rs := [12]) (by kernel_rfl) (by simp) ?_
       refine AllReadyH.cons rfl (fun K hK => ?_) AllReadyH.nil
       rw [if_pos (wanted_none rfl)]
       refine wp_store_row 37 _ _ rfl b NX rfl rfl 37 CZ hkb4 hni.1 hcz hni.2 ?_
       have hS5 : KeepZ (fun k => k = b) wr (w4.setRow b NX) := hHeld.trans ⟨by simp, by simp, by simp, by simp, fun k _ hk => setRow_other _ _ _ _ hk⟩
       refine hK.out _ _ hS5 (fun hHeld5 => ?_)
       clear hK K hHeld hS5
       (try simp only [Act.put, List.getElem_toArray, List.getElem_cons_succ, List.getElem_cons_zero, List.setIfInBounds_toArray, List.set_cons_zero, List.set_cons_succ])
       have hHeld := hHeld5
       clear hHeld5
       refine wpAnyH_take (i := 13) (v := (.slice A i cap)) rfl (by kernel_rfl) (by kernel_rfl) (by kernel_rfl) (fun _ _ _ h => h) (Or.inl ⟨by kernel_rfl, fun _ hS => by kernel_rfl⟩) hHeld ?_
       (try simp only [Act.put, List.getElem_toArray, List.getElem_cons_succ, List.getElem_cons_zero, List.setIfInBounds_toArray, List.set_cons_zero, List.set_cons_succ])
       refine wpAnyH_done (by kernel_rfl) ?_ _
       clear hHeld
       have HF := Lib.hid (And.intro hb4 (And.intro hkb4 (And.intro hni hcz)))
       clear hb4 hkb4 hni hcz
       go_wp2
       refine bodyPost_ret (v := .tuple #[.agg NX, .slice A i cap]) (results_cell_tmpW (p := 4) (u := 5) rfl _ _ b 37 NX (0, 0) _ rfl (setRow_heap _ _ _ _ _ _ HF.out.2.1) undC rfl HF.out.2.2.1.1) rfl ?_
       obtain ⟨f1, f2, f3, f4⟩ := HF.out
       have hO4 := hR.out.1.kept f1 (by have := HBA.out.1; omega)
       have hbe := HB.out
       have hbb := HBA.out
       have hww := HBW.out wr hR.out.1.below
       have sw := hww.size
       have s4 := f1.size
       have sa := HWA.out.size
       have hnb : ∀ k, k ≠ b → (w4.setRow b NX).heap[k]? = w4.heap[k]? := fun k hk => setRow_other _ _ _ _ hk
       have hzz : (w4.setRow b NX).heap.size = w4.heap.size := by simp
       have hll := HLA.out.2
       have hdl : L.dropLast = pre.map Wn.m := by rw [hR.out.2.1, List.dropLast_eq_take, HNL.out, Nat.add_sub_cancel]
       refine ⟨A2, c2, A, cap, ?_, ?_, ?_, below_row (hww.trans (f1.mono sw)) (by omega) _, ?_⟩
       · rw [HLA.out.1, HNX.out, HNL.out, Nat.add_sub_cancel]
       · rw [HLA.out.1]
         refine HX4.out.1.keep (fun k _ hk => ⟨by have h1 : wa.heap.size ≤ k := hk.1; omega, by rw [hzz]; exact hk.2⟩) (fun k o hk j _ => World.cell?_of_block (a := ⟨k, o + j, none⟩) (hnb k ?_))
         have h1 : wa.heap.size ≤ k := hk.1
         show k ≠ b
         omega
       · rw [hdl]
         refine hO4.row.keep (fun k hk => ⟨hnb k (by omega), by omega, by rw [hzz]; exact hk.2.1⟩) (fun k hk => ?_)
         have h1 := hR.out.2.2.1 k hk
         have h2 := hO4.zone k hk
         exact ⟨hnb k (by omega), by omega, by rw [hzz]; exact h2.1⟩
       · rw [hdl]
         refine (hO4.soft (fun x hx => (hR.out.2.2.2 x hx).keep (fun k hk => ⟨f1.block k (hR.out.1.zone k hk).1, hk⟩))).keep (fun k hk => ?_)
         rcases hk with hk | hk
         · exact ⟨hnb k (by omega), by omega, by rw [hzz]; exact hk.2.1⟩
         · have h1 := hR.out.2.2.1 k hk
           have h2 := hO4.zone k hk
           exact ⟨hnb k (by omega), by omega, by rw [hzz]; exact h2.1⟩
theorem get_c {w : World} {p n : Nat} {M : List Wr} {Z : Nat → Prop} (h : RgZ w p n M Z) (hM : M.length ≤ 10000) (gv : Value) (g : Ik → Bool) (hg : GoneV w gv g) :
    Calls Tryz.prog 17 #[.pointer (some ⟨p, 0, none⟩), gv] w (GetP w (standW M g)) :=
  (getU_c h hM gv g hg).mono fun _ _ ⟨A, c, Ao, co, h1, h2, h3, h4, _⟩ => ⟨A, c, Ao, co, h1, h2, h3, h4⟩
end Go.Proofs.YtbiacjkkgddclaaGreat
