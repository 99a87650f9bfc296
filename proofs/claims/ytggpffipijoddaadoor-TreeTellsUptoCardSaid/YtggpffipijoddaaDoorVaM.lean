/- tree.All: the contract of the iterator that it makes. -/
import Derived.Test.YtggpffipijoddaaDoorRnMkRv
import Derived.Test.YtggpffipijoddaaDoorCyM
import Derived.Test.YtggpffipijoddaaDoorYaYbYc
namespace Go.Proofs.YtggpffipijoddaaDoor
open Go Go.RowKit Go.Shelf
attribute [local go_sem] Oper.semAt_some

/-- what tree.All hands out: a tree, and where its list lies. -/
abbrev Yt := Tr × Option Addr × Nat
def encY (y : Yt) : Array Value := #[nodeV y.1.d y.2.1 y.1.l.length y.2.2]
def VY (y : Yt) (W : World) : Prop := y.1.d.ok ∧ SlAt W W.heap.size y.2.1 y.2.2 y.1.l
theorem step_midIn {l n : Nat} {P : Program} {ops : Array Oper} {op : Oper} {a : Act} {w : World} {K : Act → World → Prop} {Q : Exit → Act → World → Prop} {E : Prop} (hw : Region.wanted op (yielded ops a.tmps) = true) (ty : TypeId) (x : Operand) (ho : op.op = .load ty x)
    (b o : Nat) (hx : a.eval x = .pointer (some ⟨b, o, none⟩)) (cs : List Value) (d : TypeDesc) (hc : w.rangeAt b o cs)
    (hu : P.underlying ty = some d) (hd : d.isRow = true) (hi : (P.info? ty).map (·.size) = some cs.length)
    (h : K (a.put op.dst (.agg cs.toArray)) w) : if Region.wanted op (yielded ops a.tmps) = true then op.wpIn (Fence.wide.inRound l) n P a w K Q else E := by
  rw [if_pos hw]
  exact wpIn_of_wp' (by rw [ho]; intro c hc; cases hc) (wp_load_mid ty x ho b o hx cs d hc hu hd hi h)
theorem sizes_mem {k : Tr} : ∀ {l : List Tr}, k ∈ l → k.size ≤ Tr.sizes l
  | [], h => by cases h
  | a :: l, h => by
    simp only [Tr.sizes]
    rcases List.mem_cons.1 h with rfl | h
    · omega
    · have := sizes_mem h; omega
theorem at_kid {t k : AT} (h : k ∈ t.l) : k.tr.size < t.tr.size := by
  have h1 : k.tr ∈ t.l.map AT.tr := List.mem_map.2 ⟨k, h, rfl⟩
  have h2 := sizes_mem h1
  rw [AT.tr_eq t]
  simp only [Tr.size]; omega
theorem hered_size {m : Nat} : Hered (fun b : AT => b.tr.size ≤ m) := fun _ hx _ hk => by have := at_kid hk; omega
theorem ATAt.node {w : World} {B : Nat} {t : AT} (h : ATAt w B t) : NodeAt w B t.b t.o t.tr := by
  have key : ∀ n : Nat, ∀ t : AT, t.tr.size ≤ n → ATAt w B t → NodeAt w B t.b t.o t.tr := by
    intro n
    induction n with
    | zero => intro t h; have := t.tr.size_pos; omega
    | succ n ih =>
      intro t hn h
      obtain ⟨b, o, d, l⟩ := t
      have hkid : ∀ k ∈ l, k.tr.size ≤ n := fun k hk => by have h1 := at_kid (t := .mk b o d l) (k := k) hk; omega
      simp only [ATAt] at h
      obtain ⟨h1, h2, A, c, h3, h4, h5, h6⟩ := h
      rw [AT.tr_eq]
      simp only [NodeAt, AT.b, AT.o, AT.d, AT.l]
      refine ⟨h1, h2, A, c, by rw [List.length_map]; exact h3, by rw [List.length_map]; exact h4, h5, ?_⟩
      rcases h6 with rfl | ⟨b', o', hA, hk⟩
      · exact .inl rfl
      · refine .inr ⟨b', o', hA, KidsAt.of (fun i hi => ?_)⟩
        rw [List.length_map] at hi
        obtain ⟨e1, e2, e3⟩ := hk.get i hi
        have := ih l[i] (hkid _ (List.getElem_mem hi)) e3
        rw [e1, e2] at this
        rw [List.getElem_map]; exact this
  exact key t.tr.size t (Nat.le_refl _) h

/-- where the ranging stands. -/
def LInv {w : World} {B M : Nat} {p : AT → Prop} (T b l : Nat) (w0 : World) (J : List Yt → World → Prop) (pre : List (Itm w B M p)) (W : World) : Prop :=
  ∃ ys : List Yt, ys.map (·.1) = pre.map (fun x => x.1.1.tr) ∧ J ys W ∧ Boxed W b T (.func (.yield l) #[] #[]) ∧ Below B w0 W
theorem LInv.ab {w : World} {B M : Nat} {p : AT → Prop} {T b l B' : Nat} {U : List TypeId} {w0 : World} {J : List Yt → World → Prop} (hJ : AbidesN U B' J) (hb : b < B') (hB : B ≤ B') (h0 : B ≤ w0.heap.size) : AbidesN U B' (fun (pre : List (Itm w B M p)) W => LInv T b l w0 J pre W) :=
  fun s W W' row ⟨ys, he, h⟩ hg hr => ⟨ys, he, hJ _ W W' row h.1 hg hr, h.2.1.kept hg (fun e => by have := (hr b e.symm).1; omega), h.2.2.grown hg (by have := h.2.2.size; omega) (fun k e => by have := (hr k e).1; omega)⟩
def LStop {w : World} {B M : Nat} {p : AT → Prop} (Jx : List Yt → World → Prop) (c : Code) (pre : List (Itm w B M p)) (W : World) : Prop := c = .ret ∧ ∃ ys : List Yt, ys.map (·.1) = pre.map (fun x => x.1.1.tr) ∧ Jx ys W
theorem LStop.ab {w : World} {B M : Nat} {p : AT → Prop} {U : List TypeId} {B' : Nat} {Jx : List Yt → World → Prop} (hJ : AbidesN U B' Jx) (c : Code) : AbidesN U B' (fun (pre : List (Itm w B M p)) W => LStop Jx c pre W) :=
  fun _ W W' row ⟨h1, ys, he, h⟩ hg hr => ⟨h1, ys, he, hJ _ W W' row h hg hr⟩
theorem grown_of_below {W W' : World} (h : Below W.heap.size W W') : W.grownBy W' none := ⟨h.os, h.tape, h.output, h.size, fun k hk _ => h.block k hk⟩

set_option maxRecDepth 100000 in
set_option maxHeartbeats 2000000 in
theorem all1_seq (w : World) (n₀ : Nat) (a : AT) (hat : ATAt w n₀ a) (hn₀ : n₀ ≤ w.heap.size) (hsz : a.tr.size ≤ 1048576) :
    SeqV [85, 36] n₀ Tryd.prog 39 #[.pointer (some ⟨a.b, a.o, none⟩)] encY VY (fun ys => ys.map (·.1) = a.tr.nodes) (fun pre => pre.map (·.1) <+: a.tr.nodes) a.tr.size w := by
  intro l J Jx W hW hJ hJx hY h0
  have HJ := Lib.hid hJ
  have HJx := Lib.hid hJx
  have HY := Lib.hid hY
  have H0 := Lib.hid h0
  have HW := Lib.hid hW
  clear hJ hJx hY h0 hW
  refine callsIn_wide (n := 5) |>.1 ?_
  refine callsIn_of_wp_marks Tryd.func39 rfl trivial ?_ rfl
  simp only [Tryd.ntmps39, List.size_toArray, List.length_cons, List.length_nil, Nat.reduceAdd, Nat.reduceSub, Array.replicate_succ, Array.replicate_zero, List.push_toArray, List.append_toArray, List.nil_append, List.cons_append]
  have hf27 : Fence.wide.fn 27 := trivial
  gi_wp2_with (gi_at_call 27; refine (walk_opens 4 _ _).mono ?_; rintro e w' ⟨rfl, rfl⟩)
  obtain ⟨W0, hW0⟩ : ∃ W0, W0 = (W.alloc (.cells #[.func (.yield l) #[] #[]] 36)).alloc (.cells #[.pointer (some ⟨a.b, a.o, none⟩)] 60) := ⟨_, rfl⟩
  have hsW := HW.out.size
  have hsz0 : W0.heap.size = W.heap.size + 2 := by rw [hW0]; simp
  have hbel0 : Below W.heap.size W W0 := by rw [hW0]; exact ((Below.refl _ _).alloc (Nat.le_refl _) _).alloc (by simp) _
  have hJ0 : J [] W0 := by rw [hW0]; exact HJ.out.alloc _ (HJ.out.alloc _ H0.out)
  have hbx : Boxed W0 W.heap.size 36 (.func (.yield l) #[] #[]) := by rw [hW0]; exact (Boxed.new W _ _).alloc _
  have hc1 : W0.cell? ⟨W.heap.size + 1, 0, none⟩ = some (.pointer (some ⟨a.b, a.o, none⟩)) := by
    rw [hW0]
    have := heap_alloc_new (W.alloc (.cells #[.func (.yield l) #[] #[]] 36)) (.cells #[.pointer (some ⟨a.b, a.o, none⟩)] 60)
    rw [World.size_alloc] at this
    exact cell_of_row _ _ 0 _ _ _ this
  have hat0 : ATAt W0 n₀ a := hat.below (HW.out.mono hn₀ |>.trans (hbel0.mono (by omega)))
  rw [← hW0]
  clear hW0
  refine range_T (n := 5) (T := 85) (n₀ := n₀) rfl (by omega) (gf := 40) (lb := #[.pointer (some ⟨W.heap.size + 1, 0, none⟩)]) rfl trivial (enters_of Tryd.func40 (by kernel_rfl) rfl)
    (walk_seq 4 W0 (W.heap.size + 1) n₀ a.tr.size (fun b => b.tr.size ≤ a.tr.size) hered_size ⟨(a, 1), hat0, a.tr.size_pos, Nat.le_refl _⟩ (by omega) (by omega) hc1 (by rw [AT.items_len]; exact Nat.le_refl _) rfl (by omega))
    (by omega) (Below.refl _ _) (fun _ => rfl)
    (fun pre W' => LInv 36 W.heap.size l W0 J pre W')
    (fun c pre W' => LStop Jx c pre W')
    (LInv.ab (HJ.out.mono (by omega)) (by omega) (by omega) (by omega)).own ((LInv.ab (HJ.out.mono (by omega)) (by omega) (by omega) (by omega)).t _ (by simp))
    (fun c => (LStop.ab (HJx.out.mono (by omega)) c).own) (fun c => (LStop.ab (HJx.out.mono (by omega)) c).t _ (by simp))
    ⟨[], rfl, hJ0, hbx, Below.refl _ _⟩
    (fun x a' _ => a' = { tmps := #[.func (.yield l) #[] #[], .pointer (some ⟨a.b, a.o, none⟩), .pointer (some ⟨W.heap.size, 0, none⟩), .pointer (some ⟨x.1.1.b, x.1.1.o, none⟩), .func (.func 40) #[] #[.pointer (some ⟨W.heap.size + 1, 0, none⟩)], .pointer (some ⟨x.1.1.b, x.1.1.o, none⟩), .int .i64 x.1.2, undef, undef, undef, undef, undef, undef, undef], defers := [] })
    (fun _ _ => ownFrom_pure _ _) ?assign ?body ?done ?stop
  case assign =>
    intro l pre x W K hI hK
    dsimp only [Itm.encs]
    gi_wp2
    exact hK _ _ (KeepsFrom.refl _ _) (KeepT.refl _ _ _) hI (by simp)
  case body =>
    rintro l' pre x a' W1 hl - ⟨ys, hys, hj, hbx1, hb1⟩ rfl hlt
    obtain ⟨hxb, xA, xc, hxc, hx1, hx2, hx3⟩ := x.2.1.cells_ hb1
    clear hxc hx1 hx2 hx3
    obtain ⟨-, hxok, xA, xc, hxc, hsl⟩ := (NodeAt.below (ATAt.node x.2.1) hb1).open_
    have hxz : x.1.1.tr.size ≤ a.tr.size := x.2.2.2
    obtain ⟨cs, hcs, hcl, hrg⟩ := hxc.range (w' := W1) (fun _ _ => rfl)
    have hyl : ys.length = pre.length := by have := congrArg List.length hys; simpa using this
    have hW1s : W.heap.size + 2 ≤ W1.heap.size := by have := hb1.size; omega
    have hcp : Calls Tryd.prog 36 #[.agg cs.toArray] W1.drew (CopyPost W1.drew x.1.1.tr) := by
      have := copied_c x.1.1.tr W1.drew xA xc hxok ((hsl.below ((Below.refl n₀ W1).drew)).more (by show n₀ ≤ W1.heap.size; omega)) (by omega)
      rw [nodeV, ← hcs] at this; exact this
    have hYY : ∀ (A2 : Option Addr) (c2 : Nat) (ks : List AT) (W2 : World), ks.map AT.tr = x.1.1.tr.l → FreshKids W2 W1.drew.heap.size A2 c2 ks → Below W1.drew.heap.size W1.drew W2 →
        ∃ fn tmps asg bdy, (Instr.yield l #[.agg (nodeA x.1.1.tr.d A2 x.1.1.tr.l.length c2)]).run Tryd.prog W2 = .ok (.round l fn tmps asg bdy) W2 ∧ RoundIn Fence.wide 0 Tryd.prog l fn tmps asg bdy W2 fun e W' => ∃ q : Bool, e = .returned (.bool q) ∧ ((q = true ∧ J (ys ++ [(x.1.1.tr, A2, c2)]) W' ∧ KeepTs n₀ [85, 36] W2 W' ∧ KeepsFrom W.heap.size W2 W') ∨ (q = false ∧ Jx (ys ++ [(x.1.1.tr, A2, c2)]) W' ∧ KeepsFrom W.heap.size W2 W')) := by
      intro A2 c2 ks W2 e1 e2 e3
      have hj2 : J ys W2 := HJ.out _ _ _ none hj (grown_of_below (W := W1) (W' := W2) (((Below.refl _ W1).drew).trans e3)) (fun r e => by cases e)
      have hsl2 : SlAt W2 W2.heap.size A2 c2 x.1.1.tr.l := by rw [← e1]; exact e2.sl (Nat.le_refl _)
      obtain ⟨fn, tmps, asg, bdy, h1, h2⟩ := HY.out ys (x.1.1.tr, A2, c2) W2 hj2 ⟨hxok, hsl2⟩ (by rw [hyl]; exact hlt)
      exact ⟨fn, tmps, asg, bdy, h1, h2.mono (fun e W' h => h.elim (fun h => ⟨true, h.1, .inl ⟨rfl, h.2⟩⟩) (fun h => ⟨false, h.1, .inr ⟨rfl, h.2⟩⟩))⟩
    have hfin : ∀ (W2 W3 : World) (q : Bool) (A2 : Option Addr) (c2 : Nat), Below W1.drew.heap.size W1.drew W2 → ((q = true ∧ J (ys ++ [(x.1.1.tr, A2, c2)]) W3 ∧ KeepTs n₀ [85, 36] W2 W3 ∧ KeepsFrom W.heap.size W2 W3) ∨ (q = false ∧ Jx (ys ++ [(x.1.1.tr, A2, c2)]) W3 ∧ KeepsFrom W.heap.size W2 W3)) →
        (q = true → KeepsFrom (W.heap.size + 2) W1 W3 ∧ KeepT n₀ 85 W1 W3 ∧ LInv 36 W.heap.size l W0 J (pre ++ [x]) W3) ∧ (q = false → KeepsFrom (W.heap.size + 2) W1 W3 ∧ LStop Jx .ret (pre ++ [x]) W3) := by
      intro W2 W3 q A2 c2 e3 hp
      have hb12 : Below W1.heap.size W1 W2 := ((Below.refl _ W1).drew).trans e3
      have hkf : KeepsFrom W.heap.size W1 W2 := ⟨hb12.size, fun k o _ h _ => (hb12.block k (Array.getElem?_eq_some_iff.1 h).1).trans h⟩
      have hmm : (ys ++ [(x.1.1.tr, A2, c2)]).map (·.1) = (pre ++ [x]).map (fun x => x.1.1.tr) := by rw [List.map_append, List.map_append, hys]; rfl
      rcases hp with ⟨rfl, h1, h2, h3⟩ | ⟨rfl, h1, h3⟩
      · refine ⟨fun _ => ⟨?_, ?_, _, hmm, h1, ?_, ?_⟩, fun h => by cases h⟩
        · have := hkf.trans h3; exact ⟨this.size, fun k o hk => this.same k o (by omega)⟩
        · exact (KeepT.of_below hb12 (by omega)).trans (h2.t _ (by simp))
        · have h4 : Boxed W2 W.heap.size 36 (.func (.yield l) #[] #[]) := (hb12.block _ (by omega)).trans hbx1
          exact (h2.same 36 (by simp) _ ⟨_, _, h4⟩).trans h4
        · exact hb1.trans ((hb12.mono (by omega)).trans h2.below)
      · refine ⟨fun h => (by cases h), fun _ => ⟨?_, rfl, _, hmm, h1⟩⟩
        have := hkf.trans h3; exact ⟨this.size, fun k o hk => this.same k o (by omega)⟩
    have hin := infN
    rw [← hcl] at hin
    have HCP := Lib.hid hcp
    have HYY := Lib.hid hYY
    have FIN := Lib.hid hfin
    have HRG := Lib.hid hrg
    have HIN := Lib.hid hin
    have HWS : Hid (W.heap.size < W1.heap.size) := Lib.hid (by omega)
    have hcx := hbx1.cell
    clear hcp hYY hfin hrg hin hxc hsl hxok hxz hj hb1 hcs hcl hys hyl hW1s hbx1
    gi_wp2
    refine wpIn_region_any (by kernel_rfl) ?_
    change wpAnyIn _ _ _ _ _ _ _ _ _ (World.drew _)
    obtain ⟨Wd, hWd⟩ : ∃ Wd, Wd = W1.drew := ⟨_, rfl⟩
    rw [← hWd] at HCP HYY FIN ⊢
    have hcxd : Wd.cell? ⟨W.heap.size, 0, none⟩ = some (.func (.yield l) #[] #[]) := by rw [hWd]; exact hcx
    have HRGd : Hid (Wd.rangeAt x.1.1.b x.1.1.o cs) := Lib.hid (by rw [hWd]; exact HRG.out)
    have HWSd : Hid (W.heap.size < Wd.heap.size) := Lib.hid (by rw [hWd]; exact HWS.out)
    clear hWd hcx HRG HWS
    refine wpAnyIn_ready (rs := [0, 1]) (by kernel_rfl) (by simp) ?_
    refine AllReadyIn.cons rfl (fun K hK => ?_) ?_
    · skip
      go_simp
      refine hK _ _ ?_
      clear hK K
      refine wpAnyIn_ready (rs := [1]) (by kernel_rfl) (by simp) ?_
      refine AllReadyIn.cons rfl (fun K hK => ?_) ?_
      · skip
        go_simp
        refine hK _ _ ?_
        clear hK K
        refine wpAnyIn_ready (rs := [2]) (by kernel_rfl) (by simp) ?_
        refine AllReadyIn.cons rfl (fun K hK => ?_) ?_
        · skip
          go_simp
          refine hK _ _ ?_
          clear hK K
          refine wpAnyIn_ready (rs := [3]) (by kernel_rfl) (by simp) ?_
          refine AllReadyIn.cons rfl (fun K hK => ?_) ?_
          · skip
            refine step_midIn rfl 34 _ rfl x.1.1.b x.1.1.o rfl cs _ HRGd.out undN rfl HIN.out ?_
            refine hK _ _ ?_
            clear hK K
            try simp only [Act.put, List.setIfInBounds_toArray]
            refine wpAnyIn_ready (rs := [4]) (by kernel_rfl) (by simp) ?_
            refine AllReadyIn.cons rfl (fun K hK => ?_) ?_
            · skip
              go_simp
              refine ⟨trivial, (CallsIn.inRound _ (callsIn_wide.2 HCP.out)).mono ?_⟩
              rintro e W2 ⟨A2, c2, ks, rfl, hk1, hk2, hb2⟩
              obtain ⟨N2, hN2⟩ : ∃ N2, N2 = nodeA x.1.1.tr.d A2 x.1.1.tr.l.length c2 := ⟨_, rfl⟩
              have hcx2 : W2.cell? ⟨W.heap.size, 0, none⟩ = some (.func (.yield l) #[] #[]) := (hb2.cell (p := ⟨W.heap.size, 0, none⟩) HWSd.out).trans hcxd
              have HY2 := Lib.hid (HYY.out A2 c2 ks W2 hk1 hk2 hb2)
              have HB2 := Lib.hid hb2
              have HN2 := Lib.hid hN2
              rw [nodeV, ← hN2]
              clear hk1 hk2 hb2 hN2
              try dsimp only
              refine hK _ _ ?_
              clear hK K
              try simp only [Act.put, List.setIfInBounds_toArray, List.set_cons_zero, List.set_cons_succ]
              refine wpAnyIn_ready (rs := [5]) (by kernel_rfl) (by simp) ?_
              refine AllReadyIn.cons rfl (fun K hK => ?_) ?_
              · skip
                obtain ⟨fn, tmps, asg, bdy, hy, hR⟩ := HY2.out
                rw [← HN2.out] at hy
                have HR := Lib.hid hR
                clear hR
                go_simp
                refine (RoundIn.any HR.out _).mono ?_
                rintro e W3 ⟨q, rfl, hp⟩
                have HP := Lib.hid hp
                clear hp hy
                go_simp
                refine hK _ _ ?_
                clear hK K
                refine wpAnyIn_ready (rs := [6]) (by kernel_rfl) (by simp) ?_
                refine AllReadyIn.cons rfl (fun K hK => ?_) ?_
                · skip
                  go_simp
                  refine hK _ _ ?_
                  clear hK K
                  refine wpAnyIn_done (by kernel_rfl) ?_ _
                  have hf := FIN.out W2 W3 q A2 c2 HB2.out HP.out
                  have HF := Lib.hid hf
                  clear hf HP
                  cases q
                  · gi_wp2
                    exact HF.out.2 (by first | trivial | rfl)
                  · gi_wp2
                    exact HF.out.1 (by first | trivial | rfl)
                exact AllReadyIn.nil
              exact AllReadyIn.nil
            exact AllReadyIn.nil
          exact AllReadyIn.nil
        exact AllReadyIn.nil
      exact AllReadyIn.nil
    refine AllReadyIn.cons rfl (fun K hK => ?_) ?_
    · skip
      go_simp
      refine hK _ _ ?_
      clear hK K
      refine wpAnyIn_ready (rs := [0, 2]) (by kernel_rfl) (by simp) ?_
      refine AllReadyIn.cons rfl (fun K hK => ?_) ?_
      · skip
        go_simp
        refine hK _ _ ?_
        clear hK K
        refine wpAnyIn_ready (rs := [2]) (by kernel_rfl) (by simp) ?_
        refine AllReadyIn.cons rfl (fun K hK => ?_) ?_
        · skip
          go_simp
          refine hK _ _ ?_
          clear hK K
          refine wpAnyIn_ready (rs := [3]) (by kernel_rfl) (by simp) ?_
          refine AllReadyIn.cons rfl (fun K hK => ?_) ?_
          · skip
            refine step_midIn rfl 34 _ rfl x.1.1.b x.1.1.o rfl cs _ HRGd.out undN rfl HIN.out ?_
            refine hK _ _ ?_
            clear hK K
            try simp only [Act.put, List.setIfInBounds_toArray]
            refine wpAnyIn_ready (rs := [4]) (by kernel_rfl) (by simp) ?_
            refine AllReadyIn.cons rfl (fun K hK => ?_) ?_
            · skip
              go_simp
              refine ⟨trivial, (CallsIn.inRound _ (callsIn_wide.2 HCP.out)).mono ?_⟩
              rintro e W2 ⟨A2, c2, ks, rfl, hk1, hk2, hb2⟩
              obtain ⟨N2, hN2⟩ : ∃ N2, N2 = nodeA x.1.1.tr.d A2 x.1.1.tr.l.length c2 := ⟨_, rfl⟩
              have hcx2 : W2.cell? ⟨W.heap.size, 0, none⟩ = some (.func (.yield l) #[] #[]) := (hb2.cell (p := ⟨W.heap.size, 0, none⟩) HWSd.out).trans hcxd
              have HY2 := Lib.hid (HYY.out A2 c2 ks W2 hk1 hk2 hb2)
              have HB2 := Lib.hid hb2
              have HN2 := Lib.hid hN2
              rw [nodeV, ← hN2]
              clear hk1 hk2 hb2 hN2
              try dsimp only
              refine hK _ _ ?_
              clear hK K
              try simp only [Act.put, List.setIfInBounds_toArray, List.set_cons_zero, List.set_cons_succ]
              refine wpAnyIn_ready (rs := [5]) (by kernel_rfl) (by simp) ?_
              refine AllReadyIn.cons rfl (fun K hK => ?_) ?_
              · skip
                obtain ⟨fn, tmps, asg, bdy, hy, hR⟩ := HY2.out
                rw [← HN2.out] at hy
                have HR := Lib.hid hR
                clear hR
                go_simp
                refine (RoundIn.any HR.out _).mono ?_
                rintro e W3 ⟨q, rfl, hp⟩
                have HP := Lib.hid hp
                clear hp hy
                go_simp
                refine hK _ _ ?_
                clear hK K
                refine wpAnyIn_ready (rs := [6]) (by kernel_rfl) (by simp) ?_
                refine AllReadyIn.cons rfl (fun K hK => ?_) ?_
                · skip
                  go_simp
                  refine hK _ _ ?_
                  clear hK K
                  refine wpAnyIn_done (by kernel_rfl) ?_ _
                  have hf := FIN.out W2 W3 q A2 c2 HB2.out HP.out
                  have HF := Lib.hid hf
                  clear hf HP
                  cases q
                  · gi_wp2
                    exact HF.out.2 (by first | trivial | rfl)
                  · gi_wp2
                    exact HF.out.1 (by first | trivial | rfl)
                exact AllReadyIn.nil
              exact AllReadyIn.nil
            exact AllReadyIn.nil
          exact AllReadyIn.nil
        exact AllReadyIn.nil
      refine AllReadyIn.cons rfl (fun K hK => ?_) ?_
      · skip
        go_simp
        refine hK _ _ ?_
        clear hK K
        refine wpAnyIn_ready (rs := [0, 3]) (by kernel_rfl) (by simp) ?_
        refine AllReadyIn.cons rfl (fun K hK => ?_) ?_
        · skip
          go_simp
          refine hK _ _ ?_
          clear hK K
          refine wpAnyIn_ready (rs := [3]) (by kernel_rfl) (by simp) ?_
          refine AllReadyIn.cons rfl (fun K hK => ?_) ?_
          · skip
            refine step_midIn rfl 34 _ rfl x.1.1.b x.1.1.o rfl cs _ HRGd.out undN rfl HIN.out ?_
            refine hK _ _ ?_
            clear hK K
            try simp only [Act.put, List.setIfInBounds_toArray]
            refine wpAnyIn_ready (rs := [4]) (by kernel_rfl) (by simp) ?_
            refine AllReadyIn.cons rfl (fun K hK => ?_) ?_
            · skip
              go_simp
              refine ⟨trivial, (CallsIn.inRound _ (callsIn_wide.2 HCP.out)).mono ?_⟩
              rintro e W2 ⟨A2, c2, ks, rfl, hk1, hk2, hb2⟩
              obtain ⟨N2, hN2⟩ : ∃ N2, N2 = nodeA x.1.1.tr.d A2 x.1.1.tr.l.length c2 := ⟨_, rfl⟩
              have hcx2 : W2.cell? ⟨W.heap.size, 0, none⟩ = some (.func (.yield l) #[] #[]) := (hb2.cell (p := ⟨W.heap.size, 0, none⟩) HWSd.out).trans hcxd
              have HY2 := Lib.hid (HYY.out A2 c2 ks W2 hk1 hk2 hb2)
              have HB2 := Lib.hid hb2
              have HN2 := Lib.hid hN2
              rw [nodeV, ← hN2]
              clear hk1 hk2 hb2 hN2
              try dsimp only
              refine hK _ _ ?_
              clear hK K
              try simp only [Act.put, List.setIfInBounds_toArray, List.set_cons_zero, List.set_cons_succ]
              refine wpAnyIn_ready (rs := [5]) (by kernel_rfl) (by simp) ?_
              refine AllReadyIn.cons rfl (fun K hK => ?_) ?_
              · skip
                obtain ⟨fn, tmps, asg, bdy, hy, hR⟩ := HY2.out
                rw [← HN2.out] at hy
                have HR := Lib.hid hR
                clear hR
                go_simp
                refine (RoundIn.any HR.out _).mono ?_
                rintro e W3 ⟨q, rfl, hp⟩
                have HP := Lib.hid hp
                clear hp hy
                go_simp
                refine hK _ _ ?_
                clear hK K
                refine wpAnyIn_ready (rs := [6]) (by kernel_rfl) (by simp) ?_
                refine AllReadyIn.cons rfl (fun K hK => ?_) ?_
                · skip
                  go_simp
                  refine hK _ _ ?_
                  clear hK K
                  refine wpAnyIn_done (by kernel_rfl) ?_ _
                  have hf := FIN.out W2 W3 q A2 c2 HB2.out HP.out
                  have HF := Lib.hid hf
                  clear hf HP
                  cases q
                  · gi_wp2
                    exact HF.out.2 (by first | trivial | rfl)
                  · gi_wp2
                    exact HF.out.1 (by first | trivial | rfl)
                exact AllReadyIn.nil
              exact AllReadyIn.nil
            exact AllReadyIn.nil
          exact AllReadyIn.nil
        refine AllReadyIn.cons rfl (fun K hK => ?_) ?_
        · skip
          refine step_midIn rfl 34 _ rfl x.1.1.b x.1.1.o rfl cs _ HRGd.out undN rfl HIN.out ?_
          refine hK _ _ ?_
          clear hK K
          try simp only [Act.put, List.setIfInBounds_toArray]
          refine wpAnyIn_ready (rs := [0, 4]) (by kernel_rfl) (by simp) ?_
          refine AllReadyIn.cons rfl (fun K hK => ?_) ?_
          · skip
            go_simp
            refine hK _ _ ?_
            clear hK K
            refine wpAnyIn_ready (rs := [4]) (by kernel_rfl) (by simp) ?_
            refine AllReadyIn.cons rfl (fun K hK => ?_) ?_
            · skip
              go_simp
              refine ⟨trivial, (CallsIn.inRound _ (callsIn_wide.2 HCP.out)).mono ?_⟩
              rintro e W2 ⟨A2, c2, ks, rfl, hk1, hk2, hb2⟩
              obtain ⟨N2, hN2⟩ : ∃ N2, N2 = nodeA x.1.1.tr.d A2 x.1.1.tr.l.length c2 := ⟨_, rfl⟩
              have hcx2 : W2.cell? ⟨W.heap.size, 0, none⟩ = some (.func (.yield l) #[] #[]) := (hb2.cell (p := ⟨W.heap.size, 0, none⟩) HWSd.out).trans hcxd
              have HY2 := Lib.hid (HYY.out A2 c2 ks W2 hk1 hk2 hb2)
              have HB2 := Lib.hid hb2
              have HN2 := Lib.hid hN2
              rw [nodeV, ← hN2]
              clear hk1 hk2 hb2 hN2
              try dsimp only
              refine hK _ _ ?_
              clear hK K
              try simp only [Act.put, List.setIfInBounds_toArray, List.set_cons_zero, List.set_cons_succ]
              refine wpAnyIn_ready (rs := [5]) (by kernel_rfl) (by simp) ?_
              refine AllReadyIn.cons rfl (fun K hK => ?_) ?_
              · skip
                obtain ⟨fn, tmps, asg, bdy, hy, hR⟩ := HY2.out
                rw [← HN2.out] at hy
                have HR := Lib.hid hR
                clear hR
                go_simp
                refine (RoundIn.any HR.out _).mono ?_
                rintro e W3 ⟨q, rfl, hp⟩
                have HP := Lib.hid hp
                clear hp hy
                go_simp
                refine hK _ _ ?_
                clear hK K
                refine wpAnyIn_ready (rs := [6]) (by kernel_rfl) (by simp) ?_
                refine AllReadyIn.cons rfl (fun K hK => ?_) ?_
                · skip
                  go_simp
                  refine hK _ _ ?_
                  clear hK K
                  refine wpAnyIn_done (by kernel_rfl) ?_ _
                  have hf := FIN.out W2 W3 q A2 c2 HB2.out HP.out
                  have HF := Lib.hid hf
                  clear hf HP
                  cases q
                  · gi_wp2
                    exact HF.out.2 (by first | trivial | rfl)
                  · gi_wp2
                    exact HF.out.1 (by first | trivial | rfl)
                exact AllReadyIn.nil
              exact AllReadyIn.nil
            exact AllReadyIn.nil
          refine AllReadyIn.cons rfl (fun K hK => ?_) ?_
          · skip
            go_simp
            refine ⟨trivial, (CallsIn.inRound _ (callsIn_wide.2 HCP.out)).mono ?_⟩
            rintro e W2 ⟨A2, c2, ks, rfl, hk1, hk2, hb2⟩
            obtain ⟨N2, hN2⟩ : ∃ N2, N2 = nodeA x.1.1.tr.d A2 x.1.1.tr.l.length c2 := ⟨_, rfl⟩
            have hcx2 : W2.cell? ⟨W.heap.size, 0, none⟩ = some (.func (.yield l) #[] #[]) := (hb2.cell (p := ⟨W.heap.size, 0, none⟩) HWSd.out).trans hcxd
            have HY2 := Lib.hid (HYY.out A2 c2 ks W2 hk1 hk2 hb2)
            have HB2 := Lib.hid hb2
            have HN2 := Lib.hid hN2
            rw [nodeV, ← hN2]
            clear hk1 hk2 hb2 hN2
            try dsimp only
            refine hK _ _ ?_
            clear hK K
            try simp only [Act.put, List.setIfInBounds_toArray, List.set_cons_zero, List.set_cons_succ]
            refine wpAnyIn_ready (rs := [0]) (by kernel_rfl) (by simp) ?_
            refine AllReadyIn.cons rfl (fun K hK => ?_) ?_
            · skip
              go_simp
              refine hK _ _ ?_
              clear hK K
              refine wpAnyIn_ready (rs := [5]) (by kernel_rfl) (by simp) ?_
              refine AllReadyIn.cons rfl (fun K hK => ?_) ?_
              · skip
                obtain ⟨fn, tmps, asg, bdy, hy, hR⟩ := HY2.out
                rw [← HN2.out] at hy
                have HR := Lib.hid hR
                clear hR
                go_simp
                refine (RoundIn.any HR.out _).mono ?_
                rintro e W3 ⟨q, rfl, hp⟩
                have HP := Lib.hid hp
                clear hp hy
                go_simp
                refine hK _ _ ?_
                clear hK K
                refine wpAnyIn_ready (rs := [6]) (by kernel_rfl) (by simp) ?_
                refine AllReadyIn.cons rfl (fun K hK => ?_) ?_
                · skip
                  go_simp
                  refine hK _ _ ?_
                  clear hK K
                  refine wpAnyIn_done (by kernel_rfl) ?_ _
                  have hf := FIN.out W2 W3 q A2 c2 HB2.out HP.out
                  have HF := Lib.hid hf
                  clear hf HP
                  cases q
                  · gi_wp2
                    exact HF.out.2 (by first | trivial | rfl)
                  · gi_wp2
                    exact HF.out.1 (by first | trivial | rfl)
                exact AllReadyIn.nil
              exact AllReadyIn.nil
            exact AllReadyIn.nil
          exact AllReadyIn.nil
        exact AllReadyIn.nil
      exact AllReadyIn.nil
    exact AllReadyIn.nil
  case done =>
    rintro D xs W1 hD hS ⟨ys, hys, hj, -, hb1⟩ hK
    have hj' : J ys (W1.putObj D (.deferred none)) := (HJ.out.mono (by omega : W.heap.size ≤ W0.heap.size)).own.putObj _ hj hD hK rfl
    have hyn : ys.map (·.1) = a.tr.nodes := by rw [hys, ← items_nodes a 1, ← hS, List.map_map]; rfl
    have HJD := Lib.hid hj'
    have HK := Lib.hid hK
    have HYN := Lib.hid hyn
    clear hj hj' hK hS hb1 hys hyn
    gi_wp2
    refine ⟨by simp, .inl ⟨_, _, rfl, run_takeDeferred HK.out, ?_⟩⟩
    exact ⟨.tuple #[], by simp [results, Tryd.results39, go_sem], ⟨_, rfl⟩, .inl ⟨_, HYN.out, HJD.out⟩⟩
  case stop =>
    rintro D c pre W1 hD hSp ⟨rfl, ys, hys, hjx⟩ hK
    have hj' : Jx ys (W1.putObj D (.deferred none)) := (HJx.out.mono (by omega : W.heap.size ≤ W0.heap.size)).own.putObj _ hjx hD hK rfl
    have hyn : ys.map (·.1) <+: a.tr.nodes := by
      rw [hys, ← items_nodes a 1]
      have := hSp.map (fun p : AT × Nat => p.1.tr)
      rw [List.map_map] at this; exact this
    have HJD := Lib.hid hj'
    have HK := Lib.hid hK
    have HYN := Lib.hid hyn
    clear hjx hj' hK hSp hys hyn
    gi_wp2
    refine ⟨by simp, .inl ⟨_, _, rfl, run_takeDeferred HK.out, ?_⟩⟩
    exact ⟨.tuple #[], by simp [results, Tryd.results39, go_sem], ⟨_, rfl⟩, .inr ⟨_, HYN.out, HJD.out⟩⟩
end Go.Proofs.YtggpffipijoddaaDoor
