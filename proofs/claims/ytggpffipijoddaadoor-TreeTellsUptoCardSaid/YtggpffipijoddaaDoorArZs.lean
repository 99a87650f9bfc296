/- tree.Areas: the contract of the iterator that it makes. tree.Areas: the contract of the iterator that it makes, where the tree lies in a zone of blocks. -/
import Derived.Test.YtggpffipijoddaaDoorRnMkRv
import Derived.Test.YtggpffipijoddaaDoorBuCx
import Derived.Test.YtggpffipijoddaaDoorZaZw
namespace Go.Proofs.YtggpffipijoddaaDoor
open Go.RowKit Go.Shelf
attribute [local go_sem] Oper.semAt_some

def areaD (d : ND) : Option (Cn × Cn) := if d.kind = 1 ∨ d.kind = 3 ∨ d.kind = 2 then some (d.a, d.b) else none
/-- the areas of a tree, in order. -/
def areasT (t : Tr) : List (Cn × Cn) := t.nodes.filterMap fun x => areaD x.d
def areasP (l : List (AT × Nat)) : List (Cn × Cn) := l.filterMap fun x => areaD x.1.d
theorem areasP_items (t : AT) (k : Nat) : areasP (t.items k) = areasT t.tr := by
  unfold areasP areasT
  rw [← items_nodes t k, List.filterMap_map]
  congr 1
  funext x
  simp only [Function.comp, AT.tr_d]
theorem areasP_snoc (l : List (AT × Nat)) (x : AT × Nat) : areasP (l ++ [x]) = areasP l ++ (areaD x.1.d).toList := by
  simp only [areasP, List.filterMap_append]
  cases h : areaD x.1.d <;> simp [List.filterMap, h]
theorem areasP_len (l : List (AT × Nat)) : (areasP l).length ≤ l.length := List.length_filterMap_le _ _
def arV (x : Cn × Cn) : Value := .agg (x.1.cells ++ x.2.cells).toArray
def encA (x : Cn × Cn) : Array Value := #[arV x]
theorem grown_drew (w : World) (row : Option Nat) : w.grownBy w.drew row := ⟨rfl, rfl, rfl, Nat.le_refl _, fun _ _ _ => rfl⟩

theorem ATAt.below {w w' : World} {B : Nat} {t : AT} (h : ATAt w B t) (hb : Below B w w') : ATAt w' B t := by
  have key : ∀ n : Nat, ∀ t : AT, t.tr.size ≤ n → ATAt w B t → ATAt w' B t := by
    intro n
    induction n with
    | zero => intro t h; have := t.tr.size_pos; omega
    | succ n ih =>
      intro t hn h
      obtain ⟨b, o, d, l⟩ := t
      simp only [AT.tr, Tr.size] at hn
      simp only [ATAt] at h ⊢
      obtain ⟨h1, h2, A, c, h3, h4, h5, h6⟩ := h
      refine ⟨h1, h2, A, c, h3.keep (fun p hp => hb.cell (by omega)), h4, h5, ?_⟩
      rcases h6 with rfl | ⟨b', o', hA, hk⟩
      · exact .inl rfl
      · refine .inr ⟨b', o', hA, ATs.of (fun i hi => ?_)⟩
        obtain ⟨e1, e2, e3⟩ := hk.get i hi
        refine ⟨e1, e2, ih _ ?_ e3⟩
        have hm : l[i].tr ∈ AT.trs l := by rw [AT.trs_map]; exact List.mem_map.2 ⟨_, List.getElem_mem _, rfl⟩
        have : ∀ (l : List Tr) (k : Tr), k ∈ l → k.size ≤ Tr.sizes l := by
          intro l
          induction l with
          | nil => intro k h; cases h
          | cons a l ih =>
            intro k h
            simp only [Tr.sizes]
            rcases List.mem_cons.1 h with rfl | h
            · omega
            · have := ih k h; omega
        have := this _ _ hm
        omega
  exact key t.tr.size t (Nat.le_refl _) h

/-- where the ranging stands. -/
def AInv {w : World} {B M : Nat} {p : AT → Prop} (T b l : Nat) (w0 : World) (J : List (Cn × Cn) → World → Prop) (pre : List (Itm w B M p)) (W : World) : Prop :=
  J (areasP (pre.map (·.1))) W ∧ Boxed W b T (.func (.yield l) #[] #[]) ∧ Below B w0 W
theorem AInv.ab {w : World} {B M : Nat} {p : AT → Prop} {T b l B' : Nat} {U : List TypeId} {w0 : World} {J : List (Cn × Cn) → World → Prop} (hJ : AbidesN U B' J) (hb : b < B') (hB : B ≤ B') (h0 : B ≤ w0.heap.size) : AbidesN U B' (fun (pre : List (Itm w B M p)) W => AInv T b l w0 J pre W) :=
  fun s W W' row h hg hr => ⟨hJ _ W W' row h.1 hg hr, h.2.1.kept hg (fun e => by have := (hr b e.symm).1; omega), h.2.2.grown hg (by have := h.2.2.size; omega) (fun k e => by have := (hr k e).1; omega)⟩

def AStop {w : World} {B M : Nat} {p : AT → Prop} (Jx : List (Cn × Cn) → World → Prop) (c : Code) (pre : List (Itm w B M p)) (W : World) : Prop := c = .ret ∧ Jx (areasP (pre.map (·.1))) W
theorem AStop.ab {w : World} {B M : Nat} {p : AT → Prop} {U : List TypeId} {B' : Nat} {Jx : List (Cn × Cn) → World → Prop} (hJ : AbidesN U B' Jx) (c : Code) : AbidesN U B' (fun (pre : List (Itm w B M p)) W => AStop Jx c pre W) :=
  fun _ W W' row h hg hr => ⟨h.1, hJ _ W W' row h.2 hg hr⟩

set_option maxRecDepth 100000 in
set_option maxHeartbeats 2000000 in
theorem areas1_seq (w : World) (n₀ : Nat) (a : AT) (hat : ATAt w n₀ a) (hn₀ : n₀ ≤ w.heap.size) (hsz : a.tr.size ≤ 1099511627776) :
    SeqN [85, 77] n₀ Tryd.prog 34 #[.pointer (some ⟨a.b, a.o, none⟩)] encA (fun xs => xs = areasP (a.items 1)) (fun pre => pre <+: areasP (a.items 1)) a.tr.size w := by
  intro l J Jx W hW hJ hJx hY h0
  have HJ := Lib.hid hJ
  have HJx := Lib.hid hJx
  have HY := Lib.hid hY
  have H0 := Lib.hid h0
  have HW := Lib.hid hW
  clear hJ hJx hY h0 hW
  refine callsIn_wide (n := 5) |>.1 ?_
  refine callsIn_of_wp_marks Tryd.func34 rfl trivial ?_ rfl
  simp only [Tryd.ntmps34, List.size_toArray, List.length_cons, List.length_nil, Nat.reduceAdd, Nat.reduceSub, Array.replicate_succ, Array.replicate_zero, List.push_toArray, List.append_toArray, List.nil_append, List.cons_append]
  have hf27 : Fence.wide.fn 27 := trivial
  gi_wp2_with (gi_at_call 27; refine (walk_opens 4 _ _).mono ?_; rintro e w' ⟨rfl, rfl⟩)
  obtain ⟨W0, hW0⟩ : ∃ W0, W0 = (W.alloc (.cells #[.func (.yield l) #[] #[]] 77)).alloc (.cells #[.pointer (some ⟨a.b, a.o, none⟩)] 60) := ⟨_, rfl⟩
  have hsW := HW.out.size
  have hsz0 : W0.heap.size = W.heap.size + 2 := by rw [hW0]; simp
  have hbel0 : Below W.heap.size W W0 := by rw [hW0]; exact ((Below.refl _ _).alloc (Nat.le_refl _) _).alloc (by simp) _
  have hJ0 : J [] W0 := by rw [hW0]; exact HJ.out.alloc _ (HJ.out.alloc _ H0.out)
  have hbx : Boxed W0 W.heap.size 77 (.func (.yield l) #[] #[]) := by rw [hW0]; exact (Boxed.new W _ _).alloc _
  have hc1 : W0.cell? ⟨W.heap.size + 1, 0, none⟩ = some (.pointer (some ⟨a.b, a.o, none⟩)) := by
    rw [hW0]
    have := heap_alloc_new (W.alloc (.cells #[.func (.yield l) #[] #[]] 77)) (.cells #[.pointer (some ⟨a.b, a.o, none⟩)] 60)
    rw [World.size_alloc] at this
    exact cell_of_row _ _ 0 _ _ _ this
  have hat0 : ATAt W0 n₀ a := hat.below (HW.out.mono hn₀ |>.trans (hbel0.mono (by omega)))
  rw [← hW0]
  clear hW0
  refine range_T (n := 5) (T := 85) (n₀ := n₀) rfl (by omega) (gf := 40) (lb := #[.pointer (some ⟨W.heap.size + 1, 0, none⟩)]) rfl trivial (enters_of Tryd.func40 (by kernel_rfl) rfl)
    (walk_seq 4 W0 (W.heap.size + 1) n₀ a.tr.size (fun _ => True) (fun _ _ _ _ => trivial) ⟨(a, 1), hat0, a.tr.size_pos, trivial⟩ (by omega) (by omega) hc1 (by rw [AT.items_len]; exact Nat.le_refl _) rfl hsz)
    (by omega) (Below.refl _ _) (fun _ => rfl)
    (fun pre W' => AInv 77 W.heap.size l W0 J pre W')
    (fun c pre W' => AStop Jx c pre W')
    (AInv.ab (HJ.out.mono (by omega)) (by omega) (by omega) (by omega)).own ((AInv.ab (HJ.out.mono (by omega)) (by omega) (by omega) (by omega)).t _ (by simp))
    (fun c => (AStop.ab (HJx.out.mono (by omega)) c).own) (fun c => (AStop.ab (HJx.out.mono (by omega)) c).t _ (by simp))
    ⟨hJ0, hbx, Below.refl _ _⟩
    (fun x a' _ => a' = { tmps := #[.func (.yield l) #[] #[], .pointer (some ⟨a.b, a.o, none⟩), .pointer (some ⟨W.heap.size, 0, none⟩), .pointer (some ⟨x.1.1.b, x.1.1.o, none⟩), .func (.func 40) #[] #[.pointer (some ⟨W.heap.size + 1, 0, none⟩)], .pointer (some ⟨x.1.1.b, x.1.1.o, none⟩), .int .i64 x.1.2, undef, undef, undef, undef, undef, undef, undef, undef, undef, undef, undef, undef, undef, undef, undef], defers := [] })
    (fun _ _ => ownFrom_pure _ _) ?assign ?body ?done ?stop
  case assign =>
    intro l pre x W K hI hK
    dsimp only [Itm.encs]
    gi_wp2
    exact hK _ _ (KeepsFrom.refl _ _) (KeepT.refl _ _ _) hI (by simp)
  case body =>
    rintro l' pre x a' W1 hl - ⟨hj, hbx1, hb1⟩ rfl hlt
    obtain ⟨hxb, xA, xc, hxc, -, -, -⟩ := x.2.1.cells_ hb1
    have hall := hxc.all
    obtain ⟨c0, c1, c2, c3, c4, c5, c6, c7, c8, c9, c10, c11, c12, c13, c14, c15, c16, c17, c18, c19, c20, c21⟩ := hall
    have hsn := areasP_snoc (pre.map (·.1)) x.1
    have hpl : (areasP (pre.map (·.1))).length < a.tr.size := by have := areasP_len (pre.map (·.1)); simp at this; omega
    have hJ1 : J (areasP (pre.map (·.1))) W1.drew := HJ.out _ _ _ none hj (grown_drew _ _) (fun r e => by cases e)
    obtain ⟨fn, tmps, asg, bdy, hy, hR⟩ := HY.out _ (x.1.1.d.a, x.1.1.d.b) _ hJ1 hpl
    have hy' : (Instr.yield l #[.agg #[.int .i64 x.1.1.d.a.ra, .int .i64 x.1.1.d.a.rn, .int .i64 x.1.1.d.a.ca, .int .i64 x.1.1.d.a.cn, .bool x.1.1.d.a.fr, .bool x.1.1.d.a.fc, .int .i64 x.1.1.d.b.ra, .int .i64 x.1.1.d.b.rn, .int .i64 x.1.1.d.b.ca, .int .i64 x.1.1.d.b.cn, .bool x.1.1.d.b.fr, .bool x.1.1.d.b.fc]]).run Tryd.prog W1.drew = .ok (.round l fn tmps asg bdy) W1.drew := hy
    clear hy
    have HSN := Lib.hid hsn
    have HJ1 := Lib.hid hj
    have HBX := Lib.hid hbx1
    have HB1 := Lib.hid hb1
    have hcx := hbx1.cell
    have hmix : Tryd.prog.follows .mixedOrders = true := by kernel_rfl
    clear hsn hj hb1 hJ1 hxc c1 c2 c3 c4 c5 c6 c7 c20 c21 hbx1
    have hR' : RoundIn Fence.wide 0 Tryd.prog l fn tmps asg bdy W1.drew fun e W' => ∃ q : Bool, e = .returned (.bool q) ∧ ((q = true ∧ J (areasP (pre.map (·.1)) ++ [(x.1.1.d.a, x.1.1.d.b)]) W' ∧ KeepTs n₀ [85, 77] W1.drew W' ∧ KeepsFrom W.heap.size W1.drew W') ∨ (q = false ∧ Jx (areasP (pre.map (·.1)) ++ [(x.1.1.d.a, x.1.1.d.b)]) W' ∧ KeepsFrom W.heap.size W1.drew W')) :=
      hR.mono (fun e W' h => h.elim (fun h => ⟨true, h.1, .inl ⟨rfl, h.2⟩⟩) (fun h => ⟨false, h.1, .inr ⟨rfl, h.2⟩⟩))
    have HR := Lib.hid hR'
    clear hR hR'
    by_cases hk : x.1.1.d.kind = 1 ∨ x.1.1.d.kind = 3 ∨ x.1.1.d.kind = 2
    · have hsome : Hid (areaD x.1.1.d = some (x.1.1.d.a, x.1.1.d.b)) := Lib.hid (by unfold areaD; rw [if_pos hk])
      gi_wp2
      all_goals
        refine wpIn_region_any (by assumption) ?_
        change wpAnyIn _ _ _ _ _ _ _ _ _ (World.drew _)
        refine wpAnyIn_ready (rs := [0, 1]) (by kernel_rfl) (by simp) ?_
        refine AllReadyIn.cons rfl (fun K hK => ?_) ?_
        · go_simp
          refine hK _ _ ?_
          clear hK K
          refine wpAnyIn_ready (rs := [1]) (by kernel_rfl) (by simp) ?_
          refine AllReadyIn.cons rfl (fun K hK => ?_) ?_
          · go_simp
            refine hK _ _ ?_
            clear hK K
            refine wpAnyIn_ready (rs := [2]) (by kernel_rfl) (by simp) ?_
            refine AllReadyIn.cons rfl (fun K hK => ?_) ?_
            · go_simp
              refine hK _ _ ?_
              clear hK K
              refine wpAnyIn_ready (rs := [3]) (by kernel_rfl) (by simp) ?_
              refine AllReadyIn.cons rfl (fun K hK => ?_) ?_
              · go_simp
                refine hK _ _ ?_
                clear hK K
                refine wpAnyIn_ready (rs := [4]) (by kernel_rfl) (by simp) ?_
                refine AllReadyIn.cons rfl (fun K hK => ?_) ?_
                · go_simp
                  refine hK _ _ ?_
                  clear hK K
                  refine wpAnyIn_ready (rs := [5]) (by kernel_rfl) (by simp) ?_
                  refine AllReadyIn.cons rfl (fun K hK => ?_) ?_
                  · go_simp
                    refine (RoundIn.any HR.out _).mono ?_
                    rintro e W3 ⟨q, rfl, hp⟩
                    go_simp
                    refine hK _ _ ?_
                    clear hK K
                    refine wpAnyIn_ready (rs := [6]) (by kernel_rfl) (by simp) ?_
                    refine AllReadyIn.cons rfl (fun K hK => ?_) ?_
                    · go_simp
                      refine hK _ _ ?_
                      clear hK K
                      refine wpAnyIn_done (by kernel_rfl) ?_ _
                      rcases hp with ⟨rfl, hj3, hkt, hkf⟩ | ⟨rfl, hjx3, hkf⟩
                      · gi_wp2
                        refine ⟨⟨hkf.size, fun k o hk => hkf.same k o (by omega)⟩, ⟨(Below.refl _ W1).drew.trans hkt.below, (hkt.t 85 (by simp)).same⟩, ?_, ?_, HB1.out.trans ((Below.refl _ W1).drew.trans hkt.below)⟩
                        · rw [List.map_append, List.map_singleton, HSN.out, hsome.out]; exact hj3
                        · exact (hkt.same 77 (by simp) _ ⟨_, _, HBX.out⟩).trans HBX.out
                      · gi_wp2
                        refine ⟨⟨hkf.size, fun k o hk => hkf.same k o (by omega)⟩, rfl, ?_⟩
                        rw [List.map_append, List.map_singleton, HSN.out, hsome.out]; exact hjx3
                    exact AllReadyIn.nil
                  exact AllReadyIn.nil
                exact AllReadyIn.nil
              exact AllReadyIn.nil
            exact AllReadyIn.nil
          exact AllReadyIn.nil
        refine AllReadyIn.cons rfl (fun K hK => ?_) ?_
        · go_simp
          refine hK _ _ ?_
          clear hK K
          refine wpAnyIn_ready (rs := [0, 2]) (by kernel_rfl) (by simp) ?_
          refine AllReadyIn.cons rfl (fun K hK => ?_) ?_
          · go_simp
            refine hK _ _ ?_
            clear hK K
            refine wpAnyIn_ready (rs := [2]) (by kernel_rfl) (by simp) ?_
            refine AllReadyIn.cons rfl (fun K hK => ?_) ?_
            · go_simp
              refine hK _ _ ?_
              clear hK K
              refine wpAnyIn_ready (rs := [3]) (by kernel_rfl) (by simp) ?_
              refine AllReadyIn.cons rfl (fun K hK => ?_) ?_
              · go_simp
                refine hK _ _ ?_
                clear hK K
                refine wpAnyIn_ready (rs := [4]) (by kernel_rfl) (by simp) ?_
                refine AllReadyIn.cons rfl (fun K hK => ?_) ?_
                · go_simp
                  refine hK _ _ ?_
                  clear hK K
                  refine wpAnyIn_ready (rs := [5]) (by kernel_rfl) (by simp) ?_
                  refine AllReadyIn.cons rfl (fun K hK => ?_) ?_
                  · go_simp
                    refine (RoundIn.any HR.out _).mono ?_
                    rintro e W3 ⟨q, rfl, hp⟩
                    go_simp
                    refine hK _ _ ?_
                    clear hK K
                    refine wpAnyIn_ready (rs := [6]) (by kernel_rfl) (by simp) ?_
                    refine AllReadyIn.cons rfl (fun K hK => ?_) ?_
                    · go_simp
                      refine hK _ _ ?_
                      clear hK K
                      refine wpAnyIn_done (by kernel_rfl) ?_ _
                      rcases hp with ⟨rfl, hj3, hkt, hkf⟩ | ⟨rfl, hjx3, hkf⟩
                      · gi_wp2
                        refine ⟨⟨hkf.size, fun k o hk => hkf.same k o (by omega)⟩, ⟨(Below.refl _ W1).drew.trans hkt.below, (hkt.t 85 (by simp)).same⟩, ?_, ?_, HB1.out.trans ((Below.refl _ W1).drew.trans hkt.below)⟩
                        · rw [List.map_append, List.map_singleton, HSN.out, hsome.out]; exact hj3
                        · exact (hkt.same 77 (by simp) _ ⟨_, _, HBX.out⟩).trans HBX.out
                      · gi_wp2
                        refine ⟨⟨hkf.size, fun k o hk => hkf.same k o (by omega)⟩, rfl, ?_⟩
                        rw [List.map_append, List.map_singleton, HSN.out, hsome.out]; exact hjx3
                    exact AllReadyIn.nil
                  exact AllReadyIn.nil
                exact AllReadyIn.nil
              exact AllReadyIn.nil
            exact AllReadyIn.nil
          refine AllReadyIn.cons rfl (fun K hK => ?_) ?_
          · go_simp
            refine hK _ _ ?_
            clear hK K
            refine wpAnyIn_ready (rs := [0, 3]) (by kernel_rfl) (by simp) ?_
            refine AllReadyIn.cons rfl (fun K hK => ?_) ?_
            · go_simp
              refine hK _ _ ?_
              clear hK K
              refine wpAnyIn_ready (rs := [3]) (by kernel_rfl) (by simp) ?_
              refine AllReadyIn.cons rfl (fun K hK => ?_) ?_
              · go_simp
                refine hK _ _ ?_
                clear hK K
                refine wpAnyIn_ready (rs := [4]) (by kernel_rfl) (by simp) ?_
                refine AllReadyIn.cons rfl (fun K hK => ?_) ?_
                · go_simp
                  refine hK _ _ ?_
                  clear hK K
                  refine wpAnyIn_ready (rs := [5]) (by kernel_rfl) (by simp) ?_
                  refine AllReadyIn.cons rfl (fun K hK => ?_) ?_
                  · go_simp
                    refine (RoundIn.any HR.out _).mono ?_
                    rintro e W3 ⟨q, rfl, hp⟩
                    go_simp
                    refine hK _ _ ?_
                    clear hK K
                    refine wpAnyIn_ready (rs := [6]) (by kernel_rfl) (by simp) ?_
                    refine AllReadyIn.cons rfl (fun K hK => ?_) ?_
                    · go_simp
                      refine hK _ _ ?_
                      clear hK K
                      refine wpAnyIn_done (by kernel_rfl) ?_ _
                      rcases hp with ⟨rfl, hj3, hkt, hkf⟩ | ⟨rfl, hjx3, hkf⟩
                      · gi_wp2
                        refine ⟨⟨hkf.size, fun k o hk => hkf.same k o (by omega)⟩, ⟨(Below.refl _ W1).drew.trans hkt.below, (hkt.t 85 (by simp)).same⟩, ?_, ?_, HB1.out.trans ((Below.refl _ W1).drew.trans hkt.below)⟩
                        · rw [List.map_append, List.map_singleton, HSN.out, hsome.out]; exact hj3
                        · exact (hkt.same 77 (by simp) _ ⟨_, _, HBX.out⟩).trans HBX.out
                      · gi_wp2
                        refine ⟨⟨hkf.size, fun k o hk => hkf.same k o (by omega)⟩, rfl, ?_⟩
                        rw [List.map_append, List.map_singleton, HSN.out, hsome.out]; exact hjx3
                    exact AllReadyIn.nil
                  exact AllReadyIn.nil
                exact AllReadyIn.nil
              exact AllReadyIn.nil
            refine AllReadyIn.cons rfl (fun K hK => ?_) ?_
            · go_simp
              refine hK _ _ ?_
              clear hK K
              refine wpAnyIn_ready (rs := [0, 4]) (by kernel_rfl) (by simp) ?_
              refine AllReadyIn.cons rfl (fun K hK => ?_) ?_
              · go_simp
                refine hK _ _ ?_
                clear hK K
                refine wpAnyIn_ready (rs := [4]) (by kernel_rfl) (by simp) ?_
                refine AllReadyIn.cons rfl (fun K hK => ?_) ?_
                · go_simp
                  refine hK _ _ ?_
                  clear hK K
                  refine wpAnyIn_ready (rs := [5]) (by kernel_rfl) (by simp) ?_
                  refine AllReadyIn.cons rfl (fun K hK => ?_) ?_
                  · go_simp
                    refine (RoundIn.any HR.out _).mono ?_
                    rintro e W3 ⟨q, rfl, hp⟩
                    go_simp
                    refine hK _ _ ?_
                    clear hK K
                    refine wpAnyIn_ready (rs := [6]) (by kernel_rfl) (by simp) ?_
                    refine AllReadyIn.cons rfl (fun K hK => ?_) ?_
                    · go_simp
                      refine hK _ _ ?_
                      clear hK K
                      refine wpAnyIn_done (by kernel_rfl) ?_ _
                      rcases hp with ⟨rfl, hj3, hkt, hkf⟩ | ⟨rfl, hjx3, hkf⟩
                      · gi_wp2
                        refine ⟨⟨hkf.size, fun k o hk => hkf.same k o (by omega)⟩, ⟨(Below.refl _ W1).drew.trans hkt.below, (hkt.t 85 (by simp)).same⟩, ?_, ?_, HB1.out.trans ((Below.refl _ W1).drew.trans hkt.below)⟩
                        · rw [List.map_append, List.map_singleton, HSN.out, hsome.out]; exact hj3
                        · exact (hkt.same 77 (by simp) _ ⟨_, _, HBX.out⟩).trans HBX.out
                      · gi_wp2
                        refine ⟨⟨hkf.size, fun k o hk => hkf.same k o (by omega)⟩, rfl, ?_⟩
                        rw [List.map_append, List.map_singleton, HSN.out, hsome.out]; exact hjx3
                    exact AllReadyIn.nil
                  exact AllReadyIn.nil
                exact AllReadyIn.nil
              refine AllReadyIn.cons rfl (fun K hK => ?_) ?_
              · go_simp
                refine hK _ _ ?_
                clear hK K
                refine wpAnyIn_ready (rs := [0]) (by kernel_rfl) (by simp) ?_
                refine AllReadyIn.cons rfl (fun K hK => ?_) ?_
                · go_simp
                  refine hK _ _ ?_
                  clear hK K
                  refine wpAnyIn_ready (rs := [5]) (by kernel_rfl) (by simp) ?_
                  refine AllReadyIn.cons rfl (fun K hK => ?_) ?_
                  · go_simp
                    refine (RoundIn.any HR.out _).mono ?_
                    rintro e W3 ⟨q, rfl, hp⟩
                    go_simp
                    refine hK _ _ ?_
                    clear hK K
                    refine wpAnyIn_ready (rs := [6]) (by kernel_rfl) (by simp) ?_
                    refine AllReadyIn.cons rfl (fun K hK => ?_) ?_
                    · go_simp
                      refine hK _ _ ?_
                      clear hK K
                      refine wpAnyIn_done (by kernel_rfl) ?_ _
                      rcases hp with ⟨rfl, hj3, hkt, hkf⟩ | ⟨rfl, hjx3, hkf⟩
                      · gi_wp2
                        refine ⟨⟨hkf.size, fun k o hk => hkf.same k o (by omega)⟩, ⟨(Below.refl _ W1).drew.trans hkt.below, (hkt.t 85 (by simp)).same⟩, ?_, ?_, HB1.out.trans ((Below.refl _ W1).drew.trans hkt.below)⟩
                        · rw [List.map_append, List.map_singleton, HSN.out, hsome.out]; exact hj3
                        · exact (hkt.same 77 (by simp) _ ⟨_, _, HBX.out⟩).trans HBX.out
                      · gi_wp2
                        refine ⟨⟨hkf.size, fun k o hk => hkf.same k o (by omega)⟩, rfl, ?_⟩
                        rw [List.map_append, List.map_singleton, HSN.out, hsome.out]; exact hjx3
                    exact AllReadyIn.nil
                  exact AllReadyIn.nil
                exact AllReadyIn.nil
              exact AllReadyIn.nil
            exact AllReadyIn.nil
          exact AllReadyIn.nil
        exact AllReadyIn.nil
    · have hnone : Hid (areaD x.1.1.d = none) := Lib.hid (by unfold areaD; rw [if_neg hk])
      have k1 : (x.1.1.d.kind == 1) = false := by simp; omega
      have k3 : (x.1.1.d.kind == 3) = false := by simp; omega
      have k2 : (x.1.1.d.kind == 2) = false := by simp; omega
      clear hk hy' c8 c9 c10 c11 c12 c13 c14 c15 c16 c17 c18 c19
      gi_wp2
      refine ⟨KeepsFrom.refl _ _, KeepT.refl _ _ _, ?_, HBX.out, HB1.out⟩
      rw [List.map_append, List.map_singleton, HSN.out, hnone.out]
      simpa using HJ1.out
  case done =>
    rintro D xs W1 hD hS ⟨hj, -, hb1⟩ hK
    have hj' : J (areasP (a.items 1)) (W1.putObj D (.deferred none)) := by
      have := hj
      rw [hS] at this
      exact (HJ.out.mono (by omega : W.heap.size ≤ W0.heap.size)).own.putObj _ this hD hK rfl
    have HJD := Lib.hid hj'
    have HK := Lib.hid hK
    clear hj hj' hK hS hb1
    gi_wp2
    refine ⟨by simp, .inl ⟨_, _, rfl, run_takeDeferred HK.out, ?_⟩⟩
    exact ⟨.tuple #[], by simp [results, Tryd.results34, go_sem], ⟨_, rfl⟩, .inl ⟨_, rfl, HJD.out⟩⟩
  case stop =>
    rintro D c pre W1 hD hSp ⟨rfl, hjx⟩ hK
    have hj' : Jx (areasP (pre.map (·.1))) (W1.putObj D (.deferred none)) := (HJx.out.mono (by omega : W.heap.size ≤ W0.heap.size)).own.putObj _ hjx hD hK rfl
    have HJD := Lib.hid hj'
    have HK := Lib.hid hK
    have HSP := Lib.hid hSp
    clear hjx hj' hK hSp
    gi_wp2
    refine ⟨by simp, .inl ⟨_, _, rfl, run_takeDeferred HK.out, ?_⟩⟩
    exact ⟨.tuple #[], by simp [results, Tryd.results34, go_sem], ⟨_, rfl⟩, .inr ⟨_, HSP.out.filterMap _, HJD.out⟩⟩
end Go.Proofs.YtggpffipijoddaaDoor
namespace Go.Proofs.YtggpffipijoddaaDoor.Zz
open Go.RowKit Go.Shelf Go.Proofs.YtggpffipijoddaaDoor
attribute [local go_sem] Oper.semAt_some

/-- where the ranging stands. -/
def AInv {w : World} {B : Nat → Prop} {M : Nat} {p : AT → Prop} (T b l : Nat) (w0 : World) (J : List (Cn × Cn) → World → Prop) (pre : List (Itm w B M p)) (W : World) : Prop :=
  J (areasP (pre.map (·.1))) W ∧ Boxed W b T (.func (.yield l) #[] #[]) ∧ ZB B w0 W
theorem AInv.ab {w : World} {B : Nat → Prop} {M : Nat} {p : AT → Prop} {T b l B' : Nat} {U : List TypeId} {w0 : World} {J : List (Cn × Cn) → World → Prop} (hJ : AbidesN U B' J) (hb : b < B') (hB : ∀ k, B k → k < B') : AbidesN U B' (fun (pre : List (Itm w B M p)) W => AInv T b l w0 J pre W) :=
  fun s W W' row h hg hr => ⟨hJ _ W W' row h.1 hg hr, h.2.1.kept hg (fun e => by have := (hr b e.symm).1; omega), h.2.2.grown hg (fun k e hz => by have h1 := (hr k e).1; have h2 := hB k hz; omega)⟩

def AStop {w : World} {B : Nat → Prop} {M : Nat} {p : AT → Prop} (Jx : List (Cn × Cn) → World → Prop) (c : Code) (pre : List (Itm w B M p)) (W : World) : Prop := c = .ret ∧ Jx (areasP (pre.map (·.1))) W
theorem AStop.ab {w : World} {B : Nat → Prop} {M : Nat} {p : AT → Prop} {U : List TypeId} {B' : Nat} {Jx : List (Cn × Cn) → World → Prop} (hJ : AbidesN U B' Jx) (c : Code) : AbidesN U B' (fun (pre : List (Itm w B M p)) W => AStop Jx c pre W) :=
  fun _ W W' row h hg hr => ⟨h.1, hJ _ W W' row h.2 hg hr⟩

set_option maxRecDepth 100000 in
set_option maxHeartbeats 2000000 in
theorem areas1_seq (w : World) (n₀ : Nat → Prop) (a : AT) (hat : ATAt w n₀ a) (hn₀ : ∀ k, n₀ k → k < w.heap.size) (hsz : a.tr.size ≤ 1099511627776) :
    SeqN [85, 77] n₀ Tryd.prog 34 #[.pointer (some ⟨a.b, a.o, none⟩)] encA (fun xs => xs = areasP (a.items 1)) (fun pre => pre <+: areasP (a.items 1)) a.tr.size w := by
  intro l J Jx W hW hJ hJx hY h0
  have HJ := Lib.hid hJ
  have HJx := Lib.hid hJx
  have HY := Lib.hid hY
  have H0 := Lib.hid h0
  have HW := Lib.hid hW
  clear hJ hJx hY h0 hW
  refine callsIn_wide (n := 5) |>.1 ?_
  refine callsIn_of_wp_marks Tryd.func34 rfl trivial ?_ rfl
  simp only [Tryd.ntmps34, List.size_toArray, List.length_cons, List.length_nil, Nat.reduceAdd, Nat.reduceSub, Array.replicate_succ, Array.replicate_zero, List.push_toArray, List.append_toArray, List.nil_append, List.cons_append]
  have hf27 : Fence.wide.fn 27 := trivial
  gi_wp2_with (gi_at_call 27; refine (walk_opens 4 _ _).mono ?_; rintro e w' ⟨rfl, rfl⟩)
  obtain ⟨W0, hW0⟩ : ∃ W0, W0 = (W.alloc (.cells #[.func (.yield l) #[] #[]] 77)).alloc (.cells #[.pointer (some ⟨a.b, a.o, none⟩)] 60) := ⟨_, rfl⟩
  have hsW := HW.out.size
  have hsz0 : W0.heap.size = W.heap.size + 2 := by rw [hW0]; simp
  have hbel0 : Below W.heap.size W W0 := by rw [hW0]; exact ((Below.refl _ _).alloc (Nat.le_refl _) _).alloc (by simp) _
  have hJ0 : J [] W0 := by rw [hW0]; exact HJ.out.alloc _ (HJ.out.alloc _ H0.out)
  have hbx : Boxed W0 W.heap.size 77 (.func (.yield l) #[] #[]) := by rw [hW0]; exact (Boxed.new W _ _).alloc _
  have hc1 : W0.cell? ⟨W.heap.size + 1, 0, none⟩ = some (.pointer (some ⟨a.b, a.o, none⟩)) := by
    rw [hW0]
    have := heap_alloc_new (W.alloc (.cells #[.func (.yield l) #[] #[]] 77)) (.cells #[.pointer (some ⟨a.b, a.o, none⟩)] 60)
    rw [World.size_alloc] at this
    exact cell_of_row _ _ 0 _ _ _ this
  have hat0 : ATAt W0 n₀ a := hat.below hn₀ (ZB.of_below (HW.out.trans (hbel0.mono hsW)) hn₀)
  rw [← hW0]
  clear hW0
  refine range_T (n := 5) (T := 85) (n₀ := n₀) rfl (by omega) (gf := 40) (lb := #[.pointer (some ⟨W.heap.size + 1, 0, none⟩)]) rfl trivial (enters_of Tryd.func40 (by kernel_rfl) rfl)
    (walk_seq 4 W0 (W.heap.size + 1) n₀ a.tr.size (fun _ => True) (fun _ _ _ _ => trivial) ⟨(a, 1), hat0, a.tr.size_pos, trivial⟩ (fun k hk => by have := hn₀ k hk; omega) (by omega) hc1 (by rw [AT.items_len]; exact Nat.le_refl _) rfl hsz)
    (fun k hk => by have := hn₀ k hk; omega) (Below.refl _ _) (fun _ => rfl)
    (fun pre W' => AInv 77 W.heap.size l W0 J pre W')
    (fun c pre W' => AStop Jx c pre W')
    (AInv.ab (HJ.out.mono (by omega)) (by omega) (fun k hk => by have := hn₀ k hk; omega)).own ((AInv.ab (HJ.out.mono (by omega)) (by omega) (fun k hk => by have := hn₀ k hk; omega)).t _ (by simp))
    (fun c => (AStop.ab (HJx.out.mono (by omega)) c).own) (fun c => (AStop.ab (HJx.out.mono (by omega)) c).t _ (by simp))
    ⟨hJ0, hbx, ZB.refl _ _⟩
    (fun x a' _ => a' = { tmps := #[.func (.yield l) #[] #[], .pointer (some ⟨a.b, a.o, none⟩), .pointer (some ⟨W.heap.size, 0, none⟩), .pointer (some ⟨x.1.1.b, x.1.1.o, none⟩), .func (.func 40) #[] #[.pointer (some ⟨W.heap.size + 1, 0, none⟩)], .pointer (some ⟨x.1.1.b, x.1.1.o, none⟩), .int .i64 x.1.2, undef, undef, undef, undef, undef, undef, undef, undef, undef, undef, undef, undef, undef, undef, undef], defers := [] })
    (fun _ _ => ownFrom_pure _ _) ?assign ?body ?done ?stop
  case assign =>
    intro l pre x W K hI hK
    dsimp only [Itm.encs]
    gi_wp2
    exact hK _ _ (KeepsFrom.refl _ _) (KeepT.refl _ _ _) hI (by simp)
  case body =>
    rintro l' pre x a' W1 hl - ⟨hj, hbx1, hb1⟩ rfl hlt
    obtain ⟨hxb, xA, xc, hxc, -, -, -⟩ := x.2.1.cells_ (fun k hk => by have := hn₀ k hk; omega) hb1
    have hall := hxc.all
    obtain ⟨c0, c1, c2, c3, c4, c5, c6, c7, c8, c9, c10, c11, c12, c13, c14, c15, c16, c17, c18, c19, c20, c21⟩ := hall
    have hsn := areasP_snoc (pre.map (·.1)) x.1
    have hpl : (areasP (pre.map (·.1))).length < a.tr.size := by have := areasP_len (pre.map (·.1)); simp at this; omega
    have hJ1 : J (areasP (pre.map (·.1))) W1.drew := HJ.out _ _ _ none hj (grown_drew _ _) (fun r e => by cases e)
    obtain ⟨fn, tmps, asg, bdy, hy, hR⟩ := HY.out _ (x.1.1.d.a, x.1.1.d.b) _ hJ1 hpl
    have hy' : (Instr.yield l #[.agg #[.int .i64 x.1.1.d.a.ra, .int .i64 x.1.1.d.a.rn, .int .i64 x.1.1.d.a.ca, .int .i64 x.1.1.d.a.cn, .bool x.1.1.d.a.fr, .bool x.1.1.d.a.fc, .int .i64 x.1.1.d.b.ra, .int .i64 x.1.1.d.b.rn, .int .i64 x.1.1.d.b.ca, .int .i64 x.1.1.d.b.cn, .bool x.1.1.d.b.fr, .bool x.1.1.d.b.fc]]).run Tryd.prog W1.drew = .ok (.round l fn tmps asg bdy) W1.drew := hy
    clear hy
    have HSN := Lib.hid hsn
    have HJ1 := Lib.hid hj
    have HBX := Lib.hid hbx1
    have HB1 := Lib.hid hb1
    have hcx := hbx1.cell
    have hmix : Tryd.prog.follows .mixedOrders = true := by kernel_rfl
    clear hsn hj hb1 hJ1 hxc c1 c2 c3 c4 c5 c6 c7 c20 c21 hbx1
    have hR' : RoundIn Fence.wide 0 Tryd.prog l fn tmps asg bdy W1.drew fun e W' => ∃ q : Bool, e = .returned (.bool q) ∧ ((q = true ∧ J (areasP (pre.map (·.1)) ++ [(x.1.1.d.a, x.1.1.d.b)]) W' ∧ KeepTs n₀ [85, 77] W1.drew W' ∧ KeepsFrom W.heap.size W1.drew W') ∨ (q = false ∧ Jx (areasP (pre.map (·.1)) ++ [(x.1.1.d.a, x.1.1.d.b)]) W' ∧ KeepsFrom W.heap.size W1.drew W')) :=
      hR.mono (fun e W' h => h.elim (fun h => ⟨true, h.1, .inl ⟨rfl, h.2⟩⟩) (fun h => ⟨false, h.1, .inr ⟨rfl, h.2⟩⟩))
    have HR := Lib.hid hR'
    clear hR hR'
    by_cases hk : x.1.1.d.kind = 1 ∨ x.1.1.d.kind = 3 ∨ x.1.1.d.kind = 2
    · have hsome : Hid (areaD x.1.1.d = some (x.1.1.d.a, x.1.1.d.b)) := Lib.hid (by unfold areaD; rw [if_pos hk])
      gi_wp2
      all_goals
        refine wpIn_region_any (by assumption) ?_
        change wpAnyIn _ _ _ _ _ _ _ _ _ (World.drew _)
        refine wpAnyIn_ready (rs := [0, 1]) (by kernel_rfl) (by simp) ?_
        refine AllReadyIn.cons rfl (fun K hK => ?_) ?_
        · go_simp
          refine hK _ _ ?_
          clear hK K
          refine wpAnyIn_ready (rs := [1]) (by kernel_rfl) (by simp) ?_
          refine AllReadyIn.cons rfl (fun K hK => ?_) ?_
          · go_simp
            refine hK _ _ ?_
            clear hK K
            refine wpAnyIn_ready (rs := [2]) (by kernel_rfl) (by simp) ?_
            refine AllReadyIn.cons rfl (fun K hK => ?_) ?_
            · go_simp
              refine hK _ _ ?_
              clear hK K
              refine wpAnyIn_ready (rs := [3]) (by kernel_rfl) (by simp) ?_
              refine AllReadyIn.cons rfl (fun K hK => ?_) ?_
              · go_simp
                refine hK _ _ ?_
                clear hK K
                refine wpAnyIn_ready (rs := [4]) (by kernel_rfl) (by simp) ?_
                refine AllReadyIn.cons rfl (fun K hK => ?_) ?_
                · go_simp
                  refine hK _ _ ?_
                  clear hK K
                  refine wpAnyIn_ready (rs := [5]) (by kernel_rfl) (by simp) ?_
                  refine AllReadyIn.cons rfl (fun K hK => ?_) ?_
                  · go_simp
                    refine (RoundIn.any HR.out _).mono ?_
                    rintro e W3 ⟨q, rfl, hp⟩
                    go_simp
                    refine hK _ _ ?_
                    clear hK K
                    refine wpAnyIn_ready (rs := [6]) (by kernel_rfl) (by simp) ?_
                    refine AllReadyIn.cons rfl (fun K hK => ?_) ?_
                    · go_simp
                      refine hK _ _ ?_
                      clear hK K
                      refine wpAnyIn_done (by kernel_rfl) ?_ _
                      rcases hp with ⟨rfl, hj3, hkt, hkf⟩ | ⟨rfl, hjx3, hkf⟩
                      · gi_wp2
                        refine ⟨⟨hkf.size, fun k o hk => hkf.same k o (by omega)⟩, ⟨(ZB.refl _ W1).drew.trans hkt.below, (hkt.t 85 (by simp)).same⟩, ?_, ?_, HB1.out.trans ((ZB.refl _ W1).drew.trans hkt.below)⟩
                        · rw [List.map_append, List.map_singleton, HSN.out, hsome.out]; exact hj3
                        · exact (hkt.same 77 (by simp) _ ⟨_, _, HBX.out⟩).trans HBX.out
                      · gi_wp2
                        refine ⟨⟨hkf.size, fun k o hk => hkf.same k o (by omega)⟩, rfl, ?_⟩
                        rw [List.map_append, List.map_singleton, HSN.out, hsome.out]; exact hjx3
                    exact AllReadyIn.nil
                  exact AllReadyIn.nil
                exact AllReadyIn.nil
              exact AllReadyIn.nil
            exact AllReadyIn.nil
          exact AllReadyIn.nil
        refine AllReadyIn.cons rfl (fun K hK => ?_) ?_
        · go_simp
          refine hK _ _ ?_
          clear hK K
          refine wpAnyIn_ready (rs := [0, 2]) (by kernel_rfl) (by simp) ?_
          refine AllReadyIn.cons rfl (fun K hK => ?_) ?_
          · go_simp
            refine hK _ _ ?_
            clear hK K
            refine wpAnyIn_ready (rs := [2]) (by kernel_rfl) (by simp) ?_
            refine AllReadyIn.cons rfl (fun K hK => ?_) ?_
            · go_simp
              refine hK _ _ ?_
              clear hK K
              refine wpAnyIn_ready (rs := [3]) (by kernel_rfl) (by simp) ?_
              refine AllReadyIn.cons rfl (fun K hK => ?_) ?_
              · go_simp
                refine hK _ _ ?_
                clear hK K
                refine wpAnyIn_ready (rs := [4]) (by kernel_rfl) (by simp) ?_
                refine AllReadyIn.cons rfl (fun K hK => ?_) ?_
                · go_simp
                  refine hK _ _ ?_
                  clear hK K
                  refine wpAnyIn_ready (rs := [5]) (by kernel_rfl) (by simp) ?_
                  refine AllReadyIn.cons rfl (fun K hK => ?_) ?_
                  · go_simp
                    refine (RoundIn.any HR.out _).mono ?_
                    rintro e W3 ⟨q, rfl, hp⟩
                    go_simp
                    refine hK _ _ ?_
                    clear hK K
                    refine wpAnyIn_ready (rs := [6]) (by kernel_rfl) (by simp) ?_
                    refine AllReadyIn.cons rfl (fun K hK => ?_) ?_
                    · go_simp
                      refine hK _ _ ?_
                      clear hK K
                      refine wpAnyIn_done (by kernel_rfl) ?_ _
                      rcases hp with ⟨rfl, hj3, hkt, hkf⟩ | ⟨rfl, hjx3, hkf⟩
                      · gi_wp2
                        refine ⟨⟨hkf.size, fun k o hk => hkf.same k o (by omega)⟩, ⟨(ZB.refl _ W1).drew.trans hkt.below, (hkt.t 85 (by simp)).same⟩, ?_, ?_, HB1.out.trans ((ZB.refl _ W1).drew.trans hkt.below)⟩
                        · rw [List.map_append, List.map_singleton, HSN.out, hsome.out]; exact hj3
                        · exact (hkt.same 77 (by simp) _ ⟨_, _, HBX.out⟩).trans HBX.out
                      · gi_wp2
                        refine ⟨⟨hkf.size, fun k o hk => hkf.same k o (by omega)⟩, rfl, ?_⟩
                        rw [List.map_append, List.map_singleton, HSN.out, hsome.out]; exact hjx3
                    exact AllReadyIn.nil
                  exact AllReadyIn.nil
                exact AllReadyIn.nil
              exact AllReadyIn.nil
            exact AllReadyIn.nil
          refine AllReadyIn.cons rfl (fun K hK => ?_) ?_
          · go_simp
            refine hK _ _ ?_
            clear hK K
            refine wpAnyIn_ready (rs := [0, 3]) (by kernel_rfl) (by simp) ?_
            refine AllReadyIn.cons rfl (fun K hK => ?_) ?_
            · go_simp
              refine hK _ _ ?_
              clear hK K
              refine wpAnyIn_ready (rs := [3]) (by kernel_rfl) (by simp) ?_
              refine AllReadyIn.cons rfl (fun K hK => ?_) ?_
              · go_simp
                refine hK _ _ ?_
                clear hK K
                refine wpAnyIn_ready (rs := [4]) (by kernel_rfl) (by simp) ?_
                refine AllReadyIn.cons rfl (fun K hK => ?_) ?_
                · go_simp
                  refine hK _ _ ?_
                  clear hK K
                  refine wpAnyIn_ready (rs := [5]) (by kernel_rfl) (by simp) ?_
                  refine AllReadyIn.cons rfl (fun K hK => ?_) ?_
                  · go_simp
                    refine (RoundIn.any HR.out _).mono ?_
                    rintro e W3 ⟨q, rfl, hp⟩
                    go_simp
                    refine hK _ _ ?_
                    clear hK K
                    refine wpAnyIn_ready (rs := [6]) (by kernel_rfl) (by simp) ?_
                    refine AllReadyIn.cons rfl (fun K hK => ?_) ?_
                    · go_simp
                      refine hK _ _ ?_
                      clear hK K
                      refine wpAnyIn_done (by kernel_rfl) ?_ _
                      rcases hp with ⟨rfl, hj3, hkt, hkf⟩ | ⟨rfl, hjx3, hkf⟩
                      · gi_wp2
                        refine ⟨⟨hkf.size, fun k o hk => hkf.same k o (by omega)⟩, ⟨(ZB.refl _ W1).drew.trans hkt.below, (hkt.t 85 (by simp)).same⟩, ?_, ?_, HB1.out.trans ((ZB.refl _ W1).drew.trans hkt.below)⟩
                        · rw [List.map_append, List.map_singleton, HSN.out, hsome.out]; exact hj3
                        · exact (hkt.same 77 (by simp) _ ⟨_, _, HBX.out⟩).trans HBX.out
                      · gi_wp2
                        refine ⟨⟨hkf.size, fun k o hk => hkf.same k o (by omega)⟩, rfl, ?_⟩
                        rw [List.map_append, List.map_singleton, HSN.out, hsome.out]; exact hjx3
                    exact AllReadyIn.nil
                  exact AllReadyIn.nil
                exact AllReadyIn.nil
              exact AllReadyIn.nil
            refine AllReadyIn.cons rfl (fun K hK => ?_) ?_
            · go_simp
              refine hK _ _ ?_
              clear hK K
              refine wpAnyIn_ready (rs := [0, 4]) (by kernel_rfl) (by simp) ?_
              refine AllReadyIn.cons rfl (fun K hK => ?_) ?_
              · go_simp
                refine hK _ _ ?_
                clear hK K
                refine wpAnyIn_ready (rs := [4]) (by kernel_rfl) (by simp) ?_
                refine AllReadyIn.cons rfl (fun K hK => ?_) ?_
                · go_simp
                  refine hK _ _ ?_
                  clear hK K
                  refine wpAnyIn_ready (rs := [5]) (by kernel_rfl) (by simp) ?_
                  refine AllReadyIn.cons rfl (fun K hK => ?_) ?_
                  · go_simp
                    refine (RoundIn.any HR.out _).mono ?_
                    rintro e W3 ⟨q, rfl, hp⟩
                    go_simp
                    refine hK _ _ ?_
                    clear hK K
                    refine wpAnyIn_ready (rs := [6]) (by kernel_rfl) (by simp) ?_
                    refine AllReadyIn.cons rfl (fun K hK => ?_) ?_
                    · go_simp
                      refine hK _ _ ?_
                      clear hK K
                      refine wpAnyIn_done (by kernel_rfl) ?_ _
                      rcases hp with ⟨rfl, hj3, hkt, hkf⟩ | ⟨rfl, hjx3, hkf⟩
                      · gi_wp2
                        refine ⟨⟨hkf.size, fun k o hk => hkf.same k o (by omega)⟩, ⟨(ZB.refl _ W1).drew.trans hkt.below, (hkt.t 85 (by simp)).same⟩, ?_, ?_, HB1.out.trans ((ZB.refl _ W1).drew.trans hkt.below)⟩
                        · rw [List.map_append, List.map_singleton, HSN.out, hsome.out]; exact hj3
                        · exact (hkt.same 77 (by simp) _ ⟨_, _, HBX.out⟩).trans HBX.out
                      · gi_wp2
                        refine ⟨⟨hkf.size, fun k o hk => hkf.same k o (by omega)⟩, rfl, ?_⟩
                        rw [List.map_append, List.map_singleton, HSN.out, hsome.out]; exact hjx3
                    exact AllReadyIn.nil
                  exact AllReadyIn.nil
                exact AllReadyIn.nil
              refine AllReadyIn.cons rfl (fun K hK => ?_) ?_
              · go_simp
                refine hK _ _ ?_
                clear hK K
                refine wpAnyIn_ready (rs := [0]) (by kernel_rfl) (by simp) ?_
                refine AllReadyIn.cons rfl (fun K hK => ?_) ?_
                · go_simp
                  refine hK _ _ ?_
                  clear hK K
                  refine wpAnyIn_ready (rs := [5]) (by kernel_rfl) (by simp) ?_
                  refine AllReadyIn.cons rfl (fun K hK => ?_) ?_
                  · go_simp
                    refine (RoundIn.any HR.out _).mono ?_
                    rintro e W3 ⟨q, rfl, hp⟩
                    go_simp
                    refine hK _ _ ?_
                    clear hK K
                    refine wpAnyIn_ready (rs := [6]) (by kernel_rfl) (by simp) ?_
                    refine AllReadyIn.cons rfl (fun K hK => ?_) ?_
                    · go_simp
                      refine hK _ _ ?_
                      clear hK K
                      refine wpAnyIn_done (by kernel_rfl) ?_ _
                      rcases hp with ⟨rfl, hj3, hkt, hkf⟩ | ⟨rfl, hjx3, hkf⟩
                      · gi_wp2
                        refine ⟨⟨hkf.size, fun k o hk => hkf.same k o (by omega)⟩, ⟨(ZB.refl _ W1).drew.trans hkt.below, (hkt.t 85 (by simp)).same⟩, ?_, ?_, HB1.out.trans ((ZB.refl _ W1).drew.trans hkt.below)⟩
                        · rw [List.map_append, List.map_singleton, HSN.out, hsome.out]; exact hj3
                        · exact (hkt.same 77 (by simp) _ ⟨_, _, HBX.out⟩).trans HBX.out
                      · gi_wp2
                        refine ⟨⟨hkf.size, fun k o hk => hkf.same k o (by omega)⟩, rfl, ?_⟩
                        rw [List.map_append, List.map_singleton, HSN.out, hsome.out]; exact hjx3
                    exact AllReadyIn.nil
                  exact AllReadyIn.nil
                exact AllReadyIn.nil
              exact AllReadyIn.nil
            exact AllReadyIn.nil
          exact AllReadyIn.nil
        exact AllReadyIn.nil
    · have hnone : Hid (areaD x.1.1.d = none) := Lib.hid (by unfold areaD; rw [if_neg hk])
      have k1 : (x.1.1.d.kind == 1) = false := by simp; omega
      have k3 : (x.1.1.d.kind == 3) = false := by simp; omega
      have k2 : (x.1.1.d.kind == 2) = false := by simp; omega
      clear hk hy' c8 c9 c10 c11 c12 c13 c14 c15 c16 c17 c18 c19
      gi_wp2
      refine ⟨KeepsFrom.refl _ _, KeepT.refl _ _ _, ?_, HBX.out, HB1.out⟩
      rw [List.map_append, List.map_singleton, HSN.out, hnone.out]
      simpa using HJ1.out
  case done =>
    rintro D xs W1 hD hS ⟨hj, -, hb1⟩ hK
    have hj' : J (areasP (a.items 1)) (W1.putObj D (.deferred none)) := by
      have := hj
      rw [hS] at this
      exact (HJ.out.mono (by omega : W.heap.size ≤ W0.heap.size)).own.putObj _ this hD hK rfl
    have HJD := Lib.hid hj'
    have HK := Lib.hid hK
    clear hj hj' hK hS hb1
    gi_wp2
    refine ⟨by simp, .inl ⟨_, _, rfl, run_takeDeferred HK.out, ?_⟩⟩
    exact ⟨.tuple #[], by simp [results, Tryd.results34, go_sem], ⟨_, rfl⟩, .inl ⟨_, rfl, HJD.out⟩⟩
  case stop =>
    rintro D c pre W1 hD hSp ⟨rfl, hjx⟩ hK
    have hj' : Jx (areasP (pre.map (·.1))) (W1.putObj D (.deferred none)) := (HJx.out.mono (by omega : W.heap.size ≤ W0.heap.size)).own.putObj _ hjx hD hK rfl
    have HJD := Lib.hid hj'
    have HK := Lib.hid hK
    have HSP := Lib.hid hSp
    clear hjx hj' hK hSp
    gi_wp2
    refine ⟨by simp, .inl ⟨_, _, rfl, run_takeDeferred HK.out, ?_⟩⟩
    exact ⟨.tuple #[], by simp [results, Tryd.results34, go_sem], ⟨_, rfl⟩, .inr ⟨_, HSP.out.filterMap _, HJD.out⟩⟩
end Go.Proofs.YtggpffipijoddaaDoor.Zz
