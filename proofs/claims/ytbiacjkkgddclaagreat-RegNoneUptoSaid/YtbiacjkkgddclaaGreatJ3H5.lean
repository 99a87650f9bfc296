/- What is hidden: a map of ids to bool; Shown's closure. Ids sorted: the plain side; rows of ids under the library's sort. -/
import Derived.Test.YtbiacjkkgddclaaGreatG1G2H2H9G5
import Derived.Test.YtbiacjkkgddclaaGreatI4I5I6
import Derived.Maps.OwnSet
import Derived.Test.YtbiacjkkgddclaaGreatH4H8Cl
import Derived.Test.YtbiacjkkgddclaaGreatPfMgKzG3
import Derived.Shelf.SlSortCmp.InsertionK
namespace Go.Proofs.YtbiacjkkgddclaaGreat
set_option linter.unusedSimpArgs false
set_option linter.unusedVariables false
open Go Go.RowKit Go.Shelf Go.Maps

/-- how a bool in a map reads: as it is. -/
def heldB : Value → Option (DataW Value × List MemPlace)
  | .bool b => some (.held (.bool b), [])
  | _ => none
theorem heldB_inv {v : Value} {b : Bool} {ps : List MemPlace} (h : heldB v = some (.held (.bool b), ps)) : v = .bool b := by
  unfold heldB at h
  split at h
  · simp only [Option.some.injEq, Prod.mk.injEq] at h
    injection h.1
  · cases h
theorem undMb : Tryz.prog.underlying 82 = some (.map 28 4) := by kernel_rfl
theorem mk_mapH (w : World) : (Instr.makeMap 82 none).run Tryz.prog w = .ok (.map (some w.heap.size)) (w.alloc (.map #[] 0)) := by kernel_rfl
theorem zero_bl (W : World) : (zeroValue 4).run Tryz.prog W = .ok (.bool false) W := by kernel_rfl
theorem ik_isLit {a : Ik} (h : a.ok) : WideAt.IsKeyLit a.key := ik_law.key (ik_key a h)
/-- the ids that are hidden, in a map behind a variable. -/
structure HidM (W : World) (hb hm n : Nat) (S : List Ik) : Prop where
  box : W.heap[hb]? = some (.cells #[.map (some hm)] 82)
  own : ∃ D, W.ownsMap Tryz.prog 28 heldB hm n D ∧ Tidy D ∧ ∀ a : Ik, a.ok → D.atKey a.key (.held (.bool false)) = .held (.bool (decide (a ∈ S)))
theorem HidM.ne {W : World} {hb hm n : Nat} {S : List Ik} (h : HidM W hb hm n S) : hb < W.heap.size ∧ hm < W.heap.size ∧ hb ≠ hm := by
  obtain ⟨D, ho, -⟩ := h.own
  have h1 := (Array.getElem?_eq_some_iff.1 h.box).1
  refine ⟨h1, ho.lt, fun e => ?_⟩
  obtain ⟨es, clock, e1, -⟩ := ho
  have := h.box
  rw [e, e1] at this
  cases this
theorem HidM.same {W W' : World} {hb hm n : Nat} {S : List Ik} (h : HidM W hb hm n S) (h1 : W'.heap[hb]? = W.heap[hb]?) (h2 : W'.heap[hm]? = W.heap[hm]?) : HidM W' hb hm n S := by
  refine ⟨h1.trans h.box, ?_⟩
  obtain ⟨D, ho, ht⟩ := h.own
  obtain ⟨es, clock, e1, e2⟩ := ho
  exact ⟨D, ⟨es, clock, h2.trans e1, e2⟩, ht⟩
theorem HidM.below {W W' : World} {hb hm n : Nat} {S : List Ik} (h : HidM W hb hm n S) (hk : Below W.heap.size W W') : HidM W' hb hm n S := h.same (hk.block _ h.ne.1) (hk.block _ h.ne.2.1)
theorem HidM.ofMap {W W' : World} {hb hm n : Nat} {S : List Ik} (h : HidM W hb hm n S) {a : Ik} (ha : a.ok) {D : DataW Value} (hD : W.ownsMap Tryz.prog 28 heldB hm n D ∧ Tidy D ∧ ∀ a : Ik, a.ok → D.atKey a.key (.held (.bool false)) = .held (.bool (decide (a ∈ S)))) (ho : W'.ownsMap Tryz.prog 28 heldB hm (n + 1) (D.put a.key (.held (.bool true)))) (hg : W.grownBy W' (some hm)) : HidM W' hb hm (n + 1) (S ++ [a]) := by
  refine ⟨(hg.block hb h.ne.1 (fun e => h.ne.2.2 (Option.some.inj e))).trans h.box, _, ho, hD.2.1.put (ik_isLit ha) _, fun x hx => ?_⟩
  by_cases e : x = a
  · subst e
    rw [atKey_put_same hD.2.1.isMap (ik_isLit hx)]
    simp
  · rw [atKey_put_other (fun e' => e (ik_inj hx ha e')), hD.2.2 x hx]
    simp [e]
theorem HidM.look {W : World} {hb hm n : Nat} {S : List Ik} (h : HidM W hb hm n S) (x : Ik) (hx : x.ok) : (Instr.lookup 82 (.map (some hm)) x.val false).run Tryz.prog W = .ok (.bool (decide (x ∈ S))) W := by
  obtain ⟨D, ho, ht, hat⟩ := h.own
  obtain ⟨v, ps, h1, h2⟩ := ho.lookup ik_law undMb (zero_bl W) (zd := .held (.bool false)) (zp := []) rfl (ik_key x hx)
  rw [hat x hx] at h2
  rw [heldB_inv h2] at h1
  exact h1
theorem HidM.start (w : World) : HidM ((w.alloc (.map #[] 0)).alloc (.cells #[.map (some w.heap.size)] 82)) (w.heap.size + 1) w.heap.size 0 [] := by
  refine ⟨?_, .map [], ?_, tidy_empty, fun a _ => by simp [DataW.atKey]⟩
  · have := heap_alloc_new (w.alloc (.map #[] 0)) (.cells #[.map (some w.heap.size)] 82)
    rwa [World.size_alloc] at this
  · exact (World.ownsMap_made (H := Value) w Tryz.prog 28 heldB).alloc _
set_option maxRecDepth 100000 in
/-- Shown's closure. -/
theorem shown1_c {w : World} {hb hm n : Nat} {S : List Ik} (h : HidM w hb hm n S) (x : Ik) (hx : x.ok) : Calls Tryz.prog 38 (#[.agg #[.int .i64 x.a, .int .i64 x.n]] ++ #[.pointer (some ⟨hb, 0, none⟩)]) w fun e w' => e = .returned (.bool (decide (x ∈ S))) ∧ Below w.heap.size w w' := by
  obtain ⟨W0, hW0⟩ : ∃ W, W = w.alloc (.cells #[.int .i64 x.a, .int .i64 x.n] 28) := ⟨_, rfl⟩
  have hbw : Below w.heap.size w W0 := by rw [hW0]; exact (bel1 _ _).1
  have hk0 : W0.heap[w.heap.size]? = some (.cells #[.int .i64 x.a, .int .i64 x.n] 28) := by rw [hW0]; exact heap_alloc_new _ _
  have hc := cell_of_row _ _ 0 _ _ _ (h.below hbw).box
  have hl := (h.below hbw).look x hx
  have hr := ik_range hk0
  have HIL := Lib.hid (show ∀ a b : Value, (Tryz.prog.info? 28).map (·.size) = some [a, b].length from fun _ _ => ikInfo)
  have HW := Lib.hid hW0
  have HR := Lib.hid hr
  have HB := Lib.hid hbw
  clear hW0 hbw hk0 hr h
  show Calls Tryz.prog 38 #[.agg #[.int .i64 x.a, .int .i64 x.n], .pointer (some ⟨hb, 0, none⟩)] w _
  generalize decide (x ∈ S) = r at hl ⊢
  obtain ⟨xa, xn⟩ := x
  dsimp only [Ik.val] at hl HR
  clear hx
  go_enter Tryz.func38, Tryz.ntmps38
  go_upto_region 1 with (fail)
  rw [← HW.out]
  go_wp2_with (first | (refine wpList_mid rfl 28 _ rfl w.heap.size 0 rfl [.int .i64 xa, .int .i64 xn] _ HR.out ikUnd rfl (HIL.out _ _) ?_) | fail)
  go_ret
  exact ⟨rfl, HB.out⟩
/-- what is hidden, as a function over ids. -/
theorem hid_fun {w : World} {hb hm n : Nat} {S : List Ik} {Z : Nat → Prop} (h : HidM w hb hm n S) (h1 : ¬ Z hb) (h2 : ¬ Z hm) : FunI w Z 38 #[.pointer (some ⟨hb, 0, none⟩)] (fun x => decide (x ∈ S)) :=
  ⟨enters_of Tryz.func38 (by kernel_rfl) rfl, fun w' x hx hk => shown1_c (h.same (hk.block hb h.ne.1 h1) (hk.block hm h.ne.2.1 h2)) x hx⟩
end Go.Proofs.YtbiacjkkgddclaaGreat
namespace Go.Proofs.YtbiacjkkgddclaaGreat
set_option linter.unusedSimpArgs false
set_option linter.unusedVariables false
open Go Go.RowKit Go.Shelf Go.Maps Go.Sort

instance : Inhabited Ik := ⟨⟨0, 0⟩⟩
theorem flatMap_get2 {α : Type} (enc : α → List Value) (h4 : ∀ x, (enc x).length = 2) : ∀ (l : List α) (j : Nat), (l.flatMap enc)[j]? = (l[j / 2]?).bind fun x => (enc x)[j % 2]?
  | [], j => by simp
  | a :: l, j => by
    rw [List.flatMap_cons]
    by_cases h : j < 2
    · rw [List.getElem?_append_left (by rw [h4]; exact h), show j / 2 = 0 by omega, show j % 2 = j by omega]
      simp
    · rw [List.getElem?_append_right (by rw [h4]; omega), h4, flatMap_get2 enc h4 l (j - 2), show j / 2 = (j - 2) / 2 + 1 by omega, show j % 2 = (j - 2) % 2 by omega, List.getElem?_cons_succ]
theorem cs_len (a : Ik) : a.cs.length = 2 := rfl
theorem cs_one (a : Ik) : ∀ v ∈ a.cs, v.oneCell' = true := fun v hv => by
  simp only [Ik.cs, List.mem_cons, List.not_mem_nil, or_false] at hv
  rcases hv with rfl | rfl <;> rfl
theorem flat_get (l : List Ik) (j : Nat) (hj : j < l.length * 2) : (ikCells l)[j]? = some (flatK Ik.cs 2 l.toArray)[j]! := by
  rw [get_flatK Ik.cs 2 l.toArray j (by simpa using hj)]
  unfold ikCells
  rw [flatMap_get2 Ik.cs cs_len]
  have h1 : j / 2 < l.length := by omega
  have h2 : j % 2 < 2 := Nat.mod_lt j (by decide : 0 < 2)
  rw [List.getElem?_eq_getElem h1, Option.bind_some, getElem!_pos l.toArray (j / 2) (by simpa using h1)]
  simp only [List.getElem_toArray]
  rw [List.getElem?_eq_getElem (show j % 2 < (l[j / 2]).cs.length from h2), getElem!_pos (l[j / 2]).cs (j % 2) h2]
  rfl
theorem holdsK_of {w : World} {base g cap n : Nat} {xs : List Ik} (h : w.ownsRow base 28 2 (.slice (some ⟨g, 0, none⟩) n cap) n (ikCells xs)) (hn : n = xs.length) : HoldsK Ik.cs 2 w g 0 xs.toArray ∧ g < w.heap.size := by
  rcases h.2 with ⟨e, -⟩ | ⟨g', c, cur, e, e2, e3, e4, e5, e6, e7⟩
  · cases e
  · simp only [Value.slice.injEq, Option.some.injEq, Addr.mk.injEq, true_and, and_true] at e
    obtain ⟨rfl, rfl⟩ := e
    refine ⟨fun j hj => ?_, (Array.getElem?_eq_some_iff.1 e3).1⟩
    rw [size_flatK] at hj
    have hj' : j < xs.length * 2 := by simpa using hj
    have h1 := flat_get xs j hj'
    refine ⟨?_, by simp [World.frozen?, e3]⟩
    have := own_cellC h rfl j _ h1
    simpa using this
theorem ordI_bef (x y : Ik) : ordI x y < 0 ↔ bef x y := by
  unfold ordI
  split
  · simp [*]
  · split <;> simp [*]
theorem ltI (x y : Ik) : ltOf ordI x y = decide (bef x y) := by
  unfold ltOf
  rw [decide_eq_decide]
  exact ordI_bef x y
theorem swoI : SWO (ltOf ordI) where
  irrefl x := by rw [ltI]; simp [bef_irrefl]
  trans x y z h1 h2 := by rw [ltI] at *; simp only [decide_eq_true_eq] at *; exact bef_trans h1 h2
  ntrans x y z h1 h2 := by rw [ltI] at *; simp only [decide_eq_false_iff_not] at *; unfold bef at *; omega
theorem totI (x y : Ik) (h1 : (ltOf ordI) x y = false) (h2 : (ltOf ordI) y x = false) : x = y := by
  rw [ltI] at h1 h2
  simp only [decide_eq_false_iff_not] at h1 h2
  exact bef_total h1 h2
/-- the keys of a register's map, sorted, are its writes' ids in order. -/
theorem sorted_ids {w : World} {T : Nat → Prop} {D : DataW Value} {M : List Wr} (h : RepW w T D M) {xs : List Ik} (hk : KeysI D xs) : xs.mergeSort (fun x y => !(ltOf ordI) y x) = idsW M := by
  have hnd : (idsW M).Nodup := h.order.nodup
  have hp : xs.Perm (idsW M) := by
    refine (List.perm_ext_iff_of_nodup hk.1 hnd).2 fun a => ?_
    constructor
    · intro ha
      have hok := hk.2.1 a ha
      have h1 := (hk.2.2 a hok).1 ha
      rw [h.has a hok] at h1
      exact of_decide_eq_true h1
    · intro ha
      obtain ⟨m, hm, rfl⟩ := List.mem_map.1 ha
      have hok := (h.ok m hm).id
      exact (hk.2.2 _ hok).2 (by rw [h.has _ hok]; exact decide_eq_true ha)
  have tr : ∀ a b c : Ik, (!(ltOf ordI) b a) = true → (!(ltOf ordI) c b) = true → (!(ltOf ordI) c a) = true := fun a b c h1 h2 => by
    simp only [ltI, Bool.not_eq_true', decide_eq_false_iff_not] at *
    unfold bef at *; omega
  have tt : ∀ a b : Ik, ((!(ltOf ordI) b a) || (!(ltOf ordI) a b)) = true := fun a b => by
    simp only [ltI, Bool.or_eq_true, Bool.not_eq_true', decide_eq_false_iff_not]
    unfold bef; omega
  refine List.Perm.eq_of_pairwise (le := fun a b => (!(ltOf ordI) b a) = true) (fun a b _ _ h1 h2 => ?_) (List.pairwise_mergeSort tr tt xs) (List.pairwise_map.2 (h.order.imp fun hab => ?_)) ((List.mergeSort_perm xs _).trans hp)
  · simp only [ltI, Bool.not_eq_true', decide_eq_false_iff_not] at h1 h2
    exact bef_total h2 h1
  · simp only [ltI, Bool.not_eq_true', decide_eq_false_iff_not]
    intro h'
    exact bef_irrefl _ (bef_trans hab h')
theorem heap_sortedK {w : World} {g m : Nat} {os : Array Obj} {cur : Array Value} {e : TypeId} {fr : Nat × Nat} (F : Array Value) (hb : w.heap[g]? = some (.cells cur e fr)) :
    (grow (putRow id (Sort.ahead w m) g 0 F) os).heap[g]? = some (.cells (putCells id 0 F cur) e fr) := by
  have hg : g < w.heap.size := (Array.getElem?_eq_some_iff.1 hb).1
  rw [heap_grow_old _ _ (by simpa using hg)]
  simp [putRow, mapBlock, Sort.ahead, Array.getElem?_modify, hb, onCells]
theorem grownBy_sortedK {w : World} {g m : Nat} {os : Array Obj} (F : Array Value) : w.grownBy (grow (putRow id (Sort.ahead w m) g 0 F) os) (some g) := by
  refine ⟨rfl, rfl, rfl, by simp, fun k hk hne => ?_⟩
  rw [heap_grow_old _ _ (by simpa using hk)]
  have : g ≠ k := fun e => hne (by rw [e])
  simp [putRow, mapBlock, Sort.ahead, Array.getElem?_modify, this]
theorem own_sortedK {w : World} {base g cap n m : Nat} {xs ts : List Ik} {os : Array Obj} (h : w.ownsRow base 28 2 (.slice (some ⟨g, 0, none⟩) n cap) n (ikCells xs)) (hn : n = xs.length) (ht : ts.length = n) :
    (sortWorldK Ik.cs 2 w g 0 m ts.toArray os).ownsRow base 28 2 (.slice (some ⟨g, 0, none⟩) n cap) n (ikCells ts) ∧ w.grownBy (sortWorldK Ik.cs 2 w g 0 m ts.toArray os) (some g) := by
  refine ⟨?_, grownBy_sortedK _⟩
  rcases h.2 with ⟨e, -⟩ | ⟨g', c, cur, e, e2, e3, e4, e5, e6, e7⟩
  · cases e
  · simp only [Value.slice.injEq, Option.some.injEq, Addr.mk.injEq, true_and, and_true] at e
    obtain ⟨rfl, rfl⟩ := e
    have hsz : (ikCells ts).length = n * 2 := by rw [ikCells_len, ht]
    refine ⟨hsz, .inr ⟨g, cap, putCells id 0 (flatK Ik.cs 2 ts.toArray) cur, rfl, e2, heap_sortedK _ e3, e4, e5, by simp [putCells, e6], ?_⟩⟩
    apply List.ext_getElem?
    intro j
    by_cases hj : j < n * 2
    · rw [List.getElem?_take_of_lt hj, Array.getElem?_toList, flat_get ts j (by rw [ht]; exact hj)]
      have : j < cur.size := by rw [e6]; have := Nat.mul_le_mul_right 2 e4; omega
      simp [putCells, ht, hj, this]
    · rw [List.getElem?_take_eq_none (by omega), List.getElem?_eq_none (by rw [hsz]; omega)]
end Go.Proofs.YtbiacjkkgddclaaGreat
