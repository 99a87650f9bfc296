/- What a row's reading of a node gives: a tree in memory, of no more nodes than the reading's bulk. What a row's reading of a content gives. What a row's reading of writes, of ids, of a content gives. -/
import Derived.Test.YtbiacjkkgddclaaGreatRows
import Derived.Test.YtbiacjkkgddclaaGreatNdSr
import Derived.ChangeOld
import Derived.OpenShut
import Derived.ProofKit
import Derived.Test.YtbiacjkkgddclaaGreatXaNmVrVs
import Derived.Stop.Joined
import Derived.Lib.SmallJoins
import Derived.Test.YtbiacjkkgddclaaGreatI8J1J5
namespace Go.Proofs.YtbiacjkkgddclaaGreat
open Go.RowKit

section
variable {H : Type} {enc : TypeId × Value → H} {w : World} {fuel : Nat} {cs : List Value} {x : DataW H × List MemPlace}

theorem cutL (cs : List Value) (o k : Nat) : cs.drop o = (cs.drop o).take k ++ cs.drop (o + k) := by
  rw [← List.drop_drop]; exact (List.take_append_drop k (cs.drop o)).symm
theorem bulk_mem {H : Type} : ∀ (l : List (DataW H)) (d : DataW H), d ∈ l → Rows.uptoBulk d ≤ Rows.uptoBulkAll l
  | [], _, h => by cases h
  | a :: l, d, h => by
    simp only [Rows.uptoBulkAll]
    rcases List.mem_cons.1 h with rfl | h
    · omega
    · have := bulk_mem l d h; omega
theorem bulk_field (xs : List (DataW H × List MemPlace)) (i : Nat) (y : DataW H × List MemPlace) (h : xs[i]? = some y) : Rows.uptoBulk y.1 ≤ Rows.uptoBulk (DataW.agg (xs.map (·.1))) := by
  have := bulk_mem (xs.map (·.1)) y.1 (List.mem_map.2 ⟨y, List.mem_of_getElem? h, rfl⟩)
  simp only [Rows.uptoBulk]; omega
theorem get_some {α : Type} {xs : List α} {n i : Nat} (h : xs.length = n) (hi : i < n) : ∃ y, xs[i]? = some y := ⟨xs[i]'(by omega), List.getElem?_eq_getElem _⟩

theorem open_id (h : DataW.trod enc Tryz.prog w 0 (fun _ => true) true fuel 28 cs = some x) : ∃ a n : Int, cs = [.int .i64 a, .int .i64 n] ∧ i64 a ∧ i64 n := by
  obtain ⟨xs, n, rfl, rfl, hl, hxs, hf⟩ := DataW.trod_struct Tryz.underlying28 h
  have hc : Tryz.prog.cellsOf 28 = 2 := by kernel_rfl
  have h3 : Tryz.prog.cellsOf 3 = 1 := by kernel_rfl
  obtain ⟨y0, e0⟩ := get_some hxs (show 0 < 2 by omega)
  obtain ⟨y1, e1⟩ := get_some hxs (show 1 < 2 by omega)
  have f0 : DataW.trod enc Tryz.prog w 0 (fun _ => true) true n 3 ((cs.drop 0).take (Tryz.prog.cellsOf 3)) = some y0 := (hf 0 _ rfl).trans e0
  have f1 : DataW.trod enc Tryz.prog w 0 (fun _ => true) true n 3 ((cs.drop 1).take (Tryz.prog.cellsOf 3)) = some y1 := (hf 1 _ rfl).trans e1
  rw [h3] at f0 f1
  obtain ⟨a, ha, -, wa⟩ := DataW.trod_int Tryz.underlying3 f0
  obtain ⟨b, hb, -, wb⟩ := DataW.trod_int Tryz.underlying3 f1
  refine ⟨a, b, ?_, bounds_i64 wa, bounds_i64 wb⟩
  have c0 := cutL cs 0 1
  have c1 := cutL cs 1 1
  rw [ha, Nat.zero_add, List.drop_zero] at c0
  rw [hb] at c1
  rw [c0, c1, List.drop_of_length_le (by omega)]
  rfl
theorem open_num (h : DataW.trod enc Tryz.prog w 0 (fun _ => true) true fuel 24 cs = some x) : ∃ a n : Int, cs = [.int .i64 a, .int .i64 n] ∧ i64 a ∧ i64 n := by
  obtain ⟨xs, n, rfl, rfl, hl, hxs, hf⟩ := DataW.trod_struct Tryz.underlying24 h
  have hc : Tryz.prog.cellsOf 24 = 2 := by kernel_rfl
  have h3 : Tryz.prog.cellsOf 3 = 1 := by kernel_rfl
  obtain ⟨y0, e0⟩ := get_some hxs (show 0 < 2 by omega)
  obtain ⟨y1, e1⟩ := get_some hxs (show 1 < 2 by omega)
  have f0 : DataW.trod enc Tryz.prog w 0 (fun _ => true) true n 3 ((cs.drop 0).take (Tryz.prog.cellsOf 3)) = some y0 := (hf 0 _ rfl).trans e0
  have f1 : DataW.trod enc Tryz.prog w 0 (fun _ => true) true n 3 ((cs.drop 1).take (Tryz.prog.cellsOf 3)) = some y1 := (hf 1 _ rfl).trans e1
  rw [h3] at f0 f1
  obtain ⟨a, ha, -, wa⟩ := DataW.trod_int Tryz.underlying3 f0
  obtain ⟨b, hb, -, wb⟩ := DataW.trod_int Tryz.underlying3 f1
  refine ⟨a, b, ?_, bounds_i64 wa, bounds_i64 wb⟩
  have c0 := cutL cs 0 1
  have c1 := cutL cs 1 1
  rw [ha, Nat.zero_add, List.drop_zero] at c0
  rw [hb] at c1
  rw [c0, c1, List.drop_of_length_le (by omega)]
  rfl
theorem open_corner (h : DataW.trod enc Tryz.prog w 0 (fun _ => true) true fuel 30 cs = some x) : ∃ c : Cn, cs = c.cells ∧ c.ok := by
  obtain ⟨xs, n, rfl, rfl, hl, hxs, hf⟩ := DataW.trod_struct Tryz.underlying30 h
  have hc : Tryz.prog.cellsOf 30 = 6 := by kernel_rfl
  have h2 : Tryz.prog.cellsOf 28 = 2 := by kernel_rfl
  have h1 : Tryz.prog.cellsOf 4 = 1 := by kernel_rfl
  obtain ⟨y0, e0⟩ := get_some hxs (show 0 < 4 by omega)
  obtain ⟨y1, e1⟩ := get_some hxs (show 1 < 4 by omega)
  obtain ⟨y2, e2⟩ := get_some hxs (show 2 < 4 by omega)
  obtain ⟨y3, e3⟩ := get_some hxs (show 3 < 4 by omega)
  have f0 : DataW.trod enc Tryz.prog w 0 (fun _ => true) true n 28 ((cs.drop 0).take (Tryz.prog.cellsOf 28)) = some y0 := (hf 0 _ rfl).trans e0
  have f1 : DataW.trod enc Tryz.prog w 0 (fun _ => true) true n 28 ((cs.drop 2).take (Tryz.prog.cellsOf 28)) = some y1 := (hf 1 _ rfl).trans e1
  have f2 : DataW.trod enc Tryz.prog w 0 (fun _ => true) true n 4 ((cs.drop 4).take (Tryz.prog.cellsOf 4)) = some y2 := (hf 2 _ rfl).trans e2
  have f3 : DataW.trod enc Tryz.prog w 0 (fun _ => true) true n 4 ((cs.drop 5).take (Tryz.prog.cellsOf 4)) = some y3 := (hf 3 _ rfl).trans e3
  rw [h2] at f0 f1
  rw [h1] at f2 f3
  obtain ⟨ra, rn, g0, k0, k1⟩ := open_id f0
  obtain ⟨ca, cn, g1, k2, k3⟩ := open_id f1
  obtain ⟨fr, g2, -⟩ := DataW.trod_bool Tryz.underlying4 f2
  obtain ⟨fc, g3, -⟩ := DataW.trod_bool Tryz.underlying4 f3
  refine ⟨⟨ra, rn, ca, cn, fr, fc⟩, ?_, k0, k1, k2, k3⟩
  have c0 := cutL cs 0 2
  have c1 := cutL cs 2 2
  have c2 := cutL cs 4 1
  have c3 := cutL cs 5 1
  rw [g0, Nat.zero_add, List.drop_zero] at c0
  rw [g1] at c1
  rw [g2] at c2
  rw [g3] at c3
  rw [c0, c1, c2, c3, List.drop_of_length_le (by omega)]
  rfl
theorem open_area (h : DataW.trod enc Tryz.prog w 0 (fun _ => true) true fuel 32 cs = some x) : ∃ a b : Cn, cs = a.cells ++ b.cells ∧ a.ok ∧ b.ok := by
  obtain ⟨xs, n, rfl, rfl, hl, hxs, hf⟩ := DataW.trod_struct Tryz.underlying32 h
  have hc : Tryz.prog.cellsOf 32 = 12 := by kernel_rfl
  have h6 : Tryz.prog.cellsOf 30 = 6 := by kernel_rfl
  obtain ⟨y0, e0⟩ := get_some hxs (show 0 < 2 by omega)
  obtain ⟨y1, e1⟩ := get_some hxs (show 1 < 2 by omega)
  have f0 : DataW.trod enc Tryz.prog w 0 (fun _ => true) true n 30 ((cs.drop 0).take (Tryz.prog.cellsOf 30)) = some y0 := (hf 0 _ rfl).trans e0
  have f1 : DataW.trod enc Tryz.prog w 0 (fun _ => true) true n 30 ((cs.drop 6).take (Tryz.prog.cellsOf 30)) = some y1 := (hf 1 _ rfl).trans e1
  rw [h6] at f0 f1
  obtain ⟨a, g0, k0⟩ := open_corner f0
  obtain ⟨b, g1, k1⟩ := open_corner f1
  refine ⟨a, b, ?_, k0, k1⟩
  have c0 := cutL cs 0 6
  have c1 := cutL cs 6 6
  rw [g0, Nat.zero_add, List.drop_zero] at c0
  rw [g1] at c1
  rw [c0, c1, List.drop_of_length_le (by omega), List.append_nil]
theorem open_value (h : DataW.trod enc Tryz.prog w 0 (fun _ => true) true fuel 26 cs = some x) : ∃ v : Vl, cs = v.cells ∧ v.ok ∧ v.text.size ≤ Rows.uptoBulk x.1 := by
  obtain ⟨xs, n, rfl, rfl, hl, hxs, hf⟩ := DataW.trod_struct Tryz.underlying26 h
  have hc : Tryz.prog.cellsOf 26 = 6 := by kernel_rfl
  have h3 : Tryz.prog.cellsOf 3 = 1 := by kernel_rfl
  have h2 : Tryz.prog.cellsOf 24 = 2 := by kernel_rfl
  have h9 : Tryz.prog.cellsOf 9 = 1 := by kernel_rfl
  have h1 : Tryz.prog.cellsOf 4 = 1 := by kernel_rfl
  obtain ⟨y0, e0⟩ := get_some hxs (show 0 < 5 by omega)
  obtain ⟨y1, e1⟩ := get_some hxs (show 1 < 5 by omega)
  obtain ⟨y2, e2⟩ := get_some hxs (show 2 < 5 by omega)
  obtain ⟨y3, e3⟩ := get_some hxs (show 3 < 5 by omega)
  obtain ⟨y4, e4⟩ := get_some hxs (show 4 < 5 by omega)
  have f0 : DataW.trod enc Tryz.prog w 0 (fun _ => true) true n 3 ((cs.drop 0).take (Tryz.prog.cellsOf 3)) = some y0 := (hf 0 _ rfl).trans e0
  have f1 : DataW.trod enc Tryz.prog w 0 (fun _ => true) true n 24 ((cs.drop 1).take (Tryz.prog.cellsOf 24)) = some y1 := (hf 1 _ rfl).trans e1
  have f2 : DataW.trod enc Tryz.prog w 0 (fun _ => true) true n 9 ((cs.drop 3).take (Tryz.prog.cellsOf 9)) = some y2 := (hf 2 _ rfl).trans e2
  have f3 : DataW.trod enc Tryz.prog w 0 (fun _ => true) true n 4 ((cs.drop 4).take (Tryz.prog.cellsOf 4)) = some y3 := (hf 3 _ rfl).trans e3
  have f4 : DataW.trod enc Tryz.prog w 0 (fun _ => true) true n 3 ((cs.drop 5).take (Tryz.prog.cellsOf 3)) = some y4 := (hf 4 _ rfl).trans e4
  rw [h3] at f0 f4
  rw [h2] at f1
  rw [h9] at f2
  rw [h1] at f3
  obtain ⟨k, g0, -, w0⟩ := DataW.trod_int Tryz.underlying3 f0
  obtain ⟨m, ex, g1, w1, w2⟩ := open_num f1
  obtain ⟨s, g2, hy2, w3⟩ := DataW.trod_string Tryz.underlying9 f2
  obtain ⟨tr, g3, -⟩ := DataW.trod_bool Tryz.underlying4 f3
  obtain ⟨fa, g4, -, w4⟩ := DataW.trod_int Tryz.underlying3 f4
  refine ⟨⟨k, m, ex, s, tr, fa⟩, ?_, ⟨bounds_i64 w0, w1, w2, by unfold maxLen at w3; exact w3, bounds_i64 w4⟩, ?_⟩
  · have c0 := cutL cs 0 1
    have c1 := cutL cs 1 2
    have c2 := cutL cs 3 1
    have c3 := cutL cs 4 1
    have c4 := cutL cs 5 1
    rw [g0, Nat.zero_add, List.drop_zero] at c0
    rw [g1] at c1
    rw [g2] at c2
    rw [g3] at c3
    rw [g4] at c4
    rw [c0, c1, c2, c3, c4, List.drop_of_length_le (by omega)]
    rfl
  · refine Nat.le_trans ?_ (bulk_field xs 2 y2 e2)
    rw [hy2]
    simp only [Rows.uptoBulk]
    have : s.data.toList.length = s.size := by simp
    omega
end

/-- of no more nodes, and no longer texts, than that. -/
def Tr.within (t : Tr) (k : Nat) : Prop := t.size ≤ k ∧ ∀ y ∈ t.nodes, y.d.name.size ≤ k ∧ y.d.v.text.size ≤ k
theorem sizes_bulk {H : Type} : ∀ (l : List Tr) (ds : List (DataW H)), l.length = ds.length → (∀ i (h : i < l.length) (h' : i < ds.length), (l[i]).size ≤ Rows.uptoBulk ds[i]) → Tr.sizes l ≤ Rows.uptoBulkAll ds
  | [], _, _, _ => by simp [Tr.sizes]
  | t :: ts, [], h, _ => by simp at h
  | t :: ts, d :: ds, h, hk => by
    simp only [Tr.sizes, Rows.uptoBulkAll]
    have h0 := hk 0 (by simp) (by simp)
    have := sizes_bulk ts ds (by simpa using h) (fun i h1 h2 => by have := hk (i + 1) (by simp; omega) (by simp; omega); simpa using this)
    simp at h0
    omega
theorem nodess_mem : ∀ (l : List Tr) (y : Tr), y ∈ Tr.nodess l → ∃ t ∈ l, y ∈ t.nodes
  | [], _, h => by simp [Tr.nodess] at h
  | t :: ts, y, h => by
    simp only [Tr.nodess, List.mem_append] at h
    rcases h with h | h
    · exact ⟨t, by simp, h⟩
    · obtain ⟨t', h1, h2⟩ := nodess_mem ts y h
      exact ⟨t', by simp [h1], h2⟩

set_option maxHeartbeats 1000000 in
theorem open_node {H : Type} {enc : TypeId × Value → H} {w : World} : ∀ (fuel : Nat) (cs : List Value) (x : DataW H × List MemPlace), DataW.trod enc Tryz.prog w 0 (fun _ => true) true fuel 35 cs = some x →
    ∃ (t : Tr) (A : Option Addr) (c : Nat), cs = (nodeA t.d A t.l.length c).toList ∧ t.d.ok ∧ SlAt w w.heap.size A c t.l ∧ t.within (Rows.uptoBulk x.1) := by
  intro fuel
  induction fuel using Nat.strongRecOn with
  | _ fuel ih =>
    intro cs x h
    obtain ⟨xs, n, rfl, rfl, hl, hxs, hf⟩ := DataW.trod_struct Tryz.underlying35 h
    have hc : Tryz.prog.cellsOf 35 = 22 := by kernel_rfl
    have h3 : Tryz.prog.cellsOf 3 = 1 := by kernel_rfl
    have h6 : Tryz.prog.cellsOf 26 = 6 := by kernel_rfl
    have h9 : Tryz.prog.cellsOf 9 = 1 := by kernel_rfl
    have h12 : Tryz.prog.cellsOf 32 = 12 := by kernel_rfl
    have h1 : Tryz.prog.cellsOf 33 = 1 := by kernel_rfl
    obtain ⟨y0, e0⟩ := get_some hxs (show 0 < 6 by omega)
    obtain ⟨y1, e1⟩ := get_some hxs (show 1 < 6 by omega)
    obtain ⟨y2, e2⟩ := get_some hxs (show 2 < 6 by omega)
    obtain ⟨y3, e3⟩ := get_some hxs (show 3 < 6 by omega)
    obtain ⟨y4, e4⟩ := get_some hxs (show 4 < 6 by omega)
    obtain ⟨y5, e5⟩ := get_some hxs (show 5 < 6 by omega)
    have f0 : DataW.trod enc Tryz.prog w 0 (fun _ => true) true n 3 ((cs.drop 0).take (Tryz.prog.cellsOf 3)) = some y0 := (hf 0 _ rfl).trans e0
    have f1 : DataW.trod enc Tryz.prog w 0 (fun _ => true) true n 26 ((cs.drop 1).take (Tryz.prog.cellsOf 26)) = some y1 := (hf 1 _ rfl).trans e1
    have f2 : DataW.trod enc Tryz.prog w 0 (fun _ => true) true n 9 ((cs.drop 7).take (Tryz.prog.cellsOf 9)) = some y2 := (hf 2 _ rfl).trans e2
    have f3 : DataW.trod enc Tryz.prog w 0 (fun _ => true) true n 32 ((cs.drop 8).take (Tryz.prog.cellsOf 32)) = some y3 := (hf 3 _ rfl).trans e3
    have f4 : DataW.trod enc Tryz.prog w 0 (fun _ => true) true n 3 ((cs.drop 20).take (Tryz.prog.cellsOf 3)) = some y4 := (hf 4 _ rfl).trans e4
    have f5 : DataW.trod enc Tryz.prog w 0 (fun _ => true) true n 33 ((cs.drop 21).take (Tryz.prog.cellsOf 33)) = some y5 := (hf 5 _ rfl).trans e5
    rw [h3] at f0 f4
    rw [h6] at f1
    rw [h9] at f2
    rw [h12] at f3
    rw [h1] at f5
    obtain ⟨kd, g0, -, w0⟩ := DataW.trod_int Tryz.underlying3 f0
    obtain ⟨v, g1, w1, z1⟩ := open_value f1
    obtain ⟨s, g2, hy2, w2⟩ := DataW.trod_string Tryz.underlying9 f2
    obtain ⟨a, b, g3, w3, w3'⟩ := open_area f3
    obtain ⟨rw', g4, -, w4⟩ := DataW.trod_int Tryz.underlying3 f4
    have z1' := Nat.le_trans z1 (bulk_field xs 1 y1 e1)
    have z2' : s.size ≤ Rows.uptoBulk (DataW.agg (xs.map (·.1))) := by
      refine Nat.le_trans ?_ (bulk_field xs 2 y2 e2)
      rw [hy2]
      simp only [Rows.uptoBulk]
      have : s.data.toList.length = s.size := by simp
      omega
    have z5 := bulk_field xs 5 y5 e5
    have z5' : Rows.uptoBulk y5.1 + 1 ≤ Rows.uptoBulk (DataW.agg (xs.map (·.1))) := by
      have := bulk_mem (xs.map (·.1)) y5.1 (List.mem_map.2 ⟨y5, List.mem_of_getElem? e5, rfl⟩)
      simp only [Rows.uptoBulk]; omega
    have hform : ∀ (sl : Value), (cs.drop 21).take 1 = [sl] → cs = (ND.head ⟨kd, v, s, a, b, rw'⟩) ++ [sl] := by
      intro sl g5
      have c0 := cutL cs 0 1
      have c1 := cutL cs 1 6
      have c2 := cutL cs 7 1
      have c3 := cutL cs 8 12
      have c4 := cutL cs 20 1
      have c5 := cutL cs 21 1
      rw [g0, Nat.zero_add, List.drop_zero] at c0
      rw [g1] at c1
      rw [g2] at c2
      rw [g3] at c3
      rw [g4] at c4
      rw [g5] at c5
      rw [c0, c1, c2, c3, c4, c5, List.drop_of_length_le (by omega)]
      simp [ND.head]
    have hok : ND.ok ⟨kd, v, s, a, b, rw'⟩ := ⟨bounds_i64 w0, w1, by unfold maxLen at w2; exact w2, w3, w3', bounds_i64 w4⟩
    rcases DataW.trod_slice Tryz.underlying33 f5 with ⟨g5, -⟩ | ⟨ad, len, cap, elems, rest, m, rfl, g5, hy5, hbs, hlc, hcm, hel, hget, -, -⟩
    · refine ⟨.mk ⟨kd, v, s, a, b, rw'⟩ [], none, 0, ?_, hok, ⟨by simp [Tr.l], by omega, .inl rfl⟩, ?_, ?_⟩
      · rw [hform _ g5]; rfl
      · simp [Tr.size, Tr.sizes]; omega
      · intro y hy
        simp [Tr.nodes, Tr.nodess] at hy
        subst hy
        exact ⟨z2', z1'⟩
    · have hkid : ∀ i (hi : i < elems.length), ∃ (t : Tr) (A : Option Addr) (c : Nat), w.cells? 0 (ad.add (i * 22)) 22 = some (nodeA t.d A t.l.length c).toList ∧ t.d.ok ∧ SlAt w w.heap.size A c t.l ∧ t.within (Rows.uptoBulk elems[i].1) := by
        intro i hi
        have := hget i (by omega)
        rw [hc, List.getElem?_eq_getElem hi, Option.bind_eq_some_iff] at this
        obtain ⟨cs', k1, k2⟩ := this
        obtain ⟨t, A, c, rfl, r⟩ := ih m (by omega) cs' _ k2
        exact ⟨t, A, c, k1, r⟩
      have hl' : ∃ l : List Tr, l.length = elems.length ∧ ∀ i (h : i < l.length) (h' : i < elems.length), ∃ (A : Option Addr) (c : Nat), w.cells? 0 (ad.add (i * 22)) 22 = some (nodeA l[i].d A l[i].l.length c).toList ∧ l[i].d.ok ∧ SlAt w w.heap.size A c l[i].l ∧ l[i].within (Rows.uptoBulk elems[i].1) := by
        have : ∀ i : Fin elems.length, ∃ t : Tr, ∃ (A : Option Addr) (c : Nat), w.cells? 0 (ad.add (i.1 * 22)) 22 = some (nodeA t.d A t.l.length c).toList ∧ t.d.ok ∧ SlAt w w.heap.size A c t.l ∧ t.within (Rows.uptoBulk (elems[i.1]'i.2).1) := fun i => hkid i.1 i.2
        refine ⟨List.ofFn (fun i => Classical.choose (this i)), by simp, fun i h h' => ?_⟩
        have hs := Classical.choose_spec (this ⟨i, h'⟩)
        rw [List.getElem_ofFn]
        exact hs
      obtain ⟨l, hll, hk⟩ := hl'
      have z5s : Rows.uptoBulkAll (elems.map (·.1)) + 1 ≤ Rows.uptoBulk y5.1 := by rw [hy5]; simp only [Rows.uptoBulk]; omega
      refine ⟨.mk ⟨kd, v, s, a, b, rw'⟩ l, some ad, cap, ?_, hok, ?_, ?_, ?_⟩
      · rw [hform _ g5]
        simp [nodeA, Tr.l, Tr.d, hll, hel]
      · refine ⟨by simp [Tr.l]; omega, by unfold maxLen at hcm; omega, ?_⟩
        simp only [Tr.l]
        by_cases hz : l = []
        · exact .inl hz
        right
        have hpos : 0 < l.length := List.length_pos_iff.2 hz
        obtain ⟨adb, ado, ads⟩ := ad
        obtain ⟨A0, c0, q0, -⟩ := hk 0 hpos (by omega)
        obtain ⟨-, -, q1⟩ := World.cells?_some q0
        have q2 := q1 0 (by omega)
        have hspot : ads = none := by
          have : (nodeA l[0].d A0 l[0].l.length c0).toList[0]? = some (.int .i64 l[0].d.kind) := rfl
          rw [this] at q2
          simpa [Addr.add] using World.cell?_spot q2
        subst hspot
        refine ⟨adb, ado, rfl, KidsAt.of (fun i hi => ?_)⟩
        obtain ⟨A1, c1, r0, r1, r2, -⟩ := hk i hi (by omega)
        obtain ⟨-, -, r3⟩ := World.cells?_some r0
        have hcells : NodeCells w adb (ado + i * 22) l[i].d A1 l[i].l.length c1 := by
          intro j hj
          have := r3 j hj
          have ea : ((⟨adb, ado, none⟩ : Addr).add (i * 22)).add j = ⟨adb, ado + i * 22 + j, none⟩ := by
            unfold Addr.add; split <;> split <;> simp_all
          rw [ea] at this
          rw [this]; simp
        have hblk : adb < w.heap.size := by
          have := hcells 0 (by omega)
          exact World.block_lt_of_cell? _ ⟨adb, ado + i * 22 + 0, none⟩ (this.trans rfl)
        exact NodeAt.mk hblk r1 hcells r2
      · simp only [Tr.size]
        have := sizes_bulk l (elems.map (·.1)) (by simp [hll]) (fun i h1 h2 => by
          obtain ⟨_, _, _, _, _, hw, _⟩ := hk i h1 (by simpa using h2)
          simpa using hw)
        omega
      · intro y hy
        simp only [Tr.nodes, List.mem_cons] at hy
        rcases hy with rfl | hy
        · exact ⟨z2', z1'⟩
        · obtain ⟨t, ht, hyt⟩ := nodess_mem l y hy
          obtain ⟨i, hi, rfl⟩ := List.mem_iff_getElem.1 ht
          obtain ⟨_, _, _, _, _, _, hw⟩ := hk i hi (by omega)
          obtain ⟨q1, q2⟩ := hw y hyt
          have hb := bulk_mem (elems.map (·.1)) elems[i].1 (List.mem_map.2 ⟨_, List.getElem_mem _, rfl⟩)
          dsimp only
          constructor <;> omega
end Go.Proofs.YtbiacjkkgddclaaGreat
namespace Go.Proofs.YtbiacjkkgddclaaGreat
open Go.RowKit Go.ChangeShapes Go.WideShapes Go.ChangeAt

set_option maxHeartbeats 1000000 in
theorem open_content {H : Type} {enc : TypeId × Value → H} {w : World} (fuel : Nat) (cs : List Value) (x : DataW H × List MemPlace) (h : DataW.trod enc Tryz.prog w 0 (fun _ => true) true fuel 37 cs = some x) :
    ∃ (y : Ct) (A : Option Addr) (c : Nat), cs = (contA y A c).toList ∧ y.v.ok ∧ y.t.d.ok ∧ SlAt w w.heap.size A c y.t.l ∧ y.t.within (Rows.uptoBulk x.1) ∧ y.v.text.size ≤ Rows.uptoBulk x.1 := by
  obtain ⟨xs, n, rfl, rfl, hl, hxs, hf⟩ := DataW.trod_struct Tryz.underlying37 h
  have hc : Tryz.prog.cellsOf 37 = 29 := by kernel_rfl
  have h3 : Tryz.prog.cellsOf 3 = 1 := by kernel_rfl
  have h6 : Tryz.prog.cellsOf 26 = 6 := by kernel_rfl
  have h22 : Tryz.prog.cellsOf 35 = 22 := by kernel_rfl
  obtain ⟨y0, e0⟩ := get_some hxs (show 0 < 3 by omega)
  obtain ⟨y1, e1⟩ := get_some hxs (show 1 < 3 by omega)
  obtain ⟨y2, e2⟩ := get_some hxs (show 2 < 3 by omega)
  have f0 : DataW.trod enc Tryz.prog w 0 (fun _ => true) true n 3 ((cs.drop 0).take (Tryz.prog.cellsOf 3)) = some y0 := (hf 0 _ rfl).trans e0
  have f1 : DataW.trod enc Tryz.prog w 0 (fun _ => true) true n 26 ((cs.drop 1).take (Tryz.prog.cellsOf 26)) = some y1 := (hf 1 _ rfl).trans e1
  have f2 : DataW.trod enc Tryz.prog w 0 (fun _ => true) true n 35 ((cs.drop 7).take (Tryz.prog.cellsOf 35)) = some y2 := (hf 2 _ rfl).trans e2
  rw [h3] at f0
  rw [h6] at f1
  rw [h22] at f2
  obtain ⟨k, g0, -, w0⟩ := DataW.trod_int Tryz.underlying3 f0
  obtain ⟨v, g1, w1, z1⟩ := open_value f1
  obtain ⟨t, A, c, g2, w2, w3, w4⟩ := open_node n _ _ f2
  refine ⟨⟨k, v, t⟩, A, c, ?_, w1, w2, w3, ?_, Nat.le_trans z1 (bulk_field xs 1 y1 e1)⟩
  · have c0 := cutL cs 0 1
    have c1 := cutL cs 1 6
    have c2 := cutL cs 7 22
    rw [g0, Nat.zero_add, List.drop_zero] at c0
    rw [g1] at c1
    rw [g2] at c2
    rw [c0, c1, c2, List.drop_of_length_le (by omega)]
    simp [contA, Ct.head]
  · have hb := bulk_field xs 2 y2 e2
    exact ⟨Nat.le_trans w4.1 hb, fun z hz => ⟨Nat.le_trans (w4.2 z hz).1 hb, Nat.le_trans (w4.2 z hz).2 hb⟩⟩
end Go.Proofs.YtbiacjkkgddclaaGreat
namespace Go.Proofs.YtbiacjkkgddclaaGreat
set_option linter.unusedSimpArgs false
set_option linter.unusedVariables false
open Go.RowKit Go.ChangeShapes Go.WideShapes Go.ChangeAt

theorem NodeAt.nodeG {w : World} {B : Nat} (t : Tr) : ∀ b o, NodeAt w B b o t → NodeG w (fun b _ => b < B) b o t := by
  induction t using Tr.ind with
  | _ d l ih =>
    intro b o h
    simp only [NodeAt] at h
    simp only [NodeG]
    obtain ⟨hb, hd, A, c, hc, h1, h2, h3⟩ := h
    refine ⟨hb, hd, A, c, hc, h1, h2, ?_⟩
    rcases h3 with rfl | ⟨b', o', hA, hkids⟩
    · exact .inl rfl
    · exact .inr ⟨b', o', hA, KidsG.of (fun i hi => ih _ (List.getElem_mem hi) _ _ (hkids.get i hi))⟩
theorem SlAt.slG {w : World} {B : Nat} {A : Option Addr} {c : Nat} {l : List Tr} (h : SlAt w B A c l) : SlG w (fun b _ => b < B) A c l := by
  obtain ⟨h1, h2, h3⟩ := h
  refine ⟨h1, h2, ?_⟩
  rcases h3 with rfl | ⟨b', o', hA, hkids⟩
  · exact .inl rfl
  · exact .inr ⟨b', o', hA, KidsG.of (fun i hi => NodeAt.nodeG _ _ _ (hkids.get i hi))⟩
section
variable {H : Type} {enc : TypeId × Value → H} {w : World} {fuel : Nat} {cs : List Value} {x : DataW H × List MemPlace}
theorem open_ik (h : DataW.trod enc Tryz.prog w 0 (fun _ => true) true fuel 28 cs = some x) : ∃ a : Ik, cs = a.cs ∧ a.ok := by
  obtain ⟨a, n, e, h1, h2⟩ := open_id h
  exact ⟨⟨a, n⟩, e, h1, h2⟩
set_option maxHeartbeats 1000000 in
/-- a list of ids that came in. -/
theorem open_iks (h : DataW.trod enc Tryz.prog w 0 (fun _ => true) true fuel 38 cs = some x) : ∃ (l : List Ik) (A : Option Addr) (c : Nat), cs = [.slice A l.length c] ∧ IkG w (fun k => k < w.heap.size) A c l ∧ (∀ y ∈ l, y.ok) ∧ (A = none → c = 0) := by
  have hc : Tryz.prog.cellsOf 28 = 2 := by kernel_rfl
  rcases DataW.trod_slice Tryz.underlying38 h with ⟨g5, -⟩ | ⟨ad, len, cap, elems, rest, m, rfl, g5, hy5, hbs, hlc, hcm, hel, hget, -, -⟩
  · exact ⟨[], none, 0, g5, IkG.nil _ _ _ _ (by omega), fun y hy => (List.not_mem_nil hy).elim, fun _ => rfl⟩
  · have hkid : ∀ i (hi : i < elems.length), ∃ s : Ik, w.cells? 0 (ad.add (i * 2)) 2 = some s.cs ∧ s.ok := by
      intro i hi
      have := hget i (by omega)
      rw [hc, List.getElem?_eq_getElem hi, Option.bind_eq_some_iff] at this
      obtain ⟨cs', k1, k2⟩ := this
      obtain ⟨s, rfl, r⟩ := open_ik k2
      exact ⟨s, k1, r⟩
    have hl' : ∃ l : List Ik, l.length = elems.length ∧ ∀ i (h : i < l.length), w.cells? 0 (ad.add (i * 2)) 2 = some l[i].cs ∧ l[i].ok := by
      have : ∀ i : Fin elems.length, ∃ s : Ik, w.cells? 0 (ad.add (i.1 * 2)) 2 = some s.cs ∧ s.ok := fun i => hkid i.1 i.2
      refine ⟨List.ofFn (fun i => Classical.choose (this i)), by simp, fun i h => ?_⟩
      have hs := Classical.choose_spec (this ⟨i, by simpa using h⟩)
      rw [List.getElem_ofFn]
      exact hs
    obtain ⟨l, hll, hk⟩ := hl'
    refine ⟨l, some ad, cap, by rw [g5, hll, hel], ⟨by omega, by unfold maxLen at hcm; omega, ?_⟩, fun y hy => ?_, fun e => by cases e⟩
    · by_cases hz : l = []
      · exact .inl hz
      right
      have hpos : 0 < l.length := List.length_pos_iff.2 hz
      obtain ⟨adb, ado, ads⟩ := ad
      obtain ⟨q0, -⟩ := hk 0 hpos
      obtain ⟨-, -, q1⟩ := World.cells?_some q0
      have q2 := q1 0 (by omega)
      have hspot : ads = none := by
        have : l[0].cs[0]? = some (.int .i64 l[0].a) := rfl
        rw [this] at q2
        simpa [Addr.add] using World.cell?_spot q2
      subst hspot
      have hcells : ∀ j (h : j < l.length), w.rangeAt adb (ado + j * 2) l[j].cs := by
        intro j hj i v hv
        obtain ⟨r0, -⟩ := hk j hj
        obtain ⟨-, -, r3⟩ := World.cells?_some r0
        have hi : i < 2 := by
          have := (List.getElem?_eq_some_iff.1 hv).1
          simpa [Ik.cs] using this
        have := r3 i hi
        have ea : ((⟨adb, ado, none⟩ : Addr).add (j * 2)).add i = ⟨adb, ado + j * 2 + i, none⟩ := by
          unfold Addr.add; split <;> split <;> simp_all
        rw [ea] at this
        exact this.trans hv
      exact ⟨adb, ado, rfl, World.block_lt_of_cell? _ ⟨adb, ado + 0 * 2 + 0, none⟩ (hcells 0 hpos 0 (.int .i64 l[0].a) rfl), hcells⟩
    · obtain ⟨i, hi, rfl⟩ := List.mem_iff_getElem.1 hy
      exact (hk i hi).2
theorem open_wr (h : DataW.trod enc Tryz.prog w 0 (fun _ => true) true fuel 46 cs = some x) : ∃ (m : Wr) (A : Option Addr) (c : Nat) (Ao : Option Addr) (co : Nat), cs = (wrA m A c Ao co).toList ∧ (m.id.ok ∧ m.x.v.ok ∧ m.x.t.d.ok ∧ m.x.t.size ≤ Rows.uptoBulk x.1 ∧ ∀ k ∈ m.o, k.ok) ∧ SlAt w w.heap.size A c m.x.t.l ∧ IkG w (fun k => k < w.heap.size) Ao co m.o := by
  obtain ⟨xs, n, rfl, rfl, hl, hxs, hf⟩ := DataW.trod_struct Tryz.underlying46 h
  have hc : Tryz.prog.cellsOf 46 = 32 := by kernel_rfl
  have h2 : Tryz.prog.cellsOf 28 = 2 := by kernel_rfl
  have h29 : Tryz.prog.cellsOf 37 = 29 := by kernel_rfl
  have h1 : Tryz.prog.cellsOf 38 = 1 := by kernel_rfl
  obtain ⟨y0, e0⟩ := get_some hxs (show 0 < 3 by omega)
  obtain ⟨y1, e1⟩ := get_some hxs (show 1 < 3 by omega)
  obtain ⟨y2, e2⟩ := get_some hxs (show 2 < 3 by omega)
  have f0 : DataW.trod enc Tryz.prog w 0 (fun _ => true) true n 28 ((cs.drop 0).take (Tryz.prog.cellsOf 28)) = some y0 := (hf 0 _ rfl).trans e0
  have f1 : DataW.trod enc Tryz.prog w 0 (fun _ => true) true n 37 ((cs.drop 2).take (Tryz.prog.cellsOf 37)) = some y1 := (hf 1 _ rfl).trans e1
  have f2 : DataW.trod enc Tryz.prog w 0 (fun _ => true) true n 38 ((cs.drop 31).take (Tryz.prog.cellsOf 38)) = some y2 := (hf 2 _ rfl).trans e2
  rw [h2] at f0
  rw [h29] at f1
  rw [h1] at f2
  obtain ⟨a, g0, w0⟩ := open_ik f0
  obtain ⟨y, A, c, g1, w1, w2, w3, w4, -⟩ := open_content n _ _ f1
  obtain ⟨o, Ao, co, g2, w5, w6, -⟩ := open_iks f2
  refine ⟨⟨a, y, o⟩, A, c, Ao, co, ?_, ⟨w0, w1, w2, Nat.le_trans w4.1 (bulk_field xs 1 y1 e1), w6⟩, w3, w5⟩
  have c0 := cutL cs 0 2
  have c1 := cutL cs 2 29
  have c2 := cutL cs 31 1
  rw [g0, Nat.zero_add, List.drop_zero] at c0
  rw [g1] at c1
  rw [g2] at c2
  rw [c0, c1, c2, List.drop_of_length_le (by omega), List.append_nil]
  unfold wrA
  simp [List.append_assoc]
set_option maxHeartbeats 1000000 in
/-- writes that came in. -/
theorem open_wrs (h : DataW.trod enc Tryz.prog w 0 (fun _ => true) true fuel 22 cs = some x) (hz : Rows.uptoBulk x.1 ≤ 1048576) : ∃ (l : List Wr) (A : Option Addr) (c : Nat), cs = [.slice A l.length c] ∧ RowW w (fun k => k < w.heap.size) (fun k => k < w.heap.size) A c l ∧ ∀ m ∈ l, m.id.ok ∧ m.x.v.ok ∧ m.x.t.d.ok ∧ m.x.t.size ≤ 1048576 ∧ ∀ k ∈ m.o, k.ok := by
  have hc : Tryz.prog.cellsOf 46 = 32 := by kernel_rfl
  rcases DataW.trod_slice Tryz.underlying22 h with ⟨g5, -⟩ | ⟨ad, len, cap, elems, rest, m, rfl, g5, hy5, hbs, hlc, hcm, hel, hget, -, -⟩
  · exact ⟨[], none, 0, g5, RowW.nil _ _ _ _ _ (by omega), fun e he => (List.not_mem_nil he).elim⟩
  · have hkid : ∀ i (hi : i < elems.length), ∃ (s : Wr) (A' : Option Addr) (c' : Nat) (Ao : Option Addr) (co : Nat), w.cells? 0 (ad.add (i * 32)) 32 = some (wrA s A' c' Ao co).toList ∧ (s.id.ok ∧ s.x.v.ok ∧ s.x.t.d.ok ∧ s.x.t.size ≤ 1048576 ∧ ∀ k ∈ s.o, k.ok) ∧ SlAt w w.heap.size A' c' s.x.t.l ∧ IkG w (fun k => k < w.heap.size) Ao co s.o := by
      intro i hi
      have := hget i (by omega)
      rw [hc, List.getElem?_eq_getElem hi, Option.bind_eq_some_iff] at this
      obtain ⟨cs', k1, k2⟩ := this
      obtain ⟨s, A', c', Ao, co, rfl, r1, r2, r3⟩ := open_wr k2
      have hb2 : Rows.uptoBulk elems[i].1 ≤ 1048576 := by
        have h3 := bulk_mem (elems.map (·.1)) elems[i].1 (List.mem_map.2 ⟨_, List.getElem_mem _, rfl⟩)
        rw [hy5] at hz
        simp only [Rows.uptoBulk] at hz
        omega
      exact ⟨s, A', c', Ao, co, k1, ⟨r1.1, r1.2.1, r1.2.2.1, Nat.le_trans r1.2.2.2.1 hb2, r1.2.2.2.2⟩, r2, r3⟩
    have hl' : ∃ l : List Wr, l.length = elems.length ∧ ∀ i (h : i < l.length), ∃ (A' : Option Addr) (c' : Nat) (Ao : Option Addr) (co : Nat), w.cells? 0 (ad.add (i * 32)) 32 = some (wrA l[i] A' c' Ao co).toList ∧ (l[i].id.ok ∧ l[i].x.v.ok ∧ l[i].x.t.d.ok ∧ l[i].x.t.size ≤ 1048576 ∧ ∀ k ∈ l[i].o, k.ok) ∧ SlAt w w.heap.size A' c' l[i].x.t.l ∧ IkG w (fun k => k < w.heap.size) Ao co l[i].o := by
      have : ∀ i : Fin elems.length, ∃ (s : Wr) (A' : Option Addr) (c' : Nat) (Ao : Option Addr) (co : Nat), w.cells? 0 (ad.add (i.1 * 32)) 32 = some (wrA s A' c' Ao co).toList ∧ (s.id.ok ∧ s.x.v.ok ∧ s.x.t.d.ok ∧ s.x.t.size ≤ 1048576 ∧ ∀ k ∈ s.o, k.ok) ∧ SlAt w w.heap.size A' c' s.x.t.l ∧ IkG w (fun k => k < w.heap.size) Ao co s.o := fun i => hkid i.1 i.2
      refine ⟨List.ofFn (fun i => Classical.choose (this i)), by simp, fun i h => ?_⟩
      have hs := Classical.choose_spec (this ⟨i, by simpa using h⟩)
      rw [List.getElem_ofFn]
      exact hs
    obtain ⟨l, hll, hk⟩ := hl'
    refine ⟨l, some ad, cap, by rw [g5, hll, hel], ⟨by omega, by unfold maxLen at hcm; omega, ?_⟩, fun y hy => ?_⟩
    · by_cases hz : l = []
      · exact .inl hz
      right
      have hpos : 0 < l.length := List.length_pos_iff.2 hz
      obtain ⟨adb, ado, ads⟩ := ad
      obtain ⟨A0, c0, Ao0, co0, q0, -⟩ := hk 0 hpos
      obtain ⟨-, -, q1⟩ := World.cells?_some q0
      have q2 := q1 0 (by omega)
      have hspot : ads = none := by
        have : (wrA l[0] A0 c0 Ao0 co0).toList[0]? = some (.int .i64 l[0].id.a) := rfl
        rw [this] at q2
        simpa [Addr.add] using World.cell?_spot q2
      subst hspot
      have hcells : ∀ j (h : j < l.length), ∃ (A' : Option Addr) (c' : Nat) (Ao : Option Addr) (co : Nat), w.rangeAt adb (ado + j * 32) (wrA l[j] A' c' Ao co).toList ∧ SlG w (fun b _ => b < w.heap.size) A' c' l[j].x.t.l ∧ IkG w (fun k => k < w.heap.size) Ao co l[j].o := by
        intro j hj
        obtain ⟨A', c', Ao, co, r0, -, r2, r4⟩ := hk j hj
        refine ⟨A', c', Ao, co, fun i v hv => ?_, r2.slG, r4⟩
        obtain ⟨-, -, r3⟩ := World.cells?_some r0
        have hi : i < 32 := (List.getElem?_eq_some_iff.1 hv).1
        have := r3 i hi
        have ea : ((⟨adb, ado, none⟩ : Addr).add (j * 32)).add i = ⟨adb, ado + j * 32 + i, none⟩ := by
          unfold Addr.add; split <;> split <;> simp_all
        rw [ea] at this
        exact this.trans hv
      obtain ⟨A1, c1, Ao1, co1, r1, -⟩ := hcells 0 hpos
      exact ⟨adb, ado, rfl, World.block_lt_of_cell? _ ⟨adb, ado + 0 * 32 + 0, none⟩ (r1 0 (.int .i64 l[0].id.a) rfl), hcells⟩
    · obtain ⟨i, hi, rfl⟩ := List.mem_iff_getElem.1 hy
      obtain ⟨_, _, _, _, -, r, -⟩ := hk i hi
      exact r
end
set_option maxRecDepth 100000 in
theorem open_wrsV {H : Type} {enc : TypeId × Value → H} {w : World} {base : Nat} {v : Value} {d : DataW H} {p : List MemPlace} (hv : Value.okWide Tryz.prog w .any base 22 v) (h : DataW.Trod enc Tryz.prog w 0 (fun _ => true) true 22 v d p) (hz : Rows.uptoBulk d ≤ 1048576) :
    ∃ (l : List Wr) (A : Option Addr) (c : Nat), v = .slice A l.length c ∧ RowW w (fun k => k < w.heap.size) (fun k => k < w.heap.size) A c l ∧ ∀ m ∈ l, m.id.ok ∧ m.x.v.ok ∧ m.x.t.d.ok ∧ m.x.t.size ≤ 1048576 ∧ ∀ k ∈ m.o, k.ok := by
  obtain ⟨fuel, hf⟩ := h
  obtain ⟨l, A, c, h1, h2⟩ := open_wrs hf hz
  refine ⟨l, A, c, ?_, h2⟩
  have hu : Tryz.prog.underlying 22 = some (.slice 46) := by kernel_rfl
  cases v with
  | agg cs =>
    unfold Value.okWide at hv
    rw [hu] at hv
    unfold Cell.okWide at hv
    rw [hu] at hv
    unfold Cell.ok at hv
    rw [hu] at hv
    exact hv.elim
  | _ =>
    have h1' : [_] = [_] := h1
    injection h1'
end Go.Proofs.YtbiacjkkgddclaaGreat
