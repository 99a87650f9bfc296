/- Script laws: the library's tables and errors that the rows lay; the scripts that come in. -/
import Derived.Test.YtlgfjacjcacmmaaGreatDoorJlM
import Derived.Test.YtlgfjacjcacmmaaGreatDoorTie
import Derived.Test.YtlgfjacjcacmmaaGreatDoorCards
import Derived.Stop.LaidErr
import Derived.ProofKit
import Derived.LaidMore
import Derived.Lay
import Derived.OpenShut
import Derived.Stop.Joined
import Derived.Lib.SmallJoins
import Derived.ShutString
import Derived.SevenTiedAt
import Derived.ChangeOld
import Derived.Below
import Derived.Deep.DeepHandedRow
namespace Go.Proofs.YtlgfjacjcacmmaaGreatDoor
set_option linter.unusedSimpArgs false
set_option linter.unusedVariables false
open Go.ChangeShapes Go.WideShapes Go.ChangeAt Go.RowKit

theorem laidOut : laidOutB Tryz.prog = true := by kernel_rfl
theorem own : ownKnob Tryz.prog.godebug = none := by kernel_rfl
noncomputable def laid7 : List (String × DataW Unit) := [("math/bits.deBruijn32tab", Rows.laid_math_bits_deBruijn32tab), ("math/bits.deBruijn64tab", Rows.laid_math_bits_deBruijn64tab), ("internal/strconv.uint64pow10", Rows.laid_internal_strconv_uint64pow10), ("unicode/utf8.acceptRanges", Rows.laid_unicode_utf8_acceptRanges), ("strconv.ErrRange", Rows.laid_strconv_ErrRange), ("strconv.ErrSyntax", Rows.laid_strconv_ErrSyntax), ("unicode/utf8.first", Rows.laid_unicode_utf8_first)]
theorem all_met (os : Os) (args : Array Value) : laidMetH Tryz.prog laid7 ((World.laidAll Tryz.prog os laid7).forCall (fun _ _ => 0) ⟨#[], args, []⟩).memory := by
  rw [MakeChecks.laidMetH_plain _ _ _ (by kernel_rfl)]
  exact laidMet_laidAll _ (by kernel_rfl) (by kernel_rfl)
theorem gES : Tryz.prog.globalNamed "strconv.ErrSyntax" = some 1 := by kernel_rfl
theorem gER : Tryz.prog.globalNamed "strconv.ErrRange" = some 2 := by kernel_rfl
theorem tES : (Tryz.prog.globals[1]?).map (·.type) = some 59 := by kernel_rfl
theorem tER : (Tryz.prog.globals[2]?).map (·.type) = some 59 := by kernel_rfl
theorem cellsEs : Tryz.prog.cellsOf 157 = 1 := by kernel_rfl
theorem cellsStr : Tryz.prog.cellsOf 9 = 1 := by kernel_rfl
theorem starEs : "*" ++ "errors.errorString" = "*errors.errorString" := by decide
theorem rowEs (u : TypeId) (h : Tryz.prog.typeName? 3 u = some "*errors.errorString") : u = 155 :=
  typeName_ptr_named (nm := "errors.errorString") (by rw [starEs]; kernel_rfl) (by kernel_rfl) (by decide) u (by rw [starEs]; exact h)
theorem errS_of_laid {W : World} (h : laidMetH Tryz.prog laid7 W) : ErrS W := by
  rw [MakeChecks.laidMetH_plain _ _ _ (by kernel_rfl)] at h
  have h3 := h.tail.tail.tail.tail
  obtain ⟨a1, s1, hv1, -, -, -⟩ := laid_sentinel h3 gER tER Tryz.underlying59 rowEs Tryz.underlying155 Tryz.underlying157 rfl rfl Tryz.underlying9 cellsEs cellsStr
  obtain ⟨a0, s0, hv0, -, -, -⟩ := laid_sentinel h3.tail gES tES Tryz.underlying59 rowEs Tryz.underlying155 Tryz.underlying157 rfl rfl Tryz.underlying9 cellsEs cellsStr
  exact ⟨⟨_, by have h0 := World.var?_cell gES hv0 0; simpa using h0, .inr ⟨_, _, rfl⟩⟩, ⟨_, by have h0 := World.var?_cell gER hv1 0; simpa using h0, .inr ⟨_, _, rfl⟩⟩⟩
theorem tPow : (Tryz.prog.globals[3]?).map (·.type) = some 141 := by kernel_rfl
theorem tab_of_laid {W : World} (h : laidMetH Tryz.prog laid7 W) : Tab W := by
  rw [MakeChecks.laidMetH_plain _ _ _ (by kernel_rfl)] at h
  obtain ⟨ps, ⟨g0, t0, cs0, f0, p0, q0, hg0, ht0, hv0, hd0, ⟨g1, t1, cs1, f1, p1, q1, hg1, ht1, hv1, hd1, ⟨g2, t2, cs2, f2, p2, q2, hg2, ht2, hv2, hd2, _, _⟩, _⟩, _⟩, _, _⟩ := h
  obtain rfl := Option.some.inj (gPow.symm.trans hg2)
  obtain rfl := Option.some.inj (tPow.symm.trans ht2)
  unfold Tab Lib.TabIs
  rw [hv2, ← Lib.cells_of_tab (k := .u64) (zs := Lib.pow10Tab) Tryz.underlying141 Tryz.underlying125 (by kernel_rfl) (by kernel_rfl) hd2]

section
variable {H : Type} {enc : TypeId × Value → H} {w : World} {fuel : Nat} {cs : List Value} {x : DataW H × List MemPlace}
theorem cutL (cs : List Value) (o k : Nat) : cs.drop o = (cs.drop o).take k ++ cs.drop (o + k) := by
  rw [← List.drop_drop]; exact (List.take_append_drop k (cs.drop o)).symm
theorem get_some {α : Type} {xs : List α} {n i : Nat} (h : xs.length = n) (hi : i < n) : ∃ y, xs[i]? = some y := ⟨xs[i]'(by omega), List.getElem?_eq_getElem _⟩
set_option maxHeartbeats 1000000 in
/-- a step that came in. -/
theorem open_stp (h : DataW.trod enc Tryz.prog w 0 (fun _ => true) true fuel 50 cs = some x) : ∃ s : Stp, cs = s.cs.toList ∧ s.fit := by
  obtain ⟨xs, n, rfl, rfl, hl, hxs, hf⟩ := DataW.trod_struct Tryz.underlying50 h
  have hc : Tryz.prog.cellsOf 50 = 7 := by kernel_rfl
  have h3 : Tryz.prog.cellsOf 3 = 1 := by kernel_rfl
  have h9 : Tryz.prog.cellsOf 9 = 1 := by kernel_rfl
  obtain ⟨y0, e0⟩ := get_some hxs (show 0 < 7 by omega)
  obtain ⟨y1, e1⟩ := get_some hxs (show 1 < 7 by omega)
  obtain ⟨y2, e2⟩ := get_some hxs (show 2 < 7 by omega)
  obtain ⟨y3, e3⟩ := get_some hxs (show 3 < 7 by omega)
  obtain ⟨y4, e4⟩ := get_some hxs (show 4 < 7 by omega)
  obtain ⟨y5, e5⟩ := get_some hxs (show 5 < 7 by omega)
  obtain ⟨y6, e6⟩ := get_some hxs (show 6 < 7 by omega)
  have f0 : DataW.trod enc Tryz.prog w 0 (fun _ => true) true n 3 ((cs.drop 0).take (Tryz.prog.cellsOf 3)) = some y0 := (hf 0 _ rfl).trans e0
  have f1 : DataW.trod enc Tryz.prog w 0 (fun _ => true) true n 3 ((cs.drop 1).take (Tryz.prog.cellsOf 3)) = some y1 := (hf 1 _ rfl).trans e1
  have f2 : DataW.trod enc Tryz.prog w 0 (fun _ => true) true n 3 ((cs.drop 2).take (Tryz.prog.cellsOf 3)) = some y2 := (hf 2 _ rfl).trans e2
  have f3 : DataW.trod enc Tryz.prog w 0 (fun _ => true) true n 3 ((cs.drop 3).take (Tryz.prog.cellsOf 3)) = some y3 := (hf 3 _ rfl).trans e3
  have f4 : DataW.trod enc Tryz.prog w 0 (fun _ => true) true n 3 ((cs.drop 4).take (Tryz.prog.cellsOf 3)) = some y4 := (hf 4 _ rfl).trans e4
  have f5 : DataW.trod enc Tryz.prog w 0 (fun _ => true) true n 9 ((cs.drop 5).take (Tryz.prog.cellsOf 9)) = some y5 := (hf 5 _ rfl).trans e5
  have f6 : DataW.trod enc Tryz.prog w 0 (fun _ => true) true n 9 ((cs.drop 6).take (Tryz.prog.cellsOf 9)) = some y6 := (hf 6 _ rfl).trans e6
  rw [h3] at f0 f1 f2 f3 f4
  rw [h9] at f5 f6
  obtain ⟨a0, g0, -, w0⟩ := DataW.trod_int Tryz.underlying3 f0
  obtain ⟨a1, g1, -, w1⟩ := DataW.trod_int Tryz.underlying3 f1
  obtain ⟨a2, g2, -, w2⟩ := DataW.trod_int Tryz.underlying3 f2
  obtain ⟨a3, g3, -, w3⟩ := DataW.trod_int Tryz.underlying3 f3
  obtain ⟨a4, g4, -, w4⟩ := DataW.trod_int Tryz.underlying3 f4
  obtain ⟨a5, g5, -, w5⟩ := DataW.trod_string Tryz.underlying9 f5
  obtain ⟨a6, g6, -, w6⟩ := DataW.trod_string Tryz.underlying9 f6
  refine ⟨⟨a0, a1, a2, a3, a4, a5, a6⟩, ?_, ⟨bounds_i64 w0, bounds_i64 w1, bounds_i64 w2, bounds_i64 w3, bounds_i64 w4⟩, by unfold maxLen at w5; dsimp only; omega, by unfold maxLen at w6; dsimp only; omega⟩
  have c0 := cutL cs 0 1
  have c1 := cutL cs 1 1
  have c2 := cutL cs 2 1
  have c3 := cutL cs 3 1
  have c4 := cutL cs 4 1
  have c5 := cutL cs 5 1
  have c6 := cutL cs 6 1
  rw [g0, Nat.zero_add, List.drop_zero] at c0
  rw [g1] at c1
  rw [g2] at c2
  rw [g3] at c3
  rw [g4] at c4
  rw [g5] at c5
  rw [g6] at c6
  rw [c0, c1, c2, c3, c4, c5, c6, List.drop_of_length_le (by omega)]
  rfl
set_option maxHeartbeats 1000000 in
/-- a list of steps that came in. -/
theorem open_stps (h : DataW.trod enc Tryz.prog w 0 (fun _ => true) true fuel 29 cs = some x) : ∃ (l : List Stp) (A : Option Addr) (c : Nat), cs = [.slice A l.length c] ∧ StpsAt w w.heap.size 50 A c l ∧ ∀ y ∈ l, y.fit := by
  have hc : Tryz.prog.cellsOf 50 = 7 := by kernel_rfl
  rcases DataW.trod_slice Tryz.underlying29 h with ⟨g5, -⟩ | ⟨ad, len, cap, elems, rest, m, rfl, g5, hy5, hbs, hlc, hcm, hel, hget, -, -⟩
  · exact ⟨[], none, 0, g5, ⟨by simp, by omega, .inl rfl⟩, fun y hy => by cases hy⟩
  · have hkid : ∀ i (hi : i < elems.length), ∃ s : Stp, w.cells? 0 (ad.add (i * 7)) 7 = some s.cs.toList ∧ s.fit := by
      intro i hi
      have := hget i (by omega)
      rw [hc, List.getElem?_eq_getElem hi, Option.bind_eq_some_iff] at this
      obtain ⟨cs', k1, k2⟩ := this
      obtain ⟨s, rfl, r⟩ := open_stp k2
      exact ⟨s, k1, r⟩
    have hl' : ∃ l : List Stp, l.length = elems.length ∧ ∀ i (h : i < l.length), w.cells? 0 (ad.add (i * 7)) 7 = some l[i].cs.toList ∧ l[i].fit := by
      have : ∀ i : Fin elems.length, ∃ s : Stp, w.cells? 0 (ad.add (i.1 * 7)) 7 = some s.cs.toList ∧ s.fit := fun i => hkid i.1 i.2
      refine ⟨List.ofFn (fun i => Classical.choose (this i)), by simp, fun i h => ?_⟩
      have hs := Classical.choose_spec (this ⟨i, by simpa using h⟩)
      rw [List.getElem_ofFn]
      exact hs
    obtain ⟨l, hll, hk⟩ := hl'
    refine ⟨l, some ad, cap, by rw [g5, hll, hel], ⟨by omega, by unfold maxLen at hcm; omega, ?_⟩, fun y hy => ?_⟩
    · by_cases hz : l = []
      · exact .inl hz
      right
      have hpos : 0 < l.length := List.length_pos_iff.2 hz
      obtain ⟨adb, ado, ads⟩ := ad
      obtain ⟨q0, -⟩ := hk 0 hpos
      obtain ⟨-, -, q1⟩ := World.cells?_some q0
      have q2 := q1 0 (by omega)
      have hspot : ads = none := by
        have : l[0].cs.toList[0]? = some (.int .i64 l[0].k) := rfl
        rw [this] at q2
        simpa [Addr.add] using World.cell?_spot q2
      subst hspot
      have hcells : ∀ j (h : j < l.length), w.rangeAt adb (ado + j * 7) l[j].cs.toList := by
        intro j hj i v hv
        obtain ⟨r0, -⟩ := hk j hj
        obtain ⟨-, -, r3⟩ := World.cells?_some r0
        have hi : i < 7 := by
          have := (List.getElem?_eq_some_iff.1 hv).1
          simpa [Stp.cs] using this
        have := r3 i hi
        have ea : ((⟨adb, ado, none⟩ : Addr).add (j * 7)).add i = ⟨adb, ado + j * 7 + i, none⟩ := by
          unfold Addr.add; split <;> split <;> simp_all
        rw [ea] at this
        exact this.trans hv
      exact ⟨adb, ado, rfl, World.block_lt_of_cell? _ ⟨adb, ado + 0 * 7 + 0, none⟩ (hcells 0 hpos 0 (.int .i64 l[0].k) rfl), hcells⟩
    · obtain ⟨i, hi, rfl⟩ := List.mem_iff_getElem.1 hy
      exact (hk i hi).2
end
set_option maxRecDepth 100000 in
set_option maxHeartbeats 1000000 in
/-- a script that came in. -/
theorem open_script {H : Type} {enc : TypeId × Value → H} {w : World} {base : Nat} {v : Value} {d : DataW H} {p : List MemPlace} (hv : Value.okWide Tryz.prog w .any base 31 v) (h : DataW.Trod enc Tryz.prog w 0 (fun _ => true) true 31 v d p) :
    ∃ (s : Scr) (A : Option Addr) (c : Nat), v = .agg #[.int .i64 s.rows, .int .i64 s.cols, .int .i64 s.wr, .slice A s.steps.length c] ∧ (i64 s.rows ∧ i64 s.cols ∧ i64 s.wr) ∧ StpsAt w w.heap.size 50 A c s.steps ∧ ∀ x ∈ s.steps, x.fit := by
  obtain ⟨v0, v1, v2, v3, y0, y1, y2, y3, n, rfl, -, -, h0, h1, h2, h3⟩ := Go.Joins.open_agg4 Tryz.underlying31 (by kernel_rfl) (by kernel_rfl) hv h
  obtain ⟨a0, g0, -, w0⟩ := DataW.trod_int Tryz.underlying3 h0
  obtain ⟨a1, g1, -, w1⟩ := DataW.trod_int Tryz.underlying3 h1
  obtain ⟨a2, g2, -, w2⟩ := DataW.trod_int Tryz.underlying3 h2
  obtain ⟨l, A, c, g3, w3, w4⟩ := open_stps h3
  simp only [List.cons.injEq, and_true] at g0 g1 g2 g3
  subst g0 g1 g2 g3
  exact ⟨⟨a0, a1, a2, l⟩, A, c, rfl, ⟨bounds_i64 w0, bounds_i64 w1, bounds_i64 w2⟩, w3, w4⟩
def zeroScript : Value := .agg #[.int .i64 0, .int .i64 0, .int .i64 0, .slice none 0 0]
end Go.Proofs.YtlgfjacjcacmmaaGreatDoor
