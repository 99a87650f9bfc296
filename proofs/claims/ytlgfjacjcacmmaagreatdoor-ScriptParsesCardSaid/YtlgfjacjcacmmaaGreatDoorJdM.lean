/- script: words, within, number; strings.Cut, Contains and Split at one byte. -/
import Derived.Test.YtlgfjacjcacmmaaGreatDoorJaJbJc
import Derived.Test.YtlgfjacjcacmmaaGreatDoorRzM
import Derived.MapKept
import Derived.Laws.IdiomRangeMap
namespace Go.Proofs.YtlgfjacjcacmmaaGreatDoor
set_option linter.unusedSimpArgs false
set_option linter.unusedVariables false
open Go Go.RowKit Go.Shelf

theorem undIS : Tryz.prog.underlying 72 = some (.map 3 9) := by kernel_rfl
theorem undIn : Tryz.prog.underlying 3 = some (.int .i64) := by kernel_rfl
theorem set_last (h : Array Obj) (x y : Obj) : (h.push x).setIfInBounds h.size y = h.push y := by
  apply Array.toList_inj.1
  simp
theorem upd_int (w : World) (es : Array MapEntry) (clock : Nat) (k : Int) (s : ByteArray) (hf : Instr.findNow (.int .i64) (.int .i64 k) es.toList 0 = some none) :
    (Instr.mapUpdate 72 (.map (some w.heap.size)) (.int .i64 k) (.string s)).run Tryz.prog (w.alloc (.map es clock)) = .ok () (w.alloc (.map (es.push ⟨.int .i64 k, .string s, clock⟩) (clock + 1))) := by
  have hb : (w.alloc (.map es clock)).heap[w.heap.size]? = some (.map es clock) := heap_alloc_new w _
  have hc : (Instr.checkKey false 10000 3 (.int .i64 k)).run Tryz.prog (w.alloc (.map es clock)) = .ok () (w.alloc (.map es clock)) := MapKept.run_checkKey (k := .int .i64 k) undIn (by simp [MapKept.IsKey]) false 9999
  simp [Instr.mapUpdate, run_underlying undIS, MapKept.run_getObj_map hb, hc, MapKept.run_findKey undIn hf, MapKept.run_setObj_map _ hb, Result.andThen]
  show ({ w.alloc (.map es clock) with heap := (w.heap.push (.map es clock)).setIfInBounds w.heap.size (.map (es.push ⟨.int .i64 k, .string s, clock⟩) (clock + 1)) } : World) = _
  rw [set_last]
  rfl
/-- the words, as they lie in memory. -/
def wordsEs : Array MapEntry := #[⟨.int .i64 1, .string ⟨#[116, 121, 112, 101]⟩, 0⟩, ⟨.int .i64 2, .string ⟨#[114, 111, 119]⟩, 1⟩, ⟨.int .i64 3, .string ⟨#[99, 111, 108]⟩, 2⟩, ⟨.int .i64 4, .string ⟨#[99, 117, 116, 114, 111, 119]⟩, 3⟩, ⟨.int .i64 5, .string ⟨#[99, 117, 116, 99, 111, 108]⟩, 4⟩, ⟨.int .i64 6, .string ⟨#[110, 97, 109, 101]⟩, 5⟩, ⟨.int .i64 7, .string ⟨#[98, 97, 99, 107]⟩, 6⟩, ⟨.int .i64 8, .string ⟨#[102, 111, 114, 116, 104]⟩, 7⟩, ⟨.int .i64 9, .string ⟨#[115, 101, 110, 100]⟩, 8⟩, ⟨.int .i64 10, .string ⟨#[115, 104, 111, 119]⟩, 9⟩]
set_option maxRecDepth 100000 in
set_option maxHeartbeats 2000000 in
theorem words_c (w : World) : Calls Tryz.prog 35 #[] w fun e w' => e = .returned (.map (some w.heap.size)) ∧ w' = w.alloc (.map wordsEs 10) := by
  have hmk : ∀ w : World, (Instr.makeMap 72 none).run Tryz.prog w = .ok (.map (some w.heap.size)) (w.alloc (.map #[] 0)) := fun w => by kernel_rfl
  have h0 := upd_int w #[] 0 1 ⟨#[116, 121, 112, 101]⟩ (by rfl)
  have h1 := upd_int w #[⟨.int .i64 1, .string ⟨#[116, 121, 112, 101]⟩, 0⟩] 1 2 ⟨#[114, 111, 119]⟩ (by rfl)
  have h2 := upd_int w #[⟨.int .i64 1, .string ⟨#[116, 121, 112, 101]⟩, 0⟩, ⟨.int .i64 2, .string ⟨#[114, 111, 119]⟩, 1⟩] 2 3 ⟨#[99, 111, 108]⟩ (by rfl)
  have h3 := upd_int w #[⟨.int .i64 1, .string ⟨#[116, 121, 112, 101]⟩, 0⟩, ⟨.int .i64 2, .string ⟨#[114, 111, 119]⟩, 1⟩, ⟨.int .i64 3, .string ⟨#[99, 111, 108]⟩, 2⟩] 3 4 ⟨#[99, 117, 116, 114, 111, 119]⟩ (by rfl)
  have h4 := upd_int w #[⟨.int .i64 1, .string ⟨#[116, 121, 112, 101]⟩, 0⟩, ⟨.int .i64 2, .string ⟨#[114, 111, 119]⟩, 1⟩, ⟨.int .i64 3, .string ⟨#[99, 111, 108]⟩, 2⟩, ⟨.int .i64 4, .string ⟨#[99, 117, 116, 114, 111, 119]⟩, 3⟩] 4 5 ⟨#[99, 117, 116, 99, 111, 108]⟩ (by rfl)
  have h5 := upd_int w #[⟨.int .i64 1, .string ⟨#[116, 121, 112, 101]⟩, 0⟩, ⟨.int .i64 2, .string ⟨#[114, 111, 119]⟩, 1⟩, ⟨.int .i64 3, .string ⟨#[99, 111, 108]⟩, 2⟩, ⟨.int .i64 4, .string ⟨#[99, 117, 116, 114, 111, 119]⟩, 3⟩, ⟨.int .i64 5, .string ⟨#[99, 117, 116, 99, 111, 108]⟩, 4⟩] 5 6 ⟨#[110, 97, 109, 101]⟩ (by rfl)
  have h6 := upd_int w #[⟨.int .i64 1, .string ⟨#[116, 121, 112, 101]⟩, 0⟩, ⟨.int .i64 2, .string ⟨#[114, 111, 119]⟩, 1⟩, ⟨.int .i64 3, .string ⟨#[99, 111, 108]⟩, 2⟩, ⟨.int .i64 4, .string ⟨#[99, 117, 116, 114, 111, 119]⟩, 3⟩, ⟨.int .i64 5, .string ⟨#[99, 117, 116, 99, 111, 108]⟩, 4⟩, ⟨.int .i64 6, .string ⟨#[110, 97, 109, 101]⟩, 5⟩] 6 7 ⟨#[98, 97, 99, 107]⟩ (by rfl)
  have h7 := upd_int w #[⟨.int .i64 1, .string ⟨#[116, 121, 112, 101]⟩, 0⟩, ⟨.int .i64 2, .string ⟨#[114, 111, 119]⟩, 1⟩, ⟨.int .i64 3, .string ⟨#[99, 111, 108]⟩, 2⟩, ⟨.int .i64 4, .string ⟨#[99, 117, 116, 114, 111, 119]⟩, 3⟩, ⟨.int .i64 5, .string ⟨#[99, 117, 116, 99, 111, 108]⟩, 4⟩, ⟨.int .i64 6, .string ⟨#[110, 97, 109, 101]⟩, 5⟩, ⟨.int .i64 7, .string ⟨#[98, 97, 99, 107]⟩, 6⟩] 7 8 ⟨#[102, 111, 114, 116, 104]⟩ (by rfl)
  have h8 := upd_int w #[⟨.int .i64 1, .string ⟨#[116, 121, 112, 101]⟩, 0⟩, ⟨.int .i64 2, .string ⟨#[114, 111, 119]⟩, 1⟩, ⟨.int .i64 3, .string ⟨#[99, 111, 108]⟩, 2⟩, ⟨.int .i64 4, .string ⟨#[99, 117, 116, 114, 111, 119]⟩, 3⟩, ⟨.int .i64 5, .string ⟨#[99, 117, 116, 99, 111, 108]⟩, 4⟩, ⟨.int .i64 6, .string ⟨#[110, 97, 109, 101]⟩, 5⟩, ⟨.int .i64 7, .string ⟨#[98, 97, 99, 107]⟩, 6⟩, ⟨.int .i64 8, .string ⟨#[102, 111, 114, 116, 104]⟩, 7⟩] 8 9 ⟨#[115, 101, 110, 100]⟩ (by rfl)
  have h9 := upd_int w #[⟨.int .i64 1, .string ⟨#[116, 121, 112, 101]⟩, 0⟩, ⟨.int .i64 2, .string ⟨#[114, 111, 119]⟩, 1⟩, ⟨.int .i64 3, .string ⟨#[99, 111, 108]⟩, 2⟩, ⟨.int .i64 4, .string ⟨#[99, 117, 116, 114, 111, 119]⟩, 3⟩, ⟨.int .i64 5, .string ⟨#[99, 117, 116, 99, 111, 108]⟩, 4⟩, ⟨.int .i64 6, .string ⟨#[110, 97, 109, 101]⟩, 5⟩, ⟨.int .i64 7, .string ⟨#[98, 97, 99, 107]⟩, 6⟩, ⟨.int .i64 8, .string ⟨#[102, 111, 114, 116, 104]⟩, 7⟩, ⟨.int .i64 9, .string ⟨#[115, 101, 110, 100]⟩, 8⟩] 9 10 ⟨#[115, 104, 111, 119]⟩ (by rfl)
  simp only [List.push_toArray, List.cons_append, List.nil_append, Nat.reduceAdd] at h0 h1 h2 h3 h4 h5 h6 h7 h8 h9
  go_enter Tryz.func35, Tryz.ntmps35
  go_wp2
  go_ret
  exact ⟨rfl, rfl⟩

set_option maxRecDepth 100000 in
theorem within_c (n a b : Int) (w : World) : Calls Tryz.prog 41 #[.int .i64 n, .int .i64 a, .int .i64 b] w fun e w' => e = .returned (.bool (decide (a ≤ n) && decide (n ≤ b))) ∧ w' = w := by
  by_cases h1 : a ≤ n
  · by_cases h2 : n ≤ b
    · have e1 := decide_eq_true h1
      have e2 := decide_eq_true h2
      rw [e1, e2]
      go_enter Tryz.func41, Tryz.ntmps41
      go_wp2
      go_ret
      exact ⟨rfl, rfl⟩
    · have e1 := decide_eq_true h1
      have e2 := decide_eq_false h2
      rw [e1, e2]
      go_enter Tryz.func41, Tryz.ntmps41
      go_wp2
      go_ret
      exact ⟨rfl, rfl⟩
  · have e1 := decide_eq_false h1
    rw [e1]
    go_enter Tryz.func41, Tryz.ntmps41
    go_wp2
    go_ret
    exact ⟨rfl, rfl⟩

theorem index_byte (c : UInt8) : ∀ l : List UInt8, Lib.index l [c] = Lib.indexByte l c
  | [] => rfl
  | b :: l => by
    have ih := index_byte c l
    unfold Lib.indexByte
    by_cases h : b = c
    · subst h; rw [index_same]; simp
    · have hb : (b == c) = false := by simpa using h
      rw [index_next h, ih]
      simp only [hb, Bool.false_eq_true, if_false]
set_option maxRecDepth 100000 in
set_option maxHeartbeats 2000000 in
theorem stCut_c (s : ByteArray) (hs : s.size ≤ 4294967295) (c : UInt8) (w : World) :
    Calls Tryz.prog 32 #[.string s, .string ⟨#[c]⟩] w fun e w' => e = .returned (.tuple #[S (cutAt c s.data.toList).1, S (cutAt c s.data.toList).2.1, .bool (cutAt c s.data.toList).2.2]) ∧ ∃ n, w' = w.drewN n := by
  rw [← cut_one]
  rcases Lib.indexB_cases s ⟨#[c]⟩ with hix | ⟨i, hix, hroom⟩
  · obtain ⟨e1, e2, e3⟩ := Lib.cutB_miss s ⟨#[c]⟩ hix
    have hi : Lib.indexByte s.data.toList c = -1 := by rw [← index_byte]; exact hix
    change (⟨(Lib.cut s.data.toList [c]).1.toArray⟩ : ByteArray) = _ at e1
    change (⟨(Lib.cut s.data.toList [c]).2.1.toArray⟩ : ByteArray) = _ at e2
    change (Lib.cut s.data.toList [c]).2.2 = _ at e3
    rw [S, S, e1, e2, e3]
    have hI := fun w => Tryz.stringslite_Index_one s c w
    simp only [hi] at hI
    clear hi hix e1 e2 e3
    have mixed := Tryz.lays220.mixed
    go_enter Tryz.func32, Tryz.ntmps32
    go_wp2_with (go_at_call 44; refine (hI _).mono ?_; rintro e w' ⟨rfl, rfl⟩)
    go_ret3
    exact ⟨rfl, 0, rfl⟩
  · obtain ⟨e1, e2, e3⟩ := Lib.cutB_hit s ⟨#[c]⟩ i hix
    have hi : Lib.indexByte s.data.toList c = i := by rw [← index_byte]; exact hix
    change (⟨(Lib.cut s.data.toList [c]).1.toArray⟩ : ByteArray) = _ at e1
    change (⟨(Lib.cut s.data.toList [c]).2.1.toArray⟩ : ByteArray) = _ at e2
    change (Lib.cut s.data.toList [c]).2.2 = _ at e3
    have hz : (⟨#[c]⟩ : ByteArray).size = 1 := rfl
    rw [hz] at hroom e2
    rw [S, S, e1, e2, e3]
    have hI := fun w => Tryz.stringslite_Index_one s c w
    simp only [hi] at hI
    have c1 : (0 : Int) ≤ (i : Int) := by omega
    have c2 : (i : Int) ≤ (s.size : Int) := by omega
    have c3 : (0 : Int) ≤ (i : Int) + 1 := by omega
    have c4 : ((i : Int) + 1 : Int) ≤ (s.size : Int) := by omega
    clear hi hix e1 e2 e3
    have mixed := Tryz.lays220.mixed
    go_enter Tryz.func32, Tryz.ntmps32
    go_wp2_with (go_at_call 44; refine (hI _).mono ?_; rintro e w' ⟨rfl, rfl⟩)
    go_region_o
    go_wp2
    go_ret3
    exact ⟨rfl, 1, rfl⟩
set_option maxRecDepth 100000 in
set_option maxHeartbeats 2000000 in
theorem cut_c (s : ByteArray) (hs : s.size ≤ 4294967295) (c : UInt8) (w : World) :
    Calls Tryz.prog 16 #[.string s, .string ⟨#[c]⟩] w fun e w' => e = .returned (.tuple #[S (cutAt c s.data.toList).1, S (cutAt c s.data.toList).2.1, .bool (cutAt c s.data.toList).2.2]) ∧ ∃ n, w' = w.drewN n := by
  have hC := fun w => stCut_c s hs c w
  generalize cutAt c s.data.toList = q at hC ⊢
  obtain ⟨a, b, f⟩ := q
  dsimp only at hC ⊢
  go_enter Tryz.func16, Tryz.ntmps16
  go_wp2_with (go_at_call 32; refine (hC _).mono ?_; rintro e w' ⟨rfl, n, rfl⟩)
  go_ret3
  exact ⟨rfl, n, rfl⟩
end Go.Proofs.YtlgfjacjcacmmaaGreatDoor
