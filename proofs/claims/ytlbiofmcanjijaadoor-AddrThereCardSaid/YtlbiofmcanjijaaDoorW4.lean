/- The walk of addr.Letters. -/
import Derived.Test.YtlbiofmcanjijaaDoorW3
import Derived.Laws.CopyOwn
namespace Go.Proofs.YtlbiofmcanjijaaDoor
open Go.RowKit
open Ad

def bytesV (l : List UInt8) : List Value := l.map fun b => .int .u8 b.toNat
def Row (B : Nat) (w : World) (v : Value) (l : List UInt8) : Prop :=
  (l = [] ∧ v = .slice none 0 0) ∨ (∃ g, B ≤ g ∧ v = .slice (some ⟨g, 0, none⟩) l.length l.length ∧ w.heap[g]? = some (.cells (bytesV l).toArray 5 (0, 0)) ∧ l ≠ [])

theorem mk1 : ∀ w, (Instr.makeSlice 45 (.int .i64 1) (.int .i64 1)).run Tryd.prog w = .ok (.slice (some ⟨w.heap.size, 0, none⟩) 1 1) (w.alloc (.cells #[.int .u8 0] 5)) := fun _ => by kernel_rfl
theorem mk2 : ∀ w, (Instr.makeSlice 45 (.int .i64 2) (.int .i64 2)).run Tryd.prog w = .ok (.slice (some ⟨w.heap.size, 0, none⟩) 2 2) (w.alloc (.cells #[.int .u8 0, .int .u8 0] 5)) := fun _ => by kernel_rfl
theorem mk3 : ∀ w, (Instr.makeSlice 45 (.int .i64 3) (.int .i64 3)).run Tryd.prog w = .ok (.slice (some ⟨w.heap.size, 0, none⟩) 3 3) (w.alloc (.cells #[.int .u8 0, .int .u8 0, .int .u8 0] 5)) := fun _ => by kernel_rfl

theorem lets_room (c c0 : Int) (l : List UInt8) (h0 : 0 ≤ c) (h1 : c ≤ 18277) (h : lets c ++ l = lets c0) : l = [] ∨ (∃ a, l = [a]) ∨ ∃ a b, l = [a, b] := by
  have h2 := lets_len c0
  have h3 : 1 ≤ (lets c).length := by have := lets_ne c h0 h1; cases h : lets c <;> simp_all
  rw [← h, List.length_append] at h2
  match l with
  | [] => exact .inl rfl
  | [a] => exact .inr (.inl ⟨a, rfl⟩)
  | [a, b] => exact .inr (.inr ⟨a, b, rfl⟩)
  | a :: b :: c :: t => simp at h2; omega


theorem L_val (c : Int) (_h0 : 0 ≤ c) : (65 + c % 26 : Int) = ((L (c % 26)).toNat : Int) := by
  rw [L_toNat _ (by omega) (by omega)]; omega
theorem new_cell (w : World) (g : Nat) (cs cs' : List Value) (o : Obj) (h : w.heap[g]? = some (.cells cs.toArray 5 (0, 0))) (hc : cs' = cs) :
    ∀ (j : Nat) v, cs'[j]? = some v → (w.alloc o).cell? ((⟨g, 0, none⟩ : Addr).add j) = some v := by
  subst hc
  intro j v hj
  have hlt : g < w.heap.size := lt_of_block h
  have h2 : (w.alloc o).heap[g]? = some (.cells cs'.toArray 5 (0, 0)) := by rw [Below.heap_alloc w o g hlt]; exact h
  have e : (⟨g, 0, none⟩ : Addr).add j = ⟨g, j, none⟩ := by unfold Addr.add; split <;> simp_all
  rw [e, cell_of_row _ g j cs'.toArray 5 (0, 0) h2]
  simpa using hj
theorem fold_bytes (l : List UInt8) : ∀ s : ByteArray, (l.map fun b => (b.toNat : Int)).foldl (fun r n => r.push (UInt8.ofNat n.toNat)) s = ⟨(s.data.toList ++ l).toArray⟩ := by
  induction l with
  | nil => intro s; simp
  | cons b l ih => intro s; simp only [List.map_cons, List.foldl_cons]; rw [ih]; simp [ByteArray.push]
theorem row_string {B : Nat} {w : World} {v : Value} {l : List UInt8} (h : Row B w v l) : (convert 45 9 v).run Tryd.prog w = .ok (S l) w := by
  rcases h with ⟨rfl, rfl⟩ | ⟨g, _, rfl, hg, _⟩
  · rw [run_convert_bytes_string w 45 9 5 _ _ _ Tryd.underlying45 Tryd.underlying5 Tryd.underlying9]
    simp [Conv.bytesToString]; rfl
  · rw [run_convert_bytes_string w 45 9 5 _ _ _ Tryd.underlying45 Tryd.underlying5 Tryd.underlying9]
    rw [run_bytesToString w _ _ _ (l.map fun b => (b.toNat : Int)), fold_bytes]
    · rfl
    · have hc : ∀ (j : Nat) (u : Value), (bytesV l)[j]? = some u → w.cell? ((⟨g, 0, none⟩ : Addr).add j) = some u := by
        intro j u hj
        have e : (⟨g, 0, none⟩ : Addr).add j = ⟨g, j, none⟩ := by unfold Addr.add; split <;> simp_all
        rw [e, cell_of_row _ g j _ 5 (0, 0) hg]
        simpa using hj
      have hq := run_loadCells_list (P := Tryd.prog) w ⟨g, 0, none⟩ (bytesV l) hc
      rw [show (bytesV l).length = l.length by simp [bytesV]] at hq
      rw [hq]
      simp [bytesV, List.map_map, Function.comp_def]

set_option maxHeartbeats 1000000 in
theorem letters_any (c0 : Int) (w : World) (hlo : -9223372036854775808 ≤ c0) (hhi : c0 ≤ 9223372036854775807) :
    Calls Tryd.prog 10 #[.int .i64 c0] w fun e w' => e = .returned (S (lets c0)) ∧ Below w.heap.size w w' := by
  by_cases hr : rightB 0 c0 = true
  · have hc : 0 ≤ c0 ∧ c0 ≤ 18277 := by unfold rightB at hr; simpa using hr
    obtain ⟨hc1, hc2⟩ := hc
    go_enter Tryd.func10, Tryd.ntmps10
    go_wp2_with (go_at_call 23; refine (right_any _ _ _).mono ?_; rintro e w' ⟨rfl, rfl⟩)
    go_loopw [0, 3] (fun cv v wr => ∃ (c : Int) (l : List UInt8), cv = .int .i64 c ∧ Hid (Row w.heap.size wr v l) ∧ Hid (lets c ++ l = lets c0) ∧ -1 ≤ c ∧ c ≤ 18277 ∧ Below w.heap.size w wr) (fun cv _ _ => (intOf cv + 1).toNat)
    case atStart => exact ⟨c0, [], rfl, .inl ⟨rfl, rfl⟩, by show _ = _; simp, by omega, by omega, Below.refl _ _⟩
    case round =>
      obtain ⟨c, l, rfl, hrow, hl, b0, b1, hb⟩ := hrel
      by_cases h0 : 0 ≤ c
      · have hst := Lib.hid (show lets (c / 26 - 1) ++ L (c % 26) :: l = lets c0 by rw [← hl.out, lets_step c h0 b1]; simp)
        have hLv := Lib.hid (L_val c h0)
        have d1 : 0 ≤ c / 26 := by omega
        rcases lets_room c c0 l h0 b1 hl.out with rfl | ⟨a, rfl⟩ | ⟨a, b, rfl⟩
        · rcases hrow.out with ⟨_, rfl⟩ | ⟨g, _, _, _, hx⟩
          · have hmk := mk1
            go_wp2_with (with_reducible refine wpList_copy_splice rfl (.tmp 21) (.tmp 22) 45 45 rfl 5 Tryd.underlying45 (by kernel_rfl) _ _ _ _ _ _ rfl rfl wr.heap.size 1 [.int .u8 (65 + c % 26)] 5 (heap_alloc_new _ _) [] rfl (fun h => absurd h (by simp)) (by simp) (by simp) w.heap.size w (hb.alloc hb.size _) hb.size ?_; intro w2 HG2 hB2)
            go_roundw
            case rel => exact ⟨c / 26 - 1, [L (c % 26)], rfl, .inr ⟨wr.heap.size, hb.size, rfl, by rw [HG2.out, hLv.out]; rfl, by simp⟩, hst, by omega, by omega, hB2⟩
            case measure => simp [intOf]; omega
          · exact absurd rfl hx
        · rcases hrow.out with ⟨hx, _⟩ | ⟨g, hg, rfl, hgc, _⟩
          · cases hx
          · have HGC := Lib.hid hgc
            clear hgc
            have hmk := mk2
            go_wp2_with (with_reducible refine wpList_copy_splice rfl (.tmp 21) (.tmp 22) 45 45 rfl 5 Tryd.underlying45 (by kernel_rfl) _ _ _ _ _ _ rfl rfl wr.heap.size 1 [.int .u8 (65 + c % 26), .int .u8 0] 5 (heap_alloc_new _ _) (bytesV [a]) rfl (fun _ => ⟨rfl, _, rfl, new_cell _ _ _ _ _ HGC.out rfl⟩) (by simp [bytesV]) (by simp [bytesV, Value.oneCell']) w.heap.size w (hb.alloc hb.size _) hb.size ?_; intro w2 HG2 hB2)
            go_roundw
            case rel => exact ⟨c / 26 - 1, [L (c % 26), a], rfl, .inr ⟨wr.heap.size, hb.size, rfl, by rw [HG2.out, hLv.out]; rfl, by simp⟩, hst, by omega, by omega, hB2⟩
            case measure => simp [intOf]; omega
        · rcases hrow.out with ⟨hx, _⟩ | ⟨g, hg, rfl, hgc, _⟩
          · cases hx
          · have HGC := Lib.hid hgc
            clear hgc
            have hmk := mk3
            go_wp2_with (with_reducible refine wpList_copy_splice rfl (.tmp 21) (.tmp 22) 45 45 rfl 5 Tryd.underlying45 (by kernel_rfl) _ _ _ _ _ _ rfl rfl wr.heap.size 1 [.int .u8 (65 + c % 26), .int .u8 0, .int .u8 0] 5 (heap_alloc_new _ _) (bytesV [a, b]) rfl (fun _ => ⟨rfl, _, rfl, new_cell _ _ _ _ _ HGC.out rfl⟩) (by simp [bytesV]) (by simp [bytesV, Value.oneCell']) w.heap.size w (hb.alloc hb.size _) hb.size ?_; intro w2 HG2 hB2)
            go_roundw
            case rel => exact ⟨c / 26 - 1, [L (c % 26), a, b], rfl, .inr ⟨wr.heap.size, hb.size, rfl, by rw [HG2.out, hLv.out]; rfl, by simp⟩, hst, by omega, by omega, hB2⟩
            case measure => simp [intOf]; omega
      · have hcv := row_string hrow.out
        have hfin := Lib.hid (show l = lets c0 by rw [← hl.out, lets_neg c (by omega)]; rfl)
        go_wp2
        go_ret
        exact ⟨by rw [← hfin.out]; rfl, hb⟩
  · have hr' : rightB 0 c0 = false := by simpa using hr
    have hc : c0 < 0 ∨ 18277 < c0 := by unfold rightB at hr'; simp at hr'; omega
    have hl := Lib.hid ((lets_nil c0).2 hc)
    clear hc hr
    go_enter Tryd.func10, Tryd.ntmps10
    go_wp2_with (go_at_call 23; refine (right_any _ _ _).mono ?_; rintro e w' ⟨rfl, rfl⟩)
    go_ret
    exact ⟨by rw [hl.out]; rfl, Below.refl _ _⟩
end Go.Proofs.YtlbiofmcanjijaaDoor
