/- counterpaneref41.read. -/
import Derived.Test.YtlgfjacjcacmmaaGreatDoorKnM
import Derived.Test.YtlgfjacjcacmmaaGreatDoorKaM
import Derived.Test.YtlgfjacjcacmmaaGreatDoorJnM
namespace Go.Proofs.YtlgfjacjcacmmaaGreatDoor
set_option linter.unusedSimpArgs false
set_option linter.unusedVariables false
open Go Go.RowKit Go.Shelf

theorem results_cell_flag {P : Program} {fn : Func} {p u : Tmp} {ty : TypeId} (h : fn.results = #[.cell p ty, .tmp u]) (tmps : Array Value) (w : World) (g : Nat) (t : TypeId) (cs : Array Value) (fr : Nat × Nat) (d : TypeDesc)
    (hp : tmps.getD p undef = .pointer (some ⟨g, 0, none⟩)) (hg : w.heap[g]? = some (.cells cs t fr))
    (hu : P.underlying ty = some d) (hd : (match d with | .struct _ | .array _ _ => true | _ => false) = true) (hi : (P.info? ty).map (·.size) = some cs.size) :
    (results fn tmps).run P w = .ok (.tuple #[.agg cs, tmps.getD u undef]) w := by
  have hp' : tmps[p]?.getD undef = .pointer (some ⟨g, 0, none⟩) := by simpa using hp
  simp [results, h, hp', asAddr, run_loadVar_row w g t ty cs fr d hg hu hd hi]
theorem toL (l : List UInt8) : (⟨l.toArray⟩ : ByteArray).data.toList = l := by simp
theorem rcutL_c (l : List UInt8) (hl : l.length ≤ 1048576) (w : World) :
    Calls Tryz.prog 19 #[S l] w fun e w' => e = .returned (.tuple #[S (cutAt 32 l).1, S (cutAt 32 l).2.1, .bool (cutAt 32 l).2.2]) ∧ Below w.heap.size w w' ∧ w'.heap.size = w.heap.size := by
  have h := rcut_c ⟨l.toArray⟩ (by simp [ByteArray.size]; omega) w
  rw [toL] at h
  exact h.mono fun e w' ⟨h1, n, h2⟩ => ⟨h1, by rw [h2]; exact below_drewN (Below.refl _ _) n, by rw [h2]; rfl⟩
theorem rnumL_c (l : List UInt8) (hl : l.length ≤ 1048576) (w : World) :
    Calls Tryz.prog 20 #[S l] w fun e w' => e = .returned (.int .i64 (numR l)) ∧ w = w' := by
  have h := rnum_c ⟨l.toArray⟩ (by simp [ByteArray.size]; omega) w
  rwa [toL] at h
theorem undRd : Tryz.prog.underlying 50 = some (.struct (Tryz.prog.fieldsOf 50)) := by kernel_rfl
/-- the result's block, and the step ahead of it. -/
def RX (w : World) (b : Nat) (cs : Array Value) (wx : World) : Prop := Below b w wx ∧ wx.heap[b]? = some (.cells (stC 0 0 0 0 0 ⟨#[]⟩ ⟨#[]⟩) 50) ∧ wx.heap[b + 1]? = some (.cells cs 50)
theorem RX.next {w w1 w2 : World} {b : Nat} {cs : Array Value} (h : RX w b cs w1) (hb : Below w1.heap.size w1 w2) : RX w b cs w2 := by
  have h1 := (Array.getElem?_eq_some_iff.1 h.2.1).1
  have h2 := (Array.getElem?_eq_some_iff.1 h.2.2).1
  exact ⟨h.1.trans (hb.mono (by omega)), (hb.block b h1).trans h.2.1, (hb.block _ h2).trans h.2.2⟩
theorem RX.set {w w1 : World} {b : Nat} {cs : Array Value} (h : RX w b cs w1) (j : Nat) (v : Value) : RX w b (cs.setIfInBounds j v) (w1.setCell ⟨b + 1, j, none⟩ v) :=
  ⟨h.1.setCell (p := ⟨b + 1, j, none⟩) (by show b ≤ b + 1; omega) v, (Below.heap_setCell w1 ⟨b + 1, j, none⟩ v b (by show b ≠ b + 1; omega)).trans h.2.1, heap_setCell_same w1 (b + 1) j _ _ v h.2.2⟩
theorem RX.cell {w w1 : World} {b : Nat} {cs : Array Value} (h : RX w b cs w1) (j : Nat) (v : Value) (hv : cs[j]? = some v) : w1.cell? ⟨b + 1, j, none⟩ = some v := cell_of_row w1 (b + 1) j _ _ _ h.2.2 ▸ hv
theorem RX.fz {w w1 : World} {b : Nat} {cs : Array Value} (h : RX w b cs w1) (j : Nat) : w1.frozen? ⟨b + 1, j, none⟩ = false := fz_row h.2.2 j
/-- okR and pieces, of the parts. -/
def okF (kk : Int) (f1 f2 f3 f4 : Bool) : Bool := f1 && decide (kk ≠ 0) && (if kk = 1 then f2 && f3 && f4 else if kk ≤ 5 then f2 else if kk = 6 then f2 && f3 else if kk = 9 then f2 else !f2)
def xF (kk m1 m2 m3 m4 : Int) (a3 r3 r4 : List UInt8) : Stp :=
  if kk = 1 then ⟨1, m1, 0, m3, m4, ⟨#[]⟩, ⟨r4.toArray⟩⟩ else if 2 ≤ kk ∧ kk ≤ 5 then ⟨kk, m1, 0, m2, 0, ⟨#[]⟩, ⟨#[]⟩⟩ else if kk = 6 then ⟨6, m1, 0, 0, 0, ⟨a3.toArray⟩, ⟨r3.toArray⟩⟩ else if kk = 9 then ⟨9, m1, m2, 0, 0, ⟨#[]⟩, ⟨#[]⟩⟩ else ⟨kk, m1, 0, 0, 0, ⟨#[]⟩, ⟨#[]⟩⟩
def kkOf (K : Int) (j : Nat) : Int := if K < j then K else 0
theorem kk_hit {K : Int} {j : Nat} (h : K = j) : kkOf K (j + 1) = j := by unfold kkOf; rw [if_pos (by omega), h]
theorem kk_miss {K : Int} {j : Nat} (h : ¬ K = j) : kkOf K (j + 1) = kkOf K j := by
  unfold kkOf
  by_cases h1 : K < j
  · rw [if_pos (by omega), if_pos h1]
  · rw [if_neg (by omega), if_neg h1]
/-- what is read. -/
def ReadPost (L : List UInt8) (w : World) (e : Ending) (w' : World) : Prop :=
  ∃ x : Stp, e = .returned (.tuple #[.agg #[.int .i64 x.k, .int .i64 x.wr, .int .i64 x.dst, .int .i64 x.row, .int .i64 x.col, .string x.name, .string x.text], .bool (okR L)]) ∧ (okR L = true → x = pieces numR L) ∧ x.name.size ≤ 1048576 ∧ x.text.size ≤ 1048576 ∧ Below w.heap.size w w'
set_option maxRecDepth 100000 in
set_option maxHeartbeats 4000000 in
theorem rread_c (L : List UInt8) (hll : L.length ≤ 1048576) (w : World) : Calls Tryz.prog 21 #[S L] w (ReadPost L w) := by
  have k1 := cutAt_len 32 L
  have k2 := cutAt_len 32 (cutAt 32 L).2.1
  have k3 := cutAt_len 32 (cutAt 32 (cutAt 32 L).2.1).2.1
  have k4 := cutAt_len 32 (cutAt 32 (cutAt 32 (cutAt 32 L).2.1).2.1).2.1
  have C1 := fun w => rcutL_c L (by omega) w
  have N1 := fun w => rnumL_c (cutAt 32 L).1 (by omega) w
  have C2 := fun w => rcutL_c (cutAt 32 L).2.1 (by omega) w
  have C3 := fun w => rcutL_c (cutAt 32 (cutAt 32 L).2.1).2.1 (by omega) w
  have C4 := fun w => rcutL_c (cutAt 32 (cutAt 32 (cutAt 32 L).2.1).2.1).2.1 (by omega) w
  have N2 := fun w => rnumL_c (cutAt 32 (cutAt 32 L).2.1).2.1 (by omega) w
  have N3 := fun w => rnumL_c (cutAt 32 (cutAt 32 (cutAt 32 L).2.1).2.1).1 (by omega) w
  have N4 := fun w => rnumL_c (cutAt 32 (cutAt 32 (cutAt 32 (cutAt 32 L).2.1).2.1).2.1).1 (by omega) w
  unfold ReadPost
  have hX : pieces numR L = xF (kindOf (cutAt 32 (cutAt 32 L).2.1).1) (numR (cutAt 32 L).1) (numR (cutAt 32 (cutAt 32 L).2.1).2.1) (numR (cutAt 32 (cutAt 32 (cutAt 32 L).2.1).2.1).1) (numR (cutAt 32 (cutAt 32 (cutAt 32 (cutAt 32 L).2.1).2.1).2.1).1) (cutAt 32 (cutAt 32 (cutAt 32 L).2.1).2.1).1 (cutAt 32 (cutAt 32 (cutAt 32 L).2.1).2.1).2.1 (cutAt 32 (cutAt 32 (cutAt 32 (cutAt 32 L).2.1).2.1).2.1).2.1 := rfl
  have hok : okR L = okF (kindOf (cutAt 32 (cutAt 32 L).2.1).1) (cutAt 32 L).2.2 (cutAt 32 (cutAt 32 L).2.1).2.2 (cutAt 32 (cutAt 32 (cutAt 32 L).2.1).2.1).2.2 (cutAt 32 (cutAt 32 (cutAt 32 (cutAt 32 L).2.1).2.1).2.1).2.2 := rfl
  rw [hX, hok]
  clear hX hok
  obtain ⟨a1, ha1⟩ : ∃ a, a = (cutAt 32 L).1 := ⟨_, rfl⟩
  obtain ⟨r1, hr1⟩ : ∃ a, a = (cutAt 32 L).2.1 := ⟨_, rfl⟩
  obtain ⟨f1, hf1⟩ : ∃ a, a = (cutAt 32 L).2.2 := ⟨_, rfl⟩
  simp only [← ha1, ← hr1, ← hf1] at C1 C2 C3 C4 N1 N2 N3 N4 k1 k2 k3 k4 ⊢
  obtain ⟨a2, ha2⟩ : ∃ a, a = (cutAt 32 r1).1 := ⟨_, rfl⟩
  obtain ⟨r2, hr2⟩ : ∃ a, a = (cutAt 32 r1).2.1 := ⟨_, rfl⟩
  obtain ⟨f2, hf2⟩ : ∃ a, a = (cutAt 32 r1).2.2 := ⟨_, rfl⟩
  simp only [← ha2, ← hr2, ← hf2] at C2 C3 C4 N2 N3 N4 k2 k3 k4 ⊢
  obtain ⟨a3, ha3⟩ : ∃ a, a = (cutAt 32 r2).1 := ⟨_, rfl⟩
  obtain ⟨r3, hr3⟩ : ∃ a, a = (cutAt 32 r2).2.1 := ⟨_, rfl⟩
  obtain ⟨f3, hf3⟩ : ∃ a, a = (cutAt 32 r2).2.2 := ⟨_, rfl⟩
  simp only [← ha3, ← hr3, ← hf3] at C3 C4 N3 N4 k3 k4 ⊢
  obtain ⟨a4, ha4⟩ : ∃ a, a = (cutAt 32 r3).1 := ⟨_, rfl⟩
  obtain ⟨r4, hr4⟩ : ∃ a, a = (cutAt 32 r3).2.1 := ⟨_, rfl⟩
  obtain ⟨f4, hf4⟩ : ∃ a, a = (cutAt 32 r3).2.2 := ⟨_, rfl⟩
  simp only [← ha4, ← hr4, ← hf4] at C4 N4 k4 ⊢
  obtain ⟨m1, hm1⟩ : ∃ m, numR a1 = m := ⟨_, rfl⟩
  obtain ⟨m2, hm2⟩ : ∃ m, numR r2 = m := ⟨_, rfl⟩
  obtain ⟨m3, hm3⟩ : ∃ m, numR a3 = m := ⟨_, rfl⟩
  obtain ⟨m4, hm4⟩ : ∃ m, numR a4 = m := ⟨_, rfl⟩
  rw [hm1] at N1 ⊢
  rw [hm2] at N2 ⊢
  rw [hm3] at N3 ⊢
  rw [hm4] at N4 ⊢
  have hz : a3.length ≤ 1048576 ∧ r3.length ≤ 1048576 ∧ r4.length ≤ 1048576 := by omega
  have hkr := kind_range a2
  have hkw : ∀ j : Nat, 1 ≤ j → j ≤ 10 → (wordL (j : Int) = a2 ↔ kindOf a2 = (j : Int)) := fun j h h' => by
    constructor
    · intro e; rw [← e]; exact kind_word (by omega) (by omega)
    · intro e; rcases hkr with h0 | ⟨h1, h2, h3⟩
      · omega
      · rw [← e]; exact h3
  have hk0 : 0 ≤ kindOf a2 ∧ kindOf a2 ≤ 10 := by rcases hkr with h0 | ⟨h1, h2, -⟩ <;> omega
  obtain ⟨K, hK⟩ : ∃ K, kindOf a2 = K := ⟨_, rfl⟩
  rw [hK] at hk0 ⊢
  simp only [hK] at hkw
  obtain ⟨b, hb⟩ : ∃ b, b = w.heap.size := ⟨_, rfl⟩
  obtain ⟨W, hW⟩ : ∃ W, W = w.alloc (.cells (stC 0 0 0 0 0 ⟨#[]⟩ ⟨#[]⟩) 50) := ⟨_, rfl⟩
  have hW0 : Below b w W ∧ W.heap[b]? = some (.cells (stC 0 0 0 0 0 ⟨#[]⟩ ⟨#[]⟩) 50) ∧ W.heap.size = b + 1 := by
    rw [hW, hb]; exact ⟨(Below.refl _ w).alloc (Nat.le_refl _) _, heap_alloc_new w _, by simp⟩
  obtain ⟨B2, hB2⟩ : ∃ b : ByteArray, b = ⟨a2.toArray⟩ := ⟨_, rfl⟩
  have hBl : B2.data.toList = a2 := by rw [hB2]
  have hBs : S a2 = .string B2 := by rw [hB2]
  rw [hBs] at C2
  have hIS : ∀ a b c d e (f g : Value), (Tryz.prog.info? 50).map (·.size) = some (#[a, b, c, d, e, f, g] : Array Value).size := fun _ _ _ _ _ _ _ => by kernel_rfl
  have hW' := hW
  unfold stC at hW'
  have HBL := Lib.hid hBl
  have HW0 := Lib.hid hW0
  have HKW := Lib.hid hkw
  have HK0 := Lib.hid hk0
  have HB := Lib.hid hb
  have HW := Lib.hid hW'
  have HC1 := Lib.hid C1
  have HC2 := Lib.hid C2
  have HC3 := Lib.hid C3
  have HC4 := Lib.hid C4
  have HN1 := Lib.hid N1
  have HN2 := Lib.hid N2
  have HN3 := Lib.hid N3
  have HN4 := Lib.hid N4
  have HZ := Lib.hid hz
  have HIS := Lib.hid hIS
  clear hBl hBs hB2 hW0 hkw hk0 hkr hK hW hW' C1 C2 C3 C4 N1 N2 N3 N4 hz hIS ha1 hr1 hf1 ha2 hr2 hf2 ha3 hr3 hf3 ha4 hr4 hf4 hm1 hm2 hm3 hm4 k1 k2 k3 k4 hll
  go_enter Tryz.func21, Tryz.ntmps21
  go_upto_region 1 with (fail)
  rw [← HW.out, ← hb]
  clear hb
  go_upto_region 2 with (go_at_call 19; refine (HC1.out _).mono ?_; rintro e w1 ⟨rfl, hb1, hz1⟩)
  have HW1 := Lib.hid (show Below b w w1 ∧ w1.heap[b]? = some (.cells (stC 0 0 0 0 0 ⟨#[]⟩ ⟨#[]⟩) 50) ∧ w1.heap.size = b + 1 from ⟨HW0.out.1.trans (hb1.mono (by rw [HW0.out.2.2]; omega)), (hb1.block b (by rw [HW0.out.2.2]; omega)).trans HW0.out.2.1, by rw [hz1]; exact HW0.out.2.2⟩)
  clear hb1 hz1
  obtain ⟨W2, hW2⟩ : ∃ x, x = w1.alloc (.cells (stC 0 m1 0 0 0 ⟨#[]⟩ ⟨#[]⟩) 50) := ⟨_, rfl⟩
  have HX2 := Lib.hid (show RX w b (stC 0 m1 0 0 0 ⟨#[]⟩ ⟨#[]⟩) W2 from ⟨by rw [hW2]; exact HW1.out.1.alloc (by rw [HW1.out.2.2]; omega) _, by rw [hW2]; exact (heapOld _ _ _ (by rw [HW1.out.2.2]; omega)).trans HW1.out.2.1, by rw [hW2]; have := heap_alloc_new w1 (.cells (stC 0 m1 0 0 0 ⟨#[]⟩ ⟨#[]⟩) 50); rwa [HW1.out.2.2] at this⟩)
  have hz1 : w1.heap.size = b + 1 := HW1.out.2.2
  unfold stC at hW2
  go_upto_region 3 with (go_at_call 20; refine (HN1.out _).mono ?_; rintro e w2 ⟨rfl, rfl⟩)
  rw [← hW2]
  clear hW2 hz1
  go_upto_region 4 with (go_at_call 19; refine (HC2.out _).mono ?_; rintro e w3 ⟨rfl, hb3, hz3⟩)
  have HX3 := Lib.hid (HX2.out.next hb3)
  clear hb3 hz3
  go_wp2_with fail
  go_loopw [10] (fun i wr => ∃ j : Nat, 1 ≤ j ∧ j ≤ 11 ∧ i = .int .i64 j ∧ Hid (RX w b (stC (kkOf K j) m1 0 0 0 ⟨#[]⟩ ⟨#[]⟩) wr)) (fun i _ => 11 - (intOf i).toNat)
  case atStart => exact ⟨1, Nat.le_refl _, by omega, rfl, Lib.hid (by rw [show kkOf K 1 = 0 by unfold kkOf; have := HK0.out; split <;> omega]; exact HX3.out)⟩
  case round =>
    obtain ⟨j, hj1, hj, rfl, hX⟩ := hrel
    by_cases hlt : j ≤ 10
    · have g1 : (j : Int) ≤ 10 := by omega
      have hV := rword_c (j : Int)
      obtain ⟨V, hVs, hVl⟩ : ∃ V : ByteArray, S (wordL (j : Int)) = .string V ∧ V.data.toList = wordL (j : Int) := ⟨⟨(wordL (j : Int)).toArray⟩, rfl, by simp⟩
      rw [hVs] at hV
      have HV := Lib.hid hV
      have hbj := HKW.out j hj1 hlt
      by_cases hw : wordL (j : Int) = a2
      · have hKj := Lib.hid (kk_hit (hbj.1 hw))
        have q1 : (V.toList == B2.toList) = true := by rw [ByteArray.toList_eq, ByteArray.toList_eq, hVl, HBL.out, hw]; simp
        clear hw hbj hV hVs hVl
        go_wp2_with (go_at_call 36; refine (HV.out _).mono ?_; rintro e w5 ⟨rfl, hw5⟩; have hX5 := hX.out.next (show Below wr.heap.size wr w5 by rw [hw5]; exact (Below.refl _ wr).alloc (Nat.le_refl _) _); have x0 : w5.cell? ⟨b + 1, 0, none⟩ = some (.int .i64 (kkOf K j)) := hX5.cell 0 _ rfl; have f0 := hX5.fz 0; have HX5 := Lib.hid hX5; clear hw5 hX5)
        go_roundw
        case rel => exact ⟨j + 1, by omega, by omega, by go_num, Lib.hid (by rw [hKj.out]; exact HX5.out.set 0 (.int .i64 j))⟩
        case measure => simp [intOf]; omega
      · have hKj := Lib.hid (kk_miss (fun e => hw (hbj.2 e)))
        have q1 : (V.toList == B2.toList) = false := by rw [beq_eq_false_iff_ne, ByteArray.toList_eq, ByteArray.toList_eq, hVl, HBL.out]; exact hw
        clear hw hbj hV hVs hVl
        go_wp2_with (go_at_call 36; refine (HV.out _).mono ?_; rintro e w5 ⟨rfl, hw5⟩; have HX5 := Lib.hid (hX.out.next (show Below wr.heap.size wr w5 by rw [hw5]; exact (Below.refl _ wr).alloc (Nat.le_refl _) _)); clear hw5)
        go_roundw
        case rel => exact ⟨j + 1, by omega, by omega, by go_num, Lib.hid (by rw [hKj.out]; exact HX5.out)⟩
        case measure => simp [intOf]; omega
    · obtain rfl : j = 11 := by omega
      have HX8 := Lib.hid (show RX w b (stC K m1 0 0 0 ⟨#[]⟩ ⟨#[]⟩) wr by have h := hX.out; rwa [show kkOf K 11 = K by unfold kkOf; have := HK0.out; rw [if_pos (by omega)]] at h)
      clear hX hlt
      have x0 : wr.cell? ⟨b + 1, 0, none⟩ = some (.int .i64 K) := HX8.out.cell 0 _ rfl
      have hKr := HK0.out
      cases f1 with
      | false =>
        go_wp2_with (first | (refine wpList_row rfl 50 _ rfl (b + 1) rfl 50 #[.int .i64 K, .int .i64 m1, .int .i64 0, .int .i64 0, .int .i64 0, .string ⟨#[]⟩, .string ⟨#[]⟩] (0, 0) _ HX8.out.2.2 undRd rfl (HIS.out _ _ _ _ _ _ _) ?_) | (refine wpList_store_row rfl 50 _ _ rfl b #[.int .i64 K, .int .i64 m1, .int .i64 0, .int .i64 0, .int .i64 0, .string ⟨#[]⟩, .string ⟨#[]⟩] rfl rfl 50 (stC 0 0 0 0 0 ⟨#[]⟩ ⟨#[]⟩) HX8.out.2.1 (HIS.out _ _ _ _ _ _ _) rfl (by kernel_rfl) ?_) | fail)
        refine bodyPost_ret (v := .tuple #[.agg #[.int .i64 K, .int .i64 m1, .int .i64 0, .int .i64 0, .int .i64 0, .string ⟨#[]⟩, .string ⟨#[]⟩], .bool false]) (results_cell_flag (p := 2) (u := 3) rfl _ _ b 50 #[.int .i64 K, .int .i64 m1, .int .i64 0, .int .i64 0, .int .i64 0, .string ⟨#[]⟩, .string ⟨#[]⟩] (0, 0) _ rfl (setRow_heap1 _ _ _ _ _ _ HX8.out.2.1) undRd rfl (HIS.out _ _ _ _ _ _ _)) rfl ?_
        exact ⟨⟨K, m1, 0, 0, 0, ⟨#[]⟩, ⟨#[]⟩⟩, by rw [show okF K false f2 f3 f4 = false by rfl], fun h => absurd h (by rw [show okF K false f2 f3 f4 = false by rfl]; decide), by show (⟨#[]⟩ : ByteArray).size ≤ _; decide, by show (⟨#[]⟩ : ByteArray).size ≤ _; decide, by rw [← HB.out]; exact below_row HX8.out.1 (Nat.le_refl _) _⟩
      | true =>
        by_cases c0 : K = 0
        · have q0 : (K == 0) = true := by simpa using c0
          have C0 := Lib.hid c0
          clear c0
          go_wp2_with (first | (refine wpList_row rfl 50 _ rfl (b + 1) rfl 50 #[.int .i64 K, .int .i64 m1, .int .i64 0, .int .i64 0, .int .i64 0, .string ⟨#[]⟩, .string ⟨#[]⟩] (0, 0) _ HX8.out.2.2 undRd rfl (HIS.out _ _ _ _ _ _ _) ?_) | (refine wpList_store_row rfl 50 _ _ rfl b #[.int .i64 K, .int .i64 m1, .int .i64 0, .int .i64 0, .int .i64 0, .string ⟨#[]⟩, .string ⟨#[]⟩] rfl rfl 50 (stC 0 0 0 0 0 ⟨#[]⟩ ⟨#[]⟩) HX8.out.2.1 (HIS.out _ _ _ _ _ _ _) rfl (by kernel_rfl) ?_) | fail)
          refine bodyPost_ret (v := .tuple #[.agg #[.int .i64 K, .int .i64 m1, .int .i64 0, .int .i64 0, .int .i64 0, .string ⟨#[]⟩, .string ⟨#[]⟩], .bool false]) (results_cell_flag (p := 2) (u := 3) rfl _ _ b 50 #[.int .i64 K, .int .i64 m1, .int .i64 0, .int .i64 0, .int .i64 0, .string ⟨#[]⟩, .string ⟨#[]⟩] (0, 0) _ rfl (setRow_heap1 _ _ _ _ _ _ HX8.out.2.1) undRd rfl (HIS.out _ _ _ _ _ _ _)) rfl ?_
          exact ⟨⟨K, m1, 0, 0, 0, ⟨#[]⟩, ⟨#[]⟩⟩, by rw [show okF K true f2 f3 f4 = false by unfold okF; rw [C0.out]; rfl], fun h => absurd h (by rw [show okF K true f2 f3 f4 = false by unfold okF; rw [C0.out]; rfl]; decide), by show (⟨#[]⟩ : ByteArray).size ≤ _; decide, by show (⟨#[]⟩ : ByteArray).size ≤ _; decide, by rw [← HB.out]; exact below_row HX8.out.1 (Nat.le_refl _) _⟩
        have q0 : (K == 0) = false := by simpa using c0
        by_cases c1 : K = 1
        · subst c1
          clear c0 q0
          go_upto_region 13 with (go_at_call 19; refine (HC3.out _).mono ?_; rintro e w9 ⟨rfl, hb9, hz9⟩)
          have HX9 := Lib.hid (HX8.out.next hb9)
          clear hb9 hz9 x0
          go_upto_region 14 with (go_at_call 19; refine (HC4.out _).mono ?_; rintro e w10 ⟨rfl, hb10, hz10⟩)
          have HX10 := Lib.hid (HX9.out.next hb10)
          clear hb10 hz10
          have x3 : w10.cell? ⟨b + 1, 3, none⟩ = some (.int .i64 0) := HX10.out.cell 3 _ rfl
          have g3 := HX10.out.fz 3
          have x4 : (w10.setCell ⟨b + 1, 3, none⟩ (.int .i64 m3)).cell? ⟨b + 1, 4, none⟩ = some (.int .i64 0) := (HX10.out.set 3 (.int .i64 m3)).cell 4 _ rfl
          have g4 := (HX10.out.set 3 (.int .i64 m3)).fz 4
          have x6 : ((w10.setCell ⟨b + 1, 3, none⟩ (.int .i64 m3)).setCell ⟨b + 1, 4, none⟩ (.int .i64 m4)).cell? ⟨b + 1, 6, none⟩ = some (.string ⟨#[]⟩) := ((HX10.out.set 3 (.int .i64 m3)).set 4 (.int .i64 m4)).cell 6 _ rfl
          have g6 := ((HX10.out.set 3 (.int .i64 m3)).set 4 (.int .i64 m4)).fz 6
          go_upto_region 15 with (first | (go_at_call_of 20 a3; refine (HN3.out _).mono ?_; rintro e w11 ⟨rfl, rfl⟩) | (go_at_call_of 20 a4; refine (HN4.out _).mono ?_; rintro e w11 ⟨rfl, rfl⟩))
          have HX11 := Lib.hid (show RX w b (stC 1 m1 0 m3 m4 ⟨#[]⟩ ⟨r4.toArray⟩) (((w10.setCell ⟨b + 1, 3, none⟩ (.int .i64 m3)).setCell ⟨b + 1, 4, none⟩ (.int .i64 m4)).setCell ⟨b + 1, 6, none⟩ (S r4)) from ((HX10.out.set 3 _).set 4 _).set 6 _)
          clear x3 g3 x4 g4 x6 g6
          obtain ⟨W11, hW11⟩ : ∃ x, x = (((w10.setCell ⟨b + 1, 3, none⟩ (.int .i64 m3)).setCell ⟨b + 1, 4, none⟩ (.int .i64 m4)).setCell ⟨b + 1, 6, none⟩ (S r4)) := ⟨_, rfl⟩
          rw [← hW11] at HX11 ⊢
          clear hW11
          cases f2 with
          | false =>
            go_wp2_with (first | (refine wpList_row rfl 50 _ rfl (b + 1) rfl 50 #[.int .i64 1, .int .i64 m1, .int .i64 0, .int .i64 m3, .int .i64 m4, .string ⟨#[]⟩, .string ⟨r4.toArray⟩] (0, 0) _ HX11.out.2.2 undRd rfl (HIS.out _ _ _ _ _ _ _) ?_) | (refine wpList_store_row rfl 50 _ _ rfl b #[.int .i64 1, .int .i64 m1, .int .i64 0, .int .i64 m3, .int .i64 m4, .string ⟨#[]⟩, .string ⟨r4.toArray⟩] rfl rfl 50 (stC 0 0 0 0 0 ⟨#[]⟩ ⟨#[]⟩) HX11.out.2.1 (HIS.out _ _ _ _ _ _ _) rfl (by kernel_rfl) ?_) | fail)
            refine bodyPost_ret (v := .tuple #[.agg #[.int .i64 1, .int .i64 m1, .int .i64 0, .int .i64 m3, .int .i64 m4, .string ⟨#[]⟩, .string ⟨r4.toArray⟩], .bool false]) (results_cell_flag (p := 2) (u := 3) rfl _ _ b 50 #[.int .i64 1, .int .i64 m1, .int .i64 0, .int .i64 m3, .int .i64 m4, .string ⟨#[]⟩, .string ⟨r4.toArray⟩] (0, 0) _ rfl (setRow_heap1 _ _ _ _ _ _ HX11.out.2.1) undRd rfl (HIS.out _ _ _ _ _ _ _)) rfl ?_
            exact ⟨⟨1, m1, 0, m3, m4, ⟨#[]⟩, ⟨r4.toArray⟩⟩, by rw [show okF 1 true false f3 f4 = false by rfl], fun h => rfl, by show (⟨#[]⟩ : ByteArray).size ≤ _; decide, by show (⟨r4.toArray⟩ : ByteArray).size ≤ _; rw [sizeL]; exact HZ.out.2.2, by rw [← HB.out]; exact below_row HX11.out.1 (Nat.le_refl _) _⟩
          | true =>
            cases f3 with
            | false =>
              go_wp2_with (first | (refine wpList_row rfl 50 _ rfl (b + 1) rfl 50 #[.int .i64 1, .int .i64 m1, .int .i64 0, .int .i64 m3, .int .i64 m4, .string ⟨#[]⟩, .string ⟨r4.toArray⟩] (0, 0) _ HX11.out.2.2 undRd rfl (HIS.out _ _ _ _ _ _ _) ?_) | (refine wpList_store_row rfl 50 _ _ rfl b #[.int .i64 1, .int .i64 m1, .int .i64 0, .int .i64 m3, .int .i64 m4, .string ⟨#[]⟩, .string ⟨r4.toArray⟩] rfl rfl 50 (stC 0 0 0 0 0 ⟨#[]⟩ ⟨#[]⟩) HX11.out.2.1 (HIS.out _ _ _ _ _ _ _) rfl (by kernel_rfl) ?_) | fail)
              refine bodyPost_ret (v := .tuple #[.agg #[.int .i64 1, .int .i64 m1, .int .i64 0, .int .i64 m3, .int .i64 m4, .string ⟨#[]⟩, .string ⟨r4.toArray⟩], .bool false]) (results_cell_flag (p := 2) (u := 3) rfl _ _ b 50 #[.int .i64 1, .int .i64 m1, .int .i64 0, .int .i64 m3, .int .i64 m4, .string ⟨#[]⟩, .string ⟨r4.toArray⟩] (0, 0) _ rfl (setRow_heap1 _ _ _ _ _ _ HX11.out.2.1) undRd rfl (HIS.out _ _ _ _ _ _ _)) rfl ?_
              exact ⟨⟨1, m1, 0, m3, m4, ⟨#[]⟩, ⟨r4.toArray⟩⟩, by rw [show okF 1 true true false f4 = false by rfl], fun h => rfl, by show (⟨#[]⟩ : ByteArray).size ≤ _; decide, by show (⟨r4.toArray⟩ : ByteArray).size ≤ _; rw [sizeL]; exact HZ.out.2.2, by rw [← HB.out]; exact below_row HX11.out.1 (Nat.le_refl _) _⟩
            | true =>
              go_wp2_with (first | (refine wpList_row rfl 50 _ rfl (b + 1) rfl 50 #[.int .i64 1, .int .i64 m1, .int .i64 0, .int .i64 m3, .int .i64 m4, .string ⟨#[]⟩, .string ⟨r4.toArray⟩] (0, 0) _ HX11.out.2.2 undRd rfl (HIS.out _ _ _ _ _ _ _) ?_) | (refine wpList_store_row rfl 50 _ _ rfl b #[.int .i64 1, .int .i64 m1, .int .i64 0, .int .i64 m3, .int .i64 m4, .string ⟨#[]⟩, .string ⟨r4.toArray⟩] rfl rfl 50 (stC 0 0 0 0 0 ⟨#[]⟩ ⟨#[]⟩) HX11.out.2.1 (HIS.out _ _ _ _ _ _ _) rfl (by kernel_rfl) ?_) | fail)
              refine bodyPost_ret (v := .tuple #[.agg #[.int .i64 1, .int .i64 m1, .int .i64 0, .int .i64 m3, .int .i64 m4, .string ⟨#[]⟩, .string ⟨r4.toArray⟩], .bool f4]) (results_cell_flag (p := 2) (u := 3) rfl _ _ b 50 #[.int .i64 1, .int .i64 m1, .int .i64 0, .int .i64 m3, .int .i64 m4, .string ⟨#[]⟩, .string ⟨r4.toArray⟩] (0, 0) _ rfl (setRow_heap1 _ _ _ _ _ _ HX11.out.2.1) undRd rfl (HIS.out _ _ _ _ _ _ _)) rfl ?_
              exact ⟨⟨1, m1, 0, m3, m4, ⟨#[]⟩, ⟨r4.toArray⟩⟩, by rw [show okF 1 true true true f4 = f4 by rfl], fun h => rfl, by show (⟨#[]⟩ : ByteArray).size ≤ _; decide, by show (⟨r4.toArray⟩ : ByteArray).size ≤ _; rw [sizeL]; exact HZ.out.2.2, by rw [← HB.out]; exact below_row HX11.out.1 (Nat.le_refl _) _⟩
        have q1 : (K == 1) = false := by simpa using c1
        by_cases c5 : K ≤ 5
        · have C5 := Lib.hid (And.intro c0 (And.intro c1 (And.intro c5 HK0.out)))
          clear c0 c1 hKr
          have x3 : wr.cell? ⟨b + 1, 3, none⟩ = some (.int .i64 0) := HX8.out.cell 3 _ rfl
          have g3 := HX8.out.fz 3
          go_upto_region 18 with (go_at_call 20; refine (HN2.out _).mono ?_; rintro e w11 ⟨rfl, rfl⟩)
          have HX11 := Lib.hid (show RX w b (stC K m1 0 m2 0 ⟨#[]⟩ ⟨#[]⟩) (wr.setCell ⟨b + 1, 3, none⟩ (.int .i64 m2)) from HX8.out.set 3 _)
          clear x0 x3 g3
          obtain ⟨W11, hW11⟩ : ∃ x, x = wr.setCell ⟨b + 1, 3, none⟩ (.int .i64 m2) := ⟨_, rfl⟩
          rw [← hW11] at HX11 ⊢
          clear hW11
          go_wp2_with (first | (refine wpList_row rfl 50 _ rfl (b + 1) rfl 50 #[.int .i64 K, .int .i64 m1, .int .i64 0, .int .i64 m2, .int .i64 0, .string ⟨#[]⟩, .string ⟨#[]⟩] (0, 0) _ HX11.out.2.2 undRd rfl (HIS.out _ _ _ _ _ _ _) ?_) | (refine wpList_store_row rfl 50 _ _ rfl b #[.int .i64 K, .int .i64 m1, .int .i64 0, .int .i64 m2, .int .i64 0, .string ⟨#[]⟩, .string ⟨#[]⟩] rfl rfl 50 (stC 0 0 0 0 0 ⟨#[]⟩ ⟨#[]⟩) HX11.out.2.1 (HIS.out _ _ _ _ _ _ _) rfl (by kernel_rfl) ?_) | fail)
          refine bodyPost_ret (v := .tuple #[.agg #[.int .i64 K, .int .i64 m1, .int .i64 0, .int .i64 m2, .int .i64 0, .string ⟨#[]⟩, .string ⟨#[]⟩], .bool f2]) (results_cell_flag (p := 2) (u := 3) rfl _ _ b 50 #[.int .i64 K, .int .i64 m1, .int .i64 0, .int .i64 m2, .int .i64 0, .string ⟨#[]⟩, .string ⟨#[]⟩] (0, 0) _ rfl (setRow_heap1 _ _ _ _ _ _ HX11.out.2.1) undRd rfl (HIS.out _ _ _ _ _ _ _)) rfl ?_
          exact ⟨⟨K, m1, 0, m2, 0, ⟨#[]⟩, ⟨#[]⟩⟩, by rw [show okF K true f2 f3 f4 = f2 by have := C5.out; unfold okF; rw [decide_eq_true (by omega), if_neg (by omega), if_pos (by omega)]; rfl], fun h => by have := C5.out; unfold xF; rw [if_neg (by omega), if_pos (by omega)], by show (⟨#[]⟩ : ByteArray).size ≤ _; decide, by show (⟨#[]⟩ : ByteArray).size ≤ _; decide, by rw [← HB.out]; exact below_row HX11.out.1 (Nat.le_refl _) _⟩
        have q5 : ¬ K ≤ 5 := c5
        by_cases c6 : K = 6
        · subst c6
          clear c0 q0 c1 q1 q5 hKr
          have x5 : ∀ wx, Below wr.heap.size wr wx → wx.cell? ⟨b + 1, 5, none⟩ = some (.string ⟨#[]⟩) := fun wx h => (HX8.out.next h).cell 5 _ rfl
          have x6 : ∀ wx, Below wr.heap.size wr wx → (wx.setCell ⟨b + 1, 5, none⟩ (S a3)).cell? ⟨b + 1, 6, none⟩ = some (.string ⟨#[]⟩) := fun wx h => ((HX8.out.next h).set 5 (S a3)).cell 6 _ rfl
          have g5 : ∀ wx, Below wr.heap.size wr wx → wx.frozen? ⟨b + 1, 5, none⟩ = false := fun wx h => (HX8.out.next h).fz 5
          have g6 : ∀ wx, Below wr.heap.size wr wx → (wx.setCell ⟨b + 1, 5, none⟩ (S a3)).frozen? ⟨b + 1, 6, none⟩ = false := fun wx h => ((HX8.out.next h).set 5 (S a3)).fz 6
          have X5 := Lib.hid x5
          have X6 := Lib.hid x6
          have G5 := Lib.hid g5
          have G6 := Lib.hid g6
          clear x5 x6 g5 g6
          go_upto_region 22 with (go_at_call 19; refine (HC3.out _).mono ?_; rintro e w9 ⟨rfl, hb9, hz9⟩; have x5 := X5.out _ hb9; have x6 := X6.out _ hb9; have g5 := G5.out _ hb9; have g6 := G6.out _ hb9)
          have HX11 := Lib.hid (show RX w b (stC 6 m1 0 0 0 ⟨a3.toArray⟩ ⟨r3.toArray⟩) ((w9.setCell ⟨b + 1, 5, none⟩ (S a3)).setCell ⟨b + 1, 6, none⟩ (S r3)) from ((HX8.out.next hb9).set 5 _).set 6 _)
          clear x0 x5 x6 g5 g6 hb9 hz9
          obtain ⟨W11, hW11⟩ : ∃ x, x = (w9.setCell ⟨b + 1, 5, none⟩ (S a3)).setCell ⟨b + 1, 6, none⟩ (S r3) := ⟨_, rfl⟩
          rw [← hW11] at HX11 ⊢
          clear hW11
          cases f2 with
          | false =>
            go_wp2_with (first | (refine wpList_row rfl 50 _ rfl (b + 1) rfl 50 #[.int .i64 6, .int .i64 m1, .int .i64 0, .int .i64 0, .int .i64 0, .string ⟨a3.toArray⟩, .string ⟨r3.toArray⟩] (0, 0) _ HX11.out.2.2 undRd rfl (HIS.out _ _ _ _ _ _ _) ?_) | (refine wpList_store_row rfl 50 _ _ rfl b #[.int .i64 6, .int .i64 m1, .int .i64 0, .int .i64 0, .int .i64 0, .string ⟨a3.toArray⟩, .string ⟨r3.toArray⟩] rfl rfl 50 (stC 0 0 0 0 0 ⟨#[]⟩ ⟨#[]⟩) HX11.out.2.1 (HIS.out _ _ _ _ _ _ _) rfl (by kernel_rfl) ?_) | fail)
            refine bodyPost_ret (v := .tuple #[.agg #[.int .i64 6, .int .i64 m1, .int .i64 0, .int .i64 0, .int .i64 0, .string ⟨a3.toArray⟩, .string ⟨r3.toArray⟩], .bool false]) (results_cell_flag (p := 2) (u := 3) rfl _ _ b 50 #[.int .i64 6, .int .i64 m1, .int .i64 0, .int .i64 0, .int .i64 0, .string ⟨a3.toArray⟩, .string ⟨r3.toArray⟩] (0, 0) _ rfl (setRow_heap1 _ _ _ _ _ _ HX11.out.2.1) undRd rfl (HIS.out _ _ _ _ _ _ _)) rfl ?_
            exact ⟨⟨6, m1, 0, 0, 0, ⟨a3.toArray⟩, ⟨r3.toArray⟩⟩, by rw [show okF 6 true false f3 f4 = false by rfl], fun h => rfl, by show (⟨a3.toArray⟩ : ByteArray).size ≤ _; rw [sizeL]; exact HZ.out.1, by show (⟨r3.toArray⟩ : ByteArray).size ≤ _; rw [sizeL]; exact HZ.out.2.1, by rw [← HB.out]; exact below_row HX11.out.1 (Nat.le_refl _) _⟩
          | true =>
            go_wp2_with (first | (refine wpList_row rfl 50 _ rfl (b + 1) rfl 50 #[.int .i64 6, .int .i64 m1, .int .i64 0, .int .i64 0, .int .i64 0, .string ⟨a3.toArray⟩, .string ⟨r3.toArray⟩] (0, 0) _ HX11.out.2.2 undRd rfl (HIS.out _ _ _ _ _ _ _) ?_) | (refine wpList_store_row rfl 50 _ _ rfl b #[.int .i64 6, .int .i64 m1, .int .i64 0, .int .i64 0, .int .i64 0, .string ⟨a3.toArray⟩, .string ⟨r3.toArray⟩] rfl rfl 50 (stC 0 0 0 0 0 ⟨#[]⟩ ⟨#[]⟩) HX11.out.2.1 (HIS.out _ _ _ _ _ _ _) rfl (by kernel_rfl) ?_) | fail)
            refine bodyPost_ret (v := .tuple #[.agg #[.int .i64 6, .int .i64 m1, .int .i64 0, .int .i64 0, .int .i64 0, .string ⟨a3.toArray⟩, .string ⟨r3.toArray⟩], .bool f3]) (results_cell_flag (p := 2) (u := 3) rfl _ _ b 50 #[.int .i64 6, .int .i64 m1, .int .i64 0, .int .i64 0, .int .i64 0, .string ⟨a3.toArray⟩, .string ⟨r3.toArray⟩] (0, 0) _ rfl (setRow_heap1 _ _ _ _ _ _ HX11.out.2.1) undRd rfl (HIS.out _ _ _ _ _ _ _)) rfl ?_
            exact ⟨⟨6, m1, 0, 0, 0, ⟨a3.toArray⟩, ⟨r3.toArray⟩⟩, by rw [show okF 6 true true f3 f4 = f3 by rfl], fun h => rfl, by show (⟨a3.toArray⟩ : ByteArray).size ≤ _; rw [sizeL]; exact HZ.out.1, by show (⟨r3.toArray⟩ : ByteArray).size ≤ _; rw [sizeL]; exact HZ.out.2.1, by rw [← HB.out]; exact below_row HX11.out.1 (Nat.le_refl _) _⟩
        have q6 : (K == 6) = false := by simpa using c6
        by_cases c9 : K = 9
        · subst c9
          clear c0 q0 c1 q1 q5 c6 q6 hKr
          have x2 : wr.cell? ⟨b + 1, 2, none⟩ = some (.int .i64 0) := HX8.out.cell 2 _ rfl
          have g2 := HX8.out.fz 2
          go_upto_region 25 with (go_at_call 20; refine (HN2.out _).mono ?_; rintro e w11 ⟨rfl, rfl⟩)
          have HX11 := Lib.hid (show RX w b (stC 9 m1 m2 0 0 ⟨#[]⟩ ⟨#[]⟩) (wr.setCell ⟨b + 1, 2, none⟩ (.int .i64 m2)) from HX8.out.set 2 _)
          clear x0 x2 g2
          obtain ⟨W11, hW11⟩ : ∃ x, x = wr.setCell ⟨b + 1, 2, none⟩ (.int .i64 m2) := ⟨_, rfl⟩
          rw [← hW11] at HX11 ⊢
          clear hW11
          go_wp2_with (first | (refine wpList_row rfl 50 _ rfl (b + 1) rfl 50 #[.int .i64 9, .int .i64 m1, .int .i64 m2, .int .i64 0, .int .i64 0, .string ⟨#[]⟩, .string ⟨#[]⟩] (0, 0) _ HX11.out.2.2 undRd rfl (HIS.out _ _ _ _ _ _ _) ?_) | (refine wpList_store_row rfl 50 _ _ rfl b #[.int .i64 9, .int .i64 m1, .int .i64 m2, .int .i64 0, .int .i64 0, .string ⟨#[]⟩, .string ⟨#[]⟩] rfl rfl 50 (stC 0 0 0 0 0 ⟨#[]⟩ ⟨#[]⟩) HX11.out.2.1 (HIS.out _ _ _ _ _ _ _) rfl (by kernel_rfl) ?_) | fail)
          refine bodyPost_ret (v := .tuple #[.agg #[.int .i64 9, .int .i64 m1, .int .i64 m2, .int .i64 0, .int .i64 0, .string ⟨#[]⟩, .string ⟨#[]⟩], .bool f2]) (results_cell_flag (p := 2) (u := 3) rfl _ _ b 50 #[.int .i64 9, .int .i64 m1, .int .i64 m2, .int .i64 0, .int .i64 0, .string ⟨#[]⟩, .string ⟨#[]⟩] (0, 0) _ rfl (setRow_heap1 _ _ _ _ _ _ HX11.out.2.1) undRd rfl (HIS.out _ _ _ _ _ _ _)) rfl ?_
          exact ⟨⟨9, m1, m2, 0, 0, ⟨#[]⟩, ⟨#[]⟩⟩, by rw [show okF 9 true f2 f3 f4 = f2 by rfl], fun h => rfl, by show (⟨#[]⟩ : ByteArray).size ≤ _; decide, by show (⟨#[]⟩ : ByteArray).size ≤ _; decide, by rw [← HB.out]; exact below_row HX11.out.1 (Nat.le_refl _) _⟩
        have q9 : (K == 9) = false := by simpa using c9
        have CC := Lib.hid (And.intro c0 (And.intro c1 (And.intro c5 (And.intro c6 c9))))
        clear c0 c1 c5 c6 c9 hKr
        go_wp2_with (first | (refine wpList_row rfl 50 _ rfl (b + 1) rfl 50 #[.int .i64 K, .int .i64 m1, .int .i64 0, .int .i64 0, .int .i64 0, .string ⟨#[]⟩, .string ⟨#[]⟩] (0, 0) _ HX8.out.2.2 undRd rfl (HIS.out _ _ _ _ _ _ _) ?_) | (refine wpList_store_row rfl 50 _ _ rfl b #[.int .i64 K, .int .i64 m1, .int .i64 0, .int .i64 0, .int .i64 0, .string ⟨#[]⟩, .string ⟨#[]⟩] rfl rfl 50 (stC 0 0 0 0 0 ⟨#[]⟩ ⟨#[]⟩) HX8.out.2.1 (HIS.out _ _ _ _ _ _ _) rfl (by kernel_rfl) ?_) | fail)
        refine bodyPost_ret (v := .tuple #[.agg #[.int .i64 K, .int .i64 m1, .int .i64 0, .int .i64 0, .int .i64 0, .string ⟨#[]⟩, .string ⟨#[]⟩], .bool (!f2)]) (results_cell_flag (p := 2) (u := 3) rfl _ _ b 50 #[.int .i64 K, .int .i64 m1, .int .i64 0, .int .i64 0, .int .i64 0, .string ⟨#[]⟩, .string ⟨#[]⟩] (0, 0) _ rfl (setRow_heap1 _ _ _ _ _ _ HX8.out.2.1) undRd rfl (HIS.out _ _ _ _ _ _ _)) rfl ?_
        exact ⟨⟨K, m1, 0, 0, 0, ⟨#[]⟩, ⟨#[]⟩⟩, by rw [show okF K true f2 f3 f4 = (!f2) by have := CC.out; unfold okF; rw [decide_eq_true (by omega), if_neg (by omega), if_neg (by omega), if_neg (by omega), if_neg (by omega)]; rfl], fun h => by have := CC.out; unfold xF; rw [if_neg (by omega), if_neg (by omega), if_neg (by omega), if_neg (by omega)], by show (⟨#[]⟩ : ByteArray).size ≤ _; decide, by show (⟨#[]⟩ : ByteArray).size ≤ _; decide, by rw [← HB.out]; exact below_row HX8.out.1 (Nat.le_refl _) _⟩
end Go.Proofs.YtlgfjacjcacmmaaGreatDoor
