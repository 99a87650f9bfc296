/- law 41: ScriptCuts: the walk. -/
import Derived.Test.YtlgfjacjcacmmaaDoorKd
import Derived.Test.YtlgfjacjcacmmaaDoorJs
namespace Go.Proofs.YtlgfjacjcacmmaaDoor
set_option linter.unusedSimpArgs false
set_option linter.unusedVariables false
open Go Go.RowKit Go.Shelf

theorem StpsAt.taken {w : World} {B : Nat} {T : TypeId} {A : Option Addr} {c : Nat} {l : List Stp} (h : StpsAt w B T A c l) (m : Nat) : StpsAt w B T A c (l.take m) := by
  refine ⟨?_, h.2.1, h.2.2.elim (fun e => .inl (by rw [e, List.take_nil])) ?_⟩
  · have := h.1
    rw [List.length_take]
    omega
  · rintro ⟨b, o, e, hbB, hr⟩
    refine .inr ⟨b, o, e, hbB, fun j hj => ?_⟩
    rw [List.length_take] at hj
    have := hr j (by omega)
    rwa [List.getElem_take]
/-- a script's own block is none of its steps'. -/
theorem StpsAt.set {w : World} {B : Nat} {T : TypeId} {A : Option Addr} {c : Nat} {l : List Stp} (h : StpsAt w B T A c l) {b : Nat} {x0 x1 x2 x3 : Value} {t : TypeId} {fr : Nat × Nat} (hb : w.heap[b]? = some (.cells #[x0, x1, x2, x3] t fr)) (v : Value) : StpsAt (w.setCell ⟨b, 3, none⟩ v) B T A c l := by
  refine ⟨h.1, h.2.1, ?_⟩
  by_cases hl : l = []
  · exact .inl hl
  rcases h.2.2 with hl' | ⟨g, o, e, hgB, hr⟩
  · exact absurd hl' hl
  refine .inr ⟨g, o, e, hgB, fun j hj i u hu => ?_⟩
  by_cases hg : g = b
  · exfalso
    subst hg
    have h6 : w.cell? ⟨g, o + j * 7 + 6, none⟩ = some (.string l[j].text) := hr j hj 6 _ rfl
    simp [World.cell?, hb] at h6
  · have hh := Below.heap_setCell w ⟨b, 3, none⟩ v g (by show g ≠ b; exact hg)
    have h0 := hr j hj i u hu
    simp only [World.cell?] at h0 ⊢
    rw [hh]
    exact h0

set_option maxRecDepth 100000 in
set_option maxHeartbeats 4000000 in
theorem cuts41_c (s : Scr) (a : Nat) (ha : a ≤ 65535) (w : World) (A : Option Addr) (c : Nat) (hs : StpsAt w w.heap.size 43 A c s.steps) (hf : ∀ x ∈ s.steps, x.fit) (hi : i64 s.rows ∧ i64 s.cols ∧ i64 s.wr) (he : ErrS w) (ht : Tab w) :
    Calls Tryd.prog 3 #[.agg #[.int .i64 s.rows, .int .i64 s.cols, .int .i64 s.wr, .slice A s.steps.length c], .int .u16 a] w fun e w' => e = .returned (.bool true) ∧ Below w.heap.size w w' := by
  obtain ⟨n, hn⟩ : ∃ n, s.steps.length = n := ⟨_, rfl⟩
  have hsl := hs.1
  have hsc := hs.2.1
  rw [hn] at hsl
  obtain ⟨b, hb⟩ : ∃ b, b = w.heap.size := ⟨_, rfl⟩
  obtain ⟨W, hW⟩ : ∃ W, W = w.alloc (.cells #[.int .i64 s.rows, .int .i64 s.cols, .int .i64 s.wr, .slice A n c] 24) := ⟨_, rfl⟩
  have hbW : Below w.heap.size w W := by rw [hW]; exact (Below.refl _ w).alloc (Nat.le_refl _) _
  have hkW : W.heap[b]? = some (.cells #[.int .i64 s.rows, .int .i64 s.cols, .int .i64 s.wr, .slice A n c] 24) := by rw [hW, hb]; exact heap_alloc_new w _
  have hzW : W.heap.size = b + 1 := by rw [hW, hb]; simp
  have HAW := Lib.hid (awake41_c W (he.below hbW) (tab_below ht hbW))
  have hGr := fun (wx : World) (hx : Below w.heap.size w wx) => great41_c s wx w.heap.size A c hx.size (hs.below hx) hf
  have hOf := fun (wx : World) (hx : Below w.heap.size w wx) (hlen : s.steps.length ≤ 1000) => of_c s wx w.heap.size A c hx.size (hs.below hx) hlen
  have hIS : (Tryd.prog.info? 24).map (·.size) = some (#[.int .i64 s.rows, .int .i64 s.cols, .int .i64 s.wr, .slice A n c] : Array Value).size := by kernel_rfl
  obtain ⟨r, hr⟩ : ∃ r, greatS s = r := ⟨_, rfl⟩
  rw [hn] at hGr hOf ⊢
  rw [hr] at hGr
  have HGR := Lib.hid hGr
  have HOF := Lib.hid hOf
  have HIS := Lib.hid hIS
  have HR := Lib.hid hr
  have HB := Lib.hid hb
  have HBW := Lib.hid hbW
  have HKW := Lib.hid hkW
  have HZW := Lib.hid hzW
  have HS := Lib.hid hs
  have HF := Lib.hid hf
  have HN := Lib.hid hn
  have HI := Lib.hid hi
  have HT := Lib.hid ht
  have HE := Lib.hid he
  clear hGr hOf hIS hr hbW hkW hzW hs hf hn hi ht he
  go_enter Tryd.func3, Tryd.ntmps3
  go_upto_region 1 with (fail)
  rw [← hW, ← hb]
  clear hW hb
  go_wp2_with fail
  refine HAW.out.mono ?_
  rintro e w1 ⟨rfl, hb1⟩
  have HB1 := Lib.hid (HBW.out.trans (hb1.mono HBW.out.size))
  have HK1 := Lib.hid ((hb1.block b (by rw [HZW.out]; omega)).trans HKW.out)
  clear hb1
  go_wp2_with (first | (refine wpList_row rfl 24 _ rfl b rfl 24 #[.int .i64 s.rows, .int .i64 s.cols, .int .i64 s.wr, .slice A n c] (0, 0) _ HK1.out undRs41 rfl HIS.out ?_) | fail)
  refine (HGR.out _ HB1.out).mono ?_
  rintro e w2 ⟨rfl, hb2⟩
  have HB2 := Lib.hid (HB1.out.trans (hb2.mono HB1.out.size))
  have HK2 := Lib.hid ((hb2.block b (Array.getElem?_eq_some_iff.1 HK1.out).1).trans HK1.out)
  clear hb2
  cases r with
  | true =>
    go_wp2
    go_ret
    exact ⟨by kernel_rfl, HB2.out⟩
  | false =>
    obtain ⟨hl250, -⟩ := great_small HR.out
    have hn250 : n ≤ 250 := by rw [← HN.out]; exact hl250
    go_wp2_with (first | (refine wpList_row rfl 24 _ rfl b rfl 24 #[.int .i64 s.rows, .int .i64 s.cols, .int .i64 s.wr, .slice A n c] (0, 0) _ HK2.out undRs41 rfl HIS.out ?_) | fail)
    refine (HOF.out _ HB2.out (by omega)).mono ?_
    rintro e w3 ⟨A', c', rfl, hs3, hb3⟩
    have HB3 := Lib.hid (HB2.out.trans (hb3.mono HB2.out.size))
    have HK3 := Lib.hid ((hb3.block b (Array.getElem?_eq_some_iff.1 HK2.out).1).trans HK2.out)
    have hf3 : ∀ x ∈ s.steps, x.fit := HF.out
    have hT3 : Calls Tryd.prog 7 #[.agg #[.int .i64 s.rows, .int .i64 s.cols, .int .i64 s.wr, .slice A' n c']] w3 fun e w' => e = .returned (.tuple #[.string ⟨(textI s).toArray⟩, .int .i64 (if scrB s = true then 0 else 6)]) ∧ Below w3.heap.size w3 w' := by
      have := stext_c s w3 w3.heap.size A' c' (Nat.le_refl _) hs3 hf3 HI.out (tab_below HT.out HB3.out)
      rw [HN.out] at this
      exact this
    have HT3 := Lib.hid hT3
    clear hs3 hb3 hl250 hT3 hf3
    go_wp2_with fail
    refine HT3.out.mono ?_
    rintro e w4 ⟨rfl, hb4⟩
    have HB4 := Lib.hid (HB3.out.trans (hb4.mono HB3.out.size))
    have HK4 := Lib.hid ((hb4.block b (Array.getElem?_eq_some_iff.1 HK3.out).1).trans HK3.out)
    clear hb4 HT3
    by_cases hsc : scrB s = true
    case neg =>
      have hsc' : scrB s = false := by simpa using hsc
      rw [textI_no hsc', if_neg hsc]
      clear hsc hsc'
      go_wp2
      go_ret
      exact ⟨by kernel_rfl, HB4.out⟩
    case pos =>
      rw [if_pos hsc]
      have hne := textI_ne hsc
      have htl : textI s = textS s := by unfold textI; rw [if_pos hsc]
      rw [htl] at hne ⊢
      have hlen := text_len hsc
      have hcut := fun (k : Nat) (hk : k < (textS s).length) => cut_text hsc hk
      obtain ⟨tb, htb⟩ : ∃ x, (⟨(textS s).toArray⟩ : ByteArray) = x := ⟨_, rfl⟩
      have hsz : tb.size = (textS s).length := by rw [← htb, sizeP]
      have htd : tb.data.toList = textS s := by rw [← htb]
      rw [htb] at hne ⊢
      have hget : ∀ i (h : i < tb.size), (textS s)[i]? = some tb[i] := fun i h => by
        rw [← htd]
        have h' : i < tb.data.size := h
        show tb.data.toList[i]? = some tb.data[i]
        simp [h']
      have HGET := Lib.hid hget
      have HCUT := Lib.hid hcut
      have HSZ := Lib.hid hsz
      have HTD := Lib.hid htd
      have HSC := Lib.hid hsc
      have hpos : 0 < (tb.size : Int) := by omega
      have hz0 : ¬ (tb.size : Int) = 0 := by omega
      have hne1 : ((tb.size : Int) == 0) = false := by simpa using hz0
      have hle : tb.size ≤ 80300 := by omega
      clear hcut hget htb hsz htd hsc htl hlen hne
      obtain ⟨k, hk⟩ : ∃ k, k = a % tb.size := ⟨_, rfl⟩
      have hkl : k < tb.size := by rw [hk]; exact Nat.mod_lt _ (by omega)
      have hrem : (a : Int) % (tb.size : Int) = (k : Int) := by rw [hk]; exact (Int.natCast_emod a tb.size).symm
      have hpar : Calls Tryd.prog 9 #[.string (tb.extract 0 k)] w4 (ParsePost w4 (parseS ((textS s).take k))) := by
        have := parse_c (tb.extract 0 k) (by simp; omega) w4 (HE.out.below HB4.out) (tab_below HT.out HB4.out)
        rw [Lib.extract_data, HTD.out] at this
        simpa using this
      go_upto_region 11 with (fail)
      rw [hrem]
      have hkz : (k : Int) ≤ (tb.size : Int) := by omega
      have hk0 : (0 : Int) ≤ (k : Int) := by omega
      clear hk hrem hne1 hz0
      by_cases c10 : 0 < k ∧ (textS s)[k - 1]? = some 10
      case neg =>
        obtain ⟨ln, hl1, hl2, hp⟩ := (HCUT.out k (by rw [← HSZ.out]; exact hkl)).1 c10
        have hpc : Calls Tryd.prog 9 #[.string (tb.extract 0 k)] w4 (fun e w' => ∃ A c, e = .returned (.tuple #[.agg #[.int .i64 0, .int .i64 0, .int .i64 0, .slice A 0 c], .int .i64 ln, .int .i64 13]) ∧ Below w4.heap.size w4 w') := by
          refine hpar.mono ?_
          rw [hp]
          rintro e w' ⟨A, c, h, -, -, hb⟩
          exact ⟨A, c, h, hb⟩
        have HPC := Lib.hid hpc
        have hl3 : (1 : Int) ≤ (ln : Int) := by omega
        clear hpar hpc hp hl1 hl2
        go_wp2_with fail
        refine HPC.out.mono ?_
        rintro e w5 ⟨A5, c5, rfl, hb5⟩
        have HB5 := Lib.hid (HB4.out.trans (hb5.mono HB4.out.size))
        clear hb5 HPC
        rcases Nat.eq_zero_or_pos k with hz | hz
        · subst hz
          clear c10
          go_wp2
          go_ret
          exact ⟨by kernel_rfl, HB5.out.alloc HB5.out.size _⟩
        · obtain ⟨k', rfl⟩ : ∃ k', k = k' + 1 := ⟨k - 1, by omega⟩
          have hbt : ¬ tb[k'] = 10 := fun e => c10 ⟨by omega, by rw [Nat.add_sub_cancel, HGET.out k' (by omega), e]⟩
          have hn : ¬ tb[k'].toNat = 10 := fun e => hbt (UInt8.toNat_inj.1 e)
          have q : ((tb[k'].toNat : Int) != 10) = true := by simp; omega
          have q2 : ((tb[k'].toNat : Int) == 10) = false := by simp; omega
          have hkk : ((k' + 1 : Nat) : Int) - 1 = (k' : Int) := by omega
          have hkl2 : (k' : Int) < (tb.size : Int) := by omega
          have hkz2 : ¬ ((k' + 1 : Nat) : Int) = 0 := by omega
          have hbl := tb[k'].toNat_lt
          clear c10 hbt hn
          go_wp2
          go_ret
          exact ⟨by kernel_rfl, HB5.out.alloc HB5.out.size _⟩
      case pos =>
        obtain ⟨c11, c12⟩ := c10
        obtain ⟨k', rfl⟩ : ∃ k', k = k' + 1 := ⟨k - 1, by omega⟩
        obtain ⟨m, hm, hp⟩ := (HCUT.out (k' + 1) (by rw [← HSZ.out]; exact hkl)).2 ⟨c11, c12⟩
        rw [HN.out] at hm
        have hml : (s.steps.take m).length = m := by rw [List.length_take, HN.out]; omega
        have hpc : Calls Tryd.prog 9 #[.string (tb.extract 0 (k' + 1))] w4 (fun e w' => ∃ A c, e = .returned (.tuple #[.agg #[.int .i64 s.rows, .int .i64 s.cols, .int .i64 s.wr, .slice A m c], .int .i64 0, .int .i64 0]) ∧ StpsAt w' w'.heap.size 42 A c (s.steps.take m) ∧ Below w4.heap.size w4 w') := by
          refine hpar.mono ?_
          rw [hp]
          rintro e w' ⟨A, c, h, h2, -, hb⟩
          dsimp only at h h2
          rw [hml] at h
          exact ⟨A, c, h, h2, hb⟩
        have HPC := Lib.hid hpc
        have HML := Lib.hid hml
        have hbt : tb[k'] = 10 := by
          rw [Nat.add_sub_cancel, HGET.out k' (by omega)] at c12
          exact Option.some.inj c12
        have q : ((tb[k'].toNat : Int) != 10) = false := by rw [hbt]; rfl
        have hkk : ((k' + 1 : Nat) : Int) - 1 = (k' : Int) := by omega
        have hkl2 : (k' : Int) < (tb.size : Int) := by omega
        have hkz2 : ¬ ((k' + 1 : Nat) : Int) = 0 := by omega
        clear hpar hpc hp hml hbt c11 c12
        go_wp2_with fail
        refine HPC.out.mono ?_
        rintro e w5 ⟨A5, c5, rfl, hs5, hb5⟩
        have hz5 := hb5.size
        have HB5 := Lib.hid (HB4.out.trans (hb5.mono HB4.out.size))
        have HK5 := Lib.hid ((hb5.block b (Array.getElem?_eq_some_iff.1 HK4.out).1).trans HK4.out)
        have hBK : Calls Tryd.prog 10 #[.agg #[.int .i64 s.rows, .int .i64 s.cols, .int .i64 s.wr, .slice A5 m c5]] (w5.alloc (.cells #[.int .i64 s.rows, .int .i64 s.cols, .int .i64 s.wr, .slice A5 m c5] 33)) fun e w' => ∃ A' c', e = .returned (.agg #[.int .i64 s.rows, .int .i64 s.cols, .int .i64 s.wr, .slice A' m c']) ∧ StpsAt w' w'.heap.size 43 A' c' (s.steps.take m) ∧ Below w5.heap.size w5 w' := by
          have hal : Below w5.heap.size w5 (w5.alloc (.cells #[.int .i64 s.rows, .int .i64 s.cols, .int .i64 s.wr, .slice A5 m c5] 33)) := (Below.refl _ w5).alloc (Nat.le_refl _) _
          have := back_c ⟨s.rows, s.cols, s.wr, s.steps.take m⟩ (w5.alloc (.cells #[.int .i64 s.rows, .int .i64 s.cols, .int .i64 s.wr, .slice A5 m c5] 33)) w5.heap.size A5 c5 hal.size (hs5.below hal) (by dsimp only; rw [HML.out]; omega)
          dsimp only at this
          rw [HML.out] at this
          refine this.mono ?_
          rintro e w' ⟨A', c', h1, h2, h3⟩
          exact ⟨A', c', h1, h2, hal.trans (h3.mono hal.size)⟩
        have HBK := Lib.hid hBK
        clear hs5 hb5 hz5 hBK HPC
        go_wp2_with (first | (refine wpList_row rfl 33 _ rfl w5.heap.size rfl 33 #[.int .i64 s.rows, .int .i64 s.cols, .int .i64 s.wr, .slice A5 m c5] (0, 0) _ (heap_alloc_new w5 _) undSc rfl (by kernel_rfl) ?_) | fail)
        refine HBK.out.mono ?_
        rintro e w6 ⟨A6, c6, rfl, hs6, hb6⟩
        have HB6 := Lib.hid (HB5.out.trans (hb6.mono HB5.out.size))
        have HK6 := Lib.hid ((hb6.block b (Array.getElem?_eq_some_iff.1 HK5.out).1).trans HK5.out)
        have HS6 := Lib.hid hs6
        have hsl6 := hs6.1
        have hsc6 := hs6.2.1
        rw [HML.out] at hsl6
        obtain ⟨b7, hb7⟩ : ∃ x, x = w6.heap.size := ⟨_, rfl⟩
        have hkb := (Array.getElem?_eq_some_iff.1 HK6.out).1
        have p3 : ∀ o, (w6.alloc o).cell? ⟨b, 3, none⟩ = some (.slice A n c) := fun o => cell_of_row _ b 3 _ _ _ ((heapOld _ _ _ hkb).trans HK6.out)
        have f3 : ∀ o, (w6.alloc o).frozen? ⟨b, 3, none⟩ = false := fun o => fz_row ((heapOld _ _ _ hkb).trans HK6.out) 3
        have hmn : ¬ (n : Int) < (m : Int) := by omega
        have hm0 : (0 : Int) ≤ (m : Int) := by omega
        have hmc : (m : Int) ≤ (c : Int) := by omega
        clear hs6 hb6 HBK
        go_upto_region 18 with (fail)
        have hk7 : (w6.setCell ⟨b, 3, none⟩ (.slice A m c)).heap[b]? = some (.cells #[.int .i64 s.rows, .int .i64 s.cols, .int .i64 s.wr, .slice A m c] 24) := by
          have := heap_setCell_same w6 b 3 _ _ (.slice A m c) HK6.out
          simpa using this
        have hz7 : (w6.setCell ⟨b, 3, none⟩ (.slice A m c)).heap.size = w6.heap.size := by simp
        have hB7 : Below w.heap.size w (w6.setCell ⟨b, 3, none⟩ (.slice A m c)) :=
          ⟨HB6.out.os, HB6.out.tape, HB6.out.output, by rw [hz7]; exact HB6.out.size, fun k hk => (Below.heap_setCell w6 ⟨b, 3, none⟩ (.slice A m c) k (by show k ≠ b; have := HB.out; omega)).trans (HB6.out.block k hk)⟩
        have h71 := HS6.out.set HK6.out (.slice A m c)
        have h72 := (((HS.out.below HB6.out).more HB6.out.size).taken m).set HK6.out (.slice A m c)
        generalize w6.setCell ⟨b, 3, none⟩ (.slice A m c) = W7 at hk7 hz7 hB7 h71 h72 ⊢
        obtain ⟨W8, hW8⟩ : ∃ x, x = W7.alloc (.cells #[.int .i64 s.rows, .int .i64 s.cols, .int .i64 s.wr, .slice A6 m c6] 24) := ⟨_, rfl⟩
        have hb78 : Below w6.heap.size W7 W8 := by rw [hW8]; exact (Below.refl _ W7).alloc (by omega) _
        have hk8 : W8.heap[b]? = some (.cells #[.int .i64 s.rows, .int .i64 s.cols, .int .i64 s.wr, .slice A m c] 24) := (hb78.block b hkb).trans hk7
        have hk9 : W8.heap[w6.heap.size]? = some (.cells #[.int .i64 s.rows, .int .i64 s.cols, .int .i64 s.wr, .slice A6 m c6] 24) := by rw [hW8, ← hz7]; exact heap_alloc_new W7 _
        have hsame : Calls Tryd.prog 11 #[.agg #[.int .i64 s.rows, .int .i64 s.cols, .int .i64 s.wr, .slice A6 m c6], .agg #[.int .i64 s.rows, .int .i64 s.cols, .int .i64 s.wr, .slice A m c]] W8 fun e w' => e = .returned (.bool true) ∧ Below W8.heap.size W8 w' := by
          have := same41_c ⟨s.rows, s.cols, s.wr, s.steps.take m⟩ ⟨s.rows, s.cols, s.wr, s.steps.take m⟩ W8 w6.heap.size A6 A c6 c (by have := hb78.size; omega) (h71.below hb78) (h72.below hb78) (by dsimp only; rw [HML.out]; omega)
          rw [sameS_self] at this
          dsimp only at this
          rw [HML.out] at this
          exact this
        have hB8 : Below w.heap.size w W8 := hB7.trans (hb78.mono HB6.out.size)
        have hI8 : ∀ v : Value, (Tryd.prog.info? 24).map (·.size) = some (#[.int .i64 s.rows, .int .i64 s.cols, .int .i64 s.wr, v] : Array Value).size := fun v => by kernel_rfl
        have HK8 := Lib.hid hk8
        have HK9 := Lib.hid hk9
        have HSAME := Lib.hid hsame
        have HB8 := Lib.hid hB8
        have HI8 := Lib.hid hI8
        rw [← hW8]
        clear hk7 hz7 hB7 h71 h72 hW8 hb78 hk8 hk9 hsame hB8 hI8 p3 f3 hb7 hkb
        go_wp2_with (first | (refine wpList_row rfl 24 _ rfl b rfl 24 #[.int .i64 s.rows, .int .i64 s.cols, .int .i64 s.wr, .slice A m c] (0, 0) _ HK8.out undRs41 rfl (HI8.out _) ?_) | (refine wpList_row rfl 24 _ rfl w6.heap.size rfl 24 #[.int .i64 s.rows, .int .i64 s.cols, .int .i64 s.wr, .slice A6 m c6] (0, 0) _ HK9.out undRs41 rfl (HI8.out _) ?_) | (go_at_call 11; refine HSAME.out.mono ?_; rintro e w9 ⟨rfl, hb9⟩))
        go_ret
        exact ⟨by kernel_rfl, HB8.out.trans (hb9.mono HB8.out.size)⟩
end Go.Proofs.YtlgfjacjcacmmaaDoor
