/- The walk of the law TreeDecodes. The walk of the law TreeCodes. -/
import Derived.Test.YtggpffipijoddaaGreatDoorEaEbEd
import Derived.Test.YtggpffipijoddaaGreatDoorDiDjDl
import Derived.Test.YtggpffipijoddaaGreatDoorAwM
import Derived.Test.YtggpffipijoddaaGreatDoorSrSq
import Derived.Test.YtggpffipijoddaaGreatDoorTzCzTc
import Derived.Test.YtggpffipijoddaaGreatDoorFi8QbFkDpFl
namespace Go.Proofs.YtggpffipijoddaaGreatDoor
open Go.RowKit Go.Shelf

theorem dec_short {s : ByteArray} {t : Tr} (hs : s.size ≤ 1048576) (h : decodeT s = some t) : Short t := fun x hx => by
  rw [(decode_some h).2.2] at hx
  have := node_short 32 ⟨s, 0, false⟩ x hx
  dsimp only at this
  omega
theorem same_self (t : Tr) : sameB t t = true := (sameB_eq t t).2 rfl

set_option maxRecDepth 100000 in
set_option maxHeartbeats 4000000 in
theorem decodes_big (s : ByteArray) (hb : (2000 : Int) < s.size) (w : World) (ht : Tab w) :
    Calls Tryz.prog 4 #[.string s] w fun e w' => e = .returned (.bool true) ∧ Below w.heap.size w w' := by
  have HA := Lib.hid (awake_c w ht)
  go_enter Tryz.func4, Tryz.ntmps4
  go_wp2_with (fail)
  refine HA.out.mono ?_
  rintro e w1 ⟨rfl, hb1⟩
  go_wp2
  go_ret
  exact ⟨rfl, hb1⟩

set_option maxRecDepth 100000 in
set_option maxHeartbeats 4000000 in
theorem decodes_none (s : ByteArray) (hs : s.size ≤ 2000) (hno : decodeT s = none) (w : World) (he : ErrC w) (ht : Tab w) :
    Calls Tryz.prog 4 #[.string s] w fun e w' => e = .returned (.bool true) ∧ Below w.heap.size w w' := by
  have HA := Lib.hid (awake_c w ht)
  have HE := Lib.hid he
  have HT := Lib.hid ht
  have HNO := Lib.hid hno
  have hsi : (s.size : Int) ≤ 2000 := by omega
  clear he ht hno
  go_enter Tryz.func4, Tryz.ntmps4
  go_wp2_with (fail)
  refine HA.out.mono ?_
  rintro e w1 ⟨rfl, hb1⟩
  have HB1 := Lib.hid hb1
  have HD := Lib.hid (decode_c s (by omega) w1 (HE.out.below hb1) (tab_below HT.out hb1))
  clear hb1
  go_wp2_with (fail)
  refine HD.out.mono ?_
  unfold DecPost
  rw [(dec_none HNO.out).1, (dec_none HNO.out).2]
  rintro e w2 ⟨A, c, rfl, hd, hsl, hb2⟩
  have hR := fun wx (hx : Below w2.heap.size w2 wx) => rsame_c zeroTr zeroTr wx w2.heap.size A none c 0 hd (hsl.below hx) hd ⟨Nat.le_refl _, by decide, .inl rfl⟩ hx.size
  rw [same_self] at hR
  obtain ⟨N, hN⟩ : ∃ N, N = nodeA zeroTr.d A zeroTr.l.length c := ⟨_, rfl⟩
  have hNs : N.size = 22 := by rw [hN]; rfl
  have hNo : N.all (·.oneCell') = true := by rw [hN]; exact all_oneCell_toArray (fun u hu => head_one _ A _ c u hu)
  simp only [nodeV, ← hN] at hR ⊢
  obtain ⟨W3, hW3⟩ : ∃ W3, W3 = w2.alloc (.cells N 34) := ⟨_, rfl⟩
  have hb3 : Below w2.heap.size w2 W3 := by rw [hW3]; exact (Below.refl _ _).alloc (Nat.le_refl _) _
  have hn3 : W3.heap[w2.heap.size]? = some (.cells N 34) := by rw [hW3]; exact heap_alloc_new _ _
  have HR := Lib.hid (hR W3 hb3)
  have HNS := Lib.hid hNs
  have HNO2 := Lib.hid hNo
  have HW3 := Lib.hid hW3
  have HN3 := Lib.hid hn3
  have HB := Lib.hid ((HB1.out.trans (hb2.mono HB1.out.size)).trans (hb3.mono (Nat.le_trans HB1.out.size hb2.size)))
  have hs3 : w.heap.size ≤ W3.heap.size := HB.out.size
  clear hR hN hNs hNo hW3 hb3 hn3 hd hsl hb2
  go_wp2_with (first | (refine wpList_nodeVar rfl rfl w2.heap.size rfl ?_) | (refine wpList_storeFresh (w := w2) rfl _ _ _ rfl w2.heap.size rfl N rfl rfl (infS HNS.out) HNS.out.symm HNO2.out ?_; rw [← HW3.out]) | (refine wpList_row rfl 34 _ rfl w2.heap.size rfl 34 N (0, 0) _ HN3.out undN rfl (infS HNS.out) ?_) | fail)
  refine HR.out.mono ?_
  rintro e w4 ⟨rfl, hb4⟩
  go_wp2
  go_ret
  exact ⟨rfl, HB.out.trans (hb4.mono hs3)⟩

set_option maxRecDepth 100000 in
set_option maxHeartbeats 4000000 in
theorem decodes_some (s : ByteArray) (hs : s.size ≤ 2000) (t : Tr) (hso : decodeT s = some t) (w : World) (he : ErrC w) (ht : Tab w) :
    Calls Tryz.prog 4 #[.string s] w fun e w' => e = .returned (.bool true) ∧ Below w.heap.size w w' := by
  have HA := Lib.hid (awake_c w ht)
  have HE := Lib.hid he
  have HT := Lib.hid ht
  have HSO := Lib.hid hso
  have hsi : (s.size : Int) ≤ 2000 := by omega
  have hck := (decode_some hso).1
  have hcd := (decode_some hso).2.1
  have hsm := check_small hck
  have hgr := check_great hck
  have hsh := dec_short (by omega) hso
  clear he ht hso
  go_enter Tryz.func4, Tryz.ntmps4
  go_wp2_with (fail)
  refine HA.out.mono ?_
  rintro e w1 ⟨rfl, hb1⟩
  have HB1 := Lib.hid hb1
  have HD := Lib.hid (decode_c s (by omega) w1 (HE.out.below hb1) (tab_below HT.out hb1))
  clear hb1
  go_wp2_with (fail)
  refine HD.out.mono ?_
  unfold DecPost
  rw [(dec_some HSO.out).1, (dec_some HSO.out).2]
  rintro e w2 ⟨A, c, rfl, hd, hsl, hb2⟩
  have hG := fun wx (hx : Below w2.heap.size w2 wx) => great_c t wx w2.heap.size A c hd (hsl.below hx) hx.size (by omega)
  have hK := fun wx (hx : Below w2.heap.size w2 wx) => rcheck_c t wx w2.heap.size A c hd (hsl.below hx) hx.size (by omega)
  have hC := fun wx (hx : Below w2.heap.size w2 wx) => rcode_c t wx w2.heap.size A c hd (hsl.below hx) hx.size (by omega) hsh
  have hS : S (codeL t) = .string s := by rw [hcd]
  rw [hgr] at hG
  rw [hck] at hK
  rw [hS] at hC
  obtain ⟨N, hN⟩ : ∃ N, N = nodeA t.d A t.l.length c := ⟨_, rfl⟩
  have hNs : N.size = 22 := by rw [hN]; rfl
  have hNo : N.all (·.oneCell') = true := by rw [hN]; exact all_oneCell_toArray (fun u hu => head_one _ A _ c u hu)
  simp only [nodeV, ← hN] at hG hK hC ⊢
  obtain ⟨W3, hW3⟩ : ∃ W3, W3 = w2.alloc (.cells N 34) := ⟨_, rfl⟩
  have hb3 : Below w2.heap.size w2 W3 := by rw [hW3]; exact (Below.refl _ _).alloc (Nat.le_refl _) _
  have hn3 : W3.heap[w2.heap.size]? = some (.cells N 34) := by rw [hW3]; exact heap_alloc_new _ _
  have hs3 : w2.heap.size + 1 ≤ W3.heap.size := by rw [hW3]; simp
  have q1 : (s.toList == s.toList) = true := by simp
  have HG := Lib.hid (hG W3 hb3)
  have HK := Lib.hid hK
  have HC := Lib.hid hC
  have HNS := Lib.hid hNs
  have HNO2 := Lib.hid hNo
  have HW3 := Lib.hid hW3
  have HN3 := Lib.hid hn3
  have HB3 := Lib.hid hb3
  have HS3 := Lib.hid hs3
  have HB := Lib.hid (HB1.out.trans (hb2.mono HB1.out.size))
  have hs2 : w.heap.size ≤ w2.heap.size := HB.out.size
  clear hG hK hC hN hNs hNo hW3 hb3 hn3 hd hsl hb2 hs3 hcd hck hsm hgr hsh hS
  go_wp2_with (first | (refine wpList_nodeVar rfl rfl w2.heap.size rfl ?_) | (refine wpList_storeFresh (w := w2) rfl _ _ _ rfl w2.heap.size rfl N rfl rfl (infS HNS.out) HNS.out.symm HNO2.out ?_; rw [← HW3.out]) | (refine wpList_row rfl 34 _ rfl w2.heap.size rfl 34 N (0, 0) _ HN3.out undN rfl (infS HNS.out) ?_) | fail)
  refine HG.out.mono ?_
  rintro e w4 ⟨rfl, hb4⟩
  have HB4 := Lib.hid (HB3.out.trans (hb4.mono (by have := HS3.out; omega)))
  have HN4 := Lib.hid ((hb4.block _ (by have := HS3.out; omega)).trans HN3.out)
  clear hb4
  go_wp2_with (first | (refine wpList_row rfl 34 _ rfl w2.heap.size rfl 34 N (0, 0) _ HN4.out undN rfl (infS HNS.out) ?_) | fail)
  refine (HK.out _ HB4.out).mono ?_
  rintro e w5 ⟨rfl, hb5⟩
  have HB5 := Lib.hid (HB4.out.trans (hb5.mono HB4.out.size))
  have HN5 := Lib.hid ((hb5.block _ (Array.getElem?_eq_some_iff.1 HN4.out).1).trans HN4.out)
  clear hb5
  go_wp2_with (first | (refine wpList_row rfl 34 _ rfl w2.heap.size rfl 34 N (0, 0) _ HN5.out undN rfl (infS HNS.out) ?_) | fail)
  refine (HC.out _ HB5.out).mono ?_
  rintro e w6 ⟨rfl, hb6⟩
  go_wp2
  go_ret
  exact ⟨rfl, HB.out.trans ((HB5.out.trans (hb6.mono HB5.out.size)).mono hs2)⟩
theorem treeDecodes_walk (s : ByteArray) (w : World) (he : ErrC w) (ht : Tab w) :
    Calls Tryz.prog 4 #[.string s] w fun e w' => e = .returned (.bool true) ∧ Below w.heap.size w w' := by
  by_cases h : 2000 < s.size
  · exact decodes_big s (by omega) w ht
  · cases hd : decodeT s with
    | none => exact decodes_none s (by omega) hd w he ht
    | some t => exact decodes_some s (by omega) t hd w he ht
end Go.Proofs.YtggpffipijoddaaGreatDoor
namespace Go.Proofs.YtggpffipijoddaaGreatDoor
open Go.RowKit Go.Shelf

theorem val_le3 (v : Vl) (hv : v.ok) (hs : v.text.size ≤ 300) : (valL v).length ≤ 400 := by
  have h1 := itoa_le v.mant hv.2.1
  have h2 := itoa_le v.exp hv.2.2.1
  have h3 := itoa_le v.fault hv.2.2.2.2
  have h4 := sized_le v.text (by omega)
  unfold valL
  split
  · simp; omega
  split
  · simp; omega
  split
  · split <;> simp
  · simp; omega
theorem part_le3 (d : ND) (n : Nat) (hd : d.ok) (hn : n ≤ 9223372036854775807) (h1 : d.name.size ≤ 300) (h2 : d.v.text.size ≤ 300) : (partL d n).length ≤ 1000 := by
  have e1 := val_le3 d.v hd.2.1 h2
  have e2 := corner_le d.a hd.2.2.2.1
  have e3 := corner_le d.b hd.2.2.2.2.1
  have e4 := sized_le d.name (by omega)
  have e5 := itoa_le (n : Int) (by unfold i64; omega)
  have e6 := itoa_le d.rows hd.2.2.2.2.2
  have e7 : d.name.data.toList.length = d.name.size := by simp
  unfold partL
  repeat (split; · simp; omega)
  simp
theorem right_small : ∀ (f : Nat) (t : Tr) (call : Bool) (_ : t.depth ≤ f) (_ : rrightB t call = true), ∀ x ∈ t.nodes, x.d.name.size ≤ 300 ∧ x.d.v.text.size ≤ 300
  | 0, .mk d l, _, hdep, _ => by rw [Tr.depth] at hdep; omega
  | f + 1, .mk d l, call, hdep, hr => by
    rw [Tr.depth] at hdep
    rw [rrightB, Bool.and_eq_true, Bool.and_eq_true] at hr
    obtain ⟨⟨h1, _⟩, h3⟩ := hr
    have hkids : ∀ (m : List Tr) (_ : Tr.depths m ≤ f) (_ : rrightsB d.kind m = true), ∀ x ∈ Tr.nodess m, x.d.name.size ≤ 300 ∧ x.d.v.text.size ≤ 300 := by
      intro m
      induction m with
      | nil => intro _ _ x hx; cases hx
      | cons t m ih =>
        intro hd hrs x hx
        rw [Tr.depths] at hd
        rw [rrightsB, Bool.and_eq_true, Bool.and_eq_true] at hrs
        rw [Tr.nodess] at hx
        rcases List.mem_append.1 hx with hx | hx
        · exact right_small f t _ (by omega) hrs.1.2 x hx
        · exact ih (by omega) hrs.2 x hx
    intro x hx
    rw [Tr.nodes] at hx
    rcases List.mem_cons.1 hx with rfl | hx
    · exact rown_small h1
    · exact hkids l (by omega) h3 x hx
theorem code_small {t : Tr} (h : checkI t = 0) (hok : OkT t) : (codeL t).length ≤ 1000000 := by
  obtain ⟨h1, h2, h3⟩ := check_right h
  have hs := right_small 32 t false h2 h3
  have key : ∀ l : List Tr, (∀ x ∈ l, x.d.ok ∧ x.l.length ≤ 9223372036854775807) → (∀ x ∈ l, x.d.name.size ≤ 300 ∧ x.d.v.text.size ≤ 300) → (l.flatMap fun x => codeOne x.d x.l.length).length ≤ l.length * 1001 := by
    intro l
    induction l with
    | nil => intro _ _; simp
    | cons a l ih =>
      intro ha hb
      have e1 := part_le3 a.d a.l.length (ha a (by simp)).1 (ha a (by simp)).2 (hb a (by simp)).1 (hb a (by simp)).2
      have e2 := ih (fun x hx => ha x (by simp [hx])) (fun x hx => hb x (by simp [hx]))
      rw [List.flatMap_cons, List.length_append, List.length_cons]
      have e3 : (codeOne a.d a.l.length).length = (partL a.d a.l.length).length + 1 := by simp [codeOne]
      omega
  have := key t.nodes hok hs
  rw [nodes_len] at this
  unfold codeL
  omega

set_option maxRecDepth 100000 in
set_option maxHeartbeats 4000000 in
theorem codes_great (t : Tr) (w : World) (A : Option Addr) (c : Nat) (hd : t.d.ok) (hs : SlAt w w.heap.size A c t.l) (hz : t.size ≤ 1048576) (ht : Tab w) (hg : greatB t = true) :
    Calls Tryz.prog 3 #[nodeV t.d A t.l.length c] w fun e w' => e = .returned (.bool true) ∧ Below w.heap.size w w' := by
  have hG := fun wx (hx : Below w.heap.size w wx) => great_c t wx w.heap.size A c hd (hs.below hx) hx.size hz
  rw [hg] at hG
  obtain ⟨N, hN⟩ : ∃ N, N = nodeA t.d A t.l.length c := ⟨_, rfl⟩
  have hNs : N.size = 22 := by rw [hN]; rfl
  simp only [nodeV, ← hN] at hG ⊢
  have hb0 : Below w.heap.size w (w.alloc (.cells N 34)) := (Below.refl _ w).alloc (Nat.le_refl _) _
  have hn0 : (w.alloc (.cells N 34)).heap[w.heap.size]? = some (.cells N 34) := heap_alloc_new _ _
  have HA := Lib.hid (awake_c _ (tab_below ht hb0))
  have HG := Lib.hid hG
  have HNS := Lib.hid hNs
  have HB0 := Lib.hid hb0
  have HN0 := Lib.hid hn0
  clear hG hN hNs hb0 hn0 hs ht hg hd
  go_enter Tryz.func3, Tryz.ntmps3
  go_wp2_with (fail)
  refine HA.out.mono ?_
  rintro e w1 ⟨rfl, hb1⟩
  have HB1 := Lib.hid (HB0.out.trans (hb1.mono (by simp)))
  have HN1 := Lib.hid ((hb1.block _ (by simp)).trans HN0.out)
  clear hb1
  go_wp2_with (first | (refine wpList_row rfl 34 _ rfl w.heap.size rfl 34 N (0, 0) _ HN1.out undN rfl (infS HNS.out) ?_) | fail)
  refine (HG.out _ HB1.out).mono ?_
  rintro e w2 ⟨rfl, hb2⟩
  go_wp2
  go_ret
  exact ⟨rfl, HB1.out.trans (hb2.mono HB1.out.size)⟩

set_option maxRecDepth 100000 in
set_option maxHeartbeats 4000000 in
theorem codes_wrong (t : Tr) (w : World) (A : Option Addr) (c : Nat) (hd : t.d.ok) (hs : SlAt w w.heap.size A c t.l) (hz : t.size ≤ 1048576) (hsh : Short t) (ht : Tab w) (hg : greatB t = false) (hck : ¬ checkI t = 0) :
    Calls Tryz.prog 3 #[nodeV t.d A t.l.length c] w fun e w' => e = .returned (.bool true) ∧ Below w.heap.size w w' := by
  have hG := fun wx (hx : Below w.heap.size w wx) => great_c t wx w.heap.size A c hd (hs.below hx) hx.size hz
  have hC := fun wx (hx : Below w.heap.size w wx) => code_c wx w.heap.size hx.size t A c hd (hs.below hx) (by omega) hsh (tab_below ht hx)
  have hK := fun wx (hx : Below w.heap.size w wx) => rcheck_c t wx w.heap.size A c hd (hs.below hx) hx.size hz
  rw [hg] at hG
  have hct : codeT t = [] := by unfold codeT; rw [if_neg hck]
  rw [hct] at hC
  obtain ⟨ck, hc0⟩ : ∃ ck, checkI t = ck := ⟨_, rfl⟩
  rw [hc0] at hC hK hck
  have hq : (ck != 0) = true := by simpa using hck
  obtain ⟨N, hN⟩ : ∃ N, N = nodeA t.d A t.l.length c := ⟨_, rfl⟩
  have hNs : N.size = 22 := by rw [hN]; rfl
  simp only [nodeV, ← hN] at hG hC hK ⊢
  have hb0 : Below w.heap.size w (w.alloc (.cells N 34)) := (Below.refl _ w).alloc (Nat.le_refl _) _
  have hn0 : (w.alloc (.cells N 34)).heap[w.heap.size]? = some (.cells N 34) := heap_alloc_new _ _
  have HA := Lib.hid (awake_c _ (tab_below ht hb0))
  have HG := Lib.hid hG
  have HC := Lib.hid hC
  have HK := Lib.hid hK
  have HNS := Lib.hid hNs
  have HB0 := Lib.hid hb0
  have HN0 := Lib.hid hn0
  clear hG hC hK hN hNs hb0 hn0 hs ht hg hd hsh hct hc0
  go_enter Tryz.func3, Tryz.ntmps3
  go_wp2_with (fail)
  refine HA.out.mono ?_
  rintro e w1 ⟨rfl, hb1⟩
  have HB1 := Lib.hid (HB0.out.trans (hb1.mono (by simp)))
  have HN1 := Lib.hid ((hb1.block _ (by simp)).trans HN0.out)
  clear hb1
  go_wp2_with (first | (refine wpList_row rfl 34 _ rfl w.heap.size rfl 34 N (0, 0) _ HN1.out undN rfl (infS HNS.out) ?_) | fail)
  refine (HG.out _ HB1.out).mono ?_
  rintro e w2 ⟨rfl, hb2⟩
  have HB2 := Lib.hid (HB1.out.trans (hb2.mono HB1.out.size))
  have HN2 := Lib.hid ((hb2.block _ (Array.getElem?_eq_some_iff.1 HN1.out).1).trans HN1.out)
  clear hb2
  go_wp2_with (first | (refine wpList_row rfl 34 _ rfl w.heap.size rfl 34 N (0, 0) _ HN2.out undN rfl (infS HNS.out) ?_) | fail)
  refine (HC.out _ HB2.out).mono ?_
  rintro e w3 ⟨rfl, hb3⟩
  have HB3 := Lib.hid (HB2.out.trans (hb3.mono HB2.out.size))
  have HN3 := Lib.hid ((hb3.block _ (Array.getElem?_eq_some_iff.1 HN2.out).1).trans HN2.out)
  clear hb3
  go_wp2_with (first | (refine wpList_row rfl 34 _ rfl w.heap.size rfl 34 N (0, 0) _ HN3.out undN rfl (infS HNS.out) ?_) | fail)
  refine (HK.out _ HB3.out).mono ?_
  rintro e w4 ⟨rfl, hb4⟩
  go_wp2
  go_ret
  exact ⟨by simp, HB3.out.trans (hb4.mono HB3.out.size)⟩

set_option maxRecDepth 100000 in
set_option maxHeartbeats 4000000 in
theorem codes_right (t : Tr) (w : World) (A : Option Addr) (c : Nat) (hd : t.d.ok) (hs : SlAt w w.heap.size A c t.l) (hz : t.size ≤ 1048576) (hsh : Short t) (ht : Tab w) (he : ErrC w) (hg : greatB t = false) (hck : checkI t = 0) :
    Calls Tryz.prog 3 #[nodeV t.d A t.l.length c] w fun e w' => e = .returned (.bool true) ∧ Below w.heap.size w w' := by
  have hok : OkT t := SlAt.all_ok hd hs
  have hlen := code_small hck hok
  have hdc := decode_code t hck hok
  obtain ⟨cd, hcd⟩ : ∃ cd : ByteArray, cd = ⟨(codeL t).toArray⟩ := ⟨_, rfl⟩
  have hS : S (codeL t) = .string cd := by rw [hcd]
  have hcs : cd.size ≤ 1048576 := by rw [hcd, size_L]; omega
  rw [← hcd] at hdc
  have hG := fun wx (hx : Below w.heap.size w wx) => great_c t wx w.heap.size A c hd (hs.below hx) hx.size hz
  have hC := fun wx (hx : Below w.heap.size w wx) => code_c wx w.heap.size hx.size t A c hd (hs.below hx) (by omega) hsh (tab_below ht hx)
  have hK := fun wx (hx : Below w.heap.size w wx) => rcheck_c t wx w.heap.size A c hd (hs.below hx) hx.size hz
  have hRC := fun wx (hx : Below w.heap.size w wx) => rcode_c t wx w.heap.size A c hd (hs.below hx) hx.size hz hsh
  have hDe := fun wx (hx : Below w.heap.size w wx) => decode_c cd hcs wx (he.below hx) (tab_below ht hx)
  have hSm := fun wx (hx : Below w.heap.size w wx) (A2 : Option Addr) (c2 : Nat) (B : Nat) (hB : w.heap.size ≤ B) (hB2 : B ≤ wx.heap.size) (h2 : SlAt wx B A2 c2 t.l) => rsame_c t t wx B A2 A c2 c hd h2 hd ((hs.below hx).more hB) hB2
  rw [hg] at hG
  have hct : codeT t = codeL t := by unfold codeT; rw [if_pos hck]
  rw [hct, hck, hS] at hC
  rw [hck] at hK
  rw [hS] at hRC
  rw [same_self] at hSm
  unfold DecPost at hDe
  rw [(dec_some hdc).1, (dec_some hdc).2] at hDe
  have q1 : (cd.toList == cd.toList) = true := by simp
  obtain ⟨n, hn⟩ : ∃ n, n = t.l.length := ⟨_, rfl⟩
  obtain ⟨N, hN⟩ : ∃ N, N = nodeA t.d A n c := ⟨_, rfl⟩
  have hNs : N.size = 22 := by rw [hN]; rfl
  rw [← hn] at hG hC hK hRC hDe hSm ⊢
  simp only [nodeV, ← hN] at hG hC hK hRC hDe hSm ⊢
  have hb0 : Below w.heap.size w (w.alloc (.cells N 34)) := (Below.refl _ w).alloc (Nat.le_refl _) _
  have hn0 : (w.alloc (.cells N 34)).heap[w.heap.size]? = some (.cells N 34) := heap_alloc_new _ _
  have HA := Lib.hid (awake_c _ (tab_below ht hb0))
  have HG := Lib.hid hG
  have HC := Lib.hid hC
  have HK := Lib.hid hK
  have HRC := Lib.hid hRC
  have HDE := Lib.hid hDe
  have HSM := Lib.hid hSm
  have HNS := Lib.hid hNs
  have HB0 := Lib.hid hb0
  have HN0 := Lib.hid hn0
  clear hG hC hK hRC hDe hSm hN hNs hb0 hn0 hs ht hg hd hsh hct hck hok hlen hdc hcd hS hcs he hn
  go_enter Tryz.func3, Tryz.ntmps3
  go_wp2_with (fail)
  refine HA.out.mono ?_
  rintro e w1 ⟨rfl, hb1⟩
  have HB1 := Lib.hid (HB0.out.trans (hb1.mono (by simp)))
  have HN1 := Lib.hid ((hb1.block _ (by simp)).trans HN0.out)
  clear hb1
  go_wp2_with (first | (refine wpList_row rfl 34 _ rfl w.heap.size rfl 34 N (0, 0) _ HN1.out undN rfl (infS HNS.out) ?_) | fail)
  refine (HG.out _ HB1.out).mono ?_
  rintro e w2 ⟨rfl, hb2⟩
  have HB2 := Lib.hid (HB1.out.trans (hb2.mono HB1.out.size))
  have HN2 := Lib.hid ((hb2.block _ (Array.getElem?_eq_some_iff.1 HN1.out).1).trans HN1.out)
  clear hb2
  go_wp2_with (first | (refine wpList_row rfl 34 _ rfl w.heap.size rfl 34 N (0, 0) _ HN2.out undN rfl (infS HNS.out) ?_) | fail)
  refine (HC.out _ HB2.out).mono ?_
  rintro e w3 ⟨rfl, hb3⟩
  have HB3 := Lib.hid (HB2.out.trans (hb3.mono HB2.out.size))
  have HN3 := Lib.hid ((hb3.block _ (Array.getElem?_eq_some_iff.1 HN2.out).1).trans HN2.out)
  clear hb3
  go_wp2_with (first | (refine wpList_row rfl 34 _ rfl w.heap.size rfl 34 N (0, 0) _ HN3.out undN rfl (infS HNS.out) ?_) | fail)
  refine (HK.out _ HB3.out).mono ?_
  rintro e w4 ⟨rfl, hb4⟩
  have HB4 := Lib.hid (HB3.out.trans (hb4.mono HB3.out.size))
  have HN4 := Lib.hid ((hb4.block _ (Array.getElem?_eq_some_iff.1 HN3.out).1).trans HN3.out)
  clear hb4
  go_wp2_with (fail)
  refine (HDE.out _ HB4.out).mono ?_
  rintro e w5 ⟨A2, c2, rfl, -, hsl, hb5⟩
  have HB5 := Lib.hid (HB4.out.trans (hb5.mono HB4.out.size))
  have hn5 := (hb5.block _ (Array.getElem?_eq_some_iff.1 HN4.out).1).trans HN4.out
  obtain ⟨M, hM⟩ : ∃ M, M = nodeA t.d A2 n c2 := ⟨_, rfl⟩
  have hMs : M.size = 22 := by rw [hM]; rfl
  have hMo : M.all (·.oneCell') = true := by rw [hM]; exact all_oneCell_toArray (fun u hu => head_one _ A2 _ c2 u hu)
  have hSM := fun wx (hx : Below w.heap.size w wx) => HSM.out wx hx A2 c2 w5.heap.size HB5.out.size
  simp only [← hM] at hSM ⊢
  obtain ⟨W6, hW6⟩ : ∃ W6, W6 = w5.alloc (.cells M 34) := ⟨_, rfl⟩
  have hb6 : Below w5.heap.size w5 W6 := by rw [hW6]; exact (Below.refl _ _).alloc (Nat.le_refl _) _
  have hm6 : W6.heap[w5.heap.size]? = some (.cells M 34) := by rw [hW6]; exact heap_alloc_new _ _
  have hn6 : W6.heap[w.heap.size]? = some (.cells N 34) := (hb6.block _ (Array.getElem?_eq_some_iff.1 hn5).1).trans hn5
  have HB56 := Lib.hid hb6
  have HB6 := Lib.hid (HB5.out.trans (hb6.mono HB5.out.size))
  have HSL := Lib.hid hsl
  have HSM2 := Lib.hid hSM
  have HMS := Lib.hid hMs
  have HMO := Lib.hid hMo
  have HW6 := Lib.hid hW6
  have HM6 := Lib.hid hm6
  have HN6 := Lib.hid hn6
  clear hsl hb5 hn5 hM hMs hMo hSM hW6 hb6 hm6 hn6
  go_wp2_with (first | (refine wpList_nodeVar rfl rfl w5.heap.size rfl ?_) | (refine wpList_storeFresh (w := w5) rfl _ _ _ rfl w5.heap.size rfl M rfl rfl (infS HMS.out) HMS.out.symm HMO.out ?_; rw [← HW6.out]) | (refine wpList_row rfl 34 _ rfl w.heap.size rfl 34 N (0, 0) _ HN6.out undN rfl (infS HNS.out) ?_) | fail)
  refine (HRC.out _ HB6.out).mono ?_
  rintro e w7 ⟨rfl, hb7⟩
  have HB7 := Lib.hid (HB6.out.trans (hb7.mono HB6.out.size))
  have HN7 := Lib.hid ((hb7.block _ (Array.getElem?_eq_some_iff.1 HN6.out).1).trans HN6.out)
  have HM7 := Lib.hid ((hb7.block _ (Array.getElem?_eq_some_iff.1 HM6.out).1).trans HM6.out)
  have HB57 := Lib.hid (HB56.out.trans (hb7.mono HB56.out.size))
  clear hb7
  go_wp2_with (first | (refine wpList_row rfl 34 _ rfl w.heap.size rfl 34 N (0, 0) _ HN7.out undN rfl (infS HNS.out) ?_) | (refine wpList_row rfl 34 _ rfl w5.heap.size rfl 34 M (0, 0) _ HM7.out undN rfl (infS HMS.out) ?_) | fail)
  refine (HSM2.out _ HB7.out HB57.out.size (HSL.out.below HB57.out)).mono ?_
  rintro e w8 ⟨rfl, hb8⟩
  go_wp2
  go_ret
  exact ⟨rfl, HB7.out.trans (hb8.mono HB7.out.size)⟩
theorem treeCodes_walk (t : Tr) (w : World) (A : Option Addr) (c : Nat) (hd : t.d.ok) (hs : SlAt w w.heap.size A c t.l) (hz : t.size ≤ 1048576) (hsh : Short t) (ht : Tab w) (he : ErrC w) :
    Calls Tryz.prog 3 #[nodeV t.d A t.l.length c] w fun e w' => e = .returned (.bool true) ∧ Below w.heap.size w w' := by
  cases hg : greatB t with
  | true => exact codes_great t w A c hd hs hz ht hg
  | false =>
    by_cases hck : checkI t = 0
    · exact codes_right t w A c hd hs hz hsh ht he hg hck
    · exact codes_wrong t w A c hd hs hz hsh ht hg hck
end Go.Proofs.YtggpffipijoddaaGreatDoor
