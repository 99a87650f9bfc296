/- How long a right tree's text is at most. Law 18's Small. A right content is read from its text. Plain. CellsCode: the walk. -/
import Derived.Test.YtelombedjkbckaaGreatDoorEaEbEd
import Derived.Test.YtelombedjkbckaaGreatDoorBuCx
import Derived.Test.YtelombedjkbckaaGreatDoorTzCzTc
import Derived.Test.YtelombedjkbckaaGreatDoorXaXb
import Derived.Test.YtelombedjkbckaaGreatDoorOvNoGt
import Derived.Test.YtelombedjkbckaaGreatDoorXwXxXy
import Derived.Test.YtelombedjkbckaaGreatDoorXiM
namespace Go.Proofs.YtelombedjkbckaaGreatDoor
open Go.RowKit Go.Shelf

theorem val_le3 (v : Vl) (hv : v.ok) (hs : v.text.size ≤ 300) : (valL v).length ≤ 400 := by
  have h1 := itoa_le v.mant hv.2.1
  have h2 := itoa_le v.exp hv.2.2.1
  have h3 := itoa_le v.fault hv.2.2.2.2
  have h4 := sized_le v.text (by omega)
  unfold valL
  split
  · simp; omega
  split
  · simp; omega
  split
  · split <;> simp
  · simp; omega
theorem part_le3 (d : ND) (n : Nat) (hd : d.ok) (hn : n ≤ 9223372036854775807) (h1 : d.name.size ≤ 300) (h2 : d.v.text.size ≤ 300) : (partL d n).length ≤ 1000 := by
  have e1 := val_le3 d.v hd.2.1 h2
  have e2 := corner_le d.a hd.2.2.2.1
  have e3 := corner_le d.b hd.2.2.2.2.1
  have e4 := sized_le d.name (by omega)
  have e5 := itoa_le (n : Int) (by unfold i64; omega)
  have e6 := itoa_le d.rows hd.2.2.2.2.2
  have e7 : d.name.data.toList.length = d.name.size := by simp
  unfold partL
  repeat (split; · simp; omega)
  simp
theorem right_small : ∀ (f : Nat) (t : Tr) (call : Bool) (_ : t.depth ≤ f) (_ : rrightB t call = true), ∀ x ∈ t.nodes, x.d.name.size ≤ 300 ∧ x.d.v.text.size ≤ 300
  | 0, .mk d l, _, hdep, _ => by rw [Tr.depth] at hdep; omega
  | f + 1, .mk d l, call, hdep, hr => by
    rw [Tr.depth] at hdep
    rw [rrightB, Bool.and_eq_true, Bool.and_eq_true] at hr
    obtain ⟨⟨h1, _⟩, h3⟩ := hr
    have hkids : ∀ (m : List Tr) (_ : Tr.depths m ≤ f) (_ : rrightsB d.kind m = true), ∀ x ∈ Tr.nodess m, x.d.name.size ≤ 300 ∧ x.d.v.text.size ≤ 300 := by
      intro m
      induction m with
      | nil => intro _ _ x hx; cases hx
      | cons t m ih =>
        intro hd hrs x hx
        rw [Tr.depths] at hd
        rw [rrightsB, Bool.and_eq_true, Bool.and_eq_true] at hrs
        rw [Tr.nodess] at hx
        rcases List.mem_append.1 hx with hx | hx
        · exact right_small f t _ (by omega) hrs.1.2 x hx
        · exact ih (by omega) hrs.2 x hx
    intro x hx
    rw [Tr.nodes] at hx
    rcases List.mem_cons.1 hx with rfl | hx
    · exact rown_small h1
    · exact hkids l (by omega) h3 x hx
theorem code_small {t : Tr} (h : checkI t = 0) (hok : OkT t) : (codeL t).length ≤ 1000000 := by
  obtain ⟨h1, h2, h3⟩ := check_right h
  have hs := right_small 32 t false h2 h3
  have key : ∀ l : List Tr, (∀ x ∈ l, x.d.ok ∧ x.l.length ≤ 9223372036854775807) → (∀ x ∈ l, x.d.name.size ≤ 300 ∧ x.d.v.text.size ≤ 300) → (l.flatMap fun x => codeOne x.d x.l.length).length ≤ l.length * 1001 := by
    intro l
    induction l with
    | nil => intro _ _; simp
    | cons a l ih =>
      intro ha hb
      have e1 := part_le3 a.d a.l.length (ha a (by simp)).1 (ha a (by simp)).2 (hb a (by simp)).1 (hb a (by simp)).2
      have e2 := ih (fun x hx => ha x (by simp [hx])) (fun x hx => hb x (by simp [hx]))
      rw [List.flatMap_cons, List.length_append, List.length_cons]
      have e3 : (codeOne a.d a.l.length).length = (partL a.d a.l.length).length + 1 := by simp [codeOne]
      omega
  have := key t.nodes hok hs
  rw [nodes_len] at this
  unfold codeL
  omega
end Go.Proofs.YtelombedjkbckaaGreatDoor
namespace Go.Proofs.YtelombedjkbckaaGreatDoor
open Go Go.RowKit Go.Shelf

/-- is a content more than is looked at? -/
def bigC (x : Ct) : Bool := decide (300 < x.v.text.size) || greatB x.t
def smallI (x : Ct) : Int := if bigC x = true then 0 else 1

set_option maxRecDepth 100000 in
set_option maxHeartbeats 2000000 in
theorem small_c (x : Ct) (w : World) (B : Nat) (A : Option Addr) (c : Nat) (hv : x.v.ok) (hd : x.t.d.ok) (hs : SlAt w B A c x.t.l) (hB : B ≤ w.heap.size) (hsz : x.t.size ≤ 1048576) :
    Calls Tryz.prog 12 #[contV x A c] w fun e w' => e = .returned (.int .i64 (smallI x)) ∧ Below w.heap.size w w' := by
  obtain ⟨W0, hW0⟩ : ∃ W0, W0 = w.alloc (.cells (contA x A c) 43) := ⟨_, rfl⟩
  have hbel : Below w.heap.size w W0 := by rw [hW0]; exact (Below.refl _ w).alloc (Nat.le_refl _) _
  have hz0 : W0.heap.size = w.heap.size + 1 := by rw [hW0]; simp
  have hk0 : W0.heap[w.heap.size]? = some (.cells (contA x A c) 43) := by rw [hW0]; exact heap_alloc_new _ _
  have hG := great_c x.t W0 B A c hd ((hs.below (hbel.mono hB))) (by have := hbel.size; omega) hsz
  have hrow := cont_row hk0
  have ht := hrow.2.1 3 _ rfl
  have hts : x.v.text.size ≤ 9223372036854775807 := hv.2.2.2.1
  have hr7 := hrow.2.2
  have hinf := infNl x.t.d A x.t.l.length c
  obtain ⟨N, hN⟩ : ∃ N, N = nodeA x.t.d A x.t.l.length c := ⟨_, rfl⟩
  rw [nodeV, ← hN] at hG
  rw [← hN] at hr7 hinf
  obtain ⟨CA, hCA⟩ : ∃ C, C = contA x A c := ⟨_, rfl⟩
  obtain ⟨b, hb⟩ : ∃ b, b = w.heap.size := ⟨_, rfl⟩
  rw [contV, ← hCA]
  rw [← hCA] at hW0
  rw [← hb] at ht hr7
  obtain ⟨r, hr⟩ : ∃ r, smallI x = r := ⟨_, rfl⟩
  rw [hr]
  unfold smallI bigC at hr
  obtain ⟨gr, hgr⟩ : ∃ g, greatB x.t = g := ⟨_, rfl⟩
  rw [hgr] at hG hr
  obtain ⟨tx, htx⟩ : ∃ t, x.v.text = t := ⟨_, rfl⟩
  rw [htx] at ht hr hts
  have HG := Lib.hid hG
  have HT := Lib.hid ht
  have HR7 := Lib.hid hr7
  have HI := Lib.hid hinf
  have HW := Lib.hid hW0
  have HB := Lib.hid hb
  have HBL := Lib.hid hbel
  have HR := Lib.hid hr
  clear hG ht hr7 hinf hW0 hb hbel hr hk0 hrow hz0 hgr htx hN hCA hd hv hs hB hsz
  have ht := HT.out
  by_cases hl : 300 < tx.size
  · have q1 : decide ((300 : Int) < (tx.size : Int)) = true := decide_eq_true (by omega)
    go_enter Tryz.func12, Tryz.ntmps12
    go_upto_region 1 with (fail)
    rw [← HW.out, ← HB.out]
    go_wp2
    go_ret
    exact ⟨by rw [← HR.out]; simp [hl], HBL.out⟩
  · have q1 : decide ((300 : Int) < (tx.size : Int)) = false := decide_eq_false (by omega)
    cases gr
    all_goals
      go_enter Tryz.func12, Tryz.ntmps12
      go_upto_region 1 with (fail)
      rw [← HW.out, ← HB.out]
      go_wp2_with (first | (refine wpList_mid rfl 41 _ rfl b 7 rfl N.toList _ HR7.out undN rfl HI.out ?_; simp only [Array.toArray_toList]) | (go_at_call 31; refine HG.out.mono ?_; rintro e w2 ⟨rfl, hbe⟩))
      go_ret
      exact ⟨by rw [← HR.out]; simp [hl], HBL.out.trans (hbe.mono HBL.out.size)⟩
end Go.Proofs.YtelombedjkbckaaGreatDoor
namespace Go.Proofs.YtelombedjkbckaaGreatDoor
open Go Go.RowKit Go.Shelf

theorem same_ct {x y : Ct} (h : sameC x y = true) : x = y := by
  obtain ⟨k, v, t⟩ := x
  obtain ⟨k', v', t'⟩ := y
  simp only [sameC, Bool.and_eq_true, decide_eq_true_eq, sameB_eq] at h
  obtain ⟨rfl, rfl, rfl⟩ := h
  rfl
theorem mt_okT {v : Vl} (h : v.ok) : OkT (mT v) := by
  intro x hx
  simp only [mT, Tr.nodes, Tr.nodess, List.append_nil, List.mem_cons, List.not_mem_nil, or_false] at hx
  rcases hx with rfl | rfl
  · exact ⟨mtD_ok, by simp [Tr.l]⟩
  · exact ⟨litD_ok h, by simp [Tr.l]⟩
theorem dec_of {s : ByteArray} {t : Tr} (h : decodeT s = some t) : decTr s = t ∧ decErr s = 0 := dec_some h
theorem raw_code (x : Ct) (hr : rightC x = true) (hok : OkT x.t) (hv : x.v.ok) (s : ByteArray) (hs : s.data.toList = codeC x) : decRaw s = (x, true) := by
  have hl : s.toList = codeC x := by rw [ByteArray.toList_eq]; exact hs
  unfold decRaw
  rw [hl, hs]
  by_cases k0 : x.k = 0
  · have e : x = zCt := by
      unfold rightC at hr
      rw [if_pos k0] at hr
      exact same_ct hr
    subst e
    rfl
  by_cases k2 : x.k = 2
  · have hc : codeC x = 61 :: codeL x.t := by unfold codeC; rw [if_neg k0, if_pos k2]
    unfold rightC at hr
    rw [if_neg k0, if_neg (by omega), if_pos k2] at hr
    simp only [Bool.and_eq_true, decide_eq_true_eq] at hr
    have hf : forS s = ⟨(codeL x.t).toArray⟩ := by
      unfold forS
      rw [hs, hc]
      rfl
    obtain ⟨h1, h2⟩ := dec_of (decode_code x.t hr.2 hok)
    rw [hc]
    rw [if_neg (by intro h; injection h with h; cases h), if_neg (show ¬ Lib.hasPrefix (61 :: codeL x.t) [86] = true by simp [Lib.hasPrefix, List.isPrefixOf]), if_pos (show Lib.hasPrefix (61 :: codeL x.t) [61] = true by simp [Lib.hasPrefix, List.isPrefixOf])]
    rw [hf, h1, h2]
    obtain ⟨k, v, t⟩ := x
    dsimp only at k2 hr ⊢
    subst k2
    rw [hr.1]
    rfl
  have k1 : x.k = 1 := by
    by_cases k1 : x.k = 1
    · exact k1
    · unfold rightC at hr
      rw [if_neg k0, if_neg k1, if_neg k2] at hr
      cases hr
  have hc : codeC x = 86 :: (valL x.v ++ [59]) := by unfold codeC; rw [if_neg k0, if_neg k2]
  obtain ⟨hk, hvr⟩ := right_val k1 hr
  unfold rightC at hr
  rw [if_neg k0, if_pos k1] at hr
  simp only [Bool.and_eq_true, sameB_eq] at hr
  have hm : matS s = ⟨(codeL (mT x.v)).toArray⟩ := by
    unfold matS
    rw [hs, hc, mt_text]
    rfl
  obtain ⟨h1, h2⟩ := dec_of (decode_code (mT x.v) (mt_check hk hvr) (mt_okT hv))
  rw [hc]
  rw [if_neg (by intro h; injection h with h; cases h), if_pos (show Lib.hasPrefix (86 :: (valL x.v ++ [59])) [86] = true by simp [Lib.hasPrefix, List.isPrefixOf])]
  rw [hm, h1, h2]
  rw [if_pos ⟨rfl, rfl, rfl⟩]
  obtain ⟨k, v, t⟩ := x
  dsimp only at k1 hr ⊢
  subst k1
  rw [hr.1]
  rfl
theorem decC_code (x : Ct) (hr : rightC x = true) (hok : OkT x.t) (hv : x.v.ok) : decC ⟨(codeC x).toArray⟩ = (x, 0) := by
  have h := raw_code x hr hok hv ⟨(codeC x).toArray⟩ rfl
  unfold decC
  rw [h]
  exact if_pos ⟨rfl, hr, rfl⟩
theorem codeC_small {x : Ct} (hr : rightC x = true) (hok : OkT x.t) (hv : x.v.ok) (hvs : x.v.text.size ≤ 300) : (codeC x).length ≤ 1000100 := by
  unfold codeC
  split
  · simp
  · split
    · rename_i k0 k2
      unfold rightC at hr
      rw [if_neg k0, if_neg (by omega), if_pos k2] at hr
      simp only [Bool.and_eq_true, decide_eq_true_eq] at hr
      have := code_small hr.2 hok
      simp; omega
    · have := val_le3 x.v hv hvs
      simp; omega
end Go.Proofs.YtelombedjkbckaaGreatDoor
namespace Go.Proofs.YtelombedjkbckaaGreatDoor
open Go Go.RowKit Go.Shelf

set_option maxRecDepth 100000 in
set_option maxHeartbeats 4000000 in
theorem cellsCode_walk (x : Ct) (w : World) (A : Option Addr) (c : Nat) (hv : x.v.ok) (hd : x.t.d.ok) (hs : SlAt w w.heap.size A c x.t.l) (hz : x.t.size ≤ 1048576) (hsh : Short x.t) (ht : Tab w) (he : ErrC w) :
    Calls Tryz.prog 6 #[contV x A c] w fun e w' => e = .returned (.bool true) ∧ Below w.heap.size w w' := by
  obtain ⟨W0, hW0⟩ : ∃ W0, W0 = w.alloc (.cells (contA x A c) 43) := ⟨_, rfl⟩
  have hbel : Below w.heap.size w W0 := by rw [hW0]; exact (Below.refl _ w).alloc (Nat.le_refl _) _
  have hz0 : W0.heap.size = w.heap.size + 1 := by rw [hW0]; simp
  have hk0 : W0.heap[w.heap.size]? = some (.cells (contA x A c) 43) := by rw [hW0]; exact heap_alloc_new _ _
  have hok : OkT x.t := SlAt.all_ok hd hs
  have hsl : ∀ wx, Below W0.heap.size W0 wx → SlAt wx w.heap.size A c x.t.l := fun wx hx => (hs.below hbel).below (hx.mono (by omega))
  have hle : ∀ wx, Below W0.heap.size W0 wx → w.heap.size ≤ wx.heap.size := fun wx hx => by have := hx.size; omega
  have hS := fun wx hx => small_c x wx w.heap.size A c hv hd (hsl wx hx) (hle wx hx) hz
  have haw := awake18_c W0 (tab_below ht hbel)
  have hkq : ∀ wx, Below W0.heap.size W0 wx → wx.heap[w.heap.size]? = some (.cells (contA x A c) 43) := fun wx hx => (hx.block _ (by omega)).trans hk0
  have hcx : (Tryz.prog.info? 43).map (·.size) = some (contA x A c).size := infC
  have hC := fun wx (hx : Below W0.heap.size W0 wx) (hvs : x.v.text.size ≤ 300) => code18_c x wx w.heap.size A c hv hd (hsl wx hx) (hle wx hx) hz hsh (by omega) (tab_below ht (hbel.trans (hx.mono hbel.size)))
  have hRR := fun wx hx => rright18_c x wx w.heap.size A c hv hd (hsl wx hx) (hle wx hx) hz
  have hR := fun wx hx => cright_c x wx w.heap.size A c hv hd (hsl wx hx) (hle wx hx) (by omega)
  have hRC := fun wx hx (hvs : x.v.text.size ≤ 300) => rcode18_c x wx w.heap.size A c hv hd (hsl wx hx) (hle wx hx) hz hsh (by omega)
  have hSM := fun wx (hx : Below W0.heap.size W0 wx) (A' : Option Addr) (c' : Nat) (B' : Nat) (hB' : B' ≤ wx.heap.size) (hwB : w.heap.size ≤ B') (hs' : SlAt wx B' A' c' x.t.l) => rcsame_c x x wx B' A' A c' c hd hs' hd ((hsl wx hx).more hwB) hB'
  rw [sameC_self] at hSM
  have hbig : bigC x = false → x.v.text.size ≤ 300 := fun h => by
    unfold bigC at h
    simp only [Bool.or_eq_false_iff, decide_eq_false_iff_not] at h
    omega
  have hD := fun wx (hx : Below W0.heap.size W0 wx) (hr : rightC x = true) (hvs : x.v.text.size ≤ 300) => decodeC_c ⟨(codeC x).toArray⟩ (by have := codeC_small hr hok hv hvs; show (codeC x).toArray.size ≤ _; simp; omega) wx (he.below (hbel.trans (hx.mono hbel.size))) (tab_below ht (hbel.trans (hx.mono hbel.size)))
  have hdc := fun (hr : rightC x = true) => decC_code x hr hok hv
  simp only [contV] at hS hC hRR hR hRC hSM ⊢
  obtain ⟨CA, hCA⟩ : ∃ C, C = contA x A c := ⟨_, rfl⟩
  rw [← hCA] at hS hW0 hkq hcx hC hRR hR hRC ⊢
  simp only [← hCA] at hSM
  obtain ⟨b, hb⟩ : ∃ b, b = w.heap.size := ⟨_, rfl⟩
  rw [← hb] at hkq
  have HS := Lib.hid hS
  have HAW := Lib.hid haw
  have HKQ := Lib.hid hkq
  have HCX := Lib.hid hcx
  have HC := Lib.hid hC
  have HRR := Lib.hid hRR
  have HR := Lib.hid hR
  have HRC := Lib.hid hRC
  have HSM := Lib.hid hSM
  have HBIG := Lib.hid hbig
  have HD := Lib.hid hD
  have HDC := Lib.hid hdc
  have HW := Lib.hid hW0
  have HB := Lib.hid hb
  have HBL := Lib.hid hbel
  have HLE := Lib.hid hle
  clear hS haw hkq hcx hC hRR hR hRC hSM hbig hD hdc hW0 hb hbel hle hsl hok hk0 hz0 hCA hs hd hv hz hsh ht he
  go_enter Tryz.func6, Tryz.ntmps6
  go_upto_region 1 with (fail)
  rw [← HW.out, ← HB.out]
  go_wp2_with (fail)
  refine HAW.out.mono ?_
  rintro e w1 ⟨rfl, hb1⟩
  have hk1 := Lib.hid (HKQ.out w1 hb1)
  cases hbg : bigC x with
  | true =>
    have HS1 := Lib.hid (by have := HS.out w1 hb1; rw [show smallI x = 0 by unfold smallI; rw [if_pos hbg]] at this; exact this)
    go_wp2_with (first | (refine wpList_row rfl 43 _ rfl b rfl 43 CA (0, 0) _ hk1.out undC rfl HCX.out ?_) | (go_at_call 12; refine HS1.out.mono ?_; rintro e w2 ⟨rfl, hb2⟩))
    go_ret
    exact ⟨rfl, HBL.out.trans ((hb1.trans (hb2.mono hb1.size)).mono HBL.out.size)⟩
  | false =>
    have hvs := HBIG.out hbg
    have HS1 := Lib.hid (by have := HS.out w1 hb1; rw [show smallI x = 1 by unfold smallI; rw [if_neg (by rw [hbg]; simp)]] at this; exact this)
    clear hbg
    have HVS := Lib.hid hvs
    clear hvs
    go_upto_region 5 with (first | (refine wpList_row rfl 43 _ rfl b rfl 43 CA (0, 0) _ hk1.out undC rfl HCX.out ?_) | (go_at_call 12; refine HS1.out.mono ?_; rintro e w2 ⟨rfl, hb2'⟩; have hb2 : Below W0.heap.size W0 w2 := hb1.trans (hb2'.mono hb1.size)))
    have hk2 := Lib.hid (HKQ.out w2 hb2)
    cases hr : rightC x with
    | false =>
      have HC1 := Lib.hid (by have := HC.out w2 hb2 HVS.out; rw [hr] at this; exact this)
      have HRR1 := Lib.hid (fun wx hx => by have := HRR.out wx hx; rw [hr] at this; exact this)
      have HR1 := Lib.hid (fun wx hx => by have := HR.out wx hx; rw [hr] at this; exact this)
      clear hr
      go_upto_region 6 with (first | (refine wpList_row rfl 43 _ rfl b rfl 43 CA (0, 0) _ hk2.out undC rfl HCX.out ?_) | (go_at_call 22; refine HC1.out.mono ?_; rintro e w3 ⟨rfl, hb3'⟩; have hb3 : Below W0.heap.size W0 w3 := hb2.trans (hb3'.mono hb2.size)))
      have hk3 := Lib.hid (HKQ.out w3 hb3)
      go_upto_region 7 with (first | (refine wpList_row rfl 43 _ rfl b rfl 43 CA (0, 0) _ hk3.out undC rfl HCX.out ?_) | (go_at_call 23; refine (HRR1.out w3 hb3).mono ?_; rintro e w4 ⟨rfl, hb4'⟩; have hb4 : Below W0.heap.size W0 w4 := hb3.trans (hb4'.mono hb3.size)))
      have hk4 := Lib.hid (HKQ.out w4 hb4)
      go_wp2_with (first | (refine wpList_row rfl 43 _ rfl b rfl 43 CA (0, 0) _ hk4.out undC rfl HCX.out ?_) | (go_at_call 24; refine (HR1.out w4 hb4).mono ?_; rintro e w5 ⟨rfl, hb5'⟩; have hb5 : Below W0.heap.size W0 w5 := hb4.trans (hb5'.mono hb4.size)))
      go_ret
      exact ⟨rfl, HBL.out.trans (hb5.mono HBL.out.size)⟩
    | true =>
      obtain ⟨cd, hcd⟩ : ∃ cd : ByteArray, cd = ⟨(codeC x).toArray⟩ := ⟨_, rfl⟩
      have HC1 : Hid (Calls Tryz.prog 22 #[.agg CA] w2 fun e w' => e = .returned (.tuple #[.string cd, .int .i64 0]) ∧ Below w2.heap.size w2 w') := Lib.hid (by have := HC.out w2 hb2 HVS.out; rw [hr, if_pos rfl, if_pos rfl] at this; rw [hcd]; exact this)
      have HRR1 := Lib.hid (fun wx hx => by have := HRR.out wx hx; rw [hr] at this; exact this)
      have HR1 := Lib.hid (fun wx hx => by have := HR.out wx hx; rw [hr] at this; exact this)
      have HRC1 : Hid (∀ wx, Below W0.heap.size W0 wx → Calls Tryz.prog 26 #[.agg CA] wx fun e w' => e = .returned (.string cd) ∧ Below wx.heap.size wx w') := Lib.hid (fun wx hx => by rw [hcd]; exact HRC.out wx hx HVS.out)
      have HD1 : Hid (∀ wx, Below W0.heap.size W0 wx → Calls Tryz.prog 25 #[.string cd] wx (DecCPost wx (x, 0))) := Lib.hid (fun wx hx => by
        have := HD.out wx hx hr HVS.out
        rw [HDC.out hr, ← hcd] at this
        exact this)
      have qs : (cd.toList == cd.toList) = true := by simp
      clear hr hcd
      go_upto_region 6 with (first | (refine wpList_row rfl 43 _ rfl b rfl 43 CA (0, 0) _ hk2.out undC rfl HCX.out ?_) | (go_at_call 22; refine HC1.out.mono ?_; rintro e w3 ⟨rfl, hb3'⟩; have hb3 : Below W0.heap.size W0 w3 := hb2.trans (hb3'.mono hb2.size)))
      have hk3 := Lib.hid (HKQ.out w3 hb3)
      go_upto_region 7 with (first | (refine wpList_row rfl 43 _ rfl b rfl 43 CA (0, 0) _ hk3.out undC rfl HCX.out ?_) | (go_at_call 23; refine (HRR1.out w3 hb3).mono ?_; rintro e w4 ⟨rfl, hb4'⟩; have hb4 : Below W0.heap.size W0 w4 := hb3.trans (hb4'.mono hb3.size)))
      have hk4 := Lib.hid (HKQ.out w4 hb4)
      go_upto_region 11 with (first | (refine wpList_row rfl 43 _ rfl b rfl 43 CA (0, 0) _ hk4.out undC rfl HCX.out ?_) | (go_at_call 24; refine (HR1.out w4 hb4).mono ?_; rintro e w5 ⟨rfl, hb5'⟩; have hb5 : Below W0.heap.size W0 w5 := hb4.trans (hb5'.mono hb4.size)))
      go_wp2_with (fail)
      refine (HD1.out w5 hb5).mono ?_
      rintro e w6 ⟨A', c', rfl, hv', hd', hsl', hb6'⟩
      dsimp only at hsl' ⊢
      have hb6 : Below W0.heap.size W0 w6 := hb5.trans (hb6'.mono hb5.size)
      obtain ⟨q, hq⟩ : ∃ q, w6.heap.size = q := ⟨_, rfl⟩
      simp only [contV]
      obtain ⟨CX, hCX⟩ : ∃ CX, CX = contA x A' c' := ⟨_, rfl⟩
      have hxs : CX.size = 29 := by rw [hCX]; rfl
      have hxo : CX.all (·.oneCell') = true := by rw [hCX]; exact cont_one _ _ _
      have hxi : (Tryz.prog.info? 43).map (·.size) = some CX.size := by rw [hxs]; exact infC
      have hxz : (contA zCt none 0).size = CX.size := by rw [hxs]; rfl
      obtain ⟨W7, hW7⟩ : ∃ W7, W7 = w6.alloc (.cells CX 43) := ⟨_, rfl⟩
      have hk7 : W7.heap[q]? = some (.cells CX 43) := by rw [hW7, ← hq]; exact heap_alloc_new _ _
      have hq7 : q < W7.heap.size := (Array.getElem?_eq_some_iff.1 hk7).1
      have hb67 : Below w6.heap.size w6 W7 := by rw [hW7]; exact (Below.refl _ _).alloc (Nat.le_refl _) _
      have hb7 : Below W0.heap.size W0 W7 := hb6.trans (hb67.mono hb6.size)
      have hsm : ∀ wx, Below W7.heap.size W7 wx → Calls Tryz.prog 18 #[.agg CX, .agg CA] wx fun e w' => e = .returned (.bool true) ∧ Below wx.heap.size wx w' := fun wx hx => by
        have h1 : Below w6.heap.size w6 wx := hb67.trans (hx.mono hb67.size)
        have := HSM.out wx (hb7.trans (hx.mono hb7.size)) A' c' w6.heap.size h1.size (HLE.out w6 hb6) (hsl'.below h1)
        rw [hCX]
        exact this
      have hkq7 : ∀ wx, Below W7.heap.size W7 wx → wx.heap[q]? = some (.cells CX 43) := fun wx hx => (hx.block q hq7).trans hk7
      rw [← hCX]
      have HQ := Lib.hid hq
      have HW7 := Lib.hid hW7
      have HK7 := Lib.hid hkq7
      have HXO := Lib.hid hxo
      have HXI := Lib.hid hxi
      have HXZ := Lib.hid hxz
      have HSM7 := Lib.hid hsm
      clear hq hW7 hk7 hkq7 hxo hxi hxz hsm hq7 hb67 hCX hxs hv' hd' hsl' hb6'
      go_upto_region 12 with (first | (refine wpList_contVar rfl rfl q HQ.out ?_) | (refine wpList_storeFresh rfl 43 _ _ rfl q HQ.out CX rfl rfl HXI.out HXZ.out HXO.out ?_; rw [← HW7.out]))
      have hk7b := Lib.hid (HKQ.out W7 hb7)
      have b77 : Below W7.heap.size W7 W7 := Below.refl _ _
      go_wp2_with (first | (refine wpList_row rfl 43 _ rfl b rfl 43 CA (0, 0) _ hk7b.out undC rfl HCX.out ?_) | (go_at_call 26; refine (HRC1.out W7 hb7).mono ?_; rintro e w8 ⟨rfl, hb8⟩; have hk8b := Lib.hid (HKQ.out w8 (hb7.trans (hb8.mono hb7.size))); have hk8q := Lib.hid (HK7.out w8 hb8)) | (refine wpList_row rfl 43 _ rfl q rfl 43 CX (0, 0) _ hk8q.out undC rfl HXI.out ?_) | (refine wpList_row rfl 43 _ rfl b rfl 43 CA (0, 0) _ hk8b.out undC rfl HCX.out ?_) | (go_at_call 18; refine (HSM7.out w8 hb8).mono ?_; rintro e w9 ⟨rfl, hb9⟩))
      go_ret
      exact ⟨rfl, HBL.out.trans ((hb7.trans ((hb8.trans (hb9.mono hb8.size)).mono hb7.size)).mono HBL.out.size)⟩
end Go.Proofs.YtelombedjkbckaaGreatDoor
