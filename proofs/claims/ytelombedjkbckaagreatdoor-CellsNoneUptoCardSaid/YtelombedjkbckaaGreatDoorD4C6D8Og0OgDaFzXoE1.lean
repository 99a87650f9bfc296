/- Put and Get of a store that is nil. Clone of a store of cells. CellsNone: the walk. What a row's reading of a node gives: a tree in memory, of no more nodes than the reading's bulk. What a row's reading of a node gives (with tree.Code at hand). The reader of codes, in plain words; where it lies in memory. (Seat of TreeCodes and TreeDecodes.) What the rows' condition on the library's tables gives the walks; the nodes of a row; shared by the laws of this seat. What a row's reading of a content gives; the contents of a row. What a row's reading of a cell, and of cells with contents, gives. -/
import Derived.Test.YtelombedjkbckaaGreatDoorZaZvOdOeOc
import Derived.Test.YtelombedjkbckaaGreatDoorXnKzOiC8C9Xa1D1D5
import Derived.Test.YtelombedjkbckaaGreatDoorC2RnC3C4C5SlC7
import Derived.Maps.RangeWalk
import Derived.RangeFuncBox
import Derived.Test.YtelombedjkbckaaGreatDoorXhXiGtXmHc
import Derived.Test.YtelombedjkbckaaGreatDoorD3D7FeFfFg
import Derived.Test.YtelombedjkbckaaGreatDoorFjQbFkDpFlXtD6
import Derived.Test.YtelombedjkbckaaGreatDoorRows
import Derived.Test.YtelombedjkbckaaGreatDoorNdSrRFWkSz
import Derived.ChangeOld
import Derived.OpenShut
import Derived.ProofKit
import Derived.Test.YtelombedjkbckaaGreatDoorCpCvOvCwBuCxNo
import Derived.Test.YtelombedjkbckaaGreatDoorSqXaNmVrVsRlChCmCc
import Derived.Test.YtelombedjkbckaaGreatDoorMhXcXdXd1Xc1RhXeXfXgShelfCaCo
import Derived.Lib.AtoiAllCases
import Derived.Stop.LaidErr
import Derived.Test.YtelombedjkbckaaGreatDoorTie
import Derived.Test.YtelombedjkbckaaGreatDoorCards
import Derived.LaidMore
import Derived.Stop.Joined
import Derived.Lib.SmallJoins
import Derived.ShutString
import Derived.SevenTiedAt
import Derived.Below
import Derived.Deep.DeepHandedRow
namespace Go.Proofs.YtelombedjkbckaaGreatDoor
set_option linter.unusedSimpArgs false
set_option linter.unusedVariables false
open Go Go.RowKit Go.Shelf Go.Maps

theorem putNil_c (w : World) (a : Ad) (x : Ct) (A : Option Addr) (c : Nat) : Calls Tryz.prog 13 #[.pointer none, a.val, contV x A c] w fun e w' => e = .returned (.int .i64 1) ∧ Below w.heap.size w w' := by
 obtain ⟨ra, rn, ca, cn⟩ := a
 obtain ⟨CA, hCA⟩ : ∃ C, C = contA x A c := ⟨_, rfl⟩
 rw [show contV x A c = .agg CA by rw [hCA]]
 simp only [Ad.val]
 obtain ⟨W0, hW0⟩ : ∃ W0, W0 = (w.alloc (.cells #[.int .i64 ra, .int .i64 rn, .int .i64 ca, .int .i64 cn] 30)).alloc (.cells CA 43) := ⟨_, rfl⟩
 have hbel : Below w.heap.size w W0 := by rw [hW0]; exact ((Below.refl _ w).alloc (Nat.le_refl _) _).alloc (by simp) _
 have HW0 := Jh hW0
 have HBEL := Jh hbel
 clear hW0 hbel hCA
 go_enter Tryz.func13, Tryz.ntmps13
 go_upto_region 1 with (fail)
 rw [← HW0.out]
 go_wp2_with (fail)
 first | go_ret | go_ret2
 exact ⟨rfl, HBEL.out⟩
theorem getNil_c (w : World) (a : Ad) : Calls Tryz.prog 19 #[.pointer none, a.val] w fun e w' => e = .returned (contV zCt none 0) ∧ Below w.heap.size w w' := by
 obtain ⟨ra, rn, ca, cn⟩ := a
 obtain ⟨CZ, hCZ⟩ : ∃ C, C = contA zCt none 0 := ⟨_, rfl⟩
 rw [show contV zCt none 0 = .agg CZ by rw [hCZ]]
 simp only [Ad.val]
 obtain ⟨b, hb⟩ : ∃ b, b = w.heap.size := ⟨_, rfl⟩
 obtain ⟨W0, hW0⟩ : ∃ W0, W0 = (w.alloc (.cells #[.int .i64 ra, .int .i64 rn, .int .i64 ca, .int .i64 cn] 30)).alloc (.cells CZ 43) := ⟨_, rfl⟩
 have hbel : Below w.heap.size w W0 := by rw [hW0]; exact ((Below.refl _ w).alloc (Nat.le_refl _) _).alloc (by simp) _
 have hk1 : W0.heap[b + 1]? = some (.cells CZ 43) := by
  rw [hW0, hb]
  have := heap_alloc_new (w.alloc (.cells #[.int .i64 ra, .int .i64 rn, .int .i64 ca, .int .i64 cn] 30)) (.cells CZ 43)
  rwa [World.size_alloc] at this
 have hi : (Tryz.prog.info? 43).map (·.size) = some CZ.size ∧ (contA zCt none 0).size = CZ.size ∧ CZ.all (·.oneCell') = true := by rw [hCZ]; exact ⟨infC, rfl, cont_one _ _ _⟩
 have HCZ := Jh hCZ
 have HW0 := Jh hW0
 have HB := Jh hb
 have HBEL := Jh hbel
 have HK := Jh hk1
 have HI := Jh hi
 clear hW0 hbel hCZ hk1 hi hb
 go_enter Tryz.func19, Tryz.ntmps19
 go_upto_region 1 with (refine wpList_contVar rfl rfl (w.heap.size + 1) (by simp) ?_)
 rw [← HCZ.out, ← HW0.out, ← HB.out]
 go_wp2_with (first | (refine wpList_buildSome rfl 43 _ rfl CZ ?_ ?_; focus (rw [HCZ.out]; kernel_rfl)) | (refine wpList_store_row rfl 43 _ _ rfl (b + 1) CZ rfl rfl 43 CZ HK.out HI.out.1 rfl HI.out.2.2 ?_) | fail)
 refine bodyPost_ret (v := .agg CZ) (results_cell_row rfl _ _ (b + 1) 43 CZ (0, 0) _ rfl (setRow_heap _ _ _ _ _ _ HK.out) undC rfl HI.out.1) rfl ?_
 exact ⟨rfl, below_row HBEL.out (by rw [HB.out]; omega) _⟩
end Go.Proofs.YtelombedjkbckaaGreatDoor
namespace Go.Proofs.YtelombedjkbckaaGreatDoor
set_option linter.unusedSimpArgs false
set_option linter.unusedVariables false
open Go Go.RowKit Go.Shelf Go.Maps

theorem getA_keep {M : List (Ad × Ct)} (ho : InOrder M) (xs : List Ad) (k : Ad) (c : Ct) : getA (M.filter fun e => decide (e.1 ∈ xs)) k = some c ↔ (k, c) ∈ M ∧ k ∈ xs := by
 rw [getA_mem (List.Pairwise.filter _ ho), List.mem_filter]
 simp
theorem filt_put {M : List (Ad × Ct)} (ho : InOrder M) {xs : List Ad} {a : Ad} {x : Ct} (hm : (a, x) ∈ M) : putA a x false (M.filter fun e => decide (e.1 ∈ xs)) = M.filter fun e => decide (e.1 ∈ xs ++ [a]) := by
 refine order_ext (putA_order (List.Pairwise.filter _ ho)) (List.Pairwise.filter _ ho) (fun k => ?_)
 refine Option.ext fun c => ?_
 rw [getA_putA, getA_keep ho]
 by_cases e : k = a
 · subst e
   rw [if_pos rfl]
   have h1 := (getA_mem ho).2 hm
   constructor
   · intro h; cases h; exact ⟨hm, by simp⟩
   · rintro ⟨h, -⟩
     have h2 := (getA_mem ho).2 h
     rw [h1] at h2; exact h2
 · rw [if_neg e, getA_keep ho]
   simp [e]
/-- where the loop of Clone stands. -/
structure ClR (w : World) (b r nn : Nat) (D : DataW Value) (M : List (Ad × Ct)) (pc mc : Nat) (xs : List Ad) (left : Lit → Bool) (cnt n' : Nat) (Dc : DataW Value) (wr : World) : Prop where
 bel : Below w.heap.size w wr
 rg : wr.ranges Tryz.prog 30 heldR b r nn D left cnt
 met : MetK D left xs
 len : xs.length + cnt ≤ Maps.size D
 st : StAt wr pc (some mc) n' Dc
 rep : Rep wr (fun k => r < k ∧ k < wr.heap.size) Dc (M.filter fun e => decide (e.1 ∈ xs))
 nle : n' ≤ xs.length
/-- one more is copied. -/
theorem ClR.step {w : World} {b r nn : Nat} {D : DataW Value} {M : List (Ad × Ct)} {pc mc : Nat} {xs : List Ad} {left : Lit → Bool} {cnt n' cnt2 : Nat} {Dc : DataW Value} {wr w2 W3 x0 w4 w5 : World} {a : Ad} {x : Ct} {A2 : Option Addr} {c2 : Nat}
    (h : ClR w b r nn D M pc mc xs left cnt n' Dc wr) (ho : InOrder M) (hx : (a, x) ∈ M) (hok : a.ok) (hf : x.fit) {y : DataW Value} (hlk : left a.key = true) (hat : ∀ zd, D.atKey a.key zd = y)
    (hb : b < w.heap.size) (hpc : w.heap.size ≤ pc) (hmc : pc < mc) (hr : mc < r)
    (hrg2 : w2.ranges Tryz.prog 30 heldR b r nn D (fun z => left z && !z.sameKey a.key) cnt2) (hlt : cnt2 < cnt) (hg2 : wr.grownBy w2 (some r)) (hs2 : w2.heap.size = wr.heap.size) (hb3 : Below w2.heap.size w2 W3) (hx0 : Below W3.heap.size W3 x0) (hb4 : Below x0.heap.size x0 w4)
    (hs4 : SlG w4 (fun b _ => x0.heap.size ≤ b ∧ b < w4.heap.size) A2 c2 x.t.l) (hg5 : w4.grownBy w5 (some mc)) (ho5 : w5.ownsMap Tryz.prog 30 heldR mc (n' + 1) (Dc.put a.key (.held (contV x A2 c2)))) :
    ClR w b r nn D M pc mc (xs ++ [a]) (fun z => left z && !z.sameKey a.key) cnt2 (n' + 1) (Dc.put a.key (.held (contV x A2 c2))) w5 := by
 have e1 := h.bel.size
 have e2 := hb3.size
 have e3 := hx0.size
 have e4 := hb4.size
 have e5 := hg5.size
 have hpl : pc < wr.heap.size := (Jg h.st.1).1
 have hbk : ∀ k, k < wr.heap.size → k ≠ r → k ≠ mc → w5.heap[k]? = wr.heap[k]? := fun k h1 h2 h3 =>
  (hg5.block k (by omega) (fun e => h3 (Option.some.inj e))).trans ((hb4.block k (by omega)).trans ((hx0.block k (by omega)).trans ((hb3.block k (by omega)).trans (hg2.block k h1 (fun e => h2 (Option.some.inj e))))))
 have hrw : r < w2.heap.size := by obtain ⟨o, ho, -⟩ := ranges_iter hrg2; exact (Jg ho).1
 have hr5 : w5.heap[r]? = w2.heap[r]? := (hg5.block r (by omega) (fun e => by have := Option.some.inj e; omega)).trans ((hb4.block r (by omega)).trans ((hx0.block r (by omega)).trans (hb3.block r hrw)))
 have hb5 : w5.heap[b]? = w2.heap[b]? := (hg5.block b (by omega) (fun e => by have := Option.some.inj e; omega)).trans ((hb4.block b (by omega)).trans ((hx0.block b (by omega)).trans (hb3.block b (by omega))))
 have hbel : Below w.heap.size wr w5 := ⟨hg5.os.trans (hb4.os.trans (hx0.os.trans (hb3.os.trans hg2.os))), hg5.tape.trans (hb4.tape.trans (hx0.tape.trans (hb3.tape.trans hg2.tape))), hg5.output.trans (hb4.output.trans (hx0.output.trans (hb3.output.trans hg2.output))), by omega, fun k hk => hbk k (by omega) (by omega) (by omega)⟩
 refine ⟨h.bel.trans hbel, ranges_same hrg2 hb5 hr5, h.met.step hok hlk hat, by have := h.len; simp; omega, ⟨(hbk pc hpl (by omega) (by omega)).trans h.st.1, ho5⟩, ?_, by have := h.nle; simp; omega⟩
 rw [← filt_put ho hx]
 exact h.rep.put (fun k hk => ⟨hk.1, by omega⟩) (fun k hk => hbk k hk.2 (by omega) (by omega)) hok hf (hs4.keep (fun k _ hk => ⟨by omega, by omega⟩) (fun k o hk j _ => World.cell?_of_block (a := ⟨k, o + j, none⟩) (hg5.block k hk.2 (fun e => by have := Option.some.inj e; omega))))
set_option maxRecDepth 100000 in
theorem cloneN_c (w : World) : Calls Tryz.prog 21 #[.pointer none] w fun e w' => e = .returned (.pointer (some ⟨w.heap.size, 0, none⟩)) ∧ w' = w.alloc (.cells #[.map none] 62) := by
 have HNEW := Jh (new_c w)
 go_enter Tryz.func21, Tryz.ntmps21
 go_wp2_with (go_at_call 11; refine HNEW.out.mono ?_; rintro e w' ⟨rfl, hw⟩; rw [hw]; clear hw)
 first | go_ret | go_ret2
 exact ⟨rfl, rfl⟩
end Go.Proofs.YtelombedjkbckaaGreatDoor
namespace Go.Proofs.YtelombedjkbckaaGreatDoor
set_option maxRecDepth 100000
set_option maxHeartbeats 4000000
set_option linter.unusedSimpArgs false
set_option linter.unusedVariables false
open Go Go.RowKit Go.Shelf Go.Maps
theorem cellsNone_walk (a : Ad) (ha : a.ok) (x : Ct) (w : World) (A : Option Addr) (c : Nat) (hv : x.v.ok) (hd : x.t.d.ok) (hs : SlAt w w.heap.size A c x.t.l) (hz : x.t.size ≤ 1048576) (ht : Tab w) :
 Calls Tryz.prog 5 #[a.val,contV x A c] w fun e w' => e = .returned (.bool true) ∧ Below w.heap.size w w':=by
 obtain ⟨b,hb⟩ : ∃ b,b = w.heap.size:=⟨_,rfl⟩
 obtain ⟨CA,hCA⟩ : ∃ C,C = contA x A c:=⟨_,rfl⟩
 obtain ⟨W0,hW0⟩ : ∃ W0,W0 = (w.alloc (.cells a.cs.toArray 30)).alloc (.cells CA 43):=⟨_,rfl⟩
 have hbel : Below b w W0:=by rw [hW0,hb]; exact ((Below.refl _ w).alloc (Nat.le_refl _) _).alloc (by simp) _
 have hk0 : W0.heap[b]? = some (.cells a.cs.toArray 30):=by rw [hW0,hb]; exact (heapOld _ _ _ (by simp)).trans (heap_alloc_new _ _)
 have hk1 : W0.heap[b + 1]? = some (.cells CA 43):=by
  rw [hW0,hb]
  have:=heap_alloc_new (w.alloc (.cells a.cs.toArray 30)) (.cells CA 43)
  rwa [World.size_alloc] at this
 have hz0 : W0.heap.size = b + 2:=by rw [hW0,hb]; simp
 have hsl : ∀ wx,Below W0.heap.size W0 wx → SlAt wx b A c x.t.l:=fun wx hx => by rw [hb]; exact (hs.below (by rw [← hb]; exact hbel)).below (hx.mono (by omega))
 have hsm : ∀ wx,Below W0.heap.size W0 wx → Calls Tryz.prog 12 #[.agg CA] wx fun e w' => e = .returned (.int .i64 (smallI x)) ∧ Below wx.heap.size wx w':=fun wx hx => by
  rw [hCA]; exact small_c x wx b A c hv hd (hsl wx hx) (by have:=hx.size; omega) hz
 have haw:=awake18_c W0 (tab_below ht (by rw [← hb]; exact hbel))
 have hpn : ∀ wx,Calls Tryz.prog 13 #[.pointer none,a.val,.agg CA] wx fun e w' => e = .returned (.int .i64 1) ∧ Below wx.heap.size wx w':=fun wx => by rw [hCA]; exact putNil_c wx a x A c
 have hrp : ∀ wx,Below W0.heap.size W0 wx → Calls Tryz.prog 17 #[.slice none 0 0,a.val,.agg CA] wx (RputPost wx a x A c):=fun wx hx => by
  rw [hCA]; exact rputNil_c wx a ha x A c hv hd ((hsl wx hx).more (by have:=hx.size; omega)) hz
 have hcl : ∀ (wx : World) (p : Nat),wx.heap[p]? = some (.cells #[.map none] 62) → StZ wx p 0 [] (fun k => k = p):=fun wx p h => ⟨none,.map [],fun _ => False,⟨h,rfl⟩,Rep.empty _ _,rfl,fun b e => (by cases e),fun b h => h.elim⟩
 have hzp : ∀ (wx : World) (p : Nat),Below W0.heap.size W0 wx → wx.heap[p]? = some (.cells #[.map none] 62) → Calls Tryz.prog 13 #[.pointer (some ⟨p,0,none⟩),a.val,.agg CA] wx fun e w' => e = .returned (.int .i64 (putR [] a x).2) ∧ StZ w' p 1 (putR [] a x).1 (fun b => b = p ∨ (wx.heap.size ≤ b ∧ b < w'.heap.size)) ∧ KeepZ (fun k => k = p) wx w':=fun wx p hx h => by
  rw [hCA]
  exact putZ_c (hcl wx p h) (by omega) (by decide) a ha x A c hv hd ((hsl wx hx).more (by have:=hx.size; omega)) hz
 obtain ⟨sm,hsmd⟩ : ∃ s,smallI x = s:=⟨_,rfl⟩
 have hsm01 : sm = 0 ∨ sm = 1:=by rw [← hsmd]; unfold smallI; split <;> simp
 rw [hsmd] at hsm
 have hicx : (Tryz.prog.info? 43).map (·.size) = some CA.size:=by rw [hCA]; exact infC
 have hrows : (putR [] a x).1.length ≤ 1:=by
  unfold putR
  split
  · simp
  split
  · simp
  split
  · simp
  · simp [putA]
 rw [show contV x A c = .agg CA by rw [hCA]]
 have hcln : ∀ wx,Calls Tryz.prog 21 #[.pointer none] wx fun e w' => ∃ q,e = .returned (.pointer (some ⟨q,0,none⟩)) ∧ Below wx.heap.size wx w' ∧ w'.heap[q]? = some (.cells #[.map none] 62):=fun wx => (cloneN_c wx).mono fun e w' h => ⟨_,h.1,by rw [h.2]; exact (Below.refl _ _).alloc (Nat.le_refl _) _,by rw [h.2]; exact heap_alloc_new _ _⟩
 have hlz : ∀ (wx : World) (q : Nat),wx.heap[q]? = some (.cells #[.map none] 62) → Calls Tryz.prog 16 #[.pointer (some ⟨q,0,none⟩)] wx fun e w' => e = .returned (.int .i64 0) ∧ Below wx.heap.size wx w':=fun wx q h => lenZ_c (hcl wx q h)
 have hgn : ∀ wx,Calls Tryz.prog 19 #[.pointer none,a.val] wx fun e w' => e = .returned (.agg (contA zCt none 0)) ∧ Below wx.heap.size wx w':=fun wx => getNil_c wx a
 have hrs : ∀ wx,Calls Tryz.prog 18 #[.agg (contA zCt none 0),.agg (contA zCt none 0)] wx fun e w' => e = .returned (.bool true) ∧ Below wx.heap.size wx w':=fun wx => by
  have:=rcsame_c zCt zCt wx 0 none none 0 0 zNd_ok (slAt_nil _ _) zNd_ok (slAt_nil _ _) (Nat.zero_le _)
  rw [sameC_self] at this
  exact this
 have hss : ∀ (wx : World) (p : Nat),wx.heap[p]? = some (.cells #[.map none] 62) → Calls Tryz.prog 15 #[.pointer (some ⟨p,0,none⟩),.slice none 0 0] wx fun e w' => e = .returned (.int .i64 1) ∧ Below wx.heap.size wx w':=fun wx p h =>
  same18Z_c (M:=[]) (hcl wx p h) (fun k hk => by rw [hk]; exact (Jg h).1) (by decide) (RowC.nil wx _ none 0 (by decide))
 obtain ⟨LL,hLL⟩ : ∃ l,l = (putR [] a x).1:=⟨_,rfl⟩
 obtain ⟨er,her⟩ : ∃ l,l = (putR [] a x).2:=⟨_,rfl⟩
 unfold RputPost at hrp
 rw [← hLL] at hrows
 simp only [← hLL,← her] at hrp hzp
 have hfin : ∀ (p : Nat) (w7 w8 wq w9 : World) (A' : Option Addr) (c' : Nat) (Zs : Nat → Prop), Below W0.heap.size W0 w7 → b + 2 ≤ p → p < w7.heap.size → c' ≤ 9223372036854775807 → Below w7.heap.size w7 w8 → (LL = [] ∨ (LL = [(a, x)] ∧ ∃ g, A' = some ⟨g, 0, none⟩ ∧ w7.heap.size ≤ g ∧ g < w8.heap.size ∧ 1 ≤ c' ∧ w8.rangeAt g 0 (a.cs ++ (contA x A c).toList))) → Below w8.heap.size w8 wq → StZ w9 p 1 LL (fun k => k = p ∨ (wq.heap.size ≤ k ∧ k < w9.heap.size)) → KeepZ (fun k => k = p) wq w9 →
     Calls Tryz.prog 15 #[.pointer (some ⟨p,0,none⟩),.slice A' LL.length c'] w9 (fun e w' => e = .returned (.int .i64 1) ∧ Below w9.heap.size w9 w') ∧ Below b w w9:=fun p w7 w8 wq w9 A' c' Zs h7 hp hpl hc' h78 hl h8q hst hk => by
  have e7:=h7.size
  have e8:=h78.size
  have eq_:=h8q.size
  have e9:=hk.size
  have hb9 : Below b w w9:=by
   have h1 : Below b w wq:=hbel.trans ((h7.trans ((h78.trans (h8q.mono e8)).mono e7)).mono (by omega))
   exact ⟨hk.os.trans h1.os,hk.tape.trans h1.tape,hk.output.trans h1.output,Nat.le_trans h1.size hk.size,fun k hkb => (hk.block k (by omega) (by omega)).trans (h1.block k hkb)⟩
  refine ⟨same18Z_c hst (fun k h => by rcases h with h | h; omega; exact h.2) (by omega) ?_,hb9⟩
  rcases hl with rfl | ⟨rfl,g,rfl,hg1,hg2,hc1,hrg⟩
  · exact RowC.nil _ _ _ _ hc'
  · refine ⟨by simpa using hc1,hc',.inr ⟨g,0,rfl,by omega,fun j hj => ?_⟩⟩
    obtain rfl : j = 0:=by simpa using hj
    refine ⟨A,c,fun i u hu => ?_,?_⟩
    · refine (World.cell?_of_block (a:=⟨g,0 + 0 * 33 + i,none⟩) ((hk.block g (by omega) (by omega)).trans (h8q.block g hg2))).trans ?_
      have:=hrg i u hu
      simpa using this
    · have hs9:=(hs.below (by rw [← hb]; exact hb9))
      exact hs9.more (by omega)
 have HW0:=Jh hW0
 have HB:=Jh hb
 have HK0:=Jh hk0
 have HK1:=Jh hk1
 have HZ0:=Jh hz0
 have HSM:=Jh hsm
 have HAW:=Jh haw
 have HPN:=Jh hpn
 have HRP:=Jh hrp
 have HZP:=Jh hzp
 have HCL:=Jh hcln
 have HLZ:=Jh hlz
 have HGN:=Jh hgn
 have HRS:=Jh hrs
 have HSS:=Jh hss
 have HFIN:=Jh hfin
 have HIC:=Jh hicx
 have HBL:=Jh hbel
 obtain ⟨CZ,hCZ⟩ : ∃ C,C = contA zCt none 0:=⟨_,rfl⟩
 have HNL:=Jh (fun wx => same18N_c wx none 0 (by decide))
 obtain ⟨ra,rn,ca,cn⟩:=a
 dsimp only [Ad.cs] at HW0 HK0
 dsimp only [Ad.val] at HPN HRP HZP HGN
 dsimp only [Ad.val]
 clear hW0 hb hk0 hk1 hz0 hsm haw hpn hrp hzp hcln hlz hgn hrs hss hfin hicx hbel hLL her hrows hsl hcl hCA hs hv hd hz ht ha hsmd hCZ
 go_enter Tryz.func5,Tryz.ntmps5
 go_upto_region 1 with (fail)
 rw [← HW0.out,← HB.out]
 rcases hsm01 with rfl | rfl
 · go_wp2_with (first | (go_at_call 10; refine HAW.out.mono ?_; rintro e w1 ⟨rfl,hb1⟩; have HX:=Jh hb1; clear hb1) | (refine wpList_row rfl 43 _ rfl (b + 1) rfl 43 CA (0,0) _ ((HX.out.block (b + 1) (by have:=HZ0.out; omega)).trans HK1.out) undC rfl HIC.out ?_) | (go_at_call 12; refine (HSM.out _ HX.out).mono ?_; rintro e w2 ⟨rfl,hb2⟩; have HY:=Jh hb2; clear hb2) | fail)
   first | go_ret | go_ret2
   have h1:=HBL.out
   rw [HB.out] at h1
   exact ⟨rfl,(h1.trans (HX.out.mono h1.size)).trans (HY.out.mono (Nat.le_trans h1.size HX.out.size))⟩
 · go_upto_region 7 with (first | (go_at_call 10; refine HAW.out.mono ?_; rintro e w1 ⟨rfl,hb1⟩; have HX:=Jh hb1; clear hb1) | (refine wpList_row rfl 43 _ rfl (b + 1) rfl 43 CA (0,0) _ ((HX.out.block (b + 1) (by have:=HZ0.out; omega)).trans HK1.out) undC rfl HIC.out ?_) | (go_at_call 12; refine (HSM.out _ HX.out).mono ?_; rintro e w2 ⟨rfl,hb2⟩; have HY:=Jh hb2; clear hb2) | fail)
   obtain ⟨p,hp⟩ : ∃ p,p = w2.heap.size:=⟨_,rfl⟩
   obtain ⟨W5,hW5⟩ : ∃ W5,W5 = w2.alloc (.cells #[.map none] 62):=⟨_,rfl⟩
   have h02 : Below W0.heap.size W0 w2:=HX.out.trans (HY.out.mono HX.out.size)
   have h05 : Below W0.heap.size W0 W5:=by rw [hW5]; exact h02.alloc h02.size _
   have hk5 : W5.heap[p]? = some (.cells #[.map none] 62):=by rw [hW5,hp]; exact heap_alloc_new _ _
   have hpb : b + 2 ≤ p:=by rw [hp,← HZ0.out]; exact h02.size
   rw [← hW5,← hp]
   clear HX HY
   have HX:=Jh (And.intro h05 hk5)
   have HPB:=Jh hpb
   clear hW5 hp h02 h05 hk5 hpb
   go_upto_region 9 with (first | (refine wpList_row rfl 30 _ rfl b rfl 30 _ (0,0) _ ((HX.out.1.block b (by have:=HZ0.out; omega)).trans HK0.out) undCell rfl (infCe4 _ _ _ _) ?_) | (refine wpList_row rfl 43 _ rfl (b + 1) rfl 43 CA (0,0) _ ((HX.out.1.block (b + 1) (by have:=HZ0.out; omega)).trans HK1.out) undC rfl HIC.out ?_) | (go_at_call 13; refine (HPN.out _).mono ?_; rintro e wn ⟨rfl,hbn⟩; have HX':=Jh (And.intro (HX.out.1.trans (hbn.mono HX.out.1.size)) ((hbn.block p (Jg HX.out.2).1).trans HX.out.2)); clear HX hbn; have HX:=HX'; clear HX') | (go_at_call_of 16 (Value.pointer none); refine (lenNil_c _).mono ?_; rintro e wn ⟨rfl,hwn⟩; rw [hwn]; clear hwn) | (go_at_call 19; refine (HGN.out _).mono ?_; rintro e wn ⟨rfl,hbn⟩; have HX':=Jh (And.intro (HX.out.1.trans (hbn.mono HX.out.1.size)) ((hbn.block p (Jg HX.out.2).1).trans HX.out.2)); clear HX hbn; have HX:=HX'; clear HX') | (go_at_call 18; refine (HRS.out _).mono ?_; rintro e wn ⟨rfl,hbn⟩; have HX':=Jh (And.intro (HX.out.1.trans (hbn.mono HX.out.1.size)) ((hbn.block p (Jg HX.out.2).1).trans HX.out.2)); clear HX hbn; have HX:=HX'; clear HX') | (go_at_call 15; refine (HNL.out _).mono ?_; rintro e wn ⟨rfl,hbn⟩; have HX':=Jh (And.intro (HX.out.1.trans (hbn.mono HX.out.1.size)) ((hbn.block p (Jg HX.out.2).1).trans HX.out.2)); clear HX hbn; have HX:=HX'; clear HX') | (go_at_call 21; refine (HCL.out _).mono ?_; rintro e wn ⟨q,rfl,hbn,hqn⟩; have HQ:=Jh hqn; clear hqn; have HX':=Jh (And.intro (HX.out.1.trans (hbn.mono HX.out.1.size)) ((hbn.block p (Jg HX.out.2).1).trans HX.out.2)); clear HX hbn; have HX:=HX'; clear HX') | (go_at_call_of 16 (Value.pointer (some ⟨q,0,none⟩)); refine (HLZ.out _ q HQ.out).mono ?_; rintro e wn ⟨rfl,hbn⟩; have HX':=Jh (And.intro (HX.out.1.trans (hbn.mono HX.out.1.size)) ((hbn.block p (Jg HX.out.2).1).trans HX.out.2)); clear HX hbn; have HX:=HX'; clear HX') | fail)
   have H7:=HX
   clear HPN HGN HRS HNL HCL HLZ HQ
   go_wp2_with (first | (refine wpList_row rfl 30 _ rfl b rfl 30 _ (0,0) _ ((HX.out.1.block b (by have:=HZ0.out; omega)).trans HK0.out) undCell rfl (infCe4 _ _ _ _) ?_) | (refine wpList_row rfl 43 _ rfl (b + 1) rfl 43 CA (0,0) _ ((HX.out.1.block (b + 1) (by have:=HZ0.out; omega)).trans HK1.out) undC rfl HIC.out ?_) | (go_at_call 17; refine (HRP.out _ HX.out.1).mono ?_; rintro e w8 ⟨A',c',rfl,hc',hbn,hl⟩; have HR8:=Jh (And.intro hc' (And.intro hbn hl)); clear hc' hl; have HX':=Jh (And.intro (HX.out.1.trans (hbn.mono HX.out.1.size)) ((hbn.block p (Jg HX.out.2).1).trans HX.out.2)); clear HX hbn; have HX:=HX'; clear HX') | (go_at_call_of 15 (Value.slice none 0 0); refine (HSS.out _ p HX.out.2).mono ?_; rintro e wq ⟨rfl,hbn⟩; have HQ8:=Jh hbn; have HX':=Jh (And.intro (HX.out.1.trans (hbn.mono HX.out.1.size)) ((hbn.block p (Jg HX.out.2).1).trans HX.out.2)); clear HX hbn; have HX:=HX'; clear HX') | (go_at_call 13; refine (HZP.out _ _ HX.out.1 HX.out.2).mono ?_; rintro e w9 ⟨rfl,hst9,hk9⟩; have HF:=Jh (HFIN.out p _ w8 wq w9 A' c' (fun _ => False) H7.out.1 HPB.out (Jg H7.out.2).1 HR8.out.1 HR8.out.2.1 HR8.out.2.2 HQ8.out hst9 hk9); clear hst9 hk9) | (go_at_call_of 15 (Value.slice A' LL.length c'); refine HF.out.1.mono ?_; rintro e wf ⟨rfl,hbf⟩; have HBF:=Jh hbf; clear hbf) | fail)
   first | go_ret | go_ret2
   have h1:=HF.out.2
   rw [HB.out] at h1
   exact ⟨rfl,h1.trans (HBF.out.mono h1.size)⟩
end Go.Proofs.YtelombedjkbckaaGreatDoor
namespace Go.Proofs.YtelombedjkbckaaGreatDoor
open Go.RowKit

section
variable {H : Type} {enc : TypeId × Value → H} {w : World} {fuel : Nat} {cs : List Value} {x : DataW H × List MemPlace}

theorem cutL (cs : List Value) (o k : Nat) : cs.drop o = (cs.drop o).take k ++ cs.drop (o + k) := by
 rw [← List.drop_drop]; exact (List.take_append_drop k (cs.drop o)).symm
theorem bulk_mem {H : Type} : ∀ (l : List (DataW H)) (d : DataW H), d ∈ l → Rows.uptoBulk d ≤ Rows.uptoBulkAll l
 | [], _, h => by cases h
 | a :: l, d, h => by
  simp only [Rows.uptoBulkAll]
  rcases List.mem_cons.1 h with rfl | h
  · omega
  · have := bulk_mem l d h; omega
theorem bulk_field (xs : List (DataW H × List MemPlace)) (i : Nat) (y : DataW H × List MemPlace) (h : xs[i]? = some y) : Rows.uptoBulk y.1 ≤ Rows.uptoBulk (DataW.agg (xs.map (·.1))) := by
 have := bulk_mem (xs.map (·.1)) y.1 (List.mem_map.2 ⟨y, List.mem_of_getElem? h, rfl⟩)
 simp only [Rows.uptoBulk]; omega
theorem get_some {α : Type} {xs : List α} {n i : Nat} (h : xs.length = n) (hi : i < n) : ∃ y, xs[i]? = some y := ⟨xs[i]'(by omega), List.getElem?_eq_getElem _⟩

theorem open_id (h : DataW.trod enc Tryz.prog w 0 (fun _ => true) true fuel 28 cs = some x) : ∃ a n : Int, cs = [.int .i64 a, .int .i64 n] ∧ i64 a ∧ i64 n := by
 obtain ⟨xs, n, rfl, rfl, hl, hxs, hf⟩ := DataW.trod_struct Tryz.underlying28 h
 have hc : Tryz.prog.cellsOf 28 = 2 := by kernel_rfl
 have h3 : Tryz.prog.cellsOf 3 = 1 := by kernel_rfl
 obtain ⟨y0, e0⟩ := get_some hxs (show 0 < 2 by omega)
 obtain ⟨y1, e1⟩ := get_some hxs (show 1 < 2 by omega)
 have f0 : DataW.trod enc Tryz.prog w 0 (fun _ => true) true n 3 ((cs.drop 0).take (Tryz.prog.cellsOf 3)) = some y0 := (hf 0 _ rfl).trans e0
 have f1 : DataW.trod enc Tryz.prog w 0 (fun _ => true) true n 3 ((cs.drop 1).take (Tryz.prog.cellsOf 3)) = some y1 := (hf 1 _ rfl).trans e1
 rw [h3] at f0 f1
 obtain ⟨a, ha, -, wa⟩ := DataW.trod_int Tryz.underlying3 f0
 obtain ⟨b, hb, -, wb⟩ := DataW.trod_int Tryz.underlying3 f1
 refine ⟨a, b, ?_, bounds_i64 wa, bounds_i64 wb⟩
 have c0 := cutL cs 0 1
 have c1 := cutL cs 1 1
 rw [ha, Nat.zero_add, List.drop_zero] at c0
 rw [hb] at c1
 rw [c0, c1, List.drop_of_length_le (by omega)]
 rfl
theorem open_num (h : DataW.trod enc Tryz.prog w 0 (fun _ => true) true fuel 32 cs = some x) : ∃ a n : Int, cs = [.int .i64 a, .int .i64 n] ∧ i64 a ∧ i64 n := by
 obtain ⟨xs, n, rfl, rfl, hl, hxs, hf⟩ := DataW.trod_struct Tryz.underlying32 h
 have hc : Tryz.prog.cellsOf 32 = 2 := by kernel_rfl
 have h3 : Tryz.prog.cellsOf 3 = 1 := by kernel_rfl
 obtain ⟨y0, e0⟩ := get_some hxs (show 0 < 2 by omega)
 obtain ⟨y1, e1⟩ := get_some hxs (show 1 < 2 by omega)
 have f0 : DataW.trod enc Tryz.prog w 0 (fun _ => true) true n 3 ((cs.drop 0).take (Tryz.prog.cellsOf 3)) = some y0 := (hf 0 _ rfl).trans e0
 have f1 : DataW.trod enc Tryz.prog w 0 (fun _ => true) true n 3 ((cs.drop 1).take (Tryz.prog.cellsOf 3)) = some y1 := (hf 1 _ rfl).trans e1
 rw [h3] at f0 f1
 obtain ⟨a, ha, -, wa⟩ := DataW.trod_int Tryz.underlying3 f0
 obtain ⟨b, hb, -, wb⟩ := DataW.trod_int Tryz.underlying3 f1
 refine ⟨a, b, ?_, bounds_i64 wa, bounds_i64 wb⟩
 have c0 := cutL cs 0 1
 have c1 := cutL cs 1 1
 rw [ha, Nat.zero_add, List.drop_zero] at c0
 rw [hb] at c1
 rw [c0, c1, List.drop_of_length_le (by omega)]
 rfl
theorem open_corner (h : DataW.trod enc Tryz.prog w 0 (fun _ => true) true fuel 36 cs = some x) : ∃ c : Cn, cs = c.cells ∧ c.ok := by
 obtain ⟨xs, n, rfl, rfl, hl, hxs, hf⟩ := DataW.trod_struct Tryz.underlying36 h
 have hc : Tryz.prog.cellsOf 36 = 6 := by kernel_rfl
 have h2 : Tryz.prog.cellsOf 28 = 2 := by kernel_rfl
 have h1 : Tryz.prog.cellsOf 4 = 1 := by kernel_rfl
 obtain ⟨y0, e0⟩ := get_some hxs (show 0 < 4 by omega)
 obtain ⟨y1, e1⟩ := get_some hxs (show 1 < 4 by omega)
 obtain ⟨y2, e2⟩ := get_some hxs (show 2 < 4 by omega)
 obtain ⟨y3, e3⟩ := get_some hxs (show 3 < 4 by omega)
 have f0 : DataW.trod enc Tryz.prog w 0 (fun _ => true) true n 28 ((cs.drop 0).take (Tryz.prog.cellsOf 28)) = some y0 := (hf 0 _ rfl).trans e0
 have f1 : DataW.trod enc Tryz.prog w 0 (fun _ => true) true n 28 ((cs.drop 2).take (Tryz.prog.cellsOf 28)) = some y1 := (hf 1 _ rfl).trans e1
 have f2 : DataW.trod enc Tryz.prog w 0 (fun _ => true) true n 4 ((cs.drop 4).take (Tryz.prog.cellsOf 4)) = some y2 := (hf 2 _ rfl).trans e2
 have f3 : DataW.trod enc Tryz.prog w 0 (fun _ => true) true n 4 ((cs.drop 5).take (Tryz.prog.cellsOf 4)) = some y3 := (hf 3 _ rfl).trans e3
 rw [h2] at f0 f1
 rw [h1] at f2 f3
 obtain ⟨ra, rn, g0, k0, k1⟩ := open_id f0
 obtain ⟨ca, cn, g1, k2, k3⟩ := open_id f1
 obtain ⟨fr, g2, -⟩ := DataW.trod_bool Tryz.underlying4 f2
 obtain ⟨fc, g3, -⟩ := DataW.trod_bool Tryz.underlying4 f3
 refine ⟨⟨ra, rn, ca, cn, fr, fc⟩, ?_, k0, k1, k2, k3⟩
 have c0 := cutL cs 0 2
 have c1 := cutL cs 2 2
 have c2 := cutL cs 4 1
 have c3 := cutL cs 5 1
 rw [g0, Nat.zero_add, List.drop_zero] at c0
 rw [g1] at c1
 rw [g2] at c2
 rw [g3] at c3
 rw [c0, c1, c2, c3, List.drop_of_length_le (by omega)]
 rfl
theorem open_area (h : DataW.trod enc Tryz.prog w 0 (fun _ => true) true fuel 38 cs = some x) : ∃ a b : Cn, cs = a.cells ++ b.cells ∧ a.ok ∧ b.ok := by
 obtain ⟨xs, n, rfl, rfl, hl, hxs, hf⟩ := DataW.trod_struct Tryz.underlying38 h
 have hc : Tryz.prog.cellsOf 38 = 12 := by kernel_rfl
 have h6 : Tryz.prog.cellsOf 36 = 6 := by kernel_rfl
 obtain ⟨y0, e0⟩ := get_some hxs (show 0 < 2 by omega)
 obtain ⟨y1, e1⟩ := get_some hxs (show 1 < 2 by omega)
 have f0 : DataW.trod enc Tryz.prog w 0 (fun _ => true) true n 36 ((cs.drop 0).take (Tryz.prog.cellsOf 36)) = some y0 := (hf 0 _ rfl).trans e0
 have f1 : DataW.trod enc Tryz.prog w 0 (fun _ => true) true n 36 ((cs.drop 6).take (Tryz.prog.cellsOf 36)) = some y1 := (hf 1 _ rfl).trans e1
 rw [h6] at f0 f1
 obtain ⟨a, g0, k0⟩ := open_corner f0
 obtain ⟨b, g1, k1⟩ := open_corner f1
 refine ⟨a, b, ?_, k0, k1⟩
 have c0 := cutL cs 0 6
 have c1 := cutL cs 6 6
 rw [g0, Nat.zero_add, List.drop_zero] at c0
 rw [g1] at c1
 rw [c0, c1, List.drop_of_length_le (by omega), List.append_nil]
theorem open_value (h : DataW.trod enc Tryz.prog w 0 (fun _ => true) true fuel 34 cs = some x) : ∃ v : Vl, cs = v.cells ∧ v.ok ∧ v.text.size ≤ Rows.uptoBulk x.1 := by
 obtain ⟨xs, n, rfl, rfl, hl, hxs, hf⟩ := DataW.trod_struct Tryz.underlying34 h
 have hc : Tryz.prog.cellsOf 34 = 6 := by kernel_rfl
 have h3 : Tryz.prog.cellsOf 3 = 1 := by kernel_rfl
 have h2 : Tryz.prog.cellsOf 32 = 2 := by kernel_rfl
 have h9 : Tryz.prog.cellsOf 9 = 1 := by kernel_rfl
 have h1 : Tryz.prog.cellsOf 4 = 1 := by kernel_rfl
 obtain ⟨y0, e0⟩ := get_some hxs (show 0 < 5 by omega)
 obtain ⟨y1, e1⟩ := get_some hxs (show 1 < 5 by omega)
 obtain ⟨y2, e2⟩ := get_some hxs (show 2 < 5 by omega)
 obtain ⟨y3, e3⟩ := get_some hxs (show 3 < 5 by omega)
 obtain ⟨y4, e4⟩ := get_some hxs (show 4 < 5 by omega)
 have f0 : DataW.trod enc Tryz.prog w 0 (fun _ => true) true n 3 ((cs.drop 0).take (Tryz.prog.cellsOf 3)) = some y0 := (hf 0 _ rfl).trans e0
 have f1 : DataW.trod enc Tryz.prog w 0 (fun _ => true) true n 32 ((cs.drop 1).take (Tryz.prog.cellsOf 32)) = some y1 := (hf 1 _ rfl).trans e1
 have f2 : DataW.trod enc Tryz.prog w 0 (fun _ => true) true n 9 ((cs.drop 3).take (Tryz.prog.cellsOf 9)) = some y2 := (hf 2 _ rfl).trans e2
 have f3 : DataW.trod enc Tryz.prog w 0 (fun _ => true) true n 4 ((cs.drop 4).take (Tryz.prog.cellsOf 4)) = some y3 := (hf 3 _ rfl).trans e3
 have f4 : DataW.trod enc Tryz.prog w 0 (fun _ => true) true n 3 ((cs.drop 5).take (Tryz.prog.cellsOf 3)) = some y4 := (hf 4 _ rfl).trans e4
 rw [h3] at f0 f4
 rw [h2] at f1
 rw [h9] at f2
 rw [h1] at f3
 obtain ⟨k, g0, -, w0⟩ := DataW.trod_int Tryz.underlying3 f0
 obtain ⟨m, ex, g1, w1, w2⟩ := open_num f1
 obtain ⟨s, g2, hy2, w3⟩ := DataW.trod_string Tryz.underlying9 f2
 obtain ⟨tr, g3, -⟩ := DataW.trod_bool Tryz.underlying4 f3
 obtain ⟨fa, g4, -, w4⟩ := DataW.trod_int Tryz.underlying3 f4
 refine ⟨⟨k, m, ex, s, tr, fa⟩, ?_, ⟨bounds_i64 w0, w1, w2, by unfold maxLen at w3; exact w3, bounds_i64 w4⟩, ?_⟩
 · have c0 := cutL cs 0 1
   have c1 := cutL cs 1 2
   have c2 := cutL cs 3 1
   have c3 := cutL cs 4 1
   have c4 := cutL cs 5 1
   rw [g0, Nat.zero_add, List.drop_zero] at c0
   rw [g1] at c1
   rw [g2] at c2
   rw [g3] at c3
   rw [g4] at c4
   rw [c0, c1, c2, c3, c4, List.drop_of_length_le (by omega)]
   rfl
 · refine Nat.le_trans ?_ (bulk_field xs 2 y2 e2)
   rw [hy2]
   simp only [Rows.uptoBulk]
   have : s.data.toList.length = s.size := by simp
   omega
end

/-- of no more nodes, and no longer texts, than that. -/
def Tr.within (t : Tr) (k : Nat) : Prop := t.size ≤ k ∧ ∀ y ∈ t.nodes, y.d.name.size ≤ k ∧ y.d.v.text.size ≤ k
theorem sizes_bulk {H : Type} : ∀ (l : List Tr) (ds : List (DataW H)), l.length = ds.length → (∀ i (h : i < l.length) (h' : i < ds.length), (l[i]).size ≤ Rows.uptoBulk ds[i]) → Tr.sizes l ≤ Rows.uptoBulkAll ds
 | [], _, _, _ => by simp [Tr.sizes]
 | t :: ts, [], h, _ => by simp at h
 | t :: ts, d :: ds, h, hk => by
  simp only [Tr.sizes, Rows.uptoBulkAll]
  have h0 := hk 0 (by simp) (by simp)
  have := sizes_bulk ts ds (by simpa using h) (fun i h1 h2 => by have := hk (i + 1) (by simp; omega) (by simp; omega); simpa using this)
  simp at h0
  omega
theorem nodess_mem : ∀ (l : List Tr) (y : Tr), y ∈ Tr.nodess l → ∃ t ∈ l, y ∈ t.nodes
 | [], _, h => by simp [Tr.nodess] at h
 | t :: ts, y, h => by
  simp only [Tr.nodess, List.mem_append] at h
  rcases h with h | h
  · exact ⟨t, by simp, h⟩
  · obtain ⟨t', h1, h2⟩ := nodess_mem ts y h
    exact ⟨t', by simp [h1], h2⟩

set_option maxHeartbeats 1000000 in
theorem open_node {H : Type} {enc : TypeId × Value → H} {w : World} : ∀ (fuel : Nat) (cs : List Value) (x : DataW H × List MemPlace), DataW.trod enc Tryz.prog w 0 (fun _ => true) true fuel 41 cs = some x →
    ∃ (t : Tr) (A : Option Addr) (c : Nat), cs = (nodeA t.d A t.l.length c).toList ∧ t.d.ok ∧ SlAt w w.heap.size A c t.l ∧ t.within (Rows.uptoBulk x.1) := by
 intro fuel
 induction fuel using Nat.strongRecOn with
 | _ fuel ih =>
  intro cs x h
  obtain ⟨xs, n, rfl, rfl, hl, hxs, hf⟩ := DataW.trod_struct Tryz.underlying41 h
  have hc : Tryz.prog.cellsOf 41 = 22 := by kernel_rfl
  have h3 : Tryz.prog.cellsOf 3 = 1 := by kernel_rfl
  have h6 : Tryz.prog.cellsOf 34 = 6 := by kernel_rfl
  have h9 : Tryz.prog.cellsOf 9 = 1 := by kernel_rfl
  have h12 : Tryz.prog.cellsOf 38 = 12 := by kernel_rfl
  have h1 : Tryz.prog.cellsOf 39 = 1 := by kernel_rfl
  obtain ⟨y0, e0⟩ := get_some hxs (show 0 < 6 by omega)
  obtain ⟨y1, e1⟩ := get_some hxs (show 1 < 6 by omega)
  obtain ⟨y2, e2⟩ := get_some hxs (show 2 < 6 by omega)
  obtain ⟨y3, e3⟩ := get_some hxs (show 3 < 6 by omega)
  obtain ⟨y4, e4⟩ := get_some hxs (show 4 < 6 by omega)
  obtain ⟨y5, e5⟩ := get_some hxs (show 5 < 6 by omega)
  have f0 : DataW.trod enc Tryz.prog w 0 (fun _ => true) true n 3 ((cs.drop 0).take (Tryz.prog.cellsOf 3)) = some y0 := (hf 0 _ rfl).trans e0
  have f1 : DataW.trod enc Tryz.prog w 0 (fun _ => true) true n 34 ((cs.drop 1).take (Tryz.prog.cellsOf 34)) = some y1 := (hf 1 _ rfl).trans e1
  have f2 : DataW.trod enc Tryz.prog w 0 (fun _ => true) true n 9 ((cs.drop 7).take (Tryz.prog.cellsOf 9)) = some y2 := (hf 2 _ rfl).trans e2
  have f3 : DataW.trod enc Tryz.prog w 0 (fun _ => true) true n 38 ((cs.drop 8).take (Tryz.prog.cellsOf 38)) = some y3 := (hf 3 _ rfl).trans e3
  have f4 : DataW.trod enc Tryz.prog w 0 (fun _ => true) true n 3 ((cs.drop 20).take (Tryz.prog.cellsOf 3)) = some y4 := (hf 4 _ rfl).trans e4
  have f5 : DataW.trod enc Tryz.prog w 0 (fun _ => true) true n 39 ((cs.drop 21).take (Tryz.prog.cellsOf 39)) = some y5 := (hf 5 _ rfl).trans e5
  rw [h3] at f0 f4
  rw [h6] at f1
  rw [h9] at f2
  rw [h12] at f3
  rw [h1] at f5
  obtain ⟨kd, g0, -, w0⟩ := DataW.trod_int Tryz.underlying3 f0
  obtain ⟨v, g1, w1, z1⟩ := open_value f1
  obtain ⟨s, g2, hy2, w2⟩ := DataW.trod_string Tryz.underlying9 f2
  obtain ⟨a, b, g3, w3, w3'⟩ := open_area f3
  obtain ⟨rw', g4, -, w4⟩ := DataW.trod_int Tryz.underlying3 f4
  have z1' := Nat.le_trans z1 (bulk_field xs 1 y1 e1)
  have z2' : s.size ≤ Rows.uptoBulk (DataW.agg (xs.map (·.1))) := by
   refine Nat.le_trans ?_ (bulk_field xs 2 y2 e2)
   rw [hy2]
   simp only [Rows.uptoBulk]
   have : s.data.toList.length = s.size := by simp
   omega
  have z5 := bulk_field xs 5 y5 e5
  have z5' : Rows.uptoBulk y5.1 + 1 ≤ Rows.uptoBulk (DataW.agg (xs.map (·.1))) := by
   have := bulk_mem (xs.map (·.1)) y5.1 (List.mem_map.2 ⟨y5, List.mem_of_getElem? e5, rfl⟩)
   simp only [Rows.uptoBulk]; omega
  have hform : ∀ (sl : Value), (cs.drop 21).take 1 = [sl] → cs = (ND.head ⟨kd, v, s, a, b, rw'⟩) ++ [sl] := by
   intro sl g5
   have c0 := cutL cs 0 1
   have c1 := cutL cs 1 6
   have c2 := cutL cs 7 1
   have c3 := cutL cs 8 12
   have c4 := cutL cs 20 1
   have c5 := cutL cs 21 1
   rw [g0, Nat.zero_add, List.drop_zero] at c0
   rw [g1] at c1
   rw [g2] at c2
   rw [g3] at c3
   rw [g4] at c4
   rw [g5] at c5
   rw [c0, c1, c2, c3, c4, c5, List.drop_of_length_le (by omega)]
   simp [ND.head]
  have hok : ND.ok ⟨kd, v, s, a, b, rw'⟩ := ⟨bounds_i64 w0, w1, by unfold maxLen at w2; exact w2, w3, w3', bounds_i64 w4⟩
  rcases DataW.trod_slice Tryz.underlying39 f5 with ⟨g5, -⟩ | ⟨ad, len, cap, elems, rest, m, rfl, g5, hy5, hbs, hlc, hcm, hel, hget, -, -⟩
  · refine ⟨.mk ⟨kd, v, s, a, b, rw'⟩ [], none, 0, ?_, hok, ⟨by simp [Tr.l], by omega, .inl rfl⟩, ?_, ?_⟩
    · rw [hform _ g5]; rfl
    · simp [Tr.size, Tr.sizes]; omega
    · intro y hy
      simp [Tr.nodes, Tr.nodess] at hy
      subst hy
      exact ⟨z2', z1'⟩
  · have hkid : ∀ i (hi : i < elems.length), ∃ (t : Tr) (A : Option Addr) (c : Nat), w.cells? 0 (ad.add (i * 22)) 22 = some (nodeA t.d A t.l.length c).toList ∧ t.d.ok ∧ SlAt w w.heap.size A c t.l ∧ t.within (Rows.uptoBulk elems[i].1) := by
     intro i hi
     have := hget i (by omega)
     rw [hc, List.getElem?_eq_getElem hi, Option.bind_eq_some_iff] at this
     obtain ⟨cs', k1, k2⟩ := this
     obtain ⟨t, A, c, rfl, r⟩ := ih m (by omega) cs' _ k2
     exact ⟨t, A, c, k1, r⟩
    have hl' : ∃ l : List Tr, l.length = elems.length ∧ ∀ i (h : i < l.length) (h' : i < elems.length), ∃ (A : Option Addr) (c : Nat), w.cells? 0 (ad.add (i * 22)) 22 = some (nodeA l[i].d A l[i].l.length c).toList ∧ l[i].d.ok ∧ SlAt w w.heap.size A c l[i].l ∧ l[i].within (Rows.uptoBulk elems[i].1) := by
     have : ∀ i : Fin elems.length, ∃ t : Tr, ∃ (A : Option Addr) (c : Nat), w.cells? 0 (ad.add (i.1 * 22)) 22 = some (nodeA t.d A t.l.length c).toList ∧ t.d.ok ∧ SlAt w w.heap.size A c t.l ∧ t.within (Rows.uptoBulk (elems[i.1]'i.2).1) := fun i => hkid i.1 i.2
     refine ⟨List.ofFn (fun i => Classical.choose (this i)), by simp, fun i h h' => ?_⟩
     have hs := Classical.choose_spec (this ⟨i, h'⟩)
     rw [List.getElem_ofFn]
     exact hs
    obtain ⟨l, hll, hk⟩ := hl'
    have z5s : Rows.uptoBulkAll (elems.map (·.1)) + 1 ≤ Rows.uptoBulk y5.1 := by rw [hy5]; simp only [Rows.uptoBulk]; omega
    refine ⟨.mk ⟨kd, v, s, a, b, rw'⟩ l, some ad, cap, ?_, hok, ?_, ?_, ?_⟩
    · rw [hform _ g5]
      simp [nodeA, Tr.l, Tr.d, hll, hel]
    · refine ⟨by simp [Tr.l]; omega, by unfold maxLen at hcm; omega, ?_⟩
      simp only [Tr.l]
      by_cases hz : l = []
      · exact .inl hz
      right
      have hpos : 0 < l.length := List.length_pos_iff.2 hz
      obtain ⟨adb, ado, ads⟩ := ad
      obtain ⟨A0, c0, q0, -⟩ := hk 0 hpos (by omega)
      obtain ⟨-, -, q1⟩ := World.cells?_some q0
      have q2 := q1 0 (by omega)
      have hspot : ads = none := by
       have : (nodeA l[0].d A0 l[0].l.length c0).toList[0]? = some (.int .i64 l[0].d.kind) := rfl
       rw [this] at q2
       simpa [Addr.add] using World.cell?_spot q2
      subst hspot
      refine ⟨adb, ado, rfl, KidsAt.of (fun i hi => ?_)⟩
      obtain ⟨A1, c1, r0, r1, r2, -⟩ := hk i hi (by omega)
      obtain ⟨-, -, r3⟩ := World.cells?_some r0
      have hcells : NodeCells w adb (ado + i * 22) l[i].d A1 l[i].l.length c1 := by
       intro j hj
       have := r3 j hj
       have ea : ((⟨adb, ado, none⟩ : Addr).add (i * 22)).add j = ⟨adb, ado + i * 22 + j, none⟩ := by
        unfold Addr.add; split <;> split <;> simp_all
       rw [ea] at this
       rw [this]; simp
      have hblk : adb < w.heap.size := by
       have := hcells 0 (by omega)
       exact World.block_lt_of_cell? _ ⟨adb, ado + i * 22 + 0, none⟩ (this.trans rfl)
      exact NodeAt.mk hblk r1 hcells r2
    · simp only [Tr.size]
      have := sizes_bulk l (elems.map (·.1)) (by simp [hll]) (fun i h1 h2 => by
       obtain ⟨_, _, _, _, _, hw, _⟩ := hk i h1 (by simpa using h2)
       simpa using hw)
      omega
    · intro y hy
      simp only [Tr.nodes, List.mem_cons] at hy
      rcases hy with rfl | hy
      · exact ⟨z2', z1'⟩
      · obtain ⟨t, ht, hyt⟩ := nodess_mem l y hy
        obtain ⟨i, hi, rfl⟩ := List.mem_iff_getElem.1 ht
        obtain ⟨_, _, _, _, _, _, hw⟩ := hk i hi (by omega)
        obtain ⟨q1, q2⟩ := hw y hyt
        have hb := bulk_mem (elems.map (·.1)) elems[i].1 (List.mem_map.2 ⟨_, List.getElem_mem _, rfl⟩)
        dsimp only
        constructor <;> omega
end Go.Proofs.YtelombedjkbckaaGreatDoor

namespace Go.Proofs.YtelombedjkbckaaGreatDoor
open Go.RowKit Go.Shelf

/-- where a reader stands: what is still to be read, how many nodes it has begun, whether it has failed. -/
structure RS where
 rest : ByteArray
 nodes : Nat
 bad : Bool
def RS.skip (p : List UInt8) (r : RS) : RS := { r with rest := ⟨(Lib.trimPrefix r.rest.data.toList p).toArray⟩, bad := r.bad || !Lib.hasPrefix r.rest.data.toList p }
/-- how long the number is with which a text begins. -/
def numEnd (s : ByteArray) : Nat := if Lib.hasPrefix s.data.toList [45] = true then 1 + runOf isDig s 1 else runOf isDig s 0
def numOf (s : ByteArray) : Option Int := match Lib.atoiAll (s.extract 0 (numEnd s)).data.toList with | .ok n => some n | _ => none
def RS.number (r : RS) : Int × RS := match numOf r.rest with | some n => (n, { r with rest := r.rest.extract (numEnd r.rest) r.rest.size }) | none => (0, { r with bad := true })
def RS.id (r : RS) : (Int × Int) × RS := ((r.number.1, (r.number.2.skip [46]).number.1), (r.number.2.skip [46]).number.2)
def RS.sized (r : RS) : ByteArray × RS :=
 let n := r.number.1
 let q := r.number.2.skip [58]
 if q.bad = true ∨ n < 0 ∨ (q.rest.size : Int) < n then (noBytes, { q with bad := true }) else (q.rest.extract 0 n.toNat, { q with rest := q.rest.extract n.toNat q.rest.size })
def RS.sign (r : RS) : ByteArray × RS :=
 let e := Lib.indexByte r.rest.data.toList 59
 if e < 0 then (noBytes, { r with bad := true }) else (r.rest.extract 0 e.toNat, { r with rest := r.rest.extract e.toNat r.rest.size })
/-- there lies that reader. -/
def RdAt (b : Nat) (r : RS) (w : World) : Prop := w.heap[b]? = some (.cells #[.string r.rest, .int .i64 r.nodes, .bool r.bad] 162)
/-- it has gone on, and all else that was is as it was. -/
def RdTo (b : Nat) (r' : RS) (w w' : World) : Prop := RdAt b r' w' ∧ w.grownBy w' (some b)
/-- the library's two errors. -/
def ErrC (w : World) : Prop := (∃ ev, w.cell? ⟨1, 0, none⟩ = some ev ∧ (ev = .nilIface ∨ ∃ te pe, ev = .iface te pe)) ∧ (∃ ev, w.cell? ⟨2, 0, none⟩ = some ev ∧ (ev = .nilIface ∨ ∃ te pe, ev = .iface te pe))
theorem ErrC.keep {w w' : World} {b : Nat} (h : ErrC w) (hg : w.grownBy w' (some b)) (hb : 3 ≤ b) : ErrC w' := by
 obtain ⟨⟨e1, h1, k1⟩, ⟨e2, h2, k2⟩⟩ := h
 have f : ∀ (g : Nat) v, g < 3 → w.cell? ⟨g, 0, none⟩ = some v → w'.cell? ⟨g, 0, none⟩ = some v := fun g v hg3 hv =>
  (World.cell?_of_block (a := ⟨g, 0, none⟩) (hg.block g (World.block_lt_of_cell? w _ hv) (fun e => by injection e with e; omega))).trans hv
 exact ⟨⟨e1, f _ _ (by decide) h1, k1⟩, ⟨e2, f _ _ (by decide) h2, k2⟩⟩
theorem ErrC.below {w w' : World} (h : ErrC w) (hb : Below w.heap.size w w') : ErrC w' := by
 obtain ⟨⟨e1, h1, k1⟩, ⟨e2, h2, k2⟩⟩ := h
 exact ⟨⟨e1, (hb.cell (p := ⟨1, 0, none⟩) (World.block_lt_of_cell? w _ h1)).trans h1, k1⟩, ⟨e2, (hb.cell (p := ⟨2, 0, none⟩) (World.block_lt_of_cell? w _ h2)).trans h2, k2⟩⟩
theorem RdAt.cells {b : Nat} {r : RS} {w : World} (h : RdAt b r w) : w.cell? ⟨b, 0, none⟩ = some (.string r.rest) ∧ w.cell? ⟨b, 1, none⟩ = some (.int .i64 r.nodes) ∧ w.cell? ⟨b, 2, none⟩ = some (.bool r.bad) ∧ w.frozen? ⟨b, 0, none⟩ = false ∧ w.frozen? ⟨b, 1, none⟩ = false ∧ w.frozen? ⟨b, 2, none⟩ = false := by
 unfold RdAt at h
 refine ⟨by rw [Lib.cell_of_heap h]; rfl, by rw [Lib.cell_of_heap h]; rfl, by rw [Lib.cell_of_heap h]; rfl, ?_, ?_, ?_⟩ <;> simp [World.frozen?, h]
theorem RdAt.below {b : Nat} {r : RS} {w w' : World} (h : RdAt b r w) (hb : Below w.heap.size w w') : RdAt b r w' := (hb.block b (Jg h).1).trans h
theorem RdAt.lt {b : Nat} {r : RS} {w : World} (h : RdAt b r w) : b < w.heap.size := (Jg h).1
end Go.Proofs.YtelombedjkbckaaGreatDoor
namespace Go.Proofs.YtelombedjkbckaaGreatDoor
open Go.ChangeShapes Go.WideShapes Go.ChangeAt Go.RowKit

theorem laidOut : laidOutB Tryz.prog = true := by kernel_rfl
theorem own : ownKnob Tryz.prog.godebug = none := by kernel_rfl
def laid5 : List (String × DataW Unit) := [("math/bits.deBruijn32tab", Rows.laid_math_bits_deBruijn32tab), ("math/bits.deBruijn64tab", Rows.laid_math_bits_deBruijn64tab), ("internal/strconv.uint64pow10", Rows.laid_internal_strconv_uint64pow10), ("strconv.ErrRange", Rows.laid_strconv_ErrRange), ("strconv.ErrSyntax", Rows.laid_strconv_ErrSyntax)]
theorem tPow : (Tryz.prog.globals[0]?).map (·.type) = some 212 := by kernel_rfl
def zeroNode : Value := nodeV ⟨0, ⟨0, 0, 0, ByteArray.mk #[], false, 0⟩, ByteArray.mk #[], ⟨0, 0, 0, 0, false, false⟩, ⟨0, 0, 0, 0, false, false⟩, 0⟩ none 0 0
def zeroCornerD {H : Type} : DataW H := .agg [.agg [.lit (.int .i64 0), .lit (.int .i64 0)], .agg [.lit (.int .i64 0), .lit (.int .i64 0)], .lit (.bool false), .lit (.bool false)]
def zeroNodeD {H : Type} : DataW H := .agg [.lit (.int .i64 0), .agg [.lit (.int .i64 0), .agg [.lit (.int .i64 0), .lit (.int .i64 0)], .lit (.string []), .lit (.bool false), .lit (.int .i64 0)], .lit (.string []), .agg [zeroCornerD, zeroCornerD], .lit (.int .i64 0), .nil]
end Go.Proofs.YtelombedjkbckaaGreatDoor
namespace Go.Proofs.YtelombedjkbckaaGreatDoor
open Go.RowKit Go.ChangeShapes Go.WideShapes Go.ChangeAt

set_option maxHeartbeats 1000000 in
theorem open_content {H : Type} {enc : TypeId × Value → H} {w : World} (fuel : Nat) (cs : List Value) (x : DataW H × List MemPlace) (h : DataW.trod enc Tryz.prog w 0 (fun _ => true) true fuel 43 cs = some x) :
    ∃ (y : Ct) (A : Option Addr) (c : Nat), cs = (contA y A c).toList ∧ y.v.ok ∧ y.t.d.ok ∧ SlAt w w.heap.size A c y.t.l ∧ y.t.within (Rows.uptoBulk x.1) ∧ y.v.text.size ≤ Rows.uptoBulk x.1 := by
 obtain ⟨xs, n, rfl, rfl, hl, hxs, hf⟩ := DataW.trod_struct Tryz.underlying43 h
 have hc : Tryz.prog.cellsOf 43 = 29 := by kernel_rfl
 have h3 : Tryz.prog.cellsOf 3 = 1 := by kernel_rfl
 have h6 : Tryz.prog.cellsOf 34 = 6 := by kernel_rfl
 have h22 : Tryz.prog.cellsOf 41 = 22 := by kernel_rfl
 obtain ⟨y0, e0⟩ := get_some hxs (show 0 < 3 by omega)
 obtain ⟨y1, e1⟩ := get_some hxs (show 1 < 3 by omega)
 obtain ⟨y2, e2⟩ := get_some hxs (show 2 < 3 by omega)
 have f0 : DataW.trod enc Tryz.prog w 0 (fun _ => true) true n 3 ((cs.drop 0).take (Tryz.prog.cellsOf 3)) = some y0 := (hf 0 _ rfl).trans e0
 have f1 : DataW.trod enc Tryz.prog w 0 (fun _ => true) true n 34 ((cs.drop 1).take (Tryz.prog.cellsOf 34)) = some y1 := (hf 1 _ rfl).trans e1
 have f2 : DataW.trod enc Tryz.prog w 0 (fun _ => true) true n 41 ((cs.drop 7).take (Tryz.prog.cellsOf 41)) = some y2 := (hf 2 _ rfl).trans e2
 rw [h3] at f0
 rw [h6] at f1
 rw [h22] at f2
 obtain ⟨k, g0, -, w0⟩ := DataW.trod_int Tryz.underlying3 f0
 obtain ⟨v, g1, w1, z1⟩ := open_value f1
 obtain ⟨t, A, c, g2, w2, w3, w4⟩ := open_node n _ _ f2
 refine ⟨⟨k, v, t⟩, A, c, ?_, w1, w2, w3, ?_, Nat.le_trans z1 (bulk_field xs 1 y1 e1)⟩
 · have c0 := cutL cs 0 1
   have c1 := cutL cs 1 6
   have c2 := cutL cs 7 22
   rw [g0, Nat.zero_add, List.drop_zero] at c0
   rw [g1] at c1
   rw [g2] at c2
   rw [c0, c1, c2, List.drop_of_length_le (by omega)]
   simp [contA, Ct.head]
 · have hb := bulk_field xs 2 y2 e2
   exact ⟨Nat.le_trans w4.1 hb, fun z hz => ⟨Nat.le_trans (w4.2 z hz).1 hb, Nat.le_trans (w4.2 z hz).2 hb⟩⟩
set_option maxRecDepth 100000 in
/-- a content that came in. -/
theorem open_contV {H : Type} {enc : TypeId × Value → H} {w : World} {base : Nat} {v : Value} {d : DataW H} {p : List MemPlace} (hv : Value.okWide Tryz.prog w .any base 43 v) (h : DataW.Trod enc Tryz.prog w 0 (fun _ => true) true 43 v d p) :
    ∃ (y : Ct) (A : Option Addr) (c : Nat), v = contV y A c ∧ y.v.ok ∧ y.t.d.ok ∧ SlAt w w.heap.size A c y.t.l ∧ y.t.within (Rows.uptoBulk d) ∧ y.v.text.size ≤ Rows.uptoBulk d := by
 obtain ⟨cs, rfl, hsz⟩ := okWide_struct Tryz.underlying43 hv
 obtain ⟨fuel, hf⟩ := h
 obtain ⟨t, A, c, h1, h2⟩ := open_content fuel _ _ hf
 refine ⟨t, A, c, ?_, h2⟩
 have : cs = contA t A c := by
  have h1' : cs.toList = (contA t A c).toList := h1
  exact Array.toList_inj.1 h1'
 rw [this]
def zeroCont : Value := .agg #[.int .i64 0, .int .i64 0, .int .i64 0, .int .i64 0, .string ⟨#[]⟩, .bool false, .int .i64 0, .int .i64 0, .int .i64 0, .int .i64 0, .int .i64 0, .string ⟨#[]⟩, .bool false, .int .i64 0, .string ⟨#[]⟩, .int .i64 0, .int .i64 0, .int .i64 0, .int .i64 0, .bool false, .bool false, .int .i64 0, .int .i64 0, .int .i64 0, .int .i64 0, .bool false, .bool false, .int .i64 0, .slice none 0 0]
def zeroContD {H : Type} : DataW H := .agg [.lit (.int .i64 0), .agg [.lit (.int .i64 0), .agg [.lit (.int .i64 0), .lit (.int .i64 0)], .lit (.string []), .lit (.bool false), .lit (.int .i64 0)], zeroNodeD]
end Go.Proofs.YtelombedjkbckaaGreatDoor
namespace Go.Proofs.YtelombedjkbckaaGreatDoor
set_option linter.unusedSimpArgs false
set_option linter.unusedVariables false
open Go.RowKit Go.ChangeShapes Go.WideShapes Go.ChangeAt

/-- cells with contents that came in. -/
def CellsIn (w : World) (B : Nat) (A : Option Addr) (c : Nat) (l : List (Ad × Ct)) : Prop :=
 l.length ≤ c ∧ c ≤ 9223372036854775807 ∧ (∀ e ∈ l, e.1.ok ∧ e.2.v.ok ∧ e.2.t.d.ok ∧ e.2.t.size ≤ 1048576) ∧
  (l = [] ∨ ∃ b o, A = some ⟨b, o, none⟩ ∧ b < B ∧ ∀ j (h : j < l.length), ∃ A' c', w.rangeAt b (o + j * 33) (l[j].1.cs ++ (contA l[j].2 A' c').toList) ∧ SlAt w B A' c' l[j].2.t.l)
theorem CellsIn.row {w : World} {B : Nat} {A : Option Addr} {c : Nat} {l : List (Ad × Ct)} (h : CellsIn w B A c l) : RowC w B A c l := ⟨h.1, h.2.1, h.2.2.2⟩
section
variable {H : Type} {enc : TypeId × Value → H} {w : World} {fuel : Nat} {cs : List Value} {x : DataW H × List MemPlace}
theorem open_ad (h : DataW.trod enc Tryz.prog w 0 (fun _ => true) true fuel 30 cs = some x) : ∃ a : Ad, cs = a.cs ∧ a.ok := by
 obtain ⟨xs, n, rfl, rfl, hl, hxs, hf⟩ := DataW.trod_struct Tryz.underlying30 h
 have hc : Tryz.prog.cellsOf 30 = 4 := by kernel_rfl
 have h2 : Tryz.prog.cellsOf 28 = 2 := by kernel_rfl
 obtain ⟨y0, e0⟩ := get_some hxs (show 0 < 2 by omega)
 obtain ⟨y1, e1⟩ := get_some hxs (show 1 < 2 by omega)
 have f0 : DataW.trod enc Tryz.prog w 0 (fun _ => true) true n 28 ((cs.drop 0).take (Tryz.prog.cellsOf 28)) = some y0 := (hf 0 _ rfl).trans e0
 have f1 : DataW.trod enc Tryz.prog w 0 (fun _ => true) true n 28 ((cs.drop 2).take (Tryz.prog.cellsOf 28)) = some y1 := (hf 1 _ rfl).trans e1
 rw [h2] at f0 f1
 obtain ⟨ra, rn, g0, k0, k1⟩ := open_id f0
 obtain ⟨ca, cn, g1, k2, k3⟩ := open_id f1
 refine ⟨⟨ra, rn, ca, cn⟩, ?_, k0, k1, k2, k3⟩
 have c0 := cutL cs 0 2
 have c1 := cutL cs 2 2
 rw [g0, Nat.zero_add, List.drop_zero] at c0
 rw [g1] at c1
 rw [c0, c1, List.drop_of_length_le (by omega)]
 rfl
end
set_option maxRecDepth 100000 in
theorem open_adV {H : Type} {enc : TypeId × Value → H} {w : World} {base : Nat} {v : Value} {d : DataW H} {p : List MemPlace} (hv : Value.okWide Tryz.prog w .any base 30 v) (h : DataW.Trod enc Tryz.prog w 0 (fun _ => true) true 30 v d p) :
    ∃ a : Ad, v = a.val ∧ a.ok := by
 obtain ⟨cs, rfl, hsz⟩ := okWide_struct Tryz.underlying30 hv
 obtain ⟨fuel, hf⟩ := h
 obtain ⟨a, h1, h2⟩ := open_ad hf
 refine ⟨a, ?_, h2⟩
 have : cs = a.cs.toArray := by
  have h1' : cs.toList = a.cs := h1
  rw [← h1', Array.toArray_toList]
 rw [this]
 rfl
end Go.Proofs.YtelombedjkbckaaGreatDoor
