/- Law 18's Small. reg.New; the law's in, five, Small. The reference's Same of contents. -/
import Derived.Test.YtbiacjkkgddclaaGreatXaNmVrVs
import Derived.Test.YtbiacjkkgddclaaGreatJ2NoGt
import Derived.Test.YtbiacjkkgddclaaGreatI8J1J5
import Derived.Test.YtbiacjkkgddclaaGreatJ4M
namespace Go.Proofs.YtbiacjkkgddclaaGreat
open Go Go.RowKit Go.Shelf

/-- is a content more than is looked at? -/
def bigC (x : Ct) : Bool := decide (300 < x.v.text.size) || greatB x.t
def smallI (x : Ct) : Int := if bigC x = true then 0 else 1

set_option maxRecDepth 100000 in
set_option maxHeartbeats 2000000 in
theorem small_c (x : Ct) (w : World) (B : Nat) (A : Option Addr) (c : Nat) (hv : x.v.ok) (hd : x.t.d.ok) (hs : SlAt w B A c x.t.l) (hB : B ≤ w.heap.size) (hsz : x.t.size ≤ 1048576) :
    Calls Tryz.prog 10 #[contV x A c] w fun e w' => e = .returned (.int .i64 (smallI x)) ∧ Below w.heap.size w w' := by
  obtain ⟨W0, hW0⟩ : ∃ W0, W0 = w.alloc (.cells (contA x A c) 37) := ⟨_, rfl⟩
  have hbel : Below w.heap.size w W0 := by rw [hW0]; exact (Below.refl _ w).alloc (Nat.le_refl _) _
  have hz0 : W0.heap.size = w.heap.size + 1 := by rw [hW0]; simp
  have hk0 : W0.heap[w.heap.size]? = some (.cells (contA x A c) 37) := by rw [hW0]; exact heap_alloc_new _ _
  have hG := great_c x.t W0 B A c hd ((hs.below (hbel.mono hB))) (by have := hbel.size; omega) hsz
  have hrow := cont_row hk0
  have ht := hrow.2.1 3 _ rfl
  have hts : x.v.text.size ≤ 9223372036854775807 := hv.2.2.2.1
  have hr7 := hrow.2.2
  have hinf := infNl x.t.d A x.t.l.length c
  obtain ⟨N, hN⟩ : ∃ N, N = nodeA x.t.d A x.t.l.length c := ⟨_, rfl⟩
  rw [nodeV, ← hN] at hG
  rw [← hN] at hr7 hinf
  obtain ⟨CA, hCA⟩ : ∃ C, C = contA x A c := ⟨_, rfl⟩
  obtain ⟨b, hb⟩ : ∃ b, b = w.heap.size := ⟨_, rfl⟩
  rw [contV, ← hCA]
  rw [← hCA] at hW0
  rw [← hb] at ht hr7
  obtain ⟨r, hr⟩ : ∃ r, smallI x = r := ⟨_, rfl⟩
  rw [hr]
  unfold smallI bigC at hr
  obtain ⟨gr, hgr⟩ : ∃ g, greatB x.t = g := ⟨_, rfl⟩
  rw [hgr] at hG hr
  obtain ⟨tx, htx⟩ : ∃ t, x.v.text = t := ⟨_, rfl⟩
  rw [htx] at ht hr hts
  have HG := Lib.hid hG
  have HT := Lib.hid ht
  have HR7 := Lib.hid hr7
  have HI := Lib.hid hinf
  have HW := Lib.hid hW0
  have HB := Lib.hid hb
  have HBL := Lib.hid hbel
  have HR := Lib.hid hr
  clear hG ht hr7 hinf hW0 hb hbel hr hk0 hrow hz0 hgr htx hN hCA hd hv hs hB hsz
  have ht := HT.out
  by_cases hl : 300 < tx.size
  · have q1 : decide ((300 : Int) < (tx.size : Int)) = true := decide_eq_true (by omega)
    go_enter Tryz.func10, Tryz.ntmps10
    go_upto_region 1 with (fail)
    rw [← HW.out, ← HB.out]
    go_wp2
    go_ret
    exact ⟨by rw [← HR.out]; simp [hl], HBL.out⟩
  · have q1 : decide ((300 : Int) < (tx.size : Int)) = false := decide_eq_false (by omega)
    cases gr
    all_goals
      go_enter Tryz.func10, Tryz.ntmps10
      go_upto_region 1 with (fail)
      rw [← HW.out, ← HB.out]
      go_wp2_with (first | (refine wpList_mid rfl 35 _ rfl b 7 rfl N.toList _ HR7.out undN rfl HI.out ?_; simp only [Array.toArray_toList]) | (go_at_call 24; refine HG.out.mono ?_; rintro e w2 ⟨rfl, hbe⟩))
      go_ret
      exact ⟨by rw [← HR.out]; simp [hl], HBL.out.trans (hbe.mono HBL.out.size)⟩
end Go.Proofs.YtbiacjkkgddclaaGreat
namespace Go.Proofs.YtbiacjkkgddclaaGreat
set_option linter.unusedSimpArgs false
set_option linter.unusedVariables false
open Go Go.RowKit Go.Shelf Go.Maps

theorem mk_mapW (w : World) : (Instr.makeMap 64 none).run Tryz.prog w = .ok (.map (some w.heap.size)) (w.alloc (.map #[] 0)) := by kernel_rfl
/-- a register of its own. -/
theorem new_c (w : World) : Calls Tryz.prog 12 #[] w fun e w' => ∃ p, e = .returned (.pointer (some ⟨p, 0, none⟩)) ∧ RgM w' p 0 [] (fun b => w.heap.size ≤ b ∧ b < w'.heap.size) ∧ Below w.heap.size w w' := by
  have hmk := mk_mapW
  have hb : Below w.heap.size w ((w.alloc (.map #[] 0)).alloc (.cells #[.map (some w.heap.size)] 66)) := (bel2 _ _ _).1
  have hk : ((w.alloc (.map #[] 0)).alloc (.cells #[.map (some w.heap.size)] 66)).heap[w.heap.size + 1]? = some (.cells #[.map (some w.heap.size)] 66) := by
    have := heap_alloc_new (w.alloc (.map #[] 0)) (.cells #[.map (some w.heap.size)] 66)
    rwa [World.size_alloc] at this
  have ho : ((w.alloc (.map #[] 0)).alloc (.cells #[.map (some w.heap.size)] 66)).ownsMap Tryz.prog 28 heldW w.heap.size 0 (.map []) := (World.ownsMap_made (H := Value) w Tryz.prog 28 heldW).alloc _
  have HX := Lib.hid (And.intro hb (And.intro hk ho))
  clear hb hk ho
  go_enter Tryz.func12, Tryz.ntmps12
  go_wp2
  go_ret
  obtain ⟨h1, h2, h3⟩ := HX.out
  refine ⟨w.heap.size + 1, by simp, ⟨w.heap.size, .map [], fun _ => False, ⟨h2, h3⟩, RepW.empty _ _, ⟨by omega, by simp⟩, ⟨by omega, by simp; omega⟩, fun _ h => h.elim⟩, h1⟩
theorem in_c (w : World) (A : Option Addr) (n c : Nat) : Calls Tryz.prog 16 #[.slice A n c] w fun e w' => e = .returned (.func (.func 39) #[] #[.pointer (some ⟨w.heap.size, 0, none⟩)]) ∧ w' = w.alloc (.cells #[.slice A n c] 38) := by
  go_enter Tryz.func16, Tryz.ntmps16
  go_wp2
  go_ret
  exact ⟨rfl, rfl⟩
/-- the law's in as what tells who is gone. -/
theorem in_gone {w : World} {G : Nat → Prop} {A : Option Addr} {c n : Nat} {l : List Ik} {bx : Nat} (hk : w.heap[bx]? = some (.cells #[.slice A n c] 38)) (h : IkG w G A c l) (hG : ∀ k, G k → k < w.heap.size) (hn : n = l.length) :
    GoneV w (.func (.func 39) #[] #[.pointer (some ⟨bx, 0, none⟩)]) (fun x => decide (x ∈ l)) :=
  .inr ⟨_, _, rfl, enters_of Tryz.func39 (by kernel_rfl) rfl, fun w' x _ hz => by
    have hb : ∀ k, k < w.heap.size → w'.heap[k]? = w.heap[k]? := fun k hk' => hz.block k hk' (fun h => h)
    exact in1_c w' bx G A c n l ((hb bx (Array.getElem?_eq_some_iff.1 hk).1).trans hk) (h.keep (fun k hk' => ⟨hb k (hG k hk'), hk'⟩)) (fun k hk' => Nat.lt_of_lt_of_le (hG k hk') hz.size) hn x⟩
theorem gone_nil (w : World) : GoneV w .nilFunc (fun _ => false) := .inl ⟨rfl, fun _ => rfl⟩
/-- the number -5. -/
def fiveC : Ct := ⟨1, ⟨1, -5, 0, ByteArray.mk #[], false, 0⟩, zTr⟩
set_option maxRecDepth 100000 in
set_option maxHeartbeats 2000000 in
theorem five_c (w : World) : Calls Tryz.prog 22 #[] w fun e w' => e = .returned (contV fiveC none 0) ∧ Below w.heap.size w w' := by
  have hic : (Tryz.prog.info? 37).map (·.size) = some (contA fiveC none 0).size := infC
  have hoc := cont_one fiveC none 0
  have HIC := Lib.hid hic
  have HOC := Lib.hid hoc
  clear hic hoc
  go_enter Tryz.func22, Tryz.ntmps22
  go_wp2_with (first | (refine wpList_contVar rfl rfl w.heap.size rfl ?_) | (refine wpList_storeFresh rfl 37 _ _ rfl w.heap.size rfl (contA fiveC none 0) rfl rfl HIC.out rfl HOC.out ?_))
  refine bodyPost_ret (v := contV fiveC none 0) (results_cell_row rfl _ _ w.heap.size 37 (contA fiveC none 0) (0, 0) _ rfl (World.alloc_heap_new w _) undC rfl HIC.out) rfl ?_
  exact ⟨rfl, (Below.refl _ w).alloc (Nat.le_refl _) _⟩
/-- a variable for a write of the reference's is laid. -/
theorem wpList_rwVar {ops : Array Oper} {rest : List Oper} {o : Oper} {a : Act} {w : World} {Q : Exit → Act → World → Prop} (hg : o.guard = none) (ho : o.op = .alloc 46) (g : Nat) (hz : w.heap.size = g)
    (h : wpList Tryz.prog ops Q rest (a.put o.dst (.pointer (some ⟨g, 0, none⟩))) (w.alloc (.cells (wrA zWr none 0 none 0) 46))) : wpList Tryz.prog ops Q (o :: rest) a w := by
  subst hz
  refine Great.wpList_allocTo hg o.dst rfl _ _ ?_ h
  unfold execOp
  simp only [ho]
  kernel_rfl
/-- may a write be looked at? -/
def okW (m : Wr) : Bool := !bigC m.x && decide (m.o.length ≤ 60)
def smallW (l : List Wr) : Int := if l.length ≤ 40 ∧ ∀ m ∈ l, okW m = true then 1 else 0
theorem rw_info (m : Wr) (A : Option Addr) (c : Nat) (Ao : Option Addr) (co : Nat) : (Tryz.prog.info? 46).map (·.size) = some (wrA m A c Ao co).size ∧ (Tryz.prog.info? 46).map (·.size) = some (wrA m A c Ao co).toList.length := ⟨infRw, by rw [Array.length_toList]; exact infRw⟩
set_option maxRecDepth 100000 in
set_option maxHeartbeats 4000000 in
theorem small37_c {w : World} {G T : Nat → Prop} {A : Option Addr} {c n : Nat} {l : List Wr} (h : RowW w G T A c l) (hG : ∀ k, G k → k < w.heap.size) (hT : ∀ k, T k → k < w.heap.size) (hn : n = l.length) (hok : ∀ m ∈ l, m.x.v.ok ∧ m.x.t.d.ok ∧ m.x.t.size ≤ 1048576) :
    Calls Tryz.prog 9 #[.slice A n c] w fun e w' => e = .returned (.int .i64 (smallW l)) ∧ Below w.heap.size w w' := by
  by_cases h40 : 40 < n
  · have hs : smallW l = 0 := if_neg (fun hh => by have := hh.1; omega)
    rw [hs]
    have h41 : (40 : Int) < (n : Int) := by omega
    clear h hG hT hok hs
    go_enter Tryz.func9, Tryz.ntmps9
    go_wp2
    first | go_ret | go_ret2
    exact ⟨rfl, Below.refl _ _⟩
  · have h41 : ¬ ((40 : Int) < (n : Int)) := by omega
    have hcc : n ≤ c ∧ c ≤ 9223372036854775807 := ⟨by rw [hn]; exact h.1, h.2.1⟩
    have hrow : ∀ wz : World, Below w.heap.size w wz → ∀ j (hj : j < l.length), ∃ b o, A = some ⟨b, o, none⟩ ∧ ∃ A' c' Ao co, wz.rangeAt b (o + j * 32) (wrA l[j] A' c' Ao co).toList ∧ SlAt wz w.heap.size A' c' l[j].x.t.l := fun wz hz j hj => by
      obtain ⟨b, o, e, hg, hr⟩ := h.2.2.resolve_left (fun e => by rw [e] at hj; exact absurd hj (Nat.not_lt_zero _))
      obtain ⟨A', c', Ao, co, r1, r2, r3⟩ := hr j hj
      exact ⟨b, o, e, A', c', Ao, co, fun i v hv => (World.cell?_of_block (a := ⟨b, o + j * 32 + i, none⟩) (hz.block b (hG b hg))).trans (r1 i v hv), (r2.at_ (fun k _ hk => hT k hk)).below hz⟩
    have HROW := Lib.hid hrow
    have HOK := Lib.hid hok
    have HN := Lib.hid hn
    have hc1 := hcc.1
    have hc2 := hcc.2
    have HN40 := Lib.hid h40
    obtain ⟨r, hr⟩ : ∃ r, r = smallW l := ⟨_, rfl⟩
    rw [← hr]
    have HR0 := Lib.hid hr
    clear h hG hT hok hn hcc hrow h40 hr
    go_enter Tryz.func9, Tryz.ntmps9
    go_wp2
    go_loopw [10] (fun iv wr => ∃ i : Nat, i ≤ n ∧ iv = .int .i64 i ∧ Hid (Below w.heap.size w wr ∧ ∀ j (hj : j < l.length), j < i → okW l[j] = true)) (fun iv _ => n - (intOf iv).toNat)
    case atStart => exact ⟨0, Nat.zero_le _, rfl, Lib.hid ⟨Below.refl _ _, fun j _ h => absurd h (Nat.not_lt_zero _)⟩⟩
    case round =>
     obtain ⟨i, hin, rfl, hR⟩ := hrel
     by_cases hi : i < n
     · have hiI : (i : Int) < (n : Int) := by omega
       have hi0 : (0 : Int) ≤ i := by omega
       have hil : i < l.length := by rw [← HN.out]; exact hi
       obtain ⟨q, o, hA, A', c', Ao, co, hrg, hsl⟩ := HROW.out wr hR.out.1 i hil
       subst hA
       obtain ⟨m, hm⟩ : ∃ m, m = l[i] := ⟨_, rfl⟩
       rw [← hm] at hrg hsl
       obtain ⟨CW, hCW⟩ : ∃ C, C = wrA m A' c' Ao co := ⟨_, rfl⟩
       obtain ⟨gb, hgb⟩ : ∃ b, b = wr.heap.size := ⟨_, rfl⟩
       obtain ⟨w2, hw2⟩ : ∃ w2, w2 = wr.alloc (.cells CW 46) := ⟨_, rfl⟩
       have hb2 : Below wr.heap.size wr w2 := by rw [hw2]; exact (bel1 _ _).1
       have hk2 : w2.heap[gb]? = some (.cells CW 46) := by rw [hw2, hgb]; exact heap_alloc_new _ _
       have hic := rw_info m A' c' Ao co
       have h1w := wrA_one m A' c' Ao co
       have hzs : (wrA zWr none 0 none 0).size = (wrA m A' c' Ao co).size := rfl
       obtain ⟨r1, r2, r3, r4, r5⟩ := wr_rows (by rw [← hCW]; exact hk2)
       have hv := HOK.out m (by rw [hm]; exact List.getElem_mem hil)
       have hcall := small_c m.x w2 wr.heap.size A' c' hv.1 hv.2.1 ((hsl.more hR.out.1.size).below hb2) hb2.size hv.2.2
       have hcl : (Tryz.prog.info? 37).map (·.size) = some (contA m.x A' c').toList.length := infC
       obtain ⟨CX, hCX⟩ : ∃ C, C = contA m.x A' c' := ⟨_, rfl⟩
       unfold contV at hcall
       rw [← hCX] at hcall r2 hcl
       rw [← hCW] at hrg hic h1w hzs
       have hgc : ∀ w3, Below w2.heap.size w2 w3 → w3.cell? ⟨gb, 31, none⟩ = some (.slice Ao m.o.length co) := fun w3 h3 => (World.cell?_of_block (a := ⟨gb, 31, none⟩) (h3.block gb (Array.getElem?_eq_some_iff.1 hk2).1)).trans r4
       have HGC := Lib.hid hgc
       have HX := Lib.hid (And.intro hrg (And.intro hic (And.intro h1w (And.intro hzs (And.intro r2 (And.intro hcl hb2))))))
       have HCALL := Lib.hid hcall
       have HW2 := Lib.hid hw2
       have HGB := Lib.hid hgb
       have HM := Lib.hid hm
       clear hCW hgb hw2 hk2 hic h1w hzs r1 r2 r3 r4 r5 hv hcall hcl hCX hgc hb2 hrg hm hsl
       obtain ⟨ko, hko⟩ : ∃ k, k = m.o.length := ⟨_, rfl⟩
       rw [← hko] at HGC
       have HKO := Lib.hid hko
       clear hko
       go_upto_region 6 with (first | (refine wpList_mid rfl 46 _ rfl q (o + i * 32) rfl CW.toList _ HX.out.1 undRw rfl HX.out.2.1.2 ?_; simp only [Array.toArray_toList]) | (refine wpList_rwVar rfl rfl wr.heap.size rfl ?_) | (refine wpList_storeFresh (w := wr) rfl 46 _ _ rfl wr.heap.size rfl CW rfl rfl HX.out.2.1.1 HX.out.2.2.2.1 HX.out.2.2.1 ?_) | fail)
       rw [← HW2.out, ← HGB.out]
       unfold smallI at HCALL
       cases hbg : bigC m.x with
       | true =>
         rw [hbg, if_pos rfl] at HCALL
         have hs : r = 0 := HR0.out.trans (if_neg (fun hh => by
           have := hh.2 m (by rw [HM.out]; exact List.getElem_mem hil)
           unfold okW at this; rw [hbg] at this; cases this))
         subst hs
         clear hbg
         go_wp2_with (first | (refine wpList_mid rfl 37 _ rfl gb 2 rfl CX.toList _ HX.out.2.2.2.2.1 undC rfl HX.out.2.2.2.2.2.1 ?_; simp only [Array.toArray_toList]) | (go_at_call 10; refine HCALL.out.mono ?_; rintro e w3 ⟨rfl, hb3⟩; have HB3 := Lib.hid hb3; clear hb3) | fail)
         first | go_ret | go_ret2
         have h1 := HX.out.2.2.2.2.2.2
         exact ⟨rfl, hR.out.1.trans ((h1.trans (HB3.out.mono h1.size)).mono hR.out.1.size)⟩
       | false =>
         rw [hbg, if_neg (by decide)] at HCALL
         have HBG := Lib.hid hbg
         clear hbg
         by_cases h60 : 60 < ko
         · have hs : r = 0 := HR0.out.trans (if_neg (fun hh => by
             have := hh.2 m (by rw [HM.out]; exact List.getElem_mem hil)
             unfold okW at this; rw [decide_eq_false (by rw [← HKO.out]; omega), Bool.and_false] at this; cases this))
           subst hs
           have h61 : (60 : Int) < (ko : Int) := by omega
           go_wp2_with (first | (refine wpList_mid rfl 37 _ rfl gb 2 rfl CX.toList _ HX.out.2.2.2.2.1 undC rfl HX.out.2.2.2.2.2.1 ?_; simp only [Array.toArray_toList]) | (go_at_call 10; refine HCALL.out.mono ?_; rintro e w3 ⟨rfl, hb3⟩; have HB3 := Lib.hid hb3; have hgc3 := HGC.out w3 hb3; clear hb3) | fail)
           first | go_ret | go_ret2
           have h1 := HX.out.2.2.2.2.2.2
           exact ⟨rfl, hR.out.1.trans ((h1.trans (HB3.out.mono h1.size)).mono hR.out.1.size)⟩
         · have h61 : ¬ ((60 : Int) < (ko : Int)) := by omega
           go_wp2_with (first | (refine wpList_mid rfl 37 _ rfl gb 2 rfl CX.toList _ HX.out.2.2.2.2.1 undC rfl HX.out.2.2.2.2.2.1 ?_; simp only [Array.toArray_toList]) | (go_at_call 10; refine HCALL.out.mono ?_; rintro e w3 ⟨rfl, hb3⟩; have HB3 := Lib.hid hb3; have hgc3 := HGC.out w3 hb3; clear hb3) | fail)
           go_roundw
           case measure => simp [intOf]; omega
           case rel =>
             refine ⟨i + 1, by omega, by go_num, Lib.hid ⟨?_, fun j hj hji => ?_⟩⟩
             · have h1 := HX.out.2.2.2.2.2.2
               exact hR.out.1.trans ((h1.trans (HB3.out.mono h1.size)).mono hR.out.1.size)
             · by_cases e : j = i
               · subst e
                 rw [← HM.out]
                 unfold okW
                 rw [HBG.out, decide_eq_true (by rw [← HKO.out]; omega)]; rfl
               · exact hR.out.2 j hj (by omega)
     · have hie : i = n := by omega
       subst hie
       have hiI : ¬ ((i : Int) < (i : Int)) := by omega
       have hs : r = 1 := HR0.out.trans (if_pos ⟨by have := HN.out; have := HN40.out; omega, fun m hm => by
         obtain ⟨j, hj, rfl⟩ := List.mem_iff_getElem.1 hm
         exact hR.out.2 j hj (by rw [HN.out]; exact hj)⟩)
       subst hs
       go_wp2
       first | go_ret | go_ret2
       exact ⟨rfl, hR.out.1⟩
end Go.Proofs.YtbiacjkkgddclaaGreat
namespace Go.Proofs.YtbiacjkkgddclaaGreat
open Go Go.RowKit Go.Shelf

set_option maxRecDepth 100000 in
set_option maxHeartbeats 2000000 in
theorem rcsame_c (x y : Ct) (w : World) (B : Nat) (A A' : Option Addr) (c c' : Nat) (hd : x.t.d.ok) (hs : SlAt w B A c x.t.l) (hd' : y.t.d.ok) (hs' : SlAt w B A' c' y.t.l) (hB : B ≤ w.heap.size) :
    Calls Tryz.prog 18 #[contV x A c, contV y A' c'] w fun e w' => e = .returned (.bool (sameC x y)) ∧ Below w.heap.size w w' := by
  obtain ⟨W0, hW0⟩ : ∃ W0, W0 = (w.alloc (.cells (contA x A c) 37)).alloc (.cells (contA y A' c') 37) := ⟨_, rfl⟩
  have hbel : Below w.heap.size w W0 := by rw [hW0]; exact ((Below.refl _ w).alloc (Nat.le_refl _) _).alloc (by simp) _
  have hz0 : W0.heap.size = w.heap.size + 2 := by rw [hW0]; simp
  have hk0 : W0.heap[w.heap.size]? = some (.cells (contA x A c) 37) := by rw [hW0]; exact (heapOld _ _ _ (by simp)).trans (heap_alloc_new _ _)
  have hk1 : W0.heap[w.heap.size + 1]? = some (.cells (contA y A' c') 37) := by
    rw [hW0]
    have := heap_alloc_new (w.alloc (.cells (contA x A c) 37)) (.cells (contA y A' c') 37)
    rwa [World.size_alloc] at this
  have hT := fun wx (hx : Below W0.heap.size W0 wx) => rsame_c x.t y.t wx B A A' c c' hd ((hs.below (hbel.mono hB)).below (hx.mono (by omega))) hd' ((hs'.below (hbel.mono hB)).below (hx.mono (by omega))) (by have := hx.size; omega)
  have hV : ∀ wx, (Op.equalIn 10000 26 (.agg x.v.cells.toArray) (.agg y.v.cells.toArray)).run Tryz.prog wx = .ok (decide (x.v = y.v)) wx := fun wx => eqV wx x.v y.v
  have hrow := fun wx (hx : Below W0.heap.size W0 wx) => cont_row ((hx.block w.heap.size (by omega)).trans hk0)
  have hrow' := fun wx (hx : Below W0.heap.size W0 wx) => cont_row ((hx.block (w.heap.size + 1) (by omega)).trans hk1)
  obtain ⟨CA, hCA⟩ : ∃ C, C = contA x A c := ⟨_, rfl⟩
  obtain ⟨CB, hCB⟩ : ∃ C, C = contA y A' c' := ⟨_, rfl⟩
  rw [contV, contV, ← hCA, ← hCB]
  rw [← hCA, ← hCB] at hW0
  have hinf := infNl x.t.d A x.t.l.length c
  have hinf' := infNl y.t.d A' y.t.l.length c'
  have hiv := infVl x.v
  have hiv' := infVl y.v
  obtain ⟨b, hb⟩ : ∃ b, b = w.heap.size := ⟨_, rfl⟩
  have e0 := (hrow W0 (Below.refl _ _)).1
  have e1 := (hrow' W0 (Below.refl _ _)).1
  have hr1 := (hrow W0 (Below.refl _ _)).2.1
  have hr1' := (hrow' W0 (Below.refl _ _)).2.1
  have hr7 := fun wx hx => (hrow wx hx).2.2
  have hr7' := fun wx hx => (hrow' wx hx).2.2
  obtain ⟨r, hr⟩ : ∃ r, sameC x y = r := ⟨_, rfl⟩
  rw [hr]
  simp only [sameC] at hr
  rw [nodeV, nodeV] at hT
  obtain ⟨N, hN⟩ : ∃ N, N = nodeA x.t.d A x.t.l.length c := ⟨_, rfl⟩
  obtain ⟨N', hN'⟩ : ∃ N, N = nodeA y.t.d A' y.t.l.length c' := ⟨_, rfl⟩
  rw [← hN, ← hN'] at hT
  rw [← hN] at hr7 hinf
  rw [← hN'] at hr7' hinf'
  clear hrow hrow' hk0 hk1 hd hs hd' hs' hCA hCB hN hN'
  obtain ⟨k, v, t⟩ := x
  obtain ⟨k', v', t'⟩ := y
  dsimp only at hT hV e0 e1 hr1 hr1' hr7 hr7' hr hinf hinf' hiv hiv'
  obtain ⟨vc, hvc⟩ : ∃ u, u = v.cells := ⟨_, rfl⟩
  obtain ⟨vc', hvc'⟩ : ∃ u, u = v'.cells := ⟨_, rfl⟩
  rw [← hvc] at hV hr1 hiv
  rw [← hvc'] at hV hr1' hiv'
  rw [← hb] at e0 e1 hr1 hr1' hr7 hr7' hz0
  have HT := Lib.hid hT
  have HV := Lib.hid hV
  have HI := Lib.hid hinf
  have HI' := Lib.hid hinf'
  have HJ := Lib.hid hiv
  have HJ' := Lib.hid hiv'
  have HR1 := Lib.hid hr1
  have HR1' := Lib.hid hr1'
  have HR7 := Lib.hid hr7
  have HR7' := Lib.hid hr7'
  have HR := Lib.hid hr
  have HW := Lib.hid hW0
  have HBL := Lib.hid hbel
  clear hT hV hinf hinf' hiv hiv' hr1 hr1' hr7 hr7' hr hW0 hvc hvc' hbel
  have HB := Lib.hid hb
  clear hb
  by_cases ek : k = k'
  case neg =>
    have q1 : (k == k') = false := by simpa using ek
    go_enter Tryz.func18, Tryz.ntmps18
    go_upto_region 1 with (fail)
    rw [← HW.out, ← HB.out]
    go_wp2
    go_ret
    exact ⟨ret_bool (by rw [← HR.out]; simp [ek]), HBL.out⟩
  subst ek
  by_cases ev : v = v'
  case neg =>
    have hv1 : ∀ wx, (Op.equalIn 10000 26 (.agg vc.toArray) (.agg vc'.toArray)).run Tryz.prog wx = .ok false wx := fun wx => by have := HV.out wx; rwa [decide_eq_false ev] at this
    go_enter Tryz.func18, Tryz.ntmps18
    go_upto_region 1 with (fail)
    rw [← HW.out, ← HB.out]
    go_wp2_with (first | (refine wpList_mid rfl 26 _ rfl b 1 rfl vc _ HR1.out undVl rfl HJ.out ?_) | (refine wpList_mid rfl 26 _ rfl (b + 1) 1 rfl vc' _ HR1'.out undVl rfl HJ'.out ?_))
    go_ret
    exact ⟨ret_bool (by rw [← HR.out]; simp [ev]), HBL.out⟩
  subst ev
  have hv1 : ∀ wx, (Op.equalIn 10000 26 (.agg vc.toArray) (.agg vc'.toArray)).run Tryz.prog wx = .ok true wx := fun wx => by have := HV.out wx; rwa [decide_eq_true rfl] at this
  have hb00 : Below W0.heap.size W0 W0 := Below.refl _ _
  go_enter Tryz.func18, Tryz.ntmps18
  go_upto_region 1 with (fail)
  rw [← HW.out, ← HB.out]
  go_wp2_with (first | (refine wpList_mid rfl 26 _ rfl b 1 rfl vc _ HR1.out undVl rfl HJ.out ?_) | (refine wpList_mid rfl 26 _ rfl (b + 1) 1 rfl vc' _ HR1'.out undVl rfl HJ'.out ?_) | (refine wpList_mid rfl 35 _ rfl b 7 rfl N.toList _ (HR7.out _ hb00) undN rfl HI.out ?_; simp only [Array.toArray_toList]) | (refine wpList_mid rfl 35 _ rfl (b + 1) 7 rfl N'.toList _ (HR7'.out _ hb00) undN rfl HI'.out ?_; simp only [Array.toArray_toList]) | (go_at_call 40; refine (HT.out _ hb00).mono ?_; rintro e w3 ⟨rfl, hb3⟩))
  go_ret
  exact ⟨ret_bool (by rw [← HR.out]; simp), HBL.out.trans (hb3.mono HBL.out.size)⟩
end Go.Proofs.YtbiacjkkgddclaaGreat
