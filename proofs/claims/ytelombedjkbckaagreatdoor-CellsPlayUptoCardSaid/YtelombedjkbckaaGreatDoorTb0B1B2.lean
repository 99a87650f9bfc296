/- Get over a store by its zone. The reference's less,Ahead; its Get over a row of cells. The reference's Put over a row of cells. -/
import Derived.Test.YtelombedjkbckaaGreatDoorOeOcXnKzOiD2E3
import Derived.Test.YtelombedjkbckaaGreatDoorTw
import Derived.Test.YtelombedjkbckaaGreatDoorD6M
import Derived.Test.YtelombedjkbckaaGreatDoorC7E0ZaZvC8C9Xd1D5
namespace Go.Proofs.YtelombedjkbckaaGreatDoor
set_option linter.unusedSimpArgs false
set_option linter.unusedVariables false
open Go Go.RowKit Go.Shelf Go.Maps
def getM (M : List (Ad × Ct)) (a : Ad) : Ct:=(getA M a).getD zCt
theorem getZ_c {w : World} {p n : Nat} {M : List (Ad × Ct)} {Z : Nat → Prop} (h : StZ w p n M Z) (a : Ad) (ha : a.ok) :
 Calls Tryz.prog 19 #[.pointer (some ⟨p,0,none⟩),a.val] w (CopyC w (getM M a)):=by
 obtain ⟨m,D,T,h1,h3,h4,h5,h6⟩:=h
 unfold getM
 cases hg : getA M a with
 | none =>
  have hhas : Maps.has D a.key = false:=by rw [h3.has a ha,hg]; rfl
  refine (getC_miss w p m n D h1 a ha hhas).mono ?_
  rintro e w' ⟨rfl,hb⟩
  exact ⟨none,0,rfl,⟨Nat.le_refl 0,by omega,.inl rfl⟩,hb⟩
 | some x =>
  have hmem:=(getA_mem h3.order).1 hg
  obtain ⟨A,c,hat,hs⟩:=h3.val a x hmem
  have hfit:=(h3.ok a x hmem).2
  have hhas : Maps.has D a.key = true:=by rw [h3.has a ha,hg]; rfl
  have:=getC_hit w p m n D h1 a ha x A c hfit.d (hs.at_ (B:=w.heap.size) (fun b _ hb => (h6 b hb).2.2.2)) hfit.size hhas hat
  rw [right_cp hfit] at this
  exact this
theorem getM_ok {w : World} {p n : Nat} {M : List (Ad × Ct)} {Z : Nat → Prop} (h : StZ w p n M Z) (a : Ad) : getM M a = zCt ∨ (getM M a).fit:=by
 obtain ⟨m,D,T,h1,h3,h4,h5,h6⟩:=h
 unfold getM
 cases hg : getA M a with
 | none => exact .inl rfl
 | some x => exact .inr (h3.ok a x ((getA_mem h3.order).1 hg)).2
end Go.Proofs.YtelombedjkbckaaGreatDoor
namespace Go.Proofs.YtelombedjkbckaaGreatDoor
set_option maxRecDepth 100000
set_option maxHeartbeats 4000000
set_option linter.unusedSimpArgs false
set_option linter.unusedVariables false
open Go Go.RowKit Go.Shelf Go.Maps
theorem lessI_c (w : World) (xa xn ya yn : Int) : Calls Tryz.prog 61 #[.agg #[.int .i64 xa,.int .i64 xn],.agg #[.int .i64 ya,.int .i64 yn]] w fun e w' => e = .returned (.bool (decide (xn < yn ∨ (xn = yn ∧ xa < ya)))) ∧ Below w.heap.size w w':=by
 by_cases h1 : xn < yn
 · go_enter Tryz.func61,Tryz.ntmps61
   go_wp2
   go_ret
   exact ⟨ret_bool (by simp [h1]),((Below.refl _ w).alloc (Nat.le_refl _) _).alloc (by simp) _⟩
 · by_cases h2 : xn = yn
   · subst h2
     by_cases h3 : xa < ya
     · go_enter Tryz.func61,Tryz.ntmps61
       go_wp2
       go_ret
       exact ⟨ret_bool (by simp [h3]),((Below.refl _ w).alloc (Nat.le_refl _) _).alloc (by simp) _⟩
     · go_enter Tryz.func61,Tryz.ntmps61
       go_wp2
       go_ret
       exact ⟨ret_bool (by simp [h3]),((Below.refl _ w).alloc (Nat.le_refl _) _).alloc (by simp) _⟩
   · go_enter Tryz.func61,Tryz.ntmps61
     go_wp2
     go_ret
     exact ⟨ret_bool (by simp [h1,h2]),((Below.refl _ w).alloc (Nat.le_refl _) _).alloc (by simp) _⟩
theorem aheadR_c (w : World) (x y : Ad) : Calls Tryz.prog 38 #[.agg x.cs.toArray,.agg y.cs.toArray] w fun e w' => e = .returned (.bool (decide (ahead x y))) ∧ Below w.heap.size w w':=by
 obtain ⟨xa,xn,xc,xm⟩:=x
 obtain ⟨ya,yn,yc,ym⟩:=y
 have h1:=fun w => eqI w xa xn ya yn
 have H1:=Jh (fun wx => lessI_c wx xa xn ya yn)
 have H2:=Jh (fun wx => lessI_c wx xc xm yc ym)
 have hd : decide (ahead ⟨xa,xn,xc,xm⟩ ⟨ya,yn,yc,ym⟩) = if decide (xa = ya ∧ xn = yn) = true then decide (xm < ym ∨ (xm = ym ∧ xc < yc)) else decide (xn < yn ∨ (xn = yn ∧ xa < ya)):=by
  by_cases h : xa = ya ∧ xn = yn
  · obtain ⟨rfl,rfl⟩:=h
    simp [ahead]
  · rw [if_neg (by simpa using h)]
    refine decide_eq_decide.2 ?_
    unfold ahead
    dsimp only
    omega
 rw [hd]
 clear hd
 generalize decide (xa = ya ∧ xn = yn) = r at h1 ⊢
 generalize decide (xm < ym ∨ (xm = ym ∧ xc < yc)) = r2 at H2 ⊢
 generalize decide (xn < yn ∨ (xn = yn ∧ xa < ya)) = r3 at H1 ⊢
 dsimp only [Ad.cs]
 cases r with
 | true =>
  go_enter Tryz.func38,Tryz.ntmps38
  go_wp2_with (go_at_call 61; refine (H2.out _).mono ?_; rintro e w1 ⟨rfl,hb1⟩; have HB1:=Jh hb1; clear hb1)
  go_ret
  exact ⟨rfl,(((Below.refl _ w).alloc (Nat.le_refl _) _).alloc (by simp) _).trans (HB1.out.mono (by simp; omega))⟩
 | false =>
  go_enter Tryz.func38,Tryz.ntmps38
  go_wp2_with (go_at_call 61; refine (H1.out _).mono ?_; rintro e w1 ⟨rfl,hb1⟩; have HB1:=Jh hb1; clear hb1)
  go_ret
  exact ⟨rfl,(((Below.refl _ w).alloc (Nat.le_refl _) _).alloc (by simp) _).trans (HB1.out.mono (by simp; omega))⟩
theorem row_rangeB {W : World} {g : Nat} {l : List Value} {ty : TypeId} (h : W.heap[g]? = some (.cells l.toArray ty)) : W.rangeAt g 0 l:=fun i v hv => by
 rw [Nat.zero_add,cell_of_row _ _ i _ _ _ h,List.getElem?_toArray]; exact hv
def RowG (w : World) (G : Nat → Prop) (B : Nat) (A : Option Addr) (c : Nat) (l : List (Ad × Ct)) : Prop :=
 l.length ≤ c ∧ c ≤ 9223372036854775807 ∧ (l = [] ∨ ∃ b o,A = some ⟨b,o,none⟩ ∧ G b ∧ ∀ j (h : j < l.length),∃ A' c',w.rangeAt b (o + j * 33) (l[j].1.cs ++ (contA l[j].2 A' c').toList) ∧ SlAt w B A' c' l[j].2.t.l)
theorem RowG.nil (w : World) (G : Nat → Prop) (B : Nat) (A : Option Addr) (c : Nat) (hc : c ≤ 9223372036854775807) : RowG w G B A c []:=⟨Nat.zero_le _,hc,.inl rfl⟩
theorem RowG.keep {w w' : World} {G G' : Nat → Prop} {B : Nat} {A : Option Addr} {c : Nat} {l : List (Ad × Ct)} (h : RowG w G B A c l) (hb : Below B w w') (hg : ∀ k,G k → w'.heap[k]? = w.heap[k]? ∧ G' k) : RowG w' G' B A c l:=by
 obtain ⟨h1,h2,h3⟩:=h
 refine ⟨h1,h2,h3.elim .inl ?_⟩
 rintro ⟨b,o,e,hl,h4⟩
 refine .inr ⟨b,o,e,(hg b hl).2,fun j hj => ?_⟩
 obtain ⟨A',c',h5,h6⟩:=h4 j hj
 exact ⟨A',c',fun i v hv => (World.cell?_of_block (a:=⟨b,o + j * 33 + i,none⟩) (hg b hl).1).trans (h5 i v hv),h6.below hb⟩
theorem RowG.row {w : World} {G : Nat → Prop} {B B' : Nat} {A : Option Addr} {c : Nat} {l : List (Ad × Ct)} (h : RowG w G B A c l) (hg : ∀ k,G k → k < B') (hB : B ≤ B') : RowC w B' A c l:=by
 obtain ⟨h1,h2,h3⟩:=h
 refine ⟨h1,h2,h3.elim .inl ?_⟩
 rintro ⟨b,o,e,hl,h4⟩
 refine .inr ⟨b,o,e,hg b hl,fun j hj => ?_⟩
 obtain ⟨A',c',h5,h6⟩:=h4 j hj
 exact ⟨A',c',h5,h6.more hB⟩
theorem rowG_at {W : World} {G : Nat → Prop} {B gl of c : Nat} {l : List (Ad × Ct)} (h : RowG W G B (some ⟨gl,of,none⟩) c l) (j : Nat) (hj : j < l.length) : G gl ∧ ∃ A' c',(∀ wz : World,wz.heap[gl]? = W.heap[gl]? → wz.rangeAt gl (of + j * 33) l[j].1.cs ∧ wz.rangeAt gl (of + j * 33 + 4) (contA l[j].2 A' c').toList ∧ wz.rangeAt gl (of + j * 33) (l[j].1.cs ++ (contA l[j].2 A' c').toList)) ∧ SlAt W B A' c' l[j].2.t.l:=by
 obtain ⟨-,-,h3⟩:=h
 obtain ⟨g,o,e,hb,hr⟩:=h3.resolve_left (fun e => by rw [e] at hj; exact absurd hj (Nat.not_lt_zero _))
 simp only [Option.some.injEq,Addr.mk.injEq,and_true] at e
 obtain ⟨rfl,rfl⟩:=e
 obtain ⟨A',c',h1,h2⟩:=hr j hj
 have h0 : ∀ wz : World,wz.heap[gl]? = W.heap[gl]? → wz.rangeAt gl (of + j * 33) (l[j].1.cs ++ (contA l[j].2 A' c').toList):=fun wz hz i u hu => (World.cell?_of_block (a:=⟨gl,of + j * 33 + i,none⟩) hz).trans (h1 i u hu)
 exact ⟨hb,A',c',fun wz hz => ⟨(rowC_parts (h0 wz hz)).1,(rowC_parts (h0 wz hz)).2,h0 wz hz⟩,h2⟩
theorem rowG_some {W : World} {G : Nat → Prop} {B c : Nat} {A : Option Addr} {l : List (Ad × Ct)} (h : RowG W G B A c l) (hl : 0 < l.length) : ∃ gl of,A = some ⟨gl,of,none⟩:=by
 obtain ⟨g,o,e,-⟩:=h.2.2.resolve_left (fun e => by rw [e] at hl; exact absurd hl (Nat.not_lt_zero _))
 exact ⟨g,o,e⟩
def RgetP (w : World) (B : Nat) (M : List (Ad × Ct)) (a : Ad) (e : Ending) (w' : World) : Prop:=∃ A c,e = .returned (.agg (contA (getM M a) A c)) ∧ SlAt w' B A c (getM M a).t.l ∧ Below w.heap.size w w'
theorem getA_take {α : Type} {M : List (Ad × α)} {a : Ad} {i : Nat} (h : ∀ j (hj : j < M.length),j < i → M[j].1 ≠ a) (hi : i < M.length) (he : M[i].1 = a) : getA M a = some M[i].2:=by
 induction M generalizing i with
 | nil => exact absurd hi (Nat.not_lt_zero _)
 | cons e l ih =>
  unfold getA
  match i,hi,he with
  | 0,_,he => rw [if_pos (show e.1 = a from he)]; rfl
  | i + 1,hi,he =>
   rw [if_neg (show ¬ e.1 = a from h 0 (by simp) (by omega))]
   exact ih (i:=i) (fun j hj hji => h (j + 1) (by simpa using hj) (by omega)) (by simpa using hi) he
theorem rget_c {w : World} {G : Nat → Prop} {B c n : Nat} {A : Option Addr} {M : List (Ad × Ct)} (hrow : RowG w G B A c M) (hG : ∀ k, G k → k < w.heap.size) (hB : B ≤ w.heap.size) (a : Ad) (hn : n = M.length) :
 Calls Tryz.prog 20 #[.slice A n c,.agg a.cs.toArray] w (RgetP w B M a):=by
 obtain ⟨b,hb⟩ : ∃ b,b = w.heap.size:=⟨_,rfl⟩
 obtain ⟨CZ,hCZ⟩ : ∃ C,C = contA zCt none 0:=⟨_,rfl⟩
 obtain ⟨W0,hW0⟩ : ∃ W0,W0 = (w.alloc (.cells a.cs.toArray 30)).alloc (.cells CZ 43):=⟨_,rfl⟩
 have hbel : Below b w W0:=by rw [hW0,hb]; exact ((Below.refl _ w).alloc (Nat.le_refl _) _).alloc (by simp) _
 have hk0 : W0.heap[b]? = some (.cells a.cs.toArray 30):=by rw [hW0,hb]; exact (heapOld _ _ _ (by simp)).trans (heap_alloc_new _ _)
 have hk1 : W0.heap[b + 1]? = some (.cells CZ 43):=by
  rw [hW0,hb]
  have:=heap_alloc_new (w.alloc (.cells a.cs.toArray 30)) (.cells CZ 43)
  rwa [World.size_alloc] at this
 have hz0 : W0.heap.size = b + 2:=by rw [hW0,hb]; simp
 have hrw : RowG W0 G B A c M:=hrow.keep (hbel.mono (by omega)) (fun k hk => ⟨hbel.block k (by have:=hG k hk; omega),hk⟩)
 have hcc : 0 < n → n ≤ c ∧ c ≤ 9223372036854775807:=fun _ => ⟨by rw [hn]; exact hrow.1,hrow.2.1⟩
 have hka : ∀ wz,Below W0.heap.size W0 wz → wz.rangeAt b 0 a.cs:=fun wz hz => row_rangeB ((hz.block b (by omega)).trans hk0)
 have hkz : ∀ wz,Below W0.heap.size W0 wz → wz.heap[b + 1]? = some (.cells CZ 43):=fun wz hz => (hz.block (b + 1) (by omega)).trans hk1
 have HW0:=Jh hW0
 have HB:=Jh hb
 have HKA0:=Jh hka
 have HKZ:=Jh hkz
 have HRW:=Jh (And.intro hrw (And.intro hG (And.intro hB (And.intro hn hz0))))
 have HBL:=Jh hbel
 have HCZ:=Jh hCZ
 have HVL:=Jh (show ∀ a : Ad,(Tryz.prog.info? 30).map (·.size) = some (Ad.cs a).length from fun _ => infCell)
 have HNX:=Jh (show ∀ (x : Ct) (A : Option Addr) (c : Nat),(Tryz.prog.info? 43).map (·.size) = some (contA x A c).size ∧ (contA x A c).all (·.oneCell') = true from fun x A c => ⟨infC,cont_one x A c⟩)
 have HZN:=Jh (show (contA zCt none 0).size = 29 from rfl)
 clear hW0 hb hk0 hk1 hz0 hrw hbel hka hkz hCZ hrow hG hB hn
 go_enter Tryz.func20,Tryz.ntmps20
 go_upto_region 1 with (fail)
 obtain ⟨cw,hcw⟩ : ∃ x,x = a.cs.toArray:=⟨_,rfl⟩
 have HCW:=Jh hcw
 change Code.wp _ _ _ _ ((w.alloc (.cells a.cs.toArray 30)).alloc (.cells (contA zCt none 0) 43))
 rw [← HCZ.out,← HW0.out,← HB.out]
 clear hcw
 go_wp2_with (fail)
 go_loopw [5] (fun iv wr => ∃ i : Nat,i ≤ n ∧ iv = .int .i64 i ∧ Hid (Below W0.heap.size W0 wr ∧ ∀ j (hj : j < M.length),j < i → M[j].1 ≠ a)) (fun iv _ => n - (intOf iv).toNat)
 case atStart => exact ⟨0,Nat.zero_le _,rfl,Jh ⟨Below.refl _ _,fun j _ h => absurd h (Nat.not_lt_zero _)⟩⟩
 case round =>
  obtain ⟨i,hin,rfl,hR⟩:=hrel
  by_cases hi : i < n
  · have hiI : (i : Int) < (n : Int):=by omega
    have hi0 : (0 : Int) ≤ i:=by omega
    obtain ⟨hc1,hc2⟩:=hcc (by omega)
    obtain ⟨q1,q2,q3,q4,q5⟩:=HRW.out
    have hbe:=HB.out
    have hil : i < M.length:=by omega
    obtain ⟨gl,of,hA⟩:=rowG_some q1 (by omega)
    subst hA
    have hrw2:=q1.keep (G':=G) (hR.out.1.mono (by omega)) (fun k hk => ⟨hR.out.1.block k (by have:=q2 k hk; have:=HBL.out.size; omega),hk⟩)
    obtain ⟨hgl,A1,c1,hri,hsi⟩:=rowG_at hrw2 i hil
    have hglw : gl < wr.heap.size:=by have:=q2 gl hgl; have:=HBL.out.size; have:=hR.out.1.size; omega
    obtain ⟨ai,hai⟩ : ∃ x,x = M[i].1:=⟨_,rfl⟩
    obtain ⟨xi,hxi⟩ : ∃ x,x = M[i].2:=⟨_,rfl⟩
    rw [← hai,← hxi] at hri
    rw [← hxi] at hsi
    obtain ⟨NX,hNX⟩ : ∃ N,N = contA xi A1 c1:=⟨_,rfl⟩
    rw [← hNX] at hri
    have HRI:=Jh (fun (wz : World) (h : Below wr.heap.size wr wz) => hri wz (h.block gl hglw))
    have HKA:=Jh (fun (wz : World) (h : Below wr.heap.size wr wz) => HKA0.out wz (hR.out.1.trans (h.mono hR.out.1.size)))
    have HAI:=Jh (And.intro hai (And.intro hxi (And.intro hNX hsi)))
    have HIL:=Jh hil
    have hsk : Below wr.heap.size wr wr.drew:=(Below.refl _ _).drew
    clear hri hsi hgl hglw hrw2 hai hxi hNX q1 q2 q3 q4 q5 hbe
    cases heq : decide (ai = a) with
    | true =>
     have HEQ:=Jh (fun (wz : World) (o : Oper) (ρ : Operand → Value) (x y : Operand) (ho : o.op = .binOp .eql 30 x y 30) (hx : ρ x = .agg (Ad.cs ai).toArray) (hy : ρ y = .agg (Ad.cs a).toArray) => show (execOp ρ o).run Tryz.prog wz = .ok (.value (.bool true)) wz from by have h:=eqAd_run (w:=wz) x y ho ai a hx hy; rwa [heq] at h)
     have HQ:=Jh heq
     clear heq
     go_wp2_with (fail)
     refine wp_region_held_drew (S:=fun wz => Below wr.heap.size wr wz) (by kernel_rfl) hsk (fun hHeld => ?_)
     obtain ⟨wa,hwa⟩ : ∃ x,x = wr.drew:=⟨_,rfl⟩
     rw [← hwa] at hHeld ⊢
     clear hwa
     refine tkH (i:=0) (v:=.slice (some ⟨gl,of,none⟩) n c) rfl hHeld ?_
     try simp only [sX]
     refine tkH (i:=1) (v:=.int .i64 (i : Nat)) rfl hHeld ?_
     try simp only [sX]
     refine tkG (i:=2) (v:=.pointer (some ⟨gl,of + i * 33,none⟩)) rfl (Or.inl ⟨by kernel_rfl,fun _ hS => ix_atRc _ _ rfl gl of n c i rfl rfl hi⟩) hHeld ?_
     try simp only [sX]
     refine tkH (i:=3) (v:=.pointer (some ⟨gl,of + i * 33,none⟩)) rfl hHeld ?_
     try simp only [sX]
     refine tkG (i:=4) (v:=.agg (Ad.cs ai).toArray) rfl (yieldsIf_load_mid (by kernel_rfl) 30 _ rfl gl (of + i * 33) rfl (Ad.cs ai) _ (fun _ hS => (HRI.out _ hS).1) undCell rfl (HVL.out _)) hHeld ?_
     try simp only [sX]
     refine tkG (i:=5) (v:=.agg (Ad.cs a).toArray) rfl (yieldsIf_load_mid (by kernel_rfl) 30 _ rfl b 0 rfl (Ad.cs a) _ (fun _ hS => HKA.out _ hS) undCell rfl (HVL.out _)) hHeld ?_
     try simp only [sX]
     refine tkG (i:=6) (v:=.bool true) rfl (Or.inl ⟨by kernel_rfl,fun _ hS => HEQ.out _ _ _ _ _ rfl rfl rfl⟩) hHeld ?_
     try simp only [sX]
     have HE:=Jh hHeld
     refine wpAnyH_done (by kernel_rfl) ?_ _
     clear hHeld
     obtain ⟨hNXi,hNXo⟩ : (Tryz.prog.info? 43).map (·.size) = some NX.toList.length ∧ NX.all (·.oneCell') = true:=by have h:=HNX.out xi A1 c1; rw [← HAI.out.2.2.1] at h; exact ⟨by rw [Array.length_toList]; exact h.1,h.2⟩
     have hNXs : (Tryz.prog.info? 43).map (·.size) = some NX.size:=by rw [Array.length_toList] at hNXi; exact hNXi
     have hcz : CZ.size = NX.size:=by rw [HCZ.out,HAI.out.2.2.1]; rfl
     have HN:=Jh (And.intro hNXi (And.intro hNXo (And.intro hNXs hcz)))
     have HKW:=Jh (HKZ.out wa (hR.out.1.trans (HE.out.mono hR.out.1.size)))
     have HRW1:=Jh (HRI.out wa HE.out).2.1
     clear hNXi hNXo hNXs hcz
     go_wp2_with (first | (refine wpList_midA rfl 43 _ rfl gl (of + i * 33 + 4) rfl NX _ HRW1.out undC rfl HN.out.1 ?_) | (refine wpList_store_row rfl 43 _ _ rfl (b + 1) NX rfl rfl 43 CZ HKW.out HN.out.2.2.1 HN.out.2.2.2 HN.out.2.1 ?_) | fail)
     refine bodyPost_ret (v:=.agg NX) (results_cell_row rfl _ _ (b + 1) 43 NX (0,0) _ rfl (setRow_heap _ _ _ _ _ _ HKW.out) undC rfl HN.out.2.2.1) rfl ?_
     obtain ⟨q1,q2,q3,q4,q5⟩:=HRW.out
     have hg : getM M a = xi:=by
      unfold getM
      rw [getA_take (i:=i) hR.out.2 HIL.out (by rw [← HAI.out.1]; exact of_decide_eq_true HQ.out),HAI.out.2.1]; rfl
     have hbw : Below b w wa:=(HBL.out.trans ((hR.out.1.trans (HE.out.mono hR.out.1.size)).mono (by omega)))
     have hbf : Below b w (wa.setRow (b + 1) NX):=below_row hbw (by omega) _
     refine ⟨A1,c1,by rw [hg,HAI.out.2.2.1],?_,by rw [← HB.out]; exact hbf⟩
     rw [hg]
     refine (HAI.out.2.2.2.below ?_)
     exact below_row (HE.out.mono (by have:=hR.out.1.size; have:=HB.out; omega)) (by have:=HB.out; omega) _
    | false =>
     have HEQ:=Jh (fun (wz : World) (o : Oper) (ρ : Operand → Value) (x y : Operand) (ho : o.op = .binOp .eql 30 x y 30) (hx : ρ x = .agg (Ad.cs ai).toArray) (hy : ρ y = .agg (Ad.cs a).toArray) => show (execOp ρ o).run Tryz.prog wz = .ok (.value (.bool false)) wz from by have h:=eqAd_run (w:=wz) x y ho ai a hx hy; rwa [heq] at h)
     have HQ:=Jh heq
     clear heq
     go_wp2_with (fail)
     refine wp_region_held_drew (S:=fun wz => Below wr.heap.size wr wz) (by kernel_rfl) hsk (fun hHeld => ?_)
     obtain ⟨wa,hwa⟩ : ∃ x,x = wr.drew:=⟨_,rfl⟩
     rw [← hwa] at hHeld ⊢
     clear hwa
     refine tkH (i:=0) (v:=.slice (some ⟨gl,of,none⟩) n c) rfl hHeld ?_
     try simp only [sX]
     refine tkH (i:=1) (v:=.int .i64 (i : Nat)) rfl hHeld ?_
     try simp only [sX]
     refine tkG (i:=2) (v:=.pointer (some ⟨gl,of + i * 33,none⟩)) rfl (Or.inl ⟨by kernel_rfl,fun _ hS => ix_atRc _ _ rfl gl of n c i rfl rfl hi⟩) hHeld ?_
     try simp only [sX]
     refine tkH (i:=3) (v:=.pointer (some ⟨gl,of + i * 33,none⟩)) rfl hHeld ?_
     try simp only [sX]
     refine tkG (i:=4) (v:=.agg (Ad.cs ai).toArray) rfl (yieldsIf_load_mid (by kernel_rfl) 30 _ rfl gl (of + i * 33) rfl (Ad.cs ai) _ (fun _ hS => (HRI.out _ hS).1) undCell rfl (HVL.out _)) hHeld ?_
     try simp only [sX]
     refine tkG (i:=5) (v:=.agg (Ad.cs a).toArray) rfl (yieldsIf_load_mid (by kernel_rfl) 30 _ rfl b 0 rfl (Ad.cs a) _ (fun _ hS => HKA.out _ hS) undCell rfl (HVL.out _)) hHeld ?_
     try simp only [sX]
     refine tkG (i:=6) (v:=.bool false) rfl (Or.inl ⟨by kernel_rfl,fun _ hS => HEQ.out _ _ _ _ _ rfl rfl rfl⟩) hHeld ?_
     try simp only [sX]
     have HE:=Jh hHeld
     refine wpAnyH_done (by kernel_rfl) ?_ _
     clear hHeld
     have HR2:=Jh (show Below W0.heap.size W0 wa ∧ ∀ j (hj : j < M.length),j < i + 1 → M[j].1 ≠ a from ⟨hR.out.1.trans (HE.out.mono hR.out.1.size),fun j hj hji => by
      by_cases h : j < i
      · exact hR.out.2 j hj h
      · obtain rfl : j = i:=by omega
        rw [← HAI.out.1]
        exact of_decide_eq_false HQ.out⟩)
     go_wp2_with (fail)
     go_roundw
     case measure => simp [intOf]; omega
     case rel => exact ⟨i + 1,by omega,by go_num,HR2⟩
  · obtain rfl : i = n:=by omega
    have hnone : getM M a = zCt:=by
     unfold getM
     obtain ⟨q1,q2,q3,q4,q5⟩:=HRW.out
     rw [(getA_none).2 (fun x hx => by
      obtain ⟨j,hj,rfl⟩:=List.mem_iff_getElem.1 hx
      exact hR.out.2 j hj (by omega))]; rfl
    have HNO:=Jh hnone
    have HKW:=Jh (HKZ.out wr hR.out.1)
    obtain ⟨hNXs,hNXo⟩ : (Tryz.prog.info? 43).map (·.size) = some CZ.size ∧ CZ.all (·.oneCell') = true:=by rw [HCZ.out]; exact HNX.out zCt none 0
    have HN:=Jh (And.intro hNXs hNXo)
    clear hnone hNXs hNXo
    go_wp2_with (first | (refine wpList_buildSome rfl 43 _ rfl CZ ?_ ?_; focus (rw [HCZ.out]; kernel_rfl)) | (refine wpList_store_row rfl 43 _ _ rfl (b + 1) CZ rfl rfl 43 CZ HKW.out HN.out.1 rfl HN.out.2 ?_) | fail)
    refine bodyPost_ret (v:=.agg CZ) (results_cell_row rfl _ _ (b + 1) 43 CZ (0,0) _ rfl (setRow_heap _ _ _ _ _ _ HKW.out) undC rfl HN.out.1) rfl ?_
    obtain ⟨q1,q2,q3,q4,q5⟩:=HRW.out
    have hbw : Below b w wr:=(HBL.out.trans (hR.out.1.mono (by omega)))
    have hbf : Below b w (wr.setRow (b + 1) CZ):=below_row hbw (by omega) _
    refine ⟨none,0,by rw [HNO.out,HCZ.out],?_,by rw [← HB.out]; exact hbf⟩
    rw [HNO.out]
    exact slAt_nil _ _
end Go.Proofs.YtelombedjkbckaaGreatDoor
namespace Go.Proofs.YtelombedjkbckaaGreatDoor
set_option maxRecDepth 100000
set_option maxHeartbeats 8000000
set_option linter.unusedSimpArgs false
set_option linter.unusedVariables false
open Go Go.RowKit Go.Shelf Go.Maps
theorem undRc : Tryz.prog.underlying 45 = some (.struct (Tryz.prog.fieldsOf 45)):=by kernel_rfl
structure PuR (base : Nat) (w2 : World) (B : Nat) (pre : List Hn) (A : Option Addr) (k cap : Nat) (W : World) : Prop where
 below : Below base w2 W
 own : W.ownsRow base 45 33 (.slice A k cap) k (pre.flatMap Hn.cells)
 len : k = pre.length
 trees : ∀ h ∈ pre,SlAt W B h.A h.c h.x.t.l
theorem PuR.kept {base B k cap : Nat} {w2 W W' : World} {pre : List Hn} {A : Option Addr} (h : PuR base w2 B pre A k cap W) (hb : Below W.heap.size W W') (hB : B ≤ base) (hw : base ≤ w2.heap.size) : PuR base w2 B pre A k cap W' :=
 have hs:=h.below.size
 ⟨h.below.trans (hb.mono (by omega)),own_sameC h.own (fun g cs hc _ _ => hb.block g (Jg hc).1),h.len,fun x hx => (h.trees x hx).below (hb.mono (by omega))⟩
theorem PuR.step {base B k cap g3 cap3 : Nat} {w2 W W4 : World} {pre : List Hn} {A : Option Addr} {x : Hn} (h : PuR base w2 B pre A k cap W) (hB : B ≤ base) (hw : base ≤ w2.heap.size) (hx : SlAt W B x.A x.c x.x.t.l)
 (hg : (W.alloc (.cells x.cells.toArray 45)).grownBy W4 (Value.slice A k cap).ownBlock) (hown4 : W4.ownsRow base 45 33 (.slice (some ⟨g3,0,none⟩) (k + 1) cap3) (k + 1) (pre.flatMap Hn.cells ++ x.cells)) : PuR base w2 B (pre ++ [x]) (some ⟨g3,0,none⟩) (k + 1) cap3 W4:=by
 have hs:=h.below.size
 have hob:=own_blkC h.own
 have hbl : Below base W W4:=⟨hg.os,hg.tape,hg.output,by have:=hg.size; rw [World.size_alloc] at this; omega,fun j hj => (hg.block j (by rw [World.size_alloc]; omega) (fun e => by have:=(hob j e.symm).1; omega)).trans (heapOld _ _ _ (by omega))⟩
 refine ⟨h.below.trans hbl,?_,by rw [List.length_append,List.length_singleton,h.len],fun y hy => ?_⟩
 · rw [List.flatMap_append,List.flatMap_singleton]
   exact hown4
 · rcases List.mem_append.1 hy with hy | hy
   · exact (h.trees y hy).below (hbl.mono hB)
   · rw [List.mem_singleton] at hy
     subst hy
     exact hx.below (hbl.mono hB)
theorem PuR.row {base B k cap : Nat} {w2 W : World} {pre : List Hn} {A : Option Addr} (h : PuR base w2 B pre A k cap W) : RowG W (fun g => base ≤ g ∧ g < W.heap.size) B A cap (pre.map Hn.p):=by
 have hl:=h.len
 have hparts : k ≤ cap ∧ cap ≤ 9223372036854775807:=by
  rcases h.own.2 with ⟨e,-⟩ | ⟨g,c,cur,e,e2,e3,e4,e5,-⟩
  · have e0 : k = 0:=by injection e
    have ec : cap = 0:=by injection e
    exact ⟨by omega,by omega⟩
  · have ec : cap = c:=by injection e
    exact ⟨by omega,by rw [ec]; exact Nat.le_trans e5 (by decide)⟩
 refine ⟨by rw [List.length_map]; omega,hparts.2,?_⟩
 by_cases hM : pre = []
 · exact .inl (by rw [hM]; rfl)
 right
 have hpos : 0 < pre.length:=List.length_pos_iff.2 hM
 obtain ⟨g,c,cur,e,e2,e3,e4,e5,e6,e7⟩ : ∃ g c cur,(Value.slice A k cap) = .slice (some ⟨g,0,none⟩) k c ∧ base ≤ g ∧ W.heap[g]? = some (.cells cur 45) ∧ _:=by
  rcases h.own.2 with q | q
  · have : k = 0:=by injection q.1
    omega
  · exact q
 have eA : A = some ⟨g,0,none⟩:=by injection e
 subst eA
 refine ⟨g,0,rfl,⟨e2,(Jg e3).1⟩,fun j hj => ?_⟩
 rw [List.length_map] at hj
 simp only [List.getElem_map]
 refine ⟨pre[j].A,pre[j].c,fun i u hu => ?_,h.trees _ (List.getElem_mem hj)⟩
 have hi : i < 33:=(List.getElem?_eq_some_iff.1 hu).1
 have:=own_cellC h.own rfl (j * 33 + i) u (by
  rw [flatMap_get33 Hn.cells (fun _ => rfl),show (j * 33 + i) / 33 = j by omega,show (j * 33 + i) % 33 = i by omega,List.getElem?_eq_getElem hj,Option.bind_some]
  exact hu)
 rwa [Nat.zero_add]
theorem putA_cons {α : Type} (k : Ad) (c : α) (d : Bool) (e : Ad × α) (l : List (Ad × α)) : putA k c d (e :: l) = if e.1 = k then putA k c d l else if d = false ∧ ahead k e.1 then (k,c) :: e :: putA k c true l else e :: putA k c d l:=by
 conv => lhs; unfold putA
def PuI (base : Nat) (w2 : World) (B : Nat) (M : List (Ad × Ct)) (a : Ad) (x : Ct) (d0 : Bool) (n : Nat) (s dv tv iv : Value) (wr : World) : Prop :=
 ∃ i : Nat,i ≤ n ∧ iv = .int .i64 i ∧ ∃ (dd tt : Bool) (A' : Option Addr) (k cap : Nat) (pre : List Hn),s = .slice A' k cap ∧ dv = .bool dd ∧ tv = .bool tt ∧ Hid (PuR base w2 B pre A' k cap wr ∧ pre.map Hn.p ++ putA a x dd (M.drop i) = putA a x d0 M ∧ k ≤ i + 1 ∧ (dd = false → k ≤ i))
def RputG (w : World) (G : Nat → Prop) (B : Nat) (M : List (Ad × Ct)) (a : Ad) (x : Ct) (e : Ending) (w' : World) : Prop :=
 ∃ A' c',e = .returned (.tuple #[.slice A' (putR M a x).1.length c',.int .i64 (putR M a x).2]) ∧ Below w.heap.size w w' ∧ RowG w' (fun g => G g ∨ (w.heap.size ≤ g ∧ g < w'.heap.size)) B A' c' (putR M a x).1
theorem rput_same {w w' : World} {G : Nat → Prop} {B c n : Nat} {A : Option Addr} {M : List (Ad × Ct)} {a : Ad} {x : Ct} {er : Int} (hrow : RowG w G B A c M) (hG : ∀ k,G k → k < w.heap.size) (hB : B ≤ w.heap.size) (hn : n = M.length) (hb : Below w.heap.size w w') (hp : putR M a x = (M,er)) : RputG w G B M a x (.returned (.tuple #[.slice A n c,.int .i64 er])) w':=by
 unfold RputG
 rw [hp]
 exact ⟨A,c,by rw [hn],hb,hrow.keep (hb.mono hB) (fun k hk => ⟨hb.block k (hG k hk),.inl hk⟩)⟩
theorem Hn.cells_one (h : Hn) : ∀ u ∈ h.cells,u.oneCell' = true:=fun u hu => by
 have hu' : u ∈ Ad.cs h.a ∨ u ∈ contA h.x h.A h.c:=by simpa [Hn.cells] using hu
 rcases hu' with h' | h'
 · exact cs_one' _ u h'
 · have:=cont_one h.x h.A h.c
   rw [Array.all_eq_true_iff_forall_mem] at this
   exact this u h'
theorem rput_c {w : World} {G : Nat → Prop} {B c0 n : Nat} {A0 : Option Addr} {M : List (Ad × Ct)} (hrow : RowG w G B A0 c0 M) (hG : ∀ k, G k → k < w.heap.size) (hB : B ≤ w.heap.size) (hn : n = M.length) (hM : n ≤ 1000) (a : Ad) (x : Ct) (A : Option Addr) (c : Nat) (hv : x.v.ok) (hd : x.t.d.ok) (hs : SlAt w B A c x.t.l) (hsz : x.t.size ≤ 1048576) :
 Calls Tryz.prog 17 #[.slice A0 n c0,.agg a.cs.toArray,.agg (contA x A c)] w (RputG w G B M a x):=by
 obtain ⟨b,hb⟩ : ∃ b,b = w.heap.size:=⟨_,rfl⟩
 obtain ⟨CA,hCA⟩ : ∃ C,C = contA x A c:=⟨_,rfl⟩
 obtain ⟨AC,hAC⟩ : ∃ C,C = a.cs.toArray:=⟨_,rfl⟩
 obtain ⟨W0,hW0⟩ : ∃ W0,W0 = (w.alloc (.cells AC 30)).alloc (.cells CA 43):=⟨_,rfl⟩
 have hbel : Below w.heap.size w W0:=by rw [hW0]; exact ((Below.refl _ w).alloc (Nat.le_refl _) _).alloc (by simp) _
 have hk0 : W0.heap[b]? = some (.cells AC 30):=by rw [hW0,hb]; exact (heapOld _ _ _ (by simp)).trans (heap_alloc_new _ _)
 have hk1 : W0.heap[b + 1]? = some (.cells CA 43):=by
  rw [hW0,hb]
  have:=heap_alloc_new (w.alloc (.cells AC 30)) (.cells CA 43)
  rwa [World.size_alloc] at this
 have hz0 : W0.heap.size = b + 2:=by rw [hW0,hb]; simp
 have hright : ∀ wx,Below W0.heap.size W0 wx → Calls Tryz.prog 23 #[.agg CA] wx fun e w' => e = .returned (.bool (rightC x)) ∧ Below wx.heap.size wx w':=fun wx hx => by
  rw [hCA]
  exact rright18_c x wx B A c hv hd ((hs.below (hbel.mono hB)).below (hx.mono (by omega))) (by have:=hx.size; omega) hsz
 have his : ∀ wx,Calls Tryz.prog 27 #[.agg AC] wx fun e w' => e = .returned (.bool (isCellB a.ra a.rn a.ca a.cn)) ∧ Below wx.heap.size wx w':=fun wx => by rw [hAC]; exact isRef_c a.ra a.rn a.ca a.cn wx
 have hicx : (Tryz.prog.info? 43).map (·.size) = some CA.size:=by rw [hCA]; exact infC
 have hk0c : ∀ wx,Below W0.heap.size W0 wx → wx.cell? ⟨b + 1,0,none⟩ = some (.int .i64 x.k):=fun wx hx => by rw [cell_of_row _ _ 0 _ _ _ ((hx.block (b + 1) (by omega)).trans hk1),hCA]; rfl
 obtain ⟨NC,hNC⟩ : ∃ N,N = (Hn.cells ⟨a,x,A,c⟩).toArray:=⟨_,rfl⟩
 obtain ⟨ti,z,hti,hz0',hzn,hz1,hz2⟩:=info_parts_ infoRc
 have HTI:=Jh (And.intro hti (And.intro hz0' (And.intro hz1 (And.intro hz2 hzn))))
 clear hti hz0' hzn hz1 hz2
 have hone : ∀ u ∈ NC.toList,u.oneCell' = true:=by rw [hNC]; exact Hn.cells_one ⟨a,x,A,c⟩
 have hNCs : NC.size = 33:=by rw [hNC]; rfl
 have hacl : (Tryz.prog.info? 30).map (·.size) = some AC.toList.length:=by rw [hAC]; exact infCell
 have hacs : (Tryz.prog.info? 30).map (·.size) = some AC.size:=by rw [hAC]; exact infCe4 _ _ _ _
 have HACL:=Jh hacl
 have HACS:=Jh hacs
 have HAC:=Jh hAC
 have HW0:=Jh hW0
 have HB:=Jh hb
 have HK0:=Jh hk0
 have HK1:=Jh hk1
 have HR:=Jh hright
 have HIS:=Jh his
 have HIC:=Jh hicx
 have HBL:=Jh hbel
 have HKC:=Jh hk0c
 have HZ:=Jh hz0
 have HCA:=Jh hCA
 have HNC:=Jh hNC
 have HON:=Jh (And.intro hone hNCs)
 have HVL:=Jh (show ∀ a : Ad,(Tryz.prog.info? 30).map (·.size) = some (Ad.cs a).length from fun _ => infCell)
 have hput:=putR_eq M a x
 have HP:=Jh hput
 have HROW:=Jh (And.intro hrow (And.intro hG (And.intro hB (And.intro hn hM))))
 have HSX:=Jh hs
 have hcc : 0 < n → n ≤ c0 ∧ c0 ≤ 9223372036854775807:=fun _ => ⟨by rw [hn]; exact hrow.1,hrow.2.1⟩
 have hn1000 : n ≤ 1000:=hM
 rw [show contA x A c = CA from hCA.symm,← hAC]
 clear hCA hW0 hb hk0 hk1 hright his hicx hbel hk0c hz0 hNC hone hNCs hv hd hs hsz hput hrow hG hB hn hM hacs hacl hAC
 go_enter Tryz.func17,Tryz.ntmps17
 go_upto_region 1 with (fail)
 rw [← HW0.out,← HB.out]
 cases hbi : a.is with
 | false =>
  have HBI:=Jh hbi
  rw [show isCellB a.ra a.rn a.ca a.cn = false from hbi] at HIS
  clear hbi
  go_wp2_with (first | (refine wpList_row rfl 30 _ rfl b rfl 30 AC (0,0) _ HK0.out undCell rfl HACS.out ?_) | (go_at_call 27; refine (HIS.out _).mono ?_; rintro e w1 ⟨rfl,hb1⟩; have HX:=Jh hb1; clear hb1) | fail)
  first | go_ret | go_ret2
  have h1:=HBL.out
  obtain ⟨q1,q2,q3,q4,q5⟩:=HROW.out
  exact rput_same q1 q2 q3 q4 (h1.trans (HX.out.mono h1.size)) (by rw [HP.out,if_pos HBI.out])
 | true =>
  have HBI:=Jh hbi
  rw [show isCellB a.ra a.rn a.ca a.cn = true from hbi] at HIS
  clear hbi
  cases hri : rightC x with
  | false =>
   have HRI:=Jh hri
   rw [hri] at HR
   clear hri
   go_wp2_with (first | (refine wpList_row rfl 30 _ rfl b rfl 30 AC (0,0) _ HK0.out undCell rfl HACS.out ?_) | (go_at_call 27; refine (HIS.out _).mono ?_; rintro e w1 ⟨rfl,hb1⟩; have HX:=Jh hb1; clear hb1) | (refine wpList_row rfl 43 _ rfl (b + 1) rfl 43 CA (0,0) _ ((HX.out.block (b + 1) (by have:=HZ.out; omega)).trans HK1.out) undC rfl HIC.out ?_) | (go_at_call 23; refine (HR.out _ HX.out).mono ?_; rintro e w2 ⟨rfl,hb2⟩; have HY:=Jh hb2; clear hb2) | fail)
   first | go_ret | go_ret2
   have h1:=HBL.out
   have h2:=HX.out
   obtain ⟨q1,q2,q3,q4,q5⟩:=HROW.out
   exact rput_same q1 q2 q3 q4 ((h1.trans (h2.mono h1.size)).trans (HY.out.mono (Nat.le_trans h1.size h2.size))) (by rw [HP.out,HBI.out,HRI.out]; rfl)
  | true =>
   have HRI0:=Jh hri
   rw [hri] at HR
   clear hri
   obtain ⟨kk,hkk⟩ : ∃ k,k = x.k:=⟨_,rfl⟩
   rw [← hkk] at HKC
   have HKK:=Jh hkk
   clear hkk
   go_upto_region 7 with (first | (refine wpList_row rfl 30 _ rfl b rfl 30 AC (0,0) _ HK0.out undCell rfl HACS.out ?_) | (go_at_call 27; refine (HIS.out _).mono ?_; rintro e w1 ⟨rfl,hb1⟩; have HX:=Jh hb1; clear hb1) | (refine wpList_row rfl 43 _ rfl (b + 1) rfl 43 CA (0,0) _ ((HX.out.block (b + 1) (by have:=HZ.out; omega)).trans HK1.out) undC rfl HIC.out ?_) | (go_at_call 23; refine (HR.out _ HX.out).mono ?_; rintro e w2 ⟨rfl,hb2⟩; have hb3:=HX.out.trans (hb2.mono HX.out.size); have HY:=Jh hb3; have hk2:=HKC.out (w2.alloc (.cells #[] 45)) (hb3.alloc hb3.size _); clear hb2 hb3) | fail)
   generalize hd0 : (kk == 0) = d0
   obtain ⟨base,hbase⟩ : ∃ k,k = w2.heap.size:=⟨_,rfl⟩
   obtain ⟨W3,hW3⟩ : ∃ W3,W3 = w2.alloc (.cells #[] 45):=⟨_,rfl⟩
   have hpu0 : PuR base w2 B [] (some ⟨base,0,none⟩) 0 0 W3:=⟨by rw [hW3,hbase]; exact (Below.refl _ _).alloc (Nat.le_refl _) _,by rw [hW3,hbase]; exact own0_ w2,rfl,fun h hh => (List.not_mem_nil hh).elim⟩
   have h02 : Below w.heap.size w w2:=HBL.out.trans (HY.out.mono HBL.out.size)
   have hbb : b + 2 ≤ base:=by have:=HY.out.size; have:=HZ.out; omega
   have hrow2 : RowG w2 G B A0 c0 M:=HROW.out.1.keep (h02.mono HROW.out.2.2.1) (fun k hk => ⟨h02.block k (HROW.out.2.1 k hk),hk⟩)
   have hfk : ∀ wz,Below base w2 wz → wz.heap[b]? = some (.cells AC 30) ∧ wz.heap[b + 1]? = some (.cells CA 43) ∧ wz.cell? ⟨b + 1,0,none⟩ = some (.int .i64 kk):=fun wz hz => by
    have hy:=HY.out
    have e1:=(hz.block (b + 1) (by omega)).trans ((hy.block (b + 1) (by have:=HZ.out; omega)).trans HK1.out)
    refine ⟨(hz.block b (by omega)).trans ((hy.block b (by have:=HZ.out; omega)).trans HK0.out),e1,?_⟩
    rw [cell_of_row _ _ 0 _ _ _ e1,HCA.out,HKK.out]; rfl
   have hBb : B ≤ base:=by have:=HROW.out.2.2.1; have:=HB.out; omega
   have hGb : ∀ k,G k → k < base:=fun k hk => by have:=HROW.out.2.1 k hk; have:=HB.out; omega
   have hsx : SlAt w2 B A c x.t.l:=HSX.out.below (h02.mono HROW.out.2.2.1)
   have hfin : ∀ (pre : List Hn) (A' : Option Addr) (k cap : Nat) (W : World),PuR base w2 B pre A' k cap W → pre.map Hn.p = putA a x d0 M → RputG w G B M a x (.returned (.tuple #[.slice A' k cap,.int .i64 0])) W:=fun pre A' k cap W hp he => by
    have hpr : putR M a x = (putA a x d0 M,0):=by
     rw [HP.out,HBI.out,HRI0.out,if_neg (by decide),if_neg (by decide)]
     congr 2
     rw [← hd0,HKK.out]
     by_cases h : x.k = 0 <;> simp [h]
    unfold RputG
    rw [hpr,← he]
    have hbel:=hp.below
    have hbs : w.heap.size ≤ base:=by have:=HB.out; omega
    refine ⟨A',cap,by rw [List.length_map,hp.len],h02.trans (hbel.mono hbs),?_⟩
    refine hp.row.keep ((Below.refl _ _)) (fun g hg => ⟨rfl,.inr ⟨by omega,hg.2⟩⟩)
   have HFIN:=Jh hfin
   have HPU0:=Jh hpu0
   have HR2:=Jh hrow2
   have HFK:=Jh hfk
   have HBS:=Jh (And.intro hBb (And.intro hGb (And.intro hsx (And.intro hbb hbase))))
   rw [← hW3]
   rw [← hbase]
   clear hpu0 hrow2 hfk hsx h02 hW3 hfin hd0 hGb hbase hbb hBb HRI0 HBI HIS HR HX HY hk2
   go_wp2_with (fail)
   go_loopw [8,9,10,11] (fun s dv tv iv wr => PuI base w2 B M a x d0 n s dv tv iv wr) (fun _ _ _ iv _ => n - (intOf iv).toNat)
   case atStart => exact ⟨0,Nat.zero_le _,rfl,d0,false,_,0,0,[],rfl,rfl,rfl,Jh ⟨HPU0.out,by simp,by omega,fun _ => Nat.le_refl _⟩⟩
   case round =>
    obtain ⟨i,hin,rfl,dd,tt,A',k,cap,pre,rfl,rfl,rfl,hR⟩:=hrel
    by_cases hi : i < n
    · have hiI : (i : Int) < (n : Int):=by omega
      have hi0 : (0 : Int) ≤ i:=by omega
      obtain ⟨hc1,hc2⟩:=hcc (by omega)
      have hil : i < M.length:=by have:=HROW.out.2.2.2.1; omega
      obtain ⟨gl,of,hA⟩:=rowG_some HR2.out (by omega)
      subst hA
      obtain ⟨hgl,A1,c1,hri,hsi⟩:=rowG_at HR2.out i hil
      obtain ⟨ai,hai⟩ : ∃ x,x = M[i].1:=⟨_,rfl⟩
      obtain ⟨xi,hxi⟩ : ∃ x,x = M[i].2:=⟨_,rfl⟩
      rw [← hai,← hxi] at hri
      rw [← hxi] at hsi
      obtain ⟨NX,hNX⟩ : ∃ N,N = (Hn.cells ⟨ai,xi,A1,c1⟩).toArray:=⟨_,rfl⟩
      have hglb:=HBS.out.2.1 gl hgl
      have hbel2:=hR.out.1.below
      have hws:=hbel2.size
      have hbw : base ≤ wr.heap.size:=by have:=HBS.out.2.2.2.2; omega
      have HRG:=Jh (fun (wz : World) (h : Below base w2 wz) => show wz.rangeAt gl (of + i * 33) (Ad.cs ai) ∧ wz.rangeAt gl (of + i * 33) NX.toList from by
       have h:=hri wz (h.block gl hglb)
       exact ⟨h.1,by rw [hNX]; exact h.2.2⟩)
      have HRI:=Jh (fun (wz : World) (h : Below wr.heap.size wr wz) => HRG.out wz (hbel2.trans (h.mono hbw)))
      have HKA:=Jh (fun (wz : World) (h : Below wr.heap.size wr wz) => show wz.rangeAt b 0 AC.toList from row_rangeB (by have h:=(HFK.out wz (hbel2.trans (h.mono hbw))).1; rwa [← Array.toArray_toList (xs:=AC)] at h))
      have hcut : M.drop i = (ai,xi) :: M.drop (i + 1):=by rw [List.drop_eq_getElem_cons hil,hai,hxi]
      have hNXs : (Tryz.prog.info? 45).map (·.size) = some NX.toList.length:=by rw [hNX]; exact infRc_
      have HNX:=Jh (And.intro hNX (And.intro (show ∀ u ∈ NX.toList,u.oneCell' = true from by rw [hNX]; exact Hn.cells_one ⟨ai,xi,A1,c1⟩) (And.intro hsi (And.intro hcut hNXs))))
      have HNX2:=Jh (And.intro HNX.out.2.1 (show NX.size = 33 from by rw [hNX]; rfl))
      have HBW:=Jh (And.intro hbel2 (And.intro hbw hws))
      have hsk : Below wr.heap.size wr wr.drew:=(Below.refl _ _).drew
      have HAH0:=Jh (fun wx => aheadR_c wx a ai)
      have hk1000 : k ≤ 1001:=by have:=hR.out.2.2.1; omega
      clear hri hsi hgl hglb hai hxi hNX hbel2 hws hcut hil hNXs
      cases heq : decide (ai = a) with
      | true =>
       have HEQ:=Jh (fun (wz : World) (o : Oper) (ρ : Operand → Value) (x y : Operand) (ho : o.op = .binOp .eql 30 x y 30) (hx : ρ x = .agg (Ad.cs ai).toArray) (hy : ρ y = .agg AC) => show (execOp ρ o).run Tryz.prog wz = .ok (.value (.bool true)) wz from by have h:=eqAd_run (w:=wz) x y ho ai a hx (by rw [hy,HAC.out]); rwa [heq] at h)
       have HQ:=Jh heq
       clear heq
       go_wp2_with (fail)
       refine wp_region_held_drew (S:=fun wz => Below wr.heap.size wr wz) (by kernel_rfl) hsk (fun hHeld => ?_)
       obtain ⟨wa,hwa⟩ : ∃ x,x = wr.drew:=⟨_,rfl⟩
       rw [← hwa] at hHeld ⊢
       clear hwa
       refine tkH (i:=0) (v:=.slice (some ⟨gl,of,none⟩) n c0) rfl hHeld ?_
       try simp only [sX]
       refine tkH (i:=1) (v:=.int .i64 (i : Nat)) rfl hHeld ?_
       try simp only [sX]
       refine tkG (i:=2) (v:=.pointer (some ⟨gl,of + i * 33,none⟩)) rfl (Or.inl ⟨by kernel_rfl,fun _ hS => ix_atRc _ _ rfl gl of n c0 i rfl rfl hi⟩) hHeld ?_
       try simp only [sX]
       refine tkH (i:=3) (v:=.pointer (some ⟨gl,of + i * 33,none⟩)) rfl hHeld ?_
       try simp only [sX]
       refine tkG (i:=4) (v:=.agg (Ad.cs ai).toArray) rfl (yieldsIf_load_mid (by kernel_rfl) 30 _ rfl gl (of + i * 33) rfl (Ad.cs ai) _ (fun _ hS => (HRI.out _ hS).1) undCell rfl (HVL.out _)) hHeld ?_
       try simp only [sX]
       refine tkG (i:=5) (v:=.agg AC) rfl (yieldsIf_midC (by kernel_rfl) 30 _ rfl b 0 rfl AC _ (fun _ hS => HKA.out _ hS) undCell rfl HACL.out) hHeld ?_
       try simp only [sX]
       refine tkG (i:=6) (v:=.bool true) rfl (Or.inl ⟨by kernel_rfl,fun _ hS => HEQ.out _ _ _ _ _ rfl rfl rfl⟩) hHeld ?_
       try simp only [sX]
       have HE:=Jh hHeld
       refine wpAnyH_done (by kernel_rfl) ?_ _
       clear hHeld
       have HN:=Jh (show PuR base w2 B pre A' k cap wa ∧ pre.map Hn.p ++ putA a x dd (M.drop (i + 1)) = putA a x d0 M ∧ k ≤ i + 1 + 1 ∧ (dd = false → k ≤ i + 1) from ⟨hR.out.1.kept HE.out HBS.out.1 (by have:=HBS.out.2.2.2.2; omega),by
        have h:=hR.out.2.1
        rw [HNX.out.2.2.2.1] at h
        rw [putA_cons] at h
        rwa [if_pos (show (ai,xi).1 = a from of_decide_eq_true HQ.out)] at h,by have:=hR.out.2.2.1; omega,fun h => by have:=hR.out.2.2.2 h; omega⟩)
       go_wp2_with (fail)
       go_roundw
       case measure => simp [intOf]; omega
       case rel => exact ⟨i + 1,by omega,by go_num,dd,true,A',k,cap,pre,rfl,rfl,rfl,HN⟩
      | false =>
       have HEQ:=Jh (fun (wz : World) (o : Oper) (ρ : Operand → Value) (x y : Operand) (ho : o.op = .binOp .eql 30 x y 30) (hx : ρ x = .agg (Ad.cs ai).toArray) (hy : ρ y = .agg AC) => show (execOp ρ o).run Tryz.prog wz = .ok (.value (.bool false)) wz from by have h:=eqAd_run (w:=wz) x y ho ai a hx (by rw [hy,HAC.out]); rwa [heq] at h)
       have HQ:=Jh heq
       clear heq
       cases dd with
       | true =>
        go_wp2_with (fail)
        refine wp_region_held_drew (S:=fun wz => Below wr.heap.size wr wz) (by kernel_rfl) hsk (fun hHeld => ?_)
        obtain ⟨wa,hwa⟩ : ∃ x,x = wr.drew:=⟨_,rfl⟩
        rw [← hwa] at hHeld ⊢
        clear hwa
        refine tkH (i:=0) (v:=.slice (some ⟨gl,of,none⟩) n c0) rfl hHeld ?_
        try simp only [sX]
        refine tkH (i:=1) (v:=.int .i64 (i : Nat)) rfl hHeld ?_
        try simp only [sX]
        refine tkG (i:=2) (v:=.pointer (some ⟨gl,of + i * 33,none⟩)) rfl (Or.inl ⟨by kernel_rfl,fun _ hS => ix_atRc _ _ rfl gl of n c0 i rfl rfl hi⟩) hHeld ?_
        try simp only [sX]
        refine tkH (i:=3) (v:=.pointer (some ⟨gl,of + i * 33,none⟩)) rfl hHeld ?_
        try simp only [sX]
        refine tkG (i:=4) (v:=.agg (Ad.cs ai).toArray) rfl (yieldsIf_load_mid (by kernel_rfl) 30 _ rfl gl (of + i * 33) rfl (Ad.cs ai) _ (fun _ hS => (HRI.out _ hS).1) undCell rfl (HVL.out _)) hHeld ?_
        try simp only [sX]
        refine tkG (i:=5) (v:=.agg AC) rfl (yieldsIf_midC (by kernel_rfl) 30 _ rfl b 0 rfl AC _ (fun _ hS => HKA.out _ hS) undCell rfl HACL.out) hHeld ?_
        try simp only [sX]
        refine tkG (i:=6) (v:=.bool false) rfl (Or.inl ⟨by kernel_rfl,fun _ hS => HEQ.out _ _ _ _ _ rfl rfl rfl⟩) hHeld ?_
        try simp only [sX]
        have HE:=Jh hHeld
        refine wpAnyH_done (by kernel_rfl) ?_ _
        clear hHeld
        go_wp2_with (fail)
        refine wp_region_held_drew (S:=fun wz => Below wr.heap.size wr wz) (by kernel_rfl) HE.out.drew (fun hHeld => ?_)
        clear HE
        obtain ⟨wb,hwb⟩ : ∃ x,x = wa.drew:=⟨_,rfl⟩
        rw [← hwb] at hHeld ⊢
        clear hwb
        refine tkH (i:=0) (v:=.bool true) rfl hHeld ?_
        try simp only [sX]
        refine tkH (i:=1) (v:=.bool false) rfl hHeld ?_
        try simp only [sX]
        refine tkH (i:=2) (v:=.bool false) rfl hHeld ?_
        try simp only [sX]
        refine tkG (i:=3) (v:=undef) rfl (Or.inr ⟨by kernel_rfl,rfl⟩) hHeld ?_
        try simp only [sX]
        refine tkG (i:=4) (v:=undef) rfl (Or.inr ⟨by kernel_rfl,rfl⟩) hHeld ?_
        try simp only [sX]
        refine tkG (i:=5) (v:=undef) rfl (Or.inr ⟨by kernel_rfl,rfl⟩) hHeld ?_
        try simp only [sX]
        refine tkG (i:=6) (v:=undef) rfl (Or.inr ⟨by kernel_rfl,rfl⟩) hHeld ?_
        try simp only [sX]
        refine tkG (i:=7) (v:=undef) rfl (Or.inr ⟨by kernel_rfl,rfl⟩) hHeld ?_
        try simp only [sX]
        refine tkG (i:=8) (v:=undef) rfl (Or.inr ⟨by kernel_rfl,rfl⟩) hHeld ?_
        try simp only [sX]
        refine tkG (i:=9) (v:=undef) rfl (Or.inr ⟨by kernel_rfl,rfl⟩) hHeld ?_
        try simp only [sX]
        refine tkH (i:=10) (v:=.bool false) rfl hHeld ?_
        try simp only [sX]
        have HE:=Jh hHeld
        refine wpAnyH_done (by kernel_rfl) ?_ _
        clear hHeld
        have hpb:=hR.out.1.kept HE.out HBS.out.1 (by have:=HBS.out.2.2.2.2; omega)
        have hbwb : base ≤ wb.heap.size:=by have:=HE.out.size; omega
        have HPB:=Jh hpb
        obtain ⟨xs,hxs⟩ : ∃ l,l = pre.flatMap Hn.cells:=⟨_,rfl⟩
        have hown:=hpb.own
        rw [← hxs] at hown
        have HOW:=Jh hown
        have HRN:=Jh (HRG.out wb hpb.below).2
        have HXE:=Jh hxs
        clear hpb hown hxs
        go_wp2_with (first | (at_builtin; refine wpList_append_lies _ rfl (.tmp 54) (.tmp 59) 22 rfl base 45 ti _ 33 288 undRcs HTI.out.1 HTI.out.2.1 HTI.out.2.2.1 HTI.out.2.2.2.1 HTI.out.2.2.2.2 (by decide) (.slice A' k cap) (k) xs rfl (HOW.out.alloc _) ⟨wb.heap.size,0,none⟩ 1 1 NX.toList rfl (by simp [HNX2.out.2]) (World.news_of_block (heap_alloc_new wb (.cells NX 45))) HNX2.out.1 (by decide) (by unfold maxLen; omega) (by omega) (by rw [World.size_alloc]; omega) (wb.heap.size + 1) (by rw [World.size_alloc]) ?_; intro g3 cap3 w4 hown4 hgrow hat hlt4; have HO1:=Jh hown4; have HG1:=Jh hgrow; have HSZ1:=Jh (show wb.heap.size ≤ w4.heap.size from by have:=hgrow.size; rw [World.size_alloc] at this; omega); have hsz1:=HSZ1.out; clear hown4 hgrow hat hlt4) | (refine wpList_midA rfl 45 _ rfl gl (of + i * 33) rfl NX _ HRN.out undRc rfl HNX.out.2.2.2.2 ?_) | (refine wpList_oneRc rfl _ rfl NX rfl HNX2.out.2 ?_) | fail)
        go_roundw
        case measure => simp [intOf]; omega
        case rel =>
         have hst : PuR base w2 B (pre ++ [⟨ai,xi,A1,c1⟩]) (some ⟨g3,0,none⟩) (k + 1) cap3 w4:=by
          have hg:=HG1.out
          have ho:=HO1.out
          rw [HNX.out.1] at hg ho
          have hpe : xs = pre.flatMap Hn.cells:=HXE.out
          rw [hpe] at ho
          exact PuR.step (x:=⟨ai,xi,A1,c1⟩) HPB.out HBS.out.1 (by have:=HBS.out.2.2.2.2; omega) (HNX.out.2.2.1.below (HPB.out.below.mono HBS.out.1)) hg ho
         have h:=hR.out.2.1
         rw [HNX.out.2.2.2.1] at h
         rw [putA_cons] at h
         rw [if_neg (show ¬ (ai,xi).1 = a from of_decide_eq_false HQ.out)] at h
         rw [if_neg (by simp)] at h
         exact ⟨i + 1,by omega,by go_num,true,tt,some ⟨g3,0,none⟩,k + 1,cap3,pre ++ [⟨ai,xi,A1,c1⟩],rfl,rfl,rfl,Jh ⟨hst,by rw [List.map_append,List.append_assoc]; exact h,by have:=hR.out.2.2.1; omega,fun q => by cases q⟩⟩
       | false =>
        cases hah : decide (ahead a ai) with
        | false =>
         have HAH:=Jh (fun wx => show Calls Tryz.prog 38 #[.agg AC,.agg (Ad.cs ai).toArray] wx fun e w' => e = .returned (.bool false) ∧ Below wx.heap.size wx w' from by have h:=HAH0.out wx; rw [HAC.out]; rwa [hah] at h)
         have HQA:=Jh hah
         clear hah HAH0
         go_wp2_with (fail)
         refine wp_region_held_drew (S:=fun wz => Below wr.heap.size wr wz) (by kernel_rfl) hsk (fun hHeld => ?_)
         obtain ⟨wa,hwa⟩ : ∃ x,x = wr.drew:=⟨_,rfl⟩
         rw [← hwa] at hHeld ⊢
         clear hwa
         refine tkH (i:=0) (v:=.slice (some ⟨gl,of,none⟩) n c0) rfl hHeld ?_
         try simp only [sX]
         refine tkH (i:=1) (v:=.int .i64 (i : Nat)) rfl hHeld ?_
         try simp only [sX]
         refine tkG (i:=2) (v:=.pointer (some ⟨gl,of + i * 33,none⟩)) rfl (Or.inl ⟨by kernel_rfl,fun _ hS => ix_atRc _ _ rfl gl of n c0 i rfl rfl hi⟩) hHeld ?_
         try simp only [sX]
         refine tkH (i:=3) (v:=.pointer (some ⟨gl,of + i * 33,none⟩)) rfl hHeld ?_
         try simp only [sX]
         refine tkG (i:=4) (v:=.agg (Ad.cs ai).toArray) rfl (yieldsIf_load_mid (by kernel_rfl) 30 _ rfl gl (of + i * 33) rfl (Ad.cs ai) _ (fun _ hS => (HRI.out _ hS).1) undCell rfl (HVL.out _)) hHeld ?_
         try simp only [sX]
         refine tkG (i:=5) (v:=.agg AC) rfl (yieldsIf_midC (by kernel_rfl) 30 _ rfl b 0 rfl AC _ (fun _ hS => HKA.out _ hS) undCell rfl HACL.out) hHeld ?_
         try simp only [sX]
         refine tkG (i:=6) (v:=.bool false) rfl (Or.inl ⟨by kernel_rfl,fun _ hS => HEQ.out _ _ _ _ _ rfl rfl rfl⟩) hHeld ?_
         try simp only [sX]
         have HE:=Jh hHeld
         refine wpAnyH_done (by kernel_rfl) ?_ _
         clear hHeld
         go_wp2_with (fail)
         refine wp_region_held_drew (S:=fun wz => Below wr.heap.size wr wz) (by kernel_rfl) HE.out.drew (fun hHeld => ?_)
         clear HE
         refine tkH (i:=0) (v:=.bool false) rfl hHeld ?_
         try simp only [sX]
         refine tkH (i:=1) (v:=.bool true) rfl hHeld ?_
         try simp only [sX]
         refine tkH (i:=2) (v:=.bool true) rfl hHeld ?_
         try simp only [sX]
         refine tkG (i:=3) (v:=.agg AC) rfl (yieldsIf_midC (by kernel_rfl) 30 _ rfl b 0 rfl AC _ (fun _ hS => HKA.out _ hS) undCell rfl HACL.out) hHeld ?_
         try simp only [sX]
         refine tkH (i:=4) (v:=.slice (some ⟨gl,of,none⟩) n c0) rfl hHeld ?_
         try simp only [sX]
         refine tkH (i:=5) (v:=.int .i64 (i : Nat)) rfl hHeld ?_
         try simp only [sX]
         refine tkG (i:=6) (v:=.pointer (some ⟨gl,of + i * 33,none⟩)) rfl (Or.inl ⟨by kernel_rfl,fun _ hS => ix_atRc _ _ rfl gl of n c0 i rfl rfl hi⟩) hHeld ?_
         try simp only [sX]
         refine tkH (i:=7) (v:=.pointer (some ⟨gl,of + i * 33,none⟩)) rfl hHeld ?_
         try simp only [sX]
         refine tkG (i:=8) (v:=.agg (Ad.cs ai).toArray) rfl (yieldsIf_load_mid (by kernel_rfl) 30 _ rfl gl (of + i * 33) rfl (Ad.cs ai) _ (fun _ hS => (HRI.out _ hS).1) undCell rfl (HVL.out _)) hHeld ?_
         try simp only [sX]
         refine wpAnyH_ready (rs:=[9]) (by kernel_rfl) (by simp) ?_
         refine AllReadyH.cons rfl (fun K hK => ?_) AllReadyH.nil
         go_simp
         refine (HAH.out _).mono ?_
         rintro e wb ⟨rfl,hbl⟩
         try go_simp
         refine hK.out _ _ (hHeld.trans (hbl.mono hHeld.size)) (fun hHeld1 => ?_)
         clear hK K hHeld hbl
         have hHeld:=hHeld1
         clear hHeld1
         try simp only [sX]
         refine tkH (i:=10) (v:=.bool false) rfl hHeld ?_
         try simp only [sX]
         have HE:=Jh hHeld
         refine wpAnyH_done (by kernel_rfl) ?_ _
         clear hHeld
         have hpb:=hR.out.1.kept HE.out HBS.out.1 (by have:=HBS.out.2.2.2.2; omega)
         have hbwb : base ≤ wb.heap.size:=by have:=HE.out.size; omega
         have HPB:=Jh hpb
         obtain ⟨xs,hxs⟩ : ∃ l,l = pre.flatMap Hn.cells:=⟨_,rfl⟩
         have hown:=hpb.own
         rw [← hxs] at hown
         have HOW:=Jh hown
         have HRN:=Jh (HRG.out wb hpb.below).2
         have HXE:=Jh hxs
         clear hpb hown hxs
         go_wp2_with (first | (at_builtin; refine wpList_append_lies _ rfl (.tmp 54) (.tmp 59) 22 rfl base 45 ti _ 33 288 undRcs HTI.out.1 HTI.out.2.1 HTI.out.2.2.1 HTI.out.2.2.2.1 HTI.out.2.2.2.2 (by decide) (.slice A' k cap) (k) xs rfl (HOW.out.alloc _) ⟨wb.heap.size,0,none⟩ 1 1 NX.toList rfl (by simp [HNX2.out.2]) (World.news_of_block (heap_alloc_new wb (.cells NX 45))) HNX2.out.1 (by decide) (by unfold maxLen; omega) (by omega) (by rw [World.size_alloc]; omega) (wb.heap.size + 1) (by rw [World.size_alloc]) ?_; intro g3 cap3 w4 hown4 hgrow hat hlt4; have HO1:=Jh hown4; have HG1:=Jh hgrow; have HSZ1:=Jh (show wb.heap.size ≤ w4.heap.size from by have:=hgrow.size; rw [World.size_alloc] at this; omega); have hsz1:=HSZ1.out; clear hown4 hgrow hat hlt4) | (refine wpList_midA rfl 45 _ rfl gl (of + i * 33) rfl NX _ HRN.out undRc rfl HNX.out.2.2.2.2 ?_) | (refine wpList_oneRc rfl _ rfl NX rfl HNX2.out.2 ?_) | fail)
         go_roundw
         case measure => simp [intOf]; omega
         case rel =>
          have hst : PuR base w2 B (pre ++ [⟨ai,xi,A1,c1⟩]) (some ⟨g3,0,none⟩) (k + 1) cap3 w4:=by
           have hg:=HG1.out
           have ho:=HO1.out
           rw [HNX.out.1] at hg ho
           have hpe : xs = pre.flatMap Hn.cells:=HXE.out
           rw [hpe] at ho
           exact PuR.step (x:=⟨ai,xi,A1,c1⟩) HPB.out HBS.out.1 (by have:=HBS.out.2.2.2.2; omega) (HNX.out.2.2.1.below (HPB.out.below.mono HBS.out.1)) hg ho
          have h:=hR.out.2.1
          rw [HNX.out.2.2.2.1] at h
          rw [putA_cons] at h
          rw [if_neg (show ¬ (ai,xi).1 = a from of_decide_eq_false HQ.out)] at h
          rw [if_neg (fun q => (of_decide_eq_false HQA.out) q.2)] at h
          exact ⟨i + 1,by omega,by go_num,false,tt,some ⟨g3,0,none⟩,k + 1,cap3,pre ++ [⟨ai,xi,A1,c1⟩],rfl,rfl,rfl,Jh ⟨hst,by rw [List.map_append,List.append_assoc]; exact h,by have:=hR.out.2.2.1; omega,fun q => by have:=hR.out.2.2.2 trivial; omega⟩⟩
        | true =>
         have HAH:=Jh (fun wx => show Calls Tryz.prog 38 #[.agg AC,.agg (Ad.cs ai).toArray] wx fun e w' => e = .returned (.bool true) ∧ Below wx.heap.size wx w' from by have h:=HAH0.out wx; rw [HAC.out]; rwa [hah] at h)
         have HQA:=Jh hah
         clear hah HAH0
         go_wp2_with (fail)
         refine wp_region_held_drew (S:=fun wz => Below wr.heap.size wr wz) (by kernel_rfl) hsk (fun hHeld => ?_)
         obtain ⟨wa,hwa⟩ : ∃ x,x = wr.drew:=⟨_,rfl⟩
         rw [← hwa] at hHeld ⊢
         clear hwa
         refine tkH (i:=0) (v:=.slice (some ⟨gl,of,none⟩) n c0) rfl hHeld ?_
         try simp only [sX]
         refine tkH (i:=1) (v:=.int .i64 (i : Nat)) rfl hHeld ?_
         try simp only [sX]
         refine tkG (i:=2) (v:=.pointer (some ⟨gl,of + i * 33,none⟩)) rfl (Or.inl ⟨by kernel_rfl,fun _ hS => ix_atRc _ _ rfl gl of n c0 i rfl rfl hi⟩) hHeld ?_
         try simp only [sX]
         refine tkH (i:=3) (v:=.pointer (some ⟨gl,of + i * 33,none⟩)) rfl hHeld ?_
         try simp only [sX]
         refine tkG (i:=4) (v:=.agg (Ad.cs ai).toArray) rfl (yieldsIf_load_mid (by kernel_rfl) 30 _ rfl gl (of + i * 33) rfl (Ad.cs ai) _ (fun _ hS => (HRI.out _ hS).1) undCell rfl (HVL.out _)) hHeld ?_
         try simp only [sX]
         refine tkG (i:=5) (v:=.agg AC) rfl (yieldsIf_midC (by kernel_rfl) 30 _ rfl b 0 rfl AC _ (fun _ hS => HKA.out _ hS) undCell rfl HACL.out) hHeld ?_
         try simp only [sX]
         refine tkG (i:=6) (v:=.bool false) rfl (Or.inl ⟨by kernel_rfl,fun _ hS => HEQ.out _ _ _ _ _ rfl rfl rfl⟩) hHeld ?_
         try simp only [sX]
         have HE:=Jh hHeld
         refine wpAnyH_done (by kernel_rfl) ?_ _
         clear hHeld
         go_wp2_with (fail)
         refine wp_region_held_drew (S:=fun wz => Below wr.heap.size wr wz) (by kernel_rfl) HE.out.drew (fun hHeld => ?_)
         clear HE
         refine tkH (i:=0) (v:=.bool false) rfl hHeld ?_
         try simp only [sX]
         refine tkH (i:=1) (v:=.bool true) rfl hHeld ?_
         try simp only [sX]
         refine tkH (i:=2) (v:=.bool true) rfl hHeld ?_
         try simp only [sX]
         refine tkG (i:=3) (v:=.agg AC) rfl (yieldsIf_midC (by kernel_rfl) 30 _ rfl b 0 rfl AC _ (fun _ hS => HKA.out _ hS) undCell rfl HACL.out) hHeld ?_
         try simp only [sX]
         refine tkH (i:=4) (v:=.slice (some ⟨gl,of,none⟩) n c0) rfl hHeld ?_
         try simp only [sX]
         refine tkH (i:=5) (v:=.int .i64 (i : Nat)) rfl hHeld ?_
         try simp only [sX]
         refine tkG (i:=6) (v:=.pointer (some ⟨gl,of + i * 33,none⟩)) rfl (Or.inl ⟨by kernel_rfl,fun _ hS => ix_atRc _ _ rfl gl of n c0 i rfl rfl hi⟩) hHeld ?_
         try simp only [sX]
         refine tkH (i:=7) (v:=.pointer (some ⟨gl,of + i * 33,none⟩)) rfl hHeld ?_
         try simp only [sX]
         refine tkG (i:=8) (v:=.agg (Ad.cs ai).toArray) rfl (yieldsIf_load_mid (by kernel_rfl) 30 _ rfl gl (of + i * 33) rfl (Ad.cs ai) _ (fun _ hS => (HRI.out _ hS).1) undCell rfl (HVL.out _)) hHeld ?_
         try simp only [sX]
         refine wpAnyH_ready (rs:=[9]) (by kernel_rfl) (by simp) ?_
         refine AllReadyH.cons rfl (fun K hK => ?_) AllReadyH.nil
         go_simp
         refine (HAH.out _).mono ?_
         rintro e wb ⟨rfl,hbl⟩
         try go_simp
         refine hK.out _ _ (hHeld.trans (hbl.mono hHeld.size)) (fun hHeld1 => ?_)
         clear hK K hHeld hbl
         have hHeld:=hHeld1
         clear hHeld1
         try simp only [sX]
         refine tkH (i:=10) (v:=.bool true) rfl hHeld ?_
         try simp only [sX]
         have HE:=Jh hHeld
         refine wpAnyH_done (by kernel_rfl) ?_ _
         clear hHeld
         have hpb:=hR.out.1.kept HE.out HBS.out.1 (by have:=HBS.out.2.2.2.2; omega)
         have hbwb : base ≤ wb.heap.size:=by have:=HE.out.size; omega
         have HPB:=Jh hpb
         obtain ⟨xs,hxs⟩ : ∃ l,l = pre.flatMap Hn.cells:=⟨_,rfl⟩
         have hown:=hpb.own
         rw [← hxs] at hown
         have HOW:=Jh hown
         have HXS:=Jh hxs
         have HF:=Jh (HFK.out wb hpb.below)
         have hst2 : ∀ g3 cap3 w4,(wb.alloc (.cells NC 45)).grownBy w4 (Value.slice A' k cap).ownBlock → w4.ownsRow base 45 33 (.slice (some ⟨g3,0,none⟩) (k + 1) cap3) (k + 1) (xs ++ NC.toList) → PuR base w2 B (pre ++ [⟨a,x,A,c⟩]) (some ⟨g3,0,none⟩) (k + 1) cap3 w4:=fun g3 cap3 w4 hg ho => by
          rw [HNC.out] at hg ho
          rw [hxs] at ho
          exact PuR.step (x:=⟨a,x,A,c⟩) HPB.out HBS.out.1 (by have:=HBS.out.2.2.2.2; omega) (HBS.out.2.2.1.below (hpb.below.mono HBS.out.1)) hg ho
         have HST2:=Jh hst2
         clear hpb hown hxs hst2
         go_wp2_with (first | (at_builtin; refine wpList_append_lies _ rfl (.tmp 48) (.tmp 52) 22 rfl base 45 ti _ 33 288 undRcs HTI.out.1 HTI.out.2.1 HTI.out.2.2.1 HTI.out.2.2.2.1 HTI.out.2.2.2.2 (by decide) (.slice A' k cap) (k) xs rfl (HOW.out.alloc _) ⟨wb.heap.size,0,none⟩ 1 1 NC.toList rfl (by simp [HON.out.2]) (World.news_of_block (heap_alloc_new wb (.cells NC 45))) HON.out.1 (by decide) (by unfold maxLen; omega) (by omega) (by rw [World.size_alloc]; omega) (wb.heap.size + 1) (by rw [World.size_alloc]) ?_; intro g3 cap3 w4 hown4 hgrow hat hlt4; have HO1:=Jh hown4; have HG1:=Jh hgrow; have HSZ1:=Jh (show wb.heap.size ≤ w4.heap.size from by have:=hgrow.size; rw [World.size_alloc] at this; omega); have hsz1:=HSZ1.out; clear hown4 hgrow hat hlt4; have hp4:=HST2.out g3 cap3 w4 HG1.out HO1.out; have HP4:=Jh hp4; have HRN:=Jh (HRG.out w4 hp4.below).2; clear hp4) | (refine wpList_row rfl 30 _ rfl b rfl 30 AC (0,0) _ HF.out.1 undCell rfl HACS.out ?_) | (refine wpList_row rfl 43 _ rfl (b + 1) rfl 43 CA (0,0) _ HF.out.2.1 undC rfl HIC.out ?_) | (refine wpList_buildSome rfl 45 _ rfl NC ?_ ?_; focus (rw [HNC.out,HCA.out,HAC.out]; kernel_rfl)) | (refine wpList_oneRc rfl _ rfl NC rfl HON.out.2 ?_) | (refine wpList_midA rfl 45 _ rfl gl (of + i * 33) rfl NX _ HRN.out undRc rfl HNX.out.2.2.2.2 ?_) | (refine wpList_oneRc rfl _ rfl NX rfl HNX2.out.2 ?_) | (at_builtin; refine wpList_append_lies _ rfl (.tmp 54) (.tmp 59) 22 rfl base 45 ti _ 33 288 undRcs HTI.out.1 HTI.out.2.1 HTI.out.2.2.1 HTI.out.2.2.2.1 HTI.out.2.2.2.2 (by decide) (.slice (some ⟨g3,0,none⟩) (k + 1) cap3) ((k + 1)) (xs ++ NC.toList) rfl (HO1.out.alloc _) ⟨w4.heap.size,0,none⟩ 1 1 NX.toList rfl (by simp [HNX2.out.2]) (World.news_of_block (heap_alloc_new w4 (.cells NX 45))) HNX2.out.1 (by decide) (by unfold maxLen; omega) (by omega) (by rw [World.size_alloc]; omega) (w4.heap.size + 1) (by rw [World.size_alloc]) ?_; intro g4 cap4 w6 hown4 hgrow hat hlt4; have HO2:=Jh hown4; have HG2:=Jh hgrow; have HSZ2:=Jh (show w4.heap.size ≤ w6.heap.size from by have:=hgrow.size; rw [World.size_alloc] at this; omega); have hsz2:=HSZ2.out; clear hown4 hgrow hat hlt4) | fail)
         go_roundw
         case measure => simp [intOf]; omega
         case rel =>
          have hst : PuR base w2 B ((pre ++ [⟨a,x,A,c⟩]) ++ [⟨ai,xi,A1,c1⟩]) (some ⟨g4,0,none⟩) (k + 1 + 1) cap4 w6:=by
           have hg:=HG2.out
           have ho:=HO2.out
           rw [HNX.out.1] at hg ho
           have hpe : xs ++ NC.toList = (pre ++ [(⟨a,x,A,c⟩ : Hn)]).flatMap Hn.cells:=by rw [List.flatMap_append,List.flatMap_singleton,HXS.out,HNC.out]
           rw [hpe] at ho
           exact PuR.step (x:=⟨ai,xi,A1,c1⟩) HP4.out HBS.out.1 (by have:=HBS.out.2.2.2.2; omega) (HNX.out.2.2.1.below (HP4.out.below.mono HBS.out.1)) hg ho
          have h:=hR.out.2.1
          rw [HNX.out.2.2.2.1] at h
          rw [putA_cons] at h
          rw [if_neg (show ¬ (ai,xi).1 = a from of_decide_eq_false HQ.out),if_pos ⟨rfl,of_decide_eq_true HQA.out⟩] at h
          exact ⟨i + 1,by omega,by go_num,true,tt,some ⟨g4,0,none⟩,k + 1 + 1,cap4,(pre ++ [⟨a,x,A,c⟩]) ++ [⟨ai,xi,A1,c1⟩],rfl,rfl,rfl,Jh ⟨hst,by rw [List.map_append,List.map_append,List.append_assoc,List.append_assoc]; exact h,by have:=hR.out.2.2.2 trivial; omega,fun q => by cases q⟩⟩
    · obtain rfl : i = n:=by omega
      have hend : M.drop i = []:=List.drop_of_length_le (by have:=HROW.out.2.2.2.1; omega)
      have hR2:=hR.out.2.1
      rw [hend] at hR2
      have HEN:=Jh (show pre.map Hn.p ++ putA a x dd [] = putA a x d0 M from hR2)
      have hk1000 : k ≤ 1001:=by have:=hR.out.2.2.1; omega
      have hbel2:=hR.out.1.below
      have hbw : base ≤ wr.heap.size:=by have:=hbel2.size; have:=HBS.out.2.2.2.2; omega
      obtain ⟨xs,hxs⟩ : ∃ l,l = pre.flatMap Hn.cells:=⟨_,rfl⟩
      have hown:=hR.out.1.own
      rw [← hxs] at hown
      have HOW:=Jh hown
      have HXS:=Jh hxs
      have HF:=Jh (HFK.out wr hbel2)
      have hcwr : wr.cell? ⟨b + 1,0,none⟩ = some (.int .i64 kk):=HF.out.2.2
      clear hend hR2 hbel2 hown hxs
      cases dd with
      | true =>
       have HDONE:=Jh (HFIN.out pre A' k cap wr hR.out.1 (by have h:=HEN.out; simpa [putA] using h))
       by_cases hk0 : kk = 0
       · subst hk0
         go_wp2_with (fail)
         first | go_ret | go_ret2
         exact HDONE.out
       · have hkb : (kk == 0) = false:=by simpa using hk0
         have hnl : ¬ ((10000 : Int) ≤ (i : Int)):=by omega
         cases tt with
         | true =>
          go_wp2_with (fail)
          first | go_ret | go_ret2
          exact HDONE.out
         | false =>
          go_wp2_with (fail)
          first | go_ret | go_ret2
          exact HDONE.out
      | false =>
       have hst2 : ∀ g3 cap3 w4,(wr.alloc (.cells NC 45)).grownBy w4 (Value.slice A' k cap).ownBlock → w4.ownsRow base 45 33 (.slice (some ⟨g3,0,none⟩) (k + 1) cap3) (k + 1) (xs ++ NC.toList) → PuR base w2 B (pre ++ [⟨a,x,A,c⟩]) (some ⟨g3,0,none⟩) (k + 1) cap3 w4:=fun g3 cap3 w4 hg ho => by
        rw [HNC.out] at hg ho
        rw [HXS.out] at ho
        exact PuR.step (x:=⟨a,x,A,c⟩) hR.out.1 HBS.out.1 (by have:=HBS.out.2.2.2.2; omega) (HBS.out.2.2.1.below (hR.out.1.below.mono HBS.out.1)) hg ho
       have HDONE:=Jh (show ∀ g3 cap3 w4,(wr.alloc (.cells NC 45)).grownBy w4 (Value.slice A' k cap).ownBlock → w4.ownsRow base 45 33 (.slice (some ⟨g3,0,none⟩) (k + 1) cap3) (k + 1) (xs ++ NC.toList) → RputG w G B M a x (.returned (.tuple #[.slice (some ⟨g3,0,none⟩) (k + 1) cap3,.int .i64 0])) w4 from fun g3 cap3 w4 hg ho => HFIN.out _ _ _ _ _ (hst2 g3 cap3 w4 hg ho) (by have h:=HEN.out; simpa [putA,Hn.p] using h))
       have HST2:=Jh (show ∀ g3 cap3 w4,(wr.alloc (.cells NC 45)).grownBy w4 (Value.slice A' k cap).ownBlock → w4.ownsRow base 45 33 (.slice (some ⟨g3,0,none⟩) (k + 1) cap3) (k + 1) (xs ++ NC.toList) → w4.cell? ⟨b + 1,0,none⟩ = some (.int .i64 kk) from fun g3 cap3 w4 hg ho => (HFK.out w4 (hst2 g3 cap3 w4 hg ho).below).2.2)
       clear hst2
       have hnl : ¬ ((10000 : Int) ≤ (i : Int)):=by omega
       by_cases hk0 : kk = 0
       · subst hk0
         go_wp2_with (first | (at_builtin; refine wpList_append_lies _ rfl (.tmp 63) (.tmp 67) 22 rfl base 45 ti _ 33 288 undRcs HTI.out.1 HTI.out.2.1 HTI.out.2.2.1 HTI.out.2.2.2.1 HTI.out.2.2.2.2 (by decide) (.slice A' k cap) (k) xs rfl (HOW.out.alloc _) ⟨wr.heap.size,0,none⟩ 1 1 NC.toList rfl (by simp [HON.out.2]) (World.news_of_block (heap_alloc_new wr (.cells NC 45))) HON.out.1 (by decide) (by unfold maxLen; omega) (by omega) (by rw [World.size_alloc]; omega) (wr.heap.size + 1) (by rw [World.size_alloc]) ?_; intro g3 cap3 w4 hown4 hgrow hat hlt4; have HO1:=Jh hown4; have HG1:=Jh hgrow; have HSZ1:=Jh (show wr.heap.size ≤ w4.heap.size from by have:=hgrow.size; rw [World.size_alloc] at this; omega); have hsz1:=HSZ1.out; clear hown4 hgrow hat hlt4; have hcw4:=HST2.out g3 cap3 w4 HG1.out HO1.out) | (refine wpList_row rfl 30 _ rfl b rfl 30 AC (0,0) _ HF.out.1 undCell rfl HACS.out ?_) | (refine wpList_row rfl 43 _ rfl (b + 1) rfl 43 CA (0,0) _ HF.out.2.1 undC rfl HIC.out ?_) | (refine wpList_buildSome rfl 45 _ rfl NC ?_ ?_; focus (rw [HNC.out,HCA.out,HAC.out]; kernel_rfl)) | (refine wpList_oneRc rfl _ rfl NC rfl HON.out.2 ?_) | fail)
         first | go_ret | go_ret2
         exact HDONE.out _ _ _ HG1.out HO1.out
       · have hkb : (kk == 0) = false:=by simpa using hk0
         cases tt with
         | true =>
          go_wp2_with (first | (at_builtin; refine wpList_append_lies _ rfl (.tmp 63) (.tmp 67) 22 rfl base 45 ti _ 33 288 undRcs HTI.out.1 HTI.out.2.1 HTI.out.2.2.1 HTI.out.2.2.2.1 HTI.out.2.2.2.2 (by decide) (.slice A' k cap) (k) xs rfl (HOW.out.alloc _) ⟨wr.heap.size,0,none⟩ 1 1 NC.toList rfl (by simp [HON.out.2]) (World.news_of_block (heap_alloc_new wr (.cells NC 45))) HON.out.1 (by decide) (by unfold maxLen; omega) (by omega) (by rw [World.size_alloc]; omega) (wr.heap.size + 1) (by rw [World.size_alloc]) ?_; intro g3 cap3 w4 hown4 hgrow hat hlt4; have HO1:=Jh hown4; have HG1:=Jh hgrow; have HSZ1:=Jh (show wr.heap.size ≤ w4.heap.size from by have:=hgrow.size; rw [World.size_alloc] at this; omega); have hsz1:=HSZ1.out; clear hown4 hgrow hat hlt4; have hcw4:=HST2.out g3 cap3 w4 HG1.out HO1.out) | (refine wpList_row rfl 30 _ rfl b rfl 30 AC (0,0) _ HF.out.1 undCell rfl HACS.out ?_) | (refine wpList_row rfl 43 _ rfl (b + 1) rfl 43 CA (0,0) _ HF.out.2.1 undC rfl HIC.out ?_) | (refine wpList_buildSome rfl 45 _ rfl NC ?_ ?_; focus (rw [HNC.out,HCA.out,HAC.out]; kernel_rfl)) | (refine wpList_oneRc rfl _ rfl NC rfl HON.out.2 ?_) | fail)
          first | go_ret | go_ret2
          exact HDONE.out _ _ _ HG1.out HO1.out
         | false =>
          go_wp2_with (first | (at_builtin; refine wpList_append_lies _ rfl (.tmp 63) (.tmp 67) 22 rfl base 45 ti _ 33 288 undRcs HTI.out.1 HTI.out.2.1 HTI.out.2.2.1 HTI.out.2.2.2.1 HTI.out.2.2.2.2 (by decide) (.slice A' k cap) (k) xs rfl (HOW.out.alloc _) ⟨wr.heap.size,0,none⟩ 1 1 NC.toList rfl (by simp [HON.out.2]) (World.news_of_block (heap_alloc_new wr (.cells NC 45))) HON.out.1 (by decide) (by unfold maxLen; omega) (by omega) (by rw [World.size_alloc]; omega) (wr.heap.size + 1) (by rw [World.size_alloc]) ?_; intro g3 cap3 w4 hown4 hgrow hat hlt4; have HO1:=Jh hown4; have HG1:=Jh hgrow; have HSZ1:=Jh (show wr.heap.size ≤ w4.heap.size from by have:=hgrow.size; rw [World.size_alloc] at this; omega); have hsz1:=HSZ1.out; clear hown4 hgrow hat hlt4; have hcw4:=HST2.out g3 cap3 w4 HG1.out HO1.out) | (refine wpList_row rfl 30 _ rfl b rfl 30 AC (0,0) _ HF.out.1 undCell rfl HACS.out ?_) | (refine wpList_row rfl 43 _ rfl (b + 1) rfl 43 CA (0,0) _ HF.out.2.1 undC rfl HIC.out ?_) | (refine wpList_buildSome rfl 45 _ rfl NC ?_ ?_; focus (rw [HNC.out,HCA.out,HAC.out]; kernel_rfl)) | (refine wpList_oneRc rfl _ rfl NC rfl HON.out.2 ?_) | fail)
          first | go_ret | go_ret2
          exact HDONE.out _ _ _ HG1.out HO1.out
end Go.Proofs.YtelombedjkbckaaGreatDoor
