/- The reference's over: is a tree deeper,or wider,or has it longer texts? The reference's Nodes and Great. The reference's Great. A body cut at a region: what comes ahead of it,and what is left from it on. No program in sight. -/
import Derived.Test.YtelombedjkbckaaGreatDoorNd
import Derived.Deep.MidRow
import Derived.BigFrame
import Derived.Laws.OwnMore
import Derived.WalkKit
import Derived.Deep.Cut
import Derived.Outline
namespace Go.Proofs.YtelombedjkbckaaGreatDoor
set_option maxRecDepth 100000
set_option maxHeartbeats 2000000
open Go.RowKit Go.Shelf
mutual
def overB : Tr → Nat → Bool
 | .mk d l,k => decide (k = 0) || decide (400 < l.length) || decide (300 < d.name.size) || decide (300 < d.v.text.size) || oversB l (k - 1)
def oversB : List Tr → Nat → Bool
 | [],_ => false
 | t :: ts,k => overB t k || oversB ts k
end
theorem overs_append (k : Nat) : ∀ (l m : List Tr),oversB (l ++ m) k = (oversB l k || oversB m k)
 | [],m => by simp [oversB]
 | t :: l,m => by simp only [List.cons_append,oversB,overs_append k l m,Bool.or_assoc]
theorem overs_step {l : List Tr} {k i : Nat} (hi : i < l.length) (h : oversB (l.take i) k = false) : oversB (l.take (i + 1)) k = overB l[i] k:=by
 rw [List.take_succ_eq_append_getElem hi,overs_append,h]; simp [oversB]
theorem overs_yes {l : List Tr} {k i : Nat} (hi : i < l.length) (h : overB l[i] k = true) : oversB l k = true:=by
 rw [← List.take_append_drop i l,overs_append,List.drop_eq_getElem_cons hi]; simp [oversB,h]
theorem over_c (t : Tr) : ∀ (w : World) (B : Nat) (A : Option Addr) (c k : Nat) (_ : t.d.ok) (_ : SlAt w B A c t.l) (_ : B ≤ w.heap.size) (_ : k ≤ 1000),
 Calls Tryz.prog 53 #[nodeV t.d A t.l.length c,.int .i64 k] w fun e w' => e = .returned (.bool (overB t k)) ∧ Below w.heap.size w w':=by
 induction t using Tr.ind with | _ d l ih => ?_
 intro w B A c k hd hs hB hk
 have IH:=Jh ih
 have HD:=Jh hd
 have HS:=Jh hs
 clear ih hd hs
 dsimp only [Tr.d,Tr.l] at HD HS ⊢
 obtain ⟨r,hr⟩ : ∃ r,overB (.mk d l) k = r:=⟨_,rfl⟩
 rw [hr]
 simp only [overB] at hr
 obtain ⟨N,hN⟩ : ∃ N,N = nodeA d A l.length c:=⟨_,rfl⟩
 rw [nodeV,← hN]
 have hN21 : N[21]? = some (.slice A l.length c):=by rw [hN]; rfl
 have hN7 : N[7]? = some (.string d.name):=by rw [hN]; rfl
 have hN4 : N[4]? = some (.string d.v.text):=by rw [hN]; rfl
 have HR:=Jh hr
 have hsl:=HS.out.1
 have hsc:=HS.out.2.1
 obtain ⟨n,hn⟩ : ∃ n,l.length = n:=⟨_,rfl⟩
 rw [hn] at hN21 hsl
 have HN:=Jh hn
 have hnm:=HD.out.2.2.1
 have htx:=HD.out.2.1.2.2.2.1
 clear hr hN hn
 by_cases k0 : k = 0
 · subst k0
   go_enter Tryz.func53,Tryz.ntmps53
   go_wp2
   go_ret
   exact ⟨ret_bool (by rw [← HR.out]; simp),(Below.refl _ w).alloc (Nat.le_refl _) _⟩
 have k0' : ((k : Int) == 0) = false:=by rw [beq_eq_false_iff_ne]; omega
 have k1 : (1 : Int) ≤ k:=by omega
 by_cases k1 : 400 < n
 · go_enter Tryz.func53,Tryz.ntmps53
   go_wp2
   go_ret
   exact ⟨ret_bool (by rw [← HR.out,HN.out]; simp [k1]),(Below.refl _ w).alloc (Nat.le_refl _) _⟩
 by_cases k2 : 300 < d.name.size
 · go_enter Tryz.func53,Tryz.ntmps53
   go_wp2
   go_ret
   exact ⟨ret_bool (by rw [← HR.out]; simp [k2]),(Below.refl _ w).alloc (Nat.le_refl _) _⟩
 by_cases k3 : 300 < d.v.text.size
 · go_enter Tryz.func53,Tryz.ntmps53
   go_wp2
   go_ret
   exact ⟨ret_bool (by rw [← HR.out]; simp [k3]),(Below.refl _ w).alloc (Nat.le_refl _) _⟩
 have hr2 : r = oversB l (k - 1):=by rw [← HR.out]; simp [k0,HN.out,k1,k2,k3]
 have HR2:=Jh hr2
 have e1 : decide ((400 : Int) < n) = false:=by simp; omega
 have e2 : decide ((300 : Int) < d.name.size) = false:=by simp; omega
 have e3 : decide ((300 : Int) < d.v.text.size) = false:=by simp; omega
 clear HR hr2
 go_enter Tryz.func53,Tryz.ntmps53
 go_wp2
 obtain ⟨W,hW⟩ : ∃ W,w.alloc (.cells N 41) = W:=⟨_,rfl⟩
 have hc21 : W.cell? ⟨w.heap.size,21,none⟩ = some (.slice A n c):=by rw [← hW]; exact (cell_of_row _ _ 21 _ _ _ (World.alloc_heap_new w _)).trans hN21
 have hbW : Below w.heap.size w W:=by rw [← hW]; exact (Below.refl _ w).alloc (Nat.le_refl _) _
 have hzW : W.heap.size = w.heap.size + 1:=by rw [← hW]; simp
 rw [hW]
 have HZ:=Jh hzW
 have HBW:=Jh hbW
 have HC:=Jh hc21
 clear hW hc21 hbW hzW hN21 hN7 hN4
 go_loopw [5] (fun i wr => ∃ j : Nat,j ≤ n ∧ i = .int .i64 j ∧ Hid (oversB (l.take j) (k - 1) = false) ∧ Below W.heap.size W wr) (fun i _ => n - (intOf i).toNat)
 case atStart => exact ⟨0,Nat.zero_le _,rfl,by show _ = _; simp [oversB],Below.refl _ _⟩
 case round =>
  obtain ⟨j,hj,rfl,hacc,hbr⟩:=hrel
  have hc : wr.cell? ⟨w.heap.size,21,none⟩ = some (.slice A n c):=(hbr.cell (p:=⟨w.heap.size,21,none⟩) (by have:=HZ.out; simp; omega)).trans HC.out
  have hfin : Below w.heap.size w wr:=HBW.out.trans (hbr.mono (by have:=HZ.out; omega))
  by_cases hlt : j < n
  · have hjl : j < l.length:=by rw [HN.out]; exact hlt
    obtain ⟨b2,o2,hA,hkn⟩:=HS.out.at_ j hjl
    subst hA
    obtain ⟨hkb,hkd,A2,c2,hkc,hks⟩:=hkn.open_
    have hbk : b2 < w.heap.size:=by omega
    have hkid:=fun wx (hx : Below w.heap.size w wx) => IH.out l[j] (List.getElem_mem hjl) wx B A2 c2 (k - 1) hkd (hks.below (hx.mono hB)) (by have:=hx.size; omega) (by omega)
    rw [show ((k - 1 : Nat) : Int) = (k : Int) - 1 by omega] at hkid
    obtain ⟨cs,hcs,hcl,hrg⟩:=hkc.range (w':=wr) (fun p hp => hfin.cell (by omega))
    simp only [nodeV,← hcs] at hkid
    have hinf:=infN
    rw [← hcl] at hinf
    have HRG:=Jh hrg
    have HIN:=Jh hinf
    clear hinf hrg hcl hcs
    obtain ⟨rk,hrk⟩ : ∃ rk,overB l[j] (k - 1) = rk:=⟨_,rfl⟩
    rw [hrk] at hkid
    have HK:=Jh hkid
    have HRK:=Jh hrk
    have hj1 : (j : Int) < (n : Int):=by omega
    have hj0 : (0 : Int) ≤ (j : Int):=by omega
    have hwr : Below W.heap.size W wr:=hbr
    have HWR:=Jh hbr
    have HFI:=Jh hfin
    clear hkn hkb hkd hkc hks hkid hrk hbr hfin
    cases rk
    · go_wp2_with (first | (refine wpList_load_mid rfl 41 _ rfl b2 (o2 + j * 22) rfl cs _ HRG.out undN rfl HIN.out ?_) | go_at_call 53; refine (HK.out _ HFI.out).mono ?_; rintro e w2 ⟨rfl,hbe⟩)
      go_roundw
      case rel => exact ⟨j + 1,by omega,by go_num,(overs_step hjl hacc.out).trans HRK.out,HWR.out.trans (hbe.mono HWR.out.size)⟩
      case measure => simp [intOf]; omega
    · go_wp2_with (first | (refine wpList_load_mid rfl 41 _ rfl b2 (o2 + j * 22) rfl cs _ HRG.out undN rfl HIN.out ?_) | go_at_call 53; refine (HK.out _ HFI.out).mono ?_; rintro e w2 ⟨rfl,hbe⟩)
      go_ret
      exact ⟨ret_bool (by rw [HR2.out,overs_yes hjl HRK.out]),HFI.out.trans (hbe.mono HFI.out.size)⟩
  · obtain rfl : j = n:=by omega
    go_wp2
    go_ret
    exact ⟨ret_bool (by rw [HR2.out,← hacc.out,← HN.out,List.take_length]),hfin⟩
end Go.Proofs.YtelombedjkbckaaGreatDoor
namespace Go.Proofs.YtelombedjkbckaaGreatDoor
set_option maxRecDepth 100000
set_option maxHeartbeats 2000000
open Go.RowKit Go.Shelf
def NodesPost (w : World) (B : Nat) (ts : List Tr) (e : Ending) (w' : World) : Prop :=
 ∃ g cap xs,e = .returned (.slice (some ⟨g,0,none⟩) ts.length cap) ∧ w'.ownsRow w.heap.size 41 22 (.slice (some ⟨g,0,none⟩) ts.length cap) ts.length xs ∧ NRow w B ts xs ∧ Below w.heap.size w w'
def RNodes (w : World) (B n : Nat) (d : ND) (l : List Tr) (A : Option Addr) (c : Nat) (v i : Value) (wr : World) : Prop :=
 ∃ j g cap xs N,j ≤ n ∧ i = .int .i64 (j : Nat) ∧ N = (Tr.mk d l :: Tr.nodess (l.take j)).length ∧ v = .slice (some ⟨g,0,none⟩) N cap ∧ wr.ownsRow (w.heap.size + 1) 41 22 (.slice (some ⟨g,0,none⟩) N cap) N xs ∧ NRow w B (Tr.mk d l :: Tr.nodess (l.take j)) xs ∧
  wr.cell? ⟨w.heap.size,21,none⟩ = some (.slice A n c) ∧ w.heap.size + 1 ≤ wr.heap.size ∧ Below w.heap.size w wr
theorem nodes_c (t : Tr) : ∀ (w : World) (B : Nat) (A : Option Addr) (c : Nat) (_ : t.d.ok) (_ : SlAt w B A c t.l) (_ : B ≤ w.heap.size) (_ : t.size ≤ 1048576),
 Calls Tryz.prog 54 #[nodeV t.d A t.l.length c] w (NodesPost w B t.nodes):=by
 induction t using Tr.ind with | _ d l ih => ?_
 intro w B A c hd hs hB hsz
 have IH:=Jh ih
 have HD:=Jh hd
 have HS:=Jh hs
 clear ih hd hs
 dsimp only [Tr.d,Tr.l] at HD HS ⊢
 rw [nodeV_eq]
 have hsl:=HS.out.1
 have hsc:=HS.out.2.1
 obtain ⟨n,hn⟩ : ∃ n,l.length = n:=⟨_,rfl⟩
 rw [hn] at hsl ⊢
 have HN:=Jh hn
 have hszl : Tr.sizes l + 1 ≤ 1048576:=by simpa [Tr.size] using hsz
 obtain ⟨ti,hti,hz0,hz1,hz2⟩:=info_parts infoN
 clear hn hsz
 go_enter Tryz.func54,Tryz.ntmps54
 go_wp2_with (refine wpList_load_row rfl 41 _ rfl w.heap.size rfl 41 _ (0,0) _ (World.alloc_heap_new w _) undN rfl infN ?_)
 go_loopw [3,4] (fun v i wr => RNodes w B n d l A c v i wr) (fun _ i _ => n - (intOf i).toNat)
 case atStart =>
  have hblk : ∀ o o' : Obj,((w.alloc o).alloc o').heap[w.heap.size + 1]? = some o':=fun o o' => by
   have:=World.alloc_heap_new (w.alloc o) o'; rwa [World.size_alloc] at this
  refine ⟨0,w.heap.size + 1,1,(nodeA d A n c).toList,1,Nat.zero_le _,rfl,by simp [Tr.nodess],rfl,?_,?_,?_,by simp,?_⟩
  · exact ⟨rfl,.inr ⟨w.heap.size + 1,1,nodeA d A n c,rfl,Nat.le_refl _,hblk _ _,Nat.le_refl _,by unfold maxLen; omega,rfl,rfl⟩⟩
  · simp only [NRow,Tr.nodess,List.take_zero]
    exact ⟨(nodeA d A n c).toList,[],by simp,⟨A,c,by rw [show (Tr.mk d l).l.length = n from HN.out]; rfl,HD.out,HS.out⟩,rfl⟩
  · exact (cell_of_row _ _ 21 _ _ _ ((heapOld _ _ _ (by simp)).trans (World.alloc_heap_new w _)))
  · exact ((Below.refl _ w).alloc (Nat.le_refl _) _).alloc (by simp) _
 case round =>
  obtain ⟨j,g,cap,xs,M,hj,rfl,hM,rfl,hown,hrow,hcell,hszw,hbel⟩:=hrel
  by_cases hlt : j < n
  · have hjl : j < l.length:=by rw [HN.out]; exact hlt
    obtain ⟨b2,o2,hA,hkn⟩:=HS.out.at_ j hjl
    subst hA
    obtain ⟨hkb,hkd,A2,c2,hkc,hks⟩:=hkn.open_
    have hst:=sizes_take hjl
    have hkid:=IH.out l[j] (List.getElem_mem hjl) wr B A2 c2 hkd (hks.below (hbel.mono hB)) (by have:=hbel.size; omega) (by omega)
    obtain ⟨cs,hcs,hcl,hrg⟩:=hkc.range (w':=wr) (fun p hp => hbel.cell (by omega))
    rw [nodeV,← hcs] at hkid
    have hinf:=infN
    rw [← hcl] at hinf
    have HRG:=Jh hrg
    have HIN:=Jh hinf
    have HK:=Jh hkid
    have HM:=Jh hM
    have HOW:=Jh hown
    have HRW:=Jh hrow
    have HBE:=Jh hbel
    have hMl : M ≤ 1 + Tr.sizes (l.take j):=by rw [hM,List.length_cons,nodess_len]; omega
    have hj1 : (j : Int) < (n : Int):=by omega
    have hj0 : (0 : Int) ≤ (j : Int):=by omega
    clear hinf hrg hcl hcs hkid hM hown hrow hbel hkn hkb hkd hkc hks
    go_wp2_with (first | (refine wpList_load_mid rfl 41 _ rfl b2 (o2 + j * 22) rfl cs _ HRG.out undN rfl HIN.out ?_) | (go_at_call 54; refine HK.out.mono ?_; rintro e w2 ⟨g2,cap2,ys,rfl,hown2,hrow2,hbe⟩; have HO2:=Jh hown2; have HR2:=Jh hrow2; have HB2:=Jh hbe; clear hown2 hrow2 hbe) | (at_builtin; refine wpList_append_own _ rfl _ _ 39 rfl (w.heap.size + 1) 41 ti _ 22 192 undNs hti hz0 hz1 hz2 rfl (by decide) _ M xs rfl (owns_below HOW.out HB2.out) ⟨g2,0,none⟩ _ cap2 ys rfl HR2.out.len (HO2.out.cells (g:=g2) rfl) HR2.out.one (by rw [nodes_len]; unfold maxLen; omega) (by rw [nodes_len]; omega) (by have:=HB2.out.size; omega) ?_; intro v' w3 hown3 hgrow hnil))
    obtain ⟨g3,cap3,cur3,rfl,-⟩:=own_form hown3 (by have:=l[j].size_pos; rw [nodes_len]; omega)
    have HO3:=Jh hown3
    have HG3:=Jh hgrow
    clear hown3 hgrow hnil
    go_wp2
    go_roundw
    case measure => simp [intOf]; omega
    case rel =>
     have hgb : w.heap.size + 1 ≤ g ∧ g < wr.heap.size:=HOW.out.lt g rfl
     have hne : (some w.heap.size : Option Nat) ≠ some g:=fun e => by have:=Option.some.inj e; omega
     have hge : ∀ k,(some g : Option Nat) = some k → w.heap.size ≤ k:=fun k e => by have:=Option.some.inj e; omega
     have hbw2 : Below w.heap.size w w2:=HBE.out.trans (HB2.out.mono HBE.out.size)
     have hgr:=HG3.out
     refine ⟨j + 1,g3,cap3,xs ++ ys,M + l[j].nodes.length,by omega,by go_num,?_,rfl,HO3.out,?_,?_,?_,?_⟩
     · rw [nodess_step hjl,HM.out]; simp only [List.length_cons,List.length_append]; omega
     · rw [nodess_step hjl,← List.cons_append]
       exact HRW.out.append (NRow.keep_rev hB HBE.out HR2.out)
     · refine (hgr.cell_far ⟨w.heap.size,21,none⟩ (by have:=HB2.out.size; simp; omega) hne).trans ((HB2.out.cell (p:=⟨w.heap.size,21,none⟩) (by simp; omega)).trans hcell)
     · have:=hgr.size; have:=HB2.out.size; omega
     · exact hbw2.grown hgr (by have:=hbw2.size; omega) hge
  · obtain rfl : j = n:=by omega
    have HM:=Jh hM
    have HOW:=Jh hown
    clear hM hown
    go_wp2
    go_ret
    rw [← HN.out,List.take_length] at HM hrow
    have hMe : M = (Tr.mk d l).nodes.length:=by rw [HM.out]; simp [Tr.nodes]
    subst hMe
    exact ⟨g,cap,xs,rfl,owns_base HOW.out (by omega),by simpa [Tr.nodes] using hrow,hbel⟩
end Go.Proofs.YtelombedjkbckaaGreatDoor
namespace Go.Proofs.YtelombedjkbckaaGreatDoor
set_option maxRecDepth 100000
set_option maxHeartbeats 2000000
open Go.RowKit Go.Shelf
def greatB (t : Tr) : Bool:=overB t 40 || decide (400 < t.size)
theorem great_c (t : Tr) (w : World) (B : Nat) (A : Option Addr) (c : Nat) (hd : t.d.ok) (hs : SlAt w B A c t.l) (hB : B ≤ w.heap.size) (hsz : t.size ≤ 1048576) :
 Calls Tryz.prog 31 #[nodeV t.d A t.l.length c] w fun e w' => e = .returned (.bool (greatB t)) ∧ Below w.heap.size w w':=by
 have hO:=fun wx (hx : Below w.heap.size w wx) => over_c t wx B A c 40 hd (hs.below (hx.mono hB)) (by have:=hx.size; omega) (by omega)
 have hN:=fun wx (hx : Below w.heap.size w wx) => nodes_c t wx B A c hd (hs.below (hx.mono hB)) (by have:=hx.size; omega) hsz
 unfold greatB
 rw [← nodes_len t]
 have hnl : t.nodes.length ≤ 1048576:=by rw [nodes_len]; exact hsz
 obtain ⟨N,hN0⟩ : ∃ N,N = nodeA t.d A t.l.length c:=⟨_,rfl⟩
 have hNs : N.size = 22:=by rw [hN0]; rfl
 simp only [nodeV,← hN0] at hO hN ⊢
 obtain ⟨r,hr⟩ : ∃ r,overB t 40 = r:=⟨_,rfl⟩
 rw [hr] at hO ⊢
 have hinf:=infN
 rw [← hNs] at hinf
 have HIN:=Jh hinf
 have HO:=Jh hO
 have HN:=Jh hN
 have hb0 : Below w.heap.size w (w.alloc (.cells N 41)):=(Below.refl _ w).alloc (Nat.le_refl _) _
 have HB:=Jh hb0
 clear hO hN hr hinf hb0 hNs hN0 hd hs hsz
 generalize t.nodes = ts at *
 cases r
 · go_enter Tryz.func31,Tryz.ntmps31
   go_wp2_with (first | (refine wpList_row rfl 41 _ rfl w.heap.size rfl 41 N (0,0) _ (World.alloc_heap_new w _) undN rfl HIN.out ?_) | (go_at_call 53; refine (HO.out _ HB.out).mono ?_; rintro e w2 ⟨rfl,hbe⟩; have hb2 : Below w.heap.size w w2:=HB.out.trans (hbe.mono (by simp)); have hg2 : w2.heap[w.heap.size]? = some (.cells N 41):=(hbe.block _ (by simp)).trans (World.alloc_heap_new w _); have HG2:=Jh hg2; clear hg2) | (refine wpList_row rfl 41 _ rfl w.heap.size rfl 41 N (0,0) _ HG2.out undN rfl HIN.out ?_) | (go_at_call 54; refine (HN.out _ hb2).mono ?_; rintro e w3 ⟨g,cap,xs,rfl,-,-,hbe3⟩))
   go_ret
   exact ⟨ret_bool (by rw [Bool.eq_iff_iff]; simp; omega),hb2.trans (hbe3.mono hb2.size)⟩
 · go_enter Tryz.func31,Tryz.ntmps31
   go_wp2_with (first | (refine wpList_row rfl 41 _ rfl w.heap.size rfl 41 N (0,0) _ (World.alloc_heap_new w _) undN rfl HIN.out ?_) | (go_at_call 53; refine (HO.out _ HB.out).mono ?_; rintro e w2 ⟨rfl,hbe⟩))
   go_ret
   exact ⟨rfl,HB.out.trans (hbe.mono (by simp))⟩
end Go.Proofs.YtelombedjkbckaaGreatDoor
namespace Go.Proofs.YtelombedjkbckaaGreatDoor
open Go.RowKit
def beginsAt (k : Nat) : Code → Bool
 | .region i _ _ => Nat.beq i k
 | .seq a _ => beginsAt k a
 | _ => false
def fromRegion (k : Nat) : Code → Code
 | .seq a b => match beginsAt k a with | true => .seq a b | false => fromRegion k b
 | c => c
def cutReg (k : Nat) (C : Code) : Code → Code
 | .seq a b => match beginsAt k a with | true => C | false => .seq a (cutReg k C b)
 | _ => C
theorem cut_from (k : Nat) : ∀ c : Code,cutReg k (fromRegion k c) c = c
 | .seq a b => by
  simp only [cutReg,fromRegion]
  cases beginsAt k a with
  | true => rfl
  | false => simp only [cut_from k b]
 | .skip => rfl
 | .region .. => rfl
 | .cond .. => rfl
 | .block .. => rfl
 | .loop .. => rfl
 | .rangeFunc .. => rfl
 | .exit .. => rfl
 | .scope .. => rfl
 | .label .. => rfl
 | .goto .. => rfl
 | .ret => rfl
 | .refuse .. => rfl
def RetSlot (s : Nat) (v : Value) (w : World) (e : Exit) (a : Act) (w' : World) : Prop:=e = .ret ∧ a.defers = [] ∧ a.tmps.getD s undef = v ∧ Below w.heap.size w w'
end Go.Proofs.YtelombedjkbckaaGreatDoor
