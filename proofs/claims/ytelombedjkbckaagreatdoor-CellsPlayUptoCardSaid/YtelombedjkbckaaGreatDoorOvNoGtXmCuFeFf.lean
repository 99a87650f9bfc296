/- The reference's over: is a tree deeper,or wider,or has it longer texts? The reference's Nodes and Great. The reference's Great. Law 18's Small. A body cut at a region: what comes ahead of it,and what is left from it on. No program in sight. counterpaneref01.digits. counterpaneref01.Of,Right; counterpaneref06.num. -/
import Derived.Test.YtelombedjkbckaaGreatDoorNd
import Derived.Deep.MidRow
import Derived.BigFrame
import Derived.Laws.OwnMore
import Derived.Test.YtelombedjkbckaaGreatDoorBaStSqXa
import Derived.WalkKit
import Derived.Deep.Cut
import Derived.Outline
import Derived.Test.YtelombedjkbckaaGreatDoorXa1NmVrVs
import Derived.Deep.AppendLies
import Derived.Deep.AppendSrc
import Derived.Test.YtelombedjkbckaaGreatDoorTw
import Derived.Test.YtelombedjkbckaaGreatDoorRiCkXbNwPyPmPnPfMg
import Derived.Test.YtelombedjkbckaaGreatDoorMhXcXdHcClCyRh
namespace Go.Proofs.YtelombedjkbckaaGreatDoor
set_option maxRecDepth 100000
set_option maxHeartbeats 2000000
open Go.RowKit Go.Shelf
mutual
def overB : Tr → Nat → Bool
 | .mk d l,k => decide (k = 0) || decide (400 < l.length) || decide (300 < d.name.size) || decide (300 < d.v.text.size) || oversB l (k - 1)
def oversB : List Tr → Nat → Bool
 | [],_ => false
 | t :: ts,k => overB t k || oversB ts k
end
theorem overs_append (k : Nat) : ∀ (l m : List Tr),oversB (l ++ m) k = (oversB l k || oversB m k)
 | [],m => by simp [oversB]
 | t :: l,m => by simp only [List.cons_append,oversB,overs_append k l m,Bool.or_assoc]
theorem overs_step {l : List Tr} {k i : Nat} (hi : i < l.length) (h : oversB (l.take i) k = false) : oversB (l.take (i + 1)) k = overB l[i] k:=by
 rw [List.take_succ_eq_append_getElem hi,overs_append,h]; simp [oversB]
theorem overs_yes {l : List Tr} {k i : Nat} (hi : i < l.length) (h : overB l[i] k = true) : oversB l k = true:=by
 rw [← List.take_append_drop i l,overs_append,List.drop_eq_getElem_cons hi]; simp [oversB,h]
theorem over_c (t : Tr) : ∀ (w : World) (B : Nat) (A : Option Addr) (c k : Nat) (_ : t.d.ok) (_ : SlAt w B A c t.l) (_ : B ≤ w.heap.size) (_ : k ≤ 1000),
 Calls Tryz.prog 53 #[nodeV t.d A t.l.length c,.int .i64 k] w fun e w' => e = .returned (.bool (overB t k)) ∧ Below w.heap.size w w':=by
 induction t using Tr.ind with | _ d l ih => ?_
 intro w B A c k hd hs hB hk
 have IH:=Jh ih
 have HD:=Jh hd
 have HS:=Jh hs
 clear ih hd hs
 dsimp only [Tr.d,Tr.l] at HD HS ⊢
 obtain ⟨r,hr⟩ : ∃ r,overB (.mk d l) k = r:=⟨_,rfl⟩
 rw [hr]
 simp only [overB] at hr
 obtain ⟨N,hN⟩ : ∃ N,N = nodeA d A l.length c:=⟨_,rfl⟩
 rw [nodeV,← hN]
 have hN21 : N[21]? = some (.slice A l.length c):=by rw [hN]; rfl
 have hN7 : N[7]? = some (.string d.name):=by rw [hN]; rfl
 have hN4 : N[4]? = some (.string d.v.text):=by rw [hN]; rfl
 have HR:=Jh hr
 have hsl:=HS.out.1
 have hsc:=HS.out.2.1
 obtain ⟨n,hn⟩ : ∃ n,l.length = n:=⟨_,rfl⟩
 rw [hn] at hN21 hsl
 have HN:=Jh hn
 have hnm:=HD.out.2.2.1
 have htx:=HD.out.2.1.2.2.2.1
 clear hr hN hn
 by_cases k0 : k = 0
 · subst k0
   go_enter Tryz.func53,Tryz.ntmps53
   go_wp2
   go_ret
   exact ⟨ret_bool (by rw [← HR.out]; simp),(Below.refl _ w).alloc (Nat.le_refl _) _⟩
 have k0' : ((k : Int) == 0) = false:=by rw [beq_eq_false_iff_ne]; omega
 have k1 : (1 : Int) ≤ k:=by omega
 by_cases k1 : 400 < n
 · go_enter Tryz.func53,Tryz.ntmps53
   go_wp2
   go_ret
   exact ⟨ret_bool (by rw [← HR.out,HN.out]; simp [k1]),(Below.refl _ w).alloc (Nat.le_refl _) _⟩
 by_cases k2 : 300 < d.name.size
 · go_enter Tryz.func53,Tryz.ntmps53
   go_wp2
   go_ret
   exact ⟨ret_bool (by rw [← HR.out]; simp [k2]),(Below.refl _ w).alloc (Nat.le_refl _) _⟩
 by_cases k3 : 300 < d.v.text.size
 · go_enter Tryz.func53,Tryz.ntmps53
   go_wp2
   go_ret
   exact ⟨ret_bool (by rw [← HR.out]; simp [k3]),(Below.refl _ w).alloc (Nat.le_refl _) _⟩
 have hr2 : r = oversB l (k - 1):=by rw [← HR.out]; simp [k0,HN.out,k1,k2,k3]
 have HR2:=Jh hr2
 have e1 : decide ((400 : Int) < n) = false:=by simp; omega
 have e2 : decide ((300 : Int) < d.name.size) = false:=by simp; omega
 have e3 : decide ((300 : Int) < d.v.text.size) = false:=by simp; omega
 clear HR hr2
 go_enter Tryz.func53,Tryz.ntmps53
 go_wp2
 obtain ⟨W,hW⟩ : ∃ W,w.alloc (.cells N 41) = W:=⟨_,rfl⟩
 have hc21 : W.cell? ⟨w.heap.size,21,none⟩ = some (.slice A n c):=by rw [← hW]; exact (cell_of_row _ _ 21 _ _ _ (World.alloc_heap_new w _)).trans hN21
 have hbW : Below w.heap.size w W:=by rw [← hW]; exact (Below.refl _ w).alloc (Nat.le_refl _) _
 have hzW : W.heap.size = w.heap.size + 1:=by rw [← hW]; simp
 rw [hW]
 have HZ:=Jh hzW
 have HBW:=Jh hbW
 have HC:=Jh hc21
 clear hW hc21 hbW hzW hN21 hN7 hN4
 go_loopw [5] (fun i wr => ∃ j : Nat,j ≤ n ∧ i = .int .i64 j ∧ Hid (oversB (l.take j) (k - 1) = false) ∧ Below W.heap.size W wr) (fun i _ => n - (intOf i).toNat)
 case atStart => exact ⟨0,Nat.zero_le _,rfl,by show _ = _; simp [oversB],Below.refl _ _⟩
 case round =>
  obtain ⟨j,hj,rfl,hacc,hbr⟩:=hrel
  have hc : wr.cell? ⟨w.heap.size,21,none⟩ = some (.slice A n c):=(hbr.cell (p:=⟨w.heap.size,21,none⟩) (by have:=HZ.out; simp; omega)).trans HC.out
  have hfin : Below w.heap.size w wr:=HBW.out.trans (hbr.mono (by have:=HZ.out; omega))
  by_cases hlt : j < n
  · have hjl : j < l.length:=by rw [HN.out]; exact hlt
    obtain ⟨b2,o2,hA,hkn⟩:=HS.out.at_ j hjl
    subst hA
    obtain ⟨hkb,hkd,A2,c2,hkc,hks⟩:=hkn.open_
    have hbk : b2 < w.heap.size:=by omega
    have hkid:=fun wx (hx : Below w.heap.size w wx) => IH.out l[j] (List.getElem_mem hjl) wx B A2 c2 (k - 1) hkd (hks.below (hx.mono hB)) (by have:=hx.size; omega) (by omega)
    rw [show ((k - 1 : Nat) : Int) = (k : Int) - 1 by omega] at hkid
    obtain ⟨cs,hcs,hcl,hrg⟩:=hkc.range (w':=wr) (fun p hp => hfin.cell (by omega))
    simp only [nodeV,← hcs] at hkid
    have hinf:=infN
    rw [← hcl] at hinf
    have HRG:=Jh hrg
    have HIN:=Jh hinf
    clear hinf hrg hcl hcs
    obtain ⟨rk,hrk⟩ : ∃ rk,overB l[j] (k - 1) = rk:=⟨_,rfl⟩
    rw [hrk] at hkid
    have HK:=Jh hkid
    have HRK:=Jh hrk
    have hj1 : (j : Int) < (n : Int):=by omega
    have hj0 : (0 : Int) ≤ (j : Int):=by omega
    have hwr : Below W.heap.size W wr:=hbr
    have HWR:=Jh hbr
    have HFI:=Jh hfin
    clear hkn hkb hkd hkc hks hkid hrk hbr hfin
    cases rk
    · go_wp2_with (first | (refine wpList_load_mid rfl 41 _ rfl b2 (o2 + j * 22) rfl cs _ HRG.out undN rfl HIN.out ?_) | go_at_call 53; refine (HK.out _ HFI.out).mono ?_; rintro e w2 ⟨rfl,hbe⟩)
      go_roundw
      case rel => exact ⟨j + 1,by omega,by go_num,(overs_step hjl hacc.out).trans HRK.out,HWR.out.trans (hbe.mono HWR.out.size)⟩
      case measure => simp [intOf]; omega
    · go_wp2_with (first | (refine wpList_load_mid rfl 41 _ rfl b2 (o2 + j * 22) rfl cs _ HRG.out undN rfl HIN.out ?_) | go_at_call 53; refine (HK.out _ HFI.out).mono ?_; rintro e w2 ⟨rfl,hbe⟩)
      go_ret
      exact ⟨ret_bool (by rw [HR2.out,overs_yes hjl HRK.out]),HFI.out.trans (hbe.mono HFI.out.size)⟩
  · obtain rfl : j = n:=by omega
    go_wp2
    go_ret
    exact ⟨ret_bool (by rw [HR2.out,← hacc.out,← HN.out,List.take_length]),hfin⟩
end Go.Proofs.YtelombedjkbckaaGreatDoor
namespace Go.Proofs.YtelombedjkbckaaGreatDoor
set_option maxRecDepth 100000
set_option maxHeartbeats 2000000
open Go.RowKit Go.Shelf
def NodesPost (w : World) (B : Nat) (ts : List Tr) (e : Ending) (w' : World) : Prop :=
 ∃ g cap xs,e = .returned (.slice (some ⟨g,0,none⟩) ts.length cap) ∧ w'.ownsRow w.heap.size 41 22 (.slice (some ⟨g,0,none⟩) ts.length cap) ts.length xs ∧ NRow w B ts xs ∧ Below w.heap.size w w'
def RNodes (w : World) (B n : Nat) (d : ND) (l : List Tr) (A : Option Addr) (c : Nat) (v i : Value) (wr : World) : Prop :=
 ∃ j g cap xs N,j ≤ n ∧ i = .int .i64 (j : Nat) ∧ N = (Tr.mk d l :: Tr.nodess (l.take j)).length ∧ v = .slice (some ⟨g,0,none⟩) N cap ∧ wr.ownsRow (w.heap.size + 1) 41 22 (.slice (some ⟨g,0,none⟩) N cap) N xs ∧ NRow w B (Tr.mk d l :: Tr.nodess (l.take j)) xs ∧
  wr.cell? ⟨w.heap.size,21,none⟩ = some (.slice A n c) ∧ w.heap.size + 1 ≤ wr.heap.size ∧ Below w.heap.size w wr
theorem nodes_c (t : Tr) : ∀ (w : World) (B : Nat) (A : Option Addr) (c : Nat) (_ : t.d.ok) (_ : SlAt w B A c t.l) (_ : B ≤ w.heap.size) (_ : t.size ≤ 1048576),
 Calls Tryz.prog 54 #[nodeV t.d A t.l.length c] w (NodesPost w B t.nodes):=by
 induction t using Tr.ind with | _ d l ih => ?_
 intro w B A c hd hs hB hsz
 have IH:=Jh ih
 have HD:=Jh hd
 have HS:=Jh hs
 clear ih hd hs
 dsimp only [Tr.d,Tr.l] at HD HS ⊢
 rw [nodeV_eq]
 have hsl:=HS.out.1
 have hsc:=HS.out.2.1
 obtain ⟨n,hn⟩ : ∃ n,l.length = n:=⟨_,rfl⟩
 rw [hn] at hsl ⊢
 have HN:=Jh hn
 have hszl : Tr.sizes l + 1 ≤ 1048576:=by simpa [Tr.size] using hsz
 obtain ⟨ti,hti,hz0,hz1,hz2⟩:=info_parts infoN
 clear hn hsz
 go_enter Tryz.func54,Tryz.ntmps54
 go_wp2_with (refine wpList_load_row rfl 41 _ rfl w.heap.size rfl 41 _ (0,0) _ (World.alloc_heap_new w _) undN rfl infN ?_)
 go_loopw [3,4] (fun v i wr => RNodes w B n d l A c v i wr) (fun _ i _ => n - (intOf i).toNat)
 case atStart =>
  have hblk : ∀ o o' : Obj,((w.alloc o).alloc o').heap[w.heap.size + 1]? = some o':=fun o o' => by
   have:=World.alloc_heap_new (w.alloc o) o'; rwa [World.size_alloc] at this
  refine ⟨0,w.heap.size + 1,1,(nodeA d A n c).toList,1,Nat.zero_le _,rfl,by simp [Tr.nodess],rfl,?_,?_,?_,by simp,?_⟩
  · exact ⟨rfl,.inr ⟨w.heap.size + 1,1,nodeA d A n c,rfl,Nat.le_refl _,hblk _ _,Nat.le_refl _,by unfold maxLen; omega,rfl,rfl⟩⟩
  · simp only [NRow,Tr.nodess,List.take_zero]
    exact ⟨(nodeA d A n c).toList,[],by simp,⟨A,c,by rw [show (Tr.mk d l).l.length = n from HN.out]; rfl,HD.out,HS.out⟩,rfl⟩
  · exact (cell_of_row _ _ 21 _ _ _ ((heapOld _ _ _ (by simp)).trans (World.alloc_heap_new w _)))
  · exact ((Below.refl _ w).alloc (Nat.le_refl _) _).alloc (by simp) _
 case round =>
  obtain ⟨j,g,cap,xs,M,hj,rfl,hM,rfl,hown,hrow,hcell,hszw,hbel⟩:=hrel
  by_cases hlt : j < n
  · have hjl : j < l.length:=by rw [HN.out]; exact hlt
    obtain ⟨b2,o2,hA,hkn⟩:=HS.out.at_ j hjl
    subst hA
    obtain ⟨hkb,hkd,A2,c2,hkc,hks⟩:=hkn.open_
    have hst:=sizes_take hjl
    have hkid:=IH.out l[j] (List.getElem_mem hjl) wr B A2 c2 hkd (hks.below (hbel.mono hB)) (by have:=hbel.size; omega) (by omega)
    obtain ⟨cs,hcs,hcl,hrg⟩:=hkc.range (w':=wr) (fun p hp => hbel.cell (by omega))
    rw [nodeV,← hcs] at hkid
    have hinf:=infN
    rw [← hcl] at hinf
    have HRG:=Jh hrg
    have HIN:=Jh hinf
    have HK:=Jh hkid
    have HM:=Jh hM
    have HOW:=Jh hown
    have HRW:=Jh hrow
    have HBE:=Jh hbel
    have hMl : M ≤ 1 + Tr.sizes (l.take j):=by rw [hM,List.length_cons,nodess_len]; omega
    have hj1 : (j : Int) < (n : Int):=by omega
    have hj0 : (0 : Int) ≤ (j : Int):=by omega
    clear hinf hrg hcl hcs hkid hM hown hrow hbel hkn hkb hkd hkc hks
    go_wp2_with (first | (refine wpList_load_mid rfl 41 _ rfl b2 (o2 + j * 22) rfl cs _ HRG.out undN rfl HIN.out ?_) | (go_at_call 54; refine HK.out.mono ?_; rintro e w2 ⟨g2,cap2,ys,rfl,hown2,hrow2,hbe⟩; have HO2:=Jh hown2; have HR2:=Jh hrow2; have HB2:=Jh hbe; clear hown2 hrow2 hbe) | (at_builtin; refine wpList_append_own _ rfl _ _ 39 rfl (w.heap.size + 1) 41 ti _ 22 192 undNs hti hz0 hz1 hz2 rfl (by decide) _ M xs rfl (owns_below HOW.out HB2.out) ⟨g2,0,none⟩ _ cap2 ys rfl HR2.out.len (HO2.out.cells (g:=g2) rfl) HR2.out.one (by rw [nodes_len]; unfold maxLen; omega) (by rw [nodes_len]; omega) (by have:=HB2.out.size; omega) ?_; intro v' w3 hown3 hgrow hnil))
    obtain ⟨g3,cap3,cur3,rfl,-⟩:=own_form hown3 (by have:=l[j].size_pos; rw [nodes_len]; omega)
    have HO3:=Jh hown3
    have HG3:=Jh hgrow
    clear hown3 hgrow hnil
    go_wp2
    go_roundw
    case measure => simp [intOf]; omega
    case rel =>
     have hgb : w.heap.size + 1 ≤ g ∧ g < wr.heap.size:=HOW.out.lt g rfl
     have hne : (some w.heap.size : Option Nat) ≠ some g:=fun e => by have:=Option.some.inj e; omega
     have hge : ∀ k,(some g : Option Nat) = some k → w.heap.size ≤ k:=fun k e => by have:=Option.some.inj e; omega
     have hbw2 : Below w.heap.size w w2:=HBE.out.trans (HB2.out.mono HBE.out.size)
     have hgr:=HG3.out
     refine ⟨j + 1,g3,cap3,xs ++ ys,M + l[j].nodes.length,by omega,by go_num,?_,rfl,HO3.out,?_,?_,?_,?_⟩
     · rw [nodess_step hjl,HM.out]; simp only [List.length_cons,List.length_append]; omega
     · rw [nodess_step hjl,← List.cons_append]
       exact HRW.out.append (NRow.keep_rev hB HBE.out HR2.out)
     · refine (hgr.cell_far ⟨w.heap.size,21,none⟩ (by have:=HB2.out.size; simp; omega) hne).trans ((HB2.out.cell (p:=⟨w.heap.size,21,none⟩) (by simp; omega)).trans hcell)
     · have:=hgr.size; have:=HB2.out.size; omega
     · exact hbw2.grown hgr (by have:=hbw2.size; omega) hge
  · obtain rfl : j = n:=by omega
    have HM:=Jh hM
    have HOW:=Jh hown
    clear hM hown
    go_wp2
    go_ret
    rw [← HN.out,List.take_length] at HM hrow
    have hMe : M = (Tr.mk d l).nodes.length:=by rw [HM.out]; simp [Tr.nodes]
    subst hMe
    exact ⟨g,cap,xs,rfl,owns_base HOW.out (by omega),by simpa [Tr.nodes] using hrow,hbel⟩
end Go.Proofs.YtelombedjkbckaaGreatDoor
namespace Go.Proofs.YtelombedjkbckaaGreatDoor
set_option maxRecDepth 100000
set_option maxHeartbeats 2000000
open Go.RowKit Go.Shelf
def greatB (t : Tr) : Bool:=overB t 40 || decide (400 < t.size)
theorem great_c (t : Tr) (w : World) (B : Nat) (A : Option Addr) (c : Nat) (hd : t.d.ok) (hs : SlAt w B A c t.l) (hB : B ≤ w.heap.size) (hsz : t.size ≤ 1048576) :
 Calls Tryz.prog 31 #[nodeV t.d A t.l.length c] w fun e w' => e = .returned (.bool (greatB t)) ∧ Below w.heap.size w w':=by
 have hO:=fun wx (hx : Below w.heap.size w wx) => over_c t wx B A c 40 hd (hs.below (hx.mono hB)) (by have:=hx.size; omega) (by omega)
 have hN:=fun wx (hx : Below w.heap.size w wx) => nodes_c t wx B A c hd (hs.below (hx.mono hB)) (by have:=hx.size; omega) hsz
 unfold greatB
 rw [← nodes_len t]
 have hnl : t.nodes.length ≤ 1048576:=by rw [nodes_len]; exact hsz
 obtain ⟨N,hN0⟩ : ∃ N,N = nodeA t.d A t.l.length c:=⟨_,rfl⟩
 have hNs : N.size = 22:=by rw [hN0]; rfl
 simp only [nodeV,← hN0] at hO hN ⊢
 obtain ⟨r,hr⟩ : ∃ r,overB t 40 = r:=⟨_,rfl⟩
 rw [hr] at hO ⊢
 have hinf:=infN
 rw [← hNs] at hinf
 have HIN:=Jh hinf
 have HO:=Jh hO
 have HN:=Jh hN
 have hb0 : Below w.heap.size w (w.alloc (.cells N 41)):=(Below.refl _ w).alloc (Nat.le_refl _) _
 have HB:=Jh hb0
 clear hO hN hr hinf hb0 hNs hN0 hd hs hsz
 generalize t.nodes = ts at *
 cases r
 · go_enter Tryz.func31,Tryz.ntmps31
   go_wp2_with (first | (refine wpList_row rfl 41 _ rfl w.heap.size rfl 41 N (0,0) _ (World.alloc_heap_new w _) undN rfl HIN.out ?_) | (go_at_call 53; refine (HO.out _ HB.out).mono ?_; rintro e w2 ⟨rfl,hbe⟩; have hb2 : Below w.heap.size w w2:=HB.out.trans (hbe.mono (by simp)); have hg2 : w2.heap[w.heap.size]? = some (.cells N 41):=(hbe.block _ (by simp)).trans (World.alloc_heap_new w _); have HG2:=Jh hg2; clear hg2) | (refine wpList_row rfl 41 _ rfl w.heap.size rfl 41 N (0,0) _ HG2.out undN rfl HIN.out ?_) | (go_at_call 54; refine (HN.out _ hb2).mono ?_; rintro e w3 ⟨g,cap,xs,rfl,-,-,hbe3⟩))
   go_ret
   exact ⟨ret_bool (by rw [Bool.eq_iff_iff]; simp; omega),hb2.trans (hbe3.mono hb2.size)⟩
 · go_enter Tryz.func31,Tryz.ntmps31
   go_wp2_with (first | (refine wpList_row rfl 41 _ rfl w.heap.size rfl 41 N (0,0) _ (World.alloc_heap_new w _) undN rfl HIN.out ?_) | (go_at_call 53; refine (HO.out _ HB.out).mono ?_; rintro e w2 ⟨rfl,hbe⟩))
   go_ret
   exact ⟨rfl,HB.out.trans (hbe.mono (by simp))⟩
end Go.Proofs.YtelombedjkbckaaGreatDoor
namespace Go.Proofs.YtelombedjkbckaaGreatDoor
set_option maxRecDepth 100000
set_option maxHeartbeats 2000000
open Go Go.RowKit Go.Shelf
def bigC (x : Ct) : Bool:=decide (300 < x.v.text.size) || greatB x.t
def smallI (x : Ct) : Int:=if bigC x = true then 0 else 1
theorem small_c (x : Ct) (w : World) (B : Nat) (A : Option Addr) (c : Nat) (hv : x.v.ok) (hd : x.t.d.ok) (hs : SlAt w B A c x.t.l) (hB : B ≤ w.heap.size) (hsz : x.t.size ≤ 1048576) :
 Calls Tryz.prog 12 #[contV x A c] w fun e w' => e = .returned (.int .i64 (smallI x)) ∧ Below w.heap.size w w':=by
 obtain ⟨W0,hW0⟩ : ∃ W0,W0 = w.alloc (.cells (contA x A c) 43):=⟨_,rfl⟩
 have hbel : Below w.heap.size w W0:=by rw [hW0]; exact (Below.refl _ w).alloc (Nat.le_refl _) _
 have hz0 : W0.heap.size = w.heap.size + 1:=by rw [hW0]; simp
 have hk0 : W0.heap[w.heap.size]? = some (.cells (contA x A c) 43):=by rw [hW0]; exact heap_alloc_new _ _
 have hG:=great_c x.t W0 B A c hd ((hs.below (hbel.mono hB))) (by have:=hbel.size; omega) hsz
 have hrow:=cont_row hk0
 have ht:=hrow.2.1 3 _ rfl
 have hts : x.v.text.size ≤ 9223372036854775807:=hv.2.2.2.1
 have hr7:=hrow.2.2
 have hinf:=infNl x.t.d A x.t.l.length c
 obtain ⟨N,hN⟩ : ∃ N,N = nodeA x.t.d A x.t.l.length c:=⟨_,rfl⟩
 rw [nodeV,← hN] at hG
 rw [← hN] at hr7 hinf
 obtain ⟨CA,hCA⟩ : ∃ C,C = contA x A c:=⟨_,rfl⟩
 obtain ⟨b,hb⟩ : ∃ b,b = w.heap.size:=⟨_,rfl⟩
 rw [contV,← hCA]
 rw [← hCA] at hW0
 rw [← hb] at ht hr7
 obtain ⟨r,hr⟩ : ∃ r,smallI x = r:=⟨_,rfl⟩
 rw [hr]
 unfold smallI bigC at hr
 obtain ⟨gr,hgr⟩ : ∃ g,greatB x.t = g:=⟨_,rfl⟩
 rw [hgr] at hG hr
 obtain ⟨tx,htx⟩ : ∃ t,x.v.text = t:=⟨_,rfl⟩
 rw [htx] at ht hr hts
 have HG:=Jh hG
 have HT:=Jh ht
 have HR7:=Jh hr7
 have HI:=Jh hinf
 have HW:=Jh hW0
 have HB:=Jh hb
 have HBL:=Jh hbel
 have HR:=Jh hr
 clear hG ht hr7 hinf hW0 hb hbel hr hk0 hrow hz0 hgr htx hN hCA hd hv hs hB hsz
 have ht:=HT.out
 by_cases hl : 300 < tx.size
 · have q1 : decide ((300 : Int) < (tx.size : Int)) = true:=decide_eq_true (by omega)
   go_enter Tryz.func12,Tryz.ntmps12
   go_upto_region 1 with (fail)
   rw [← HW.out,← HB.out]
   go_wp2
   go_ret
   exact ⟨by rw [← HR.out]; simp [hl],HBL.out⟩
 · have q1 : decide ((300 : Int) < (tx.size : Int)) = false:=decide_eq_false (by omega)
   cases gr
   all_goals
    go_enter Tryz.func12,Tryz.ntmps12
    go_upto_region 1 with (fail)
    rw [← HW.out,← HB.out]
    go_wp2_with (first | (refine wpList_mid rfl 41 _ rfl b 7 rfl N.toList _ HR7.out undN rfl HI.out ?_; simp only [Array.toArray_toList]) | (go_at_call 31; refine HG.out.mono ?_; rintro e w2 ⟨rfl,hbe⟩))
    go_ret
    exact ⟨by rw [← HR.out]; simp [hl],HBL.out.trans (hbe.mono HBL.out.size)⟩
end Go.Proofs.YtelombedjkbckaaGreatDoor
namespace Go.Proofs.YtelombedjkbckaaGreatDoor
open Go.RowKit
def beginsAt (k : Nat) : Code → Bool
 | .region i _ _ => Nat.beq i k
 | .seq a _ => beginsAt k a
 | _ => false
def fromRegion (k : Nat) : Code → Code
 | .seq a b => match beginsAt k a with | true => .seq a b | false => fromRegion k b
 | c => c
def cutReg (k : Nat) (C : Code) : Code → Code
 | .seq a b => match beginsAt k a with | true => C | false => .seq a (cutReg k C b)
 | _ => C
theorem cut_from (k : Nat) : ∀ c : Code,cutReg k (fromRegion k c) c = c
 | .seq a b => by
  simp only [cutReg,fromRegion]
  cases beginsAt k a with
  | true => rfl
  | false => simp only [cut_from k b]
 | .skip => rfl
 | .region .. => rfl
 | .cond .. => rfl
 | .block .. => rfl
 | .loop .. => rfl
 | .rangeFunc .. => rfl
 | .exit .. => rfl
 | .scope .. => rfl
 | .label .. => rfl
 | .goto .. => rfl
 | .ret => rfl
 | .refuse .. => rfl
def RetSlot (s : Nat) (v : Value) (w : World) (e : Exit) (a : Act) (w' : World) : Prop:=e = .ret ∧ a.defers = [] ∧ a.tmps.getD s undef = v ∧ Below w.heap.size w w'
end Go.Proofs.YtelombedjkbckaaGreatDoor
namespace Go.Proofs.YtelombedjkbckaaGreatDoor
set_option maxRecDepth 100000
set_option maxHeartbeats 2000000
open Go.RowKit Go.Shelf
def digs0 (m : Nat) : Nat:=if m = 0 then 0 else digs m
theorem digs0_step {m : Nat} (h : m ≠ 0) : digs0 m = 1 + digs0 (m / 10):=by
 unfold digs0
 rw [if_neg h]
 by_cases h1 : m < 10
 · rw [digs_small h1,if_pos (by omega)]
 · rw [digs_step (by omega),if_neg (by omega)]; omega
theorem digs0_le (u : Nat) (h : u ≤ 9223372036854775808) : digs0 u ≤ 19:=by
 unfold digs0
 split
 · omega
 · exact digs_le 19 u (by omega) (by omega)
def Out (B : Nat) (wr : World) (v : Value) (L : Nat) : Prop:=(L = 0 ∧ v = .slice none 0 0) ∨ (0 < L ∧ ∃ g cap xs,v = .slice (some ⟨g,0,none⟩) L cap ∧ wr.ownsRow B 3 1 v L xs ∧ ∀ u ∈ xs,u.oneCell' = true)
theorem infoI : (Tryz.prog.info? 3).map (fun i => (i.zero,i.size,i.bytes)) = some (some (.int .i64 0),1,8):=by kernel_rfl
theorem undIs : Tryz.prog.underlying 143 = some (.slice 3):=by kernel_rfl
theorem ownsRow_len {w : World} {base : Nat} {e : TypeId} {v : Value} {n : Nat} {xs : List Value} (h : w.ownsRow base e 1 v n xs) : xs.length = n:=by have:=h.1; omega
theorem fresh_row {B : Nat} {wr : World} (hB : B ≤ wr.heap.size) (d : Int) (T : TypeId) : (wr.alloc (.cells #[.int .i64 d] T)).ownsRow B T 1 (.slice (some ⟨wr.heap.size,0,none⟩) 1 1) 1 [.int .i64 d] :=
 ⟨rfl,.inr ⟨wr.heap.size,1,#[.int .i64 d],rfl,hB,World.alloc_heap_new _ _,Nat.le_refl _,by unfold maxLen; omega,rfl,rfl⟩⟩
theorem old_cell {B : Nat} {wr : World} {T : TypeId} {g L cap : Nat} {xs : List Value} (h : wr.ownsRow B T 1 (.slice (some ⟨g,0,none⟩) L cap) L xs) (o : Obj) (j : Nat) (u : Value) (hu : xs[j]? = some u) : (wr.alloc o).cell? ((⟨g,0,none⟩ : Addr).add j) = some u:=by
 have e : (⟨g,0,none⟩ : Addr).add j = ⟨g,j,none⟩:=by unfold Addr.add; split <;> simp_all
 rw [e]
 exact own_cell (h.alloc o) rfl j u hu
theorem wpList_append_room0 {P : Program} {ops : Array Oper} {rest : List Oper} {o : Oper} {a : Act} {w : World} {Q : Exit → Act → World → Prop} (hgd : o.guard = none) (s x : Operand) (t : TypeId) (ho : o.op = .call { callee := .builtin .append, args := #[s, x], argTypes := #[t, t] })
 (e : TypeId) (i : TypeInfo) (ht : P.underlying t = some (.slice e)) (hi : P.info? e = some i) (b sLen sCap : Nat) (hs : a.eval s = .slice (some ⟨b,0,none⟩) sLen sCap) (hx : a.eval x = .slice none 0 0) (hroom : sLen ≤ sCap)
 (h : wpList P ops Q rest (a.put o.dst (.slice (some ⟨b,0,none⟩) sLen sCap)) w) : wpList P ops Q (o :: rest) a w :=
 wpList_plain hgd fun _ hK => by
  have hr:=run_append_room_src (P:=P) w t t o.type e i ht hi b 0 sLen sCap (.slice none 0 0) 0 [] (Src.ofNil w ht 0) hroom (fun j hj => by cases hj) (fun j hj => by cases hj)
  unfold Oper.wp execOp
  simp only [ho,resolve,invoke,builtin,Sem.run_bind,Sem.run_pure,Result.andThen_ok,List.map_toArray,List.map_cons,List.map_nil,hs,hx,hr]
  exact hK _ _ h
theorem one_cons {k : IntKind} {d : Int} {xs : List Value} (h : ∀ u ∈ xs,u.oneCell' = true) : ∀ u ∈ [Value.int k d] ++ xs,u.oneCell' = true:=by
 intro u hu
 rcases List.mem_append.1 hu with hu | hu
 · rw [List.mem_singleton] at hu; subst hu; rfl
 · exact h u hu
theorem rdigits_pos (u : Nat) (hu : u ≤ 9223372036854775807) (w : World) :
 Calls Tryz.prog 125 #[.int .i64 ((u : Nat))] w fun e w' => ∃ A cap,e = .returned (.slice A (digs0 u) cap) ∧ Below w.heap.size w w':=by
 obtain ⟨ti,hti,hz0,hz1,hz2⟩:=info_parts infoI
 have hdu:=digs0_le u (by omega)
 go_enter Tryz.func125,Tryz.ntmps125
 go_wp2
 go_loopw [0,3] (fun nv v wr => ∃ (m L : Nat),nv = .int .i64 ((m : Nat)) ∧ m ≤ 9223372036854775807 ∧ Hid (L + digs0 m = digs0 u) ∧ Out w.heap.size wr v L ∧ Hid (Below w.heap.size w wr)) (fun nv _ _ => (intOf nv).natAbs)
 case atStart => exact ⟨u,0,rfl,hu,Jh (by omega),.inl ⟨rfl,rfl⟩,Jh (Below.refl _ _)⟩
 case round =>
  obtain ⟨m,L,rfl,hm,HL,hout,HB⟩:=hrel
  by_cases h0 : m = 0
  · subst h0
    rw [show ((0 : Nat) : Int) = 0 from rfl]
    have hLu : L = digs0 u:=by have:=HL.out; simpa [digs0] using this
    rcases hout with ⟨hL0,hv⟩ | ⟨hLp,g,cap,xs,hv,hown,hone⟩
    · subst hv
      have HE:=Jh (hL0.symm.trans hLu)
      clear hL0 hLu
      go_wp2
      go_ret
      exact ⟨none,0,by rw [← HE.out]; rfl,HB.out⟩
    · subst hv
      have HE:=Jh hLu
      clear hLu hown hone
      go_wp2
      go_ret
      exact ⟨some ⟨g,0,none⟩,cap,by rw [← HE.out]; rfl,HB.out⟩
  have HST:=Jh (show L + (1 + digs0 (m / 10)) = digs0 u by have:=HL.out; rw [digs0_step h0] at this; omega)
  have hLb : L ≤ 20:=by have:=HL.out; omega
  clear HL
  rcases hout with ⟨hL0,hv⟩ | ⟨hLp,g,cap,xs,hv,hown,hone⟩
  · subst hv
    subst hL0
    go_wp2_with (at_builtin; refine wpList_append_room0 rfl _ _ 143 rfl 3 ti undIs hti wr.heap.size 1 1 rfl rfl (Nat.le_refl _) ?_)
    go_roundw
    case rel => exact ⟨m / 10,1,by go_num,by omega,Jh (by have:=HST.out; omega),.inr ⟨by omega,wr.heap.size,1,_,rfl,fresh_row (HB.out.size) _ _,by simp [Value.oneCell']⟩,Jh (HB.out.alloc HB.out.size _)⟩
    case measure => simp [intOf]; omega
  · subst hv
    have hgl:=hown.lt g rfl
    have hxl : xs.length = L:=by have:=ownsRow_len hown; omega
    have HOW:=Jh hown
    have HXL:=Jh hxl
    have HONE:=Jh hone
    clear hown hxl hone
    go_wp2_with (at_builtin; refine wpList_append_lies _ rfl _ _ 143 rfl w.heap.size 3 ti _ 1 8 undIs hti hz0 hz1 hz2 rfl (by decide) _ 1 _ rfl (fresh_row HB.out.size _ _) ⟨g,0,none⟩ L cap xs rfl (by rw [HXL.out]; omega) (fun j u hu => old_cell HOW.out _ j u hu) HONE.out hLp (by unfold maxLen; omega) (by omega) (by have:=HB.out.size; simp; omega) (wr.heap.size + 1) (by simp) ?_; intro g2 cap2 w3 hown3 hgrow hat hlt3; have HO3:=Jh hown3; have HG3:=Jh hgrow; clear hown3 hgrow hat hlt3)
    go_roundw
    case rel => exact ⟨m / 10,1 + L,by go_num,by omega,Jh (by have:=HST.out; omega),.inr ⟨by omega,g2,cap2,_,rfl,HO3.out,one_cons HONE.out⟩,Jh ((HB.out.alloc HB.out.size _).grown HG3.out (by have:=HB.out.size; simp; omega) (fun j e => by have h1 : wr.heap.size = j:=Option.some.inj e; have:=HB.out.size; omega))⟩
    case measure => simp [intOf]; omega
theorem rdigits_neg (u : Nat) (hu : u ≤ 9223372036854775808) (w : World) :
 Calls Tryz.prog 125 #[.int .i64 (-(u : Nat))] w fun e w' => ∃ A cap,e = .returned (.slice A (digs0 u) cap) ∧ Below w.heap.size w w':=by
 obtain ⟨ti,hti,hz0,hz1,hz2⟩:=info_parts infoI
 have hdu:=digs0_le u (by omega)
 go_enter Tryz.func125,Tryz.ntmps125
 go_wp2
 go_loopw [0,3] (fun nv v wr => ∃ (m L : Nat),nv = .int .i64 (-(m : Nat)) ∧ m ≤ 9223372036854775808 ∧ Hid (L + digs0 m = digs0 u) ∧ Out w.heap.size wr v L ∧ Hid (Below w.heap.size w wr)) (fun nv _ _ => (intOf nv).natAbs)
 case atStart => exact ⟨u,0,rfl,hu,Jh (by omega),.inl ⟨rfl,rfl⟩,Jh (Below.refl _ _)⟩
 case round =>
  obtain ⟨m,L,rfl,hm,HL,hout,HB⟩:=hrel
  by_cases h0 : m = 0
  · subst h0
    rw [show (-((0 : Nat) : Int)) = 0 from rfl]
    have hLu : L = digs0 u:=by have:=HL.out; simpa [digs0] using this
    rcases hout with ⟨hL0,hv⟩ | ⟨hLp,g,cap,xs,hv,hown,hone⟩
    · subst hv
      have HE:=Jh (hL0.symm.trans hLu)
      clear hL0 hLu
      go_wp2
      go_ret
      exact ⟨none,0,by rw [← HE.out]; rfl,HB.out⟩
    · subst hv
      have HE:=Jh hLu
      clear hLu hown hone
      go_wp2
      go_ret
      exact ⟨some ⟨g,0,none⟩,cap,by rw [← HE.out]; rfl,HB.out⟩
  have HST:=Jh (show L + (1 + digs0 (m / 10)) = digs0 u by have:=HL.out; rw [digs0_step h0] at this; omega)
  have hLb : L ≤ 20:=by have:=HL.out; omega
  clear HL
  rcases hout with ⟨hL0,hv⟩ | ⟨hLp,g,cap,xs,hv,hown,hone⟩
  · subst hv
    subst hL0
    by_cases hz : (m : Int) % 10 = 0
    · as_aux_lemma =>
      go_wp2_with (at_builtin; refine wpList_append_room0 rfl _ _ 143 rfl 3 ti undIs hti wr.heap.size 1 1 rfl rfl (Nat.le_refl _) ?_)
      go_roundw
      case rel => exact ⟨m / 10,1,by go_num,by omega,Jh (by have:=HST.out; omega),.inr ⟨by omega,wr.heap.size,1,_,rfl,fresh_row (HB.out.size) _ _,by simp [Value.oneCell']⟩,Jh (HB.out.alloc HB.out.size _)⟩
      case measure => simp [intOf]; omega
    · as_aux_lemma =>
      have hz' : 0 < (m : Int) % 10:=by omega
      clear hz
      go_wp2_with (at_builtin; refine wpList_append_room0 rfl _ _ 143 rfl 3 ti undIs hti wr.heap.size 1 1 rfl rfl (Nat.le_refl _) ?_)
      go_roundw
      case rel => exact ⟨m / 10,1,by go_num,by omega,Jh (by have:=HST.out; omega),.inr ⟨by omega,wr.heap.size,1,_,rfl,fresh_row (HB.out.size) _ _,by simp [Value.oneCell']⟩,Jh (HB.out.alloc HB.out.size _)⟩
      case measure => simp [intOf]; omega
  · subst hv
    have hgl:=hown.lt g rfl
    have hxl : xs.length = L:=by have:=ownsRow_len hown; omega
    have HOW:=Jh hown
    have HXL:=Jh hxl
    have HONE:=Jh hone
    clear hown hxl hone
    by_cases hz : (m : Int) % 10 = 0
    · as_aux_lemma =>
      go_wp2_with (at_builtin; refine wpList_append_lies _ rfl _ _ 143 rfl w.heap.size 3 ti _ 1 8 undIs hti hz0 hz1 hz2 rfl (by decide) _ 1 _ rfl (fresh_row HB.out.size _ _) ⟨g,0,none⟩ L cap xs rfl (by rw [HXL.out]; omega) (fun j u hu => old_cell HOW.out _ j u hu) HONE.out hLp (by unfold maxLen; omega) (by omega) (by have:=HB.out.size; simp; omega) (wr.heap.size + 1) (by simp) ?_; intro g2 cap2 w3 hown3 hgrow hat hlt3; have HO3:=Jh hown3; have HG3:=Jh hgrow; clear hown3 hgrow hat hlt3)
      go_roundw
      case rel => exact ⟨m / 10,1 + L,by go_num,by omega,Jh (by have:=HST.out; omega),.inr ⟨by omega,g2,cap2,_,rfl,HO3.out,one_cons HONE.out⟩,Jh ((HB.out.alloc HB.out.size _).grown HG3.out (by have:=HB.out.size; simp; omega) (fun j e => by have h1 : wr.heap.size = j:=Option.some.inj e; have:=HB.out.size; omega))⟩
      case measure => simp [intOf]; omega
    · as_aux_lemma =>
      have hz' : 0 < (m : Int) % 10:=by omega
      clear hz
      go_wp2_with (at_builtin; refine wpList_append_lies _ rfl _ _ 143 rfl w.heap.size 3 ti _ 1 8 undIs hti hz0 hz1 hz2 rfl (by decide) _ 1 _ rfl (fresh_row HB.out.size _ _) ⟨g,0,none⟩ L cap xs rfl (by rw [HXL.out]; omega) (fun j u hu => old_cell HOW.out _ j u hu) HONE.out hLp (by unfold maxLen; omega) (by omega) (by have:=HB.out.size; simp; omega) (wr.heap.size + 1) (by simp) ?_; intro g2 cap2 w3 hown3 hgrow hat hlt3; have HO3:=Jh hown3; have HG3:=Jh hgrow; clear hown3 hgrow hat hlt3)
      go_roundw
      case rel => exact ⟨m / 10,1 + L,by go_num,by omega,Jh (by have:=HST.out; omega),.inr ⟨by omega,g2,cap2,_,rfl,HO3.out,one_cons HONE.out⟩,Jh ((HB.out.alloc HB.out.size _).grown HG3.out (by have:=HB.out.size; simp; omega) (fun j e => by have h1 : wr.heap.size = j:=Option.some.inj e; have:=HB.out.size; omega))⟩
      case measure => simp [intOf]; omega
theorem rdigits_c (n : Int) (hn : i64 n) (w : World) : Calls Tryz.prog 125 #[.int .i64 n] w fun e w' => ∃ A cap,e = .returned (.slice A (digs0 n.natAbs) cap) ∧ Below w.heap.size w w':=by
 by_cases h : n < 0
 · have:=rdigits_neg n.natAbs (by have:=hn.1; omega) w
   rwa [show (-(n.natAbs : Nat) : Int) = n by omega] at this
 · have:=rdigits_pos n.natAbs (by have:=hn.2; omega) w
   rwa [show ((n.natAbs : Nat) : Int) = n by omega] at this
end Go.Proofs.YtelombedjkbckaaGreatDoor
namespace Go.Proofs.YtelombedjkbckaaGreatDoor
set_option maxRecDepth 100000
set_option maxHeartbeats 2000000
open Go.RowKit Go.Shelf
section
variable {P : Program} {md : Region.Mode} {ops : Array Oper} {Q : Exit → Act → World → Prop} {S : World → Prop}
theorem wpAnyH_storeRow0 {i : Nat} {o : Oper} {fuel : Nat} {listed : Array Bool} {a : Act} {w : World} (hr : Region.ready md ops listed = [i]) (ho : ops[i]? = some o) (hg : o.guard = none) (ty : TypeId) (x y : Operand) (hop : o.op = .store ty x y)
 (b : Nat) (cells : Array Value) (hx : a.eval x = .pointer (some ⟨b,0,none⟩)) (hy : a.eval y = .agg cells) (t : TypeId) (old : Array Value) (hb : w.heap[b]? = some (.cells old t (0,0))) (hi : (P.info? ty).map (·.size) = some cells.size) (hold : old.size = cells.size) (h1 : cells.all (·.oneCell') = true) (hS : S (w.setRow b cells))
 (h : S (w.setRow b cells) → wpAnyH P md ops Q S fuel (listed.setIfInBounds i true) (a.put o.dst undef) (w.setRow b cells)) : wpAnyH P md ops Q S (fuel + 1) listed a w :=
 wpAnyH_ready hr (by simp) (AllReadyH.cons ho (fun K hK => by
  rw [if_pos (wanted_none hg)]
  exact wp_store_row ty x y hop b cells hx hy t old hb hi hold h1 (hK.out _ _ hS h)) AllReadyH.nil)
end
theorem undD : Tryz.prog.underlying 153 = some (.struct (Tryz.prog.fieldsOf 153)):=by kernel_rfl
theorem rof_any (m x : Int) (hm : i64 m) (w : World) : Calls Tryz.prog 95 #[.agg #[.int .i64 m,.int .i64 x]] w fun e w' => ∃ A cap,e = .returned (.agg #[.bool (decide (m < 0)),.slice A (digs0 m.natAbs) cap,.int .i64 x]) ∧ Below w.heap.size w w':=by
 have HD:=Jh (fun w => rdigits_c m hm w)
 obtain ⟨Z,hZ⟩ : ∃ Z : Array Value,Z = #[.bool false,.slice none 0 0,.int .i64 0]:=⟨_,rfl⟩
 have hzs : Z.size = 3:=by rw [hZ]; rfl
 obtain ⟨W,hW⟩ : ∃ W,W = (w.alloc (.cells #[.int .i64 m,.int .i64 x] 32)).alloc (.cells Z 153):=⟨_,rfl⟩
 obtain ⟨w0,hw0⟩ : ∃ w0,w0 = w.heap.size:=⟨_,rfl⟩
 have hbW : Below w.heap.size w W:=by rw [hW]; exact ((Below.refl _ w).alloc (Nat.le_refl _) _).alloc (by simp) _
 have hWs : w0 + 2 ≤ W.heap.size:=by rw [hW,hw0]; simp
 have hlt : w0 < w0 + 1:=by omega
 have k0 : W.cell? ⟨w0,0,none⟩ = some (.int .i64 m):=by rw [hW,hw0]; simp
 have k1 : W.cell? ⟨w0,1,none⟩ = some (.int .i64 x):=by rw [hW,hw0]; simp
 have hkz : W.heap[w0 + 1]? = some (.cells Z 153):=by
  rw [hW,hw0]; have:=heap_alloc_new (w.alloc (.cells #[.int .i64 m,.int .i64 x] 32)) (.cells Z 153); rwa [World.size_alloc] at this
 have HW:=Jh hW
 have HBW:=Jh hbW
 have HW0:=Jh hw0
 clear hW hbW hm hw0
 go_enter Tryz.func95,Tryz.ntmps95
 go_upto_region 1 with (fail)
 (try simp only [Act.put,List.setIfInBounds_toArray,List.set_cons_zero,List.set_cons_succ])
 rw [← hZ,← HW.out,← HW0.out]
 clear hZ
 refine wp_region_held_drew (S:=fun w => Below (w0 + 1) W w) (by kernel_rfl) ((Below.refl _ _).drew) (fun hHeld => ?_)
 refine tkG (i:=0) rfl (Or.inl ⟨by kernel_rfl,by (intro w hSw; clear hSw; go_simp); try with_reducible rfl⟩) (by assumption) ?_
 (try simp only [List.getElem_toArray,List.getElem_cons_zero,Act.put,List.setIfInBounds_toArray,List.set_cons_zero,List.set_cons_succ])
 refine tkG (i:=1) rfl (Or.inl ⟨by kernel_rfl,by (intro w hSw; have q0:=(Below.cell hSw (p:=⟨w0,0,none⟩) hlt).trans k0; clear hSw; go_simp); try with_reducible rfl⟩) (by assumption) ?_
 try simp only [sX]
 refine tkG (i:=2) rfl (Or.inl ⟨by kernel_rfl,by (intro w hSw; clear hSw; go_simp); try with_reducible rfl⟩) (by assumption) ?_
 try simp only [sX]
 refine tkG (i:=3) rfl (Or.inl ⟨by kernel_rfl,by (intro w hSw; clear hSw; go_simp); try with_reducible rfl⟩) (by assumption) ?_
 try simp only [sX]
 refine tkG (i:=4) rfl (Or.inl ⟨by kernel_rfl,by (intro w hSw; have q0:=(Below.cell hSw (p:=⟨w0,0,none⟩) hlt).trans k0; clear hSw; go_simp); try with_reducible rfl⟩) (by assumption) ?_
 try simp only [sX]
 refine tkG (i:=6) rfl (Or.inl ⟨by kernel_rfl,by (intro w hSw; clear hSw; go_simp); try with_reducible rfl⟩) (by assumption) ?_
 try simp only [sX]
 refine tkG (i:=7) rfl (Or.inl ⟨by kernel_rfl,by (intro w hSw; have q1:=(Below.cell hSw (p:=⟨w0,1,none⟩) hlt).trans k1; clear hSw; go_simp); try with_reducible rfl⟩) (by assumption) ?_
 try simp only [sX]
 refine wpAnyH_ready (rs:=[5]) (by kernel_rfl) (by simp) ?_
 refine AllReadyH.cons rfl (fun K hK => ?_) AllReadyH.nil
 go_simp
 refine (HD.out _).mono ?_
 rintro e w4 ⟨A,cap,rfl,hb4⟩
 try go_simp
 have hH4 : Below (w0 + 1) W w4:=Below.trans hHeld (hb4.mono (by have:=hb4.size; have:=Below.size hHeld; simp at *; omega))
 refine hK.out _ _ hH4 (fun hHeld4 => ?_)
 clear hK K
 try try simp only [sX]
 refine tkG (i:=8) rfl (Or.inl ⟨by kernel_rfl,by (intro w hSw; clear hSw; go_simp); try with_reducible rfl⟩) (by assumption) ?_
 try simp only [sX]
 have hz4 : w4.heap[w0 + 1]? = some (.cells Z 153):=(hb4.block _ (by simp; omega)).trans hkz
 refine wpAnyH_storeRow0 (i:=9) (by kernel_rfl) rfl rfl 153 _ _ rfl (w0 + 1) #[.bool (decide (m < 0)),.slice A (digs0 m.natAbs) cap,.int .i64 x] rfl rfl 153 Z hz4 (by kernel_rfl) hzs (by simp [Value.oneCell']) (below_row hHeld4 (Nat.le_refl _) _) (fun hHeld5 => ?_)
 (try simp only [List.getElem_toArray,List.getElem_cons_succ,List.getElem_cons_zero,Act.put])
 refine wpAnyH_done (by kernel_rfl) ?_ _
 go_wp2
 refine bodyPost_ret (v:=.agg #[.bool (decide (m < 0)),.slice A (digs0 m.natAbs) cap,.int .i64 x]) (results_cell_row rfl _ _ (w0 + 1) 153 _ (0,0) _ rfl (setRow_heap _ _ _ _ _ _ hz4) undD rfl (by kernel_rfl)) rfl ?_
 exact ⟨A,cap,rfl,HBW.out.trans (below_row (hHeld4.mono (by have:=HW0.out; omega)) (by have:=HW0.out; omega) _)⟩
end Go.Proofs.YtelombedjkbckaaGreatDoor
