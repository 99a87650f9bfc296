/- counterpaneref06.literal,in. The box of a node that came in. The reference's over: is a tree deeper,or wider,or has it longer texts? A body cut at a region: what comes ahead of it,and what is left from it on. No program in sight. -/
import Derived.Test.YtjobojfaocihfaaGreatQhQgFeFfFg
import Derived.Test.YtjobojfaocihfaaGreatStSqXaNmVrVsRl
import Derived.Test.YtjobojfaocihfaaGreatNdClPyPmPnPfNw
import Derived.Deep.MidRow
import Derived.BigFrame
import Derived.WalkKit
import Derived.Deep.Cut
import Derived.Outline
namespace Go.Proofs.YtjobojfaocihfaaGreat
set_option maxRecDepth 100000
set_option maxHeartbeats 2000000
open Go.RowKit Go.Shelf
def litB (v : Vl) : Bool:=decide (v.k ≠ 0) && valRight v
theorem dec_comm (a b : Vl) : decide (a = b) = decide (b = a):=decide_eq_decide.2 eq_comm
theorem lit1 (m x f : Int) (s : ByteArray) (t : Bool) : litB ⟨1,m,x,s,t,f⟩ = (decide (ofV m x = ⟨1,m,x,s,t,f⟩) && numRight m x):=by
 unfold litB valRight
 dsimp only
 rw [if_neg (by decide),if_pos rfl,dec_comm (ofV m x),Bool.and_comm (numRight m x)]
 rfl
theorem lit2 (m x f : Int) (s : ByteArray) (t : Bool) : litB ⟨2,m,x,s,t,f⟩ = (decide ((⟨2,0,0,s,false,0⟩ : Vl) = ⟨2,m,x,s,t,f⟩) && decide (s.size ≤ 255)):=by
 unfold litB valRight textV
 dsimp only
 rw [if_neg (by decide),if_neg (by decide),if_pos rfl]
 by_cases h : 255 < s.size
 · rw [if_pos h,decide_eq_false (p:=s.size ≤ 255) (by omega),decide_eq_false (p:=(⟨2,m,x,s,t,f⟩ : Vl) = badV 2) (fun e => by have:=congrArg Vl.k e; simp [badV] at this)]
   simp
 · rw [if_neg h,decide_eq_true (p:=s.size ≤ 255) (by omega),dec_comm ⟨2,0,0,s,false,0⟩,Bool.and_true]
   rfl
theorem lit3 (m x f : Int) (s : ByteArray) (t : Bool) : litB ⟨3,m,x,s,t,f⟩ = decide ((⟨3,0,0,noBytes,t,0⟩ : Vl) = ⟨3,m,x,s,t,f⟩):=by
 unfold litB valRight truthV
 dsimp only
 rw [if_neg (by decide),if_neg (by decide),if_neg (by decide),if_pos rfl,dec_comm ⟨3,0,0,noBytes,t,0⟩]
 rfl
theorem lit4 (m x f : Int) (s : ByteArray) (t : Bool) : litB ⟨4,m,x,s,t,f⟩ = (decide ((⟨4,0,0,noBytes,false,f⟩ : Vl) = ⟨4,m,x,s,t,f⟩) && (decide (1 ≤ f) && decide (f ≤ 9))):=by
 unfold litB valRight badV
 dsimp only
 rw [if_neg (by decide),if_neg (by decide),if_neg (by decide),if_neg (by decide),if_pos rfl]
 by_cases h : f < 1 ∨ 9 < f
 · have e1 : (decide (1 ≤ f) && decide (f ≤ 9)) = false:=by rw [Bool.and_eq_false_iff,decide_eq_false_iff_not,decide_eq_false_iff_not]; omega
   rw [if_pos h,e1,decide_eq_false (p:=(⟨4,m,x,s,t,f⟩ : Vl) = ⟨4,0,0,noBytes,false,9⟩) (fun e => by have:=congrArg Vl.fault e; dsimp only at this; omega)]
   simp
 · rw [if_neg h,decide_eq_true (p:=1 ≤ f) (by omega),decide_eq_true (p:=f ≤ 9) (by omega),dec_comm ⟨4,0,0,noBytes,false,f⟩]
   simp
theorem lit5 (k m x f : Int) (s : ByteArray) (t : Bool) (h1 : ¬ k = 1) (h2 : ¬ k = 2) (h3 : ¬ k = 3) (h4 : ¬ k = 4) : litB ⟨k,m,x,s,t,f⟩ = false:=by
 unfold litB valRight
 by_cases h0 : k = 0
 · simp [h0]
 · simp [h0,h1,h2,h3,h4]
theorem rliteral1 (m x f : Int) (s : ByteArray) (t : Bool) (hm : i64 m) (_hs : s.size ≤ 9223372036854775807) (w : World) : Calls Tryz.prog 173 #[.agg #[.int .i64 1,.int .i64 m,.int .i64 x,.string s,.bool t,.int .i64 f]] w fun e w' => e = .returned (.bool (litB ⟨1,m,x,s,t,f⟩)) ∧ Below w.heap.size w w':=by
 rw [lit1]
 have HN:=Jh (fun w => rnum_any m x hm w)
 have hE:=fun w => eqV w (ofV m x) ⟨1,m,x,s,t,f⟩
 obtain ⟨q,hq⟩ : ∃ q,decide (((ofV m x) : Vl) = ⟨1,m,x,s,t,f⟩) = q:=⟨_,rfl⟩
 rw [hq] at hE ⊢
 dsimp only [ofV,noBytes] at hE
 generalize numRight m x = nr at *
 have hb0 : Below w.heap.size w ((w.alloc (.cells #[.int .i64 1,.int .i64 m,.int .i64 x,.string s,.bool t,.int .i64 f] 47)).alloc (.cells #[.int .i64 1,.int .i64 m,.int .i64 x,.string ⟨#[]⟩,.bool false,.int .i64 0] 47)):=((Below.refl _ w).alloc (Nat.le_refl _) _).alloc (by simp) _
 have HB:=Jh hb0
 clear hq hm hb0
 cases q
 · go_enter Tryz.func173,Tryz.ntmps173
   go_wp2
   go_ret
   exact ⟨rfl,HB.out⟩
 · go_enter Tryz.func173,Tryz.ntmps173
   go_wp2_with (go_at_call 196; refine (HN.out _).mono ?_; rintro e w2 ⟨rfl,hbe⟩)
   go_ret
   exact ⟨by simp,HB.out.trans (hbe.mono (by simp <;> omega))⟩
theorem rliteral2 (m x f : Int) (s : ByteArray) (t : Bool) (hm : i64 m) (hs : s.size ≤ 9223372036854775807) (w : World) : Calls Tryz.prog 173 #[.agg #[.int .i64 2,.int .i64 m,.int .i64 x,.string s,.bool t,.int .i64 f]] w fun e w' => e = .returned (.bool (litB ⟨2,m,x,s,t,f⟩)) ∧ Below w.heap.size w w':=by
 rw [lit2]
 have HN:=Jh (fun w => rnum_any m x hm w)
 have hE:=fun w => eqV w ⟨2,0,0,s,false,0⟩ ⟨2,m,x,s,t,f⟩
 obtain ⟨q,hq⟩ : ∃ q,decide ((⟨2,0,0,s,false,0⟩ : Vl) = ⟨2,m,x,s,t,f⟩) = q:=⟨_,rfl⟩
 rw [hq] at hE ⊢
 dsimp only [ofV,noBytes] at hE
 generalize numRight m x = nr at *
 have hb0 : Below w.heap.size w ((w.alloc (.cells #[.int .i64 2,.int .i64 m,.int .i64 x,.string s,.bool t,.int .i64 f] 47)).alloc (.cells #[.int .i64 2,.int .i64 0,.int .i64 0,.string s,.bool false,.int .i64 0] 47)):=((Below.refl _ w).alloc (Nat.le_refl _) _).alloc (by simp) _
 have HB:=Jh hb0
 clear hq hm hb0
 cases q <;> by_cases h : s.size ≤ 255
 all_goals
  go_enter Tryz.func173,Tryz.ntmps173
  go_wp2
  go_ret
  exact ⟨ret_bool (by first | (simp [h]; done) | (simp; omega)),HB.out⟩
theorem rliteral3 (m x f : Int) (s : ByteArray) (t : Bool) (hm : i64 m) (_hs : s.size ≤ 9223372036854775807) (w : World) : Calls Tryz.prog 173 #[.agg #[.int .i64 3,.int .i64 m,.int .i64 x,.string s,.bool t,.int .i64 f]] w fun e w' => e = .returned (.bool (litB ⟨3,m,x,s,t,f⟩)) ∧ Below w.heap.size w w':=by
 rw [lit3]
 have HN:=Jh (fun w => rnum_any m x hm w)
 have hE:=fun w => eqV w ⟨3,0,0,noBytes,t,0⟩ ⟨3,m,x,s,t,f⟩
 obtain ⟨q,hq⟩ : ∃ q,decide ((⟨3,0,0,noBytes,t,0⟩ : Vl) = ⟨3,m,x,s,t,f⟩) = q:=⟨_,rfl⟩
 rw [hq] at hE ⊢
 dsimp only [ofV,noBytes] at hE
 generalize numRight m x = nr at *
 have hb0 : Below w.heap.size w ((w.alloc (.cells #[.int .i64 3,.int .i64 m,.int .i64 x,.string s,.bool t,.int .i64 f] 47)).alloc (.cells #[.int .i64 3,.int .i64 0,.int .i64 0,.string ⟨#[]⟩,.bool t,.int .i64 0] 47)):=((Below.refl _ w).alloc (Nat.le_refl _) _).alloc (by simp) _
 have HB:=Jh hb0
 clear hq hm hb0
 go_enter Tryz.func173,Tryz.ntmps173
 go_wp2
 go_ret
 exact ⟨rfl,HB.out⟩
theorem rliteral4 (m x f : Int) (s : ByteArray) (t : Bool) (hm : i64 m) (_hs : s.size ≤ 9223372036854775807) (w : World) : Calls Tryz.prog 173 #[.agg #[.int .i64 4,.int .i64 m,.int .i64 x,.string s,.bool t,.int .i64 f]] w fun e w' => e = .returned (.bool (litB ⟨4,m,x,s,t,f⟩)) ∧ Below w.heap.size w w':=by
 rw [lit4]
 have HN:=Jh (fun w => rnum_any m x hm w)
 have hE:=fun w => eqV w ⟨4,0,0,noBytes,false,f⟩ ⟨4,m,x,s,t,f⟩
 obtain ⟨q,hq⟩ : ∃ q,decide ((⟨4,0,0,noBytes,false,f⟩ : Vl) = ⟨4,m,x,s,t,f⟩) = q:=⟨_,rfl⟩
 rw [hq] at hE ⊢
 dsimp only [ofV,noBytes] at hE
 generalize numRight m x = nr at *
 have hb0 : Below w.heap.size w ((w.alloc (.cells #[.int .i64 4,.int .i64 m,.int .i64 x,.string s,.bool t,.int .i64 f] 47)).alloc (.cells #[.int .i64 4,.int .i64 0,.int .i64 0,.string ⟨#[]⟩,.bool false,.int .i64 f] 47)):=((Below.refl _ w).alloc (Nat.le_refl _) _).alloc (by simp) _
 have HB:=Jh hb0
 clear hq hm hb0
 cases q <;> by_cases h : 1 ≤ f <;> by_cases h2 : f ≤ 9 <;> try omega
 all_goals
  go_enter Tryz.func173,Tryz.ntmps173
  go_wp2
  go_ret
  exact ⟨ret_bool (by first | (simp [h,h2]; done) | (simp; omega)),HB.out⟩
theorem rliteral5 (k m x f : Int) (s : ByteArray) (t : Bool) (h1 : ¬ k = 1) (h2 : ¬ k = 2) (h3 : ¬ k = 3) (h4 : ¬ k = 4) (w : World) : Calls Tryz.prog 173 #[.agg #[.int .i64 k,.int .i64 m,.int .i64 x,.string s,.bool t,.int .i64 f]] w fun e w' => e = .returned (.bool (litB ⟨k,m,x,s,t,f⟩)) ∧ Below w.heap.size w w':=by
 rw [lit5 k m x f s t h1 h2 h3 h4]
 have q1 : (k == 1) = false:=by simpa using h1
 have q2 : (k == 2) = false:=by simpa using h2
 have q3 : (k == 3) = false:=by simpa using h3
 have q4 : (k == 4) = false:=by simpa using h4
 go_enter Tryz.func173,Tryz.ntmps173
 go_wp2
 go_ret
 exact ⟨rfl,((Below.refl _ w).alloc (Nat.le_refl _) _).alloc (by simp) _⟩
theorem rliteral_any (v : Vl) (hv : v.ok) (w : World) : Calls Tryz.prog 173 #[.agg v.arr] w fun e w' => e = .returned (.bool (litB v)) ∧ Below w.heap.size w w':=by
 obtain ⟨k,m,x,s,t,f⟩:=v
 obtain ⟨_,hm,_,hs,_⟩:=hv
 dsimp only [Vl.arr]
 by_cases h1 : k = 1
 · subst h1; exact rliteral1 m x f s t hm hs w
 by_cases h2 : k = 2
 · subst h2; exact rliteral2 m x f s t hm hs w
 by_cases h3 : k = 3
 · subst h3; exact rliteral3 m x f s t hm hs w
 by_cases h4 : k = 4
 · subst h4; exact rliteral4 m x f s t hm hs w
 exact rliteral5 k m x f s t h1 h2 h3 h4 w
theorem rin_any (s : ByteArray) (l : List ByteArray) (g : Nat) (T : TypeId) (fr : Nat × Nat) (w : World) (hl : l.length ≤ 1000) (hg : w.heap[g]? = some (.cells (l.map Value.string).toArray T fr)) :
 Calls Tryz.prog 177 #[.string s,.slice (some ⟨g,0,none⟩) l.length l.length] w fun e w' => e = .returned (.bool (l.any fun x => x.toList == s.toList)) ∧ w = w':=by
 have hcell : ∀ k (h : k < l.length),w.cell? ⟨g,k,none⟩ = some (.string l[k]):=fun k h => by rw [Lib.cell_of_heap hg]; simp [h]
 have HC:=Jh hcell
 obtain ⟨n,hn⟩ : ∃ n,l.length = n:=⟨_,rfl⟩
 have HN:=Jh hn
 rw [hn] at hl ⊢
 clear hcell hg hn
 go_enter Tryz.func177,Tryz.ntmps177
 go_wp2
 go_loop [5] (fun i => ∃ k : Nat,k ≤ n ∧ i = .int .i64 k ∧ Hid (((l.take k).any fun x => x.toList == s.toList) = false)) (fun i => n - (intOf i).toNat)
 case atStart => exact ⟨0,by omega,rfl,Jh (by simp)⟩
 case round =>
  obtain ⟨k,hk,rfl,hsc⟩:=hrel
  by_cases hlt : k < n
  · have hkl : k < l.length:=by rw [HN.out]; exact hlt
    have hc:=HC.out k hkl
    have hst : ((l.take (k + 1)).any fun x => x.toList == s.toList) = (l[k].toList == s.toList):=by
     rw [List.take_succ_eq_append_getElem hkl,List.any_append,hsc.out]; simp
    have hall : (l[k].toList == s.toList) = true → (l.any fun x => x.toList == s.toList) = true:=fun h => List.any_eq_true.2 ⟨_,List.getElem_mem hkl,h⟩
    obtain ⟨q,hq⟩ : ∃ q,(l[k].toList == s.toList) = q:=⟨_,rfl⟩
    have hq2 : decide (l[k].toList = s.toList) = q:=by rw [← hq,Bool.eq_iff_iff]; simp
    rw [hq] at hst hall
    have HST:=Jh hst
    have HALL:=Jh hall
    have h0 : (0 : Int) ≤ k:=by omega
    have h1 : (k : Int) < n:=by omega
    clear hst hall hsc
    cases q
    · go_wp2
      go_round
      case rel => exact ⟨k + 1,by omega,by go_num,Jh HST.out⟩
      case measure => simp [intOf]; omega
    · go_wp2
      go_ret
      exact ⟨ret_bool (HALL.out (by trivial)).symm,rfl⟩
  · have hst : Hid ((l.any fun x => x.toList == s.toList) = false):=Jh (by have:=hsc.out; rwa [List.take_of_length_le (by have:=HN.out; omega)] at this)
    clear hsc
    go_wp2
    go_ret
    exact ⟨ret_bool hst.out.symm,rfl⟩
end Go.Proofs.YtjobojfaocihfaaGreat
namespace Go.Proofs.YtjobojfaocihfaaGreat
open Go.RowKit Go.Shelf
theorem box_cells (w : World) (d : ND) (A : Option Addr) (n c : Nat) (T : TypeId) : NodeCells (w.alloc (.cells (nodeA d A n c) T)) w.heap.size 0 d A n c:=fun j _ => by
 rw [cell_of_row _ _ _ _ _ _ (heap_alloc_new _ _),Nat.zero_add]
end Go.Proofs.YtjobojfaocihfaaGreat
namespace Go.Proofs.YtjobojfaocihfaaGreat
set_option maxRecDepth 100000
set_option maxHeartbeats 2000000
open Go.RowKit Go.Shelf
mutual
def overB : Tr → Nat → Bool
 | .mk d l,k => decide (k = 0) || decide (400 < l.length) || decide (300 < d.name.size) || decide (300 < d.v.text.size) || oversB l (k - 1)
def oversB : List Tr → Nat → Bool
 | [],_ => false
 | t :: ts,k => overB t k || oversB ts k
end
theorem overs_append (k : Nat) : ∀ (l m : List Tr),oversB (l ++ m) k = (oversB l k || oversB m k)
 | [],m => by simp [oversB]
 | t :: l,m => by simp only [List.cons_append,oversB,overs_append k l m,Bool.or_assoc]
theorem overs_step {l : List Tr} {k i : Nat} (hi : i < l.length) (h : oversB (l.take i) k = false) : oversB (l.take (i + 1)) k = overB l[i] k:=by
 rw [List.take_succ_eq_append_getElem hi,overs_append,h]; simp [oversB]
theorem overs_yes {l : List Tr} {k i : Nat} (hi : i < l.length) (h : overB l[i] k = true) : oversB l k = true:=by
 rw [← List.take_append_drop i l,overs_append,List.drop_eq_getElem_cons hi]; simp [oversB,h]
theorem over_c (t : Tr) : ∀ (w : World) (B : Nat) (A : Option Addr) (c k : Nat) (_ : t.d.ok) (_ : SlAt w B A c t.l) (_ : B ≤ w.heap.size) (_ : k ≤ 1000),
 Calls Tryz.prog 66 #[nodeV t.d A t.l.length c,.int .i64 k] w fun e w' => e = .returned (.bool (overB t k)) ∧ Below w.heap.size w w':=by
 induction t using Tr.ind with | _ d l ih => ?_
 intro w B A c k hd hs hB hk
 have IH:=Jh ih
 have HD:=Jh hd
 have HS:=Jh hs
 clear ih hd hs
 dsimp only [Tr.d,Tr.l] at HD HS ⊢
 obtain ⟨r,hr⟩ : ∃ r,overB (.mk d l) k = r:=⟨_,rfl⟩
 rw [hr]
 simp only [overB] at hr
 obtain ⟨N,hN⟩ : ∃ N,N = nodeA d A l.length c:=⟨_,rfl⟩
 rw [nodeV,← hN]
 have hN21 : N[21]? = some (.slice A l.length c):=by rw [hN]; rfl
 have hN7 : N[7]? = some (.string d.name):=by rw [hN]; rfl
 have hN4 : N[4]? = some (.string d.v.text):=by rw [hN]; rfl
 have HR:=Jh hr
 have hsl:=HS.out.1
 have hsc:=HS.out.2.1
 obtain ⟨n,hn⟩ : ∃ n,l.length = n:=⟨_,rfl⟩
 rw [hn] at hN21 hsl
 have HN:=Jh hn
 have hnm:=HD.out.2.2.1
 have htx:=HD.out.2.1.2.2.2.1
 clear hr hN hn
 by_cases k0 : k = 0
 · subst k0
   go_enter Tryz.func66,Tryz.ntmps66
   go_wp2
   go_ret
   exact ⟨ret_bool (by rw [← HR.out]; simp),(Below.refl _ w).alloc (Nat.le_refl _) _⟩
 have k0' : ((k : Int) == 0) = false:=by rw [beq_eq_false_iff_ne]; omega
 have k1 : (1 : Int) ≤ k:=by omega
 by_cases k1 : 400 < n
 · go_enter Tryz.func66,Tryz.ntmps66
   go_wp2
   go_ret
   exact ⟨ret_bool (by rw [← HR.out,HN.out]; simp [k1]),(Below.refl _ w).alloc (Nat.le_refl _) _⟩
 by_cases k2 : 300 < d.name.size
 · go_enter Tryz.func66,Tryz.ntmps66
   go_wp2
   go_ret
   exact ⟨ret_bool (by rw [← HR.out]; simp [k2]),(Below.refl _ w).alloc (Nat.le_refl _) _⟩
 by_cases k3 : 300 < d.v.text.size
 · go_enter Tryz.func66,Tryz.ntmps66
   go_wp2
   go_ret
   exact ⟨ret_bool (by rw [← HR.out]; simp [k3]),(Below.refl _ w).alloc (Nat.le_refl _) _⟩
 have hr2 : r = oversB l (k - 1):=by rw [← HR.out]; simp [k0,HN.out,k1,k2,k3]
 have HR2:=Jh hr2
 have e1 : decide ((400 : Int) < n) = false:=by simp; omega
 have e2 : decide ((300 : Int) < d.name.size) = false:=by simp; omega
 have e3 : decide ((300 : Int) < d.v.text.size) = false:=by simp; omega
 clear HR hr2
 go_enter Tryz.func66,Tryz.ntmps66
 go_wp2
 obtain ⟨W,hW⟩ : ∃ W,w.alloc (.cells N 54) = W:=⟨_,rfl⟩
 have hc21 : W.cell? ⟨w.heap.size,21,none⟩ = some (.slice A n c):=by rw [← hW]; exact (cell_of_row _ _ 21 _ _ _ (World.alloc_heap_new w _)).trans hN21
 have hbW : Below w.heap.size w W:=by rw [← hW]; exact (Below.refl _ w).alloc (Nat.le_refl _) _
 have hzW : W.heap.size = w.heap.size + 1:=by rw [← hW]; simp
 rw [hW]
 have HZ:=Jh hzW
 have HBW:=Jh hbW
 have HC:=Jh hc21
 clear hW hc21 hbW hzW hN21 hN7 hN4
 go_loopw [5] (fun i wr => ∃ j : Nat,j ≤ n ∧ i = .int .i64 j ∧ Hid (oversB (l.take j) (k - 1) = false) ∧ Below W.heap.size W wr) (fun i _ => n - (intOf i).toNat)
 case atStart => exact ⟨0,Nat.zero_le _,rfl,by show _ = _; simp [oversB],Below.refl _ _⟩
 case round =>
  obtain ⟨j,hj,rfl,hacc,hbr⟩:=hrel
  have hc : wr.cell? ⟨w.heap.size,21,none⟩ = some (.slice A n c):=(hbr.cell (p:=⟨w.heap.size,21,none⟩) (by have:=HZ.out; simp; omega)).trans HC.out
  have hfin : Below w.heap.size w wr:=HBW.out.trans (hbr.mono (by have:=HZ.out; omega))
  by_cases hlt : j < n
  · have hjl : j < l.length:=by rw [HN.out]; exact hlt
    obtain ⟨b2,o2,hA,hkn⟩:=HS.out.at_ j hjl
    subst hA
    obtain ⟨hkb,hkd,A2,c2,hkc,hks⟩:=hkn.open_
    have hbk : b2 < w.heap.size:=by omega
    have hkid:=fun wx (hx : Below w.heap.size w wx) => IH.out l[j] (List.getElem_mem hjl) wx B A2 c2 (k - 1) hkd (hks.below (hx.mono hB)) (by have:=hx.size; omega) (by omega)
    rw [show ((k - 1 : Nat) : Int) = (k : Int) - 1 by omega] at hkid
    obtain ⟨cs,hcs,hcl,hrg⟩:=hkc.range (w':=wr) (fun p hp => hfin.cell (by omega))
    simp only [nodeV,← hcs] at hkid
    have hinf:=infN
    rw [← hcl] at hinf
    have HRG:=Jh hrg
    have HIN:=Jh hinf
    clear hinf hrg hcl hcs
    obtain ⟨rk,hrk⟩ : ∃ rk,overB l[j] (k - 1) = rk:=⟨_,rfl⟩
    rw [hrk] at hkid
    have HK:=Jh hkid
    have HRK:=Jh hrk
    have hj1 : (j : Int) < (n : Int):=by omega
    have hj0 : (0 : Int) ≤ (j : Int):=by omega
    have hwr : Below W.heap.size W wr:=hbr
    have HWR:=Jh hbr
    have HFI:=Jh hfin
    clear hkn hkb hkd hkc hks hkid hrk hbr hfin
    cases rk
    · go_wp2_with (first | (refine wpList_load_mid rfl 54 _ rfl b2 (o2 + j * 22) rfl cs _ HRG.out undN rfl HIN.out ?_) | go_at_call 66; refine (HK.out _ HFI.out).mono ?_; rintro e w2 ⟨rfl,hbe⟩)
      go_roundw
      case rel => exact ⟨j + 1,by omega,by go_num,(overs_step hjl hacc.out).trans HRK.out,HWR.out.trans (hbe.mono HWR.out.size)⟩
      case measure => simp [intOf]; omega
    · go_wp2_with (first | (refine wpList_load_mid rfl 54 _ rfl b2 (o2 + j * 22) rfl cs _ HRG.out undN rfl HIN.out ?_) | go_at_call 66; refine (HK.out _ HFI.out).mono ?_; rintro e w2 ⟨rfl,hbe⟩)
      go_ret
      exact ⟨ret_bool (by rw [HR2.out,overs_yes hjl HRK.out]),HFI.out.trans (hbe.mono HFI.out.size)⟩
  · obtain rfl : j = n:=by omega
    go_wp2
    go_ret
    exact ⟨ret_bool (by rw [HR2.out,← hacc.out,← HN.out,List.take_length]),hfin⟩
end Go.Proofs.YtjobojfaocihfaaGreat
namespace Go.Proofs.YtjobojfaocihfaaGreat
open Go.RowKit
def beginsAt (k : Nat) : Code → Bool
 | .region i _ _ => Nat.beq i k
 | .seq a _ => beginsAt k a
 | _ => false
def fromRegion (k : Nat) : Code → Code
 | .seq a b => match beginsAt k a with | true => .seq a b | false => fromRegion k b
 | c => c
def cutReg (k : Nat) (C : Code) : Code → Code
 | .seq a b => match beginsAt k a with | true => C | false => .seq a (cutReg k C b)
 | _ => C
theorem cut_from (k : Nat) : ∀ c : Code,cutReg k (fromRegion k c) c = c
 | .seq a b => by
  simp only [cutReg,fromRegion]
  cases beginsAt k a with
  | true => rfl
  | false => simp only [cut_from k b]
 | .skip => rfl
 | .region .. => rfl
 | .cond .. => rfl
 | .block .. => rfl
 | .loop .. => rfl
 | .rangeFunc .. => rfl
 | .exit .. => rfl
 | .scope .. => rfl
 | .label .. => rfl
 | .goto .. => rfl
 | .ret => rfl
 | .refuse .. => rfl
def RetSlot (s : Nat) (v : Value) (w : World) (e : Exit) (a : Act) (w' : World) : Prop:=e = .ret ∧ a.defers = [] ∧ a.tmps.getD s undef = v ∧ Below w.heap.size w w'
end Go.Proofs.YtjobojfaocihfaaGreat
