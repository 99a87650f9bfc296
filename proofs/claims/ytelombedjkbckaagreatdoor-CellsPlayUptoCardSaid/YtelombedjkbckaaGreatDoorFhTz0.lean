/- counterpaneref06.literal,in. The box of a node that came in. -/
import Derived.Test.YtelombedjkbckaaGreatDoorFgM
import Derived.Test.YtelombedjkbckaaGreatDoorXa1NmVrVs
import Derived.Test.YtelombedjkbckaaGreatDoorRiCkXbNwPyPmPnPfMg
namespace Go.Proofs.YtelombedjkbckaaGreatDoor
set_option maxRecDepth 100000
set_option maxHeartbeats 2000000
open Go.RowKit Go.Shelf
def litB (v : Vl) : Bool:=decide (v.k ≠ 0) && valRight v
theorem dec_comm (a b : Vl) : decide (a = b) = decide (b = a):=decide_eq_decide.2 eq_comm
theorem lit1 (m x f : Int) (s : ByteArray) (t : Bool) : litB ⟨1,m,x,s,t,f⟩ = (decide (ofV m x = ⟨1,m,x,s,t,f⟩) && numRight m x):=by
 unfold litB valRight
 dsimp only
 rw [if_neg (by decide),if_pos rfl,dec_comm (ofV m x),Bool.and_comm (numRight m x)]
 rfl
theorem lit2 (m x f : Int) (s : ByteArray) (t : Bool) : litB ⟨2,m,x,s,t,f⟩ = (decide ((⟨2,0,0,s,false,0⟩ : Vl) = ⟨2,m,x,s,t,f⟩) && decide (s.size ≤ 255)):=by
 unfold litB valRight textV
 dsimp only
 rw [if_neg (by decide),if_neg (by decide),if_pos rfl]
 by_cases h : 255 < s.size
 · rw [if_pos h,decide_eq_false (p:=s.size ≤ 255) (by omega),decide_eq_false (p:=(⟨2,m,x,s,t,f⟩ : Vl) = badV 2) (fun e => by have:=congrArg Vl.k e; simp [badV] at this)]
   simp
 · rw [if_neg h,decide_eq_true (p:=s.size ≤ 255) (by omega),dec_comm ⟨2,0,0,s,false,0⟩,Bool.and_true]
   rfl
theorem lit3 (m x f : Int) (s : ByteArray) (t : Bool) : litB ⟨3,m,x,s,t,f⟩ = decide ((⟨3,0,0,noBytes,t,0⟩ : Vl) = ⟨3,m,x,s,t,f⟩):=by
 unfold litB valRight truthV
 dsimp only
 rw [if_neg (by decide),if_neg (by decide),if_neg (by decide),if_pos rfl,dec_comm ⟨3,0,0,noBytes,t,0⟩]
 rfl
theorem lit4 (m x f : Int) (s : ByteArray) (t : Bool) : litB ⟨4,m,x,s,t,f⟩ = (decide ((⟨4,0,0,noBytes,false,f⟩ : Vl) = ⟨4,m,x,s,t,f⟩) && (decide (1 ≤ f) && decide (f ≤ 9))):=by
 unfold litB valRight badV
 dsimp only
 rw [if_neg (by decide),if_neg (by decide),if_neg (by decide),if_neg (by decide),if_pos rfl]
 by_cases h : f < 1 ∨ 9 < f
 · have e1 : (decide (1 ≤ f) && decide (f ≤ 9)) = false:=by rw [Bool.and_eq_false_iff,decide_eq_false_iff_not,decide_eq_false_iff_not]; omega
   rw [if_pos h,e1,decide_eq_false (p:=(⟨4,m,x,s,t,f⟩ : Vl) = ⟨4,0,0,noBytes,false,9⟩) (fun e => by have:=congrArg Vl.fault e; dsimp only at this; omega)]
   simp
 · rw [if_neg h,decide_eq_true (p:=1 ≤ f) (by omega),decide_eq_true (p:=f ≤ 9) (by omega),dec_comm ⟨4,0,0,noBytes,false,f⟩]
   simp
theorem lit5 (k m x f : Int) (s : ByteArray) (t : Bool) (h1 : ¬ k = 1) (h2 : ¬ k = 2) (h3 : ¬ k = 3) (h4 : ¬ k = 4) : litB ⟨k,m,x,s,t,f⟩ = false:=by
 unfold litB valRight
 by_cases h0 : k = 0
 · simp [h0]
 · simp [h0,h1,h2,h3,h4]
theorem rliteral1 (m x f : Int) (s : ByteArray) (t : Bool) (hm : i64 m) (_hs : s.size ≤ 9223372036854775807) (w : World) : Calls Tryz.prog 126 #[.agg #[.int .i64 1,.int .i64 m,.int .i64 x,.string s,.bool t,.int .i64 f]] w fun e w' => e = .returned (.bool (litB ⟨1,m,x,s,t,f⟩)) ∧ Below w.heap.size w w':=by
 rw [lit1]
 have HN:=Jh (fun w => rnum_any m x hm w)
 have hE:=fun w => eqV w (ofV m x) ⟨1,m,x,s,t,f⟩
 obtain ⟨q,hq⟩ : ∃ q,decide (((ofV m x) : Vl) = ⟨1,m,x,s,t,f⟩) = q:=⟨_,rfl⟩
 rw [hq] at hE ⊢
 dsimp only [ofV,noBytes] at hE
 generalize numRight m x = nr at *
 have hb0 : Below w.heap.size w ((w.alloc (.cells #[.int .i64 1,.int .i64 m,.int .i64 x,.string s,.bool t,.int .i64 f] 34)).alloc (.cells #[.int .i64 1,.int .i64 m,.int .i64 x,.string ⟨#[]⟩,.bool false,.int .i64 0] 34)):=((Below.refl _ w).alloc (Nat.le_refl _) _).alloc (by simp) _
 have HB:=Jh hb0
 clear hq hm hb0
 cases q
 · go_enter Tryz.func126,Tryz.ntmps126
   go_wp2
   go_ret
   exact ⟨rfl,HB.out⟩
 · go_enter Tryz.func126,Tryz.ntmps126
   go_wp2_with (go_at_call 149; refine (HN.out _).mono ?_; rintro e w2 ⟨rfl,hbe⟩)
   go_ret
   exact ⟨by simp,HB.out.trans (hbe.mono (by simp <;> omega))⟩
theorem rliteral2 (m x f : Int) (s : ByteArray) (t : Bool) (hm : i64 m) (hs : s.size ≤ 9223372036854775807) (w : World) : Calls Tryz.prog 126 #[.agg #[.int .i64 2,.int .i64 m,.int .i64 x,.string s,.bool t,.int .i64 f]] w fun e w' => e = .returned (.bool (litB ⟨2,m,x,s,t,f⟩)) ∧ Below w.heap.size w w':=by
 rw [lit2]
 have HN:=Jh (fun w => rnum_any m x hm w)
 have hE:=fun w => eqV w ⟨2,0,0,s,false,0⟩ ⟨2,m,x,s,t,f⟩
 obtain ⟨q,hq⟩ : ∃ q,decide ((⟨2,0,0,s,false,0⟩ : Vl) = ⟨2,m,x,s,t,f⟩) = q:=⟨_,rfl⟩
 rw [hq] at hE ⊢
 dsimp only [ofV,noBytes] at hE
 generalize numRight m x = nr at *
 have hb0 : Below w.heap.size w ((w.alloc (.cells #[.int .i64 2,.int .i64 m,.int .i64 x,.string s,.bool t,.int .i64 f] 34)).alloc (.cells #[.int .i64 2,.int .i64 0,.int .i64 0,.string s,.bool false,.int .i64 0] 34)):=((Below.refl _ w).alloc (Nat.le_refl _) _).alloc (by simp) _
 have HB:=Jh hb0
 clear hq hm hb0
 cases q <;> by_cases h : s.size ≤ 255
 all_goals
  go_enter Tryz.func126,Tryz.ntmps126
  go_wp2
  go_ret
  exact ⟨ret_bool (by first | (simp [h]; done) | (simp; omega)),HB.out⟩
theorem rliteral3 (m x f : Int) (s : ByteArray) (t : Bool) (hm : i64 m) (_hs : s.size ≤ 9223372036854775807) (w : World) : Calls Tryz.prog 126 #[.agg #[.int .i64 3,.int .i64 m,.int .i64 x,.string s,.bool t,.int .i64 f]] w fun e w' => e = .returned (.bool (litB ⟨3,m,x,s,t,f⟩)) ∧ Below w.heap.size w w':=by
 rw [lit3]
 have HN:=Jh (fun w => rnum_any m x hm w)
 have hE:=fun w => eqV w ⟨3,0,0,noBytes,t,0⟩ ⟨3,m,x,s,t,f⟩
 obtain ⟨q,hq⟩ : ∃ q,decide ((⟨3,0,0,noBytes,t,0⟩ : Vl) = ⟨3,m,x,s,t,f⟩) = q:=⟨_,rfl⟩
 rw [hq] at hE ⊢
 dsimp only [ofV,noBytes] at hE
 generalize numRight m x = nr at *
 have hb0 : Below w.heap.size w ((w.alloc (.cells #[.int .i64 3,.int .i64 m,.int .i64 x,.string s,.bool t,.int .i64 f] 34)).alloc (.cells #[.int .i64 3,.int .i64 0,.int .i64 0,.string ⟨#[]⟩,.bool t,.int .i64 0] 34)):=((Below.refl _ w).alloc (Nat.le_refl _) _).alloc (by simp) _
 have HB:=Jh hb0
 clear hq hm hb0
 go_enter Tryz.func126,Tryz.ntmps126
 go_wp2
 go_ret
 exact ⟨rfl,HB.out⟩
theorem rliteral4 (m x f : Int) (s : ByteArray) (t : Bool) (hm : i64 m) (_hs : s.size ≤ 9223372036854775807) (w : World) : Calls Tryz.prog 126 #[.agg #[.int .i64 4,.int .i64 m,.int .i64 x,.string s,.bool t,.int .i64 f]] w fun e w' => e = .returned (.bool (litB ⟨4,m,x,s,t,f⟩)) ∧ Below w.heap.size w w':=by
 rw [lit4]
 have HN:=Jh (fun w => rnum_any m x hm w)
 have hE:=fun w => eqV w ⟨4,0,0,noBytes,false,f⟩ ⟨4,m,x,s,t,f⟩
 obtain ⟨q,hq⟩ : ∃ q,decide ((⟨4,0,0,noBytes,false,f⟩ : Vl) = ⟨4,m,x,s,t,f⟩) = q:=⟨_,rfl⟩
 rw [hq] at hE ⊢
 dsimp only [ofV,noBytes] at hE
 generalize numRight m x = nr at *
 have hb0 : Below w.heap.size w ((w.alloc (.cells #[.int .i64 4,.int .i64 m,.int .i64 x,.string s,.bool t,.int .i64 f] 34)).alloc (.cells #[.int .i64 4,.int .i64 0,.int .i64 0,.string ⟨#[]⟩,.bool false,.int .i64 f] 34)):=((Below.refl _ w).alloc (Nat.le_refl _) _).alloc (by simp) _
 have HB:=Jh hb0
 clear hq hm hb0
 cases q <;> by_cases h : 1 ≤ f <;> by_cases h2 : f ≤ 9 <;> try omega
 all_goals
  go_enter Tryz.func126,Tryz.ntmps126
  go_wp2
  go_ret
  exact ⟨ret_bool (by first | (simp [h,h2]; done) | (simp; omega)),HB.out⟩
theorem rliteral5 (k m x f : Int) (s : ByteArray) (t : Bool) (h1 : ¬ k = 1) (h2 : ¬ k = 2) (h3 : ¬ k = 3) (h4 : ¬ k = 4) (w : World) : Calls Tryz.prog 126 #[.agg #[.int .i64 k,.int .i64 m,.int .i64 x,.string s,.bool t,.int .i64 f]] w fun e w' => e = .returned (.bool (litB ⟨k,m,x,s,t,f⟩)) ∧ Below w.heap.size w w':=by
 rw [lit5 k m x f s t h1 h2 h3 h4]
 have q1 : (k == 1) = false:=by simpa using h1
 have q2 : (k == 2) = false:=by simpa using h2
 have q3 : (k == 3) = false:=by simpa using h3
 have q4 : (k == 4) = false:=by simpa using h4
 go_enter Tryz.func126,Tryz.ntmps126
 go_wp2
 go_ret
 exact ⟨rfl,((Below.refl _ w).alloc (Nat.le_refl _) _).alloc (by simp) _⟩
theorem rliteral_any (v : Vl) (hv : v.ok) (w : World) : Calls Tryz.prog 126 #[.agg v.arr] w fun e w' => e = .returned (.bool (litB v)) ∧ Below w.heap.size w w':=by
 obtain ⟨k,m,x,s,t,f⟩:=v
 obtain ⟨_,hm,_,hs,_⟩:=hv
 dsimp only [Vl.arr]
 by_cases h1 : k = 1
 · subst h1; exact rliteral1 m x f s t hm hs w
 by_cases h2 : k = 2
 · subst h2; exact rliteral2 m x f s t hm hs w
 by_cases h3 : k = 3
 · subst h3; exact rliteral3 m x f s t hm hs w
 by_cases h4 : k = 4
 · subst h4; exact rliteral4 m x f s t hm hs w
 exact rliteral5 k m x f s t h1 h2 h3 h4 w
theorem rin_any (s : ByteArray) (l : List ByteArray) (g : Nat) (T : TypeId) (fr : Nat × Nat) (w : World) (hl : l.length ≤ 1000) (hg : w.heap[g]? = some (.cells (l.map Value.string).toArray T fr)) :
 Calls Tryz.prog 130 #[.string s,.slice (some ⟨g,0,none⟩) l.length l.length] w fun e w' => e = .returned (.bool (l.any fun x => x.toList == s.toList)) ∧ w = w':=by
 have hcell : ∀ k (h : k < l.length),w.cell? ⟨g,k,none⟩ = some (.string l[k]):=fun k h => by rw [Lib.cell_of_heap hg]; simp [h]
 have HC:=Jh hcell
 obtain ⟨n,hn⟩ : ∃ n,l.length = n:=⟨_,rfl⟩
 have HN:=Jh hn
 rw [hn] at hl ⊢
 clear hcell hg hn
 go_enter Tryz.func130,Tryz.ntmps130
 go_wp2
 go_loop [5] (fun i => ∃ k : Nat,k ≤ n ∧ i = .int .i64 k ∧ Hid (((l.take k).any fun x => x.toList == s.toList) = false)) (fun i => n - (intOf i).toNat)
 case atStart => exact ⟨0,by omega,rfl,Jh (by simp)⟩
 case round =>
  obtain ⟨k,hk,rfl,hsc⟩:=hrel
  by_cases hlt : k < n
  · have hkl : k < l.length:=by rw [HN.out]; exact hlt
    have hc:=HC.out k hkl
    have hst : ((l.take (k + 1)).any fun x => x.toList == s.toList) = (l[k].toList == s.toList):=by
     rw [List.take_succ_eq_append_getElem hkl,List.any_append,hsc.out]; simp
    have hall : (l[k].toList == s.toList) = true → (l.any fun x => x.toList == s.toList) = true:=fun h => List.any_eq_true.2 ⟨_,List.getElem_mem hkl,h⟩
    obtain ⟨q,hq⟩ : ∃ q,(l[k].toList == s.toList) = q:=⟨_,rfl⟩
    have hq2 : decide (l[k].toList = s.toList) = q:=by rw [← hq,Bool.eq_iff_iff]; simp
    rw [hq] at hst hall
    have HST:=Jh hst
    have HALL:=Jh hall
    have h0 : (0 : Int) ≤ k:=by omega
    have h1 : (k : Int) < n:=by omega
    clear hst hall hsc
    cases q
    · go_wp2
      go_round
      case rel => exact ⟨k + 1,by omega,by go_num,Jh HST.out⟩
      case measure => simp [intOf]; omega
    · go_wp2
      go_ret
      exact ⟨ret_bool (HALL.out (by trivial)).symm,rfl⟩
  · have hst : Hid ((l.any fun x => x.toList == s.toList) = false):=Jh (by have:=hsc.out; rwa [List.take_of_length_le (by have:=HN.out; omega)] at this)
    clear hsc
    go_wp2
    go_ret
    exact ⟨ret_bool hst.out.symm,rfl⟩
end Go.Proofs.YtelombedjkbckaaGreatDoor
namespace Go.Proofs.YtelombedjkbckaaGreatDoor
open Go.RowKit Go.Shelf
theorem box_cells (w : World) (d : ND) (A : Option Addr) (n c : Nat) (T : TypeId) : NodeCells (w.alloc (.cells (nodeA d A n c) T)) w.heap.size 0 d A n c:=fun j _ => by
 rw [cell_of_row _ _ _ _ _ _ (heap_alloc_new _ _),Nat.zero_add]
end Go.Proofs.YtelombedjkbckaaGreatDoor
