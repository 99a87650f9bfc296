/- tree.codeOfId,codeOfCorner,sized. tree.codeOfCorner,sized. tree.codeOfValue. -/
import Derived.Test.YtelombedjkbckaaGreatDoorShelfCa
namespace Go.Proofs.YtelombedjkbckaaGreatDoor
set_option maxRecDepth 100000
set_option maxHeartbeats 1000000
open Go.RowKit Go.Shelf
def idL (a n : Int) : List UInt8:=Lib.itoa a ++ [46] ++ Lib.itoa n
theorem id_le (a n : Int) (h : i64 a) (h' : i64 n) : (idL a n).length ≤ 43:=by
 have:=itoa_le a h; have:=itoa_le n h'; unfold idL; simp; omega
theorem keep2 {W w1 w2 : World} {g : Nat} {v0 v1 : Value} (hg : g < W.heap.size) (h : w1.cell? ⟨g, 0, none⟩ = some v0 ∧ w1.cell? ⟨g, 1, none⟩ = some v1 ∧ Below W.heap.size W w1) (hb : Below w1.heap.size w1 w2) :
 w2.cell? ⟨g,0,none⟩ = some v0 ∧ w2.cell? ⟨g,1,none⟩ = some v1 ∧ Below W.heap.size W w2:=by
 obtain ⟨h0,h1,h4⟩:=h
 have hlt : g < w1.heap.size:=Nat.lt_of_lt_of_le hg h4.size
 exact ⟨(hb.cell (p:=⟨g,0,none⟩) hlt).trans h0,(hb.cell (p:=⟨g,1,none⟩) hlt).trans h1,h4.trans (hb.mono h4.size)⟩
theorem codeOfId_any (a n : Int) (ha : i64 a) (hn : i64 n) (w : World) (ht : Tab w) :
 Calls Tryz.prog 123 #[.agg #[.int .i64 a,.int .i64 n]] w fun e w' => e = .returned (S (idL a n)) ∧ Below w.heap.size w w':=by
 have l1:=itoa_le a ha
 have l2:=itoa_le n hn
 have HT2:=Jh (tab_alloc ht (.cells #[.int .i64 a,.int .i64 n] 28))
 unfold idL
 have hIA:=fun w (h : Tab w) => itoa_any a w ha h
 have hIN:=fun w (h : Tab w) => itoa_any n w hn h
 generalize Lib.itoa a = la at *
 generalize Lib.itoa n = ln at *
 have HIA:=Jh hIA
 have HIN:=Jh hIN
 clear hIA hIN ht ha hn
 go_enter Tryz.func123,Tryz.ntmps123
 go_wp2_with fail
 generalize hW : w.alloc (.cells #[.int .i64 a,.int .i64 n] 28) = W at HT2 ⊢
 have k0 : W.cell? ⟨w.heap.size,0,none⟩ = some (.int .i64 a):=by rw [← hW]; simp
 have k1 : W.cell? ⟨w.heap.size,1,none⟩ = some (.int .i64 n):=by rw [← hW]; simp
 have HW:=Jh hW
 clear hW
 have hgW : w.heap.size < W.heap.size:=by rw [← HW.out]; simp
 have hBW:=Jh (show Below w.heap.size w W by rw [← HW.out]; exact (Below.refl _ _).alloc (Nat.le_refl _) _)
 have hb0 : Below W.heap.size W W.drew:=(Below.refl _ _).drew
 have n1 : ¬ 9223372036854775807 < la.length + 1:=by omega
 have n2 : ¬ 9223372036854775807 < la.length + 1 + ln.length:=by omega
 go_region_held3 (fun w' => w'.cell? ⟨w.heap.size,0,none⟩ = some (.int .i64 a) ∧ w'.cell? ⟨w.heap.size,1,none⟩ = some (.int .i64 n) ∧ Below W.heap.size W w') (first | exact ⟨k0,k1,hb0⟩ | assumption | exact keep2 hgW (by assumption) (by assumption))
  (first | (go_at_call_of 93 a; refine (HIA.out _ (tab_below HT2.out (And.right (And.right (by assumption))))).mono ?_; rintro e w' ⟨rfl,hb⟩) | (go_at_call_of 93 n; refine (HIN.out _ (tab_below HT2.out (And.right (And.right (by assumption))))).mono ?_; rintro e w' ⟨rfl,hb⟩))
 all_goals
  go_wp2
  go_ret
  refine ⟨ret_str (by simp),hBW.out.trans (Below.mono ?_ hBW.out.size)⟩
  rename_i hS
  exact hS.2.2
end Go.Proofs.YtelombedjkbckaaGreatDoor
namespace Go.Proofs.YtelombedjkbckaaGreatDoor
set_option maxRecDepth 100000
set_option maxHeartbeats 2000000
open Go.RowKit Go.Shelf
def fixI (c : Cn) : Int:=(if c.fr then 1 else 0) + (if c.fc then 2 else 0)
def cornerL (c : Cn) : List UInt8:=idL c.ra c.rn ++ [44] ++ idL c.ca c.cn ++ [44] ++ Lib.itoa (fixI c)
theorem fix_ok (c : Cn) : i64 (fixI c):=by unfold fixI i64; split <;> split <;> omega
theorem corner_le (c : Cn) (h : c.ok) : (cornerL c).length ≤ 109:=by
 have h1:=id_le c.ra c.rn h.1 h.2.1
 have h2:=id_le c.ca c.cn h.2.2.1 h.2.2.2
 have h3:=itoa_le (fixI c) (fix_ok c)
 unfold cornerL; simp; omega
theorem keepc {W w1 w2 : World} {g : Nat} {v0 v1 v2 v3 : Value} (hg : g < W.heap.size) (h : w1.cell? ⟨g, 0, none⟩ = some v0 ∧ w1.cell? ⟨g, 1, none⟩ = some v1 ∧ w1.cell? ⟨g, 2, none⟩ = some v2 ∧ w1.cell? ⟨g, 3, none⟩ = some v3 ∧ Below W.heap.size W w1) (hb : Below w1.heap.size w1 w2) :
 w2.cell? ⟨g,0,none⟩ = some v0 ∧ w2.cell? ⟨g,1,none⟩ = some v1 ∧ w2.cell? ⟨g,2,none⟩ = some v2 ∧ w2.cell? ⟨g,3,none⟩ = some v3 ∧ Below W.heap.size W w2:=by
 obtain ⟨h0,h1,h2,h3,h4⟩:=h
 have hlt : g < w1.heap.size:=Nat.lt_of_lt_of_le hg h4.size
 exact ⟨(hb.cell (p:=⟨g,0,none⟩) hlt).trans h0,(hb.cell (p:=⟨g,1,none⟩) hlt).trans h1,(hb.cell (p:=⟨g,2,none⟩) hlt).trans h2,(hb.cell (p:=⟨g,3,none⟩) hlt).trans h3,h4.trans (hb.mono h4.size)⟩
theorem codeOfCorner_any (c : Cn) (hc : c.ok) (w : World) (ht : Tab w) :
 Calls Tryz.prog 91 #[.agg #[.int .i64 c.ra,.int .i64 c.rn,.int .i64 c.ca,.int .i64 c.cn,.bool c.fr,.bool c.fc]] w fun e w' => e = .returned (S (cornerL c)) ∧ Below w.heap.size w w':=by
 have l1:=id_le c.ra c.rn hc.1 hc.2.1
 have l2:=id_le c.ca c.cn hc.2.2.1 hc.2.2.2
 have l3:=itoa_le (fixI c) (fix_ok c)
 have hI1:=fun w (h : Tab w) => codeOfId_any c.ra c.rn hc.1 hc.2.1 w h
 have hI2:=fun w (h : Tab w) => codeOfId_any c.ca c.cn hc.2.2.1 hc.2.2.2 w h
 have hI3:=fun w (h : Tab w) => itoa_any (fixI c) w (fix_ok c) h
 unfold cornerL
 unfold fixI at l3 hI3 ⊢
 obtain ⟨ra,rn,ca,cn,fr,fc⟩:=c
 dsimp only at l1 l2 l3 hI1 hI2 hI3 ⊢
 have HT2:=Jh (tab_alloc ht (.cells #[.int .i64 ra,.int .i64 rn,.int .i64 ca,.int .i64 cn,.bool fr,.bool fc] 36))
 generalize idL ra rn = i1 at *
 generalize idL ca cn = i2 at *
 have HI1:=Jh hI1
 have HI2:=Jh hI2
 clear hI1 hI2 ht hc
 cases fr <;> cases fc
 all_goals
  simp only [if_true,if_false,Bool.false_eq_true,Int.add_zero,Int.zero_add,Int.reduceAdd] at l3 hI3 ⊢
  generalize Lib.itoa _ = i3 at *
  have HI3:=Jh hI3
  clear hI3
  go_enter Tryz.func91,Tryz.ntmps91
  go_wp2_with fail
  generalize hW : w.alloc (.cells _ 36) = W at HT2 ⊢
  have k0 : W.cell? ⟨w.heap.size,0,none⟩ = some (.int .i64 ra):=by rw [← hW]; simp
  have k1 : W.cell? ⟨w.heap.size,1,none⟩ = some (.int .i64 rn):=by rw [← hW]; simp
  have k2 : W.cell? ⟨w.heap.size,2,none⟩ = some (.int .i64 ca):=by rw [← hW]; simp
  have k3 : W.cell? ⟨w.heap.size,3,none⟩ = some (.int .i64 cn):=by rw [← hW]; simp
  have HW:=Jh hW
  clear hW
  have hgW : w.heap.size < W.heap.size:=by rw [← HW.out]; simp
  have hBW:=Jh (show Below w.heap.size w W by rw [← HW.out]; exact (Below.refl _ _).alloc (Nat.le_refl _) _)
  have hb0 : Below W.heap.size W W.drew:=(Below.refl _ _).drew
  have n1 : ¬ 9223372036854775807 < i1.length + 1:=by omega
  have n2 : ¬ 9223372036854775807 < i1.length + 1 + i2.length:=by omega
  have n3 : ¬ 9223372036854775807 < i1.length + 1 + i2.length + 1:=by omega
  have n4 : ¬ 9223372036854775807 < i1.length + 1 + i2.length + 1 + i3.length:=by omega
  go_region_held3 (fun w' => w'.cell? ⟨w.heap.size,0,none⟩ = some (.int .i64 ra) ∧ w'.cell? ⟨w.heap.size,1,none⟩ = some (.int .i64 rn) ∧ w'.cell? ⟨w.heap.size,2,none⟩ = some (.int .i64 ca) ∧ w'.cell? ⟨w.heap.size,3,none⟩ = some (.int .i64 cn) ∧ Below W.heap.size W w') (first | exact ⟨k0,k1,k2,k3,hb0⟩ | assumption | exact keepc hgW (by assumption) (by assumption))
   (first | (go_at_call 93; refine (HI3.out _ (tab_below HT2.out (And.right (And.right (And.right (And.right (by assumption))))))).mono ?_; rintro e w' ⟨rfl,hb⟩) | (go_at_call_of 123 ra; refine (HI1.out _ (tab_below HT2.out (And.right (And.right (And.right (And.right (by assumption))))))).mono ?_; rintro e w' ⟨rfl,hb⟩) | (go_at_call_of 123 ca; refine (HI2.out _ (tab_below HT2.out (And.right (And.right (And.right (And.right (by assumption))))))).mono ?_; rintro e w' ⟨rfl,hb⟩))
  all_goals
   go_wp2
   go_ret
   refine ⟨ret_str (by simp),hBW.out.trans (Below.mono ?_ hBW.out.size)⟩
   rename_i hS
   exact hS.2.2.2.2
def sizedL (s : List UInt8) : List UInt8:=Lib.itoa s.length ++ [58] ++ s
theorem sized_any (s : ByteArray) (hs : s.size ≤ 9223372036854775000) (w : World) (ht : Tab w) :
 Calls Tryz.prog 92 #[.string s] w fun e w' => e = .returned (S (sizedL s.data.toList)) ∧ Below w.heap.size w w':=by
 have hi : i64 (s.size : Int):=by unfold i64; omega
 have l1:=itoa_le (s.size : Int) hi
 have hI:=itoa_any (s.size : Int) w hi ht
 have hl : s.data.toList.length = s.size:=by simp
 unfold sizedL
 rw [hl]
 generalize Lib.itoa (s.size : Int) = i1 at *
 have HI:=Jh hI
 have n1 : ¬ 9223372036854775807 < i1.length + 1:=by omega
 have n2 : ¬ 9223372036854775807 < i1.length + 1 + s.size:=by omega
 clear hI hl
 go_enter Tryz.func92,Tryz.ntmps92
 go_wp2_with (go_at_call 93; refine HI.out.mono ?_; rintro e w' ⟨rfl,hb⟩)
 go_ret
 refine ⟨?_,hb⟩
 have : (({ data:=i1.toArray } : ByteArray) ++ { data:=#[58] } ++ s) = ⟨(i1 ++ [58] ++ s.data.toList).toArray⟩:=by
  apply ByteArray.ext; simp [ByteArray.data_append]
 exact congrArg (fun x => Ending.returned (Value.string x)) this
end Go.Proofs.YtelombedjkbckaaGreatDoor
namespace Go.Proofs.YtelombedjkbckaaGreatDoor
set_option maxRecDepth 100000
set_option maxHeartbeats 2000000
open Go.RowKit Go.Shelf
def valL (v : Vl) : List UInt8 :=
 if v.k = 1 then [78] ++ Lib.itoa v.mant ++ [101] ++ Lib.itoa v.exp
 else if v.k = 2 then [83] ++ sizedL v.text.data.toList
 else if v.k = 3 then (if v.truth then [84] else [70])
 else [69] ++ Lib.itoa v.fault
theorem keepv {W w1 w2 : World} {g : Nat} {v1 v2 : Value} (hg : g < W.heap.size) (h : w1.cell? ⟨g, 1, none⟩ = some v1 ∧ w1.cell? ⟨g, 2, none⟩ = some v2 ∧ Below W.heap.size W w1) (hb : Below w1.heap.size w1 w2) :
 w2.cell? ⟨g,1,none⟩ = some v1 ∧ w2.cell? ⟨g,2,none⟩ = some v2 ∧ Below W.heap.size W w2:=by
 obtain ⟨h0,h1,h4⟩:=h
 have hlt : g < w1.heap.size:=Nat.lt_of_lt_of_le hg h4.size
 exact ⟨(hb.cell (p:=⟨g,1,none⟩) hlt).trans h0,(hb.cell (p:=⟨g,2,none⟩) hlt).trans h1,h4.trans (hb.mono h4.size)⟩
theorem codeOfValue1 (m x f : Int) (s : ByteArray) (b : Bool) (hm : i64 m) (hx : i64 x) (w : World) (ht : Tab w) :
 Calls Tryz.prog 90 #[.agg #[.int .i64 1,.int .i64 m,.int .i64 x,.string s,.bool b,.int .i64 f]] w fun e w' => e = .returned (S ([78] ++ Lib.itoa m ++ [101] ++ Lib.itoa x)) ∧ Below w.heap.size w w':=by
 have l1:=itoa_le m hm
 have l2:=itoa_le x hx
 have HT2:=Jh (tab_alloc ht (.cells #[.int .i64 1,.int .i64 m,.int .i64 x,.string s,.bool b,.int .i64 f] 34))
 have hIA:=fun w (h : Tab w) => itoa_any m w hm h
 have hIN:=fun w (h : Tab w) => itoa_any x w hx h
 generalize Lib.itoa m = la at *
 generalize Lib.itoa x = ln at *
 have HIA:=Jh hIA
 have HIN:=Jh hIN
 clear hIA hIN ht hm hx
 go_enter Tryz.func90,Tryz.ntmps90
 go_wp2_with fail
 generalize hW : w.alloc (.cells _ 34) = W at HT2 ⊢
 have k0 : W.cell? ⟨w.heap.size,1,none⟩ = some (.int .i64 m):=by rw [← hW]; simp
 have k1 : W.cell? ⟨w.heap.size,2,none⟩ = some (.int .i64 x):=by rw [← hW]; simp
 have HW:=Jh hW
 clear hW
 have hgW : w.heap.size < W.heap.size:=by rw [← HW.out]; simp
 have hBW:=Jh (show Below w.heap.size w W by rw [← HW.out]; exact (Below.refl _ _).alloc (Nat.le_refl _) _)
 have hb0 : Below W.heap.size W W.drew:=(Below.refl _ _).drew
 have n1 : ¬ 9223372036854775807 < 1 + la.length:=by omega
 have n2 : ¬ 9223372036854775807 < 1 + la.length + 1:=by omega
 have n3 : ¬ 9223372036854775807 < 1 + la.length + 1 + ln.length:=by omega
 go_region_held3 (fun w' => w'.cell? ⟨w.heap.size,1,none⟩ = some (.int .i64 m) ∧ w'.cell? ⟨w.heap.size,2,none⟩ = some (.int .i64 x) ∧ Below W.heap.size W w') (first | exact ⟨k0,k1,hb0⟩ | assumption | exact keepv hgW (by assumption) (by assumption))
  (first | (go_at_call_of 93 m; refine (HIA.out _ (tab_below HT2.out (And.right (And.right (by assumption))))).mono ?_; rintro e w' ⟨rfl,hb⟩) | (go_at_call_of 93 x; refine (HIN.out _ (tab_below HT2.out (And.right (And.right (by assumption))))).mono ?_; rintro e w' ⟨rfl,hb⟩))
 all_goals
  go_wp2
  go_ret
  refine ⟨ret_str (by simp),hBW.out.trans (Below.mono ?_ hBW.out.size)⟩
  rename_i hS
  exact hS.2.2
theorem codeOfValue_any (v : Vl) (hv : v.ok) (hs : v.text.size ≤ 9223372036854000000) (w : World) (ht : Tab w) :
 Calls Tryz.prog 90 #[.agg #[.int .i64 v.k,.int .i64 v.mant,.int .i64 v.exp,.string v.text,.bool v.truth,.int .i64 v.fault]] w fun e w' => e = .returned (S (valL v)) ∧ Below w.heap.size w w':=by
 obtain ⟨k,m,x,s,b,f⟩:=v
 obtain ⟨_,hm,hx,_,hf⟩:=hv
 dsimp only at hs hm hx hf ⊢
 unfold valL
 dsimp only
 by_cases h1 : k = 1
 · subst h1
   exact codeOfValue1 m x f s b hm hx w ht
 rw [if_neg h1]
 have hBW : Below w.heap.size w (w.alloc (.cells #[.int .i64 k,.int .i64 m,.int .i64 x,.string s,.bool b,.int .i64 f] 34)):=(Below.refl _ _).alloc (Nat.le_refl _) _
 have htW:=tab_below ht hBW
 by_cases h2 : k = 2
 · subst h2
   rw [if_pos rfl]
   have hI:=sized_any s (by omega) _ htW
   have hl : (sizedL s.data.toList).length ≤ s.size + 22:=by
    have:=itoa_le (s.data.toList.length : Int) (by unfold i64; simp; omega)
    have h3 : s.data.toList.length = s.size:=by simp
    unfold sizedL; simp only [List.length_append,List.length_singleton]; omega
   generalize sizedL s.data.toList = l at *
   have HI:=Jh hI
   have HB:=Jh hBW
   have n1 : ¬ 9223372036854775807 < 1 + l.length:=by omega
   clear hI hBW htW ht hm hx hf h1
   go_enter Tryz.func90,Tryz.ntmps90
   go_wp2_with (go_at_call 92; refine HI.out.mono ?_; rintro e w' ⟨rfl,hb⟩)
   go_ret
   exact ⟨ret_str (by simp),HB.out.trans (hb.mono HB.out.size)⟩
 rw [if_neg h2]
 by_cases h3 : k = 3
 · subst h3
   rw [if_pos rfl]
   have HB:=Jh hBW
   clear hBW htW ht hm hx hf h1 h2
   cases b
   all_goals
    go_enter Tryz.func90,Tryz.ntmps90
    go_wp2
    go_ret
    exact ⟨rfl,HB.out⟩
 rw [if_neg h3]
 have hI:=itoa_any f _ hf htW
 have l1:=itoa_le f hf
 generalize Lib.itoa f = l at *
 have HI:=Jh hI
 have HB:=Jh hBW
 have n1 : ¬ 9223372036854775807 < 1 + l.length:=by omega
 clear hI hBW htW ht hm hx hf
 go_enter Tryz.func90,Tryz.ntmps90
 go_wp2_with (go_at_call 93; refine HI.out.mono ?_; rintro e w' ⟨rfl,hb⟩)
 go_ret
 exact ⟨ret_str (by simp),HB.out.trans (hb.mono HB.out.size)⟩
end Go.Proofs.YtelombedjkbckaaGreatDoor
