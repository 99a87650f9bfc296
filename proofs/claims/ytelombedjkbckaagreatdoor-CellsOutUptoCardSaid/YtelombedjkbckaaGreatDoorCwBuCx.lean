/- tree.codeOf. strings.Builder: copyCheck,WriteString,WriteByte,with what they leave alone. tree.Code. -/
import Derived.Test.YtelombedjkbckaaGreatDoorCoCpCv
import Derived.Test.YtelombedjkbckaaGreatDoorOvNoGtCu
import Derived.Test.YtelombedjkbckaaGreatDoorShelfCa
import Derived.Lib.Builder
import Derived.Lib.AppendStr
import Derived.Lib.UnsafeStr
import Derived.Lib.Walk
import Derived.Lib.Slices
import Derived.RangeFuncNested
import Derived.Test.YtelombedjkbckaaGreatDoorRiCkXbNwPyPmPnPfMg
import Derived.RangeFuncCalls
namespace Go.Proofs.YtelombedjkbckaaGreatDoor
set_option maxRecDepth 100000
set_option maxHeartbeats 4000000
open Go.RowKit Go.Shelf
def partL (d : ND) (n : Nat) : List UInt8 :=
 if d.kind = 0 then valL d.v
 else if d.kind = 1 then [79] ++ cornerL d.a
 else if d.kind = 3 then [80] ++ cornerL d.a
 else if d.kind = 2 then [82] ++ cornerL d.a ++ [58] ++ cornerL d.b
 else if d.kind = 4 then [67] ++ sizedL d.name.data.toList ++ [44] ++ Lib.itoa n
 else if d.kind = 5 then [85] ++ d.name.data.toList
 else if d.kind = 6 then [66] ++ d.name.data.toList
 else if d.kind = 7 then [77] ++ sizedL d.name.data.toList
 else if d.kind = 8 then [65] ++ Lib.itoa d.rows ++ [44] ++ Lib.itoa n
 else [88]
theorem sized_le (s : ByteArray) (hs : s.size ≤ 9223372036854000000) : (sizedL s.data.toList).length ≤ s.size + 22:=by
 have:=itoa_le (s.data.toList.length : Int) (by unfold i64; simp; omega)
 have h3 : s.data.toList.length = s.size:=by simp
 unfold sizedL; simp only [List.length_append,List.length_singleton]; omega
theorem belowT {C : Prop} {w w1 w2 : World} (h : C ∧ Below w.heap.size w w1) (hb : Below w1.heap.size w1 w2) : Below w.heap.size w w2:=h.2.trans (hb.mono h.2.size)
theorem codeOf_any (w : World) (b o : Nat) (d : ND) (A : Option Addr) (n c : Nat) (h : NodeCells w b o d A n c) (hd : d.ok) (hn : n ≤ 9223372036854775807) (hs1 : d.v.text.size ≤ 9223372036854000000) (hs2 : d.name.size ≤ 9223372036854000000) (ht : Tab w) :
 Calls Tryz.prog 64 #[.pointer (some ⟨b,o,none⟩)] w fun e w' => e = .returned (S (partL d n)) ∧ Below w.heap.size w w':=by
 obtain ⟨h0,h1,h2,h3,h4,h5,h6,h7,h8,h9,h10,h11,h12,h13,h14,h15,h16,h17,h18,h19,h20,h21⟩:=h.all
 have hbw : b < w.heap.size:=World.block_lt_of_cell? w _ h0
 have hV:=fun w (h : Tab w) => codeOfValue_any d.v hd.2.1 hs1 w h
 have hA:=fun w (h : Tab w) => codeOfCorner_any d.a hd.2.2.2.1 w h
 have hB:=fun w (h : Tab w) => codeOfCorner_any d.b hd.2.2.2.2.1 w h
 have lA:=corner_le d.a hd.2.2.2.1
 have lB:=corner_le d.b hd.2.2.2.2.1
 have hS:=fun w (h : Tab w) => sized_any d.name (by omega) w h
 have lS:=sized_le d.name hs2
 have hin : i64 (n : Int):=by unfold i64; omega
 have hI:=fun w (h : Tab w) => itoa_any (n : Int) w hin h
 have lI:=itoa_le (n : Int) hin
 have hR:=fun w (h : Tab w) => itoa_any d.rows w hd.2.2.2.2.2 h
 have lR:=itoa_le d.rows hd.2.2.2.2.2
 unfold partL
 obtain ⟨kind,v,name,a,q,rows⟩:=d
 dsimp only at h0 h1 h2 h3 h4 h5 h6 h7 h8 h9 h10 h11 h12 h13 h14 h15 h16 h17 h18 h19 h20 h21 hV hA hB lA lB hS lS hI hR lR hs1 hs2 ⊢
 have hnm : name.data.toList.length = name.size:=by simp
 generalize valL v = lv at *
 generalize cornerL a = ca at *
 generalize cornerL q = cq at *
 generalize sizedL name.data.toList = sn at *
 generalize Lib.itoa (n : Int) = li at *
 generalize Lib.itoa rows = lr at *
 have HV:=Jh hV
 have HA:=Jh hA
 have HB:=Jh hB
 have HS:=Jh hS
 have HI:=Jh hI
 have HR:=Jh hR
 have HT:=Jh ht
 clear hV hA hB hS hI hR ht h hd hin
 by_cases k0 : kind = 0
 · subst k0
   rw [if_pos rfl]
   go_enter Tryz.func64,Tryz.ntmps64
   go_wp2_with (go_at_call 90; refine (HV.out _ HT.out).mono ?_; rintro e w' ⟨rfl,hb⟩)
   go_ret
   exact ⟨rfl,hb⟩
 rw [if_neg k0]
 by_cases k1 : kind = 1
 · subst k1
   rw [if_pos rfl]
   have n1 : ¬ 9223372036854775807 < 1 + ca.length:=by omega
   go_enter Tryz.func64,Tryz.ntmps64
   go_wp2_with (go_at_call 91; refine (HA.out _ HT.out).mono ?_; rintro e w' ⟨rfl,hb⟩)
   go_ret
   exact ⟨ret_str (by simp),hb⟩
 rw [if_neg k1]
 by_cases k3 : kind = 3
 · subst k3
   rw [if_pos rfl]
   have n1 : ¬ 9223372036854775807 < 1 + ca.length:=by omega
   go_enter Tryz.func64,Tryz.ntmps64
   go_wp2_with (go_at_call 91; refine (HA.out _ HT.out).mono ?_; rintro e w' ⟨rfl,hb⟩)
   go_ret
   exact ⟨ret_str (by simp),hb⟩
 rw [if_neg k3]
 by_cases k2 : kind = 2
 · subst k2
   rw [if_pos rfl]
   have n1 : ¬ 9223372036854775807 < 1 + ca.length:=by omega
   have n2 : ¬ 9223372036854775807 < 1 + ca.length + 1:=by omega
   have n3 : ¬ 9223372036854775807 < 1 + ca.length + 1 + cq.length:=by omega
   have hso : ∀ wx,Below w.heap.size w wx → (wx.cell? ⟨b,o + 8,none⟩ = some (.int .i64 a.ra) ∧ wx.cell? ⟨b,o + 9,none⟩ = some (.int .i64 a.rn) ∧ wx.cell? ⟨b,o + 10,none⟩ = some (.int .i64 a.ca) ∧ wx.cell? ⟨b,o + 11,none⟩ = some (.int .i64 a.cn) ∧ wx.cell? ⟨b,o + 12,none⟩ = some (.bool a.fr) ∧ wx.cell? ⟨b,o + 13,none⟩ = some (.bool a.fc) ∧ wx.cell? ⟨b,o + 14,none⟩ = some (.int .i64 q.ra) ∧ wx.cell? ⟨b,o + 15,none⟩ = some (.int .i64 q.rn) ∧ wx.cell? ⟨b,o + 16,none⟩ = some (.int .i64 q.ca) ∧ wx.cell? ⟨b,o + 17,none⟩ = some (.int .i64 q.cn) ∧ wx.cell? ⟨b,o + 18,none⟩ = some (.bool q.fr) ∧ wx.cell? ⟨b,o + 19,none⟩ = some (.bool q.fc)) ∧ Below w.heap.size w wx:=fun wx hx => ⟨⟨(hx.cell (p:=⟨b,o + 8,none⟩) hbw).trans h8,(hx.cell (p:=⟨b,o + 9,none⟩) hbw).trans h9,(hx.cell (p:=⟨b,o + 10,none⟩) hbw).trans h10,(hx.cell (p:=⟨b,o + 11,none⟩) hbw).trans h11,(hx.cell (p:=⟨b,o + 12,none⟩) hbw).trans h12,(hx.cell (p:=⟨b,o + 13,none⟩) hbw).trans h13,(hx.cell (p:=⟨b,o + 14,none⟩) hbw).trans h14,(hx.cell (p:=⟨b,o + 15,none⟩) hbw).trans h15,(hx.cell (p:=⟨b,o + 16,none⟩) hbw).trans h16,(hx.cell (p:=⟨b,o + 17,none⟩) hbw).trans h17,(hx.cell (p:=⟨b,o + 18,none⟩) hbw).trans h18,(hx.cell (p:=⟨b,o + 19,none⟩) hbw).trans h19⟩,hx⟩
   have HSO:=Jh hso
   have hb0 : Below w.heap.size w w.drew:=(Below.refl _ _).drew
   clear hso
   go_enter Tryz.func64,Tryz.ntmps64
   go_wp2
   go_region_held3 (fun wx => (wx.cell? ⟨b,o + 8,none⟩ = some (.int .i64 a.ra) ∧ wx.cell? ⟨b,o + 9,none⟩ = some (.int .i64 a.rn) ∧ wx.cell? ⟨b,o + 10,none⟩ = some (.int .i64 a.ca) ∧ wx.cell? ⟨b,o + 11,none⟩ = some (.int .i64 a.cn) ∧ wx.cell? ⟨b,o + 12,none⟩ = some (.bool a.fr) ∧ wx.cell? ⟨b,o + 13,none⟩ = some (.bool a.fc) ∧ wx.cell? ⟨b,o + 14,none⟩ = some (.int .i64 q.ra) ∧ wx.cell? ⟨b,o + 15,none⟩ = some (.int .i64 q.rn) ∧ wx.cell? ⟨b,o + 16,none⟩ = some (.int .i64 q.ca) ∧ wx.cell? ⟨b,o + 17,none⟩ = some (.int .i64 q.cn) ∧ wx.cell? ⟨b,o + 18,none⟩ = some (.bool q.fr) ∧ wx.cell? ⟨b,o + 19,none⟩ = some (.bool q.fc)) ∧ Below w.heap.size w wx) (first | exact HSO.out _ hb0 | exact HSO.out _ (belowT (by assumption) (by assumption)))
    (first | (go_at_call_of 91 (a.ra); refine (HA.out _ (tab_below HT.out (And.right (by assumption)))).mono ?_; rintro e w' ⟨rfl,hb⟩) | (go_at_call_of 91 (q.ra); refine (HB.out _ (tab_below HT.out (And.right (by assumption)))).mono ?_; rintro e w' ⟨rfl,hb⟩))
   all_goals
    go_wp2
    go_ret
    refine ⟨ret_str (by simp),?_⟩
    rename_i hS
    exact hS.2
 rw [if_neg k2]
 by_cases k4 : kind = 4
 · subst k4
   rw [if_pos rfl]
   have n1 : ¬ 9223372036854775807 < 1 + sn.length:=by omega
   have n2 : ¬ 9223372036854775807 < 1 + sn.length + 1:=by omega
   have n3 : ¬ 9223372036854775807 < 1 + sn.length + 1 + li.length:=by omega
   have hso : ∀ wx,Below w.heap.size w wx → (wx.cell? ⟨b,o + 7,none⟩ = some (.string name) ∧ wx.cell? ⟨b,o + 21,none⟩ = some (.slice A n c)) ∧ Below w.heap.size w wx:=fun wx hx => ⟨⟨(hx.cell (p:=⟨b,o + 7,none⟩) hbw).trans h7,(hx.cell (p:=⟨b,o + 21,none⟩) hbw).trans h21⟩,hx⟩
   have HSO:=Jh hso
   have hb0 : Below w.heap.size w w.drew:=(Below.refl _ _).drew
   clear hso
   go_enter Tryz.func64,Tryz.ntmps64
   go_wp2
   go_region_held3 (fun wx => (wx.cell? ⟨b,o + 7,none⟩ = some (.string name) ∧ wx.cell? ⟨b,o + 21,none⟩ = some (.slice A n c)) ∧ Below w.heap.size w wx) (first | exact HSO.out _ hb0 | exact HSO.out _ (belowT (by assumption) (by assumption)))
    (first | (go_at_call 92; refine (HS.out _ (tab_below HT.out (And.right (by assumption)))).mono ?_; rintro e w' ⟨rfl,hb⟩) | (go_at_call 93; refine (HI.out _ (tab_below HT.out (And.right (by assumption)))).mono ?_; rintro e w' ⟨rfl,hb⟩))
   all_goals
    go_wp2
    go_ret
    refine ⟨ret_str (by simp),?_⟩
    rename_i hS
    exact hS.2
 rw [if_neg k4]
 by_cases k5 : kind = 5
 · subst k5
   rw [if_pos rfl]
   have n1 : ¬ 9223372036854775807 < 1 + name.size:=by omega
   go_enter Tryz.func64,Tryz.ntmps64
   go_wp2
   go_ret
   refine ⟨?_,Below.refl _ _⟩
   have : (({ data:=#[85] } : ByteArray) ++ name) = ⟨([85] ++ name.data.toList).toArray⟩:=by apply ByteArray.ext; simp [ByteArray.data_append]
   exact congrArg (fun x => Ending.returned (Value.string x)) this
 rw [if_neg k5]
 by_cases k6 : kind = 6
 · subst k6
   rw [if_pos rfl]
   have n1 : ¬ 9223372036854775807 < 1 + name.size:=by omega
   go_enter Tryz.func64,Tryz.ntmps64
   go_wp2
   go_ret
   refine ⟨?_,Below.refl _ _⟩
   have : (({ data:=#[66] } : ByteArray) ++ name) = ⟨([66] ++ name.data.toList).toArray⟩:=by apply ByteArray.ext; simp [ByteArray.data_append]
   exact congrArg (fun x => Ending.returned (Value.string x)) this
 rw [if_neg k6]
 by_cases k7 : kind = 7
 · subst k7
   rw [if_pos rfl]
   have n1 : ¬ 9223372036854775807 < 1 + sn.length:=by omega
   go_enter Tryz.func64,Tryz.ntmps64
   go_wp2_with (go_at_call 92; refine (HS.out _ HT.out).mono ?_; rintro e w' ⟨rfl,hb⟩)
   go_ret
   exact ⟨ret_str (by simp),hb⟩
 rw [if_neg k7]
 by_cases k8 : kind = 8
 · subst k8
   rw [if_pos rfl]
   have n1 : ¬ 9223372036854775807 < 1 + lr.length:=by omega
   have n2 : ¬ 9223372036854775807 < 1 + lr.length + 1:=by omega
   have n3 : ¬ 9223372036854775807 < 1 + lr.length + 1 + li.length:=by omega
   have hso : ∀ wx,Below w.heap.size w wx → (wx.cell? ⟨b,o + 20,none⟩ = some (.int .i64 rows) ∧ wx.cell? ⟨b,o + 21,none⟩ = some (.slice A n c)) ∧ Below w.heap.size w wx:=fun wx hx => ⟨⟨(hx.cell (p:=⟨b,o + 20,none⟩) hbw).trans h20,(hx.cell (p:=⟨b,o + 21,none⟩) hbw).trans h21⟩,hx⟩
   have HSO:=Jh hso
   have hb0 : Below w.heap.size w w.drew:=(Below.refl _ _).drew
   clear hso
   go_enter Tryz.func64,Tryz.ntmps64
   go_wp2
   go_region_held3 (fun wx => (wx.cell? ⟨b,o + 20,none⟩ = some (.int .i64 rows) ∧ wx.cell? ⟨b,o + 21,none⟩ = some (.slice A n c)) ∧ Below w.heap.size w wx) (first | exact HSO.out _ hb0 | exact HSO.out _ (belowT (by assumption) (by assumption)))
    (first | (go_at_call_of 93 rows; refine (HR.out _ (tab_below HT.out (And.right (by assumption)))).mono ?_; rintro e w' ⟨rfl,hb⟩) | (go_at_call_of 93 n; refine (HI.out _ (tab_below HT.out (And.right (by assumption)))).mono ?_; rintro e w' ⟨rfl,hb⟩))
   all_goals
    go_wp2
    go_ret
    refine ⟨ret_str (by simp),?_⟩
    rename_i hS
    exact hS.2
 rw [if_neg k8]
 go_enter Tryz.func64,Tryz.ntmps64
 go_wp2
 go_ret
 exact ⟨rfl,Below.refl _ _⟩
end Go.Proofs.YtelombedjkbckaaGreatDoor
namespace Go.Proofs.YtelombedjkbckaaGreatDoor
set_option maxRecDepth 100000
set_option maxHeartbeats 2000000
open Go.RowKit Go.Shelf
theorem undPB : Tryz.prog.underlying 103 = some (.pointer 106):=by kernel_rfl
theorem undUP : Tryz.prog.underlying 177 = some .unsafePointer:=by kernel_rfl
theorem infB : (Tryz.prog.info? 106).map (·.size) = some 2:=by kernel_rfl
theorem liesB : liesAt Tryz.prog Tryz.prog.depth 106 (2 / Tryz.prog.cellsOf 106) 0 106 1 = true:=by kernel_rfl
theorem copyCheck_fresh (b : Nat) (w : World) (h0 : w.cell? ⟨b, 0, none⟩ = some (.pointer none)) (hsh : w.shape? b = some (106, 2)) (hfz : w.frozen? ⟨b, 0, none⟩ = false) :
 Calls Tryz.prog 89 #[.pointer (some ⟨b,0,none⟩)] w fun e w' => e = .returned (.tuple #[]) ∧ w' = w.setCell ⟨b,0,none⟩ (.pointer (some ⟨b,0,none⟩)):=by
 obtain ⟨j,hj,hjs⟩:=Option.map_eq_some_iff.1 infB
 go_enter Tryz.func89,Tryz.ntmps89
 go_wp2
 rw [Lib.run_to_unsafe w ⟨b,0,none⟩ undPB undUP hj (by rw [hjs]; decide) hsh (Nat.zero_lt_succ 1)]
 simp only [Result.andThen]
 rw [Oper.upon_value]
 go_wp2
 rw [run_callFunc_extern Tryz.func122 (by kernel_rfl) (by kernel_rfl) (by kernel_rfl) (e:=Extern.AbiNoEscape.same) (by kernel_rfl)]
 rw [Lib.run_noEscape]
 simp only [Result.andThen]
 rw [Oper.upon_value]
 go_wp2
 rw [Lib.run_from_unsafe w ⟨b,0,none⟩ undUP undPB hj hsh liesB]
 simp only [Result.andThen]
 rw [Oper.upon_value]
 go_wp2
 go_end0
 exact ⟨rfl,rfl⟩
theorem copyCheck_used (b : Nat) (w : World) (h0 : w.cell? ⟨b, 0, none⟩ = some (.pointer (some ⟨b, 0, none⟩))) :
 Calls Tryz.prog 89 #[.pointer (some ⟨b,0,none⟩)] w fun e w' => e = .returned (.tuple #[]) ∧ w' = w:=by
 obtain ⟨j,hj,_⟩:=Option.map_eq_some_iff.1 infB
 go_enter Tryz.func89,Tryz.ntmps89
 go_wp2
 rw [Lib.run_neq_ptr_same w _ undPB hj]
 go_wp2
 go_end0
 exact ⟨rfl,rfl⟩
def KeepB (b : Nat) (w w' : World) : Prop:=∀ k o,w.heap[k]? = some o → (∀ cs fz,o ≠ .cells cs 5 fz) → k ≠ b → w'.heap[k]? = some o
theorem KeepB.refl (b : Nat) (w : World) : KeepB b w w:=fun _ _ h _ _ => h
theorem KeepB.trans {b : Nat} {w w' w'' : World} (h : KeepB b w w') (k : KeepB b w' w'') : KeepB b w w'':=fun i o hi ho hb => k i o (h i o hi ho hb) ho hb
theorem KeepB.setCell {b j : Nat} {w : World} (v : Value) : KeepB b w (w.setCell ⟨b,j,none⟩ v):=fun k _ h _ hb => (Go.heap_setCell_other w ⟨b,j,none⟩ k v hb).trans h
theorem KeepB.alloc {b : Nat} {w : World} (o : Obj) : KeepB b w (w.alloc o):=fun k _ h _ _ => (heapOld w o k (Jg h).1).trans h
theorem KeepB.grown {b B n size : Nat} {w w' : World} {v : Value} {xs : List Value} (hown : w.ownsRow B 5 size v n xs) (hg : w.grownBy w' v.ownBlock) : KeepB b w w':=fun k o h ho _ => by
 refine (hg.block k (Jg h).1 (fun e => ?_)).trans h
 rcases hown.2 with ⟨rfl,_⟩ | ⟨g,cap,cur,rfl,_,hgg,_⟩
 · cases e
 · simp only [Value.ownBlock,Option.some.injEq] at e
   subst e
   rw [h] at hgg
   exact ho _ _ (Option.some.inj hgg)
theorem copyCheck_any (B b : Nat) (bs : List Value) (w : World) (h : Lib.IsBuilder 106 5 B b bs w) :
 Calls Tryz.prog 89 #[.pointer (some ⟨b,0,none⟩)] w fun e w' => e = .returned (.tuple #[]) ∧ Lib.BuilderAt 106 5 B b (.pointer (some ⟨b,0,none⟩)) bs w' ∧ Below B w w' ∧ KeepB b w w':=by
 rcases h with h | h
 · refine (copyCheck_fresh b w h.cell0 h.shape h.frozen0).mono ?_
   rintro e w' ⟨rfl,rfl⟩
   obtain ⟨hB,v,hb,hown,hne⟩:=h
   refine ⟨rfl,⟨hB,v,?_,?_,hne⟩,(Below.refl _ _).setCell (p:=⟨b,0,none⟩) hB _,KeepB.setCell _⟩
   · exact heap_setCell_same w b 0 _ _ _ hb
   · exact hown.kept (grownBy_setCell' w b _) (.inr hne)
 · refine (copyCheck_used b w h.cell0).mono ?_
   rintro e w' ⟨rfl,rfl⟩
   exact ⟨rfl,h,Below.refl _ _,KeepB.refl _ _⟩
theorem infY : (Tryz.prog.info? 5).map (fun i => (i.zero,i.size,i.bytes)) = some (some (.int .u8 0),1,1):=by kernel_rfl
theorem undYs : Tryz.prog.underlying 104 = some (.slice 5):=by kernel_rfl
theorem undS : Tryz.prog.underlying 9 = some .string:=by kernel_rfl
theorem writeByte_any (B b : Nat) (bs : List Value) (c : Int) (w : World) (h : Lib.IsBuilder 106 5 B b bs w) (hlen : bs.length + 1 ≤ 140737488355328) (hBw : B ≤ w.heap.size) :
 Calls Tryz.prog 65 #[.pointer (some ⟨b,0,none⟩),.int .u8 c] w fun e w' => e = .returned .nilIface ∧ Lib.BuilderAt 106 5 B b (.pointer (some ⟨b,0,none⟩)) (bs ++ [.int .u8 c]) w' ∧ Below B w w' ∧ KeepB b w w':=by
 obtain ⟨i0,hi,hz0,hz1,hz2⟩:=info_parts infY
 go_enter Tryz.func65,Tryz.ntmps65
 go_wp2_with (go_at_call 89; refine (copyCheck_any B b bs _ h).mono ?_)
 rintro e w1 ⟨rfl,h1,hb1,hk1⟩
 obtain ⟨hB,v,hbk,hown,hne⟩:=h1
 have c0 : w1.cell? ⟨b,0,none⟩ = some (.pointer (some ⟨b,0,none⟩)):=by rw [Lib.cell_of_heap hbk]; rfl
 have c1 : w1.cell? ⟨b,1,none⟩ = some v:=by rw [Lib.cell_of_heap hbk]; rfl
 go_wp2_with (at_builtin; refine wpList_append_own _ rfl _ _ 104 rfl B 5 i0 (.int .u8 0) 1 1 undYs hi hz0 hz1 hz2 rfl (by decide) _ _ _ rfl (hown.alloc _) ⟨w1.heap.size,0,none⟩ 1 1 [.int .u8 c] rfl rfl ?c1 ?c2 ?c3 ?c4 ?c5 ?_)
 case c1 =>
  intro j u hj
  match j,hj with
  | 0,hj => simp at hj; subst hj; simp [Addr.add]
 case c2 => intro u hu; simp at hu; subst hu; rfl
 case c3 => unfold maxLen; omega
 case c4 => omega
 case c5 => have:=hb1.size; simp; omega
 intro v' w2 hown' hgrow _
 have hlt : b < w1.heap.size:=(Jg hbk).1
 have hb2 : w2.heap[b]? = some (.cells #[.pointer (some ⟨b,0,none⟩),v] 106 (0,0)):=by
  rw [hgrow.block b (by simp; omega) (fun e => hne e.symm),heapOld w1 _ b hlt]
  exact hbk
 have d0 : w2.cell? ⟨b,0,none⟩ = some (.pointer (some ⟨b,0,none⟩)):=by rw [Lib.cell_of_heap hb2]; rfl
 have d1 : w2.cell? ⟨b,1,none⟩ = some v:=by rw [Lib.cell_of_heap hb2]; rfl
 have f1 : w2.frozen? ⟨b,1,none⟩ = false:=Lib.frozen_of_heap hb2 1
 obtain ⟨g,cap,rfl⟩ : ∃ g cap,v' = .slice (some ⟨g,0,none⟩) (bs.length + 1) cap:=by
  rcases hown'.2 with ⟨_,h0⟩ | ⟨g,cap,cur,hv,_⟩
  · omega
  · exact ⟨g,cap,hv⟩
 go_wp2
 go_ret
 refine ⟨rfl,?_,?_,?_⟩
 · exact Lib.BuilderAt.put (T:=106) (e:=5) hB hb2 (bs':=bs ++ [.int .u8 c]) (by simpa using hown') (by decide)
 · exact ((hb1.alloc (by have:=hb1.size; omega) _).grown hgrow (by have:=hb1.size; simp; omega) (fun k hk => (hown.lt k hk).1)).setCell (p:=⟨b,1,none⟩) hB _
 · exact ((hk1.trans (KeepB.alloc _)).trans (KeepB.grown (hown.alloc _) hgrow)).trans (KeepB.setCell _)
theorem writeString_any (B b : Nat) (bs : List Value) (s : ByteArray) (w : World) (h : Lib.IsBuilder 106 5 B b bs w) (hlen : bs.length + s.size ≤ 140737488355328) (hBw : B ≤ w.heap.size) :
 Calls Tryz.prog 63 #[.pointer (some ⟨b,0,none⟩),.string s] w fun e w' => e = .returned (.tuple #[.int .i64 s.size,.nilIface]) ∧ Lib.BuilderAt 106 5 B b (.pointer (some ⟨b,0,none⟩)) (bs ++ Lib.strCells s) w' ∧ Below B w w' ∧ KeepB b w w':=by
 obtain ⟨i0,hi,hz0,hz1,hz2⟩:=info_parts infY
 go_enter Tryz.func63,Tryz.ntmps63
 go_wp2_with (go_at_call 89; refine (copyCheck_any B b bs _ h).mono ?_)
 rintro e w1 ⟨rfl,h1,hb1,hk1⟩
 obtain ⟨hB,v,hbk,hown,hne⟩:=h1
 have c0 : w1.cell? ⟨b,0,none⟩ = some (.pointer (some ⟨b,0,none⟩)):=by rw [Lib.cell_of_heap hbk]; rfl
 have c1 : w1.cell? ⟨b,1,none⟩ = some v:=by rw [Lib.cell_of_heap hbk]; rfl
 go_wp2_with (at_builtin; refine Lib.wpList_append_own_string _ rfl _ _ 104 9 rfl B 5 i0 undYs undS hi hz0 hz1 hz2 _ _ _ rfl hown s rfl ?c3 ?c4 ?c5 ?_)
 case c3 => unfold maxLen; omega
 case c4 => omega
 case c5 => have:=hb1.size; omega
 intro v' w2 hown' hgrow _
 have hlt : b < w1.heap.size:=(Jg hbk).1
 have hb2 : w2.heap[b]? = some (.cells #[.pointer (some ⟨b,0,none⟩),v] 106 (0,0)):=by
  rw [hgrow.block b hlt (fun e => hne e.symm)]
  exact hbk
 have d0 : w2.cell? ⟨b,0,none⟩ = some (.pointer (some ⟨b,0,none⟩)):=by rw [Lib.cell_of_heap hb2]; rfl
 have d1 : w2.cell? ⟨b,1,none⟩ = some v:=by rw [Lib.cell_of_heap hb2]; rfl
 have f1 : w2.frozen? ⟨b,1,none⟩ = false:=Lib.frozen_of_heap hb2 1
 obtain ⟨ao,n',cap,rfl⟩ : ∃ ao n' cap,v' = .slice ao n' cap:=by
  rcases hown'.2 with ⟨hv,_⟩ | ⟨g,cap,cur,hv,_⟩
  · exact ⟨_,_,_,hv⟩
  · exact ⟨_,_,_,hv⟩
 go_wp2
 go_ret2
 refine ⟨rfl,?_,?_,?_⟩
 · exact Lib.BuilderAt.put (T:=106) (e:=5) hB hb2 (bs':=bs ++ Lib.strCells s) (by simpa [Lib.strCells_length] using hown') (by decide)
 · exact (hb1.grown hgrow (by have:=hb1.size; omega) (fun k hk => (hown.lt k hk).1)).setCell (p:=⟨b,1,none⟩) hB _
 · exact (hk1.trans (KeepB.grown hown hgrow)).trans (KeepB.setCell _)
end Go.Proofs.YtelombedjkbckaaGreatDoor
namespace Go.Proofs.YtelombedjkbckaaGreatDoor
set_option maxRecDepth 100000
set_option maxHeartbeats 2000000
open Go.RowKit Go.Shelf
attribute [local go_sem] Oper.semAt_some
def codeOne (d : ND) (n : Nat) : List UInt8:=partL d n ++ [59]
def codeL (t : Tr) : List UInt8:=t.nodes.flatMap fun x => codeOne x.d x.l.length
def codeP (l : List (AT × Nat)) : List UInt8:=l.flatMap fun x => codeOne x.1.d x.1.l.length
theorem items_nodes (t : AT) : ∀ k,(t.items k).map (fun p => p.1.tr) = t.tr.nodes:=by
 have key : ∀ n : Nat,∀ t : AT,t.tr.size ≤ n → ∀ k,(t.items k).map (fun p => p.1.tr) = t.tr.nodes:=by
  intro n
  induction n with
  | zero => intro t h; have:=t.tr.size_pos; omega
  | succ n ih =>
   intro t h k
   obtain ⟨b,o,d,l⟩:=t
   simp only [AT.tr,Tr.size] at h
   have : ∀ l : List AT,Tr.sizes (AT.trs l) ≤ n → (AT.itemss l (k + 1)).map (fun p => p.1.tr) = Tr.nodess (AT.trs l):=by
    intro l
    induction l with
    | nil => intro _; simp [AT.itemss,AT.trs,Tr.nodess]
    | cons a l ihl =>
     intro h
     simp only [AT.trs,Tr.sizes] at h
     simp only [AT.itemss,AT.trs,Tr.nodess,List.map_append]
     rw [ih a (by omega) (k + 1),ihl (by omega)]
   simp only [AT.items,AT.tr,Tr.nodes,List.map_cons]
   rw [this l (by omega)]
 exact fun k => key t.tr.size t (Nat.le_refl _) k
theorem AT.tr_d (t : AT) : t.tr.d = t.d:=by cases t; simp [AT.tr,Tr.d,AT.d]
theorem AT.tr_l (t : AT) : t.tr.l.length = t.l.length:=by cases t; simp [AT.tr,Tr.l,AT.l,AT.trs_map]
theorem codeP_items (t : AT) (k : Nat) : codeP (t.items k) = codeL t.tr:=by
 unfold codeP codeL
 rw [← items_nodes t k,List.flatMap_map]
 congr 1
 funext x
 simp only [AT.tr_d,AT.tr_l]
def Short (t : Tr) : Prop:=∀ x ∈ t.nodes,x.d.name.size ≤ 2000000 ∧ x.d.v.text.size ≤ 2000000
theorem nodes_kid {d : ND} {l : List Tr} {k : Tr} (hk : k ∈ l) : ∀ x ∈ k.nodes,x ∈ (Tr.mk d l).nodes:=by
 intro x hx
 simp only [Tr.nodes]
 refine List.mem_cons_of_mem _ ?_
 induction l with
 | nil => cases hk
 | cons a l ih =>
  simp only [Tr.nodess]
  rcases List.mem_cons.1 hk with rfl | hk
  · exact List.mem_append_left _ hx
  · exact List.mem_append_right _ (ih hk)
theorem self_mem (t : Tr) : t ∈ t.nodes:=by cases t; simp [Tr.nodes]
theorem short_hered : Hered (fun x => Short x.tr):=by
 intro x hx k hk y hy
 refine hx y ?_
 rw [AT.tr_eq x]
 exact nodes_kid (List.mem_map.2 ⟨k,hk,rfl⟩) y hy
theorem val_le (v : Vl) (hv : v.ok) (hs : v.text.size ≤ 2000000) : (valL v).length ≤ 2000100:=by
 have h1:=itoa_le v.mant hv.2.1
 have h2:=itoa_le v.exp hv.2.2.1
 have h3:=itoa_le v.fault hv.2.2.2.2
 have h4:=sized_le v.text (by omega)
 unfold valL
 split
 · simp; omega
 split
 · simp; omega
 split
 · split <;> simp
 · simp; omega
theorem part_le (d : ND) (n : Nat) (hd : d.ok) (hn : n ≤ 9223372036854775807) (h1 : d.name.size ≤ 2000000) (h2 : d.v.text.size ≤ 2000000) : (partL d n).length ≤ 2000300:=by
 have e1:=val_le d.v hd.2.1 h2
 have e2:=corner_le d.a hd.2.2.2.1
 have e3:=corner_le d.b hd.2.2.2.2.1
 have e4:=sized_le d.name (by omega)
 have e5:=itoa_le (n : Int) (by unfold i64; omega)
 have e6:=itoa_le d.rows hd.2.2.2.2.2
 have e7 : d.name.data.toList.length = d.name.size:=by simp
 unfold partL
 repeat (split; · simp; omega)
 simp
theorem isBuilder_keep {T e : TypeId} {B b : Nat} {bs : List Value} {W W' : World} (h : Lib.IsBuilder T e B b bs W) (hk : ∀ (k : Nat) (cs : Array Value) (t : TypeId) (fz : Nat × Nat),W.heap[k]? = some (Obj.cells cs t fz) → (t = T ∨ t = e) → W'.heap[k]? = W.heap[k]?) : Lib.IsBuilder T e B b bs W':=by
 have key : ∀ p,Lib.BuilderAt T e B b p bs W → Lib.BuilderAt T e B b p bs W':=by
  rintro p ⟨hB,v,hb,hown,hne⟩
  refine ⟨hB,v,(hk b _ _ _ hb (.inl rfl)).trans hb,⟨hown.1,?_⟩,hne⟩
  rcases hown.2 with h | ⟨g,cap,cur,h1,h2,h3,h4⟩
  · exact .inl h
  · exact .inr ⟨g,cap,cur,h1,h2,(hk g _ _ _ h3 (.inr rfl)).trans h3,h4⟩
 exact h.elim (fun x => .inl (key _ x)) (fun x => .inr (key _ x))
def CInv {w : World} {B M : Nat} {p : AT → Prop} (b : Nat) (W0 : World) (pre : List (Itm w B M p)) (W : World) : Prop :=
 Lib.IsBuilder 106 5 b b (Lib.byteCells (codeP (pre.map (·.1)))) W ∧ Below b W0 W
theorem CInv.own {w : World} {B M : Nat} {p : AT → Prop} {b B' : Nat} {W0 : World} (hb : b ≤ W0.heap.size) (hB : b ≤ B') : OwnFrom B' (fun (pre : List (Itm w B M p)) W => CInv b W0 pre W) :=
 fun s A1 B1 r1 h hg hr => ⟨isBuilder_keep h.1 (fun k cs t fz hk _ => hg.block k (Jg hk).1 (fun e => by obtain ⟨_,o,ho,hc⟩:=hr k e.symm; rw [hk] at ho; cases ho; cases hc)),h.2.grown hg (by have:=h.2.size; omega) (fun k e => by have:=(hr k e).1; omega)⟩
theorem CInv.abides {w : World} {B M : Nat} {p : AT → Prop} {b B' : Nat} {W0 : World} (hb : b ≤ W0.heap.size) (hB : b ≤ B') : AbidesT 146 B' (fun (pre : List (Itm w B M p)) W => CInv b W0 pre W) :=
 fun s A1 B1 r1 h hg hr => ⟨isBuilder_keep h.1 (fun k cs t fz hk ht => hg.block k (Jg hk).1 (fun e => by obtain ⟨_,cs',fz',ho⟩:=hr k e.symm; rw [hk] at ho; cases ho; rcases ht with h | h <;> cases h)),h.2.grown hg (by have:=h.2.size; omega) (fun k e => by have:=(hr k e).1; omega)⟩
theorem KeepB.of_below {b : Nat} {w w' : World} (h : Below w.heap.size w w') : KeepB b w w':=fun k _ hk _ _ => (h.block k (Jg hk).1).trans hk
theorem KeepB.from {b B : Nat} {w w' : World} (h : KeepB b w w') (hs : w.heap.size ≤ w'.heap.size) (hb : b < B) : KeepsFrom B w w' :=
 ⟨hs,fun k o hk ho hc => h k o ho (fun cs fz e => by subst e; cases hc) (by omega)⟩
theorem KeepB.keepT {b n₀ : Nat} {bs : List Value} {w w' : World} (h : KeepB b w w') (hI : Lib.IsBuilder 106 5 n₀ b bs w) (hb : Below n₀ w w') : KeepT n₀ 146 w w':=by
 refine ⟨hb,fun r ⟨cs,fz,hr⟩ => ?_⟩
 rw [hr]
 refine h r _ hr (fun cs' fz' e => by cases e) (fun e => ?_)
 subst e
 rcases hI with ⟨_,v,hv,_⟩ | ⟨_,v,hv,_⟩ <;> (rw [hr] at hv; cases hv)
theorem codeP_snoc (l : List (AT × Nat)) (x : AT × Nat) : codeP (l ++ [x]) = codeP l ++ (partL x.1.d x.1.l.length ++ [59]):=by simp [codeP,codeOne]
theorem ATAt.ok_ {w : World} {B : Nat} {t : AT} (h : ATAt w B t) : t.d.ok:=by obtain ⟨b,o,d,l⟩:=t; simp only [ATAt] at h; exact h.2.1
theorem codeP_le {w : World} {B M : Nat} (pre : List (Itm w B M (fun x => Short x.tr))) : (codeP (pre.map (·.1))).length ≤ pre.length * 2000301:=by
 induction pre with
 | nil => simp [codeP]
 | cons x pre ih =>
  obtain ⟨h1,h2,h3⟩:=x.2
  obtain ⟨hb,A,c,hc,hl,hk,-⟩:=h1.cells_ (Below.refl _ _)
  have hs:=h3 _ (self_mem _)
  rw [AT.tr_d] at hs
  have:=part_le x.1.1.d x.1.1.l.length h1.ok_ (by omega) hs.1 hs.2
  simp only [codeP,codeOne,List.map_cons,List.flatMap_cons,List.length_append,List.length_cons,List.length_nil] at ih ⊢
  omega
theorem code_bad (w : World) (B : Nat) (hB : B ≤ w.heap.size) (t : Tr) (A : Option Addr) (c : Nat) (hd : t.d.ok) (hs : SlAt w B A c t.l) (hsz : t.size ≤ 1099511627776) (hck : ¬ checkI t = 0) :
 Calls Tryz.prog 40 #[nodeV t.d A t.l.length c] w fun e w' => e = .returned (.tuple #[S [],.int .i64 (checkI t)]) ∧ Below w.heap.size w w':=by
 have hC:=fun wx (hx : Below w.heap.size w wx) => check_c wx B (by have:=hx.size; omega) t A c hd (hs.below (hx.mono hB)) hsz
 obtain ⟨N,hN⟩ : ∃ N,N = nodeA t.d A t.l.length c:=⟨_,rfl⟩
 have hNs : N.size = 22:=by rw [hN]; rfl
 simp only [nodeV,← hN] at hC ⊢
 have hinf:=infN
 rw [← hNs] at hinf
 obtain ⟨ck,hk⟩ : ∃ ck,checkI t = ck:=⟨_,rfl⟩
 rw [hk] at hC hck ⊢
 have hq : (ck != 0) = true:=by simpa using hck
 have HIN:=Jh hinf
 have HC:=Jh hC
 have hb0 : Below w.heap.size w (w.alloc (.cells N 41)):=(Below.refl _ w).alloc (Nat.le_refl _) _
 have HB:=Jh hb0
 clear hC hinf hNs hN hd hs hb0 hk
 go_enter Tryz.func40,Tryz.ntmps40
 go_wp2_with (first | (refine wpList_row rfl 41 _ rfl w.heap.size rfl 41 N (0,0) _ (World.alloc_heap_new w _) undN rfl HIN.out ?_) | (go_at_call 48; refine (HC.out _ HB.out).mono ?_; rintro e w2 ⟨rfl,hbe⟩))
 go_ret2
 exact ⟨rfl,HB.out.trans (hbe.mono (by simp))⟩
theorem code_good (w : World) (B : Nat) (hB : B ≤ w.heap.size) (t : Tr) (A : Option Addr) (c : Nat) (hd : t.d.ok) (hs : SlAt w B A c t.l) (hsz : t.size ≤ 1099511627776) (hck : checkI t = 0) (hsh : Short t) (ht : Tab w) :
 Calls Tryz.prog 40 #[nodeV t.d A t.l.length c] w fun e w' => e = .returned (.tuple #[S (codeL t),.int .i64 0]) ∧ Below w.heap.size w w':=by
 have hC:=fun wx (hx : Below w.heap.size w wx) => check_c wx B (by have:=hx.size; omega) t A c hd (hs.below (hx.mono hB)) hsz
 rw [hck] at hC
 have HCK:=Jh hck
 have HD:=Jh hd
 have HS:=Jh hs
 have HT:=Jh ht
 have HSH:=Jh hsh
 clear hck hd hs ht hsh
 obtain ⟨N,hN⟩ : ∃ N,N = nodeA t.d A t.l.length c:=⟨_,rfl⟩
 have HN:=Jh hN
 have hNs : N.size = 22:=by rw [hN]; rfl
 simp only [nodeV,← hN] at hC ⊢
 have hinf:=infN
 rw [← hNs] at hinf
 have HIN:=Jh hinf
 have HC:=Jh hC
 have hb0 : Below w.heap.size w (w.alloc (.cells N 41)):=(Below.refl _ w).alloc (Nat.le_refl _) _
 have HB:=Jh hb0
 clear hC hinf hNs hN hb0
 refine callsIn_wide (n:=5) |>.1 ?_
 refine callsIn_of_wp_marks Tryz.func40 rfl trivial ?_ rfl
 simp only [Tryz.ntmps40,List.size_toArray,List.length_cons,List.length_nil,Nat.reduceAdd,Nat.reduceSub,Array.replicate_succ,Array.replicate_zero,List.push_toArray,List.append_toArray,List.nil_append,List.cons_append]
 refine wpIn_wide.2 ?_
 go_wp2_with (first | (refine wpList_row rfl 41 _ rfl w.heap.size rfl 41 N (0,0) _ (World.alloc_heap_new w _) undN rfl HIN.out ?_) | (go_at_call 48; refine (HC.out _ HB.out).mono ?_; rintro e w2 ⟨rfl,hbe⟩) | (go_at_call 62; refine ((callsIn_wide (n:=4)).1 (walk_opens 4 _ _)).mono ?_; rintro e w' ⟨rfl,rfl⟩))
 have hbe' : Below w.heap.size w w2:=HB.out.trans (hbe.mono (by simp))
 have hzw : w.heap.size + 1 ≤ w2.heap.size:=by have:=hbe.size; simpa using this
 obtain ⟨W0,hW0⟩ : ∃ W0,W0 = (w2.alloc (.cells #[.pointer none,.slice none 0 0] 106)).alloc (.cells #[.pointer (some ⟨w.heap.size,0,none⟩)] 110):=⟨_,rfl⟩
 have hsz0 : W0.heap.size = w2.heap.size + 2:=by rw [hW0]; simp
 have hbel2 : Below w2.heap.size w2 W0:=by rw [hW0]; exact ((Below.refl _ _).alloc (Nat.le_refl _) _).alloc (by simp) _
 have hbel0 : Below w.heap.size w W0:=hbe'.trans (hbel2.mono (by omega))
 have hblk : W0.heap[w.heap.size]? = some (.cells N 41):=(hbel2.block _ (by omega)).trans ((hbe.block _ (by simp)).trans (heap_alloc_new _ _))
 have hc1 : W0.cell? ⟨w2.heap.size + 1,0,none⟩ = some (.pointer (some ⟨w.heap.size,0,none⟩)):=by
  rw [hW0]
  have:=heap_alloc_new (w2.alloc (.cells #[.pointer none,.slice none 0 0] 106)) (.cells #[.pointer (some ⟨w.heap.size,0,none⟩)] 110)
  rw [World.size_alloc] at this
  exact cell_of_row _ _ 0 _ _ _ this
 have hbl0 : Lib.IsBuilder 106 5 w2.heap.size w2.heap.size (Lib.byteCells []) W0:=by
  rw [hW0]
  refine isBuilder_keep (Lib.fresh_isBuilder 106 5 w2) (fun k cs t fz hk _ => heapOld _ _ _ (Jg hk).1)
 rw [HN.out] at hblk
 have hnode:=boxed_node HD.out HS.out hB (hbel0.mono hB) hblk
 obtain ⟨a,ha,hb,ho,hat⟩:=NodeAt.addr t _ _ (NodeAt.more (show w.heap.size + 1 ≤ w2.heap.size by omega) t _ _ hnode)
 clear hnode
 rw [← hW0]
 have hszle : w2.heap.size + 2 ≤ W0.heap.size:=by omega
 have hszt : t.size ≤ 256:=by
  have:=HCK.out; unfold checkI at this; split at this
  · omega
  · omega
 clear hW0 hsz0
 refine (wpIn_wide (n:=5)).1 ?_
 refine range_T (n:=5) (T:=146) (n₀:=w2.heap.size) rfl (by omega) (gf:=88) (lb:=#[.pointer (some ⟨w2.heap.size + 1,0,none⟩)]) rfl trivial (enters_of Tryz.func88 (by kernel_rfl) rfl)
  (walk_seq 4 W0 (w2.heap.size + 1) w2.heap.size a.tr.size (fun x => Short x.tr) short_hered ⟨(a,1),hat,a.tr.size_pos,by show Short a.tr; rw [ha]; exact HSH.out⟩ (by omega) (by omega) (by rw [hb,ho]; exact hc1) (by rw [AT.items_len]; exact Nat.le_refl _) rfl (by rw [ha]; exact hsz))
  (by omega) (Below.refl _ _) (fun _ => rfl)
  (fun pre W => CInv w2.heap.size W0 pre W)
  (fun _ _ _ => False)
  (CInv.own (by omega) (by omega)) (CInv.abides (by omega) (by omega))
  (fun _ _ _ _ _ h _ _ => h) (fun _ _ _ _ _ h _ _ => h)
  ⟨hbl0,Below.refl _ _⟩
  (fun x a' _ => a' = { tmps:=#[.agg N,.pointer (some ⟨w.heap.size,0,none⟩),.string ⟨#[]⟩,.int .i64 0,.int .i64 0,.pointer (some ⟨w2.heap.size,0,none⟩),.pointer (some ⟨x.1.1.b,x.1.1.o,none⟩),.agg N,.int .i64 0,.int .i64 0,.bool false,undef,.func (.func 88) #[] #[.pointer (some ⟨w2.heap.size + 1,0,none⟩)],.pointer (some ⟨x.1.1.b,x.1.1.o,none⟩),.int .i64 x.1.2,undef,undef,undef,undef,undef],defers:=[] })
  (fun _ _ => ownFrom_pure _ _) ?assign ?body ?done ?stop
 case assign =>
  intro l pre x W K hI hK
  dsimp only [Itm.encs]
  gi_wp2
  exact hK _ _ (KeepsFrom.refl _ _) (KeepT.refl _ _ _) hI (by simp)
 case body =>
  rintro l pre x a' W hl - ⟨hI,hbW⟩ rfl hlt
  have hWs : w2.heap.size + 2 ≤ W.heap.size:=by have:=hbW.size; omega
  obtain ⟨hx1,-,hx3⟩:=x.2
  obtain ⟨hxb,xA,xc,hxc,hxl,hxk,-⟩:=hx1.cells_ hbW
  have hxs:=hx3 _ (self_mem _)
  rw [AT.tr_d] at hxs
  have hpl:=part_le x.1.1.d x.1.1.l.length hx1.ok_ (by omega) hxs.1 hxs.2
  have hcl:=codeP_le pre
  have htW : Tab W:=tab_below HT.out (hbel0.trans (hbW.mono (by omega)))
  have hcode:=codeOf_any W x.1.1.b x.1.1.o x.1.1.d xA x.1.1.l.length xc hxc hx1.ok_ (by omega) (by omega) (by omega) htW
  have hsn:=codeP_snoc (pre.map (·.1)) x.1
  obtain ⟨cp,hcp⟩ : ∃ cp,codeP (pre.map (·.1)) = cp:=⟨_,rfl⟩
  rw [hcp] at hsn hI hcl
  obtain ⟨px,hpx⟩ : ∃ px,partL x.1.1.d x.1.1.l.length = px:=⟨_,rfl⟩
  rw [hpx] at hsn hcode hpl
  have hat2 : a.tr.size ≤ 256:=by rw [ha]; exact hszt
  have hcl2 : cp.length ≤ 600000000:=by omega
  have hf1 : Fence.wide.fn 64:=trivial
  have hf2 : Fence.wide.fn 63:=trivial
  have hf3 : Fence.wide.fn 65:=trivial
  have HSN:=Jh hsn
  have HI:=Jh hI
  have HCO:=Jh hcode
  have HBW:=Jh hbW
  clear hsn hI hcode hbW hcp hpx hxc hx1 hx3 htW
  gi_wp2_with (gi_at_call 64; refine (CallsIn.inRound l (callsIn_wide.2 HCO.out)).mono ?_; rintro e W1 ⟨rfl,hb1⟩)
  have hI1 : Lib.IsBuilder 106 5 w2.heap.size w2.heap.size (Lib.byteCells cp) W1:=isBuilder_keep HI.out (fun k cs t fz hk _ => hb1.block k (Jg hk).1)
  have hs1:=hb1.size
  have hW:=writeString_any w2.heap.size w2.heap.size (Lib.byteCells cp) ⟨px.toArray⟩ W1 hI1 (by rw [Lib.byteCells_length,show (ByteArray.mk px.toArray).size = px.length from by simp [ByteArray.size]]; omega) (by omega)
  have HWS:=Jh hW
  clear hW
  gi_wp2_with (gi_at_call 63; refine (CallsIn.inRound l (callsIn_wide.2 HWS.out)).mono ?_; rintro e W2 ⟨rfl,hI2,hb2,hk2⟩)
  have hs2:=hb2.size
  have hW:=writeByte_any w2.heap.size w2.heap.size _ 59 W2 (.inr hI2) (by simp [Lib.byteCells,Lib.strCells] <;> omega) (by omega)
  have HWB:=Jh hW
  clear hW
  gi_wp2_with (gi_at_call 65; refine (CallsIn.inRound l (callsIn_wide.2 HWB.out)).mono ?_; rintro e W3 ⟨rfl,hI3,hb3,hk3⟩)
  have hk : KeepB w2.heap.size W W3:=((KeepB.of_below hb1).trans hk2).trans hk3
  have hbb : Below w2.heap.size W W3:=((hb1.mono (by omega)).trans hb2).trans hb3
  refine ⟨hk.from hbb.size (by omega),hk.keepT HI.out hbb,?_,HBW.out.trans hbb⟩
  rw [List.map_append,List.map_singleton,HSN.out]
  have : Lib.byteCells (cp ++ (px ++ [59])) = Lib.byteCells cp ++ Lib.strCells ⟨px.toArray⟩ ++ [.int .u8 59]:=by simp [Lib.byteCells,Lib.strCells]
  rw [this]
  exact .inr hI3
 case done =>
  rintro D xs W hD hS ⟨hI,hbW⟩ hK
  have hWs : w2.heap.size + 2 ≤ W.heap.size:=by have:=hbW.size; omega
  have hcd : codeP (xs.map (·.1)) = codeL t:=by rw [hS]; exact (codeP_items a 1).trans (congrArg codeL ha)
  rw [hcd] at hI
  have hstr:=Tryz.Builder_String_any_k w2.heap.size w2.heap.size (codeL t) W (Lib.IsBuilderF.of hI) (by omega)
  have HST:=Jh hstr
  have HBW:=Jh hbW
  have HK:=Jh hK
  clear hI hcd hS hstr hbW hK
  go_wp2_with (go_at_call 66; refine HST.out.mono ?_; rintro e W2 ⟨rfl,-,hb2,ho2⟩)
  have hK2 : W2.heap[D]? = some (.deferred (some [])):=ho2 D _ HK.out (fun h => by cases h; omega) (fun _ _ h => by cases h)
  refine ⟨by simp,.inl ⟨_,_,rfl,run_takeDeferred hK2,?_⟩⟩
  refine ⟨.tuple #[S (codeL t),.int .i64 0],by simp [results,Tryz.results40,go_sem],rfl,(hbel0.trans ((HBW.out.trans hb2).mono (by omega))).trans (belowK_b (w:=w) (Nat.le_refl _) _ D _ _ (by omega) hK2 rfl rfl)⟩
 case stop => exact fun _ _ _ _ _ _ h => h.elim
def codeT (t : Tr) : List UInt8:=if checkI t = 0 then codeL t else []
theorem code_c (w : World) (B : Nat) (hB : B ≤ w.heap.size) (t : Tr) (A : Option Addr) (c : Nat) (hd : t.d.ok) (hs : SlAt w B A c t.l) (hsz : t.size ≤ 1099511627776) (hsh : Short t) (ht : Tab w) :
 Calls Tryz.prog 40 #[nodeV t.d A t.l.length c] w fun e w' => e = .returned (.tuple #[S (codeT t),.int .i64 (checkI t)]) ∧ Below w.heap.size w w':=by
 unfold codeT
 by_cases h : checkI t = 0
 · rw [if_pos h]
   have:=code_good w B hB t A c hd hs hsz h hsh ht
   rw [h]; exact this
 · rw [if_neg h]
   exact code_bad w B hB t A c hd hs hsz h
end Go.Proofs.YtelombedjkbckaaGreatDoor
