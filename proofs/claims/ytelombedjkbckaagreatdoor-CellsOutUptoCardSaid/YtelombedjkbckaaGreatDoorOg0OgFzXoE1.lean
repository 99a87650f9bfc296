/- What a row's reading of a node gives: a tree in memory,of no more nodes than the reading's bulk. What a row's reading of a node gives (with tree.Code at hand). (Seat of TreeCodes and TreeDecodes.) What the rows' condition on the library's tables gives the walks; the nodes of a row; shared by the laws of this seat. What a row's reading of a content gives; the contents of a row. What a row's reading of a cell,and of cells with contents,gives. -/
import Derived.Test.YtelombedjkbckaaGreatDoorRows
import Derived.Test.YtelombedjkbckaaGreatDoorNd
import Derived.ChangeOld
import Derived.OpenShut
import Derived.ProofKit
import Derived.Test.YtelombedjkbckaaGreatDoorCwBuCx
import Derived.Test.YtelombedjkbckaaGreatDoorDaDbDcDdDe
import Derived.Stop.LaidErr
import Derived.Test.YtelombedjkbckaaGreatDoorTie
import Derived.Test.YtelombedjkbckaaGreatDoorCards
import Derived.LaidMore
import Derived.Stop.Joined
import Derived.Lib.SmallJoins
import Derived.ShutString
import Derived.SevenTiedAt
import Derived.Below
import Derived.Deep.DeepHandedRow
import Derived.Test.YtelombedjkbckaaGreatDoorBaStSqXa
import Derived.Test.YtelombedjkbckaaGreatDoorMpOaObC2D1Xe
namespace Go.Proofs.YtelombedjkbckaaGreatDoor
set_option maxHeartbeats 1000000
open Go.RowKit
section
variable {H : Type} {enc : TypeId × Value → H} {w : World} {fuel : Nat} {cs : List Value} {x : DataW H × List MemPlace}
theorem cutL (cs : List Value) (o k : Nat) : cs.drop o = (cs.drop o).take k ++ cs.drop (o + k):=by
 rw [← List.drop_drop]; exact (List.take_append_drop k (cs.drop o)).symm
theorem bulk_mem {H : Type} : ∀ (l : List (DataW H)) (d : DataW H),d ∈ l → Rows.uptoBulk d ≤ Rows.uptoBulkAll l
 | [],_,h => by cases h
 | a :: l,d,h => by
  simp only [Rows.uptoBulkAll]
  rcases List.mem_cons.1 h with rfl | h
  · omega
  · have:=bulk_mem l d h; omega
theorem bulk_field (xs : List (DataW H × List MemPlace)) (i : Nat) (y : DataW H × List MemPlace) (h : xs[i]? = some y) : Rows.uptoBulk y.1 ≤ Rows.uptoBulk (DataW.agg (xs.map (·.1))):=by
 have:=bulk_mem (xs.map (·.1)) y.1 (List.mem_map.2 ⟨y,List.mem_of_getElem? h,rfl⟩)
 simp only [Rows.uptoBulk]; omega
theorem get_some {α : Type} {xs : List α} {n i : Nat} (h : xs.length = n) (hi : i < n) : ∃ y,xs[i]? = some y:=⟨xs[i]'(by omega),List.getElem?_eq_getElem _⟩
theorem open_id (h : DataW.trod enc Tryz.prog w 0 (fun _ => true) true fuel 28 cs = some x) : ∃ a n : Int,cs = [.int .i64 a,.int .i64 n] ∧ i64 a ∧ i64 n:=by
 obtain ⟨xs,n,rfl,rfl,hl,hxs,hf⟩:=DataW.trod_struct Tryz.underlying28 h
 have hc : Tryz.prog.cellsOf 28 = 2:=by kernel_rfl
 have h3 : Tryz.prog.cellsOf 3 = 1:=by kernel_rfl
 obtain ⟨y0,e0⟩:=get_some hxs (show 0 < 2 by omega)
 obtain ⟨y1,e1⟩:=get_some hxs (show 1 < 2 by omega)
 have f0 : DataW.trod enc Tryz.prog w 0 (fun _ => true) true n 3 ((cs.drop 0).take (Tryz.prog.cellsOf 3)) = some y0:=(hf 0 _ rfl).trans e0
 have f1 : DataW.trod enc Tryz.prog w 0 (fun _ => true) true n 3 ((cs.drop 1).take (Tryz.prog.cellsOf 3)) = some y1:=(hf 1 _ rfl).trans e1
 rw [h3] at f0 f1
 obtain ⟨a,ha,-,wa⟩:=DataW.trod_int Tryz.underlying3 f0
 obtain ⟨b,hb,-,wb⟩:=DataW.trod_int Tryz.underlying3 f1
 refine ⟨a,b,?_,bounds_i64 wa,bounds_i64 wb⟩
 have c0:=cutL cs 0 1
 have c1:=cutL cs 1 1
 rw [ha,Nat.zero_add,List.drop_zero] at c0
 rw [hb] at c1
 rw [c0,c1,List.drop_of_length_le (by omega)]
 rfl
theorem open_num (h : DataW.trod enc Tryz.prog w 0 (fun _ => true) true fuel 32 cs = some x) : ∃ a n : Int,cs = [.int .i64 a,.int .i64 n] ∧ i64 a ∧ i64 n:=by
 obtain ⟨xs,n,rfl,rfl,hl,hxs,hf⟩:=DataW.trod_struct Tryz.underlying32 h
 have hc : Tryz.prog.cellsOf 32 = 2:=by kernel_rfl
 have h3 : Tryz.prog.cellsOf 3 = 1:=by kernel_rfl
 obtain ⟨y0,e0⟩:=get_some hxs (show 0 < 2 by omega)
 obtain ⟨y1,e1⟩:=get_some hxs (show 1 < 2 by omega)
 have f0 : DataW.trod enc Tryz.prog w 0 (fun _ => true) true n 3 ((cs.drop 0).take (Tryz.prog.cellsOf 3)) = some y0:=(hf 0 _ rfl).trans e0
 have f1 : DataW.trod enc Tryz.prog w 0 (fun _ => true) true n 3 ((cs.drop 1).take (Tryz.prog.cellsOf 3)) = some y1:=(hf 1 _ rfl).trans e1
 rw [h3] at f0 f1
 obtain ⟨a,ha,-,wa⟩:=DataW.trod_int Tryz.underlying3 f0
 obtain ⟨b,hb,-,wb⟩:=DataW.trod_int Tryz.underlying3 f1
 refine ⟨a,b,?_,bounds_i64 wa,bounds_i64 wb⟩
 have c0:=cutL cs 0 1
 have c1:=cutL cs 1 1
 rw [ha,Nat.zero_add,List.drop_zero] at c0
 rw [hb] at c1
 rw [c0,c1,List.drop_of_length_le (by omega)]
 rfl
theorem open_corner (h : DataW.trod enc Tryz.prog w 0 (fun _ => true) true fuel 36 cs = some x) : ∃ c : Cn,cs = c.cells ∧ c.ok:=by
 obtain ⟨xs,n,rfl,rfl,hl,hxs,hf⟩:=DataW.trod_struct Tryz.underlying36 h
 have hc : Tryz.prog.cellsOf 36 = 6:=by kernel_rfl
 have h2 : Tryz.prog.cellsOf 28 = 2:=by kernel_rfl
 have h1 : Tryz.prog.cellsOf 4 = 1:=by kernel_rfl
 obtain ⟨y0,e0⟩:=get_some hxs (show 0 < 4 by omega)
 obtain ⟨y1,e1⟩:=get_some hxs (show 1 < 4 by omega)
 obtain ⟨y2,e2⟩:=get_some hxs (show 2 < 4 by omega)
 obtain ⟨y3,e3⟩:=get_some hxs (show 3 < 4 by omega)
 have f0 : DataW.trod enc Tryz.prog w 0 (fun _ => true) true n 28 ((cs.drop 0).take (Tryz.prog.cellsOf 28)) = some y0:=(hf 0 _ rfl).trans e0
 have f1 : DataW.trod enc Tryz.prog w 0 (fun _ => true) true n 28 ((cs.drop 2).take (Tryz.prog.cellsOf 28)) = some y1:=(hf 1 _ rfl).trans e1
 have f2 : DataW.trod enc Tryz.prog w 0 (fun _ => true) true n 4 ((cs.drop 4).take (Tryz.prog.cellsOf 4)) = some y2:=(hf 2 _ rfl).trans e2
 have f3 : DataW.trod enc Tryz.prog w 0 (fun _ => true) true n 4 ((cs.drop 5).take (Tryz.prog.cellsOf 4)) = some y3:=(hf 3 _ rfl).trans e3
 rw [h2] at f0 f1
 rw [h1] at f2 f3
 obtain ⟨ra,rn,g0,k0,k1⟩:=open_id f0
 obtain ⟨ca,cn,g1,k2,k3⟩:=open_id f1
 obtain ⟨fr,g2,-⟩:=DataW.trod_bool Tryz.underlying4 f2
 obtain ⟨fc,g3,-⟩:=DataW.trod_bool Tryz.underlying4 f3
 refine ⟨⟨ra,rn,ca,cn,fr,fc⟩,?_,k0,k1,k2,k3⟩
 have c0:=cutL cs 0 2
 have c1:=cutL cs 2 2
 have c2:=cutL cs 4 1
 have c3:=cutL cs 5 1
 rw [g0,Nat.zero_add,List.drop_zero] at c0
 rw [g1] at c1
 rw [g2] at c2
 rw [g3] at c3
 rw [c0,c1,c2,c3,List.drop_of_length_le (by omega)]
 rfl
theorem open_area (h : DataW.trod enc Tryz.prog w 0 (fun _ => true) true fuel 38 cs = some x) : ∃ a b : Cn,cs = a.cells ++ b.cells ∧ a.ok ∧ b.ok:=by
 obtain ⟨xs,n,rfl,rfl,hl,hxs,hf⟩:=DataW.trod_struct Tryz.underlying38 h
 have hc : Tryz.prog.cellsOf 38 = 12:=by kernel_rfl
 have h6 : Tryz.prog.cellsOf 36 = 6:=by kernel_rfl
 obtain ⟨y0,e0⟩:=get_some hxs (show 0 < 2 by omega)
 obtain ⟨y1,e1⟩:=get_some hxs (show 1 < 2 by omega)
 have f0 : DataW.trod enc Tryz.prog w 0 (fun _ => true) true n 36 ((cs.drop 0).take (Tryz.prog.cellsOf 36)) = some y0:=(hf 0 _ rfl).trans e0
 have f1 : DataW.trod enc Tryz.prog w 0 (fun _ => true) true n 36 ((cs.drop 6).take (Tryz.prog.cellsOf 36)) = some y1:=(hf 1 _ rfl).trans e1
 rw [h6] at f0 f1
 obtain ⟨a,g0,k0⟩:=open_corner f0
 obtain ⟨b,g1,k1⟩:=open_corner f1
 refine ⟨a,b,?_,k0,k1⟩
 have c0:=cutL cs 0 6
 have c1:=cutL cs 6 6
 rw [g0,Nat.zero_add,List.drop_zero] at c0
 rw [g1] at c1
 rw [c0,c1,List.drop_of_length_le (by omega),List.append_nil]
theorem open_value (h : DataW.trod enc Tryz.prog w 0 (fun _ => true) true fuel 34 cs = some x) : ∃ v : Vl,cs = v.cells ∧ v.ok ∧ v.text.size ≤ Rows.uptoBulk x.1:=by
 obtain ⟨xs,n,rfl,rfl,hl,hxs,hf⟩:=DataW.trod_struct Tryz.underlying34 h
 have hc : Tryz.prog.cellsOf 34 = 6:=by kernel_rfl
 have h3 : Tryz.prog.cellsOf 3 = 1:=by kernel_rfl
 have h2 : Tryz.prog.cellsOf 32 = 2:=by kernel_rfl
 have h9 : Tryz.prog.cellsOf 9 = 1:=by kernel_rfl
 have h1 : Tryz.prog.cellsOf 4 = 1:=by kernel_rfl
 obtain ⟨y0,e0⟩:=get_some hxs (show 0 < 5 by omega)
 obtain ⟨y1,e1⟩:=get_some hxs (show 1 < 5 by omega)
 obtain ⟨y2,e2⟩:=get_some hxs (show 2 < 5 by omega)
 obtain ⟨y3,e3⟩:=get_some hxs (show 3 < 5 by omega)
 obtain ⟨y4,e4⟩:=get_some hxs (show 4 < 5 by omega)
 have f0 : DataW.trod enc Tryz.prog w 0 (fun _ => true) true n 3 ((cs.drop 0).take (Tryz.prog.cellsOf 3)) = some y0:=(hf 0 _ rfl).trans e0
 have f1 : DataW.trod enc Tryz.prog w 0 (fun _ => true) true n 32 ((cs.drop 1).take (Tryz.prog.cellsOf 32)) = some y1:=(hf 1 _ rfl).trans e1
 have f2 : DataW.trod enc Tryz.prog w 0 (fun _ => true) true n 9 ((cs.drop 3).take (Tryz.prog.cellsOf 9)) = some y2:=(hf 2 _ rfl).trans e2
 have f3 : DataW.trod enc Tryz.prog w 0 (fun _ => true) true n 4 ((cs.drop 4).take (Tryz.prog.cellsOf 4)) = some y3:=(hf 3 _ rfl).trans e3
 have f4 : DataW.trod enc Tryz.prog w 0 (fun _ => true) true n 3 ((cs.drop 5).take (Tryz.prog.cellsOf 3)) = some y4:=(hf 4 _ rfl).trans e4
 rw [h3] at f0 f4
 rw [h2] at f1
 rw [h9] at f2
 rw [h1] at f3
 obtain ⟨k,g0,-,w0⟩:=DataW.trod_int Tryz.underlying3 f0
 obtain ⟨m,ex,g1,w1,w2⟩:=open_num f1
 obtain ⟨s,g2,hy2,w3⟩:=DataW.trod_string Tryz.underlying9 f2
 obtain ⟨tr,g3,-⟩:=DataW.trod_bool Tryz.underlying4 f3
 obtain ⟨fa,g4,-,w4⟩:=DataW.trod_int Tryz.underlying3 f4
 refine ⟨⟨k,m,ex,s,tr,fa⟩,?_,⟨bounds_i64 w0,w1,w2,by unfold maxLen at w3; exact w3,bounds_i64 w4⟩,?_⟩
 · have c0:=cutL cs 0 1
   have c1:=cutL cs 1 2
   have c2:=cutL cs 3 1
   have c3:=cutL cs 4 1
   have c4:=cutL cs 5 1
   rw [g0,Nat.zero_add,List.drop_zero] at c0
   rw [g1] at c1
   rw [g2] at c2
   rw [g3] at c3
   rw [g4] at c4
   rw [c0,c1,c2,c3,c4,List.drop_of_length_le (by omega)]
   rfl
 · refine Nat.le_trans ?_ (bulk_field xs 2 y2 e2)
   rw [hy2]
   simp only [Rows.uptoBulk]
   have : s.data.toList.length = s.size:=by simp
   omega
end
def Tr.within (t : Tr) (k : Nat) : Prop:=t.size ≤ k ∧ ∀ y ∈ t.nodes,y.d.name.size ≤ k ∧ y.d.v.text.size ≤ k
theorem sizes_bulk {H : Type} : ∀ (l : List Tr) (ds : List (DataW H)),l.length = ds.length → (∀ i (h : i < l.length) (h' : i < ds.length),(l[i]).size ≤ Rows.uptoBulk ds[i]) → Tr.sizes l ≤ Rows.uptoBulkAll ds
 | [],_,_,_ => by simp [Tr.sizes]
 | t :: ts,[],h,_ => by simp at h
 | t :: ts,d :: ds,h,hk => by
  simp only [Tr.sizes,Rows.uptoBulkAll]
  have h0:=hk 0 (by simp) (by simp)
  have:=sizes_bulk ts ds (by simpa using h) (fun i h1 h2 => by have:=hk (i + 1) (by simp; omega) (by simp; omega); simpa using this)
  simp at h0
  omega
theorem nodess_mem : ∀ (l : List Tr) (y : Tr),y ∈ Tr.nodess l → ∃ t ∈ l,y ∈ t.nodes
 | [],_,h => by simp [Tr.nodess] at h
 | t :: ts,y,h => by
  simp only [Tr.nodess,List.mem_append] at h
  rcases h with h | h
  · exact ⟨t,by simp,h⟩
  · obtain ⟨t',h1,h2⟩:=nodess_mem ts y h
    exact ⟨t',by simp [h1],h2⟩
theorem open_node {H : Type} {enc : TypeId × Value → H} {w : World} : ∀ (fuel : Nat) (cs : List Value) (x : DataW H × List MemPlace), DataW.trod enc Tryz.prog w 0 (fun _ => true) true fuel 41 cs = some x →
 ∃ (t : Tr) (A : Option Addr) (c : Nat),cs = (nodeA t.d A t.l.length c).toList ∧ t.d.ok ∧ SlAt w w.heap.size A c t.l ∧ t.within (Rows.uptoBulk x.1):=by
 intro fuel
 induction fuel using Nat.strongRecOn with
 | _ fuel ih =>
  intro cs x h
  obtain ⟨xs,n,rfl,rfl,hl,hxs,hf⟩:=DataW.trod_struct Tryz.underlying41 h
  have hc : Tryz.prog.cellsOf 41 = 22:=by kernel_rfl
  have h3 : Tryz.prog.cellsOf 3 = 1:=by kernel_rfl
  have h6 : Tryz.prog.cellsOf 34 = 6:=by kernel_rfl
  have h9 : Tryz.prog.cellsOf 9 = 1:=by kernel_rfl
  have h12 : Tryz.prog.cellsOf 38 = 12:=by kernel_rfl
  have h1 : Tryz.prog.cellsOf 39 = 1:=by kernel_rfl
  obtain ⟨y0,e0⟩:=get_some hxs (show 0 < 6 by omega)
  obtain ⟨y1,e1⟩:=get_some hxs (show 1 < 6 by omega)
  obtain ⟨y2,e2⟩:=get_some hxs (show 2 < 6 by omega)
  obtain ⟨y3,e3⟩:=get_some hxs (show 3 < 6 by omega)
  obtain ⟨y4,e4⟩:=get_some hxs (show 4 < 6 by omega)
  obtain ⟨y5,e5⟩:=get_some hxs (show 5 < 6 by omega)
  have f0 : DataW.trod enc Tryz.prog w 0 (fun _ => true) true n 3 ((cs.drop 0).take (Tryz.prog.cellsOf 3)) = some y0:=(hf 0 _ rfl).trans e0
  have f1 : DataW.trod enc Tryz.prog w 0 (fun _ => true) true n 34 ((cs.drop 1).take (Tryz.prog.cellsOf 34)) = some y1:=(hf 1 _ rfl).trans e1
  have f2 : DataW.trod enc Tryz.prog w 0 (fun _ => true) true n 9 ((cs.drop 7).take (Tryz.prog.cellsOf 9)) = some y2:=(hf 2 _ rfl).trans e2
  have f3 : DataW.trod enc Tryz.prog w 0 (fun _ => true) true n 38 ((cs.drop 8).take (Tryz.prog.cellsOf 38)) = some y3:=(hf 3 _ rfl).trans e3
  have f4 : DataW.trod enc Tryz.prog w 0 (fun _ => true) true n 3 ((cs.drop 20).take (Tryz.prog.cellsOf 3)) = some y4:=(hf 4 _ rfl).trans e4
  have f5 : DataW.trod enc Tryz.prog w 0 (fun _ => true) true n 39 ((cs.drop 21).take (Tryz.prog.cellsOf 39)) = some y5:=(hf 5 _ rfl).trans e5
  rw [h3] at f0 f4
  rw [h6] at f1
  rw [h9] at f2
  rw [h12] at f3
  rw [h1] at f5
  obtain ⟨kd,g0,-,w0⟩:=DataW.trod_int Tryz.underlying3 f0
  obtain ⟨v,g1,w1,z1⟩:=open_value f1
  obtain ⟨s,g2,hy2,w2⟩:=DataW.trod_string Tryz.underlying9 f2
  obtain ⟨a,b,g3,w3,w3'⟩:=open_area f3
  obtain ⟨rw',g4,-,w4⟩:=DataW.trod_int Tryz.underlying3 f4
  have z1':=Nat.le_trans z1 (bulk_field xs 1 y1 e1)
  have z2' : s.size ≤ Rows.uptoBulk (DataW.agg (xs.map (·.1))):=by
   refine Nat.le_trans ?_ (bulk_field xs 2 y2 e2)
   rw [hy2]
   simp only [Rows.uptoBulk]
   have : s.data.toList.length = s.size:=by simp
   omega
  have z5:=bulk_field xs 5 y5 e5
  have z5' : Rows.uptoBulk y5.1 + 1 ≤ Rows.uptoBulk (DataW.agg (xs.map (·.1))):=by
   have:=bulk_mem (xs.map (·.1)) y5.1 (List.mem_map.2 ⟨y5,List.mem_of_getElem? e5,rfl⟩)
   simp only [Rows.uptoBulk]; omega
  have hform : ∀ (sl : Value),(cs.drop 21).take 1 = [sl] → cs = (ND.head ⟨kd,v,s,a,b,rw'⟩) ++ [sl]:=by
   intro sl g5
   have c0:=cutL cs 0 1
   have c1:=cutL cs 1 6
   have c2:=cutL cs 7 1
   have c3:=cutL cs 8 12
   have c4:=cutL cs 20 1
   have c5:=cutL cs 21 1
   rw [g0,Nat.zero_add,List.drop_zero] at c0
   rw [g1] at c1
   rw [g2] at c2
   rw [g3] at c3
   rw [g4] at c4
   rw [g5] at c5
   rw [c0,c1,c2,c3,c4,c5,List.drop_of_length_le (by omega)]
   simp [ND.head]
  have hok : ND.ok ⟨kd,v,s,a,b,rw'⟩:=⟨bounds_i64 w0,w1,by unfold maxLen at w2; exact w2,w3,w3',bounds_i64 w4⟩
  rcases DataW.trod_slice Tryz.underlying39 f5 with ⟨g5,-⟩ | ⟨ad,len,cap,elems,rest,m,rfl,g5,hy5,hbs,hlc,hcm,hel,hget,-,-⟩
  · refine ⟨.mk ⟨kd,v,s,a,b,rw'⟩ [],none,0,?_,hok,⟨by simp [Tr.l],by omega,.inl rfl⟩,?_,?_⟩
    · rw [hform _ g5]; rfl
    · simp [Tr.size,Tr.sizes]; omega
    · intro y hy
      simp [Tr.nodes,Tr.nodess] at hy
      subst hy
      exact ⟨z2',z1'⟩
  · have hkid : ∀ i (hi : i < elems.length),∃ (t : Tr) (A : Option Addr) (c : Nat),w.cells? 0 (ad.add (i * 22)) 22 = some (nodeA t.d A t.l.length c).toList ∧ t.d.ok ∧ SlAt w w.heap.size A c t.l ∧ t.within (Rows.uptoBulk elems[i].1):=by
     intro i hi
     have:=hget i (by omega)
     rw [hc,List.getElem?_eq_getElem hi,Option.bind_eq_some_iff] at this
     obtain ⟨cs',k1,k2⟩:=this
     obtain ⟨t,A,c,rfl,r⟩:=ih m (by omega) cs' _ k2
     exact ⟨t,A,c,k1,r⟩
    have hl' : ∃ l : List Tr,l.length = elems.length ∧ ∀ i (h : i < l.length) (h' : i < elems.length),∃ (A : Option Addr) (c : Nat),w.cells? 0 (ad.add (i * 22)) 22 = some (nodeA l[i].d A l[i].l.length c).toList ∧ l[i].d.ok ∧ SlAt w w.heap.size A c l[i].l ∧ l[i].within (Rows.uptoBulk elems[i].1):=by
     have : ∀ i : Fin elems.length,∃ t : Tr,∃ (A : Option Addr) (c : Nat),w.cells? 0 (ad.add (i.1 * 22)) 22 = some (nodeA t.d A t.l.length c).toList ∧ t.d.ok ∧ SlAt w w.heap.size A c t.l ∧ t.within (Rows.uptoBulk (elems[i.1]'i.2).1):=fun i => hkid i.1 i.2
     refine ⟨List.ofFn (fun i => Classical.choose (this i)),by simp,fun i h h' => ?_⟩
     have hs:=Classical.choose_spec (this ⟨i,h'⟩)
     rw [List.getElem_ofFn]
     exact hs
    obtain ⟨l,hll,hk⟩:=hl'
    have z5s : Rows.uptoBulkAll (elems.map (·.1)) + 1 ≤ Rows.uptoBulk y5.1:=by rw [hy5]; simp only [Rows.uptoBulk]; omega
    refine ⟨.mk ⟨kd,v,s,a,b,rw'⟩ l,some ad,cap,?_,hok,?_,?_,?_⟩
    · rw [hform _ g5]
      simp [nodeA,Tr.l,Tr.d,hll,hel]
    · refine ⟨by simp [Tr.l]; omega,by unfold maxLen at hcm; omega,?_⟩
      simp only [Tr.l]
      by_cases hz : l = []
      · exact .inl hz
      right
      have hpos : 0 < l.length:=List.length_pos_iff.2 hz
      obtain ⟨adb,ado,ads⟩:=ad
      obtain ⟨A0,c0,q0,-⟩:=hk 0 hpos (by omega)
      obtain ⟨-,-,q1⟩:=World.cells?_some q0
      have q2:=q1 0 (by omega)
      have hspot : ads = none:=by
       have : (nodeA l[0].d A0 l[0].l.length c0).toList[0]? = some (.int .i64 l[0].d.kind):=rfl
       rw [this] at q2
       simpa [Addr.add] using World.cell?_spot q2
      subst hspot
      refine ⟨adb,ado,rfl,KidsAt.of (fun i hi => ?_)⟩
      obtain ⟨A1,c1,r0,r1,r2,-⟩:=hk i hi (by omega)
      obtain ⟨-,-,r3⟩:=World.cells?_some r0
      have hcells : NodeCells w adb (ado + i * 22) l[i].d A1 l[i].l.length c1:=by
       intro j hj
       have:=r3 j hj
       have ea : ((⟨adb,ado,none⟩ : Addr).add (i * 22)).add j = ⟨adb,ado + i * 22 + j,none⟩:=by
        unfold Addr.add; split <;> split <;> simp_all
       rw [ea] at this
       rw [this]; simp
      have hblk : adb < w.heap.size:=by
       have:=hcells 0 (by omega)
       exact World.block_lt_of_cell? _ ⟨adb,ado + i * 22 + 0,none⟩ (this.trans rfl)
      exact NodeAt.mk hblk r1 hcells r2
    · simp only [Tr.size]
      have:=sizes_bulk l (elems.map (·.1)) (by simp [hll]) (fun i h1 h2 => by
       obtain ⟨_,_,_,_,_,hw,_⟩:=hk i h1 (by simpa using h2)
       simpa using hw)
      omega
    · intro y hy
      simp only [Tr.nodes,List.mem_cons] at hy
      rcases hy with rfl | hy
      · exact ⟨z2',z1'⟩
      · obtain ⟨t,ht,hyt⟩:=nodess_mem l y hy
        obtain ⟨i,hi,rfl⟩:=List.mem_iff_getElem.1 ht
        obtain ⟨_,_,_,_,_,_,hw⟩:=hk i hi (by omega)
        obtain ⟨q1,q2⟩:=hw y hyt
        have hb:=bulk_mem (elems.map (·.1)) elems[i].1 (List.mem_map.2 ⟨_,List.getElem_mem _,rfl⟩)
        dsimp only
        constructor <;> omega
end Go.Proofs.YtelombedjkbckaaGreatDoor

namespace Go.Proofs.YtelombedjkbckaaGreatDoor
open Go.ChangeShapes Go.WideShapes Go.ChangeAt Go.RowKit
theorem laidOut : laidOutB Tryz.prog = true:=by kernel_rfl
theorem own : ownKnob Tryz.prog.godebug = none:=by kernel_rfl
def laid5 : List (String × DataW Unit) := [("math/bits.deBruijn32tab", Rows.laid_math_bits_deBruijn32tab), ("math/bits.deBruijn64tab", Rows.laid_math_bits_deBruijn64tab), ("internal/strconv.uint64pow10", Rows.laid_internal_strconv_uint64pow10), ("strconv.ErrRange", Rows.laid_strconv_ErrRange), ("strconv.ErrSyntax", Rows.laid_strconv_ErrSyntax)]
theorem gES : Tryz.prog.globalNamed "strconv.ErrSyntax" = some 1 := by kernel_rfl
theorem gER : Tryz.prog.globalNamed "strconv.ErrRange" = some 2 := by kernel_rfl
theorem tES : (Tryz.prog.globals[1]?).map (·.type) = some 112:=by kernel_rfl
theorem tER : (Tryz.prog.globals[2]?).map (·.type) = some 112:=by kernel_rfl
theorem cellsEs : Tryz.prog.cellsOf 230 = 1:=by kernel_rfl
theorem cellsStr : Tryz.prog.cellsOf 9 = 1:=by kernel_rfl
theorem starEs : "*" ++ "errors.errorString" = "*errors.errorString" := by decide
theorem rowEs (u : TypeId) (h : Tryz.prog.typeName? 3 u = some "*errors.errorString") : u = 228 :=
 typeName_ptr_named (nm := "errors.errorString") (by rw [starEs]; kernel_rfl) (by kernel_rfl) (by decide) u (by rw [starEs]; exact h)
theorem errC_of_laid {W : World} (h : laidMetH Tryz.prog laid5 W) : ErrC W:=by
 rw [MakeChecks.laidMetH_plain _ _ _ (by kernel_rfl)] at h
 have h3:=h.tail.tail.tail
 obtain ⟨a1,s1,hv1,-,-,-⟩:=laid_sentinel h3 gER tER Tryz.underlying112 rowEs Tryz.underlying228 Tryz.underlying230 rfl rfl Tryz.underlying9 cellsEs cellsStr
 obtain ⟨a0,s0,hv0,-,-,-⟩:=laid_sentinel h3.tail gES tES Tryz.underlying112 rowEs Tryz.underlying228 Tryz.underlying230 rfl rfl Tryz.underlying9 cellsEs cellsStr
 exact ⟨⟨_,by have h0:=World.var?_cell gES hv0 0; simpa using h0,.inr ⟨_,_,rfl⟩⟩,⟨_,by have h0:=World.var?_cell gER hv1 0; simpa using h0,.inr ⟨_,_,rfl⟩⟩⟩
theorem tPow : (Tryz.prog.globals[0]?).map (·.type) = some 212:=by kernel_rfl
theorem tab_of_laid {W : World} (h : laidMetH Tryz.prog laid5 W) : Tab W:=by
 rw [MakeChecks.laidMetH_plain _ _ _ (by kernel_rfl)] at h
 obtain ⟨ps,⟨g0,t0,cs0,f0,p0,q0,hg0,ht0,hv0,hd0,⟨g1,t1,cs1,f1,p1,q1,hg1,ht1,hv1,hd1,⟨g2,t2,cs2,f2,p2,q2,hg2,ht2,hv2,hd2,_,_⟩,_⟩,_⟩,_,_⟩:=h
 obtain rfl:=Option.some.inj (gPow.symm.trans hg2)
 obtain rfl:=Option.some.inj (tPow.symm.trans ht2)
 unfold Tab Lib.TabIs
 rw [hv2,← Lib.cells_of_tab (k:=.u64) (zs:=Lib.pow10Tab) Tryz.underlying212 Tryz.underlying155 (by kernel_rfl) (by kernel_rfl) hd2]
theorem within_short {t : Tr} {k : Nat} (h : t.within k) (hk : k ≤ 1048576) : Short t:=fun x hx => by have:=h.2 x hx; omega
def zeroNode : Value:=nodeV ⟨0,⟨0,0,0,ByteArray.mk #[],false,0⟩,ByteArray.mk #[],⟨0,0,0,0,false,false⟩,⟨0,0,0,0,false,false⟩,0⟩ none 0 0
def zeroCornerD {H : Type} : DataW H:=.agg [.agg [.lit (.int .i64 0),.lit (.int .i64 0)],.agg [.lit (.int .i64 0),.lit (.int .i64 0)],.lit (.bool false),.lit (.bool false)]
def zeroNodeD {H : Type} : DataW H:=.agg [.lit (.int .i64 0),.agg [.lit (.int .i64 0),.agg [.lit (.int .i64 0),.lit (.int .i64 0)],.lit (.string []),.lit (.bool false),.lit (.int .i64 0)],.lit (.string []),.agg [zeroCornerD,zeroCornerD],.lit (.int .i64 0),.nil]
end Go.Proofs.YtelombedjkbckaaGreatDoor
namespace Go.Proofs.YtelombedjkbckaaGreatDoor
set_option maxRecDepth 100000
set_option maxHeartbeats 1000000
open Go.RowKit Go.ChangeShapes Go.WideShapes Go.ChangeAt
theorem open_content {H : Type} {enc : TypeId × Value → H} {w : World} (fuel : Nat) (cs : List Value) (x : DataW H × List MemPlace) (h : DataW.trod enc Tryz.prog w 0 (fun _ => true) true fuel 43 cs = some x) :
 ∃ (y : Ct) (A : Option Addr) (c : Nat),cs = (contA y A c).toList ∧ y.v.ok ∧ y.t.d.ok ∧ SlAt w w.heap.size A c y.t.l ∧ y.t.within (Rows.uptoBulk x.1) ∧ y.v.text.size ≤ Rows.uptoBulk x.1:=by
 obtain ⟨xs,n,rfl,rfl,hl,hxs,hf⟩:=DataW.trod_struct Tryz.underlying43 h
 have hc : Tryz.prog.cellsOf 43 = 29:=by kernel_rfl
 have h3 : Tryz.prog.cellsOf 3 = 1:=by kernel_rfl
 have h6 : Tryz.prog.cellsOf 34 = 6:=by kernel_rfl
 have h22 : Tryz.prog.cellsOf 41 = 22:=by kernel_rfl
 obtain ⟨y0,e0⟩:=get_some hxs (show 0 < 3 by omega)
 obtain ⟨y1,e1⟩:=get_some hxs (show 1 < 3 by omega)
 obtain ⟨y2,e2⟩:=get_some hxs (show 2 < 3 by omega)
 have f0 : DataW.trod enc Tryz.prog w 0 (fun _ => true) true n 3 ((cs.drop 0).take (Tryz.prog.cellsOf 3)) = some y0:=(hf 0 _ rfl).trans e0
 have f1 : DataW.trod enc Tryz.prog w 0 (fun _ => true) true n 34 ((cs.drop 1).take (Tryz.prog.cellsOf 34)) = some y1:=(hf 1 _ rfl).trans e1
 have f2 : DataW.trod enc Tryz.prog w 0 (fun _ => true) true n 41 ((cs.drop 7).take (Tryz.prog.cellsOf 41)) = some y2:=(hf 2 _ rfl).trans e2
 rw [h3] at f0
 rw [h6] at f1
 rw [h22] at f2
 obtain ⟨k,g0,-,w0⟩:=DataW.trod_int Tryz.underlying3 f0
 obtain ⟨v,g1,w1,z1⟩:=open_value f1
 obtain ⟨t,A,c,g2,w2,w3,w4⟩:=open_node n _ _ f2
 refine ⟨⟨k,v,t⟩,A,c,?_,w1,w2,w3,?_,Nat.le_trans z1 (bulk_field xs 1 y1 e1)⟩
 · have c0:=cutL cs 0 1
   have c1:=cutL cs 1 6
   have c2:=cutL cs 7 22
   rw [g0,Nat.zero_add,List.drop_zero] at c0
   rw [g1] at c1
   rw [g2] at c2
   rw [c0,c1,c2,List.drop_of_length_le (by omega)]
   simp [contA,Ct.head]
 · have hb:=bulk_field xs 2 y2 e2
   exact ⟨Nat.le_trans w4.1 hb,fun z hz => ⟨Nat.le_trans (w4.2 z hz).1 hb,Nat.le_trans (w4.2 z hz).2 hb⟩⟩
theorem open_contV {H : Type} {enc : TypeId × Value → H} {w : World} {base : Nat} {v : Value} {d : DataW H} {p : List MemPlace} (hv : Value.okWide Tryz.prog w .any base 43 v) (h : DataW.Trod enc Tryz.prog w 0 (fun _ => true) true 43 v d p) :
 ∃ (y : Ct) (A : Option Addr) (c : Nat),v = contV y A c ∧ y.v.ok ∧ y.t.d.ok ∧ SlAt w w.heap.size A c y.t.l ∧ y.t.within (Rows.uptoBulk d) ∧ y.v.text.size ≤ Rows.uptoBulk d:=by
 obtain ⟨cs,rfl,hsz⟩:=okWide_struct Tryz.underlying43 hv
 obtain ⟨fuel,hf⟩:=h
 obtain ⟨t,A,c,h1,h2⟩:=open_content fuel _ _ hf
 refine ⟨t,A,c,?_,h2⟩
 have : cs = contA t A c:=by
  have h1' : cs.toList = (contA t A c).toList:=h1
  exact Array.toList_inj.1 h1'
 rw [this]
def zeroCont : Value:=.agg #[.int .i64 0,.int .i64 0,.int .i64 0,.int .i64 0,.string ⟨#[]⟩,.bool false,.int .i64 0,.int .i64 0,.int .i64 0,.int .i64 0,.int .i64 0,.string ⟨#[]⟩,.bool false,.int .i64 0,.string ⟨#[]⟩,.int .i64 0,.int .i64 0,.int .i64 0,.int .i64 0,.bool false,.bool false,.int .i64 0,.int .i64 0,.int .i64 0,.int .i64 0,.bool false,.bool false,.int .i64 0,.slice none 0 0]
def zeroContD {H : Type} : DataW H:=.agg [.lit (.int .i64 0),.agg [.lit (.int .i64 0),.agg [.lit (.int .i64 0),.lit (.int .i64 0)],.lit (.string []),.lit (.bool false),.lit (.int .i64 0)],zeroNodeD]
end Go.Proofs.YtelombedjkbckaaGreatDoor
namespace Go.Proofs.YtelombedjkbckaaGreatDoor
set_option maxRecDepth 100000
set_option linter.unusedSimpArgs false
set_option linter.unusedVariables false
open Go.RowKit Go.ChangeShapes Go.WideShapes Go.ChangeAt
def CellsIn (w : World) (B : Nat) (A : Option Addr) (c : Nat) (l : List (Ad × Ct)) : Prop :=
 l.length ≤ c ∧ c ≤ 9223372036854775807 ∧ (∀ e ∈ l,e.1.ok ∧ e.2.v.ok ∧ e.2.t.d.ok ∧ e.2.t.size ≤ 1048576) ∧
  (l = [] ∨ ∃ b o,A = some ⟨b,o,none⟩ ∧ b < B ∧ ∀ j (h : j < l.length),∃ A' c',w.rangeAt b (o + j * 33) (l[j].1.cs ++ (contA l[j].2 A' c').toList) ∧ SlAt w B A' c' l[j].2.t.l)
theorem CellsIn.row {w : World} {B : Nat} {A : Option Addr} {c : Nat} {l : List (Ad × Ct)} (h : CellsIn w B A c l) : RowC w B A c l:=⟨h.1,h.2.1,h.2.2.2⟩
section
variable {H : Type} {enc : TypeId × Value → H} {w : World} {fuel : Nat} {cs : List Value} {x : DataW H × List MemPlace}
theorem open_ad (h : DataW.trod enc Tryz.prog w 0 (fun _ => true) true fuel 30 cs = some x) : ∃ a : Ad,cs = a.cs ∧ a.ok:=by
 obtain ⟨xs,n,rfl,rfl,hl,hxs,hf⟩:=DataW.trod_struct Tryz.underlying30 h
 have hc : Tryz.prog.cellsOf 30 = 4:=by kernel_rfl
 have h2 : Tryz.prog.cellsOf 28 = 2:=by kernel_rfl
 obtain ⟨y0,e0⟩:=get_some hxs (show 0 < 2 by omega)
 obtain ⟨y1,e1⟩:=get_some hxs (show 1 < 2 by omega)
 have f0 : DataW.trod enc Tryz.prog w 0 (fun _ => true) true n 28 ((cs.drop 0).take (Tryz.prog.cellsOf 28)) = some y0:=(hf 0 _ rfl).trans e0
 have f1 : DataW.trod enc Tryz.prog w 0 (fun _ => true) true n 28 ((cs.drop 2).take (Tryz.prog.cellsOf 28)) = some y1:=(hf 1 _ rfl).trans e1
 rw [h2] at f0 f1
 obtain ⟨ra,rn,g0,k0,k1⟩:=open_id f0
 obtain ⟨ca,cn,g1,k2,k3⟩:=open_id f1
 refine ⟨⟨ra,rn,ca,cn⟩,?_,k0,k1,k2,k3⟩
 have c0:=cutL cs 0 2
 have c1:=cutL cs 2 2
 rw [g0,Nat.zero_add,List.drop_zero] at c0
 rw [g1] at c1
 rw [c0,c1,List.drop_of_length_le (by omega)]
 rfl
end
theorem open_adV {H : Type} {enc : TypeId × Value → H} {w : World} {base : Nat} {v : Value} {d : DataW H} {p : List MemPlace} (hv : Value.okWide Tryz.prog w .any base 30 v) (h : DataW.Trod enc Tryz.prog w 0 (fun _ => true) true 30 v d p) :
 ∃ a : Ad,v = a.val ∧ a.ok:=by
 obtain ⟨cs,rfl,hsz⟩:=okWide_struct Tryz.underlying30 hv
 obtain ⟨fuel,hf⟩:=h
 obtain ⟨a,h1,h2⟩:=open_ad hf
 refine ⟨a,?_,h2⟩
 have : cs = a.cs.toArray:=by
  have h1' : cs.toList = a.cs:=h1
  rw [← h1',Array.toArray_toList]
 rw [this]
 rfl
end Go.Proofs.YtelombedjkbckaaGreatDoor
