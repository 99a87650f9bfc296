/- What a row's reading of a list of cells with contents gives. -/
import Derived.Test.YtelombedjkbckaaGreatDoorOg0OgFzXoE1
namespace Go.Proofs.YtelombedjkbckaaGreatDoor
set_option maxRecDepth 100000
set_option maxHeartbeats 1000000
set_option linter.unusedSimpArgs false
set_option linter.unusedVariables false
open Go.RowKit Go.ChangeShapes Go.WideShapes Go.ChangeAt
section
variable {H : Type} {enc : TypeId × Value → H} {w : World} {fuel : Nat} {cs : List Value} {x : DataW H × List MemPlace}
theorem open_ac (h : DataW.trod enc Tryz.prog w 0 (fun _ => true) true fuel 45 cs = some x) : ∃ (e : Ad × Ct) (A : Option Addr) (c : Nat),cs = e.1.cs ++ (contA e.2 A c).toList ∧ (e.1.ok ∧ e.2.v.ok ∧ e.2.t.d.ok ∧ e.2.t.size ≤ Rows.uptoBulk x.1) ∧ SlAt w w.heap.size A c e.2.t.l ∧ (Rows.uptoBulk x.1 ≤ 1048576 → Short e.2.t):=by
 obtain ⟨xs,n,rfl,rfl,hl,hxs,hf⟩:=DataW.trod_struct Tryz.underlying45 h
 have hc : Tryz.prog.cellsOf 45 = 33:=by kernel_rfl
 have h4 : Tryz.prog.cellsOf 30 = 4:=by kernel_rfl
 have h29 : Tryz.prog.cellsOf 43 = 29:=by kernel_rfl
 obtain ⟨y0,e0⟩:=get_some hxs (show 0 < 2 by omega)
 obtain ⟨y1,e1⟩:=get_some hxs (show 1 < 2 by omega)
 have f0 : DataW.trod enc Tryz.prog w 0 (fun _ => true) true n 30 ((cs.drop 0).take (Tryz.prog.cellsOf 30)) = some y0:=(hf 0 _ rfl).trans e0
 have f1 : DataW.trod enc Tryz.prog w 0 (fun _ => true) true n 43 ((cs.drop 4).take (Tryz.prog.cellsOf 43)) = some y1:=(hf 1 _ rfl).trans e1
 rw [h4] at f0
 rw [h29] at f1
 obtain ⟨a,g0,w0⟩:=open_ad f0
 obtain ⟨y,A,c,g1,w1,w2,w3,w4,-⟩:=open_content n _ _ f1
 refine ⟨(a,y),A,c,?_,⟨w0,w1,w2,Nat.le_trans w4.1 (bulk_field xs 1 y1 e1)⟩,w3,fun hz => within_short w4 (Nat.le_trans (bulk_field xs 1 y1 e1) hz)⟩
 have c0:=cutL cs 0 4
 have c1:=cutL cs 4 29
 rw [g0,Nat.zero_add,List.drop_zero] at c0
 rw [g1] at c1
 rw [c0,c1,List.drop_of_length_le (by omega),List.append_nil]
theorem open_acs (h : DataW.trod enc Tryz.prog w 0 (fun _ => true) true fuel 22 cs = some x) (hz : Rows.uptoBulk x.1 ≤ 1048576) : ∃ (l : List (Ad × Ct)) (A : Option Addr) (c : Nat),cs = [.slice A l.length c] ∧ CellsIn w w.heap.size A c l ∧ ∀ e ∈ l,Short e.2.t:=by
 have hc : Tryz.prog.cellsOf 45 = 33:=by kernel_rfl
 rcases DataW.trod_slice Tryz.underlying22 h with ⟨g5,-⟩ | ⟨ad,len,cap,elems,rest,m,rfl,g5,hy5,hbs,hlc,hcm,hel,hget,-,-⟩
 · exact ⟨[],none,0,g5,⟨by simp,by omega,fun y hy => (by cases hy),.inl rfl⟩,fun e he => (List.not_mem_nil he).elim⟩
 · have hkid : ∀ i (hi : i < elems.length),∃ (s : Ad × Ct) (A' : Option Addr) (c' : Nat),w.cells? 0 (ad.add (i * 33)) 33 = some (s.1.cs ++ (contA s.2 A' c').toList) ∧ (s.1.ok ∧ s.2.v.ok ∧ s.2.t.d.ok ∧ s.2.t.size ≤ 1048576) ∧ SlAt w w.heap.size A' c' s.2.t.l ∧ Short s.2.t:=by
    intro i hi
    have:=hget i (by omega)
    rw [hc,List.getElem?_eq_getElem hi,Option.bind_eq_some_iff] at this
    obtain ⟨cs',k1,k2⟩:=this
    obtain ⟨s,A',c',rfl,r1,r2,r3⟩:=open_ac k2
    have hb:=bulk_mem ((elems.map (·.1)) ++ (rest.map (·.1))) elems[i].1 (List.mem_append.2 (.inl (List.mem_map.2 ⟨_,List.getElem_mem _,rfl⟩)))
    have hb2 : Rows.uptoBulk elems[i].1 ≤ 1048576:=by
     have h3:=bulk_mem (elems.map (·.1)) elems[i].1 (List.mem_map.2 ⟨_,List.getElem_mem _,rfl⟩)
     rw [hy5] at hz
     simp only [Rows.uptoBulk] at hz
     omega
    exact ⟨s,A',c',k1,⟨r1.1,r1.2.1,r1.2.2.1,Nat.le_trans r1.2.2.2 hb2⟩,r2,r3 hb2⟩
   have hl' : ∃ l : List (Ad × Ct),l.length = elems.length ∧ ∀ i (h : i < l.length),∃ (A' : Option Addr) (c' : Nat),w.cells? 0 (ad.add (i * 33)) 33 = some (l[i].1.cs ++ (contA l[i].2 A' c').toList) ∧ (l[i].1.ok ∧ l[i].2.v.ok ∧ l[i].2.t.d.ok ∧ l[i].2.t.size ≤ 1048576) ∧ SlAt w w.heap.size A' c' l[i].2.t.l ∧ Short l[i].2.t:=by
    have : ∀ i : Fin elems.length,∃ (s : Ad × Ct) (A' : Option Addr) (c' : Nat),w.cells? 0 (ad.add (i.1 * 33)) 33 = some (s.1.cs ++ (contA s.2 A' c').toList) ∧ (s.1.ok ∧ s.2.v.ok ∧ s.2.t.d.ok ∧ s.2.t.size ≤ 1048576) ∧ SlAt w w.heap.size A' c' s.2.t.l ∧ Short s.2.t:=fun i => hkid i.1 i.2
    refine ⟨List.ofFn (fun i => Classical.choose (this i)),by simp,fun i h => ?_⟩
    have hs:=Classical.choose_spec (this ⟨i,by simpa using h⟩)
    rw [List.getElem_ofFn]
    exact hs
   obtain ⟨l,hll,hk⟩:=hl'
   refine ⟨l,some ad,cap,by rw [g5,hll,hel],⟨by omega,by unfold maxLen at hcm; omega,fun y hy => ?_,?_⟩,fun y hy => ?_⟩
   · obtain ⟨i,hi,rfl⟩:=List.mem_iff_getElem.1 hy
     obtain ⟨_,_,-,r,-⟩:=hk i hi
     exact r
   · by_cases hz : l = []
     · exact .inl hz
     right
     have hpos : 0 < l.length:=List.length_pos_iff.2 hz
     obtain ⟨adb,ado,ads⟩:=ad
     obtain ⟨A0,c0,q0,-⟩:=hk 0 hpos
     obtain ⟨-,-,q1⟩:=World.cells?_some q0
     have q2:=q1 0 (by omega)
     have hspot : ads = none:=by
      have : (l[0].1.cs ++ (contA l[0].2 A0 c0).toList)[0]? = some (.int .i64 l[0].1.ra):=rfl
      rw [this] at q2
      simpa [Addr.add] using World.cell?_spot q2
     subst hspot
     have hcells : ∀ j (h : j < l.length),∃ (A' : Option Addr) (c' : Nat),w.rangeAt adb (ado + j * 33) (l[j].1.cs ++ (contA l[j].2 A' c').toList) ∧ SlAt w w.heap.size A' c' l[j].2.t.l:=by
      intro j hj
      obtain ⟨A',c',r0,-,r2,-⟩:=hk j hj
      refine ⟨A',c',fun i v hv => ?_,r2⟩
      obtain ⟨-,-,r3⟩:=World.cells?_some r0
      have hi : i < 33:=(List.getElem?_eq_some_iff.1 hv).1
      have:=r3 i hi
      have ea : ((⟨adb,ado,none⟩ : Addr).add (j * 33)).add i = ⟨adb,ado + j * 33 + i,none⟩:=by
       unfold Addr.add; split <;> split <;> simp_all
      rw [ea] at this
      exact this.trans hv
     obtain ⟨A1,c1,r1,-⟩:=hcells 0 hpos
     exact ⟨adb,ado,rfl,World.block_lt_of_cell? _ ⟨adb,ado + 0 * 33 + 0,none⟩ (r1 0 (.int .i64 l[0].1.ra) rfl),hcells⟩
   · obtain ⟨i,hi,rfl⟩:=List.mem_iff_getElem.1 hy
     obtain ⟨_,_,-,-,-,r⟩:=hk i hi
     exact r
end
theorem open_acsV {H : Type} {enc : TypeId × Value → H} {w : World} {base : Nat} {v : Value} {d : DataW H} {p : List MemPlace} (hv : Value.okWide Tryz.prog w .any base 22 v) (h : DataW.Trod enc Tryz.prog w 0 (fun _ => true) true 22 v d p) (hz : Rows.uptoBulk d ≤ 1048576) :
 ∃ (l : List (Ad × Ct)) (A : Option Addr) (c : Nat),v = .slice A l.length c ∧ CellsIn w w.heap.size A c l ∧ ∀ e ∈ l,Short e.2.t:=by
 obtain ⟨fuel,hf⟩:=h
 obtain ⟨l,A,c,h1,h2⟩:=open_acs hf hz
 refine ⟨l,A,c,?_,h2⟩
 have hu : Tryz.prog.underlying 22 = some (.slice 45):=by kernel_rfl
 cases v with
 | agg cs =>
  unfold Value.okWide at hv
  rw [hu] at hv
  unfold Cell.okWide at hv
  rw [hu] at hv
  unfold Cell.ok at hv
  rw [hu] at hv
  exact hv.elim
 | _ =>
  have h1' : [_] = [_]:=h1
  injection h1'
end Go.Proofs.YtelombedjkbckaaGreatDoor
