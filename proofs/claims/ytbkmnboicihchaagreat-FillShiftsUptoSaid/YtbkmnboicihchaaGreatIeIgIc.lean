/- Axes in memory,where all is ready: ready,Len,At,Place. Axis.Place,where all is ready. axis.New: the walk. -/
import Derived.Test.YtbkmnboicihchaaGreatMgMhRhMpHaHdIaIb
import Derived.Deep.MidRow
import Derived.Deep.RegionHeld
namespace Go.Proofs.YtbkmnboicihchaaGreat
set_option maxRecDepth 100000
set_option maxHeartbeats 2000000
set_option linter.unusedSimpArgs false
set_option linter.unusedVariables false
open Go Go.RowKit Go.Shelf Go.Maps
theorem undMpI : Tryz.prog.underlying 90 = some (.map 27 3):=by kernel_rfl
theorem neMapN (w : World) (g : Nat) : (binOp .neq 90 (.map (some g)) (.map none)).run Tryz.prog w = .ok (.bool true) w:=by kernel_rfl
theorem neMapNN (w : World) : (binOp .neq 90 (.map none) (.map none)).run Tryz.prog w = .ok (.bool false) w:=by kernel_rfl
theorem zeroIn (w : World) : (zeroValue 3).run Tryz.prog w = .ok (.int .i64 0) w:=by kernel_rfl
structure AxR (W : World) (p : Nat) (L : IL) (Ai : Option Addr) (ci : Nat) (Al : Option Addr) (cl : Nat) (b : Nat) (Aa : Option Addr) (ca : Nat) (Av : Option Addr) (cv : Nat) : Prop where
 own : W.heap[p]? = some (.cells (axCs (.slice Ai L.length ci) (.slice Al L.length cl) (some b) (.slice Aa L.length ca) (.slice Av L.alive.length cv)) 93)
 ids : W.ownsRow 0 27 2 (.slice Ai L.length ci) L.length (ikCells L.ids)
 lives : W.ownsRow 0 4 1 (.slice Al L.length cl) L.length L.lives
 map : W.ownsMap Tryz.prog 27 (plainElem Tryz.prog 3) b L.length (dN idx L.ids L.length)
 ahead : W.ownsRow 0 3 1 (.slice Aa L.length ca) L.length (L.ahead L.length)
 alive : W.ownsRow 0 27 2 (.slice Av L.alive.length cv) L.alive.length (ikCells L.alive)
theorem AxR.below {W W' : World} {p : Nat} {L : IL} {Ai Al Aa Av : Option Addr} {ci cl b ca cv : Nat} (h : AxR W p L Ai ci Al cl b Aa ca Av cv) (hb : Below W.heap.size W W') : AxR W' p L Ai ci Al cl b Aa ca Av cv:=by
 have hs : ∀ {e : TypeId} {size : Nat} {v : Value} {n : Nat} {xs : List Value},W.ownsRow 0 e size v n xs → W'.ownsRow 0 e size v n xs:=fun h => own_sameA h (fun g cs hg _ => hb.block g (Array.getElem?_eq_some_iff.1 hg).1)
 refine ⟨(hb.block p (Array.getElem?_eq_some_iff.1 h.own).1).trans h.own,hs h.ids,hs h.lives,?_,hs h.ahead,hs h.alive⟩
 obtain ⟨es,clock,e1,e2⟩:=h.map
 exact ⟨es,clock,(hb.block b (Array.getElem?_eq_some_iff.1 e1).1).trans e1,e2⟩
theorem readyR_c {w : World} {p : Nat} {L : IL} {Ai Al Aa Av : Option Addr} {ci cl b ca cv : Nat} (h : AxR w p L Ai ci Al cl b Aa ca Av cv) :
   Calls Tryz.prog 50 #[.pointer (some ⟨p,0,none⟩)] w fun e w' => e = .returned (.tuple #[]) ∧ w' = w:=by
 have c2 : w.cell? ⟨p,2,none⟩ = some (.map (some b)):=cell_of_row _ _ 2 _ _ _ h.own
 have hne:=fun w => neMapN w b
 clear h
 go_enter Tryz.func50,Tryz.ntmps50
 go_wp2
 refine bodyPost_ret (v:=.tuple #[]) (results_none rfl _ _ _) rfl ?_
 exact ⟨rfl,rfl⟩
theorem lenR_c {w : World} {p : Nat} {L : IL} {Ai Al Aa Av : Option Addr} {ci cl b ca cv : Nat} (h : AxR w p L Ai ci Al cl b Aa ca Av cv) :
   Calls Tryz.prog 35 #[.pointer (some ⟨p,0,none⟩)] w fun e w' => e = .returned (.int .i64 (L.alive.length : Nat)) ∧ w' = w:=by
 have HR:=Lib.hid (readyR_c h)
 obtain ⟨m,hm⟩ : ∃ m,L.alive.length = m:=⟨_,rfl⟩
 have c4 : w.cell? ⟨p,4,none⟩ = some (.slice Av m cv):=hm ▸ cell_of_row _ _ 4 _ _ _ h.own
 rw [hm]
 clear h hm
 go_enter Tryz.func35,Tryz.ntmps35
 go_wp2_with (go_at_call 50; refine HR.out.mono ?_; rintro e w' ⟨rfl,rfl⟩)
 go_ret
 exact ⟨rfl,rfl⟩
def atL (l : List Ik) (k : Int) : Ik × Bool:=if 0 ≤ k ∧ k < l.length then (l.getD k.toNat ⟨0,0⟩,true) else (⟨0,0⟩,false)
theorem results_cell_flagA {P : Program} {fn : Func} {p u : Tmp} {ty : TypeId} (h : fn.results = #[.cell p ty, .tmp u]) (tmps : Array Value) (w : World) (g : Nat) (t : TypeId) (cs : Array Value) (fr : Nat × Nat) (d : TypeDesc)
   (hp : tmps.getD p undef = .pointer (some ⟨g,0,none⟩)) (hg : w.heap[g]? = some (.cells cs t fr))
   (hu : P.underlying ty = some d) (hd : (match d with | .struct _ | .array _ _ => true | _ => false) = true) (hi : (P.info? ty).map (·.size) = some cs.size) :
   (results fn tmps).run P w = .ok (.tuple #[.agg cs,tmps.getD u undef]) w:=by
 have hp' : tmps[p]?.getD undef = .pointer (some ⟨g,0,none⟩):=by simpa using hp
 simp [results,h,hp',asAddr,run_loadVar_row w g t ty cs fr d hg hu hd hi]
theorem ik_row_at {W : World} {base : Nat} {A : Option Addr} {c : Nat} {l : List Ik} (h : W.ownsRow base 27 2 (.slice A l.length c) l.length (ikCells l)) {k : Nat} (hk : k < l.length) :
   ∃ g,A = some ⟨g,0,none⟩ ∧ W.rangeAt g (0 + k * 2) [.int .i64 l[k].a,.int .i64 l[k].n]:=by
 rcases h.2 with ⟨e,hn⟩ | ⟨g,cap,cur,e,-,hg,-⟩
 · omega
 · simp only [Value.slice.injEq,true_and] at e
   obtain ⟨rfl,rfl⟩:=e
   refine ⟨g,rfl,fun i v hv => ?_⟩
   obtain ⟨h0,h1⟩:=ikCells_get hk
   have hi : i < 2:=(List.getElem?_eq_some_iff.1 hv).1
   have hlt : k * 2 + i < l.length * 2:=by omega
   rw [show (0 : Nat) + k * 2 + i = k * 2 + i by omega,h.cellAt _ hlt]
   match i,hi with
   | 0,_ => rw [show k * 2 + 0 = k * 2 by omega,h0]; exact hv
   | 1,_ => rw [h1]; exact hv
theorem atL_no {l : List Ik} {k : Int} (h : ¬ (0 ≤ k ∧ k < l.length)) : atL l k = (⟨0,0⟩,false):=if_neg h
theorem atL_yes {l : List Ik} {k : Nat} (h : k < l.length) : atL l (k : Int) = (l[k],true):=by
 unfold atL
 rw [if_pos ⟨by omega,by omega⟩,show ((k : Int)).toNat = k by omega,List.getD_eq_getElem?_getD,List.getElem?_eq_getElem h]
 rfl
theorem atR_c {w : World} {p : Nat} {L : IL} {Ai Al Aa Av : Option Addr} {ci cl b ca cv : Nat} (h : AxR w p L Ai ci Al cl b Aa ca Av cv) (k : Int) (hm : L.alive.length ≤ 1000000) :
   Calls Tryz.prog 48 #[.pointer (some ⟨p,0,none⟩),.int .i64 k] w fun e w' => e = .returned (.tuple #[.agg #[.int .i64 (atL L.alive k).1.a,.int .i64 (atL L.alive k).1.n],.bool (atL L.alive k).2]) ∧ Below w.heap.size w w':=by
 obtain ⟨g,hg⟩ : ∃ g,g = w.heap.size:=⟨_,rfl⟩
 obtain ⟨W,hW⟩ : ∃ W,W = w.alloc (.cells #[.int .i64 0,.int .i64 0] 27):=⟨_,rfl⟩
 have hbW : Below w.heap.size w W:=by rw [hW]; exact (Below.refl _ w).alloc (Nat.le_refl _) _
 have hk : W.heap[g]? = some (.cells #[.int .i64 0,.int .i64 0] 27):=by rw [hW,hg]; exact heap_alloc_new w _
 have hA:=h.below hbW
 have HL:=Lib.hid (lenR_c hA)
 have HIS:=Lib.hid (show ∀ a b : Value,(Tryz.prog.info? 27).map (·.size) = some (#[a,b] : Array Value).size from fun _ _ => infIk)
 have HB:=Lib.hid hbW
 have HG:=Lib.hid hg
 have HK:=Lib.hid hk
 have HW:=Lib.hid hW
 by_cases hin : 0 ≤ k ∧ k < L.alive.length
 · obtain ⟨j,rfl⟩ : ∃ j : Nat,k = j:=⟨k.toNat,by omega⟩
   have hj : j < L.alive.length:=by omega
   rw [atL_yes hj]
   obtain ⟨q,hq,hrg⟩:=ik_row_at hA.alive hj
   subst hq
   obtain ⟨m,hme⟩ : ∃ m,L.alive.length = m:=⟨_,rfl⟩
   have c4 : W.cell? ⟨p,4,none⟩ = some (.slice (some ⟨q,0,none⟩) m cv):=hme ▸ cell_of_row _ _ 4 _ _ _ hA.own
   have hcv : m ≤ cv ∧ cv ≤ 9223372036854775807:=by obtain ⟨_,_,e,h1,h2⟩:=own_parts hA.alive; cases e; rw [← hme]; exact ⟨h1,h2⟩
   obtain ⟨hc1,hc2⟩:=hcv
   generalize L.alive[j] = x at hrg
   obtain ⟨xa,xn⟩:=x
   rw [Nat.zero_add] at hrg
   have HRG:=Lib.hid hrg
   have HIL:=Lib.hid (show (Tryz.prog.info? 27).map (·.size) = some [Value.int .i64 xa,.int .i64 xn].length from infIk)
   rw [hme] at HL hj hm
   have g1 : ¬ (j : Int) < 0:=by omega
   have g2 : ¬ (m : Int) ≤ (j : Int):=by omega
   have g3 : (j : Int) < (m : Int):=by omega
   have g4 : (0 : Int) ≤ (j : Int):=by omega
   clear hA hrg hbW hk hW hg h hin hme
   go_enter Tryz.func48,Tryz.ntmps48
   go_upto_region 1 with (fail)
   rw [← HW.out,← HG.out]
   go_upto_region 3 with (go_at_call 35; refine HL.out.mono ?_; rintro e w' ⟨rfl,rfl⟩)
   go_wp2_with (first | (refine wpList_load_mid rfl 27 _ rfl q (j * 2) rfl [.int .i64 xa,.int .i64 xn] _ HRG.out ikUnd rfl HIL.out ?_) | (refine wpList_store_row rfl 27 _ _ rfl g #[.int .i64 xa,.int .i64 xn] rfl rfl 27 #[.int .i64 0,.int .i64 0] HK.out (HIS.out _ _) rfl (by kernel_rfl) ?_) | fail)
   refine bodyPost_ret (v:=.tuple #[.agg #[.int .i64 xa,.int .i64 xn],.bool true]) (results_cell_flagA (p:=4) (u:=5) rfl _ _ g 27 #[.int .i64 xa,.int .i64 xn] (0,0) _ rfl (setRow_heap _ _ _ _ _ _ HK.out) ikUnd rfl (HIS.out _ _)) rfl ?_
   exact ⟨rfl,below_row HB.out (by rw [HG.out]; exact Nat.le_refl _) _⟩
 · rw [atL_no hin]
   have hkm : k < 0 ∨ ((L.alive.length : Nat) : Int) ≤ k:=by omega
   clear hA hbW hk hW hg h hin
   generalize L.alive.length = m at *
   rcases hkm with g1 | g1
   all_goals
     go_enter Tryz.func48,Tryz.ntmps48
     go_upto_region 1 with (fail)
     rw [← HW.out,← HG.out]
   · go_wp2_with (first | (refine wpList_store_row rfl 27 _ _ rfl g #[.int .i64 0,.int .i64 0] rfl rfl 27 #[.int .i64 0,.int .i64 0] HK.out (HIS.out _ _) rfl (by kernel_rfl) ?_) | fail)
     refine bodyPost_ret (v:=.tuple #[.agg #[.int .i64 0,.int .i64 0],.bool false]) (results_cell_flagA (p:=4) (u:=5) rfl _ _ g 27 #[.int .i64 0,.int .i64 0] (0,0) _ rfl (setRow_heap _ _ _ _ _ _ HK.out) ikUnd rfl (HIS.out _ _)) rfl ?_
     exact ⟨rfl,below_row HB.out (by rw [HG.out]; exact Nat.le_refl _) _⟩
   · by_cases g0 : k < 0
     · go_wp2_with (first | (refine wpList_store_row rfl 27 _ _ rfl g #[.int .i64 0,.int .i64 0] rfl rfl 27 #[.int .i64 0,.int .i64 0] HK.out (HIS.out _ _) rfl (by kernel_rfl) ?_) | fail)
       refine bodyPost_ret (v:=.tuple #[.agg #[.int .i64 0,.int .i64 0],.bool false]) (results_cell_flagA (p:=4) (u:=5) rfl _ _ g 27 #[.int .i64 0,.int .i64 0] (0,0) _ rfl (setRow_heap _ _ _ _ _ _ HK.out) ikUnd rfl (HIS.out _ _)) rfl ?_
       exact ⟨rfl,below_row HB.out (by rw [HG.out]; exact Nat.le_refl _) _⟩
     · go_wp2_with (first | (go_at_call 35; refine HL.out.mono ?_; rintro e w' ⟨rfl,rfl⟩) | (refine wpList_store_row rfl 27 _ _ rfl g #[.int .i64 0,.int .i64 0] rfl rfl 27 #[.int .i64 0,.int .i64 0] HK.out (HIS.out _ _) rfl (by kernel_rfl) ?_) | fail)
       refine bodyPost_ret (v:=.tuple #[.agg #[.int .i64 0,.int .i64 0],.bool false]) (results_cell_flagA (p:=4) (u:=5) rfl _ _ g 27 #[.int .i64 0,.int .i64 0] (0,0) _ rfl (setRow_heap _ _ _ _ _ _ HK.out) ikUnd rfl (HIS.out _ _)) rfl ?_
       exact ⟨rfl,below_row HB.out (by rw [HG.out]; exact Nat.le_refl _) _⟩
end Go.Proofs.YtbkmnboicihchaaGreat
namespace Go.Proofs.YtbkmnboicihchaaGreat
set_option maxRecDepth 100000
set_option maxHeartbeats 2000000
set_option linter.unusedSimpArgs false
set_option linter.unusedVariables false
open Go Go.RowKit Go.Shelf Go.Maps
theorem own1_at {W : World} {base : Nat} {e : TypeId} {A : Option Addr} {n c : Nat} {xs : List Value} (h : W.ownsRow base e 1 (.slice A n c) n xs) {k : Nat} (hk : k < n) {v : Value} (hv : xs[k]? = some v) :
   ∃ g,A = some ⟨g,0,none⟩ ∧ W.cell? ⟨g,k,none⟩ = some v:=by
 rcases h.2 with ⟨e,hn⟩ | ⟨g,cap,cur,e,-,hg,-⟩
 · omega
 · simp only [Value.slice.injEq,true_and] at e
   obtain ⟨rfl,rfl⟩:=e
   refine ⟨g,rfl,?_⟩
   rw [h.cellAt _ (by omega)]
   exact hv
theorem inElem {z : Int} (h : i64 z) : plainElem (H:=Value) Tryz.prog 3 (.int .i64 z) = some (.lit (.int .i64 z),[]):=by
 unfold plainElem
 rw [ikUndInt]
 exact if_pos ⟨rfl,ik_wf h⟩
theorem inElem_inv {v : Value} {z : Int} {ps : List MemPlace} (h : plainElem (H:=Value) Tryz.prog 3 v = some (.lit (.int .i64 z),ps)) : v = .int .i64 z:=by
 unfold plainElem at h
 rw [ikUndInt] at h
 cases v <;> simp_all
theorem ldI_run {o : Oper} {ρ : Operand → Value} {w : World} (x : Operand) (ho : o.op = .load 90 x) (p : Addr) (hx : ρ x = .pointer (some p)) (v : Value) (hc : w.cell? p = some v) : (execOp ρ o).run Tryz.prog w = .ok (.value v) w:=by
 unfold execOp
 simp only [ho,hx]
 simp [go_sem,hc]
theorem lkI_run {o : Oper} {ρ : Operand → Value} {w : World} (x y : Operand) (ho : o.op = .lookup 90 x y true) {mv kv v : Value} (hx : ρ x = mv) (hy : ρ y = kv) (hr : (Instr.lookup 90 mv kv true).run Tryz.prog w = .ok v w) : (execOp ρ o).run Tryz.prog w = .ok (.value v) w:=by
 unfold execOp
 simp only [ho,hx,hy,Sem.run_bind,hr,Result.andThen_ok,Sem.run_pure]
theorem spot_look {L : IL} (hok : ∀ x ∈ L.ids, x.ok) (hn : L.ids.Nodup) (x : Ik) (hx : x.ok) :
   ∃ z : Int,(∀ i (h : i < L.length),L[i].1 = x → z = i) ∧ ∀ (W : World) (b : Nat),W.ownsMap Tryz.prog 27 (plainElem Tryz.prog 3) b L.length (dN idx L.ids L.length) →
     (Instr.lookup 90 (.map (some b)) (.agg #[.int .i64 x.a,.int .i64 x.n]) true).run Tryz.prog W = .ok (.tuple #[.int .i64 z,.bool (decide (x ∈ L.ids))]) W:=by
 have hlen:=IL.ids_len L
 have hhas : Maps.has (dN idx L.ids L.length) x.key = decide (x ∈ L.ids):=by
   rw [Bool.eq_iff_iff,decide_eq_true_eq,dN_has idx hok x hx L.length (by omega)]
   constructor
   · rintro ⟨i,h,-,rfl⟩; exact List.getElem_mem h
   · intro h
     obtain ⟨i,hi,e⟩:=List.mem_iff_getElem.1 h
     exact ⟨i,hi,by omega,e⟩
 by_cases hx' : x ∈ L.ids
 · obtain ⟨i,hi,e⟩:=List.mem_iff_getElem.1 hx'
   refine ⟨i,fun j hj ej => ?_,fun W b hm => ?_⟩
   · have e2 : L.ids[j]'(by omega) = x:=by simpa [IL.ids] using ej
     have:=(List.getElem_inj hn).1 (e.trans e2.symm)
     omega
   · obtain ⟨v,ps,hr,hv⟩:=hm.look_ok ik_law undMpI (zeroIn W) (zd:=.lit (.int .i64 0)) (zp:=[]) (inElem (z:=0) ⟨by omega,by omega⟩) (ik_key x hx)
     have hat:=dN_at idx hok hn (.lit (.int .i64 0)) L.length (by omega) i hi (by omega)
     rw [e] at hat
     rw [hat] at hv
     obtain rfl:=inElem_inv hv
     rwa [hhas] at hr
 · refine ⟨0,fun j hj ej => absurd (List.mem_map.2 ⟨L[j],List.getElem_mem hj,ej⟩) hx',fun W b hm => ?_⟩
   obtain ⟨v,ps,hr,hv⟩:=hm.look_ok ik_law undMpI (zeroIn W) (zd:=.lit (.int .i64 0)) (zp:=[]) (inElem (z:=0) ⟨by omega,by omega⟩) (ik_key x hx)
   rw [Maps.atKey_of_not_has (by rw [hhas]; exact decide_eq_false hx')] at hv
   obtain rfl:=inElem_inv hv
   rwa [hhas] at hr
theorem placeR_c {w : World} {p : Nat} {L : IL} {Ai Al Aa Av : Option Addr} {ci cl b ca cv : Nat} (h : AxR w p L Ai ci Al cl b Aa ca Av cv) (hok : ∀ x ∈ L.ids, x.ok) (hn : L.ids.Nodup) (hlen : L.length ≤ 1000000) (x : Ik) (hx : x.ok) :
   Calls Tryz.prog 46 #[.pointer (some ⟨p,0,none⟩),.agg #[.int .i64 x.a,.int .i64 x.n]] w fun e w' => e = .returned (.tuple #[.int .i64 (((placeL L.alive x).getD 0 : Nat) : Int),.bool (placeL L.alive x).isSome]) ∧ Below w.heap.size w w':=by
 obtain ⟨g,hg⟩ : ∃ g,g = w.heap.size:=⟨_,rfl⟩
 obtain ⟨W,hW⟩ : ∃ W,W = w.alloc (.cells #[.int .i64 x.a,.int .i64 x.n] 27):=⟨_,rfl⟩
 have hbW : Below w.heap.size w W:=by rw [hW]; exact (Below.refl _ w).alloc (Nat.le_refl _) _
 have hk : W.heap[g]? = some (.cells #[.int .i64 x.a,.int .i64 x.n] 27):=by rw [hW,hg]; exact heap_alloc_new w _
 have hA:=h.below hbW
 have hA2 : AxR W.drew p L Ai ci Al cl b Aa ca Av cv:=hA.below (Below.refl _ W).drew
 obtain ⟨z,hzi,hlk⟩:=spot_look hok hn x hx
 have HR:=Lib.hid (readyR_c hA)
 have HG:=Lib.hid hg
 have HW:=Lib.hid hW
 have HB:=Lib.hid hbW
 have HM:=Lib.hid (fun (wx : World) (hx : Below W.heap.size W wx) => show wx.cell? ⟨p,2,none⟩ = some (.map (some b)) from cell_of_row wx p 2 _ _ _ (hA.below hx).own)
 have HRG:=Lib.hid (fun (wx : World) (hx : Below W.heap.size W wx) => show wx.rangeAt g 0 [.int .i64 x.a,.int .i64 x.n] from fun i v hv => by
   rw [Nat.zero_add]
   exact (cell_of_row wx g i _ _ _ ((hx.block g (Array.getElem?_eq_some_iff.1 hk).1).trans hk)).trans (by simpa using hv))
 have HLK:=Lib.hid (fun (wx : World) (hx' : Below W.heap.size W wx) => hlk wx b (hA.below hx').map)
 have HIL:=Lib.hid (show (Tryz.prog.info? 27).map (·.size) = some [Value.int .i64 x.a,Value.int .i64 x.n].length from infIk)
 have HA2:=Lib.hid hA2
 have HZ:=Lib.hid hzi
 have HN:=Lib.hid hn
 have HX:=Lib.hid hok
 have HXO:=Lib.hid hx
 obtain ⟨f,hf⟩ : ∃ f,decide (x ∈ L.ids) = f:=⟨_,rfl⟩
 rw [hf] at HLK
 have HF:=Lib.hid hf
 obtain ⟨r,hr⟩ : ∃ r,placeL L.alive x = r:=⟨_,rfl⟩
 rw [hr]
 have HRR:=Lib.hid hr
 clear hA hA2 hbW hk hW hg h hlk hzi hok hn hx hf hr
 obtain ⟨xa,xn⟩:=x
 dsimp only at HRG HIL HLK ⊢
 go_enter Tryz.func46,Tryz.ntmps46
 go_upto_region 1 with (fail)
 rw [← HW.out,← HG.out]
 go_upto_region 4 with (go_at_call 50; refine HR.out.mono ?_; rintro e w' ⟨rfl,rfl⟩)
 refine wp_region_held_drew (S:=fun wx => Below w'.heap.size w' wx) (by kernel_rfl) (Below.refl _ w').drew (fun hHeld => ?_)
 refine wpAnyH_take (i:=0) (v:=.pointer (some ⟨p,0,none⟩)) rfl (by kernel_rfl) (by kernel_rfl) (by kernel_rfl) (fun _ _ _ h => h) (Or.inl ⟨by kernel_rfl,fun _ hS => by kernel_rfl⟩) hHeld ?_
 try simp only [sX]
 refine wpAnyH_take (i:=1) (v:=.pointer (some ⟨p,0,none⟩)) rfl (by kernel_rfl) (by kernel_rfl) (by kernel_rfl) (fun _ _ _ h => h) (Or.inl ⟨by kernel_rfl,fun _ hS => by kernel_rfl⟩) hHeld ?_
 try simp only [sX]
 refine wpAnyH_take (i:=2) (v:=.pointer (some ⟨p,2,none⟩)) rfl (by kernel_rfl) (by kernel_rfl) (by kernel_rfl) (fun _ _ _ h => h) (Or.inl ⟨by kernel_rfl,fun _ hS => by kernel_rfl⟩) hHeld ?_
 try simp only [sX]
 refine wpAnyH_take (i:=3) (v:=.map (some b)) rfl (by kernel_rfl) (by kernel_rfl) (by kernel_rfl) (fun _ _ _ h => h) (Or.inl ⟨by kernel_rfl,fun _ hS => ldI_run _ rfl ⟨p,2,none⟩ rfl _ (HM.out _ hS)⟩) hHeld ?_
 try simp only [sX]
 refine wpAnyH_take (i:=4) (v:=.agg #[.int .i64 xa,.int .i64 xn]) rfl (by kernel_rfl) (by kernel_rfl) (by kernel_rfl) (fun _ _ _ h => h) (yieldsIf_load_mid (by kernel_rfl) 27 _ rfl g 0 rfl [.int .i64 xa,.int .i64 xn] _ (fun _ hS => HRG.out _ hS) ikUnd rfl HIL.out) hHeld ?_
 try simp only [sX]
 refine wpAnyH_take (i:=5) (v:=.tuple #[.int .i64 z,.bool f]) rfl (by kernel_rfl) (by kernel_rfl) (by kernel_rfl) (fun _ _ _ h => h) (Or.inl ⟨by kernel_rfl,fun _ hS => lkI_run (mv:=.map (some b)) (kv:=.agg #[.int .i64 xa,.int .i64 xn]) _ _ rfl rfl rfl (HLK.out _ hS)⟩) hHeld ?_
 try simp only [sX]
 refine wpAnyH_take (i:=6) (v:=.tuple #[.int .i64 z,.bool f]) rfl (by kernel_rfl) (by kernel_rfl) (by kernel_rfl) (fun _ _ _ h => h) (Or.inl ⟨by kernel_rfl,fun _ hS => by kernel_rfl⟩) hHeld ?_
 try simp only [sX]
 refine wpAnyH_take (i:=7) (v:=.int .i64 z) rfl (by kernel_rfl) (by kernel_rfl) (by kernel_rfl) (fun _ _ _ h => h) (Or.inl ⟨by kernel_rfl,fun _ hS => by kernel_rfl⟩) hHeld ?_
 try simp only [sX]
 refine wpAnyH_take (i:=8) (v:=.bool f) rfl (by kernel_rfl) (by kernel_rfl) (by kernel_rfl) (fun _ _ _ h => h) (Or.inl ⟨by kernel_rfl,fun _ hS => by kernel_rfl⟩) hHeld ?_
 try simp only [sX]
 refine wpAnyH_take (i:=9) (v:=.int .i64 z) rfl (by kernel_rfl) (by kernel_rfl) (by kernel_rfl) (fun _ _ _ h => h) (Or.inl ⟨by kernel_rfl,fun _ hS => by kernel_rfl⟩) hHeld ?_
 try simp only [sX]
 refine wpAnyH_take (i:=10) (v:=.bool f) rfl (by kernel_rfl) (by kernel_rfl) (by kernel_rfl) (fun _ _ _ h => h) (Or.inl ⟨by kernel_rfl,fun _ hS => by kernel_rfl⟩) hHeld ?_
 try simp only [sX]
 refine wpAnyH_done (by kernel_rfl) ?_ _
 clear hHeld
 have HBF:=Lib.hid (show Below w.heap.size w w'.drew from HB.out.drew)
 obtain ⟨W4,hW4⟩ : ∃ W4,W4 = w'.drew:=⟨_,rfl⟩
 rw [← hW4] at HBF HA2 ⊢
 clear hW4
 obtain ⟨n,hne⟩ : ∃ n,List.length L = n:=⟨_,rfl⟩
 have c1 : W4.cell? ⟨p,1,none⟩ = some (.slice Al n cl):=hne ▸ cell_of_row _ _ 1 _ _ _ HA2.out.own
 have c3 : W4.cell? ⟨p,3,none⟩ = some (.slice Aa n ca):=hne ▸ cell_of_row _ _ 3 _ _ _ HA2.out.own
 have hcl : n ≤ cl ∧ cl ≤ 9223372036854775807:=by obtain ⟨_,_,e,h1,h2⟩:=own_parts HA2.out.lives; cases e; rw [← hne]; exact ⟨h1,h2⟩
 have hca : n ≤ ca ∧ ca ≤ 9223372036854775807:=by obtain ⟨_,_,e,h1,h2⟩:=own_parts HA2.out.ahead; cases e; rw [← hne]; exact ⟨h1,h2⟩
 obtain ⟨hl1,hl2⟩:=hcl
 obtain ⟨ha1,ha2⟩:=hca
 rw [hne] at hlen
 have HNE:=Lib.hid hne
 clear hne HR HM HRG HLK HIL HW HG
 cases f with
 | false =>
   obtain rfl : r = none:=by rw [← HRR.out]; exact IL.place_out (by simpa using HF.out)
   go_wp2
   first | go_ret | go_ret2
   exact ⟨rfl,HBF.out⟩
 | true =>
   have hmem : (⟨xa,xn⟩ : Ik) ∈ L.ids:=of_decide_eq_true HF.out
   obtain ⟨i,hi0,ei0⟩:=List.mem_iff_getElem.1 hmem
   have hi : i < List.length L:=by rw [← IL.ids_len]; exact hi0
   have ei : L[i].1 = ⟨xa,xn⟩:=by simpa [IL.ids] using ei0
   obtain rfl : z = i:=HZ.out i hi ei
   have hin : i < n:=by rw [← HNE.out]; exact hi
   have hlv : L.lives[i]? = some (.bool L[i].2):=by unfold IL.lives; rw [List.getElem?_map,List.getElem?_eq_getElem hi]; rfl
   have hah : (L.ahead (List.length L))[i]? = some (.int .i64 ((IL.alive (L.take i)).length : Nat)):=by unfold IL.ahead; rw [List.getElem?_map,List.getElem?_range hi]; rfl
   obtain ⟨gl,hgl,hcl⟩:=own1_at HA2.out.lives hi hlv
   obtain ⟨ga,hga,hca⟩:=own1_at HA2.out.ahead hi hah
   subst hgl
   subst hga
   have hpl:=fun h => IL.place_live HN.out hi h
   have hpd:=fun h => IL.place_dead HN.out hi h
   rw [ei] at hpl hpd
   generalize (IL.alive (L.take i)).length = q at hca hpl
   generalize L[i].2 = lv at hcl hpl hpd
   have i0 : (0 : Int) ≤ (i : Int):=by omega
   have i1 : (i : Int) < (n : Int):=by omega
   cases lv with
   | true =>
     obtain rfl : r = some q:=by rw [← HRR.out]; exact hpl rfl
     clear hpl hpd hlv hah hmem hi0 ei0 hi ei
     go_wp2
     first | go_ret | go_ret2
     exact ⟨rfl,HBF.out⟩
   | false =>
     obtain rfl : r = none:=by rw [← HRR.out]; exact hpd rfl
     clear hpl hpd hlv hah hmem hi0 ei0 hi ei
     go_wp2
     first | go_ret | go_ret2
     exact ⟨rfl,HBF.out⟩
end Go.Proofs.YtbkmnboicihchaaGreat
namespace Go.Proofs.YtbkmnboicihchaaGreat
set_option maxRecDepth 100000
set_option maxHeartbeats 4000000
open Go Go.RowKit Go.Shelf Go.Maps
theorem mk_mapB (w : World) : (Instr.makeMap 94 none).run Tryz.prog w = .ok (.map (some w.heap.size)) (w.alloc (.map #[] 0)):=by kernel_rfl
theorem gb_undrew {w w' : World} {o : Obj} {r : Option Nat} (h : (w.drew.alloc o).grownBy w' r) : (w.alloc o).grownBy w' r:=⟨h.os,h.tape,h.output,h.size,h.block⟩
theorem step_load_row {P : Program} {ops : Array Oper} {o : Oper} {a : Act} {w : World} {K : Act → World → Prop} {Q : Exit → Act → World → Prop} {E : Prop} (hgd : o.guard = none) (ty : TypeId) (x : Operand) (ho : o.op = .load ty x)
   (g : Nat) (hx : a.eval x = .pointer (some ⟨g,0,none⟩)) (t : TypeId) (cs : Array Value) (fr : Nat × Nat) (d : TypeDesc) (hg : w.heap[g]? = some (.cells cs t fr))
   (hu : P.underlying ty = some d) (hd : (match d with | .struct _ | .array _ _ => true | _ => false) = true) (hi : (P.info? ty).map (·.size) = some cs.size)
   (h : K (a.put o.dst (.agg cs)) w) : if Region.wanted o (yielded ops a.tmps) = true then Oper.wp P o a w K Q else E:=by
 have hw : Region.wanted o (yielded ops a.tmps) = true:=by simp [Region.wanted,hgd]
 rw [if_pos hw]
 exact wp_load_row ty x ho g hx t cs fr d hg hu hd hi h
theorem live_kept {w2 w4 : World} {p j : Nat} {vi vl : Value} {xs ys : List Value} (hl : w2.ownsRow (p + 2) 4 1 vl j xs) (hr : w2.ownsRow (p + 2) 27 2 vi j ys) {o : Obj} (hg : (w2.alloc o).grownBy w4 vi.ownBlock) (v : Value) : (w4.setCell ⟨p,0,none⟩ v).ownsRow (p + 2) 4 1 vl j xs:=by
 refine own_sameA hl (fun g cs h hgb => ?_)
 have hlt:=(Array.getElem?_eq_some_iff.1 h).1
 refine (heap_setCell_other _ _ _ _ (by show g ≠ p; omega)).trans ((hg.block g (by rw [World.size_alloc]; omega) (fun e => ?_)).trans (heapOld _ _ _ hlt))
 obtain ⟨-,cur,h2⟩:=own_blk hr g e.symm
 rw [h] at h2
 simp only [Option.some.injEq,Obj.cells.injEq] at h2
 exact absurd h2.2.1 (by decide)
theorem RNew.start (w : World) (l : List Ik) : RNew w w.heap.size l 0 ((w.alloc (.cells (axCs (.slice none 0 0) (.slice none 0 0) none (.slice none 0 0) (.slice none 0 0)) 93)).alloc (.map #[] 0)):=by
 refine ⟨none,0,none,0,(heapOld _ _ _ (by simp)).trans (World.alloc_heap_new w _),⟨rfl,.inl ⟨rfl,rfl⟩⟩,⟨rfl,.inl ⟨rfl,rfl⟩⟩,?_,((Below.refl _ w).alloc (Nat.le_refl _) _).alloc (by simp) _,by simp⟩
 have:=World.ownsMap_made (H:=Value) (w.alloc (.cells (axCs (.slice none 0 0) (.slice none 0 0) none (.slice none 0 0) (.slice none 0 0)) 93)) Tryz.prog 27 (plainElem Tryz.prog 4)
 rwa [World.size_alloc] at this
theorem axNew_c (w : World) (l : List Ik) (hok : ∀ x ∈ l, x.ok) (hnz : ∀ x ∈ l, x.z = false) (hnd : l.Nodup) (hlen : l.length ≤ 1000) (A : Option Addr) (c : Nat) (hs : IkSl w w.heap.size A c l) :
   Calls Tryz.prog 10 #[.slice A l.length c] w fun e w' => e = .returned (.pointer (some ⟨w.heap.size,0,none⟩)) ∧ RNew w w.heap.size l l.length w':=by
 obtain ⟨p,hp⟩ : ∃ p,p = w.heap.size:=⟨_,rfl⟩
 obtain ⟨n,hn⟩ : ∃ n,n = l.length:=⟨_,rfl⟩
 have hst:=RNew.start w l
 rw [← hp] at hst hs ⊢
 rw [← hn] at hlen ⊢
 have HP:=Lib.hid hp
 have HN:=Lib.hid hn
 have HS:=Lib.hid hs
 have HST:=Lib.hid hst
 have HOK:=Lib.hid hok
 have HNZ:=Lib.hid hnz
 have HND:=Lib.hid hnd
 have hsc:=hs.2.1
 have hsl:=hs.1
 rw [← hn] at hsl
 obtain ⟨ti,hti,hz0,hz1,hz2⟩:=info_parts infoIk
 obtain ⟨tb,htb,hy0,hy1,hy2⟩:=info_parts infoBl
 clear hp hn hs hst hok hnz hnd
 have hmk:=mk_mapB
 go_enter Tryz.func10,Tryz.ntmps10
 go_wp2
 clear hmk
 rw [← HP.out]
 go_loopw [12] (fun i wr => ∃ j : Nat,j ≤ n ∧ i = .int .i64 j ∧ RNew w p l j wr) (fun i _ => n - (intOf i).toNat)
 case atStart =>
   refine ⟨0,Nat.zero_le _,rfl,?_⟩
   have:=HST.out
   unfold axCs at this
   rw [HP.out] at this ⊢
   exact this
 case round =>
   obtain ⟨j,hj,rfl,hR⟩:=hrel
   by_cases hlt : j < n
   · have hjl : j < l.length:=by rw [← HN.out]; exact hlt
     obtain ⟨Ai,ci,Al,cl,hp0,hri,hrl,hmp,hbe,hsz⟩:=hR
     obtain ⟨b0,o0,hA,hb0,hrg0⟩ : ∃ b o,A = some ⟨b,o,none⟩ ∧ b < p ∧ ∀ j (h : j < l.length),w.rangeAt b (o + j * 2) [.int .i64 l[j].a,.int .i64 l[j].n]:=by
       rcases HS.out.2.2 with h | h
       · rw [h] at hjl; exact absurd hjl (Nat.not_lt_zero _)
       · exact h
     subst hA
     have hx:=HOK.out _ (List.getElem_mem hjl)
     have hz:=HNZ.out _ (List.getElem_mem hjl)
     have hkey:=ik_key _ hx
     have hnew:=dN_new yes HOK.out HND.out hjl
     have hrg : wr.rangeAt b0 (o0 + j * 2) [.int .i64 l[j].a,.int .i64 l[j].n]:=fun i v hv => (hbe.cell (p:=⟨b0,_,none⟩) hb0).trans (hrg0 j hjl i v hv)
     have hstep:=fun w2 w4 w6 A2 A3 c2 c3 o1 o2 o3 hm hg2 hg4 ho4 hg6 ho6 => RNew.step (w:=w) (wr:=wr) (w2:=w2) (w4:=w4) (w6:=w6) (p:=p) hjl hp0 hri hbe hsz hrl (o1:=o1) (o2:=o2) (o3:=o3) hm hg2 (A2:=A2) (A3:=A3) (c2:=c2) (c3:=c3) hg4 ho4 hg6 ho6
     generalize l[j] = x at hx hz hkey hnew hrg hstep
     obtain ⟨xa,xn⟩:=x
     simp only [Ik.val] at hkey
     have hze:=fun w => eqI w xa xn 0 0
     have hzf : decide (xa = 0 ∧ xn = 0) = false:=hz
     rw [hzf] at hze
     obtain ⟨W1,hW1⟩ : ∃ W1,W1 = wr.alloc (.cells #[.int .i64 xa,.int .i64 xn] 27):=⟨_,rfl⟩
     have hq1 : W1.heap[wr.heap.size]? = some (.cells #[.int .i64 xa,.int .i64 xn] 27):=by rw [hW1]; exact World.alloc_heap_new wr _
     have hpl : p < wr.heap.size:=(Array.getElem?_eq_some_iff.1 hp0).1
     have hp1 : W1.heap[p]? = some (.cells (axCs (.slice Ai j ci) (.slice Al j cl) none (.slice none 0 0) (.slice none 0 0)) 93):=by rw [hW1]; exact (heapOld _ _ _ hpl).trans hp0
     have hm1 : W1.ownsMap Tryz.prog 27 (plainElem Tryz.prog 4) (p + 1) j (dN yes l j):=by rw [hW1]; exact hmp.alloc _
     have hs1 : W1.heap.size = wr.heap.size + 1:=by rw [hW1,World.size_alloc]
     have hlk : (Instr.lookup 94 (.map (some (p + 1))) (.agg #[.int .i64 xa,.int .i64 xn]) false).run Tryz.prog W1 = .ok (.bool false) W1:=by
       obtain ⟨v,ps,hrun,hv⟩:=hm1.lookup ik_law undMpB (zeroBl W1) (blElem false) hkey
       rw [Maps.atKey_of_not_has hnew] at hv
       obtain rfl : v = .bool false:=by
         unfold plainElem at hv
         rw [undBl] at hv
         cases v <;> simp_all
       exact hrun
     have hc1 : W1.cell? ⟨p,0,none⟩ = some (.slice Ai j ci):=cell_of_row _ _ 0 _ _ _ hp1
     have hinl : (Tryz.prog.info? 27).map (·.size) = some [Value.int .i64 xa,Value.int .i64 xn].length:=infIk
     have hina : (Tryz.prog.info? 27).map (·.size) = some #[Value.int .i64 xa,Value.int .i64 xn].size:=infIk
     have hic : j ≤ ci ∧ ci ≤ 9223372036854775807:=by obtain ⟨_,_,e,h1,h2⟩:=own_parts hri; cases e; exact ⟨h1,h2⟩
     have hcc : j ≤ cl ∧ cl ≤ 9223372036854775807:=by obtain ⟨_,_,e,h1,h2⟩:=own_parts hrl; cases e; exact ⟨h1,h2⟩
     obtain ⟨hi1,hi2⟩:=hic
     obtain ⟨hl1,hl2⟩:=hcc
     have hk1000 : ¬ (j : Int) = 1000:=by omega
     have hj1 : (j : Int) < (n : Int):=by omega
     have hj0 : (0 : Int) ≤ (j : Int):=by omega
     obtain ⟨q,hq⟩ : ∃ q,q = wr.heap.size:=⟨_,rfl⟩
     rw [← hq] at hq1 hs1
     subst hW1
     have HQ:=Lib.hid hq
     have HQ1:=Lib.hid hq1
     have HP1:=Lib.hid hp1
     have HM1:=Lib.hid hm1
     have HS1:=Lib.hid hs1
     have HKEY:=Lib.hid hkey
     have HRG:=Lib.hid hrg
     have HSTEP:=Lib.hid hstep
     have HRI:=Lib.hid hri
     have HRL:=Lib.hid hrl
     have HSZ:=Lib.hid hsz
     have HIL:=Lib.hid hinl
     have HIA:=Lib.hid hina
     have HPL:=Lib.hid hpl
     clear hq hq1 hp1 hm1 hs1 hkey hrg hstep hri hrl hinl hina hpl hp0 hmp hbe hsz hx hz hzf hnew hrg0
     go_wp2_with (first | (refine wpList_mid rfl 27 _ rfl b0 (o0 + j * 2) rfl [.int .i64 xa,.int .i64 xn] _ HRG.out ikUnd rfl HIL.out ?_) | (refine wpList_row rfl 27 _ rfl wr.heap.size rfl 27 #[.int .i64 xa,.int .i64 xn] (0,0) _ (HQ.out ▸ HQ1.out) ikUnd rfl HIA.out ?_) | (at_mapUpdate; refine wpList_mapUpdate_own _ rfl _ _ _ 94 rfl 27 4 ik_law undMpB (plainElem Tryz.prog 4) (p + 1) j (dN yes l j) rfl HM1.out (by unfold maxLen; omega) (.agg #[.int .i64 xa,.int .i64 xn]) (.bool true) _ rfl rfl HKEY.out (.lit (.bool true)) [] (blElem true) ?_; intro w2 hown2 hg2; have HO2:=Lib.hid hown2; have HG2:=Lib.hid hg2; clear hown2 hg2))
     have s2:=HG2.out.size
     rw [HS1.out] at s2
     have hpq : p < q:=by have:=HPL.out; rw [HQ.out]; exact this
     have hp2 : w2.heap[p]? = some (.cells (axCs (.slice Ai j ci) (.slice Al j cl) none (.slice none 0 0) (.slice none 0 0)) 93):=(HG2.out.block p (by rw [HS1.out]; omega) (fun e => by have:=Option.some.inj e; omega)).trans HP1.out
     have hq2 : w2.heap[q]? = some (.cells #[.int .i64 xa,.int .i64 xn] 27):=(HG2.out.block q (by rw [HS1.out]; omega) (fun e => by have:=Option.some.inj e; have:=HSZ.out; rw [← HQ.out] at this; omega)).trans HQ1.out
     have hold : ∀ g,g < wr.heap.size → g ≠ p + 1 → w2.heap[g]? = wr.heap[g]?:=fun g h1 h2 => (HG2.out.block g (by rw [World.size_alloc]; omega) (fun e => h2 (Option.some.inj e))).trans (heapOld _ _ _ h1)
     have hr2 : w2.ownsRow (p + 2) 27 2 (.slice Ai j ci) j (ikCells (l.take j)):=own_sameA HRI.out (fun g cs hg hgb => hold g (Array.getElem?_eq_some_iff.1 hg).1 (by omega))
     have hl2 : w2.ownsRow (p + 2) 4 1 (.slice Al j cl) j (List.replicate j (.bool true)):=own_sameA HRL.out (fun g cs hg hgb => hold g (Array.getElem?_eq_some_iff.1 hg).1 (by omega))
     obtain ⟨W3,hW3⟩ : ∃ W3,W3 = w2.drew:=⟨_,rfl⟩
     have hs3 : W3.heap.size = w2.heap.size:=by rw [hW3]; rfl
     have hp3 : W3.heap[p]? = some (.cells (axCs (.slice Ai j ci) (.slice Al j cl) none (.slice none 0 0) (.slice none 0 0)) 93):=by rw [hW3]; exact hp2
     have hq3 : W3.heap[q]? = some (.cells #[.int .i64 xa,.int .i64 xn] 27):=by rw [hW3]; exact hq2
     have hr3 : W3.ownsRow (p + 2) 27 2 (.slice Ai j ci) j (ikCells (l.take j)):=by rw [hW3]; exact hr2
     have hc3 : W3.cell? ⟨p,0,none⟩ = some (.slice Ai j ci):=cell_of_row _ _ 0 _ _ _ hp3
     have hc3a : (W3.alloc (.cells #[.int .i64 xa,.int .i64 xn] 27)).cell? ⟨p,0,none⟩ = some (.slice Ai j ci):=cell_of_row _ _ 0 _ _ _ ((heapOld _ _ _ (by omega)).trans hp3)
     have hq3' : W3.heap[wr.heap.size]? = some (.cells #[.int .i64 xa,.int .i64 xn] 27):=HQ.out ▸ hq3
     have HP3:=Lib.hid hp3
     have HQ3:=Lib.hid hq3'
     have HR3:=Lib.hid hr3
     have HL2:=Lib.hid hl2
     have HS3:=Lib.hid hs3
     have HW3:=Lib.hid hW3
     have HS2:=Lib.hid s2
     have HPQ:=Lib.hid hpq
     have HP2:=Lib.hid hp2
     clear s2 hpq hp2 hq2 hold hr2 hl2 hs3 hp3 hq3 hr3 hW3 hq3' hc1 hlk hze
     refine wp_region_any (by kernel_rfl) ?_
     change wpAny _ _ _ _ _ _ _ (World.drew w2)
     rw [← HW3.out]
     refine wpAny_take (i:=0) (v:=.pointer (some ⟨p,0,none⟩)) rfl (by kernel_rfl) (by kernel_rfl) (by kernel_rfl) (fun _ _ _ h => h) (Or.inl ⟨by kernel_rfl,fun w' => by kernel_rfl⟩) ?_
     try simp only [sX]
     refine wpAny_take (i:=1) (v:=.pointer (some ⟨p,0,none⟩)) rfl (by kernel_rfl) (by kernel_rfl) (by kernel_rfl) (fun _ _ _ h => h) (Or.inl ⟨by kernel_rfl,fun w' => by kernel_rfl⟩) ?_
     try simp only [sX]
     refine wpAny_take (i:=2) (v:=.pointer (some ⟨p,0,none⟩)) rfl (by kernel_rfl) (by kernel_rfl) (by kernel_rfl) (fun _ _ _ h => h) (Or.inl ⟨by kernel_rfl,fun w' => by kernel_rfl⟩) ?_
     try simp only [sX]
     refine wpAny_take (i:=3) (v:=.pointer (some ⟨p,0,none⟩)) rfl (by kernel_rfl) (by kernel_rfl) (by kernel_rfl) (fun _ _ _ h => h) (Or.inl ⟨by kernel_rfl,fun w' => by kernel_rfl⟩) ?_
     try simp only [sX]
     refine wpAny_ready (rs:=[4,5]) (by kernel_rfl) (by simp) ?_
     refine AllReady.cons rfl (fun K hK => ?_) (AllReady.cons rfl (fun K hK => ?_) AllReady.nil)
     · skip
       go_simp
       refine hK _ _ ?_
       clear hK K
       try simp only [sX]
       refine wpAny_ready (rs:=[5]) (by kernel_rfl) (by simp) ?_
       refine AllReady.cons rfl (fun K hK => ?_) AllReady.nil
       refine step_load_row rfl 27 _ rfl wr.heap.size rfl 27 #[.int .i64 xa,.int .i64 xn] (0,0) _ HQ3.out ikUnd rfl HIA.out ?_
       refine hK _ _ ?_
       clear hK K
       try simp only [sX]
       refine wpAny_ready (rs:=[6]) (by kernel_rfl) (by simp) ?_
       refine AllReady.cons rfl (fun K hK => ?_) AllReady.nil
       go_simp
       refine hK _ _ ?_
       clear hK K
       try simp only [sX]
       refine wpAny_ready (rs:=[7]) (by kernel_rfl) (by simp) ?_
       refine AllReady.cons rfl (fun K hK => ?_) AllReady.nil
       refine step_append_lies _ rfl (.tmp 36) (.tmp 38) 44 rfl (p + 2) 27 ti _ 2 16 undIks hti hz0 hz1 hz2 rfl (by decide) (.slice Ai j ci) j (ikCells (l.take j)) rfl (HR3.out.alloc _) ⟨W3.heap.size,0,none⟩ 1 1 [.int .i64 xa,.int .i64 xn] rfl rfl (World.news_of_block (heap_alloc_new W3 (.cells #[.int .i64 xa,.int .i64 xn] 27))) (by intro u hu; simp only [List.mem_cons,List.not_mem_nil,or_false] at hu; rcases hu with rfl | rfl <;> rfl) (by decide) (by unfold maxLen; omega) (by omega) (by rw [World.size_alloc,HS3.out]; have:=HS2.out; have:=HPQ.out; omega) (W3.heap.size + 1) (by rw [World.size_alloc]) ?_
       intro g3 cap3 w4 hown4 hgrow hat hlt4
       have hnp : (Value.slice Ai j ci).ownBlock ≠ some p:=fun e => by have:=(HRI.out.lt _ e).1; omega
       have hp4 : w4.heap[p]? = some (.cells (axCs (.slice Ai j ci) (.slice Al j cl) none (.slice none 0 0) (.slice none 0 0)) 93):=(hgrow.block p (by rw [World.size_alloc,HS3.out]; have:=HS2.out; have:=HPQ.out; omega) (fun e => hnp e.symm)).trans ((heapOld _ _ _ (by rw [HS3.out]; have:=HS2.out; have:=HPQ.out; omega)).trans HP3.out)
       have hc4 : w4.cell? ⟨p,0,none⟩ = some (.slice Ai j ci):=cell_of_row _ _ 0 _ _ _ hp4
       have hf4 : w4.frozen? ⟨p,0,none⟩ = false:=by simp only [World.frozen?,hp4]; simp
       have HO4:=Lib.hid hown4
       have HG4:=Lib.hid hgrow
       have HP4:=Lib.hid hp4
       clear hown4 hgrow hat hlt4 hp4 hnp
       refine hK _ _ ?_
       clear hK K
       try simp only [sX]
       refine wpAny_ready (rs:=[8]) (by kernel_rfl) (by simp) ?_
       refine AllReady.cons rfl (fun K hK => ?_) AllReady.nil
       go_simp
       refine hK _ _ ?_
       clear hK K
       try simp only [sX]
       refine wpAny_ready (rs:=[9]) (by kernel_rfl) (by simp) ?_
       refine AllReady.cons rfl (fun K hK => ?_) AllReady.nil
       go_simp
       refine hK _ _ ?_
       clear hK K
       try simp only [sX]
       refine wpAny_ready (rs:=[10]) (by kernel_rfl) (by simp) ?_
       refine AllReady.cons rfl (fun K hK => ?_) AllReady.nil
       go_simp
       refine hK _ _ ?_
       clear hK K
       try simp only [sX]
       refine wpAny_done (by kernel_rfl) ?_ _
       obtain ⟨w5,hw5⟩ : ∃ w5,w5 = w4.setCell ⟨p,0,none⟩ (.slice (some ⟨g3,0,none⟩) (j + 1) cap3):=⟨_,rfl⟩
       have hp5 : w5.heap[p]? = some (.cells (axCs (.slice (some ⟨g3,0,none⟩) (j + 1) cap3) (.slice Al j cl) none (.slice none 0 0) (.slice none 0 0)) 93):=by rw [hw5]; exact heap_setCell_same _ _ _ _ _ _ HP4.out
       have hc5 : w5.cell? ⟨p,1,none⟩ = some (.slice Al j cl):=cell_of_row _ _ 1 _ _ _ hp5
       have hg4' : (w2.alloc (.cells #[.int .i64 xa,.int .i64 xn] 27)).grownBy w4 (Value.slice Ai j ci).ownBlock:=gb_undrew (by have:=HG4.out; rw [HW3.out] at this; exact this)
       have hl5 : w5.ownsRow (p + 2) 4 1 (.slice Al j cl) j (List.replicate j (.bool true)):=by rw [hw5]; exact live_kept HL2.out (by have:=HR3.out; rw [HW3.out] at this; exact this) hg4' _
       have hs5 : w5.heap.size = w4.heap.size:=by rw [hw5,size_setCell]
       have hs24:=hg4'.size
       rw [World.size_alloc] at hs24
       have HP5:=Lib.hid hp5
       have HL5:=Lib.hid hl5
       have HG4':=Lib.hid hg4'
       have HS5:=Lib.hid hs5
       have HS24:=Lib.hid hs24
       have HW5:=Lib.hid hw5
       have hc5a : (w5.alloc (.cells #[.bool true] 4)).cell? ⟨p,1,none⟩ = some (.slice Al j cl):=cell_of_row _ _ 1 _ _ _ ((heapOld _ _ _ (Array.getElem?_eq_some_iff.1 HP5.out).1).trans HP5.out)
       rw [← hw5]
       clear hw5 hp5 hl5 hg4' hs5 hs24 hc3 hc3a hc4 hf4
       go_wp2_with (at_builtin; refine wpList_append_lies _ rfl (.tmp 46) (.tmp 47) 89 rfl (p + 2) 4 tb _ 1 1 undBls htb hy0 hy1 hy2 rfl (by decide) (.slice Al j cl) j (List.replicate j (.bool true)) rfl (HL5.out.alloc _) ⟨w5.heap.size,0,none⟩ 1 1 [.bool true] rfl rfl (World.news_of_block (heap_alloc_new w5 (.cells #[.bool true] 4))) (by intro u hu; simp only [List.mem_singleton] at hu; subst hu; rfl) (by decide) (by unfold maxLen; omega) (by omega) (by rw [World.size_alloc,HS5.out]; have:=HS24.out; have:=HS2.out; have:=HPQ.out; omega) (w5.heap.size + 1) (by rw [World.size_alloc]) ?_; intro g6 cap6 w6 hown6 hgrow6 hat6 hlt6; have hp6 : w6.heap[p]? = some (.cells (axCs (.slice (some ⟨g3,0,none⟩) (j + 1) cap3) (.slice Al j cl) none (.slice none 0 0) (.slice none 0 0)) 93):=(hgrow6.block p (by rw [World.size_alloc,HS5.out]; have:=HS24.out; have:=HS2.out; have:=HPQ.out; omega) (fun e => by have:=(HL5.out.lt _ e.symm).1; omega)).trans ((heapOld _ _ _ (by rw [HS5.out]; have:=HS24.out; have:=HS2.out; have:=HPQ.out; omega)).trans HP5.out); have hc6 : w6.cell? ⟨p,1,none⟩ = some (.slice Al j cl):=cell_of_row _ _ 1 _ _ _ hp6; have hf6 : w6.frozen? ⟨p,1,none⟩ = false:=(by simp only [World.frozen?,hp6]; simp); have HO6:=Lib.hid hown6; have HG6:=Lib.hid hgrow6; clear hown6 hgrow6 hat6 hlt6 hp6)
       go_roundw
       case measure => simp [intOf]; omega
       case rel => exact ⟨j + 1,by omega,by go_num,HSTEP.out _ _ _ _ _ _ _ _ _ _ HO2.out HG2.out HG4'.out HO4.out (by have:=HG6.out; rw [HW5.out] at this; exact this) HO6.out⟩
     · skip
       refine step_load_row rfl 27 _ rfl wr.heap.size rfl 27 #[.int .i64 xa,.int .i64 xn] (0,0) _ HQ3.out ikUnd rfl HIA.out ?_
       refine hK _ _ ?_
       clear hK K
       try simp only [sX]
       refine wpAny_ready (rs:=[4,6]) (by kernel_rfl) (by simp) ?_
       refine AllReady.cons rfl (fun K hK => ?_) (AllReady.cons rfl (fun K hK => ?_) AllReady.nil)
       · skip
         go_simp
         refine hK _ _ ?_
         clear hK K
         try simp only [sX]
         refine wpAny_ready (rs:=[6]) (by kernel_rfl) (by simp) ?_
         refine AllReady.cons rfl (fun K hK => ?_) AllReady.nil
         go_simp
         refine hK _ _ ?_
         clear hK K
         try simp only [sX]
         refine wpAny_ready (rs:=[7]) (by kernel_rfl) (by simp) ?_
         refine AllReady.cons rfl (fun K hK => ?_) AllReady.nil
         refine step_append_lies _ rfl (.tmp 36) (.tmp 38) 44 rfl (p + 2) 27 ti _ 2 16 undIks hti hz0 hz1 hz2 rfl (by decide) (.slice Ai j ci) j (ikCells (l.take j)) rfl (HR3.out.alloc _) ⟨W3.heap.size,0,none⟩ 1 1 [.int .i64 xa,.int .i64 xn] rfl rfl (World.news_of_block (heap_alloc_new W3 (.cells #[.int .i64 xa,.int .i64 xn] 27))) (by intro u hu; simp only [List.mem_cons,List.not_mem_nil,or_false] at hu; rcases hu with rfl | rfl <;> rfl) (by decide) (by unfold maxLen; omega) (by omega) (by rw [World.size_alloc,HS3.out]; have:=HS2.out; have:=HPQ.out; omega) (W3.heap.size + 1) (by rw [World.size_alloc]) ?_
         intro g3 cap3 w4 hown4 hgrow hat hlt4
         have hnp : (Value.slice Ai j ci).ownBlock ≠ some p:=fun e => by have:=(HRI.out.lt _ e).1; omega
         have hp4 : w4.heap[p]? = some (.cells (axCs (.slice Ai j ci) (.slice Al j cl) none (.slice none 0 0) (.slice none 0 0)) 93):=(hgrow.block p (by rw [World.size_alloc,HS3.out]; have:=HS2.out; have:=HPQ.out; omega) (fun e => hnp e.symm)).trans ((heapOld _ _ _ (by rw [HS3.out]; have:=HS2.out; have:=HPQ.out; omega)).trans HP3.out)
         have hc4 : w4.cell? ⟨p,0,none⟩ = some (.slice Ai j ci):=cell_of_row _ _ 0 _ _ _ hp4
         have hf4 : w4.frozen? ⟨p,0,none⟩ = false:=by simp only [World.frozen?,hp4]; simp
         have HO4:=Lib.hid hown4
         have HG4:=Lib.hid hgrow
         have HP4:=Lib.hid hp4
         clear hown4 hgrow hat hlt4 hp4 hnp
         refine hK _ _ ?_
         clear hK K
         try simp only [sX]
         refine wpAny_ready (rs:=[8]) (by kernel_rfl) (by simp) ?_
         refine AllReady.cons rfl (fun K hK => ?_) AllReady.nil
         go_simp
         refine hK _ _ ?_
         clear hK K
         try simp only [sX]
         refine wpAny_ready (rs:=[9]) (by kernel_rfl) (by simp) ?_
         refine AllReady.cons rfl (fun K hK => ?_) AllReady.nil
         go_simp
         refine hK _ _ ?_
         clear hK K
         try simp only [sX]
         refine wpAny_ready (rs:=[10]) (by kernel_rfl) (by simp) ?_
         refine AllReady.cons rfl (fun K hK => ?_) AllReady.nil
         go_simp
         refine hK _ _ ?_
         clear hK K
         try simp only [sX]
         refine wpAny_done (by kernel_rfl) ?_ _
         obtain ⟨w5,hw5⟩ : ∃ w5,w5 = w4.setCell ⟨p,0,none⟩ (.slice (some ⟨g3,0,none⟩) (j + 1) cap3):=⟨_,rfl⟩
         have hp5 : w5.heap[p]? = some (.cells (axCs (.slice (some ⟨g3,0,none⟩) (j + 1) cap3) (.slice Al j cl) none (.slice none 0 0) (.slice none 0 0)) 93):=by rw [hw5]; exact heap_setCell_same _ _ _ _ _ _ HP4.out
         have hc5 : w5.cell? ⟨p,1,none⟩ = some (.slice Al j cl):=cell_of_row _ _ 1 _ _ _ hp5
         have hg4' : (w2.alloc (.cells #[.int .i64 xa,.int .i64 xn] 27)).grownBy w4 (Value.slice Ai j ci).ownBlock:=gb_undrew (by have:=HG4.out; rw [HW3.out] at this; exact this)
         have hl5 : w5.ownsRow (p + 2) 4 1 (.slice Al j cl) j (List.replicate j (.bool true)):=by rw [hw5]; exact live_kept HL2.out (by have:=HR3.out; rw [HW3.out] at this; exact this) hg4' _
         have hs5 : w5.heap.size = w4.heap.size:=by rw [hw5,size_setCell]
         have hs24:=hg4'.size
         rw [World.size_alloc] at hs24
         have HP5:=Lib.hid hp5
         have HL5:=Lib.hid hl5
         have HG4':=Lib.hid hg4'
         have HS5:=Lib.hid hs5
         have HS24:=Lib.hid hs24
         have HW5:=Lib.hid hw5
         have hc5a : (w5.alloc (.cells #[.bool true] 4)).cell? ⟨p,1,none⟩ = some (.slice Al j cl):=cell_of_row _ _ 1 _ _ _ ((heapOld _ _ _ (Array.getElem?_eq_some_iff.1 HP5.out).1).trans HP5.out)
         rw [← hw5]
         clear hw5 hp5 hl5 hg4' hs5 hs24 hc3 hc3a hc4 hf4
         go_wp2_with (at_builtin; refine wpList_append_lies _ rfl (.tmp 46) (.tmp 47) 89 rfl (p + 2) 4 tb _ 1 1 undBls htb hy0 hy1 hy2 rfl (by decide) (.slice Al j cl) j (List.replicate j (.bool true)) rfl (HL5.out.alloc _) ⟨w5.heap.size,0,none⟩ 1 1 [.bool true] rfl rfl (World.news_of_block (heap_alloc_new w5 (.cells #[.bool true] 4))) (by intro u hu; simp only [List.mem_singleton] at hu; subst hu; rfl) (by decide) (by unfold maxLen; omega) (by omega) (by rw [World.size_alloc,HS5.out]; have:=HS24.out; have:=HS2.out; have:=HPQ.out; omega) (w5.heap.size + 1) (by rw [World.size_alloc]) ?_; intro g6 cap6 w6 hown6 hgrow6 hat6 hlt6; have hp6 : w6.heap[p]? = some (.cells (axCs (.slice (some ⟨g3,0,none⟩) (j + 1) cap3) (.slice Al j cl) none (.slice none 0 0) (.slice none 0 0)) 93):=(hgrow6.block p (by rw [World.size_alloc,HS5.out]; have:=HS24.out; have:=HS2.out; have:=HPQ.out; omega) (fun e => by have:=(HL5.out.lt _ e.symm).1; omega)).trans ((heapOld _ _ _ (by rw [HS5.out]; have:=HS24.out; have:=HS2.out; have:=HPQ.out; omega)).trans HP5.out); have hc6 : w6.cell? ⟨p,1,none⟩ = some (.slice Al j cl):=cell_of_row _ _ 1 _ _ _ hp6; have hf6 : w6.frozen? ⟨p,1,none⟩ = false:=(by simp only [World.frozen?,hp6]; simp); have HO6:=Lib.hid hown6; have HG6:=Lib.hid hgrow6; clear hown6 hgrow6 hat6 hlt6 hp6)
         go_roundw
         case measure => simp [intOf]; omega
         case rel => exact ⟨j + 1,by omega,by go_num,HSTEP.out _ _ _ _ _ _ _ _ _ _ HO2.out HG2.out HG4'.out HO4.out (by have:=HG6.out; rw [HW5.out] at this; exact this) HO6.out⟩
       · skip
         go_simp
         refine hK _ _ ?_
         clear hK K
         try simp only [sX]
         refine wpAny_ready (rs:=[4]) (by kernel_rfl) (by simp) ?_
         refine AllReady.cons rfl (fun K hK => ?_) AllReady.nil
         go_simp
         refine hK _ _ ?_
         clear hK K
         try simp only [sX]
         refine wpAny_ready (rs:=[7]) (by kernel_rfl) (by simp) ?_
         refine AllReady.cons rfl (fun K hK => ?_) AllReady.nil
         refine step_append_lies _ rfl (.tmp 36) (.tmp 38) 44 rfl (p + 2) 27 ti _ 2 16 undIks hti hz0 hz1 hz2 rfl (by decide) (.slice Ai j ci) j (ikCells (l.take j)) rfl (HR3.out.alloc _) ⟨W3.heap.size,0,none⟩ 1 1 [.int .i64 xa,.int .i64 xn] rfl rfl (World.news_of_block (heap_alloc_new W3 (.cells #[.int .i64 xa,.int .i64 xn] 27))) (by intro u hu; simp only [List.mem_cons,List.not_mem_nil,or_false] at hu; rcases hu with rfl | rfl <;> rfl) (by decide) (by unfold maxLen; omega) (by omega) (by rw [World.size_alloc,HS3.out]; have:=HS2.out; have:=HPQ.out; omega) (W3.heap.size + 1) (by rw [World.size_alloc]) ?_
         intro g3 cap3 w4 hown4 hgrow hat hlt4
         have hnp : (Value.slice Ai j ci).ownBlock ≠ some p:=fun e => by have:=(HRI.out.lt _ e).1; omega
         have hp4 : w4.heap[p]? = some (.cells (axCs (.slice Ai j ci) (.slice Al j cl) none (.slice none 0 0) (.slice none 0 0)) 93):=(hgrow.block p (by rw [World.size_alloc,HS3.out]; have:=HS2.out; have:=HPQ.out; omega) (fun e => hnp e.symm)).trans ((heapOld _ _ _ (by rw [HS3.out]; have:=HS2.out; have:=HPQ.out; omega)).trans HP3.out)
         have hc4 : w4.cell? ⟨p,0,none⟩ = some (.slice Ai j ci):=cell_of_row _ _ 0 _ _ _ hp4
         have hf4 : w4.frozen? ⟨p,0,none⟩ = false:=by simp only [World.frozen?,hp4]; simp
         have HO4:=Lib.hid hown4
         have HG4:=Lib.hid hgrow
         have HP4:=Lib.hid hp4
         clear hown4 hgrow hat hlt4 hp4 hnp
         refine hK _ _ ?_
         clear hK K
         try simp only [sX]
         refine wpAny_ready (rs:=[8]) (by kernel_rfl) (by simp) ?_
         refine AllReady.cons rfl (fun K hK => ?_) AllReady.nil
         go_simp
         refine hK _ _ ?_
         clear hK K
         try simp only [sX]
         refine wpAny_ready (rs:=[9]) (by kernel_rfl) (by simp) ?_
         refine AllReady.cons rfl (fun K hK => ?_) AllReady.nil
         go_simp
         refine hK _ _ ?_
         clear hK K
         try simp only [sX]
         refine wpAny_ready (rs:=[10]) (by kernel_rfl) (by simp) ?_
         refine AllReady.cons rfl (fun K hK => ?_) AllReady.nil
         go_simp
         refine hK _ _ ?_
         clear hK K
         try simp only [sX]
         refine wpAny_done (by kernel_rfl) ?_ _
         obtain ⟨w5,hw5⟩ : ∃ w5,w5 = w4.setCell ⟨p,0,none⟩ (.slice (some ⟨g3,0,none⟩) (j + 1) cap3):=⟨_,rfl⟩
         have hp5 : w5.heap[p]? = some (.cells (axCs (.slice (some ⟨g3,0,none⟩) (j + 1) cap3) (.slice Al j cl) none (.slice none 0 0) (.slice none 0 0)) 93):=by rw [hw5]; exact heap_setCell_same _ _ _ _ _ _ HP4.out
         have hc5 : w5.cell? ⟨p,1,none⟩ = some (.slice Al j cl):=cell_of_row _ _ 1 _ _ _ hp5
         have hg4' : (w2.alloc (.cells #[.int .i64 xa,.int .i64 xn] 27)).grownBy w4 (Value.slice Ai j ci).ownBlock:=gb_undrew (by have:=HG4.out; rw [HW3.out] at this; exact this)
         have hl5 : w5.ownsRow (p + 2) 4 1 (.slice Al j cl) j (List.replicate j (.bool true)):=by rw [hw5]; exact live_kept HL2.out (by have:=HR3.out; rw [HW3.out] at this; exact this) hg4' _
         have hs5 : w5.heap.size = w4.heap.size:=by rw [hw5,size_setCell]
         have hs24:=hg4'.size
         rw [World.size_alloc] at hs24
         have HP5:=Lib.hid hp5
         have HL5:=Lib.hid hl5
         have HG4':=Lib.hid hg4'
         have HS5:=Lib.hid hs5
         have HS24:=Lib.hid hs24
         have HW5:=Lib.hid hw5
         have hc5a : (w5.alloc (.cells #[.bool true] 4)).cell? ⟨p,1,none⟩ = some (.slice Al j cl):=cell_of_row _ _ 1 _ _ _ ((heapOld _ _ _ (Array.getElem?_eq_some_iff.1 HP5.out).1).trans HP5.out)
         rw [← hw5]
         clear hw5 hp5 hl5 hg4' hs5 hs24 hc3 hc3a hc4 hf4
         go_wp2_with (at_builtin; refine wpList_append_lies _ rfl (.tmp 46) (.tmp 47) 89 rfl (p + 2) 4 tb _ 1 1 undBls htb hy0 hy1 hy2 rfl (by decide) (.slice Al j cl) j (List.replicate j (.bool true)) rfl (HL5.out.alloc _) ⟨w5.heap.size,0,none⟩ 1 1 [.bool true] rfl rfl (World.news_of_block (heap_alloc_new w5 (.cells #[.bool true] 4))) (by intro u hu; simp only [List.mem_singleton] at hu; subst hu; rfl) (by decide) (by unfold maxLen; omega) (by omega) (by rw [World.size_alloc,HS5.out]; have:=HS24.out; have:=HS2.out; have:=HPQ.out; omega) (w5.heap.size + 1) (by rw [World.size_alloc]) ?_; intro g6 cap6 w6 hown6 hgrow6 hat6 hlt6; have hp6 : w6.heap[p]? = some (.cells (axCs (.slice (some ⟨g3,0,none⟩) (j + 1) cap3) (.slice Al j cl) none (.slice none 0 0) (.slice none 0 0)) 93):=(hgrow6.block p (by rw [World.size_alloc,HS5.out]; have:=HS24.out; have:=HS2.out; have:=HPQ.out; omega) (fun e => by have:=(HL5.out.lt _ e.symm).1; omega)).trans ((heapOld _ _ _ (by rw [HS5.out]; have:=HS24.out; have:=HS2.out; have:=HPQ.out; omega)).trans HP5.out); have hc6 : w6.cell? ⟨p,1,none⟩ = some (.slice Al j cl):=cell_of_row _ _ 1 _ _ _ hp6; have hf6 : w6.frozen? ⟨p,1,none⟩ = false:=(by simp only [World.frozen?,hp6]; simp); have HO6:=Lib.hid hown6; have HG6:=Lib.hid hgrow6; clear hown6 hgrow6 hat6 hlt6 hp6)
         go_roundw
         case measure => simp [intOf]; omega
         case rel => exact ⟨j + 1,by omega,by go_num,HSTEP.out _ _ _ _ _ _ _ _ _ _ HO2.out HG2.out HG4'.out HO4.out (by have:=HG6.out; rw [HW5.out] at this; exact this) HO6.out⟩
   · obtain rfl : j = n:=by omega
     have HR:=Lib.hid hR
     clear hR
     go_wp2
     go_ret
     exact ⟨rfl,HR.out⟩
end Go.Proofs.YtbkmnboicihchaaGreat
