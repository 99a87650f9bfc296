/- CellsOut: for every list of cells with contents,every cell and every content the call returns true. Conditions: the readings hold at most 1048576 values and letters together; the library's three tables read as the program's text lays them,and its two error variables as it lays them (tied by the card). -/
import Derived.Test.YtelombedjkbckaaGreatDoorO2M
import Derived.Test.YtelombedjkbckaaGreatDoorE2M
import Derived.Test.YtelombedjkbckaaGreatDoorOg0OgFzXoE1
namespace Go.Proofs.YtelombedjkbckaaGreatDoor.cellsOut
set_option maxRecDepth 100000
open Go.ChangeShapes Go.WideShapes Go.ChangeAt Go.RowKit Go.Joins
open Go.ChangeMaps (open_string shut_string)
def zeroCell : Value:=.agg #[.int .i64 0,.int .i64 0,.int .i64 0,.int .i64 0]
def zeroCellD {H : Type} : DataW H:=.agg [.agg [.lit (.int .i64 0),.lit (.int .i64 0)],.agg [.lit (.int .i64 0),.lit (.int .i64 0)]]
theorem met (os : Os) : laidMet Tryz.prog Rows.cellsOutUptoRow.laid ((World.doorLaid Tryz.prog 400 os).forCall (fun _ _ => 0) ⟨#[],#[.slice none 0 0,zeroCell,zeroCont],[]⟩).memory:=laidMet_of_run' 8 (by kernel_rfl) (by kernel_rfl)
theorem reads (os : Os) {H : Type} (enc : TypeId × Value → H) : ∃ places,DataW.whole enc Tryz.prog ((World.doorLaid Tryz.prog 400 os).forCall (fun _ _ => 0) ⟨#[],#[.slice none 0 0,zeroCell,zeroCont],[]⟩).memory Tryz.f9.params.toList Rows.cellsOutSpec.vars false #[(.slice none 0 0 : Value),(zeroCell : Value),(zeroCont : Value)].toList 8 = some ([.nil,zeroCellD,zeroContD],[],places):=⟨[],by kernel_rfl⟩
theorem lifted (os : Os) (started : os.Started) (H : Type) (enc : TypeId × Value → H) (F : Stop.Interp) :
 ReturnsInHanded {} Tryz.checked os 9 .any ((Rows.OpenSpec.upto Rows.cellsOutSpec).preRow enc Tryz.prog Tryz.f9 Rows.cellsOutUptoRow.domain false Rows.cellsOutUptoRow.laid) (((Rows.OpenSpec.upto Rows.cellsOutSpec).at F).post enc Tryz.prog Tryz.f9 false true false false):=by
 obtain ⟨places,hx⟩:=reads os enc
 refine returnsInHanded_of_row (C:=Tryz.checked) (s:=Rows.OpenSpec.upto Rows.cellsOutSpec) own started (by kernel_rfl) Tryz.func9
  (witness_row_at (enc:=enc) (C:=Tryz.checked) false (World.doorLaid Tryz.prog 400 os) #[.slice none 0 0,zeroCell,zeroCont] rfl (by kernel_rfl) (by kernel_rfl) (by kernel_rfl)
   (OpenSpec.preRow_of_cond 8 hx (by kernel_rfl) (fun k hk => by cases hk; kernel_rfl) (by kernel_rfl) (met os))) ?_
 intro W base args ds gs before hval0 hW _ hcond _ hL _ _
 have hval : ∀ (j : Nat) t v,Tryz.f9.params[j]? = some t → args[j]? = some v → Value.okWide Tryz.prog W .any base t v:=hval0
 have hW':=hW
 obtain ⟨p,q,hA0,hV,rfl,hfz,hnd⟩:=hW
 have hA : DataW.TrodAll enc Tryz.prog W 0 (fun _ => true) true Tryz.f9.params.toList args.toList ds p:=hA0
 have hV' : DataW.TrodVars enc Tryz.prog W (fun _ => true) [] gs q:=hV
 rw [Tryz.params9] at hA hval
 obtain ⟨v0,vs0,d0,ds0,p0,q0,hargs,rfl,rfl,h0,r0⟩:=trodAll_cons hA
 obtain ⟨v1,vs1,d1,ds1,p1,q1,rfl,rfl,rfl,h1,r1⟩:=trodAll_cons r0
 obtain ⟨v2,vs2,d2,ds2,p2,q2,rfl,rfl,rfl,h2,r2⟩:=trodAll_cons r1
 obtain ⟨rfl,rfl,rfl⟩:=trodAll_nil r2
 obtain rfl : args = #[v0,v1,v2]:=by cases args; simp_all
 obtain ⟨rfl,rfl⟩:=trodVars_none hV'
 have hk0 : Rows.uptoBulkAll (([d0,d1,d2] : List (DataW H)) ++ []) ≤ 1048576:=of_decide_eq_true (hcond _ rfl)
 simp only [Rows.uptoBulkAll,List.append_nil] at hk0
 have k0:=h0
 have lt0 : ∀ x ∈ p0,x.block < W.heap.size:=by obtain ⟨m,hm⟩:=k0; exact DataW.trod_lt m _ _ _ hm
 have k1:=h1
 have lt1 : ∀ x ∈ p1,x.block < W.heap.size:=by obtain ⟨m,hm⟩:=k1; exact DataW.trod_lt m _ _ _ hm
 have k2:=h2
 have lt2 : ∀ x ∈ p2,x.block < W.heap.size:=by obtain ⟨m,hm⟩:=k2; exact DataW.trod_lt m _ _ _ hm
 obtain ⟨l0,A0,c0,rfl,hc0,hsh0⟩:=open_acsV (hval 0 22 v0 rfl rfl) h0 (by omega)
 obtain ⟨a1,rfl,ha1⟩:=open_adV (hval 1 30 v1 rfl rfl) h1
 obtain ⟨t2,A2,c2,rfl,hv2,hd2,hs2,hw2,hx2⟩:=open_contV (hval 2 43 v2 rfl rfl) h2
 have hz2 : t2.t.size ≤ 1048576:=by have:=hw2.1; omega
 have ht:=tab_of_laid hL
 have he:=errC_of_laid hL
 clear hA0 hval0
 refine (cellsOut_walk l0 a1 ha1 t2 W A0 c0 A2 c2 hc0.row (fun e he => hc0.2.2.1 e he) hsh0 hv2 hd2 hs2 hz2 ht he).mono fun e W' ⟨he,bel⟩ => ?_
 subst he
 exact ⟨_,rfl,_,_,_,[],_,[],hW',trodAll_mk1 (shut_bool Tryz.underlying4 _),(trodAll_cons_mk (Below.trod laidOut (by kernel_rfl) (of_decide_eq_true (by kernel_rfl)) k0 bel lt0) (trodAll_cons_mk (Below.trod laidOut (by kernel_rfl) (of_decide_eq_true (by kernel_rfl)) k1 bel lt1) (trodAll_cons_mk (Below.trod laidOut (by kernel_rfl) (of_decide_eq_true (by kernel_rfl)) k2 bel lt2) trodAll_mk0))),rfl,bel.frame _,fun h => by cases h⟩
theorem over : Rows.CellsOutUptoSaid :=
 OpenClaim.holds_of_cond 9 Tryz.f9 rfl rfl rfl rfl rfl rfl rfl ⟨rfl,rfl,rfl,rfl,rfl⟩ rfl rfl rfl rfl rfl (by kernel_rfl) Tryz.func9 (by kernel_rfl)
  (of_decide_eq_true (by kernel_rfl)) (by unfold Func.isWrapper; first | (rw [if_pos (by decide +kernel)]; kernel_rfl) | (rw [if_neg (by decide +kernel)]; exact ⟨rfl,rfl⟩))
  (fun os started H enc _ F => by rw [OpenClaim.pre_eq_preRow]; exact lifted os started H enc F)
theorem plain (f : FuncId) (fn : Func) (hf : Tryz.pinned.checked.prog.funcNamed "counterpane/counterpanelaw18.CellsOut" = some f) (hfn : Tryz.pinned.checked.prog.funcs[f]? = some fn) :
 true = Tryz.pinned.checked.prog.looks [] ∧ ∀ (j : Nat) t,fn.params[j]? = some t → Tryz.pinned.checked.prog.wantsStandIn t = false:=by
 obtain rfl : f = 9 := Option.some.inj ((show Tryz.prog.funcNamed "counterpane/counterpanelaw18.CellsOut" = some 9 by kernel_rfl).symm.trans hf) |>.symm
 obtain rfl : fn = Tryz.f9:=(Option.some.inj (Tryz.func9.symm.trans hfn)).symm
 refine ⟨by kernel_rfl,fun j t ht => ?_⟩
 rw [Tryz.params9] at ht
 have hm : t ∈ [22,30,43]:=by simpa using Array.mem_of_getElem? ht
 have hall : ([22,30,43].all fun u => !Tryz.prog.wantsStandIn u) = true:=by kernel_rfl
 exact (show Tryz.prog.wantsStandIn t = false by simpa using List.all_eq_true.1 hall t hm)
theorem proved : Rows.CellsOutUptoCardSaid :=
 Claim7.holds_tied_plain_at .later [] _ _ _ _ over (fun _ h => by cases h) (by kernel_rfl) (fun _ h => by cases h) cellsOutUpto_row_tie rfl ⟨rfl,rfl⟩ (by kernel_rfl) rfl plain (by kernel_rfl)
#print axioms proved
end Go.Proofs.YtelombedjkbckaaGreatDoor.cellsOut
