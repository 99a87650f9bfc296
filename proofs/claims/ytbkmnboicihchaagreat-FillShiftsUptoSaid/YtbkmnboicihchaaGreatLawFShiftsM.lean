/- FillShifts: for every tree,every two cells and every plan the call returns true,and its arguments read as they did. Condition: the readings hold at most 1048576 values and letters together. -/
import Derived.Test.YtbkmnboicihchaaGreatRows
import Derived.Test.YtbkmnboicihchaaGreatGnM
import Derived.Test.YtbkmnboicihchaaGreatOg0Xk0GaGc
import Derived.WalkKit
import Derived.ProofKit
import Derived.OpenShut
import Derived.ChangeOld
import Derived.JoinedCond
namespace Go.Proofs.YtbkmnboicihchaaGreat.fillShifts
set_option maxRecDepth 100000
set_option linter.unusedSimpArgs false
set_option linter.unusedVariables false
open Go.ChangeShapes Go.WideShapes Go.ChangeAt Go.RowKit
theorem own : ownKnob Tryz.prog.godebug = none:=by kernel_rfl
theorem laidOut : laidOutB Tryz.prog = true:=by kernel_rfl
theorem lifted (os : Os) (started : os.Started) (H : Type) (enc : TypeId × Value → H) (F : Stop.Interp) :
   ReturnsInHanded {} Tryz.checked os 3 .any ((Rows.OpenSpec.upto Rows.fillShiftsSpec).pre6 enc Tryz.prog Tryz.f3 Rows.fillShiftsUptoRow.domain false) (((Rows.OpenSpec.upto Rows.fillShiftsSpec).at F).post enc Tryz.prog Tryz.f3 false true false false):=by
 refine returnsInHanded_of_cond (C:=Tryz.checked) (s:=Rows.OpenSpec.upto Rows.fillShiftsSpec) (k:=Rows.uptoSmall) rfl own started (by kernel_rfl) Tryz.func3
   (OpenSpec.witness (enc:=enc) (C:=Tryz.checked) (s:=Rows.OpenSpec.upto Rows.fillShiftsSpec) (k:=Rows.uptoSmall) rfl false ⟨#[],#[nodeV ⟨0,⟨0,0,0,ByteArray.mk #[],false,0⟩,ByteArray.mk #[],⟨0,0,0,0,false,false⟩,⟨0,0,0,0,false,false⟩,0⟩ none 0 0,.agg #[.int .i64 0,.int .i64 0,.int .i64 0,.int .i64 0,.int .i64 0,.int .i64 0,.int .i64 0,.int .i64 0],.agg #[.int .u8 0,.int .u8 0,.slice none 0 0,.slice none 0 0]],[]⟩ 8 (by kernel_rfl) (by kernel_rfl) (by kernel_rfl)
     (x:=([.agg [.lit (.int .i64 0),.agg [.lit (.int .i64 0),.agg [.lit (.int .i64 0),.lit (.int .i64 0)],.lit (.string []),.lit (.bool false),.lit (.int .i64 0)],.lit (.string []),.agg [.agg [.agg [.lit (.int .i64 0),.lit (.int .i64 0)],.agg [.lit (.int .i64 0),.lit (.int .i64 0)],.lit (.bool false),.lit (.bool false)],.agg [.agg [.lit (.int .i64 0),.lit (.int .i64 0)],.agg [.lit (.int .i64 0),.lit (.int .i64 0)],.lit (.bool false),.lit (.bool false)]],.lit (.int .i64 0),.nil],
       .agg [.agg [.agg [.lit (.int .i64 0),.lit (.int .i64 0)],.agg [.lit (.int .i64 0),.lit (.int .i64 0)]],.agg [.agg [.lit (.int .i64 0),.lit (.int .i64 0)],.agg [.lit (.int .i64 0),.lit (.int .i64 0)]]],
       .agg [.lit (.int .u8 0),.lit (.int .u8 0),.nil,.nil]],[],[])) (by kernel_rfl) rfl (by kernel_rfl)) ?_
 intro W base args ds gs before hval0 hW _ hk _
 have hval : ∀ (j : Nat) t v,Tryz.f3.params[j]? = some t → args[j]? = some v → Value.okWide Tryz.prog W .any base t v:=hval0
 have hW':=hW
 obtain ⟨p,q,hA0,hV,rfl,hfz,hnd⟩:=hW
 have hA : DataW.TrodAll enc Tryz.prog W 0 (fun _ => true) true Tryz.f3.params.toList args.toList ds p:=hA0
 have hV' : DataW.TrodVars enc Tryz.prog W (fun _ => true) [] gs q:=hV
 rw [Tryz.params3] at hA hval
 obtain ⟨v0,vs0,d0,ds0,p0,q0,hargs,rfl,rfl,h0,r0⟩:=trodAll_cons hA
 obtain ⟨v1,vs1,d1,ds1,p1,q1,rfl,rfl,rfl,h1,r1⟩:=trodAll_cons r0
 obtain ⟨v2,vs2,d2,ds2,p2,q2,rfl,rfl,rfl,h2,r2⟩:=trodAll_cons r1
 obtain ⟨rfl,rfl,rfl⟩:=trodAll_nil r2
 obtain rfl : args = #[v0,v1,v2]:=by cases args; simp_all
 obtain ⟨rfl,rfl⟩:=trodVars_none hV'
 have hk0 : Rows.uptoBulkAll (([d0,d1,d2] : List (DataW H)) ++ []) ≤ 1048576:=of_decide_eq_true hk
 simp only [Rows.uptoBulkAll,List.append_nil] at hk0
 have k0:=h0
 have lt0 : ∀ x ∈ p0,x.block < W.heap.size:=by obtain ⟨m,hm⟩:=k0; exact DataW.trod_lt m _ _ _ hm
 have k1:=h1
 have lt1 : ∀ x ∈ p1,x.block < W.heap.size:=by obtain ⟨m,hm⟩:=k1; exact DataW.trod_lt m _ _ _ hm
 have k2:=h2
 have lt2 : ∀ x ∈ p2,x.block < W.heap.size:=by obtain ⟨m,hm⟩:=k2; exact DataW.trod_lt m _ _ _ hm
 obtain ⟨t,A,c,rfl,hd,hs,hw⟩:=open_nodeT (hval 0 34 v0 rfl rfl) h0
 obtain ⟨x0,x1,rfl,o0,o1⟩:=open_two (hval 1 37 v1 rfl rfl) h1
 obtain ⟨P,Ad,cd,Ac,cc,rfl,hr,hc,hdd,hce⟩:=open_plan (hval 2 41 v2 rfl rfl) h2 (by omega)
 have hz : t.size ≤ 1048576:=by have:=hw.1; omega
 clear hA0 hval0
 refine (fillShifts_c t x0 x1 P W A c Ad cd Ac cc hd hs hz ⟨o0,o1⟩ hr hc hdd hce).mono fun e W' ⟨he,bel⟩ => ?_
 subst he
 exact ⟨_,rfl,_,_,_,[],_,[],hW',trodAll_mk1 (shut_bool Tryz.underlying4 _),(trodAll_cons_mk (Below.trod laidOut (by kernel_rfl) (of_decide_eq_true (by kernel_rfl)) k0 bel lt0) (trodAll_cons_mk (Below.trod laidOut (by kernel_rfl) (of_decide_eq_true (by kernel_rfl)) k1 bel lt1) (trodAll_cons_mk (Below.trod laidOut (by kernel_rfl) (of_decide_eq_true (by kernel_rfl)) k2 bel lt2) trodAll_mk0))),rfl,bel.frame _,fun h => by cases h⟩
theorem over : Rows.fillShiftsUptoRow.holds Tryz.pinned (Rows.OpenSpec.upto Rows.fillShiftsSpec) :=
 OpenClaim.holds_of_cond 3 Tryz.f3 rfl rfl rfl rfl rfl rfl rfl ⟨rfl,rfl,rfl,rfl,rfl⟩ rfl rfl rfl rfl rfl (by kernel_rfl) Tryz.func3 (by kernel_rfl)
   (of_decide_eq_true (by kernel_rfl)) (by unfold Func.isWrapper; first | (rw [if_pos (by decide +kernel)]; kernel_rfl) | (rw [if_neg (by decide +kernel)]; exact ⟨rfl,rfl⟩))
   (fun os started H enc _ F => lifted os started H enc F)
theorem proved : Rows.FillShiftsUptoSaid:=over
#print axioms proved
end Go.Proofs.YtbkmnboicihchaaGreat.fillShifts
