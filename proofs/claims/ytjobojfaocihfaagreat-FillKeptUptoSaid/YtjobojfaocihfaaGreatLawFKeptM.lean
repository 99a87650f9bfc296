/- FillKept: for every plan,every four numbers and every two numbers the call returns true,and its arguments read as they did. Condition: the readings hold at most 1048576 values and letters together. -/
import Derived.Test.YtjobojfaocihfaaGreatRows
import Derived.Test.YtjobojfaocihfaaGreatTqItQxTs
import Derived.Test.YtjobojfaocihfaaGreatOg0Xk0Ga
import Derived.WalkKit
import Derived.ProofKit
import Derived.OpenShut
import Derived.ChangeOld
import Derived.JoinedCond
namespace Go.Proofs.YtjobojfaocihfaaGreat.fillKept
set_option maxRecDepth 100000
set_option linter.unusedSimpArgs false
set_option linter.unusedVariables false
open Go.ChangeShapes Go.WideShapes Go.ChangeAt Go.RowKit
theorem own : ownKnob Tryz.prog.godebug = none:=by kernel_rfl
theorem laidOut : laidOutB Tryz.prog = true:=by kernel_rfl
theorem open_four {H : Type} {enc : TypeId × Value → H} {w : World} {base : Nat} {v : Value} {d : DataW H} {p : List MemPlace} (hv : Value.okWide Tryz.prog w .any base 26 v) (h : DataW.Trod enc Tryz.prog w 0 (fun _ => true) true 26 v d p) :
 ∃ a b c e : Int,v = .agg #[.int .i64 a,.int .i64 b,.int .i64 c,.int .i64 e]:=by
 have hu : Tryz.prog.underlying 26 = some (.array 4 3):=by kernel_rfl
 obtain ⟨cs,rfl,hsz⟩ : ∃ cs,v = .agg cs ∧ cs.size = Tryz.prog.cellsOf 26:=by
  unfold Value.okWide at hv
  rw [hu] at hv
  obtain ⟨cs,h1,h2,-⟩:=hv
  exact ⟨cs,h1,h2⟩
 obtain ⟨fuel,hf⟩:=h
 obtain ⟨xs,m,rfl,-,hl,hxs,hg⟩:=DataW.trod_array hu hf
 have hc : Tryz.prog.cellsOf 26 = 4:=by kernel_rfl
 have h1 : Tryz.prog.cellsOf 3 = 1:=by kernel_rfl
 rw [hc] at hsz
 have key : ∀ i,i < 4 → ∃ a : Int,cs[i]? = some (.int .i64 a):=fun i hi => by
  have h2:=hg i hi
  rw [h1,Nat.mul_one,List.getElem?_eq_getElem (by omega : i < xs.length)] at h2
  obtain ⟨a,ha,-,-⟩:=DataW.trod_int Tryz.underlying3 h2
  refine ⟨a,?_⟩
  have h3 : (cs.toList.drop i).take 1 = [Value.int .i64 a]:=ha
  have h4 : ((cs.toList.drop i).take 1)[0]? = some (Value.int .i64 a):=by rw [h3]; rfl
  rw [List.getElem?_take_of_lt (by omega),List.getElem?_drop,Nat.add_zero,Array.getElem?_toList] at h4
  exact h4
 obtain ⟨a,ha⟩:=key 0 (by omega)
 obtain ⟨b,hb⟩:=key 1 (by omega)
 obtain ⟨c,hc'⟩:=key 2 (by omega)
 obtain ⟨e,he⟩:=key 3 (by omega)
 refine ⟨a,b,c,e,?_⟩
 have hcs : cs = #[.int .i64 a,.int .i64 b,.int .i64 c,.int .i64 e]:=by
  apply Array.ext_getElem?
  intro i
  match i with
  | 0 => exact ha
  | 1 => exact hb
  | 2 => exact hc'
  | 3 => exact he
  | i + 4 => rw [Array.getElem?_eq_none (by omega)]; rfl
 rw [hcs]
theorem open_two2 {H : Type} {enc : TypeId × Value → H} {w : World} {base : Nat} {v : Value} {d : DataW H} {p : List MemPlace} (hv : Value.okWide Tryz.prog w .any base 27 v) (h : DataW.Trod enc Tryz.prog w 0 (fun _ => true) true 27 v d p) :
 ∃ a b : Int,v = .agg #[.int .i64 a,.int .i64 b]:=by
 have hu : Tryz.prog.underlying 27 = some (.array 2 3):=by kernel_rfl
 obtain ⟨cs,rfl,hsz⟩ : ∃ cs,v = .agg cs ∧ cs.size = Tryz.prog.cellsOf 27:=by
  unfold Value.okWide at hv
  rw [hu] at hv
  obtain ⟨cs,h1,h2,-⟩:=hv
  exact ⟨cs,h1,h2⟩
 obtain ⟨fuel,hf⟩:=h
 obtain ⟨xs,m,rfl,-,hl,hxs,hg⟩:=DataW.trod_array hu hf
 have hc : Tryz.prog.cellsOf 27 = 2:=by kernel_rfl
 have h1 : Tryz.prog.cellsOf 3 = 1:=by kernel_rfl
 rw [hc] at hsz
 have key : ∀ i,i < 2 → ∃ a : Int,cs[i]? = some (.int .i64 a):=fun i hi => by
  have h2:=hg i hi
  rw [h1,Nat.mul_one,List.getElem?_eq_getElem (by omega : i < xs.length)] at h2
  obtain ⟨a,ha,-,-⟩:=DataW.trod_int Tryz.underlying3 h2
  refine ⟨a,?_⟩
  have h3 : (cs.toList.drop i).take 1 = [Value.int .i64 a]:=ha
  have h4 : ((cs.toList.drop i).take 1)[0]? = some (Value.int .i64 a):=by rw [h3]; rfl
  rw [List.getElem?_take_of_lt (by omega),List.getElem?_drop,Nat.add_zero,Array.getElem?_toList] at h4
  exact h4
 obtain ⟨a,ha⟩:=key 0 (by omega)
 obtain ⟨b,hb⟩:=key 1 (by omega)
 refine ⟨a,b,?_⟩
 have hcs : cs = #[.int .i64 a,.int .i64 b]:=by
  apply Array.ext_getElem?
  intro i
  match i with
  | 0 => exact ha
  | 1 => exact hb
  | i + 2 => rw [Array.getElem?_eq_none (by omega)]; rfl
 rw [hcs]
theorem lifted (os : Os) (started : os.Started) (H : Type) (enc : TypeId × Value → H) (F : Stop.Interp) :
 ReturnsInHanded {} Tryz.checked os 3 .any ((Rows.OpenSpec.upto Rows.fillKeptSpec).pre6 enc Tryz.prog Tryz.f3 Rows.fillKeptUptoRow.domain false) (((Rows.OpenSpec.upto Rows.fillKeptSpec).at F).post enc Tryz.prog Tryz.f3 false true false false):=by
 refine returnsInHanded_of_cond (C:=Tryz.checked) (s:=Rows.OpenSpec.upto Rows.fillKeptSpec) (k:=Rows.uptoSmall) rfl own started (by kernel_rfl) Tryz.func3
  (OpenSpec.witness (enc:=enc) (C:=Tryz.checked) (s:=Rows.OpenSpec.upto Rows.fillKeptSpec) (k:=Rows.uptoSmall) rfl false ⟨#[],#[.agg #[.int .u8 0,.int .u8 0,.slice none 0 0,.slice none 0 0],.agg #[.int .i64 0,.int .i64 0,.int .i64 0,.int .i64 0],.agg #[.int .i64 0,.int .i64 0]],[]⟩ 8 (by kernel_rfl) (by kernel_rfl) (by kernel_rfl)
   (x:=([.agg [.lit (.int .u8 0),.lit (.int .u8 0),.nil,.nil],.agg [.lit (.int .i64 0),.lit (.int .i64 0),.lit (.int .i64 0),.lit (.int .i64 0)],.agg [.lit (.int .i64 0),.lit (.int .i64 0)]],[],[])) (by kernel_rfl) rfl (by kernel_rfl)) ?_
 intro W base args ds gs before hval0 hW _ hk _
 have hval : ∀ (j : Nat) t v,Tryz.f3.params[j]? = some t → args[j]? = some v → Value.okWide Tryz.prog W .any base t v:=hval0
 have hW':=hW
 obtain ⟨p,q,hA0,hV,rfl,hfz,hnd⟩:=hW
 have hA : DataW.TrodAll enc Tryz.prog W 0 (fun _ => true) true Tryz.f3.params.toList args.toList ds p:=hA0
 have hV' : DataW.TrodVars enc Tryz.prog W (fun _ => true) [] gs q:=hV
 rw [Tryz.params3] at hA hval
 obtain ⟨v0,vs0,d0,ds0,p0,q0,hargs,rfl,rfl,h0,r0⟩:=trodAll_cons hA
 obtain ⟨v1,vs1,d1,ds1,p1,q1,rfl,rfl,rfl,h1,r1⟩:=trodAll_cons r0
 obtain ⟨v2,vs2,d2,ds2,p2,q2,rfl,rfl,rfl,h2,r2⟩:=trodAll_cons r1
 obtain ⟨rfl,rfl,rfl⟩:=trodAll_nil r2
 obtain rfl : args = #[v0,v1,v2]:=by cases args; simp_all
 obtain ⟨rfl,rfl⟩:=trodVars_none hV'
 have hk0 : Rows.uptoBulkAll (([d0,d1,d2] : List (DataW H)) ++ []) ≤ 1048576:=of_decide_eq_true hk
 simp only [Rows.uptoBulkAll,List.append_nil] at hk0
 have k0:=h0
 have lt0 : ∀ x ∈ p0,x.block < W.heap.size:=by obtain ⟨m,hm⟩:=k0; exact DataW.trod_lt m _ _ _ hm
 have k1:=h1
 have lt1 : ∀ x ∈ p1,x.block < W.heap.size:=by obtain ⟨m,hm⟩:=k1; exact DataW.trod_lt m _ _ _ hm
 have k2:=h2
 have lt2 : ∀ x ∈ p2,x.block < W.heap.size:=by obtain ⟨m,hm⟩:=k2; exact DataW.trod_lt m _ _ _ hm
 obtain ⟨P,Ad,cd,Ac,cc,rfl,hr,hc,hdd,hce⟩:=open_plan (hval 0 25 v0 rfl rfl) h0 (by omega)
 obtain ⟨f0,f1,f2,f3,rfl⟩:=open_four (hval 1 26 v1 rfl rfl) h1
 obtain ⟨a,b,rfl⟩:=open_two2 (hval 2 27 v2 rfl rfl) h2
 clear hA0 hval0
 refine (fillKept_c P f0 f1 f2 f3 a b W Ad cd Ac cc hr hc hdd hce).mono fun e W' ⟨he,bel⟩ => ?_
 subst he
 exact ⟨_,rfl,_,_,_,[],_,[],hW',trodAll_mk1 (shut_bool Tryz.underlying4 _),(trodAll_cons_mk (Below.trod laidOut (by kernel_rfl) (of_decide_eq_true (by kernel_rfl)) k0 bel lt0) (trodAll_cons_mk (Below.trod laidOut (by kernel_rfl) (of_decide_eq_true (by kernel_rfl)) k1 bel lt1) (trodAll_cons_mk (Below.trod laidOut (by kernel_rfl) (of_decide_eq_true (by kernel_rfl)) k2 bel lt2) trodAll_mk0))),rfl,bel.frame _,fun h => by cases h⟩
theorem over : Rows.fillKeptUptoRow.holds Tryz.pinned (Rows.OpenSpec.upto Rows.fillKeptSpec) :=
 OpenClaim.holds_of_cond 3 Tryz.f3 rfl rfl rfl rfl rfl rfl rfl ⟨rfl,rfl,rfl,rfl,rfl⟩ rfl rfl rfl rfl rfl (by kernel_rfl) Tryz.func3 (by kernel_rfl)
  (of_decide_eq_true (by kernel_rfl)) (by unfold Func.isWrapper; first | (rw [if_pos (by decide +kernel)]; kernel_rfl) | (rw [if_neg (by decide +kernel)]; exact ⟨rfl,rfl⟩))
  (fun os started H enc _ F => lifted os started H enc F)
theorem proved : Rows.FillKeptUptoSaid:=over
#print axioms proved
end Go.Proofs.YtjobojfaocihfaaGreat.fillKept
