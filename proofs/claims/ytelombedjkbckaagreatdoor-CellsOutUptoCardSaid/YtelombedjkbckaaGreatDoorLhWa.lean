/- How long a right tree's text is at most. A right content is read from its text. Plain. -/
import Derived.Test.YtelombedjkbckaaGreatDoorEaEbEd
import Derived.Test.YtelombedjkbckaaGreatDoorCwBuCx
import Derived.Test.YtelombedjkbckaaGreatDoorCzM
import Derived.Test.YtelombedjkbckaaGreatDoorXwXxXy
namespace Go.Proofs.YtelombedjkbckaaGreatDoor
open Go.RowKit Go.Shelf
theorem val_le3 (v : Vl) (hv : v.ok) (hs : v.text.size ≤ 300) : (valL v).length ≤ 400:=by
 have h1:=itoa_le v.mant hv.2.1
 have h2:=itoa_le v.exp hv.2.2.1
 have h3:=itoa_le v.fault hv.2.2.2.2
 have h4:=sized_le v.text (by omega)
 unfold valL
 split
 · simp; omega
 split
 · simp; omega
 split
 · split <;> simp
 · simp; omega
theorem part_le3 (d : ND) (n : Nat) (hd : d.ok) (hn : n ≤ 9223372036854775807) (h1 : d.name.size ≤ 300) (h2 : d.v.text.size ≤ 300) : (partL d n).length ≤ 1000:=by
 have e1:=val_le3 d.v hd.2.1 h2
 have e2:=corner_le d.a hd.2.2.2.1
 have e3:=corner_le d.b hd.2.2.2.2.1
 have e4:=sized_le d.name (by omega)
 have e5:=itoa_le (n : Int) (by unfold i64; omega)
 have e6:=itoa_le d.rows hd.2.2.2.2.2
 have e7 : d.name.data.toList.length = d.name.size:=by simp
 unfold partL
 repeat (split; · simp; omega)
 simp
theorem right_small : ∀ (f : Nat) (t : Tr) (call : Bool) (_ : t.depth ≤ f) (_ : rrightB t call = true),∀ x ∈ t.nodes,x.d.name.size ≤ 300 ∧ x.d.v.text.size ≤ 300
 | 0,.mk d l,_,hdep,_ => by rw [Tr.depth] at hdep; omega
 | f + 1,.mk d l,call,hdep,hr => by
  rw [Tr.depth] at hdep
  rw [rrightB,Bool.and_eq_true,Bool.and_eq_true] at hr
  obtain ⟨⟨h1,_⟩,h3⟩:=hr
  have hkids : ∀ (m : List Tr) (_ : Tr.depths m ≤ f) (_ : rrightsB d.kind m = true),∀ x ∈ Tr.nodess m,x.d.name.size ≤ 300 ∧ x.d.v.text.size ≤ 300:=by
   intro m
   induction m with
   | nil => intro _ _ x hx; cases hx
   | cons t m ih =>
    intro hd hrs x hx
    rw [Tr.depths] at hd
    rw [rrightsB,Bool.and_eq_true,Bool.and_eq_true] at hrs
    rw [Tr.nodess] at hx
    rcases List.mem_append.1 hx with hx | hx
    · exact right_small f t _ (by omega) hrs.1.2 x hx
    · exact ih (by omega) hrs.2 x hx
  intro x hx
  rw [Tr.nodes] at hx
  rcases List.mem_cons.1 hx with rfl | hx
  · exact rown_small h1
  · exact hkids l (by omega) h3 x hx
theorem code_small {t : Tr} (h : checkI t = 0) (hok : OkT t) : (codeL t).length ≤ 1000000:=by
 obtain ⟨h1,h2,h3⟩:=check_right h
 have hs:=right_small 32 t false h2 h3
 have key : ∀ l : List Tr,(∀ x ∈ l,x.d.ok ∧ x.l.length ≤ 9223372036854775807) → (∀ x ∈ l,x.d.name.size ≤ 300 ∧ x.d.v.text.size ≤ 300) → (l.flatMap fun x => codeOne x.d x.l.length).length ≤ l.length * 1001:=by
  intro l
  induction l with
  | nil => intro _ _; simp
  | cons a l ih =>
   intro ha hb
   have e1:=part_le3 a.d a.l.length (ha a (by simp)).1 (ha a (by simp)).2 (hb a (by simp)).1 (hb a (by simp)).2
   have e2:=ih (fun x hx => ha x (by simp [hx])) (fun x hx => hb x (by simp [hx]))
   rw [List.flatMap_cons,List.length_append,List.length_cons]
   have e3 : (codeOne a.d a.l.length).length = (partL a.d a.l.length).length + 1:=by simp [codeOne]
   omega
 have:=key t.nodes hok hs
 rw [nodes_len] at this
 unfold codeL
 omega
end Go.Proofs.YtelombedjkbckaaGreatDoor
namespace Go.Proofs.YtelombedjkbckaaGreatDoor
open Go Go.RowKit Go.Shelf
theorem same_ct {x y : Ct} (h : sameC x y = true) : x = y:=by
 obtain ⟨k,v,t⟩:=x
 obtain ⟨k',v',t'⟩:=y
 simp only [sameC,Bool.and_eq_true,decide_eq_true_eq,sameB_eq] at h
 obtain ⟨rfl,rfl,rfl⟩:=h
 rfl
theorem mt_okT {v : Vl} (h : v.ok) : OkT (mT v):=by
 intro x hx
 simp only [mT,Tr.nodes,Tr.nodess,List.append_nil,List.mem_cons,List.not_mem_nil,or_false] at hx
 rcases hx with rfl | rfl
 · exact ⟨mtD_ok,by simp [Tr.l]⟩
 · exact ⟨litD_ok h,by simp [Tr.l]⟩
theorem dec_of {s : ByteArray} {t : Tr} (h : decodeT s = some t) : decTr s = t ∧ decErr s = 0:=dec_some h
theorem raw_code (x : Ct) (hr : rightC x = true) (hok : OkT x.t) (hv : x.v.ok) (s : ByteArray) (hs : s.data.toList = codeC x) : decRaw s = (x,true):=by
 have hl : s.toList = codeC x:=by rw [ByteArray.toList_eq]; exact hs
 unfold decRaw
 rw [hl,hs]
 by_cases k0 : x.k = 0
 · have e : x = zCt:=by
    unfold rightC at hr
    rw [if_pos k0] at hr
    exact same_ct hr
   subst e
   rfl
 by_cases k2 : x.k = 2
 · have hc : codeC x = 61 :: codeL x.t:=by unfold codeC; rw [if_neg k0,if_pos k2]
   unfold rightC at hr
   rw [if_neg k0,if_neg (by omega),if_pos k2] at hr
   simp only [Bool.and_eq_true,decide_eq_true_eq] at hr
   have hf : forS s = ⟨(codeL x.t).toArray⟩:=by
    unfold forS
    rw [hs,hc]
    rfl
   obtain ⟨h1,h2⟩:=dec_of (decode_code x.t hr.2 hok)
   rw [hc]
   rw [if_neg (by intro h; injection h with h; cases h),if_neg (show ¬ Lib.hasPrefix (61 :: codeL x.t) [86] = true by simp [Lib.hasPrefix,List.isPrefixOf]),if_pos (show Lib.hasPrefix (61 :: codeL x.t) [61] = true by simp [Lib.hasPrefix,List.isPrefixOf])]
   rw [hf,h1,h2]
   obtain ⟨k,v,t⟩:=x
   dsimp only at k2 hr ⊢
   subst k2
   rw [hr.1]
   rfl
 have k1 : x.k = 1:=by
  by_cases k1 : x.k = 1
  · exact k1
  · unfold rightC at hr
    rw [if_neg k0,if_neg k1,if_neg k2] at hr
    cases hr
 have hc : codeC x = 86 :: (valL x.v ++ [59]):=by unfold codeC; rw [if_neg k0,if_neg k2]
 obtain ⟨hk,hvr⟩:=right_val k1 hr
 unfold rightC at hr
 rw [if_neg k0,if_pos k1] at hr
 simp only [Bool.and_eq_true,sameB_eq] at hr
 have hm : matS s = ⟨(codeL (mT x.v)).toArray⟩:=by
  unfold matS
  rw [hs,hc,mt_text]
  rfl
 obtain ⟨h1,h2⟩:=dec_of (decode_code (mT x.v) (mt_check hk hvr) (mt_okT hv))
 rw [hc]
 rw [if_neg (by intro h; injection h with h; cases h),if_pos (show Lib.hasPrefix (86 :: (valL x.v ++ [59])) [86] = true by simp [Lib.hasPrefix,List.isPrefixOf])]
 rw [hm,h1,h2]
 rw [if_pos ⟨rfl,rfl,rfl⟩]
 obtain ⟨k,v,t⟩:=x
 dsimp only at k1 hr ⊢
 subst k1
 rw [hr.1]
 rfl
theorem decC_code (x : Ct) (hr : rightC x = true) (hok : OkT x.t) (hv : x.v.ok) : decC ⟨(codeC x).toArray⟩ = (x,0):=by
 have h:=raw_code x hr hok hv ⟨(codeC x).toArray⟩ rfl
 unfold decC
 rw [h]
 exact if_pos ⟨rfl,hr,rfl⟩
theorem codeC_small {x : Ct} (hr : rightC x = true) (hok : OkT x.t) (hv : x.v.ok) (hvs : x.v.text.size ≤ 300) : (codeC x).length ≤ 1000100:=by
 unfold codeC
 split
 · simp
 · split
   · rename_i k0 k2
     unfold rightC at hr
     rw [if_neg k0,if_neg (by omega),if_pos k2] at hr
     simp only [Bool.and_eq_true,decide_eq_true_eq] at hr
     have:=code_small hr.2 hok
     simp; omega
   · have:=val_le3 x.v hv hvs
     simp; omega
end Go.Proofs.YtelombedjkbckaaGreatDoor
