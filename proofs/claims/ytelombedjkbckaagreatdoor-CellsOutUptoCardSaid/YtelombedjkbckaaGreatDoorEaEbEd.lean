/- The plain reader reads what was written. The plain reader reads a right tree's code back. A right tree is not great. -/
import Derived.Test.YtelombedjkbckaaGreatDoorZnDnDk
import Derived.Test.YtelombedjkbckaaGreatDoorCwBuCx
import Derived.Test.YtelombedjkbckaaGreatDoorFjM
import Derived.Test.YtelombedjkbckaaGreatDoorCzM
import Derived.Test.YtelombedjkbckaaGreatDoorOvNoGtCu
namespace Go.Proofs.YtelombedjkbckaaGreatDoor
open Go.RowKit Go.Shelf
theorem parse_app : ∀ (l m : List UInt8) (acc : Nat),Lib.parseUint10 acc (l ++ m) = match Lib.parseUint10 acc l with | .ok a => Lib.parseUint10 a m | e => e
 | [],m,acc => rfl
 | c :: l,m,acc => by
  simp only [List.cons_append,Lib.parseUint10]
  split
  · split
    · rfl
    · split
      · rfl
      · exact parse_app l m _
  · rfl
theorem dig_toNat (d : Nat) (h : d < 10) : (UInt8.ofNat (48 + d)).toNat = 48 + d:=by
 simp
 omega
theorem parse_one (acc d : Nat) (hd : d < 10) (h : acc * 10 + d < 18446744073709551616) (h2 : acc < 1844674407370955162) : Lib.parseUint10 acc [UInt8.ofNat (48 + d)] = .ok (acc * 10 + d):=by
 simp only [Lib.parseUint10]
 rw [dig_toNat d hd,if_pos (by omega),if_neg (by omega),if_neg (by omega)]
 congr 1
 omega
theorem parse_dec (u : Nat) (h : u < 18446744073709551616) : Lib.parseUint10 0 (Lib.decDigits u) = .ok u:=by
 induction u using Nat.strongRecOn with
 | _ u ih =>
  by_cases h1 : u < 10
  · rw [Lib.decDigits,dif_pos h1,parse_one 0 u h1 (by omega) (by omega)]
    congr 1
    omega
  · rw [Lib.decDigits,dif_neg h1,parse_app,ih (u / 10) (by omega) (by omega)]
    dsimp only
    rw [parse_one (u / 10) (u % 10) (by omega) (by omega) (by omega)]
    congr 1
    omega
theorem isDig_of (d : Nat) (h : d < 10) : isDig (UInt8.ofNat (48 + d)) = true:=by
 unfold isDig
 rw [dig_toNat d h,decide_eq_true (p:=48 ≤ 48 + d) (by omega),decide_eq_true (p:=48 + d ≤ 57) (by omega)]
 rfl
theorem dec_dig (u : Nat) : ∀ c ∈ Lib.decDigits u,isDig c = true:=by
 induction u using Nat.strongRecOn with
 | _ u ih =>
  intro c hc
  by_cases h1 : u < 10
  · rw [Lib.decDigits,dif_pos h1,List.mem_singleton] at hc
    subst hc
    exact isDig_of u h1
  · rw [Lib.decDigits,dif_neg h1,List.mem_append,List.mem_singleton] at hc
    rcases hc with hc | rfl
    · exact ih (u / 10) (by omega) c hc
    · exact isDig_of _ (by omega)
theorem dec_ne (u : Nat) : Lib.decDigits u ≠ []:=by
 intro h
 have h1:=Lib.decDigits_length u
 have h2:=Lib.nDigits_pos u
 rw [h] at h1
 simp at h1
 omega
theorem dec_cons (u : Nat) : ∃ c r,Lib.decDigits u = c :: r ∧ 48 ≤ c.toNat ∧ c.toNat ≤ 57:=by
 cases h : Lib.decDigits u with
 | nil => exact absurd h (dec_ne u)
 | cons c r =>
  have hd:=dec_dig u c (by rw [h]; simp)
  unfold isDig at hd
  rw [Bool.and_eq_true,decide_eq_true_eq,decide_eq_true_eq] at hd
  exact ⟨c,r,rfl,hd⟩
theorem parseMag_dec (u : Nat) (h : u < 18446744073709551616) : Lib.parseMag (Lib.decDigits u) = .ok u:=by
 rw [Lib.parseMag,if_neg (dec_ne u),parse_dec u h]
theorem atoi_itoa (n : Int) (h : i64 n) : Lib.atoiAll (Lib.itoa n) = .ok n:=by
 obtain ⟨hl,hu⟩:=h
 unfold Lib.itoa
 by_cases hn : n < 0
 · rw [if_pos hn,Lib.atoiAll_minus,parseMag_dec _ (by omega)]
   simp only [Lib.signed]
   rw [if_neg (by omega)]
   congr 1
   omega
 · rw [if_neg hn]
   obtain ⟨c,r,hc,h1,h2⟩:=dec_cons n.toNat
   have hp:=parseMag_dec n.toNat (by omega)
   rw [hc] at hp ⊢
   rw [Lib.atoiAll_plain c r (by omega) (by omega),hp]
   simp only [Lib.signless]
   rw [if_neg (by omega)]
   congr 1
   omega
def rsL (l : List UInt8) (k : Nat) : RS:=⟨⟨l.toArray⟩,k,false⟩
def NoDig (l : List UInt8) : Prop:=∀ c ∈ l.head?,isDig c = false
theorem noDig_cons {c : UInt8} {l : List UInt8} (h : isDig c = false) : NoDig (c :: l):=by
 intro x hx
 simp only [List.head?_cons,Option.mem_def,Option.some.injEq] at hx
 subst hx
 exact h
theorem ext_L (l : List UInt8) (a b : Nat) : (ByteArray.mk l.toArray).extract a b = ⟨((l.drop a).take (b - a)).toArray⟩:=by
 apply ByteArray.ext
 simp [List.extract_eq_take_drop]
theorem size_L (l : List UInt8) : (ByteArray.mk l.toArray).size = l.length:=by simp [ByteArray.size]
theorem skip_L (p l : List UInt8) (k : Nat) : (rsL (p ++ l) k).skip p = rsL l k:=by
 have h : Lib.hasPrefix (p ++ l) p = true:=by unfold Lib.hasPrefix; simp
 unfold RS.skip rsL
 dsimp only
 unfold Lib.trimPrefix
 rw [h,if_pos rfl]
 simp
theorem take_dig (m tl : List UInt8) (hm : ∀ c ∈ m,isDig c = true) (ht : NoDig tl) : (m ++ tl).takeWhile isDig = m:=by
 rw [List.takeWhile_append_of_pos hm]
 have : tl.takeWhile isDig = []:=by
  cases tl with
  | nil => rfl
  | cons c l => rw [List.takeWhile_cons,ht c rfl]; rfl
 rw [this,List.append_nil]
theorem numEnd_L (n : Int) (tl : List UInt8) (ht : NoDig tl) : numEnd ⟨(Lib.itoa n ++ tl).toArray⟩ = (Lib.itoa n).length:=by
 unfold numEnd Lib.itoa
 by_cases hn : n < 0
 · rw [if_pos hn]
   have h : Lib.hasPrefix (ByteArray.mk ((45 :: Lib.decDigits n.natAbs) ++ tl).toArray).data.toList [45] = true:=by unfold Lib.hasPrefix; simp
   rw [if_pos h]
   unfold runOf
   dsimp only
   rw [List.cons_append,List.drop_succ_cons,List.drop_zero,take_dig _ _ (dec_dig _) ht,List.length_cons]
   omega
 · rw [if_neg hn]
   obtain ⟨c,r,hc,h1,h2⟩:=dec_cons n.toNat
   have h : ¬ Lib.hasPrefix (ByteArray.mk (Lib.decDigits n.toNat ++ tl).toArray).data.toList [45] = true:=by
    unfold Lib.hasPrefix
    rw [hc]
    have : ¬ (45 : UInt8) = c:=fun e => by subst e; revert h1; decide
    simp [this]
   rw [if_neg h]
   unfold runOf
   dsimp only
   rw [List.drop_zero,take_dig _ _ (dec_dig _) ht]
theorem number_L (n : Int) (h : i64 n) (tl : List UInt8) (ht : NoDig tl) (k : Nat) : (rsL (Lib.itoa n ++ tl) k).number = (n,rsL tl k):=by
 have he:=numEnd_L n tl ht
 unfold RS.number numOf rsL
 dsimp only
 rw [he,ext_L,ext_L,size_L]
 have e1 : (List.drop 0 (Lib.itoa n ++ tl)).take ((Lib.itoa n).length - 0) = Lib.itoa n:=by simp
 have e2 : (List.drop (Lib.itoa n).length (Lib.itoa n ++ tl)).take ((Lib.itoa n ++ tl).length - (Lib.itoa n).length) = tl:=by simp
 rw [e1,e2]
 dsimp only
 rw [atoi_itoa n h]
theorem nd44 (l : List UInt8) : NoDig (44 :: l):=noDig_cons rfl
theorem nd46 (l : List UInt8) : NoDig (46 :: l):=noDig_cons rfl
theorem nd58 (l : List UInt8) : NoDig (58 :: l):=noDig_cons rfl
theorem nd59 (l : List UInt8) : NoDig (59 :: l):=noDig_cons rfl
theorem nd101 (l : List UInt8) : NoDig (101 :: l):=noDig_cons rfl
theorem skip1_L (c : UInt8) (l : List UInt8) (k : Nat) : (rsL (c :: l) k).skip [c] = rsL l k:=skip_L [c] l k
theorem id_L (a n : Int) (ha : i64 a) (hn : i64 n) (tl : List UInt8) (ht : NoDig tl) (k : Nat) : (rsL (idL a n ++ tl) k).id = ((a,n),rsL tl k):=by
 unfold idL RS.id
 rw [List.append_assoc,List.append_assoc,List.cons_append,List.nil_append,number_L a ha _ (nd46 _) k]
 dsimp only
 rw [skip1_L,number_L n hn tl ht k]
theorem fix_all : ∀ fr fc : Bool,fixB ((if fr then 1 else 0) + (if fc then 2 else 0)) 1 = fr ∧ fixB ((if fr then 1 else 0) + (if fc then 2 else 0)) 2 = fc:=by decide +kernel
theorem fix_row (c : Cn) : fixB (fixI c) 1 = c.fr:=(fix_all c.fr c.fc).1
theorem fix_col (c : Cn) : fixB (fixI c) 2 = c.fc:=(fix_all c.fr c.fc).2
theorem corner_L (c : Cn) (h : c.ok) (tl : List UInt8) (ht : NoDig tl) (k : Nat) : (rsL (cornerL c ++ tl) k).corner = (c,rsL tl k):=by
 obtain ⟨h1,h2,h3,h4⟩:=h
 unfold cornerL RS.corner
 simp only [List.append_assoc,List.cons_append,List.nil_append]
 rw [id_L c.ra c.rn h1 h2 _ (nd44 _) k]
 dsimp only
 rw [skip1_L,id_L c.ca c.cn h3 h4 _ (nd44 _) k]
 dsimp only
 rw [skip1_L,number_L _ (fix_ok c) tl ht k,fix_row,fix_col]
theorem sized_L (s : List UInt8) (hs : s.length ≤ 9223372036854775807) (tl : List UInt8) (k : Nat) : (rsL (sizedL s ++ tl) k).sized = (⟨s.toArray⟩,rsL tl k):=by
 unfold sizedL RS.sized
 simp only [List.append_assoc,List.cons_append,List.nil_append]
 rw [number_L (s.length : Int) ⟨by omega,by omega⟩ _ (nd58 _) k]
 dsimp only
 rw [skip1_L]
 unfold rsL
 dsimp only
 rw [size_L,if_neg (by simp; omega),ext_L,ext_L]
 simp
theorem index_L (s tl : List UInt8) (h : ∀ c ∈ s,c ≠ 59) : Lib.indexByte (s ++ 59 :: tl) 59 = s.length:=by
 induction s with
 | nil => simp [Lib.indexByte]
 | cons a s ih =>
  have h1:=ih (fun c hc => h c (by simp [hc]))
  have h2 : (a == 59) = false:=by simpa using h a (by simp)
  rw [List.cons_append,Lib.indexByte,h2,h1]
  have h3 : ((s.length : Int) == -1) = false:=by rw [beq_eq_false_iff_ne]; omega
  rw [h3]
  simp
theorem sign_L (s tl : List UInt8) (h : ∀ c ∈ s,c ≠ 59) (k : Nat) : (rsL (s ++ 59 :: tl) k).sign = (⟨s.toArray⟩,rsL (59 :: tl) k):=by
 unfold RS.sign rsL
 dsimp only
 rw [index_L s tl h,if_neg (by omega),ext_L,ext_L,size_L]
 simp
theorem bytes_eta (s : ByteArray) : (⟨s.data.toList.toArray⟩ : ByteArray) = s:=by cases s; simp
def isHead (c : Nat) : Prop:=c = 79 ∨ c = 80 ∨ c = 82 ∨ c = 67 ∨ c = 85 ∨ c = 66 ∨ c = 77 ∨ c = 65 ∨ c = 88
instance (c : Nat) : Decidable (isHead c):=by unfold isHead; infer_instance
theorem value_L (v : Vl) (hv : v.ok) (h : litB v = true) (tl : List UInt8) (ht : NoDig tl) (k : Nat) : ∃ c r,valL v = c :: r ∧ ¬ isHead c.toNat ∧ (rsL (r ++ tl) k).value c.toNat = (v,rsL tl k):=by
 obtain ⟨kd,m,x,s,t,f⟩:=v
 obtain ⟨hv1,hv2,hv3,hv4,hv5⟩:=hv
 dsimp only at hv1 hv2 hv3 hv4 hv5
 unfold valL
 dsimp only
 by_cases k1 : kd = 1
 · subst k1
   rw [lit1,Bool.and_eq_true,decide_eq_true_eq] at h
   rw [if_pos rfl]
   refine ⟨78,Lib.itoa m ++ [101] ++ Lib.itoa x,by simp,by decide,?_⟩
   unfold RS.value
   rw [if_pos (by decide),List.append_assoc,List.append_assoc,List.cons_append,List.nil_append,number_L m hv2 _ (nd101 _) k]
   dsimp only
   rw [skip1_L,number_L x hv3 tl ht k]
   rw [← h.1]
   rfl
 rw [if_neg k1]
 by_cases k2 : kd = 2
 · subst k2
   rw [lit2,Bool.and_eq_true,decide_eq_true_eq] at h
   rw [if_pos rfl]
   refine ⟨83,sizedL s.data.toList,by simp,by decide,?_⟩
   unfold RS.value
   rw [if_neg (by decide),if_pos (by decide),sized_L _ (by simpa using hv4),bytes_eta,← h.1]
 rw [if_neg k2]
 by_cases k3 : kd = 3
 · subst k3
   rw [lit3,decide_eq_true_eq] at h
   rw [if_pos rfl]
   cases t with
   | true =>
    refine ⟨84,[],rfl,by decide,?_⟩
    unfold RS.value
    rw [if_neg (by decide),if_neg (by decide),if_pos (by decide),← h]
    rfl
   | false =>
    refine ⟨70,[],rfl,by decide,?_⟩
    unfold RS.value
    rw [if_neg (by decide),if_neg (by decide),if_neg (by decide),if_pos (by decide),← h]
    rfl
 rw [if_neg k3]
 by_cases k4 : kd = 4
 · subst k4
   rw [lit4,Bool.and_eq_true,decide_eq_true_eq] at h
   refine ⟨69,Lib.itoa f,by simp,by decide,?_⟩
   unfold RS.value
   rw [if_neg (by decide),if_neg (by decide),if_neg (by decide),if_neg (by decide),if_pos (by decide),number_L f hv5 tl ht k]
   rw [← h.1]
 · rw [lit5 kd m x f s t k1 k2 k3 k4] at h
   cases h
theorem una_no59 {s : ByteArray} (h : unaryB s = true) : ∀ c ∈ s.data.toList,c ≠ 59:=by
 unfold unaryB at h
 rw [ByteArray.toList_eq] at h
 simp only [Bool.or_eq_true,beq_iff_eq] at h
 intro c hc
 rcases h with (h | h) | h <;> (rw [h] at hc; simp at hc; subst hc; decide)
theorem bin_no59 {s : ByteArray} (h : binaryB s = true) : ∀ c ∈ s.data.toList,c ≠ 59:=by
 unfold binaryB at h
 rw [ByteArray.toList_eq] at h
 simp only [Bool.or_eq_true,beq_iff_eq] at h
 intro c hc
 rcases h with ((((((((((h | h) | h) | h) | h) | h) | h) | h) | h) | h) | h) | h <;> (rw [h] at hc; simp at hc; first | (subst hc; decide) | (rcases hc with rfl | rfl <;> decide))
end Go.Proofs.YtelombedjkbckaaGreatDoor
namespace Go.Proofs.YtelombedjkbckaaGreatDoor
open Go.RowKit Go.Shelf
theorem codeL_mk (d : ND) (l : List Tr) : codeL (.mk d l) = partL d l.length ++ 59 :: l.flatMap codeL:=by
 have key : ∀ l : List Tr,(Tr.nodess l).flatMap (fun x => codeOne x.d x.l.length) = l.flatMap codeL:=by
  intro l
  induction l with
  | nil => rfl
  | cons a l ih =>
   rw [Tr.nodess,List.flatMap_append,ih,List.flatMap_cons]
   rfl
 rw [codeL,Tr.nodes,List.flatMap_cons,key]
 simp [codeOne,Tr.d,Tr.l]
theorem head_lit (c : Nat) (r : RS) (h : ¬ isHead c) : RS.head c r = ({ zeroND with v:=(r.value c).1 },0,(r.value c).2):=by
 unfold isHead at h
 unfold RS.head
 rw [if_neg (by omega),if_neg (by omega),if_neg (by omega),if_neg (by omega),if_neg (by omega),if_neg (by omega),if_neg (by omega),if_neg (by omega),if_neg (by omega)]
theorem head_L (d : ND) (n : Nat) (k0 : Int) (hd : d.ok) (hn : n ≤ 9223372036854775807) (h : rownB d n k0 = true) (tl : List UInt8) (k : Nat) : ∃ c r,partL d n = c :: r ∧ RS.head c.toNat (rsL (r ++ 59 :: tl) k) = (d,(n : Int),rsL (59 :: tl) k):=by
 obtain ⟨kd,v,nm,a,q,rows⟩:=d
 unfold ND.ok at hd
 obtain ⟨d1,d2,d3,d4,d5,d6⟩:=hd
 dsimp only at d1 d2 d3 d4 d5 d6
 unfold rownB at h
 unfold partL
 dsimp only at h ⊢
 by_cases k0 : kd = 0
 · subst k0
   rw [if_pos rfl,Bool.and_eq_true,Bool.and_eq_true,decide_eq_true_eq,decide_eq_true_eq] at h
   obtain ⟨⟨h1,h2⟩,h3⟩:=h
   obtain ⟨c,r,e1,e2,e3⟩:=value_L v d2 h1 (59 :: tl) (nd59 _) k
   refine ⟨c,r,by rw [if_pos rfl]; exact e1,?_⟩
   rw [head_lit _ _ e2,e3,← h3,h2]
   rfl
 rw [if_neg k0] at h ⊢
 by_cases k1 : kd = 1
 · subst k1
   rw [if_pos (.inl rfl),Bool.and_eq_true,Bool.and_eq_true,decide_eq_true_eq,decide_eq_true_eq] at h
   obtain ⟨⟨_,h2⟩,h3⟩:=h
   refine ⟨79,cornerL a,by rw [if_pos rfl]; rfl,?_⟩
   unfold RS.head
   rw [if_pos (by decide),corner_L a d4 _ (nd59 _),← h3,h2]
   rfl
 by_cases k3 : kd = 3
 · subst k3
   rw [if_pos (.inr rfl),Bool.and_eq_true,Bool.and_eq_true,decide_eq_true_eq,decide_eq_true_eq] at h
   obtain ⟨⟨_,h2⟩,h3⟩:=h
   refine ⟨80,cornerL a,by rw [if_neg (by decide),if_pos rfl]; rfl,?_⟩
   unfold RS.head
   rw [if_neg (by decide),if_pos (by decide),corner_L a d4 _ (nd59 _),← h3,h2]
   rfl
 rw [if_neg (by omega)] at h
 rw [if_neg k1,if_neg k3]
 by_cases k2 : kd = 2
 · subst k2
   rw [if_pos rfl,Bool.and_eq_true,Bool.and_eq_true,decide_eq_true_eq,decide_eq_true_eq] at h
   obtain ⟨⟨_,h2⟩,h3⟩:=h
   refine ⟨82,cornerL a ++ [58] ++ cornerL q,by rw [if_pos rfl]; simp,?_⟩
   unfold RS.head
   rw [if_neg (by decide),if_neg (by decide),if_pos (by decide),List.append_assoc,List.append_assoc,List.cons_append,List.nil_append,corner_L a d4 _ (nd58 _)]
   dsimp only
   rw [skip1_L,corner_L q d5 _ (nd59 _),← h3,h2]
   rfl
 rw [if_neg k2] at h ⊢
 by_cases k4 : kd = 4
 · subst k4
   rw [if_pos rfl,Bool.and_eq_true,decide_eq_true_eq] at h
   obtain ⟨_,h3⟩:=h
   refine ⟨67,sizedL nm.data.toList ++ [44] ++ Lib.itoa n,by rw [if_pos rfl]; simp,?_⟩
   unfold RS.head
   rw [if_neg (by decide),if_neg (by decide),if_neg (by decide),if_pos (by decide),List.append_assoc,List.append_assoc,List.cons_append,List.nil_append,sized_L _ (by simpa using d3)]
   dsimp only
   rw [skip1_L,number_L n ⟨by omega,by omega⟩ _ (nd59 _),bytes_eta,← h3]
 rw [if_neg k4] at h ⊢
 by_cases k5 : kd = 5
 · subst k5
   rw [if_pos rfl,Bool.and_eq_true,Bool.and_eq_true,decide_eq_true_eq,decide_eq_true_eq] at h
   obtain ⟨⟨h1,h2⟩,h3⟩:=h
   refine ⟨85,nm.data.toList,by rw [if_pos rfl]; rfl,?_⟩
   unfold RS.head
   rw [if_neg (by decide),if_neg (by decide),if_neg (by decide),if_neg (by decide),if_pos (by decide),sign_L _ _ (una_no59 h1),bytes_eta,← h3,h2]
   rfl
 rw [if_neg k5] at h ⊢
 by_cases k6 : kd = 6
 · subst k6
   rw [if_pos rfl,Bool.and_eq_true,Bool.and_eq_true,decide_eq_true_eq,decide_eq_true_eq] at h
   obtain ⟨⟨h1,h2⟩,h3⟩:=h
   refine ⟨66,nm.data.toList,by rw [if_pos rfl]; rfl,?_⟩
   unfold RS.head
   rw [if_neg (by decide),if_neg (by decide),if_neg (by decide),if_neg (by decide),if_neg (by decide),if_pos (by decide),sign_L _ _ (bin_no59 h1),bytes_eta,← h3,h2]
   rfl
 rw [if_neg k6] at h ⊢
 by_cases k7 : kd = 7
 · subst k7
   rw [if_pos rfl,Bool.and_eq_true,Bool.and_eq_true,decide_eq_true_eq,decide_eq_true_eq] at h
   obtain ⟨⟨_,h2⟩,h3⟩:=h
   refine ⟨77,sizedL nm.data.toList,by rw [if_pos rfl]; rfl,?_⟩
   unfold RS.head
   rw [if_neg (by decide),if_neg (by decide),if_neg (by decide),if_neg (by decide),if_neg (by decide),if_neg (by decide),if_pos (by decide),sized_L _ (by simpa using d3),bytes_eta,← h3,h2]
   rfl
 rw [if_neg k7] at h ⊢
 by_cases k8 : kd = 8
 · subst k8
   rw [if_pos rfl,Bool.and_eq_true,decide_eq_true_eq] at h
   obtain ⟨_,h3⟩:=h
   refine ⟨65,Lib.itoa rows ++ [44] ++ Lib.itoa n,by rw [if_pos rfl]; simp,?_⟩
   unfold RS.head
   rw [if_neg (by decide),if_neg (by decide),if_neg (by decide),if_neg (by decide),if_neg (by decide),if_neg (by decide),if_neg (by decide),if_pos (by decide),List.append_assoc,List.append_assoc,List.cons_append,List.nil_append,number_L rows d6 _ (nd44 _)]
   dsimp only
   rw [skip1_L,number_L n ⟨by omega,by omega⟩ _ (nd59 _),← h3]
 rw [if_neg k8] at h ⊢
 by_cases k9 : kd = 9
 · subst k9
   rw [if_pos rfl,Bool.and_eq_true,decide_eq_true_eq,decide_eq_true_eq] at h
   obtain ⟨h2,h3⟩:=h
   refine ⟨88,[],rfl,?_⟩
   unfold RS.head
   rw [if_neg (by decide),if_neg (by decide),if_neg (by decide),if_neg (by decide),if_neg (by decide),if_neg (by decide),if_neg (by decide),if_neg (by decide),if_pos (by decide),← h3,h2]
   rfl
 rw [if_neg k9] at h
 cases h
theorem begin_L (c : UInt8) (l : List UInt8) (k : Nat) : (rsL (c :: l) k).begin_ = rsL l (k + 1):=by
 unfold RS.begin_ rsL
 dsimp only
 rw [ext_L,size_L]
 simp
def OkT (t : Tr) : Prop:=∀ x ∈ t.nodes,x.d.ok ∧ x.l.length ≤ 9223372036854775807
theorem node_L : ∀ (f : Nat) (t : Tr) (call : Bool) (_ : t.depth ≤ f) (_ : rrightB t call = true) (_ : OkT t) (k : Nat) (_ : k + t.size ≤ 256) (tl : List UInt8),RS.node f (rsL (codeL t ++ tl) k) = (t,rsL tl (k + t.size))
 | 0,.mk d l,_,hdep,_,_,_,_,_ => by rw [Tr.depth] at hdep; omega
 | f + 1,.mk d l,call,hdep,hr,hok,k,hk,tl => by
  rw [Tr.depth] at hdep
  rw [Tr.size] at hk
  rw [rrightB,Bool.and_eq_true,Bool.and_eq_true] at hr
  obtain ⟨⟨h1,_⟩,h3⟩:=hr
  have ho:=hok (.mk d l) (self_mem _)
  obtain ⟨c,r,e1,e2⟩:=head_L d l.length (kind0 l) ho.1 ho.2 h1 (l.flatMap codeL ++ tl) (k + 1)
  have hkids : ∀ (m : List Tr) (k : Nat) (_ : Tr.depths m ≤ f) (_ : rrightsB d.kind m = true) (_ : ∀ t ∈ m,OkT t) (_ : k + Tr.sizes m ≤ 256),RS.kids (RS.node f) m.length (rsL (m.flatMap codeL ++ tl) k) = (m,rsL tl (k + Tr.sizes m)):=by
   intro m
   induction m with
   | nil => intro k _ _ _ _; rfl
   | cons t m ih =>
    intro k hd hrs hoks hsz
    rw [Tr.depths] at hd
    rw [Tr.sizes] at hsz ⊢
    rw [rrightsB,Bool.and_eq_true,Bool.and_eq_true] at hrs
    rw [List.length_cons,kids_succ _ _ _ rfl,List.flatMap_cons,List.append_assoc,node_L f t _ (by omega) hrs.1.2 (hoks t (by simp)) k (by omega)]
    dsimp only
    rw [ih (k + t.size) (by omega) hrs.2 (fun x hx => hoks x (by simp [hx])) (by omega),Nat.add_assoc]
  have hc : codeL (.mk d l) ++ tl = c :: (r ++ 59 :: (l.flatMap codeL ++ tl)):=by rw [codeL_mk,e1]; simp
  rw [hc]
  have hst : ¬ (rsL (c :: (r ++ 59 :: (l.flatMap codeL ++ tl))) k).stops:=by
   unfold RS.stops rsL
   rw [size_L]
   dsimp only
   simp only [List.length_cons]
   omega
  have hg : (((rsL (c :: (r ++ 59 :: (l.flatMap codeL ++ tl))) k).rest.data.toList.getD 0 0).toNat) = c.toNat:=rfl
  rw [node_go f _ hst]
  unfold RS.behind
  rw [hg,begin_L,e2]
  dsimp only
  rw [skip1_L,Int.toNat_natCast,hkids l (k + 1) (by omega) h3 (fun x hx => fun y hy => hok y (nodes_kid hx y hy)) (by omega),Tr.size]
  dsimp only
  rw [show k + 1 + Tr.sizes l = k + (Tr.sizes l + 1) by omega]
def decodeT (s : ByteArray) : Option Tr :=
 if (RS.node 32 ⟨s,0,false⟩).2.bad = false ∧ (RS.node 32 ⟨s,0,false⟩).2.rest.size = 0 ∧ checkI (RS.node 32 ⟨s,0,false⟩).1 = 0 ∧ codeL (RS.node 32 ⟨s,0,false⟩).1 = s.data.toList then some (RS.node 32 ⟨s,0,false⟩).1 else none
theorem decode_code (t : Tr) (h : checkI t = 0) (hok : OkT t) : decodeT ⟨(codeL t).toArray⟩ = some t:=by
 have h0:=h
 rw [← rcheck_eq,rcheckI] at h
 have hs : t.size ≤ 256 ∧ t.depth ≤ 32 ∧ rrightB t false = true:=by
  by_cases c1 : 256 < t.size
  · rw [if_pos c1] at h; omega
  rw [if_neg c1] at h
  by_cases c2 : 32 < t.depth
  · rw [if_pos c2] at h; omega
  rw [if_neg c2] at h
  by_cases c3 : belowB t.d = true ∨ rrightB t false = false
  · rw [if_pos c3] at h; omega
  · refine ⟨by omega,by omega,?_⟩
    cases hq : rrightB t false with
    | true => rfl
    | false => exact absurd (.inr hq) c3
 have e:=node_L 32 t false hs.2.1 hs.2.2 hok 0 (by omega) []
 rw [List.append_nil] at e
 have e' : RS.node 32 ⟨⟨(codeL t).toArray⟩,0,false⟩ = (t,rsL [] (0 + t.size)):=e
 unfold decodeT
 rw [e',if_pos]
 exact ⟨rfl,rfl,h0,by simp⟩
theorem decode_some {s : ByteArray} {t : Tr} (h : decodeT s = some t) : checkI t = 0 ∧ codeL t = s.data.toList ∧ t = (RS.node 32 ⟨s,0,false⟩).1:=by
 unfold decodeT at h
 split at h
 · rename_i hc
   injection h with h
   rw [h] at hc
   exact ⟨hc.2.2.1,hc.2.2.2,h.symm⟩
 · cases h
theorem check_small {t : Tr} (h : checkI t = 0) : t.size ≤ 256 ∧ t.depth ≤ 32:=by
 unfold checkI at h
 split at h
 · omega
 split at h
 · omega
 · constructor <;> omega
end Go.Proofs.YtelombedjkbckaaGreatDoor
namespace Go.Proofs.YtelombedjkbckaaGreatDoor
open Go.RowKit Go.Shelf
theorem una_size {s : ByteArray} (h : unaryB s = true) : s.size ≤ 300:=by
 unfold unaryB at h
 rw [ByteArray.toList_eq] at h
 simp only [Bool.or_eq_true,beq_iff_eq] at h
 have e : s.size = s.data.toList.length:=by simp
 rw [e]
 rcases h with (h | h) | h <;> (rw [h]; decide)
theorem bin_size {s : ByteArray} (h : binaryB s = true) : s.size ≤ 300:=by
 unfold binaryB at h
 rw [ByteArray.toList_eq] at h
 simp only [Bool.or_eq_true,beq_iff_eq] at h
 have e : s.size = s.data.toList.length:=by simp
 rw [e]
 rcases h with ((((((((((h | h) | h) | h) | h) | h) | h) | h) | h) | h) | h) | h <;> (rw [h]; decide)
theorem call_size_ {s : ByteArray} (h : isCallB s = true) : s.size ≤ 300:=by
 unfold isCallB at h
 simp only [Bool.and_eq_true,decide_eq_true_eq] at h
 have:=h.1.1.1.2
 omega
theorem name_size {s : ByteArray} (h : isNameB s = true) : s.size ≤ 300:=by
 unfold isNameB at h
 simp only [Bool.and_eq_true,decide_eq_true_eq] at h
 have:=h.1.1.1.1.2
 omega
theorem noB300 : noBytes.size ≤ 300:=by decide
theorem lit_size {v : Vl} (h : litB v = true) : v.text.size ≤ 300:=by
 obtain ⟨kd,m,x,s,t,f⟩:=v
 by_cases k1 : kd = 1
 · subst k1
   rw [lit1,Bool.and_eq_true,decide_eq_true_eq] at h
   rw [← h.1]
   exact noB300
 by_cases k2 : kd = 2
 · subst k2
   rw [lit2,Bool.and_eq_true,decide_eq_true_eq,decide_eq_true_eq] at h
   dsimp only
   omega
 by_cases k3 : kd = 3
 · subst k3
   rw [lit3,decide_eq_true_eq] at h
   rw [← h]
   exact noB300
 by_cases k4 : kd = 4
 · subst k4
   rw [lit4,Bool.and_eq_true,decide_eq_true_eq] at h
   rw [← h.1]
   exact noB300
 · rw [lit5 kd m x f s t k1 k2 k3 k4] at h
   cases h
theorem rown_small {d : ND} {n : Nat} {k0 : Int} (h : rownB d n k0 = true) : d.name.size ≤ 300 ∧ d.v.text.size ≤ 300:=by
 obtain ⟨kd,v,nm,a,q,rows⟩:=d
 unfold rownB at h
 dsimp only at h ⊢
 have zn : zeroND.name.size ≤ 300:=noB300
 have zt : zeroND.v.text.size ≤ 300:=noB300
 by_cases k0 : kd = 0
 · subst k0
   rw [if_pos rfl,Bool.and_eq_true,Bool.and_eq_true,decide_eq_true_eq,decide_eq_true_eq] at h
   obtain ⟨⟨h1,h2⟩,h3⟩:=h
   have e1:=congrArg ND.name h3
   dsimp only at e1
   exact ⟨by rw [← e1]; exact zn,lit_size h1⟩
 rw [if_neg k0] at h
 by_cases k1 : kd = 1 ∨ kd = 3
 · rw [if_pos k1,Bool.and_eq_true,Bool.and_eq_true,decide_eq_true_eq,decide_eq_true_eq] at h
   obtain ⟨⟨_,h2⟩,h3⟩:=h
   have e1:=congrArg ND.name h3
   have e2:=congrArg ND.v h3
   dsimp only at e1 e2
   exact ⟨by rw [← e1]; exact zn,by rw [← e2]; exact zt⟩
 rw [if_neg k1] at h
 by_cases k2 : kd = 2
 · rw [if_pos k2,Bool.and_eq_true,Bool.and_eq_true,decide_eq_true_eq,decide_eq_true_eq] at h
   obtain ⟨⟨_,h2⟩,h3⟩:=h
   have e1:=congrArg ND.name h3
   have e2:=congrArg ND.v h3
   dsimp only at e1 e2
   exact ⟨by rw [← e1]; exact zn,by rw [← e2]; exact zt⟩
 rw [if_neg k2] at h
 by_cases k4 : kd = 4
 · rw [if_pos k4,Bool.and_eq_true,Bool.and_eq_true,Bool.and_eq_true] at h
   obtain ⟨⟨⟨h1,_⟩,_⟩,h3⟩:=h
   rw [decide_eq_true_eq] at h3
   have e2:=congrArg ND.v h3
   dsimp only at e2
   exact ⟨call_size_ h1,by rw [← e2]; exact zt⟩
 rw [if_neg k4] at h
 by_cases k5 : kd = 5
 · rw [if_pos k5,Bool.and_eq_true,Bool.and_eq_true,decide_eq_true_eq,decide_eq_true_eq] at h
   obtain ⟨⟨h1,h2⟩,h3⟩:=h
   have e2:=congrArg ND.v h3
   dsimp only at e2
   exact ⟨una_size h1,by rw [← e2]; exact zt⟩
 rw [if_neg k5] at h
 by_cases k6 : kd = 6
 · rw [if_pos k6,Bool.and_eq_true,Bool.and_eq_true,decide_eq_true_eq,decide_eq_true_eq] at h
   obtain ⟨⟨h1,h2⟩,h3⟩:=h
   have e2:=congrArg ND.v h3
   dsimp only at e2
   exact ⟨bin_size h1,by rw [← e2]; exact zt⟩
 rw [if_neg k6] at h
 by_cases k7 : kd = 7
 · rw [if_pos k7,Bool.and_eq_true,Bool.and_eq_true,decide_eq_true_eq,decide_eq_true_eq] at h
   obtain ⟨⟨h1,h2⟩,h3⟩:=h
   have e2:=congrArg ND.v h3
   dsimp only at e2
   exact ⟨name_size h1,by rw [← e2]; exact zt⟩
 rw [if_neg k7] at h
 by_cases k8 : kd = 8
 · rw [if_pos k8,Bool.and_eq_true,decide_eq_true_eq] at h
   obtain ⟨_,h3⟩:=h
   have e1:=congrArg ND.name h3
   have e2:=congrArg ND.v h3
   dsimp only at e1 e2
   exact ⟨by rw [← e1]; exact zn,by rw [← e2]; exact zt⟩
 rw [if_neg k8] at h
 by_cases k9 : kd = 9
 · rw [if_pos k9,Bool.and_eq_true,decide_eq_true_eq,decide_eq_true_eq] at h
   obtain ⟨h2,h3⟩:=h
   have e1:=congrArg ND.name h3
   have e2:=congrArg ND.v h3
   dsimp only at e1 e2
   exact ⟨by rw [← e1]; exact zn,by rw [← e2]; exact zt⟩
 rw [if_neg k9] at h
 cases h
theorem check_right {t : Tr} (h : checkI t = 0) : t.size ≤ 256 ∧ t.depth ≤ 32 ∧ rrightB t false = true:=by
 have h0:=check_small h
 rw [← rcheck_eq,rcheckI,if_neg (by omega),if_neg (by omega)] at h
 refine ⟨h0.1,h0.2,?_⟩
 cases hq : rrightB t false with
 | true => rfl
 | false => rw [if_pos (.inr hq)] at h; omega
end Go.Proofs.YtelombedjkbckaaGreatDoor
