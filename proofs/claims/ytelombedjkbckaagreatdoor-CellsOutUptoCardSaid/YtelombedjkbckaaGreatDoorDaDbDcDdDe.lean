/- The reader of codes,in plain words; where it lies in memory. (*reader).skip,number. (*reader).id,sized,sign. (*reader).corner. (*reader).value. -/
import Derived.Test.YtelombedjkbckaaGreatDoorRlChCmCc
import Derived.Test.YtelombedjkbckaaGreatDoorShelfCa
import Derived.Test.YtelombedjkbckaaGreatDoorXa1NmVrVs
import Derived.Lib.AtoiAllCases
import Derived.Test.YtelombedjkbckaaGreatDoorRiCkXbNwPyPmPnPfMg
import Derived.WalkSmall
namespace Go.Proofs.YtelombedjkbckaaGreatDoor
open Go.RowKit Go.Shelf
structure RS where
 rest : ByteArray
 nodes : Nat
 bad : Bool
def RS.skip (p : List UInt8) (r : RS) : RS:={ r with rest:=⟨(Lib.trimPrefix r.rest.data.toList p).toArray⟩,bad:=r.bad || !Lib.hasPrefix r.rest.data.toList p }
def numEnd (s : ByteArray) : Nat:=if Lib.hasPrefix s.data.toList [45] = true then 1 + runOf isDig s 1 else runOf isDig s 0
def numOf (s : ByteArray) : Option Int:=match Lib.atoiAll (s.extract 0 (numEnd s)).data.toList with | .ok n => some n | _ => none
def RS.number (r : RS) : Int × RS:=match numOf r.rest with | some n => (n,{ r with rest:=r.rest.extract (numEnd r.rest) r.rest.size }) | none => (0,{ r with bad:=true })
def RS.id (r : RS) : (Int × Int) × RS:=((r.number.1,(r.number.2.skip [46]).number.1),(r.number.2.skip [46]).number.2)
def RS.sized (r : RS) : ByteArray × RS :=
 let n:=r.number.1
 let q:=r.number.2.skip [58]
 if q.bad = true ∨ n < 0 ∨ (q.rest.size : Int) < n then (noBytes,{ q with bad:=true }) else (q.rest.extract 0 n.toNat,{ q with rest:=q.rest.extract n.toNat q.rest.size })
def RS.sign (r : RS) : ByteArray × RS :=
 let e:=Lib.indexByte r.rest.data.toList 59
 if e < 0 then (noBytes,{ r with bad:=true }) else (r.rest.extract 0 e.toNat,{ r with rest:=r.rest.extract e.toNat r.rest.size })
theorem skip_le (p : List UInt8) (r : RS) : (r.skip p).rest.size ≤ r.rest.size:=by
 simp only [RS.skip,ByteArray.size,List.size_toArray]
 unfold Lib.trimPrefix
 split <;> simp
theorem numEnd_le (s : ByteArray) : numEnd s ≤ s.size:=by
 unfold numEnd
 split
 · rename_i h
   have h1 : 1 ≤ s.size:=by
    unfold Lib.hasPrefix at h
    rw [show s.size = s.data.toList.length by simp]
    cases hl : s.data.toList with
    | nil => rw [hl] at h; simp at h
    | cons a l => simp
   have:=runOf_le isDig s 1 h1
   omega
 · have:=runOf_le isDig s 0 (by omega)
   omega
theorem number_le (r : RS) : r.number.2.rest.size ≤ r.rest.size:=by
 unfold RS.number
 cases numOf r.rest <;> simp
theorem number_i64 (r : RS) : i64 r.number.1:=by
 unfold RS.number numOf
 cases h : Lib.atoiAll (r.rest.extract 0 (numEnd r.rest)).data.toList with
 | ok v => exact Lib.atoiAll_bounds h
 | _ => exact (show i64 0 from ⟨by decide,by decide⟩)
theorem number_nodes (r : RS) : r.number.2.nodes = r.nodes:=by unfold RS.number; cases numOf r.rest <;> rfl
theorem skip_nodes (p : List UInt8) (r : RS) : (r.skip p).nodes = r.nodes:=rfl
def RdAt (b : Nat) (r : RS) (w : World) : Prop:=w.heap[b]? = some (.cells #[.string r.rest,.int .i64 r.nodes,.bool r.bad] 162)
def RdTo (b : Nat) (r' : RS) (w w' : World) : Prop:=RdAt b r' w' ∧ w.grownBy w' (some b)
def ErrC (w : World) : Prop:=(∃ ev,w.cell? ⟨1,0,none⟩ = some ev ∧ (ev = .nilIface ∨ ∃ te pe,ev = .iface te pe)) ∧ (∃ ev,w.cell? ⟨2,0,none⟩ = some ev ∧ (ev = .nilIface ∨ ∃ te pe,ev = .iface te pe))
theorem ErrC.keep {w w' : World} {b : Nat} (h : ErrC w) (hg : w.grownBy w' (some b)) (hb : 3 ≤ b) : ErrC w':=by
 obtain ⟨⟨e1,h1,k1⟩,⟨e2,h2,k2⟩⟩:=h
 have f : ∀ (g : Nat) v,g < 3 → w.cell? ⟨g,0,none⟩ = some v → w'.cell? ⟨g,0,none⟩ = some v:=fun g v hg3 hv =>
  (World.cell?_of_block (a:=⟨g,0,none⟩) (hg.block g (World.block_lt_of_cell? w _ hv) (fun e => by injection e with e; omega))).trans hv
 exact ⟨⟨e1,f _ _ (by decide) h1,k1⟩,⟨e2,f _ _ (by decide) h2,k2⟩⟩
theorem ErrC.below {w w' : World} (h : ErrC w) (hb : Below w.heap.size w w') : ErrC w':=by
 obtain ⟨⟨e1,h1,k1⟩,⟨e2,h2,k2⟩⟩:=h
 exact ⟨⟨e1,(hb.cell (p:=⟨1,0,none⟩) (World.block_lt_of_cell? w _ h1)).trans h1,k1⟩,⟨e2,(hb.cell (p:=⟨2,0,none⟩) (World.block_lt_of_cell? w _ h2)).trans h2,k2⟩⟩
theorem grown_below {w w' : World} (b : Nat) (h : Below w.heap.size w w') : w.grownBy w' (some b):=⟨h.os,h.tape,h.output,h.size,fun k hk _ => h.block k hk⟩
theorem grown_trans {a b c : World} {r : Option Nat} (h : a.grownBy b r) (k : b.grownBy c r) : a.grownBy c r :=
 ⟨k.os.trans h.os,k.tape.trans h.tape,k.output.trans h.output,Nat.le_trans h.size k.size,fun i hi hne => (k.block i (Nat.lt_of_lt_of_le hi h.size) hne).trans (h.block i hi hne)⟩
theorem grown_set (w : World) (b j : Nat) (v : Value) : w.grownBy (w.setCell ⟨b,j,none⟩ v) (some b) :=
 ⟨rfl,rfl,rfl,by simp,fun k _ hne => Below.heap_setCell w ⟨b,j,none⟩ v k (fun e => hne (by rw [e]))⟩
theorem RdAt.cells {b : Nat} {r : RS} {w : World} (h : RdAt b r w) : w.cell? ⟨b,0,none⟩ = some (.string r.rest) ∧ w.cell? ⟨b,1,none⟩ = some (.int .i64 r.nodes) ∧ w.cell? ⟨b,2,none⟩ = some (.bool r.bad) ∧ w.frozen? ⟨b,0,none⟩ = false ∧ w.frozen? ⟨b,1,none⟩ = false ∧ w.frozen? ⟨b,2,none⟩ = false:=by
 unfold RdAt at h
 refine ⟨by rw [Lib.cell_of_heap h]; rfl,by rw [Lib.cell_of_heap h]; rfl,by rw [Lib.cell_of_heap h]; rfl,?_,?_,?_⟩ <;> simp [World.frozen?,h]
theorem RdAt.below {b : Nat} {r : RS} {w w' : World} (h : RdAt b r w) (hb : Below w.heap.size w w') : RdAt b r w':=(hb.block b (Jg h).1).trans h
theorem RdAt.set0 {b : Nat} {r : RS} {w : World} (h : RdAt b r w) (s : ByteArray) : RdAt b { r with rest:=s } (w.setCell ⟨b,0,none⟩ (.string s)):=heap_setCell_same w b 0 _ _ _ h
theorem RdAt.set1 {b : Nat} {r : RS} {w : World} (h : RdAt b r w) (n : Nat) : RdAt b { r with nodes:=n } (w.setCell ⟨b,1,none⟩ (.int .i64 n)):=heap_setCell_same w b 1 _ _ _ h
theorem RdAt.set2 {b : Nat} {r : RS} {w : World} (h : RdAt b r w) (q : Bool) : RdAt b { r with bad:=q } (w.setCell ⟨b,2,none⟩ (.bool q)):=heap_setCell_same w b 2 _ _ _ h
theorem RdAt.lt {b : Nat} {r : RS} {w : World} (h : RdAt b r w) : b < w.heap.size:=(Jg h).1
end Go.Proofs.YtelombedjkbckaaGreatDoor
namespace Go.Proofs.YtelombedjkbckaaGreatDoor
set_option maxRecDepth 100000
set_option maxHeartbeats 2000000
open Go.RowKit Go.Shelf
theorem same_back {P : Program} {f : FuncId} {args : Array Value} {w : World} {e0 : Ending} (h : Calls P f args w fun e w' => e = e0 ∧ w' = w) : Calls P f args w fun e w' => e = e0 ∧ w = w':=h.mono fun _ _ h => ⟨h.1,h.2.symm⟩
theorem skip_c (b : Nat) (r : RS) (p : ByteArray) (w : World) (h : RdAt b r w) :
 Calls Tryz.prog 137 #[.pointer (some ⟨b,0,none⟩),.string p] w fun e w' => e = .returned (.tuple #[]) ∧ RdTo b (r.skip p.data.toList) w w':=by
 obtain ⟨s,k,bd⟩:=r
 have hC:=fun w => same_back (Tryz.strings_CutPrefix s p w)
 unfold RS.skip
 dsimp only
 obtain ⟨c0,c1,c2,z0,z1,z2⟩:=h.cells
 dsimp only at c0 c1 c2
 generalize (⟨(Lib.trimPrefix s.data.toList p.data.toList).toArray⟩ : ByteArray) = s' at *
 generalize Lib.hasPrefix s.data.toList p.data.toList = q at *
 have HC:=Jh hC
 have H:=Jh h
 clear hC h
 cases q
 · go_enter Tryz.func137,Tryz.ntmps137
   go_wp2_with (go_at_call 79; refine (HC.out _).mono ?_; rintro e w' ⟨rfl,rfl⟩)
   go_end0
   refine ⟨rfl,?_,grown_trans (grown_set _ _ _ _) (grown_set _ _ _ _)⟩
   have:=(H.out.set2 true).set0 s'
   simpa using this
 · go_enter Tryz.func137,Tryz.ntmps137
   go_wp2_with (go_at_call 79; refine (HC.out _).mono ?_; rintro e w' ⟨rfl,rfl⟩)
   go_end0
   refine ⟨rfl,?_,grown_set _ _ _ _⟩
   have:=H.out.set0 s'
   simpa using this
theorem atoi_some (s : ByteArray) (hs : s.size ≤ 1048576) (v : Int) (h : Lib.atoiAll s.data.toList = .ok v) (w : World) :
 Calls Tryz.prog 157 #[.string s] w fun e w' => e = .returned (.tuple #[.int .i64 v,.nilIface]) ∧ Below w.heap.size w w':=by
 refine (Tryz.strconv_Atoi_ok s (by omega) v h w).mono ?_
 rintro e w' ⟨rfl,rfl | ⟨t,rfl⟩⟩
 · exact ⟨rfl,Below.refl _ _⟩
 · exact ⟨rfl,Lib.bytesWorld_below _ _ _⟩
theorem atoi_none (s : ByteArray) (hs : s.size ≤ 1048576) (h : ∀ v, Lib.atoiAll s.data.toList ≠ .ok v) (w : World) (he : ErrC w) :
 Calls Tryz.prog 157 #[.string s] w fun e w' => ∃ n T N,e = .returned (.tuple #[.int .i64 n,.iface T (.pointer (some ⟨N,0,none⟩))]) ∧ Below w.heap.size w w':=by
 obtain ⟨⟨e1,h1,k1⟩,⟨e2,h2,k2⟩⟩:=he
 cases ha : Lib.atoiAll s.data.toList with
 | ok v => exact absurd ha (h v)
 | range =>
  refine (Any.strconv_Atoi_range Tryz.laysC172 s (by omega) ha e2 w h2 k2).mono ?_
  rintro e w' ⟨N,rfl,_,_,hb⟩
  exact ⟨_,_,N,rfl,hb⟩
 | _ =>
  refine (Any.strconv_Atoi_syntax Tryz.laysC172 s (by omega) ha e1 w h1 k1).mono ?_
  rintro e w' ⟨N,rfl,_,_,hb⟩
  exact ⟨_,_,N,rfl,hb⟩
theorem number_c (b : Nat) (r : RS) (w : World) (h : RdAt b r w) (he : ErrC w) (hs : r.rest.size ≤ 1048576) :
 Calls Tryz.prog 139 #[.pointer (some ⟨b,0,none⟩)] w fun e w' => e = .returned (.int .i64 r.number.1) ∧ RdTo b r.number.2 w w':=by
 obtain ⟨s,k,bd⟩:=r
 dsimp only at hs
 have hP:=fun w => Tryz.strings_HasPrefix s ⟨#[45]⟩ w
 obtain ⟨n,hn⟩ : ∃ n,n = numEnd s:=⟨_,rfl⟩
 have hnl:=numEnd_le s
 have hD : ∀ j,j ≤ s.size → ∀ w,Calls Tryz.prog 154 #[.string (s.extract j s.size)] w fun e w' => e = .returned (.int .i64 (runOf isDig s j)) ∧ w = w':=fun j hj w => by
  have:=digitsOf_any (s.extract j s.size) (by simp; omega) w
  rwa [runOf_extract] at this
 have hA1:=fun v hv w => atoi_some (s.extract 0 n) (by simp; omega) v hv w
 have hA2:=fun hv w he => atoi_none (s.extract 0 n) (by simp; omega) hv w he
 have hnum : RS.number ⟨s,k,bd⟩ = match numOf s with | some v => (v,⟨s.extract n s.size,k,bd⟩) | none => (0,⟨s,k,true⟩):=by rw [hn]; rfl
 have hof : numOf s = match Lib.atoiAll (s.extract 0 n).data.toList with | .ok v => some v | _ => none:=by rw [hn]; rfl
 rw [← hn] at hnl
 obtain ⟨c0,c1,c2,z0,z1,z2⟩:=h.cells
 dsimp only at c0 c1 c2
 have hs2 : (s.size : Int) ≤ 1048576:=by omega
 have key : ∀ (o : Option Int),numOf s = o → Hid (∀ w,ErrC w → Calls Tryz.prog 157 #[.string (s.extract 0 n)] w fun e w' => ∃ v err,e = .returned (.tuple #[.int .i64 v,err]) ∧ (match o with | some x => v = x ∧ err = .nilIface | none => ∃ T N,err = .iface T (.pointer (some ⟨N,0,none⟩))) ∧ Below w.heap.size w w'):=by
  intro o ho
  refine Jh (fun w he => ?_)
  rw [hof] at ho
  cases hx : Lib.atoiAll (s.extract 0 n).data.toList with
  | ok v =>
   rw [hx] at ho
   subst ho
   refine (hA1 v hx w).mono ?_
   rintro e w' ⟨rfl,hb⟩
   exact ⟨v,.nilIface,rfl,⟨rfl,rfl⟩,hb⟩
  | _ =>
   rw [hx] at ho
   subst ho
   refine (hA2 (fun v hv => by rw [hx] at hv; cases hv) w he).mono ?_
   rintro e w' ⟨v,T,N,rfl,hb⟩
   exact ⟨v,_,rfl,⟨T,N,rfl⟩,hb⟩
 obtain ⟨o,ho⟩ : ∃ o,numOf s = o:=⟨_,rfl⟩
 have HK:=key o ho
 rw [hnum,ho]
 have H:=Jh h
 have HE:=Jh he
 have HN:=Jh hn
 have HD:=Jh hD
 clear hnum hof hA1 hA2 key ho h he hn hD
 by_cases hp : Lib.hasPrefix s.data.toList [45] = true
 · have hn1 : n = 1 + runOf isDig s 1:=by rw [HN.out]; unfold numEnd; rw [if_pos hp]
   have hP1 : ∀ w,Calls Tryz.prog 156 #[.string s,.string ⟨#[45]⟩] w fun e w' => e = .returned (.bool true) ∧ w = w':=fun w => (hP w).mono (fun _ _ hh => ⟨by rw [hh.1]; exact ret_bool hp,hh.2.symm⟩)
   have hd1:=HD.out 1 (by omega)
   obtain ⟨d,hd⟩ : ∃ d,runOf isDig s 1 = d:=⟨_,rfl⟩
   rw [hd] at hn1 hd1
   subst hn1
   have HP:=Jh hP1
   have HD1:=Jh hd1
   have hs1 : (1 : Int) ≤ (s.size : Int):=by omega
   have hdl : (1 : Int) + (d : Int) ≤ (s.size : Int):=by omega
   clear hP hp hP1 hd1 hd HN HD
   cases o with
   | none =>
    go_enter Tryz.func139,Tryz.ntmps139
    go_wp2_with (first | (go_at_call 156; refine (HP.out _).mono ?_; rintro e w' ⟨rfl,rfl⟩) | (go_at_call 154; refine (HD1.out _).mono ?_; rintro e w' ⟨rfl,rfl⟩) | fail)
    refine (HK.out _ HE.out).mono ?_
    rintro e w2 ⟨v,err,rfl,⟨T,N,rfl⟩,hbe⟩
    have H2:=Jh (H.out.below hbe)
    obtain ⟨c0',c1',c2',z0',z1',z2'⟩:=H2.out.cells
    dsimp only at c0' c1' c2'
    have HB2:=Jh hbe
    clear hbe
    go_wp2
    go_ret
    exact ⟨rfl,H2.out.set2 true,grown_trans (grown_below b HB2.out) (grown_set _ _ _ _)⟩
   | some v =>
    go_enter Tryz.func139,Tryz.ntmps139
    go_wp2_with (first | (go_at_call 156; refine (HP.out _).mono ?_; rintro e w' ⟨rfl,rfl⟩) | (go_at_call 154; refine (HD1.out _).mono ?_; rintro e w' ⟨rfl,rfl⟩) | fail)
    refine (HK.out _ HE.out).mono ?_
    rintro e w2 ⟨v',err,rfl,⟨rfl,rfl⟩,hbe⟩
    have H2:=Jh (H.out.below hbe)
    obtain ⟨c0',c1',c2',z0',z1',z2'⟩:=H2.out.cells
    dsimp only at c0' c1' c2'
    have HB2:=Jh hbe
    clear hbe
    go_wp2
    go_ret
    exact ⟨rfl,H2.out.set0 _,grown_trans (grown_below b HB2.out) (grown_set _ _ _ _)⟩
 · have hn1 : n = runOf isDig s 0:=by rw [HN.out]; unfold numEnd; rw [if_neg hp]
   have hp' : Lib.hasPrefix s.data.toList [45] = false:=by simpa using hp
   have hP1 : ∀ w,Calls Tryz.prog 156 #[.string s,.string ⟨#[45]⟩] w fun e w' => e = .returned (.bool false) ∧ w = w':=fun w => (hP w).mono (fun _ _ hh => ⟨by rw [hh.1]; exact ret_bool hp',hh.2.symm⟩)
   have hd1:=HD.out 0 (by omega)
   rw [← hn1] at hd1
   have hd0:=fun w => digitsOf_any s (by omega) w
   rw [← hn1] at hd0
   have HD0:=Jh hd0
   have HP:=Jh hP1
   have HD1:=Jh hd1
   have hdl : (n : Int) ≤ (s.size : Int):=by omega
   clear hP hp hp' hP1 hd1 hd0 hn1 HN HD
   cases o with
   | none =>
    go_enter Tryz.func139,Tryz.ntmps139
    go_wp2_with (first | (go_at_call 156; refine (HP.out _).mono ?_; rintro e w' ⟨rfl,rfl⟩) | (go_at_call 154; (first | (with_reducible refine (HD0.out _).mono ?_) | (with_reducible refine (HD1.out _).mono ?_)); rintro e w' ⟨rfl,rfl⟩) | fail)
    refine (HK.out _ HE.out).mono ?_
    rintro e w2 ⟨v,err,rfl,⟨T,N,rfl⟩,hbe⟩
    have H2:=Jh (H.out.below hbe)
    obtain ⟨c0',c1',c2',z0',z1',z2'⟩:=H2.out.cells
    dsimp only at c0' c1' c2'
    have HB2:=Jh hbe
    clear hbe
    go_wp2
    go_ret
    exact ⟨rfl,H2.out.set2 true,grown_trans (grown_below b HB2.out) (grown_set _ _ _ _)⟩
   | some v =>
    go_enter Tryz.func139,Tryz.ntmps139
    go_wp2_with (first | (go_at_call 156; refine (HP.out _).mono ?_; rintro e w' ⟨rfl,rfl⟩) | (go_at_call 154; (first | (with_reducible refine (HD0.out _).mono ?_) | (with_reducible refine (HD1.out _).mono ?_)); rintro e w' ⟨rfl,rfl⟩) | fail)
    refine (HK.out _ HE.out).mono ?_
    rintro e w2 ⟨v',err,rfl,⟨rfl,rfl⟩,hbe⟩
    have H2:=Jh (H.out.below hbe)
    obtain ⟨c0',c1',c2',z0',z1',z2'⟩:=H2.out.cells
    dsimp only at c0' c1' c2'
    have HB2:=Jh hbe
    clear hbe
    go_wp2
    go_ret
    exact ⟨rfl,H2.out.set0 _,grown_trans (grown_below b HB2.out) (grown_set _ _ _ _)⟩
end Go.Proofs.YtelombedjkbckaaGreatDoor
namespace Go.Proofs.YtelombedjkbckaaGreatDoor
set_option maxRecDepth 100000
set_option maxHeartbeats 2000000
open Go.RowKit Go.Shelf
theorem RdAt.other {b : Nat} {r : RS} {w : World} (h : RdAt b r w) {p : Addr} (hne : b ≠ p.block) (v : Value) : RdAt b r (w.setCell p v):=(Below.heap_setCell w p v b hne).trans h
theorem grown_far {w w1 : World} {b : Nat} (h : w.grownBy w1 (some b)) {p : Addr} (hp : w.heap.size ≤ p.block) (v : Value) : w.grownBy (w1.setCell p v) (some b) :=
 ⟨h.os,h.tape,h.output,by simpa using h.size,fun k hk hne => (Below.heap_setCell w1 p v k (by omega)).trans (h.block k hk hne)⟩
theorem grown_row {w w1 : World} {b g : Nat} (h : w.grownBy w1 (some b)) (hp : w.heap.size ≤ g) (cs : Array Value) : w.grownBy (w1.setRow g cs) (some b) :=
 ⟨h.os,h.tape,h.output,by simpa using h.size,fun k hk hne => (heap_setRow_other w1 g cs k (by omega)).trans (h.block k hk hne)⟩
theorem RdAt.row {b g : Nat} {r : RS} {w : World} (h : RdAt b r w) (hne : b ≠ g) (cs : Array Value) : RdAt b r (w.setRow g cs):=(heap_setRow_other w g cs b hne).trans h
theorem kept_ {w w' : World} {b k : Nat} {o : Obj} (h : w.heap[k]? = some o) (hg : w.grownBy w' (some b)) (hne : k ≠ b) : w'.heap[k]? = some o :=
 (hg.block k (Jg h).1 (fun e => by injection e with e; exact hne e)).trans h
theorem undId : Tryz.prog.underlying 28 = some (.struct (Tryz.prog.fieldsOf 28)):=by kernel_rfl
theorem infId : (Tryz.prog.info? 28).map (·.size) = some 2:=by kernel_rfl
theorem id_c (b : Nat) (r : RS) (w : World) (h : RdAt b r w) (he : ErrC w) (hb : 3 ≤ b) (hs : r.rest.size ≤ 1048576) :
 Calls Tryz.prog 155 #[.pointer (some ⟨b,0,none⟩)] w fun e w' => e = .returned (.agg #[.int .i64 r.id.1.1,.int .i64 r.id.1.2]) ∧ RdTo b r.id.2 w w':=by
 obtain ⟨w0,hw0⟩ : ∃ w0,w0 = w.alloc (.cells #[.int .i64 0,.int .i64 0] 28):=⟨_,rfl⟩
 have hb0 : Below w.heap.size w w0:=by rw [hw0]; exact (Below.refl _ w).alloc (Nat.le_refl _) _
 have hk0 : w0.heap[w.heap.size]? = some (.cells #[.int .i64 0,.int .i64 0] 28):=by rw [hw0]; exact heap_alloc_new _ _
 have hbl:=h.lt
 have hg0 : w.grownBy w0 (some b):=grown_below b hb0
 have h0:=h.below hb0
 have he0:=he.below hb0
 have l1:=number_le r
 have l2:=skip_le [46] r.number.2
 have C1:=number_c b r w0 h0 he0 hs
 have hr : r.id = ((r.number.1,(r.number.2.skip [46]).number.1),(r.number.2.skip [46]).number.2):=rfl
 rw [hr]
 clear hr
 generalize r.number = q1 at *
 obtain ⟨n1,q1⟩:=q1
 dsimp only at l1 l2 C1 ⊢
 have C2:=fun (w1 : World) (h1 : RdAt b q1 w1) => skip_c b q1 ⟨#[46]⟩ w1 h1
 have C3:=fun (w2 : World) (h2 : RdAt b (q1.skip [46]) w2) (e2 : ErrC w2) => number_c b (q1.skip [46]) w2 h2 e2 (by omega)
 change ∀ (w1 : World),RdAt b q1 w1 → Calls Tryz.prog 137 #[.pointer (some ⟨b,0,none⟩),.string ⟨#[46]⟩] w1 fun e w' => e = .returned (.tuple #[]) ∧ RdTo b (q1.skip [46]) w1 w' at C2
 generalize q1.skip [46] = q2 at *
 generalize q2.number = q3 at *
 obtain ⟨n3,q3⟩:=q3
 dsimp only at C3 ⊢
 have HC1:=Jh C1
 have HC2:=Jh C2
 have HC3:=Jh C3
 have HW0:=Jh hw0
 have HK0:=Jh hk0
 have HG0:=Jh hg0
 have HE0:=Jh he0
 clear C1 C2 C3 hw0 hk0 hg0 h0 he0 hb0 h he l1 l2 hs
 go_enter Tryz.func155,Tryz.ntmps155
 go_wp2_with (fail)
 rw [← HW0.out]
 refine HC1.out.mono ?_
 rintro e w1 ⟨rfl,h1,g1⟩
 have H1:=Jh h1
 have G1:=Jh g1
 clear h1 g1
 go_wp2_with (fail)
 refine (HC2.out _ H1.out).mono ?_
 rintro e w2 ⟨rfl,h2,g2⟩
 have H2:=Jh h2
 have G2:=Jh g2
 clear h2 g2
 go_wp2_with (fail)
 refine (HC3.out _ H2.out ((HE0.out.keep G1.out hb).keep G2.out hb)).mono ?_
 rintro e w3 ⟨rfl,h3,g3⟩
 have hk3:=kept_ (kept_ (kept_ HK0.out G1.out (by omega)) G2.out (by omega)) g3 (by omega)
 have H3:=Jh h3
 have G3:=Jh g3
 clear h3 g3
 have HK3:=Jh hk3
 clear hk3
 go_wp2_with (refine wpList_store_row rfl 28 _ _ rfl w.heap.size #[.int .i64 n1,.int .i64 n3] rfl rfl 28 #[.int .i64 0,.int .i64 0] HK3.out infId rfl (by simp [Value.oneCell']) ?_)
 refine bodyPost_ret (v:=.agg #[.int .i64 n1,.int .i64 n3]) (results_cell_row rfl _ _ w.heap.size 28 _ (0,0) _ rfl (setRow_heap _ _ _ _ _ _ HK3.out) undId rfl infId) rfl ?_
 exact ⟨rfl,H3.out.row (by omega) _,grown_row (grown_trans (grown_trans (grown_trans HG0.out G1.out) G2.out) G3.out) (Nat.le_refl _) _⟩
theorem sign_c (b : Nat) (r : RS) (w : World) (h : RdAt b r w) (hs : r.rest.size ≤ 1048576) :
 Calls Tryz.prog 140 #[.pointer (some ⟨b,0,none⟩)] w fun e w' => e = .returned (.string r.sign.1) ∧ RdTo b r.sign.2 w w':=by
 obtain ⟨s,k,bd⟩:=r
 dsimp only at hs
 have hC:=fun w => same_back (Tryz.strings_IndexByte s 59 w)
 have hb1 : -1 ≤ Lib.indexByte s.data.toList 59 ∧ Lib.indexByte s.data.toList 59 ≤ s.size:=by
  have key : ∀ l : List UInt8,-1 ≤ Lib.indexByte l 59 ∧ Lib.indexByte l 59 ≤ l.length:=by
   intro l
   induction l with
   | nil => simp [Lib.indexByte]
   | cons a l ih =>
    simp only [Lib.indexByte,List.length_cons]
    split
    · omega
    · split
      · omega
      · omega
  have:=key s.data.toList
  rwa [show s.data.toList.length = s.size by simp] at this
 obtain ⟨c0,c1,c2,z0,z1,z2⟩:=h.cells
 dsimp only at c0 c1 c2
 unfold RS.sign
 dsimp only
 change ∀ w,Calls Tryz.prog 158 #[.string s,.int .u8 59] w fun e w' => e = .returned (.int .i64 (Lib.indexByte s.data.toList 59)) ∧ w = w' at hC
 generalize Lib.indexByte s.data.toList 59 = i at *
 have HC:=Jh hC
 have H:=Jh h
 clear hC h
 by_cases hi : i < 0
 · rw [if_pos hi]
   go_enter Tryz.func140,Tryz.ntmps140
   go_wp2_with (go_at_call 158; refine (HC.out _).mono ?_; rintro e w' ⟨rfl,rfl⟩)
   go_ret
   exact ⟨rfl,H.out.set2 true,grown_set _ _ _ _⟩
 · rw [if_neg hi]
   obtain ⟨j,rfl⟩ : ∃ j : Nat,i = j:=⟨i.toNat,by omega⟩
   have hj : (j : Int) ≤ (s.size : Int):=hb1.2
   clear hb1
   go_enter Tryz.func140,Tryz.ntmps140
   go_wp2_with (go_at_call 158; refine (HC.out _).mono ?_; rintro e w' ⟨rfl,rfl⟩)
   go_ret
   exact ⟨rfl,H.out.set0 _,grown_set _ _ _ _⟩
theorem sized_c (b : Nat) (r : RS) (w : World) (h : RdAt b r w) (he : ErrC w) (hs : r.rest.size ≤ 1048576) :
 Calls Tryz.prog 138 #[.pointer (some ⟨b,0,none⟩)] w fun e w' => e = .returned (.string r.sized.1) ∧ RdTo b r.sized.2 w w':=by
 have l1:=number_le r
 have hi:=number_i64 r
 have C1:=number_c b r w h he hs
 unfold RS.sized
 dsimp only
 generalize r.number = q1 at *
 obtain ⟨n,q1⟩:=q1
 dsimp only at l1 hi C1 ⊢
 have C2:=fun (w1 : World) (h1 : RdAt b q1 w1) => skip_c b q1 ⟨#[58]⟩ w1 h1
 have l2:=skip_le [58] q1
 change ∀ (w1 : World),RdAt b q1 w1 → Calls Tryz.prog 137 #[.pointer (some ⟨b,0,none⟩),.string ⟨#[58]⟩] w1 fun e w' => e = .returned (.tuple #[]) ∧ RdTo b (q1.skip [58]) w1 w' at C2
 generalize q1.skip [58] = q2 at *
 obtain ⟨s,k,bd⟩:=q2
 dsimp only at l2 ⊢
 have HC1:=Jh C1
 have HC2:=Jh C2
 have hsz : (s.size : Int) ≤ 1048576:=by omega
 obtain ⟨hi1,hi2⟩:=hi
 clear C1 C2 h he l1 l2 hs
 have fin : ∀ (w1 w2 : World),RdTo b q1 w w1 → RdTo b ⟨s,k,bd⟩ w1 w2 → Hid (RdAt b ⟨s,k,bd⟩ w2) ∧ Hid (w.grownBy w2 (some b)):=fun w1 w2 h1 h2 => ⟨Jh h2.1,Jh (grown_trans h1.2 h2.2)⟩
 have FIN:=Jh fin
 clear fin
 cases bd
 case true =>
  rw [if_pos (.inl rfl)]
  go_enter Tryz.func138,Tryz.ntmps138
  go_wp2_with (fail)
  refine HC1.out.mono ?_
  rintro e w1 ⟨rfl,h1⟩
  have H1:=Jh h1
  clear h1
  go_wp2_with (fail)
  refine (HC2.out _ H1.out.1).mono ?_
  rintro e w2 ⟨rfl,h2⟩
  obtain ⟨H2,G2⟩:=FIN.out w1 w2 H1.out h2
  clear h2
  obtain ⟨c0,c1,c2,z0,z1,z2⟩:=H2.out.cells
  dsimp only at c0 c1 c2
  go_wp2
  go_ret
  exact ⟨rfl,H2.out.set2 true,grown_trans G2.out (grown_set _ _ _ _)⟩
 by_cases c1 : n < 0
 · rw [if_pos (.inr (.inl c1))]
   go_enter Tryz.func138,Tryz.ntmps138
   go_wp2_with (fail)
   refine HC1.out.mono ?_
   rintro e w1 ⟨rfl,h1⟩
   have H1:=Jh h1
   clear h1
   go_wp2_with (fail)
   refine (HC2.out _ H1.out.1).mono ?_
   rintro e w2 ⟨rfl,h2⟩
   obtain ⟨H2,G2⟩:=FIN.out w1 w2 H1.out h2
   clear h2
   obtain ⟨c0,c1,c2,z0,z1,z2⟩:=H2.out.cells
   dsimp only at c0 c1 c2
   go_wp2
   go_ret
   exact ⟨rfl,H2.out.set2 true,grown_trans G2.out (grown_set _ _ _ _)⟩
 obtain ⟨j,rfl⟩ : ∃ j : Nat,n = j:=⟨n.toNat,by omega⟩
 by_cases c2 : (s.size : Int) < j
 · rw [if_pos (.inr (.inr c2))]
   go_enter Tryz.func138,Tryz.ntmps138
   go_wp2_with (fail)
   refine HC1.out.mono ?_
   rintro e w1 ⟨rfl,h1⟩
   have H1:=Jh h1
   clear h1
   go_wp2_with (fail)
   refine (HC2.out _ H1.out.1).mono ?_
   rintro e w2 ⟨rfl,h2⟩
   obtain ⟨H2,G2⟩:=FIN.out w1 w2 H1.out h2
   clear h2
   obtain ⟨c0,c1,c2,z0,z1,z2⟩:=H2.out.cells
   dsimp only at c0 c1 c2
   go_wp2
   go_ret
   exact ⟨rfl,H2.out.set2 true,grown_trans G2.out (grown_set _ _ _ _)⟩
 · rw [if_neg (by simp; omega)]
   have c3 : (j : Int) ≤ (s.size : Int):=by omega
   clear c1 c2
   go_enter Tryz.func138,Tryz.ntmps138
   go_wp2_with (fail)
   refine HC1.out.mono ?_
   rintro e w1 ⟨rfl,h1⟩
   have H1:=Jh h1
   clear h1
   go_wp2_with (fail)
   refine (HC2.out _ H1.out.1).mono ?_
   rintro e w2 ⟨rfl,h2⟩
   obtain ⟨H2,G2⟩:=FIN.out w1 w2 H1.out h2
   clear h2
   obtain ⟨c0,c1,c2,z0,z1,z2⟩:=H2.out.cells
   dsimp only at c0 c1 c2
   go_wp2
   go_ret
   exact ⟨rfl,H2.out.set0 _,grown_trans G2.out (grown_set _ _ _ _)⟩
end Go.Proofs.YtelombedjkbckaaGreatDoor
namespace Go.Proofs.YtelombedjkbckaaGreatDoor
set_option maxRecDepth 100000
set_option maxHeartbeats 4000000
open Go.RowKit Go.Shelf
def fixB (f k : Int) : Bool:=bits BinOp.and IntKind.i64 f k != 0
def RS.corner (r : RS) : Cn × RS :=
 let r1:=r.id
 let r3:=(r1.2.skip [44]).id
 let r5:=(r3.2.skip [44]).number
 (⟨r1.1.1,r1.1.2,r3.1.1,r3.1.2,fixB r5.1 1,fixB r5.1 2⟩,r5.2)
theorem rid_le (r : RS) : r.id.2.rest.size ≤ r.rest.size:=by
 have h1:=number_le r
 have h2:=skip_le [46] r.number.2
 have h3:=number_le (r.number.2.skip [46])
 simp only [RS.id]
 omega
theorem cells6 {w : World} {g : Nat} {v0 v1 v2 v3 v4 v5 : Value} {T : TypeId} (h : w.heap[g]? = some (.cells #[v0, v1, v2, v3, v4, v5] T)) :
 (w.cell? ⟨g,0,none⟩ = some v0 ∧ w.cell? ⟨g,1,none⟩ = some v1 ∧ w.cell? ⟨g,2,none⟩ = some v2 ∧ w.cell? ⟨g,3,none⟩ = some v3 ∧ w.cell? ⟨g,4,none⟩ = some v4 ∧ w.cell? ⟨g,5,none⟩ = some v5) ∧ ∀ o,w.frozen? ⟨g,o,none⟩ = false:=by
 refine ⟨⟨?_,?_,?_,?_,?_,?_⟩,fun o => by simp [World.frozen?,h]⟩ <;> (rw [Lib.cell_of_heap h]; rfl)
theorem undCn : Tryz.prog.underlying 36 = some (.struct (Tryz.prog.fieldsOf 36)):=by kernel_rfl
theorem infCn : (Tryz.prog.info? 36).map (·.size) = some 6:=by kernel_rfl
theorem corner_c (b : Nat) (r : RS) (w : World) (h : RdAt b r w) (he : ErrC w) (hb : 3 ≤ b) (hs : r.rest.size ≤ 1048576) :
 Calls Tryz.prog 136 #[.pointer (some ⟨b,0,none⟩)] w fun e w' => e = .returned (.agg #[.int .i64 r.corner.1.ra,.int .i64 r.corner.1.rn,.int .i64 r.corner.1.ca,.int .i64 r.corner.1.cn,.bool r.corner.1.fr,.bool r.corner.1.fc]) ∧ RdTo b r.corner.2 w w':=by
 obtain ⟨w0,hw0⟩ : ∃ w0,w0 = (w.alloc (.cells #[.int .i64 0,.int .i64 0,.int .i64 0,.int .i64 0,.bool false,.bool false] 36)).alloc (.cells #[.int .i64 0,.int .i64 0,.int .i64 0,.int .i64 0,.bool false,.bool false] 36):=⟨_,rfl⟩
 have hb0 : Below w.heap.size w w0:=by rw [hw0]; exact ((Below.refl _ w).alloc (Nat.le_refl _) _).alloc (by simp) _
 have hk0 : w0.heap[w.heap.size]? = some (.cells #[.int .i64 0,.int .i64 0,.int .i64 0,.int .i64 0,.bool false,.bool false] 36):=by rw [hw0]; exact (heapOld _ _ _ (by simp)).trans (heap_alloc_new _ _)
 have hc0 : w0.heap[w.heap.size + 1]? = some (.cells #[.int .i64 0,.int .i64 0,.int .i64 0,.int .i64 0,.bool false,.bool false] 36):=by rw [hw0]; exact heap_new1 w _ _
 have hbl:=h.lt
 have hg0 : w.grownBy w0 (some b):=grown_below b hb0
 have h0:=h.below hb0
 have he0:=he.below hb0
 have l1:=rid_le r
 have C1:=id_c b r w0 h0 he0 hb hs
 unfold RS.corner
 dsimp only
 generalize r.id = q1 at *
 obtain ⟨⟨i1,i2⟩,q1⟩:=q1
 dsimp only at l1 C1 ⊢
 have l2:=skip_le [44] q1
 have C2 : ∀ (w1 : World),RdAt b q1 w1 → Calls Tryz.prog 137 #[.pointer (some ⟨b,0,none⟩),.string ⟨#[44]⟩] w1 fun e w' => e = .returned (.tuple #[]) ∧ RdTo b (q1.skip [44]) w1 w':=fun (w1 : World) (h1 : RdAt b q1 w1) => skip_c b q1 ⟨#[44]⟩ w1 h1
 generalize q1.skip [44] = q2 at *
 have l3:=rid_le q2
 have C3:=fun (w2 : World) (h2 : RdAt b q2 w2) (e2 : ErrC w2) => id_c b q2 w2 h2 e2 hb (by omega)
 generalize q2.id = q3 at *
 obtain ⟨⟨i3,i4⟩,q3⟩:=q3
 dsimp only at l3 C3 ⊢
 have l4:=skip_le [44] q3
 have C4 : ∀ (w1 : World),RdAt b q3 w1 → Calls Tryz.prog 137 #[.pointer (some ⟨b,0,none⟩),.string ⟨#[44]⟩] w1 fun e w' => e = .returned (.tuple #[]) ∧ RdTo b (q3.skip [44]) w1 w':=fun (w1 : World) (h1 : RdAt b q3 w1) => skip_c b q3 ⟨#[44]⟩ w1 h1
 generalize q3.skip [44] = q4 at *
 have C5:=fun (w2 : World) (h2 : RdAt b q4 w2) (e2 : ErrC w2) => number_c b q4 w2 h2 e2 (by omega)
 generalize q4.number = q5 at *
 obtain ⟨f,q5⟩:=q5
 dsimp only at C5 ⊢
 obtain ⟨f1,hf1⟩ : ∃ x,fixB f 1 = x:=⟨_,rfl⟩
 obtain ⟨f2,hf2⟩ : ∃ x,fixB f 2 = x:=⟨_,rfl⟩
 rw [hf1,hf2]
 unfold fixB at hf1 hf2
 have HC1:=Jh C1
 have HC2:=Jh C2
 have HC3:=Jh C3
 have HC4:=Jh C4
 have HC5:=Jh C5
 have HW0:=Jh hw0
 have HK0:=Jh hk0
 have HC0:=Jh hc0
 have HG0:=Jh hg0
 have HEW:=Jh he
 have HF1:=Jh hf1
 have HF2:=Jh hf2
 clear C1 C2 C3 C4 C5 hw0 hk0 hc0 hg0 h0 he0 hb0 h he l1 l2 l3 l4 hs hf1 hf2
 go_enter Tryz.func136,Tryz.ntmps136
 go_wp2_with (fail)
 rw [← HW0.out]
 refine HC1.out.mono ?_
 rintro e w1 ⟨rfl,h1,g1⟩
 have hx1:=kept_ HC0.out g1 (by omega)
 have HK1:=Jh (kept_ HK0.out g1 (by omega))
 have HG1:=Jh (grown_trans HG0.out g1)
 have H1:=Jh h1
 obtain ⟨⟨x0,x1,-,-,-,-⟩,xf⟩:=cells6 hx1
 have xf0:=xf 0
 have xf1:=xf 1
 have HX1:=Jh hx1
 clear h1 g1 hx1 xf
 go_wp2_with (fail)
 refine (HC2.out _ ((H1.out.other (by simp; omega) _).other (by simp; omega) _)).mono ?_
 rintro e w2 ⟨rfl,h2,g2⟩
 have HX2:=Jh (kept_ (heap_setCell_same _ _ 1 _ _ _ (heap_setCell_same _ _ 0 _ _ _ HX1.out)) g2 (by omega))
 have HK2:=Jh (kept_ ((Below.heap_setCell _ _ _ _ (by simp)).trans ((Below.heap_setCell _ _ _ _ (by simp)).trans HK1.out)) g2 (by omega))
 have HG2:=Jh (grown_trans (grown_far (grown_far HG1.out (p:=⟨w.heap.size + 1,0,none⟩) (by simp) _) (p:=⟨w.heap.size + 1,1,none⟩) (by simp) _) g2)
 have H2:=Jh h2
 clear h2 g2 x0 x1 xf0 xf1
 go_wp2_with (fail)
 refine (HC3.out _ H2.out (HEW.out.keep HG2.out hb)).mono ?_
 rintro e w3 ⟨rfl,h3,g3⟩
 have hx3:=kept_ HX2.out g3 (by omega)
 have HK3:=Jh (kept_ HK2.out g3 (by omega))
 have HG3:=Jh (grown_trans HG2.out g3)
 have H3:=Jh h3
 obtain ⟨⟨-,-,x2,x3,-,-⟩,xf⟩:=cells6 hx3
 have xf2:=xf 2
 have xf3:=xf 3
 have HX3:=Jh hx3
 clear h3 g3 hx3 xf
 go_wp2_with (fail)
 refine (HC4.out _ ((H3.out.other (by simp; omega) _).other (by simp; omega) _)).mono ?_
 rintro e w4 ⟨rfl,h4,g4⟩
 have HX4:=Jh (kept_ (heap_setCell_same _ _ 3 _ _ _ (heap_setCell_same _ _ 2 _ _ _ HX3.out)) g4 (by omega))
 have HK4:=Jh (kept_ ((Below.heap_setCell _ _ _ _ (by simp)).trans ((Below.heap_setCell _ _ _ _ (by simp)).trans HK3.out)) g4 (by omega))
 have HG4:=Jh (grown_trans (grown_far (grown_far HG3.out (p:=⟨w.heap.size + 1,2,none⟩) (by simp) _) (p:=⟨w.heap.size + 1,3,none⟩) (by simp) _) g4)
 have H4:=Jh h4
 clear h4 g4 x2 x3 xf2 xf3
 go_wp2_with (fail)
 refine (HC5.out _ H4.out (HEW.out.keep HG4.out hb)).mono ?_
 rintro e w5 ⟨rfl,h5,g5⟩
 have hx5:=kept_ HX4.out g5 (by omega)
 have HK5:=Jh (kept_ HK4.out g5 (by omega))
 have HG5:=Jh (grown_trans HG4.out g5)
 have H5:=Jh h5
 obtain ⟨⟨-,-,-,-,x4,x5⟩,xf⟩:=cells6 hx5
 have xf4:=xf 4
 have xf5:=xf 5
 have HX5:=Jh hx5
 clear h5 g5 hx5 xf
 have hf1:=HF1.out
 have hf2:=HF2.out
 obtain ⟨w6,hw6⟩ : ∃ w6,w6 = (w5.setCell ⟨w.heap.size + 1,4,none⟩ (.bool f1)).setCell ⟨w.heap.size + 1,5,none⟩ (.bool f2):=⟨_,rfl⟩
 have HX6:=Jh (show w6.heap[w.heap.size + 1]? = some (.cells #[.int .i64 i1,.int .i64 i2,.int .i64 i3,.int .i64 i4,.bool f1,.bool f2] 36) by rw [hw6]; exact heap_setCell_same _ _ 5 _ _ _ (heap_setCell_same _ _ 4 _ _ _ HX5.out))
 have HK6:=Jh (show w6.heap[w.heap.size]? = some (.cells #[.int .i64 0,.int .i64 0,.int .i64 0,.int .i64 0,.bool false,.bool false] 36) by rw [hw6]; exact (Below.heap_setCell _ _ _ _ (by simp)).trans ((Below.heap_setCell _ _ _ _ (by simp)).trans HK5.out))
 have HG6:=Jh (show w.grownBy w6 (some b) by rw [hw6]; exact grown_far (grown_far HG5.out (p:=⟨w.heap.size + 1,4,none⟩) (by simp) _) (p:=⟨w.heap.size + 1,5,none⟩) (by simp) _)
 have H6:=Jh (show RdAt b q5 w6 by rw [hw6]; exact (H5.out.other (by simp; omega) _).other (by simp; omega) _)
 have HW6:=Jh hw6
 clear hw6
 go_upto_region 8 with (fail)
 (try simp only [Act.put,List.setIfInBounds_toArray,List.set_cons_zero,List.set_cons_succ])
 rw [← HW6.out]
 clear x4 x5 xf4 xf5 hf1 hf2
 go_wp2_with (first | (refine wpList_row rfl 36 _ rfl (w.heap.size + 1) rfl 36 #[.int .i64 i1,.int .i64 i2,.int .i64 i3,.int .i64 i4,.bool f1,.bool f2] (0,0) _ HX6.out undCn rfl infCn ?_) | (refine wpList_store_row rfl 36 _ _ rfl w.heap.size #[.int .i64 i1,.int .i64 i2,.int .i64 i3,.int .i64 i4,.bool f1,.bool f2] rfl rfl 36 #[.int .i64 0,.int .i64 0,.int .i64 0,.int .i64 0,.bool false,.bool false] HK6.out infCn rfl (by simp [Value.oneCell']) ?_))
 refine bodyPost_ret (v:=.agg #[.int .i64 i1,.int .i64 i2,.int .i64 i3,.int .i64 i4,.bool f1,.bool f2]) (results_cell_row rfl _ _ w.heap.size 36 _ (0,0) _ rfl (setRow_heap _ _ _ _ _ _ HK6.out) undCn rfl infCn) rfl ?_
 exact ⟨rfl,H6.out.row (by omega) _,grown_row HG6.out (Nat.le_refl _) _⟩
end Go.Proofs.YtelombedjkbckaaGreatDoor
namespace Go.Proofs.YtelombedjkbckaaGreatDoor
set_option maxRecDepth 100000
set_option maxHeartbeats 4000000
open Go.RowKit Go.Shelf
def RS.value (c : Nat) (r : RS) : Vl × RS :=
 if c = 78 then (⟨1,r.number.1,(r.number.2.skip [101]).number.1,noBytes,false,0⟩,(r.number.2.skip [101]).number.2)
 else if c = 83 then (⟨2,0,0,r.sized.1,false,0⟩,r.sized.2)
 else if c = 84 then (⟨3,0,0,noBytes,true,0⟩,r)
 else if c = 70 then (⟨3,0,0,noBytes,false,0⟩,r)
 else if c = 69 then (⟨4,0,0,noBytes,false,r.number.1⟩,r.number.2)
 else (zeroV,{ r with bad:=true })
theorem value_N (b : Nat) (r : RS) (w : World) (h : RdAt b r w) (he : ErrC w) (hb : 3 ≤ b) (hs : r.rest.size ≤ 1048576) :
 Calls Tryz.prog 141 #[.pointer (some ⟨b,0,none⟩),.int .u8 78] w fun e w' => e = .returned (.agg #[.int .i64 1,.int .i64 r.number.1,.int .i64 (r.number.2.skip [101]).number.1,.string ⟨#[]⟩,.bool false,.int .i64 0]) ∧ RdTo b (r.number.2.skip [101]).number.2 w w':=by
 obtain ⟨w0,hw0⟩ : ∃ w0,w0 = (w.alloc (.cells #[.int .i64 0,.int .i64 0,.int .i64 0,.string ⟨#[]⟩,.bool false,.int .i64 0] 34)).alloc (.cells #[.int .i64 0,.int .i64 0,.int .i64 0,.string ⟨#[]⟩,.bool false,.int .i64 0] 34):=⟨_,rfl⟩
 have hb0 : Below w.heap.size w w0:=by rw [hw0]; exact ((Below.refl _ w).alloc (Nat.le_refl _) _).alloc (by simp) _
 have hk0 : w0.heap[w.heap.size]? = some (.cells #[.int .i64 0,.int .i64 0,.int .i64 0,.string ⟨#[]⟩,.bool false,.int .i64 0] 34):=by rw [hw0]; exact (heapOld _ _ _ (by simp)).trans (heap_alloc_new _ _)
 have hc0 : w0.heap[w.heap.size + 1]? = some (.cells #[.int .i64 0,.int .i64 0,.int .i64 0,.string ⟨#[]⟩,.bool false,.int .i64 0] 34):=by rw [hw0]; exact heap_new1 w _ _
 have hbl:=h.lt
 have hg0 : w.grownBy w0 (some b):=grown_below b hb0
 have h0:=h.below hb0
 have he0:=he.below hb0
 have HB3:=Jh hb
 have l1:=number_le r
 have C1 : ∀ (w1 : World),RdAt b r w1 → ErrC w1 → Calls Tryz.prog 139 #[.pointer (some ⟨b,0,none⟩)] w1 fun e w' => e = .returned (.int .i64 r.number.1) ∧ RdTo b r.number.2 w1 w':=fun w1 h1 e1 => number_c b r w1 h1 e1 hs
 generalize r.number = q1 at *
 obtain ⟨n1,q1⟩:=q1
 dsimp only at l1 C1 ⊢
 have l2:=skip_le [101] q1
 have C2 : ∀ (w1 : World),RdAt b q1 w1 → Calls Tryz.prog 137 #[.pointer (some ⟨b,0,none⟩),.string ⟨#[101]⟩] w1 fun e w' => e = .returned (.tuple #[]) ∧ RdTo b (q1.skip [101]) w1 w':=fun (w1 : World) (h1 : RdAt b q1 w1) => skip_c b q1 ⟨#[101]⟩ w1 h1
 generalize q1.skip [101] = q2 at *
 have C3:=fun (w2 : World) (h2 : RdAt b q2 w2) (e2 : ErrC w2) => number_c b q2 w2 h2 e2 (by omega)
 generalize q2.number = q3 at *
 obtain ⟨n3,q3⟩:=q3
 dsimp only at C3 ⊢
 have HC1:=Jh C1
 have HC2:=Jh C2
 have HC3:=Jh C3
 have H0:=Jh h0
 have HE0:=Jh he0
 clear C1 C2 C3 l1 l2
 have HW0:=Jh hw0
 have HK0:=Jh hk0
 have HC0:=Jh hc0
 have HG0:=Jh hg0
 have HEW:=Jh he
 clear hw0 hk0 hc0 hg0 h0 he0 hb0 h he hs
 go_enter Tryz.func141,Tryz.ntmps141
 go_upto_region 5 with (fail)
 (try simp only [Act.put,List.setIfInBounds_toArray,List.set_cons_zero,List.set_cons_succ])
 rw [← HW0.out]
 obtain ⟨⟨x0,-,-,-,-,-⟩,xf⟩:=cells6 HC0.out
 have xf0:=xf 0
 clear xf
 go_wp2_with (fail)
 refine (HC1.out _ (H0.out.other (by simp; omega) _) (HEW.out.keep (grown_far HG0.out (p:=⟨w.heap.size + 1,0,none⟩) (by simp) _) HB3.out)).mono ?_
 rintro e w1 ⟨rfl,h1,g1⟩
 have hx1:=kept_ (heap_setCell_same _ _ 0 _ _ _ HC0.out) g1 (by omega)
 have HK1:=Jh (kept_ ((Below.heap_setCell _ _ _ _ (by simp)).trans HK0.out) g1 (by omega))
 have HG1:=Jh (grown_trans (grown_far HG0.out (p:=⟨w.heap.size + 1,0,none⟩) (by simp) _) g1)
 have H1:=Jh h1
 obtain ⟨⟨-,x1,-,-,-,-⟩,xf⟩:=cells6 hx1
 have xf1:=xf 1
 have HX1:=Jh hx1
 clear h1 g1 hx1 xf x0 xf0
 go_wp2_with (fail)
 refine (HC2.out _ (H1.out.other (by simp; omega) _)).mono ?_
 rintro e w2 ⟨rfl,h2,g2⟩
 have HX2:=Jh (kept_ (heap_setCell_same _ _ 1 _ _ _ HX1.out) g2 (by omega))
 have HK2:=Jh (kept_ ((Below.heap_setCell _ _ _ _ (by simp)).trans HK1.out) g2 (by omega))
 have HG2:=Jh (grown_trans (grown_far HG1.out (p:=⟨w.heap.size + 1,1,none⟩) (by simp) _) g2)
 have H2:=Jh h2
 clear h2 g2 x1 xf1
 go_wp2_with (fail)
 refine (HC3.out _ H2.out (HEW.out.keep HG2.out HB3.out)).mono ?_
 rintro e w3 ⟨rfl,h3,g3⟩
 have hx3:=kept_ HX2.out g3 (by omega)
 have HK3:=Jh (kept_ HK2.out g3 (by omega))
 have HG3:=Jh (grown_trans HG2.out g3)
 have H3:=Jh h3
 obtain ⟨⟨-,-,x2,-,-,-⟩,xf⟩:=cells6 hx3
 have xf2:=xf 2
 obtain ⟨w4,hw4⟩ : ∃ w4,w4 = w3.setCell ⟨w.heap.size + 1,2,none⟩ (.int .i64 n3):=⟨_,rfl⟩
 have HX4:=Jh (show w4.heap[w.heap.size + 1]? = some (.cells #[.int .i64 1,.int .i64 n1,.int .i64 n3,.string ⟨#[]⟩,.bool false,.int .i64 0] 34) by rw [hw4]; exact heap_setCell_same _ _ 2 _ _ _ hx3)
 have HK4:=Jh (show w4.heap[w.heap.size]? = some (.cells #[.int .i64 0,.int .i64 0,.int .i64 0,.string ⟨#[]⟩,.bool false,.int .i64 0] 34) by rw [hw4]; exact (Below.heap_setCell _ _ _ _ (by simp)).trans HK3.out)
 have HG4:=Jh (show w.grownBy w4 (some b) by rw [hw4]; exact grown_far HG3.out (p:=⟨w.heap.size + 1,2,none⟩) (by simp) _)
 have H4:=Jh (show RdAt b q3 w4 by rw [hw4]; exact H3.out.other (by simp; omega) _)
 have HW4:=Jh hw4
 clear h3 g3 hx3 xf hw4
 go_upto_region 16 with (fail)
 (try simp only [Act.put,List.setIfInBounds_toArray,List.set_cons_zero,List.set_cons_succ])
 rw [← HW4.out]
 clear x2 xf2
 go_wp2_with (first | (refine wpList_row rfl 34 _ rfl (w.heap.size + 1) rfl 34 #[.int .i64 1,.int .i64 n1,.int .i64 n3,.string ⟨#[]⟩,.bool false,.int .i64 0] (0,0) _ HX4.out undV rfl infV ?_) | (refine wpList_store_row rfl 34 _ _ rfl w.heap.size #[.int .i64 1,.int .i64 n1,.int .i64 n3,.string ⟨#[]⟩,.bool false,.int .i64 0] rfl rfl 34 #[.int .i64 0,.int .i64 0,.int .i64 0,.string ⟨#[]⟩,.bool false,.int .i64 0] HK4.out infV rfl (by simp [Value.oneCell']) ?_))
 refine bodyPost_ret (v:=.agg #[.int .i64 1,.int .i64 n1,.int .i64 n3,.string ⟨#[]⟩,.bool false,.int .i64 0]) (results_cell_row rfl _ _ w.heap.size 34 _ (0,0) _ rfl (setRow_heap _ _ _ _ _ _ HK4.out) undV rfl infV) rfl ?_
 exact ⟨rfl,H4.out.row (by omega) _,grown_row HG4.out (Nat.le_refl _) _⟩
theorem value_S (b : Nat) (r : RS) (w : World) (h : RdAt b r w) (he : ErrC w) (hs : r.rest.size ≤ 1048576) :
 Calls Tryz.prog 141 #[.pointer (some ⟨b,0,none⟩),.int .u8 83] w fun e w' => e = .returned (.agg #[.int .i64 2,.int .i64 0,.int .i64 0,.string r.sized.1,.bool false,.int .i64 0]) ∧ RdTo b r.sized.2 w w':=by
 obtain ⟨w0,hw0⟩ : ∃ w0,w0 = (w.alloc (.cells #[.int .i64 0,.int .i64 0,.int .i64 0,.string ⟨#[]⟩,.bool false,.int .i64 0] 34)).alloc (.cells #[.int .i64 0,.int .i64 0,.int .i64 0,.string ⟨#[]⟩,.bool false,.int .i64 0] 34):=⟨_,rfl⟩
 have hb0 : Below w.heap.size w w0:=by rw [hw0]; exact ((Below.refl _ w).alloc (Nat.le_refl _) _).alloc (by simp) _
 have hk0 : w0.heap[w.heap.size]? = some (.cells #[.int .i64 0,.int .i64 0,.int .i64 0,.string ⟨#[]⟩,.bool false,.int .i64 0] 34):=by rw [hw0]; exact (heapOld _ _ _ (by simp)).trans (heap_alloc_new _ _)
 have hc0 : w0.heap[w.heap.size + 1]? = some (.cells #[.int .i64 0,.int .i64 0,.int .i64 0,.string ⟨#[]⟩,.bool false,.int .i64 0] 34):=by rw [hw0]; exact heap_new1 w _ _
 have hbl:=h.lt
 have hg0 : w.grownBy w0 (some b):=grown_below b hb0
 have h0:=h.below hb0
 have he0:=he.below hb0
 have C1:=sized_c b r w0 h0 he0 hs
 generalize r.sized = q1 at *
 obtain ⟨n1,q1⟩:=q1
 dsimp only at C1 ⊢
 have HC1:=Jh C1
 clear C1
 have HW0:=Jh hw0
 have HK0:=Jh hk0
 have HC0:=Jh hc0
 have HG0:=Jh hg0
 have HEW:=Jh he
 clear hw0 hk0 hc0 hg0 h0 he0 hb0 h he hs
 go_enter Tryz.func141,Tryz.ntmps141
 go_wp2_with (fail)
 rw [← HW0.out]
 refine HC1.out.mono ?_
 rintro e w1 ⟨rfl,h1,g1⟩
 have hx1:=kept_ HC0.out g1 (by omega)
 have HK1:=Jh (kept_ HK0.out g1 (by omega))
 have HG1:=Jh (grown_trans HG0.out g1)
 have H1:=Jh h1
 obtain ⟨w2,hw2⟩ : ∃ w2,w2 = w1.setRow (w.heap.size + 1) #[.int .i64 2,.int .i64 0,.int .i64 0,.string n1,.bool false,.int .i64 0]:=⟨_,rfl⟩
 have HX1:=Jh hx1
 have HX2:=Jh (show w2.heap[w.heap.size + 1]? = some (.cells #[.int .i64 2,.int .i64 0,.int .i64 0,.string n1,.bool false,.int .i64 0] 34) by rw [hw2]; exact setRow_heap _ _ _ _ _ _ hx1)
 have HK2:=Jh (show w2.heap[w.heap.size]? = some (.cells #[.int .i64 0,.int .i64 0,.int .i64 0,.string ⟨#[]⟩,.bool false,.int .i64 0] 34) by rw [hw2]; exact (heap_setRow_other _ _ _ _ (by omega)).trans HK1.out)
 have HG2:=Jh (show w.grownBy w2 (some b) by rw [hw2]; exact grown_row HG1.out (by omega) _)
 have H2:=Jh (show RdAt b q1 w2 by rw [hw2]; exact H1.out.row (by omega) _)
 have HW2:=Jh hw2
 clear h1 g1 hx1 hw2
 go_upto_region 16 with (refine wpList_store_row rfl 34 _ _ rfl (w.heap.size + 1) #[.int .i64 2,.int .i64 0,.int .i64 0,.string n1,.bool false,.int .i64 0] rfl rfl 34 #[.int .i64 0,.int .i64 0,.int .i64 0,.string ⟨#[]⟩,.bool false,.int .i64 0] HX1.out infV rfl (by simp [Value.oneCell']) ?_)
 (try simp only [Act.put])
 rw [← HW2.out]
 go_wp2_with (first | (refine wpList_row rfl 34 _ rfl (w.heap.size + 1) rfl 34 #[.int .i64 2,.int .i64 0,.int .i64 0,.string n1,.bool false,.int .i64 0] (0,0) _ HX2.out undV rfl infV ?_) | (refine wpList_store_row rfl 34 _ _ rfl w.heap.size #[.int .i64 2,.int .i64 0,.int .i64 0,.string n1,.bool false,.int .i64 0] rfl rfl 34 #[.int .i64 0,.int .i64 0,.int .i64 0,.string ⟨#[]⟩,.bool false,.int .i64 0] HK2.out infV rfl (by simp [Value.oneCell']) ?_))
 refine bodyPost_ret (v:=.agg #[.int .i64 2,.int .i64 0,.int .i64 0,.string n1,.bool false,.int .i64 0]) (results_cell_row rfl _ _ w.heap.size 34 _ (0,0) _ rfl (setRow_heap _ _ _ _ _ _ HK2.out) undV rfl infV) rfl ?_
 exact ⟨rfl,H2.out.row (by omega) _,grown_row HG2.out (Nat.le_refl _) _⟩
theorem value_E (b : Nat) (r : RS) (w : World) (h : RdAt b r w) (he : ErrC w) (hs : r.rest.size ≤ 1048576) :
 Calls Tryz.prog 141 #[.pointer (some ⟨b,0,none⟩),.int .u8 69] w fun e w' => e = .returned (.agg #[.int .i64 4,.int .i64 0,.int .i64 0,.string ⟨#[]⟩,.bool false,.int .i64 r.number.1]) ∧ RdTo b r.number.2 w w':=by
 obtain ⟨w0,hw0⟩ : ∃ w0,w0 = (w.alloc (.cells #[.int .i64 0,.int .i64 0,.int .i64 0,.string ⟨#[]⟩,.bool false,.int .i64 0] 34)).alloc (.cells #[.int .i64 0,.int .i64 0,.int .i64 0,.string ⟨#[]⟩,.bool false,.int .i64 0] 34):=⟨_,rfl⟩
 have hb0 : Below w.heap.size w w0:=by rw [hw0]; exact ((Below.refl _ w).alloc (Nat.le_refl _) _).alloc (by simp) _
 have hk0 : w0.heap[w.heap.size]? = some (.cells #[.int .i64 0,.int .i64 0,.int .i64 0,.string ⟨#[]⟩,.bool false,.int .i64 0] 34):=by rw [hw0]; exact (heapOld _ _ _ (by simp)).trans (heap_alloc_new _ _)
 have hc0 : w0.heap[w.heap.size + 1]? = some (.cells #[.int .i64 0,.int .i64 0,.int .i64 0,.string ⟨#[]⟩,.bool false,.int .i64 0] 34):=by rw [hw0]; exact heap_new1 w _ _
 have hbl:=h.lt
 have hg0 : w.grownBy w0 (some b):=grown_below b hb0
 have h0:=h.below hb0
 have he0:=he.below hb0
 have C1:=number_c b r w0 h0 he0 hs
 generalize r.number = q1 at *
 obtain ⟨n1,q1⟩:=q1
 dsimp only at C1 ⊢
 have HC1:=Jh C1
 clear C1
 have HW0:=Jh hw0
 have HK0:=Jh hk0
 have HC0:=Jh hc0
 have HG0:=Jh hg0
 have HEW:=Jh he
 clear hw0 hk0 hc0 hg0 h0 he0 hb0 h he hs
 go_enter Tryz.func141,Tryz.ntmps141
 go_wp2_with (fail)
 rw [← HW0.out]
 refine HC1.out.mono ?_
 rintro e w1 ⟨rfl,h1,g1⟩
 have hx1:=kept_ HC0.out g1 (by omega)
 have HK1:=Jh (kept_ HK0.out g1 (by omega))
 have HG1:=Jh (grown_trans HG0.out g1)
 have H1:=Jh h1
 obtain ⟨w2,hw2⟩ : ∃ w2,w2 = w1.setRow (w.heap.size + 1) #[.int .i64 4,.int .i64 0,.int .i64 0,.string ⟨#[]⟩,.bool false,.int .i64 n1]:=⟨_,rfl⟩
 have HX1:=Jh hx1
 have HX2:=Jh (show w2.heap[w.heap.size + 1]? = some (.cells #[.int .i64 4,.int .i64 0,.int .i64 0,.string ⟨#[]⟩,.bool false,.int .i64 n1] 34) by rw [hw2]; exact setRow_heap _ _ _ _ _ _ hx1)
 have HK2:=Jh (show w2.heap[w.heap.size]? = some (.cells #[.int .i64 0,.int .i64 0,.int .i64 0,.string ⟨#[]⟩,.bool false,.int .i64 0] 34) by rw [hw2]; exact (heap_setRow_other _ _ _ _ (by omega)).trans HK1.out)
 have HG2:=Jh (show w.grownBy w2 (some b) by rw [hw2]; exact grown_row HG1.out (by omega) _)
 have H2:=Jh (show RdAt b q1 w2 by rw [hw2]; exact H1.out.row (by omega) _)
 have HW2:=Jh hw2
 clear h1 g1 hx1 hw2
 go_upto_region 16 with (refine wpList_store_row rfl 34 _ _ rfl (w.heap.size + 1) #[.int .i64 4,.int .i64 0,.int .i64 0,.string ⟨#[]⟩,.bool false,.int .i64 n1] rfl rfl 34 #[.int .i64 0,.int .i64 0,.int .i64 0,.string ⟨#[]⟩,.bool false,.int .i64 0] HX1.out infV rfl (by simp [Value.oneCell']) ?_)
 (try simp only [Act.put])
 rw [← HW2.out]
 go_wp2_with (first | (refine wpList_row rfl 34 _ rfl (w.heap.size + 1) rfl 34 #[.int .i64 4,.int .i64 0,.int .i64 0,.string ⟨#[]⟩,.bool false,.int .i64 n1] (0,0) _ HX2.out undV rfl infV ?_) | (refine wpList_store_row rfl 34 _ _ rfl w.heap.size #[.int .i64 4,.int .i64 0,.int .i64 0,.string ⟨#[]⟩,.bool false,.int .i64 n1] rfl rfl 34 #[.int .i64 0,.int .i64 0,.int .i64 0,.string ⟨#[]⟩,.bool false,.int .i64 0] HK2.out infV rfl (by simp [Value.oneCell']) ?_))
 refine bodyPost_ret (v:=.agg #[.int .i64 4,.int .i64 0,.int .i64 0,.string ⟨#[]⟩,.bool false,.int .i64 n1]) (results_cell_row rfl _ _ w.heap.size 34 _ (0,0) _ rfl (setRow_heap _ _ _ _ _ _ HK2.out) undV rfl infV) rfl ?_
 exact ⟨rfl,H2.out.row (by omega) _,grown_row HG2.out (Nat.le_refl _) _⟩
theorem value_T (b : Nat) (r : RS) (w : World) (h : RdAt b r w) (he : ErrC w) (_hs : r.rest.size ≤ 1048576) :
 Calls Tryz.prog 141 #[.pointer (some ⟨b,0,none⟩),.int .u8 84] w fun e w' => e = .returned (.agg #[.int .i64 3,.int .i64 0,.int .i64 0,.string ⟨#[]⟩,.bool true,.int .i64 0]) ∧ RdTo b r w w':=by
 obtain ⟨w0,hw0⟩ : ∃ w0,w0 = (w.alloc (.cells #[.int .i64 0,.int .i64 0,.int .i64 0,.string ⟨#[]⟩,.bool false,.int .i64 0] 34)).alloc (.cells #[.int .i64 0,.int .i64 0,.int .i64 0,.string ⟨#[]⟩,.bool false,.int .i64 0] 34):=⟨_,rfl⟩
 have hb0 : Below w.heap.size w w0:=by rw [hw0]; exact ((Below.refl _ w).alloc (Nat.le_refl _) _).alloc (by simp) _
 have hk0 : w0.heap[w.heap.size]? = some (.cells #[.int .i64 0,.int .i64 0,.int .i64 0,.string ⟨#[]⟩,.bool false,.int .i64 0] 34):=by rw [hw0]; exact (heapOld _ _ _ (by simp)).trans (heap_alloc_new _ _)
 have hc0 : w0.heap[w.heap.size + 1]? = some (.cells #[.int .i64 0,.int .i64 0,.int .i64 0,.string ⟨#[]⟩,.bool false,.int .i64 0] 34):=by rw [hw0]; exact heap_new1 w _ _
 have hbl:=h.lt
 have hg0 : w.grownBy w0 (some b):=grown_below b hb0
 have h0:=h.below hb0
 have he0:=he.below hb0
 have H0:=Jh h0
 obtain ⟨w2,hw2⟩ : ∃ w2,w2 = w0.setRow (w.heap.size + 1) #[.int .i64 3,.int .i64 0,.int .i64 0,.string ⟨#[]⟩,.bool true,.int .i64 0]:=⟨_,rfl⟩
 have HX2:=Jh (show w2.heap[w.heap.size + 1]? = some (.cells #[.int .i64 3,.int .i64 0,.int .i64 0,.string ⟨#[]⟩,.bool true,.int .i64 0] 34) by rw [hw2]; exact setRow_heap _ _ _ _ _ _ hc0)
 have HK2:=Jh (show w2.heap[w.heap.size]? = some (.cells #[.int .i64 0,.int .i64 0,.int .i64 0,.string ⟨#[]⟩,.bool false,.int .i64 0] 34) by rw [hw2]; exact (heap_setRow_other _ _ _ _ (by omega)).trans hk0)
 have HG2:=Jh (show w.grownBy w2 (some b) by rw [hw2]; exact grown_row hg0 (by omega) _)
 have H2:=Jh (show RdAt b r w2 by rw [hw2]; exact h0.row (by omega) _)
 have HW2:=Jh hw2
 clear hw2
 have HW0:=Jh hw0
 have HK0:=Jh hk0
 have HC0:=Jh hc0
 have HG0:=Jh hg0
 have HEW:=Jh he
 clear hw0 hk0 hc0 hg0 h0 he0 hb0 h he _hs
 go_enter Tryz.func141,Tryz.ntmps141
 go_upto_region 13 with (fail)
 (try simp only [Act.put,List.setIfInBounds_toArray,List.set_cons_zero,List.set_cons_succ])
 rw [← HW0.out]
 go_upto_region 16 with (refine wpList_store_row rfl 34 _ _ rfl (w.heap.size + 1) #[.int .i64 3,.int .i64 0,.int .i64 0,.string ⟨#[]⟩,.bool true,.int .i64 0] rfl rfl 34 #[.int .i64 0,.int .i64 0,.int .i64 0,.string ⟨#[]⟩,.bool false,.int .i64 0] HC0.out infV rfl (by simp [Value.oneCell']) ?_)
 (try simp only [Act.put])
 rw [← HW2.out]
 go_wp2_with (first | (refine wpList_row rfl 34 _ rfl (w.heap.size + 1) rfl 34 #[.int .i64 3,.int .i64 0,.int .i64 0,.string ⟨#[]⟩,.bool true,.int .i64 0] (0,0) _ HX2.out undV rfl infV ?_) | (refine wpList_store_row rfl 34 _ _ rfl w.heap.size #[.int .i64 3,.int .i64 0,.int .i64 0,.string ⟨#[]⟩,.bool true,.int .i64 0] rfl rfl 34 #[.int .i64 0,.int .i64 0,.int .i64 0,.string ⟨#[]⟩,.bool false,.int .i64 0] HK2.out infV rfl (by simp [Value.oneCell']) ?_))
 refine bodyPost_ret (v:=.agg #[.int .i64 3,.int .i64 0,.int .i64 0,.string ⟨#[]⟩,.bool true,.int .i64 0]) (results_cell_row rfl _ _ w.heap.size 34 _ (0,0) _ rfl (setRow_heap _ _ _ _ _ _ HK2.out) undV rfl infV) rfl ?_
 exact ⟨rfl,H2.out.row (by omega) _,grown_row HG2.out (Nat.le_refl _) _⟩
theorem value_F (b : Nat) (r : RS) (w : World) (h : RdAt b r w) (he : ErrC w) (_hs : r.rest.size ≤ 1048576) :
 Calls Tryz.prog 141 #[.pointer (some ⟨b,0,none⟩),.int .u8 70] w fun e w' => e = .returned (.agg #[.int .i64 3,.int .i64 0,.int .i64 0,.string ⟨#[]⟩,.bool false,.int .i64 0]) ∧ RdTo b r w w':=by
 obtain ⟨w0,hw0⟩ : ∃ w0,w0 = (w.alloc (.cells #[.int .i64 0,.int .i64 0,.int .i64 0,.string ⟨#[]⟩,.bool false,.int .i64 0] 34)).alloc (.cells #[.int .i64 0,.int .i64 0,.int .i64 0,.string ⟨#[]⟩,.bool false,.int .i64 0] 34):=⟨_,rfl⟩
 have hb0 : Below w.heap.size w w0:=by rw [hw0]; exact ((Below.refl _ w).alloc (Nat.le_refl _) _).alloc (by simp) _
 have hk0 : w0.heap[w.heap.size]? = some (.cells #[.int .i64 0,.int .i64 0,.int .i64 0,.string ⟨#[]⟩,.bool false,.int .i64 0] 34):=by rw [hw0]; exact (heapOld _ _ _ (by simp)).trans (heap_alloc_new _ _)
 have hc0 : w0.heap[w.heap.size + 1]? = some (.cells #[.int .i64 0,.int .i64 0,.int .i64 0,.string ⟨#[]⟩,.bool false,.int .i64 0] 34):=by rw [hw0]; exact heap_new1 w _ _
 have hbl:=h.lt
 have hg0 : w.grownBy w0 (some b):=grown_below b hb0
 have h0:=h.below hb0
 have he0:=he.below hb0
 have H0:=Jh h0
 obtain ⟨w2,hw2⟩ : ∃ w2,w2 = w0.setRow (w.heap.size + 1) #[.int .i64 3,.int .i64 0,.int .i64 0,.string ⟨#[]⟩,.bool false,.int .i64 0]:=⟨_,rfl⟩
 have HX2:=Jh (show w2.heap[w.heap.size + 1]? = some (.cells #[.int .i64 3,.int .i64 0,.int .i64 0,.string ⟨#[]⟩,.bool false,.int .i64 0] 34) by rw [hw2]; exact setRow_heap _ _ _ _ _ _ hc0)
 have HK2:=Jh (show w2.heap[w.heap.size]? = some (.cells #[.int .i64 0,.int .i64 0,.int .i64 0,.string ⟨#[]⟩,.bool false,.int .i64 0] 34) by rw [hw2]; exact (heap_setRow_other _ _ _ _ (by omega)).trans hk0)
 have HG2:=Jh (show w.grownBy w2 (some b) by rw [hw2]; exact grown_row hg0 (by omega) _)
 have H2:=Jh (show RdAt b r w2 by rw [hw2]; exact h0.row (by omega) _)
 have HW2:=Jh hw2
 clear hw2
 have HW0:=Jh hw0
 have HK0:=Jh hk0
 have HC0:=Jh hc0
 have HG0:=Jh hg0
 have HEW:=Jh he
 clear hw0 hk0 hc0 hg0 h0 he0 hb0 h he _hs
 go_enter Tryz.func141,Tryz.ntmps141
 go_upto_region 13 with (fail)
 (try simp only [Act.put,List.setIfInBounds_toArray,List.set_cons_zero,List.set_cons_succ])
 rw [← HW0.out]
 go_upto_region 16 with (refine wpList_store_row rfl 34 _ _ rfl (w.heap.size + 1) #[.int .i64 3,.int .i64 0,.int .i64 0,.string ⟨#[]⟩,.bool false,.int .i64 0] rfl rfl 34 #[.int .i64 0,.int .i64 0,.int .i64 0,.string ⟨#[]⟩,.bool false,.int .i64 0] HC0.out infV rfl (by simp [Value.oneCell']) ?_)
 (try simp only [Act.put])
 rw [← HW2.out]
 go_wp2_with (first | (refine wpList_row rfl 34 _ rfl (w.heap.size + 1) rfl 34 #[.int .i64 3,.int .i64 0,.int .i64 0,.string ⟨#[]⟩,.bool false,.int .i64 0] (0,0) _ HX2.out undV rfl infV ?_) | (refine wpList_store_row rfl 34 _ _ rfl w.heap.size #[.int .i64 3,.int .i64 0,.int .i64 0,.string ⟨#[]⟩,.bool false,.int .i64 0] rfl rfl 34 #[.int .i64 0,.int .i64 0,.int .i64 0,.string ⟨#[]⟩,.bool false,.int .i64 0] HK2.out infV rfl (by simp [Value.oneCell']) ?_))
 refine bodyPost_ret (v:=.agg #[.int .i64 3,.int .i64 0,.int .i64 0,.string ⟨#[]⟩,.bool false,.int .i64 0]) (results_cell_row rfl _ _ w.heap.size 34 _ (0,0) _ rfl (setRow_heap _ _ _ _ _ _ HK2.out) undV rfl infV) rfl ?_
 exact ⟨rfl,H2.out.row (by omega) _,grown_row HG2.out (Nat.le_refl _) _⟩
theorem value_O (b : Nat) (r : RS) (w : World) (h : RdAt b r w) (he : ErrC w) (_hs : r.rest.size ≤ 1048576) (c : Nat) (k1 : ¬ c = 78) (k2 : ¬ c = 83) (k3 : ¬ c = 84) (k4 : ¬ c = 70) (k5 : ¬ c = 69) :
 Calls Tryz.prog 141 #[.pointer (some ⟨b,0,none⟩),.int .u8 (c : Nat)] w fun e w' => e = .returned (.agg #[.int .i64 0,.int .i64 0,.int .i64 0,.string ⟨#[]⟩,.bool false,.int .i64 0]) ∧ RdTo b { r with bad:=true } w w':=by
 obtain ⟨w0,hw0⟩ : ∃ w0,w0 = (w.alloc (.cells #[.int .i64 0,.int .i64 0,.int .i64 0,.string ⟨#[]⟩,.bool false,.int .i64 0] 34)).alloc (.cells #[.int .i64 0,.int .i64 0,.int .i64 0,.string ⟨#[]⟩,.bool false,.int .i64 0] 34):=⟨_,rfl⟩
 have hb0 : Below w.heap.size w w0:=by rw [hw0]; exact ((Below.refl _ w).alloc (Nat.le_refl _) _).alloc (by simp) _
 have hk0 : w0.heap[w.heap.size]? = some (.cells #[.int .i64 0,.int .i64 0,.int .i64 0,.string ⟨#[]⟩,.bool false,.int .i64 0] 34):=by rw [hw0]; exact (heapOld _ _ _ (by simp)).trans (heap_alloc_new _ _)
 have hc0 : w0.heap[w.heap.size + 1]? = some (.cells #[.int .i64 0,.int .i64 0,.int .i64 0,.string ⟨#[]⟩,.bool false,.int .i64 0] 34):=by rw [hw0]; exact heap_new1 w _ _
 have hbl:=h.lt
 have hg0 : w.grownBy w0 (some b):=grown_below b hb0
 have h0:=h.below hb0
 have he0:=he.below hb0
 have H0:=Jh h0
 have k1' : ((c : Int) == 78) = false:=by rw [beq_eq_false_iff_ne]; omega
 have k2' : ((c : Int) == 83) = false:=by rw [beq_eq_false_iff_ne]; omega
 have k3' : ((c : Int) == 84) = false:=by rw [beq_eq_false_iff_ne]; omega
 have k4' : ((c : Int) == 70) = false:=by rw [beq_eq_false_iff_ne]; omega
 have k5' : ((c : Int) == 69) = false:=by rw [beq_eq_false_iff_ne]; omega
 clear k1 k2 k3 k4 k5
 obtain ⟨c0,c1,c2,z0,z1,z2⟩:=h0.cells
 obtain ⟨w2,hw2⟩ : ∃ w2,w2 = w0.setCell ⟨b,2,none⟩ (.bool true):=⟨_,rfl⟩
 have HX2:=Jh (show w2.heap[w.heap.size + 1]? = some (.cells #[.int .i64 0,.int .i64 0,.int .i64 0,.string ⟨#[]⟩,.bool false,.int .i64 0] 34) by rw [hw2]; exact (Below.heap_setCell _ _ _ _ (by simp; omega)).trans hc0)
 have HK2:=Jh (show w2.heap[w.heap.size]? = some (.cells #[.int .i64 0,.int .i64 0,.int .i64 0,.string ⟨#[]⟩,.bool false,.int .i64 0] 34) by rw [hw2]; exact (Below.heap_setCell _ _ _ _ (by simp; omega)).trans hk0)
 have HG2:=Jh (show w.grownBy w2 (some b) by rw [hw2]; exact grown_trans hg0 (grown_set _ _ _ _))
 have H2:=Jh (show RdAt b { r with bad:=true } w2 by rw [hw2]; exact h0.set2 true)
 have HW2:=Jh hw2
 clear hw2
 have HW0:=Jh hw0
 have HK0:=Jh hk0
 have HC0:=Jh hc0
 have HG0:=Jh hg0
 have HEW:=Jh he
 clear hw0 hk0 hc0 hg0 h0 he0 hb0 h he _hs
 go_enter Tryz.func141,Tryz.ntmps141
 go_upto_region 3 with (fail)
 (try simp only [Act.put,List.setIfInBounds_toArray,List.set_cons_zero,List.set_cons_succ])
 rw [← HW0.out]
 go_upto_region 16 with (fail)
 (try simp only [Act.put,List.setIfInBounds_toArray,List.set_cons_zero,List.set_cons_succ])
 rw [← HW2.out]
 go_wp2_with (first | (refine wpList_row rfl 34 _ rfl (w.heap.size + 1) rfl 34 #[.int .i64 0,.int .i64 0,.int .i64 0,.string ⟨#[]⟩,.bool false,.int .i64 0] (0,0) _ HX2.out undV rfl infV ?_) | (refine wpList_store_row rfl 34 _ _ rfl w.heap.size #[.int .i64 0,.int .i64 0,.int .i64 0,.string ⟨#[]⟩,.bool false,.int .i64 0] rfl rfl 34 #[.int .i64 0,.int .i64 0,.int .i64 0,.string ⟨#[]⟩,.bool false,.int .i64 0] HK2.out infV rfl (by simp [Value.oneCell']) ?_))
 refine bodyPost_ret (v:=.agg #[.int .i64 0,.int .i64 0,.int .i64 0,.string ⟨#[]⟩,.bool false,.int .i64 0]) (results_cell_row rfl _ _ w.heap.size 34 _ (0,0) _ rfl (setRow_heap _ _ _ _ _ _ HK2.out) undV rfl infV) rfl ?_
 exact ⟨rfl,H2.out.row (by omega) _,grown_row HG2.out (Nat.le_refl _) _⟩
end Go.Proofs.YtelombedjkbckaaGreatDoor
