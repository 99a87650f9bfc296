/- counterpaneref01.digits. counterpaneref01.Of,Right; counterpaneref06.num. counterpaneref01.Right; counterpaneref06.num. -/
import Derived.Test.YtbkmnboicihchaaGreatStSqXaNmVr
import Derived.Test.YtbkmnboicihchaaGreatNdClPyPmPnPfNwCy
import Derived.Deep.AppendLies
import Derived.Deep.AppendSrc
import Derived.Test.YtbkmnboicihchaaGreatMgMhRhMpHaHdIaIb
namespace Go.Proofs.YtbkmnboicihchaaGreat
set_option maxRecDepth 100000
set_option maxHeartbeats 2000000
open Go.RowKit Go.Shelf
def digs0 (m : Nat) : Nat:=if m = 0 then 0 else digs m
theorem digs0_step {m : Nat} (h : m ≠ 0) : digs0 m = 1 + digs0 (m / 10):=by
 unfold digs0
 rw [if_neg h]
 by_cases h1 : m < 10
 · rw [digs_small h1,if_pos (by omega)]
 · rw [digs_step (by omega),if_neg (by omega)]; omega
theorem digs0_le (u : Nat) (h : u ≤ 9223372036854775808) : digs0 u ≤ 19:=by
 unfold digs0
 split
 · omega
 · exact digs_le 19 u (by omega) (by omega)
def Out (B : Nat) (wr : World) (v : Value) (L : Nat) : Prop:=(L = 0 ∧ v = .slice none 0 0) ∨ (0 < L ∧ ∃ g cap xs,v = .slice (some ⟨g,0,none⟩) L cap ∧ wr.ownsRow B 3 1 v L xs ∧ ∀ u ∈ xs,u.oneCell' = true)
theorem infoI : (Tryz.prog.info? 3).map (fun i => (i.zero,i.size,i.bytes)) = some (some (.int .i64 0),1,8):=by kernel_rfl
theorem undIs : Tryz.prog.underlying 91 = some (.slice 3):=by kernel_rfl
theorem ownsRow_len {w : World} {base : Nat} {e : TypeId} {v : Value} {n : Nat} {xs : List Value} (h : w.ownsRow base e 1 v n xs) : xs.length = n:=by have:=h.1; omega
theorem fresh_row {B : Nat} {wr : World} (hB : B ≤ wr.heap.size) (d : Int) (T : TypeId) : (wr.alloc (.cells #[.int .i64 d] T)).ownsRow B T 1 (.slice (some ⟨wr.heap.size,0,none⟩) 1 1) 1 [.int .i64 d] :=
 ⟨rfl,.inr ⟨wr.heap.size,1,#[.int .i64 d],rfl,hB,World.alloc_heap_new _ _,Nat.le_refl _,by unfold maxLen; omega,rfl,rfl⟩⟩
theorem old_cell {B : Nat} {wr : World} {T : TypeId} {g L cap : Nat} {xs : List Value} (h : wr.ownsRow B T 1 (.slice (some ⟨g,0,none⟩) L cap) L xs) (o : Obj) (j : Nat) (u : Value) (hu : xs[j]? = some u) : (wr.alloc o).cell? ((⟨g,0,none⟩ : Addr).add j) = some u:=by
 have e : (⟨g,0,none⟩ : Addr).add j = ⟨g,j,none⟩:=by unfold Addr.add; split <;> simp_all
 rw [e]
 exact own_cell (h.alloc o) rfl j u hu
theorem wpList_append_room0 {P : Program} {ops : Array Oper} {rest : List Oper} {o : Oper} {a : Act} {w : World} {Q : Exit → Act → World → Prop} (hgd : o.guard = none) (s x : Operand) (t : TypeId) (ho : o.op = .call { callee := .builtin .append, args := #[s, x], argTypes := #[t, t] })
   (e : TypeId) (i : TypeInfo) (ht : P.underlying t = some (.slice e)) (hi : P.info? e = some i) (b sLen sCap : Nat) (hs : a.eval s = .slice (some ⟨b,0,none⟩) sLen sCap) (hx : a.eval x = .slice none 0 0) (hroom : sLen ≤ sCap)
   (h : wpList P ops Q rest (a.put o.dst (.slice (some ⟨b,0,none⟩) sLen sCap)) w) : wpList P ops Q (o :: rest) a w :=
 wpList_plain hgd fun _ hK => by
   have hr:=run_append_room_src (P:=P) w t t o.type e i ht hi b 0 sLen sCap (.slice none 0 0) 0 [] (Src.ofNil w ht 0) hroom (fun j hj => by cases hj) (fun j hj => by cases hj)
   unfold Oper.wp execOp
   simp only [ho,resolve,invoke,builtin,Sem.run_bind,Sem.run_pure,Result.andThen_ok,List.map_toArray,List.map_cons,List.map_nil,hs,hx,hr]
   exact hK _ _ h
theorem one_cons {k : IntKind} {d : Int} {xs : List Value} (h : ∀ u ∈ xs,u.oneCell' = true) : ∀ u ∈ [Value.int k d] ++ xs,u.oneCell' = true:=by
 intro u hu
 rcases List.mem_append.1 hu with hu | hu
 · rw [List.mem_singleton] at hu; subst hu; rfl
 · exact h u hu
theorem rdigits_pos (u : Nat) (hu : u ≤ 9223372036854775807) (w : World) :
   Calls Tryz.prog 75 #[.int .i64 ((u : Nat))] w fun e w' => ∃ A cap,e = .returned (.slice A (digs0 u) cap) ∧ Below w.heap.size w w':=by
 obtain ⟨ti,hti,hz0,hz1,hz2⟩:=info_parts infoI
 have hdu:=digs0_le u (by omega)
 go_enter Tryz.func75,Tryz.ntmps75
 go_wp2
 go_loopw [0,3] (fun nv v wr => ∃ (m L : Nat),nv = .int .i64 ((m : Nat)) ∧ m ≤ 9223372036854775807 ∧ Hid (L + digs0 m = digs0 u) ∧ Out w.heap.size wr v L ∧ Hid (Below w.heap.size w wr)) (fun nv _ _ => (intOf nv).natAbs)
 case atStart => exact ⟨u,0,rfl,hu,Lib.hid (by omega),.inl ⟨rfl,rfl⟩,Lib.hid (Below.refl _ _)⟩
 case round =>
   obtain ⟨m,L,rfl,hm,HL,hout,HB⟩:=hrel
   by_cases h0 : m = 0
   · subst h0
     rw [show ((0 : Nat) : Int) = 0 from rfl]
     have hLu : L = digs0 u:=by have:=HL.out; simpa [digs0] using this
     rcases hout with ⟨hL0,hv⟩ | ⟨hLp,g,cap,xs,hv,hown,hone⟩
     · subst hv
       have HE:=Lib.hid (hL0.symm.trans hLu)
       clear hL0 hLu
       go_wp2
       go_ret
       exact ⟨none,0,by rw [← HE.out]; rfl,HB.out⟩
     · subst hv
       have HE:=Lib.hid hLu
       clear hLu hown hone
       go_wp2
       go_ret
       exact ⟨some ⟨g,0,none⟩,cap,by rw [← HE.out]; rfl,HB.out⟩
   have HST:=Lib.hid (show L + (1 + digs0 (m / 10)) = digs0 u by have:=HL.out; rw [digs0_step h0] at this; omega)
   have hLb : L ≤ 20:=by have:=HL.out; omega
   clear HL
   rcases hout with ⟨hL0,hv⟩ | ⟨hLp,g,cap,xs,hv,hown,hone⟩
   · subst hv
     subst hL0
     go_wp2_with (at_builtin; refine wpList_append_room0 rfl _ _ 91 rfl 3 ti undIs hti wr.heap.size 1 1 rfl rfl (Nat.le_refl _) ?_)
     go_roundw
     case rel => exact ⟨m / 10,1,by go_num,by omega,Lib.hid (by have:=HST.out; omega),.inr ⟨by omega,wr.heap.size,1,_,rfl,fresh_row (HB.out.size) _ _,by simp [Value.oneCell']⟩,Lib.hid (HB.out.alloc HB.out.size _)⟩
     case measure => simp [intOf]; omega
   · subst hv
     have hgl:=hown.lt g rfl
     have hxl : xs.length = L:=by have:=ownsRow_len hown; omega
     have HOW:=Lib.hid hown
     have HXL:=Lib.hid hxl
     have HONE:=Lib.hid hone
     clear hown hxl hone
     go_wp2_with (at_builtin; refine wpList_append_lies _ rfl _ _ 91 rfl w.heap.size 3 ti _ 1 8 undIs hti hz0 hz1 hz2 rfl (by decide) _ 1 _ rfl (fresh_row HB.out.size _ _) ⟨g,0,none⟩ L cap xs rfl (by rw [HXL.out]; omega) (fun j u hu => old_cell HOW.out _ j u hu) HONE.out hLp (by unfold maxLen; omega) (by omega) (by have:=HB.out.size; simp; omega) (wr.heap.size + 1) (by simp) ?_; intro g2 cap2 w3 hown3 hgrow hat hlt3; have HO3:=Lib.hid hown3; have HG3:=Lib.hid hgrow; clear hown3 hgrow hat hlt3)
     go_roundw
     case rel => exact ⟨m / 10,1 + L,by go_num,by omega,Lib.hid (by have:=HST.out; omega),.inr ⟨by omega,g2,cap2,_,rfl,HO3.out,one_cons HONE.out⟩,Lib.hid ((HB.out.alloc HB.out.size _).grown HG3.out (by have:=HB.out.size; simp; omega) (fun j e => by have h1 : wr.heap.size = j:=Option.some.inj e; have:=HB.out.size; omega))⟩
     case measure => simp [intOf]; omega
theorem rdigits_neg (u : Nat) (hu : u ≤ 9223372036854775808) (w : World) :
   Calls Tryz.prog 75 #[.int .i64 (-(u : Nat))] w fun e w' => ∃ A cap,e = .returned (.slice A (digs0 u) cap) ∧ Below w.heap.size w w':=by
 obtain ⟨ti,hti,hz0,hz1,hz2⟩:=info_parts infoI
 have hdu:=digs0_le u (by omega)
 go_enter Tryz.func75,Tryz.ntmps75
 go_wp2
 go_loopw [0,3] (fun nv v wr => ∃ (m L : Nat),nv = .int .i64 (-(m : Nat)) ∧ m ≤ 9223372036854775808 ∧ Hid (L + digs0 m = digs0 u) ∧ Out w.heap.size wr v L ∧ Hid (Below w.heap.size w wr)) (fun nv _ _ => (intOf nv).natAbs)
 case atStart => exact ⟨u,0,rfl,hu,Lib.hid (by omega),.inl ⟨rfl,rfl⟩,Lib.hid (Below.refl _ _)⟩
 case round =>
   obtain ⟨m,L,rfl,hm,HL,hout,HB⟩:=hrel
   by_cases h0 : m = 0
   · subst h0
     rw [show (-((0 : Nat) : Int)) = 0 from rfl]
     have hLu : L = digs0 u:=by have:=HL.out; simpa [digs0] using this
     rcases hout with ⟨hL0,hv⟩ | ⟨hLp,g,cap,xs,hv,hown,hone⟩
     · subst hv
       have HE:=Lib.hid (hL0.symm.trans hLu)
       clear hL0 hLu
       go_wp2
       go_ret
       exact ⟨none,0,by rw [← HE.out]; rfl,HB.out⟩
     · subst hv
       have HE:=Lib.hid hLu
       clear hLu hown hone
       go_wp2
       go_ret
       exact ⟨some ⟨g,0,none⟩,cap,by rw [← HE.out]; rfl,HB.out⟩
   have HST:=Lib.hid (show L + (1 + digs0 (m / 10)) = digs0 u by have:=HL.out; rw [digs0_step h0] at this; omega)
   have hLb : L ≤ 20:=by have:=HL.out; omega
   clear HL
   rcases hout with ⟨hL0,hv⟩ | ⟨hLp,g,cap,xs,hv,hown,hone⟩
   · subst hv
     subst hL0
     by_cases hz : (m : Int) % 10 = 0
     · as_aux_lemma =>
       go_wp2_with (at_builtin; refine wpList_append_room0 rfl _ _ 91 rfl 3 ti undIs hti wr.heap.size 1 1 rfl rfl (Nat.le_refl _) ?_)
       go_roundw
       case rel => exact ⟨m / 10,1,by go_num,by omega,Lib.hid (by have:=HST.out; omega),.inr ⟨by omega,wr.heap.size,1,_,rfl,fresh_row (HB.out.size) _ _,by simp [Value.oneCell']⟩,Lib.hid (HB.out.alloc HB.out.size _)⟩
       case measure => simp [intOf]; omega
     · as_aux_lemma =>
       have hz' : 0 < (m : Int) % 10:=by omega
       clear hz
       go_wp2_with (at_builtin; refine wpList_append_room0 rfl _ _ 91 rfl 3 ti undIs hti wr.heap.size 1 1 rfl rfl (Nat.le_refl _) ?_)
       go_roundw
       case rel => exact ⟨m / 10,1,by go_num,by omega,Lib.hid (by have:=HST.out; omega),.inr ⟨by omega,wr.heap.size,1,_,rfl,fresh_row (HB.out.size) _ _,by simp [Value.oneCell']⟩,Lib.hid (HB.out.alloc HB.out.size _)⟩
       case measure => simp [intOf]; omega
   · subst hv
     have hgl:=hown.lt g rfl
     have hxl : xs.length = L:=by have:=ownsRow_len hown; omega
     have HOW:=Lib.hid hown
     have HXL:=Lib.hid hxl
     have HONE:=Lib.hid hone
     clear hown hxl hone
     by_cases hz : (m : Int) % 10 = 0
     · as_aux_lemma =>
       go_wp2_with (at_builtin; refine wpList_append_lies _ rfl _ _ 91 rfl w.heap.size 3 ti _ 1 8 undIs hti hz0 hz1 hz2 rfl (by decide) _ 1 _ rfl (fresh_row HB.out.size _ _) ⟨g,0,none⟩ L cap xs rfl (by rw [HXL.out]; omega) (fun j u hu => old_cell HOW.out _ j u hu) HONE.out hLp (by unfold maxLen; omega) (by omega) (by have:=HB.out.size; simp; omega) (wr.heap.size + 1) (by simp) ?_; intro g2 cap2 w3 hown3 hgrow hat hlt3; have HO3:=Lib.hid hown3; have HG3:=Lib.hid hgrow; clear hown3 hgrow hat hlt3)
       go_roundw
       case rel => exact ⟨m / 10,1 + L,by go_num,by omega,Lib.hid (by have:=HST.out; omega),.inr ⟨by omega,g2,cap2,_,rfl,HO3.out,one_cons HONE.out⟩,Lib.hid ((HB.out.alloc HB.out.size _).grown HG3.out (by have:=HB.out.size; simp; omega) (fun j e => by have h1 : wr.heap.size = j:=Option.some.inj e; have:=HB.out.size; omega))⟩
       case measure => simp [intOf]; omega
     · as_aux_lemma =>
       have hz' : 0 < (m : Int) % 10:=by omega
       clear hz
       go_wp2_with (at_builtin; refine wpList_append_lies _ rfl _ _ 91 rfl w.heap.size 3 ti _ 1 8 undIs hti hz0 hz1 hz2 rfl (by decide) _ 1 _ rfl (fresh_row HB.out.size _ _) ⟨g,0,none⟩ L cap xs rfl (by rw [HXL.out]; omega) (fun j u hu => old_cell HOW.out _ j u hu) HONE.out hLp (by unfold maxLen; omega) (by omega) (by have:=HB.out.size; simp; omega) (wr.heap.size + 1) (by simp) ?_; intro g2 cap2 w3 hown3 hgrow hat hlt3; have HO3:=Lib.hid hown3; have HG3:=Lib.hid hgrow; clear hown3 hgrow hat hlt3)
       go_roundw
       case rel => exact ⟨m / 10,1 + L,by go_num,by omega,Lib.hid (by have:=HST.out; omega),.inr ⟨by omega,g2,cap2,_,rfl,HO3.out,one_cons HONE.out⟩,Lib.hid ((HB.out.alloc HB.out.size _).grown HG3.out (by have:=HB.out.size; simp; omega) (fun j e => by have h1 : wr.heap.size = j:=Option.some.inj e; have:=HB.out.size; omega))⟩
       case measure => simp [intOf]; omega
theorem rdigits_c (n : Int) (hn : i64 n) (w : World) : Calls Tryz.prog 75 #[.int .i64 n] w fun e w' => ∃ A cap,e = .returned (.slice A (digs0 n.natAbs) cap) ∧ Below w.heap.size w w':=by
 by_cases h : n < 0
 · have:=rdigits_neg n.natAbs (by have:=hn.1; omega) w
   rwa [show (-(n.natAbs : Nat) : Int) = n by omega] at this
 · have:=rdigits_pos n.natAbs (by have:=hn.2; omega) w
   rwa [show ((n.natAbs : Nat) : Int) = n by omega] at this
end Go.Proofs.YtbkmnboicihchaaGreat
namespace Go.Proofs.YtbkmnboicihchaaGreat
set_option maxRecDepth 100000
set_option maxHeartbeats 2000000
open Go.RowKit Go.Shelf
section
variable {P : Program} {md : Region.Mode} {ops : Array Oper} {Q : Exit → Act → World → Prop} {S : World → Prop}
theorem wpAnyH_storeRow0 {i : Nat} {o : Oper} {fuel : Nat} {listed : Array Bool} {a : Act} {w : World} (hr : Region.ready md ops listed = [i]) (ho : ops[i]? = some o) (hg : o.guard = none) (ty : TypeId) (x y : Operand) (hop : o.op = .store ty x y)
   (b : Nat) (cells : Array Value) (hx : a.eval x = .pointer (some ⟨b,0,none⟩)) (hy : a.eval y = .agg cells) (t : TypeId) (old : Array Value) (hb : w.heap[b]? = some (.cells old t (0,0))) (hi : (P.info? ty).map (·.size) = some cells.size) (hold : old.size = cells.size) (h1 : cells.all (·.oneCell') = true) (hS : S (w.setRow b cells))
   (h : S (w.setRow b cells) → wpAnyH P md ops Q S fuel (listed.setIfInBounds i true) (a.put o.dst undef) (w.setRow b cells)) : wpAnyH P md ops Q S (fuel + 1) listed a w :=
 wpAnyH_ready hr (by simp) (AllReadyH.cons ho (fun K hK => by
   rw [if_pos (wanted_none hg)]
   exact wp_store_row ty x y hop b cells hx hy t old hb hi hold h1 (hK.out _ _ hS h)) AllReadyH.nil)
end
theorem undD : Tryz.prog.underlying 135 = some (.struct (Tryz.prog.fieldsOf 135)):=by kernel_rfl
theorem rof_any (m x : Int) (hm : i64 m) (w : World) : Calls Tryz.prog 64 #[.agg #[.int .i64 m,.int .i64 x]] w fun e w' => ∃ A cap,e = .returned (.agg #[.bool (decide (m < 0)),.slice A (digs0 m.natAbs) cap,.int .i64 x]) ∧ Below w.heap.size w w':=by
 have HD:=Lib.hid (fun w => rdigits_c m hm w)
 obtain ⟨Z,hZ⟩ : ∃ Z : Array Value,Z = #[.bool false,.slice none 0 0,.int .i64 0]:=⟨_,rfl⟩
 have hzs : Z.size = 3:=by rw [hZ]; rfl
 obtain ⟨W,hW⟩ : ∃ W,W = (w.alloc (.cells #[.int .i64 m,.int .i64 x] 23)).alloc (.cells Z 135):=⟨_,rfl⟩
 obtain ⟨w0,hw0⟩ : ∃ w0,w0 = w.heap.size:=⟨_,rfl⟩
 have hbW : Below w.heap.size w W:=by rw [hW]; exact ((Below.refl _ w).alloc (Nat.le_refl _) _).alloc (by simp) _
 have hWs : w0 + 2 ≤ W.heap.size:=by rw [hW,hw0]; simp
 have hlt : w0 < w0 + 1:=by omega
 have k0 : W.cell? ⟨w0,0,none⟩ = some (.int .i64 m):=by rw [hW,hw0]; simp
 have k1 : W.cell? ⟨w0,1,none⟩ = some (.int .i64 x):=by rw [hW,hw0]; simp
 have hkz : W.heap[w0 + 1]? = some (.cells Z 135):=by
   rw [hW,hw0]; have:=heap_alloc_new (w.alloc (.cells #[.int .i64 m,.int .i64 x] 23)) (.cells Z 135); rwa [World.size_alloc] at this
 have HW:=Lib.hid hW
 have HBW:=Lib.hid hbW
 have HW0:=Lib.hid hw0
 clear hW hbW hm hw0
 go_enter Tryz.func64,Tryz.ntmps64
 go_upto_region 1 with (fail)
 (try simp only [Act.put,List.setIfInBounds_toArray,List.set_cons_zero,List.set_cons_succ])
 rw [← hZ,← HW.out,← HW0.out]
 clear hZ
 refine wp_region_held_drew (S:=fun w => Below (w0 + 1) W w) (by kernel_rfl) ((Below.refl _ _).drew) (fun hHeld => ?_)
 refine wpAnyH_take (i:=0) rfl (by kernel_rfl) (by kernel_rfl) (by kernel_rfl) (fun _ _ _ h => h) (Or.inl ⟨by kernel_rfl,by (intro w hSw; clear hSw; go_simp); try with_reducible rfl⟩) (by assumption) ?_
 (try simp only [List.getElem_toArray,List.getElem_cons_zero,Act.put,List.setIfInBounds_toArray,List.set_cons_zero,List.set_cons_succ])
 refine wpAnyH_take (i:=1) rfl (by kernel_rfl) (by kernel_rfl) (by kernel_rfl) (fun _ _ _ h => h) (Or.inl ⟨by kernel_rfl,by (intro w hSw; have q0:=(Below.cell hSw (p:=⟨w0,0,none⟩) hlt).trans k0; clear hSw; go_simp); try with_reducible rfl⟩) (by assumption) ?_
 try simp only [sX]
 refine wpAnyH_take (i:=2) rfl (by kernel_rfl) (by kernel_rfl) (by kernel_rfl) (fun _ _ _ h => h) (Or.inl ⟨by kernel_rfl,by (intro w hSw; clear hSw; go_simp); try with_reducible rfl⟩) (by assumption) ?_
 try simp only [sX]
 refine wpAnyH_take (i:=3) rfl (by kernel_rfl) (by kernel_rfl) (by kernel_rfl) (fun _ _ _ h => h) (Or.inl ⟨by kernel_rfl,by (intro w hSw; clear hSw; go_simp); try with_reducible rfl⟩) (by assumption) ?_
 try simp only [sX]
 refine wpAnyH_take (i:=4) rfl (by kernel_rfl) (by kernel_rfl) (by kernel_rfl) (fun _ _ _ h => h) (Or.inl ⟨by kernel_rfl,by (intro w hSw; have q0:=(Below.cell hSw (p:=⟨w0,0,none⟩) hlt).trans k0; clear hSw; go_simp); try with_reducible rfl⟩) (by assumption) ?_
 try simp only [sX]
 refine wpAnyH_take (i:=6) rfl (by kernel_rfl) (by kernel_rfl) (by kernel_rfl) (fun _ _ _ h => h) (Or.inl ⟨by kernel_rfl,by (intro w hSw; clear hSw; go_simp); try with_reducible rfl⟩) (by assumption) ?_
 try simp only [sX]
 refine wpAnyH_take (i:=7) rfl (by kernel_rfl) (by kernel_rfl) (by kernel_rfl) (fun _ _ _ h => h) (Or.inl ⟨by kernel_rfl,by (intro w hSw; have q1:=(Below.cell hSw (p:=⟨w0,1,none⟩) hlt).trans k1; clear hSw; go_simp); try with_reducible rfl⟩) (by assumption) ?_
 try simp only [sX]
 refine wpAnyH_ready (rs:=[5]) (by kernel_rfl) (by simp) ?_
 refine AllReadyH.cons rfl (fun K hK => ?_) AllReadyH.nil
 go_simp
 refine (HD.out _).mono ?_
 rintro e w4 ⟨A,cap,rfl,hb4⟩
 try go_simp
 have hH4 : Below (w0 + 1) W w4:=Below.trans hHeld (hb4.mono (by have:=hb4.size; have:=Below.size hHeld; simp at *; omega))
 refine hK.out _ _ hH4 (fun hHeld4 => ?_)
 clear hK K
 try try simp only [sX]
 refine wpAnyH_take (i:=8) rfl (by kernel_rfl) (by kernel_rfl) (by kernel_rfl) (fun _ _ _ h => h) (Or.inl ⟨by kernel_rfl,by (intro w hSw; clear hSw; go_simp); try with_reducible rfl⟩) (by assumption) ?_
 try simp only [sX]
 have hz4 : w4.heap[w0 + 1]? = some (.cells Z 135):=(hb4.block _ (by simp; omega)).trans hkz
 refine wpAnyH_storeRow0 (i:=9) (by kernel_rfl) rfl rfl 135 _ _ rfl (w0 + 1) #[.bool (decide (m < 0)),.slice A (digs0 m.natAbs) cap,.int .i64 x] rfl rfl 135 Z hz4 (by kernel_rfl) hzs (by simp [Value.oneCell']) (below_row hHeld4 (Nat.le_refl _) _) (fun hHeld5 => ?_)
 (try simp only [List.getElem_toArray,List.getElem_cons_succ,List.getElem_cons_zero,Act.put])
 refine wpAnyH_done (by kernel_rfl) ?_ _
 go_wp2
 refine bodyPost_ret (v:=.agg #[.bool (decide (m < 0)),.slice A (digs0 m.natAbs) cap,.int .i64 x]) (results_cell_row rfl _ _ (w0 + 1) 135 _ (0,0) _ rfl (setRow_heap _ _ _ _ _ _ hz4) undD rfl (by kernel_rfl)) rfl ?_
 exact ⟨A,cap,rfl,HBW.out.trans (below_row (hHeld4.mono (by have:=HW0.out; omega)) (by have:=HW0.out; omega) _)⟩
end Go.Proofs.YtbkmnboicihchaaGreat
namespace Go.Proofs.YtbkmnboicihchaaGreat
set_option maxRecDepth 100000
set_option maxHeartbeats 2000000
open Go.RowKit Go.Shelf
theorem keep_mx {b B : Nat} {m x : Int} {w0 w w' : World} (h : (w.cell? ⟨b, 0, none⟩ = some (.int .i64 m) ∧ w.cell? ⟨b, 1, none⟩ = some (.int .i64 x)) ∧ Below B w0 w) (hbw : Below w.heap.size w w') (hB : B ≤ w0.heap.size) :
   (w'.cell? ⟨b,0,none⟩ = some (.int .i64 m) ∧ w'.cell? ⟨b,1,none⟩ = some (.int .i64 x)) ∧ Below B w0 w':=by
 obtain ⟨⟨h0,h1⟩,hb⟩:=h
 have hlt : b < w.heap.size:=World.block_lt_of_cell? w _ h0
 exact ⟨⟨(hbw.cell (p:=⟨b,0,none⟩) hlt).trans h0,(hbw.cell (p:=⟨b,1,none⟩) hlt).trans h1⟩,hb.trans (hbw.mono (Nat.le_trans hB hb.size))⟩
theorem tmod10 (m : Int) : m.tmod 10 = 0 ↔ m.natAbs % 10 = 0:=by
 rcases Int.eq_nat_or_neg m with ⟨n,rfl | rfl⟩
 · rw [Int.tmod_eq_emod_of_nonneg (by omega)]; omega
 · rw [Int.neg_tmod,Int.tmod_eq_emod_of_nonneg (by omega)]; omega
theorem rnum_spec (m x : Int) : numRight m x = if m = 0 then decide (x = 0) else if 1000000000000000 ≤ m ∨ m ≤ -1000000000000000 ∨ m.tmod 10 = 0 ∨ x < -40 ∨ 40 < x then false else decide ((digs0 m.natAbs : Int) + x ≤ 40):=by
 unfold numRight
 by_cases h0 : m = 0
 · rw [if_pos h0,if_pos h0]
 · rw [if_neg h0,if_neg h0]
   have hp:=digs_pos m.natAbs
   have hd : digs0 m.natAbs = digs m.natAbs:=by unfold digs0; rw [if_neg (by omega)]
   rw [hd]
   simp only [tmod10]
   by_cases h : 1000000000000000 ≤ m ∨ m ≤ -1000000000000000 ∨ m.natAbs % 10 = 0 ∨ x < -40 ∨ 40 < x
   · rw [if_pos h]
     rw [Bool.eq_iff_iff]
     simp
     omega
   · rw [if_neg h]
     rw [Bool.eq_iff_iff]
     simp
     omega
theorem rright01_any (m x : Int) (hm : i64 m) (w : World) : Calls Tryz.prog 52 #[.agg #[.int .i64 m,.int .i64 x]] w fun e w' => e = .returned (.bool (numRight m x)) ∧ Below w.heap.size w w':=by
 rw [rnum_spec]
 have hb0 : ∀ n,Below w.heap.size w ((w.alloc (.cells #[.int .i64 m,.int .i64 x] 23)).drewN n):=fun n => below_drewN ((Below.refl _ w).alloc (Nat.le_refl _) _) n
 have HB:=Lib.hid hb0
 have HO:=Lib.hid (fun w => rof_any m x hm w)
 have hdl:=digs0_le m.natAbs (by obtain ⟨h1,h2⟩:=hm; omega)
 have hm1:=hm.1
 have hm2:=hm.2
 clear hm hb0
 generalize digs0 m.natAbs = D at *
 by_cases h0 : m = 0
 · rw [if_pos h0]
   subst h0
   by_cases hx0 : x = 0
   · subst hx0
     go_enter Tryz.func52,Tryz.ntmps52
     go_wp2
     go_ret
     exact ⟨rfl,HB.out 0⟩
   · have hx0' : decide (x = 0) = false:=decide_eq_false hx0
     have hx0'' : (x == 0) = false:=beq_eq_false_iff_ne.2 hx0
     rw [hx0']
     go_enter Tryz.func52,Tryz.ntmps52
     go_wp2
     go_ret
     exact ⟨rfl,HB.out 0⟩
 · rw [if_neg h0]
   have h0' : (m == 0) = false:=beq_eq_false_iff_ne.2 h0
   by_cases h1 : 1000000000000000 ≤ m
   · rw [if_pos (.inl h1)]
     go_enter Tryz.func52,Tryz.ntmps52
     go_wp2
     go_ret
     exact ⟨rfl,HB.out 0⟩
   by_cases h2 : m ≤ -1000000000000000
   · rw [if_pos (.inr (.inl h2))]
     go_enter Tryz.func52,Tryz.ntmps52
     go_wp2
     go_ret
     exact ⟨rfl,HB.out 0⟩
   obtain ⟨r,hr⟩ : ∃ r,m.tmod 10 = r:=⟨_,rfl⟩
   rw [hr]
   by_cases h3 : r = 0
   · rw [if_pos (.inr (.inr (.inl h3)))]
     subst h3
     go_enter Tryz.func52,Tryz.ntmps52
     go_wp2
     go_ret
     exact ⟨rfl,HB.out 0⟩
   have h3' : (r == 0) = false:=beq_eq_false_iff_ne.2 h3
   by_cases h4 : x < -40
   · rw [if_pos (.inr (.inr (.inr (.inl h4))))]
     go_enter Tryz.func52,Tryz.ntmps52
     go_wp2
     go_ret
     exact ⟨rfl,HB.out 0⟩
   by_cases h5 : 40 < x
   · rw [if_pos (.inr (.inr (.inr (.inr h5))))]
     go_enter Tryz.func52,Tryz.ntmps52
     go_wp2
     go_ret
     exact ⟨rfl,HB.out 0⟩
   rw [if_neg (by omega)]
   have hwr : IntKind.i64.wrap ((D : Int) + x) = (D : Int) + x:=IntWalk.i64_in _ (by omega)
   have HWR:=Lib.hid hwr
   clear hwr
   go_enter Tryz.func52,Tryz.ntmps52
   go_wp2
   have hwr:=HWR.out
   have hfd : ∀ (b : Bool) (A : Option Addr) (n c : Nat) (y : Int) (wx : World),(Instr.field 135 (.agg #[.bool b,.slice A n c,.int .i64 y]) 1).run Tryz.prog wx = .ok (.slice A n c) wx:=fun _ _ _ _ _ _ => by kernel_rfl
   have hbd : Below w.heap.size w (w.alloc (.cells #[.int .i64 m,.int .i64 x] 23)).drew:=((Below.refl _ w).alloc (Nat.le_refl _) _).drew
   go_region_held3 (fun wx => (wx.cell? ⟨w.heap.size,0,none⟩ = some (.int .i64 m) ∧ wx.cell? ⟨w.heap.size,1,none⟩ = some (.int .i64 x)) ∧ Below w.heap.size w wx) (first | exact keep_mx (by assumption) (by assumption) (Nat.le_refl _) | go_keep)
     ((go_at_call 64; refine (HO.out _).mono ?_; rintro e w2 ⟨A,cap,rfl,hbe⟩))
   all_goals
     go_wp2
     go_ret
     refine ⟨ret_bool (by first | rfl | simp),?_⟩
     first
       | assumption
       | (rename_i hS; exact hS.2)
theorem rnum_any (m x : Int) (hm : i64 m) (w : World) : Calls Tryz.prog 92 #[.agg #[.int .i64 m,.int .i64 x]] w fun e w' => e = .returned (.bool (numRight m x)) ∧ Below w.heap.size w w':=by
 have hR:=fun w => rright01_any m x hm w
 generalize numRight m x = q at *
 have HR:=Lib.hid hR
 clear hR hm
 go_enter Tryz.func92,Tryz.ntmps92
 go_wp2_with (go_at_call 52; refine (HR.out _).mono ?_; rintro e w2 ⟨rfl,hbe⟩)
 go_ret
 exact ⟨rfl,((Below.refl _ w).alloc (Nat.le_refl _) _).trans (hbe.mono (by simp))⟩
end Go.Proofs.YtbkmnboicihchaaGreat
