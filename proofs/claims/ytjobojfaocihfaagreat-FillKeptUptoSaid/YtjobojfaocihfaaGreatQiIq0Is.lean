/- law 28's Build: plans; the head. fill of no sheet; what is there (without edits). fill: Len of any axis; Take where the range is out; the law's cell and node. -/
import Derived.Test.YtjobojfaocihfaaGreatQhQgFeFfFg
import Derived.Test.YtjobojfaocihfaaGreatFjQbFkNoGtDpFlXt
import Derived.Test.YtjobojfaocihfaaGreatIoIpSrQdQeQfRF
namespace Go.Proofs.YtjobojfaocihfaaGreat
set_option maxRecDepth 100000
set_option linter.unusedSimpArgs false
set_option linter.unusedVariables false
open Go Go.RowKit Go.Shelf Go.Maps
structure Pn where
 rows : Nat
 cols : Nat
 dead : List Ad
 cells : List (Ad × Ct)
def Ad.vals (a : Ad) : List Value:=[.int .i64 a.ra,.int .i64 a.rn,.int .i64 a.ca,.int .i64 a.cn]
def Ad.row (a : Ad) : Ik:=⟨a.ra,a.rn⟩
def Ad.col (a : Ad) : Ik:=⟨a.ca,a.cn⟩
def AdSl (w : World) (B : Nat) (A : Option Addr) (c : Nat) (l : List Ad) : Prop :=
 l.length ≤ c ∧ c ≤ 9223372036854775807 ∧ (∀ a ∈ l,a.ok) ∧ (l = [] ∨ ∃ b o,A = some ⟨b,o,none⟩ ∧ b < B ∧ ∀ j (h : j < l.length),w.rangeAt b (o + j * 4) l[j].vals)
def ACSl (w : World) (B : Nat) (A : Option Addr) (c : Nat) (l : List (Ad × Ct)) : Prop :=
 l.length ≤ c ∧ c ≤ 9223372036854775807 ∧ (∀ e ∈ l,e.1.ok ∧ e.2.v.ok ∧ e.2.t.d.ok ∧ e.2.t.size ≤ 1048576) ∧
  (l = [] ∨ ∃ b o,A = some ⟨b,o,none⟩ ∧ b < B ∧ ∀ j (h : j < l.length),∃ A' c',w.rangeAt b (o + j * 33) (l[j].1.vals ++ (contA l[j].2 A' c').toList) ∧ SlAt w B A' c' l[j].2.t.l)
def Pn.val (P : Pn) (Ad : Option Addr) (cd : Nat) (Ac : Option Addr) (cc : Nat) : Array Value:=#[.int .u8 P.rows,.int .u8 P.cols,.slice Ad P.dead.length cd,.slice Ac P.cells.length cc]
def stopC (x : Ct) : Bool:=greatB x.t || (decide (300 < x.v.text.size) || !rightC x)
theorem isR_c (w : World) (a : Ad) : Calls Tryz.prog 31 #[.agg a.vals.toArray] w fun e w' => e = .returned (.bool a.is) ∧ Below w.heap.size w w':=by
 obtain ⟨g,hg⟩ : ∃ g,g = w.heap.size:=⟨_,rfl⟩
 obtain ⟨ra,rn,ca,cn⟩:=a
 obtain ⟨W,hW⟩ : ∃ W,W = w.alloc (.cells #[.int .i64 ra,.int .i64 rn,.int .i64 ca,.int .i64 cn] 43):=⟨_,rfl⟩
 have hk : W.heap[g]? = some (.cells #[.int .i64 ra,.int .i64 rn,.int .i64 ca,.int .i64 cn] 43):=by rw [hW,hg]; exact heap_alloc_new _ _
 have hb : Below w.heap.size w W:=by rw [hW]; exact (Below.refl _ w).alloc (Nat.le_refl _) _
 have HR0:=Jh (range_row4 hk).1
 have HR1:=Jh (range_row4 hk).2
 have HIL:=Jh (show ∀ a b : Value,(Tryz.prog.info? 41).map (·.size) = some [a,b].length from fun _ _ => infIk)
 have h1:=fun w => eqI w ra rn 0 0
 have h2:=fun w => eqI w ca cn 0 0
 have HG:=Jh hg
 have HW:=Jh hW
 have HB:=Jh hb
 clear hg hW hk hb
 unfold Ad.is isCellB
 dsimp only [Ad.vals]
 generalize decide (ra = 0 ∧ rn = 0) = f at h1 ⊢
 generalize decide (ca = 0 ∧ cn = 0) = k at h2 ⊢
 go_enter Tryz.func31,Tryz.ntmps31
 go_upto_region 1 with (fail)
 rw [← HW.out,← HG.out]
 cases f <;> cases k <;>
  (go_wp2_with (first | (refine wpList_mid rfl 41 _ rfl g 0 rfl [.int .i64 ra,.int .i64 rn] _ HR0.out ikUnd rfl (HIL.out _ _) ?_) | (refine wpList_mid rfl 41 _ rfl g 2 rfl [.int .i64 ca,.int .i64 cn] _ HR1.out ikUnd rfl (HIL.out _ _) ?_) | fail)
   first | go_ret | go_ret2
   exact ⟨rfl,HB.out⟩)
theorem results_tmp4 {P : Program} {fn : Func} {a b c d : Tmp} (h : fn.results = #[.tmp a,.tmp b,.tmp c,.tmp d]) (tmps : Array Value) (w : World) : (results fn tmps).run P w = .ok (.tuple #[tmps.getD a undef,tmps.getD b undef,tmps.getD c undef,tmps.getD d undef]) w:=by
 simp [results,h]
def BuiltPost (P : Pn) (w : World) (e : Ending) (w' : World) : Prop :=
 (e = .returned (.tuple #[.pointer none,.slice none 0 0,.slice none 0 0,.int .i64 0]) ∧ Below w.heap.size w w') ∨
 ∃ s p q ce na n A1 c1 A2 c2 C Zr Zc Zs,e = .returned (.tuple #[.pointer (some ⟨s,0,none⟩),.slice A1 (liveL (P.rows % 10) (P.dead.map Ad.row)).length c1,.slice A2 (liveL (P.cols % 10) (P.dead.map Ad.col)).length c2,.int .i64 1]) ∧
  ShZ w' w.heap.size s p q ce na n ((P.dead.map Ad.row).foldl kill (allL (freshL (P.rows % 10)))) ((P.dead.map Ad.col).foldl kill (allL (freshL (P.cols % 10)))) C Zr Zc Zs ∧
  w'.ownsRow w.heap.size 41 2 (.slice A1 (liveL (P.rows % 10) (P.dead.map Ad.row)).length c1) (liveL (P.rows % 10) (P.dead.map Ad.row)).length (ikCells (liveL (P.rows % 10) (P.dead.map Ad.row))) ∧
  w'.ownsRow w.heap.size 41 2 (.slice A2 (liveL (P.cols % 10) (P.dead.map Ad.col)).length c2) (liveL (P.cols % 10) (P.dead.map Ad.col)).length (ikCells (liveL (P.cols % 10) (P.dead.map Ad.col))) ∧
  (n ≤ 40 ∧ C.length ≤ 40 ∧ (∀ b,Zs b → b < w'.heap.size) ∧ (∀ b,Zs b → some b ≠ (Value.slice A1 (liveL (P.rows % 10) (P.dead.map Ad.row)).length c1).ownBlock ∧ some b ≠ (Value.slice A2 (liveL (P.cols % 10) (P.dead.map Ad.col)).length c2).ownBlock)) ∧
  Below w.heap.size w w'
end Go.Proofs.YtjobojfaocihfaaGreat
namespace Go.Proofs.YtjobojfaocihfaaGreat
set_option maxRecDepth 100000
set_option linter.unusedSimpArgs false
set_option linter.unusedVariables false
open Go Go.RowKit Go.Shelf Go.Maps
theorem infB3 : ∀ a b c : Value,(Tryz.prog.info? 36).map (·.size) = some (#[a,b,c] : Array Value).size:=fun _ _ _ => by kernel_rfl
theorem undB3 : Tryz.prog.underlying 36 = some (.struct (Tryz.prog.fieldsOf 36)):=by kernel_rfl
abbrev blockZ : Array Value:=#[.int .i64 0,.int .i64 0,.slice none 0 0]
theorem wholeS_c {w : World} {s : Nat} {a b c d : Addr} (h : w.heap[s]? = some (.cells #[.pointer (some a),.pointer (some b),.pointer (some c),.pointer (some d)] 66)) : Calls Tryz.prog 34 #[.pointer (some ⟨s,0,none⟩)] w fun e w' => e = .returned (.bool true) ∧ w' = w:=by
 have c0 : w.cell? ⟨s,0,none⟩ = some (.pointer (some a)):=cell_of_row _ _ 0 _ _ _ h
 have c1 : w.cell? ⟨s,1,none⟩ = some (.pointer (some b)):=cell_of_row _ _ 1 _ _ _ h
 have c2 : w.cell? ⟨s,2,none⟩ = some (.pointer (some c)):=cell_of_row _ _ 2 _ _ _ h
 have c3 : w.cell? ⟨s,3,none⟩ = some (.pointer (some d)):=cell_of_row _ _ 3 _ _ _ h
 clear h
 go_enter Tryz.func34,Tryz.ntmps34
 go_wp2
 go_ret
 exact ⟨rfl,rfl⟩
def thereB (n first many : Int) : Bool:=decide (many ≥ 1) && decide (first ≥ 0) && decide (first < n) && decide (many ≤ n - first)
theorem there_c (w : World) (n first many : Int) (hn : 0 ≤ n ∧ n ≤ 1000000) : Calls Tryz.prog 35 #[.int .i64 n,.int .i64 first,.int .i64 many] w fun e w' => e = .returned (.bool (thereB n first many)) ∧ w' = w:=by
 unfold thereB
 by_cases h1 : 1 ≤ many
 · by_cases h2 : 0 ≤ first
   · by_cases h3 : first < n
     · have hw : wrap64 (n - first) = n - first:=by unfold wrap64; omega
       by_cases h4 : many ≤ n - first
       · rw [show (decide (many ≥ 1) && decide (first ≥ 0) && decide (first < n) && decide (many ≤ n - first)) = true by simp [h1,h2,h3,h4]]
         go_enter Tryz.func35,Tryz.ntmps35
         go_wp2
         all_goals (go_ret; exact ⟨rfl,rfl⟩)
       · rw [show (decide (many ≥ 1) && decide (first ≥ 0) && decide (first < n) && decide (many ≤ n - first)) = false by simp [h1,h2,h3,h4]]
         go_enter Tryz.func35,Tryz.ntmps35
         go_wp2
         all_goals (go_ret; exact ⟨rfl,rfl⟩)
     · rw [show (decide (many ≥ 1) && decide (first ≥ 0) && decide (first < n) && decide (many ≤ n - first)) = false by simp [h1,h2,h3]]
       go_enter Tryz.func35,Tryz.ntmps35
       go_wp2
       all_goals (go_ret; exact ⟨rfl,rfl⟩)
   · rw [show (decide (many ≥ 1) && decide (first ≥ 0) && decide (first < n) && decide (many ≤ n - first)) = false by simp [h1,h2]]
     go_enter Tryz.func35,Tryz.ntmps35
     go_wp2
     all_goals (go_ret; exact ⟨rfl,rfl⟩)
 · rw [show (decide (many ≥ 1) && decide (first ≥ 0) && decide (first < n) && decide (many ≤ n - first)) = false by simp [h1]]
   go_enter Tryz.func35,Tryz.ntmps35
   go_wp2
   all_goals (go_ret; exact ⟨rfl,rfl⟩)
end Go.Proofs.YtjobojfaocihfaaGreat
namespace Go.Proofs.YtjobojfaocihfaaGreat
set_option maxRecDepth 100000
set_option linter.unusedSimpArgs false
set_option linter.unusedVariables false
open Go Go.RowKit Go.Shelf Go.Maps
theorem lenW_c {w : World} {p : Nat} {L : IL} (h : AxW w p L) (hgd : L.Ok) :
 Calls Tryz.prog 36 #[.pointer (some ⟨p,0,none⟩)] w fun e w' => e = .returned (.int .i64 (L.alive.length : Nat)) ∧ AxRd w' p L ∧ KeepA p w w':=by
 have HR:=Jh (readyW_c h hgd)
 obtain ⟨m,hm⟩ : ∃ m,L.alive.length = m:=⟨_,rfl⟩
 have HM:=Jh hm
 rw [hm]
 have la:=hgd.len
 have lb:=IL.alive_len L
 have hm2 : m ≤ 1000:=by omega
 clear h hm hgd la lb
 go_enter Tryz.func36,Tryz.ntmps36
 go_wp2_with (go_at_call 73; refine HR.out.mono ?_; rintro e w1 ⟨rfl,hR⟩; have HX:=Jh hR; obtain ⟨Ai,ci,Al,cl,b,Aa,ca,Av,cv,hA⟩:=hR.1; have c4 : w1.cell? ⟨p,4,none⟩ = some (.slice Av m cv):=HM.out ▸ cell_of_row _ _ 4 _ _ _ hA.own; clear hA hR)
 go_ret
 exact ⟨rfl,HX.out⟩
theorem takeOut_c {w : World} {s p : Nat} {x y z : Addr} {L : IL} (h : w.heap[s]? = some (.cells #[.pointer (some ⟨p, 0, none⟩), .pointer (some x), .pointer (some y), .pointer (some z)] 66)) (hL : L.Ok) (hp : AxW w p L) (a b c d : Int) (ht : thereB (L.alive.length : Nat) a c = false) :
 Calls Tryz.prog 11 #[.pointer (some ⟨s,0,none⟩),.int .i64 a,.int .i64 b,.int .i64 c,.int .i64 d] w fun e w' => e = .returned (.tuple #[.agg blockZ,.int .i64 2]) ∧ KeepA p w w':=by
 obtain ⟨g,hg⟩ : ∃ g,g = w.heap.size:=⟨_,rfl⟩
 obtain ⟨W,hW⟩ : ∃ W,W = w.alloc (.cells blockZ 36):=⟨_,rfl⟩
 have hk : W.heap[g]? = some (.cells blockZ 36):=by rw [hW,hg]; exact heap_alloc_new _ _
 have hb : Below w.heap.size w W:=by rw [hW]; exact (Below.refl _ w).alloc (Nat.le_refl _) _
 have hsW:=(hb.block s (Jg h).1).trans h
 have c0 : W.cell? ⟨s,0,none⟩ = some (.pointer (some ⟨p,0,none⟩)):=cell_of_row _ _ 0 _ _ _ hsW
 have HWH:=Jh (wholeS_c hsW)
 have HLN:=Jh (lenW_c (hp.below hb) hL)
 have hpg : p < g:=by rw [hg]; exact hp.lt
 have la:=hL.len
 have lb:=IL.alive_len L
 obtain ⟨m,hm⟩ : ∃ m,L.alive.length = m:=⟨_,rfl⟩
 rw [hm] at HLN ht lb
 have HTH:=Jh (fun (w : World) => there_c w (m : Int) a c (by omega))
 rw [ht] at HTH
 have HG:=Jh hg
 have HW:=Jh hW
 have HK:=Jh hk
 have HB:=Jh hb
 have HI:=Jh infB3
 have HPG:=Jh hpg
 clear hg hW hk hb hsW h hL hp la lb hm ht hpg
 go_enter Tryz.func11,Tryz.ntmps11
 go_upto_region 1 with (fail)
 change Code.wp _ _ _ _ (w.alloc (.cells blockZ 36))
 rw [← HW.out,← HG.out]
 go_upto_region 4 with (first | (go_at_call 34; refine HWH.out.mono ?_; rintro e w' ⟨rfl,rfl⟩) | (go_at_call 36; refine HLN.out.mono ?_; rintro e w1 ⟨rfl,hR⟩; have HX:=Jh hR; clear hR) | (go_at_call 35; refine (HTH.out _).mono ?_; rintro e w' ⟨rfl,rfl⟩) | fail)
 have HK1:=Jh ((HX.out.2.block g (Jg HK.out).1 (by have:=HPG.out; omega)).trans HK.out)
 go_wp2_with (first | (refine wpList_store_row rfl 36 _ _ rfl g blockZ rfl rfl 36 blockZ HK1.out (HI.out _ _ _) rfl (by kernel_rfl) ?_) | fail)
 refine bodyPost_ret (v:=.tuple #[.agg blockZ,.int .i64 2]) (results_cell_flagA (p:=10) (u:=11) rfl _ _ g 36 blockZ (0,0) _ rfl (setRow_heap _ _ _ _ _ _ HK1.out) undB3 rfl (HI.out _ _ _)) rfl ?_
 refine ⟨rfl,?_⟩
 have h1:=(KeepA.of (p:=p) HB.out).trans HX.out.2
 exact ⟨h1.os,h1.tape,h1.output,by simpa using h1.size,fun k hk hn => (setRow_other _ _ _ _ (by have:=HG.out; omega)).trans (h1.block k hk hn)⟩
def oneD (ra rn ca cn : Int) : ND:=⟨1,⟨0,0,0,⟨#[]⟩,false,0⟩,⟨#[]⟩,⟨ra,rn,ca,cn,false,false⟩,⟨0,0,0,0,false,false⟩,0⟩
theorem infC4 : ∀ a b c d : Value,(Tryz.prog.info? 43).map (·.size) = some (#[a,b,c,d] : Array Value).size:=fun _ _ _ _ => by kernel_rfl
theorem undC4 : Tryz.prog.underlying 43 = some (.struct (Tryz.prog.fieldsOf 43)):=by kernel_rfl
theorem at28_c (w : World) (r c : Int) : Calls Tryz.prog 26 #[.int .i64 r,.int .i64 c] w fun e w' => e = .returned (.agg #[.int .i64 0,.int .i64 r,.int .i64 0,.int .i64 c]) ∧ Below w.heap.size w w':=by
 obtain ⟨g,hg⟩ : ∃ g,g = w.heap.size:=⟨_,rfl⟩
 obtain ⟨W,hW⟩ : ∃ W,W = w.alloc (.cells #[.int .i64 0,.int .i64 0,.int .i64 0,.int .i64 0] 43):=⟨_,rfl⟩
 have hk : W.heap[g]? = some (.cells #[.int .i64 0,.int .i64 0,.int .i64 0,.int .i64 0] 43):=by rw [hW,hg]; exact heap_alloc_new _ _
 have hb : Below w.heap.size w W:=by rw [hW]; exact (Below.refl _ w).alloc (Nat.le_refl _) _
 have HG:=Jh hg
 have HW:=Jh hW
 have HK:=Jh hk
 have HB:=Jh hb
 have HI:=Jh infC4
 clear hg hW hk hb
 go_enter Tryz.func26,Tryz.ntmps26
 go_upto_region 1 with (fail)
 change Code.wp _ _ _ _ (w.alloc (.cells #[.int .i64 0,.int .i64 0,.int .i64 0,.int .i64 0] 43))
 rw [← HW.out,← HG.out]
 go_wp2_with (first | (refine wpList_store_row rfl 43 _ _ rfl g #[.int .i64 0,.int .i64 r,.int .i64 0,.int .i64 c] rfl rfl 43 #[.int .i64 0,.int .i64 0,.int .i64 0,.int .i64 0] HK.out (HI.out _ _ _ _) rfl (by kernel_rfl) ?_) | fail)
 refine bodyPost_ret (v:=.agg #[.int .i64 0,.int .i64 r,.int .i64 0,.int .i64 c]) (results_cell_row rfl _ _ g 43 #[.int .i64 0,.int .i64 r,.int .i64 0,.int .i64 c] (0,0) _ rfl (setRow_heap _ _ _ _ _ _ HK.out) undC4 rfl (HI.out _ _ _ _)) rfl ?_
 exact ⟨rfl,below_row HB.out (by rw [HG.out]; exact Nat.le_refl _) _⟩
theorem one28_c (w : World) (ra rn ca cn : Int) : Calls Tryz.prog 25 #[.agg #[.int .i64 ra,.int .i64 rn,.int .i64 ca,.int .i64 cn]] w fun e w' => e = .returned (.agg (nodeA (oneD ra rn ca cn) none 0 0)) ∧ Below w.heap.size w w':=by
 obtain ⟨g,hg⟩ : ∃ g,g = w.heap.size:=⟨_,rfl⟩
 obtain ⟨W,hW⟩ : ∃ W,W = (w.alloc (.cells #[.int .i64 ra,.int .i64 rn,.int .i64 ca,.int .i64 cn] 43)).alloc (.cells (nodeA zD none 0 0) 54):=⟨_,rfl⟩
 obtain ⟨N,hN⟩ : ∃ N,N = nodeA (oneD ra rn ca cn) none 0 0:=⟨_,rfl⟩
 have hk0 : W.heap[g]? = some (.cells #[.int .i64 ra,.int .i64 rn,.int .i64 ca,.int .i64 cn] 43):=by rw [hW,hg]; exact (heapOld _ _ _ (by simp)).trans (heap_alloc_new _ _)
 have hk : W.heap[g + 1]? = some (.cells (nodeA zD none 0 0) 54):=by
  rw [hW,hg]; have:=heap_alloc_new (w.alloc (.cells #[.int .i64 ra,.int .i64 rn,.int .i64 ca,.int .i64 cn] 43)) (.cells (nodeA zD none 0 0) 54); rwa [World.size_alloc] at this
 have hb : Below w.heap.size w W:=by rw [hW]; exact ((Below.refl _ w).alloc (Nat.le_refl _) _).alloc (by simp) _
 have HG:=Jh hg
 have HW:=Jh hW
 have HK:=Jh hk
 have HB:=Jh hb
 have HR0:=Jh (range_row4 hk0).1
 have HR1:=Jh (range_row4 hk0).2
 have HIL:=Jh (show ∀ a b : Value,(Tryz.prog.info? 41).map (·.size) = some [a,b].length from fun _ _ => infIk)
 have HN:=Jh hN
 have HNS : Hid (N.size = 22 ∧ N.all (·.oneCell') = true):=Jh (by rw [hN]; exact ⟨rfl,node_one _ _ _ _⟩)
 rw [← hN]
 clear hg hW hk hk0 hb hN
 go_enter Tryz.func25,Tryz.ntmps25
 go_upto_region 1 with (first | (refine wpList_nodeVar rfl rfl (w.heap.size + 1) (by simp) ?_) | fail)
 change Code.wp _ _ _ _ ((w.alloc (.cells #[.int .i64 ra,.int .i64 rn,.int .i64 ca,.int .i64 cn] 43)).alloc (.cells (nodeA zD none 0 0) 54))
 rw [← HW.out,← HG.out]
 go_wp2_with (first | (refine wpList_mid rfl 41 _ rfl g 0 rfl [.int .i64 ra,.int .i64 rn] _ HR0.out ikUnd rfl (HIL.out _ _) ?_) | (refine wpList_mid rfl 41 _ rfl g 2 rfl [.int .i64 ca,.int .i64 cn] _ HR1.out ikUnd rfl (HIL.out _ _) ?_) | (refine wpList_buildSome rfl 54 _ rfl N ?_ ?_; focus (rw [HN.out]; kernel_rfl)) | (refine wpList_store_row rfl 54 _ _ rfl (g + 1) N rfl rfl 54 (nodeA zD none 0 0) HK.out (infS HNS.out.1) HNS.out.1.symm HNS.out.2 ?_) | fail)
 refine bodyPost_ret (v:=.agg N) (results_cell_row rfl _ _ (g + 1) 54 N (0,0) _ rfl (setRow_heap _ _ _ _ _ _ HK.out) undN rfl (infS HNS.out.1)) rfl ?_
 exact ⟨rfl,below_row HB.out (by rw [HG.out]; omega) _⟩
end Go.Proofs.YtjobojfaocihfaaGreat
