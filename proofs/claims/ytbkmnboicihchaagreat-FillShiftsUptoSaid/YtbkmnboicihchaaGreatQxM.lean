/- what Build gives,of one form. -/
import Derived.Test.YtbkmnboicihchaaGreatQlIt
namespace Go.Proofs.YtbkmnboicihchaaGreat
set_option linter.unusedSimpArgs false
set_option linter.unusedVariables false
open Go Go.RowKit Go.Shelf Go.Maps
theorem AdSl.below {w w' : World} {B B' : Nat} {A : Option Addr} {c : Nat} {l : List Ad} (h : AdSl w B A c l) (hb : Below B w w') (hB : B ≤ B') : AdSl w' B' A c l:=by
 obtain ⟨h1,h2,h3,h4⟩:=h
 refine ⟨h1,h2,h3,?_⟩
 rcases h4 with h4 | ⟨b,o,e,hl,h4⟩
 · exact .inl h4
 · exact .inr ⟨b,o,e,Nat.lt_of_lt_of_le hl hB,fun j hj i v hv => (World.cell?_of_block (a:=⟨b,o + j * 4 + i,none⟩) (hb.block b hl)).trans (h4 j hj i v hv)⟩
theorem ACSl.below {w w' : World} {B B' : Nat} {A : Option Addr} {c : Nat} {l : List (Ad × Ct)} (h : ACSl w B A c l) (hb : Below B w w') (hB : B ≤ B') : ACSl w' B' A c l:=by
 obtain ⟨h1,h2,h3,h4⟩:=h
 refine ⟨h1,h2,h3,?_⟩
 rcases h4 with h4 | ⟨b,o,e,hl,h4⟩
 · exact .inl h4
 · refine .inr ⟨b,o,e,Nat.lt_of_lt_of_le hl hB,fun j hj => ?_⟩
   obtain ⟨A',c',h5,h6⟩:=h4 j hj
   exact ⟨A',c',fun i v hv => (World.cell?_of_block (a:=⟨b,o + j * 33 + i,none⟩) (hb.block b hl)).trans (h5 i v hv),(h6.below hb).more hB⟩
theorem built_form {P : Pn} {w w' : World} {e : Ending} (h : BuiltPost P w e w') : ∃ v7 v8 v9 k, e = .returned (.tuple #[v7, v8, v9, .int .i64 k]) ∧ Below w.heap.size w w' ∧ (k = 0 ∨ (k = 1 ∧
   ∃ s p q ce na n A1 c1 A2 c2 C Zr Zc Zs,v7 = .pointer (some ⟨s,0,none⟩) ∧ v8 = .slice A1 (liveL (P.rows % 10) (P.dead.map Ad.row)).length c1 ∧ v9 = .slice A2 (liveL (P.cols % 10) (P.dead.map Ad.col)).length c2 ∧
   ShZ w' w.heap.size s p q ce na n ((P.dead.map Ad.row).foldl kill (allL (freshL (P.rows % 10)))) ((P.dead.map Ad.col).foldl kill (allL (freshL (P.cols % 10)))) C Zr Zc Zs ∧
   w'.ownsRow w.heap.size 27 2 (.slice A1 (liveL (P.rows % 10) (P.dead.map Ad.row)).length c1) (liveL (P.rows % 10) (P.dead.map Ad.row)).length (ikCells (liveL (P.rows % 10) (P.dead.map Ad.row))) ∧
   w'.ownsRow w.heap.size 27 2 (.slice A2 (liveL (P.cols % 10) (P.dead.map Ad.col)).length c2) (liveL (P.cols % 10) (P.dead.map Ad.col)).length (ikCells (liveL (P.cols % 10) (P.dead.map Ad.col))))):=by
 rcases h with ⟨rfl,hb⟩ | ⟨s,p,q,ce,na,n,A1,c1,A2,c2,C,Zr,Zc,Zs,rfl,h1,h2,h3,hb⟩
 · exact ⟨_,_,_,_,rfl,hb,.inl rfl⟩
 · exact ⟨_,_,_,_,rfl,hb,.inr ⟨rfl,s,p,q,ce,na,n,A1,c1,A2,c2,C,Zr,Zc,Zs,rfl,rfl,rfl,h1,h2,h3⟩⟩
theorem kills_Ok : ∀ (l : List Ik) {L : IL},L.Ok → (l.foldl kill L).Ok
 | [],_,h => h
 | x :: l,_,h => kills_Ok l (kill_Ok h x)
theorem built_Ok (m : Nat) (l : List Ik) : (l.foldl kill (allL (freshL (m % 10)))).Ok:=kills_Ok l (fresh_Ok (by omega))
theorem ShZ.apart {W : World} {lo s p q ce na n : Nat} {L M : IL} {C : List (Ad × Ct)} {Zr Zc Zs : Nat → Prop} (h : ShZ W lo s p q ce na n L M C Zr Zc Zs) : p ≠ q ∧ lo ≤ p ∧ lo ≤ q:=by
 obtain ⟨_,_,_,_,-,hp,-⟩:=h.rows
 obtain ⟨_,_,_,_,-,hq,-⟩:=h.cols
 exact ⟨fun e => ((h.dis p).1 hp).1 (e ▸ hq),h.loz p (.inl hp),h.loz q (.inr (.inl hq))⟩
end Go.Proofs.YtbkmnboicihchaaGreat
