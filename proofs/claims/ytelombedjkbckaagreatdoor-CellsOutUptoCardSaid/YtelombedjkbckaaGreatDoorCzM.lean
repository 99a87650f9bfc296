/- All nodes of a tree in memory are well formed; how long a text is. -/
import Derived.Test.YtelombedjkbckaaGreatDoorCwBuCx
namespace Go.Proofs.YtelombedjkbckaaGreatDoor
open Go.RowKit Go.Shelf
theorem NodeAt.all_ok {w : World} {B : Nat} (t : Tr) : ∀ b o,NodeAt w B b o t → ∀ x ∈ t.nodes,x.d.ok ∧ x.l.length ≤ 9223372036854775807:=by
 induction t using Tr.ind with
 | _ d l ih =>
  intro b o h x hx
  simp only [NodeAt] at h
  obtain ⟨hb,hd,A,c,hc,h1,h2,h3⟩:=h
  simp only [Tr.nodes,List.mem_cons] at hx
  rcases hx with rfl | hx
  · exact ⟨hd,by simp only [Tr.l]; omega⟩
  · have key : ∀ (l : List Tr),(∀ k ∈ l,∀ x ∈ k.nodes,x.d.ok ∧ x.l.length ≤ 9223372036854775807) → ∀ x ∈ Tr.nodess l,x.d.ok ∧ x.l.length ≤ 9223372036854775807:=by
     intro l
     induction l with
     | nil => intro _ x hx; simp [Tr.nodess] at hx
     | cons a l ih2 =>
      intro hl x hx
      simp only [Tr.nodess,List.mem_append] at hx
      rcases hx with hx | hx
      · exact hl a (by simp) x hx
      · exact ih2 (fun k hk => hl k (by simp [hk])) x hx
    refine key l (fun k hk => ?_) x hx
    rcases h3 with rfl | ⟨b',o',hA,hkids⟩
    · cases hk
    · obtain ⟨i,hi,rfl⟩:=List.mem_iff_getElem.1 hk
      exact ih _ hk _ _ (hkids.get i hi)
theorem SlAt.all_ok {w : World} {B : Nat} {A : Option Addr} {c : Nat} {t : Tr} (hd : t.d.ok) (hs : SlAt w B A c t.l) : ∀ x ∈ t.nodes,x.d.ok ∧ x.l.length ≤ 9223372036854775807:=by
 intro x hx
 obtain ⟨d,l⟩:=t
 simp only [Tr.nodes,List.mem_cons] at hx
 rcases hx with rfl | hx
 · exact ⟨hd,by have:=hs.1; have:=hs.2.1; simp only [Tr.l] at *; omega⟩
 · have key : ∀ (l : List Tr),(∀ k ∈ l,∀ x ∈ k.nodes,x.d.ok ∧ x.l.length ≤ 9223372036854775807) → ∀ x ∈ Tr.nodess l,x.d.ok ∧ x.l.length ≤ 9223372036854775807:=by
    intro l
    induction l with
    | nil => intro _ x hx; simp [Tr.nodess] at hx
    | cons a l ih2 =>
     intro hl x hx
     simp only [Tr.nodess,List.mem_append] at hx
     rcases hx with hx | hx
     · exact hl a (by simp) x hx
     · exact ih2 (fun k hk => hl k (by simp [hk])) x hx
   refine key l (fun k hk => ?_) x hx
   obtain ⟨i,hi,rfl⟩:=List.mem_iff_getElem.1 hk
   obtain ⟨kb,ko,-,hn⟩:=hs.at_ i hi
   exact NodeAt.all_ok _ _ _ hn
theorem code_le {t : Tr} (hok : ∀ x ∈ t.nodes,x.d.ok ∧ x.l.length ≤ 9223372036854775807) (hsh : Short t) : (codeL t).length ≤ t.size * 2000301:=by
 rw [← nodes_len t]
 unfold codeL
 have : ∀ l : List Tr,(∀ x ∈ l,x ∈ t.nodes) → (l.flatMap fun x => codeOne x.d x.l.length).length ≤ l.length * 2000301:=by
  intro l
  induction l with
  | nil => intro _; simp
  | cons a l ih =>
   intro hl
   have h1:=hl a (by simp)
   have h2:=part_le a.d a.l.length (hok a h1).1 (hok a h1).2 (hsh a h1).1 (hsh a h1).2
   have h3:=ih (fun x hx => hl x (by simp [hx]))
   simp only [List.flatMap_cons,List.length_append,codeOne,List.length_cons,List.length_nil] at h3 ⊢
   omega
 exact this _ (fun x hx => hx)
end Go.Proofs.YtelombedjkbckaaGreatDoor
