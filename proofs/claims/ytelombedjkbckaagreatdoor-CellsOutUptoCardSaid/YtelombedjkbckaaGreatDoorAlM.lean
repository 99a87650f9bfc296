/- tree.alike,tree.bare and what they compare. -/
import Derived.Test.YtelombedjkbckaaGreatDoorSrRFWkSz
import Derived.Deep.QuietTactic
import Derived.BigQuiet
import Derived.Laws.StructEq
namespace Go.Proofs.YtelombedjkbckaaGreatDoor
set_option maxRecDepth 100000
set_option maxHeartbeats 2000000
open Go.RowKit Go.Shelf
theorem alike_c (w : World) (b o b' o' : Nat) (d d' : ND) (A A' : Option Addr) (n c n' c' : Nat) (h : NodeCells w b o d A n c) (h' : NodeCells w b' o' d' A' n' c') :
 Calls Tryz.prog 72 #[.pointer (some ⟨b,o,none⟩),.pointer (some ⟨b',o',none⟩)] w fun e w' => e = .returned (.bool (decide (d = d' ∧ n = n'))) ∧ ∃ m,w' = w.drewN m:=by
 obtain ⟨h0,h1,h2,h3,h4,h5,h6,h7,h8,h9,h10,h11,h12,h13,h14,h15,h16,h17,h18,h19,h20,h21⟩:=h.all
 obtain ⟨h'0,h'1,h'2,h'3,h'4,h'5,h'6,h'7,h'8,h'9,h'10,h'11,h'12,h'13,h'14,h'15,h'16,h'17,h'18,h'19,h'20,h'21⟩:=h'.all
 clear h h'
 obtain ⟨kind,v,name,a,q,rows⟩:=d
 obtain ⟨kind',v',name',a',q',rows'⟩:=d'
 dsimp only at h0 h1 h2 h3 h4 h5 h6 h7 h8 h9 h10 h11 h12 h13 h14 h15 h16 h17 h18 h19 h20 h21 h'0 h'1 h'2 h'3 h'4 h'5 h'6 h'7 h'8 h'9 h'10 h'11 h'12 h'13 h'14 h'15 h'16 h'17 h'18 h'19 h'20 h'21
 have HV:=Jh (fun w => eqV w v v')
 have HA:=Jh (fun w => eqA w a q a' q')
 by_cases e : kind = kind'
 case neg =>
  have q1 : (kind == kind') = false:=by simpa using e
  have q2 : decide (kind = kind') = false:=by simpa using e
  go_enter Tryz.func72,Tryz.ntmps72
  go_wp2
  try simp only [List.append_eq,List.cons_append,List.nil_append]
  go_big_quiet (fail)
  go_wp2
  go_ret
  exact ⟨by simp [e],_,rfl⟩
 subst e
 by_cases e : v = v'
 case neg =>
  have q1:=fun w => HV.out w
  rw [decide_eq_false e] at q1
  go_enter Tryz.func72,Tryz.ntmps72
  go_wp2
  try simp only [List.append_eq,List.cons_append,List.nil_append]
  go_big_quiet (fail)
  go_wp2
  go_ret
  exact ⟨by simp [e],_,rfl⟩
 subst e
 have r1:=fun w => HV.out w
 rw [decide_eq_true rfl] at r1
 by_cases e : name = name'
 case neg =>
  have q1 : (name.toList == name'.toList) = false:=by rw [beq_eq_false_iff_ne]; intro h; rw [str_eq] at h; exact e h
  have q2 : decide (name.toList = name'.toList) = false:=by rw [decide_eq_false_iff_not,str_eq]; exact e
  go_enter Tryz.func72,Tryz.ntmps72
  go_wp2
  try simp only [List.append_eq,List.cons_append,List.nil_append]
  go_big_quiet (fail)
  go_wp2
  go_ret
  exact ⟨by simp [e],_,rfl⟩
 subst e
 by_cases e : a = a' ∧ q = q'
 case neg =>
  have q1:=fun w => HA.out w
  rw [decide_eq_false e] at q1
  go_enter Tryz.func72,Tryz.ntmps72
  go_wp2
  try simp only [List.append_eq,List.cons_append,List.nil_append]
  go_big_quiet (fail)
  go_wp2
  go_ret
  exact ⟨by simp only [ND.mk.injEq,true_and]; rw [decide_eq_false (fun h => e ⟨h.1.1,h.1.2.1⟩)]; rfl,_,rfl⟩
 obtain ⟨rfl,rfl⟩:=e
 have r2:=fun w => HA.out w
 rw [decide_eq_true ⟨rfl,rfl⟩] at r2
 by_cases e : rows = rows'
 case neg =>
  have q1 : (rows == rows') = false:=by simpa using e
  have q2 : decide (rows = rows') = false:=by simpa using e
  go_enter Tryz.func72,Tryz.ntmps72
  go_wp2
  try simp only [List.append_eq,List.cons_append,List.nil_append]
  go_big_quiet (fail)
  go_wp2
  go_ret
  exact ⟨by simp [e],_,rfl⟩
 subst e
 by_cases e : n = n'
 case neg =>
  have q1 : ((n : Int) == (n' : Int)) = false:=by rw [beq_eq_false_iff_ne]; omega
  have q2 : decide ((n : Int) = (n' : Int)) = false:=by rw [decide_eq_false_iff_not]; omega
  go_enter Tryz.func72,Tryz.ntmps72
  go_wp2
  try simp only [List.append_eq,List.cons_append,List.nil_append]
  go_big_quiet (fail)
  go_wp2
  go_ret
  exact ⟨by simp [e],_,rfl⟩
 subst e
 go_enter Tryz.func72,Tryz.ntmps72
 go_wp2
 try simp only [List.append_eq,List.cons_append,List.nil_append]
 go_big_quiet (fail)
 go_wp2
 go_ret
 exact ⟨by simp,_,rfl⟩
end Go.Proofs.YtelombedjkbckaaGreatDoor
