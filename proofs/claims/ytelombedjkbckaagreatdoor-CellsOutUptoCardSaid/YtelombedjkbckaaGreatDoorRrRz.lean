/- tree.isUnary,isBinary,rightRange. tree.right: what it tells,in plain words. -/
import Derived.Test.YtelombedjkbckaaGreatDoorRlChCmCc
import Derived.BigRegion
import Derived.Test.YtelombedjkbckaaGreatDoorCdM
import Derived.Test.YtelombedjkbckaaGreatDoorBaStSqXa
import Derived.Test.YtelombedjkbckaaGreatDoorNd
import Derived.Deep.MidRow
import Derived.BigFrame
import Derived.Deep.CutBlock
import Derived.IntWalk
namespace Go.Proofs.YtelombedjkbckaaGreatDoor
set_option maxRecDepth 100000
set_option maxHeartbeats 2000000
open Go.RowKit Go.Shelf
def unaryB (s : ByteArray) : Bool:=(s.toList == [45]) || (s.toList == [43]) || (s.toList == [37])
def binaryB (s : ByteArray) : Bool:=(s.toList == [43]) || (s.toList == [45]) || (s.toList == [42]) || (s.toList == [47]) || (s.toList == [94]) || (s.toList == [38]) || (s.toList == [61]) || (s.toList == [60,62]) || (s.toList == [60]) || (s.toList == [60,61]) || (s.toList == [62]) || (s.toList == [62,61])
theorem isUnary_any (s : ByteArray) (w : World) : Calls Tryz.prog 103 #[.string s] w fun e w' => e = .returned (.bool (unaryB s)) ∧ w = w':=by
 obtain ⟨r,hr⟩ : ∃ r,unaryB s = r:=⟨_,rfl⟩
 rw [hr]
 unfold unaryB at hr
 have HR:=Jh hr
 clear hr
 go_enter Tryz.func103,Tryz.ntmps103
 go_wp2
 all_goals
  go_ret
  exact ⟨ret_bool (by rw [← HR.out]; clear HR; simp_all),rfl⟩
theorem isBinary_any (s : ByteArray) (w : World) : Calls Tryz.prog 104 #[.string s] w fun e w' => e = .returned (.bool (binaryB s)) ∧ w = w':=by
 obtain ⟨r,hr⟩ : ∃ r,binaryB s = r:=⟨_,rfl⟩
 rw [hr]
 unfold binaryB at hr
 have HR:=Jh hr
 clear hr
 go_enter Tryz.func104,Tryz.ntmps104
 go_wp2
 all_goals
  go_ret
  exact ⟨ret_bool (by rw [← HR.out]; clear HR; simp_all),rfl⟩
def Cn.arr (c : Cn) : Array Value:=#[.int .i64 c.ra,.int .i64 c.rn,.int .i64 c.ca,.int .i64 c.cn,.bool c.fr,.bool c.fc]
def areaV (a b : Cn) : Array Value:=#[.int .i64 a.ra,.int .i64 a.rn,.int .i64 a.ca,.int .i64 a.cn,.bool a.fr,.bool a.fc,.int .i64 b.ra,.int .i64 b.rn,.int .i64 b.ca,.int .i64 b.cn,.bool b.fr,.bool b.fc]
def Cn.row (c : Cn) : Bool:=!decide (c.ra = 0 ∧ c.rn = 0)
def Cn.col (c : Cn) : Bool:=!decide (c.ca = 0 ∧ c.cn = 0)
def rangeB (a b : Cn) : Bool:=(a.row == b.row) && (a.col == b.col) && (a.row || a.col) && (a.row || !a.fr && !b.fr) && (a.col || !a.fc && !b.fc)
theorem rightRange_any (a b : Cn) (w : World) : Calls Tryz.prog 101 #[.agg (areaV a b)] w fun e w' => e = .returned (.bool (rangeB a b)) ∧ Below w.heap.size w w':=by
 have e1:=fun w => eqI w a.ra a.rn 0 0
 have e2:=fun w => eqI w a.ca a.cn 0 0
 have e3:=fun w => eqI w b.ra b.rn 0 0
 have e4:=fun w => eqI w b.ca b.cn 0 0
 unfold rangeB Cn.row Cn.col areaV
 generalize decide (a.ra = 0 ∧ a.rn = 0) = q1 at *
 generalize decide (a.ca = 0 ∧ a.cn = 0) = q2 at *
 generalize decide (b.ra = 0 ∧ b.rn = 0) = q3 at *
 generalize decide (b.ca = 0 ∧ b.cn = 0) = q4 at *
 obtain ⟨a1,a2,a3,a4,a5,a6⟩:=a
 obtain ⟨b1,b2,b3,b4,b5,b6⟩:=b
 dsimp only at e1 e2 e3 e4 ⊢
 go_enter Tryz.func101,Tryz.ntmps101
 go_wp2
 go_region
 all_goals
  go_wp2
  go_quiet (fail)
  cases q1 <;> cases q3
  case' false.false => cases q2 <;> cases q4
  case' true.true => cases q2 <;> cases q4
  all_goals
   go_wp2
   all_goals
    go_ret
    refine ⟨ret_bool (by simp_all),?_⟩
    repeat (first | exact Below.refl _ _ | refine below_drewN ?_ _ | refine Below.alloc ?_ (by first | exact Nat.le_refl _ | (simp; done) | (simp; omega)) _ | refine Below.drew ?_)
end Go.Proofs.YtelombedjkbckaaGreatDoor
namespace Go.Proofs.YtelombedjkbckaaGreatDoor
set_option maxRecDepth 100000
open Go.RowKit Go.Shelf
def zeroCn : Cn:=⟨0,0,0,0,false,false⟩
def zeroND : ND:=⟨0,zeroV,noBytes,zeroCn,zeroCn,0⟩
def ownB (d : ND) (n : Nat) (k0 above : Int) : Bool :=
 if d.kind = 0 then litRight d.v (decide (above = 8)) && decide (d = { zeroND with v:=d.v,kind:=d.kind } ∧ n = 0)
 else if d.kind = 1 ∨ d.kind = 3 then d.a.row && d.a.col && decide (d = { zeroND with a:=d.a,kind:=d.kind } ∧ n = 0)
 else if d.kind = 2 then rangeB d.a d.b && decide (d = { zeroND with a:=d.a,b:=d.b,kind:=d.kind } ∧ n = 0)
 else if d.kind = 4 then isCallB d.name && decide (n ≤ 32) && !decide (n = 1 ∧ k0 = 9) && decide (d = { zeroND with name:=d.name,kind:=d.kind })
 else if d.kind = 5 then unaryB d.name && decide (n = 1) && decide (d = { zeroND with name:=d.name,kind:=d.kind })
 else if d.kind = 6 then binaryB d.name && decide (n = 2) && decide (d = { zeroND with name:=d.name,kind:=d.kind })
 else if d.kind = 7 then isNameB d.name && decide (d = { zeroND with name:=d.name,kind:=d.kind } ∧ n = 0)
 else if d.kind = 8 then decide (1 ≤ d.rows) && decide (1 ≤ n) && decide ((n : Int) % d.rows = 0) && decide (d = { zeroND with rows:=d.rows,kind:=d.kind })
 else if d.kind = 9 then decide (above = 4) && decide (d = { zeroND with kind:=d.kind } ∧ n = 0)
 else false
def kind0 (l : List Tr) : Int:=match l with | [] => 0 | t :: _ => t.d.kind
mutual
def rightB : Tr → Int → Bool
 | .mk d l,above => ownB d l.length (kind0 l) above && rightsB d.kind l
def rightsB (k : Int) : List Tr → Bool
 | [] => true
 | t :: ts => (decide (k ≠ 8) || decide (t.d.kind = 0)) && rightB t k && rightsB k ts
end
def accB (qo : Bool) (kind : Int) (l : List Tr) (k : Nat) : Bool:=qo && rightsB kind (l.take k)
theorem rights_append (k : Int) : ∀ (l m : List Tr),rightsB k (l ++ m) = (rightsB k l && rightsB k m)
 | [],m => by simp [rightsB]
 | t :: l,m => by simp only [List.cons_append,rightsB,rights_append k l m,Bool.and_assoc]
theorem acc_step {qo : Bool} {kind : Int} {l : List Tr} {k : Nat} (hk : k < l.length) (h : accB qo kind l k = true) : accB qo kind l (k + 1) = ((decide (kind ≠ 8) || decide (l[k].d.kind = 0)) && rightB l[k] kind):=by
 unfold accB at h ⊢
 simp only [Bool.and_eq_true] at h
 rw [List.take_succ_eq_append_getElem hk,rights_append,h.1,h.2]
 simp [rightsB]
theorem acc_false {qo : Bool} {kind : Int} {l : List Tr} {n k : Nat} (_hn : n = l.length) (h : accB qo kind l k = false) : (qo && rightsB kind l) = false:=by
 unfold accB at h
 cases qo with
 | false => rfl
 | true =>
  simp only [Bool.true_and] at h ⊢
  rw [← List.take_append_drop k l,rights_append,h]; rfl
theorem acc_end {qo : Bool} {kind : Int} {l : List Tr} {n : Nat} (hn : n = l.length) : accB qo kind l n = (qo && rightsB kind l):=by
 unfold accB; rw [hn,List.take_length]
theorem right_of {d : ND} {l : List Tr} {above : Int} {qo : Bool} (h : ownB d l.length (kind0 l) above = qo) : rightB (.mk d l) above = (qo && rightsB d.kind l):=by
 simp only [rightB,h]
theorem keep_n2 {b o c n : Nat} {name : ByteArray} {A : Option Addr} {w0 w w' : World} (h : (w.cell? ⟨b, o + 7, none⟩ = some (.string name) ∧ w.cell? ⟨b, o + 21, none⟩ = some (.slice A n c)) ∧ Below w0.heap.size w0 w) (hbw : Below w.heap.size w w') (hb : b < w0.heap.size) :
 (w'.cell? ⟨b,o + 7,none⟩ = some (.string name) ∧ w'.cell? ⟨b,o + 21,none⟩ = some (.slice A n c)) ∧ Below w0.heap.size w0 w':=by
 have hlt : b < w.heap.size:=by have:=h.2.size; omega
 exact ⟨⟨(hbw.cell (p:=⟨b,o + 7,none⟩) hlt).trans h.1.1,(hbw.cell (p:=⟨b,o + 21,none⟩) hlt).trans h.1.2⟩,h.2.trans (hbw.mono h.2.size)⟩
theorem keep_n3 {b o c n : Nat} {rows : Int} {A : Option Addr} {w0 w w' : World} (h : (w.cell? ⟨b, o + 20, none⟩ = some (.int .i64 rows) ∧ w.cell? ⟨b, o + 21, none⟩ = some (.slice A n c)) ∧ Below w0.heap.size w0 w) (hbw : Below w.heap.size w w') (hb : b < w0.heap.size) :
 (w'.cell? ⟨b,o + 20,none⟩ = some (.int .i64 rows) ∧ w'.cell? ⟨b,o + 21,none⟩ = some (.slice A n c)) ∧ Below w0.heap.size w0 w':=by
 have hlt : b < w.heap.size:=by have:=h.2.size; omega
 exact ⟨⟨(hbw.cell (p:=⟨b,o + 20,none⟩) hlt).trans h.1.1,(hbw.cell (p:=⟨b,o + 21,none⟩) hlt).trans h.1.2⟩,h.2.trans (hbw.mono h.2.size)⟩
theorem bare_ex (w : World) (b o : Nat) (d d' : ND) (A A' : Option Addr) (n c n' c' : Nat) (w0 : World) (hB : b < w0.heap.size) (h : NodeCells w0 b o d A n c) (hb : Below w0.heap.size w0 w) :
 Calls Tryz.prog 100 #[.pointer (some ⟨b,o,none⟩),.agg #[.int .i64 d'.kind,.int .i64 d'.v.k,.int .i64 d'.v.mant,.int .i64 d'.v.exp,.string d'.v.text,.bool d'.v.truth,.int .i64 d'.v.fault,.string d'.name,.int .i64 d'.a.ra,.int .i64 d'.a.rn,.int .i64 d'.a.ca,.int .i64 d'.a.cn,.bool d'.a.fr,.bool d'.a.fc,.int .i64 d'.b.ra,.int .i64 d'.b.rn,.int .i64 d'.b.ca,.int .i64 d'.b.cn,.bool d'.b.fr,.bool d'.b.fc,.int .i64 d'.rows,.slice A' n' c']] w fun e w' => e = .returned (.bool (decide (d = { d' with kind:=d.kind } ∧ n = n'))) ∧ Below w.heap.size w w' :=
 bare_c w b o d d' A A' n c n' c' (h.keep (fun p hp => hb.cell (by omega)))
noncomputable def rightBlk : Code:=match Tryz.f78.body with | some (.seq _ (.seq _ (.seq (.seq _ b) _))) => b | _ => .skip
def Own5 (b o : Nat) (above kind : Int) (qo : Bool) (w : World) (a' : Act) (w' : World) : Prop :=
 ∃ u5 u7 u8 u9 u11 u12 u13 u14 u15 u16 u17 u18 u19 u20 u21 u22 u23 u24 u25 u26 u27 u28 u29 u30 u31 u32 u33 u34 u35 u36 u37 u38 u39 u40 u41 u42 u43 u44 u45 u46 u47 u48 u49 u50 u51 u52 u53 u54 u55 u56 u57 u58 u59 u60 u61 u62 u63 u64 u65 u66 u67 u68 u69 u70 u71 u72 u73 u74 u75 u76 u77 u78 u79 u80 u81 u82 u83 u84 u85 u86 u87 u88 u89 u90 u91 u92 u93 u94 u95 u96 u97 u98 u99 u100 u101 u102 u103 u104 u105 u106 u107 u108 u109 u110 u111 u112 u113 u114 u115 u116 u117 u118 u119 u120 u121 u122 u123 u124 u125 u126 u127 u128 u129 u130 u131 u132 u133 u134 u135 u136 u137 u138 u139 u140 u141 u142 u143 u144 u145 u146 u147 u148 u149 u150 u151 u152 u153 u154 u155 u156 u157 u158 u159 u160 u161 u162 u163 u164 u165 u166 u167 u168 u169 u170 u171 u172 u173 u174 u175 u176 u177 u178 u179 u180 u181 u182 u183 u184 u185 u186 u187 u188 u189 u190 u191 u192 u193 u194 u195 u196 u197 u198 u199 u200 u201 u202 u203 u204 u205 u206 u207 u208 u209 u210 u211 u212 u213 u214 u215 u216 u217 u218 u219 u220 u221 u222 u223 u224 u225 u226 u227 u228 u229 u230 u231 u232 u233 u234 u235 u236 u237 u238 u239 u240 u241 u242 u243 u244 u245 u246 u247 u248 u249 u252 u253 u254 u255 u256 u257 u258 u259 u260 u261 u262 u263 u264 u265 u266 u267 u268 u269 u270 u271 u272 u273 u274 u275 u276 u277 u278 u279 u280 u281 u282 u283 u284 u285 u286 : Value,(u5 = .bool qo ∧ Below w.heap.size w w') ∧ a' = { tmps:=#[.pointer (some ⟨b,o,none⟩),.int .i64 above,undef,undef,.bool false,u5,undef,u7,u8,u9,.int .i64 kind,u11,u12,u13,u14,u15,u16,u17,u18,u19,u20,u21,u22,u23,u24,u25,u26,u27,u28,u29,u30,u31,u32,u33,u34,u35,u36,u37,u38,u39,u40,u41,u42,u43,u44,u45,u46,u47,u48,u49,u50,u51,u52,u53,u54,u55,u56,u57,u58,u59,u60,u61,u62,u63,u64,u65,u66,u67,u68,u69,u70,u71,u72,u73,u74,u75,u76,u77,u78,u79,u80,u81,u82,u83,u84,u85,u86,u87,u88,u89,u90,u91,u92,u93,u94,u95,u96,u97,u98,u99,u100,u101,u102,u103,u104,u105,u106,u107,u108,u109,u110,u111,u112,u113,u114,u115,u116,u117,u118,u119,u120,u121,u122,u123,u124,u125,u126,u127,u128,u129,u130,u131,u132,u133,u134,u135,u136,u137,u138,u139,u140,u141,u142,u143,u144,u145,u146,u147,u148,u149,u150,u151,u152,u153,u154,u155,u156,u157,u158,u159,u160,u161,u162,u163,u164,u165,u166,u167,u168,u169,u170,u171,u172,u173,u174,u175,u176,u177,u178,u179,u180,u181,u182,u183,u184,u185,u186,u187,u188,u189,u190,u191,u192,u193,u194,u195,u196,u197,u198,u199,u200,u201,u202,u203,u204,u205,u206,u207,u208,u209,u210,u211,u212,u213,u214,u215,u216,u217,u218,u219,u220,u221,u222,u223,u224,u225,u226,u227,u228,u229,u230,u231,u232,u233,u234,u235,u236,u237,u238,u239,u240,u241,u242,u243,u244,u245,u246,u247,u248,u249,undef,undef,u252,u253,u254,u255,u256,u257,u258,u259,u260,u261,u262,u263,u264,u265,u266,u267,u268,u269,u270,u271,u272,u273,u274,u275,u276,u277,u278,u279,u280,u281,u282,u283,u284,u285,u286],defers:=[] }
abbrev rF (b o : Nat) (above kind : Int) : Act:={ tmps:=#[.pointer (some ⟨b,o,none⟩),.int .i64 above,undef,undef,.bool false,.bool false,undef,.pointer (some ⟨b,o,none⟩),.pointer (some ⟨b,o,none⟩),.pointer (some ⟨b,o,none⟩),.int .i64 kind,undef,undef,undef,undef,undef,undef,undef,undef,undef,undef,undef,undef,undef,undef,undef,undef,undef,undef,undef,undef,undef,undef,undef,undef,undef,undef,undef,undef,undef,undef,undef,undef,undef,undef,undef,undef,undef,undef,undef,undef,undef,undef,undef,undef,undef,undef,undef,undef,undef,undef,undef,undef,undef,undef,undef,undef,undef,undef,undef,undef,undef,undef,undef,undef,undef,undef,undef,undef,undef,undef,undef,undef,undef,undef,undef,undef,undef,undef,undef,undef,undef,undef,undef,undef,undef,undef,undef,undef,undef,undef,undef,undef,undef,undef,undef,undef,undef,undef,undef,undef,undef,undef,undef,undef,undef,undef,undef,undef,undef,undef,undef,undef,undef,undef,undef,undef,undef,undef,undef,undef,undef,undef,undef,undef,undef,undef,undef,undef,undef,undef,undef,undef,undef,undef,undef,undef,undef,undef,undef,undef,undef,undef,undef,undef,undef,undef,undef,undef,undef,undef,undef,undef,undef,undef,undef,undef,undef,undef,undef,undef,undef,undef,undef,undef,undef,undef,undef,undef,undef,undef,undef,undef,undef,undef,undef,undef,undef,undef,undef,undef,undef,undef,undef,undef,undef,undef,undef,undef,undef,undef,undef,undef,undef,undef,undef,undef,undef,undef,undef,undef,undef,undef,undef,undef,undef,undef,undef,undef,undef,undef,undef,undef,undef,undef,undef,undef,undef,undef,undef,undef,undef,undef,undef,undef,undef,undef,undef,undef,undef,undef,undef,undef,undef,undef,undef,undef,undef,undef,undef,undef,undef,undef,undef,undef,undef,undef,undef,undef,undef,undef,undef,undef,undef,undef,undef,undef,undef,undef,undef,undef,undef,undef,undef,undef,undef,undef,undef,undef,undef,undef,undef,undef,undef,undef,undef,undef],defers:=[] }
end Go.Proofs.YtelombedjkbckaaGreatDoor
