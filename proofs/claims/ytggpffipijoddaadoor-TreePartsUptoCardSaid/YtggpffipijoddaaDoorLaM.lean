/- TreeParts behind its call of Code at the call node. -/
import Derived.Test.YtggpffipijoddaaDoorCu
import Derived.Test.YtggpffipijoddaaDoorPqM
import Derived.Test.YtggpffipijoddaaDoorGtM
import Derived.Test.YtggpffipijoddaaDoorWkSz
namespace Go.Proofs.YtggpffipijoddaaDoor
open Go.RowKit Go.Shelf

def RetTrue (w : World) : Exit → Act → World → Prop := RetSlot 2 (.bool true) w
theorem ba_append (a b : List UInt8) : (ByteArray.mk a.toArray ++ ByteArray.mk b.toArray) = ByteArray.mk (a ++ b).toArray := by apply ByteArray.ext; simp [ByteArray.data_append]
noncomputable def partsC : Code := Tryd.f3.body.getD .skip
noncomputable def parts20C : Code := fromRegion 20 partsC

set_option maxRecDepth 100000 in
set_option maxHeartbeats 2000000 in
theorem parts20_great (u0 u2 u3 u4 u5 u6 u8 u9 u12 u13 u14 u15 u16 u17 u18 u19 u20 u21 u22 u23 u24 u25 u26 u27 u28 u29 u30 u31 u32 u33 u34 u35 u36 u37 u38 u39 u40 u41 u42 u43 u44 u45 u46 u47 u48 u49 u50 u51 u52 u53 u54 u55 u56 u57 u58 u59 u60 u61 u62 u63 u64 u65 u66 u67 u68 u69 u70 u71 u72 u73 u74 u75 u76 u77 u78 u79 u80 u81 u82 u83 u84 u85 u86 u87 u88 u89 u90 u91 u92 u93 u94 u95 u96 u97 u98 u99 u100 u101 u102 u103 u104 u105 u106 u107 u108 u109 u110 u111 u112 u113 u114 u115 u116 u117 u118 u119 u120 : Value) (b : Nat) (N : Array Value) (w : World) (sz : Nat) (cd : List UInt8) (hr : w.heap[b]? = some (.cells N 34)) (HIN : Hid ((Tryd.prog.info? 34).map (·.size) = some N.size))
    (HSZ : Hid (Calls Tryd.prog 12 #[.agg N] w fun e w' => e = .returned (.int .i64 sz) ∧ Below w.heap.size w w')) (hz1 : 255 < (sz : Int)) (ci : Int) (hci : (ci != 0) = true) (ct : List UInt8) (hct : ct = []) :
    Code.wp Tryd.prog parts20C (RetTrue w) ⟨#[u0, .pointer (some ⟨b, 0, none⟩), u2, u3, u4, u5, u6, S cd, u8, u9, S ct, .int .i64 ci, u12, u13, u14, u15, u16, u17, u18, u19, u20, u21, u22, u23, u24, u25, u26, u27, u28, u29, u30, u31, u32, u33, u34, u35, u36, u37, u38, u39, u40, u41, u42, u43, u44, u45, u46, u47, u48, u49, u50, u51, u52, u53, u54, u55, u56, u57, u58, u59, u60, u61, u62, u63, u64, u65, u66, u67, u68, u69, u70, u71, u72, u73, u74, u75, u76, u77, u78, u79, u80, u81, u82, u83, u84, u85, u86, u87, u88, u89, u90, u91, u92, u93, u94, u95, u96, u97, u98, u99, u100, u101, u102, u103, u104, u105, u106, u107, u108, u109, u110, u111, u112, u113, u114, u115, u116, u117, u118, u119, u120], []⟩ w := by
  subst hct
  conv => arg 2; whnf
  go_wp2_with (first | (refine wpList_row rfl 34 _ rfl b rfl 34 N (0, 0) _ hr undN rfl HIN.out ?_) | (go_at_call 12; refine HSZ.out.mono ?_; rintro e w2 ⟨rfl, hb2⟩))
  exact ⟨rfl, rfl, rfl, hb2⟩

set_option maxRecDepth 100000 in
set_option maxHeartbeats 2000000 in
theorem parts20_deep (u0 u2 u3 u4 u5 u6 u8 u9 u12 u13 u14 u15 u16 u17 u18 u19 u20 u21 u22 u23 u24 u25 u26 u27 u28 u29 u30 u31 u32 u33 u34 u35 u36 u37 u38 u39 u40 u41 u42 u43 u44 u45 u46 u47 u48 u49 u50 u51 u52 u53 u54 u55 u56 u57 u58 u59 u60 u61 u62 u63 u64 u65 u66 u67 u68 u69 u70 u71 u72 u73 u74 u75 u76 u77 u78 u79 u80 u81 u82 u83 u84 u85 u86 u87 u88 u89 u90 u91 u92 u93 u94 u95 u96 u97 u98 u99 u100 u101 u102 u103 u104 u105 u106 u107 u108 u109 u110 u111 u112 u113 u114 u115 u116 u117 u118 u119 u120 : Value) (b : Nat) (N : Array Value) (w : World) (sz dp : Nat) (cd : List UInt8) (hr : w.heap[b]? = some (.cells N 34)) (HIN : Hid ((Tryd.prog.info? 34).map (·.size) = some N.size))
    (HSZ : Hid (Calls Tryd.prog 12 #[.agg N] w fun e w' => e = .returned (.int .i64 sz) ∧ Below w.heap.size w w')) (HDP : Hid (∀ wx, Below w.heap.size w wx → Calls Tryd.prog 13 #[.agg N] wx fun e w' => e = .returned (.int .i64 dp) ∧ Below wx.heap.size wx w')) (hz1 : ¬ 255 < (sz : Int)) (hz2 : 31 < (dp : Int)) (ci : Int) (hci : (ci != 0) = true) (ct : List UInt8) (hct : ct = []) :
    Code.wp Tryd.prog parts20C (RetTrue w) ⟨#[u0, .pointer (some ⟨b, 0, none⟩), u2, u3, u4, u5, u6, S cd, u8, u9, S ct, .int .i64 ci, u12, u13, u14, u15, u16, u17, u18, u19, u20, u21, u22, u23, u24, u25, u26, u27, u28, u29, u30, u31, u32, u33, u34, u35, u36, u37, u38, u39, u40, u41, u42, u43, u44, u45, u46, u47, u48, u49, u50, u51, u52, u53, u54, u55, u56, u57, u58, u59, u60, u61, u62, u63, u64, u65, u66, u67, u68, u69, u70, u71, u72, u73, u74, u75, u76, u77, u78, u79, u80, u81, u82, u83, u84, u85, u86, u87, u88, u89, u90, u91, u92, u93, u94, u95, u96, u97, u98, u99, u100, u101, u102, u103, u104, u105, u106, u107, u108, u109, u110, u111, u112, u113, u114, u115, u116, u117, u118, u119, u120], []⟩ w := by
  subst hct
  have hq : decide (255 < (sz : Int)) = false := by simpa using hz1
  have hbw : b < w.heap.size := (Array.getElem?_eq_some_iff.1 hr).1
  conv => arg 2; whnf
  go_wp2_with (first | (refine wpList_row rfl 34 _ rfl b rfl 34 N (0, 0) _ hr undN rfl HIN.out ?_) | fail)
  refine HSZ.out.mono ?_
  rintro e w2 ⟨rfl, hb2⟩
  have hr2 := (hb2.block b hbw).trans hr
  go_wp2_with (first | (refine wpList_row rfl 34 _ rfl b rfl 34 N (0, 0) _ hr2 undN rfl HIN.out ?_) | (go_at_call 13; refine (HDP.out _ hb2).mono ?_; rintro e w3 ⟨rfl, hb3⟩))
  exact ⟨rfl, rfl, rfl, hb2.trans (hb3.mono hb2.size)⟩

set_option maxRecDepth 100000 in
set_option maxHeartbeats 2000000 in
theorem parts20_good (u0 u2 u3 u4 u5 u6 u8 u9 u12 u13 u14 u15 u16 u17 u18 u19 u20 u21 u22 u23 u24 u25 u26 u27 u28 u29 u30 u31 u32 u33 u34 u35 u36 u37 u38 u39 u40 u41 u42 u43 u44 u45 u46 u47 u48 u49 u50 u51 u52 u53 u54 u55 u56 u57 u58 u59 u60 u61 u62 u63 u64 u65 u66 u67 u68 u69 u70 u71 u72 u73 u74 u75 u76 u77 u78 u79 u80 u81 u82 u83 u84 u85 u86 u87 u88 u89 u90 u91 u92 u93 u94 u95 u96 u97 u98 u99 u100 u101 u102 u103 u104 u105 u106 u107 u108 u109 u110 u111 u112 u113 u114 u115 u116 u117 u118 u119 u120 : Value) (b : Nat) (N : Array Value) (w : World) (sz dp : Nat) (cd : List UInt8) (hr : w.heap[b]? = some (.cells N 34)) (HIN : Hid ((Tryd.prog.info? 34).map (·.size) = some N.size))
    (HSZ : Hid (Calls Tryd.prog 12 #[.agg N] w fun e w' => e = .returned (.int .i64 sz) ∧ Below w.heap.size w w')) (HDP : Hid (∀ wx, Below w.heap.size w wx → Calls Tryd.prog 13 #[.agg N] wx fun e w' => e = .returned (.int .i64 dp) ∧ Below wx.heap.size wx w')) (hz1 : ¬ 255 < (sz : Int)) (hz2 : ¬ 31 < (dp : Int)) (ci : Int) (hci : ci = 0) (ct : List UInt8) (hct : ct = [67, 49, 58, 70, 44, 49, 59] ++ cd) (hcl : cd.length ≤ 4611686018427387904) :
    Code.wp Tryd.prog parts20C (RetTrue w) ⟨#[u0, .pointer (some ⟨b, 0, none⟩), u2, u3, u4, u5, u6, S cd, u8, u9, S ct, .int .i64 ci, u12, u13, u14, u15, u16, u17, u18, u19, u20, u21, u22, u23, u24, u25, u26, u27, u28, u29, u30, u31, u32, u33, u34, u35, u36, u37, u38, u39, u40, u41, u42, u43, u44, u45, u46, u47, u48, u49, u50, u51, u52, u53, u54, u55, u56, u57, u58, u59, u60, u61, u62, u63, u64, u65, u66, u67, u68, u69, u70, u71, u72, u73, u74, u75, u76, u77, u78, u79, u80, u81, u82, u83, u84, u85, u86, u87, u88, u89, u90, u91, u92, u93, u94, u95, u96, u97, u98, u99, u100, u101, u102, u103, u104, u105, u106, u107, u108, u109, u110, u111, u112, u113, u114, u115, u116, u117, u118, u119, u120], []⟩ w := by
  subst hci
  have hq : decide (255 < (sz : Int)) = false := by simpa using hz1
  have hq2 : decide (31 < (dp : Int)) = false := by simpa using hz2
  have hn7 : ¬ 9223372036854775807 < 7 + cd.length := by omega
  have hct2 : (ct == [67, 49, 58, 70, 44, 49, 59] ++ cd) = true := by simpa using hct
  have HCT := Lib.hid hct
  clear hct
  have hbw : b < w.heap.size := (Array.getElem?_eq_some_iff.1 hr).1
  conv => arg 2; whnf
  go_wp2_with (first | (refine wpList_row rfl 34 _ rfl b rfl 34 N (0, 0) _ hr undN rfl HIN.out ?_) | fail)
  refine HSZ.out.mono ?_
  rintro e w2 ⟨rfl, hb2⟩
  have hr2 := (hb2.block b hbw).trans hr
  go_wp2_with (first | (refine wpList_row rfl 34 _ rfl b rfl 34 N (0, 0) _ hr2 undN rfl HIN.out ?_) | (go_at_call 13; refine (HDP.out _ hb2).mono ?_; rintro e w3 ⟨rfl, hb3⟩))
  refine ⟨rfl, rfl, ?_, hb2.trans (hb3.mono hb2.size)⟩
  first | rfl | (trace_state; simp [HCT.out, ba_append])
end Go.Proofs.YtggpffipijoddaaDoor
