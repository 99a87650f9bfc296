/- RegNone: the walk. A write that came in. -/
import Derived.Test.YtbiacjkkgddclaaGreatL6L9
import Derived.Test.YtbiacjkkgddclaaGreatOg0Xk0K2
import Derived.Test.YtbiacjkkgddclaaGreatK0K3FeFfFg
namespace Go.Proofs.YtbiacjkkgddclaaGreat
set_option linter.unusedSimpArgs false
set_option linter.unusedVariables false
open Go Go.RowKit Go.Shelf Go.Maps

theorem put0_fit (m : Wr) (hd : m.x.t.d.ok) (ho : m.o.length ≤ 100000) : (putW [] m).1.length ≤ 1000 ∧ ∀ y ∈ (putW [] m).1, y.x.t.d.ok ∧ y.o.length ≤ 100000 := by
  refine ⟨Nat.le_trans (putW_len [] m) (by decide), fun y hy => ?_⟩
  rcases (putW_mem (M := []) (by decide) m y).1 hy with h | ⟨rfl, -⟩
  · exact (List.not_mem_nil h).elim
  · exact ⟨hd, ho⟩
theorem none_same {w9 w10 w11 w12 : World} {B p nl n12 c3 : Nat} {A3 : Option Addr} {L : List Wr} {Z12 : Nat → Prop} (hr : RowW w10 (fun g => False ∨ (w9.heap.size ≤ g ∧ g < w10.heap.size)) (fun k => k < B) A3 c3 L) (hp : p < w9.heap.size) (h910 : Below w9.heap.size w9 w10) (h11 : Below w10.heap.size w10 w11) (hk : KeepZ (fun b => b = p) w11 w12) (hz : RgZ w12 p n12 L Z12) (hf : L.length ≤ 1000 ∧ ∀ y ∈ L, y.x.t.d.ok ∧ y.o.length ≤ 100000) (hn : nl = L.length) (hB : B ≤ w10.heap.size) (hpB : B ≤ p) :
    Calls Tryz.prog 20 #[.pointer (some ⟨p, 0, none⟩), .slice A3 nl c3, .slice none 0 0] w12 fun e w' => e = .returned (.int .i64 1) ∧ Below w12.heap.size w12 w' := by
  subst hn
  have s1 := h910.size
  have s2 := h11.size
  have s3 := hk.size
  have hb : ∀ k, k < w10.heap.size → k ≠ p → w12.heap[k]? = w10.heap[k]? := fun k h1 h2 => (hk.block k (by omega) h2).trans (h11.block k h1)
  exact same37L_c (gl0 := []) (hz.regAt hf.1) (hr.keep (G' := fun g => w9.heap.size ≤ g ∧ g < w10.heap.size) (T' := fun k => k < B) (fun k hk' => by
    have h := hk'.resolve_left (fun h => h)
    exact ⟨hb k h.2 (by omega), h⟩) (fun k hk' => ⟨hb k (Nat.lt_of_lt_of_le hk' hB) (by have : k < B := hk'; omega), hk'⟩)) (fun k hk' => by have := hk'.2; omega) (by omega) hf.1 hf.2 (IkG.nil _ _ _ _ (by omega))
set_option maxRecDepth 100000 in
set_option maxHeartbeats 16000000 in
theorem regNone_walk (m : Wr) (w : World) (A Ao : Option Addr) (c co : Nat) (hok : inOk m) (hs : SlAt w w.heap.size A c m.x.t.l) (hg : IkG w (fun k => k < w.heap.size) Ao co m.o) :
    Calls Tryz.prog 7 #[.agg (wrA m A c Ao co)] w fun e w' => e = .returned (.bool true) ∧ Below w.heap.size w w' := by
  obtain ⟨b, hb⟩ : ∃ b, b = w.heap.size := ⟨_, rfl⟩
  obtain ⟨CW, hCW⟩ : ∃ C, C = wrA m A c Ao co := ⟨_, rfl⟩
  obtain ⟨W0, hW0⟩ : ∃ W0, W0 = w.alloc (.cells CW 46) := ⟨_, rfl⟩
  have hbel : Below w.heap.size w W0 := by rw [hW0]; exact (bel1 _ _).1
  have hz0 : W0.heap.size = b + 1 := by rw [hW0, hb]; simp
  have hk0 : W0.heap[b]? = some (.cells CW 46) := by rw [hW0, hb]; exact heap_alloc_new _ _
  have hkk : ∀ wx, Below W0.heap.size W0 wx → wx.heap[b]? = some (.cells CW 46) := fun wx hx => (hx.block b (by omega)).trans hk0
  have hiw : (Tryz.prog.info? 46).map (·.size) = some CW.size ∧ CW.size = 32 := by rw [hCW]; exact ⟨(rw_info _ _ _ _ _).1, wrA_size _ _ _ _ _⟩
  have hw0 : ∀ wx, Below W0.heap.size W0 wx → Below w.heap.size w wx := fun wx hx => hbel.trans (hx.mono hbel.size)
  have hsm : ∀ wx, Below W0.heap.size W0 wx → Calls Tryz.prog 9 #[.slice (some ⟨wx.heap.size, 0, none⟩) 1 1] (wx.alloc (.cells CW 46)) fun e w' => e = .returned (.int .i64 (smallW [m])) ∧ Below W0.heap.size W0 w' := fun wx hx => by
    obtain ⟨w2, hw2⟩ : ∃ x, x = wx.alloc (.cells CW 46) := ⟨_, rfl⟩
    have hb2 : Below wx.heap.size wx w2 := by rw [hw2]; exact (bel1 _ _).1
    have hz2 : w2.heap.size = wx.heap.size + 1 := by rw [hw2]; simp
    have hk2 : w2.heap[wx.heap.size]? = some (.cells CW 46) := by rw [hw2]; exact heap_alloc_new _ _
    have h02 : Below w.heap.size w w2 := (hw0 wx hx).trans (hb2.mono (hw0 wx hx).size)
    rw [← hw2]
    have hrow : RowW w2 (fun k => k < w2.heap.size) (fun k => k < w2.heap.size) (some ⟨wx.heap.size, 0, none⟩) 1 [m] := by
      refine ⟨Nat.le_refl 1, by omega, .inr ⟨_, _, rfl, (show wx.heap.size < w2.heap.size by omega), fun j hj => ?_⟩⟩
      have hj0 : j = 0 := by simp at hj; exact hj
      subst hj0
      refine ⟨A, c, Ao, co, ?_, ?_, ?_⟩
      · exact row_range_ hk2 _ _ (fun j v hv => by rw [Nat.zero_mul, Nat.zero_add, hCW, ← Array.getElem?_toList]; exact hv)
      · exact ((hs.below h02).more h02.size).slG
      · exact (hg.below h02).mono (fun k hk => Nat.lt_of_lt_of_le hk h02.size)
    refine (small37_c (w := w2) hrow (fun _ h => h) (fun _ h => h) rfl (fun y hy => by simp only [List.mem_singleton] at hy; subst hy; exact ⟨hok.2.1, hok.2.2.1, hok.2.2.2.1⟩)).mono ?_
    rintro e w' ⟨rfl, h⟩
    exact ⟨rfl, hx.trans ((hb2.trans (h.mono hb2.size)).mono hx.size)⟩
  have HAW := Lib.hid (fun wx => awake37_c wx)
  have HSM := Lib.hid hsm
  have HK0 := Lib.hid hkk
  have HIW := Lib.hid hiw
  have HW := Lib.hid hw0
  have HB := Lib.hid hb
  have HW0 := Lib.hid hW0
  have HCW := Lib.hid hCW
  have HIN := Lib.hid (And.intro hok (And.intro hs hg))
  have HZ0 := Lib.hid hz0
  rw [← hCW]
  clear hb hCW hW0 hbel hz0 hk0 hkk hiw hw0 hsm hok hs hg
  go_enter Tryz.func7, Tryz.ntmps7
  go_upto_region 1 with (fail)
  rw [← HW0.out, ← HB.out]
  have HAWB := Lib.hid (show ∀ wx, Calls Tryz.prog 8 #[] wx fun e w' => e = .returned (.bool true) ∧ Below wx.heap.size wx w' from fun wx => HAW.out wx)
  clear HAW
  have HAW := HAWB
  clear HAWB
  rcases smallW_cases [m] with hq | hq
  · rw [hq] at HSM
    clear hq
    go_wp2_with (first | (go_at_call 8; refine (HAW.out _).mono ?_; rintro e w1 ⟨rfl, hb1⟩; have HB1 := Lib.hid hb1; have hk1 := HK0.out w1 hb1; clear hb1) | (refine wpList_row rfl 46 _ rfl b rfl 46 CW (0, 0) _ hk1 undRw rfl HIW.out.1 ?_) | (refine wpList_oneRw rfl _ rfl CW rfl HIW.out.2 ?_) | (go_at_call 9; refine (HSM.out w1 HB1.out).mono ?_; rintro e w3 ⟨rfl, hb3⟩; have HB3 := Lib.hid hb3; clear hb3) | fail)
    first | go_ret | go_ret2 | (refine bodyPost_ret (results_tmp rfl _ _ _) rfl ?_)
    exact ⟨by kernel_rfl, HW.out _ HB3.out⟩
  · rw [hq] at HSM
    obtain ⟨-, h60, -⟩ := smallW_one (l := [m]) (by rw [hq]; decide)
    have H60 := Lib.hid (h60 m (by simp))
    clear hq h60
    go_upto_region 7 with (first | (go_at_call 8; refine (HAW.out _).mono ?_; rintro e w1 ⟨rfl, hb1⟩; have HB1 := Lib.hid hb1; have hk1 := HK0.out w1 hb1; clear hb1) | (refine wpList_row rfl 46 _ rfl b rfl 46 CW (0, 0) _ hk1 undRw rfl HIW.out.1 ?_) | (refine wpList_oneRw rfl _ rfl CW rfl HIW.out.2 ?_) | (go_at_call 9; refine (HSM.out w1 HB1.out).mono ?_; rintro e w3 ⟨rfl, hb3⟩; have HB3 := Lib.hid hb3; clear hb3) | fail)
    clear hk1
    obtain ⟨w4, hw4⟩ : ∃ x, x = w3.alloc (.cells #[.map none] 66) := ⟨_, rfl⟩
    obtain ⟨p, hp⟩ : ∃ x, x = w3.heap.size := ⟨_, rfl⟩
    rw [← hw4, ← hp]
    have hb34 : Below w3.heap.size w3 w4 := by rw [hw4]; exact (bel1 _ _).1
    have hb4 : Below W0.heap.size W0 w4 := HB3.out.trans (hb34.mono HB3.out.size)
    have hp4 : w4.heap[p]? = some (.cells #[.map none] 66) := by rw [hw4, hp]; exact heap_alloc_new _ _
    have hpB : w.heap.size ≤ p := by rw [hp]; exact (HW.out w3 HB3.out).size
    have hin : ∀ wx, Below w4.heap.size w4 wx → Below W0.heap.size W0 wx ∧ wx.heap[b]? = some (.cells CW 46) ∧ WrIn wx w.heap.size m A c Ao co ∧ wx.heap[p]? = some (.cells #[.map none] 66) := fun wx hx => by
      have h := hb4.trans (hx.mono hb4.size)
      have h2 := HW.out wx h
      exact ⟨h, HK0.out wx h, wrIn_of HIN.out.1 H60.out (HIN.out.2.1.below h2) (HIN.out.2.2.below h2), (hx.block p (Array.getElem?_eq_some_iff.1 hp4).1).trans hp4⟩
    have hpn : Calls Tryz.prog 13 #[.pointer none, .agg CW] w4 fun e w' => e = .returned (.int .i64 1) ∧ Below w4.heap.size w4 w' := by rw [HCW.out]; exact putNil_c w4 m A c Ao co
    have hsn : ∀ wx, Calls Tryz.prog 20 #[.pointer none, .slice none 0 0, .slice none 0 0] wx fun e w' => e = .returned (.int .i64 1) ∧ Below wx.heap.size wx w' := fun wx =>
      same37L_c (M := []) (gl0 := []) (regNil wx) (RowW.nil wx (fun _ => False) (fun k => k < 0) none 0 (by omega)) (fun _ h => h.elim) (Nat.zero_le _) (by decide) (fun _ h => (List.not_mem_nil h).elim) (IkG.nil _ _ _ _ (by omega))
    have hsr : ∀ wx p n (Z : Nat → Prop), RgZ wx p n [] Z → Calls Tryz.prog 20 #[.pointer (some ⟨p, 0, none⟩), .slice none 0 0, .slice none 0 0] wx fun e w' => e = .returned (.int .i64 1) ∧ Below wx.heap.size wx w' := fun wx p n Z hr =>
      same37L_c (M := []) (gl0 := []) (hr.regAt (by decide)) (RowW.nil wx (fun _ => False) (fun k => k < 0) none 0 (by omega)) (fun _ h => h.elim) (Nat.zero_le _) (by decide) (fun _ h => (List.not_mem_nil h).elim) (IkG.nil _ _ _ _ (by omega))
    have HIN4 := Lib.hid hin
    have HPN := Lib.hid hpn
    have HSN := Lib.hid hsn
    have HSR := Lib.hid hsr
    have HCA := Lib.hid (fun wx => cloneNil_c wx)
    have HCB := HCA
    have HPB := Lib.hid hpB
    have hk4 := (hin w4 (Below.refl _ _)).2.1
    clear hw4 hp hb34 hb4 hp4 hpB hin hpn hsn hsr
    go_upto_region 9 with (first | (refine wpList_row rfl 46 _ rfl b rfl 46 CW (0, 0) _ hk4 undRw rfl HIW.out.1 ?_) | (go_at_call 13; refine HPN.out.mono ?_; rintro e w5 ⟨rfl, hb5⟩; have HB5 := Lib.hid hb5; clear hb5) | (go_at_call 20; refine (HSN.out w5).mono ?_; clear HSN; rintro e w6 ⟨rfl, hb6⟩; have HB6 := Lib.hid (HB5.out.trans (hb6.mono HB5.out.size)); clear hb6) | (go_at_call 21; refine (HCA.out w6).mono ?_; clear HCA; rintro e w7 ⟨pc7, rfl, -, hb7⟩; have HB7 := Lib.hid (HB6.out.trans (hb7.mono HB6.out.size)); clear hb7) | (go_at_call 21; refine (HCB.out w7).mono ?_; clear HCB; rintro e w8 ⟨pc8, rfl, hr8, hb8⟩; have HB8 := Lib.hid (HB7.out.trans (hb8.mono HB7.out.size)); have HR8 := Lib.hid hr8; clear hb8 hr8) | (go_at_call 20; refine (HSR.out w8 _ _ _ HR8.out.z).mono ?_; rintro e w9 ⟨rfl, hb9⟩; have HB9 := Lib.hid (HB8.out.trans (hb9.mono HB8.out.size)); clear hb9) | fail)
    clear hk4
    have hk9 := (HIN4.out w9 HB9.out).2.1
    have hrp : Calls Tryz.prog 19 #[.slice none 0 0, .agg CW] w9 (RputW w9 (fun _ => False) w.heap.size [] m) := by
      rw [HCW.out]
      have h := HIN4.out w9 HB9.out
      exact rput37_c (M := []) (RowW.nil _ _ _ _ _ (by omega)) (fun _ h => h.elim) (HW.out w9 h.1).size rfl (by decide) m A c Ao co h.2.2.1
    have HRP := Lib.hid hrp
    clear hrp
    go_upto_region 10 with (first | (refine wpList_row rfl 46 _ rfl b rfl 46 CW (0, 0) _ hk9 undRw rfl HIW.out.1 ?_) | (go_at_call 19; refine HRP.out.mono ?_; rintro e w10 ⟨A3, c3, rfl, hb10, hr10⟩; have HR10 := Lib.hid hr10; have HB10 := Lib.hid (And.intro hb10 (HB9.out.trans (hb10.mono HB9.out.size))); clear hb10 hr10) | fail)
    clear hk9
    obtain ⟨L, hL⟩ : ∃ L, L = (putW [] m).1 := ⟨_, rfl⟩
    obtain ⟨er, her⟩ : ∃ e, e = (putW [] m).2 := ⟨_, rfl⟩
    obtain ⟨nl, hnl⟩ : ∃ n, n = L.length := ⟨_, rfl⟩
    rw [← hL] at HR10
    rw [← hL, ← her, ← hnl]
    have hfit := put0_fit m HIN.out.1.2.2.1 (by have := H60.out; omega)
    rw [← hL] at hfit
    have h10 := HIN4.out w10 HB10.out.2
    have hz10 : RgZ w10 p 0 [] (fun _ => True) := ⟨none, .map [], fun _ => False, ⟨h10.2.2.2, rfl⟩, RepW.empty _ _, trivial, fun b e => (by cases e), fun b hb => hb.elim⟩
    have hput : ∀ wx, Below w10.heap.size w10 wx → Calls Tryz.prog 13 #[.pointer (some ⟨p, 0, none⟩), .agg CW] wx fun e w' => e = .returned (.int .i64 er) ∧ (∃ n Z, RgZ w' p n L Z) ∧ KeepZ (fun b => b = p) wx w' := fun wx hx => by
      have h := HIN4.out wx (HB10.out.2.trans (hx.mono HB10.out.2.size))
      have hp := put0_c h.2.2.2 m A c Ao co h.2.2.1 (HW.out wx h.1).size HPB.out
      unfold Put0 at hp
      rw [← hL, ← her, ← HCW.out] at hp
      exact hp
    have HS0 := Lib.hid (HSR.out w10 p 0 _ hz10)
    have HPT := Lib.hid hput
    have HFI := Lib.hid hfit
    have HNL := Lib.hid hnl
    have HP10 := Lib.hid (show p < w9.heap.size from (Array.getElem?_eq_some_iff.1 (HIN4.out w9 HB9.out).2.2.2).1)
    clear hL her hnl hfit h10 hz10 hput HSR
    go_wp2_with (first | (go_at_call 20; refine HS0.out.mono ?_; clear HS0; rintro e w11 ⟨rfl, hb11⟩; have HB11 := Lib.hid hb11; have hk11 := (HIN4.out w11 (HB10.out.2.trans (hb11.mono HB10.out.2.size))).2.1; clear hb11) | (refine wpList_row rfl 46 _ rfl b rfl 46 CW (0, 0) _ hk11 undRw rfl HIW.out.1 ?_) | (go_at_call 13; refine (HPT.out w11 HB11.out).mono ?_; rintro e w12 ⟨rfl, ⟨n12, Z12, hz12⟩, hk12⟩; have HZ12 := Lib.hid hz12; have HK12 := Lib.hid hk12; have HS12 := Lib.hid (none_same HR10.out HP10.out HB10.out.1 HB11.out hk12 hz12 HFI.out HNL.out (HW.out w10 (HIN4.out w10 HB10.out.2).1).size HPB.out); clear hz12 hk12) | (go_at_call 20; refine HS12.out.mono ?_; rintro e w13 ⟨rfl, hb13⟩; have HB13 := Lib.hid hb13; clear hb13) | fail)
    first | go_ret | go_ret2 | (refine bodyPost_ret (results_tmp rfl _ _ _) rfl ?_)
    refine ⟨by kernel_rfl, ?_⟩
    have h11 := HW.out w11 (HIN4.out w11 (HB10.out.2.trans (HB11.out.mono HB10.out.2.size))).1
    have h12 : Below w.heap.size w w12 := keepZ_below h11 HK12.out (fun b hb => by have := HPB.out; omega) h11.size
    exact h12.trans (HB13.out.mono h12.size)
end Go.Proofs.YtbiacjkkgddclaaGreat
namespace Go.Proofs.YtbiacjkkgddclaaGreat
set_option linter.unusedSimpArgs false
set_option linter.unusedVariables false
open Go Go.RowKit Go.Shelf Go.Maps Go.ChangeShapes Go.WideShapes

set_option maxRecDepth 100000 in
theorem open_wrV {H : Type} {enc : TypeId × Value → H} {w : World} {base : Nat} {v : Value} {d : DataW H} {p : List MemPlace} (hv : Value.okWide Tryz.prog w .any base 46 v) (h : DataW.Trod enc Tryz.prog w 0 (fun _ => true) true 46 v d p) (hz : Rows.uptoBulk d ≤ 1048576) :
    ∃ (m : Wr) (A : Option Addr) (c : Nat) (Ao : Option Addr) (co : Nat), v = .agg (wrA m A c Ao co) ∧ inOk m ∧ SlAt w w.heap.size A c m.x.t.l ∧ IkG w (fun k => k < w.heap.size) Ao co m.o := by
  obtain ⟨cs, rfl, hsz⟩ := okWide_struct Tryz.underlying46 hv
  obtain ⟨fuel, hf⟩ := h
  obtain ⟨m, A, c, Ao, co, h1, h2, h3, h4⟩ := open_wr hf
  refine ⟨m, A, c, Ao, co, ?_, ⟨h2.1, h2.2.1, h2.2.2.1, Nat.le_trans h2.2.2.2.1 hz, h2.2.2.2.2⟩, h3, h4⟩
  have : cs = wrA m A c Ao co := by
    have h1' : cs.toList = (wrA m A c Ao co).toList := h1
    exact Array.toList_inj.1 h1'
  rw [this]
end Go.Proofs.YtbiacjkkgddclaaGreat
