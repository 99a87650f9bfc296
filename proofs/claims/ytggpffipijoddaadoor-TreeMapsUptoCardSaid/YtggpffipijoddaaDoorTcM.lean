/- counterpaneref06.Code. -/
import Derived.Test.YtggpffipijoddaaDoorTzM
import Derived.Test.YtggpffipijoddaaDoorCzM
import Derived.Test.YtggpffipijoddaaDoorNoM
namespace Go.Proofs.YtggpffipijoddaaDoor
open Go.RowKit Go.Shelf

/-- all nodes, as a slice of nodes in memory. -/
theorem nodes_sl {w w' : World} {B : Nat} {ts : List Tr} {e : Ending} (hB : B ≤ w.heap.size) (h : NodesPost w B ts e w') : ∃ A cap, e = .returned (.slice A ts.length cap) ∧ SlAt w' w'.heap.size A cap ts ∧ Below w.heap.size w w' := by
  obtain ⟨g, cap, xs, rfl, hown, hrow, hb⟩ := h
  refine ⟨_, cap, rfl, ?_, hb⟩
  have hlt := hown.lt g rfl
  have hk : KidsAt w' w'.heap.size g 0 ts := NRow.kids hlt.2 ((hrow.keep (hb.mono hB)).more (by have := hb.size; omega)) (fun j u hu => by rw [Nat.zero_add]; exact own_cell hown rfl j u hu)
  rcases hown.2 with ⟨h1, _⟩ | ⟨g', cap', cur, hv, _, _, h4, h5, _⟩
  · cases h1
  · simp only [Value.slice.injEq] at hv
    obtain ⟨-, -, rfl⟩ := hv
    exact ⟨by omega, by unfold maxLen at h5; omega, .inr ⟨g, 0, rfl, hk⟩⟩
theorem S_append (a b : List UInt8) : (ByteArray.mk a.toArray ++ ByteArray.mk b.toArray) = ByteArray.mk (a ++ b).toArray := by apply ByteArray.ext; simp [ByteArray.data_append]
def codeR (l : List Tr) : List UInt8 := l.flatMap fun x => codeOne x.d x.l.length
theorem codeR_step {l : List Tr} {k : Nat} (hk : k < l.length) : codeR (l.take (k + 1)) = codeR (l.take k) ++ (partL l[k].d l[k].l.length ++ [59]) := by
  unfold codeR
  rw [List.take_succ_eq_append_getElem hk, List.flatMap_append]
  simp [codeOne]
theorem codeR_take_le (l : List Tr) (k : Nat) : (codeR (l.take k)).length ≤ (codeR l).length := by
  have : codeR l = codeR (l.take k) ++ codeR (l.drop k) := by unfold codeR; rw [← List.flatMap_append, List.take_append_drop]
  rw [this, List.length_append]; omega

set_option maxRecDepth 100000 in
set_option maxHeartbeats 4000000 in
theorem rcode_c (t : Tr) (w : World) (B : Nat) (A : Option Addr) (c : Nat) (hd : t.d.ok) (hs : SlAt w B A c t.l) (hB : B ≤ w.heap.size) (hz : t.size ≤ 1048576) (hsh : Short t) :
    Calls Tryd.prog 18 #[nodeV t.d A t.l.length c] w fun e w' => e = .returned (S (codeL t)) ∧ Below w.heap.size w w' := by
  obtain ⟨N, hN⟩ : ∃ N, N = nodeA t.d A t.l.length c := ⟨_, rfl⟩
  obtain ⟨W, hW⟩ : ∃ W, W = w.alloc (.cells N 34) := ⟨_, rfl⟩
  have hbW : Below w.heap.size w W := by rw [hW]; exact (Below.refl _ w).alloc (Nat.le_refl _) _
  have hWs : W.heap.size = w.heap.size + 1 := by rw [hW]; simp
  have hk0 : W.heap[w.heap.size]? = some (.cells N 34) := by rw [hW]; exact heap_alloc_new _ _
  have hNs : N.size = 22 := by rw [hN]; rfl
  have hinf := infN
  rw [← hNs] at hinf
  have hnod := (nodes_c t W B A c hd (hs.below (hbW.mono hB)) (by omega) hz).mono (fun _ _ h => nodes_sl (by omega) h)
  have hok := SlAt.all_ok hd hs
  have hlen := code_le hok hsh
  have hcl : codeL t = codeR t.nodes := rfl
  have hnl : t.nodes.length ≤ 1048576 := by rw [nodes_len]; exact hz
  rw [hcl] at hlen ⊢
  rw [nodeV, ← hN] at hnod ⊢
  have hlen : (codeR t.nodes).length ≤ 4611686018427387904 := by omega
  have hp := fun (x : Tr) (hx : x ∈ t.nodes) (wx : World) (A : Option Addr) (c : Nat) => rpart_any wx x.d A x.l.length c (hok x hx).1 (hok x hx).2 (by have := (hsh x hx).2; omega) (by have := (hsh x hx).1; omega)
  generalize t.nodes = ts at *
  have HW := Lib.hid hW
  have HBW := Lib.hid hbW
  have HWS := Lib.hid hWs
  have HIN := Lib.hid hinf
  have HNO := Lib.hid hnod
  have HP := Lib.hid hp
  clear hW hbW hWs hinf hnod hok hcl hp hd hs hsh hN hNs
  go_enter Tryd.func18, Tryd.ntmps18
  go_upto_region 2 with (fail)
  rw [← HW.out]
  go_wp2_with (first | (refine wpList_row rfl 34 _ rfl w.heap.size rfl 34 N (0, 0) _ hk0 undN rfl HIN.out ?_) | fail)
  refine HNO.out.mono ?_
  rintro e w2 ⟨A2, cap2, rfl, hs2, hb2⟩
  obtain ⟨n, hn⟩ : ∃ n, n = ts.length := ⟨_, rfl⟩
  rw [← hn] at hnl ⊢
  have hc2 : cap2 ≤ 9223372036854775807 := hs2.2.1
  have HN := Lib.hid hn
  have HS2 := Lib.hid hs2
  have HB2 := Lib.hid hb2
  clear hn hs2 hb2 hk0 HNO
  go_wp2
  go_loopw [3, 5] (fun s i wr => ∃ k : Nat, k ≤ n ∧ i = .int .i64 k ∧ s = S (codeR (ts.take k)) ∧ Below w2.heap.size w2 wr) (fun _ i _ => n - (intOf i).toNat)
  case atStart => exact ⟨0, Nat.zero_le _, rfl, rfl, Below.refl _ _⟩
  case round =>
    obtain ⟨k, hk, rfl, rfl, hbr⟩ := hrel
    by_cases hlt : k < n
    · have hkl : k < ts.length := by rw [← HN.out]; exact hlt
      obtain ⟨kb, ko, hA, hnd⟩ := (HS2.out.below hbr).at_ k hkl
      subst hA
      obtain ⟨-, -, kA, kc, hcs, -⟩ := hnd.open_
      obtain ⟨cs, e1, e2, e3⟩ := hcs.range (fun _ _ => rfl)
      have hpk := HP.out ts[k] (List.getElem_mem hkl) wr kA kc
      rw [nodeV, ← e1] at hpk
      have hst := codeR_step hkl
      have hle := codeR_take_le ts (k + 1)
      rw [hst, List.length_append, List.length_append] at hle
      obtain ⟨pt, hpt⟩ : ∃ pt, pt = partL ts[k].d ts[k].l.length := ⟨_, rfl⟩
      rw [← hpt] at hst hle hpk
      obtain ⟨acc, hacc⟩ : ∃ acc, acc = codeR (ts.take k) := ⟨_, rfl⟩
      rw [← hacc] at hst hle ⊢
      have hinf2 : (Tryd.prog.info? 34).map (·.size) = some cs.length := by rw [e2]; exact infN
      have n1 : ¬ 9223372036854775807 < acc.length + pt.length := by omega
      have n2 : ¬ 9223372036854775807 < acc.length + pt.length + 1 := by simp only [List.length_singleton] at hle; omega
      have HI2 := Lib.hid hinf2
      have HRG := Lib.hid e3
      have HPK := Lib.hid hpk
      have HST := Lib.hid hst
      have hlt0 : (0 : Int) ≤ k := by omega
      have hlt2 : (k : Int) < n := by omega
      clear hcs e1 e2 e3 hpk hst hpt hacc hinf2 hle hnd
      go_wp2_with (first | (refine wpList_mid rfl 34 _ rfl kb (ko + k * 22) rfl cs _ HRG.out undN rfl HI2.out ?_) | (go_at_call 35; refine HPK.out.mono ?_; rintro e w4 ⟨rfl, hb4⟩))
      go_roundw
      case rel => exact ⟨k + 1, by omega, by go_num, by rw [HST.out]; exact congrArg Value.string (by apply ByteArray.ext; simp [ByteArray.data_append]), hbr.trans (hb4.mono hbr.size)⟩
      case measure => simp [intOf]; omega
    · have hge : ¬ (k : Int) < n := by omega
      go_wp2
      go_ret
      have hkk : k = ts.length := by rw [← HN.out]; omega
      refine ⟨ret_str (by rw [hkk, List.take_length]), HBW.out.trans ((HB2.out.trans (hbr.mono HB2.out.size)).mono HBW.out.size)⟩
end Go.Proofs.YtggpffipijoddaaDoor
