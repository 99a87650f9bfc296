/- The plain law of TreeParts: what stands below a right tree, and a call of it. -/
import Derived.Test.YtggpffipijoddaaDoorCxM
namespace Go.Proofs.YtggpffipijoddaaDoor
open Go.RowKit

theorem right_above {t : Tr} {a b : Int} (hk : t.d.kind ≠ 9) (ha : a ≠ 8) (hb : b ≠ 8) : rightB t a = rightB t b := by
  obtain ⟨d, l⟩ := t
  simp only [Tr.d] at hk
  simp only [rightB]
  congr 1
  unfold ownB
  rw [decide_eq_false ha, decide_eq_false hb]
  simp only [hk, if_false]
theorem rights_kid {k : Int} : ∀ {l : List Tr} {t : Tr}, rightsB k l = true → t ∈ l → rightB t k = true
  | [], _, _, h => by cases h
  | a :: l, t, hr, h => by
    simp only [rightsB, Bool.and_eq_true] at hr
    rcases List.mem_cons.1 h with rfl | h
    · exact hr.1.2
    · exact rights_kid hr.2 h
theorem kid_right {t k : Tr} {a : Int} (h : rightB t a = true) (hk : k ∈ t.l) : rightB k t.d.kind = true := by
  obtain ⟨d, l⟩ := t
  simp only [rightB, Bool.and_eq_true] at h
  exact rights_kid h.2 hk
theorem mem_sizes : ∀ {l : List Tr} {k : Tr}, k ∈ l → k.size ≤ Tr.sizes l ∧ k.depth ≤ Tr.depths l
  | [], _, h => by cases h
  | a :: l, k, h => by
    simp only [Tr.sizes, Tr.depths]
    rcases List.mem_cons.1 h with rfl | h
    · omega
    · have := mem_sizes h; omega
theorem check_iff (t : Tr) : checkI t = 0 ↔ t.size ≤ 256 ∧ t.depth ≤ 32 ∧ rightB t 6 = true := by
  unfold checkI
  by_cases h1 : 256 < t.size
  · rw [if_pos h1]; omega
  rw [if_neg h1]
  by_cases h2 : 32 < t.depth
  · rw [if_pos h2]; omega
  rw [if_neg h2]
  by_cases h3 : rightB t 6 = true
  · rw [if_pos h3]; exact ⟨fun _ => ⟨by omega, by omega, h3⟩, fun _ => rfl⟩
  · rw [if_neg h3]; exact ⟨fun h => by omega, fun h => absurd h.2.2 h3⟩
theorem kid_check {t k : Tr} (h : checkI t = 0) (hk : k ∈ t.l) (h8 : t.d.kind ≠ 8) (h9 : k.d.kind ≠ 9) : checkI k = 0 := by
  rw [check_iff] at h ⊢
  obtain ⟨h1, h2, h3⟩ := h
  have hr := kid_right h3 hk
  have hs : k.size ≤ Tr.sizes t.l ∧ k.depth ≤ Tr.depths t.l := mem_sizes hk
  have e1 : t.size = Tr.sizes t.l + 1 := by cases t; simp [Tr.size, Tr.l]
  have e2 : t.depth = Tr.depths t.l + 1 := by cases t; simp [Tr.depth, Tr.l]
  refine ⟨by omega, by omega, ?_⟩
  rw [right_above h9 (b := t.d.kind) (by omega) h8]
  exact hr
theorem code_mk (t : Tr) : codeL t = codeOne t.d t.l.length ++ t.l.flatMap codeL := by
  obtain ⟨d, l⟩ := t
  simp only [codeL, Tr.nodes, List.flatMap_cons, Tr.d, Tr.l]
  congr 1
  induction l with
  | nil => simp [Tr.nodess]
  | cons a l ih => simp only [Tr.nodess, List.flatMap_append, ih, List.flatMap_cons]; rfl
/-- what the law's loop makes of a node below. -/
def partKid (k : Tr) : List UInt8 := if k.d.kind = 9 then [88, 59] else codeT k
theorem right_missing {k : Tr} {a : Int} (h : rightB k a = true) (h9 : k.d.kind = 9) : k.l = [] ∧ a = 4 := by
  obtain ⟨d, l⟩ := k
  simp only [Tr.d] at h9
  simp only [rightB, Bool.and_eq_true] at h
  have h1 := h.1
  unfold ownB at h1
  rw [h9] at h1
  simp at h1
  exact ⟨by simpa [Tr.l] using h1.2.2, h1.1⟩
theorem code_missing {k : Tr} {a : Int} (h : rightB k a = true) (h9 : k.d.kind = 9) : codeL k = [88, 59] := by
  obtain ⟨h1, -⟩ := right_missing h h9
  rw [code_mk, h1]
  simp only [codeOne, partL, h9]
  rfl
theorem kid_part {t k : Tr} (h : checkI t = 0) (hk : k ∈ t.l) (h8 : t.d.kind ≠ 8) : partKid k = codeL k := by
  unfold partKid
  by_cases h9 : k.d.kind = 9
  · rw [if_pos h9]
    exact (code_missing (kid_right ((check_iff t).1 h).2.2 hk) h9).symm
  · rw [if_neg h9]
    unfold codeT
    rw [if_pos (kid_check h hk h8 h9)]
theorem kid_part_le {t k : Tr} (h : checkI t = 0) (hk : k ∈ t.l) : (partKid k).length ≤ (codeL k).length := by
  unfold partKid
  by_cases h9 : k.d.kind = 9
  · rw [if_pos h9, code_missing (kid_right ((check_iff t).1 h).2.2 hk) h9]; simp
  · rw [if_neg h9]
    unfold codeT
    split <;> simp
theorem parts_suffix {t : Tr} (h : checkI t = 0) (h8 : t.d.kind ≠ 8) : codeL t = codeOne t.d t.l.length ++ t.l.flatMap partKid := by
  rw [code_mk]
  congr 1
  have : ∀ l : List Tr, (∀ k ∈ l, partKid k = codeL k) → l.flatMap codeL = l.flatMap partKid := by
    intro l
    induction l with
    | nil => intro _; rfl
    | cons a l ih => intro hl; rw [List.flatMap_cons, List.flatMap_cons, hl a (by simp), ih (fun k hk => hl k (by simp [hk]))]
  exact this _ (fun k hk => kid_part h hk h8)
theorem flat_le {l : List Tr} (hl : ∀ k ∈ l, (partKid k).length ≤ (codeL k).length) : (l.flatMap partKid).length ≤ (l.flatMap codeL).length := by
  induction l with
  | nil => simp
  | cons a l ih =>
    have h1 := hl a (by simp)
    have h2 := ih (fun k hk => hl k (by simp [hk]))
    simp only [List.flatMap_cons, List.length_append]
    omega
theorem parts_le {t : Tr} (h : checkI t = 0) : (t.l.flatMap partKid).length ≤ (codeL t).length := by
  rw [code_mk]
  have := flat_le (l := t.l) (fun k hk => kid_part_le h hk)
  simp only [List.length_append]; omega

def fName : ByteArray := ByteArray.mk #[70]
/-- a call of a tree. -/
def fD : ND := { zeroND with kind := 4, name := fName }
theorem fD_ok : fD.ok := by unfold ND.ok Vl.ok Cn.ok i64; decide +kernel
theorem fD_own {k0 : Int} (h : k0 ≠ 9) : ownB fD 1 k0 6 = true := by
  have e : ownB fD 1 k0 6 = (isCallB fD.name && decide (1 ≤ 32) && !decide (1 = 1 ∧ k0 = 9) && decide (fD = { zeroND with name := fD.name, kind := fD.kind })) := rfl
  have e2 : decide (1 = 1 ∧ k0 = 9) = false := decide_eq_false (fun h' => h h'.2)
  rw [e, e2]
  decide +kernel
theorem fD_code : codeOne fD 1 = [67, 49, 58, 70, 44, 49, 59] := by decide +kernel
theorem fD_short : fD.name.size ≤ 2000000 ∧ fD.v.text.size ≤ 2000000 := by decide +kernel
def callT (t : Tr) : Tr := .mk fD [t]
theorem call_ok (t : Tr) : (callT t).d.ok := fD_ok
theorem call_size (t : Tr) : (callT t).size = t.size + 1 := by simp [callT, Tr.size, Tr.sizes]
theorem call_depth (t : Tr) : (callT t).depth = t.depth + 1 := by simp [callT, Tr.depth, Tr.depths]
theorem call_right {t : Tr} (h : rightB t 6 = true) : rightB (callT t) 6 = true := by
  have h9 : t.d.kind ≠ 9 := fun e => by have := (right_missing h e).2; omega
  have hr : rightB t 4 = true := by rw [right_above h9 (b := 6) (by omega) (by omega)]; exact h
  have e : rightB (callT t) 6 = (ownB fD 1 t.d.kind 6 && ((decide (fD.kind ≠ 8) || decide (t.d.kind = 0)) && rightB t fD.kind && true)) := by simp only [callT, rightB, rightsB, kind0, List.length_cons, List.length_nil, Nat.zero_add]
  rw [e, fD_own h9, show fD.kind = 4 from rfl, hr]
  rfl
theorem call_check {t : Tr} (h : checkI t = 0) : checkI (callT t) = if 255 < t.size then 5 else if 31 < t.depth then 8 else 0 := by
  have hr := call_right ((check_iff t).1 h).2.2
  unfold checkI
  rw [call_size, call_depth, hr]
  by_cases h1 : 255 < t.size
  · rw [if_pos h1, if_pos (by omega)]
  rw [if_neg h1, if_neg (by omega)]
  by_cases h2 : 31 < t.depth
  · rw [if_pos h2, if_pos (by omega)]
  rw [if_neg h2, if_neg (by omega), if_pos rfl]
theorem call_code (t : Tr) : codeL (callT t) = [67, 49, 58, 70, 44, 49, 59] ++ codeL t := by
  rw [code_mk]
  simp only [callT, Tr.l, Tr.d, List.flatMap_cons, List.flatMap_nil, List.append_nil, List.length_cons, List.length_nil]
  rw [fD_code]
theorem call_short {t : Tr} (h : Short t) : Short (callT t) := by
  intro x hx
  simp only [callT, Tr.nodes, Tr.nodess, List.append_nil, List.mem_cons] at hx
  rcases hx with rfl | hx
  · exact fD_short
  · exact h x hx
end Go.Proofs.YtggpffipijoddaaDoor
