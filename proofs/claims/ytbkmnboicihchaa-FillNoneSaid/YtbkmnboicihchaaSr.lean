/- The reference's Same. -/
import Derived.Test.YtbkmnboicihchaaNd
import Derived.StillTailTactics
namespace Go.Proofs.Ytbkmnboicihchaa
set_option linter.unusedSimpArgs false
set_option linter.unusedVariables false
open Go.RowKit Go.Shelf

mutual
def sameB : Tr → Tr → Bool
  | .mk d l, .mk d' l' => decide (d = d') && samesB l l'
def samesB : List Tr → List Tr → Bool
  | [], [] => true
  | t :: ts, t' :: ts' => sameB t t' && samesB ts ts'
  | _, _ => false
end
theorem samesB_len : ∀ {l l' : List Tr}, samesB l l' = true → l.length = l'.length
  | [], [], _ => rfl
  | t :: ts, t' :: ts', h => by simp only [samesB, Bool.and_eq_true] at h; simp [samesB_len h.2]
  | [], t' :: ts', h => by simp [samesB] at h
  | t :: ts, [], h => by simp [samesB] at h
theorem sameB_iff (t : Tr) : ∀ t', sameB t t' = true ↔ t = t' := by
  induction t using Tr.ind with
  | _ d l ih =>
    rintro ⟨d', l'⟩
    simp only [sameB, Bool.and_eq_true, decide_eq_true_eq, Tr.mk.injEq]
    suffices h : ∀ l', samesB l l' = true ↔ l = l' by rw [h]
    clear l'
    induction l with
    | nil => intro l'; cases l' <;> simp [samesB]
    | cons a l ih2 =>
      intro l'
      cases l' with
      | nil => simp [samesB]
      | cons a' l' =>
        simp only [samesB, Bool.and_eq_true, List.cons.injEq]
        rw [ih a (by simp), ih2 (fun t ht => ih t (by simp [ht]))]
theorem sameB_eq (t t' : Tr) : sameB t t' = true ↔ t = t' := sameB_iff t t'
theorem samesB_take_step : ∀ {l l' : List Tr} {j : Nat} (h : j < l.length) (h' : j < l'.length), samesB (l.take j) (l'.take j) = true → samesB (l.take (j + 1)) (l'.take (j + 1)) = sameB l[j] l'[j]
  | t :: ts, t' :: ts', 0, _, _, _ => by simp [samesB]
  | t :: ts, t' :: ts', j + 1, h, h', hs => by
    simp only [List.take_succ_cons, samesB, Bool.and_eq_true] at hs
    simp only [List.take_succ_cons, samesB, List.getElem_cons_succ, hs.1, Bool.true_and]
    exact samesB_take_step (by simpa using h) (by simpa using h') hs.2
theorem samesB_no : ∀ {l l' : List Tr} {j : Nat} (h : j < l.length) (h' : j < l'.length), sameB l[j] l'[j] = false → samesB l l' = false
  | t :: ts, t' :: ts', 0, _, _, hs => by simp only [List.getElem_cons_zero] at hs; simp [samesB, hs]
  | t :: ts, t' :: ts', j + 1, h, h', hs => by
    simp only [List.getElem_cons_succ] at hs
    simp [samesB, samesB_no (by simpa using h) (by simpa using h') hs]

set_option maxRecDepth 100000 in
set_option maxHeartbeats 4000000 in
theorem rsame_head (w : World) (d d' : ND) (A A' : Option Addr) (n c n' c' : Nat) (hne : ¬ (d = d' ∧ n = n')) :
    Calls Try.prog 18 #[nodeV d A n c, nodeV d' A' n' c'] w fun e w' => e = .returned (.bool false) ∧ Below w.heap.size w w' := by
  obtain ⟨N, hN⟩ : ∃ N, N = nodeA d A n c := ⟨_, rfl⟩
  obtain ⟨N', hN'⟩ : ∃ N, N = nodeA d' A' n' c' := ⟨_, rfl⟩
  have hh := nodeA_all d A n c
  have hh' := nodeA_all d' A' n' c'
  rw [← hN] at hh
  rw [← hN'] at hh'
  rw [nodeV, nodeV, ← hN, ← hN']
  clear hN hN'
  obtain ⟨h0, h1, h2, h3, h4, h5, h6, h7, h8, h9, h10, h11, h12, h13, h14, h15, h16, h17, h18, h19, h20, h21⟩ := hh
  obtain ⟨h'0, h'1, h'2, h'3, h'4, h'5, h'6, h'7, h'8, h'9, h'10, h'11, h'12, h'13, h'14, h'15, h'16, h'17, h'18, h'19, h'20, h'21⟩ := hh'
  obtain ⟨kind, v, name, a, q, rows⟩ := d
  obtain ⟨kind', v', name', a', q', rows'⟩ := d'
  dsimp only at h0 h1 h2 h3 h4 h5 h6 h7 h8 h9 h10 h11 h12 h13 h14 h15 h16 h17 h18 h19 h20 h21 h'0 h'1 h'2 h'3 h'4 h'5 h'6 h'7 h'8 h'9 h'10 h'11 h'12 h'13 h'14 h'15 h'16 h'17 h'18 h'19 h'20 h'21
  have HV := Lib.hid (fun w => eqV w v v')
  have HA := Lib.hid (fun w => eqA w a q a' q')
  have HNE := Lib.hid hne
  clear hne
  have hfin : Below w.heap.size w ((w.alloc (.cells N 44)).alloc (.cells N' 44)) := ((Below.refl _ w).alloc (Nat.le_refl _) _).alloc (by simp) _
  have HF := Lib.hid hfin
  clear hfin
  by_cases e : kind = kind'
  case neg =>
    have q1 : (kind != kind') = true := by simpa using e
    clear e
    go_enter Try.func18, Try.ntmps18
    go_wp2
    go_ret
    exact ⟨rfl, HF.out⟩
  subst e
  by_cases e : v = v'
  case neg =>
    have q1 := fun w => HV.out w
    rw [decide_eq_false e] at q1
    go_enter Try.func18, Try.ntmps18
    go_wp2
    go_ret
    exact ⟨rfl, HF.out⟩
  subst e
  have r1 := fun w => HV.out w
  rw [decide_eq_true rfl] at r1
  by_cases e : name = name'
  case neg =>
    have q1 : (name.toList == name'.toList) = false := by rw [beq_eq_false_iff_ne]; intro h; rw [str_eq] at h; exact e h
    have q2 : (name.toList != name'.toList) = true := by rw [bne_iff_ne]; intro h; rw [str_eq] at h; exact e h
    have q3 : ¬ name.toList = name'.toList := by rw [str_eq]; exact e
    go_enter Try.func18, Try.ntmps18
    go_wp2
    go_ret
    exact ⟨rfl, HF.out⟩
  subst e
  by_cases e : a = a' ∧ q = q'
  case neg =>
    have q1 := fun w => HA.out w
    rw [decide_eq_false e] at q1
    go_enter Try.func18, Try.ntmps18
    go_wp2
    go_ret
    exact ⟨rfl, HF.out⟩
  obtain ⟨rfl, rfl⟩ := e
  have r2 := fun w => HA.out w
  rw [decide_eq_true ⟨rfl, rfl⟩] at r2
  by_cases e : rows = rows'
  case neg =>
    have q1 : (rows != rows') = true := by simpa using e
    clear e
    go_enter Try.func18, Try.ntmps18
    go_wp2
    go_ret
    exact ⟨rfl, HF.out⟩
  subst e
  have e : ¬ n = n' := fun e => HNE.out ⟨rfl, e⟩
  have q1 : ((n : Int) != (n' : Int)) = true := by rw [bne_iff_ne]; omega
  have q2 : (n != n') = true := by rw [bne_iff_ne]; omega
  go_enter Try.func18, Try.ntmps18
  go_wp2
  go_ret
  exact ⟨rfl, HF.out⟩
end Go.Proofs.Ytbkmnboicihchaa
