/- Fill: the plain law of a tree that goes a way. -/
import Derived.Test.YtbkmnboicihchaaTr
namespace Go.Proofs.Ytbkmnboicihchaa
set_option linter.unusedSimpArgs false
set_option linter.unusedVariables false

/-- an id. -/
structure Ik where
  a : Int
  n : Int
deriving DecidableEq
def Ik.z (x : Ik) : Bool := decide (x.a = 0 ∧ x.n = 0)
/-- the place of an id among live ones. -/
def placeL : List Ik → Ik → Option Nat
  | [], _ => none
  | x :: l, y => if x = y then some 0 else (placeL l y).map (· + 1)
theorem placeL_some : ∀ {l : List Ik} {y : Ik} {k : Nat}, placeL l y = some k → ∃ h : k < l.length, l[k] = y
  | [], _, _, h => by cases h
  | x :: l, y, k, h => by
    unfold placeL at h
    by_cases e : x = y
    · rw [if_pos e] at h
      obtain rfl := Option.some.inj h
      exact ⟨by simp, e⟩
    · rw [if_neg e] at h
      cases hp : placeL l y with
      | none => rw [hp] at h; cases h
      | some j =>
        rw [hp] at h
        obtain rfl := Option.some.inj h
        obtain ⟨h1, h2⟩ := placeL_some hp
        exact ⟨by simp; omega, by simpa using h2⟩
theorem placeL_at : ∀ {l : List Ik} (hn : l.Nodup) {k : Nat} (h : k < l.length), placeL l l[k] = some k
  | x :: l, hn, 0, h => by unfold placeL; rw [if_pos (by simp)]
  | x :: l, hn, k + 1, h => by
    have h1 : k < l.length := by simpa using h
    have hne : x ≠ l[k] := fun e => (List.nodup_cons.1 hn).1 (e ▸ List.getElem_mem h1)
    unfold placeL
    rw [show (x :: l)[k + 1] = l[k] from rfl, if_neg hne, placeL_at (List.nodup_cons.1 hn).2 h1]
    rfl
theorem placeL_none : ∀ {l : List Ik} {y : Ik}, placeL l y = none ↔ y ∉ l
  | [], _ => by simp [placeL]
  | x :: l, y => by
    unfold placeL
    by_cases e : x = y
    · simp [e]
    · rw [if_neg e, Option.map_eq_none_iff, placeL_none]
      simp [Ne.symm e]
/-- the id so many places further; none: it falls out. -/
def goneI (l : List Ik) (d : Int) (y : Ik) : Option Ik :=
  match placeL l y with
  | none => some y
  | some p => if 0 ≤ (p : Int) + d then l[((p : Int) + d).toNat]? else none
theorem goneI_some {l : List Ik} {d : Int} {y y' : Ik} (h : goneI l d y = some y') : (y ∉ l ∧ y' = y) ∨ ∃ p q : Nat, ∃ hp : p < l.length, ∃ hq : q < l.length, l[p] = y ∧ (p : Int) + d = q ∧ l[q] = y' := by
  unfold goneI at h
  cases hp : placeL l y with
  | none =>
    rw [hp] at h
    exact .inl ⟨placeL_none.1 hp, (Option.some.inj h).symm⟩
  | some p =>
    rw [hp] at h
    dsimp only at h
    obtain ⟨h1, h2⟩ := placeL_some hp
    by_cases c : 0 ≤ (p : Int) + d
    · rw [if_pos c] at h
      obtain ⟨h3, h4⟩ := List.getElem?_eq_some_iff.1 h
      exact .inr ⟨p, _, h1, h3, h2, by omega, h4⟩
    · rw [if_neg c] at h; cases h
theorem goneI_out {l : List Ik} {d : Int} {y : Ik} (h : y ∉ l) : goneI l d y = some y := by
  unfold goneI
  rw [placeL_none.2 h]
theorem goneI_in {l : List Ik} (hn : l.Nodup) {d : Int} {p q : Nat} (hp : p < l.length) (hq : q < l.length) (e : (p : Int) + d = q) : goneI l d l[p] = some l[q] := by
  unfold goneI
  rw [placeL_at hn hp]
  dsimp only
  rw [if_pos (by omega), show ((p : Int) + d).toNat = q by omega, List.getElem?_eq_getElem hq]
theorem goneI_back {l : List Ik} (hn : l.Nodup) {d : Int} {y y' : Ik} (h : goneI l d y = some y') : goneI l (-d) y' = some y := by
  rcases goneI_some h with ⟨h1, rfl⟩ | ⟨p, q, hp, hq, rfl, e, rfl⟩
  · exact goneI_out h1
  · exact goneI_in hn hq hp (by omega)
theorem goneI_add {l : List Ik} (hn : l.Nodup) {d d' : Int} {y y' y'' : Ik} (h : goneI l d y = some y') (h' : goneI l d' y' = some y'') : goneI l (d + d') y = some y'' := by
  rcases goneI_some h with ⟨h1, rfl⟩ | ⟨p, q, hp, hq, rfl, e, rfl⟩
  · rcases goneI_some h' with ⟨-, rfl⟩ | ⟨p, q, hp, hq, rfl, e, rfl⟩
    · exact goneI_out h1
    · exact absurd (List.getElem_mem hp) h1
  · rcases goneI_some h' with ⟨h1, -⟩ | ⟨p', q', hp', hq', e1, e2, rfl⟩
    · exact absurd (List.getElem_mem hq) h1
    · have : p' = q := by
        have h1 := placeL_at hn hp'
        have h2 := placeL_at hn hq
        rw [e1, h2] at h1
        exact (Option.some.inj h1).symm
      subst this
      exact goneI_in hn hp hq' (by omega)
def goneX (l : List Ik) (d : Int) (fix : Bool) (y : Ik) : Option Ik := if fix then some y else goneI l d y
theorem goneX_back {l : List Ik} (hn : l.Nodup) {d : Int} {f : Bool} {y y' : Ik} (h : goneX l d f y = some y') : goneX l (-d) f y' = some y := by
  unfold goneX at *
  cases f with
  | true => rw [if_pos rfl] at *; exact h.symm
  | false => rw [if_neg (by decide)] at *; exact goneI_back hn h
theorem goneX_add {l : List Ik} (hn : l.Nodup) {d d' : Int} {f : Bool} {y y' y'' : Ik} (h : goneX l d f y = some y') (h' : goneX l d' f y' = some y'') : goneX l (d + d') f y = some y'' := by
  unfold goneX at *
  cases f with
  | true => rw [if_pos rfl] at *; exact h.trans h'
  | false => rw [if_neg (by decide)] at *; exact goneI_add hn h h'
def Cn.row' (c : Cn) : Ik := ⟨c.ra, c.rn⟩
def Cn.col' (c : Cn) : Ik := ⟨c.ca, c.cn⟩
def Cn.put' (c : Cn) (r k : Ik) : Cn := { c with ra := r.a, rn := r.n, ca := k.a, cn := k.n }
/-- the way: the live rows, the live columns, so many places down and to the right. -/
structure Wy where
  rows : List Ik
  cols : List Ik
  down : Int
  right : Int
def Wy.back (w : Wy) : Wy := ⟨w.rows, w.cols, -w.down, -w.right⟩
def Wy.on (w : Wy) (d r : Int) : Wy := ⟨w.rows, w.cols, d, r⟩
/-- a corner that goes a way. -/
def goneC (w : Wy) (c : Cn) : Option Cn :=
  match goneX w.rows w.down c.fr c.row', goneX w.cols w.right c.fc c.col' with
  | some r, some k => some (c.put' r k)
  | _, _ => none
theorem goneC_some {w : Wy} {c c' : Cn} (h : goneC w c = some c') : ∃ r k, goneX w.rows w.down c.fr c.row' = some r ∧ goneX w.cols w.right c.fc c.col' = some k ∧ c' = c.put' r k := by
  unfold goneC at h
  cases h1 : goneX w.rows w.down c.fr c.row' with
  | none => rw [h1] at h; cases h
  | some r =>
    cases h2 : goneX w.cols w.right c.fc c.col' with
    | none => rw [h1, h2] at h; cases h
    | some k => rw [h1, h2] at h; exact ⟨r, k, rfl, rfl, (Option.some.inj h).symm⟩
theorem goneC_of {w : Wy} {c : Cn} {r k : Ik} (h1 : goneX w.rows w.down c.fr c.row' = some r) (h2 : goneX w.cols w.right c.fc c.col' = some k) : goneC w c = some (c.put' r k) := by
  unfold goneC
  rw [h1, h2]
theorem goneC_back {w : Wy} (hr : w.rows.Nodup) (hc : w.cols.Nodup) {c c' : Cn} (h : goneC w c = some c') : goneC w.back c' = some c := by
  obtain ⟨r, k, h1, h2, rfl⟩ := goneC_some h
  exact goneC_of (w := w.back) (c := c.put' r k) (goneX_back hr h1) (goneX_back hc h2)
theorem goneC_add {w : Wy} (hr : w.rows.Nodup) (hc : w.cols.Nodup) {d r : Int} {c c' c'' : Cn} (h : goneC w c = some c') (h' : goneC (w.on d r) c' = some c'') : goneC (w.on (w.down + d) (w.right + r)) c = some c'' := by
  obtain ⟨r1, k1, h1, h2, rfl⟩ := goneC_some h
  obtain ⟨r2, k2, h3, h4, rfl⟩ := goneC_some h'
  exact goneC_of (w := w.on (w.down + d) (w.right + r)) (goneX_add hr h1 h3) (goneX_add hc h2 h4)
/-- a node that falls out. -/
def lostND : ND := ⟨0, ⟨4, 0, 0, ⟨#[]⟩, false, 3⟩, ⟨#[]⟩, ⟨0, 0, 0, 0, false, false⟩, ⟨0, 0, 0, 0, false, false⟩, 0⟩
/-- a node that goes a way. -/
def goneD (w : Wy) (d : ND) : Option ND :=
  if d.kind = 1 ∨ d.kind = 3 then (goneC w d.a).map fun a => { d with a := a }
  else if d.kind = 2 then match goneC w d.a, goneC w d.b with | some a, some b => some { d with a := a, b := b } | _, _ => none
  else some d
theorem goneD_kind {w : Wy} {d d' : ND} (h : goneD w d = some d') : d'.kind = d.kind := by
  unfold goneD at h
  split at h
  · obtain ⟨a, -, rfl⟩ := Option.map_eq_some_iff.1 h
    rfl
  · split at h
    · split at h
      · obtain rfl := Option.some.inj h; rfl
      · cases h
    · obtain rfl := Option.some.inj h; rfl
theorem goneD_back {w : Wy} (hr : w.rows.Nodup) (hc : w.cols.Nodup) {d d' : ND} (h : goneD w d = some d') : goneD w.back d' = some d := by
  have hk := goneD_kind h
  unfold goneD at h ⊢
  rw [hk]
  by_cases c1 : d.kind = 1 ∨ d.kind = 3
  · rw [if_pos c1] at h ⊢
    obtain ⟨a, ha, rfl⟩ := Option.map_eq_some_iff.1 h
    dsimp only
    rw [goneC_back hr hc ha]
    rfl
  · rw [if_neg c1] at h ⊢
    by_cases c2 : d.kind = 2
    · rw [if_pos c2] at h ⊢
      cases ha : goneC w d.a with
      | none => rw [ha] at h; cases h
      | some a =>
        cases hb : goneC w d.b with
        | none => rw [ha, hb] at h; cases h
        | some b =>
          rw [ha, hb] at h
          obtain rfl := Option.some.inj h
          dsimp only
          rw [goneC_back hr hc ha, goneC_back hr hc hb]
    · rw [if_neg c2] at h ⊢
      exact congrArg some (Option.some.inj h).symm
theorem goneD_add {w : Wy} (hr : w.rows.Nodup) (hc : w.cols.Nodup) {x y : Int} {d d' d'' : ND} (h : goneD w d = some d') (h' : goneD (w.on x y) d' = some d'') : goneD (w.on (w.down + x) (w.right + y)) d = some d'' := by
  have hk := goneD_kind h
  unfold goneD at h h' ⊢
  rw [hk] at h'
  by_cases c1 : d.kind = 1 ∨ d.kind = 3
  · rw [if_pos c1] at h h' ⊢
    obtain ⟨a, ha, rfl⟩ := Option.map_eq_some_iff.1 h
    obtain ⟨a', ha', rfl⟩ := Option.map_eq_some_iff.1 h'
    dsimp only at ha'
    rw [goneC_add hr hc ha ha']
    rfl
  · rw [if_neg c1] at h h' ⊢
    by_cases c2 : d.kind = 2
    · rw [if_pos c2] at h h' ⊢
      cases ha : goneC w d.a with
      | none => rw [ha] at h; cases h
      | some a =>
        cases hb : goneC w d.b with
        | none => rw [ha, hb] at h; cases h
        | some b =>
          rw [ha, hb] at h
          obtain rfl := Option.some.inj h
          dsimp only at h'
          cases ha' : goneC (w.on x y) a with
          | none => rw [ha'] at h'; cases h'
          | some a' =>
            cases hb' : goneC (w.on x y) b with
            | none => rw [ha', hb'] at h'; cases h'
            | some b' =>
              rw [ha', hb'] at h'
              obtain rfl := Option.some.inj h'
              rw [goneC_add hr hc ha ha', goneC_add hr hc hb hb']
    · rw [if_neg c2] at h h' ⊢
      obtain rfl := Option.some.inj h
      exact h'
mutual
/-- a tree that goes a way. -/
def goneT (w : Wy) : Tr → Tr
  | .mk d l => match goneD w d with | none => .mk lostND [] | some d' => .mk d' (goneTs w l)
def goneTs (w : Wy) : List Tr → List Tr
  | [] => []
  | t :: ts => goneT w t :: goneTs w ts
end
theorem goneTs_map (w : Wy) : ∀ l : List Tr, goneTs w l = l.map (goneT w)
  | [] => by simp [goneTs]
  | t :: ts => by simp [goneTs, goneTs_map w ts]
theorem goneT_mk (w : Wy) (d : ND) (l : List Tr) : goneT w (.mk d l) = match goneD w d with | none => .mk lostND [] | some d' => .mk d' (l.map (goneT w)) := by
  unfold goneT
  rw [goneTs_map]
mutual
/-- does nothing of a tree fall out? -/
def stayT (w : Wy) : Tr → Prop
  | .mk d l => goneD w d ≠ none ∧ stayTs w l
def stayTs (w : Wy) : List Tr → Prop
  | [] => True
  | t :: ts => stayT w t ∧ stayTs w ts
end
theorem stayTs_iff (w : Wy) : ∀ l : List Tr, stayTs w l ↔ ∀ t ∈ l, stayT w t
  | [] => by simp [stayTs]
  | t :: ts => by simp [stayTs, stayTs_iff w ts]
theorem stayT_mk (w : Wy) (d : ND) (l : List Tr) : stayT w (.mk d l) ↔ goneD w d ≠ none ∧ ∀ t ∈ l, stayT w t := by
  simp only [stayT, stayTs_iff]
/-- there and back. -/
theorem goneT_back {w : Wy} (hr : w.rows.Nodup) (hc : w.cols.Nodup) (t : Tr) : stayT w t → goneT w.back (goneT w t) = t := by
  refine Tr.ind (P := fun t => stayT w t → goneT w.back (goneT w t) = t) (fun d l ih h => ?_) t
  obtain ⟨h1, h2⟩ := (stayT_mk w d l).1 h
  cases hd : goneD w d with
  | none => exact absurd hd h1
  | some d' =>
    rw [goneT_mk, hd]
    dsimp only
    rw [goneT_mk, goneD_back hr hc hd]
    dsimp only
    rw [List.map_map]
    congr 1
    rw [List.map_congr_left (f := goneT w.back ∘ goneT w) (g := id) (fun t ht => ih t ht (h2 t ht)), List.map_id]
/-- the way in two parts is the way. -/
theorem goneT_add {w : Wy} (hr : w.rows.Nodup) (hc : w.cols.Nodup) {x y : Int} (t : Tr) : stayT w t → stayT (w.on x y) (goneT w t) → goneT (w.on x y) (goneT w t) = goneT (w.on (w.down + x) (w.right + y)) t := by
  refine Tr.ind (P := fun t => stayT w t → stayT (w.on x y) (goneT w t) → goneT (w.on x y) (goneT w t) = goneT (w.on (w.down + x) (w.right + y)) t) (fun d l ih h h' => ?_) t
  obtain ⟨h1, h2⟩ := (stayT_mk w d l).1 h
  cases hd : goneD w d with
  | none => exact absurd hd h1
  | some d' =>
    rw [goneT_mk, hd] at h' ⊢
    dsimp only at h' ⊢
    obtain ⟨h3, h4⟩ := (stayT_mk _ _ _).1 h'
    cases hd' : goneD (w.on x y) d' with
    | none => exact absurd hd' h3
    | some d'' =>
      rw [goneT_mk, hd', goneT_mk, goneD_add hr hc hd hd']
      dsimp only
      rw [List.map_map]
      congr 1
      exact List.map_congr_left (fun t ht => ih t ht (h2 t ht) (h4 _ (List.mem_map_of_mem ht)))
mutual
/-- how many nodes are Lit. -/
def litN : Tr → Nat
  | .mk d l => (if d.kind = 0 then 1 else 0) + litNs l
def litNs : List Tr → Nat
  | [] => 0
  | t :: ts => litN t + litNs ts
end
mutual
/-- nothing stands below a node that may fall out. -/
def leafT : Tr → Prop
  | .mk d l => (d.kind = 1 ∨ d.kind = 2 ∨ d.kind = 3 → l = []) ∧ leafTs l
def leafTs : List Tr → Prop
  | [] => True
  | t :: ts => leafT t ∧ leafTs ts
end
theorem leafTs_iff : ∀ l : List Tr, leafTs l ↔ ∀ t ∈ l, leafT t
  | [] => by simp [leafTs]
  | t :: ts => by simp [leafTs, leafTs_iff ts]
theorem goneD_lost {w : Wy} {d : ND} (h : goneD w d = none) : d.kind = 1 ∨ d.kind = 2 ∨ d.kind = 3 := by
  unfold goneD at h
  split at h
  · omega
  · split at h
    · omega
    · cases h
theorem litNs_le {F : Tr → Tr} : ∀ {l : List Tr}, (∀ t ∈ l, litN t ≤ litN (F t)) → litNs l ≤ litNs (l.map F)
  | [], _ => by simp [litNs]
  | t :: ts, h => by
    simp only [List.map_cons, litNs]
    have h1 := h t (by simp)
    have h2 := litNs_le (l := ts) (fun t ht => h t (by simp [ht]))
    omega
theorem litNs_eq {F : Tr → Tr} : ∀ {l : List Tr}, (∀ t ∈ l, litN t ≤ litN (F t)) → litNs (l.map F) ≤ litNs l → ∀ t ∈ l, litN (F t) ≤ litN t
  | [], _, _, t, ht => by cases ht
  | x :: ts, h, hle, t, ht => by
    simp only [List.map_cons, litNs] at hle
    have h1 := h x (by simp)
    have h2 := litNs_le (l := ts) (F := F) (fun t ht => h t (by simp [ht]))
    rcases List.mem_cons.1 ht with rfl | ht
    · omega
    · exact litNs_eq (fun t ht => h t (by simp [ht])) (by omega) t ht
theorem litN_mk (d : ND) (l : List Tr) : litN (.mk d l) = (if d.kind = 0 then 1 else 0) + litNs l := by unfold litN; rfl
theorem litN_gone (w : Wy) (t : Tr) : leafT t → litN t ≤ litN (goneT w t) ∧ (litN (goneT w t) ≤ litN t → stayT w t) ∧ leafT (goneT w t) := by
  refine Tr.ind (P := fun t => leafT t → litN t ≤ litN (goneT w t) ∧ (litN (goneT w t) ≤ litN t → stayT w t) ∧ leafT (goneT w t)) (fun d l ih h => ?_) t
  have h' := h
  unfold leafT at h'
  obtain ⟨h1, h2⟩ := h'
  have h3 := (leafTs_iff l).1 h2
  rw [goneT_mk]
  cases hd : goneD w d with
  | none =>
    have hk := goneD_lost hd
    have hl := h1 hk
    subst hl
    dsimp only
    rw [litN_mk, litN_mk, if_neg (by omega), if_pos (show lostND.kind = 0 from rfl)]
    refine ⟨by simp only [litNs]; omega, fun e => by simp only [litNs] at e; omega, ?_⟩
    unfold leafT
    exact ⟨fun _ => rfl, by simp [leafTs]⟩
  | some d' =>
    dsimp only
    rw [litN_mk, litN_mk, goneD_kind hd]
    have hle := litNs_le (l := l) (F := goneT w) (fun t ht => (ih t ht (h3 t ht)).1)
    refine ⟨by omega, fun e => ?_, ?_⟩
    · rw [stayT_mk]
      refine ⟨(by rw [hd]; exact nofun), fun t ht => (ih t ht (h3 t ht)).2.1 ?_⟩
      exact litNs_eq (F := goneT w) (fun t ht => (ih t ht (h3 t ht)).1) (by omega) t ht
    · unfold leafT
      refine ⟨fun hk => ?_, (leafTs_iff _).2 (fun t ht => ?_)⟩
      · rw [goneD_kind hd] at hk
        rw [h1 hk]
        rfl
      · obtain ⟨u, hu, rfl⟩ := List.mem_map.1 ht
        exact (ih u hu (h3 u hu)).2.2
end Go.Proofs.Ytbkmnboicihchaa
