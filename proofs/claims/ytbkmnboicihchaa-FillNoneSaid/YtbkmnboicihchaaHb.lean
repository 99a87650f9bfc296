/- Fill: the plain laws of FillShifts, FillBack and FillReads. -/
import Derived.Test.YtbkmnboicihchaaHa
namespace Go.Proofs.Ytbkmnboicihchaa
set_option linter.unusedSimpArgs false
set_option linter.unusedVariables false

/-- a cell. -/
structure Cl where
  row : Ik
  col : Ik
deriving DecidableEq
/-- how many places lie between two live ids. -/
def wayI (l : List Ik) (x y : Ik) : Option Int :=
  match placeL l x, placeL l y with
  | some p, some q => some ((q : Int) - p)
  | _, _ => none
theorem wayI_some {l : List Ik} {x y : Ik} {d : Int} (h : wayI l x y = some d) : ∃ p q : Nat, placeL l x = some p ∧ placeL l y = some q ∧ d = (q : Int) - p := by
  unfold wayI at h
  cases h1 : placeL l x with
  | none => rw [h1] at h; cases h
  | some p =>
    cases h2 : placeL l y with
    | none => rw [h1, h2] at h; cases h
    | some q => rw [h1, h2] at h; exact ⟨p, q, rfl, rfl, (Option.some.inj h).symm⟩
theorem wayI_of {l : List Ik} {x y : Ik} {p q : Nat} (h1 : placeL l x = some p) (h2 : placeL l y = some q) : wayI l x y = some ((q : Int) - p) := by
  unfold wayI
  rw [h1, h2]
/-- a tree that goes from a cell to another one. -/
def shiftT (rows cols : List Ik) (x y : Cl) (t : Tr) : Tr :=
  match wayI rows x.row y.row, wayI cols x.col y.col with
  | some d, some r => goneT ⟨rows, cols, d, r⟩ t
  | _, _ => t
theorem shiftT_of {rows cols : List Ik} {x y : Cl} {d r : Int} (h1 : wayI rows x.row y.row = some d) (h2 : wayI cols x.col y.col = some r) (t : Tr) : shiftT rows cols x y t = goneT ⟨rows, cols, d, r⟩ t := by
  unfold shiftT
  rw [h1, h2]
theorem shiftT_no {rows cols : List Ik} {x y : Cl} (h : wayI rows x.row y.row = none ∨ wayI cols x.col y.col = none) (t : Tr) : shiftT rows cols x y t = t := by
  unfold shiftT
  rcases h with h | h
  · rw [h]
  · rw [h]
    cases wayI rows x.row y.row <;> rfl
/-- THERE AND BACK, and the way in two parts. -/
theorem fill_back {rows cols : List Ik} (hr : rows.Nodup) (hc : cols.Nodup) {c0 c1 c2 : Cl} {a0 a1 a2 b0 b1 b2 : Nat}
    (h0 : placeL rows c0.row = some a0) (h1 : placeL rows c1.row = some a1) (h2 : placeL rows c2.row = some a2) (k0 : placeL cols c0.col = some b0) (k1 : placeL cols c1.col = some b1) (k2 : placeL cols c2.col = some b2)
    {t : Tr} (hl : leafT t) (hx : litN (shiftT rows cols c0 c1 t) ≤ litN t) (hy : litN (shiftT rows cols c1 c2 (shiftT rows cols c0 c1 t)) ≤ litN t) :
    shiftT rows cols c1 c0 (shiftT rows cols c0 c1 t) = t ∧ shiftT rows cols c1 c2 (shiftT rows cols c0 c1 t) = shiftT rows cols c0 c2 t := by
  rw [shiftT_of (wayI_of h0 h1) (wayI_of k0 k1)] at hx hy ⊢
  rw [shiftT_of (wayI_of h1 h2) (wayI_of k1 k2)] at hy ⊢
  rw [shiftT_of (wayI_of h1 h0) (wayI_of k1 k0), shiftT_of (wayI_of h0 h2) (wayI_of k0 k2)]
  obtain ⟨e1, e2, e3⟩ := litN_gone ⟨rows, cols, (a1 : Int) - a0, (b1 : Int) - b0⟩ t hl
  have hs := e2 hx
  obtain ⟨e4, e5, -⟩ := litN_gone ⟨rows, cols, (a2 : Int) - a1, (b2 : Int) - b1⟩ _ e3
  have hs2 := e5 (by omega)
  constructor
  · have := goneT_back (w := ⟨rows, cols, (a1 : Int) - a0, (b1 : Int) - b0⟩) hr hc t hs
    unfold Wy.back at this
    dsimp only at this
    rwa [show -((a1 : Int) - a0) = (a0 : Int) - a1 by omega, show -((b1 : Int) - b0) = (b0 : Int) - b1 by omega] at this
  · have := goneT_add (w := ⟨rows, cols, (a1 : Int) - a0, (b1 : Int) - b0⟩) hr hc (x := (a2 : Int) - a1) (y := (b2 : Int) - b1) t hs hs2
    unfold Wy.on at this
    dsimp only at this
    rwa [show (a1 : Int) - a0 + ((a2 : Int) - a1) = (a2 : Int) - a0 by omega, show (b1 : Int) - b0 + ((b2 : Int) - b1) = (b2 : Int) - b0 by omega] at this
/-- where a corner stands behind the way. -/
theorem goneX_place {l : List Ik} (hn : l.Nodup) {y : Ik} {p : Nat} (hp : placeL l y = some p) (f : Bool) (d : Int) :
    goneX l d f y = if 0 ≤ (if f then (p : Int) else p + d) then l[(if f then (p : Int) else p + d).toNat]? else none := by
  obtain ⟨h1, h2⟩ := placeL_some hp
  unfold goneX
  cases f with
  | true =>
    rw [if_pos rfl, if_pos rfl, if_pos (by omega), show ((p : Int)).toNat = p by omega, List.getElem?_eq_getElem h1, h2]
  | false =>
    simp only [Bool.false_eq_true, if_false]
    unfold goneI
    rw [hp]
/-- WHAT A COPY READS IS WHERE IT WAS. -/
theorem fill_reads {rows cols : List Ik} (hr : rows.Nodup) (hc : cols.Nodup) {x y : Cl} {d : ND} (hk : d.kind = 1) {p0 p1 p2 p3 p4 p5 : Nat}
    (h0 : placeL rows d.a.row' = some p0) (h1 : placeL cols d.a.col' = some p1) (h2 : placeL rows x.row = some p2) (h3 : placeL cols x.col = some p3) (h4 : placeL rows y.row = some p4) (h5 : placeL cols y.col = some p5) :
    let row : Int := if d.a.fr then (p0 : Int) else p0 + p4 - p2
    let col : Int := if d.a.fc then (p1 : Int) else p1 + p5 - p3
    (row < 0 ∨ col < 0 ∨ (rows.length : Int) ≤ row ∨ (cols.length : Int) ≤ col → shiftT rows cols x y (.mk d []) = .mk lostND []) ∧
    (∀ (i j : Nat) (hi : i < rows.length) (hj : j < cols.length), row = i → col = j → shiftT rows cols x y (.mk d []) = .mk { d with a := d.a.put' rows[i] cols[j] } []) := by
  intro row col
  rw [shiftT_of (wayI_of h2 h4) (wayI_of h3 h5), goneT_mk]
  have e1 := goneX_place hr h0 d.a.fr ((p4 : Int) - p2)
  have e2 := goneX_place hc h1 d.a.fc ((p5 : Int) - p3)
  have r1 : (if d.a.fr then (p0 : Int) else p0 + ((p4 : Int) - p2)) = row := by
    show _ = (if d.a.fr then (p0 : Int) else p0 + p4 - p2)
    split <;> omega
  have r2 : (if d.a.fc then (p1 : Int) else p1 + ((p5 : Int) - p3)) = col := by
    show _ = (if d.a.fc then (p1 : Int) else p1 + p5 - p3)
    split <;> omega
  rw [r1] at e1
  rw [r2] at e2
  have hD : goneD ⟨rows, cols, (p4 : Int) - p2, (p5 : Int) - p3⟩ d = (goneC ⟨rows, cols, (p4 : Int) - p2, (p5 : Int) - p3⟩ d.a).map fun a => { d with a := a } := by
    unfold goneD
    rw [if_pos (.inl hk)]
  rw [hD]
  unfold goneC
  dsimp only
  rw [e1, e2]
  clear_value row col
  refine ⟨fun h => ?_, fun i j hi hj ei ej => ?_⟩
  · have hno : (if 0 ≤ row then rows[row.toNat]? else none) = none ∨ (if 0 ≤ col then cols[col.toNat]? else none) = none := by
      rcases h with h | h | h | h
      · exact .inl (if_neg (by omega))
      · exact .inr (if_neg (by omega))
      · left
        split
        · exact List.getElem?_eq_none (by omega)
        · rfl
      · right
        split
        · exact List.getElem?_eq_none (by omega)
        · rfl
    rcases hno with h | h
    · rw [h]
      rfl
    · rw [h]
      cases (if 0 ≤ row then rows[row.toNat]? else none) <;> rfl
  · subst ei
    subst ej
    rw [if_pos (by omega), if_pos (by omega), show ((i : Int)).toNat = i by omega, show ((j : Int)).toNat = j by omega, List.getElem?_eq_getElem hi, List.getElem?_eq_getElem hj]
    rfl
end Go.Proofs.Ytbkmnboicihchaa
