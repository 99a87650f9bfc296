/- Laws of registers: what their walks share. RegMore: what its walk needs. counterpaneref01.digits. counterpaneref01.Of, Right; counterpaneref06.num. counterpaneref01.Right; counterpaneref06.num. -/
import Derived.Test.YtbiacjkkgddclaaGreatJ8M
import Derived.Laws.AppendOwnNone
import Derived.Test.YtbiacjkkgddclaaGreatXaNmVrVs
import Derived.Test.YtbiacjkkgddclaaGreatNdSr
import Derived.Deep.AppendLies
import Derived.Deep.AppendSrc
import Derived.Test.YtbiacjkkgddclaaGreatNwXc0PyPmPn
import Derived.Test.YtbiacjkkgddclaaGreatMhRh
namespace Go.Proofs.YtbiacjkkgddclaaGreat
set_option linter.unusedSimpArgs false
set_option linter.unusedVariables false
open Go Go.RowKit Go.Shelf Go.Maps

/-- a write that may come in. -/
def inOk (m : Wr) : Prop := m.id.ok ∧ m.x.v.ok ∧ m.x.t.d.ok ∧ m.x.t.size ≤ 1048576 ∧ ∀ k ∈ m.o, k.ok
theorem smallW_one {l : List Wr} (h : smallW l ≠ 0) : l.length ≤ 40 ∧ (∀ m ∈ l, m.o.length ≤ 60) ∧ smallW l = 1 := by
  unfold smallW at h ⊢
  split at h
  · rename_i hh
    rw [if_pos hh]
    refine ⟨hh.1, fun m hm => ?_, rfl⟩
    have := hh.2 m hm
    unfold okW at this
    simp only [Bool.and_eq_true, decide_eq_true_eq] at this
    exact this.2
  · exact absurd rfl h
theorem smallW_cases (l : List Wr) : smallW l = 0 ∨ smallW l = 1 := by unfold smallW; split <;> simp
/-- a row of writes that came in, in later worlds. -/
theorem row_at {w : World} {A : Option Addr} {c : Nat} {l : List Wr} (h : RowW w (fun k => k < w.heap.size) (fun k => k < w.heap.size) A c l) : ∀ wz : World, Below w.heap.size w wz → ∀ j (hj : j < l.length), ∃ b o, A = some ⟨b, o, none⟩ ∧ ∃ A' c' Ao co, wz.rangeAt b (o + j * 32) (wrA l[j] A' c' Ao co).toList ∧ SlAt wz w.heap.size A' c' l[j].x.t.l ∧ IkG wz (fun k => k < w.heap.size) Ao co l[j].o := fun wz hz j hj => by
  obtain ⟨b, o, e, hg, hr⟩ := h.2.2.resolve_left (fun e => by rw [e] at hj; exact absurd hj (Nat.not_lt_zero _))
  obtain ⟨A', c', Ao, co, r1, r2, r3⟩ := hr j hj
  exact ⟨b, o, e, A', c', Ao, co, fun i v hv => (World.cell?_of_block (a := ⟨b, o + j * 32 + i, none⟩) (hz.block b hg)).trans (r1 i v hv), (r2.at_ (fun _ _ h => h)).below hz, r3.below hz⟩
theorem wrIn_of {w : World} {B : Nat} {m : Wr} {A : Option Addr} {c : Nat} {Ao : Option Addr} {co : Nat} (h : inOk m) (h60 : m.o.length ≤ 60) (hs : SlAt w B A c m.x.t.l) (ho : IkG w (fun k => k < B) Ao co m.o) : WrIn w B m A c Ao co := ⟨h.1, h.2.1, h.2.2.1, h.2.2.2.1, hs, ho, h.2.2.2.2, by omega⟩
/-- a write without what it was written over. -/
def stripW (m : Wr) : Wr := ⟨m.id, m.x, []⟩
theorem lss_run {o : Oper} {ρ : Operand → Value} {w : World} {i k : Int} {r : Bool} (x y : Operand) (ho : o.op = .binOp .lss 3 x y 3) (hx : ρ x = .int .i64 i) (hy : ρ y = .int .i64 k) (h : decide (i < k) = r) : (execOp ρ o).run Tryz.prog w = .ok (.value (.bool r)) w := by
  subst h
  unfold execOp
  simp only [ho, hx, hy]
  simp [go_sem]
theorem ik_eq_c (w : World) (a b : Ik) : (Op.equalIn 10000 28 (.agg a.cs.toArray) (.agg b.cs.toArray)).run Tryz.prog w = .ok (decide (a = b)) w := by
  obtain ⟨a1, a2⟩ := a
  obtain ⟨b1, b2⟩ := b
  have := eqI w a1 a2 b1 b2
  have e : decide ((⟨a1, a2⟩ : Ik) = ⟨b1, b2⟩) = decide (a1 = b1 ∧ a2 = b2) := by simp
  rw [e]; exact this
theorem ik_ne_run {o : Oper} {ρ : Operand → Value} {w : World} {r : Bool} (x y : Operand) (ho : o.op = .binOp .neq 28 x y 28) (a b : Ik) (hx : ρ x = .agg a.cs.toArray) (hy : ρ y = .agg b.cs.toArray) (hr : decide (a = b) = !r) : (execOp ρ o).run Tryz.prog w = .ok (.value (.bool r)) w := by
  have h' := ik_eq_c w a b
  rw [hr] at h'
  obtain ⟨xa, hxa⟩ : ∃ xa, xa = a.cs.toArray := ⟨_, rfl⟩
  obtain ⟨xb, hxb⟩ : ∃ xb, xb = b.cs.toArray := ⟨_, rfl⟩
  rw [← hxa] at hx h'
  rw [← hxb] at hy h'
  clear hxa hxb hr
  have h0 : (binOp .neq 28 (.agg xa) (.agg xb)) = ((Op.equalIn 10000 28 (.agg xa) (.agg xb)) >>= fun b => pure (.bool (!b))) := rfl
  have h1 : (binOp .neq 28 (.agg xa) (.agg xb)).run Tryz.prog w = .ok (.bool r) w := by
    rw [h0, Sem.run_bind, h']; cases r <;> rfl
  unfold execOp
  have h2 : (eqGuard .neq 28 x y (.agg xa) (.agg xb)).run Tryz.prog w = .ok () w := by kernel_rfl
  simp only [ho, hx, hy, Sem.run_bind, h2, h1, Result.andThen_ok]
  rfl
theorem ik_eq_run {o : Oper} {ρ : Operand → Value} {w : World} {r : Bool} (x y : Operand) (ho : o.op = .binOp .eql 28 x y 28) (a b : Ik) (hx : ρ x = .agg a.cs.toArray) (hy : ρ y = .agg b.cs.toArray) (hr : decide (a = b) = r) : (execOp ρ o).run Tryz.prog w = .ok (.value (.bool r)) w := by
  have h' := ik_eq_c w a b
  rw [hr] at h'
  obtain ⟨xa, hxa⟩ : ∃ xa, xa = a.cs.toArray := ⟨_, rfl⟩
  obtain ⟨xb, hxb⟩ : ∃ xb, xb = b.cs.toArray := ⟨_, rfl⟩
  rw [← hxa] at hx h'
  rw [← hxb] at hy h'
  clear hxa hxb hr
  have h0 : (binOp .eql 28 (.agg xa) (.agg xb)) = ((Op.equalIn 10000 28 (.agg xa) (.agg xb)) >>= fun b => pure (.bool b)) := rfl
  have h1 : (binOp .eql 28 (.agg xa) (.agg xb)).run Tryz.prog w = .ok (.bool r) w := by
    rw [h0, Sem.run_bind, h']; rfl
  unfold execOp
  have h2 : (eqGuard .eql 28 x y (.agg xa) (.agg xb)).run Tryz.prog w = .ok () w := by kernel_rfl
  simp only [ho, hx, hy, Sem.run_bind, h2, h1, Result.andThen_ok]
  rfl
theorem wr_id_range {w : World} {b o : Nat} {m : Wr} {A : Option Addr} {c : Nat} {Ao : Option Addr} {co : Nat} (h : w.rangeAt b o (wrA m A c Ao co).toList) : w.rangeAt b o m.id.cs := fun i v hv => h i v (by
  have hi : i < 2 := (List.getElem?_eq_some_iff.1 hv).1
  rw [wrA_parts, List.getElem?_append_left (by rw [wr_head9]; omega), List.getElem?_append_left (show i < 2 by omega)]; exact hv)
theorem keepZ_below {Z : Nat → Prop} {w0 w w' : World} {B : Nat} (h : Below B w0 w) (hk : KeepZ Z w w') (hz : ∀ b, Z b → B ≤ b) (hB : B ≤ w.heap.size) : Below B w0 w' := h.trans (below_of_zone hk hz hB)
-- plain: the write that is kept is the first good one of its id
theorem last_mem {M : List Wr} {k : Nat} (h : M.length = k + 1) : ∃ m, ∃ hk : k < M.length, M[k] = m ∧ m ∈ M ∧ lastC M = m.x := by
  have hk : k < M.length := by omega
  refine ⟨M[k], hk, rfl, List.getElem_mem hk, ?_⟩
  unfold lastC
  rw [List.getLast?_eq_getElem?, h, Nat.add_sub_cancel, List.getElem?_eq_getElem hk]
end Go.Proofs.YtbiacjkkgddclaaGreat
namespace Go.Proofs.YtbiacjkkgddclaaGreat
set_option linter.unusedSimpArgs false
set_option linter.unusedVariables false
open Go Go.RowKit Go.Shelf Go.Maps

/-- what still is shown, in a map. -/
def StillM (W : World) (hm n : Nat) (S : List Ik) : Prop := ∃ D, W.ownsMap Tryz.prog 28 heldB hm n D ∧ Tidy D ∧ ∀ a : Ik, a.ok → D.atKey a.key (.held (.bool false)) = .held (.bool (decide (a ∈ S)))
theorem StillM.lt {W : World} {hm n : Nat} {S : List Ik} (h : StillM W hm n S) : hm < W.heap.size := by
  obtain ⟨D, ho, -⟩ := h
  exact ho.lt
theorem StillM.same {W W' : World} {hm n : Nat} {S : List Ik} (h : StillM W hm n S) (h2 : W'.heap[hm]? = W.heap[hm]?) : StillM W' hm n S := by
  obtain ⟨D, ⟨es, clock, e1, e2⟩, ht⟩ := h
  exact ⟨D, ⟨es, clock, h2.trans e1, e2⟩, ht⟩
theorem StillM.below {W W' : World} {hm n : Nat} {S : List Ik} (h : StillM W hm n S) (hk : Below W.heap.size W W') : StillM W' hm n S := h.same (hk.block _ h.lt)
theorem StillM.look {W : World} {hm n : Nat} {S : List Ik} (h : StillM W hm n S) (x : Ik) (hx : x.ok) : (Instr.lookup 82 (.map (some hm)) x.val false).run Tryz.prog W = .ok (.bool (decide (x ∈ S))) W := by
  obtain ⟨D, ho, ht, hat⟩ := h
  obtain ⟨v, ps, h1, h2⟩ := ho.lookup ik_law undMb (zero_bl W) (zd := .held (.bool false)) (zp := []) rfl (ik_key x hx)
  rw [hat x hx] at h2
  rw [heldB_inv h2] at h1
  exact h1
theorem StillM.start (w : World) : StillM (w.alloc (.map #[] 0)) w.heap.size 0 [] :=
  ⟨.map [], World.ownsMap_made (H := Value) w Tryz.prog 28 heldB, tidy_empty, fun a _ => by simp [DataW.atKey]⟩
theorem own_slice {w : World} {base : Nat} {v : Value} {n : Nat} {xs : List Value} (h : w.ownsRow base 28 2 v n xs) : ∃ A c, v = .slice A n c := by
  rcases h.2 with ⟨rfl, e⟩ | ⟨g, c, cur, rfl, -⟩
  · exact ⟨none, 0, by rw [e]⟩
  · exact ⟨_, _, rfl⟩
theorem own_base {w : World} {base : Nat} {v : Value} {n : Nat} {xs : List Value} (h : w.ownsRow base 28 2 v n xs) : ∀ k, v.ownBlock = some k → base ≤ k := by
  rcases h.2 with ⟨rfl, e⟩ | ⟨g, c, cur, rfl, h1, -⟩
  · intro k e; cases e
  · intro k e
    have := Option.some.inj (show some g = some k from e)
    omega
/-- nothing shown. -/
def Ids0 (w : World) (e : Ending) (w' : World) : Prop := ∃ A c, e = .returned (.slice A 0 c) ∧ Below w.heap.size w w'
def Get0 (w : World) (e : Ending) (w' : World) : Prop := ∃ A c Ao co, e = .returned (.tuple #[.agg (contA zCt A c), .slice Ao 0 co]) ∧ Below w.heap.size w w'
theorem IdsP.zero {w w' : World} {l : List Ik} {e : Ending} (h : IdsP w l e w') (hl : l = []) : Ids0 w e w' := by
  subst hl
  obtain ⟨A, c, rfl, hb, -⟩ := h
  exact ⟨A, c, rfl, hb⟩
theorem GetP.zero {w w' : World} {l : List Wr} {e : Ending} (h : GetP w l e w') (hl : l = []) : Get0 w e w' := by
  subst hl
  obtain ⟨A, c, Ao, co, rfl, -, -, hb⟩ := h
  exact ⟨A, c, Ao, co, rfl, hb⟩
/-- where the loops stand. -/
def MoI (w : World) (z0 p : Nat) (l : List Wr) (n : Nat) (iv : Value) (wr : World) : Prop := ∃ i : Nat, i ≤ n ∧ iv = .int .i64 i ∧ Hid (Below w.heap.size w wr ∧ z0 ≤ wr.heap.size ∧ RgM wr p i (playW (l.take i)) (fun b => z0 ≤ b))
def MoJ (W : World) (hm z1 : Nat) (A : Option Addr) (c : Nat) (S : List Ik) (n : Nat) (iv : Value) (wr : World) : Prop := ∃ i : Nat, i ≤ n ∧ iv = .int .i64 i ∧ Hid (Below W.heap.size W wr ∧ StillM wr hm i (S.take i) ∧ IkG wr (fun b => z1 ≤ b ∧ b < wr.heap.size) A c S)
def MoK (W : World) (n : Nat) (iv : Value) (wr : World) : Prop := ∃ i : Nat, i ≤ n ∧ iv = .int .i64 i ∧ Hid (Below W.heap.size W wr)
theorem more_next {l : List Wr} {i : Nat} (hi : i < l.length) : playW (l.take (i + 1)) = (putW (playW (l.take i)) l[i]).1 := by
  rw [List.take_succ_eq_append_getElem hi, playW_snoc]
theorem IkG.after {W wx : World} {B : Nat} {A : Option Addr} {c : Nat} {l : List Ik} (h : IkG W (fun k => k < B) A c l) (hb : Below B W wx) : IkG wx (fun k => k < B) A c l := h.below hb
/-- the law's in, laid over ids of an elder world. -/
theorem in_at {W w0 wx : World} {A : Option Addr} {c n : Nat} {l : List Ik} (h : IkG W (fun k => k < W.heap.size) A c l) (hn : n = l.length) (hb : Below W.heap.size W w0) (e : wx = w0.alloc (.cells #[.slice A n c] 38)) :
    GoneV wx (.func (.func 39) #[] #[.pointer (some ⟨w0.heap.size, 0, none⟩)]) (fun x => decide (x ∈ l)) ∧ Below W.heap.size W wx := by
  have hx : Below W.heap.size W wx := hb.trans (by rw [e]; exact ((bel1 _ _).1).mono hb.size)
  refine ⟨in_gone (bx := w0.heap.size) (by rw [e]; exact heap_alloc_new _ _) (h.below hx) (fun k hk => Nat.lt_of_lt_of_le hk hx.size) hn, hx⟩
end Go.Proofs.YtbiacjkkgddclaaGreat
namespace Go.Proofs.YtbiacjkkgddclaaGreat
open Go.RowKit Go.Shelf

def digs0 (m : Nat) : Nat := if m = 0 then 0 else digs m
theorem digs0_step {m : Nat} (h : m ≠ 0) : digs0 m = 1 + digs0 (m / 10) := by
  unfold digs0
  rw [if_neg h]
  by_cases h1 : m < 10
  · rw [digs_small h1, if_pos (by omega)]
  · rw [digs_step (by omega), if_neg (by omega)]; omega
theorem digs0_le (u : Nat) (h : u ≤ 9223372036854775808) : digs0 u ≤ 19 := by
  unfold digs0
  split
  · omega
  · exact digs_le 19 u (by omega) (by omega)
/-- what has been put together so far. -/
def Out (B : Nat) (wr : World) (v : Value) (L : Nat) : Prop := (L = 0 ∧ v = .slice none 0 0) ∨ (0 < L ∧ ∃ g cap xs, v = .slice (some ⟨g, 0, none⟩) L cap ∧ wr.ownsRow B 3 1 v L xs ∧ ∀ u ∈ xs, u.oneCell' = true)
theorem infoI : (Tryz.prog.info? 3).map (fun i => (i.zero, i.size, i.bytes)) = some (some (.int .i64 0), 1, 8) := by kernel_rfl
theorem undIs : Tryz.prog.underlying 101 = some (.slice 3) := by kernel_rfl
theorem ownsRow_len {w : World} {base : Nat} {e : TypeId} {v : Value} {n : Nat} {xs : List Value} (h : w.ownsRow base e 1 v n xs) : xs.length = n := by have := h.1; omega
theorem fresh_row {B : Nat} {wr : World} (hB : B ≤ wr.heap.size) (d : Int) (T : TypeId) : (wr.alloc (.cells #[.int .i64 d] T)).ownsRow B T 1 (.slice (some ⟨wr.heap.size, 0, none⟩) 1 1) 1 [.int .i64 d] :=
  ⟨rfl, .inr ⟨wr.heap.size, 1, #[.int .i64 d], rfl, hB, World.alloc_heap_new _ _, Nat.le_refl _, by unfold maxLen; omega, rfl, rfl⟩⟩
theorem old_cell {B : Nat} {wr : World} {T : TypeId} {g L cap : Nat} {xs : List Value} (h : wr.ownsRow B T 1 (.slice (some ⟨g, 0, none⟩) L cap) L xs) (o : Obj) (j : Nat) (u : Value) (hu : xs[j]? = some u) : (wr.alloc o).cell? ((⟨g, 0, none⟩ : Addr).add j) = some u := by
  have e : (⟨g, 0, none⟩ : Addr).add j = ⟨g, j, none⟩ := by unfold Addr.add; split <;> simp_all
  rw [e]
  exact own_cell (h.alloc o) rfl j u hu
/-- nothing is appended to a slice that has room. -/
theorem wpList_append_room0 {P : Program} {ops : Array Oper} {rest : List Oper} {o : Oper} {a : Act} {w : World} {Q : Exit → Act → World → Prop} (hgd : o.guard = none) (s x : Operand) (t : TypeId) (ho : o.op = .call { callee := .builtin .append, args := #[s, x], argTypes := #[t, t] })
    (e : TypeId) (i : TypeInfo) (ht : P.underlying t = some (.slice e)) (hi : P.info? e = some i) (b sLen sCap : Nat) (hs : a.eval s = .slice (some ⟨b, 0, none⟩) sLen sCap) (hx : a.eval x = .slice none 0 0) (hroom : sLen ≤ sCap)
    (h : wpList P ops Q rest (a.put o.dst (.slice (some ⟨b, 0, none⟩) sLen sCap)) w) : wpList P ops Q (o :: rest) a w :=
  wpList_plain hgd fun _ hK => by
    have hr := run_append_room_src (P := P) w t t o.type e i ht hi b 0 sLen sCap (.slice none 0 0) 0 [] (Src.ofNil w ht 0) hroom (fun j hj => by cases hj) (fun j hj => by cases hj)
    unfold Oper.wp execOp
    simp only [ho, resolve, invoke, builtin, Sem.run_bind, Sem.run_pure, Result.andThen_ok, List.map_toArray, List.map_cons, List.map_nil, hs, hx, hr]
    exact hK _ _ h

theorem one_cons {k : IntKind} {d : Int} {xs : List Value} (h : ∀ u ∈ xs, u.oneCell' = true) : ∀ u ∈ [Value.int k d] ++ xs, u.oneCell' = true := by
  intro u hu
  rcases List.mem_append.1 hu with hu | hu
  · rw [List.mem_singleton] at hu; subst hu; rfl
  · exact h u hu

set_option maxRecDepth 100000 in
set_option maxHeartbeats 2000000 in
theorem rdigits_pos (u : Nat) (hu : u ≤ 9223372036854775807) (w : World) :
    Calls Tryz.prog 88 #[.int .i64 ((u : Nat))] w fun e w' => ∃ A cap, e = .returned (.slice A (digs0 u) cap) ∧ Below w.heap.size w w' := by
  obtain ⟨ti, hti, hz0, hz1, hz2⟩ := info_parts infoI
  have hdu := digs0_le u (by omega)
  go_enter Tryz.func88, Tryz.ntmps88
  go_wp2
  go_loopw [0, 3] (fun nv v wr => ∃ (m L : Nat), nv = .int .i64 ((m : Nat)) ∧ m ≤ 9223372036854775807 ∧ Hid (L + digs0 m = digs0 u) ∧ Out w.heap.size wr v L ∧ Hid (Below w.heap.size w wr)) (fun nv _ _ => (intOf nv).natAbs)
  case atStart => exact ⟨u, 0, rfl, hu, Lib.hid (by omega), .inl ⟨rfl, rfl⟩, Lib.hid (Below.refl _ _)⟩
  case round =>
    obtain ⟨m, L, rfl, hm, HL, hout, HB⟩ := hrel
    by_cases h0 : m = 0
    · subst h0
      rw [show ((0 : Nat) : Int) = 0 from rfl]
      have hLu : L = digs0 u := by have := HL.out; simpa [digs0] using this
      rcases hout with ⟨hL0, hv⟩ | ⟨hLp, g, cap, xs, hv, hown, hone⟩
      · subst hv
        have HE := Lib.hid (hL0.symm.trans hLu)
        clear hL0 hLu
        go_wp2
        go_ret
        exact ⟨none, 0, by rw [← HE.out]; rfl, HB.out⟩
      · subst hv
        have HE := Lib.hid hLu
        clear hLu hown hone
        go_wp2
        go_ret
        exact ⟨some ⟨g, 0, none⟩, cap, by rw [← HE.out]; rfl, HB.out⟩
    have HST := Lib.hid (show L + (1 + digs0 (m / 10)) = digs0 u by have := HL.out; rw [digs0_step h0] at this; omega)
    have hLb : L ≤ 20 := by have := HL.out; omega
    clear HL
    rcases hout with ⟨hL0, hv⟩ | ⟨hLp, g, cap, xs, hv, hown, hone⟩
    · subst hv
      subst hL0
      go_wp2_with (at_builtin; refine wpList_append_room0 rfl _ _ 101 rfl 3 ti undIs hti wr.heap.size 1 1 rfl rfl (Nat.le_refl _) ?_)
      go_roundw
      case rel => exact ⟨m / 10, 1, by go_num, by omega, Lib.hid (by have := HST.out; omega), .inr ⟨by omega, wr.heap.size, 1, _, rfl, fresh_row (HB.out.size) _ _, by simp [Value.oneCell']⟩, Lib.hid (HB.out.alloc HB.out.size _)⟩
      case measure => simp [intOf]; omega
    · subst hv
      have hgl := hown.lt g rfl
      have hxl : xs.length = L := by have := ownsRow_len hown; omega
      have HOW := Lib.hid hown
      have HXL := Lib.hid hxl
      have HONE := Lib.hid hone
      clear hown hxl hone
      go_wp2_with (at_builtin; refine wpList_append_lies _ rfl _ _ 101 rfl w.heap.size 3 ti _ 1 8 undIs hti hz0 hz1 hz2 rfl (by decide) _ 1 _ rfl (fresh_row HB.out.size _ _) ⟨g, 0, none⟩ L cap xs rfl (by rw [HXL.out]; omega) (fun j u hu => old_cell HOW.out _ j u hu) HONE.out hLp (by unfold maxLen; omega) (by omega) (by have := HB.out.size; simp; omega) (wr.heap.size + 1) (by simp) ?_; intro g2 cap2 w3 hown3 hgrow hat hlt3; have HO3 := Lib.hid hown3; have HG3 := Lib.hid hgrow; clear hown3 hgrow hat hlt3)
      go_roundw
      case rel => exact ⟨m / 10, 1 + L, by go_num, by omega, Lib.hid (by have := HST.out; omega), .inr ⟨by omega, g2, cap2, _, rfl, HO3.out, one_cons HONE.out⟩, Lib.hid ((HB.out.alloc HB.out.size _).grown HG3.out (by have := HB.out.size; simp; omega) (fun j e => by have h1 : wr.heap.size = j := Option.some.inj e; have := HB.out.size; omega))⟩
      case measure => simp [intOf]; omega

set_option maxRecDepth 100000 in
set_option maxHeartbeats 2000000 in
theorem rdigits_neg (u : Nat) (hu : u ≤ 9223372036854775808) (w : World) :
    Calls Tryz.prog 88 #[.int .i64 (-(u : Nat))] w fun e w' => ∃ A cap, e = .returned (.slice A (digs0 u) cap) ∧ Below w.heap.size w w' := by
  obtain ⟨ti, hti, hz0, hz1, hz2⟩ := info_parts infoI
  have hdu := digs0_le u (by omega)
  go_enter Tryz.func88, Tryz.ntmps88
  go_wp2
  go_loopw [0, 3] (fun nv v wr => ∃ (m L : Nat), nv = .int .i64 (-(m : Nat)) ∧ m ≤ 9223372036854775808 ∧ Hid (L + digs0 m = digs0 u) ∧ Out w.heap.size wr v L ∧ Hid (Below w.heap.size w wr)) (fun nv _ _ => (intOf nv).natAbs)
  case atStart => exact ⟨u, 0, rfl, hu, Lib.hid (by omega), .inl ⟨rfl, rfl⟩, Lib.hid (Below.refl _ _)⟩
  case round =>
    obtain ⟨m, L, rfl, hm, HL, hout, HB⟩ := hrel
    by_cases h0 : m = 0
    · subst h0
      rw [show (-((0 : Nat) : Int)) = 0 from rfl]
      have hLu : L = digs0 u := by have := HL.out; simpa [digs0] using this
      rcases hout with ⟨hL0, hv⟩ | ⟨hLp, g, cap, xs, hv, hown, hone⟩
      · subst hv
        have HE := Lib.hid (hL0.symm.trans hLu)
        clear hL0 hLu
        go_wp2
        go_ret
        exact ⟨none, 0, by rw [← HE.out]; rfl, HB.out⟩
      · subst hv
        have HE := Lib.hid hLu
        clear hLu hown hone
        go_wp2
        go_ret
        exact ⟨some ⟨g, 0, none⟩, cap, by rw [← HE.out]; rfl, HB.out⟩
    have HST := Lib.hid (show L + (1 + digs0 (m / 10)) = digs0 u by have := HL.out; rw [digs0_step h0] at this; omega)
    have hLb : L ≤ 20 := by have := HL.out; omega
    clear HL
    rcases hout with ⟨hL0, hv⟩ | ⟨hLp, g, cap, xs, hv, hown, hone⟩
    · subst hv
      subst hL0
      by_cases hz : (m : Int) % 10 = 0
      · as_aux_lemma =>
        go_wp2_with (at_builtin; refine wpList_append_room0 rfl _ _ 101 rfl 3 ti undIs hti wr.heap.size 1 1 rfl rfl (Nat.le_refl _) ?_)
        go_roundw
        case rel => exact ⟨m / 10, 1, by go_num, by omega, Lib.hid (by have := HST.out; omega), .inr ⟨by omega, wr.heap.size, 1, _, rfl, fresh_row (HB.out.size) _ _, by simp [Value.oneCell']⟩, Lib.hid (HB.out.alloc HB.out.size _)⟩
        case measure => simp [intOf]; omega
      · as_aux_lemma =>
        have hz' : 0 < (m : Int) % 10 := by omega
        clear hz
        go_wp2_with (at_builtin; refine wpList_append_room0 rfl _ _ 101 rfl 3 ti undIs hti wr.heap.size 1 1 rfl rfl (Nat.le_refl _) ?_)
        go_roundw
        case rel => exact ⟨m / 10, 1, by go_num, by omega, Lib.hid (by have := HST.out; omega), .inr ⟨by omega, wr.heap.size, 1, _, rfl, fresh_row (HB.out.size) _ _, by simp [Value.oneCell']⟩, Lib.hid (HB.out.alloc HB.out.size _)⟩
        case measure => simp [intOf]; omega
    · subst hv
      have hgl := hown.lt g rfl
      have hxl : xs.length = L := by have := ownsRow_len hown; omega
      have HOW := Lib.hid hown
      have HXL := Lib.hid hxl
      have HONE := Lib.hid hone
      clear hown hxl hone
      by_cases hz : (m : Int) % 10 = 0
      · as_aux_lemma =>
        go_wp2_with (at_builtin; refine wpList_append_lies _ rfl _ _ 101 rfl w.heap.size 3 ti _ 1 8 undIs hti hz0 hz1 hz2 rfl (by decide) _ 1 _ rfl (fresh_row HB.out.size _ _) ⟨g, 0, none⟩ L cap xs rfl (by rw [HXL.out]; omega) (fun j u hu => old_cell HOW.out _ j u hu) HONE.out hLp (by unfold maxLen; omega) (by omega) (by have := HB.out.size; simp; omega) (wr.heap.size + 1) (by simp) ?_; intro g2 cap2 w3 hown3 hgrow hat hlt3; have HO3 := Lib.hid hown3; have HG3 := Lib.hid hgrow; clear hown3 hgrow hat hlt3)
        go_roundw
        case rel => exact ⟨m / 10, 1 + L, by go_num, by omega, Lib.hid (by have := HST.out; omega), .inr ⟨by omega, g2, cap2, _, rfl, HO3.out, one_cons HONE.out⟩, Lib.hid ((HB.out.alloc HB.out.size _).grown HG3.out (by have := HB.out.size; simp; omega) (fun j e => by have h1 : wr.heap.size = j := Option.some.inj e; have := HB.out.size; omega))⟩
        case measure => simp [intOf]; omega
      · as_aux_lemma =>
        have hz' : 0 < (m : Int) % 10 := by omega
        clear hz
        go_wp2_with (at_builtin; refine wpList_append_lies _ rfl _ _ 101 rfl w.heap.size 3 ti _ 1 8 undIs hti hz0 hz1 hz2 rfl (by decide) _ 1 _ rfl (fresh_row HB.out.size _ _) ⟨g, 0, none⟩ L cap xs rfl (by rw [HXL.out]; omega) (fun j u hu => old_cell HOW.out _ j u hu) HONE.out hLp (by unfold maxLen; omega) (by omega) (by have := HB.out.size; simp; omega) (wr.heap.size + 1) (by simp) ?_; intro g2 cap2 w3 hown3 hgrow hat hlt3; have HO3 := Lib.hid hown3; have HG3 := Lib.hid hgrow; clear hown3 hgrow hat hlt3)
        go_roundw
        case rel => exact ⟨m / 10, 1 + L, by go_num, by omega, Lib.hid (by have := HST.out; omega), .inr ⟨by omega, g2, cap2, _, rfl, HO3.out, one_cons HONE.out⟩, Lib.hid ((HB.out.alloc HB.out.size _).grown HG3.out (by have := HB.out.size; simp; omega) (fun j e => by have h1 : wr.heap.size = j := Option.some.inj e; have := HB.out.size; omega))⟩
        case measure => simp [intOf]; omega

theorem rdigits_c (n : Int) (hn : i64 n) (w : World) : Calls Tryz.prog 88 #[.int .i64 n] w fun e w' => ∃ A cap, e = .returned (.slice A (digs0 n.natAbs) cap) ∧ Below w.heap.size w w' := by
  by_cases h : n < 0
  · have := rdigits_neg n.natAbs (by have := hn.1; omega) w
    rwa [show (-(n.natAbs : Nat) : Int) = n by omega] at this
  · have := rdigits_pos n.natAbs (by have := hn.2; omega) w
    rwa [show ((n.natAbs : Nat) : Int) = n by omega] at this
end Go.Proofs.YtbiacjkkgddclaaGreat
namespace Go.Proofs.YtbiacjkkgddclaaGreat
open Go.RowKit Go.Shelf

section
variable {P : Program} {md : Region.Mode} {ops : Array Oper} {Q : Exit → Act → World → Prop} {S : World → Prop}
/-- a whole block is stored into. -/
theorem wpAnyH_storeRow0 {i : Nat} {o : Oper} {fuel : Nat} {listed : Array Bool} {a : Act} {w : World} (hr : Region.ready md ops listed = [i]) (ho : ops[i]? = some o) (hg : o.guard = none) (ty : TypeId) (x y : Operand) (hop : o.op = .store ty x y)
    (b : Nat) (cells : Array Value) (hx : a.eval x = .pointer (some ⟨b, 0, none⟩)) (hy : a.eval y = .agg cells) (t : TypeId) (old : Array Value) (hb : w.heap[b]? = some (.cells old t (0, 0))) (hi : (P.info? ty).map (·.size) = some cells.size) (hold : old.size = cells.size) (h1 : cells.all (·.oneCell') = true) (hS : S (w.setRow b cells))
    (h : S (w.setRow b cells) → wpAnyH P md ops Q S fuel (listed.setIfInBounds i true) (a.put o.dst undef) (w.setRow b cells)) : wpAnyH P md ops Q S (fuel + 1) listed a w :=
  wpAnyH_ready hr (by simp) (AllReadyH.cons ho (fun K hK => by
    rw [if_pos (wanted_none hg)]
    exact wp_store_row ty x y hop b cells hx hy t old hb hi hold h1 (hK.out _ _ hS h)) AllReadyH.nil)
end
theorem undD : Tryz.prog.underlying 103 = some (.struct (Tryz.prog.fieldsOf 103)) := by kernel_rfl

set_option maxRecDepth 100000 in
set_option maxHeartbeats 2000000 in
theorem rof_any (m x : Int) (hm : i64 m) (w : World) : Calls Tryz.prog 66 #[.agg #[.int .i64 m, .int .i64 x]] w fun e w' => ∃ A cap, e = .returned (.agg #[.bool (decide (m < 0)), .slice A (digs0 m.natAbs) cap, .int .i64 x]) ∧ Below w.heap.size w w' := by
  have HD := Lib.hid (fun w => rdigits_c m hm w)
  obtain ⟨Z, hZ⟩ : ∃ Z : Array Value, Z = #[.bool false, .slice none 0 0, .int .i64 0] := ⟨_, rfl⟩
  have hzs : Z.size = 3 := by rw [hZ]; rfl
  obtain ⟨W, hW⟩ : ∃ W, W = (w.alloc (.cells #[.int .i64 m, .int .i64 x] 24)).alloc (.cells Z 103) := ⟨_, rfl⟩
  obtain ⟨w0, hw0⟩ : ∃ w0, w0 = w.heap.size := ⟨_, rfl⟩
  have hbW : Below w.heap.size w W := by rw [hW]; exact ((Below.refl _ w).alloc (Nat.le_refl _) _).alloc (by simp) _
  have hWs : w0 + 2 ≤ W.heap.size := by rw [hW, hw0]; simp
  have hlt : w0 < w0 + 1 := by omega
  have k0 : W.cell? ⟨w0, 0, none⟩ = some (.int .i64 m) := by rw [hW, hw0]; simp
  have k1 : W.cell? ⟨w0, 1, none⟩ = some (.int .i64 x) := by rw [hW, hw0]; simp
  have hkz : W.heap[w0 + 1]? = some (.cells Z 103) := by
    rw [hW, hw0]; have := heap_alloc_new (w.alloc (.cells #[.int .i64 m, .int .i64 x] 24)) (.cells Z 103); rwa [World.size_alloc] at this
  have HW := Lib.hid hW
  have HBW := Lib.hid hbW
  have HW0 := Lib.hid hw0
  clear hW hbW hm hw0
  go_enter Tryz.func66, Tryz.ntmps66
  go_upto_region 1 with (fail)
  (try simp only [Act.put, List.setIfInBounds_toArray, List.set_cons_zero, List.set_cons_succ])
  rw [← hZ, ← HW.out, ← HW0.out]
  clear hZ
  refine wp_region_held_drew (S := fun w => Below (w0 + 1) W w) (by kernel_rfl) ((Below.refl _ _).drew) (fun hHeld => ?_)
  refine wpAnyH_take (i := 0) rfl (by kernel_rfl) (by kernel_rfl) (by kernel_rfl) (fun _ _ _ h => h) (Or.inl ⟨by kernel_rfl, by (intro w hSw; clear hSw; go_simp); try with_reducible rfl⟩) (by assumption) ?_
  (try simp only [List.getElem_toArray, List.getElem_cons_zero, Act.put, List.setIfInBounds_toArray, List.set_cons_zero, List.set_cons_succ])
  refine wpAnyH_take (i := 1) rfl (by kernel_rfl) (by kernel_rfl) (by kernel_rfl) (fun _ _ _ h => h) (Or.inl ⟨by kernel_rfl, by (intro w hSw; have q0 := (Below.cell hSw (p := ⟨w0, 0, none⟩) hlt).trans k0; clear hSw; go_simp); try with_reducible rfl⟩) (by assumption) ?_
  (try simp only [List.getElem_toArray, List.getElem_cons_succ, List.getElem_cons_zero, Act.put, List.setIfInBounds_toArray, List.set_cons_zero, List.set_cons_succ])
  refine wpAnyH_take (i := 2) rfl (by kernel_rfl) (by kernel_rfl) (by kernel_rfl) (fun _ _ _ h => h) (Or.inl ⟨by kernel_rfl, by (intro w hSw; clear hSw; go_simp); try with_reducible rfl⟩) (by assumption) ?_
  (try simp only [List.getElem_toArray, List.getElem_cons_succ, List.getElem_cons_zero, Act.put, List.setIfInBounds_toArray, List.set_cons_zero, List.set_cons_succ])
  refine wpAnyH_take (i := 3) rfl (by kernel_rfl) (by kernel_rfl) (by kernel_rfl) (fun _ _ _ h => h) (Or.inl ⟨by kernel_rfl, by (intro w hSw; clear hSw; go_simp); try with_reducible rfl⟩) (by assumption) ?_
  (try simp only [List.getElem_toArray, List.getElem_cons_succ, List.getElem_cons_zero, Act.put, List.setIfInBounds_toArray, List.set_cons_zero, List.set_cons_succ])
  refine wpAnyH_take (i := 4) rfl (by kernel_rfl) (by kernel_rfl) (by kernel_rfl) (fun _ _ _ h => h) (Or.inl ⟨by kernel_rfl, by (intro w hSw; have q0 := (Below.cell hSw (p := ⟨w0, 0, none⟩) hlt).trans k0; clear hSw; go_simp); try with_reducible rfl⟩) (by assumption) ?_
  (try simp only [List.getElem_toArray, List.getElem_cons_succ, List.getElem_cons_zero, Act.put, List.setIfInBounds_toArray, List.set_cons_zero, List.set_cons_succ])
  refine wpAnyH_take (i := 6) rfl (by kernel_rfl) (by kernel_rfl) (by kernel_rfl) (fun _ _ _ h => h) (Or.inl ⟨by kernel_rfl, by (intro w hSw; clear hSw; go_simp); try with_reducible rfl⟩) (by assumption) ?_
  (try simp only [List.getElem_toArray, List.getElem_cons_succ, List.getElem_cons_zero, Act.put, List.setIfInBounds_toArray, List.set_cons_zero, List.set_cons_succ])
  refine wpAnyH_take (i := 7) rfl (by kernel_rfl) (by kernel_rfl) (by kernel_rfl) (fun _ _ _ h => h) (Or.inl ⟨by kernel_rfl, by (intro w hSw; have q1 := (Below.cell hSw (p := ⟨w0, 1, none⟩) hlt).trans k1; clear hSw; go_simp); try with_reducible rfl⟩) (by assumption) ?_
  (try simp only [List.getElem_toArray, List.getElem_cons_succ, List.getElem_cons_zero, Act.put, List.setIfInBounds_toArray, List.set_cons_zero, List.set_cons_succ])
  refine wpAnyH_ready (rs := [5]) (by kernel_rfl) (by simp) ?_
  refine AllReadyH.cons rfl (fun K hK => ?_) AllReadyH.nil
  go_simp
  refine (HD.out _).mono ?_
  rintro e w4 ⟨A, cap, rfl, hb4⟩
  try go_simp
  have hH4 : Below (w0 + 1) W w4 := Below.trans hHeld (hb4.mono (by have := hb4.size; have := Below.size hHeld; simp at *; omega))
  refine hK.out _ _ hH4 (fun hHeld4 => ?_)
  clear hK K
  try (try simp only [List.getElem_toArray, List.getElem_cons_succ, List.getElem_cons_zero, Act.put, List.setIfInBounds_toArray, List.set_cons_zero, List.set_cons_succ])
  refine wpAnyH_take (i := 8) rfl (by kernel_rfl) (by kernel_rfl) (by kernel_rfl) (fun _ _ _ h => h) (Or.inl ⟨by kernel_rfl, by (intro w hSw; clear hSw; go_simp); try with_reducible rfl⟩) (by assumption) ?_
  (try simp only [List.getElem_toArray, List.getElem_cons_succ, List.getElem_cons_zero, Act.put, List.setIfInBounds_toArray, List.set_cons_zero, List.set_cons_succ])
  have hz4 : w4.heap[w0 + 1]? = some (.cells Z 103) := (hb4.block _ (by simp; omega)).trans hkz
  refine wpAnyH_storeRow0 (i := 9) (by kernel_rfl) rfl rfl 103 _ _ rfl (w0 + 1) #[.bool (decide (m < 0)), .slice A (digs0 m.natAbs) cap, .int .i64 x] rfl rfl 103 Z hz4 (by kernel_rfl) hzs (by simp [Value.oneCell']) (below_row hHeld4 (Nat.le_refl _) _) (fun hHeld5 => ?_)
  (try simp only [List.getElem_toArray, List.getElem_cons_succ, List.getElem_cons_zero, Act.put])
  refine wpAnyH_done (by kernel_rfl) ?_ _
  go_wp2
  refine bodyPost_ret (v := .agg #[.bool (decide (m < 0)), .slice A (digs0 m.natAbs) cap, .int .i64 x]) (results_cell_row rfl _ _ (w0 + 1) 103 _ (0, 0) _ rfl (setRow_heap _ _ _ _ _ _ hz4) undD rfl (by kernel_rfl)) rfl ?_
  exact ⟨A, cap, rfl, HBW.out.trans (below_row (hHeld4.mono (by have := HW0.out; omega)) (by have := HW0.out; omega) _)⟩
end Go.Proofs.YtbiacjkkgddclaaGreat
namespace Go.Proofs.YtbiacjkkgddclaaGreat
open Go.RowKit Go.Shelf

theorem keep_mx {b B : Nat} {m x : Int} {w0 w w' : World} (h : (w.cell? ⟨b, 0, none⟩ = some (.int .i64 m) ∧ w.cell? ⟨b, 1, none⟩ = some (.int .i64 x)) ∧ Below B w0 w) (hbw : Below w.heap.size w w') (hB : B ≤ w0.heap.size) :
    (w'.cell? ⟨b, 0, none⟩ = some (.int .i64 m) ∧ w'.cell? ⟨b, 1, none⟩ = some (.int .i64 x)) ∧ Below B w0 w' := by
  obtain ⟨⟨h0, h1⟩, hb⟩ := h
  have hlt : b < w.heap.size := World.block_lt_of_cell? w _ h0
  exact ⟨⟨(hbw.cell (p := ⟨b, 0, none⟩) hlt).trans h0, (hbw.cell (p := ⟨b, 1, none⟩) hlt).trans h1⟩, hb.trans (hbw.mono (Nat.le_trans hB hb.size))⟩
theorem tmod10 (m : Int) : m.tmod 10 = 0 ↔ m.natAbs % 10 = 0 := by
  rcases Int.eq_nat_or_neg m with ⟨n, rfl | rfl⟩
  · rw [Int.tmod_eq_emod_of_nonneg (by omega)]; omega
  · rw [Int.neg_tmod, Int.tmod_eq_emod_of_nonneg (by omega)]; omega
theorem rnum_spec (m x : Int) : numRight m x = if m = 0 then decide (x = 0) else if 1000000000000000 ≤ m ∨ m ≤ -1000000000000000 ∨ m.tmod 10 = 0 ∨ x < -40 ∨ 40 < x then false else decide ((digs0 m.natAbs : Int) + x ≤ 40) := by
  unfold numRight
  by_cases h0 : m = 0
  · rw [if_pos h0, if_pos h0]
  · rw [if_neg h0, if_neg h0]
    have hp := digs_pos m.natAbs
    have hd : digs0 m.natAbs = digs m.natAbs := by unfold digs0; rw [if_neg (by omega)]
    rw [hd]
    simp only [tmod10]
    by_cases h : 1000000000000000 ≤ m ∨ m ≤ -1000000000000000 ∨ m.natAbs % 10 = 0 ∨ x < -40 ∨ 40 < x
    · rw [if_pos h]
      rw [Bool.eq_iff_iff]
      simp
      omega
    · rw [if_neg h]
      rw [Bool.eq_iff_iff]
      simp
      omega

set_option maxRecDepth 100000 in
set_option maxHeartbeats 2000000 in
theorem rright01_any (m x : Int) (hm : i64 m) (w : World) : Calls Tryz.prog 48 #[.agg #[.int .i64 m, .int .i64 x]] w fun e w' => e = .returned (.bool (numRight m x)) ∧ Below w.heap.size w w' := by
  rw [rnum_spec]
  have hb0 : ∀ n, Below w.heap.size w ((w.alloc (.cells #[.int .i64 m, .int .i64 x] 24)).drewN n) := fun n => below_drewN ((Below.refl _ w).alloc (Nat.le_refl _) _) n
  have HB := Lib.hid hb0
  have HO := Lib.hid (fun w => rof_any m x hm w)
  have hdl := digs0_le m.natAbs (by obtain ⟨h1, h2⟩ := hm; omega)
  have hm1 := hm.1
  have hm2 := hm.2
  clear hm hb0
  generalize digs0 m.natAbs = D at *
  by_cases h0 : m = 0
  · rw [if_pos h0]
    subst h0
    by_cases hx0 : x = 0
    · subst hx0
      go_enter Tryz.func48, Tryz.ntmps48
      go_wp2
      go_ret
      exact ⟨rfl, HB.out 0⟩
    · have hx0' : decide (x = 0) = false := decide_eq_false hx0
      have hx0'' : (x == 0) = false := beq_eq_false_iff_ne.2 hx0
      rw [hx0']
      go_enter Tryz.func48, Tryz.ntmps48
      go_wp2
      go_ret
      exact ⟨rfl, HB.out 0⟩
  · rw [if_neg h0]
    have h0' : (m == 0) = false := beq_eq_false_iff_ne.2 h0
    by_cases h1 : 1000000000000000 ≤ m
    · rw [if_pos (.inl h1)]
      go_enter Tryz.func48, Tryz.ntmps48
      go_wp2
      go_ret
      exact ⟨rfl, HB.out 0⟩
    by_cases h2 : m ≤ -1000000000000000
    · rw [if_pos (.inr (.inl h2))]
      go_enter Tryz.func48, Tryz.ntmps48
      go_wp2
      go_ret
      exact ⟨rfl, HB.out 0⟩
    obtain ⟨r, hr⟩ : ∃ r, m.tmod 10 = r := ⟨_, rfl⟩
    rw [hr]
    by_cases h3 : r = 0
    · rw [if_pos (.inr (.inr (.inl h3)))]
      subst h3
      go_enter Tryz.func48, Tryz.ntmps48
      go_wp2
      go_ret
      exact ⟨rfl, HB.out 0⟩
    have h3' : (r == 0) = false := beq_eq_false_iff_ne.2 h3
    by_cases h4 : x < -40
    · rw [if_pos (.inr (.inr (.inr (.inl h4))))]
      go_enter Tryz.func48, Tryz.ntmps48
      go_wp2
      go_ret
      exact ⟨rfl, HB.out 0⟩
    by_cases h5 : 40 < x
    · rw [if_pos (.inr (.inr (.inr (.inr h5))))]
      go_enter Tryz.func48, Tryz.ntmps48
      go_wp2
      go_ret
      exact ⟨rfl, HB.out 0⟩
    rw [if_neg (by omega)]
    have hwr : IntKind.i64.wrap ((D : Int) + x) = (D : Int) + x := IntWalk.i64_in _ (by omega)
    have HWR := Lib.hid hwr
    clear hwr
    go_enter Tryz.func48, Tryz.ntmps48
    go_wp2
    have hwr := HWR.out
    have hfd : ∀ (b : Bool) (A : Option Addr) (n c : Nat) (y : Int) (wx : World), (Instr.field 103 (.agg #[.bool b, .slice A n c, .int .i64 y]) 1).run Tryz.prog wx = .ok (.slice A n c) wx := fun _ _ _ _ _ _ => by kernel_rfl
    have hbd : Below w.heap.size w (w.alloc (.cells #[.int .i64 m, .int .i64 x] 24)).drew := ((Below.refl _ w).alloc (Nat.le_refl _) _).drew
    go_region_held3 (fun wx => (wx.cell? ⟨w.heap.size, 0, none⟩ = some (.int .i64 m) ∧ wx.cell? ⟨w.heap.size, 1, none⟩ = some (.int .i64 x)) ∧ Below w.heap.size w wx) (first | exact keep_mx (by assumption) (by assumption) (Nat.le_refl _) | go_keep)
      ((go_at_call 66; refine (HO.out _).mono ?_; rintro e w2 ⟨A, cap, rfl, hbe⟩))
    all_goals
      go_wp2
      go_ret
      refine ⟨ret_bool (by first | rfl | simp), ?_⟩
      first
        | assumption
        | (rename_i hS; exact hS.2)

theorem rnum_any (m x : Int) (hm : i64 m) (w : World) : Calls Tryz.prog 111 #[.agg #[.int .i64 m, .int .i64 x]] w fun e w' => e = .returned (.bool (numRight m x)) ∧ Below w.heap.size w w' := by
  have hR := fun w => rright01_any m x hm w
  generalize numRight m x = q at *
  have HR := Lib.hid hR
  clear hR hm
  go_enter Tryz.func111, Tryz.ntmps111
  go_wp2_with (go_at_call 48; refine (HR.out _).mono ?_; rintro e w2 ⟨rfl, hbe⟩)
  go_ret
  exact ⟨rfl, ((Below.refl _ w).alloc (Nat.le_refl _) _).trans (hbe.mono (by simp))⟩
end Go.Proofs.YtbiacjkkgddclaaGreat
