/- The walk of the reference's Parse. -/
import Derived.Test.YtlbiofmcanjijaaDoorW9
import Derived.Deep.DeepCutAuto
namespace Go.Proofs.YtlbiofmcanjijaaDoor
open Go.RowKit
open Ad

theorem num_pos (s : List UInt8) : 0 ≤ (num s).getD 0 ∧ (num s).getD 0 ≤ 9999999 ∧ ((num s).getD 0 = 0 ↔ num s = none) := by
  rcases h : num s with _ | n
  · simp
  · have := num_bd s n h; simp; omega
theorem isLet_cap (b : UInt8) : isLet b = decide (0 ≤ cap b) := rfl
theorem pre_head (s : ByteArray) (c : UInt8) : (0 < s.size → s.data.toList.head? = some c → Lib.hasPrefix s.data.toList [c] = true ∧ Lib.trimPrefix s.data.toList [c] = s.data.toList.drop 1) := by
  intro h0 h
  have e := drop_cons s 0 h0
  rw [List.drop_zero] at e
  rw [e] at h ⊢
  simp at h
  subst h
  simp [Lib.hasPrefix, Lib.trimPrefix]
theorem pre_no (l : List UInt8) (c : UInt8) (h : l.head? ≠ some c) : Lib.hasPrefix l [c] = false ∧ Lib.trimPrefix l [c] = l := by
  cases l with
  | nil => simp [Lib.hasPrefix, Lib.trimPrefix]
  | cons a t =>
    have hne : (c == a) = false := by simp; intro e; exact h (by simp [e])
    have hp : Lib.hasPrefix (a :: t) [c] = false := by simp [Lib.hasPrefix, List.isPrefixOf, hne]
    exact ⟨hp, by simp [Lib.trimPrefix, hp]⟩

/-- how the reference cuts a byte off a text. -/
def CutOff (s : ByteArray) (c : UInt8) (s1 : ByteArray) (b : Bool) : Prop := s1.size ≤ s.size ∧ s1.data.toList = Lib.trimPrefix s.data.toList [c] ∧ b = Lib.hasPrefix s.data.toList [c]
def Pre (s : ByteArray) (c : UInt8) : Bool := Lib.hasPrefix s.data.toList [c]
theorem pre_yes (s : ByteArray) (c : UInt8) (h : Pre s c = true) : 0 < s.size ∧ CutOff s c (s.extract 1 s.size) true := by
  by_cases h0 : 0 < s.size
  · by_cases hc : s[0] = c
    · obtain ⟨p1, p2⟩ := pre_head s c h0 (by rw [head_of s h0, hc])
      refine ⟨h0, by simp, ?_, p1.symm⟩
      rw [p2, Lib.extract_data, List.take_of_length_le (by simp)]
    · obtain ⟨p1, p2⟩ := pre_no s.data.toList c (by rw [head_of s h0]; simpa using hc)
      unfold Pre at h; rw [p1] at h; cases h
  · have e : s.data.toList = [] := by
      have hl : s.data.toList.length = s.size := by simp
      exact List.eq_nil_of_length_eq_zero (by omega)
    obtain ⟨p1, p2⟩ := pre_no s.data.toList c (by rw [e]; simp)
    unfold Pre at h; rw [p1] at h; cases h
theorem pre_off (s : ByteArray) (c : UInt8) (h : Pre s c = false) : CutOff s c s false := by
  have hn : s.data.toList.head? ≠ some c := by
    intro hh
    by_cases h0 : 0 < s.size
    · have := (pre_head s c h0 hh).1; unfold Pre at h; rw [this] at h; cases h
    · have e : s.data.toList = [] := by
        have hl : s.data.toList.length = s.size := by simp
        exact List.eq_nil_of_length_eq_zero (by omega)
      rw [e] at hh; cases hh
  obtain ⟨p1, p2⟩ := pre_no s.data.toList c hn
  exact ⟨Nat.le_refl _, p2.symm, p1.symm⟩
theorem pre_at (s : ByteArray) (c : UInt8) (h0 : 0 < s.size) : ((s[0].toNat : Int) == (c.toNat : Int)) = Pre s c := by
  by_cases hc : s[0] = c
  · obtain ⟨p1, p2⟩ := pre_head s c h0 (by rw [head_of s h0, hc])
    unfold Pre; rw [p1, hc]; simp
  · obtain ⟨p1, p2⟩ := pre_no s.data.toList c (by rw [head_of s h0]; simpa using hc)
    have h2 : s[0].toNat ≠ c.toNat := fun e => hc (UInt8.toNat_inj.1 e)
    unfold Pre; rw [p1]; simp; omega
theorem pre_none (s : ByteArray) (c : UInt8) (h0 : ¬ 0 < s.size) : Pre s c = false := by
  have e : s.data.toList = [] := by
    have hl : s.data.toList.length = s.size := by simp
    exact List.eq_nil_of_length_eq_zero (by omega)
  exact (pre_no s.data.toList c (by rw [e]; simp)).1

abbrev zero4 : Obj := .cells #[.int .i64 0, .int .i64 0, .bool false, .bool false] 35

set_option maxRecDepth 100000 in
set_option maxHeartbeats 2000000 in
theorem refParse_any (s : ByteArray) (w : World) (hs : s.size ≤ 9223372036854775807) :
    Calls Tryd.prog 17 #[.string s] w fun e w' => e = mkRet (parseL s.data.toList) ∧ Below w.heap.size w w' := by
  go_enter Tryd.func17, Tryd.ntmps17
  go_upto_region 2 with fail
  go_cut [16] (fun b wx => b = .bool (Pre s 36) ∧ wx = (w.alloc (.cells #[.int .i64 0, .int .i64 0, .bool false, .bool false] 35)).alloc (.cells #[.int .i64 0, .int .i64 0, .bool false, .bool false] 35))
  case first =>
    by_cases h0 : 0 < s.size
    · have hp := Lib.hid (pre_at s 36 h0)
      have hq : ((s[0].toNat : Int) == 36) = Pre s 36 := hp.out
      clear hp
      go_wp2_with fail
      go_meet
      exact ⟨rfl, rfl⟩
    · have hq := pre_none s 36 h0
      have HQ := Lib.hid hq
      clear hq
      go_wp2_with fail
      go_meet
      exact ⟨by rw [HQ.out], rfl⟩
  case rest =>
    obtain ⟨rfl, rfl⟩ := hcut
    go_upto_if 16 with fail
    go_cut [0] (fun s0 wx => ∃ (s1 : ByteArray) (fc : Bool), s0 = .string s1 ∧ Hid (CutOff s 36 s1 fc) ∧ wx = (w.alloc (.cells #[.int .i64 0, .int .i64 0, .bool false, .bool false] 35)).alloc (.cells #[.int .i64 0, .int .i64 0, .bool false, .bool fc] 35))
    case first =>
      cases hp : Pre s 36
      · have HH := Lib.hid (pre_off s 36 hp)
        clear hp
        go_wp2_with fail
        go_meet
        exact ⟨_, false, rfl, HH, rfl⟩
      · obtain ⟨h0, hh⟩ := pre_yes s 36 hp
        have HH := Lib.hid hh
        clear hp hh
        go_wp2_with fail
        go_meet
        exact ⟨_, true, rfl, HH, rfl⟩
    case rest =>
      obtain ⟨s1, fc, rfl, HH, rfl⟩ := hcut
      have hsz := HH.out.1
      go_wp2_with fail
      go_loop [5] (fun i => ∃ k : Nat, k ≤ s1.size ∧ i = .int .i64 k ∧ Hid (Scan s1 k)) (fun i => s1.size - (intOf i).toNat)
      case atStart => exact ⟨0, by omega, rfl, scan0 s1⟩
      case round =>
        obtain ⟨k, hk, rfl, hsc⟩ := hrel
        by_cases hlt : k < s1.size
        · have hbl := cap_lt s1[k]
          by_cases hi : isLet s1[k] = true
          · have hst := Lib.hid (scan_step s1 k hlt hi hsc.out)
            have hcase : 0 ≤ cap s1[k] := by simpa [isLet] using hi
            clear hi hsc
            go_wp2_with (go_at_call 24; refine (capital_any _ _).mono ?_; rintro e w' ⟨rfl, rfl⟩)
            go_round
            case rel => exact ⟨k + 1, by omega, by go_num, hst⟩
            case measure => simp [intOf]; omega
          · have hi' : isLet s1[k] = false := by simpa using hi
            have hsplit := Lib.hid (scan_end s1 k hsc.out (fun _ => hi'))
            have hcase : ¬ 0 ≤ cap s1[k] := by simpa [isLet] using hi'
            clear hi hi' hsc
            go_wp2_with (go_at_call 24; refine (capital_any _ _).mono ?_; rintro e w' ⟨rfl, rfl⟩)
            refine (refColumn_any _ _ (by simp; omega)).mono ?_
            rintro e w1 ⟨rfl, rfl⟩
            have hdt := Lib.hid (show (s1.extract 0 k).data.toList = (Lib.trimPrefix s.data.toList [36]).takeWhile isLet by rw [Lib.extract_data, ← HH.out.2.1, ← hsplit.out.1]; simp)
            have hdr := Lib.hid (show (s1.extract k s1.size).data.toList = (Lib.trimPrefix s.data.toList [36]).dropWhile isLet by rw [Lib.extract_data, ← HH.out.2.1, ← hsplit.out.2, List.take_of_length_le (by simp)])
            have hcb : 0 ≤ (col (s1.extract 0 k).data.toList).getD 0 ∧ (col (s1.extract 0 k).data.toList).getD 0 ≤ 18277 := by
              rcases h : col (s1.extract 0 k).data.toList with _ | c
              · simp
              · have := col_bd _ _ h; simp; omega
            generalize hcol : col (s1.extract 0 k).data.toList = oc at hcb ⊢
            have HC := Lib.hid (hdt.out ▸ hcol)
            clear hcol hdt
            go_upto_region 10 with fail
            have hsz2 : (s1.extract k s1.size).size ≤ s1.size := by simp
            generalize s1.extract k s1.size = s2 at hdr hsz2 ⊢
            go_cut [50] (fun b wx => b = .bool (Pre s2 36) ∧ wx = (w.alloc (.cells #[.int .i64 0, .int .i64 0, .bool false, .bool false] 35)).alloc (.cells #[.int .i64 0, .int .i64 0, .bool false, .bool fc] 35))
            case first =>
              by_cases z0 : 0 < s2.size
              · have hq : ((s2[0].toNat : Int) == 36) = Pre s2 36 := pre_at s2 36 z0
                go_wp2_with fail
                go_meet
                exact ⟨rfl, rfl⟩
              · have HQ := Lib.hid (pre_none s2 36 z0)
                go_wp2_with fail
                go_meet
                exact ⟨by rw [HQ.out], rfl⟩
            case rest =>
              obtain ⟨rfl, rfl⟩ := hcut
              go_upto_if 50 with fail
              go_cut [0] (fun s0 wx => ∃ (s3 : ByteArray) (fr : Bool), s0 = .string s3 ∧ Hid (CutOff s2 36 s3 fr) ∧ wx = (w.alloc (.cells #[.int .i64 0, .int .i64 0, .bool false, .bool false] 35)).alloc (.cells #[.int .i64 0, .int .i64 0, .bool fr, .bool fc] 35))
              case first =>
                cases hp : Pre s2 36
                · have HP := Lib.hid (pre_off s2 36 hp)
                  clear hp
                  go_wp2_with fail
                  go_meet
                  exact ⟨_, false, rfl, HP, rfl⟩
                · obtain ⟨h0, hh⟩ := pre_yes s2 36 hp
                  have HP := Lib.hid hh
                  clear hp hh
                  go_wp2_with fail
                  go_meet
                  exact ⟨_, true, rfl, HP, rfl⟩
              case rest =>
                obtain ⟨s3, fr, rfl, HP, rfl⟩ := hcut
                have hsz3 := HP.out.1
                go_wp2_with fail
                refine (count_any _ _ (by omega)).mono ?_
                rintro e w2 ⟨rfl, rfl⟩
                have hnum := Lib.hid (show Lib.trimPrefix ((Lib.trimPrefix s.data.toList [36]).dropWhile isLet) [36] = s3.data.toList by rw [← hdr.out, HP.out.2.1])
                have hfr := Lib.hid (show Lib.hasPrefix ((Lib.trimPrefix s.data.toList [36]).dropWhile isLet) [36] = fr by rw [← hdr.out, HP.out.2.2])
                rcases oc with _ | c
                · have hnone := Lib.hid (parse_no1 s.data.toList HC.out)
                  simp only [Option.getD_none, Option.isSome_none]
                  go_wp2_with fail
                  refine bodyPost_ret (v := .tuple #[.agg #[.int .i64 0, .int .i64 0, .bool false, .bool false], .bool false]) (by simp [results, Tryd.results17, go_sem]) rfl ⟨?_, ?_⟩
                  · rw [hnone.out]; rfl
                  · exact ((Below.refl _ _).alloc (Nat.le_refl _) _).alloc (by simp) _
                · simp only [Option.getD_some] at hcb
                  simp only [Option.getD_some, Option.isSome_some]
                  rcases hnn : num s3.data.toList with _ | n
                  · have hnone := Lib.hid (parse_no2 s.data.toList (by rw [hnum.out, hnn]))
                    clear hnn
                    simp only [Option.getD_none]
                    go_wp2_with fail
                    refine bodyPost_ret (v := .tuple #[.agg #[.int .i64 0, .int .i64 0, .bool false, .bool false], .bool false]) (by simp [results, Tryd.results17, go_sem]) rfl ⟨?_, ?_⟩
                    · rw [hnone.out]; rfl
                    · exact ((Below.refl _ _).alloc (Nat.le_refl _) _).alloc (by simp) _
                  · have hnb := num_bd _ _ hnn
                    have hn1 := hnb.2.2.1
                    have hn2 := hnb.2.2.2
                    have hnz : (n == 0) = false := by simp; omega
                    have hyes := Lib.hid (parse_yes s.data.toList c n HC.out (by rw [hnum.out, hnn]))
                    clear hnn hnb
                    simp only [Option.getD_some]
                    go_wp2_with fail
                    refine bodyPost_ret (v := .tuple #[.agg #[.int .i64 (n - 1), .int .i64 c, .bool fr, .bool fc], .bool true]) (by simp [results, Tryd.results17, go_sem]) rfl ⟨?_, ?_⟩
                    · rw [hyes.out, hfr.out, ← HH.out.2.2]; rfl
                    · exact ((Below.refl _ _).alloc (Nat.le_refl _) _).alloc (by simp) _
        · have hsplit := Lib.hid (scan_end s1 k hsc.out (fun h => absurd h hlt))
          clear hsc
          go_wp2_with fail
          refine (refColumn_any _ _ (by simp; omega)).mono ?_
          rintro e w1 ⟨rfl, rfl⟩
          have hdt := Lib.hid (show (s1.extract 0 k).data.toList = (Lib.trimPrefix s.data.toList [36]).takeWhile isLet by rw [Lib.extract_data, ← HH.out.2.1, ← hsplit.out.1]; simp)
          have hdr := Lib.hid (show (s1.extract k s1.size).data.toList = (Lib.trimPrefix s.data.toList [36]).dropWhile isLet by rw [Lib.extract_data, ← HH.out.2.1, ← hsplit.out.2, List.take_of_length_le (by simp)])
          have hcb : 0 ≤ (col (s1.extract 0 k).data.toList).getD 0 ∧ (col (s1.extract 0 k).data.toList).getD 0 ≤ 18277 := by
            rcases h : col (s1.extract 0 k).data.toList with _ | c
            · simp
            · have := col_bd _ _ h; simp; omega
          generalize hcol : col (s1.extract 0 k).data.toList = oc at hcb ⊢
          have HC := Lib.hid (hdt.out ▸ hcol)
          clear hcol hdt
          go_upto_region 10 with fail
          have hsz2 : (s1.extract k s1.size).size ≤ s1.size := by simp
          generalize s1.extract k s1.size = s2 at hdr hsz2 ⊢
          go_cut [50] (fun b wx => b = .bool (Pre s2 36) ∧ wx = (w.alloc (.cells #[.int .i64 0, .int .i64 0, .bool false, .bool false] 35)).alloc (.cells #[.int .i64 0, .int .i64 0, .bool false, .bool fc] 35))
          case first =>
            by_cases z0 : 0 < s2.size
            · have hq : ((s2[0].toNat : Int) == 36) = Pre s2 36 := pre_at s2 36 z0
              go_wp2_with fail
              go_meet
              exact ⟨rfl, rfl⟩
            · have HQ := Lib.hid (pre_none s2 36 z0)
              go_wp2_with fail
              go_meet
              exact ⟨by rw [HQ.out], rfl⟩
          case rest =>
            obtain ⟨rfl, rfl⟩ := hcut
            go_upto_if 50 with fail
            go_cut [0] (fun s0 wx => ∃ (s3 : ByteArray) (fr : Bool), s0 = .string s3 ∧ Hid (CutOff s2 36 s3 fr) ∧ wx = (w.alloc (.cells #[.int .i64 0, .int .i64 0, .bool false, .bool false] 35)).alloc (.cells #[.int .i64 0, .int .i64 0, .bool fr, .bool fc] 35))
            case first =>
              cases hp : Pre s2 36
              · have HP := Lib.hid (pre_off s2 36 hp)
                clear hp
                go_wp2_with fail
                go_meet
                exact ⟨_, false, rfl, HP, rfl⟩
              · obtain ⟨h0, hh⟩ := pre_yes s2 36 hp
                have HP := Lib.hid hh
                clear hp hh
                go_wp2_with fail
                go_meet
                exact ⟨_, true, rfl, HP, rfl⟩
            case rest =>
              obtain ⟨s3, fr, rfl, HP, rfl⟩ := hcut
              have hsz3 := HP.out.1
              go_wp2_with fail
              refine (count_any _ _ (by omega)).mono ?_
              rintro e w2 ⟨rfl, rfl⟩
              have hnum := Lib.hid (show Lib.trimPrefix ((Lib.trimPrefix s.data.toList [36]).dropWhile isLet) [36] = s3.data.toList by rw [← hdr.out, HP.out.2.1])
              have hfr := Lib.hid (show Lib.hasPrefix ((Lib.trimPrefix s.data.toList [36]).dropWhile isLet) [36] = fr by rw [← hdr.out, HP.out.2.2])
              rcases oc with _ | c
              · have hnone := Lib.hid (parse_no1 s.data.toList HC.out)
                simp only [Option.getD_none, Option.isSome_none]
                go_wp2_with fail
                refine bodyPost_ret (v := .tuple #[.agg #[.int .i64 0, .int .i64 0, .bool false, .bool false], .bool false]) (by simp [results, Tryd.results17, go_sem]) rfl ⟨?_, ?_⟩
                · rw [hnone.out]; rfl
                · exact ((Below.refl _ _).alloc (Nat.le_refl _) _).alloc (by simp) _
              · simp only [Option.getD_some] at hcb
                simp only [Option.getD_some, Option.isSome_some]
                rcases hnn : num s3.data.toList with _ | n
                · have hnone := Lib.hid (parse_no2 s.data.toList (by rw [hnum.out, hnn]))
                  clear hnn
                  simp only [Option.getD_none]
                  go_wp2_with fail
                  refine bodyPost_ret (v := .tuple #[.agg #[.int .i64 0, .int .i64 0, .bool false, .bool false], .bool false]) (by simp [results, Tryd.results17, go_sem]) rfl ⟨?_, ?_⟩
                  · rw [hnone.out]; rfl
                  · exact ((Below.refl _ _).alloc (Nat.le_refl _) _).alloc (by simp) _
                · have hnb := num_bd _ _ hnn
                  have hn1 := hnb.2.2.1
                  have hn2 := hnb.2.2.2
                  have hnz : (n == 0) = false := by simp; omega
                  have hyes := Lib.hid (parse_yes s.data.toList c n HC.out (by rw [hnum.out, hnn]))
                  clear hnn hnb
                  simp only [Option.getD_some]
                  go_wp2_with fail
                  refine bodyPost_ret (v := .tuple #[.agg #[.int .i64 (n - 1), .int .i64 c, .bool fr, .bool fc], .bool true]) (by simp [results, Tryd.results17, go_sem]) rfl ⟨?_, ?_⟩
                  · rw [hyes.out, hfr.out, ← HH.out.2.2]; rfl
                  · exact ((Below.refl _ _).alloc (Nat.le_refl _) _).alloc (by simp) _
end Go.Proofs.YtlbiofmcanjijaaDoor
