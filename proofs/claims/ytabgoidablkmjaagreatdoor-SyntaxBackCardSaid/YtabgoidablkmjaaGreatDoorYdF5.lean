/- The parser: atoms that are words: sorts, constants, words that are no atoms. -/
import Derived.Test.YtabgoidablkmjaaGreatDoorYdF1
set_option linter.unusedVariables false
set_option linter.unusedSimpArgs false
namespace Go.Vd.L
open Go.Vd

theorem rt88a (s : List UInt8) (H : AH) : Rt Ck 88 [.str s, .str [64]] H fun v H' => v = .int .i64 (idxB 64 s 0) ∧ H' = H := by
  refine Rt.enter (af := c88) rfl rfl ?_
  repeat' (first | refine Wc.seq ?_ | refine Wc.block ?_ | refine Wc.reg ?_ | refine Fin.seq ?_ | refine Wo.nil ?_ | refine Wo.val rfl (.mv rfl) ?_ | refine Wo.val rfl (.pick_f rfl rfl) ?_ | refine Wo.val rfl (.bin rfl rfl rfl) ?_ | refine Wo.val rfl (.tlen rfl) ?_)
  refine Wc.ifs rfl (fun h1 => ?_) (fun h1 => ?_)
  · have : s = [64] := (strEq_iff h1).symm
    subst this
    repeat' (first | refine Wc.seq ?_ | refine Wc.reg ?_ | refine Wc.ret ?_ | refine Fin.seq ?_ | refine Fin.seq_ret ?_ | refine Fin.block_ret ?_ | refine Wo.nil ?_ | refine Wo.val rfl (.mv rfl) ?_)
    exact Fin.kret rfl ⟨rfl, rfl⟩
  · repeat' (first | refine Wc.seq ?_ | refine Wc.reg ?_ | refine Fin.seq ?_ | refine Wo.nil ?_ | refine Wc.cond_t rfl ?_ | refine Wo.val rfl (.mv rfl) ?_ | refine Wo.val rfl (.bin rfl rfl rfl) ?_ | refine Wo.val rfl (.ixt rfl rfl (by decide) rfl) ?_)
    refine Wo.call rfl rfl (rt100 s 64 H) ?_
    rintro _ _ ⟨rfl, rfl⟩
    repeat' (first | refine Wc.ret ?_ | refine Fin.seq ?_ | refine Fin.seq_ret ?_ | refine Fin.block_ret ?_ | refine Wo.nil ?_ | refine Wo.val rfl (.mv rfl) ?_)
    exact Fin.kret rfl ⟨rfl, rfl⟩

theorem rt41n (s : List UInt8) (hs : idxB 64 s 0 = -1) (H : AH) : Rt Ck 41 [.str s, .str [64]] H fun v H' => v = .tup [.str s, .str [], .bool false] ∧ H' = H := by
  have h70 : Rt Ck 70 [.str s, .str [64]] H fun v H' => v = .tup [.str s, .str [], .bool false] ∧ H' = H := by
    have b1 : binV Ck H .geq .int (.int .i64 (-1)) (.int .i64 (Int.ofNat 0)) = some (.bool false) := geF (by decide)
    refine Rt.enter (af := c70) rfl rfl ?_
    repeat' (first | refine Wc.seq ?_ | refine Wc.reg ?_ | refine Fin.seq ?_ | refine Wo.nil ?_ | refine Wo.val rfl (.mv rfl) ?_)
    refine Wo.call rfl rfl (rt88a s H) ?_
    rintro _ H1 ⟨rfl, e⟩
    subst e
    rw [hs]
    repeat' (first | refine Wc.seq ?_ | refine Wc.reg ?_ | refine Wc.skip ?_ | refine Wc.ret ?_ | refine Fin.seq ?_ | refine Wo.nil ?_ | refine Wc.cond_f rfl ?_ | refine Wo.val rfl (.mv rfl) ?_ | refine Wo.val rfl (.bin rfl rfl (by assumption)) ?_)
    exact Fin.kret rfl ⟨rfl, rfl⟩
  refine Rt.enter (af := c41) rfl rfl ?_
  repeat' (first | refine Wc.seq ?_ | refine Wc.reg ?_ | refine Fin.seq ?_ | refine Wo.nil ?_ | refine Wo.val rfl (.mv rfl) ?_)
  refine Wo.call rfl rfl h70 ?_
  rintro _ H1 ⟨rfl, e⟩
  subst e
  repeat' (first | refine Wc.ret ?_ | refine Fin.seq ?_ | refine Wo.nil ?_ | refine Wo.val rfl (.mv rfl) ?_ | refine Wo.val rfl (.ext rfl rfl) ?_)
  exact Fin.kret rfl ⟨rfl, rfl⟩

theorem idxB_at : ∀ (a r : List UInt8) (i : Nat), a.all (fun c => !Nat.beq c.toNat 64) = true → idxB 64 (a ++ 64 :: r) i = ((i + a.length : Nat) : Int)
  | [], r, i, _ => rfl
  | c :: a, r, i, h => by
    simp only [List.all_cons, Bool.and_eq_true, Bool.not_eq_true'] at h
    simp only [List.cons_append, idxB, h.1, Bool.false_eq_true, if_false]
    rw [idxB_at a r (i + 1) h.2]
    simp; omega

theorem rt41y (a r : List UInt8) (ha : a.all (fun c => !Nat.beq c.toNat 64) = true) (hl : a.length ≤ 1000) (H : AH) : Rt Ck 41 [.str (a ++ 64 :: r), .str [64]] H fun v H' => v = .tup [.str a, .str r, .bool true] ∧ H' = H := by
  have h70 : Rt Ck 70 [.str (a ++ 64 :: r), .str [64]] H fun v H' => v = .tup [.str a, .str r, .bool true] ∧ H' = H := by
    have b1 : binV Ck H .geq .int (.int .i64 (a.length : Nat)) (.int .i64 (Int.ofNat 0)) = some (.bool true) := geT (by simp)
    have b2 : binV Ck H .add .int (.int .i64 (a.length : Nat)) (.int .i64 (([64] : List UInt8).length : Nat)) = some (.int .i64 (a.length + 1 : Nat)) := by
      show some (AV.int .i64 (IntKind.i64.wrap ((a.length : Int) + 1))) = _
      rw [show (a.length : Int) + 1 = ((a.length + 1 : Nat) : Int) by omega, wrap_i64 (by omega) (by omega)]
    have n1 : bnds (a ++ 64 :: r).length (a ++ 64 :: r).length none (some (.int .i64 (a.length : Nat))) none = some (0, a.length, (a ++ 64 :: r).length) := bnds_hi (by simp)
    have n2 : bnds (a ++ 64 :: r).length (a ++ 64 :: r).length (some (.int .i64 (a.length + 1 : Nat))) none none = some (a.length + 1, (a ++ 64 :: r).length, (a ++ 64 :: r).length) := bnds_lo (by simp)
    refine Rt.enter (af := c70) rfl rfl ?_
    repeat' (first | refine Wc.seq ?_ | refine Wc.reg ?_ | refine Fin.seq ?_ | refine Wo.nil ?_ | refine Wo.val rfl (.mv rfl) ?_)
    refine Wo.call rfl rfl (rt88a _ H) ?_
    rintro _ H1 ⟨rfl, e⟩
    subst e
    rw [idxB_at a r 0 ha, Nat.zero_add]
    repeat' (first | refine Wc.seq ?_ | refine Wc.reg ?_ | refine Fin.seq ?_ | refine Wo.nil ?_ | refine Wc.cond_t rfl ?_ | refine Wo.val rfl (.mv rfl) ?_ | refine Wo.val rfl (.bin rfl rfl (by assumption)) ?_)
    refine Wc.regd (Wd.last ?_)
    repeat' refine Lx.val rfl (.mv rfl) ?_
    refine Lx.val rfl (.sls rfl rfl rfl n1) ?_
    repeat' (first | refine Lx.val rfl (.mv rfl) ?_ | refine Lx.val rfl (.bin rfl rfl (by assumption)) ?_ | refine Lx.val rfl (.tlen rfl) ?_)
    refine Lx.val rfl (.sls rfl rfl rfl n2) ?_
    repeat' refine Lx.val rfl (.mv rfl) ?_
    refine Lx.nil ⟨AgA.cons ?_ AgA.nil, HvA.nil, ?_⟩
    · repeat' refine Ag.val rfl (.mv rfl) (by first | exact rfl | exact trivial) ?_
      refine Ag.val rfl (.sls rfl rfl rfl n1) rfl ?_
      repeat' (first | refine Ag.val rfl (.mv rfl) (by first | exact rfl | exact trivial) ?_ | refine Ag.val rfl (.bin rfl rfl (by assumption)) (by first | exact rfl | exact trivial) ?_ | refine Ag.val rfl (.tlen rfl) (by first | exact rfl | exact trivial) ?_)
      refine Ag.val rfl (.sls rfl rfl rfl n2) rfl ?_
      repeat' (first | exact Ag.nil | refine Ag.val rfl (.mv rfl) (by first | exact rfl | exact trivial) ?_)
    · repeat' (first | refine Wc.ret ?_ | refine Fin.seq ?_ | refine Fin.seq_ret ?_)
      refine Fin.kret rfl ⟨?_, rfl⟩
      have e1 : List.take (a.length - 0) (List.drop 0 (a ++ 64 :: r)) = a := by simp
      have e2 : List.take ((a ++ 64 :: r).length - (a.length + 1)) (List.drop (a.length + 1) (a ++ 64 :: r)) = r := by
        rw [List.drop_append, List.drop_of_length_le (by omega), show a.length + 1 - a.length = 1 by omega]
        simp only [List.nil_append, List.drop_succ_cons, List.drop_zero, List.length_append, List.length_cons]
        exact List.take_of_length_le (by omega)
      simp only [oneR, e1, e2]
  refine Rt.enter (af := c41) rfl rfl ?_
  repeat' (first | refine Wc.seq ?_ | refine Wc.reg ?_ | refine Fin.seq ?_ | refine Wo.nil ?_ | refine Wo.val rfl (.mv rfl) ?_)
  refine Wo.call rfl rfl h70 ?_
  rintro _ H1 ⟨rfl, e⟩
  subst e
  repeat' (first | refine Wc.ret ?_ | refine Fin.seq ?_ | refine Wo.nil ?_ | refine Wo.val rfl (.mv rfl) ?_ | refine Wo.val rfl (.ext rfl rfl) ?_)
  exact Fin.kret rfl ⟨rfl, rfl⟩

/-- Atom tells the leaf of a word. -/
def AtOK (w : List UInt8) (t : Tm) : Prop := ∀ H, Rt Ck 22 [.str w] H fun v H' => ∃ X, v = .tup [.ptr X 0, .bool true] ∧ TreeAt H.next H' t X ∧ Grow H H'

theorem sort_at : ∀ n : Nat, n < 10 → sortOf ([84, 121, 112, 101] ++ itoaD n) = [.int .i64 (n : Int), .bool true]
  | 0, _ => rfl | 1, _ => rfl | 2, _ => rfl | 3, _ => rfl | 4, _ => rfl | 5, _ => rfl | 6, _ => rfl | 7, _ => rfl | 8, _ => rfl | 9, _ => rfl
  | n + 10, h => by omega
theorem dig_at : ∀ n : Nat, n < 10 → digOf (itoaD n) = [.int .i64 (n : Int), .bool true]
  | 0, _ => rfl | 1, _ => rfl | 2, _ => rfl | 3, _ => rfl | 4, _ => rfl | 5, _ => rfl | 6, _ => rfl | 7, _ => rfl | 8, _ => rfl | 9, _ => rfl
  | n + 10, h => by omega

theorem rt22s {n : Nat} (hn : n < 10) : AtOK ([84, 121, 112, 101] ++ itoaD n) (.nd0 1 n []) := by
  intro H
  refine Rt.enter (af := c22) rfl rfl ?_
  repeat' (first | refine Wc.seq ?_ | refine Wc.reg ?_ | refine Fin.seq ?_ | refine Wo.nil ?_ | refine Wo.val rfl (.mv rfl) ?_)
  refine Wo.call rfl rfl (rt40 _ H) ?_
  rintro _ H1 ⟨rfl, e⟩
  subst e
  rw [sort_at n hn]
  repeat' (first | refine Wc.seq ?_ | refine Wc.reg ?_ | refine Fin.seq ?_ | refine Wo.nil ?_ | refine Wc.cond_t rfl ?_ | refine Wo.val rfl (.mv rfl) ?_ | refine Wo.val rfl (.ext rfl rfl) ?_ | refine Wo.val rfl (.build rfl rfl) ?_)
  refine Wo.boxn (c := [.int .i64 1, .int .i64 n, .str [], .nilp, .nilp, .nilp]) rfl rfl rfl (fun H2 hn2 hX2 hs2 => ?_)
  repeat' (first | refine Wc.ret ?_ | refine Fin.seq ?_ | refine Fin.seq_ret ?_ | refine Wo.nil ?_ | refine Wo.val rfl (.mv rfl) ?_)
  exact Fin.kret rfl ⟨H1.next, rfl, ⟨Nat.le_refl _, by omega, hX2⟩, by omega, fun Y hY => hs2 Y (by omega)⟩

/-- Words that are no atoms, behind which a term's text may not go on. -/
def stopW (w : List UInt8) : Prop := w = [41] ∨ w = [44] ∨ w = [61, 62] ∨ w = [58, 61] ∨ w = [105, 110]

theorem rt73w {w : List UInt8} (hw : w = [41] ∨ w = [44] ∨ w = [61, 62] ∨ w = [58, 61]) (H : AH) : Rt Ck 73 [.str w] H fun v H' => v = .bool false ∧ H' = H := by
  refine Rt.enter (af := c73) rfl rfl ?_
  rcases hw with rfl | rfl | rfl | rfl
  all_goals
    repeat' (first | refine Wc.seq ?_ | refine Wc.block ?_ | refine Wc.reg ?_ | refine Fin.seq ?_ | refine Wo.nil ?_ | refine Wo.val rfl (.mv rfl) ?_ | refine Wo.val rfl (.tlen rfl) ?_)
    refine Wc.loop ?_
    repeat' (first | refine Wc.seq ?_ | refine Wc.block ?_ | refine Wc.reg ?_ | refine Wc.skip ?_ | refine Fin.seq ?_ | refine Wo.nil ?_ | refine Wc.cond_t rfl ?_ | refine Wo.val rfl (.mv rfl) ?_ | refine Wo.val rfl (.bin rfl rfl rfl) ?_ | refine Wo.val rfl (.ixt rfl rfl (by decide) rfl) ?_)
    refine Wo.call rfl rfl (rt91 _ H) ?_
    rintro _ H1 ⟨rfl, e⟩
    subst e
    repeat' (first | refine Wc.seq ?_ | refine Wc.reg ?_ | refine Wc.skip ?_ | refine Wc.ret ?_ | refine Wc.exit ?_ | refine Fin.seq ?_ | refine Fin.seq_exit ?_ | refine Fin.seq_ret ?_ | refine Fin.block_ret ?_ | refine Fin.block_here ?_ | refine Fin.block_on rfl ?_ | refine Wo.nil ?_ | refine Wc.cond_f rfl ?_ | refine Wo.skip rfl ?_ | refine Wo.val rfl (.mv rfl) ?_ | refine Wo.val rfl (.pick_t rfl rfl) ?_ | refine Wo.val rfl (.pick_f rfl rfl) ?_ | refine Wo.val rfl (.bin rfl rfl rfl) ?_)
    exact Fin.kret rfl ⟨rfl, rfl⟩

theorem rt45w {w : List UInt8} (hw : w = [41] ∨ w = [44] ∨ w = [61, 62] ∨ w = [58, 61]) (H : AH) : Rt Ck 45 [.str w] H fun v H' => v = .bool false ∧ Ext 1 H H' := by
  have hl : w.length < 1000 := by rcases hw with rfl | rfl | rfl | rfl <;> decide
  have hc : cntB 46 w 0 = 0 := by rcases hw with rfl | rfl | rfl | rfl <;> rfl
  refine Rt.enter (af := c45) rfl rfl ?_
  repeat' (first | refine Wc.seq ?_ | refine Wc.reg ?_ | refine Fin.seq ?_ | refine Wo.nil ?_ | refine Wo.val rfl (.mv rfl) ?_)
  refine Wo.call rfl rfl (rt72 w hl hc H) ?_
  rintro _ H1 ⟨rfl, hg, hE⟩
  repeat' (first | refine Wc.block ?_ | refine Fin.seq ?_ | refine Wo.nil ?_ | refine Wo.val rfl (.mv rfl) ?_ | refine Wo.val rfl (.len rfl) ?_)
  refine Wc.loop ?_
  repeat' (first | refine Wc.seq ?_ | refine Wc.block ?_ | refine Wc.reg ?_ | refine Wc.skip ?_ | refine Fin.seq ?_ | refine Wo.nil ?_ | refine Wc.cond_t rfl ?_ | refine Wo.val rfl (.bin rfl rfl rfl) ?_)
  refine Wo.val rfl (.ixs rfl rfl (by decide) (by decide) (by decide)) ?_
  refine Wo.val rfl (.ld (v := .str w) rfl (by rw [AH.rd_of hg]; rfl)) ?_
  repeat' (first | refine Wc.seq ?_ | refine Wc.reg ?_ | refine Fin.seq ?_ | refine Wo.nil ?_ | refine Wo.val rfl (.mv rfl) ?_)
  refine Wo.call rfl rfl (rt73w hw H1) ?_
  rintro _ H2 ⟨rfl, e2⟩
  subst e2
  repeat' (first | refine Wc.seq ?_ | refine Wc.reg ?_ | refine Wc.ret ?_ | refine Fin.seq ?_ | refine Fin.seq_ret ?_ | refine Fin.block_ret ?_ | refine Wo.nil ?_ | refine Wc.cond_t rfl ?_ | refine Wo.val rfl (.mv rfl) ?_ | refine Wo.val rfl (.un rfl rfl) ?_)
  exact Fin.kret rfl ⟨rfl, hE⟩

theorem rt42s (s : List UInt8) (hs : s.length ≤ 1000) (h1 : hasSuf s recW = false) (H : AH) : Rt Ck 42 [.str s] H fun v H' => v = .tup [.str [], .bool false] ∧ H' = H := by
  refine Rt.enter (af := c42) rfl rfl ?_
  repeat' (first | refine Wc.seq ?_ | refine Wc.reg ?_ | refine Fin.seq ?_ | refine Wo.nil ?_ | refine Wo.val rfl (.mv rfl) ?_)
  refine Wo.call rfl rfl (rt71 s recW hs H) ?_
  rintro _ H0 ⟨rfl, e0⟩
  subst e0
  rw [h1]
  repeat' (first | refine Wc.seq ?_ | refine Wc.reg ?_ | refine Wc.ret ?_ | refine Fin.seq ?_ | refine Fin.seq_ret ?_ | refine Wo.nil ?_ | refine Wc.cond_t rfl ?_ | refine Wo.skip rfl ?_ | refine Wo.val rfl (.mv rfl) ?_ | refine Wo.val rfl (.pick_t rfl rfl) ?_ | refine Wo.val rfl (.un rfl rfl) ?_ | refine Wo.val rfl (.ext rfl rfl) ?_)
  exact Fin.kret rfl ⟨rfl, rfl⟩

theorem rt22n {w : List UInt8} (hw : stopW w) (H : AH) : Rt Ck 22 [.str w] H fun v H' => v = .tup [.nilp, .bool false] ∧ Grow H H' := by
  have hl : w.length ≤ 1000 := by rcases hw with rfl | rfl | rfl | rfl | rfl <;> decide
  have hi : idxB 64 w 0 = -1 := by rcases hw with rfl | rfl | rfl | rfl | rfl <;> rfl
  have hr : hasSuf w recW = false := by rcases hw with rfl | rfl | rfl | rfl | rfl <;> rfl
  have hs : sortOf w = [.int .i64 (Int.ofNat 0), .bool false] := by rcases hw with rfl | rfl | rfl | rfl | rfl <;> rfl
  refine Rt.enter (af := c22) rfl rfl ?_
  repeat' (first | refine Wc.seq ?_ | refine Wc.reg ?_ | refine Fin.seq ?_ | refine Wo.nil ?_ | refine Wo.val rfl (.mv rfl) ?_)
  refine Wo.call rfl rfl (rt40 _ H) ?_
  rintro _ H1 ⟨rfl, e⟩
  subst e
  rw [hs]
  repeat' (first | refine Wc.seq ?_ | refine Wc.reg ?_ | refine Wc.skip ?_ | refine Fin.seq ?_ | refine Wo.nil ?_ | refine Wc.cond_f rfl ?_ | refine Wo.val rfl (.mv rfl) ?_ | refine Wo.val rfl (.ext rfl rfl) ?_)
  refine Wo.call rfl rfl (rt41n w hi H1) ?_
  rintro _ H2 ⟨rfl, e⟩
  subst e
  repeat' (first | refine Wc.seq ?_ | refine Wc.reg ?_ | refine Fin.seq ?_ | refine Wo.nil ?_ | refine Wo.val rfl (.mv rfl) ?_ | refine Wo.val rfl (.ext rfl rfl) ?_ | refine Wo.val rfl (.build rfl rfl) ?_)
  refine Wo.boxn (c := [.int .i64 3, .int .i64 0, .str w, .nilp, .nilp, .nilp]) rfl rfl rfl (fun H3 hn3 hX3 hs3 => ?_)
  have hG3 : Grow H2 H3 := ⟨by omega, fun Y hY => hs3 Y (by omega)⟩
  repeat' (first | refine Wc.seq ?_ | refine Wc.reg ?_ | refine Fin.seq ?_ | refine Wo.nil ?_ | refine Wo.val rfl (.mv rfl) ?_)
  refine Wo.call rfl rfl (rt42s w hl hr H3) ?_
  rintro _ H4 ⟨rfl, e⟩
  rw [e]
  repeat' (first | refine Wc.seq ?_ | refine Wc.reg ?_ | refine Wc.skip ?_ | refine Fin.seq ?_ | refine Wo.nil ?_ | refine Wc.cond_f rfl ?_ | refine Wo.val rfl (.mv rfl) ?_ | refine Wo.val rfl (.ext rfl rfl) ?_)
  refine Wo.call rfl rfl (rt44 w H3) ?_
  rintro _ H5 ⟨rfl, e⟩
  rw [e]
  by_cases hk : w = [105, 110]
  · subst hk
    repeat' (first | refine Wc.seq ?_ | refine Wc.reg ?_ | refine Wc.ret ?_ | refine Fin.seq ?_ | refine Fin.seq_ret ?_ | refine Wo.nil ?_ | refine Wc.cond_t rfl ?_ | refine Wo.skip rfl ?_ | refine Wo.val rfl (.mv rfl) ?_ | refine Wo.val rfl (.pick_t rfl rfl) ?_)
    exact Fin.kret rfl ⟨rfl, hG3⟩
  · have hw' : w = [41] ∨ w = [44] ∨ w = [61, 62] ∨ w = [58, 61] := by
      rcases hw with h | h | h | h | h
      · exact .inl h
      · exact .inr (.inl h)
      · exact .inr (.inr (.inl h))
      · exact .inr (.inr (.inr h))
      · exact absurd h hk
    have hkw : keyW w = false := by rcases hw' with rfl | rfl | rfl | rfl <;> rfl
    rw [hkw]
    repeat' refine Wo.val rfl (.mv rfl) ?_
    refine Wo.call rfl rfl (rt45w hw' H3) ?_
    rintro _ H6 ⟨rfl, hE⟩
    repeat' (first | refine Wc.seq ?_ | refine Wc.reg ?_ | refine Wc.ret ?_ | refine Fin.seq ?_ | refine Fin.seq_ret ?_ | refine Wo.nil ?_ | refine Wc.cond_t rfl ?_ | refine Wo.val rfl (.mv rfl) ?_ | refine Wo.val rfl (.pick_f rfl rfl) ?_ | refine Wo.val rfl (.un rfl rfl) ?_)
    exact Fin.kret rfl ⟨rfl, hG3.trans (Ext.grow hE)⟩
end Go.Vd.L
namespace Go.Vd.L
open Go.Vd

theorem let_plain {c : UInt8} (h : letU c = true) : plainN c.toNat = true := by
  rw [← plainI_N]
  exact letter_plain h
theorem nameF_plain : ∀ (s : List UInt8) (b : Bool), nameF b s = true → s.all (fun c => plainN c.toNat || dotU c) = true
  | [], _, _ => rfl
  | c :: r, true, h => by
    simp only [nameF, Bool.and_eq_true] at h
    simp only [List.all_cons, let_plain h.1, Bool.true_or, Bool.true_and]
    exact nameF_plain r false h.2
  | c :: r, false, h => by
    by_cases hd : dotU c = true
    · simp only [nameF, if_pos hd] at h
      simp only [List.all_cons, hd, Bool.or_true, Bool.true_and]
      exact nameF_plain r true h
    · simp only [nameF, if_neg hd, Bool.and_eq_true] at h
      simp only [List.all_cons, h.1, Bool.true_or, Bool.true_and]
      exact nameF_plain r false h.2
theorem name_F {s : List UInt8} (h : nameB s = true) : nameF true s = true ∧ s ≠ [] ∧ s.length ≤ 24 := by
  simp only [nameB, Bool.and_eq_true] at h
  have h1 := Nat.le_of_ble_eq_true h.1.1.1
  exact ⟨h.2, fun e => by rw [e] at h1; simp at h1, Nat.le_of_ble_eq_true h.1.1.2⟩
theorem name_no64 {s : List UInt8} (h : nameB s = true) : s.all (fun c => !Nat.beq c.toNat 64) = true := by
  refine List.all_eq_true.2 fun c hc => ?_
  have := List.all_eq_true.1 (nameF_plain s true (name_F h).1) c hc
  have h64 : c.toNat ≠ 64 := by
    intro e
    rw [Bool.or_eq_true] at this
    rcases this with g | g
    · exact (plainN_not g).2.1 e
    · unfold dotU at g
      rw [e] at g
      exact absurd g (by decide)
  rw [beq_dec]
  simpa using h64

theorem sortOK_len {w : List UInt8} (h : sortOK w = true) : w.length = 5 := by
  unfold sortOK at h
  rw [Bool.and_eq_true] at h
  obtain ⟨_, h⟩ := h
  split at h
  · rename_i b hb
    have := congrArg List.length hb
    rw [List.length_drop] at this
    simp at this
    omega
  · cases h
theorem recB_len {s : List UInt8} (h : recB s = true) : 5 ≤ s.length := by
  unfold recB at h
  split at h
  · cases h
  · omega

theorem rt22c {s : List UInt8} {n : Nat} (hs : nameB s = true) (hk : keyW s = false) (hn : n < 10) (hr : recB s = true ∨ n = 0) : AtOK (s ++ (if recB s then 64 :: itoaD n else [])) (.nd0 3 n s) := by
  intro H
  have hl := (name_F hs).2.2
  cases hrec : recB s with
  | true =>
    rw [if_pos rfl]
    have hso : sortOK (s ++ 64 :: itoaD n) = false := by
      cases h : sortOK (s ++ 64 :: itoaD n) with
      | false => rfl
      | true =>
        have h1 := sortOK_len h
        have h2 := recB_len hrec
        simp at h1
        omega
    obtain ⟨n', hn'⟩ := sortOf_eq (s ++ 64 :: itoaD n)
    rw [hso] at hn'
    refine Rt.enter (af := c22) rfl rfl ?_
    repeat' (first | refine Wc.seq ?_ | refine Wc.reg ?_ | refine Fin.seq ?_ | refine Wo.nil ?_ | refine Wo.val rfl (.mv rfl) ?_)
    refine Wo.call rfl rfl (rt40 _ H) ?_
    rintro _ H1 ⟨rfl, e⟩
    subst e
    rw [hn']
    repeat' (first | refine Wc.seq ?_ | refine Wc.reg ?_ | refine Wc.skip ?_ | refine Fin.seq ?_ | refine Wo.nil ?_ | refine Wc.cond_f rfl ?_ | refine Wo.val rfl (.mv rfl) ?_ | refine Wo.val rfl (.ext rfl rfl) ?_)
    refine Wo.call rfl rfl (rt41y s (itoaD n) (name_no64 hs) (by omega) H1) ?_
    rintro _ H2 ⟨rfl, e⟩
    subst e
    repeat' (first | refine Wc.seq ?_ | refine Wc.reg ?_ | refine Fin.seq ?_ | refine Wo.nil ?_ | refine Wo.val rfl (.mv rfl) ?_ | refine Wo.val rfl (.ext rfl rfl) ?_ | refine Wo.val rfl (.build rfl rfl) ?_)
    refine Wo.boxn (c := [.int .i64 3, .int .i64 0, .str s, .nilp, .nilp, .nilp]) rfl rfl rfl (fun H3 hn3 hX3 hs3 => ?_)
    have hG3 : Grow H2 H3 := ⟨by omega, fun Y hY => hs3 Y (by omega)⟩
    repeat' (first | refine Wc.seq ?_ | refine Wc.reg ?_ | refine Fin.seq ?_ | refine Wo.nil ?_ | refine Wo.val rfl (.mv rfl) ?_)
    refine Wo.call rfl rfl (rt42 s (.inl hs) H3) ?_
    rintro _ H4 ⟨⟨r, rfl⟩, hE4⟩
    have hX4 := hE4.get (by omega) hX3
    rw [hrec]
    repeat' (first | refine Wc.seq ?_ | refine Wc.reg ?_ | refine Fin.seq ?_ | refine Wo.nil ?_ | refine Wc.cond_t rfl ?_ | refine Wo.val rfl (.mv rfl) ?_ | refine Wo.val rfl (.ext rfl rfl) ?_)
    refine Wo.call rfl rfl (rt43 (itoaD n) H4) ?_
    rintro _ H5 ⟨rfl, e⟩
    rw [e, dig_at n hn]
    repeat' (first | refine Wc.seq ?_ | refine Wc.reg ?_ | refine Wc.skip ?_ | refine Fin.seq ?_ | refine Wo.nil ?_ | refine Wc.cond_f rfl ?_ | refine Wo.val rfl (.mv rfl) ?_ | refine Wo.val rfl (.pick_f rfl rfl) ?_ | refine Wo.val rfl (.chk rfl rfl) ?_ | refine Wo.val rfl (.un rfl rfl) ?_ | refine Wo.val rfl (.fad rfl) ?_ | refine Wo.val rfl (.ext rfl rfl) ?_)
    refine Wo.st1 (c' := [.int .i64 3, .int .i64 n, .str s, .nilp, .nilp, .nilp]) rfl rfl hX4 rfl rfl rfl rfl rfl (fun H6 hn6 hX6 hs6 => ?_)
    repeat' (first | refine Wc.seq ?_ | refine Wc.reg ?_ | refine Fin.seq ?_ | refine Wo.nil ?_ | refine Wo.val rfl (.mv rfl) ?_)
    refine Wo.call rfl rfl (rt44 s H6) ?_
    rintro _ H7 ⟨rfl, e⟩
    rw [e, hk]
    repeat' refine Wo.val rfl (.mv rfl) ?_
    refine Wo.call rfl rfl (rt45g s hs H6) ?_
    rintro _ H8 ⟨rfl, hE8⟩
    repeat' (first | refine Wc.seq ?_ | refine Wc.reg ?_ | refine Wc.skip ?_ | refine Wc.ret ?_ | refine Fin.seq ?_ | refine Wo.nil ?_ | refine Wc.cond_f rfl ?_ | refine Wo.val rfl (.mv rfl) ?_ | refine Wo.val rfl (.pick_f rfl rfl) ?_ | refine Wo.val rfl (.un rfl rfl) ?_)
    have l1 := hE4.lo
    have l2 := hE8.lo
    refine Fin.kret rfl ⟨H2.next, rfl, ⟨Nat.le_refl _, by omega, hE8.get (by omega) hX6⟩, by omega, fun Y hY => ?_⟩
    rw [hE8.same Y (by omega), hs6 Y (by omega), hE4.same Y (by omega), hs3 Y (by omega)]
  | false =>
    have n0 : n = 0 := by
      rcases hr with h | h
      · rw [hrec] at h; cases h
      · exact h
    subst n0
    rw [if_neg (by simp), List.append_nil]
    have hso : sortOK s = false := by
      have h1 := keyW_sort s
      rw [hk] at h1
      cases h : sortOK s with
      | false => rfl
      | true => rw [h] at h1; simp at h1
    have hi : idxB 64 s 0 = -1 := idxB_none 64 s 0 (name_no64 hs)
    obtain ⟨n', hn'⟩ := sortOf_eq s
    rw [hso] at hn'
    refine Rt.enter (af := c22) rfl rfl ?_
    repeat' (first | refine Wc.seq ?_ | refine Wc.reg ?_ | refine Fin.seq ?_ | refine Wo.nil ?_ | refine Wo.val rfl (.mv rfl) ?_)
    refine Wo.call rfl rfl (rt40 _ H) ?_
    rintro _ H1 ⟨rfl, e⟩
    subst e
    rw [hn']
    repeat' (first | refine Wc.seq ?_ | refine Wc.reg ?_ | refine Wc.skip ?_ | refine Fin.seq ?_ | refine Wo.nil ?_ | refine Wc.cond_f rfl ?_ | refine Wo.val rfl (.mv rfl) ?_ | refine Wo.val rfl (.ext rfl rfl) ?_)
    refine Wo.call rfl rfl (rt41n s hi H1) ?_
    rintro _ H2 ⟨rfl, e⟩
    subst e
    repeat' (first | refine Wc.seq ?_ | refine Wc.reg ?_ | refine Fin.seq ?_ | refine Wo.nil ?_ | refine Wo.val rfl (.mv rfl) ?_ | refine Wo.val rfl (.ext rfl rfl) ?_ | refine Wo.val rfl (.build rfl rfl) ?_)
    refine Wo.boxn (c := [.int .i64 3, .int .i64 0, .str s, .nilp, .nilp, .nilp]) rfl rfl rfl (fun H3 hn3 hX3 hs3 => ?_)
    repeat' (first | refine Wc.seq ?_ | refine Wc.reg ?_ | refine Fin.seq ?_ | refine Wo.nil ?_ | refine Wo.val rfl (.mv rfl) ?_)
    refine Wo.call rfl rfl (rt42 s (.inl hs) H3) ?_
    rintro _ H4 ⟨⟨r, rfl⟩, hE4⟩
    have hX4 := hE4.get (by omega) hX3
    rw [hrec]
    repeat' (first | refine Wc.seq ?_ | refine Wc.reg ?_ | refine Wc.skip ?_ | refine Fin.seq ?_ | refine Wo.nil ?_ | refine Wc.cond_f rfl ?_ | refine Wo.val rfl (.mv rfl) ?_ | refine Wo.val rfl (.ext rfl rfl) ?_)
    refine Wo.call rfl rfl (rt44 s H4) ?_
    rintro _ H7 ⟨rfl, e⟩
    rw [e, hk]
    repeat' refine Wo.val rfl (.mv rfl) ?_
    refine Wo.call rfl rfl (rt45g s hs H4) ?_
    rintro _ H8 ⟨rfl, hE8⟩
    repeat' (first | refine Wc.seq ?_ | refine Wc.reg ?_ | refine Wc.skip ?_ | refine Wc.ret ?_ | refine Fin.seq ?_ | refine Wo.nil ?_ | refine Wc.cond_f rfl ?_ | refine Wo.val rfl (.mv rfl) ?_ | refine Wo.val rfl (.pick_f rfl rfl) ?_ | refine Wo.val rfl (.un rfl rfl) ?_)
    have l1 := hE4.lo
    have l2 := hE8.lo
    refine Fin.kret rfl ⟨H2.next, rfl, ⟨Nat.le_refl _, by omega, hE8.get (by omega) hX4⟩, by omega, fun Y hY => ?_⟩
    rw [hE8.same Y (by omega), hE4.same Y (by omega), hs3 Y (by omega)]

/-- A leaf that is no variable, by its word. -/
theorem leaf_at {k n : Int} {s : List UInt8} {d : Nat} (hw : (Tm.nd0 k n s).wf) (h2 : k ≠ 2) : AtOK (pr (.nd0 k n s) d) (.nd0 k n s) := by
  obtain ⟨hk, hl⟩ := hw
  rcases hk with rfl | rfl | rfl
  · simp only [leafB, if_true, Bool.and_eq_true, decide_eq_true_eq] at hl
    obtain ⟨m, rfl⟩ : ∃ m : Nat, n = m := ⟨n.toNat, by omega⟩
    have hs := strEq_iff hl.1.1
    subst hs
    have := rt22s (n := m) (by omega)
    simpa [pr] using this
  · exact absurd rfl h2
  · simp only [leafB, if_neg (show ¬ (3 : Int) = 1 by omega), if_neg (show ¬ (3 : Int) = 2 by omega), if_true, Bool.and_eq_true, decide_eq_true_eq, Bool.or_eq_true, Bool.not_eq_true'] at hl
    obtain ⟨m, rfl⟩ : ∃ m : Nat, n = m := ⟨n.toNat, by omega⟩
    have := rt22c (s := s) (n := m) hl.1.1.1.1 hl.1.1.1.2 (by omega) (by
      rcases hl.2 with h | h
      · exact .inl h
      · exact .inr (by omega))
    simpa [pr] using this
end Go.Vd.L
namespace Go.Vd.L
open Go.Vd

theorem dig_inj {a b : Nat} (h : dig a = dig b) : a % 10 = b % 10 := by
  have h2 := congrArg UInt8.toNat h
  unfold dig at h2
  rw [UInt8.toNat_ofNat', UInt8.toNat_ofNat'] at h2
  omega
theorem itoaD_inj {n m : Nat} (hn : n < 10000) (hm : m < 10000) (h : itoaD n = itoaD m) : n = m := by
  unfold itoaD at h
  split at h <;> split at h <;> (try split at h) <;> (try split at h) <;> (try split at h) <;> (try split at h) <;> simp at h
  all_goals
    first
    | (have := dig_inj h; omega)
    | (have h1 := dig_inj h.1; have h2 := dig_inj h.2; omega)
    | (have h1 := dig_inj h.1; have h2 := dig_inj h.2.1; have h3 := dig_inj h.2.2; omega)
    | (have h1 := dig_inj h.1; have h2 := dig_inj h.2.1; have h3 := dig_inj h.2.2.1; have h4 := dig_inj h.2.2.2; omega)
theorem vn_inj {n m : Nat} (hn : n < 10000) (hm : m < 10000) (h : vn n = vn m) : n = m := by
  unfold vn at h
  injection h with _ h
  exact itoaD_inj hn hm h
theorem dig_plain (n : Nat) : plainN (dig n).toNat = true := by
  unfold dig
  rw [UInt8.toNat_ofNat']
  have : n % 10 < 10 := Nat.mod_lt _ (by decide)
  have key : ∀ k : Nat, k < 10 → plainN ((48 + k) % 2 ^ 8) = true := by decide
  exact key _ this
theorem itoaD_plain (n : Nat) : (itoaD n).all (fun b => plainN b.toNat) = true := by
  unfold itoaD
  split
  · simp [dig_plain]
  · split
    · simp [dig_plain]
    · split <;> simp [dig_plain]
theorem vn_bound (n : Nat) : boundB (vn n) = true := by
  have hl := itoaD_len n
  have hk : keyW (vn n) = false := by
    unfold keyW vn
    have e1 : ∀ r x, x ≠ 95 → strEq (95 :: r) (x :: []) = false → True := fun _ _ _ _ => trivial
    have e : ∀ (r y : List UInt8) (x : UInt8), Nat.beq (95 : UInt8).toNat x.toNat = false → strEq (95 :: r) (x :: y) = false := fun r y x h => by
      simp only [strEq, h, Bool.false_and]
    rw [e _ _ 102 rfl, e _ _ 112 rfl, e _ _ 108 rfl, e _ _ 105 rfl]
    simp only [Bool.false_or]
    split
    · rename_i a b c d e' he
      injection he with he _
      subst he
      rw [e _ _ 84 rfl]
      rfl
    · rfl
  unfold boundB
  rw [hk, Nat.ble_eq_true_of_le (show (vn n).length ≤ 24 by simp [vn]; omega), Nat.ble_eq_true_of_le (show 1 ≤ (vn n).length by simp [vn])]
  simp only [vn, List.all_cons, itoaD_plain]
  rfl

/-- The names of the binders around. -/
def vns (d : Nat) : List (List UInt8) := (List.range d).map vn
theorem vns_len (d : Nat) : (vns d).length = d := by simp [vns]
theorem vns_succ (d : Nat) : vns (d + 1) = vns d ++ [vn d] := by simp [vns, List.range_succ]
theorem vns_at {d j : Nat} (h : j < d) : (vns d)[j]? = some (vn j) := by simp [vns, h]

theorem PS.step {N : Nat} {H H' : AH} {S W o : Nat} {all names : List (List UInt8)} {nv : AV} (h : PS N H S W o all names nv) (hP : PSt H' S W (o + 1) all nv) (hn : H'.next = H.next) (hs : ∀ Y, Y ≠ S → H'.get Y = H.get Y) :
    PS N H' S W (o + 1) all names nv ∧ Fr S nv nv H H' :=
  ⟨⟨hP, h.2.1.keep (by omega) (fun Y e => hs Y (fun e' => h.apart (by rw [← e']; exact e))), h.2.2.1, h.2.2.2.1, h.2.2.2.2.1, by have := h.2.2.2.2.2; omega⟩, ⟨by omega, fun Y _ h2 _ => hs Y h2, fun Y e => .inl e⟩⟩
theorem PS.SW {N : Nat} {H : AH} {S W o : Nat} {all names : List (List UInt8)} {nv : AV} (h : PS N H S W o all names nv) : S ≠ W := by
  have := h.2.2.2.1
  have := h.2.2.2.2.1
  omega
theorem drop_at {all r : List (List UInt8)} {w : List UInt8} {o : Nat} (h : all.drop o = w :: r) : all[o]? = some w ∧ all.drop (o + 1) = r := by
  refine ⟨?_, ?_⟩
  · have := congrArg (·[0]?) h
    simpa using this
  · have := congrArg (List.drop 1) h
    rw [List.drop_drop] at this
    simpa using this

section
variable {N : Nat} {H : AH} {S W o : Nat} {all names : List (List UInt8)} {nv : AV} {w : List UInt8} {Q : AEx → ASt → Prop}

theorem loop86 (hP : PS N H S W o all names nv) (hl : names.length < 9000) {j : Nat} (hk : Wc Ck (.loop (bodyN c86 0)) [(0, .ptr S 0), (3, .str w), (5, .int .i64 ((j : Int) - 1))] [] H Q) :
    ∀ e m, m = j + e → m ≤ names.length → (∀ k, j ≤ k → k < m → names[k]? ≠ some w) → Wc Ck (.loop (bodyN c86 0)) [(0, .ptr S 0), (3, .str w), (5, .int .i64 ((m : Int) - 1))] [] H Q := by
  intro e
  induction e with
  | zero => intro m hm _ _; subst hm; exact hk
  | succ e ih =>
    intro m hm hm2 hne
    obtain ⟨m', rfl⟩ : ∃ m', m = m' + 1 := ⟨j + e, by omega⟩
    rw [show ((m' + 1 : Nat) : Int) - 1 = (m' : Nat) by omega]
    have hP' := hP
    obtain ⟨⟨cap, fl, ex, hS, ho, hcap, hW⟩, hN, hV, hWN, hNS, hSl⟩ := hP'
    rcases hN with ⟨h0, _⟩ | ⟨V, cv, junk, rfl, hgV, hVl, hcv⟩
    · rw [h0] at hm2; simp at hm2
    have hlt : m' < names.length := by omega
    have hcv' : names.length ≤ cv := by rw [← hcv, List.length_append]; omega
    have hsne : strEq names[m'] w = false := strEq_ne (fun e => hne m' (by omega) (by omega) (by rw [← e]; exact List.getElem?_eq_getElem hlt))
    have b0 : binV Ck H .geq .int (.int .i64 (m' : Nat)) (.int .i64 (Int.ofNat 0)) = some (.bool true) := geT (by simp)
    have b1 : binV Ck H .eql .str (.str names[m']) (.str w) = some (.bool false) := binV_sF hsne
    have b2 : binV Ck H .sub .int (.int .i64 (m' : Nat)) (.int .i64 (Int.ofNat 1)) = some (.int .i64 ((m' : Int) - 1)) := by
      show some (AV.int .i64 (IntKind.i64.wrap ((m' : Int) - 1))) = _
      rw [wrap_i64 (by omega) (by omega)]
    refine Wc.loop ?_
    repeat' (first | refine Wc.seq ?_ | refine Wc.block ?_ | refine Wc.reg ?_ | refine Wc.skip ?_ | refine Fin.seq ?_ | refine Wo.nil ?_ | refine Wc.cond_t rfl ?_ | refine Wo.val rfl (.mv rfl) ?_ | refine Wo.val rfl (.chk rfl rfl) ?_ | refine Wo.val rfl (.ld rfl (AH.rd_at (by assumption) (by exact rfl))) ?_ | refine Wo.val rfl (.bin rfl rfl (by assumption)) ?_ | refine Wo.val rfl (.fad rfl) ?_)
    refine Wo.val rfl (.ixs rfl rfl hcv' (by omega) (by omega)) ?_
    refine Wo.val rfl (.ld (v := .str names[m']) rfl (AH.rd_at hgV (by simp [strs, List.getElem?_append_left, hlt]))) ?_
    repeat' (first | refine Wc.reg ?_ | refine Wc.skip ?_ | refine Fin.seq ?_ | refine Fin.block ?_ | refine Wo.nil ?_ | refine Wc.cond_f rfl ?_ | refine Wo.skip rfl ?_ | refine Wo.val rfl (.mv rfl) ?_ | refine Wo.val rfl (.pick_f rfl rfl) ?_ | refine Wo.val rfl (.bin rfl rfl (by assumption)) ?_)
    refine (ih m' (by omega) (by omega) (fun k h1 h2 => hne k h1 (by omega))).weak ⟨rfl, rfl, rfl, trivial⟩

/-- No name is this word. -/
theorem loop86n (hP : PS N H S W o all names nv) (hl : names.length < 9000) (hne : ∀ k : Nat, names[k]? ≠ some w) (hE : Fin Q (.exit 0) [(0, .ptr S 0), (3, .str w)] [] H) :
    Wc Ck (.loop (bodyN c86 0)) [(0, .ptr S 0), (3, .str w), (5, .int .i64 ((names.length : Int) - 1))] [] H Q := by
  refine loop86 hP hl (j := 0) ?_ names.length names.length (by omega) (Nat.le_refl _) (fun k _ _ => hne k)
  have b0 : binV Ck H .geq .int (.int .i64 (((0 : Nat) : Int) - 1)) (.int .i64 (Int.ofNat 0)) = some (.bool false) := geF (by decide)
  refine Wc.loop ?_
  repeat' (first | refine Wc.seq ?_ | refine Wc.reg ?_ | refine Wc.exit ?_ | refine Fin.seq ?_ | refine Fin.seq_exit ?_ | refine Wo.nil ?_ | refine Wc.cond_f rfl ?_ | refine Wo.val rfl (.mv rfl) ?_ | refine Wo.val rfl (.bin rfl rfl (by assumption)) ?_)
  exact hE.weak ⟨rfl, rfl, trivial⟩
end
end Go.Vd.L
namespace Go.Vd.L
open Go.Vd

theorem Ao.lenN {l : TL} {H : AH} {nv : AV} {names : List (List UInt8)} {x : Opd} (hN : NS H nv names) (h : evL l x = some nv) : Ao Ck l H (.len x) (.int .i64 (names.length : Nat)) H := by
  rcases hN with ⟨rfl, rfl⟩ | ⟨V, cap, junk, rfl, _⟩
  · exact Ao.len_nil h
  · exact Ao.len h
theorem vns_ne {d : Nat} {w : List UInt8} (h : w.head? ≠ some 95) (k : Nat) : (vns d)[k]? ≠ some w := by
  intro e
  have hk : k < d := by
    rcases Nat.lt_or_ge k d with g | g
    · exact g
    · rw [List.getElem?_eq_none (by rw [vns_len]; exact g)] at e; cases e
  rw [vns_at hk] at e
  injection e with e
  rw [← e] at h
  exact h rfl

/-- The words from here: none, or one that is no atom. -/
def stopAtW (all : List (List UInt8)) (o : Nat) : Prop := all.length ≤ o ∨ ∃ w, all[o]? = some w ∧ stopW w

section
variable {N S W o n d : Nat} {all : List (List UInt8)} {t : Tm}

theorem rt86p {names : List (List UInt8)} (ha : all.length ≤ 2000) (hw : all[o]? = some [40]) (hc : all[o + 1 + n]? = some [41]) (h : Pf 35 [.ptr S 0] N S W all names (o + 1) n t) : Pf 86 [.ptr S 0] N S W all names o (n + 2) t := by
  intro H nv hP
  refine Rt.enter (af := c86) rfl rfl ?_
  repeat' (first | refine Wc.seq ?_ | refine Wc.reg ?_ | refine Fin.seq ?_ | refine Wo.nil ?_ | refine Wo.val rfl (.mv rfl) ?_)
  refine Wo.call rfl rfl (rt61 hP.1 hw) ?_
  rintro _ H1 ⟨rfl, e⟩
  rw [e]
  repeat' (first | refine Wc.seq ?_ | refine Wc.reg ?_ | refine Fin.seq ?_ | refine Wo.nil ?_ | refine Wc.cond_t rfl ?_ | refine Wo.val rfl (.mv rfl) ?_ | refine Wo.val rfl (.bin rfl rfl rfl) ?_)
  refine Wo.call rfl rfl (rt62 hP.1 hP.SW hw ha) ?_
  rintro _ H1 ⟨rfl, hP1, hn1, hs1⟩
  obtain ⟨hP1, hF1⟩ := hP.step hP1 hn1 hs1
  repeat' (first | refine Wc.seq ?_ | refine Wc.reg ?_ | refine Fin.seq ?_ | refine Wo.nil ?_ | refine Wo.val rfl (.mv rfl) ?_)
  refine Wo.call rfl rfl (h H1 nv hP1) ?_
  rintro _ H2 ⟨X, nv2, rfl, hT2, hP2, hF2⟩
  repeat' (first | refine Wc.seq ?_ | refine Wc.reg ?_ | refine Fin.seq ?_ | refine Wo.nil ?_ | refine Wo.val rfl (.mv rfl) ?_)
  refine Wo.call rfl rfl (rt64 hP2.1 hP2.SW hc ha) ?_
  rintro _ H3 ⟨hP3, hn3, hs3⟩
  obtain ⟨hP3, hF3⟩ := hP2.step hP3 hn3 hs3
  repeat' (first | refine Wc.seq ?_ | refine Wc.reg ?_ | refine Wc.ret ?_ | refine Fin.seq ?_ | refine Fin.seq_ret ?_ | refine Wo.nil ?_ | refine Wo.val rfl (.mv rfl) ?_)
  refine Fin.kret rfl ⟨X, nv2, rfl, (hT2.fr hP2 hF3).low (by have := hF1.next; omega), ?_, hF1.trans (hF2.trans hF3)⟩
  rw [show o + (n + 2) = o + 1 + n + 1 by omega]
  exact hP3

theorem rt86e {H : AH} {names : List (List UInt8)} {nv : AV} (hP : PS N H S W o all names nv) (hw : all.length ≤ o) : Rt Ck 86 [.ptr S 0] H fun v H' => v = .nilp ∧ Grow H H' := by
  refine Rt.enter (af := c86) rfl rfl ?_
  repeat' (first | refine Wc.seq ?_ | refine Wc.reg ?_ | refine Fin.seq ?_ | refine Wo.nil ?_ | refine Wo.val rfl (.mv rfl) ?_)
  refine Wo.call rfl rfl (rt61e hP.1 hw) ?_
  rintro _ H1 ⟨rfl, e⟩
  rw [e]
  repeat' (first | refine Wc.seq ?_ | refine Wc.reg ?_ | refine Wc.skip ?_ | refine Wc.ret ?_ | refine Fin.seq ?_ | refine Fin.seq_ret ?_ | refine Wo.nil ?_ | refine Wc.cond_t rfl ?_ | refine Wc.cond_f rfl ?_ | refine Wo.val rfl (.mv rfl) ?_ | refine Wo.val rfl (.bin rfl rfl rfl) ?_)
  exact Fin.kret rfl ⟨rfl, Grow.refl H⟩

theorem sub1 {H : AH} {m : Nat} (hm : m < 9000) : binV Ck H .sub .int (.int .i64 (m : Nat)) (.int .i64 (Int.ofNat 1)) = some (.int .i64 ((m : Int) - 1)) := by
  show some (AV.int .i64 (IntKind.i64.wrap ((m : Int) - 1))) = _
  rw [wrap_i64 (by omega) (by omega)]

/-- At a word that is no bracket and no name that is bound: Atom's answer. -/
theorem rt86w {H : AH} {names : List (List UInt8)} {nv : AV} {w : List UInt8} {R : AV → AH → Prop} (hP : PS N H S W o all names nv) (hl : names.length < 9000) (hw : all[o]? = some w) (h40 : strEq w [40] = false) (h0 : strEq w [] = false) (hne : ∀ k : Nat, names[k]? ≠ some w)
    (hq : Wc Ck (c86.code.tail 5) [(0, .ptr S 0), (3, .str w)] [] H (kret c86 R)) : Rt Ck 86 [.ptr S 0] H R := by
  obtain ⟨cap, fl, ex, hS, _⟩ := hP.1
  have b1 : binV Ck H .eql .str (.str w) (.str [40]) = some (.bool false) := binV_sF h40
  have b2 : binV Ck H .eql .str (.str w) (.str []) = some (.bool false) := binV_sF h0
  have b3 := sub1 (H := H) hl
  refine Rt.enter (af := c86) rfl rfl ?_
  repeat' (first | refine Wc.seq ?_ | refine Wc.reg ?_ | refine Fin.seq ?_ | refine Wo.nil ?_ | refine Wo.val rfl (.mv rfl) ?_)
  refine Wo.call rfl rfl (rt61 hP.1 hw) ?_
  rintro _ H1 ⟨rfl, e⟩
  rw [e]
  repeat' (first | refine Wc.seq ?_ | refine Wc.reg ?_ | refine Wc.skip ?_ | refine Fin.seq ?_ | refine Wo.nil ?_ | refine Wc.cond_f rfl ?_ | refine Wo.val rfl (.mv rfl) ?_ | refine Wo.val rfl (.chk rfl rfl) ?_ | refine Wo.val rfl (.ld rfl (AH.rd_at (by assumption) (by exact rfl))) ?_ | refine Wo.val rfl (.bin rfl rfl (by assumption)) ?_ | refine Wo.val rfl (.fad rfl) ?_)
  refine Wo.val rfl (Ao.lenN hP.2.1 rfl) ?_
  repeat' (first | refine Wc.block ?_ | refine Fin.seq ?_ | refine Wo.nil ?_ | refine Wo.val rfl (.mv rfl) ?_ | refine Wo.val rfl (.bin rfl rfl (by assumption)) ?_)
  refine Wc.weak (loop86n hP hl hne ?_) ⟨rfl, rfl, rfl, trivial⟩
  refine Fin.block_here (Fin.seq ?_)
  exact hq

theorem rt86s {H : AH} {nv : AV} {w : List UInt8} (hP : PS N H S W o all (vns d) nv) (hd : d < 9000) (hw : all[o]? = some w) (hs : stopW w) : Rt Ck 86 [.ptr S 0] H fun v H' => v = .nilp ∧ Grow H H' := by
  have h40 : strEq w [40] = false := by rcases hs with rfl | rfl | rfl | rfl | rfl <;> rfl
  have h0 : strEq w [] = false := by rcases hs with rfl | rfl | rfl | rfl | rfl <;> rfl
  have hh : w.head? ≠ some 95 := by rcases hs with rfl | rfl | rfl | rfl | rfl <;> decide
  refine rt86w hP (by rw [vns_len]; exact hd) hw h40 h0 (vns_ne hh) ?_
  repeat' (first | refine Wc.seq ?_ | refine Wc.reg ?_ | refine Wo.val rfl (.mv rfl) ?_)
  refine Wo.call rfl rfl (rt22n hs H) ?_
  rintro _ H1 ⟨rfl, hG⟩
  repeat' (first | refine Wc.seq ?_ | refine Wc.reg ?_ | refine Wc.ret ?_ | refine Fin.seq ?_ | refine Fin.seq_ret ?_ | refine Wo.nil ?_ | refine Wc.cond_t rfl ?_ | refine Wo.val rfl (.mv rfl) ?_ | refine Wo.val rfl (.un rfl rfl) ?_ | refine Wo.val rfl (.ext rfl rfl) ?_)
  exact Fin.kret rfl ⟨rfl, hG⟩

/-- No atom. -/
theorem rt86n {H : AH} {nv : AV} (hP : PS N H S W o all (vns d) nv) (hd : d < 9000) (hs : stopAtW all o) : Rt Ck 86 [.ptr S 0] H fun v H' => v = .nilp ∧ Grow H H' := by
  rcases hs with hs | ⟨w, hw, hs⟩
  · exact rt86e hP hs
  · exact rt86s hP hd hw hs

/-- A leaf that is no variable. -/
theorem rt86c {w : List UInt8} (ha : all.length ≤ 2000) (hd : d < 9000) (hw : all[o]? = some w) (h40 : strEq w [40] = false) (h0 : strEq w [] = false) (hh : w.head? ≠ some 95) (hA : AtOK w t) : Pf 86 [.ptr S 0] N S W all (vns d) o 1 t := by
  intro H nv hP
  refine rt86w hP (by rw [vns_len]; exact hd) hw h40 h0 (vns_ne hh) ?_
  repeat' (first | refine Wc.seq ?_ | refine Wc.reg ?_ | refine Wo.val rfl (.mv rfl) ?_)
  refine Wo.call rfl rfl (hA H) ?_
  rintro _ H1 ⟨X, rfl, hT, hG⟩
  have hP1 := hP.grow hG
  repeat' (first | refine Wc.seq ?_ | refine Wc.reg ?_ | refine Wc.skip ?_ | refine Fin.seq ?_ | refine Wo.nil ?_ | refine Wc.cond_f rfl ?_ | refine Wo.val rfl (.mv rfl) ?_ | refine Wo.val rfl (.un rfl rfl) ?_ | refine Wo.val rfl (.ext rfl rfl) ?_)
  refine Wo.call rfl rfl (rt62 hP1.1 hP1.SW hw ha) ?_
  rintro _ H2 ⟨rfl, hP2, hn2, hs2⟩
  obtain ⟨hP2, hF2⟩ := hP1.step hP2 hn2 hs2
  repeat' (first | refine Wc.seq ?_ | refine Wc.reg ?_ | refine Wc.ret ?_ | refine Fin.seq ?_ | refine Wo.nil ?_ | refine Wo.val rfl (.mv rfl) ?_)
  exact Fin.kret rfl ⟨X, nv, rfl, hT.fr hP1 hF2, hP2, hG.fr.trans hF2⟩

/-- A variable. -/
theorem rt86v {j : Nat} (ha : all.length ≤ 2000) (hd : d < 9000) (hj : j < d) (hw : all[o]? = some (vn j)) : Pf 86 [.ptr S 0] N S W all (vns d) o 1 (.nd0 2 ((d - 1 - j : Nat) : Int) []) := by
  intro H nv hP
  obtain ⟨cap, fl, ex, hS, _⟩ := hP.1
  have hlen : (vns d).length < 9000 := by rw [vns_len]; exact hd
  have b1 : binV Ck H .eql .str (.str (vn j)) (.str [40]) = some (.bool false) := binV_sF rfl
  have b2 : binV Ck H .eql .str (.str (vn j)) (.str []) = some (.bool false) := binV_sF rfl
  have b3 := sub1 (H := H) hlen
  refine Rt.enter (af := c86) rfl rfl ?_
  repeat' (first | refine Wc.seq ?_ | refine Wc.reg ?_ | refine Fin.seq ?_ | refine Wo.nil ?_ | refine Wo.val rfl (.mv rfl) ?_)
  refine Wo.call rfl rfl (rt61 hP.1 hw) ?_
  rintro _ H1 ⟨rfl, e⟩
  rw [e]
  repeat' (first | refine Wc.seq ?_ | refine Wc.reg ?_ | refine Wc.skip ?_ | refine Fin.seq ?_ | refine Wo.nil ?_ | refine Wc.cond_f rfl ?_ | refine Wo.val rfl (.mv rfl) ?_ | refine Wo.val rfl (.chk rfl rfl) ?_ | refine Wo.val rfl (.ld rfl (AH.rd_at (by assumption) (by exact rfl))) ?_ | refine Wo.val rfl (.bin rfl rfl (by assumption)) ?_ | refine Wo.val rfl (.fad rfl) ?_)
  refine Wo.val rfl (Ao.lenN hP.2.1 rfl) ?_
  repeat' (first | refine Wc.block ?_ | refine Fin.seq ?_ | refine Wo.nil ?_ | refine Wo.val rfl (.mv rfl) ?_ | refine Wo.val rfl (.bin rfl rfl (by assumption)) ?_)
  refine Wc.weak (loop86 (w := vn j) hP hlen (j := j + 1) ?_ (d - (j + 1)) (vns d).length (by rw [vns_len]; omega) (Nat.le_refl _) (fun k h1 h2 e => ?_)) ⟨rfl, rfl, rfl, trivial⟩
  · rw [show (((j + 1 : Nat) : Int) - 1) = (j : Nat) by omega]
    have hP' := hP
    obtain ⟨_, hN, _⟩ := hP'
    rcases hN with ⟨h0, _⟩ | ⟨V, cv, junk, rfl, hgV, hVl, hcv⟩
    · have := congrArg List.length h0
      rw [vns_len] at this
      simp at this; omega
    have hcv' : (vns d).length ≤ cv := by rw [← hcv, List.length_append]; omega
    have b4 : binV Ck H .geq .int (.int .i64 (j : Nat)) (.int .i64 (Int.ofNat 0)) = some (.bool true) := geT (by simp)
    have b5 : binV Ck H .eql .str (.str (vn j)) (.str (vn j)) = some (.bool true) := binV_sT (strEq_refl _)
    refine Wc.loop ?_
    repeat' (first | refine Wc.seq ?_ | refine Wc.block ?_ | refine Wc.reg ?_ | refine Wc.skip ?_ | refine Fin.seq ?_ | refine Wo.nil ?_ | refine Wc.cond_t rfl ?_ | refine Wo.val rfl (.mv rfl) ?_ | refine Wo.val rfl (.chk rfl rfl) ?_ | refine Wo.val rfl (.ld rfl (AH.rd_at (by assumption) (by exact rfl))) ?_ | refine Wo.val rfl (.bin rfl rfl (by assumption)) ?_ | refine Wo.val rfl (.fad rfl) ?_)
    refine Wo.val rfl (.ixs rfl rfl hcv' (by omega) (by rw [vns_len]; omega)) ?_
    refine Wo.val rfl (.ld (v := .str (vn j)) rfl (AH.rd_at hgV ?_)) ?_
    · have := vns_at hj
      simp only [strs, List.map_append, Nat.zero_add, Nat.mul_one, Int.toNat_natCast]
      rw [List.getElem?_append_left (by simp [vns_len]; exact hj), List.getElem?_map, this]
      rfl
    repeat' (first | refine Wo.val rfl (.mv rfl) ?_ | refine Wo.val rfl (.bin rfl rfl (by assumption)) ?_)
    refine Wo.call rfl rfl (rt85 (vn j) (vn_bound j) H) ?_
    rintro _ H2 ⟨rfl, hE2⟩
    have hP2 := hP.grow (Ext.grow hE2)
    repeat' (first | refine Wc.seq ?_ | refine Wc.reg ?_ | refine Fin.seq ?_ | refine Wo.nil ?_ | refine Wc.cond_t rfl ?_ | refine Wo.val rfl (.mv rfl) ?_ | refine Wo.val rfl (.pick_t rfl rfl) ?_)
    refine Wo.call rfl rfl (rt62 hP2.1 hP2.SW hw ha) ?_
    rintro _ H3 ⟨rfl, hP3, hn3, hs3⟩
    obtain ⟨hP3, hF3⟩ := hP2.step hP3 hn3 hs3
    obtain ⟨cap3, fl3, ex3, hS3, _⟩ := hP3.1
    have b6 : binV Ck H3 .sub .int (.int .i64 ((vns d).length : Nat)) (.int .i64 (Int.ofNat 1)) = some (.int .i64 (d - 1 : Nat)) := by
      rw [sub1 hlen, vns_len, show ((d : Int) - 1) = ((d - 1 : Nat) : Int) by omega]
    have b7 : binV Ck H3 .sub .int (.int .i64 (d - 1 : Nat)) (.int .i64 (j : Nat)) = some (.int .i64 (d - 1 - j : Nat)) := sub_n (by omega) (by omega)
    repeat' (first | refine Wc.seq ?_ | refine Wc.reg ?_ | refine Fin.seq ?_ | refine Wo.nil ?_ | refine Wo.val rfl (.mv rfl) ?_ | refine Wo.val rfl (.chk rfl rfl) ?_ | refine Wo.val rfl (.ld rfl (AH.rd_at (by assumption) (by exact rfl))) ?_ | refine Wo.val rfl (.bin rfl rfl (by assumption)) ?_ | refine Wo.val rfl (.fad rfl) ?_ | refine Wo.val rfl (.len rfl) ?_ | refine Wo.val rfl (.build rfl rfl) ?_)
    refine Wo.boxn (c := [.int .i64 2, .int .i64 (d - 1 - j : Nat), .str [], .nilp, .nilp, .nilp]) rfl rfl rfl (fun H4 hn4 hX4 hs4 => ?_)
    have hG4 : Grow H3 H4 := ⟨by omega, fun Y hY => hs4 Y (by omega)⟩
    repeat' (first | refine Wc.ret ?_ | refine Fin.seq ?_ | refine Fin.seq_ret ?_ | refine Fin.block_ret ?_ | refine Wo.nil ?_ | refine Wo.val rfl (.mv rfl) ?_)
    have := hE2.lo
    have := hF3.next
    exact Fin.kret rfl ⟨H3.next, _, rfl, ⟨by omega, by omega, hX4⟩, hP3.grow hG4, (Ext.grow hE2).fr.trans (hF3.trans hG4.fr)⟩
  · rw [vns_len] at h2
    rw [vns_at (by omega)] at e
    injection e with e
    have := vn_inj (by omega) (by omega) e
    omega
end
end Go.Vd.L
