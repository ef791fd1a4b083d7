/- The program's names: suffixes, Split at points. -/
import Derived.Test.YtabgoidablkmjaaGreatDoorYdB8
set_option linter.unusedVariables false
set_option linter.unusedSimpArgs false
namespace Go.Vd.L
open Go.Vd

def hasSuf (s p : List UInt8) : Bool := Nat.ble p.length s.length && strEq (s.drop (s.length - p.length)) p

theorem rt104 (s p : List UInt8) (hs : s.length ≤ 1000) (H : AH) : Rt Ck 104 [.str s, .str p] H fun v H' => v = .bool (hasSuf s p) ∧ H' = H := by
  refine Rt.enter (af := c104) rfl rfl ?_
  repeat' (first | refine Wc.seq ?_ | refine Wc.reg ?_ | refine Fin.seq ?_ | refine Wo.nil ?_ | refine Wo.val rfl (.mv rfl) ?_ | refine Wo.val rfl (.bin rfl rfl rfl) ?_ | refine Wo.val rfl (.tlen rfl) ?_)
  refine Wo.branch rfl (fun h1 => ?_) (fun h1 => ?_)
  · have hle : p.length ≤ s.length := by simpa using h1
    have hw : IntKind.i64.wrap ((s.length : Int) - (p.length : Int)) = ((s.length - p.length : Nat) : Int) := by
      rw [wrap_i64 (by omega) (by omega)]; omega
    repeat' (first | refine Wo.val rfl (.mv rfl) ?_ | refine Wo.val rfl (.bin rfl rfl rfl) ?_ | refine Wo.val rfl (.tlen rfl) ?_)
    rw [hw]
    refine Wo.val rfl (.sls rfl rfl rfl (bnds_lo (by omega))) ?_
    rw [show List.take (s.length - (s.length - p.length)) (List.drop (s.length - p.length) s) = List.drop (s.length - p.length) s from List.take_of_length_le (by simp)]
    repeat' (first | refine Wc.ret ?_ | refine Fin.seq ?_ | refine Wo.nil ?_ | refine Wo.val rfl (.mv rfl) ?_ | refine Wo.val rfl (.pick_t rfl rfl) ?_ | refine Wo.val rfl (.bin rfl rfl rfl) ?_)
    refine Fin.kret rfl ⟨?_, rfl⟩
    simp [oneR, hasSuf, Nat.ble_eq_true_of_le hle]
  · have hle : ¬ p.length ≤ s.length := by simpa using h1
    repeat' (first | refine Wc.ret ?_ | refine Fin.seq ?_ | refine Wo.nil ?_ | refine Wo.skip rfl ?_ | refine Wo.val rfl (.mv rfl) ?_ | refine Wo.val rfl (.pick_f rfl rfl) ?_)
    refine Fin.kret rfl ⟨?_, rfl⟩
    have : Nat.ble p.length s.length = false := by rw [blt_dec]; exact decide_eq_false hle
    simp [oneR, hasSuf, this]

def cutSuf (s p : List UInt8) : List UInt8 := if hasSuf s p then s.take (s.length - p.length) else s

theorem rt89 (s p : List UInt8) (hs : s.length ≤ 1000) (H : AH) : Rt Ck 89 [.str s, .str p] H fun v H' => v = .tup [.str (cutSuf s p), .bool (hasSuf s p)] ∧ H' = H := by
  refine Rt.enter (af := c89) rfl rfl ?_
  repeat' (first | refine Wc.seq ?_ | refine Wc.reg ?_ | refine Fin.seq ?_ | refine Wo.nil ?_ | refine Wo.val rfl (.mv rfl) ?_)
  refine Wo.call rfl rfl (rt104 s p hs H) ?_
  rintro _ _ ⟨rfl, rfl⟩
  repeat' (first | refine Fin.seq ?_ | refine Wo.nil ?_ | refine Wo.val rfl (.un rfl rfl) ?_)
  refine Wc.ifs rfl (fun h1 => ?_) (fun h1 => ?_)
  · repeat' (first | refine Wc.seq ?_ | refine Wc.reg ?_ | refine Wc.ret ?_ | refine Fin.seq ?_ | refine Fin.seq_ret ?_ | refine Wo.nil ?_ | refine Wo.val rfl (.mv rfl) ?_)
    refine Fin.kret rfl ⟨?_, rfl⟩
    have h1 : hasSuf s p = false := by simpa using h1
    simp [oneR, cutSuf, h1]
  · have h1 : hasSuf s p = true := by simpa using h1
    have hle : p.length ≤ s.length := by
      unfold hasSuf at h1
      simp only [Bool.and_eq_true] at h1
      exact Nat.le_of_ble_eq_true h1.1
    have hw : IntKind.i64.wrap ((s.length : Int) - (p.length : Int)) = ((s.length - p.length : Nat) : Int) := by
      rw [wrap_i64 (by omega) (by omega)]; omega
    repeat' (first | refine Wc.seq ?_ | refine Wc.reg ?_ | refine Wc.skip ?_ | refine Fin.seq ?_ | refine Wo.val rfl (.mv rfl) ?_ | refine Wo.val rfl (.bin rfl rfl rfl) ?_ | refine Wo.val rfl (.tlen rfl) ?_)
    rw [hw]
    refine Wo.val rfl (.sls rfl rfl rfl (bnds_hi (by omega))) ?_
    repeat' (first | refine Wc.ret ?_ | refine Fin.seq ?_ | refine Wo.nil ?_ | refine Wo.val rfl (.mv rfl) ?_)
    refine Fin.kret rfl ⟨?_, rfl⟩
    simp [oneR, cutSuf, h1]

theorem rt71 (s p : List UInt8) (hs : s.length ≤ 1000) (H : AH) : Rt Ck 71 [.str s, .str p] H fun v H' => v = .tup [.str (cutSuf s p), .bool (hasSuf s p)] ∧ H' = H := by
  refine Rt.enter (af := c71) rfl rfl ?_
  repeat' (first | refine Wc.seq ?_ | refine Wc.reg ?_ | refine Fin.seq ?_ | refine Wo.nil ?_ | refine Wo.val rfl (.mv rfl) ?_)
  refine Wo.call rfl rfl (rt89 s p hs H) ?_
  rintro _ _ ⟨rfl, rfl⟩
  repeat' (first | refine Wc.ret ?_ | refine Fin.seq ?_ | refine Wo.nil ?_ | refine Wo.val rfl (.mv rfl) ?_ | refine Wo.val rfl (.ext rfl rfl) ?_)
  exact Fin.kret rfl ⟨rfl, rfl⟩

/-! ### Split -/
theorem rt88 (s : List UInt8) (H : AH) : Rt Ck 88 [.str s, .str [46]] H fun v H' => v = .int .i64 (idxB 46 s 0) ∧ H' = H := by
  refine Rt.enter (af := c88) rfl rfl ?_
  repeat' (first | refine Wc.seq ?_ | refine Wc.block ?_ | refine Wc.reg ?_ | refine Fin.seq ?_ | refine Wo.nil ?_ | refine Wo.val rfl (.mv rfl) ?_ | refine Wo.val rfl (.pick_f rfl rfl) ?_ | refine Wo.val rfl (.bin rfl rfl rfl) ?_ | refine Wo.val rfl (.tlen rfl) ?_)
  refine Wc.ifs rfl (fun h1 => ?_) (fun h1 => ?_)
  · have : s = [46] := (strEq_iff h1).symm
    subst this
    repeat' (first | refine Wc.seq ?_ | refine Wc.reg ?_ | refine Wc.ret ?_ | refine Fin.seq ?_ | refine Fin.seq_ret ?_ | refine Fin.block_ret ?_ | refine Wo.nil ?_ | refine Wo.val rfl (.mv rfl) ?_)
    exact Fin.kret rfl ⟨rfl, rfl⟩
  · repeat' (first | refine Wc.seq ?_ | refine Wc.reg ?_ | refine Fin.seq ?_ | refine Wo.nil ?_ | refine Wc.cond_t rfl ?_ | refine Wo.val rfl (.mv rfl) ?_ | refine Wo.val rfl (.bin rfl rfl rfl) ?_ | refine Wo.val rfl (.ixt rfl rfl (by decide) rfl) ?_)
    refine Wo.call rfl rfl (rt100 s 46 H) ?_
    rintro _ _ ⟨rfl, rfl⟩
    repeat' (first | refine Wc.ret ?_ | refine Fin.seq ?_ | refine Fin.seq_ret ?_ | refine Fin.block_ret ?_ | refine Wo.nil ?_ | refine Wo.val rfl (.mv rfl) ?_)
    exact Fin.kret rfl ⟨rfl, rfl⟩

theorem rt107 (s : List UInt8) (H : AH) : Rt Ck 107 [.str s, .str [46]] H fun v H' => v = .int .i64 (idxB 46 s 0) ∧ H' = H := by
  refine Rt.enter (af := c107) rfl rfl ?_
  repeat' (first | refine Wc.seq ?_ | refine Wc.reg ?_ | refine Fin.seq ?_ | refine Wo.nil ?_ | refine Wo.val rfl (.mv rfl) ?_)
  refine Wo.call rfl rfl (rt88 s H) ?_
  rintro _ _ ⟨rfl, rfl⟩
  repeat' (first | refine Wc.ret ?_ | refine Fin.seq ?_ | refine Wo.nil ?_ | refine Wo.val rfl (.mv rfl) ?_)
  exact Fin.kret rfl ⟨rfl, rfl⟩

def splitD : List UInt8 → List (List UInt8)
  | [] => [[]]
  | c :: r => if dotU c then [] :: splitD r else match splitD r with
    | h :: t => (c :: h) :: t
    | [] => [[c]]

theorem dot_beq (c : UInt8) : dotU c = Nat.beq c.toNat 46 := eq_dec 46 c.toNat

theorem cntB_shift (b : Nat) : ∀ (s : List UInt8) (n : Nat), cntB b s n = n + cntB b s 0
  | [], n => rfl
  | c :: s, n => by
    simp only [cntB]
    cases Nat.beq c.toNat b with
    | true => simp only [if_true]; rw [cntB_shift b s (n + 1), cntB_shift b s (0 + 1)]; omega
    | false => simp only [Bool.false_eq_true, if_false]; exact cntB_shift b s n

theorem split_idx : ∀ (s : List UInt8) (k : Nat), (idxB 46 s k = -1 ∧ splitD s = [s] ∧ cntB 46 s 0 = 0) ∨
    ∃ m, idxB 46 s k = ((k + m : Nat) : Int) ∧ m < s.length ∧ splitD s = s.take m :: splitD (s.drop (m + 1)) ∧ cntB 46 s 0 = cntB 46 (s.drop (m + 1)) 0 + 1
  | [], k => .inl ⟨rfl, rfl, rfl⟩
  | c :: s, k => by
    simp only [idxB, splitD, dot_beq, cntB]
    cases hb : Nat.beq c.toNat 46 with
    | true =>
      refine .inr ⟨0, by simp, by simp, by simp, ?_⟩
      simp only [if_true, List.drop_succ_cons, List.drop_zero]
      rw [cntB_shift]
      omega
    | false =>
      simp only [Bool.false_eq_true, if_false]
      rcases split_idx s (k + 1) with ⟨h1, h2, h3⟩ | ⟨m, h1, h2, h3, h4⟩
      · exact .inl ⟨h1, by rw [h2], h3⟩
      · refine .inr ⟨m + 1, by rw [h1]; congr 1; omega, by simp; omega, by rw [h3]; simp, by rw [h4]; simp⟩

theorem split_len (s : List UInt8) : (splitD s).length = cntB 46 s 0 + 1 := by
  induction h : s.length using Nat.strongRecOn generalizing s with
  | _ n ih =>
    rcases split_idx s 0 with ⟨_, h2, h3⟩ | ⟨m, _, h2, h3, h4⟩
    · rw [h2, h3]; rfl
    · rw [h3, h4]
      simp only [List.length_cons]
      rw [ih _ (by rw [List.length_drop]; omega) (s.drop (m + 1)) rfl]

theorem cnt_le : ∀ s : List UInt8, cntB 46 s 0 ≤ s.length
  | [] => Nat.le_refl _
  | c :: s => by
    have := cnt_le s
    simp only [cntB, List.length_cons]
    cases Nat.beq c.toNat 46 with
    | true => simp only [if_true]; rw [cntB_shift]; omega
    | false => simp only [Bool.false_eq_true, if_false]; omega

theorem repl_len (v : AV) : ∀ n, (repl [v] n).length = n
  | 0 => rfl
  | n + 1 => by simp [repl, repl_len v n]
end Go.Vd.L
namespace Go.Vd.L
open Go.Vd

def strs (l : List (List UInt8)) : List AV := l.map AV.str

/-- Split's loop: what is done, what is left. -/
theorem loop90 {A N : Nat} {Q : AEx → ASt → Prop} {s : List UInt8} (hN : N ≤ 1001) {H : AH}
    (hE : ∀ (cur : List UInt8) (H' : AH) (done : List (List UInt8)) (rest : List AV), splitD s = done ++ [cur] → H'.next = H.next → (∀ Y, Y ≠ A → H'.get Y = H.get Y) → H'.get A = some (.cells (strs done ++ rest) 9 0) → (strs done ++ rest).length = N →
      done.length + 1 = N → Fin Q (.exit 0) [(0, .str cur), (9, .slc A 0 N N 1 true), (10, .int .i64 (done.length : Nat))] [] H') :
    ∀ d (done : List (List UInt8)) (cur : List UInt8) (rest : List AV) (H' : AH), cur.length = d → splitD s = done ++ splitD cur → H'.next = H.next → (∀ Y, Y ≠ A → H'.get Y = H.get Y) → H'.get A = some (.cells (strs done ++ rest) 9 0) → (strs done ++ rest).length = N →
      (splitD s).length = N → cur.length ≤ 1000 →
      Wc Ck (.loop (bodyN c90 0)) [(0, .str cur), (1, .str [46]), (2, .int .i64 (.ofNat 0)), (3, .int .i64 ((N - 1 : Nat) : Int)), (9, .slc A 0 N N 1 true), (10, .int .i64 (done.length : Nat))] [] H' Q := by
  intro d
  induction d using Nat.strongRecOn with
  | _ d ih =>
    intro done cur rest H' hd hsp hnx hsame hA hlen hNs hc
    have hl := congrArg List.length hsp
    rw [hNs, List.length_append] at hl
    rcases split_idx cur 0 with ⟨i1, i2, _⟩ | ⟨m, i1, i2, i3, _⟩
    · -- the last part
      have hdl : done.length + 1 = N := by rw [i2] at hl; simp at hl; omega
      refine Wc.loop ?_
      repeat' (first | refine Wc.seq ?_ | refine Wc.reg ?_ | refine Fin.seq ?_ | refine Wo.nil ?_ | refine Wo.val rfl (.mv rfl) ?_ | refine Wo.val rfl (.bin rfl rfl rfl) ?_)
      refine Wc.ifs rfl (fun hb => ?_) (fun hb => ?_)
      · exfalso
        rw [lt_cast] at hb
        simp at hb
        omega
      · repeat' (first | refine Wc.exit ?_ | refine Fin.seq_exit ?_)
        exact (hE cur H' done rest (by rw [hsp, i2]) hnx hsame hA hlen hdl).weak ⟨rfl, rfl, rfl, trivial⟩
    · have hpos : 1 ≤ (splitD (cur.drop (m + 1))).length := by rw [split_len]; omega
      have hdl : done.length < N - 1 := by rw [i3] at hl; simp only [List.length_cons] at hl; omega
      have hdl2 : done.length < (strs done ++ rest).length := by omega
      refine Wc.loop ?_
      repeat' (first | refine Wc.seq ?_ | refine Wc.reg ?_ | refine Fin.seq ?_ | refine Wo.nil ?_ | refine Wo.val rfl (.mv rfl) ?_ | refine Wo.val rfl (.bin rfl rfl rfl) ?_)
      refine Wc.ifs rfl (fun hb => ?_) (fun hb => ?_)
      · repeat' (first | refine Wc.seq ?_ | refine Wc.block ?_ | refine Wc.reg ?_ | refine Wc.skip ?_ | refine Fin.seq ?_ | refine Wo.val rfl (.mv rfl) ?_)
        refine Wo.call rfl rfl (rt107 cur H') ?_
        rintro _ H1 ⟨rfl, e1⟩
        subst e1
        rw [i1, show ((0 + m : Nat) : Int) = (m : Int) by simp]
        have w1 : IntKind.i64.wrap ((m : Int) + Int.ofNat 0) = (m : Int) := by rw [wrap_i64 (by simp <;> omega) (by simp <;> omega)]; simp
        have w2 : IntKind.i64.wrap ((m : Int) + (([46] : List UInt8).length : Int)) = ((m + 1 : Nat) : Int) := by rw [wrap_i64 (by simp <;> omega) (by simp <;> omega)]; simp
        repeat' (first | refine Wc.seq ?_ | refine Wc.reg ?_ | refine Wc.skip ?_ | refine Fin.seq ?_ | refine Wo.nil ?_ | refine Wc.cond_f rfl ?_ | refine Wo.val rfl (.mv rfl) ?_ | refine Wo.val rfl (.bin rfl rfl rfl) ?_)
        rw [w1]
        refine Wo.val rfl (.sls rfl rfl rfl (bnds_hi (by omega))) ?_
        rw [show List.take (m - 0) (List.drop 0 cur) = cur.take m by simp]
        refine Wo.val rfl (.ixs rfl rfl (by omega) (by omega) (by omega)) ?_
        have hset : (strs done ++ rest).set (0 + ((done.length : Nat) : Int).toNat * 1) (.str (cur.take m)) = strs (done ++ [cur.take m]) ++ rest.drop 1 := by
          have e0 : 0 + ((done.length : Nat) : Int).toNat * 1 = (strs done).length := by simp [strs]
          rw [e0]
          cases rest with
          | nil => simp [strs] at hdl2
          | cons r rs => simp [strs]
        refine Wo.st1 (c' := strs (done ++ [cur.take m]) ++ rest.drop 1) rfl rfl hA rfl (Nat.ble_eq_true_of_le (by simp only [Int.toNat_natCast]; omega)) rfl rfl hset (fun H2 hn2 hX2 hs2 => ?_)
        repeat' (first | refine Wc.seq ?_ | refine Wc.reg ?_ | refine Fin.seq ?_ | refine Wo.nil ?_ | refine Wo.val rfl (.mv rfl) ?_ | refine Wo.val rfl (.bin rfl rfl rfl) ?_ | refine Wo.val rfl (.tlen rfl) ?_)
        rw [w2]
        refine Wo.val rfl (.sls rfl rfl rfl (bnds_lo (by omega))) ?_
        rw [show List.take (cur.length - (m + 1)) (List.drop (m + 1) cur) = cur.drop (m + 1) from List.take_of_length_le (by simp)]
        repeat' (first | refine Wc.reg ?_ | refine Fin.seq ?_ | refine Fin.block ?_ | refine Wo.nil ?_ | refine Wo.val rfl (.mv rfl) ?_ | refine Wo.val rfl (.bin rfl rfl rfl) ?_)
        have hlen2 : (strs (done ++ [cur.take m]) ++ rest.drop 1).length = N := by rw [← hset, List.length_set]; exact hlen
        refine (ih _ (by rw [← hd, List.length_drop]; omega) (done ++ [cur.take m]) (cur.drop (m + 1)) (rest.drop 1) H2 rfl (by rw [hsp, i3]; simp) (hn2.trans hnx) (fun Y hY => (hs2 Y hY).trans (hsame Y hY)) hX2 hlen2 hNs (by rw [List.length_drop]; omega)).weak ⟨rfl, rfl, rfl, rfl, rfl, ?_, trivial⟩
        show some (AV.int .i64 _) = _
        rw [wrap_succ (by omega)]
        simp
      · exfalso
        rw [lt_cast] at hb
        simp at hb
        omega

theorem rt90g (s : List UInt8) (hs : s.length ≤ 1000) (H : AH) : Rt Ck 90 [.str s, .str [46], .int .i64 (.ofNat 0), .int .i64 (.negSucc 0)] H
    fun v H' => v = .slc H.next 0 (splitD s).length (splitD s).length 1 true ∧ H'.get H.next = some (.cells (strs (splitD s)) 9 0) ∧ Ext 1 H H' := by
  have hc := cnt_le s
  have hN := split_len s
  generalize hNN : (splitD s).length = N at hN
  refine Rt.enter (af := c90) rfl rfl ?_
  repeat' (first | refine Wc.seq ?_ | refine Wc.reg ?_ | refine Wc.skip ?_ | refine Fin.seq ?_ | refine Wo.nil ?_ | refine Wc.cond_t rfl ?_ | refine Wc.cond_f rfl ?_ | refine Wo.val rfl (.mv rfl) ?_ | refine Wo.val rfl (.bin rfl rfl rfl) ?_)
  refine Wo.call rfl rfl (rt106 s H) ?_
  rintro _ H0 ⟨rfl, e0⟩
  subst e0
  have w1 : IntKind.i64.wrap ((cntB 46 s 0 : Nat) + Int.ofNat 1) = (N : Int) := by rw [wrap_succ (by omega), hN]
  repeat' (first | refine Wc.seq ?_ | refine Wc.reg ?_ | refine Fin.seq ?_ | refine Wo.nil ?_ | refine Wo.val rfl (.mv rfl) ?_ | refine Wo.val rfl (.bin rfl rfl rfl) ?_ | refine Wo.val rfl (.tlen rfl) ?_)
  rw [w1]
  have hm : mmA false .i64 (N : Int) [.int .i64 (IntKind.i64.wrap ((s.length : Int) + Int.ofNat 1))] = some (.int .i64 (N : Int)) := by
    rw [wrap_succ (i := s.length) (by omega)]
    simp only [mmA, if_true, Bool.false_eq_true, if_false]
    rw [if_neg (by omega)]
  refine Wo.val rfl (.mm rfl rfl hm) ?_
  repeat' (first | refine Wc.seq ?_ | refine Wc.reg ?_ | refine Fin.seq ?_ | refine Wo.nil ?_ | refine Wo.val rfl (.mv rfl) ?_)
  refine Wo.val rfl (.mks rfl rfl (by
    have h1 : decide ((0 : Int) ≤ (N : Int)) = true := decide_eq_true (by omega)
    have h2 : decide ((N : Int) ≤ (N : Int)) = true := decide_eq_true (by omega)
    have h3 : decide ((N : Int) * (16 : Nat) ≤ 281474976710656) = true := decide_eq_true (by omega)
    have h4 : decide ((N : Int) < 9223372036854775808) = true := decide_eq_true (by omega)
    rw [h1, h2, h3, h4]
    rfl)) ?_
  rw [Int.toNat_natCast]
  have w2 : IntKind.i64.wrap ((N : Int) - Int.ofNat 1) = ((N - 1 : Nat) : Int) := wrap_pred (by omega) (by omega)
  repeat' (first | refine Wc.seq ?_ | refine Wc.block ?_ | refine Wc.reg ?_ | refine Fin.seq ?_ | refine Wo.nil ?_ | refine Wo.val rfl (.mv rfl) ?_ | refine Wo.val rfl (.bin rfl rfl rfl) ?_)
  rw [w2]
  refine Wc.weak (loop90 (s := s) (N := N) (A := H0.next) (H := H0.push (.cells (repl [.str []] N) 9 0)) (by omega) (fun cur H' done rest h1 h2 h3 h4 h5 h6 => ?_) s.length [] s (repl [.str []] N) _ rfl rfl rfl (fun _ _ => rfl) (AH.get_push_self _ _) (repl_len _ _) hNN hs) ⟨rfl, rfl, rfl, rfl, rfl, rfl, trivial⟩
  repeat' (first | refine Wc.seq ?_ | refine Wc.reg ?_ | refine Fin.seq ?_ | refine Fin.block_here ?_ | refine Wo.val rfl (.mv rfl) ?_)
  refine Wo.val rfl (.ixs rfl rfl (by omega) (by omega) (by omega)) ?_
  have hset : (strs done ++ rest).set (0 + ((done.length : Nat) : Int).toNat * 1) (.str cur) = strs (done ++ [cur]) := by
    have e0 : 0 + ((done.length : Nat) : Int).toNat * 1 = (strs done).length := by simp [strs]
    rw [e0]
    match rest, h5 with
    | [], h5 => simp [strs] at h5; omega
    | [r], _ => simp [strs]
    | r :: r2 :: rs, h5 => simp [strs] at h5; omega
  refine Wo.st1 (c' := strs (done ++ [cur])) rfl rfl h4 rfl (Nat.ble_eq_true_of_le (by simp only [Int.toNat_natCast]; omega)) rfl rfl hset (fun H2 hn2 hX2 hs2 => ?_)
  repeat' (first | refine Wc.seq ?_ | refine Wc.reg ?_ | refine Fin.seq ?_ | refine Wo.nil ?_ | refine Wo.val rfl (.mv rfl) ?_ | refine Wo.val rfl (.bin rfl rfl rfl) ?_)
  have w3 : IntKind.i64.wrap ((done.length : Int) + Int.ofNat 1) = (N : Int) := by rw [wrap_succ (by omega), h6]
  rw [w3]
  refine Wo.val rfl (.slv rfl (Nat.le_refl _) rfl rfl rfl (bnds_hi (Nat.le_refl _))) ?_
  repeat' (first | refine Wc.ret ?_ | refine Fin.seq ?_ | refine Wo.nil ?_ | refine Wo.val rfl (.mv rfl) ?_)
  refine Fin.kret rfl ⟨?_, ?_, ?_⟩
  · simp [oneR]
  · rw [hX2, ← h1]
  · refine ⟨by rw [hn2, h2, AH.next_push]; omega, by rw [hn2, h2, AH.next_push]; omega, fun Y hY => ?_⟩
    rw [hs2 Y (by omega), h3 Y (by omega), AH.get_push_ne _ _ (by omega)]
end Go.Vd.L
namespace Go.Vd.L
open Go.Vd

theorem rt72g (s : List UInt8) (hs : s.length ≤ 1000) (H : AH) : Rt Ck 72 [.str s, .str [46]] H
    fun v H' => v = .slc H.next 0 (splitD s).length (splitD s).length 1 true ∧ H'.get H.next = some (.cells (strs (splitD s)) 9 0) ∧ Ext 1 H H' := by
  refine Rt.enter (af := c72) rfl rfl ?_
  repeat' (first | refine Wc.seq ?_ | refine Wc.reg ?_ | refine Fin.seq ?_ | refine Wo.nil ?_ | refine Wo.val rfl (.mv rfl) ?_)
  refine Wo.call rfl rfl (rt90g s hs H) ?_
  rintro _ H1 ⟨rfl, hg, hE⟩
  repeat' (first | refine Wc.ret ?_ | refine Fin.seq ?_ | refine Wo.nil ?_ | refine Wo.val rfl (.mv rfl) ?_)
  exact Fin.kret rfl ⟨rfl, hg, hE⟩

theorem lastDot_cons {c d : UInt8} {r : List UInt8} : lastDot (c :: d :: r) = lastDot (d :: r) := by
  simp [lastDot]

theorem parts_ok : ∀ s : List UInt8, (nameF false s = true → (s = [] ∨ lastDot s = false) → ∃ h t, splitD s = h :: t ∧ h.all (fun b => plainN b.toNat) = true ∧ ∀ p ∈ t, partB p = true) ∧
    (nameF true s = true → s ≠ [] → lastDot s = false → ∃ h t, splitD s = h :: t ∧ partB h = true ∧ ∀ p ∈ t, partB p = true)
  | [] => ⟨fun _ _ => ⟨[], [], rfl, rfl, fun p hp => by cases hp⟩, fun _ h => absurd rfl h⟩
  | c :: r => by
    obtain ⟨i1, i2⟩ := parts_ok r
    have hr : lastDot (c :: r) = false → r = [] ∨ lastDot r = false := fun h => by
      match r, h with
      | [], _ => exact .inl rfl
      | d :: r, h => rw [lastDot_cons] at h; exact .inr h
    refine ⟨fun h1 h2 => ?_, fun h1 _ h2 => ?_⟩
    · have h2 : lastDot (c :: r) = false := by
        rcases h2 with h | h
        · cases h
        · exact h
      simp only [nameF] at h1
      cases hd : dotU c with
      | true =>
        rw [hd, if_pos rfl] at h1
        have hne : r ≠ [] := fun e => by subst e; simp [lastDot, hd] at h2
        obtain ⟨h, t, e1, e2, e3⟩ := i2 h1 hne ((hr h2).resolve_left hne)
        refine ⟨[], splitD r, by simp [splitD, hd], rfl, fun p hp => ?_⟩
        rw [e1] at hp
        rcases List.mem_cons.1 hp with rfl | hp
        · exact e2
        · exact e3 p hp
      | false =>
        rw [hd] at h1
        simp only [Bool.false_eq_true, if_false, Bool.and_eq_true] at h1
        obtain ⟨h, t, e1, e2, e3⟩ := i1 h1.2 (hr h2)
        exact ⟨c :: h, t, by simp [splitD, hd, e1], by simp [h1.1]; simpa using e2, e3⟩
    · simp only [nameF, Bool.and_eq_true] at h1
      have hd := let_dot h1.1
      obtain ⟨h, t, e1, e2, e3⟩ := i1 h1.2 (hr h2)
      refine ⟨c :: h, t, by simp [splitD, hd, e1], ?_, e3⟩
      simp only [partB, e2, Bool.and_true]
      exact h1.1

theorem nameB_parts {s : List UInt8} (h : nameB s = true) : s.length ≤ 24 ∧ ∀ p ∈ splitD s, partB p = true := by
  simp only [nameB, Bool.and_eq_true, Bool.not_eq_true'] at h
  obtain ⟨⟨⟨h1, h2⟩, h3⟩, h4⟩ := h
  have h1 : 1 ≤ s.length := Nat.le_of_ble_eq_true h1
  have hne : s ≠ [] := fun e => by subst e; simp at h1
  obtain ⟨a, t, e1, e2, e3⟩ := (parts_ok s).2 h4 hne h3
  refine ⟨Nat.le_of_ble_eq_true h2, fun p hp => ?_⟩
  rw [e1] at hp
  rcases List.mem_cons.1 hp with rfl | hp
  · exact e2
  · exact e3 p hp

theorem split_mem_len : ∀ (s : List UInt8) (p : List UInt8), p ∈ splitD s → p.length ≤ s.length
  | [], p, h => by simp [splitD] at h; subst h; exact Nat.le_refl _
  | c :: r, p, h => by
    have ih := split_mem_len r
    simp only [splitD] at h
    split at h
    · rcases List.mem_cons.1 h with rfl | h
      · simp
      · have := ih p h; simp; omega
    · split at h
      · rename_i a t e
        rcases List.mem_cons.1 h with rfl | h
        · have := ih a (by rw [e]; simp); simp; omega
        · have := ih p (by rw [e]; simp [h]); simp; omega
      · simp at h; subst h; simp

theorem loop45 {A N : Nat} {H : AH} {ps : List (List UInt8)} (hN : ps.length = N) (hN2 : N ≤ 1001) (hp : ∀ p ∈ ps, partB p = true ∧ p.length < 1000) (hA : H.get A = some (.cells (strs ps) 9 0)) {s : List UInt8} {Q : AEx → ASt → Prop}
    (hE : Fin Q (.exit 0) [(0, .str s)] [] H) : ∀ d i, N - i = d → i ≤ N → Wc Ck (.loop (bodyN c45 0)) [(0, .str s), (6, .slc A 0 N N 1 true), (7, .int .i64 (N : Nat)), (8, .int .i64 (i : Nat))] [] H Q := by
  intro d
  induction d with
  | zero =>
    intro i hd hi
    refine Wc.loop ?_
    repeat' (first | refine Wc.seq ?_ | refine Wc.reg ?_ | refine Fin.seq ?_ | refine Wo.nil ?_ | refine Wo.val rfl (.bin rfl rfl rfl) ?_)
    refine Wc.ifs rfl (fun hb => ?_) (fun hb => ?_)
    · exfalso; rw [lt_cast] at hb; simp at hb; omega
    · repeat' (first | refine Wc.exit ?_ | refine Fin.seq_exit ?_)
      exact hE.weak ⟨rfl, trivial⟩
  | succ d ih =>
    intro i hd hi
    have hlt : i < ps.length := by omega
    obtain ⟨hpb, hpl⟩ := hp ps[i] (List.getElem_mem hlt)
    refine Wc.loop ?_
    repeat' (first | refine Wc.seq ?_ | refine Wc.reg ?_ | refine Fin.seq ?_ | refine Wo.nil ?_ | refine Wo.val rfl (.bin rfl rfl rfl) ?_)
    refine Wc.ifs rfl (fun hb => ?_) (fun hb => ?_)
    · repeat' (first | refine Wc.seq ?_ | refine Wc.block ?_ | refine Wc.reg ?_ | refine Wc.skip ?_ | refine Fin.seq ?_)
      refine Wo.val rfl (.ixs rfl rfl (by omega) (by omega) (by omega)) ?_
      refine Wo.val rfl (.ld (v := .str ps[i]) rfl (AH.rd_at hA (by simp [strs, hlt]))) ?_
      repeat' (first | refine Wc.seq ?_ | refine Wc.reg ?_ | refine Fin.seq ?_ | refine Wo.nil ?_ | refine Wo.val rfl (.mv rfl) ?_)
      refine Wo.call rfl rfl (rt73 ps[i] hpl hpb H) ?_
      rintro _ H1 ⟨rfl, e1⟩
      subst e1
      repeat' (first | refine Wc.reg ?_ | refine Wc.skip ?_ | refine Fin.seq ?_ | refine Fin.block ?_ | refine Wo.nil ?_ | refine Wc.cond_f rfl ?_ | refine Wo.val rfl (.mv rfl) ?_ | refine Wo.val rfl (.bin rfl rfl rfl) ?_ | refine Wo.val rfl (.un rfl rfl) ?_)
      refine (ih (i + 1) (by omega) (by omega)).weak ⟨rfl, rfl, rfl, ?_, trivial⟩
      show some (AV.int .i64 _) = _
      rw [wrap_succ (by omega)]
    · exfalso; rw [lt_cast] at hb; simp at hb; omega

/-- IsName of a name. -/
theorem rt45g (s : List UInt8) (hb : nameB s = true) (H : AH) : Rt Ck 45 [.str s] H fun v H' => v = .bool true ∧ Ext 1 H H' := by
  obtain ⟨hs, hp⟩ := nameB_parts hb
  refine Rt.enter (af := c45) rfl rfl ?_
  repeat' (first | refine Wc.seq ?_ | refine Wc.reg ?_ | refine Fin.seq ?_ | refine Wo.nil ?_ | refine Wo.val rfl (.mv rfl) ?_)
  refine Wo.call rfl rfl (rt72g s (by omega) H) ?_
  rintro _ H1 ⟨rfl, hg, hE⟩
  have hl := split_len s
  have hc := cnt_le s
  repeat' (first | refine Wc.block ?_ | refine Fin.seq ?_ | refine Wo.nil ?_ | refine Wo.val rfl (.mv rfl) ?_ | refine Wo.val rfl (.len rfl) ?_)
  refine Wc.weak (loop45 (s := s) rfl (by omega) (fun p h => ⟨hp p h, by have := split_mem_len s p h; omega⟩) hg ?_ _ 0 rfl (Nat.zero_le _)) ⟨rfl, rfl, rfl, rfl, trivial⟩
  repeat' (first | refine Wc.seq ?_ | refine Wc.reg ?_ | refine Wc.ret ?_ | refine Fin.seq ?_ | refine Fin.block_here ?_ | refine Wo.nil ?_ | refine Wo.val rfl (.mv rfl) ?_ | refine Wo.val rfl (.bin rfl rfl rfl) ?_ | refine Wo.val rfl (.tlen rfl) ?_)
  refine Fin.kret rfl ⟨?_, hE⟩
  have : decide ((s.length : Int) ≤ Int.ofNat 24) = true := by rw [hi_dec]; exact Nat.ble_eq_true_of_le hs
  simp only [oneR]
  rw [this]

theorem nameF_dot {r : List UInt8} : ∀ (f : List UInt8) (b : Bool), nameF b (f ++ 46 :: r) = true → nameF b f = true ∧ (f = [] → b = false) ∧ (f ≠ [] → lastDot f = false)
  | [], b, h => by
    cases b with
    | true => simp [nameF, letU, letterI] at h
    | false => exact ⟨rfl, fun _ => rfl, fun h => absurd rfl h⟩
  | c :: g, b, h => by
    have hd46 : ∀ {g : List UInt8} {c : UInt8}, dotU c = false → (g ≠ [] → lastDot g = false) → lastDot (c :: g) = false := fun {g c} hc hg => by
      match g, hg with
      | [], _ => simpa [lastDot] using hc
      | d :: g, hg => rw [lastDot_cons]; exact hg (by simp)
    simp only [List.cons_append, nameF] at h
    cases b with
    | true =>
      simp only [nameF, Bool.and_eq_true] at h ⊢
      obtain ⟨i1, _, i3⟩ := nameF_dot g false h.2
      exact ⟨⟨h.1, i1⟩, (fun e => nomatch e), fun _ => hd46 (let_dot h.1) i3⟩
    | false =>
      cases hd : dotU c with
      | true =>
        simp only [nameF, hd, if_true] at h ⊢
        obtain ⟨i1, i2, i3⟩ := nameF_dot g true h
        refine ⟨i1, (fun e => nomatch e), fun _ => ?_⟩
        match g, i2, i3 with
        | [], i2, _ => cases i2 rfl
        | d :: g, _, i3 => rw [lastDot_cons]; exact i3 (by simp)
      | false =>
        simp only [nameF, hd, Bool.false_eq_true, if_false, Bool.and_eq_true] at h ⊢
        obtain ⟨i1, _, i3⟩ := nameF_dot g false h.2
        exact ⟨⟨h.1, i1⟩, (fun e => nomatch e), fun _ => hd46 hd i3⟩

theorem suf_name {s : List UInt8} (hb : nameB s = true) (h : hasSuf s recW = true) : nameB (s.take (s.length - 4)) = true ∧ recB s = true := by
  have hb' := hb
  simp only [nameB, Bool.and_eq_true, Bool.not_eq_true'] at hb
  obtain ⟨⟨⟨h1, h2⟩, h3⟩, h4⟩ := hb
  simp only [hasSuf, Bool.and_eq_true] at h
  have hl : 4 ≤ s.length := Nat.le_of_ble_eq_true h.1
  have hd : s.drop (s.length - 4) = recW := strEq_iff h.2
  have hs : s = s.take (s.length - 4) ++ recW := by rw [← hd, List.take_append_drop]
  have h4' := h4
  rw [hs] at h4'
  obtain ⟨n1, n2, n3⟩ := nameF_dot (r := [114, 101, 99]) _ true h4'
  have hne : s.take (s.length - 4) ≠ [] := fun e => by cases n2 e
  have hlen : 1 ≤ (s.take (s.length - 4)).length := by
    rcases Nat.eq_zero_or_pos (s.take (s.length - 4)).length with e | e
    · exact absurd (List.length_eq_zero_iff.1 e) hne
    · exact e
  have hlen2 : (s.take (s.length - 4)).length ≤ 24 := by
    have := Nat.le_of_ble_eq_true h2
    rw [List.length_take]; omega
  have hB : nameB (s.take (s.length - 4)) = true := by
    simp only [nameB, n1, n3 hne, Nat.ble_eq_true_of_le hlen, Nat.ble_eq_true_of_le hlen2, Bool.not_false, Bool.and_self]
  refine ⟨hB, ?_⟩
  unfold recB
  rw [if_neg (by rw [List.length_take] at hlen; omega), hd, hB, strEq_refl]
  rfl

/-- Rec of a name, or of no text. -/
theorem rt42 (s : List UInt8) (hb : nameB s = true ∨ s = []) (H : AH) : Rt Ck 42 [.str s] H fun v H' => (∃ r, v = .tup [.str r, .bool (recB s)]) ∧ Ext 1 H H' := by
  have hs : s.length ≤ 1000 := by
    rcases hb with h | rfl
    · have := (nameB_parts h).1; omega
    · simp
  refine Rt.enter (af := c42) rfl rfl ?_
  repeat' (first | refine Wc.seq ?_ | refine Wc.reg ?_ | refine Fin.seq ?_ | refine Wo.nil ?_ | refine Wo.val rfl (.mv rfl) ?_)
  refine Wo.call rfl rfl (rt71 s recW hs H) ?_
  rintro _ H0 ⟨rfl, e0⟩
  subst e0
  repeat' (first | refine Wc.seq ?_ | refine Wc.reg ?_ | refine Fin.seq ?_ | refine Wo.nil ?_ | refine Wo.val rfl (.mv rfl) ?_ | refine Wo.val rfl (.un rfl rfl) ?_ | refine Wo.val rfl (.ext rfl rfl) ?_)
  refine Wo.branch rfl (fun h1 => ?_) (fun h1 => ?_)
  · have h1 : hasSuf s recW = false := by simpa using h1
    have hr : recB s = false := by
      unfold recB
      split
      · rfl
      · rename_i h5
        unfold hasSuf at h1
        rw [Nat.ble_eq_true_of_le (show recW.length ≤ s.length from by simp [recW]; omega), Bool.true_and] at h1
        rw [show s.length - 4 = s.length - recW.length from rfl, h1]
        rfl
    rw [hr]
    repeat' (first | refine Wc.seq ?_ | refine Wc.reg ?_ | refine Wc.ret ?_ | refine Fin.seq ?_ | refine Fin.seq_ret ?_ | refine Wo.nil ?_ | refine Wc.cond_t rfl ?_ | refine Wo.skip rfl ?_ | refine Wo.val rfl (.mv rfl) ?_ | refine Wo.val rfl (.pick_t rfl rfl) ?_)
    exact Fin.kret rfl ⟨⟨[], rfl⟩, Ext.refl 1 _⟩
  · have h1 : hasSuf s recW = true := by simpa using h1
    have hbn : nameB s = true := by
      rcases hb with h | rfl
      · exact h
      · simp [hasSuf, recW] at h1
    obtain ⟨hB, hr⟩ := suf_name hbn h1
    have e1 : cutSuf s recW = s.take (s.length - 4) := by simp only [cutSuf, h1, if_true]; rfl
    rw [hr, e1]
    repeat' refine Wo.val rfl (.mv rfl) ?_
    refine Wo.call rfl rfl (rt45g _ hB H0) ?_
    rintro _ H1 ⟨rfl, hE⟩
    repeat' (first | refine Wc.seq ?_ | refine Wc.reg ?_ | refine Wc.skip ?_ | refine Wc.ret ?_ | refine Fin.seq ?_ | refine Wo.nil ?_ | refine Wc.cond_f rfl ?_ | refine Wo.val rfl (.mv rfl) ?_ | refine Wo.val rfl (.pick_f rfl rfl) ?_ | refine Wo.val rfl (.un rfl rfl) ?_)
    exact Fin.kret rfl ⟨⟨_, rfl⟩, hE⟩
end Go.Vd.L
