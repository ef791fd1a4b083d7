/- Numbers as text: Itoa. -/
import Derived.Test.YtabgoidablkmjaaGreatDoorYdC6
set_option linter.unusedVariables false
set_option linter.unusedSimpArgs false
namespace Go.Vd.L
open Go.Vd

def dig (n : Nat) : UInt8 := UInt8.ofNat (48 + n % 10)
/-- The digits of a number below 10000. -/
def itoaD (n : Nat) : List UInt8 :=
  if n < 10 then [dig n] else if n < 100 then [dig (n / 10), dig n] else if n < 1000 then [dig (n / 100), dig (n / 10), dig n] else [dig (n / 1000), dig (n / 100), dig (n / 10), dig n]

def tab36 : List UInt8 := [48,49,50,51,52,53,54,55,56,57,97,98,99,100,101,102,103,104,105,106,107,108,109,110,111,112,113,114,115,116,117,118,119,120,121,122]
def tab100 : List UInt8 := [48,48,48,49,48,50,48,51,48,52,48,53,48,54,48,55,48,56,48,57,49,48,49,49,49,50,49,51,49,52,49,53,49,54,49,55,49,56,49,57,50,48,50,49,50,50,50,51,50,52,50,53,50,54,50,55,50,56,50,57,51,48,51,49,51,50,51,51,51,52,51,53,51,54,51,55,51,56,51,57,52,48,52,49,52,50,52,51,52,52,52,53,52,54,52,55,52,56,52,57,53,48,53,49,53,50,53,51,53,52,53,53,53,54,53,55,53,56,53,57,54,48,54,49,54,50,54,51,54,52,54,53,54,54,54,55,54,56,54,57,55,48,55,49,55,50,55,51,55,52,55,53,55,54,55,55,55,56,55,57,56,48,56,49,56,50,56,51,56,52,56,53,56,54,56,55,56,56,56,57,57,48,57,49,57,50,57,51,57,52,57,53,57,54,57,55,57,56,57,57]

theorem tab36_at : ∀ n : Nat, n < 10 → (tab36.drop n).take (n + 1 - n) = itoaD n := by decide
theorem tab100_at : ∀ n : Nat, n < 100 → 10 ≤ n → (tab100.drop (2 * n)).take (2 * n + 2 - 2 * n) = itoaD n := by decide
theorem tab100_lo : ∀ n : Nat, n < 100 → tab100[2 * n]? = some (dig (n / 10)) := by decide
theorem tab100_hi : ∀ n : Nat, n < 100 → tab100[2 * n + 1]? = some (dig n) := by decide

theorem tab36_len : tab36.length = 36 := rfl
theorem tab100_len : tab100.length = 200 := by decide +kernel

theorem rt109 {H : AH} {n : Nat} (hn : n < 100) : Rt Ck 109 [.int .i64 n] H fun v H' => v = .str (itoaD n) ∧ H' = H := by
  refine Rt.enter (af := c109) rfl rfl ?_
  repeat' (first | refine Wc.seq ?_ | refine Wc.reg ?_ | refine Fin.seq ?_ | refine Wo.nil ?_ | refine Wo.val rfl (.mv rfl) ?_ | refine Wo.val rfl (.bin rfl rfl rfl) ?_)
  refine Wc.ifs rfl (fun h10 => ?_) (fun h10 => ?_)
  · have h10 : n < 10 := by
      have : (n : Int) < 10 := by simpa using h10
      omega
    repeat' (first | refine Wc.seq ?_ | refine Wc.reg ?_ | refine Wo.val rfl (.mv rfl) ?_ | refine Wo.val rfl (.bin rfl rfl rfl) ?_)
    have e : IntKind.i64.wrap ((n : Int) + Int.ofNat 1) = ((n + 1 : Nat) : Int) := by
      rw [wrap_i64 (by simp; omega) (by simp; omega)]
      simp
    rw [e]
    refine Wo.val rfl (.sls (s := tab36) rfl rfl rfl (bnds_lohi (by rw [tab36_len]; omega) (by omega))) ?_
    rw [tab36_at n h10]
    repeat' (first | refine Wc.ret ?_ | refine Fin.seq ?_ | refine Fin.seq_ret ?_ | refine Wo.nil ?_ | refine Wo.val rfl (.mv rfl) ?_)
    exact Fin.kret rfl ⟨rfl, rfl⟩
  · have h10 : 10 ≤ n := by
      have : ¬ (n : Int) < 10 := by simpa using h10
      omega
    repeat' (first | refine Wc.seq ?_ | refine Wc.reg ?_ | refine Wc.skip ?_ | refine Fin.seq ?_ | refine Wo.val rfl (.mv rfl) ?_ | refine Wo.val rfl (.bin rfl rfl rfl) ?_)
    have e : IntKind.i64.wrap ((n : Int) * Int.ofNat 2) = ((2 * n : Nat) : Int) := by
      rw [wrap_i64 (by simp; omega) (by simp; omega)]
      simp; omega
    have e2 : IntKind.i64.wrap (IntKind.i64.wrap ((n : Int) * Int.ofNat 2) + Int.ofNat 2) = ((2 * n + 2 : Nat) : Int) := by
      rw [e, wrap_i64 (by simp; omega) (by simp; omega)]
      simp
    rw [e2, e]
    refine Wo.val rfl (.sls (s := tab100) rfl rfl rfl (bnds_lohi (by rw [tab100_len]; omega) (by omega))) ?_
    rw [tab100_at n hn h10]
    repeat' (first | refine Wc.ret ?_ | refine Fin.seq ?_ | refine Wo.nil ?_ | refine Wo.val rfl (.mv rfl) ?_)
    exact Fin.kret rfl ⟨rfl, rfl⟩

/-- How many bits a byte's number has. -/
def bl8 (n : Nat) : Nat := if n < 1 then 0 else if n < 2 then 1 else if n < 4 then 2 else if n < 8 then 3 else if n < 16 then 4 else if n < 32 then 5 else if n < 64 then 6 else if n < 128 then 7 else 8
def tab8 : List UInt8 := [0,1,2,2,3,3,3,3,4,4,4,4,4,4,4,4,5,5,5,5,5,5,5,5,5,5,5,5,5,5,5,5,6,6,6,6,6,6,6,6,6,6,6,6,6,6,6,6,6,6,6,6,6,6,6,6,6,6,6,6,6,6,6,6,7,7,7,7,7,7,7,7,7,7,7,7,7,7,7,7,7,7,7,7,7,7,7,7,7,7,7,7,7,7,7,7,7,7,7,7,7,7,7,7,7,7,7,7,7,7,7,7,7,7,7,7,7,7,7,7,7,7,7,7,7,7,7,7,8,8,8,8,8,8,8,8,8,8,8,8,8,8,8,8,8,8,8,8,8,8,8,8,8,8,8,8,8,8,8,8,8,8,8,8,8,8,8,8,8,8,8,8,8,8,8,8,8,8,8,8,8,8,8,8,8,8,8,8,8,8,8,8,8,8,8,8,8,8,8,8,8,8,8,8,8,8,8,8,8,8,8,8,8,8,8,8,8,8,8,8,8,8,8,8,8,8,8,8,8,8,8,8,8,8,8,8,8,8,8,8,8,8,8,8,8,8,8,8,8,8,8,8,8,8,8,8]
theorem tab8_at : ∀ n : Nat, n < 256 → tab8[n]? = some (UInt8.ofNat (bl8 n)) ∧ (UInt8.ofNat (bl8 n)).toNat = bl8 n ∧ bl8 n ≤ 8 := by decide +kernel

theorem rt122 {H : AH} {b : Bool} : Rt Ck 122 [.bool b] H fun v H' => v = .int .i64 (if b then 1 else 0) ∧ H' = H := by
  cases b
  all_goals
    refine Rt.enter (af := c122) rfl rfl ?_
    repeat' (first | refine Wc.seq ?_ | refine Wc.reg ?_ | refine Wc.skip ?_ | refine Wc.ret ?_ | refine Fin.seq ?_ | refine Fin.seq_ret ?_ | refine Wo.nil ?_ | refine Wc.cond_t rfl ?_ | refine Wc.cond_f rfl ?_ | refine Wo.val rfl (.mv rfl) ?_)
    exact Fin.kret rfl ⟨rfl, rfl⟩

theorem geF {H : AH} {k : IntKind} {a b : Int} (h : a < b) : binV Ck H .geq .int (.int k a) (.int k b) = some (.bool false) := by
  have h1 : binC .geq (AV.int k a) (AV.int k b) = none := rfl
  unfold binV
  rw [h1]
  show (match binY H .geq (.int k a) (.int k b) with | some v => some v | none => _) = _
  simp [binY, binA, intOp]; omega
theorem geT {H : AH} {k : IntKind} {a b : Int} (h : b ≤ a) : binV Ck H .geq .int (.int k a) (.int k b) = some (.bool true) := by
  have h1 : binC .geq (AV.int k a) (AV.int k b) = none := rfl
  unfold binV
  rw [h1]
  show (match binY H .geq (.int k a) (.int k b) with | some v => some v | none => _) = _
  simp [binY, binA, intOp]; omega
theorem ltF {H : AH} {k : IntKind} {a b : Int} (h : b ≤ a) : binV Ck H .lss .int (.int k a) (.int k b) = some (.bool false) := by
  have h1 : binC .lss (AV.int k a) (AV.int k b) = none := rfl
  unfold binV
  rw [h1]
  show (match binY H .lss (.int k a) (.int k b) with | some v => some v | none => _) = _
  simp [binY, binA, intOp]; omega
theorem ltT {H : AH} {k : IntKind} {a b : Int} (h : a < b) : binV Ck H .lss .int (.int k a) (.int k b) = some (.bool true) := by
  have h1 : binC .lss (AV.int k a) (AV.int k b) = none := rfl
  unfold binV
  rw [h1]
  show (match binY H .lss (.int k a) (.int k b) with | some v => some v | none => _) = _
  simp [binY, binA, intOp]; omega
theorem gtF {H : AH} {k : IntKind} {a b : Int} (h : a ≤ b) : binV Ck H .gtr .int (.int k a) (.int k b) = some (.bool false) := by
  have h1 : binC .gtr (AV.int k a) (AV.int k b) = none := rfl
  unfold binV
  rw [h1]
  show (match binY H .gtr (.int k a) (.int k b) with | some v => some v | none => _) = _
  simp [binY, binA, intOp]; omega
theorem gtT {H : AH} {k : IntKind} {a b : Int} (h : b < a) : binV Ck H .gtr .int (.int k a) (.int k b) = some (.bool true) := by
  have h1 : binC .gtr (AV.int k a) (AV.int k b) = none := rfl
  unfold binV
  rw [h1]
  show (match binY H .gtr (.int k a) (.int k b) with | some v => some v | none => _) = _
  simp [binY, binA, intOp]; omega
theorem u8_wrap {n : Nat} (h : n < 256) : IntKind.u8.wrap (n : Int) = n := by
  unfold IntKind.wrap
  simp [IntKind.bits, IntKind.signed]
  omega

def nbits (n : Nat) : Nat := if n < 256 then bl8 n else 8 + bl8 (n / 256)

theorem rt121 {H : AH} {n : Nat} (hn : n < 65536) : Rt Ck 121 [.int .u64 n] H fun v H' => v = .int .i64 (nbits n : Nat) ∧ H' = H := by
  have b1 : binV Ck H .geq .int (.int .u64 n) (.int .u64 (Int.ofNat 4294967296)) = some (.bool false) := geF (by simp; omega)
  have b2 : binV Ck H .geq .int (.int .u64 n) (.int .u64 (Int.ofNat 65536)) = some (.bool false) := geF (by simp; omega)
  by_cases h : n < 256
  · have b3 : binV Ck H .geq .int (.int .u64 n) (.int .u64 (Int.ofNat 256)) = some (.bool false) := geF (by simp; omega)
    have ht := tab8_at n h
    refine Rt.enter (af := c121) rfl rfl ?_
    repeat' (first | refine Wc.seq ?_ | refine Wc.reg ?_ | refine Wc.skip ?_ | refine Fin.seq ?_ | refine Wo.nil ?_ | refine Wc.cond_f rfl ?_ | refine Wo.val rfl (.mv rfl) ?_ | refine Wo.val rfl (.bin rfl rfl (by assumption)) ?_ | refine Wo.val rfl (.conv_int rfl) ?_)
    rw [u8_wrap h]
    refine Wo.val rfl (.ixt (s := tab8) rfl rfl (by omega) (by rw [Int.toNat_natCast]; exact ht.1)) ?_
    rw [ht.2.1]
    repeat' (first | refine Wc.ret ?_ | refine Fin.seq ?_ | refine Wo.nil ?_ | refine Wo.val rfl (.mv rfl) ?_ | refine Wo.val rfl (.conv_int rfl) ?_ | refine Wo.val rfl (.bin rfl rfl rfl) ?_)
    refine Fin.kret rfl ⟨?_, rfl⟩
    simp only [nbits, if_pos h, oneR]
    rw [wrap_i64 (n := (bl8 n : Int)) (by omega) (by have := ht.2.2; omega), wrap_i64 (by have := ht.2.2; simp; try omega) (by have := ht.2.2; simp; try omega)]
    simp
  · have b3 : binV Ck H .geq .int (.int .u64 n) (.int .u64 (Int.ofNat 256)) = some (.bool true) := geT (by simp; omega)
    have b4 : binV Ck H .shr .int (.int .u64 n) (.int .u64 (Int.ofNat 8)) = some (.int .u64 (n / 256 : Nat)) := by
      show some (AV.int .u64 ((n : Int).fdiv 256)) = _
      rw [show ((n : Int).fdiv 256) = ((n / 256 : Nat) : Int) from (Int.ofNat_fdiv n 256).symm]
    have h' : n / 256 < 256 := by omega
    have ht := tab8_at (n / 256) h'
    refine Rt.enter (af := c121) rfl rfl ?_
    repeat' (first | refine Wc.seq ?_ | refine Wc.reg ?_ | refine Wc.skip ?_ | refine Fin.seq ?_ | refine Wo.nil ?_ | refine Wc.cond_t rfl ?_ | refine Wc.cond_f rfl ?_ | refine Wo.val rfl (.mv rfl) ?_ | refine Wo.val rfl (.bin rfl rfl (by assumption)) ?_ | refine Wo.val rfl (.conv_int rfl) ?_ | refine Wo.val rfl (.bin rfl rfl rfl) ?_)
    rw [u8_wrap h']
    refine Wo.val rfl (.ixt (s := tab8) rfl rfl (by omega) (by rw [Int.toNat_natCast]; exact ht.1)) ?_
    rw [ht.2.1]
    repeat' (first | refine Wc.ret ?_ | refine Fin.seq ?_ | refine Wo.nil ?_ | refine Wo.val rfl (.mv rfl) ?_ | refine Wo.val rfl (.conv_int rfl) ?_ | refine Wo.val rfl (.bin rfl rfl rfl) ?_)
    refine Fin.kret rfl ⟨?_, rfl⟩
    simp only [nbits, if_neg h, oneR]
    rw [wrap_i64 (n := (bl8 (n / 256) : Int)) (by omega) (by have := ht.2.2; omega), show IntKind.i64.wrap (Int.ofNat 0 + Int.ofNat 8) = 8 by decide, wrap_i64 (by omega) (by have := ht.2.2; omega)]
    simp

theorem shr18 {H : AH} {n : Nat} : binV Ck H .shr .int (.int .i64 n) (.int .u64 (Int.ofNat 18)) = some (.int .i64 (n / 262144 : Nat)) := by
  show some (AV.int .i64 ((n : Int).fdiv 262144)) = _
  rw [show ((n : Int).fdiv 262144) = ((n / 262144 : Nat) : Int) from (Int.ofNat_fdiv n 262144).symm]

theorem rt120 {H : AH} {n : Nat} (hn : n ≤ 100) : Rt Ck 120 [.int .i64 n] H fun v H' => v = .int .i64 (n * 78913 / 262144 : Nat) ∧ H' = H := by
  have e : IntKind.i64.wrap ((n : Int) * Int.ofNat 78913) = ((n * 78913 : Nat) : Int) := by
    rw [wrap_i64 (by simp; omega) (by simp; omega)]
    simp
  have b0 : binV Ck H .mul .int (.int .i64 n) (.int .i64 (Int.ofNat 78913)) = some (.int .i64 (n * 78913 : Nat)) := by
    show some (AV.int .i64 (IntKind.i64.wrap ((n : Int) * Int.ofNat 78913))) = _
    rw [e]
  have b1 := shr18 (H := H) (n := n * 78913)
  refine Rt.enter (af := c120) rfl rfl ?_
  repeat' (first | refine Wc.seq ?_ | refine Wc.reg ?_ | refine Wc.ret ?_ | refine Fin.seq ?_ | refine Wo.nil ?_ | refine Wo.val rfl (.mv rfl) ?_ | refine Wo.val rfl (.bin rfl rfl (by assumption)) ?_)
  exact Fin.kret rfl ⟨rfl, rfl⟩

theorem lg_cases {n : Nat} (h0 : 100 ≤ n) (h1 : n < 10000) : (nbits n * 78913 / 262144 = 2 ∧ n < 1000) ∨ (nbits n * 78913 / 262144 = 3 ∧ 512 ≤ n) ∨ (nbits n * 78913 / 262144 = 4 ∧ 8192 ≤ n) := by
  unfold nbits bl8
  repeat' split
  all_goals omega
theorem nbits_le {n : Nat} : nbits n ≤ 16 := by
  unfold nbits bl8
  repeat' split
  all_goals omega

def pw10 : List AV := [.int .u64 1, .int .u64 10, .int .u64 100, .int .u64 1000, .int .u64 10000, .int .u64 100000, .int .u64 1000000, .int .u64 10000000, .int .u64 100000000, .int .u64 1000000000, .int .u64 10000000000, .int .u64 100000000000, .int .u64 1000000000000, .int .u64 10000000000000, .int .u64 100000000000000, .int .u64 1000000000000000, .int .u64 10000000000000000, .int .u64 100000000000000000, .int .u64 1000000000000000000, .int .u64 10000000000000000000]
/-- The table of the powers of ten lies in its variable. -/
def PW (H : AH) : Prop := H.get 2 = some (.cells pw10 153 0)

theorem rt110 {H : AH} {n : Nat} (h0 : 100 ≤ n) (h1 : n < 10000) (hP : PW H) : Rt Ck 110 [.int .u64 n] H fun v H' => v = .int .i64 (if n < 1000 then 3 else 4) ∧ H' = H := by
  unfold PW at hP
  refine Rt.enter (af := c110) rfl rfl ?_
  repeat' (first | refine Wc.seq ?_ | refine Wc.reg ?_ | refine Fin.seq ?_ | refine Wo.nil ?_ | refine Wo.val rfl (.mv rfl) ?_)
  refine Wo.call rfl rfl (rt121 (by omega)) ?_
  rintro _ H1 ⟨rfl, e⟩
  rw [e]
  skip
  refine Wo.call rfl rfl (rt120 (Nat.le_trans nbits_le (by decide))) ?_
  rintro _ H2 ⟨rfl, e⟩
  rw [e]
  rcases lg_cases h0 h1 with ⟨g, hg⟩ | ⟨g, hg⟩ | ⟨g, hg⟩
  all_goals rw [g]
  · have b1 : binV Ck H .geq .int (.int .u64 n) (.int .u64 100) = some (.bool true) := geT (by omega)
    repeat' (first | refine Wc.seq ?_ | refine Wc.reg ?_ | refine Fin.seq ?_ | refine Wo.nil ?_ | refine Wo.val rfl (.mv rfl) ?_)
    refine Wo.val rfl (.ixa rfl rfl (by decide) (by decide)) ?_
    repeat' (first | refine Wo.val rfl (.ld rfl (AH.rd_at (by assumption) (by exact rfl))) ?_ | refine Wo.val rfl (.bin rfl rfl (by assumption)) ?_)
    refine Wo.call rfl rfl rt122 ?_
    rintro _ H3 ⟨rfl, e⟩
    rw [e]
    repeat' (first | refine Wc.ret ?_ | refine Fin.seq ?_ | refine Wo.nil ?_ | refine Wo.val rfl (.mv rfl) ?_ | refine Wo.val rfl (.bin rfl rfl rfl) ?_)
    refine Fin.kret rfl ⟨?_, rfl⟩
    rw [if_pos hg]
    rfl
  · by_cases hk : n < 1000
    · have b1 : binV Ck H .geq .int (.int .u64 n) (.int .u64 1000) = some (.bool false) := geF (by omega)
      repeat' (first | refine Wc.seq ?_ | refine Wc.reg ?_ | refine Fin.seq ?_ | refine Wo.nil ?_ | refine Wo.val rfl (.mv rfl) ?_)
      refine Wo.val rfl (.ixa rfl rfl (by decide) (by decide)) ?_
      repeat' (first | refine Wo.val rfl (.ld rfl (AH.rd_at (by assumption) (by exact rfl))) ?_ | refine Wo.val rfl (.bin rfl rfl (by assumption)) ?_)
      refine Wo.call rfl rfl rt122 ?_
      rintro _ H3 ⟨rfl, e⟩
      rw [e]
      repeat' (first | refine Wc.ret ?_ | refine Fin.seq ?_ | refine Wo.nil ?_ | refine Wo.val rfl (.mv rfl) ?_ | refine Wo.val rfl (.bin rfl rfl rfl) ?_)
      refine Fin.kret rfl ⟨?_, rfl⟩
      rw [if_pos hk]
      rfl
    · have b1 : binV Ck H .geq .int (.int .u64 n) (.int .u64 1000) = some (.bool true) := geT (by omega)
      repeat' (first | refine Wc.seq ?_ | refine Wc.reg ?_ | refine Fin.seq ?_ | refine Wo.nil ?_ | refine Wo.val rfl (.mv rfl) ?_)
      refine Wo.val rfl (.ixa rfl rfl (by decide) (by decide)) ?_
      repeat' (first | refine Wo.val rfl (.ld rfl (AH.rd_at (by assumption) (by exact rfl))) ?_ | refine Wo.val rfl (.bin rfl rfl (by assumption)) ?_)
      refine Wo.call rfl rfl rt122 ?_
      rintro _ H3 ⟨rfl, e⟩
      rw [e]
      repeat' (first | refine Wc.ret ?_ | refine Fin.seq ?_ | refine Wo.nil ?_ | refine Wo.val rfl (.mv rfl) ?_ | refine Wo.val rfl (.bin rfl rfl rfl) ?_)
      refine Fin.kret rfl ⟨?_, rfl⟩
      rw [if_neg hk]
      rfl
  · have b1 : binV Ck H .geq .int (.int .u64 n) (.int .u64 10000) = some (.bool false) := geF (by omega)
    repeat' (first | refine Wc.seq ?_ | refine Wc.reg ?_ | refine Fin.seq ?_ | refine Wo.nil ?_ | refine Wo.val rfl (.mv rfl) ?_)
    refine Wo.val rfl (.ixa rfl rfl (by decide) (by decide)) ?_
    repeat' (first | refine Wo.val rfl (.ld rfl (AH.rd_at (by assumption) (by exact rfl))) ?_ | refine Wo.val rfl (.bin rfl rfl (by assumption)) ?_)
    refine Wo.call rfl rfl rt122 ?_
    rintro _ H3 ⟨rfl, e⟩
    rw [e]
    repeat' (first | refine Wc.ret ?_ | refine Fin.seq ?_ | refine Wo.nil ?_ | refine Wo.val rfl (.mv rfl) ?_ | refine Wo.val rfl (.bin rfl rfl rfl) ?_)
    refine Fin.kret rfl ⟨?_, rfl⟩
    rw [if_neg (show ¬ n < 1000 by omega)]
    rfl
end Go.Vd.L
namespace Go.Vd
section
variable {C : Ctx} {ls : List (List AOper)} {hv : List AOper} {l : TL} {H : AH} {d : Option Nat}
/-- A store of one cell, within a region that draws. -/
theorem Wd.st1 {K' : AV → TL → AH → List AH → List (TL × AV) → Prop} {x y : Opd} {X o e fl : Nat} {u : AV} {c c' : List AV} (hx : evL l x = some (.ptr X o)) (hy : evL l y = some u)
    (hg : H.get X = some (.cells c e fl)) (hf : Nat.ble fl 1 = true) (ho : Nat.blt o c.length = true) (hu : u.cells = [u]) (hone : u.one = true) (hc : c.set o u = c')
    (hk : ∀ H', H'.next = H.next → H'.get X = some (.cells c' e fl) → (∀ Y, Y ≠ X → H'.get Y = H.get Y) → Wd C ls hv (putl l d .und) H' (K' .und)) :
    ∃ v H', St C l H ⟨d, .stn 1 x y, none⟩ v H' ∧ Wd C ls hv (putl l d v) H' (K' v) :=
  Wd.val rfl (.stn hx hy (by rw [hu]; rfl) (by rw [hu]; exact AH.wr1_as hg (Nat.le_of_ble_eq_true hf) (Nat.le_of_ble_eq_true ho) hone hc)) (hk _ (AH.next_set _ _ _) (AH.get_set_self _ _ _) fun Y hY => AH.get_set_ne _ _ hY)
end
end Go.Vd

namespace Go.Vd.L
open Go.Vd

theorem u32_wrap {n : Nat} (h : n < 4294967296) : IntKind.u32.wrap (n : Int) = n := by
  unfold IntKind.wrap
  simp [IntKind.bits, IntKind.signed]
  omega
section
variable {H : AH} {n : Nat}
theorem quo100 (h : n < 4294967296) : binV Ck H .quo .int (.int .u32 n) (.int .u32 (Int.ofNat 100)) = some (.int .u32 (n / 100 : Nat)) := by
  show some (AV.int .u32 (IntKind.u32.wrap ((n : Int).tdiv 100))) = _
  rw [show (n : Int).tdiv 100 = ((n / 100 : Nat) : Int) from (Int.ofNat_tdiv n 100).symm, u32_wrap (by omega)]
theorem quo10000 (h : n < 4294967296) : binV Ck H .quo .int (.int .u32 n) (.int .u32 (Int.ofNat 10000)) = some (.int .u32 (n / 10000 : Nat)) := by
  show some (AV.int .u32 (IntKind.u32.wrap ((n : Int).tdiv 10000))) = _
  rw [show (n : Int).tdiv 10000 = ((n / 10000 : Nat) : Int) from (Int.ofNat_tdiv n 10000).symm, u32_wrap (by omega)]
theorem rem100 : binV Ck H .rem .int (.int .u32 n) (.int .u32 (Int.ofNat 100)) = some (.int .u32 (n % 100 : Nat)) := by
  show some (AV.int .u32 ((n : Int).tmod 100)) = _
  rw [show (n : Int).tmod 100 = ((n % 100 : Nat) : Int) from (Int.ofNat_tmod n 100).symm]
theorem rem10000 : binV Ck H .rem .int (.int .u32 n) (.int .u32 (Int.ofNat 10000)) = some (.int .u32 (n % 10000 : Nat)) := by
  show some (AV.int .u32 ((n : Int).tmod 10000)) = _
  rw [show (n : Int).tmod 10000 = ((n % 10000 : Nat) : Int) from (Int.ofNat_tmod n 10000).symm]
theorem mul2 (h : n < 100000000) : binV Ck H .mul .int (.int .u32 n) (.int .u32 (Int.ofNat 2)) = some (.int .u32 (n * 2 : Nat)) := by
  show some (AV.int .u32 (IntKind.u32.wrap ((n : Int) * 2))) = _
  rw [show (n : Int) * 2 = ((n * 2 : Nat) : Int) by simp, u32_wrap (by omega)]
theorem add1 (h : n < 100000000) : binV Ck H .add .int (.int .u32 n) (.int .u32 (Int.ofNat 1)) = some (.int .u32 (n + 1 : Nat)) := by
  show some (AV.int .u32 (IntKind.u32.wrap ((n : Int) + 1))) = _
  rw [show (n : Int) + 1 = ((n + 1 : Nat) : Int) by simp, u32_wrap (by omega)]
theorem add48 (h : n < 100000000) : binV Ck H .add .int (.int .u32 (Int.ofNat 48)) (.int .u32 n) = some (.int .u32 (48 + n : Nat)) := by
  show some (AV.int .u32 (IntKind.u32.wrap (48 + (n : Int)))) = _
  rw [show 48 + (n : Int) = ((48 + n : Nat) : Int) by simp, u32_wrap (by omega)]
end

theorem tab_lo {m n : Nat} (h : m < 100) (e : m / 10 % 10 = n % 10) : tab100[m * 2]? = some (dig n) := by
  rw [Nat.mul_comm, tab100_lo m h]
  simp only [dig, e]
theorem tab_hi {m n : Nat} (h : m < 100) (e : m % 10 = n % 10) : tab100[m * 2 + 1]? = some (dig n) := by
  rw [Nat.mul_comm, tab100_hi m h]
  simp only [dig, e]
theorem dig_u8 {n : Nat} (h : n < 10) : IntKind.u8.wrap ((48 + n : Nat) : Int) = ((dig n).toNat : Int) := by
  rw [u8_wrap (by omega)]
  unfold dig
  rw [Nat.mod_eq_of_lt h, UInt8.toNat_ofNat_of_lt' (by show 48 + n < 256; omega)]

def z8 : AV := .int .u8 (.ofNat 0)

section
variable {H : AH} {B n : Nat}

theorem rt111_3 (h0 : 100 ≤ n) (h1 : n < 1000) (hB : H.get B = some (.cells (List.replicate 24 z8) 140 0)) :
    Rt Ck 111 [.slc B 1 3 23 1 true, .int .u64 n] H fun _ H' => H'.next = H.next ∧ H'.get B = some (.cells ([z8] ++ bytesAV (itoaD n) ++ List.replicate 20 z8) 140 0) ∧ ∀ Y, Y ≠ B → H'.get Y = H.get Y := by
  have r1 : binV Ck H .rem .int (.int .u32 (IntKind.u32.wrap n)) (.int .u32 (Int.ofNat 100)) = some (.int .u32 (n % 100 : Nat)) := by rw [u32_wrap (by omega)]; exact rem100
  have q1 : binV Ck H .quo .int (.int .u32 (IntKind.u32.wrap n)) (.int .u32 (Int.ofNat 100)) = some (.int .u32 (n / 100 : Nat)) := by rw [u32_wrap (by omega)]; exact quo100 (by omega)
  have m1 := mul2 (H := H) (n := n % 100) (by omega)
  have a1 := add1 (H := H) (n := n % 100 * 2) (by omega)
  have hlo : tab100[n % 100 * 2]? = some (dig (n / 10)) := tab_lo (by omega) (by omega)
  have hhi : tab100[n % 100 * 2 + 1]? = some (dig n) := tab_hi (by omega) (by omega)
  refine Rt.enter (af := c111) rfl rfl ?_
  repeat' (first | refine Wc.seq ?_ | refine Wc.block ?_ | refine Wc.reg ?_ | refine Fin.seq ?_ | refine Wo.nil ?_ | refine Wo.val rfl (.mv rfl) ?_ | refine Wo.val rfl (.len rfl) ?_)
  refine Wc.loop ?_
  repeat' (first | refine Wc.seq ?_ | refine Wc.reg ?_ | refine Wc.skip ?_ | refine Wc.exit ?_ | refine Fin.seq ?_ | refine Fin.seq_exit ?_ | refine Fin.block_here ?_ | refine Wo.nil ?_ | refine Wc.cond_t rfl ?_ | refine Wc.cond_f rfl ?_ | refine Wo.val rfl (.mv rfl) ?_ | refine Wo.val rfl (.bin rfl rfl (by assumption)) ?_ | refine Wo.val rfl (.conv_int rfl) ?_ | refine Wo.val rfl (.bin rfl rfl rfl) ?_)
  refine Wc.regd (Wd.step ?_)
  repeat' (first | refine Lx.val rfl (.ixt (s := tab100) rfl rfl (by omega) (by first | exact hlo | exact hhi)) ?_ | refine Lx.val rfl (.ixs rfl rfl (by decide) (by decide) (by decide)) ?_ | refine Lx.val rfl (.mv rfl) ?_ | refine Lx.val rfl (.bin rfl rfl (by assumption)) ?_ | refine Lx.val rfl (.bin rfl rfl rfl) ?_)
  refine Lx.nil (Wd.st1 rfl rfl hB rfl rfl rfl rfl rfl (fun H1 hn1 hA1 hs1 => ?_))
  refine Wd.step ?_
  repeat' (first | refine Lx.val rfl (.ixt (s := tab100) rfl rfl (by omega) (by first | exact hlo | exact hhi)) ?_ | refine Lx.val rfl (.ixs rfl rfl (by decide) (by decide) (by decide)) ?_ | refine Lx.val rfl (.mv rfl) ?_ | refine Lx.val rfl (.bin rfl rfl (by assumption)) ?_ | refine Lx.val rfl (.bin rfl rfl rfl) ?_)
  refine Lx.nil (Wd.st1 rfl rfl hA1 rfl rfl rfl rfl rfl (fun H2 hn2 hA2 hs2 => ?_))
  refine Wd.last (Lx.nil ⟨?_, ?_, ?_⟩)
  · refine AgA.cons ?_ (AgA.cons ?_ (AgA.cons Ag.nil AgA.nil))
    all_goals
      repeat' (first | exact Ag.nil | refine Ag.val rfl (.ixt (s := tab100) rfl rfl (by omega) (by first | exact hlo | exact hhi)) rfl ?_ | refine Ag.val rfl (.ixs rfl rfl (by decide) (by decide) (by decide)) rfl ?_ | refine Ag.val rfl (.mv rfl) rfl ?_ | refine Ag.val rfl (.bin rfl rfl (by assumption)) rfl ?_ | refine Ag.val rfl (.bin rfl rfl rfl) rfl ?_)
  · repeat' (first | exact HvA.nil | exact Agr.nil | exact trivial | refine Agr.cons rfl rfl ?_ | refine HvA.cons ?_ ?_ ?_)
  have a2 := add48 (H := H2) (n := n / 100) (by omega)
  have e := dig_u8 (n := n / 100) (by omega)
  repeat' (first | refine Wc.seq ?_ | refine Wc.reg ?_ | refine Fin.seq ?_ | refine Wo.nil ?_ | refine Wc.cond_t rfl ?_ | refine Wo.val rfl (.mv rfl) ?_ | refine Wo.val rfl (.bin rfl rfl (by assumption)) ?_ | refine Wo.val rfl (.conv_int rfl) ?_ | refine Wo.val rfl (.bin rfl rfl rfl) ?_)
  rw [e]
  refine Wo.val rfl (.ixs rfl rfl (by decide) (by decide) (by decide)) ?_
  refine Wo.st1 rfl rfl hA2 rfl rfl rfl rfl rfl (fun H3 hn3 hA3 hs3 => ?_)
  repeat' refine Wo.nil ?_
  refine Fin.kret_n rfl ⟨by omega, ?_, fun Y hY => by rw [hs3 Y hY, hs2 Y hY, hs1 Y hY]⟩
  rw [hA3]
  unfold itoaD
  rw [if_neg (by omega), if_neg (by omega), if_pos h1]
  rfl

theorem rt111_4 (h0 : 1000 ≤ n) (h1 : n < 10000) (hB : H.get B = some (.cells (List.replicate 24 z8) 140 0)) :
    Rt Ck 111 [.slc B 1 4 23 1 true, .int .u64 n] H fun _ H' => H'.next = H.next ∧ H'.get B = some (.cells ([z8] ++ bytesAV (itoaD n) ++ List.replicate 19 z8) 140 0) ∧ ∀ Y, Y ≠ B → H'.get Y = H.get Y := by
  have r0 : binV Ck H .rem .int (.int .u32 (IntKind.u32.wrap n)) (.int .u32 (Int.ofNat 10000)) = some (.int .u32 n) := by rw [u32_wrap (by omega), rem10000, Nat.mod_eq_of_lt h1]
  have q0 : binV Ck H .quo .int (.int .u32 (IntKind.u32.wrap n)) (.int .u32 (Int.ofNat 10000)) = some (.int .u32 0) := by rw [u32_wrap (by omega), quo10000 (by omega), Nat.div_eq_of_lt h1]; rfl
  have r1 : binV Ck H .rem .int (.int .u32 n) (.int .u32 (Int.ofNat 100)) = some (.int .u32 (n % 100 : Nat)) := rem100
  have q1 : binV Ck H .quo .int (.int .u32 n) (.int .u32 (Int.ofNat 100)) = some (.int .u32 (n / 100 : Nat)) := quo100 (by omega)
  have m1 := mul2 (H := H) (n := n % 100) (by omega)
  have a1 := add1 (H := H) (n := n % 100 * 2) (by omega)
  have m2 := mul2 (H := H) (n := n / 100) (by omega)
  have hlo : tab100[n % 100 * 2]? = some (dig (n / 10)) := tab_lo (by omega) (by omega)
  have hhi : tab100[n % 100 * 2 + 1]? = some (dig n) := tab_hi (by omega) (by omega)
  have hlo' : tab100[n / 100 * 2]? = some (dig (n / 1000)) := tab_lo (by omega) (by omega)
  have hhi' : tab100[n / 100 * 2 + 1]? = some (dig (n / 100)) := tab_hi (by omega) (by omega)
  refine Rt.enter (af := c111) rfl rfl ?_
  repeat' (first | refine Wc.seq ?_ | refine Wc.block ?_ | refine Wc.reg ?_ | refine Fin.seq ?_ | refine Wo.nil ?_ | refine Wo.val rfl (.mv rfl) ?_ | refine Wo.val rfl (.len rfl) ?_)
  refine Wc.loop ?_
  repeat' (first | refine Wc.seq ?_ | refine Wc.reg ?_ | refine Wc.exit ?_ | refine Fin.seq ?_ | refine Fin.seq_exit ?_ | refine Fin.block_here ?_ | refine Wo.nil ?_ | refine Wc.cond_t rfl ?_ | refine Wc.cond_f rfl ?_ | refine Wo.val rfl (.mv rfl) ?_ | refine Wo.val rfl (.bin rfl rfl (by assumption)) ?_ | refine Wo.val rfl (.conv_int rfl) ?_ | refine Wo.val rfl (.bin rfl rfl rfl) ?_)
  refine Wc.regd (Wd.step ?_)
  repeat' (first | refine Lx.val rfl (.ixt (s := tab100) rfl rfl (by omega) (by first | exact hlo | exact hhi)) ?_ | refine Lx.val rfl (.ixs rfl rfl (by decide) (by decide) (by decide)) ?_ | refine Lx.val rfl (.mv rfl) ?_ | refine Lx.val rfl (.bin rfl rfl (by assumption)) ?_ | refine Lx.val rfl (.bin rfl rfl rfl) ?_)
  refine Lx.nil (Wd.st1 rfl rfl hB rfl rfl rfl rfl rfl (fun H1 hn1 hA1 hs1 => ?_))
  refine Wd.step ?_
  repeat' (first | refine Lx.val rfl (.ixt (s := tab100) rfl rfl (by omega) (by first | exact hlo | exact hhi)) ?_ | refine Lx.val rfl (.ixs rfl rfl (by decide) (by decide) (by decide)) ?_ | refine Lx.val rfl (.mv rfl) ?_ | refine Lx.val rfl (.bin rfl rfl (by assumption)) ?_ | refine Lx.val rfl (.bin rfl rfl rfl) ?_)
  refine Lx.nil (Wd.st1 rfl rfl hA1 rfl rfl rfl rfl rfl (fun H2 hn2 hA2 hs2 => ?_))
  refine Wd.last (Lx.nil ⟨?_, ?_, ?_⟩)
  · refine AgA.cons ?_ (AgA.cons ?_ (AgA.cons Ag.nil AgA.nil))
    all_goals
      repeat' (first | exact Ag.nil | refine Ag.val rfl (.ixt (s := tab100) rfl rfl (by omega) (by first | exact hlo | exact hhi)) rfl ?_ | refine Ag.val rfl (.ixs rfl rfl (by decide) (by decide) (by decide)) rfl ?_ | refine Ag.val rfl (.mv rfl) rfl ?_ | refine Ag.val rfl (.bin rfl rfl (by assumption)) rfl ?_ | refine Ag.val rfl (.bin rfl rfl rfl) rfl ?_)
  · repeat' (first | exact HvA.nil | exact Agr.nil | exact trivial | refine Agr.cons rfl rfl ?_ | refine HvA.cons ?_ ?_ ?_)
  have a3 := add1 (H := H2) (n := n / 100 * 2) (by omega)
  repeat' (first | refine Wc.seq ?_ | refine Fin.seq ?_)
  refine Wc.regd (Wd.step ?_)
  repeat' (first | refine Lx.val rfl (.ixt (s := tab100) rfl rfl (by omega) (by first | exact hlo' | exact hhi')) ?_ | refine Lx.val rfl (.ixs rfl rfl (by decide) (by decide) (by decide)) ?_ | refine Lx.val rfl (.mv rfl) ?_ | refine Lx.val rfl (.bin rfl rfl (by assumption)) ?_ | refine Lx.val rfl (.bin rfl rfl rfl) ?_)
  refine Lx.nil (Wd.st1 rfl rfl hA2 rfl rfl rfl rfl rfl (fun H3 hn3 hA3 hs3 => ?_))
  refine Wd.step ?_
  repeat' (first | refine Lx.val rfl (.ixt (s := tab100) rfl rfl (by omega) (by first | exact hlo' | exact hhi')) ?_ | refine Lx.val rfl (.ixs rfl rfl (by decide) (by decide) (by decide)) ?_ | refine Lx.val rfl (.mv rfl) ?_ | refine Lx.val rfl (.bin rfl rfl (by assumption)) ?_ | refine Lx.val rfl (.bin rfl rfl rfl) ?_)
  refine Lx.nil (Wd.st1 rfl rfl hA3 rfl rfl rfl rfl rfl (fun H4 hn4 hA4 hs4 => ?_))
  refine Wd.last (Lx.nil ⟨?_, ?_, ?_⟩)
  · refine AgA.cons ?_ (AgA.cons ?_ (AgA.cons Ag.nil AgA.nil))
    all_goals
      repeat' (first | exact Ag.nil | refine Ag.val rfl (.ixt (s := tab100) rfl rfl (by omega) (by first | exact hlo' | exact hhi')) rfl ?_ | refine Ag.val rfl (.ixs rfl rfl (by decide) (by decide) (by decide)) rfl ?_ | refine Ag.val rfl (.mv rfl) rfl ?_ | refine Ag.val rfl (.bin rfl rfl (by assumption)) rfl ?_ | refine Ag.val rfl (.bin rfl rfl rfl) rfl ?_)
  · repeat' (first | exact HvA.nil | exact Agr.nil | exact trivial | refine Agr.cons rfl rfl ?_ | refine HvA.cons ?_ ?_ ?_)
  repeat' (first | refine Wc.seq ?_ | refine Wc.reg ?_ | refine Wc.skip ?_ | refine Fin.seq ?_ | refine Wo.nil ?_ | refine Wc.cond_f rfl ?_ | refine Wo.val rfl (.mv rfl) ?_ | refine Wo.val rfl (.bin rfl rfl rfl) ?_)
  refine Fin.kret_n rfl ⟨by omega, ?_, fun Y hY => by rw [hs4 Y hY, hs3 Y hY, hs2 Y hY, hs1 Y hY]⟩
  rw [hA4]
  unfold itoaD
  rw [if_neg (by omega), if_neg (by omega), if_neg (by omega)]
  rfl
end
end Go.Vd.L
namespace Go.Vd.L
open Go.Vd

theorem u64_wrap {n : Nat} (h : n < 4294967296) : IntKind.u64.wrap (n : Int) = n := by
  unfold IntKind.wrap
  simp [IntKind.bits, IntKind.signed]
  omega
theorem avBytes_bytes : ∀ l : List UInt8, avBytes (bytesAV l) = some l
  | [] => rfl
  | b :: l => by
    have := avBytes_bytes l
    unfold bytesAV at *
    simp only [List.map_cons, avBytes, avByte, this, Int.toNat_natCast, UInt8.ofNat_toNat]

section
variable {H : AH} {n : Nat}
theorem rt97s (hn : n < 100) : Rt Ck 97 [.int .i64 n, .int .i64 (.ofNat 10)] H fun v H' => v = .str (itoaD n) ∧ Grow H H' := by
  have b1 : binV Ck H .leq .int (.int .i64 (Int.ofNat 0)) (.int .i64 n) = some (.bool true) := binV_le (by simp; try omega)
  have b2 : binV Ck H .lss .int (.int .i64 n) (.int .i64 (Int.ofNat 100)) = some (.bool true) := ltT (by simp; omega)
  refine Rt.enter (af := c97) rfl rfl ?_
  repeat' (first | refine Wc.seq ?_ | refine Wc.reg ?_ | refine Fin.seq ?_ | refine Wo.nil ?_ | refine Wc.cond_t rfl ?_ | refine Wo.val rfl (.mv rfl) ?_ | refine Wo.val rfl (.pick_t rfl rfl) ?_ | refine Wo.val rfl (.bin rfl rfl (by assumption)) ?_)
  refine Wo.call rfl rfl (rt109 hn) ?_
  rintro _ H1 ⟨rfl, e⟩
  rw [e]
  repeat' (first | refine Wc.ret ?_ | refine Fin.seq ?_ | refine Fin.seq_ret ?_ | refine Wo.nil ?_ | refine Wo.val rfl (.mv rfl) ?_)
  exact Fin.kret rfl ⟨rfl, Grow.refl _⟩

theorem rt97b (h0 : 100 ≤ n) (hn : n < 10000) (hP : PW H) (hl : 2 < H.next) : Rt Ck 97 [.int .i64 n, .int .i64 (.ofNat 10)] H fun v H' => v = .str (itoaD n) ∧ Grow H H' := by
  have b1 : binV Ck H .leq .int (.int .i64 (Int.ofNat 0)) (.int .i64 n) = some (.bool true) := binV_le (by simp; try omega)
  have b2 : binV Ck H .lss .int (.int .i64 n) (.int .i64 (Int.ofNat 100)) = some (.bool false) := ltF (by simp; omega)
  refine Rt.enter (af := c97) rfl rfl ?_
  repeat' (first | refine Wc.seq ?_ | refine Wc.reg ?_ | refine Wc.skip ?_ | refine Fin.seq ?_ | refine Wo.nil ?_ | refine Wc.cond_t rfl ?_ | refine Wc.cond_f rfl ?_ | refine Wo.val rfl (.mv rfl) ?_ | refine Wo.val rfl (.pick_t rfl rfl) ?_ | refine Wo.val rfl (.bin rfl rfl (by assumption)) ?_)
  refine Wo.allocn rfl (fun H1 hn1 hA1 hs1 => ?_)
  have hP1 : PW H1 := by unfold PW at *; rw [hs1 2 (by omega)]; exact hP
  have b3 : binV Ck H1 .lss .int (.int .i64 n) (.int .i64 (Int.ofNat 0)) = some (.bool false) := ltF (by simp; try omega)
  have e1 := u64_wrap (n := n) (by omega)
  repeat' (first | refine Wc.seq ?_ | refine Wc.reg ?_ | refine Wc.skip ?_ | refine Fin.seq ?_ | refine Wo.nil ?_ | refine Wc.cond_f rfl ?_ | refine Wo.val rfl (.mv rfl) ?_ | refine Wo.val rfl (.bin rfl rfl (by assumption)) ?_ | refine Wo.val rfl (.conv_int rfl) ?_)
  rw [e1]
  refine Wo.call rfl rfl (rt110 h0 hn hP1) ?_
  rintro _ H2 ⟨rfl, e⟩
  rw [e]
  have hZ : H1.get H.next = some (.cells (List.replicate 24 z8) 140 0) := hA1
  by_cases hk : n < 1000
  · rw [if_pos hk]
    repeat' (first | refine Wc.seq ?_ | refine Wc.reg ?_ | refine Fin.seq ?_ | refine Wo.nil ?_ | refine Wo.val rfl (.mv rfl) ?_ | refine Wo.val rfl (.bin rfl rfl rfl) ?_)
    refine Wo.val rfl (.sla rfl rfl rfl rfl rfl) ?_
    repeat' refine Wo.val rfl (.mv rfl) ?_
    refine Wo.call rfl rfl (rt111_3 h0 hk hZ) ?_
    rintro _ H3 ⟨hn3, hA3, hs3⟩
    have b4 : binV Ck H3 .lss .int (.int .i64 n) (.int .i64 (Int.ofNat 0)) = some (.bool false) := ltF (by simp; try omega)
    repeat' (first | refine Wc.seq ?_ | refine Wc.reg ?_ | refine Wc.skip ?_ | refine Fin.seq ?_ | refine Wo.nil ?_ | refine Wc.cond_f rfl ?_ | refine Wo.val rfl (.mv rfl) ?_ | refine Wo.val rfl (.bin rfl rfl (by assumption)) ?_ | refine Wo.val rfl (.bin rfl rfl rfl) ?_)
    have hd : itoaD n = [dig (n / 100), dig (n / 10), dig n] := by unfold itoaD; rw [if_neg (by omega), if_neg (by omega), if_pos hk]
    rw [hd] at hA3
    refine Wo.val rfl (.sla rfl rfl rfl rfl rfl) ?_
    refine Wo.val rfl (.conv_b2s (s := itoaD n) rfl (by decide) (AH.rdn_of hA3 (Nat.le_of_ble_eq_true rfl)) ?_) ?_
    · rw [hd]
      exact avBytes_bytes [dig (n / 100), dig (n / 10), dig n]
    · repeat' (first | refine Wc.ret ?_ | refine Fin.seq ?_ | refine Fin.seq_ret ?_ | refine Wo.nil ?_ | refine Wo.val rfl (.mv rfl) ?_)
      exact Fin.kret rfl ⟨rfl, by omega, fun Y hY => by rw [hs3 Y (by omega), hs1 Y (by omega)]⟩
  · rw [if_neg hk]
    repeat' (first | refine Wc.seq ?_ | refine Wc.reg ?_ | refine Fin.seq ?_ | refine Wo.nil ?_ | refine Wo.val rfl (.mv rfl) ?_ | refine Wo.val rfl (.bin rfl rfl rfl) ?_)
    refine Wo.val rfl (.sla rfl rfl rfl rfl rfl) ?_
    repeat' refine Wo.val rfl (.mv rfl) ?_
    refine Wo.call rfl rfl (rt111_4 (by omega) hn hZ) ?_
    rintro _ H3 ⟨hn3, hA3, hs3⟩
    have b4 : binV Ck H3 .lss .int (.int .i64 n) (.int .i64 (Int.ofNat 0)) = some (.bool false) := ltF (by simp; try omega)
    repeat' (first | refine Wc.seq ?_ | refine Wc.reg ?_ | refine Wc.skip ?_ | refine Fin.seq ?_ | refine Wo.nil ?_ | refine Wc.cond_f rfl ?_ | refine Wo.val rfl (.mv rfl) ?_ | refine Wo.val rfl (.bin rfl rfl (by assumption)) ?_ | refine Wo.val rfl (.bin rfl rfl rfl) ?_)
    have hd : itoaD n = [dig (n / 1000), dig (n / 100), dig (n / 10), dig n] := by unfold itoaD; rw [if_neg (by omega), if_neg (by omega), if_neg hk]
    rw [hd] at hA3
    refine Wo.val rfl (.sla rfl rfl rfl rfl rfl) ?_
    refine Wo.val rfl (.conv_b2s (s := itoaD n) rfl (by decide) (AH.rdn_of hA3 (Nat.le_of_ble_eq_true rfl)) ?_) ?_
    · rw [hd]
      exact avBytes_bytes [dig (n / 1000), dig (n / 100), dig (n / 10), dig n]
    · repeat' (first | refine Wc.ret ?_ | refine Fin.seq ?_ | refine Fin.seq_ret ?_ | refine Wo.nil ?_ | refine Wo.val rfl (.mv rfl) ?_)
      exact Fin.kret rfl ⟨rfl, by omega, fun Y hY => by rw [hs3 Y (by omega), hs1 Y (by omega)]⟩

theorem cat_s {C : Ctx} {a b c : List UInt8} (hl : a.length + b.length ≤ 9223372036854775807) (h : a ++ b = c) : binV C H .add .str (.str a) (.str b) = some (.str c) := by
  subst h
  rw [binV_s]
  simp only [strOp, Nat.ble_eq_true_of_le hl, if_true]
theorem itoaD_len (n : Nat) : (itoaD n).length ≤ 4 := by
  unfold itoaD
  repeat' split
  all_goals simp


theorem rt55 (hn : n < 10000) (hP : PW H) (hl : 2 < H.next) : Rt Ck 55 [.int .i64 n] H fun v H' => v = .str (itoaD n) ∧ Grow H H' := by
  have h97 : Rt Ck 97 [.int .i64 n, .int .i64 (.ofNat 10)] H fun v H' => v = .str (itoaD n) ∧ Grow H H' := by
    by_cases h : n < 100
    · exact rt97s h
    · exact rt97b (by omega) hn hP hl
  have h82 : Rt Ck 82 [.int .i64 n] H fun v H' => v = .str (itoaD n) ∧ Grow H H' := by
    refine Rt.enter (af := c82) rfl rfl ?_
    repeat' (first | refine Wc.seq ?_ | refine Wc.reg ?_ | refine Fin.seq ?_ | refine Wo.nil ?_ | refine Wo.val rfl (.mv rfl) ?_)
    refine Wo.call rfl rfl h97 ?_
    rintro _ H1 ⟨rfl, hG⟩
    repeat' (first | refine Wc.ret ?_ | refine Fin.seq ?_ | refine Wo.nil ?_ | refine Wo.val rfl (.mv rfl) ?_)
    exact Fin.kret rfl ⟨rfl, hG⟩
  refine Rt.enter (af := c55) rfl rfl ?_
  repeat' (first | refine Wc.seq ?_ | refine Wc.reg ?_ | refine Fin.seq ?_ | refine Wo.nil ?_ | refine Wo.val rfl (.mv rfl) ?_)
  refine Wo.call rfl rfl h82 ?_
  rintro _ H1 ⟨rfl, hG⟩
  repeat' (first | refine Wc.ret ?_ | refine Fin.seq ?_ | refine Wo.nil ?_ | refine Wo.val rfl (.mv rfl) ?_)
  exact Fin.kret rfl ⟨rfl, hG⟩

theorem rt54 (hn : n < 10000) (hP : PW H) (hl : 2 < H.next) : Rt Ck 54 [.int .i64 n] H fun v H' => v = .str (95 :: itoaD n) ∧ Grow H H' := by
  refine Rt.enter (af := c54) rfl rfl ?_
  repeat' (first | refine Wc.seq ?_ | refine Wc.reg ?_ | refine Fin.seq ?_ | refine Wo.nil ?_ | refine Wo.val rfl (.mv rfl) ?_)
  refine Wo.call rfl rfl (rt55 hn hP hl) ?_
  rintro _ H1 ⟨rfl, hG⟩
  have b : binV Ck H1 .add .str (.str [95]) (.str (itoaD n)) = some (.str (95 :: itoaD n)) := cat_s (by have := itoaD_len n; simp only [List.length_cons, List.length_nil]; omega) rfl
  repeat' (first | refine Wc.ret ?_ | refine Fin.seq ?_ | refine Wo.nil ?_ | refine Wo.val rfl (.mv rfl) ?_ | refine Wo.val rfl (.bin rfl rfl (by assumption)) ?_)
  exact Fin.kret rfl ⟨rfl, hG⟩
end
end Go.Vd.L
