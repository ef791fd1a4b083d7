/- General contracts: bytes of names. -/
import Derived.Test.YtabgoidablkmjaaGreatDoorYdK2
import Derived.Test.YtabgoidablkmjaaGreatDoorYdW
set_option linter.unusedVariables false
set_option linter.unusedSimpArgs false
namespace Go.Vd.L
open Go.Vd

def letterI (c : Int) : Bool := (decide (Int.ofNat 97 ≤ c) && decide (c ≤ Int.ofNat 122)) || (decide (Int.ofNat 65 ≤ c) && decide (c ≤ Int.ofNat 90))
def plainI (c : Int) : Bool := (letterI c || (decide (Int.ofNat 48 ≤ c) && decide (c ≤ Int.ofNat 57))) || decide (c = Int.ofNat 95)

theorem rt68 (c : Int) (H : AH) : Rt Ck 68 [.int .u8 c] H fun v H' => v = .bool (letterI c) ∧ H' = H := by
  refine Rt.enter (af := c68) rfl rfl ?_
  repeat' (first | refine Wc.seq ?_ | refine Wc.reg ?_ | refine Fin.seq ?_ | refine Wo.nil ?_ | refine Wo.val rfl (.mv rfl) ?_ | refine Wo.val rfl (.bin rfl rfl rfl) ?_)
  refine Wo.branch rfl (fun h1 => ?_) (fun h1 => ?_)
  all_goals
    repeat' (first | refine Wo.skip rfl ?_ | refine Wo.val rfl (.mv rfl) ?_ | refine Wo.val rfl (.pick_t rfl rfl) ?_ | refine Wo.val rfl (.pick_f rfl rfl) ?_ | refine Wo.val rfl (.bin rfl rfl rfl) ?_)
    refine Wo.branch rfl (fun h2 => ?_) (fun h2 => ?_)
  all_goals repeat' (first | refine Wc.ret ?_ | refine Fin.seq ?_ | refine Wo.nil ?_ | refine Wo.skip rfl ?_ | refine Wo.val rfl (.mv rfl) ?_ | refine Wo.val rfl (.pick_t rfl rfl) ?_ | refine Wo.val rfl (.pick_f rfl rfl) ?_ | refine Wo.val rfl (.bin rfl rfl rfl) ?_)
  all_goals try
    refine Wo.branch rfl (fun h3 => ?_) (fun h3 => ?_)
  all_goals repeat' (first | refine Wc.ret ?_ | refine Fin.seq ?_ | refine Wo.nil ?_ | refine Wo.skip rfl ?_ | refine Wo.val rfl (.mv rfl) ?_ | refine Wo.val rfl (.pick_t rfl rfl) ?_ | refine Wo.val rfl (.pick_f rfl rfl) ?_ | refine Wo.val rfl (.bin rfl rfl rfl) ?_)
  all_goals
    refine Fin.kret rfl ⟨?_, rfl⟩
    simp_all [oneR, letterI] <;> omega

theorem rt91 (c : Int) (H : AH) : Rt Ck 91 [.int .u8 c] H fun v H' => v = .bool (letterI c) ∧ H' = H := by
  refine Rt.enter (af := c91) rfl rfl ?_
  repeat' (first | refine Wc.seq ?_ | refine Wc.reg ?_ | refine Fin.seq ?_ | refine Wo.nil ?_ | refine Wo.val rfl (.mv rfl) ?_ | refine Wo.val rfl (.bin rfl rfl rfl) ?_)
  refine Wo.branch rfl (fun h1 => ?_) (fun h1 => ?_)
  all_goals
    repeat' (first | refine Wo.skip rfl ?_ | refine Wo.val rfl (.mv rfl) ?_ | refine Wo.val rfl (.pick_t rfl rfl) ?_ | refine Wo.val rfl (.pick_f rfl rfl) ?_ | refine Wo.val rfl (.bin rfl rfl rfl) ?_)
    refine Wo.branch rfl (fun h2 => ?_) (fun h2 => ?_)
  all_goals repeat' (first | refine Wc.ret ?_ | refine Fin.seq ?_ | refine Wo.nil ?_ | refine Wo.skip rfl ?_ | refine Wo.val rfl (.mv rfl) ?_ | refine Wo.val rfl (.pick_t rfl rfl) ?_ | refine Wo.val rfl (.pick_f rfl rfl) ?_ | refine Wo.val rfl (.bin rfl rfl rfl) ?_)
  all_goals try
    refine Wo.branch rfl (fun h3 => ?_) (fun h3 => ?_)
  all_goals repeat' (first | refine Wc.ret ?_ | refine Fin.seq ?_ | refine Wo.nil ?_ | refine Wo.skip rfl ?_ | refine Wo.val rfl (.mv rfl) ?_ | refine Wo.val rfl (.pick_t rfl rfl) ?_ | refine Wo.val rfl (.pick_f rfl rfl) ?_ | refine Wo.val rfl (.bin rfl rfl rfl) ?_)
  all_goals
    refine Fin.kret rfl ⟨?_, rfl⟩
    simp_all [oneR, letterI] <;> omega

theorem rt38 (c : Int) (H : AH) : Rt Ck 38 [.int .u8 c] H fun v H' => v = .bool (plainI c) ∧ H' = H := by
  refine Rt.enter (af := c38) rfl rfl ?_
  repeat' (first | refine Wc.seq ?_ | refine Wc.reg ?_ | refine Fin.seq ?_ | refine Wo.nil ?_ | refine Wo.val rfl (.mv rfl) ?_)
  refine Wo.call rfl rfl (rt68 c H) ?_
  rintro _ _ ⟨rfl, rfl⟩
  repeat' refine Wo.val rfl (.mv rfl) ?_
  refine Wo.branch rfl (fun h1 => ?_) (fun h1 => ?_)
  all_goals repeat' (first | refine Wc.ret ?_ | refine Fin.seq ?_ | refine Wo.nil ?_ | refine Wo.skip rfl ?_ | refine Wo.val rfl (.mv rfl) ?_ | refine Wo.val rfl (.pick_t rfl rfl) ?_ | refine Wo.val rfl (.bin rfl rfl rfl) ?_)
  all_goals try
    refine Wo.branch rfl (fun h2 => ?_) (fun h2 => ?_)
  all_goals repeat' (first | refine Wc.ret ?_ | refine Fin.seq ?_ | refine Wo.nil ?_ | refine Wo.skip rfl ?_ | refine Wo.val rfl (.mv rfl) ?_ | refine Wo.val rfl (.pick_t rfl rfl) ?_ | refine Wo.val rfl (.pick_f rfl rfl) ?_ | refine Wo.val rfl (.bin rfl rfl rfl) ?_)
  all_goals try
    refine Wo.branch rfl (fun h3 => ?_) (fun h3 => ?_)
  all_goals repeat' (first | refine Wc.ret ?_ | refine Fin.seq ?_ | refine Wo.nil ?_ | refine Wo.skip rfl ?_ | refine Wo.val rfl (.mv rfl) ?_ | refine Wo.val rfl (.pick_t rfl rfl) ?_ | refine Wo.val rfl (.pick_f rfl rfl) ?_ | refine Wo.val rfl (.bin rfl rfl rfl) ?_)
  all_goals
    refine Fin.kret rfl ⟨?_, rfl⟩
    simp_all [oneR, plainI] <;> omega
end Go.Vd.L
namespace Go.Vd.L
open Go.Vd

theorem plainI_N (b : UInt8) : plainI (b.toNat : Int) = plainN b.toNat := by
  unfold plainI letterI plainN
  have e1 : ∀ a c : Nat, Nat.ble a c = decide (a ≤ c) := fun a c => by
    cases h : Nat.ble a c with
    | true => exact (decide_eq_true (Nat.le_of_ble_eq_true h)).symm
    | false => exact (decide_eq_false (fun g => by rw [Nat.ble_eq_true_of_le g] at h; cases h)).symm
  have e2 : ∀ a c : Nat, Nat.beq a c = decide (a = c) := fun a c => by
    cases h : Nat.beq a c with
    | true => exact (decide_eq_true (Nat.eq_of_beq_eq_true h)).symm
    | false => exact (decide_eq_false (fun g => by subst g; rw [Nat.beq_refl] at h; cases h)).symm
  simp only [e1, e2]
  have h1 : ∀ k : Nat, decide (Int.ofNat k ≤ (b.toNat : Int)) = decide (k ≤ b.toNat) := fun k => by
    congr 1; apply propext; constructor <;> intro h
    · exact Int.ofNat_le.1 h
    · exact Int.ofNat_le.2 h
  have h2 : ∀ k : Nat, decide ((b.toNat : Int) ≤ Int.ofNat k) = decide (b.toNat ≤ k) := fun k => by
    congr 1; apply propext; constructor <;> intro h
    · exact Int.ofNat_le.1 h
    · exact Int.ofNat_le.2 h
  have h3 : ∀ k : Nat, decide ((b.toNat : Int) = Int.ofNat k) = decide (b.toNat = k) := fun k => by
    congr 1; apply propext; constructor <;> intro h
    · exact Int.ofNat.inj h
    · rw [h]; rfl
  simp only [h1, h2, h3]

theorem five {s : List UInt8} (h : s.length = 5) : ∃ a b c d e, s = [a, b, c, d, e] := by
  match s, h with
  | [a, b, c, d, e], _ => exact ⟨a, b, c, d, e, rfl⟩

theorem keyW_5 (a b c d e : UInt8) : keyW [a, b, c, d, e] = (strEq [a, b, c, d] [84, 121, 112, 101] && digitN e.toNat) := by
  simp [keyW, strEq]

theorem keyW_n {s : List UInt8} (h : s.length ≠ 5) : keyW s = (strEq s [102, 117, 110] || strEq s [112, 105] || strEq s [108, 101, 116] || strEq s [105, 110]) := by
  unfold keyW
  split
  · exact absurd rfl h
  · simp

theorem lo48 (n : Nat) : decide ((48 : Int) ≤ (n : Int)) = Nat.ble 48 n := lo_dec 48 n
theorem hi57 (n : Nat) : decide ((n : Int) ≤ 57) = Nat.ble n 57 := hi_dec 57 n
theorem rt37 (s : List UInt8) (H : AH) : Rt Ck 37 [.str s] H fun v H' => v = .bool (keyW s) ∧ H' = H := by
  refine Rt.enter (af := c37) rfl rfl ?_
  by_cases h5 : s.length = 5
  · obtain ⟨a, b, c, d, e, rfl⟩ := five h5
    rw [keyW_5]
    have k1 : strEq [a, b, c, d, e] [102, 117, 110] = false := strEq_len (by simp)
    have k2 : strEq [a, b, c, d, e] [112, 105] = false := strEq_len (by simp)
    have k3 : strEq [a, b, c, d, e] [108, 101, 116] = false := strEq_len (by simp)
    have k4 : strEq [a, b, c, d, e] [105, 110] = false := strEq_len (by simp)
    repeat' (first | refine Wc.seq ?_ | refine Wc.reg ?_ | refine Fin.seq ?_ | refine Wo.nil ?_ | refine Wo.val rfl (.mv rfl) ?_ | refine Wo.val rfl (.bin rfl rfl rfl) ?_)
    all_goals try refine Wo.branch rfl (fun hb => ?_) (fun hb => ?_)
    all_goals repeat' (first | refine Wc.ret ?_ | refine Fin.seq ?_ | refine Wo.nil ?_ | refine Wo.skip rfl ?_ | refine Wo.val rfl (.mv rfl) ?_ | refine Wo.val rfl (.pick_t rfl rfl) ?_ | refine Wo.val rfl (.pick_f rfl rfl) ?_ | refine Wo.val rfl (.bin rfl rfl rfl) ?_)
    all_goals try refine Wo.branch rfl (fun hb => ?_) (fun hb => ?_)
    all_goals repeat' (first | refine Wc.ret ?_ | refine Fin.seq ?_ | refine Wo.nil ?_ | refine Wo.skip rfl ?_ | refine Wo.val rfl (.mv rfl) ?_ | refine Wo.val rfl (.pick_t rfl rfl) ?_ | refine Wo.val rfl (.pick_f rfl rfl) ?_ | refine Wo.val rfl (.bin rfl rfl rfl) ?_)
    all_goals try refine Wo.branch rfl (fun hb => ?_) (fun hb => ?_)
    all_goals repeat' (first | refine Wc.ret ?_ | refine Fin.seq ?_ | refine Wo.nil ?_ | refine Wo.skip rfl ?_ | refine Wo.val rfl (.mv rfl) ?_ | refine Wo.val rfl (.pick_t rfl rfl) ?_ | refine Wo.val rfl (.pick_f rfl rfl) ?_ | refine Wo.val rfl (.bin rfl rfl rfl) ?_)
    all_goals try refine Wo.branch rfl (fun hb => ?_) (fun hb => ?_)
    all_goals repeat' (first | refine Wc.ret ?_ | refine Fin.seq ?_ | refine Wo.nil ?_ | refine Wo.skip rfl ?_ | refine Wo.val rfl (.mv rfl) ?_ | refine Wo.val rfl (.pick_t rfl rfl) ?_ | refine Wo.val rfl (.bin rfl rfl rfl) ?_ | refine Wo.val rfl (.tlen rfl) ?_ | refine Wo.val rfl (.sls rfl rfl rfl rfl) ?_)
    all_goals try refine Wo.branch rfl (fun hb => ?_) (fun hb => ?_)
    all_goals repeat' (first | refine Wc.ret ?_ | refine Fin.seq ?_ | refine Wo.nil ?_ | refine Wo.skip rfl ?_ | refine Wo.val rfl (.mv rfl) ?_ | refine Wo.val rfl (.pick_t rfl rfl) ?_ | refine Wo.val rfl (.pick_f rfl rfl) ?_ | refine Wo.val rfl (.bin rfl rfl rfl) ?_ | refine Wo.val rfl (.ixt rfl rfl (by decide) rfl) ?_)
    all_goals try refine Wo.branch rfl (fun hb => ?_) (fun hb => ?_)
    all_goals repeat' (first | refine Wc.ret ?_ | refine Fin.seq ?_ | refine Wo.nil ?_ | refine Wo.skip rfl ?_ | refine Wo.val rfl (.mv rfl) ?_ | refine Wo.val rfl (.pick_t rfl rfl) ?_ | refine Wo.val rfl (.pick_f rfl rfl) ?_ | refine Wo.val rfl (.bin rfl rfl rfl) ?_ | refine Wo.val rfl (.ixt rfl rfl (by decide) rfl) ?_)
    all_goals try refine Wo.branch rfl (fun hb => ?_) (fun hb => ?_)
    all_goals skip
    all_goals
      refine Fin.kret rfl ⟨?_, rfl⟩
      (try rw [lo_dec] at hb)
      simp_all [oneR, hi57, digitN]
  · rw [keyW_n h5]
    repeat' (first | refine Wc.seq ?_ | refine Wc.reg ?_ | refine Fin.seq ?_ | refine Wo.nil ?_ | refine Wo.val rfl (.mv rfl) ?_ | refine Wo.val rfl (.bin rfl rfl rfl) ?_)
    all_goals try refine Wo.branch rfl (fun hb => ?_) (fun hb => ?_)
    all_goals repeat' (first | refine Wc.ret ?_ | refine Fin.seq ?_ | refine Wo.nil ?_ | refine Wo.skip rfl ?_ | refine Wo.val rfl (.mv rfl) ?_ | refine Wo.val rfl (.pick_t rfl rfl) ?_ | refine Wo.val rfl (.pick_f rfl rfl) ?_ | refine Wo.val rfl (.bin rfl rfl rfl) ?_)
    all_goals try refine Wo.branch rfl (fun hb => ?_) (fun hb => ?_)
    all_goals repeat' (first | refine Wc.ret ?_ | refine Fin.seq ?_ | refine Wo.nil ?_ | refine Wo.skip rfl ?_ | refine Wo.val rfl (.mv rfl) ?_ | refine Wo.val rfl (.pick_t rfl rfl) ?_ | refine Wo.val rfl (.pick_f rfl rfl) ?_ | refine Wo.val rfl (.bin rfl rfl rfl) ?_)
    all_goals try refine Wo.branch rfl (fun hb => ?_) (fun hb => ?_)
    all_goals repeat' (first | refine Wc.ret ?_ | refine Fin.seq ?_ | refine Wo.nil ?_ | refine Wo.skip rfl ?_ | refine Wo.val rfl (.mv rfl) ?_ | refine Wo.val rfl (.pick_t rfl rfl) ?_ | refine Wo.val rfl (.pick_f rfl rfl) ?_ | refine Wo.val rfl (.bin rfl rfl rfl) ?_)
    all_goals try refine Wo.branch rfl (fun hb => ?_) (fun hb => ?_)
    all_goals repeat' (first | refine Wc.ret ?_ | refine Fin.seq ?_ | refine Wo.nil ?_ | refine Wo.skip rfl ?_ | refine Wo.val rfl (.mv rfl) ?_ | refine Wo.val rfl (.pick_t rfl rfl) ?_ | refine Wo.val rfl (.bin rfl rfl rfl) ?_ | refine Wo.val rfl (.tlen rfl) ?_)
    all_goals try refine Wo.branch rfl (fun hb => ?_) (fun hb => ?_)
    all_goals repeat' (first | refine Wc.ret ?_ | refine Fin.seq ?_ | refine Wo.nil ?_ | refine Wo.skip rfl ?_ | refine Wo.val rfl (.mv rfl) ?_ | refine Wo.val rfl (.pick_f rfl rfl) ?_)
    all_goals first
      | (refine Fin.kret rfl ⟨?_, rfl⟩; simp_all [oneR]; done)
      | exact absurd (Int.ofNat.inj (of_decide_eq_true hb)) h5

/-- The loop of Bound: are all bytes plain? -/
theorem loop15 {H : AH} {s : List UInt8} (hs : s.length < 1000) {Q : AEx → ASt → Prop} (h1 : s.all (fun b => plainN b.toNat) = true → Fin Q (.exit 0) [] [] H)
    (h2 : s.all (fun b => plainN b.toNat) = false → Fin Q .ret [(2, .bool false)] [] H) : ∀ d i, s.length - i = d → i ≤ s.length → (s.take i).all (fun b => plainN b.toNat) = true →
    Wc Ck (.loop (bodyN c15 0)) [(0, .str s), (3, .int .i64 (i : Nat))] [] H Q := by
  intro d
  induction d with
  | zero =>
    intro i hd hi ha
    have : i = s.length := by omega
    subst this
    refine Wc.loop ?_
    repeat' (first | refine Wc.seq ?_ | refine Wc.reg ?_ | refine Fin.seq ?_ | refine Wo.nil ?_ | refine Wo.val rfl (.mv rfl) ?_ | refine Wo.val rfl (.bin rfl rfl rfl) ?_ | refine Wo.val rfl (.tlen rfl) ?_)
    refine Wc.ifs rfl (fun hb => ?_) (fun hb => ?_)
    · exfalso; simp [lt_cast] at hb
    · repeat' (first | refine Wc.exit ?_ | refine Fin.seq_exit ?_)
      exact (h1 (all_take_all ha)).weak trivial
  | succ d ih =>
    intro i hd hi ha
    refine Wc.loop ?_
    have hlt : i < s.length := by omega
    repeat' (first | refine Wc.seq ?_ | refine Wc.reg ?_ | refine Fin.seq ?_ | refine Wo.nil ?_ | refine Wo.val rfl (.mv rfl) ?_ | refine Wo.val rfl (.bin rfl rfl rfl) ?_ | refine Wo.val rfl (.tlen rfl) ?_)
    refine Wc.ifs rfl (fun hb => ?_) (fun hb => ?_)
    · repeat' (first | refine Wc.seq ?_ | refine Wc.block ?_ | refine Wc.reg ?_ | refine Wc.skip ?_ | refine Fin.seq ?_ | refine Wo.val rfl (.mv rfl) ?_)
      refine Wo.val rfl (.ixt (b := s[i]) rfl rfl (by omega) (by simp [hlt])) ?_
      refine Wo.call rfl rfl (rt38 _ H) ?_
      rintro _ _ ⟨rfl, rfl⟩
      rw [plainI_N]
      repeat' (first | refine Fin.seq ?_ | refine Wo.nil ?_ | refine Wo.val rfl (.un rfl rfl) ?_)
      refine Wc.ifs rfl (fun hp => ?_) (fun hp => ?_)
      · repeat' (first | refine Wc.seq ?_ | refine Wc.reg ?_ | refine Wc.ret ?_ | refine Fin.seq ?_ | refine Fin.seq_ret ?_ | refine Fin.block_ret ?_ | refine Wo.nil ?_ | refine Wo.val rfl (.mv rfl) ?_)
        exact (h2 (all_false_at (i := i) (b := s[i]) (by simp [hlt]) (by simpa using hp))).weak ⟨rfl, trivial⟩
      · repeat' (first | refine Wc.reg ?_ | refine Wc.skip ?_ | refine Fin.seq ?_ | refine Fin.block ?_ | refine Wo.nil ?_ | refine Wo.val rfl (.mv rfl) ?_ | refine Wo.val rfl (.bin rfl rfl rfl) ?_)
        refine (ih (i + 1) (by omega) (by omega) (all_take_succ (b := s[i]) (by simp [hlt]) ha (by simpa using hp))).weak ⟨rfl, ?_, trivial⟩
        show some (AV.int .i64 _) = _
        rw [wrap_succ (by omega)]
    · exfalso; simp [lt_cast] at hb; omega

theorem rt15 (s : List UInt8) (H : AH) : Rt Ck 15 [.str s] H fun v H' => v = .bool (boundB s) ∧ H' = H := by
  refine Rt.enter (af := c15) rfl rfl ?_
  match s with
  | [] =>
    repeat' (first | refine Wc.seq ?_ | refine Wc.reg ?_ | refine Wc.ret ?_ | refine Fin.seq ?_ | refine Fin.seq_ret ?_ | refine Wo.nil ?_ | refine Wc.cond_t rfl ?_ | refine Wo.skip rfl ?_ | refine Wo.val rfl (.mv rfl) ?_ | refine Wo.val rfl (.pick_t rfl rfl) ?_ | refine Wo.val rfl (.bin rfl rfl rfl) ?_ | refine Wo.val rfl (.tlen rfl) ?_)
    refine Fin.kret rfl ⟨?_, rfl⟩
    rfl
  | a :: r =>
    generalize hs : a :: r = s
    have h0 : s[0]? = some a := by subst hs; rfl
    have hl : 1 ≤ s.length := by subst hs; simp
    have hB : boundB s = (Nat.ble s.length 24 && !digitN a.toNat && s.all (fun b => plainN b.toNat) && !keyW s) := by
      subst hs
      have : Nat.ble 1 (r.length + 1) = true := Nat.ble_eq_true_of_le (by omega)
      simp [boundB, this]
    rw [hB]
    clear hs
    have tail : s.length ≤ 24 → digitN a.toNat = false → keyW s = false → ∀ l, Wc Ck (.loop (bodyN c15 0)) ((0, .str s) :: (3, .int .i64 (0 : Nat)) :: l) [] H (kblock 0 (kseq Ck (.seq (.reg [⟨some 2, .mv (.c (.bool true)), none⟩]) .ret) (kret c15 fun v H' => v = .bool (Nat.ble s.length 24 && !digitN a.toNat && s.all (fun b => plainN b.toNat) && !keyW s) ∧ H' = H))) := by
      intro q1 q2 q3 l
      refine (loop15 (by omega) (fun ha => ?_) (fun ha => ?_) _ 0 rfl (Nat.zero_le _) (by simp)).weak ⟨rfl, rfl, trivial⟩
      · repeat' (first | refine Wc.seq ?_ | refine Wc.reg ?_ | refine Wc.ret ?_ | refine Fin.seq ?_ | refine Fin.block_here ?_ | refine Wo.nil ?_ | refine Wo.val rfl (.mv rfl) ?_)
        refine Fin.kret rfl ⟨?_, rfl⟩
        simp [oneR, q1, q2, q3, ha]
      · repeat' (first | refine Fin.seq_ret ?_ | refine Fin.block_ret ?_)
        refine Fin.kret rfl ⟨?_, rfl⟩
        simp [oneR, ha]
    repeat' (first | refine Wc.seq ?_ | refine Wc.reg ?_ | refine Fin.seq ?_ | refine Wo.nil ?_ | refine Wo.val rfl (.mv rfl) ?_ | refine Wo.val rfl (.bin rfl rfl rfl) ?_ | refine Wo.val rfl (.tlen rfl) ?_)
    refine Wo.branch rfl (fun b1 => ?_) (fun b1 => ?_)
    · exfalso; rw [lt_dec] at b1; simp at b1; subst b1; simp at hl
    repeat' (first | refine Wo.val rfl (.mv rfl) ?_ | refine Wo.val rfl (.pick_f rfl rfl) ?_ | refine Wo.val rfl (.bin rfl rfl rfl) ?_ | refine Wo.val rfl (.tlen rfl) ?_)
    refine Wo.branch rfl (fun b2 => ?_) (fun b2 => ?_)
    · repeat' (first | refine Wc.seq ?_ | refine Wc.reg ?_ | refine Wc.ret ?_ | refine Fin.seq ?_ | refine Fin.seq_ret ?_ | refine Wo.nil ?_ | refine Wc.cond_t rfl ?_ | refine Wo.skip rfl ?_ | refine Wo.val rfl (.mv rfl) ?_ | refine Wo.val rfl (.pick_t rfl rfl) ?_)
      refine Fin.kret rfl ⟨?_, rfl⟩
      have : Nat.ble s.length 24 = false := by rw [blt_dec]; rw [gt_dec] at b2; simp at b2 ⊢; exact b2
      simp [oneR, this]
    have hl2 : s.length ≤ 24 := by rw [gt_dec] at b2; simp at b2; exact b2
    repeat' refine Wo.val rfl (.mv rfl) ?_
    refine Wo.val rfl (.ixt rfl rfl (by decide) h0) ?_
    repeat' (first | refine Wo.val rfl (.mv rfl) ?_ | refine Wo.val rfl (.bin rfl rfl rfl) ?_)
    refine Wo.branch rfl (fun b3 => ?_) (fun b3 => ?_)
    · repeat' refine Wo.val rfl (.mv rfl) ?_
      refine Wo.val rfl (.ixt rfl rfl (by decide) h0) ?_
      repeat' (first | refine Wo.val rfl (.mv rfl) ?_ | refine Wo.val rfl (.pick_t rfl rfl) ?_ | refine Wo.val rfl (.pick_f rfl rfl) ?_ | refine Wo.val rfl (.bin rfl rfl rfl) ?_)
      refine Wo.branch rfl (fun b4 => ?_) (fun b4 => ?_)
      · repeat' (first | refine Wc.seq ?_ | refine Wc.reg ?_ | refine Wc.ret ?_ | refine Fin.seq ?_ | refine Fin.seq_ret ?_ | refine Wo.nil ?_ | refine Wc.cond_t rfl ?_ | refine Wo.skip rfl ?_ | refine Wo.val rfl (.mv rfl) ?_ | refine Wo.val rfl (.pick_t rfl rfl) ?_)
        refine Fin.kret rfl ⟨?_, rfl⟩
        have : digitN a.toNat = true := by rw [lo_dec] at b3; rw [hi_dec] at b4; simp only [digitN, b3, b4, Bool.and_self]
        simp [oneR, this]
      · have hd : digitN a.toNat = false := by rw [hi_dec] at b4; simp only [digitN, b4, Bool.and_false]
        repeat' refine Wo.val rfl (.mv rfl) ?_
        refine Wo.call rfl rfl (rt37 s H) ?_
        rintro _ _ ⟨rfl, rfl⟩
        repeat' (first | refine Fin.seq ?_ | refine Wo.nil ?_ | refine Wo.val rfl (.pick_f rfl rfl) ?_)
        refine Wc.ifs rfl (fun b5 => ?_) (fun b5 => ?_)
        · repeat' (first | refine Wc.seq ?_ | refine Wc.reg ?_ | refine Wc.ret ?_ | refine Fin.seq ?_ | refine Fin.seq_ret ?_ | refine Wo.nil ?_ | refine Wo.val rfl (.mv rfl) ?_)
          refine Fin.kret rfl ⟨?_, rfl⟩
          simp [oneR, b5]
        · repeat' (first | refine Wc.seq ?_ | refine Wc.block ?_ | refine Wc.reg ?_ | refine Wc.skip ?_ | refine Fin.seq ?_ | refine Wo.nil ?_ | refine Wo.val rfl (.mv rfl) ?_)
          exact (tail hl2 hd b5 []).weak ⟨rfl, rfl, trivial⟩
    · have hd : digitN a.toNat = false := by rw [lo_dec] at b3; simp only [digitN, b3, Bool.false_and]
      repeat' (first | refine Wo.skip rfl ?_ | refine Wo.val rfl (.mv rfl) ?_ | refine Wo.val rfl (.pick_f rfl rfl) ?_)
      refine Wo.call rfl rfl (rt37 s H) ?_
      rintro _ _ ⟨rfl, rfl⟩
      repeat' (first | refine Fin.seq ?_ | refine Wo.nil ?_ | refine Wo.val rfl (.pick_f rfl rfl) ?_)
      refine Wc.ifs rfl (fun b5 => ?_) (fun b5 => ?_)
      · repeat' (first | refine Wc.seq ?_ | refine Wc.reg ?_ | refine Wc.ret ?_ | refine Fin.seq ?_ | refine Fin.seq_ret ?_ | refine Wo.nil ?_ | refine Wo.val rfl (.mv rfl) ?_)
        refine Fin.kret rfl ⟨?_, rfl⟩
        simp [oneR, b5]
      · repeat' (first | refine Wc.seq ?_ | refine Wc.block ?_ | refine Wc.reg ?_ | refine Wc.skip ?_ | refine Fin.seq ?_ | refine Wo.nil ?_ | refine Wo.val rfl (.mv rfl) ?_)
        exact (tail hl2 hd b5 []).weak ⟨rfl, rfl, trivial⟩
end Go.Vd.L
namespace Go.Vd.L
open Go.Vd

/-- Does a string begin with another one? -/
def hasPre (s p : List UInt8) : Bool := strEq (s.take p.length) p

theorem hasPre_short {s p : List UInt8} (h : s.length < p.length) : hasPre s p = false := strEq_len (by rw [List.length_take]; omega)

theorem rt99 (s p : List UInt8) (H : AH) : Rt Ck 99 [.str s, .str p] H fun v H' => v = .bool (hasPre s p) ∧ H' = H := by
  refine Rt.enter (af := c99) rfl rfl ?_
  repeat' (first | refine Wc.seq ?_ | refine Wc.reg ?_ | refine Fin.seq ?_ | refine Wo.nil ?_ | refine Wo.val rfl (.mv rfl) ?_ | refine Wo.val rfl (.bin rfl rfl rfl) ?_ | refine Wo.val rfl (.tlen rfl) ?_)
  refine Wo.branch rfl (fun h1 => ?_) (fun h1 => ?_)
  · have hle : p.length ≤ s.length := by simpa using h1
    repeat' (first | refine Wo.val rfl (.mv rfl) ?_ | refine Wo.val rfl (.tlen rfl) ?_)
    refine Wo.val rfl (.sls rfl rfl rfl (bnds_hi hle)) ?_
    repeat' (first | refine Wc.ret ?_ | refine Fin.seq ?_ | refine Wo.nil ?_ | refine Wo.val rfl (.mv rfl) ?_ | refine Wo.val rfl (.pick_t rfl rfl) ?_ | refine Wo.val rfl (.bin rfl rfl rfl) ?_)
    refine Fin.kret rfl ⟨?_, rfl⟩
    simp [oneR, hasPre]
  · have hle : s.length < p.length := by simpa using h1
    repeat' (first | refine Wc.ret ?_ | refine Fin.seq ?_ | refine Wo.nil ?_ | refine Wo.skip rfl ?_ | refine Wo.val rfl (.mv rfl) ?_ | refine Wo.val rfl (.pick_f rfl rfl) ?_)
    refine Fin.kret rfl ⟨?_, rfl⟩
    simp [oneR, hasPre_short hle]

def cutPre (s p : List UInt8) : List UInt8 := if hasPre s p then s.drop p.length else s

theorem rt87 (s p : List UInt8) (H : AH) : Rt Ck 87 [.str s, .str p] H fun v H' => v = .tup [.str (cutPre s p), .bool (hasPre s p)] ∧ H' = H := by
  refine Rt.enter (af := c87) rfl rfl ?_
  repeat' (first | refine Wc.seq ?_ | refine Wc.reg ?_ | refine Fin.seq ?_ | refine Wo.nil ?_ | refine Wo.val rfl (.mv rfl) ?_)
  refine Wo.call rfl rfl (rt99 s p H) ?_
  rintro _ _ ⟨rfl, rfl⟩
  repeat' (first | refine Fin.seq ?_ | refine Wo.nil ?_ | refine Wo.val rfl (.un rfl rfl) ?_)
  refine Wc.ifs rfl (fun h1 => ?_) (fun h1 => ?_)
  · repeat' (first | refine Wc.seq ?_ | refine Wc.reg ?_ | refine Wc.ret ?_ | refine Fin.seq ?_ | refine Fin.seq_ret ?_ | refine Wo.nil ?_ | refine Wo.val rfl (.mv rfl) ?_)
    refine Fin.kret rfl ⟨?_, rfl⟩
    have h1 : hasPre s p = false := by simpa using h1
    simp [oneR, cutPre, h1]
  · have h1 : hasPre s p = true := by simpa using h1
    have hle : p.length ≤ s.length := by
      rcases Nat.lt_or_ge s.length p.length with h | h
      · rw [hasPre_short h] at h1; cases h1
      · exact h
    repeat' (first | refine Wc.seq ?_ | refine Wc.reg ?_ | refine Wc.skip ?_ | refine Fin.seq ?_ | refine Wo.val rfl (.mv rfl) ?_ | refine Wo.val rfl (.tlen rfl) ?_)
    refine Wo.val rfl (.sls rfl rfl rfl (bnds_lo hle)) ?_
    repeat' (first | refine Wc.ret ?_ | refine Fin.seq ?_ | refine Wo.nil ?_ | refine Wo.val rfl (.mv rfl) ?_)
    refine Fin.kret rfl ⟨?_, rfl⟩
    simp only [oneR, cutPre, h1, if_true]
    rw [List.take_of_length_le (by simp)]

theorem rt69 (s p : List UInt8) (H : AH) : Rt Ck 69 [.str s, .str p] H fun v H' => v = .tup [.str (cutPre s p), .bool (hasPre s p)] ∧ H' = H := by
  refine Rt.enter (af := c69) rfl rfl ?_
  repeat' (first | refine Wc.seq ?_ | refine Wc.reg ?_ | refine Fin.seq ?_ | refine Wo.nil ?_ | refine Wo.val rfl (.mv rfl) ?_)
  refine Wo.call rfl rfl (rt87 s p H) ?_
  rintro _ _ ⟨rfl, rfl⟩
  repeat' (first | refine Wc.ret ?_ | refine Fin.seq ?_ | refine Wo.nil ?_ | refine Wo.val rfl (.mv rfl) ?_ | refine Wo.val rfl (.ext rfl rfl) ?_)
  exact Fin.kret rfl ⟨rfl, rfl⟩

def digVal (b : UInt8) : Int := IntKind.i64.wrap (IntKind.u8.wrap ((b.toNat : Int) - Int.ofNat 48))
def digOf : List UInt8 → List AV
  | [b] => if digitN b.toNat then [.int .i64 (digVal b), .bool true] else [.int .i64 (Int.ofNat 0), .bool false]
  | _ => [.int .i64 (Int.ofNat 0), .bool false]

theorem rt43 (s : List UInt8) (H : AH) : Rt Ck 43 [.str s] H fun v H' => v = .tup (digOf s) ∧ H' = H := by
  refine Rt.enter (af := c43) rfl rfl ?_
  match s with
  | [] =>
    repeat' (first | refine Wc.seq ?_ | refine Wc.reg ?_ | refine Wc.ret ?_ | refine Fin.seq ?_ | refine Fin.seq_ret ?_ | refine Wo.nil ?_ | refine Wc.cond_t rfl ?_ | refine Wo.skip rfl ?_ | refine Wo.val rfl (.mv rfl) ?_ | refine Wo.val rfl (.pick_t rfl rfl) ?_ | refine Wo.val rfl (.bin rfl rfl rfl) ?_ | refine Wo.val rfl (.tlen rfl) ?_)
    exact Fin.kret rfl ⟨rfl, rfl⟩
  | [b] =>
    repeat' (first | refine Wc.seq ?_ | refine Wc.reg ?_ | refine Fin.seq ?_ | refine Wo.nil ?_ | refine Wo.val rfl (.mv rfl) ?_ | refine Wo.val rfl (.pick_f rfl rfl) ?_ | refine Wo.val rfl (.bin rfl rfl rfl) ?_ | refine Wo.val rfl (.tlen rfl) ?_ | refine Wo.val rfl (.ixt rfl rfl (by decide) rfl) ?_)
    refine Wo.branch rfl (fun h1 => ?_) (fun h1 => ?_)
    · repeat' (first | refine Wc.seq ?_ | refine Wc.reg ?_ | refine Wc.ret ?_ | refine Fin.seq ?_ | refine Fin.seq_ret ?_ | refine Wo.nil ?_ | refine Wc.cond_t rfl ?_ | refine Wo.skip rfl ?_ | refine Wo.val rfl (.mv rfl) ?_ | refine Wo.val rfl (.pick_t rfl rfl) ?_)
      refine Fin.kret rfl ⟨?_, rfl⟩
      rw [lt_dec] at h1
      have : digitN b.toNat = false := by simp only [digitN, blt_dec]; simp at h1 ⊢; omega
      simp [oneR, digOf, this]
    · rw [lt_dec] at h1
      repeat' (first | refine Fin.seq ?_ | refine Wo.nil ?_ | refine Wo.val rfl (.mv rfl) ?_ | refine Wo.val rfl (.pick_f rfl rfl) ?_ | refine Wo.val rfl (.bin rfl rfl rfl) ?_ | refine Wo.val rfl (.ixt rfl rfl (by decide) rfl) ?_)
      refine Wc.ifs rfl (fun h2 => ?_) (fun h2 => ?_)
      · repeat' (first | refine Wc.seq ?_ | refine Wc.reg ?_ | refine Wc.ret ?_ | refine Fin.seq ?_ | refine Fin.seq_ret ?_ | refine Wo.nil ?_ | refine Wo.val rfl (.mv rfl) ?_)
        refine Fin.kret rfl ⟨?_, rfl⟩
        rw [gt_dec] at h2
        have : digitN b.toNat = false := by simp only [digitN, blt_dec]; simp at h1 h2 ⊢; omega
        simp [oneR, digOf, this]
      · rw [gt_dec] at h2
        repeat' (first | refine Wc.seq ?_ | refine Wc.reg ?_ | refine Wc.skip ?_ | refine Wc.ret ?_ | refine Fin.seq ?_ | refine Wo.nil ?_ | refine Wo.val rfl (.mv rfl) ?_ | refine Wo.val rfl (.bin rfl rfl rfl) ?_ | refine Wo.val rfl (.conv_int rfl) ?_ | refine Wo.val rfl (.ixt rfl rfl (by decide) rfl) ?_)
        refine Fin.kret rfl ⟨?_, rfl⟩
        have : digitN b.toNat = true := by simp only [digitN, blt_dec]; simp at h1 h2 ⊢; omega
        simp only [oneR, digOf, this, if_true]
        rfl
  | a :: b :: r =>
    repeat' (first | refine Wc.seq ?_ | refine Wc.reg ?_ | refine Wc.ret ?_ | refine Fin.seq ?_ | refine Fin.seq_ret ?_ | refine Wo.nil ?_ | refine Wc.cond_t rfl ?_ | refine Wo.skip rfl ?_ | refine Wo.val rfl (.mv rfl) ?_ | refine Wo.val rfl (.pick_t rfl rfl) ?_ | refine Wo.val rfl (.bin rfl rfl rfl) ?_ | refine Wo.val rfl (.tlen rfl) ?_)
    exact Fin.kret rfl ⟨rfl, rfl⟩

def sortOf (s : List UInt8) : List AV := if hasPre s [84, 121, 112, 101] then digOf (s.drop 4) else [.int .i64 (Int.ofNat 0), .bool false]

theorem digOf_two (s : List UInt8) : ∃ n b, digOf s = [.int .i64 n, .bool b] := by
  unfold digOf
  split
  · split
    · exact ⟨_, _, rfl⟩
    · exact ⟨_, _, rfl⟩
  · exact ⟨_, _, rfl⟩

theorem rt40 (s : List UInt8) (H : AH) : Rt Ck 40 [.str s] H fun v H' => v = .tup (sortOf s) ∧ H' = H := by
  refine Rt.enter (af := c40) rfl rfl ?_
  repeat' (first | refine Wc.seq ?_ | refine Wc.reg ?_ | refine Fin.seq ?_ | refine Wo.nil ?_ | refine Wo.val rfl (.mv rfl) ?_)
  refine Wo.call rfl rfl (rt69 s _ H) ?_
  rintro _ _ ⟨rfl, rfl⟩
  repeat' (first | refine Wc.seq ?_ | refine Wc.reg ?_ | refine Fin.seq ?_ | refine Wo.nil ?_ | refine Wo.val rfl (.mv rfl) ?_ | refine Wo.val rfl (.un rfl rfl) ?_ | refine Wo.val rfl (.ext rfl rfl) ?_)
  refine Wc.ifs rfl (fun h1 => ?_) (fun h1 => ?_)
  · repeat' (first | refine Wc.seq ?_ | refine Wc.reg ?_ | refine Wc.ret ?_ | refine Fin.seq ?_ | refine Fin.seq_ret ?_ | refine Wo.nil ?_ | refine Wo.val rfl (.mv rfl) ?_)
    refine Fin.kret rfl ⟨?_, rfl⟩
    have h1 : hasPre s [84, 121, 112, 101] = false := by simpa using h1
    simp [oneR, sortOf, h1]
  · have h1 : hasPre s [84, 121, 112, 101] = true := by simpa using h1
    have e1 : cutPre s [84, 121, 112, 101] = s.drop 4 := by simp [cutPre, h1]
    rw [e1]
    obtain ⟨n, b, e⟩ := digOf_two (s.drop 4)
    repeat' (first | refine Wc.seq ?_ | refine Wc.reg ?_ | refine Wc.skip ?_ | refine Fin.seq ?_ | refine Wo.val rfl (.mv rfl) ?_)
    refine Wo.call rfl rfl (rt43 (s.drop 4) _) ?_
    rintro _ _ ⟨rfl, rfl⟩
    rw [e]
    repeat' (first | refine Wc.ret ?_ | refine Fin.seq ?_ | refine Wo.nil ?_ | refine Wo.val rfl (.mv rfl) ?_ | refine Wo.val rfl (.ext rfl rfl) ?_)
    refine Fin.kret rfl ⟨?_, rfl⟩
    simp [oneR, sortOf, h1, e]

def sortOK (s : List UInt8) : Bool := hasPre s [84, 121, 112, 101] && (match s.drop 4 with
  | [b] => digitN b.toNat
  | _ => false)

theorem sortOf_eq (s : List UInt8) : ∃ n, sortOf s = [.int .i64 n, .bool (sortOK s)] := by
  unfold sortOf sortOK
  cases hasPre s [84, 121, 112, 101] with
  | false => exact ⟨_, rfl⟩
  | true =>
    simp only [if_true, Bool.true_and]
    unfold digOf
    split
    · rename_i b hb
      cases digitN b.toNat with
      | true => exact ⟨_, rfl⟩
      | false => exact ⟨_, rfl⟩
    · exact ⟨_, rfl⟩

theorem keyW_sort (s : List UInt8) : keyW s = (strEq s [102, 117, 110] || strEq s [112, 105] || strEq s [108, 101, 116] || strEq s [105, 110] || sortOK s) := by
  by_cases h : s.length = 5
  · obtain ⟨a, b, c, d, e, rfl⟩ := five h
    have k1 : strEq [a, b, c, d, e] [102, 117, 110] = false := strEq_len (by simp)
    have k2 : strEq [a, b, c, d, e] [112, 105] = false := strEq_len (by simp)
    have k3 : strEq [a, b, c, d, e] [108, 101, 116] = false := strEq_len (by simp)
    have k4 : strEq [a, b, c, d, e] [105, 110] = false := strEq_len (by simp)
    rw [keyW_5]
    simp [k1, k2, k3, k4, sortOK, hasPre]
  · rw [keyW_n h]
    have : sortOK s = false := by
      unfold sortOK
      cases hp : hasPre s [84, 121, 112, 101] with
      | false => rfl
      | true =>
        simp only [Bool.true_and]
        split
        · rename_i b hb
          exfalso
          have := congrArg List.length hb
          simp at this
          omega
        · rfl
    rw [this, Bool.or_false]

theorem rt44 (s : List UInt8) (H : AH) : Rt Ck 44 [.str s] H fun v H' => v = .bool (keyW s) ∧ H' = H := by
  refine Rt.enter (af := c44) rfl rfl ?_
  rw [keyW_sort]
  obtain ⟨n, e⟩ := sortOf_eq s
  repeat' (first | refine Wc.seq ?_ | refine Wc.block ?_ | refine Wc.reg ?_ | refine Fin.seq ?_ | refine Wo.nil ?_ | refine Wo.val rfl (.mv rfl) ?_ | refine Wo.val rfl (.bin rfl rfl rfl) ?_)
  refine Wc.ifs rfl (fun h1 => ?_) (fun h1 => ?_)
  · repeat' (first | refine Wc.seq ?_ | refine Wc.reg ?_ | refine Wc.skip ?_ | refine Wc.ret ?_ | refine Wc.exit ?_ | refine Fin.seq ?_ | refine Fin.seq_exit ?_ | refine Fin.seq_ret ?_ | refine Fin.block ?_ | refine Fin.block_ret ?_ | refine Fin.block_here ?_ | refine Wo.nil ?_ | refine Wc.cond_t rfl ?_ | refine Wo.val rfl (.mv rfl) ?_)
    refine Fin.kret rfl ⟨?_, rfl⟩
    simp [oneR, h1]
  repeat' (first | refine Wc.reg ?_ | refine Fin.seq ?_ | refine Wo.nil ?_ | refine Wo.val rfl (.mv rfl) ?_ | refine Wo.val rfl (.bin rfl rfl rfl) ?_)
  refine Wc.ifs rfl (fun h2 => ?_) (fun h2 => ?_)
  · repeat' (first | refine Wc.seq ?_ | refine Wc.reg ?_ | refine Wc.ret ?_ | refine Wc.exit ?_ | refine Fin.seq ?_ | refine Fin.seq_exit ?_ | refine Fin.seq_ret ?_ | refine Fin.block ?_ | refine Fin.block_ret ?_ | refine Fin.block_here ?_ | refine Wo.nil ?_ | refine Wo.val rfl (.mv rfl) ?_)
    refine Fin.kret rfl ⟨?_, rfl⟩
    simp [oneR, h2]
  repeat' (first | refine Wc.seq ?_ | refine Wc.reg ?_ | refine Wc.skip ?_ | refine Fin.seq ?_ | refine Wo.nil ?_ | refine Wo.val rfl (.mv rfl) ?_ | refine Wo.val rfl (.bin rfl rfl rfl) ?_)
  refine Wc.ifs rfl (fun h3 => ?_) (fun h3 => ?_)
  · repeat' (first | refine Wc.seq ?_ | refine Wc.reg ?_ | refine Wc.skip ?_ | refine Wc.ret ?_ | refine Wc.exit ?_ | refine Fin.seq ?_ | refine Fin.seq_exit ?_ | refine Fin.seq_ret ?_ | refine Fin.block_ret ?_ | refine Fin.block_here ?_ | refine Fin.block_on rfl ?_ | refine Wo.nil ?_ | refine Wc.cond_t rfl ?_ | refine Wo.val rfl (.mv rfl) ?_)
    refine Fin.kret rfl ⟨?_, rfl⟩
    simp [oneR, h3]
  repeat' (first | refine Wc.reg ?_ | refine Fin.seq ?_ | refine Wo.nil ?_ | refine Wo.val rfl (.mv rfl) ?_ | refine Wo.val rfl (.bin rfl rfl rfl) ?_)
  refine Wc.ifs rfl (fun h4 => ?_) (fun h4 => ?_)
  · repeat' (first | refine Wc.seq ?_ | refine Wc.reg ?_ | refine Wc.ret ?_ | refine Wc.exit ?_ | refine Fin.seq ?_ | refine Fin.seq_exit ?_ | refine Fin.seq_ret ?_ | refine Fin.block_ret ?_ | refine Fin.block_here ?_ | refine Fin.block_on rfl ?_ | refine Wo.nil ?_ | refine Wo.val rfl (.mv rfl) ?_)
    refine Fin.kret rfl ⟨?_, rfl⟩
    simp [oneR, h4]
  repeat' (first | refine Wc.seq ?_ | refine Wc.reg ?_ | refine Wc.skip ?_ | refine Wc.exit ?_ | refine Fin.seq ?_ | refine Fin.seq_exit ?_ | refine Fin.block_here ?_ | refine Fin.block_on rfl ?_ | refine Wo.val rfl (.mv rfl) ?_)
  refine Wo.call rfl rfl (rt40 s H) ?_
  rintro _ _ ⟨rfl, rfl⟩
  rw [e]
  repeat' (first | refine Wc.seq ?_ | refine Wc.reg ?_ | refine Wc.ret ?_ | refine Fin.seq ?_ | refine Wo.nil ?_ | refine Wo.val rfl (.mv rfl) ?_ | refine Wo.val rfl (.ext rfl rfl) ?_)
  refine Fin.kret rfl ⟨?_, rfl⟩
  simp [oneR, h1, h2, h3, h4]
end Go.Vd.L
