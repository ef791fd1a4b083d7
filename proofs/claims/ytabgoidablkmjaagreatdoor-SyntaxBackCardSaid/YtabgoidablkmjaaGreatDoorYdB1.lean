/- General contracts: the reader of terms: numbers. -/
import Derived.Test.YtabgoidablkmjaaGreatDoorYdK6
import Derived.Test.YtabgoidablkmjaaGreatDoorYdW5
set_option linter.unusedVariables false
set_option linter.unusedSimpArgs false
namespace Go.Vd.L
open Go.Vd

theorem byte_wrap (b : UInt8) : IntKind.i64.wrap (b.toNat : Int) = (b.toNat : Int) := wrap_i64 (by omega) (by have := b.toNat_lt; omega)

theorem take_step {n p : Nat} (b : UInt8) (hn : n < p) (hp : p ≤ 562949953421312) :
    IntKind.i64.wrap ((n : Int) + IntKind.i64.wrap ((IntKind.i64.wrap (b.toNat : Int)).tmod (Int.ofNat 128) * (p : Int))) = ((n + b.toNat % 128 * p : Nat) : Int) ∧ n + b.toNat % 128 * p < p * 128 := by
  have h1 : b.toNat % 128 ≤ 127 := by omega
  have h2 : b.toNat % 128 * p ≤ 127 * p := Nat.mul_le_mul_right p h1
  have e1 : ((b.toNat : Int)).tmod (Int.ofNat 128) = ((b.toNat % 128 : Nat) : Int) := rfl
  have e2 : ((b.toNat % 128 : Nat) : Int) * (p : Int) = ((b.toNat % 128 * p : Nat) : Int) := (Int.natCast_mul _ _).symm
  rw [byte_wrap, e1, e2]
  generalize b.toNat % 128 * p = q at h2 ⊢
  refine ⟨?_, by omega⟩
  rw [wrap_i64 (n := (q : Int)) (by omega) (by omega), wrap_i64 (by omega) (by omega)]
  omega

theorem loop92 {H : AH} {s : List UInt8} {Q : AEx → ASt → Prop} (hR : ∀ (n : Nat) (r : List UInt8) (e : Int), n < 72057594037927936 → r.length ≤ s.length → Fin Q .ret [(2, .int .i64 n), (3, .str r), (4, .int .i64 e)] [] H)
    (hE : Fin Q (.exit 0) [(0, .str s)] [] H) : ∀ d i n p, 8 - i = d → i ≤ 7 → p = 128 ^ i → n < p → Wc Ck (.loop (bodyN c92 0)) [(0, .str s), (5, .int .i64 (n : Nat)), (6, .int .i64 (p : Nat)), (7, .int .i64 (i : Nat))] [] H Q := by
  intro d
  induction d with
  | zero => intro i n p h1 h2; omega
  | succ d ih =>
    intro i n p h1 h2 hp hn
    have hp7 : p ≤ 562949953421312 := by
      rw [hp]
      exact Nat.le_trans (Nat.pow_le_pow_right (by omega) h2) (by decide)
    refine Wc.loop ?_
    repeat' (first | refine Wc.seq ?_ | refine Wc.reg ?_ | refine Fin.seq ?_ | refine Wo.nil ?_ | refine Wo.val rfl (.mv rfl) ?_ | refine Wo.val rfl (.bin rfl rfl rfl) ?_ | refine Wo.val rfl (.tlen rfl) ?_)
    refine Wc.ifs rfl (fun hb => ?_) (fun hb => ?_)
    · rw [lt_cast] at hb
      have hlt : i < s.length := by simpa using hb
      obtain ⟨hs1, hs2⟩ := take_step (s[i]) hn hp7
      repeat' (first | refine Wc.seq ?_ | refine Wc.block ?_ | refine Wc.reg ?_ | refine Wc.skip ?_ | refine Fin.seq ?_ | refine Wo.val rfl (.mv rfl) ?_)
      refine Wo.val rfl (.ixt (b := s[i]) rfl rfl (by omega) (by simp [hlt])) ?_
      repeat' (first | refine Wc.seq ?_ | refine Wc.reg ?_ | refine Fin.seq ?_ | refine Wo.nil ?_ | refine Wo.val rfl (.mv rfl) ?_ | refine Wo.val rfl (.bin rfl rfl rfl) ?_ | refine Wo.val rfl (.conv_int rfl) ?_)
      have hs3 : IntKind.i64.wrap ((p : Int) * Int.ofNat 128) = ((p * 128 : Nat) : Int) := by
        rw [show (p : Int) * Int.ofNat 128 = ((p * 128 : Nat) : Int) from (Int.natCast_mul _ _).symm]
        exact wrap_i64 (by omega) (by omega)
      have hb48 : ∀ {n : Nat}, n = s.length → bnds n n (some (.int .i64 (IntKind.i64.wrap ((i : Int) + Int.ofNat 1)))) none none = some (i + 1, n, n) := by
        intro n hn
        rw [wrap_succ (by omega)]
        exact bnds_lo (by omega)
      all_goals try refine Wo.branch rfl (fun hb => ?_) (fun hb => ?_)
      all_goals repeat' (first | refine Wo.skip rfl ?_ | refine Wo.val rfl (.mv rfl) ?_ | refine Wo.val rfl (.pick_t rfl rfl) ?_ | refine Wo.val rfl (.pick_f rfl rfl) ?_ | refine Wo.val rfl (.bin rfl rfl rfl) ?_)
      all_goals try refine Wo.branch rfl (fun hb => ?_) (fun hb => ?_)
      all_goals repeat' (first | refine Wc.seq ?_ | refine Wc.reg ?_ | refine Wc.skip ?_ | refine Wc.ret ?_ | refine Fin.seq ?_ | refine Fin.seq_ret ?_ | refine Fin.block_ret ?_ | refine Wo.nil ?_ | refine Wc.cond_t rfl ?_ | refine Wc.cond_f rfl ?_ | refine Wo.skip rfl ?_ | refine Wo.val rfl (.mv rfl) ?_ | refine Wo.val rfl (.pick_t rfl rfl) ?_ | refine Wo.val rfl (.pick_f rfl rfl) ?_ | refine Wo.val rfl (.bin rfl rfl rfl) ?_)
      all_goals try refine Wo.branch rfl (fun hb => ?_) (fun hb => ?_)
      all_goals repeat' (first | refine Wc.seq ?_ | refine Wc.reg ?_ | refine Wc.skip ?_ | refine Fin.seq ?_ | refine Wo.nil ?_ | refine Wc.cond_f rfl ?_ | refine Wo.skip rfl ?_ | refine Wo.val rfl (.mv rfl) ?_ | refine Wo.val rfl (.pick_t rfl rfl) ?_ | refine Wo.val rfl (.pick_f rfl rfl) ?_ | refine Wo.val rfl (.bin rfl rfl rfl) ?_)
      all_goals try
        refine Wc.ifs rfl (fun hc => ?_) (fun hc => ?_)
      all_goals repeat' (first | refine Wc.seq ?_ | refine Wc.reg ?_ | refine Wc.skip ?_ | refine Wc.ret ?_ | refine Fin.seq ?_ | refine Fin.seq_ret ?_ | refine Fin.block ?_ | refine Fin.block_ret ?_ | refine Wo.nil ?_ | refine Wo.val rfl (.mv rfl) ?_ | refine Wo.val rfl (.bin rfl rfl rfl) ?_)
      all_goals try
        refine Wc.ifs rfl (fun hl => ?_) (fun hl => ?_)
      all_goals repeat' (first | refine Wc.seq ?_ | refine Wc.reg ?_ | refine Wc.skip ?_ | refine Fin.seq ?_ | refine Fin.block ?_ | refine Wo.nil ?_ | refine Wo.val rfl (.mv rfl) ?_ | refine Wo.val rfl (.bin rfl rfl rfl) ?_)
      all_goals first
        | exact (hR 0 s 10 (by omega) (Nat.le_refl _)).weak ⟨rfl, rfl, rfl, trivial⟩
        | (rw [hs1, hs3]
           refine Wc.regd (Wd.last ?_)
           repeat' (first | refine Lx.val rfl (.mv rfl) ?_ | refine Lx.val rfl (.bin rfl rfl rfl) ?_)
           refine Lx.val rfl (.sls rfl rfl rfl (hb48 rfl)) ?_
           repeat' refine Lx.val rfl (.mv rfl) ?_
           refine Lx.nil ⟨AgA.cons ?_ AgA.nil, HvA.nil, ?_⟩
           · repeat' (first | refine Ag.val rfl (.mv rfl) (by first | exact rfl | exact trivial) ?_ | refine Ag.val rfl (.bin rfl rfl rfl) (by first | exact rfl | exact trivial) ?_)
             refine Ag.val rfl (.sls rfl rfl rfl (hb48 rfl)) rfl ?_
             repeat' (first | exact Ag.nil | refine Ag.val rfl (.mv rfl) (by first | exact rfl | exact trivial) ?_)
           · repeat' (first | refine Wc.ret ?_ | refine Fin.seq ?_ | refine Fin.seq_ret ?_ | refine Fin.block_ret ?_)
             refine (hR (n + (s[i]).toNat % 128 * p) (List.take (s.length - (i + 1)) (List.drop (i + 1) s)) 0 (by omega) (by simp)).weak ⟨rfl, rfl, rfl, trivial⟩)
        | (rw [hs1, hs3]
           have hi7 : i ≠ 7 := by
             intro e
             simp only [byte_wrap, e, decide_eq_true_eq, decide_eq_false_iff_not, Int.ofNat_eq_natCast, not_true_eq_false] at * <;> omega
           refine (ih (i + 1) _ _ (by omega) (by omega) (by rw [hp]; exact (Nat.pow_succ ..).symm) hs2).weak ⟨rfl, rfl, rfl, ?_, trivial⟩
           show some (AV.int .i64 _) = _
           rw [wrap_succ (by omega)])
    · repeat' (first | refine Wc.exit ?_ | refine Fin.seq_exit ?_)
      exact hE.weak ⟨rfl, trivial⟩
end Go.Vd.L
namespace Go.Vd.L
open Go.Vd

theorem rt92 (s : List UInt8) (H : AH) : Rt Ck 92 [.str s] H fun v H' => H' = H ∧ ∃ (n : Nat) (r : List UInt8) (e : Int), n < 72057594037927936 ∧ r.length ≤ s.length ∧ v = .tup [.int .i64 n, .str r, .int .i64 e] := by
  refine Rt.enter (af := c92) rfl rfl ?_
  repeat' (first | refine Wc.seq ?_ | refine Wc.block ?_ | refine Wc.reg ?_ | refine Fin.seq ?_ | refine Wo.nil ?_ | refine Wo.val rfl (.mv rfl) ?_)
  refine (loop92 (fun n r e hn hr => ?_) ?_ 8 0 0 1 rfl (by omega) rfl (by omega)).weak ⟨rfl, rfl, rfl, rfl, trivial⟩
  · repeat' (first | refine Fin.seq_ret ?_ | refine Fin.block_ret ?_)
    exact Fin.kret rfl ⟨rfl, n, r, e, hn, hr, rfl⟩
  · repeat' (first | refine Wc.seq ?_ | refine Wc.reg ?_ | refine Wc.ret ?_ | refine Fin.seq ?_ | refine Fin.block_here ?_ | refine Wo.nil ?_ | refine Wo.val rfl (.mv rfl) ?_)
    exact Fin.kret rfl ⟨rfl, 0, s, 11, by omega, Nat.le_refl _, rfl⟩

/-- Only one block is another one. -/
structure Only (R : Nat) (H H' : AH) : Prop where
  next : H'.next = H.next
  same : ∀ Y, Y ≠ R → H'.get Y = H.get Y
theorem Only.refl (R : Nat) (H : AH) : Only R H H := ⟨rfl, fun _ _ => rfl⟩
theorem Only.trans {R : Nat} {H H1 H2 : AH} (h : Only R H H1) (g : Only R H1 H2) : Only R H H2 := ⟨g.next.trans h.next, fun Y hY => (g.same Y hY).trans (h.same Y hY)⟩

/-- The reader: what is left, how many nodes, the error. -/
def RdAt (H : AH) (R : Nat) (s : List UInt8) (n e : Int) : Prop := H.get R = some (.cells [.str s, .int .i64 n, .int .i64 e] 84 0)

theorem rt74 {H : AH} {R : Nat} {s : List UInt8} {n e : Int} (hR : RdAt H R s n e) : Rt Ck 74 [.ptr R 0] H fun v H' => (∃ k : Int, v = .int .i64 k) ∧ ∃ s' e', RdAt H' R s' n e' ∧ Only R H H' := by
  unfold RdAt at *
  refine Rt.enter (af := c74) rfl rfl ?_
  repeat' (first | refine Wc.seq ?_ | refine Wc.reg ?_ | refine Fin.seq ?_ | refine Wo.nil ?_ | refine Wo.val rfl (.mv rfl) ?_ | refine Wo.val rfl (.chk rfl rfl) ?_ | refine Wo.val rfl (.bin rfl rfl rfl) ?_ | refine Wo.val rfl (.fad rfl) ?_ | refine Wo.val rfl (.ld rfl (AH.rd_at (by assumption) (by exact rfl))) ?_)
  refine Wc.ifs rfl (fun h1 => ?_) (fun h1 => ?_)
  · repeat' (first | refine Wc.seq ?_ | refine Wc.reg ?_ | refine Wc.ret ?_ | refine Fin.seq ?_ | refine Fin.seq_ret ?_ | refine Wo.nil ?_ | refine Wo.val rfl (.mv rfl) ?_)
    exact Fin.kret rfl ⟨⟨_, rfl⟩, s, e, hR, Only.refl R _⟩
  · repeat' (first | refine Wc.seq ?_ | refine Wc.reg ?_ | refine Wc.skip ?_ | refine Fin.seq ?_ | refine Wo.val rfl (.mv rfl) ?_ | refine Wo.val rfl (.chk rfl rfl) ?_ | refine Wo.val rfl (.fad rfl) ?_ | refine Wo.val rfl (.ld rfl (AH.rd_at (by assumption) (by exact rfl))) ?_)
    refine Wo.call rfl rfl (rt92 s H) ?_
    rintro _ _ ⟨rfl, k, r, f, _, _, rfl⟩
    repeat' (first | refine Wc.seq ?_ | refine Wc.reg ?_ | refine Fin.seq ?_ | refine Wo.nil ?_ | refine Wo.val rfl (.mv rfl) ?_ | refine Wo.val rfl (.chk rfl rfl) ?_ | refine Wo.val rfl (.fad rfl) ?_ | refine Wo.val rfl (.ext rfl rfl) ?_)
    refine Wo.st1 (c' := [.str r, .int .i64 n, .int .i64 e]) rfl rfl hR rfl rfl rfl rfl rfl (fun H1 hn1 hR1 hs1 => ?_)
    repeat' (first | refine Wo.val rfl (.chk rfl rfl) ?_ | refine Wo.val rfl (.fad rfl) ?_)
    refine Wo.st1 (c' := [.str r, .int .i64 n, .int .i64 f]) rfl rfl hR1 rfl rfl rfl rfl rfl (fun H2 hn2 hR2 hs2 => ?_)
    repeat' (first | refine Wc.seq ?_ | refine Wc.reg ?_ | refine Wc.ret ?_ | refine Fin.seq ?_ | refine Wo.nil ?_ | refine Wo.val rfl (.mv rfl) ?_)
    exact Fin.kret rfl ⟨⟨_, rfl⟩, _, _, hR2, hn2.trans hn1, fun Y hY => (hs2 Y hY).trans (hs1 Y hY)⟩

theorem rt75 (s : List UInt8) (H : AH) : Rt Ck 75 [.str s, .int .i64 (.ofNat 24)] H fun v H' => H' = H ∧ ∃ (b r : List UInt8) (e : Int), b.length ≤ 24 ∧ v = .tup [.str b, .str r, .int .i64 e] := by
  refine Rt.enter (af := c75) rfl rfl ?_
  repeat' (first | refine Wc.seq ?_ | refine Wc.reg ?_ | refine Fin.seq ?_ | refine Wo.nil ?_ | refine Wo.val rfl (.mv rfl) ?_)
  refine Wo.call rfl rfl (rt92 s H) ?_
  rintro _ _ ⟨rfl, k, r, f, _, _, rfl⟩
  repeat' (first | refine Wc.seq ?_ | refine Wc.block ?_ | refine Wc.reg ?_ | refine Fin.seq ?_ | refine Wo.nil ?_ | refine Wo.val rfl (.mv rfl) ?_ | refine Wo.val rfl (.bin rfl rfl rfl) ?_ | refine Wo.val rfl (.ext rfl rfl) ?_)
  refine Wc.ifs rfl (fun h1 => ?_) (fun h1 => ?_)
  · repeat' (first | refine Wc.seq ?_ | refine Wc.reg ?_ | refine Wc.ret ?_ | refine Fin.seq ?_ | refine Fin.seq_ret ?_ | refine Fin.block_ret ?_ | refine Wo.nil ?_ | refine Wo.val rfl (.mv rfl) ?_)
    exact Fin.kret rfl ⟨rfl, _, _, _, by simp, rfl⟩
  repeat' (first | refine Wc.seq ?_ | refine Wc.reg ?_ | refine Fin.seq ?_ | refine Wo.nil ?_ | refine Wo.val rfl (.mv rfl) ?_ | refine Wo.val rfl (.bin rfl rfl rfl) ?_)
  refine Wc.ifs rfl (fun h2 => ?_) (fun h2 => ?_)
  · repeat' (first | refine Wc.seq ?_ | refine Wc.reg ?_ | refine Wc.ret ?_ | refine Fin.seq ?_ | refine Fin.seq_ret ?_ | refine Fin.block_ret ?_ | refine Wo.nil ?_ | refine Wo.val rfl (.mv rfl) ?_)
    exact Fin.kret rfl ⟨rfl, _, _, _, by simp, rfl⟩
  repeat' (first | refine Wc.seq ?_ | refine Wc.reg ?_ | refine Fin.seq ?_ | refine Wo.nil ?_ | refine Wo.val rfl (.mv rfl) ?_ | refine Wo.val rfl (.bin rfl rfl rfl) ?_ | refine Wo.val rfl (.tlen rfl) ?_)
  refine Wc.ifs rfl (fun h3 => ?_) (fun h3 => ?_)
  · repeat' (first | refine Wc.seq ?_ | refine Wc.reg ?_ | refine Wc.ret ?_ | refine Fin.seq ?_ | refine Fin.seq_ret ?_ | refine Fin.block_ret ?_ | refine Wo.nil ?_ | refine Wo.val rfl (.mv rfl) ?_)
    exact Fin.kret rfl ⟨rfl, _, _, _, by simp, rfl⟩
  have hk : k ≤ r.length := by
    rw [lt_cast] at h3
    simpa using h3
  have hk24 : k ≤ 24 := by
    rw [gt_dec] at h2
    simpa using h2
  repeat' (first | refine Wc.seq ?_ | refine Wc.skip ?_ | refine Fin.seq ?_ | refine Fin.block ?_)
  refine Wc.regd (Wd.last ?_)
  repeat' refine Lx.val rfl (.mv rfl) ?_
  refine Lx.val rfl (.sls rfl rfl rfl (bnds_hi hk)) ?_
  repeat' refine Lx.val rfl (.mv rfl) ?_
  refine Lx.val rfl (.sls rfl rfl rfl (bnds_lo hk)) ?_
  repeat' refine Lx.val rfl (.mv rfl) ?_
  refine Lx.nil ⟨AgA.cons ?_ AgA.nil, HvA.nil, ?_⟩
  · repeat' refine Ag.val rfl (.mv rfl) (by first | exact rfl | exact trivial) ?_
    refine Ag.val rfl (.sls rfl rfl rfl (bnds_hi hk)) rfl ?_
    repeat' refine Ag.val rfl (.mv rfl) (by first | exact rfl | exact trivial) ?_
    refine Ag.val rfl (.sls rfl rfl rfl (bnds_lo hk)) rfl ?_
    repeat' (first | exact Ag.nil | refine Ag.val rfl (.mv rfl) (by first | exact rfl | exact trivial) ?_)
  · repeat' (first | refine Wc.ret ?_ | refine Fin.seq ?_)
    exact Fin.kret rfl ⟨rfl, _, _, _, by simp; omega, rfl⟩

def partsI (k : Int) : Int := if k = 4 ∨ k = 5 ∨ k = 6 then 2 else if k = 7 then 3 else 0

theorem rt77 (k : Int) (H : AH) : Rt Ck 77 [.int .i64 k] H fun v H' => v = .int .i64 (partsI k) ∧ H' = H := by
  refine Rt.enter (af := c77) rfl rfl ?_
  repeat' (first | refine Wc.seq ?_ | refine Wc.block ?_ | refine Wc.reg ?_ | refine Fin.seq ?_ | refine Wo.nil ?_ | refine Wo.val rfl (.mv rfl) ?_ | refine Wo.val rfl (.bin rfl rfl rfl) ?_)
  refine Wc.ifs rfl (fun h1 => ?_) (fun h1 => ?_)
  · repeat' (first | refine Wc.seq ?_ | refine Wc.reg ?_ | refine Wc.skip ?_ | refine Wc.ret ?_ | refine Fin.seq ?_ | refine Fin.seq_ret ?_ | refine Fin.block_ret ?_ | refine Wo.nil ?_ | refine Wc.cond_t rfl ?_ | refine Wo.val rfl (.mv rfl) ?_)
    refine Fin.kret rfl ⟨?_, rfl⟩
    simp at h1
    simp [oneR, partsI, h1]
  repeat' (first | refine Wc.seq ?_ | refine Wc.reg ?_ | refine Fin.seq ?_ | refine Wo.nil ?_ | refine Wo.val rfl (.mv rfl) ?_ | refine Wo.val rfl (.bin rfl rfl rfl) ?_)
  refine Wc.ifs rfl (fun h2 => ?_) (fun h2 => ?_)
  · repeat' (first | refine Wc.seq ?_ | refine Wc.reg ?_ | refine Wc.skip ?_ | refine Wc.ret ?_ | refine Fin.seq ?_ | refine Fin.seq_ret ?_ | refine Fin.block_ret ?_ | refine Wo.nil ?_ | refine Wc.cond_t rfl ?_ | refine Wo.val rfl (.mv rfl) ?_)
    refine Fin.kret rfl ⟨?_, rfl⟩
    simp at h2
    simp [oneR, partsI, h2]
  repeat' (first | refine Wc.reg ?_ | refine Fin.seq ?_ | refine Wo.nil ?_ | refine Wo.val rfl (.mv rfl) ?_ | refine Wo.val rfl (.bin rfl rfl rfl) ?_)
  refine Wc.ifs rfl (fun h3 => ?_) (fun h3 => ?_)
  · repeat' (first | refine Wc.seq ?_ | refine Wc.reg ?_ | refine Wc.ret ?_ | refine Fin.seq ?_ | refine Fin.seq_ret ?_ | refine Fin.block_ret ?_ | refine Wo.nil ?_ | refine Wo.val rfl (.mv rfl) ?_)
    refine Fin.kret rfl ⟨?_, rfl⟩
    simp at h3
    simp [oneR, partsI, h3]
  repeat' (first | refine Wc.seq ?_ | refine Wc.reg ?_ | refine Fin.seq ?_ | refine Wo.nil ?_ | refine Wo.val rfl (.mv rfl) ?_ | refine Wo.val rfl (.bin rfl rfl rfl) ?_)
  refine Wc.ifs rfl (fun h4 => ?_) (fun h4 => ?_)
  · repeat' (first | refine Wc.seq ?_ | refine Wc.reg ?_ | refine Wc.ret ?_ | refine Fin.seq ?_ | refine Fin.seq_ret ?_ | refine Fin.block_ret ?_ | refine Wo.nil ?_ | refine Wo.val rfl (.mv rfl) ?_)
    refine Fin.kret rfl ⟨?_, rfl⟩
    simp at h4
    simp [oneR, partsI, h4]
  · repeat' (first | refine Wc.seq ?_ | refine Wc.reg ?_ | refine Wc.skip ?_ | refine Wc.ret ?_ | refine Fin.seq ?_ | refine Fin.block ?_ | refine Wo.nil ?_ | refine Wo.val rfl (.mv rfl) ?_)
    refine Fin.kret rfl ⟨?_, rfl⟩
    simp at h1 h2 h3 h4
    simp [oneR, partsI, h1, h2, h3, h4]
end Go.Vd.L
namespace Go.Vd.L
open Go.Vd

def letU (c : UInt8) : Bool := letterI (c.toNat : Int)
def dotU (c : UInt8) : Bool := decide ((c.toNat : Int) = Int.ofNat 46)

/-- Parts of a name; at the start of one, or in it. -/
def nameF : Bool → List UInt8 → Bool
  | _, [] => true
  | true, c :: r => letU c && nameF false r
  | false, c :: r => if dotU c then nameF true r else plainN c.toNat && nameF false r

def lastDot (s : List UInt8) : Bool := match s[s.length - 1]? with
  | some c => dotU c
  | none => false
def nameB (s : List UInt8) : Bool := Nat.ble 1 s.length && Nat.ble s.length 24 && !lastDot s && nameF true s

def stAt (s : List UInt8) (i : Nat) : Bool := if i = 0 then true else match s[i - 1]? with
  | some c => dotU c
  | none => false

theorem nameF_step {s : List UInt8} {i : Nat} (h : i < s.length) (b : Bool) : nameF b (s.drop i) = (if b then letU s[i] && nameF false (s.drop (i + 1)) else if dotU s[i] then nameF true (s.drop (i + 1)) else plainN (s[i]).toNat && nameF false (s.drop (i + 1))) := by
  rw [List.drop_eq_getElem_cons h]
  cases b with
  | true => simp [nameF]
  | false => simp [nameF]

theorem let_dot {c : UInt8} (h : letU c = true) : dotU c = false := by
  unfold letU letterI at h
  unfold dotU
  simp at h ⊢
  omega
theorem plain_dot {c : UInt8} (h : plainN c.toNat = true) : dotU c = false := by
  have := (plainN_not h).1
  unfold dotU
  simp
  omega

theorem loop94 {H : AH} {s : List UInt8} (hs : s.length < 1000) {Q : AEx → ASt → Prop} (hE : nameF true s = true → Fin Q (.exit 0) [] [] H) (hR : nameF true s = false → Fin Q .ret [(2, .bool false)] [] H) :
    ∀ d i, s.length - i = d → i ≤ s.length → nameF true s = nameF (stAt s i) (s.drop i) → Wc Ck (.loop (bodyN c94 0)) [(0, .str s), (3, .int .i64 (i : Nat))] [] H Q := by
  intro d
  induction d with
  | zero =>
    intro i hd hi hn
    have : i = s.length := by omega
    subst this
    refine Wc.loop ?_
    repeat' (first | refine Wc.seq ?_ | refine Wc.reg ?_ | refine Fin.seq ?_ | refine Wo.nil ?_ | refine Wo.val rfl (.mv rfl) ?_ | refine Wo.val rfl (.bin rfl rfl rfl) ?_ | refine Wo.val rfl (.tlen rfl) ?_)
    refine Wc.ifs rfl (fun hb => ?_) (fun hb => ?_)
    · exfalso; rw [lt_cast] at hb; simp at hb
    · repeat' (first | refine Wc.exit ?_ | refine Fin.seq_exit ?_)
      refine (hE ?_).weak trivial
      rw [hn, List.drop_length]
      cases stAt s s.length <;> rfl
  | succ d ih =>
    intro i hd hi hn
    have hlt : i < s.length := by omega
    rw [nameF_step hlt] at hn
    have hst : stAt s (i + 1) = dotU s[i] := by simp [stAt, hlt]
    refine Wc.loop ?_
    repeat' (first | refine Wc.seq ?_ | refine Wc.reg ?_ | refine Fin.seq ?_ | refine Wo.nil ?_ | refine Wo.val rfl (.mv rfl) ?_ | refine Wo.val rfl (.bin rfl rfl rfl) ?_ | refine Wo.val rfl (.tlen rfl) ?_)
    refine Wc.ifs rfl (fun hb => ?_) (fun hb => ?_)
    · repeat' (first | refine Wc.seq ?_ | refine Wc.block ?_ | refine Wc.reg ?_ | refine Wc.skip ?_ | refine Fin.seq ?_ | refine Wo.val rfl (.mv rfl) ?_ | refine Wo.val rfl (.bin rfl rfl rfl) ?_)
      refine Wo.branch rfl (fun c1 => ?_) (fun c1 => ?_)
      · have hi0 : i = 0 := by simpa using c1
        have hstt : stAt s i = true := by simp [stAt, hi0]
        repeat' (first | refine Wc.seq ?_ | refine Wc.reg ?_ | refine Fin.seq ?_ | refine Wo.nil ?_ | refine Wc.cond_t rfl ?_ | refine Wo.skip rfl ?_ | refine Wo.val rfl (.mv rfl) ?_ | refine Wo.val rfl (.pick_t rfl rfl) ?_)
        refine Wo.val rfl (.ixt (b := s[i]) rfl rfl (by omega) (by simp [hlt])) ?_
        refine Wo.call rfl rfl (rt68 _ H) ?_
        rintro _ _ ⟨rfl, rfl⟩
        repeat' (first | refine Fin.seq ?_ | refine Wo.nil ?_ | refine Wo.val rfl (.un rfl rfl) ?_)
        refine Wc.ifs rfl (fun c3 => ?_) (fun c3 => ?_)
        · repeat' (first | refine Wc.seq ?_ | refine Wc.reg ?_ | refine Wc.ret ?_ | refine Fin.seq ?_ | refine Fin.seq_ret ?_ | refine Fin.block_ret ?_ | refine Wo.nil ?_ | refine Wo.val rfl (.mv rfl) ?_)
          refine (hR ?_).weak ⟨rfl, trivial⟩
          have c3 : letU s[i] = false := by simpa [letU] using c3
          rw [hn, hstt, if_pos rfl, c3]
          rfl
        · have c3 : letU s[i] = true := by simpa [letU] using c3
          rw [hstt, if_pos rfl, c3, Bool.true_and] at hn
          repeat' (first | refine Wc.reg ?_ | refine Wc.skip ?_ | refine Fin.seq ?_ | refine Fin.block ?_ | refine Wo.nil ?_ | refine Wo.val rfl (.mv rfl) ?_ | refine Wo.val rfl (.bin rfl rfl rfl) ?_)
          refine (ih (i + 1) (by omega) (by omega) (by rw [hst, let_dot c3]; exact hn)).weak ⟨rfl, ?_, trivial⟩
          show some (AV.int .i64 _) = _
          rw [wrap_succ (by omega)]
      · have hi0 : i ≠ 0 := by simpa using c1
        have hlt1 : i - 1 < s.length := by omega
        have hw : IntKind.i64.wrap ((i : Int) - Int.ofNat 1) = ((i - 1 : Nat) : Int) := wrap_pred (by omega) (by omega)
        repeat' (first | refine Wo.val rfl (.mv rfl) ?_ | refine Wo.val rfl (.bin rfl rfl rfl) ?_)
        rw [hw]
        refine Wo.val rfl (.ixt (b := s[i - 1]) rfl rfl (by omega) (by simp [hlt1])) ?_
        repeat' (first | refine Fin.seq ?_ | refine Wo.nil ?_ | refine Wo.val rfl (.pick_f rfl rfl) ?_ | refine Wo.val rfl (.bin rfl rfl rfl) ?_)
        refine Wc.ifs rfl (fun c2 => ?_) (fun c2 => ?_)
        · have hstt : stAt s i = true := by simp only [stAt, hi0, if_false, List.getElem?_eq_getElem hlt1]; exact c2
          repeat' (first | refine Wc.seq ?_ | refine Wc.reg ?_ | refine Wo.val rfl (.mv rfl) ?_)
          refine Wo.val rfl (.ixt (b := s[i]) rfl rfl (by omega) (by simp [hlt])) ?_
          refine Wo.call rfl rfl (rt68 _ H) ?_
          rintro _ _ ⟨rfl, rfl⟩
          repeat' (first | refine Fin.seq ?_ | refine Wo.nil ?_ | refine Wo.val rfl (.un rfl rfl) ?_)
          refine Wc.ifs rfl (fun c3 => ?_) (fun c3 => ?_)
          · repeat' (first | refine Wc.seq ?_ | refine Wc.reg ?_ | refine Wc.ret ?_ | refine Fin.seq ?_ | refine Fin.seq_ret ?_ | refine Fin.block_ret ?_ | refine Wo.nil ?_ | refine Wo.val rfl (.mv rfl) ?_)
            refine (hR ?_).weak ⟨rfl, trivial⟩
            have c3 : letU s[i] = false := by simpa [letU] using c3
            rw [hn, hstt, if_pos rfl, c3]
            rfl
          · have c3 : letU s[i] = true := by simpa [letU] using c3
            rw [hstt, if_pos rfl, c3, Bool.true_and] at hn
            repeat' (first | refine Wc.reg ?_ | refine Wc.skip ?_ | refine Fin.seq ?_ | refine Fin.block ?_ | refine Wo.nil ?_ | refine Wo.val rfl (.mv rfl) ?_ | refine Wo.val rfl (.bin rfl rfl rfl) ?_)
            refine (ih (i + 1) (by omega) (by omega) (by rw [hst, let_dot c3]; exact hn)).weak ⟨rfl, ?_, trivial⟩
            show some (AV.int .i64 _) = _
            rw [wrap_succ (by omega)]
        · have hstt : stAt s i = false := by simp only [stAt, hi0, if_false, List.getElem?_eq_getElem hlt1]; exact c2
          rw [hstt, if_neg (by simp)] at hn
          repeat' (first | refine Wc.seq ?_ | refine Wc.reg ?_ | refine Wo.val rfl (.mv rfl) ?_)
          refine Wo.val rfl (.ixt (b := s[i]) rfl rfl (by omega) (by simp [hlt])) ?_
          repeat' (first | refine Wo.val rfl (.mv rfl) ?_ | refine Wo.val rfl (.bin rfl rfl rfl) ?_)
          refine Wo.branch rfl (fun c4 => ?_) (fun c4 => ?_)
          · have c4 : dotU s[i] = false := by simpa [dotU] using c4
            rw [c4, if_neg (by simp)] at hn
            repeat' refine Wo.val rfl (.mv rfl) ?_
            refine Wo.val rfl (.ixt (b := s[i]) rfl rfl (by omega) (by simp [hlt])) ?_
            refine Wo.call rfl rfl (rt38 _ H) ?_
            rintro _ _ ⟨rfl, rfl⟩
            rw [plainI_N]
            repeat' (first | refine Fin.seq ?_ | refine Wo.nil ?_ | refine Wo.val rfl (.pick_t rfl rfl) ?_ | refine Wo.val rfl (.un rfl rfl) ?_)
            refine Wc.ifs rfl (fun c5 => ?_) (fun c5 => ?_)
            · repeat' (first | refine Wc.seq ?_ | refine Wc.reg ?_ | refine Wc.ret ?_ | refine Fin.seq ?_ | refine Fin.seq_ret ?_ | refine Fin.block_ret ?_ | refine Wo.nil ?_ | refine Wo.val rfl (.mv rfl) ?_)
              refine (hR ?_).weak ⟨rfl, trivial⟩
              have c5 : plainN (s[i]).toNat = false := by simpa using c5
              rw [hn, c5]
              rfl
            · have c5 : plainN (s[i]).toNat = true := by simpa using c5
              rw [c5, Bool.true_and] at hn
              repeat' (first | refine Wc.reg ?_ | refine Wc.skip ?_ | refine Fin.seq ?_ | refine Fin.block ?_ | refine Wo.nil ?_ | refine Wo.val rfl (.mv rfl) ?_ | refine Wo.val rfl (.bin rfl rfl rfl) ?_)
              refine (ih (i + 1) (by omega) (by omega) (by rw [hst, c4]; exact hn)).weak ⟨rfl, ?_, trivial⟩
              show some (AV.int .i64 _) = _
              rw [wrap_succ (by omega)]
          · have c4 : dotU s[i] = true := by simpa [dotU] using c4
            rw [c4, if_pos rfl] at hn
            repeat' (first | refine Wc.reg ?_ | refine Wc.skip ?_ | refine Fin.seq ?_ | refine Fin.block ?_ | refine Wo.nil ?_ | refine Wc.cond_f rfl ?_ | refine Wo.skip rfl ?_ | refine Wo.val rfl (.mv rfl) ?_ | refine Wo.val rfl (.pick_f rfl rfl) ?_ | refine Wo.val rfl (.bin rfl rfl rfl) ?_)
            refine (ih (i + 1) (by omega) (by omega) (by rw [hst, c4]; exact hn)).weak ⟨rfl, ?_, trivial⟩
            show some (AV.int .i64 _) = _
            rw [wrap_succ (by omega)]
    · exfalso; rw [lt_cast] at hb; simp at hb; omega

theorem rt94 (s : List UInt8) (H : AH) : Rt Ck 94 [.str s] H fun v H' => v = .bool (nameB s) ∧ H' = H := by
  refine Rt.enter (af := c94) rfl rfl ?_
  by_cases h0 : s.length = 0
  · have : s = [] := List.length_eq_zero_iff.1 h0
    subst this
    repeat' (first | refine Wc.seq ?_ | refine Wc.reg ?_ | refine Wc.ret ?_ | refine Fin.seq ?_ | refine Fin.seq_ret ?_ | refine Wo.nil ?_ | refine Wc.cond_t rfl ?_ | refine Wo.skip rfl ?_ | refine Wo.val rfl (.mv rfl) ?_ | refine Wo.val rfl (.pick_t rfl rfl) ?_ | refine Wo.val rfl (.bin rfl rfl rfl) ?_ | refine Wo.val rfl (.tlen rfl) ?_)
    exact Fin.kret rfl ⟨rfl, rfl⟩
  have hl1 : Nat.ble 1 s.length = true := Nat.ble_eq_true_of_le (by omega)
  repeat' (first | refine Wc.seq ?_ | refine Wc.reg ?_ | refine Fin.seq ?_ | refine Wo.nil ?_ | refine Wo.val rfl (.mv rfl) ?_ | refine Wo.val rfl (.bin rfl rfl rfl) ?_ | refine Wo.val rfl (.tlen rfl) ?_)
  refine Wo.branch rfl (fun b1 => ?_) (fun b1 => ?_)
  · exfalso; rw [lt_dec] at b1; simp at b1; exact h0 (by rw [b1]; rfl)
  repeat' (first | refine Wo.val rfl (.mv rfl) ?_ | refine Wo.val rfl (.pick_f rfl rfl) ?_ | refine Wo.val rfl (.bin rfl rfl rfl) ?_ | refine Wo.val rfl (.tlen rfl) ?_)
  refine Wo.branch rfl (fun b2 => ?_) (fun b2 => ?_)
  · repeat' (first | refine Wc.seq ?_ | refine Wc.reg ?_ | refine Wc.ret ?_ | refine Fin.seq ?_ | refine Fin.seq_ret ?_ | refine Wo.nil ?_ | refine Wc.cond_t rfl ?_ | refine Wo.skip rfl ?_ | refine Wo.val rfl (.mv rfl) ?_ | refine Wo.val rfl (.pick_t rfl rfl) ?_)
    refine Fin.kret rfl ⟨?_, rfl⟩
    have : Nat.ble s.length 24 = false := by rw [blt_dec]; rw [gt_dec] at b2; simp at b2 ⊢; exact b2
    simp [oneR, nameB, this]
  have hl2 : s.length ≤ 24 := by rw [gt_dec] at b2; simp at b2; exact b2
  have hw : IntKind.i64.wrap ((s.length : Int) - Int.ofNat 1) = ((s.length - 1 : Nat) : Int) := wrap_pred (by omega) (by omega)
  have hlt : s.length - 1 < s.length := by omega
  have hld : lastDot s = dotU (s[s.length - 1]) := by simp [lastDot, hlt]
  repeat' (first | refine Wo.val rfl (.mv rfl) ?_ | refine Wo.val rfl (.bin rfl rfl rfl) ?_ | refine Wo.val rfl (.tlen rfl) ?_)
  rw [hw]
  refine Wo.val rfl (.ixt (b := s[s.length - 1]) rfl rfl (by omega) (by simp [hlt])) ?_
  repeat' (first | refine Fin.seq ?_ | refine Wo.nil ?_ | refine Wo.val rfl (.pick_f rfl rfl) ?_ | refine Wo.val rfl (.bin rfl rfl rfl) ?_)
  refine Wc.ifs rfl (fun b3 => ?_) (fun b3 => ?_)
  · repeat' (first | refine Wc.seq ?_ | refine Wc.reg ?_ | refine Wc.ret ?_ | refine Fin.seq ?_ | refine Fin.seq_ret ?_ | refine Wo.nil ?_ | refine Wo.val rfl (.mv rfl) ?_)
    refine Fin.kret rfl ⟨?_, rfl⟩
    have : lastDot s = true := by rw [hld]; exact b3
    simp [oneR, nameB, this]
  · have b3 : lastDot s = false := by rw [hld]; exact b3
    have hB : nameB s = nameF true s := by simp [nameB, hl1, Nat.ble_eq_true_of_le hl2, b3]
    rw [hB]
    repeat' (first | refine Wc.seq ?_ | refine Wc.block ?_ | refine Wc.reg ?_ | refine Wc.skip ?_ | refine Fin.seq ?_ | refine Wo.nil ?_ | refine Wo.val rfl (.mv rfl) ?_)
    refine (loop94 (by omega) (fun ha => ?_) (fun ha => ?_) _ 0 rfl (Nat.zero_le _) rfl).weak ⟨rfl, rfl, trivial⟩
    · repeat' (first | refine Wc.seq ?_ | refine Wc.reg ?_ | refine Wc.ret ?_ | refine Fin.seq ?_ | refine Fin.block_here ?_ | refine Wo.nil ?_ | refine Wo.val rfl (.mv rfl) ?_)
      refine Fin.kret rfl ⟨?_, rfl⟩
      simp [oneR, ha]
    · repeat' (first | refine Fin.seq_ret ?_ | refine Fin.block_ret ?_)
      refine Fin.kret rfl ⟨?_, rfl⟩
      simp [oneR, ha]
end Go.Vd.L
namespace Go.Vd.L
open Go.Vd

def recW : List UInt8 := [46, 114, 101, 99]
def recB (s : List UInt8) : Bool := if s.length < 5 then false else strEq (s.drop (s.length - 4)) recW && nameB (s.take (s.length - 4))

theorem rt93 (s : List UInt8) (hs : s.length ≤ 1000) (H : AH) : Rt Ck 93 [.str s] H fun v H' => (∃ r, v = .tup [.str r, .bool (recB s)]) ∧ H' = H := by
  refine Rt.enter (af := c93) rfl rfl ?_
  have hw : IntKind.i64.wrap ((s.length : Int) - Int.ofNat 4) = (s.length : Int) - 4 := wrap_i64 (by simp; omega) (by simp; omega)
  repeat' (first | refine Wc.seq ?_ | refine Wc.reg ?_ | refine Fin.seq ?_ | refine Wo.nil ?_ | refine Wo.val rfl (.mv rfl) ?_ | refine Wo.val rfl (.bin rfl rfl rfl) ?_ | refine Wo.val rfl (.tlen rfl) ?_)
  rw [hw]
  skip
  refine Wo.branch rfl (fun b1 => ?_) (fun b1 => ?_)
  · repeat' (first | refine Wc.seq ?_ | refine Wc.reg ?_ | refine Wc.ret ?_ | refine Fin.seq ?_ | refine Fin.seq_ret ?_ | refine Wo.nil ?_ | refine Wc.cond_t rfl ?_ | refine Wo.skip rfl ?_ | refine Wo.val rfl (.mv rfl) ?_ | refine Wo.val rfl (.pick_t rfl rfl) ?_)
    refine Fin.kret rfl ⟨⟨[], ?_⟩, rfl⟩
    have : s.length < 5 := by simp at b1; omega
    simp only [oneR, recB, this, if_true]
  have h5 : 5 ≤ s.length := by simp at b1; omega
  have hi : (s.length : Int) - 4 = ((s.length - 4 : Nat) : Int) := by omega
  have e1 : List.take (s.length - (s.length - 4)) (List.drop (s.length - 4) s) = List.drop (s.length - 4) s := List.take_of_length_le (by simp)
  have e2 : List.take (s.length - 4 - 0) (List.drop 0 s) = s.take (s.length - 4) := by simp
  have hr : recB s = (strEq (s.drop (s.length - 4)) recW && nameB (s.take (s.length - 4))) := by
    unfold recB
    rw [if_neg (by omega)]
  rw [hr]
  repeat' refine Wo.val rfl (.mv rfl) ?_
  rw [hi]
  refine Wo.val rfl (.sls rfl rfl rfl (bnds_lo (by omega))) ?_
  rw [e1]
  repeat' (first | refine Wo.val rfl (.mv rfl) ?_ | refine Wo.val rfl (.pick_f rfl rfl) ?_ | refine Wo.val rfl (.bin rfl rfl rfl) ?_)
  refine Wo.branch rfl (fun b2 => ?_) (fun b2 => ?_)
  · repeat' (first | refine Wc.seq ?_ | refine Wc.reg ?_ | refine Wc.ret ?_ | refine Fin.seq ?_ | refine Fin.seq_ret ?_ | refine Wo.nil ?_ | refine Wc.cond_t rfl ?_ | refine Wo.skip rfl ?_ | refine Wo.val rfl (.mv rfl) ?_ | refine Wo.val rfl (.pick_t rfl rfl) ?_)
    refine Fin.kret rfl ⟨⟨[], ?_⟩, rfl⟩
    have : strEq (s.drop (s.length - 4)) recW = false := by simpa [recW] using b2
    simp only [oneR, this, Bool.false_and]
  have b2 : strEq (s.drop (s.length - 4)) recW = true := by simpa [recW] using b2
  repeat' refine Wo.val rfl (.mv rfl) ?_
  refine Wo.val rfl (.sls rfl rfl rfl (bnds_hi (by omega))) ?_
  rw [e2]
  refine Wo.call rfl rfl (rt94 _ H) ?_
  rintro _ _ ⟨rfl, rfl⟩
  repeat' (first | refine Fin.seq ?_ | refine Wo.nil ?_ | refine Wo.val rfl (.pick_f rfl rfl) ?_ | refine Wo.val rfl (.un rfl rfl) ?_)
  refine Wc.ifs rfl (fun b3 => ?_) (fun b3 => ?_)
  · repeat' (first | refine Wc.seq ?_ | refine Wc.reg ?_ | refine Wc.ret ?_ | refine Fin.seq ?_ | refine Fin.seq_ret ?_ | refine Wo.nil ?_ | refine Wo.val rfl (.mv rfl) ?_)
    refine Fin.kret rfl ⟨⟨[], ?_⟩, rfl⟩
    have : nameB (s.take (s.length - 4)) = false := by simpa using b3
    simp only [oneR, this, Bool.and_false]
  · repeat' (first | refine Wc.seq ?_ | refine Wc.reg ?_ | refine Wc.skip ?_ | refine Fin.seq ?_ | refine Wo.val rfl (.mv rfl) ?_)
    refine Wo.val rfl (.sls rfl rfl rfl (bnds_hi (by omega))) ?_
    repeat' (first | refine Wc.ret ?_ | refine Fin.seq ?_ | refine Wo.nil ?_ | refine Wo.val rfl (.mv rfl) ?_)
    refine Fin.kret rfl ⟨⟨List.take (s.length - 4 - 0) (List.drop 0 s), ?_⟩, rfl⟩
    have : nameB (s.take (s.length - 4)) = true := by simpa using b3
    simp only [oneR, this, b2, Bool.and_self]

/-- A node of a term, as it lies in the heap. -/
def NdAt (H : AH) (X : Nat) (k n : Int) (s : List UInt8) (a b c : AV) : Prop := H.get X = some (.cells [.int .i64 k, .int .i64 n, .str s, a, b, c] 44 0)

def leafB (k n : Int) (s : List UInt8) : Bool :=
  if k = 1 then strEq s [] && decide (0 ≤ n) && decide (n ≤ 9)
  else if k = 2 then strEq s [] && decide (0 ≤ n) && decide (n ≤ 100000)
  else if k = 3 then nameB s && !keyW s && decide (0 ≤ n) && decide (n ≤ 9) && (recB s || decide (n = 0))
  else strEq s [] && decide (n = 0) && decide (4 ≤ k) && decide (k ≤ 7)

theorem rt76 {H : AH} {X : Nat} {k n : Int} {s : List UInt8} {a b c : AV} (hs : s.length ≤ 1000) (hX : NdAt H X k n s a b c) : Rt Ck 76 [.ptr X 0] H fun v H' => v = .bool (leafB k n s) ∧ H' = H := by
  unfold NdAt at hX
  refine Rt.enter (af := c76) rfl rfl ?_
  repeat' (first | refine Wc.seq ?_ | refine Wc.reg ?_ | refine Fin.seq ?_ | refine Wo.nil ?_ | refine Wo.val rfl (.mv rfl) ?_ | refine Wo.val rfl (.chk rfl rfl) ?_ | refine Wo.val rfl (.fad rfl) ?_ | refine Wo.val rfl (.ld rfl (AH.rd_at (by assumption) (by exact rfl))) ?_)
  refine Wo.call rfl rfl (rt93 s hs H) ?_
  rintro _ H0 ⟨⟨r, rfl⟩, e0⟩
  subst e0
  repeat' (first | refine Wc.seq ?_ | refine Wc.block ?_ | refine Wc.reg ?_ | refine Fin.seq ?_ | refine Wo.nil ?_ | refine Wo.val rfl (.mv rfl) ?_ | refine Wo.val rfl (.chk rfl rfl) ?_ | refine Wo.val rfl (.bin rfl rfl rfl) ?_ | refine Wo.val rfl (.fad rfl) ?_ | refine Wo.val rfl (.ext rfl rfl) ?_ | refine Wo.val rfl (.ld rfl (AH.rd_at (by assumption) (by exact rfl))) ?_)
  refine Wc.ifs rfl (fun k1 => ?_) (fun k1 => ?_)
  · have k1 : k = 1 := by simpa using k1
    repeat' (first | refine Wc.seq ?_ | refine Wc.reg ?_ | refine Wo.val rfl (.mv rfl) ?_ | refine Wo.val rfl (.chk rfl rfl) ?_ | refine Wo.val rfl (.bin rfl rfl rfl) ?_ | refine Wo.val rfl (.fad rfl) ?_ | refine Wo.val rfl (.ld rfl (AH.rd_at (by assumption) (by exact rfl))) ?_)
    all_goals try refine Wo.branch rfl (fun hb => ?_) (fun hb => ?_)
    all_goals repeat' (first | refine Wc.ret ?_ | refine Fin.seq ?_ | refine Fin.seq_ret ?_ | refine Fin.block_ret ?_ | refine Wo.nil ?_ | refine Wo.skip rfl ?_ | refine Wo.val rfl (.mv rfl) ?_ | refine Wo.val rfl (.pick_t rfl rfl) ?_ | refine Wo.val rfl (.pick_f rfl rfl) ?_ | refine Wo.val rfl (.chk rfl rfl) ?_ | refine Wo.val rfl (.bin rfl rfl rfl) ?_ | refine Wo.val rfl (.fad rfl) ?_ | refine Wo.val rfl (.ld rfl (AH.rd_at (by assumption) (by exact rfl))) ?_)
    all_goals try refine Wo.branch rfl (fun hb => ?_) (fun hb => ?_)
    all_goals repeat' (first | refine Wc.ret ?_ | refine Fin.seq ?_ | refine Fin.seq_ret ?_ | refine Fin.block_ret ?_ | refine Wo.nil ?_ | refine Wo.skip rfl ?_ | refine Wo.val rfl (.mv rfl) ?_ | refine Wo.val rfl (.pick_t rfl rfl) ?_ | refine Wo.val rfl (.pick_f rfl rfl) ?_ | refine Wo.val rfl (.chk rfl rfl) ?_ | refine Wo.val rfl (.bin rfl rfl rfl) ?_ | refine Wo.val rfl (.fad rfl) ?_ | refine Wo.val rfl (.ld rfl (AH.rd_at (by assumption) (by exact rfl))) ?_)
    all_goals try refine Wo.branch rfl (fun hb => ?_) (fun hb => ?_)
    all_goals skip
    all_goals
      refine Fin.kret rfl ⟨?_, rfl⟩
      simp_all [oneR, leafB] <;> (intros; exfalso; omega)
  have k1 : k ≠ 1 := by simpa using k1
  repeat' (first | refine Wc.seq ?_ | refine Wc.reg ?_ | refine Fin.seq ?_ | refine Wo.nil ?_ | refine Wo.val rfl (.mv rfl) ?_ | refine Wo.val rfl (.bin rfl rfl rfl) ?_)
  refine Wc.ifs rfl (fun k2 => ?_) (fun k2 => ?_)
  · have k2 : k = 2 := by simpa using k2
    repeat' (first | refine Wc.seq ?_ | refine Wc.reg ?_ | refine Wo.val rfl (.mv rfl) ?_ | refine Wo.val rfl (.chk rfl rfl) ?_ | refine Wo.val rfl (.bin rfl rfl rfl) ?_ | refine Wo.val rfl (.fad rfl) ?_ | refine Wo.val rfl (.ld rfl (AH.rd_at (by assumption) (by exact rfl))) ?_)
    all_goals try refine Wo.branch rfl (fun hb => ?_) (fun hb => ?_)
    all_goals repeat' (first | refine Wc.ret ?_ | refine Fin.seq ?_ | refine Fin.seq_ret ?_ | refine Fin.block_ret ?_ | refine Wo.nil ?_ | refine Wo.skip rfl ?_ | refine Wo.val rfl (.mv rfl) ?_ | refine Wo.val rfl (.pick_t rfl rfl) ?_ | refine Wo.val rfl (.pick_f rfl rfl) ?_ | refine Wo.val rfl (.chk rfl rfl) ?_ | refine Wo.val rfl (.bin rfl rfl rfl) ?_ | refine Wo.val rfl (.fad rfl) ?_ | refine Wo.val rfl (.ld rfl (AH.rd_at (by assumption) (by exact rfl))) ?_)
    all_goals try refine Wo.branch rfl (fun hb => ?_) (fun hb => ?_)
    all_goals repeat' (first | refine Wc.ret ?_ | refine Fin.seq ?_ | refine Fin.seq_ret ?_ | refine Fin.block_ret ?_ | refine Wo.nil ?_ | refine Wo.skip rfl ?_ | refine Wo.val rfl (.mv rfl) ?_ | refine Wo.val rfl (.pick_t rfl rfl) ?_ | refine Wo.val rfl (.pick_f rfl rfl) ?_ | refine Wo.val rfl (.chk rfl rfl) ?_ | refine Wo.val rfl (.bin rfl rfl rfl) ?_ | refine Wo.val rfl (.fad rfl) ?_ | refine Wo.val rfl (.ld rfl (AH.rd_at (by assumption) (by exact rfl))) ?_)
    all_goals try refine Wo.branch rfl (fun hb => ?_) (fun hb => ?_)
    all_goals skip
    all_goals
      refine Fin.kret rfl ⟨?_, rfl⟩
      simp_all [oneR, leafB] <;> (intros; exfalso; omega)
  have k2 : k ≠ 2 := by simpa using k2
  repeat' (first | refine Wc.seq ?_ | refine Wc.reg ?_ | refine Fin.seq ?_ | refine Wo.nil ?_ | refine Wo.val rfl (.mv rfl) ?_ | refine Wo.val rfl (.bin rfl rfl rfl) ?_)
  refine Wc.ifs rfl (fun k3 => ?_) (fun k3 => ?_)
  · have k3 : k = 3 := by simpa using k3
    repeat' (first | refine Wc.seq ?_ | refine Wc.reg ?_ | refine Wo.val rfl (.mv rfl) ?_ | refine Wo.val rfl (.chk rfl rfl) ?_ | refine Wo.val rfl (.fad rfl) ?_ | refine Wo.val rfl (.ld rfl (AH.rd_at (by assumption) (by exact rfl))) ?_)
    refine Wo.call rfl rfl (rt94 s H0) ?_
    rintro _ H1 ⟨rfl, e1⟩
    subst e1
    repeat' refine Wo.val rfl (.mv rfl) ?_
    refine Wo.branch rfl (fun b1 => ?_) (fun b1 => ?_)
    · repeat' (first | refine Wo.val rfl (.mv rfl) ?_ | refine Wo.val rfl (.chk rfl rfl) ?_ | refine Wo.val rfl (.fad rfl) ?_ | refine Wo.val rfl (.ld rfl (AH.rd_at (by assumption) (by exact rfl))) ?_)
      refine Wo.call rfl rfl (rt37 s H1) ?_
      rintro _ H2 ⟨rfl, e2⟩
      subst e2
      repeat' (first | refine Wo.val rfl (.mv rfl) ?_ | refine Wo.val rfl (.pick_t rfl rfl) ?_ | refine Wo.val rfl (.un rfl rfl) ?_)
      all_goals try refine Wo.branch rfl (fun hb => ?_) (fun hb => ?_)
      all_goals repeat' (first | refine Wc.ret ?_ | refine Fin.seq ?_ | refine Fin.seq_ret ?_ | refine Fin.block_ret ?_ | refine Wo.nil ?_ | refine Wo.skip rfl ?_ | refine Wo.val rfl (.mv rfl) ?_ | refine Wo.val rfl (.pick_t rfl rfl) ?_ | refine Wo.val rfl (.pick_f rfl rfl) ?_ | refine Wo.val rfl (.chk rfl rfl) ?_ | refine Wo.val rfl (.bin rfl rfl rfl) ?_ | refine Wo.val rfl (.fad rfl) ?_ | refine Wo.val rfl (.ld rfl (AH.rd_at (by assumption) (by exact rfl))) ?_)
      all_goals try refine Wo.branch rfl (fun hb => ?_) (fun hb => ?_)
      all_goals repeat' (first | refine Wc.ret ?_ | refine Fin.seq ?_ | refine Fin.seq_ret ?_ | refine Fin.block_ret ?_ | refine Wo.nil ?_ | refine Wo.skip rfl ?_ | refine Wo.val rfl (.mv rfl) ?_ | refine Wo.val rfl (.pick_t rfl rfl) ?_ | refine Wo.val rfl (.pick_f rfl rfl) ?_ | refine Wo.val rfl (.chk rfl rfl) ?_ | refine Wo.val rfl (.bin rfl rfl rfl) ?_ | refine Wo.val rfl (.fad rfl) ?_ | refine Wo.val rfl (.ld rfl (AH.rd_at (by assumption) (by exact rfl))) ?_)
      all_goals try refine Wo.branch rfl (fun hb => ?_) (fun hb => ?_)
      all_goals repeat' (first | refine Wc.ret ?_ | refine Fin.seq ?_ | refine Fin.seq_ret ?_ | refine Fin.block_ret ?_ | refine Wo.nil ?_ | refine Wo.skip rfl ?_ | refine Wo.val rfl (.mv rfl) ?_ | refine Wo.val rfl (.pick_f rfl rfl) ?_)
      all_goals try refine Wo.branch rfl (fun hb => ?_) (fun hb => ?_)
      all_goals repeat' (first | refine Wc.ret ?_ | refine Fin.seq ?_ | refine Fin.seq_ret ?_ | refine Fin.block_ret ?_ | refine Wo.nil ?_ | refine Wo.skip rfl ?_ | refine Wo.val rfl (.mv rfl) ?_ | refine Wo.val rfl (.pick_t rfl rfl) ?_ | refine Wo.val rfl (.pick_f rfl rfl) ?_ | refine Wo.val rfl (.chk rfl rfl) ?_ | refine Wo.val rfl (.bin rfl rfl rfl) ?_ | refine Wo.val rfl (.fad rfl) ?_ | refine Wo.val rfl (.ld rfl (AH.rd_at (by assumption) (by exact rfl))) ?_)
      all_goals try refine Wo.branch rfl (fun hb => ?_) (fun hb => ?_)
      all_goals skip
      all_goals try refine Wo.branch rfl (fun hb => ?_) (fun hb => ?_)
      all_goals skip
      all_goals
        refine Fin.kret rfl ⟨?_, rfl⟩
        simp_all [oneR, leafB] <;> (intros; exfalso; omega)
    · repeat' (first | refine Wc.ret ?_ | refine Fin.seq ?_ | refine Fin.seq_ret ?_ | refine Fin.block_ret ?_ | refine Wo.nil ?_ | refine Wo.skip rfl ?_ | refine Wo.val rfl (.mv rfl) ?_ | refine Wo.val rfl (.pick_f rfl rfl) ?_)
      all_goals try refine Wo.branch rfl (fun hb => ?_) (fun hb => ?_)
      all_goals skip
      all_goals
        refine Fin.kret rfl ⟨?_, rfl⟩
        simp_all [oneR, leafB] <;> (intros; exfalso; omega)
  have k3 : k ≠ 3 := by simpa using k3
  repeat' (first | refine Wc.seq ?_ | refine Wc.reg ?_ | refine Wc.skip ?_ | refine Fin.seq ?_ | refine Fin.block ?_ | refine Wo.val rfl (.mv rfl) ?_ | refine Wo.val rfl (.chk rfl rfl) ?_ | refine Wo.val rfl (.bin rfl rfl rfl) ?_ | refine Wo.val rfl (.fad rfl) ?_ | refine Wo.val rfl (.ld rfl (AH.rd_at (by assumption) (by exact rfl))) ?_)
  all_goals try refine Wo.branch rfl (fun hb => ?_) (fun hb => ?_)
  all_goals repeat' (first | refine Wc.ret ?_ | refine Fin.seq ?_ | refine Wo.nil ?_ | refine Wo.skip rfl ?_ | refine Wo.val rfl (.mv rfl) ?_ | refine Wo.val rfl (.pick_t rfl rfl) ?_ | refine Wo.val rfl (.pick_f rfl rfl) ?_ | refine Wo.val rfl (.chk rfl rfl) ?_ | refine Wo.val rfl (.bin rfl rfl rfl) ?_ | refine Wo.val rfl (.fad rfl) ?_ | refine Wo.val rfl (.ld rfl (AH.rd_at (by assumption) (by exact rfl))) ?_)
  all_goals try refine Wo.branch rfl (fun hb => ?_) (fun hb => ?_)
  all_goals repeat' (first | refine Wc.ret ?_ | refine Fin.seq ?_ | refine Wo.nil ?_ | refine Wo.skip rfl ?_ | refine Wo.val rfl (.mv rfl) ?_ | refine Wo.val rfl (.pick_t rfl rfl) ?_ | refine Wo.val rfl (.pick_f rfl rfl) ?_ | refine Wo.val rfl (.chk rfl rfl) ?_ | refine Wo.val rfl (.bin rfl rfl rfl) ?_ | refine Wo.val rfl (.fad rfl) ?_ | refine Wo.val rfl (.ld rfl (AH.rd_at (by assumption) (by exact rfl))) ?_)
  all_goals try refine Wo.branch rfl (fun hb => ?_) (fun hb => ?_)
  all_goals repeat' (first | refine Wc.ret ?_ | refine Fin.seq ?_ | refine Wo.nil ?_ | refine Wo.skip rfl ?_ | refine Wo.val rfl (.mv rfl) ?_ | refine Wo.val rfl (.pick_t rfl rfl) ?_ | refine Wo.val rfl (.pick_f rfl rfl) ?_ | refine Wo.val rfl (.chk rfl rfl) ?_ | refine Wo.val rfl (.bin rfl rfl rfl) ?_ | refine Wo.val rfl (.fad rfl) ?_ | refine Wo.val rfl (.ld rfl (AH.rd_at (by assumption) (by exact rfl))) ?_)
  all_goals try refine Wo.branch rfl (fun hb => ?_) (fun hb => ?_)
  all_goals skip
  all_goals
    refine Fin.kret rfl ⟨?_, rfl⟩
    simp_all [oneR, leafB] <;> (intros; exfalso; omega)
end Go.Vd.L
