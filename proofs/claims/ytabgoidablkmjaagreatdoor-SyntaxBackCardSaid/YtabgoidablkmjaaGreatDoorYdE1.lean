/- Words: the bytes of a run, the symbols. -/
import Derived.Test.YtabgoidablkmjaaGreatDoorYdD4
set_option linter.unusedVariables false
set_option linter.unusedSimpArgs false
namespace Go.Vd.L
open Go.Vd

/-- A byte of a run: letter, digit, underscore, at. -/
def runI (c : Int) : Bool := plainI c || decide (c = 64)

theorem rt30 (c : Int) (H : AH) : Rt Ck 30 [.int .u8 c] H fun v H' => v = .bool (runI c) ∧ H' = H := by
  refine Rt.enter (af := c30) rfl rfl ?_
  repeat' (first | refine Wc.seq ?_ | refine Wc.reg ?_ | refine Fin.seq ?_ | refine Wo.nil ?_ | refine Wo.val rfl (.mv rfl) ?_)
  refine Wo.call rfl rfl (rt38 c H) ?_
  rintro _ H1 ⟨rfl, e⟩
  rw [e]
  cases h : plainI c with
  | true =>
    repeat' (first | refine Wc.ret ?_ | refine Fin.seq ?_ | refine Wo.nil ?_ | refine Wo.skip rfl ?_ | refine Wo.val rfl (.mv rfl) ?_ | refine Wo.val rfl (.pick_t rfl rfl) ?_)
    exact Fin.kret rfl ⟨by simp [runI, h, oneR], rfl⟩
  | false =>
    have hb : binV Ck H .eql .int (.int .u8 c) (.int .u8 (Int.ofNat 64)) = some (.bool (decide (c = 64))) := by
      rw [binV_int (.inl rfl), if_pos rfl]
      simp [intOp]
    repeat' (first | refine Wc.ret ?_ | refine Fin.seq ?_ | refine Wo.nil ?_ | refine Wo.val rfl (.mv rfl) ?_ | refine Wo.val rfl (.pick_f rfl rfl) ?_ | refine Wo.val rfl (.bin rfl rfl (by assumption)) ?_)
    exact Fin.kret rfl ⟨by simp [runI, h, oneR], rfl⟩

/-- A symbol of one byte. -/
theorem rt31e {H : AH} : Rt Ck 31 [.str [41]] H fun v H' => v = .int .i64 1 ∧ H' = H := by
  refine Rt.enter (af := c31) rfl rfl ?_
  repeat' (first | refine Wc.seq ?_ | refine Wc.block ?_ | refine Wc.reg ?_ | refine Wc.skip ?_ | refine Wc.ret ?_ | refine Fin.seq ?_ | refine Fin.seq_ret ?_ | refine Fin.block_ret ?_ | refine Wo.nil ?_ | refine Wc.cond_t rfl ?_ | refine Wc.cond_f rfl ?_ | refine Wo.skip rfl ?_ | refine Wo.val rfl (.mv rfl) ?_ | refine Wo.val rfl (.pick_f rfl rfl) ?_ | refine Wo.val rfl (.bin rfl rfl rfl) ?_ | refine Wo.val rfl (.tlen rfl) ?_ | refine Wo.val rfl (.ixt rfl rfl (by decide) rfl) ?_)
  exact Fin.kret rfl ⟨rfl, rfl⟩

theorem rt31s {c : UInt8} {r : List UInt8} {H : AH} (hc : c = 40 ∨ c = 41 ∨ c = 44 ∨ c = 58) : Rt Ck 31 [.str (c :: 32 :: r)] H fun v H' => v = .int .i64 1 ∧ H' = H := by
  have hg : binV Ck H .geq .int (.int .i64 ((c :: 32 :: r).length : Nat)) (.int .i64 (Int.ofNat 2)) = some (.bool true) := geT (by simp; omega)
  rcases hc with rfl | rfl | rfl | rfl
  all_goals
    refine Rt.enter (af := c31) rfl rfl ?_
    repeat' (first | refine Wc.seq ?_ | refine Wc.reg ?_ | refine Fin.seq ?_ | refine Wo.nil ?_ | refine Wo.val rfl (.mv rfl) ?_ | refine Wo.val rfl (.bin rfl rfl (by assumption)) ?_ | refine Wo.val rfl (.tlen rfl) ?_)
    refine Wo.val rfl (.sls rfl rfl rfl (bnds_hi (n := 2) (by simp))) ?_
    repeat' (first | refine Wo.val rfl (.mv rfl) ?_ | refine Wo.val rfl (.bin rfl rfl rfl) ?_)
    refine Wo.val rfl (.sls rfl rfl rfl (bnds_hi (n := 2) (by simp))) ?_
    repeat' (first | refine Wo.val rfl (.mv rfl) ?_ | refine Wo.val rfl (.pick_f rfl rfl) ?_ | refine Wo.val rfl (.bin rfl rfl rfl) ?_)
    refine Wo.val rfl (.sls rfl rfl rfl (bnds_hi (n := 2) (by simp))) ?_
    repeat' (first | refine Wc.seq ?_ | refine Wc.block ?_ | refine Wc.reg ?_ | refine Wc.skip ?_ | refine Wc.ret ?_ | refine Fin.seq ?_ | refine Fin.seq_ret ?_ | refine Fin.block_ret ?_ | refine Wo.nil ?_ | refine Wc.cond_t rfl ?_ | refine Wc.cond_f rfl ?_ | refine Wo.val rfl (.mv rfl) ?_ | refine Wo.val rfl (.pick_t rfl rfl) ?_ | refine Wo.val rfl (.pick_f rfl rfl) ?_ | refine Wo.val rfl (.ixt rfl rfl (by decide) rfl) ?_ | refine Wo.val rfl (.bin rfl rfl rfl) ?_)
    first
      | refine Wo.val rfl (.ixt (b := 40) rfl rfl (by decide) rfl) ?_
      | refine Wo.val rfl (.ixt (b := 41) rfl rfl (by decide) rfl) ?_
      | refine Wo.val rfl (.ixt (b := 44) rfl rfl (by decide) rfl) ?_
      | refine Wo.val rfl (.ixt (b := 58) rfl rfl (by decide) rfl) ?_
      | skip
    skip
    exact Fin.kret rfl ⟨rfl, rfl⟩

/-- A symbol of two bytes. -/
theorem rt31d {a b : UInt8} {r : List UInt8} {H : AH} (hc : (a = 58 ∧ b = 61) ∨ (a = 61 ∧ b = 62)) : Rt Ck 31 [.str (a :: b :: r)] H fun v H' => v = .int .i64 2 ∧ H' = H := by
  have hg : binV Ck H .geq .int (.int .i64 ((a :: b :: r).length : Nat)) (.int .i64 (Int.ofNat 2)) = some (.bool true) := geT (by simp; omega)
  rcases hc with ⟨rfl, rfl⟩ | ⟨rfl, rfl⟩
  · refine Rt.enter (af := c31) rfl rfl ?_
    repeat' (first | refine Wc.seq ?_ | refine Wc.reg ?_ | refine Fin.seq ?_ | refine Wo.nil ?_ | refine Wo.val rfl (.mv rfl) ?_ | refine Wo.val rfl (.bin rfl rfl (by assumption)) ?_ | refine Wo.val rfl (.tlen rfl) ?_)
    refine Wo.val rfl (.sls rfl rfl rfl (bnds_hi (n := 2) (by simp))) ?_
    repeat' (first | refine Wc.seq ?_ | refine Wc.reg ?_ | refine Wc.ret ?_ | refine Fin.seq ?_ | refine Fin.seq_ret ?_ | refine Wo.nil ?_ | refine Wc.cond_t rfl ?_ | refine Wo.skip rfl ?_ | refine Wo.val rfl (.mv rfl) ?_ | refine Wo.val rfl (.pick_t rfl rfl) ?_ | refine Wo.val rfl (.bin rfl rfl rfl) ?_)
    exact Fin.kret rfl ⟨rfl, rfl⟩
  · refine Rt.enter (af := c31) rfl rfl ?_
    repeat' (first | refine Wc.seq ?_ | refine Wc.reg ?_ | refine Fin.seq ?_ | refine Wo.nil ?_ | refine Wo.val rfl (.mv rfl) ?_ | refine Wo.val rfl (.bin rfl rfl (by assumption)) ?_ | refine Wo.val rfl (.tlen rfl) ?_)
    refine Wo.val rfl (.sls rfl rfl rfl (bnds_hi (n := 2) (by simp))) ?_
    repeat' (first | refine Wo.val rfl (.mv rfl) ?_ | refine Wo.val rfl (.bin rfl rfl rfl) ?_)
    refine Wo.val rfl (.sls rfl rfl rfl (bnds_hi (n := 2) (by simp))) ?_
    repeat' (first | refine Wc.seq ?_ | refine Wc.reg ?_ | refine Wc.ret ?_ | refine Fin.seq ?_ | refine Fin.seq_ret ?_ | refine Wo.nil ?_ | refine Wc.cond_t rfl ?_ | refine Wo.skip rfl ?_ | refine Wo.val rfl (.mv rfl) ?_ | refine Wo.val rfl (.pick_t rfl rfl) ?_ | refine Wo.val rfl (.pick_f rfl rfl) ?_ | refine Wo.val rfl (.bin rfl rfl rfl) ?_)
    exact Fin.kret rfl ⟨rfl, rfl⟩
end Go.Vd.L
namespace Go.Vd.L
open Go.Vd

/-- Words with one blank between. -/
def sp : List (List UInt8) → List UInt8
  | [] => []
  | [w] => w
  | w :: v :: r => w ++ 32 :: sp (v :: r)

theorem sp_cons {w : List UInt8} {l : List (List UInt8)} (h : l ≠ []) : sp (w :: l) = w ++ 32 :: sp l := by
  cases l with
  | nil => exact absurd rfl h
  | cons v r => rfl
theorem sp_app : ∀ {a b : List (List UInt8)}, a ≠ [] → b ≠ [] → sp (a ++ b) = sp a ++ 32 :: sp b
  | [], _, h, _ => absurd rfl h
  | [w], b, _, hb => sp_cons hb
  | w :: v :: r, b, _, hb => by
    have ih := sp_app (a := v :: r) (b := b) (by simp) hb
    rw [show w :: v :: r ++ b = w :: (v :: r ++ b) from rfl, sp_cons (l := v :: r ++ b) (by simp), ih, sp_cons (l := v :: r) (by simp)]
    simp only [List.append_assoc, List.cons_append]

def parT (k : Int) (arg : Bool) (l : List (List UInt8)) : List (List UInt8) := if k = 4 ∨ k = 5 ∨ k = 7 ∨ (k = 6 ∧ arg = true) then [[40]] ++ l ++ [[41]] else l
def vn (d : Nat) : List UInt8 := 95 :: itoaD d

def tok : Tm → Nat → List (List UInt8)
  | .nd0 k n s, d => [pr (.nd0 k n s) d]
  | .nd2 k a b, d => if k = 6 then parT (kT a) false (tok a d) ++ parT (kT b) true (tok b d) else if k = 4 then [[112, 105], vn d, [58]] ++ tok a d ++ [[44]] ++ tok b (d + 1) else [[102, 117, 110], vn d, [58]] ++ tok a d ++ [[61, 62]] ++ tok b (d + 1)
  | .nd3 a b c, d => [[108, 101, 116], vn d, [58]] ++ tok a d ++ [[58, 61]] ++ tok b d ++ [[105, 110]] ++ tok c (d + 1)

theorem parT_ne {k : Int} {arg : Bool} {l : List (List UInt8)} (h : l ≠ []) : parT k arg l ≠ [] := by
  unfold parT
  split
  · simp
  · exact h
theorem tok_ne : ∀ (t : Tm) (d : Nat), tok t d ≠ []
  | .nd0 k n s, d => by simp [tok]
  | .nd2 k a b, d => by
    simp only [tok]
    split
    · have := parT_ne (k := kT a) (arg := false) (tok_ne a d)
      simp [this]
    · split <;> simp
  | .nd3 a b c, d => by simp [tok]

theorem sp_par {k : Int} {arg : Bool} {l : List (List UInt8)} (h : l ≠ []) : sp (parT k arg l) = par k arg (sp l) := by
  unfold parT par
  split
  · rw [List.append_assoc, sp_app (by simp) (by simp [h]), sp_app h (by simp)]
    simp [sp]
  · rfl

theorem pr_tok : ∀ (t : Tm) (d : Nat), pr t d = sp (tok t d)
  | .nd0 k n s, d => by simp [tok, sp]
  | .nd2 k a b, d => by
    have na := tok_ne a d
    have nb := tok_ne b d
    have nb' := tok_ne b (d + 1)
    have ia := pr_tok a d
    have ib := pr_tok b d
    have ib' := pr_tok b (d + 1)
    simp only [tok, pr]
    split
    · rw [sp_app (parT_ne na) (parT_ne nb), sp_par na, sp_par nb, ia, ib]
      simp
    · split
      · rw [sp_app (by simp) nb', sp_app (by simp) (by simp), sp_app (by simp) na, ia, ib']
        simp [sp, head, vn]
      · rw [sp_app (by simp) nb', sp_app (by simp) (by simp), sp_app (by simp) na, ia, ib']
        simp [sp, head, vn]
  | .nd3 a b c, d => by
    have na := tok_ne a d
    have nb := tok_ne b d
    have nc := tok_ne c (d + 1)
    have ia := pr_tok a d
    have ib := pr_tok b d
    have ic := pr_tok c (d + 1)
    simp only [tok, pr]
    rw [sp_app (by simp) nc, sp_app (by simp) (by simp), sp_app (by simp) nb, sp_app (by simp) (by simp), sp_app (by simp) na, ia, ib, ic]
    simp [sp, head, vn]
end Go.Vd.L
namespace Go.Vd.L
open Go.Vd

def goAt (s : List UInt8) (i j : Nat) : Prop :=
  ∃ c, s[j]? = some c ∧ (runI (c.toNat : Int) = true ∨ (runI (c.toNat : Int) = false ∧ c = 46 ∧ i < j ∧ (∃ b, s[j - 1]? = some b ∧ runI (b.toNat : Int) = true) ∧ ∃ b, s[j + 1]? = some b ∧ runI (b.toNat : Int) = true))
def stopAt (s : List UInt8) (j : Nat) : Prop := j = s.length ∨ ∃ c, s[j]? = some c ∧ runI (c.toNat : Int) = false ∧ c ≠ 46

theorem at_lt {s : List UInt8} {j : Nat} {c : UInt8} (h : s[j]? = some c) : j < s.length := by
  rcases Nat.lt_or_ge j s.length with g | g
  · exact g
  · rw [List.getElem?_eq_none g] at h; cases h

set_option maxHeartbeats 1000000 in
theorem loopI {Q : AEx → ASt → Prop} {s : List UInt8} {ws : AV} {i e : Nat} {H : AH} (hs : s.length ≤ 2000) (he : stopAt s e)
    (hE : Fin Q (.exit 2) [(0, .str s), (4, ws), (5, .int .i64 (i : Nat)), (6, .int .i64 (e : Nat))] [] H) :
    ∀ d j, j + d = e → (∀ m, j ≤ m → m < e → goAt s i m) → Wc Ck (.loop (bodyN c12 1)) [(0, .str s), (4, ws), (5, .int .i64 (i : Nat)), (6, .int .i64 (j : Nat))] [] H Q := by
  intro d
  induction d with
  | zero =>
    intro j hj _
    have hj : j = e := by omega
    subst hj
    refine Wc.loop ?_
    rcases he with rfl | ⟨c, hc, hr, h46⟩
    · have b1 : binV Ck H .lss .int (.int .i64 (s.length : Nat)) (.int .i64 (s.length : Nat)) = some (.bool false) := ltF (by omega)
      repeat' (first | refine Wc.seq ?_ | refine Wc.reg ?_ | refine Wc.exit ?_ | refine Fin.seq ?_ | refine Fin.seq_exit ?_ | refine Wo.nil ?_ | refine Wc.cond_f rfl ?_ | refine Wo.skip rfl ?_ | refine Wo.val rfl (.mv rfl) ?_ | refine Wo.val rfl (.pick_f rfl rfl) ?_ | refine Wo.val rfl (.bin rfl rfl (by assumption)) ?_ | refine Wo.val rfl (.tlen rfl) ?_)
      exact hE.weak ⟨rfl, rfl, rfl, rfl, trivial⟩
    · have hl := at_lt hc
      have b1 : binV Ck H .lss .int (.int .i64 (j : Nat)) (.int .i64 (s.length : Nat)) = some (.bool true) := ltT (by omega)
      have b2 : binV Ck H .eql .int (.int .u8 (c.toNat : Nat)) (.int .u8 (Int.ofNat 46)) = some (.bool false) := binV_eqF (by
        intro h
        apply h46
        apply UInt8.toNat_inj.1
        have h' : (c.toNat : Int) = 46 := h
        show c.toNat = 46
        omega)
      repeat' (first | refine Wc.seq ?_ | refine Wc.reg ?_ | refine Wo.val rfl (.mv rfl) ?_ | refine Wo.val rfl (.bin rfl rfl (by assumption)) ?_ | refine Wo.val rfl (.tlen rfl) ?_)
      refine Wo.val rfl (.ixt rfl rfl (by omega) (by rw [Int.toNat_natCast]; exact hc)) ?_
      skip
      refine Wo.call rfl rfl (rt30 _ H) ?_
      rintro _ H1 ⟨rfl, e1⟩
      rw [e1, hr]
      repeat' refine Wo.val rfl (.mv rfl) ?_
      refine Wo.val rfl (.ixt rfl rfl (by omega) (by rw [Int.toNat_natCast]; exact hc)) ?_
      repeat' (first | refine Wc.exit ?_ | refine Fin.seq ?_ | refine Fin.seq_exit ?_ | refine Wo.nil ?_ | refine Wc.cond_f rfl ?_ | refine Wo.skip rfl ?_ | refine Wo.val rfl (.mv rfl) ?_ | refine Wo.val rfl (.pick_t rfl rfl) ?_ | refine Wo.val rfl (.pick_f rfl rfl) ?_ | refine Wo.val rfl (.bin rfl rfl (by assumption)) ?_)
      exact hE.weak ⟨rfl, rfl, rfl, rfl, trivial⟩
  | succ d ih =>
    intro j hj hgo
    obtain ⟨c, hc, hcase⟩ := hgo j (Nat.le_refl _) (by omega)
    have hl := at_lt hc
    have hn := ih (j + 1) (by omega) (fun m h1 h2 => hgo m (by omega) h2)
    have w1 : IntKind.i64.wrap ((j : Int) + Int.ofNat 1) = ((j + 1 : Nat) : Int) := wrap_succ (by omega)
    have b1 : binV Ck H .lss .int (.int .i64 (j : Nat)) (.int .i64 (s.length : Nat)) = some (.bool true) := ltT (by omega)
    refine Wc.loop ?_
    rcases hcase with hr | ⟨hr, rfl, hij, ⟨b, hb, hbr⟩, b', hb', hbr'⟩
    · repeat' (first | refine Wc.seq ?_ | refine Wc.reg ?_ | refine Wo.val rfl (.mv rfl) ?_ | refine Wo.val rfl (.bin rfl rfl (by assumption)) ?_ | refine Wo.val rfl (.tlen rfl) ?_)
      refine Wo.val rfl (.ixt rfl rfl (by omega) (by rw [Int.toNat_natCast]; exact hc)) ?_
      skip
      refine Wo.call rfl rfl (rt30 _ H) ?_
      rintro _ H1 ⟨rfl, e1⟩
      rw [e1, hr]
      repeat' (first | refine Wc.block ?_ | refine Wc.reg ?_ | refine Wc.skip ?_ | refine Fin.seq ?_ | refine Fin.block ?_ | refine Wo.nil ?_ | refine Wc.cond_t rfl ?_ | refine Wo.skip rfl ?_ | refine Wo.val rfl (.mv rfl) ?_ | refine Wo.val rfl (.pick_t rfl rfl) ?_ | refine Wo.val rfl (.bin rfl rfl rfl) ?_)
      rw [w1]
      exact hn.weak ⟨rfl, rfl, rfl, rfl, trivial⟩
    · have hl' := at_lt hb'
      have b2 : binV Ck H .eql .int (.int .u8 ((46 : UInt8).toNat : Nat)) (.int .u8 (Int.ofNat 46)) = some (.bool true) := binV_eqT rfl
      have b3 : binV Ck H .gtr .int (.int .i64 (j : Nat)) (.int .i64 (i : Nat)) = some (.bool true) := gtT (by omega)
      have b4 : binV Ck H .sub .int (.int .i64 (j : Nat)) (.int .i64 (Int.ofNat 1)) = some (.int .i64 (j - 1 : Nat)) := sub_n (b := 1) (by omega) (by omega)
      have b5 := add_1 (H := H) (a := j) (by omega)
      have b6 : binV Ck H .lss .int (.int .i64 (j + 1 : Nat)) (.int .i64 (s.length : Nat)) = some (.bool true) := ltT (by omega)
      repeat' (first | refine Wc.seq ?_ | refine Wc.reg ?_ | refine Wo.val rfl (.mv rfl) ?_ | refine Wo.val rfl (.bin rfl rfl (by assumption)) ?_ | refine Wo.val rfl (.tlen rfl) ?_)
      refine Wo.val rfl (.ixt rfl rfl (by omega) (by rw [Int.toNat_natCast]; exact hc)) ?_
      skip
      refine Wo.call rfl rfl (rt30 _ H) ?_
      rintro _ H1 ⟨rfl, e1⟩
      rw [e1, hr]
      repeat' refine Wo.val rfl (.mv rfl) ?_
      refine Wo.val rfl (.ixt rfl rfl (by omega) (by rw [Int.toNat_natCast]; exact hc)) ?_
      repeat' (first | refine Wo.val rfl (.mv rfl) ?_ | refine Wo.val rfl (.pick_t rfl rfl) ?_ | refine Wo.val rfl (.bin rfl rfl (by assumption)) ?_)
      refine Wo.val rfl (.ixt rfl rfl (by omega) (by rw [Int.toNat_natCast]; exact hb)) ?_
      skip
      refine Wo.call rfl rfl (rt30 _ H) ?_
      rintro _ H2 ⟨rfl, e2⟩
      rw [e2, hbr]
      repeat' (first | refine Wo.val rfl (.mv rfl) ?_ | refine Wo.val rfl (.pick_t rfl rfl) ?_ | refine Wo.val rfl (.bin rfl rfl (by assumption)) ?_ | refine Wo.val rfl (.tlen rfl) ?_)
      refine Wo.val rfl (.ixt rfl rfl (by omega) (by rw [Int.toNat_natCast]; exact hb')) ?_
      skip
      refine Wo.call rfl rfl (rt30 _ H) ?_
      rintro _ H3 ⟨rfl, e3⟩
      rw [e3, hbr']
      repeat' (first | refine Wc.block ?_ | refine Wc.reg ?_ | refine Wc.skip ?_ | refine Fin.seq ?_ | refine Fin.block ?_ | refine Wo.nil ?_ | refine Wc.cond_t rfl ?_ | refine Wo.val rfl (.mv rfl) ?_ | refine Wo.val rfl (.pick_t rfl rfl) ?_ | refine Wo.val rfl (.pick_f rfl rfl) ?_ | refine Wo.val rfl (.bin rfl rfl (by assumption)) ?_)
      exact hn.weak ⟨rfl, rfl, rfl, rfl, trivial⟩
end Go.Vd.L
namespace Go.Vd.L
open Go.Vd

/-- The words so far. -/
def WS (N : Nat) (H : AH) (ws : AV) (done : List (List UInt8)) : Prop :=
  (done = [] ∧ ws = .nils) ∨ (done ≠ [] ∧ ∃ K, ws = .slc K 0 done.length done.length 1 false ∧ H.get K = some (.cells (strs done) 9 1) ∧ N ≤ K ∧ K < H.next)

theorem strs_len (l : List (List UInt8)) : (strs l).length = l.length := by simp [strs]
theorem strs_one (l : List (List UInt8)) : (strs l).all AV.one = true := by simp [strs, AV.one]

theorem appW {N : Nat} {H : AH} {ws : AV} {done : List (List UInt8)} {w : List UInt8} {A fl : Nat} {ex : Bool} (h : WS N H ws done) (hd : done.length ≤ 3000) (hA : H.get A = some (.cells [.str w] 9 fl)) (hNA : N ≤ A) (hAl : A < H.next) (hKA : ∀ K n c s b, ws = .slc K 0 n c s b → K ≠ A) :
    ∃ ws' H', appA H 9 1 16 ws (.slc A 0 1 1 1 ex) = some (ws', H') ∧ WS N H' ws' (done ++ [w]) ∧ H'.next = H.next + 1 ∧ ∀ Y, Y < N → H'.get Y = H.get Y := by
  have e : contA H 1 (.slc A 0 1 1 1 ex) = some [.str w] := by
    show (if Nat.beq 1 1 && Nat.ble 1 1 then H.rdn A 0 (1 * 1) else none) = _
    rw [if_pos (by rfl), AH.rdn_all (n := 1 * 1) hA rfl]
  rcases h with ⟨rfl, rfl⟩ | ⟨hne, K, rfl, hK, hNK, hKl⟩
  · refine ⟨.slc H.next 0 1 1 1 false, H.push (.cells [.str w] 9 1), by unfold appA; rw [e]; simp [AV.one], .inr ⟨by simp, H.next, rfl, AH.get_push_self _ _, by omega, by rw [AH.next_push]; omega⟩, AH.next_push _ _, fun Y hY => AH.get_push_ne _ _ (by omega)⟩
  · have h2 : Nat.ble (done.length + 1) done.length = false := by
      cases hb : Nat.ble (done.length + 1) done.length with
      | false => rfl
      | true => have := Nat.le_of_ble_eq_true hb; omega
    refine ⟨.slc H.next 0 (done ++ [w]).length (done ++ [w]).length 1 false, (H.set K .dead).push (.cells (strs (done ++ [w])) 9 1), ?_, .inr ⟨by simp, H.next, rfl, ?_, by omega, by rw [AH.next_push, AH.next_set]; omega⟩, by rw [AH.next_push, AH.next_set], fun Y hY => by rw [AH.get_push_ne _ _ (by rw [AH.next_set]; omega), AH.get_set_ne _ _ (by omega)]⟩
    · unfold appA
      rw [e]
      simp only [List.length_cons, List.length_nil, Nat.div_one, Nat.zero_add, h2, hK, strs_len, Nat.beq_refl, Nat.ble_eq_true_of_le (Nat.le_refl done.length), Nat.mul_one, Nat.ble_eq_true_of_le (show (4 * (done.length + 1) + 4096) * 16 ≤ 281474976710656 by omega), Nat.ble_eq_true_of_le (show done.length + 1 ≤ 4294967296 by omega), Bool.and_self, if_true, List.length_append, List.drop_zero]
      rw [show (strs done).take done.length = strs done from by rw [← strs_len done, List.take_length]]
      simp [strs, AV.one, AH.next_set]
    · rw [← AH.next_set H K .dead, AH.get_push_self]

theorem WS.push {N : Nat} {H : AH} {ws : AV} {done : List (List UInt8)} {b : AB} (h : WS N H ws done) : WS N (H.push b) ws done := by
  rcases h with h | ⟨h0, K, h1, h2, h3, h4⟩
  · exact .inl h
  · exact .inr ⟨h0, K, h1, by rw [AH.get_push_ne _ _ (by omega)]; exact h2, h3, by rw [AH.next_push]; omega⟩

set_option maxHeartbeats 1000000 in
theorem wordStep {Q : AEx → ASt → Prop} {N : Nat} {s w : List UInt8} {ws : AV} {done : List (List UInt8)} {i : Nat} {c : UInt8} {H : AH} (hs : s.length ≤ 2000) (hd : done.length ≤ 2000) (hN : N ≤ H.next)
    (hw0 : 0 < w.length) (hi : i + w.length ≤ s.length) (hw : (s.drop i).take w.length = w) (hc : s[i]? = some c) (hb : c ≠ 32 ∧ c ≠ 9 ∧ c ≠ 10 ∧ c ≠ 13)
    (hmid : ((∀ m, i ≤ m → m < i + w.length → goAt s i m) ∧ stopAt s (i + w.length)) ∨ (stopAt s i ∧ ∀ H, Rt Ck 31 [.str (s.drop i)] H fun v H' => v = .int .i64 (w.length : Nat) ∧ H' = H)) (hW : WS N H ws done)
    (hn : ∀ H' ws', WS N H' ws' (done ++ [w]) → H.next ≤ H'.next → (∀ Y, Y < N → H'.get Y = H.get Y) → Wc Ck (.loop (bodyN c12 0)) [(0, .str s), (4, ws'), (5, .int .i64 (i + w.length : Nat))] [] H' Q) :
    Wc Ck (.loop (bodyN c12 0)) [(0, .str s), (4, ws), (5, .int .i64 (i : Nat))] [] H Q := by
  have ne : ∀ n : Nat, c.toNat ≠ n → binV Ck H .eql .int (.int .u8 (c.toNat : Nat)) (.int .u8 (Int.ofNat n)) = some (.bool false) := fun n h => binV_eqF (by
    intro g
    have g' : (c.toNat : Int) = (n : Int) := g
    omega)
  have n32 := ne 32 (fun g => hb.1 (UInt8.toNat_inj.1 g))
  have n9 := ne 9 (fun g => hb.2.1 (UInt8.toNat_inj.1 g))
  have n10 := ne 10 (fun g => hb.2.2.1 (UInt8.toNat_inj.1 g))
  have n13 := ne 13 (fun g => hb.2.2.2 (UInt8.toNat_inj.1 g))
  have b1 : binV Ck H .lss .int (.int .i64 (i : Nat)) (.int .i64 (s.length : Nat)) = some (.bool true) := ltT (by omega)
  refine Wc.loop ?_
  repeat' (first | refine Wc.seq ?_ | refine Wc.block ?_ | refine Wc.reg ?_ | refine Wc.skip ?_ | refine Fin.seq ?_ | refine Wo.nil ?_ | refine Wc.cond_t rfl ?_ | refine Wo.val rfl (.mv rfl) ?_ | refine Wo.val rfl (.bin rfl rfl (by assumption)) ?_ | refine Wo.val rfl (.tlen rfl) ?_)
  refine Wo.val rfl (.ixt rfl rfl (by omega) (by rw [Int.toNat_natCast]; exact hc)) ?_
  repeat' (first | refine Wo.val rfl (.mv rfl) ?_ | refine Wo.val rfl (.bin rfl rfl (by assumption)) ?_)
  refine Wo.val rfl (.ixt rfl rfl (by omega) (by rw [Int.toNat_natCast]; exact hc)) ?_
  repeat' (first | refine Wo.val rfl (.mv rfl) ?_ | refine Wo.val rfl (.pick_f rfl rfl) ?_ | refine Wo.val rfl (.bin rfl rfl (by assumption)) ?_)
  refine Wo.val rfl (.ixt rfl rfl (by omega) (by rw [Int.toNat_natCast]; exact hc)) ?_
  repeat' (first | refine Wo.val rfl (.mv rfl) ?_ | refine Wo.val rfl (.pick_f rfl rfl) ?_ | refine Wo.val rfl (.bin rfl rfl (by assumption)) ?_)
  refine Wo.val rfl (.ixt rfl rfl (by omega) (by rw [Int.toNat_natCast]; exact hc)) ?_
  repeat' (first | refine Wc.seq ?_ | refine Wc.block ?_ | refine Wc.reg ?_ | refine Wc.skip ?_ | refine Fin.seq ?_ | refine Wo.nil ?_ | refine Wc.cond_f rfl ?_ | refine Wo.val rfl (.mv rfl) ?_ | refine Wo.val rfl (.pick_f rfl rfl) ?_ | refine Wo.val rfl (.bin rfl rfl (by assumption)) ?_)
  have hWp := hW.push (b := .cells [.str w] 9 0)
  obtain ⟨ws', H', ha, hW', hn', hs'⟩ := appW (A := H.next) (ex := true) hWp (by omega) (AH.get_push_self _ _) hN (by rw [AH.next_push]; omega) (fun K n c' s' b' e => by
    rcases hW with ⟨_, e'⟩ | ⟨_, K', e', _, _, hK'⟩
    · rw [e'] at e; cases e
    · rw [e'] at e; cases e; omega)
  have hgo := hn H' ws' hW' (by rw [hn', AH.next_push]; omega) (fun Y hY => by rw [hs' Y hY, AH.get_push_ne _ _ (by omega)])
  have e1 : (s.drop i).take (i + w.length - i) = w := by rw [Nat.add_sub_cancel_left]; exact hw
  have x1 : binV Ck H .eql .int (.int .i64 (i + w.length : Nat)) (.int .i64 (i : Nat)) = some (.bool false) := binV_eqF (by omega)
  rcases hmid with ⟨hgoes, hstop⟩ | ⟨hstop, h31⟩
  · refine Wc.weak (loopI (s := s) (ws := ws) (i := i) (H := H) (e := i + w.length) hs hstop ?_ w.length i rfl hgoes) ?_
    · repeat' (first | refine Wc.seq ?_ | refine Wc.reg ?_ | refine Wc.skip ?_ | refine Fin.seq ?_ | refine Fin.block_here ?_ | refine Wo.nil ?_ | refine Wc.cond_f rfl ?_ | refine Wo.val rfl (.mv rfl) ?_ | refine Wo.val rfl (.bin rfl rfl (by assumption)) ?_)
      refine Wo.val rfl (.sls rfl rfl rfl (bnds_lohi (by omega) (by omega))) ?_
      rw [e1]
      refine Wo.val rfl (.bslice rfl rfl rfl) ?_
      refine Wo.val rfl (.app rfl rfl ha) ?_
      repeat' (first | refine Wc.reg ?_ | refine Fin.seq ?_ | refine Fin.block ?_ | refine Wo.nil ?_ | refine Wo.val rfl (.mv rfl) ?_)
      exact hgo.weak ⟨rfl, rfl, rfl, trivial⟩
    · exact ⟨rfl, rfl, rfl, rfl, trivial⟩
  · have x2 : binV Ck H .eql .int (.int .i64 (i : Nat)) (.int .i64 (i : Nat)) = some (.bool true) := binV_eqT rfl
    have x3 : binV Ck H .add .int (.int .i64 (i : Nat)) (.int .i64 (w.length : Nat)) = some (.int .i64 (i + w.length : Nat)) := by
      show some (AV.int .i64 (IntKind.i64.wrap ((i : Int) + (w.length : Int)))) = _
      rw [show (i : Int) + (w.length : Int) = ((i + w.length : Nat) : Int) by omega, wrap_i64 (by omega) (by omega)]
    refine Wc.weak (loopI (s := s) (ws := ws) (i := i) (H := H) (e := i) hs hstop ?_ 0 i rfl (fun m h1 h2 => by omega)) ?_
    · repeat' (first | refine Wc.seq ?_ | refine Wc.reg ?_ | refine Fin.seq ?_ | refine Fin.block_here ?_ | refine Wo.nil ?_ | refine Wc.cond_t rfl ?_ | refine Wo.val rfl (.mv rfl) ?_ | refine Wo.val rfl (.bin rfl rfl (by assumption)) ?_)
      refine Wo.val rfl (.sls rfl rfl rfl (bnds_lo (by omega))) ?_
      rw [show List.take (s.length - i) (List.drop i s) = s.drop i from List.take_of_length_le (by simp)]
      refine Wo.call rfl rfl (h31 H) ?_
      rintro _ H1 ⟨rfl, e2⟩
      rw [e2]
      repeat' (first | refine Wc.seq ?_ | refine Wc.reg ?_ | refine Wc.skip ?_ | refine Fin.seq ?_ | refine Wo.nil ?_ | refine Wc.cond_f rfl ?_ | refine Wo.val rfl (.mv rfl) ?_ | refine Wo.val rfl (.bin rfl rfl (by assumption)) ?_)
      refine Wo.val rfl (.sls rfl rfl rfl (bnds_lohi (by omega) (by omega))) ?_
      rw [e1]
      refine Wo.val rfl (.bslice rfl rfl rfl) ?_
      refine Wo.val rfl (.app rfl rfl ha) ?_
      repeat' (first | refine Wc.reg ?_ | refine Fin.seq ?_ | refine Fin.block ?_ | refine Wo.nil ?_ | refine Wo.val rfl (.mv rfl) ?_)
      exact hgo.weak ⟨rfl, rfl, rfl, trivial⟩
    · exact ⟨rfl, rfl, rfl, rfl, trivial⟩
end Go.Vd.L
namespace Go.Vd.L
open Go.Vd

theorem blankStep {Q : AEx → ASt → Prop} {s : List UInt8} {ws : AV} {i : Nat} {H : AH} (hs : s.length ≤ 2000) (hc : s[i]? = some 32)
    (hn : Wc Ck (.loop (bodyN c12 0)) [(0, .str s), (4, ws), (5, .int .i64 (i + 1 : Nat))] [] H Q) : Wc Ck (.loop (bodyN c12 0)) [(0, .str s), (4, ws), (5, .int .i64 (i : Nat))] [] H Q := by
  have hl := at_lt hc
  have b1 : binV Ck H .lss .int (.int .i64 (i : Nat)) (.int .i64 (s.length : Nat)) = some (.bool true) := ltT (by omega)
  have b2 : binV Ck H .eql .int (.int .u8 ((32 : UInt8).toNat : Nat)) (.int .u8 (Int.ofNat 32)) = some (.bool true) := binV_eqT rfl
  have b3 := add_1 (H := H) (a := i) (by omega)
  refine Wc.loop ?_
  repeat' (first | refine Wc.seq ?_ | refine Wc.block ?_ | refine Wc.reg ?_ | refine Wc.skip ?_ | refine Fin.seq ?_ | refine Wo.nil ?_ | refine Wc.cond_t rfl ?_ | refine Wo.val rfl (.mv rfl) ?_ | refine Wo.val rfl (.bin rfl rfl (by assumption)) ?_ | refine Wo.val rfl (.tlen rfl) ?_)
  refine Wo.val rfl (.ixt rfl rfl (by omega) (by rw [Int.toNat_natCast]; exact hc)) ?_
  repeat' (first | refine Wc.seq ?_ | refine Wc.reg ?_ | refine Wc.exit ?_ | refine Fin.seq ?_ | refine Fin.seq_exit ?_ | refine Fin.block_here ?_ | refine Wo.nil ?_ | refine Wc.cond_t rfl ?_ | refine Wo.skip rfl ?_ | refine Wo.val rfl (.mv rfl) ?_ | refine Wo.val rfl (.pick_t rfl rfl) ?_ | refine Wo.val rfl (.bin rfl rfl (by assumption)) ?_)
  exact hn.weak ⟨rfl, rfl, rfl, trivial⟩

theorem endStep {Q : AEx → ASt → Prop} {s : List UInt8} {ws : AV} {H : AH} (hn : Fin Q (.exit 0) [(0, .str s), (4, ws), (5, .int .i64 (s.length : Nat))] [] H) :
    Wc Ck (.loop (bodyN c12 0)) [(0, .str s), (4, ws), (5, .int .i64 (s.length : Nat))] [] H Q := by
  have b1 : binV Ck H .lss .int (.int .i64 (s.length : Nat)) (.int .i64 (s.length : Nat)) = some (.bool false) := ltF (by omega)
  refine Wc.loop ?_
  repeat' (first | refine Wc.seq ?_ | refine Wc.reg ?_ | refine Wc.exit ?_ | refine Fin.seq ?_ | refine Fin.seq_exit ?_ | refine Wo.nil ?_ | refine Wc.cond_f rfl ?_ | refine Wo.val rfl (.mv rfl) ?_ | refine Wo.val rfl (.bin rfl rfl (by assumption)) ?_ | refine Wo.val rfl (.tlen rfl) ?_)
  exact hn.weak ⟨rfl, rfl, rfl, trivial⟩

/-- A word that Words takes whole. -/
def runTok (w : List UInt8) : Prop := ∀ m, m < w.length → goAt w 0 m
def symTok (w : List UInt8) : Prop := w = [40] ∨ w = [41] ∨ w = [44] ∨ w = [58] ∨ w = [58, 61] ∨ w = [61, 62]
def Good (w : List UInt8) : Prop := w ≠ [] ∧ (runTok w ∨ symTok w)
end Go.Vd.L
namespace Go.Vd.L
open Go.Vd

theorem rt31c {c : UInt8} {H : AH} (hc : c = 40 ∨ c = 41 ∨ c = 44 ∨ c = 58) : Rt Ck 31 [.str [c]] H fun v H' => v = .int .i64 1 ∧ H' = H := by
  rcases hc with rfl | rfl | rfl | rfl
  all_goals
    refine Rt.enter (af := c31) rfl rfl ?_
    repeat' (first | refine Wc.seq ?_ | refine Wc.block ?_ | refine Wc.reg ?_ | refine Wc.skip ?_ | refine Wc.ret ?_ | refine Fin.seq ?_ | refine Fin.seq_ret ?_ | refine Fin.block_ret ?_ | refine Wo.nil ?_ | refine Wc.cond_t rfl ?_ | refine Wc.cond_f rfl ?_ | refine Wo.skip rfl ?_ | refine Wo.val rfl (.mv rfl) ?_ | refine Wo.val rfl (.pick_f rfl rfl) ?_ | refine Wo.val rfl (.bin rfl rfl rfl) ?_ | refine Wo.val rfl (.tlen rfl) ?_ | refine Wo.val rfl (.ixt rfl rfl (by decide) rfl) ?_)
    exact Fin.kret rfl ⟨rfl, rfl⟩

section
variable {s w t : List UInt8} {i : Nat}
theorem at_app (h : s.drop i = w ++ t) {k : Nat} {c : UInt8} (hk : w[k]? = some c) : s[i + k]? = some c := by
  have hl := at_lt hk
  have : (s.drop i)[k]? = some c := by rw [h, List.getElem?_append_left hl]; exact hk
  rwa [List.getElem?_drop] at this

theorem go_app (h : s.drop i = w ++ t) (hw : runTok w) : ∀ m, i ≤ m → m < i + w.length → goAt s i m := by
  intro m h1 h2
  obtain ⟨c, hc, hr⟩ := hw (m - i) (by omega)
  have e : i + (m - i) = m := by omega
  refine ⟨c, by rw [← e]; exact at_app h hc, ?_⟩
  rcases hr with hr | ⟨hr, h46, hm, ⟨b, hb, hbr⟩, b', hb', hbr'⟩
  · exact .inl hr
  · refine .inr ⟨hr, h46, by omega, ⟨b, ?_, hbr⟩, b', ?_, hbr'⟩
    · rw [show m - 1 = i + (m - i - 1) by omega]; exact at_app h hb
    · rw [show m + 1 = i + (m - i + 1) by omega]; exact at_app h hb'

theorem run_nb {c : UInt8} (h : runI (c.toNat : Int) = true ∨ c = 46) : c ≠ 32 ∧ c ≠ 9 ∧ c ≠ 10 ∧ c ≠ 13 := by
  refine ⟨?_, ?_, ?_, ?_⟩
  all_goals
    rintro rfl
    rcases h with h | h
    · exact absurd h (by decide)
    · exact absurd h (by decide)
end

theorem sym_31 {w t : List UInt8} (hw : symTok w) (ht : t = [] ∨ ∃ r, t = 32 :: r) : ∀ H, Rt Ck 31 [.str (w ++ t)] H fun v H' => v = .int .i64 (w.length : Nat) ∧ H' = H := by
  intro H
  rcases ht with rfl | ⟨r, rfl⟩
  · rcases hw with rfl | rfl | rfl | rfl | rfl | rfl
    · exact rt31c (by decide)
    · exact rt31c (by decide)
    · exact rt31c (by decide)
    · exact rt31c (by decide)
    · exact rt31d (r := []) (by decide)
    · exact rt31d (r := []) (by decide)
  · rcases hw with rfl | rfl | rfl | rfl | rfl | rfl
    · exact rt31s (by decide)
    · exact rt31s (by decide)
    · exact rt31s (by decide)
    · exact rt31s (by decide)
    · exact rt31d (r := 32 :: r) (by decide)
    · exact rt31d (r := 32 :: r) (by decide)

theorem sym_head {w : List UInt8} (hw : symTok w) : ∃ c, w[0]? = some c ∧ runI (c.toNat : Int) = false ∧ c ≠ 46 ∧ (c ≠ 32 ∧ c ≠ 9 ∧ c ≠ 10 ∧ c ≠ 13) := by
  rcases hw with rfl | rfl | rfl | rfl | rfl | rfl
  all_goals exact ⟨_, rfl, by decide, by decide, by decide⟩

theorem run_head {w : List UInt8} (h0 : w ≠ []) (hw : runTok w) : ∃ c, w[0]? = some c ∧ (c ≠ 32 ∧ c ≠ 9 ∧ c ≠ 10 ∧ c ≠ 13) := by
  obtain ⟨c, hc, hr⟩ := hw 0 (List.length_pos_iff.2 h0)
  refine ⟨c, hc, run_nb ?_⟩
  rcases hr with hr | hr
  · exact .inl hr
  · exact .inr hr.2.1

/-- One word of the text, whatever it is. -/
theorem oneWord {Q : AEx → ASt → Prop} {N : Nat} {s w t : List UInt8} {ws : AV} {done : List (List UInt8)} {i : Nat} {H : AH} (hs : s.length ≤ 2000) (hd : done.length ≤ 2000) (hN : N ≤ H.next)
    (hg : Good w) (h : s.drop i = w ++ t) (ht : t = [] ∨ ∃ r, t = 32 :: r) (hW : WS N H ws done)
    (hn : ∀ H' ws', WS N H' ws' (done ++ [w]) → H.next ≤ H'.next → (∀ Y, Y < N → H'.get Y = H.get Y) → Wc Ck (.loop (bodyN c12 0)) [(0, .str s), (4, ws'), (5, .int .i64 (i + w.length : Nat))] [] H' Q) :
    Wc Ck (.loop (bodyN c12 0)) [(0, .str s), (4, ws), (5, .int .i64 (i : Nat))] [] H Q := by
  obtain ⟨hne, hg⟩ := hg
  have hw0 : 0 < w.length := List.length_pos_iff.2 hne
  have hlen := congrArg List.length h
  rw [List.length_drop, List.length_append] at hlen
  have hstop : stopAt s (i + w.length) := by
    rcases ht with rfl | ⟨r, rfl⟩
    · exact .inl (by simp at hlen; omega)
    · refine .inr ⟨32, ?_, by decide, by decide⟩
      have : (s.drop i)[w.length]? = some 32 := by rw [h]; simp
      rwa [List.getElem?_drop] at this
  have htk : (s.drop i).take w.length = w := by rw [h]; simp
  rcases hg with hr | hy
  · obtain ⟨c, hc, hb⟩ := run_head hne hr
    exact wordStep hs hd hN hw0 (by omega) htk (at_app h hc) hb (.inl ⟨go_app h hr, hstop⟩) hW hn
  · obtain ⟨c, hc, hr, h46, hb⟩ := sym_head hy
    exact wordStep hs hd hN hw0 (by omega) htk (at_app h hc) hb (.inr ⟨.inr ⟨c, at_app h hc, hr, h46⟩, by rw [h]; exact sym_31 hy ht⟩) hW hn
end Go.Vd.L
namespace Go.Vd.L
open Go.Vd

theorem loopWords {Q : AEx → ASt → Prop} {N : Nat} {s : List UInt8} {all : List (List UInt8)} {H0 : AH} (hs : s.length ≤ 2000) (ha : all.length ≤ 2000)
    (hE : ∀ H' ws, WS N H' ws all → H0.next ≤ H'.next → (∀ Y, Y < N → H'.get Y = H0.get Y) → Fin Q (.exit 0) [(0, .str s), (4, ws), (5, .int .i64 (s.length : Nat))] [] H') :
    ∀ (toks done : List (List UInt8)) (i : Nat) (H : AH) (ws : AV), toks ≠ [] → (∀ w ∈ toks, Good w) → s.drop i = sp toks → all = done ++ toks → WS N H ws done → N ≤ H.next → H0.next ≤ H.next → (∀ Y, Y < N → H.get Y = H0.get Y) →
      Wc Ck (.loop (bodyN c12 0)) [(0, .str s), (4, ws), (5, .int .i64 (i : Nat))] [] H Q := by
  intro toks
  induction toks with
  | nil => intro _ _ _ _ h; exact absurd rfl h
  | cons w r ih =>
    intro done i H ws _ hg hd hall hW hN hN0 hsame
    have hdl : done.length ≤ 2000 := by rw [hall, List.length_append] at ha; omega
    have hgw := hg w (by simp)
    cases r with
    | nil =>
      have hd' : s.drop i = w ++ [] := by rw [hd]; simp [sp]
      refine oneWord hs hdl hN hgw hd' (.inl rfl) hW (fun H' ws' hW' hn' hs' => ?_)
      have hlen := congrArg List.length hd'
      have hw0 : 0 < w.length := List.length_pos_iff.2 hgw.1
      rw [List.length_drop, List.append_nil] at hlen
      rw [show i + w.length = s.length by omega]
      exact endStep (hE H' ws' (by rw [hall]; exact hW') (by omega) (fun Y hY => by rw [hs' Y hY, hsame Y hY]))
    | cons v r =>
      have hd' : s.drop i = w ++ 32 :: sp (v :: r) := by rw [hd]; rfl
      refine oneWord hs hdl hN hgw hd' (.inr ⟨_, rfl⟩) hW (fun H' ws' hW' hn' hs' => ?_)
      have hb : s[i + w.length]? = some 32 := by
        have : (s.drop i)[w.length]? = some 32 := by rw [hd']; simp
        rwa [List.getElem?_drop] at this
      refine blankStep hs hb ?_
      refine ih (done ++ [w]) (i + w.length + 1) H' ws' (by simp) (fun u hu => hg u (by simp [hu])) ?_ (by rw [hall]; simp) hW' (by omega) (by omega) (fun Y hY => by rw [hs' Y hY, hsame Y hY])
      have : (s.drop i).drop (w.length + 1) = sp (v :: r) := by rw [hd']; simp
      rw [List.drop_drop] at this
      rw [← this]
      congr 1

theorem sp_len : ∀ {l : List (List UInt8)}, (∀ w ∈ l, Good w) → l.length ≤ (sp l).length
  | [], _ => by simp
  | [w], h => by
    have := List.length_pos_iff.2 (h w (by simp)).1
    simp [sp]; omega
  | w :: v :: r, h => by
    have h1 := sp_len (l := v :: r) (fun u hu => h u (by simp [hu]))
    simp only [sp, List.length_append, List.length_cons] at *
    omega

theorem rt12 {toks : List (List UInt8)} {H : AH} (h0 : toks ≠ []) (hg : ∀ w ∈ toks, Good w) (hl : (sp toks).length ≤ 2000) :
    Rt Ck 12 [.str (sp toks)] H fun v H' => ∃ ws, v = .tup [ws, .int .i64 0] ∧ WS H.next H' ws toks ∧ Grow H H' := by
  have hal := sp_len hg
  have b1 : binV Ck H .gtr .int (.int .i64 ((sp toks).length : Nat)) (.int .i64 (Int.ofNat 2000)) = some (.bool false) := gtF (by simp; omega)
  refine Rt.enter (af := c12) rfl rfl ?_
  repeat' (first | refine Wc.seq ?_ | refine Wc.block ?_ | refine Wc.reg ?_ | refine Wc.skip ?_ | refine Fin.seq ?_ | refine Wo.nil ?_ | refine Wc.cond_f rfl ?_ | refine Wo.val rfl (.mv rfl) ?_ | refine Wo.val rfl (.bin rfl rfl (by assumption)) ?_ | refine Wo.val rfl (.tlen rfl) ?_)
  refine Wc.weak (loopWords (N := H.next) (H0 := H) (all := toks) hl (by omega) (fun H' ws hW hn hs => ?_) toks [] 0 H .nils h0 hg rfl rfl (.inl ⟨rfl, rfl⟩) (Nat.le_refl _) (Nat.le_refl _) (fun _ _ => rfl)) ?_
  · repeat' (first | refine Wc.seq ?_ | refine Wc.reg ?_ | refine Wc.ret ?_ | refine Fin.seq ?_ | refine Fin.block_here ?_ | refine Wo.nil ?_ | refine Wo.val rfl (.mv rfl) ?_)
    exact Fin.kret rfl ⟨ws, rfl, hW, hn, hs⟩
  · exact ⟨rfl, rfl, rfl, trivial⟩
end Go.Vd.L
