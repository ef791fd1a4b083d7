/- How many variables around: the reference's Free. -/
import Derived.Test.YtabgoidablkmjaaGreatDoorYdB5
import Derived.Test.YtabgoidablkmjaaGreatDoorYdW5
set_option linter.unusedVariables false
set_option linter.unusedSimpArgs false
namespace Go.Vd.L
open Go.Vd

def mxI (a b : Int) : Int := if b > a then b else a
def und1 (k : Int) : Int := if k = 4 ∨ k = 5 then 1 else 0

def freeN : Tm → Int
  | .nd0 k n _ => if k = 2 then n + 1 else 0
  | .nd2 k a b => mxI (mxI (mxI 0 (freeN a)) (freeN b - und1 k)) (0 - 1)
  | .nd3 a b c => mxI (mxI (mxI 0 (freeN a)) (freeN b - 0)) (freeN c - 1)

theorem freeN_le : ∀ {t : Tm}, t.wf → 0 ≤ freeN t ∧ freeN t ≤ 100001
  | .nd0 k n s, h => by
    simp only [Tm.wf] at h
    simp only [freeN]
    by_cases k2 : k = 2
    · subst k2
      have := h.2
      simp only [leafB, if_neg (show ¬ (2 : Int) = 1 by omega), if_true, Bool.and_eq_true, decide_eq_true_eq] at this
      rw [if_pos rfl]
      omega
    · rw [if_neg k2]; omega
  | .nd2 k a b, h => by
    have h1 := freeN_le h.2.1
    have h2 := freeN_le h.2.2
    have h3 : 0 ≤ und1 k ∧ und1 k ≤ 1 := by unfold und1; split <;> omega
    simp only [freeN, mxI]
    omega
  | .nd3 a b c, h => by
    have h1 := freeN_le h.1
    have h2 := freeN_le h.2.1
    have h3 := freeN_le h.2.2
    simp only [freeN, mxI]
    omega

theorem rt25a {H : AH} {X : Nat} {k n : Int} {s : List UInt8} {a b c : AV} (hX : NdAt H X k n s a b c) : Rt Ck 25 [.ptr X 0, .int .i64 (.ofNat 1)] H fun v H' => v = .int .i64 (und1 k) ∧ H' = H := by
  unfold NdAt at hX
  refine Rt.enter (af := c25) rfl rfl ?_
  repeat' (first | refine Wc.seq ?_ | refine Wc.reg ?_ | refine Fin.seq ?_ | refine Wo.nil ?_ | refine Wo.val rfl (.mv rfl) ?_ | refine Wo.val rfl (.chk rfl rfl) ?_ | refine Wo.val rfl (.bin rfl rfl rfl) ?_ | refine Wo.val rfl (.fad rfl) ?_ | refine Wo.val rfl (.ld rfl (AH.rd_at (by assumption) (by exact rfl))) ?_)
  refine Wo.branch rfl (fun h1 => ?_) (fun h1 => ?_)
  · repeat' (first | refine Wc.seq ?_ | refine Wc.reg ?_ | refine Wc.ret ?_ | refine Fin.seq ?_ | refine Fin.seq_ret ?_ | refine Wo.nil ?_ | refine Wc.cond_t rfl ?_ | refine Wo.skip rfl ?_ | refine Wo.val rfl (.mv rfl) ?_ | refine Wo.val rfl (.pick_t rfl rfl) ?_)
    refine Fin.kret rfl ⟨?_, rfl⟩
    have : k = 4 := by simpa using h1
    simp [oneR, und1, this]
  · have h1 : k ≠ 4 := by simpa using h1
    repeat' (first | refine Wo.val rfl (.mv rfl) ?_ | refine Wo.val rfl (.pick_t rfl rfl) ?_ | refine Wo.val rfl (.pick_f rfl rfl) ?_ | refine Wo.val rfl (.chk rfl rfl) ?_ | refine Wo.val rfl (.bin rfl rfl rfl) ?_ | refine Wo.val rfl (.fad rfl) ?_ | refine Wo.val rfl (.ld rfl (AH.rd_at (by assumption) (by exact rfl))) ?_)
    all_goals try refine Wo.branch rfl (fun hb => ?_) (fun hb => ?_)
    all_goals repeat' (first | refine Wc.seq ?_ | refine Wc.reg ?_ | refine Wc.skip ?_ | refine Wc.ret ?_ | refine Fin.seq ?_ | refine Fin.seq_ret ?_ | refine Wo.nil ?_ | refine Wc.cond_t rfl ?_ | refine Wc.cond_f rfl ?_ | refine Wo.skip rfl ?_ | refine Wo.val rfl (.mv rfl) ?_ | refine Wo.val rfl (.pick_t rfl rfl) ?_ | refine Wo.val rfl (.pick_f rfl rfl) ?_ | refine Wo.val rfl (.bin rfl rfl rfl) ?_)
    all_goals
      refine Fin.kret rfl ⟨?_, rfl⟩
      simp_all [oneR, und1]

theorem rt25b {H : AH} {X : Nat} : Rt Ck 25 [.ptr X 0, .int .i64 (.ofNat 2)] H fun v H' => v = .int .i64 1 ∧ H' = H := by
  refine Rt.enter (af := c25) rfl rfl ?_
  repeat' (first | refine Wc.seq ?_ | refine Wc.reg ?_ | refine Wc.ret ?_ | refine Fin.seq ?_ | refine Fin.seq_ret ?_ | refine Wo.nil ?_ | refine Wc.cond_t rfl ?_ | refine Wo.skip rfl ?_ | refine Wo.val rfl (.mv rfl) ?_ | refine Wo.val rfl (.pick_f rfl rfl) ?_ | refine Wo.val rfl (.bin rfl rfl rfl) ?_)
  exact Fin.kret rfl ⟨rfl, rfl⟩

theorem rt10n (H : AH) : Rt Ck 10 [.nilp] H fun v H' => v = .int .i64 0 ∧ H' = H := by
  refine Rt.enter (af := c10) rfl rfl ?_
  repeat' (first | refine Wc.seq ?_ | refine Wc.reg ?_ | refine Wc.ret ?_ | refine Fin.seq ?_ | refine Fin.seq_ret ?_ | refine Wo.nil ?_ | refine Wc.cond_t rfl ?_ | refine Wo.val rfl (.mv rfl) ?_ | refine Wo.val rfl (.bin rfl rfl rfl) ?_)
  exact Fin.kret rfl ⟨rfl, rfl⟩

set_option maxHeartbeats 4000000 in
theorem rt10 : ∀ (t : Tm) (lo X : Nat) (H : AH), TreeAt lo H t X → t.wf → Rt Ck 10 [.ptr X 0] H fun v H' => v = .int .i64 (freeN t) ∧ H' = H
  | .nd0 k n s, lo, X, H, h, hw => by
    obtain ⟨_, _, hN⟩ := h
    have hb := freeN_le hw
    have hN' := hN
    unfold NdAt at hN'
    refine Rt.enter (af := c10) rfl rfl ?_
    repeat' (first | refine Wc.seq ?_ | refine Wc.reg ?_ | refine Wc.skip ?_ | refine Fin.seq ?_ | refine Wo.nil ?_ | refine Wc.cond_f rfl ?_ | refine Wo.val rfl (.mv rfl) ?_ | refine Wo.val rfl (.chk rfl rfl) ?_ | refine Wo.val rfl (.bin rfl rfl rfl) ?_ | refine Wo.val rfl (.fad rfl) ?_ | refine Wo.val rfl (.ld rfl (AH.rd_at (by assumption) (by exact rfl))) ?_)
    refine Wc.ifs rfl (fun k2 => ?_) (fun k2 => ?_)
    · have k2 : k = 2 := by simpa using k2
      subst k2
      have e : IntKind.i64.wrap (n + Int.ofNat 1) = n + 1 := by
        simp only [freeN, if_true] at hb
        exact wrap_i64 (by simp; omega) (by simp; omega)
      repeat' (first | refine Wc.seq ?_ | refine Wc.reg ?_ | refine Wc.ret ?_ | refine Fin.seq ?_ | refine Fin.seq_ret ?_ | refine Wo.nil ?_ | refine Wo.val rfl (.mv rfl) ?_ | refine Wo.val rfl (.chk rfl rfl) ?_ | refine Wo.val rfl (.bin rfl rfl rfl) ?_ | refine Wo.val rfl (.fad rfl) ?_ | refine Wo.val rfl (.ld rfl (AH.rd_at (by assumption) (by exact rfl))) ?_)
      refine Fin.kret rfl ⟨?_, rfl⟩
      rw [e]
      simp [oneR, freeN]
    · have k2 : k ≠ 2 := by simpa using k2
      have hu : und1 k = 0 := by have := hw.1; unfold und1; rw [if_neg (by omega)]
      have hm : mmA true .i64 (Int.ofNat 0) [.int .i64 0, .int .i64 (IntKind.i64.wrap (0 - und1 k)), .int .i64 (IntKind.i64.wrap (0 - 1))] = some (.int .i64 (freeN (.nd0 k n s))) := by
        rw [hu]
        simp only [freeN, k2, if_false]
        rfl
      repeat' (first | refine Wc.seq ?_ | refine Wc.skip ?_ | refine Fin.seq ?_)
      refine Wc.regd (Wd.step ?_)
      repeat' (first | refine Lx.val rfl (.mv rfl) ?_ | refine Lx.val rfl (.chk rfl rfl) ?_ | refine Lx.val rfl (.fad rfl) ?_ | refine Lx.val rfl (.ld rfl (AH.rd_at (by assumption) (by exact rfl))) ?_)
      refine Lx.nil (Wd.call rfl rfl ((rt10n _)) ?_)
      rintro _ H1 ⟨rfl, e⟩
      subst e
      refine Wd.step ?_
      skip
      refine Lx.nil (Wd.call rfl rfl ((rt10n _)) ?_)
      rintro _ H2 ⟨rfl, e⟩
      subst e
      refine Wd.step ?_
      skip
      refine Lx.nil (Wd.call rfl rfl (rt25a hN) ?_)
      rintro _ H3 ⟨rfl, e⟩
      subst e
      refine Wd.step ?_
      repeat' refine Lx.val rfl (.bin rfl rfl rfl) ?_
      refine Lx.nil (Wd.call rfl rfl ((rt10n _)) ?_)
      rintro _ H4 ⟨rfl, e⟩
      subst e
      refine Wd.step ?_
      skip
      refine Lx.nil (Wd.call rfl rfl rt25b ?_)
      rintro _ H5 ⟨rfl, e⟩
      subst e
      refine Wd.last ?_
      repeat' refine Lx.val rfl (.bin rfl rfl rfl) ?_
      refine Lx.val rfl (.mm rfl rfl hm) ?_
      repeat' refine Lx.val rfl (.mv rfl) ?_
      refine Lx.nil ⟨?_, ?_, ?_⟩
      · repeat' (first | exact AgA.nil | refine AgA.cons ?_ ?_)
        all_goals repeat' (first | exact Ag.nil | refine Ag.val rfl (.mv rfl) (by first | exact rfl | exact trivial) ?_ | refine Ag.val rfl (.chk rfl rfl) (by first | exact rfl | exact trivial) ?_ | refine Ag.val rfl (.bin rfl rfl rfl) (by first | exact rfl | exact trivial) ?_ | refine Ag.val rfl (.fad rfl) (by first | exact rfl | exact trivial) ?_ | refine Ag.val rfl (.ld rfl (AH.rd_at (by assumption) (by exact rfl))) (by first | exact rfl | exact trivial) ?_)
        all_goals
          refine Ag.val rfl (.mm rfl rfl hm) rfl ?_
          repeat' (first | exact Ag.nil | refine Ag.val rfl (.mv rfl) (by first | exact rfl | exact trivial) ?_)
      · repeat' (first | exact HvA.nil | exact Agr.nil | exact rfl | refine Agr.cons rfl rfl ?_ | refine HvA.cons ?_ ?_ ?_)
      · repeat' (first | refine Wc.ret ?_ | refine Fin.seq ?_)
        exact Fin.kret rfl ⟨rfl, rfl⟩
  | .nd2 k a b, lo, X, H, h, hw => by
    obtain ⟨_, _, Y, Z, hN, hA, hB⟩ := h
    obtain ⟨hk, wa, wb⟩ := hw
    have hN' := hN
    unfold NdAt at hN'
    have ba := freeN_le wa
    have bb := freeN_le wb
    have hu : 0 ≤ und1 k ∧ und1 k ≤ 1 := by unfold und1; split <;> omega
    refine Rt.enter (af := c10) rfl rfl ?_
    repeat' (first | refine Wc.seq ?_ | refine Wc.reg ?_ | refine Wc.skip ?_ | refine Fin.seq ?_ | refine Wo.nil ?_ | refine Wc.cond_f rfl ?_ | refine Wo.val rfl (.mv rfl) ?_ | refine Wo.val rfl (.chk rfl rfl) ?_ | refine Wo.val rfl (.bin rfl rfl rfl) ?_ | refine Wo.val rfl (.fad rfl) ?_ | refine Wo.val rfl (.ld rfl (AH.rd_at (by assumption) (by exact rfl))) ?_)
    refine Wc.ifs rfl (fun k2 => ?_) (fun k2 => ?_)
    · exfalso
      have k2 : k = 2 := by simpa using k2
      omega
    · repeat' (first | refine Wc.seq ?_ | refine Wc.skip ?_ | refine Fin.seq ?_)
      have e1 : IntKind.i64.wrap (freeN b - und1 k) = freeN b - und1 k := wrap_i64 (by omega) (by omega)
      have hm : mmA true .i64 (Int.ofNat 0) [.int .i64 (freeN a), .int .i64 (IntKind.i64.wrap (freeN b - und1 k)), .int .i64 (IntKind.i64.wrap (0 - 1))] = some (.int .i64 (freeN (.nd2 k a b))) := by
        rw [e1, show IntKind.i64.wrap (0 - 1) = -1 by decide]
        simp only [mmA, if_true]
        rfl
      refine Wc.regd (Wd.step ?_)
      repeat' (first | refine Lx.val rfl (.mv rfl) ?_ | refine Lx.val rfl (.chk rfl rfl) ?_ | refine Lx.val rfl (.fad rfl) ?_ | refine Lx.val rfl (.ld rfl (AH.rd_at (by assumption) (by exact rfl))) ?_)
      refine Lx.nil (Wd.call rfl rfl ((rt10 a lo Y _ hA wa)) ?_)
      rintro _ H1 ⟨rfl, e⟩
      subst e
      refine Wd.step ?_
      skip
      refine Lx.nil (Wd.call rfl rfl ((rt10 b lo Z _ hB wb)) ?_)
      rintro _ H2 ⟨rfl, e⟩
      subst e
      refine Wd.step ?_
      skip
      refine Lx.nil (Wd.call rfl rfl (rt25a hN) ?_)
      rintro _ H3 ⟨rfl, e⟩
      subst e
      refine Wd.step ?_
      repeat' refine Lx.val rfl (.bin rfl rfl rfl) ?_
      refine Lx.nil (Wd.call rfl rfl ((rt10n _)) ?_)
      rintro _ H4 ⟨rfl, e⟩
      subst e
      refine Wd.step ?_
      skip
      refine Lx.nil (Wd.call rfl rfl rt25b ?_)
      rintro _ H5 ⟨rfl, e⟩
      subst e
      refine Wd.last ?_
      repeat' refine Lx.val rfl (.bin rfl rfl rfl) ?_
      refine Lx.val rfl (.mm rfl rfl hm) ?_
      repeat' refine Lx.val rfl (.mv rfl) ?_
      refine Lx.nil ⟨?_, ?_, ?_⟩
      · repeat' (first | exact AgA.nil | refine AgA.cons ?_ ?_)
        all_goals repeat' (first | exact Ag.nil | refine Ag.val rfl (.mv rfl) (by first | exact rfl | exact trivial) ?_ | refine Ag.val rfl (.chk rfl rfl) (by first | exact rfl | exact trivial) ?_ | refine Ag.val rfl (.bin rfl rfl rfl) (by first | exact rfl | exact trivial) ?_ | refine Ag.val rfl (.fad rfl) (by first | exact rfl | exact trivial) ?_ | refine Ag.val rfl (.ld rfl (AH.rd_at (by assumption) (by exact rfl))) (by first | exact rfl | exact trivial) ?_)
        all_goals
          refine Ag.val rfl (.mm rfl rfl hm) rfl ?_
          repeat' (first | exact Ag.nil | refine Ag.val rfl (.mv rfl) (by first | exact rfl | exact trivial) ?_)
      · repeat' (first | exact HvA.nil | exact Agr.nil | exact rfl | refine Agr.cons rfl rfl ?_ | refine HvA.cons ?_ ?_ ?_)
      · repeat' (first | refine Wc.ret ?_ | refine Fin.seq ?_)
        exact Fin.kret rfl ⟨rfl, rfl⟩
  | .nd3 a b c, lo, X, H, h, hw => by
    obtain ⟨_, _, Y, Z, W, hN, hA, hB, hC⟩ := h
    obtain ⟨wa, wb, wc⟩ := hw
    have hN' := hN
    unfold NdAt at hN'
    have ba := freeN_le wa
    have bb := freeN_le wb
    have bc := freeN_le wc
    refine Rt.enter (af := c10) rfl rfl ?_
    repeat' (first | refine Wc.seq ?_ | refine Wc.reg ?_ | refine Wc.skip ?_ | refine Fin.seq ?_ | refine Wo.nil ?_ | refine Wc.cond_f rfl ?_ | refine Wo.val rfl (.mv rfl) ?_ | refine Wo.val rfl (.chk rfl rfl) ?_ | refine Wo.val rfl (.bin rfl rfl rfl) ?_ | refine Wo.val rfl (.fad rfl) ?_ | refine Wo.val rfl (.ld rfl (AH.rd_at (by assumption) (by exact rfl))) ?_)
    have e1 : IntKind.i64.wrap (freeN b - und1 7) = freeN b - 0 := by
      rw [show und1 7 = 0 by decide]
      exact wrap_i64 (by omega) (by omega)
    have e2 : IntKind.i64.wrap (freeN c - 1) = freeN c - 1 := wrap_i64 (by omega) (by omega)
    have hm : mmA true .i64 (Int.ofNat 0) [.int .i64 (freeN a), .int .i64 (IntKind.i64.wrap (freeN b - und1 7)), .int .i64 (IntKind.i64.wrap (freeN c - 1))] = some (.int .i64 (freeN (.nd3 a b c))) := by
      rw [e1, e2]
      simp only [mmA, if_true]
      rfl
    refine Wc.regd (Wd.step ?_)
    repeat' (first | refine Lx.val rfl (.mv rfl) ?_ | refine Lx.val rfl (.chk rfl rfl) ?_ | refine Lx.val rfl (.fad rfl) ?_ | refine Lx.val rfl (.ld rfl (AH.rd_at (by assumption) (by exact rfl))) ?_)
    refine Lx.nil (Wd.call rfl rfl ((rt10 a lo Y _ hA wa)) ?_)
    rintro _ H1 ⟨rfl, e⟩
    subst e
    refine Wd.step ?_
    skip
    refine Lx.nil (Wd.call rfl rfl ((rt10 b lo Z _ hB wb)) ?_)
    rintro _ H2 ⟨rfl, e⟩
    subst e
    refine Wd.step ?_
    skip
    refine Lx.nil (Wd.call rfl rfl (rt25a hN) ?_)
    rintro _ H3 ⟨rfl, e⟩
    subst e
    refine Wd.step ?_
    repeat' refine Lx.val rfl (.bin rfl rfl rfl) ?_
    refine Lx.nil (Wd.call rfl rfl ((rt10 c lo W _ hC wc)) ?_)
    rintro _ H4 ⟨rfl, e⟩
    subst e
    refine Wd.step ?_
    skip
    refine Lx.nil (Wd.call rfl rfl rt25b ?_)
    rintro _ H5 ⟨rfl, e⟩
    subst e
    refine Wd.last ?_
    repeat' refine Lx.val rfl (.bin rfl rfl rfl) ?_
    refine Lx.val rfl (.mm rfl rfl hm) ?_
    repeat' refine Lx.val rfl (.mv rfl) ?_
    refine Lx.nil ⟨?_, ?_, ?_⟩
    · repeat' (first | exact AgA.nil | refine AgA.cons ?_ ?_)
      all_goals repeat' (first | exact Ag.nil | refine Ag.val rfl (.mv rfl) (by first | exact rfl | exact trivial) ?_ | refine Ag.val rfl (.chk rfl rfl) (by first | exact rfl | exact trivial) ?_ | refine Ag.val rfl (.bin rfl rfl rfl) (by first | exact rfl | exact trivial) ?_ | refine Ag.val rfl (.fad rfl) (by first | exact rfl | exact trivial) ?_ | refine Ag.val rfl (.ld rfl (AH.rd_at (by assumption) (by exact rfl))) (by first | exact rfl | exact trivial) ?_)
      all_goals
        refine Ag.val rfl (.mm rfl rfl hm) rfl ?_
        repeat' (first | exact Ag.nil | refine Ag.val rfl (.mv rfl) (by first | exact rfl | exact trivial) ?_)
    · repeat' (first | exact HvA.nil | exact Agr.nil | exact rfl | refine Agr.cons rfl rfl ?_ | refine HvA.cons ?_ ?_ ?_)
    · repeat' (first | refine Wc.ret ?_ | refine Fin.seq ?_)
      exact Fin.kret rfl ⟨rfl, rfl⟩
end Go.Vd.L
namespace Go.Vd.L
open Go.Vd

theorem rt14n (H : AH) : Rt Ck 14 [.nilp, .nilp] H fun v H' => v = .bool true ∧ H' = H := by
  refine Rt.enter (af := c14) rfl rfl ?_
  repeat' (first | refine Wc.seq ?_ | refine Wc.reg ?_ | refine Wc.ret ?_ | refine Fin.seq ?_ | refine Fin.seq_ret ?_ | refine Wo.nil ?_ | refine Wc.cond_t rfl ?_ | refine Wo.skip rfl ?_ | refine Wo.val rfl (.mv rfl) ?_ | refine Wo.val rfl (.pick_t rfl rfl) ?_ | refine Wo.val rfl (.bin rfl rfl rfl) ?_)
  exact Fin.kret rfl ⟨rfl, rfl⟩

section
variable {H : AH} {X Y : Nat} {k k' n n' : Int} {s s' : List UInt8} {a b c a' b' c' : AV}

set_option maxHeartbeats 4000000 in
theorem same_k (hX : NdAt H X k n s a b c) (hY : NdAt H Y k' n' s' a' b' c') (hk : k ≠ k') : Rt Ck 14 [.ptr X 0, .ptr Y 0] H fun v H' => v = .bool false ∧ H' = H := by
  unfold NdAt at hX hY
  have b1 : binV Ck H .eql .int (.int .i64 k) (.int .i64 k') = some (.bool false) := binV_eqF hk
  refine Rt.enter (af := c14) rfl rfl ?_
  repeat' (first | refine Wc.seq ?_ | refine Wc.reg ?_ | refine Wc.skip ?_ | refine Fin.seq ?_ | refine Wo.nil ?_ | refine Wc.cond_f rfl ?_ | refine Wo.val rfl (.mv rfl) ?_ | refine Wo.val rfl (.pick_f rfl rfl) ?_ | refine Wo.val rfl (.bin rfl rfl rfl) ?_)
  refine Wc.regd (Wd.step ?_)
  repeat' (first | refine Lx.skip rfl ?_ | refine Lx.val rfl (.mv rfl) ?_ | refine Lx.val rfl (.pick_f rfl rfl) ?_ | refine Lx.val rfl (.chk rfl rfl) ?_ | refine Lx.val rfl (.ld rfl (AH.rd_at (by assumption) (by exact rfl))) ?_ | refine Lx.val rfl (.bin rfl rfl (by assumption)) ?_ | refine Lx.val rfl (.fad rfl) ?_)
  refine Lx.nil (Wd.skip rfl ?_)
  refine Wd.step ?_
  repeat' (first | refine Lx.skip rfl ?_ | refine Lx.val rfl (.mv rfl) ?_ | refine Lx.val rfl (.pick_f rfl rfl) ?_)
  refine Lx.nil (Wd.skip rfl ?_)
  refine Wd.step ?_
  repeat' (first | refine Lx.skip rfl ?_ | refine Lx.val rfl (.mv rfl) ?_ | refine Lx.val rfl (.pick_f rfl rfl) ?_)
  refine Lx.nil (Wd.skip rfl ?_)
  refine Wd.last ?_
  repeat' (first | refine Lx.val rfl (.mv rfl) ?_ | refine Lx.val rfl (.pick_f rfl rfl) ?_)
  refine Lx.nil ⟨?_, ?_, ?_⟩
  · repeat' (first | exact AgA.nil | refine AgA.cons ?_ ?_)
    all_goals repeat' (first | exact Ag.nil | refine Ag.skip rfl (by first | exact rfl | exact trivial) ?_ | refine Ag.val rfl (.mv rfl) (by first | exact rfl | exact trivial) ?_ | refine Ag.val rfl (.pick_f rfl rfl) (by first | exact rfl | exact trivial) ?_ | refine Ag.val rfl (.chk rfl rfl) (by first | exact rfl | exact trivial) ?_ | refine Ag.val rfl (.ld rfl (AH.rd_at (by assumption) (by exact rfl))) (by first | exact rfl | exact trivial) ?_ | refine Ag.val rfl (.bin rfl rfl (by assumption)) (by first | exact rfl | exact trivial) ?_ | refine Ag.val rfl (.fad rfl) (by first | exact rfl | exact trivial) ?_)
  · repeat' (first | exact HvA.nil | exact Agr.nil | exact rfl | refine Agr.cons rfl rfl ?_ | refine HvA.cons ?_ ?_ ?_)
  · repeat' (first | refine Wc.ret ?_ | refine Fin.seq ?_)
    refine Fin.kret rfl ⟨?_, rfl⟩
    simp_all [oneR]

set_option maxHeartbeats 4000000 in
theorem same_n (hX : NdAt H X k n s a b c) (hY : NdAt H Y k' n' s' a' b' c') (hk : k = k') (hn : n ≠ n') : Rt Ck 14 [.ptr X 0, .ptr Y 0] H fun v H' => v = .bool false ∧ H' = H := by
  unfold NdAt at hX hY
  have b1 : binV Ck H .eql .int (.int .i64 k) (.int .i64 k') = some (.bool true) := binV_eqT hk
  have b2 : binV Ck H .eql .int (.int .i64 n) (.int .i64 n') = some (.bool false) := binV_eqF hn
  refine Rt.enter (af := c14) rfl rfl ?_
  repeat' (first | refine Wc.seq ?_ | refine Wc.reg ?_ | refine Wc.skip ?_ | refine Fin.seq ?_ | refine Wo.nil ?_ | refine Wc.cond_f rfl ?_ | refine Wo.val rfl (.mv rfl) ?_ | refine Wo.val rfl (.pick_f rfl rfl) ?_ | refine Wo.val rfl (.bin rfl rfl rfl) ?_)
  refine Wc.regd (Wd.step ?_)
  repeat' (first | refine Lx.skip rfl ?_ | refine Lx.val rfl (.mv rfl) ?_ | refine Lx.val rfl (.pick_t rfl rfl) ?_ | refine Lx.val rfl (.pick_f rfl rfl) ?_ | refine Lx.val rfl (.chk rfl rfl) ?_ | refine Lx.val rfl (.ld rfl (AH.rd_at (by assumption) (by exact rfl))) ?_ | refine Lx.val rfl (.bin rfl rfl (by assumption)) ?_ | refine Lx.val rfl (.fad rfl) ?_)
  refine Lx.nil (Wd.skip rfl ?_)
  refine Wd.step ?_
  repeat' (first | refine Lx.skip rfl ?_ | refine Lx.val rfl (.mv rfl) ?_ | refine Lx.val rfl (.pick_f rfl rfl) ?_)
  refine Lx.nil (Wd.skip rfl ?_)
  refine Wd.step ?_
  repeat' (first | refine Lx.skip rfl ?_ | refine Lx.val rfl (.mv rfl) ?_ | refine Lx.val rfl (.pick_f rfl rfl) ?_)
  refine Lx.nil (Wd.skip rfl ?_)
  refine Wd.last ?_
  repeat' (first | refine Lx.val rfl (.mv rfl) ?_ | refine Lx.val rfl (.pick_f rfl rfl) ?_)
  refine Lx.nil ⟨?_, ?_, ?_⟩
  · repeat' (first | exact AgA.nil | refine AgA.cons ?_ ?_)
    all_goals repeat' (first | exact Ag.nil | refine Ag.skip rfl (by first | exact rfl | exact trivial) ?_ | refine Ag.val rfl (.mv rfl) (by first | exact rfl | exact trivial) ?_ | refine Ag.val rfl (.pick_t rfl rfl) (by first | exact rfl | exact trivial) ?_ | refine Ag.val rfl (.pick_f rfl rfl) (by first | exact rfl | exact trivial) ?_ | refine Ag.val rfl (.chk rfl rfl) (by first | exact rfl | exact trivial) ?_ | refine Ag.val rfl (.ld rfl (AH.rd_at (by assumption) (by exact rfl))) (by first | exact rfl | exact trivial) ?_ | refine Ag.val rfl (.bin rfl rfl (by assumption)) (by first | exact rfl | exact trivial) ?_ | refine Ag.val rfl (.fad rfl) (by first | exact rfl | exact trivial) ?_)
  · repeat' (first | exact HvA.nil | exact Agr.nil | exact rfl | refine Agr.cons rfl rfl ?_ | refine HvA.cons ?_ ?_ ?_)
  · repeat' (first | refine Wc.ret ?_ | refine Fin.seq ?_)
    refine Fin.kret rfl ⟨?_, rfl⟩
    simp_all [oneR]

set_option maxHeartbeats 4000000 in
theorem same_s (hX : NdAt H X k n s a b c) (hY : NdAt H Y k' n' s' a' b' c') (hk : k = k') (hn : n = n') (hs : strEq s s' = false) : Rt Ck 14 [.ptr X 0, .ptr Y 0] H fun v H' => v = .bool false ∧ H' = H := by
  unfold NdAt at hX hY
  have b1 : binV Ck H .eql .int (.int .i64 k) (.int .i64 k') = some (.bool true) := binV_eqT hk
  have b2 : binV Ck H .eql .int (.int .i64 n) (.int .i64 n') = some (.bool true) := binV_eqT hn
  have b3 : binV Ck H .eql .str (.str s) (.str s') = some (.bool false) := binV_sF hs
  refine Rt.enter (af := c14) rfl rfl ?_
  repeat' (first | refine Wc.seq ?_ | refine Wc.reg ?_ | refine Wc.skip ?_ | refine Fin.seq ?_ | refine Wo.nil ?_ | refine Wc.cond_f rfl ?_ | refine Wo.val rfl (.mv rfl) ?_ | refine Wo.val rfl (.pick_f rfl rfl) ?_ | refine Wo.val rfl (.bin rfl rfl rfl) ?_)
  refine Wc.regd (Wd.step ?_)
  repeat' (first | refine Lx.skip rfl ?_ | refine Lx.val rfl (.mv rfl) ?_ | refine Lx.val rfl (.pick_t rfl rfl) ?_ | refine Lx.val rfl (.chk rfl rfl) ?_ | refine Lx.val rfl (.ld rfl (AH.rd_at (by assumption) (by exact rfl))) ?_ | refine Lx.val rfl (.bin rfl rfl (by assumption)) ?_ | refine Lx.val rfl (.fad rfl) ?_)
  refine Lx.nil (Wd.skip rfl ?_)
  refine Wd.step ?_
  repeat' (first | refine Lx.skip rfl ?_ | refine Lx.val rfl (.mv rfl) ?_ | refine Lx.val rfl (.pick_f rfl rfl) ?_)
  refine Lx.nil (Wd.skip rfl ?_)
  refine Wd.step ?_
  repeat' (first | refine Lx.skip rfl ?_ | refine Lx.val rfl (.mv rfl) ?_ | refine Lx.val rfl (.pick_f rfl rfl) ?_)
  refine Lx.nil (Wd.skip rfl ?_)
  refine Wd.last ?_
  repeat' (first | refine Lx.val rfl (.mv rfl) ?_ | refine Lx.val rfl (.pick_f rfl rfl) ?_)
  refine Lx.nil ⟨?_, ?_, ?_⟩
  · repeat' (first | exact AgA.nil | refine AgA.cons ?_ ?_)
    all_goals repeat' (first | exact Ag.nil | refine Ag.skip rfl (by first | exact rfl | exact trivial) ?_ | refine Ag.val rfl (.mv rfl) (by first | exact rfl | exact trivial) ?_ | refine Ag.val rfl (.pick_t rfl rfl) (by first | exact rfl | exact trivial) ?_ | refine Ag.val rfl (.pick_f rfl rfl) (by first | exact rfl | exact trivial) ?_ | refine Ag.val rfl (.chk rfl rfl) (by first | exact rfl | exact trivial) ?_ | refine Ag.val rfl (.ld rfl (AH.rd_at (by assumption) (by exact rfl))) (by first | exact rfl | exact trivial) ?_ | refine Ag.val rfl (.bin rfl rfl (by assumption)) (by first | exact rfl | exact trivial) ?_ | refine Ag.val rfl (.fad rfl) (by first | exact rfl | exact trivial) ?_)
  · repeat' (first | exact HvA.nil | exact Agr.nil | exact rfl | refine Agr.cons rfl rfl ?_ | refine HvA.cons ?_ ?_ ?_)
  · repeat' (first | refine Wc.ret ?_ | refine Fin.seq ?_)
    refine Fin.kret rfl ⟨?_, rfl⟩
    simp_all [oneR]

set_option maxHeartbeats 4000000 in
theorem same_a (hX : NdAt H X k n s a b c) (hY : NdAt H Y k' n' s' a' b' c') (hk : k = k') (hn : n = n') (hs : strEq s s' = true) (ha : Rt Ck 14 [a, a'] H fun v H' => v = .bool false ∧ H' = H) : Rt Ck 14 [.ptr X 0, .ptr Y 0] H fun v H' => v = .bool false ∧ H' = H := by
  unfold NdAt at hX hY
  have b1 : binV Ck H .eql .int (.int .i64 k) (.int .i64 k') = some (.bool true) := binV_eqT hk
  have b2 : binV Ck H .eql .int (.int .i64 n) (.int .i64 n') = some (.bool true) := binV_eqT hn
  have b3 : binV Ck H .eql .str (.str s) (.str s') = some (.bool true) := binV_sT hs
  refine Rt.enter (af := c14) rfl rfl ?_
  repeat' (first | refine Wc.seq ?_ | refine Wc.reg ?_ | refine Wc.skip ?_ | refine Fin.seq ?_ | refine Wo.nil ?_ | refine Wc.cond_f rfl ?_ | refine Wo.val rfl (.mv rfl) ?_ | refine Wo.val rfl (.pick_f rfl rfl) ?_ | refine Wo.val rfl (.bin rfl rfl rfl) ?_)
  refine Wc.regd (Wd.step ?_)
  repeat' (first | refine Lx.val rfl (.mv rfl) ?_ | refine Lx.val rfl (.pick_t rfl rfl) ?_ | refine Lx.val rfl (.chk rfl rfl) ?_ | refine Lx.val rfl (.ld rfl (AH.rd_at (by assumption) (by exact rfl))) ?_ | refine Lx.val rfl (.bin rfl rfl (by assumption)) ?_ | refine Lx.val rfl (.fad rfl) ?_)
  refine Lx.nil (Wd.call rfl rfl ha ?_)
  rintro _ HA ⟨rfl, e⟩
  subst e
  refine Wd.step ?_
  repeat' (first | refine Lx.skip rfl ?_ | refine Lx.val rfl (.mv rfl) ?_ | refine Lx.val rfl (.pick_t rfl rfl) ?_)
  refine Lx.nil (Wd.skip rfl ?_)
  refine Wd.step ?_
  repeat' (first | refine Lx.skip rfl ?_ | refine Lx.val rfl (.mv rfl) ?_ | refine Lx.val rfl (.pick_f rfl rfl) ?_)
  refine Lx.nil (Wd.skip rfl ?_)
  refine Wd.last ?_
  repeat' (first | refine Lx.val rfl (.mv rfl) ?_ | refine Lx.val rfl (.pick_f rfl rfl) ?_)
  refine Lx.nil ⟨?_, ?_, ?_⟩
  · repeat' (first | exact AgA.nil | refine AgA.cons ?_ ?_)
    all_goals repeat' (first | exact Ag.nil | refine Ag.skip rfl (by first | exact rfl | exact trivial) ?_ | refine Ag.val rfl (.mv rfl) (by first | exact rfl | exact trivial) ?_ | refine Ag.val rfl (.pick_t rfl rfl) (by first | exact rfl | exact trivial) ?_ | refine Ag.val rfl (.pick_f rfl rfl) (by first | exact rfl | exact trivial) ?_ | refine Ag.val rfl (.chk rfl rfl) (by first | exact rfl | exact trivial) ?_ | refine Ag.val rfl (.ld rfl (AH.rd_at (by assumption) (by exact rfl))) (by first | exact rfl | exact trivial) ?_ | refine Ag.val rfl (.bin rfl rfl (by assumption)) (by first | exact rfl | exact trivial) ?_ | refine Ag.val rfl (.fad rfl) (by first | exact rfl | exact trivial) ?_)
  · repeat' (first | exact HvA.nil | exact Agr.nil | exact rfl | refine Agr.cons rfl rfl ?_ | refine HvA.cons ?_ ?_ ?_)
  · repeat' (first | refine Wc.ret ?_ | refine Fin.seq ?_)
    refine Fin.kret rfl ⟨?_, rfl⟩
    simp_all [oneR]

set_option maxHeartbeats 4000000 in
theorem same_b (hX : NdAt H X k n s a b c) (hY : NdAt H Y k' n' s' a' b' c') (hk : k = k') (hn : n = n') (hs : strEq s s' = true) (ha : Rt Ck 14 [a, a'] H fun v H' => v = .bool true ∧ H' = H) (hb : Rt Ck 14 [b, b'] H fun v H' => v = .bool false ∧ H' = H) : Rt Ck 14 [.ptr X 0, .ptr Y 0] H fun v H' => v = .bool false ∧ H' = H := by
  unfold NdAt at hX hY
  have b1 : binV Ck H .eql .int (.int .i64 k) (.int .i64 k') = some (.bool true) := binV_eqT hk
  have b2 : binV Ck H .eql .int (.int .i64 n) (.int .i64 n') = some (.bool true) := binV_eqT hn
  have b3 : binV Ck H .eql .str (.str s) (.str s') = some (.bool true) := binV_sT hs
  refine Rt.enter (af := c14) rfl rfl ?_
  repeat' (first | refine Wc.seq ?_ | refine Wc.reg ?_ | refine Wc.skip ?_ | refine Fin.seq ?_ | refine Wo.nil ?_ | refine Wc.cond_f rfl ?_ | refine Wo.val rfl (.mv rfl) ?_ | refine Wo.val rfl (.pick_f rfl rfl) ?_ | refine Wo.val rfl (.bin rfl rfl rfl) ?_)
  refine Wc.regd (Wd.step ?_)
  repeat' (first | refine Lx.val rfl (.mv rfl) ?_ | refine Lx.val rfl (.pick_t rfl rfl) ?_ | refine Lx.val rfl (.chk rfl rfl) ?_ | refine Lx.val rfl (.ld rfl (AH.rd_at (by assumption) (by exact rfl))) ?_ | refine Lx.val rfl (.bin rfl rfl (by assumption)) ?_ | refine Lx.val rfl (.fad rfl) ?_)
  refine Lx.nil (Wd.call rfl rfl ha ?_)
  rintro _ HA ⟨rfl, e⟩
  subst e
  refine Wd.step ?_
  repeat' (first | refine Lx.val rfl (.mv rfl) ?_ | refine Lx.val rfl (.pick_t rfl rfl) ?_ | refine Lx.val rfl (.chk rfl rfl) ?_ | refine Lx.val rfl (.ld rfl (AH.rd_at (by assumption) (by exact rfl))) ?_ | refine Lx.val rfl (.fad rfl) ?_)
  refine Lx.nil (Wd.call rfl rfl hb ?_)
  rintro _ HB ⟨rfl, e⟩
  subst e
  refine Wd.step ?_
  repeat' (first | refine Lx.skip rfl ?_ | refine Lx.val rfl (.mv rfl) ?_ | refine Lx.val rfl (.pick_t rfl rfl) ?_)
  refine Lx.nil (Wd.skip rfl ?_)
  refine Wd.last ?_
  repeat' (first | refine Lx.val rfl (.mv rfl) ?_ | refine Lx.val rfl (.pick_f rfl rfl) ?_)
  refine Lx.nil ⟨?_, ?_, ?_⟩
  · repeat' (first | exact AgA.nil | refine AgA.cons ?_ ?_)
    all_goals repeat' (first | exact Ag.nil | refine Ag.skip rfl (by first | exact rfl | exact trivial) ?_ | refine Ag.val rfl (.mv rfl) (by first | exact rfl | exact trivial) ?_ | refine Ag.val rfl (.pick_t rfl rfl) (by first | exact rfl | exact trivial) ?_ | refine Ag.val rfl (.pick_f rfl rfl) (by first | exact rfl | exact trivial) ?_ | refine Ag.val rfl (.chk rfl rfl) (by first | exact rfl | exact trivial) ?_ | refine Ag.val rfl (.ld rfl (AH.rd_at (by assumption) (by exact rfl))) (by first | exact rfl | exact trivial) ?_ | refine Ag.val rfl (.bin rfl rfl (by assumption)) (by first | exact rfl | exact trivial) ?_ | refine Ag.val rfl (.fad rfl) (by first | exact rfl | exact trivial) ?_)
  · repeat' (first | exact HvA.nil | exact Agr.nil | exact rfl | refine Agr.cons rfl rfl ?_ | refine HvA.cons ?_ ?_ ?_)
  · repeat' (first | refine Wc.ret ?_ | refine Fin.seq ?_)
    refine Fin.kret rfl ⟨?_, rfl⟩
    simp_all [oneR]

set_option maxHeartbeats 4000000 in
theorem same_c (hX : NdAt H X k n s a b c) (hY : NdAt H Y k' n' s' a' b' c') (hk : k = k') (hn : n = n') (hs : strEq s s' = true) (ha : Rt Ck 14 [a, a'] H fun v H' => v = .bool true ∧ H' = H) (hb : Rt Ck 14 [b, b'] H fun v H' => v = .bool true ∧ H' = H) (hc : Rt Ck 14 [c, c'] H fun v H' => v = .bool false ∧ H' = H) : Rt Ck 14 [.ptr X 0, .ptr Y 0] H fun v H' => v = .bool false ∧ H' = H := by
  unfold NdAt at hX hY
  have b1 : binV Ck H .eql .int (.int .i64 k) (.int .i64 k') = some (.bool true) := binV_eqT hk
  have b2 : binV Ck H .eql .int (.int .i64 n) (.int .i64 n') = some (.bool true) := binV_eqT hn
  have b3 : binV Ck H .eql .str (.str s) (.str s') = some (.bool true) := binV_sT hs
  refine Rt.enter (af := c14) rfl rfl ?_
  repeat' (first | refine Wc.seq ?_ | refine Wc.reg ?_ | refine Wc.skip ?_ | refine Fin.seq ?_ | refine Wo.nil ?_ | refine Wc.cond_f rfl ?_ | refine Wo.val rfl (.mv rfl) ?_ | refine Wo.val rfl (.pick_f rfl rfl) ?_ | refine Wo.val rfl (.bin rfl rfl rfl) ?_)
  refine Wc.regd (Wd.step ?_)
  repeat' (first | refine Lx.val rfl (.mv rfl) ?_ | refine Lx.val rfl (.pick_t rfl rfl) ?_ | refine Lx.val rfl (.chk rfl rfl) ?_ | refine Lx.val rfl (.ld rfl (AH.rd_at (by assumption) (by exact rfl))) ?_ | refine Lx.val rfl (.bin rfl rfl (by assumption)) ?_ | refine Lx.val rfl (.fad rfl) ?_)
  refine Lx.nil (Wd.call rfl rfl ha ?_)
  rintro _ HA ⟨rfl, e⟩
  subst e
  refine Wd.step ?_
  repeat' (first | refine Lx.val rfl (.mv rfl) ?_ | refine Lx.val rfl (.pick_t rfl rfl) ?_ | refine Lx.val rfl (.chk rfl rfl) ?_ | refine Lx.val rfl (.ld rfl (AH.rd_at (by assumption) (by exact rfl))) ?_ | refine Lx.val rfl (.fad rfl) ?_)
  refine Lx.nil (Wd.call rfl rfl hb ?_)
  rintro _ HB ⟨rfl, e⟩
  subst e
  refine Wd.step ?_
  repeat' (first | refine Lx.val rfl (.mv rfl) ?_ | refine Lx.val rfl (.pick_t rfl rfl) ?_ | refine Lx.val rfl (.chk rfl rfl) ?_ | refine Lx.val rfl (.ld rfl (AH.rd_at (by assumption) (by exact rfl))) ?_ | refine Lx.val rfl (.fad rfl) ?_)
  refine Lx.nil (Wd.call rfl rfl hc ?_)
  rintro _ HC ⟨rfl, e⟩
  subst e
  refine Wd.last ?_
  repeat' (first | refine Lx.val rfl (.mv rfl) ?_ | refine Lx.val rfl (.pick_t rfl rfl) ?_)
  refine Lx.nil ⟨?_, ?_, ?_⟩
  · repeat' (first | exact AgA.nil | refine AgA.cons ?_ ?_)
    all_goals repeat' (first | exact Ag.nil | refine Ag.val rfl (.mv rfl) (by first | exact rfl | exact trivial) ?_ | refine Ag.val rfl (.pick_t rfl rfl) (by first | exact rfl | exact trivial) ?_ | refine Ag.val rfl (.chk rfl rfl) (by first | exact rfl | exact trivial) ?_ | refine Ag.val rfl (.ld rfl (AH.rd_at (by assumption) (by exact rfl))) (by first | exact rfl | exact trivial) ?_ | refine Ag.val rfl (.bin rfl rfl (by assumption)) (by first | exact rfl | exact trivial) ?_ | refine Ag.val rfl (.fad rfl) (by first | exact rfl | exact trivial) ?_)
  · repeat' (first | exact HvA.nil | exact Agr.nil | exact rfl | refine Agr.cons rfl rfl ?_ | refine HvA.cons ?_ ?_ ?_)
  · repeat' (first | refine Wc.ret ?_ | refine Fin.seq ?_)
    refine Fin.kret rfl ⟨?_, rfl⟩
    simp_all [oneR]

set_option maxHeartbeats 4000000 in
theorem same_t (hX : NdAt H X k n s a b c) (hY : NdAt H Y k' n' s' a' b' c') (hk : k = k') (hn : n = n') (hs : strEq s s' = true) (ha : Rt Ck 14 [a, a'] H fun v H' => v = .bool true ∧ H' = H) (hb : Rt Ck 14 [b, b'] H fun v H' => v = .bool true ∧ H' = H) (hc : Rt Ck 14 [c, c'] H fun v H' => v = .bool true ∧ H' = H) : Rt Ck 14 [.ptr X 0, .ptr Y 0] H fun v H' => v = .bool true ∧ H' = H := by
  unfold NdAt at hX hY
  have b1 : binV Ck H .eql .int (.int .i64 k) (.int .i64 k') = some (.bool true) := binV_eqT hk
  have b2 : binV Ck H .eql .int (.int .i64 n) (.int .i64 n') = some (.bool true) := binV_eqT hn
  have b3 : binV Ck H .eql .str (.str s) (.str s') = some (.bool true) := binV_sT hs
  refine Rt.enter (af := c14) rfl rfl ?_
  repeat' (first | refine Wc.seq ?_ | refine Wc.reg ?_ | refine Wc.skip ?_ | refine Fin.seq ?_ | refine Wo.nil ?_ | refine Wc.cond_f rfl ?_ | refine Wo.val rfl (.mv rfl) ?_ | refine Wo.val rfl (.pick_f rfl rfl) ?_ | refine Wo.val rfl (.bin rfl rfl rfl) ?_)
  refine Wc.regd (Wd.step ?_)
  repeat' (first | refine Lx.val rfl (.mv rfl) ?_ | refine Lx.val rfl (.pick_t rfl rfl) ?_ | refine Lx.val rfl (.chk rfl rfl) ?_ | refine Lx.val rfl (.ld rfl (AH.rd_at (by assumption) (by exact rfl))) ?_ | refine Lx.val rfl (.bin rfl rfl (by assumption)) ?_ | refine Lx.val rfl (.fad rfl) ?_)
  refine Lx.nil (Wd.call rfl rfl ha ?_)
  rintro _ HA ⟨rfl, e⟩
  subst e
  refine Wd.step ?_
  repeat' (first | refine Lx.val rfl (.mv rfl) ?_ | refine Lx.val rfl (.pick_t rfl rfl) ?_ | refine Lx.val rfl (.chk rfl rfl) ?_ | refine Lx.val rfl (.ld rfl (AH.rd_at (by assumption) (by exact rfl))) ?_ | refine Lx.val rfl (.fad rfl) ?_)
  refine Lx.nil (Wd.call rfl rfl hb ?_)
  rintro _ HB ⟨rfl, e⟩
  subst e
  refine Wd.step ?_
  repeat' (first | refine Lx.val rfl (.mv rfl) ?_ | refine Lx.val rfl (.pick_t rfl rfl) ?_ | refine Lx.val rfl (.chk rfl rfl) ?_ | refine Lx.val rfl (.ld rfl (AH.rd_at (by assumption) (by exact rfl))) ?_ | refine Lx.val rfl (.fad rfl) ?_)
  refine Lx.nil (Wd.call rfl rfl hc ?_)
  rintro _ HC ⟨rfl, e⟩
  subst e
  refine Wd.last ?_
  repeat' (first | refine Lx.val rfl (.mv rfl) ?_ | refine Lx.val rfl (.pick_t rfl rfl) ?_)
  refine Lx.nil ⟨?_, ?_, ?_⟩
  · repeat' (first | exact AgA.nil | refine AgA.cons ?_ ?_)
    all_goals repeat' (first | exact Ag.nil | refine Ag.val rfl (.mv rfl) (by first | exact rfl | exact trivial) ?_ | refine Ag.val rfl (.pick_t rfl rfl) (by first | exact rfl | exact trivial) ?_ | refine Ag.val rfl (.chk rfl rfl) (by first | exact rfl | exact trivial) ?_ | refine Ag.val rfl (.ld rfl (AH.rd_at (by assumption) (by exact rfl))) (by first | exact rfl | exact trivial) ?_ | refine Ag.val rfl (.bin rfl rfl (by assumption)) (by first | exact rfl | exact trivial) ?_ | refine Ag.val rfl (.fad rfl) (by first | exact rfl | exact trivial) ?_)
  · repeat' (first | exact HvA.nil | exact Agr.nil | exact rfl | refine Agr.cons rfl rfl ?_ | refine HvA.cons ?_ ?_ ?_)
  · repeat' (first | refine Wc.ret ?_ | refine Fin.seq ?_)
    refine Fin.kret rfl ⟨?_, rfl⟩
    simp_all [oneR]
end
end Go.Vd.L
namespace Go.Vd.L
open Go.Vd

def sameB : Tm → Tm → Bool
  | .nd0 k n s, .nd0 k' n' s' => decide (k = k') && decide (n = n') && strEq s s'
  | .nd2 k a b, .nd2 k' a' b' => decide (k = k') && sameB a a' && sameB b b'
  | .nd3 a b c, .nd3 a' b' c' => sameB a a' && sameB b b' && sameB c c'
  | _, _ => false

theorem sameB_eq : ∀ {t u : Tm}, sameB t u = true → t = u
  | .nd0 k n s, u, h => by
    cases u with
    | nd0 k' n' s' =>
      simp only [sameB, Bool.and_eq_true, decide_eq_true_eq] at h
      rw [h.1.1, h.1.2, strEq_iff h.2]
    | nd2 _ _ _ => simp [sameB] at h
    | nd3 _ _ _ => simp [sameB] at h
  | .nd2 k a b, u, h => by
    cases u with
    | nd0 _ _ _ => simp [sameB] at h
    | nd2 k' a' b' =>
      simp only [sameB, Bool.and_eq_true, decide_eq_true_eq] at h
      rw [h.1.1, sameB_eq h.1.2, sameB_eq h.2]
    | nd3 _ _ _ => simp [sameB] at h
  | .nd3 a b c, u, h => by
    cases u with
    | nd0 _ _ _ => simp [sameB] at h
    | nd2 _ _ _ => simp [sameB] at h
    | nd3 a' b' c' =>
      simp only [sameB, Bool.and_eq_true] at h
      rw [sameB_eq h.1.1, sameB_eq h.1.2, sameB_eq h.2]
theorem sameB_refl : ∀ t : Tm, sameB t t = true
  | .nd0 k n s => by simp [sameB, strEq_refl]
  | .nd2 k a b => by simp [sameB, sameB_refl a, sameB_refl b]
  | .nd3 a b c => by simp [sameB, sameB_refl a, sameB_refl b, sameB_refl c]

theorem rt14 : ∀ (t u : Tm) (lo lo' X Y : Nat) (H : AH), TreeAt lo H t X → TreeAt lo' H u Y → t.wf → u.wf → Rt Ck 14 [.ptr X 0, .ptr Y 0] H fun v H' => v = .bool (sameB t u) ∧ H' = H
  | .nd0 k n s, u, lo, lo', X, Y, H, ht, hu, wt, wu => by
    obtain ⟨_, _, hN⟩ := ht
    cases u with
    | nd0 k' n' s' =>
      obtain ⟨_, _, hM⟩ := hu
      simp only [sameB]
      by_cases hk : k = k'
      · by_cases hn : n = n'
        · cases hs : strEq s s' with
          | true => simpa [hk, hn] using same_t hN hM hk hn hs (rt14n H) (rt14n H) (rt14n H)
          | false => simpa [hk, hn] using same_s hN hM hk hn hs
        · simpa [hk, hn] using same_n hN hM hk hn
      · simpa [hk] using same_k hN hM hk
    | nd2 k' a' b' =>
      obtain ⟨_, _, Y1, Y2, hM, _, _⟩ := hu
      have hk : k ≠ k' := by have := wt.1; have := wu.1; omega
      simpa [sameB] using same_k hN hM hk
    | nd3 a' b' c' =>
      obtain ⟨_, _, Y1, Y2, Y3, hM, _, _, _⟩ := hu
      have hk : k ≠ 7 := by have := wt.1; omega
      simpa [sameB] using same_k hN hM hk
  | .nd2 k a b, u, lo, lo', X, Y, H, ht, hu, wt, wu => by
    obtain ⟨_, _, X1, X2, hN, hA, hB⟩ := ht
    cases u with
    | nd0 k' n' s' =>
      obtain ⟨_, _, hM⟩ := hu
      have hk : k ≠ k' := by have := wt.1; have := wu.1; omega
      simpa [sameB] using same_k hN hM hk
    | nd2 k' a' b' =>
      obtain ⟨_, _, Y1, Y2, hM, hA', hB'⟩ := hu
      simp only [sameB]
      by_cases hk : k = k'
      · have ia := rt14 a a' lo lo' X1 Y1 H hA hA' wt.2.1 wu.2.1
        have ib := rt14 b b' lo lo' X2 Y2 H hB hB' wt.2.2 wu.2.2
        cases ra : sameB a a' with
        | false => rw [ra] at ia; simpa [hk] using same_a hN hM hk rfl rfl ia
        | true =>
          rw [ra] at ia
          cases rb : sameB b b' with
          | false => rw [rb] at ib; simpa [hk] using same_b hN hM hk rfl rfl ia ib
          | true => rw [rb] at ib; simpa [hk] using same_t hN hM hk rfl rfl ia ib (rt14n H)
      · simpa [hk] using same_k hN hM hk
    | nd3 a' b' c' =>
      obtain ⟨_, _, Y1, Y2, Y3, hM, _, _, _⟩ := hu
      have hk : k ≠ 7 := by have := wt.1; omega
      simpa [sameB] using same_k hN hM hk
  | .nd3 a b c, u, lo, lo', X, Y, H, ht, hu, wt, wu => by
    obtain ⟨_, _, X1, X2, X3, hN, hA, hB, hC⟩ := ht
    cases u with
    | nd0 k' n' s' =>
      obtain ⟨_, _, hM⟩ := hu
      have hk : (7 : Int) ≠ k' := by have := wu.1; omega
      simpa [sameB] using same_k hN hM hk
    | nd2 k' a' b' =>
      obtain ⟨_, _, Y1, Y2, hM, _, _⟩ := hu
      have hk : (7 : Int) ≠ k' := by have := wu.1; omega
      simpa [sameB] using same_k hN hM hk
    | nd3 a' b' c' =>
      obtain ⟨_, _, Y1, Y2, Y3, hM, hA', hB', hC'⟩ := hu
      simp only [sameB]
      have ia := rt14 a a' lo lo' X1 Y1 H hA hA' wt.1 wu.1
      have ib := rt14 b b' lo lo' X2 Y2 H hB hB' wt.2.1 wu.2.1
      have ic := rt14 c c' lo lo' X3 Y3 H hC hC' wt.2.2 wu.2.2
      cases ra : sameB a a' with
      | false => rw [ra] at ia; simpa using same_a hN hM rfl rfl rfl ia
      | true =>
        rw [ra] at ia
        cases rb : sameB b b' with
        | false => rw [rb] at ib; simpa using same_b hN hM rfl rfl rfl ia ib
        | true =>
          rw [rb] at ib
          cases rc : sameB c c' with
          | false => rw [rc] at ic; simpa using same_c hN hM rfl rfl rfl ia ib ic
          | true => rw [rc] at ic; simpa using same_t hN hM rfl rfl rfl ia ib ic
end Go.Vd.L
