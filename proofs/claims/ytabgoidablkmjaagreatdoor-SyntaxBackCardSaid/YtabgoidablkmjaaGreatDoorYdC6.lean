/- The program's terms: Is, Free of a closed term. -/
import Derived.Test.YtabgoidablkmjaaGreatDoorYdC4
import Derived.Test.YtabgoidablkmjaaGreatDoorYdB8
set_option linter.unusedVariables false
set_option linter.unusedSimpArgs false
namespace Go.Vd.L
open Go.Vd

theorem rt26 {t : Tm} {lo X : Nat} {H : AH} (hT : TreeAt lo H t X) (hw : t.wf) (hs : t.size ≤ 3000) : Rt Ck 26 [.ptr X 0] H fun v H' => v = .bool true ∧ Grow H H' := by
  refine Rt.enter (af := c26) rfl rfl ?_
  refine Wc.seq (Wc.reg ?_)
  refine Wo.val rfl (.mv rfl) ?_
  refine Wo.nil (Fin.seq (Wc.seq (Wc.reg ?_)))
  refine Wo.allocn rfl (fun H1 hn1 hA1 hs1 => ?_)
  refine Wo.st1 (c' := [.int .i64 3000]) rfl rfl hA1 rfl rfl rfl rfl rfl (fun H2 hn2 hA2 hs2 => ?_)
  have hG : Grow H H2 := ⟨by omega, fun Y hY => by rw [hs2 Y (by omega), hs1 Y (by omega)]⟩
  repeat' (first | refine Wc.seq ?_ | refine Wc.reg ?_ | refine Fin.seq ?_ | refine Wo.nil ?_ | refine Wo.val rfl (.mv rfl) ?_)
  refine Wo.call rfl rfl (rt49 t lo X hT hw H2 H.next 3000 hG (Nat.le_refl _) (by omega) hA2 (by omega) (by omega)) ?_
  rintro _ H3 ⟨rfl, hK, _⟩
  repeat' (first | refine Wc.ret ?_ | refine Fin.seq ?_ | refine Wo.nil ?_ | refine Wo.val rfl (.mv rfl) ?_)
  exact Fin.kret rfl ⟨rfl, hK.grow hG (Nat.le_refl _)⟩

def undI (k i : Int) : Int := if k = 7 then (if i = 2 then 1 else 0) else if k = 4 ∨ k = 5 then (if i = 1 then 1 else 0) else 0

theorem rt80 {H : AH} {X : Nat} {k n i : Int} {s : List UInt8} {a b c : AV} (hX : NdAt H X k n s a b c) : Rt Ck 80 [.ptr X 0, .int .i64 i] H fun v H' => v = .int .i64 (undI k i) ∧ H' = H := by
  unfold NdAt at hX
  refine Rt.enter (af := c80) rfl rfl ?_
  repeat' (first | refine Wc.seq ?_ | refine Wc.block ?_ | refine Wc.reg ?_ | refine Fin.seq ?_ | refine Wo.nil ?_ | refine Wo.val rfl (.mv rfl) ?_ | refine Wo.val rfl (.chk rfl rfl) ?_ | refine Wo.val rfl (.bin rfl rfl rfl) ?_ | refine Wo.val rfl (.fad rfl) ?_ | refine Wo.val rfl (.ld rfl (AH.rd_at (by assumption) (by exact rfl))) ?_)
  refine Wc.ifs rfl (fun k7 => ?_) (fun k7 => ?_)
  · have k7 : k = 7 := by simpa using k7
    repeat' (first | refine Wc.seq ?_ | refine Wc.reg ?_ | refine Wc.exit ?_ | refine Fin.seq ?_ | refine Fin.seq_exit ?_ | refine Fin.block ?_ | refine Fin.block_here ?_ | refine Wo.nil ?_ | refine Wo.val rfl (.mv rfl) ?_ | refine Wo.val rfl (.bin rfl rfl rfl) ?_)
    refine Wc.ifs rfl (fun i2 => ?_) (fun i2 => ?_)
    · have i2 : i = 2 := by simpa using i2
      repeat' (first | refine Wc.seq ?_ | refine Wc.reg ?_ | refine Wc.ret ?_ | refine Fin.seq ?_ | refine Fin.seq_ret ?_ | refine Fin.block_ret ?_ | refine Wo.nil ?_ | refine Wo.val rfl (.mv rfl) ?_)
      refine Fin.kret rfl ⟨?_, rfl⟩
      simp [oneR, undI, k7, i2]
    · have i2 : i ≠ 2 := by simpa using i2
      repeat' (first | refine Wc.seq ?_ | refine Wc.reg ?_ | refine Wc.skip ?_ | refine Wc.ret ?_ | refine Wc.exit ?_ | refine Fin.seq ?_ | refine Fin.block_here ?_ | refine Wo.nil ?_ | refine Wo.val rfl (.mv rfl) ?_)
      refine Fin.kret rfl ⟨?_, rfl⟩
      simp [oneR, undI, k7, i2]
  · have k7 : k ≠ 7 := by simpa using k7
    repeat' (first | refine Wc.seq ?_ | refine Wc.reg ?_ | refine Wc.skip ?_ | refine Fin.seq ?_ | refine Wo.nil ?_ | refine Wo.val rfl (.mv rfl) ?_ | refine Wo.val rfl (.bin rfl rfl rfl) ?_)
    refine Wc.ifs rfl (fun k4 => ?_) (fun k4 => ?_)
    · have k4 : k = 4 := by simpa using k4
      repeat' (first | refine Wc.seq ?_ | refine Wc.reg ?_ | refine Wc.skip ?_ | refine Wc.exit ?_ | refine Fin.seq ?_ | refine Fin.seq_exit ?_ | refine Fin.block_here ?_ | refine Fin.block_on rfl ?_ | refine Wo.nil ?_ | refine Wc.cond_t rfl ?_ | refine Wo.val rfl (.mv rfl) ?_ | refine Wo.val rfl (.bin rfl rfl rfl) ?_)
      refine Wc.ifs rfl (fun i1 => ?_) (fun i1 => ?_)
      · have i1 : i = 1 := by simpa using i1
        repeat' (first | refine Wc.seq ?_ | refine Wc.reg ?_ | refine Wc.ret ?_ | refine Fin.seq ?_ | refine Fin.seq_ret ?_ | refine Fin.block_ret ?_ | refine Wo.nil ?_ | refine Wo.val rfl (.mv rfl) ?_)
        refine Fin.kret rfl ⟨?_, rfl⟩
        simp [oneR, undI, k4, i1]
      · have i1 : i ≠ 1 := by simpa using i1
        repeat' (first | refine Wc.seq ?_ | refine Wc.reg ?_ | refine Wc.skip ?_ | refine Wc.ret ?_ | refine Wc.exit ?_ | refine Fin.seq ?_ | refine Fin.block_here ?_ | refine Wo.nil ?_ | refine Wo.val rfl (.mv rfl) ?_)
        refine Fin.kret rfl ⟨?_, rfl⟩
        simp [oneR, undI, k4, i1]
    · have k4 : k ≠ 4 := by simpa using k4
      repeat' (first | refine Wc.reg ?_ | refine Fin.seq ?_ | refine Wo.nil ?_ | refine Wo.val rfl (.mv rfl) ?_ | refine Wo.val rfl (.bin rfl rfl rfl) ?_)
      refine Wc.ifs rfl (fun k5 => ?_) (fun k5 => ?_)
      · have k5 : k = 5 := by simpa using k5
        repeat' (first | refine Wc.seq ?_ | refine Wc.reg ?_ | refine Wc.exit ?_ | refine Fin.seq ?_ | refine Fin.seq_exit ?_ | refine Fin.block_here ?_ | refine Fin.block_on rfl ?_ | refine Wo.nil ?_ | refine Wo.val rfl (.mv rfl) ?_ | refine Wo.val rfl (.bin rfl rfl rfl) ?_)
        refine Wc.ifs rfl (fun i1 => ?_) (fun i1 => ?_)
        · have i1 : i = 1 := by simpa using i1
          repeat' (first | refine Wc.seq ?_ | refine Wc.reg ?_ | refine Wc.ret ?_ | refine Fin.seq ?_ | refine Fin.seq_ret ?_ | refine Fin.block_ret ?_ | refine Wo.nil ?_ | refine Wo.val rfl (.mv rfl) ?_)
          refine Fin.kret rfl ⟨?_, rfl⟩
          simp [oneR, undI, k5, i1]
        · have i1 : i ≠ 1 := by simpa using i1
          repeat' (first | refine Wc.seq ?_ | refine Wc.reg ?_ | refine Wc.skip ?_ | refine Wc.ret ?_ | refine Wc.exit ?_ | refine Fin.seq ?_ | refine Fin.block_here ?_ | refine Wo.nil ?_ | refine Wo.val rfl (.mv rfl) ?_)
          refine Fin.kret rfl ⟨?_, rfl⟩
          simp [oneR, undI, k5, i1]
      · have k5 : k ≠ 5 := by simpa using k5
        repeat' (first | refine Wc.seq ?_ | refine Wc.reg ?_ | refine Wc.skip ?_ | refine Wc.ret ?_ | refine Wc.exit ?_ | refine Fin.seq ?_ | refine Fin.seq_exit ?_ | refine Fin.block_here ?_ | refine Fin.block_on rfl ?_ | refine Wo.nil ?_ | refine Wo.val rfl (.mv rfl) ?_)
        refine Fin.kret rfl ⟨?_, rfl⟩
        simp [oneR, undI, k4, k5, k7]

theorem rt51n {H : AH} {X B : Nat} {k n d m : Int} {s : List UInt8} {a b c : AV} (hX : NdAt H X k n s a b c) (hk : k ≠ 2) : Rt Ck 51 [.ptr X 0, .int .i64 d, .ptr B 0] H fun _ H' => H' = H := by
  unfold NdAt at hX
  refine Rt.enter (af := c51) rfl rfl ?_
  repeat' (first | refine Wc.seq ?_ | refine Wc.reg ?_ | refine Fin.seq ?_ | refine Wo.nil ?_ | refine Wo.val rfl (.mv rfl) ?_ | refine Wo.val rfl (.chk rfl rfl) ?_ | refine Wo.val rfl (.bin rfl rfl rfl) ?_ | refine Wo.val rfl (.fad rfl) ?_ | refine Wo.val rfl (.ld rfl (AH.rd_at (by assumption) (by exact rfl))) ?_)
  refine Wc.ifs rfl (fun k2 => ?_) (fun k2 => ?_)
  · exact absurd (by simpa using k2) hk
  · repeat' refine Wc.skip ?_
    exact Fin.kret_n rfl rfl

theorem rt51v {H : AH} {X B : Nat} {n d m : Int} {s : List UInt8} {a b c : AV} (hX : NdAt H X 2 n s a b c) (hB : LeftAt H B m) (h0 : 0 ≤ n) (hd : n + 1 ≤ d) (hd2 : d ≤ 1000000) (hm : 0 ≤ m) :
    Rt Ck 51 [.ptr X 0, .int .i64 d, .ptr B 0] H fun _ H' => Kept B H H' ∧ LeftAt H' B m := by
  unfold NdAt at hX
  have hB' := hB
  unfold LeftAt at hB'
  have e : IntKind.i64.wrap (IntKind.i64.wrap (n - d) + Int.ofNat 1) = n - d + 1 := by
    rw [wrap_i64 (n := n - d) (by omega) (by omega)]
    exact wrap_i64 (by simp; omega) (by simp; omega)
  have hmm : mmA true .i64 m [.int .i64 (IntKind.i64.wrap (IntKind.i64.wrap (n - d) + Int.ofNat 1))] = some (.int .i64 m) := by
    rw [e]
    simp only [mmA, if_true]
    rw [if_neg (by omega)]
  refine Rt.enter (af := c51) rfl rfl ?_
  repeat' (first | refine Wc.seq ?_ | refine Wc.reg ?_ | refine Fin.seq ?_ | refine Wo.nil ?_ | refine Wc.cond_t rfl ?_ | refine Wo.val rfl (.mv rfl) ?_ | refine Wo.val rfl (.chk rfl rfl) ?_ | refine Wo.val rfl (.bin rfl rfl rfl) ?_ | refine Wo.val rfl (.fad rfl) ?_ | refine Wo.val rfl (.ld rfl (AH.rd_at (by assumption) (by exact rfl))) ?_)
  refine Wc.regd (Wd.step ?_)
  repeat' (first | refine Lx.val rfl (.mv rfl) ?_ | refine Lx.val rfl (.chk rfl rfl) ?_ | refine Lx.val rfl (.bin rfl rfl rfl) ?_ | refine Lx.val rfl (.fad rfl) ?_ | refine Lx.val rfl (.ld rfl (AH.rd_at (by assumption) (by exact rfl))) ?_)
  refine Lx.val rfl (.mm rfl rfl hmm) ?_
  skip
  refine Lx.nil (Wd.stA rfl rfl rfl rfl hB' rfl rfl rfl (fun H2 hn2 hA2 hs2 => ?_))
  refine Wd.last ?_
  skip
  refine Lx.nil ⟨?_, ?_, ?_⟩
  · refine AgA.cons ?_ (AgA.cons Ag.nil AgA.nil)
    repeat' (first | refine Ag.val rfl (.mv rfl) (by first | exact rfl | exact trivial) ?_ | refine Ag.val rfl (.chk rfl rfl) (by first | exact rfl | exact trivial) ?_ | refine Ag.val rfl (.bin rfl rfl rfl) (by first | exact rfl | exact trivial) ?_ | refine Ag.val rfl (.fad rfl) (by first | exact rfl | exact trivial) ?_ | refine Ag.val rfl (.ld rfl (AH.rd_at (by assumption) (by exact rfl))) (by first | exact rfl | exact trivial) ?_)
    refine Ag.val rfl (.mm rfl rfl hmm) rfl ?_
    repeat' (exact Ag.nil)
  · repeat' (first | exact HvA.nil | exact Agr.nil | exact trivial | refine Agr.cons rfl rfl ?_ | refine HvA.cons ?_ ?_ ?_)
  · skip
    exact Fin.kret_n rfl ⟨⟨by omega, fun Y _ h => hs2 Y h⟩, hA2⟩

theorem Rt.weak {f : Nat} {xs : List AV} {H : AH} {Q R : AV → AH → Prop} (h : Rt Ck f xs H Q) (hw : ∀ v H', Q v H' → R v H') : Rt Ck f xs H R := by
  unfold Rt at *
  obtain ⟨n, v, H', h1, h2⟩ := h
  exact ⟨n, v, H', h1, hw _ _ h2⟩

theorem rt50n {H : AH} {d : Int} {f : AV} : Rt Ck 50 [.nilp, .int .i64 d, f] H fun _ H' => H' = H := by
  refine Rt.enter (af := c50) rfl rfl ?_
  repeat' (first | refine Wc.seq ?_ | refine Wc.reg ?_ | refine Wc.ret ?_ | refine Fin.seq ?_ | refine Fin.seq_ret ?_ | refine Wo.nil ?_ | refine Wc.cond_t rfl ?_ | refine Wo.val rfl (.mv rfl) ?_ | refine Wo.val rfl (.bin rfl rfl rfl) ?_)
  exact Fin.kret rfl rfl

section
variable {H0 : AH}

set_option maxHeartbeats 4000000 in
theorem rt50 : ∀ (t : Tm) (lo X : Nat), TreeAt lo H0 t X → t.wf → ∀ (H : AH) (B : Nat) (m d : Int), Grow H0 H → H0.next ≤ B → B < H.next → LeftAt H B m → 0 ≤ m → freeN t ≤ d → 0 ≤ d → d + t.size ≤ 1000000 →
    Rt Ck 50 [.ptr X 0, .int .i64 d, .fn (.func 51) [] [.ptr B 0]] H fun _ H' => Kept B H H' ∧ LeftAt H' B m
  | .nd0 k n s, lo, X, hT, hw, H, B, m, d, hG, hB0, hB, hBm, hm, hf, hd, hs => by
    obtain ⟨_, hXl, hN⟩ := hT
    have hs' : d + 1 ≤ 1000000 := by simp only [Tm.size] at hs; omega
    have hN1 : NdAt H X k n s .nilp .nilp .nilp := by unfold NdAt at *; rw [hG.same X hXl]; exact hN
    refine Rt.enter (af := c50) rfl rfl ?_
    repeat' (first | refine Wc.seq ?_ | refine Wc.reg ?_ | refine Wc.skip ?_ | refine Fin.seq ?_ | refine Wo.nil ?_ | refine Wc.cond_f rfl ?_ | refine Wo.val rfl (.mv rfl) ?_ | refine Wo.val rfl (.bin rfl rfl rfl) ?_)
    have hv : Rt Ck 51 ([] ++ [.ptr X 0, .int .i64 d] ++ [.ptr B 0]) H fun _ H' => Kept B H H' ∧ LeftAt H' B m := by
      by_cases k2 : k = 2
      · subst k2
        have hl := hw.2
        simp only [leafB, if_neg (show ¬ (2 : Int) = 1 by omega), if_true, Bool.and_eq_true, decide_eq_true_eq] at hl
        simp only [freeN, if_true] at hf
        exact rt51v hN1 hBm (by omega) hf (by omega) hm
      · exact Rt.weak (rt51n (m := m) hN1 k2) fun _ H' e => by subst e; exact ⟨⟨Nat.le_refl _, fun _ _ _ => rfl⟩, hBm⟩
    refine Wo.vcall rfl rfl rfl rfl hv ?_
    rintro _ H1 ⟨hK1, hB1⟩
    have hG1 : Grow H0 H1 := hK1.grow hG hB0
    have hN2 : NdAt H1 X k n s .nilp .nilp .nilp := by unfold NdAt at *; rw [hG1.same X hXl]; exact hN
    repeat' (first | refine Wc.seq ?_ | refine Wc.reg ?_ | refine Fin.seq ?_ | refine Wo.nil ?_ | refine Wo.val rfl (.mv rfl) ?_)
    refine Wo.call rfl rfl (rt79 hN2 (Nat.lt_of_lt_of_le hXl hG1.next) rfl ⟨rfl, rfl, rfl⟩) ?_
    rintro _ H2 ⟨rfl, hE2⟩
    have hK2 : Kept B H H2 := hK1.trans (Ext.grow hE2).kept
    have hB2 : LeftAt H2 B m := by
      unfold LeftAt at *
      rw [hE2.same B (by have := hK1.next; omega)]
      exact hB1
    have hG2 : Grow H0 H2 := hK2.grow hG hB0
    repeat' (first | refine Wc.block ?_ | refine Fin.seq ?_ | refine Wo.nil ?_ | refine Wo.val rfl (.mv rfl) ?_)
    refine Wc.loop ?_
    repeat' (first | refine Wc.seq ?_ | refine Wc.block ?_ | refine Wc.reg ?_ | refine Wc.skip ?_ | refine Fin.seq ?_ | refine Wo.nil ?_ | refine Wc.cond_t rfl ?_ | refine Wo.val rfl (.mv rfl) ?_ | refine Wo.val rfl (.bin rfl rfl rfl) ?_)
    refine Wo.val rfl (.ixv rfl rfl (by decide) (by decide) rfl) ?_
    repeat' (first | refine Wc.reg ?_ | refine Fin.seq ?_ | refine Wo.nil ?_ | refine Wo.val rfl (.mv rfl) ?_)
    have hN3 : NdAt H2 X k n s .nilp .nilp .nilp := by unfold NdAt at *; rw [hG2.same X hXl]; exact hN
    refine Wo.call rfl rfl (rt80 hN3) ?_
    rintro _ Hx ⟨rfl, e⟩
    rw [e]
    repeat' (first | refine Wo.val rfl (.mv rfl) ?_ | refine Wo.val rfl (.bin rfl rfl rfl) ?_)
    refine Wo.call rfl rfl rt50n ?_
    rintro _ Hx e
    rw [e]
    repeat' (first | refine Wc.reg ?_ | refine Fin.seq ?_ | refine Fin.block ?_ | refine Wo.nil ?_ | refine Wo.val rfl (.mv rfl) ?_ | refine Wo.val rfl (.bin rfl rfl rfl) ?_)
    refine Wc.loop ?_
    repeat' (first | refine Wc.seq ?_ | refine Wc.block ?_ | refine Wc.reg ?_ | refine Wc.skip ?_ | refine Fin.seq ?_ | refine Wo.nil ?_ | refine Wc.cond_t rfl ?_ | refine Wo.val rfl (.mv rfl) ?_ | refine Wo.val rfl (.bin rfl rfl rfl) ?_)
    refine Wo.val rfl (.ixv rfl rfl (by decide) (by decide) rfl) ?_
    repeat' (first | refine Wc.reg ?_ | refine Fin.seq ?_ | refine Wo.nil ?_ | refine Wo.val rfl (.mv rfl) ?_)
    have hN3 : NdAt H2 X k n s .nilp .nilp .nilp := by unfold NdAt at *; rw [hG2.same X hXl]; exact hN
    refine Wo.call rfl rfl (rt80 hN3) ?_
    rintro _ Hx ⟨rfl, e⟩
    rw [e]
    repeat' (first | refine Wo.val rfl (.mv rfl) ?_ | refine Wo.val rfl (.bin rfl rfl rfl) ?_)
    refine Wo.call rfl rfl rt50n ?_
    rintro _ Hx e
    rw [e]
    repeat' (first | refine Wc.reg ?_ | refine Fin.seq ?_ | refine Fin.block ?_ | refine Wo.nil ?_ | refine Wo.val rfl (.mv rfl) ?_ | refine Wo.val rfl (.bin rfl rfl rfl) ?_)
    refine Wc.loop ?_
    repeat' (first | refine Wc.seq ?_ | refine Wc.block ?_ | refine Wc.reg ?_ | refine Wc.skip ?_ | refine Fin.seq ?_ | refine Wo.nil ?_ | refine Wc.cond_t rfl ?_ | refine Wo.val rfl (.mv rfl) ?_ | refine Wo.val rfl (.bin rfl rfl rfl) ?_)
    refine Wo.val rfl (.ixv rfl rfl (by decide) (by decide) rfl) ?_
    repeat' (first | refine Wc.reg ?_ | refine Fin.seq ?_ | refine Wo.nil ?_ | refine Wo.val rfl (.mv rfl) ?_)
    have hN3 : NdAt H2 X k n s .nilp .nilp .nilp := by unfold NdAt at *; rw [hG2.same X hXl]; exact hN
    refine Wo.call rfl rfl (rt80 hN3) ?_
    rintro _ Hx ⟨rfl, e⟩
    rw [e]
    repeat' (first | refine Wo.val rfl (.mv rfl) ?_ | refine Wo.val rfl (.bin rfl rfl rfl) ?_)
    refine Wo.call rfl rfl rt50n ?_
    rintro _ Hx e
    rw [e]
    repeat' (first | refine Wc.reg ?_ | refine Fin.seq ?_ | refine Fin.block ?_ | refine Wo.nil ?_ | refine Wo.val rfl (.mv rfl) ?_ | refine Wo.val rfl (.bin rfl rfl rfl) ?_)
    refine Wc.loop ?_
    repeat' (first | refine Wc.seq ?_ | refine Wc.reg ?_ | refine Wc.exit ?_ | refine Fin.seq ?_ | refine Fin.seq_exit ?_ | refine Fin.block_here ?_ | refine Wo.nil ?_ | refine Wc.cond_f rfl ?_ | refine Wo.val rfl (.bin rfl rfl rfl) ?_)
    exact Fin.kret_n rfl ⟨hK2, hB2⟩
  | .nd2 k a b, lo, X, hT, hw, H, B, m, d, hG, hB0, hB, hBm, hm, hf, hd, hs => by
    obtain ⟨_, hXl, Y1, Y2, hN, hTa, hTb⟩ := hT
    have hpa := Tm.size_pos a
    have hpb := Tm.size_pos b
    have hs' : d + (1 + (a.size : Int) + (b.size : Int)) ≤ 1000000 := by simp only [Tm.size] at hs; omega
    have u : 0 ≤ und1 k ∧ und1 k ≤ 1 := by unfold und1; split <;> omega
    simp only [freeN, mxI] at hf
    have k7 : k ≠ 7 := by have := hw.1; omega
    have w0 : ∀ i, i = Int.ofNat 0 → IntKind.i64.wrap (d + undI k i) = d := by
      intro i e; subst e
      have : undI k (Int.ofNat 0) = 0 := by simp [undI, k7]
      rw [this, Int.add_zero]
      exact wrap_i64 (by omega) (by omega)
    have w1 : ∀ i, i = Int.ofNat 1 → IntKind.i64.wrap (d + undI k i) = d + und1 k := by
      intro i e; subst e
      have : undI k (Int.ofNat 1) = und1 k := by simp [undI, und1, k7]
      rw [this]
      exact wrap_i64 (by omega) (by omega)
    have hN1 : NdAt H X k 0 [] (.ptr Y1 0) (.ptr Y2 0) .nilp := by unfold NdAt at *; rw [hG.same X hXl]; exact hN
    refine Rt.enter (af := c50) rfl rfl ?_
    repeat' (first | refine Wc.seq ?_ | refine Wc.reg ?_ | refine Wc.skip ?_ | refine Fin.seq ?_ | refine Wo.nil ?_ | refine Wc.cond_f rfl ?_ | refine Wo.val rfl (.mv rfl) ?_ | refine Wo.val rfl (.bin rfl rfl rfl) ?_)
    have hv : Rt Ck 51 ([] ++ [.ptr X 0, .int .i64 d] ++ [.ptr B 0]) H fun _ H' => Kept B H H' ∧ LeftAt H' B m :=
      Rt.weak (rt51n (m := m) hN1 (by have := hw.1; omega)) fun _ H' e => by subst e; exact ⟨⟨Nat.le_refl _, fun _ _ _ => rfl⟩, hBm⟩
    refine Wo.vcall rfl rfl rfl rfl hv ?_
    rintro _ H1 ⟨hK1, hB1⟩
    have hG1 : Grow H0 H1 := hK1.grow hG hB0
    have hN2 : NdAt H1 X k 0 [] (.ptr Y1 0) (.ptr Y2 0) .nilp := by unfold NdAt at *; rw [hG1.same X hXl]; exact hN
    repeat' (first | refine Wc.seq ?_ | refine Wc.reg ?_ | refine Fin.seq ?_ | refine Wo.nil ?_ | refine Wo.val rfl (.mv rfl) ?_)
    refine Wo.call rfl rfl (rt79 hN2 (Nat.lt_of_lt_of_le hXl hG1.next) rfl ⟨rfl, rfl, rfl⟩) ?_
    rintro _ H2 ⟨rfl, hE2⟩
    have hK2 : Kept B H H2 := hK1.trans (Ext.grow hE2).kept
    have hB2 : LeftAt H2 B m := by
      unfold LeftAt at *
      rw [hE2.same B (by have := hK1.next; omega)]
      exact hB1
    have hG2 : Grow H0 H2 := hK2.grow hG hB0
    repeat' (first | refine Wc.block ?_ | refine Fin.seq ?_ | refine Wo.nil ?_ | refine Wo.val rfl (.mv rfl) ?_)
    refine Wc.loop ?_
    repeat' (first | refine Wc.seq ?_ | refine Wc.block ?_ | refine Wc.reg ?_ | refine Wc.skip ?_ | refine Fin.seq ?_ | refine Wo.nil ?_ | refine Wc.cond_t rfl ?_ | refine Wo.val rfl (.mv rfl) ?_ | refine Wo.val rfl (.bin rfl rfl rfl) ?_)
    refine Wo.val rfl (.ixv rfl rfl (by decide) (by decide) rfl) ?_
    repeat' (first | refine Wc.reg ?_ | refine Fin.seq ?_ | refine Wo.nil ?_ | refine Wo.val rfl (.mv rfl) ?_)
    have hN3 : NdAt H2 X k 0 [] (.ptr Y1 0) (.ptr Y2 0) .nilp := by unfold NdAt at *; rw [hG2.same X hXl]; exact hN
    refine Wo.call rfl rfl (rt80 hN3) ?_
    rintro _ Hx ⟨rfl, e⟩
    rw [e]
    repeat' (first | refine Wo.val rfl (.mv rfl) ?_ | refine Wo.val rfl (.bin rfl rfl rfl) ?_)
    rw [w0 _ rfl]
    refine Wo.call rfl rfl (rt50 a lo Y1 hTa hw.2.1 H2 B m _ hG2 hB0 (by have := hK2.next; omega) hB2 hm (by omega) (by omega) (by omega)) ?_
    rintro _ H3 ⟨hk3, hB3⟩
    have hK3 := hK2.trans hk3
    have hG3 : Grow H0 H3 := hK3.grow hG hB0
    repeat' (first | refine Wc.reg ?_ | refine Fin.seq ?_ | refine Fin.block ?_ | refine Wo.nil ?_ | refine Wo.val rfl (.mv rfl) ?_ | refine Wo.val rfl (.bin rfl rfl rfl) ?_)
    refine Wc.loop ?_
    repeat' (first | refine Wc.seq ?_ | refine Wc.block ?_ | refine Wc.reg ?_ | refine Wc.skip ?_ | refine Fin.seq ?_ | refine Wo.nil ?_ | refine Wc.cond_t rfl ?_ | refine Wo.val rfl (.mv rfl) ?_ | refine Wo.val rfl (.bin rfl rfl rfl) ?_)
    refine Wo.val rfl (.ixv rfl rfl (by decide) (by decide) rfl) ?_
    repeat' (first | refine Wc.reg ?_ | refine Fin.seq ?_ | refine Wo.nil ?_ | refine Wo.val rfl (.mv rfl) ?_)
    have hN4 : NdAt H3 X k 0 [] (.ptr Y1 0) (.ptr Y2 0) .nilp := by unfold NdAt at *; rw [hG3.same X hXl]; exact hN
    refine Wo.call rfl rfl (rt80 hN4) ?_
    rintro _ Hx ⟨rfl, e⟩
    rw [e]
    repeat' (first | refine Wo.val rfl (.mv rfl) ?_ | refine Wo.val rfl (.bin rfl rfl rfl) ?_)
    rw [w1 (IntKind.i64.wrap (Int.ofNat 0 + Int.ofNat 1)) rfl]
    refine Wo.call rfl rfl (rt50 b lo Y2 hTb hw.2.2 H3 B m _ hG3 hB0 (by have := hK3.next; omega) hB3 hm (by omega) (by omega) (by omega)) ?_
    rintro _ H4 ⟨hk4, hB4⟩
    have hK4 := hK3.trans hk4
    have hG4 : Grow H0 H4 := hK4.grow hG hB0
    repeat' (first | refine Wc.reg ?_ | refine Fin.seq ?_ | refine Fin.block ?_ | refine Wo.nil ?_ | refine Wo.val rfl (.mv rfl) ?_ | refine Wo.val rfl (.bin rfl rfl rfl) ?_)
    refine Wc.loop ?_
    repeat' (first | refine Wc.seq ?_ | refine Wc.block ?_ | refine Wc.reg ?_ | refine Wc.skip ?_ | refine Fin.seq ?_ | refine Wo.nil ?_ | refine Wc.cond_t rfl ?_ | refine Wo.val rfl (.mv rfl) ?_ | refine Wo.val rfl (.bin rfl rfl rfl) ?_)
    refine Wo.val rfl (.ixv rfl rfl (by decide) (by decide) rfl) ?_
    repeat' (first | refine Wc.reg ?_ | refine Fin.seq ?_ | refine Wo.nil ?_ | refine Wo.val rfl (.mv rfl) ?_)
    have hN5 : NdAt H4 X k 0 [] (.ptr Y1 0) (.ptr Y2 0) .nilp := by unfold NdAt at *; rw [hG4.same X hXl]; exact hN
    refine Wo.call rfl rfl (rt80 hN5) ?_
    rintro _ Hx ⟨rfl, e⟩
    rw [e]
    repeat' (first | refine Wo.val rfl (.mv rfl) ?_ | refine Wo.val rfl (.bin rfl rfl rfl) ?_)
    refine Wo.call rfl rfl rt50n ?_
    rintro _ Hx e
    rw [e]
    repeat' (first | refine Wc.reg ?_ | refine Fin.seq ?_ | refine Fin.block ?_ | refine Wo.nil ?_ | refine Wo.val rfl (.mv rfl) ?_ | refine Wo.val rfl (.bin rfl rfl rfl) ?_)
    refine Wc.loop ?_
    repeat' (first | refine Wc.seq ?_ | refine Wc.reg ?_ | refine Wc.exit ?_ | refine Fin.seq ?_ | refine Fin.seq_exit ?_ | refine Fin.block_here ?_ | refine Wo.nil ?_ | refine Wc.cond_f rfl ?_ | refine Wo.val rfl (.bin rfl rfl rfl) ?_)
    exact Fin.kret_n rfl ⟨hK4, hB4⟩
  | .nd3 a b c, lo, X, hT, hw, H, B, m, d, hG, hB0, hB, hBm, hm, hf, hd, hs => by
    obtain ⟨_, hXl, Y1, Y2, Y3, hN, hTa, hTb, hTc⟩ := hT
    have hpa := Tm.size_pos a
    have hpb := Tm.size_pos b
    have hpc := Tm.size_pos c
    have hs' : d + (1 + (a.size : Int) + (b.size : Int) + (c.size : Int)) ≤ 1000000 := by simp only [Tm.size] at hs; omega
    simp only [freeN, mxI] at hf
    have w0 : ∀ i, i = Int.ofNat 0 → IntKind.i64.wrap (d + undI 7 i) = d := by
      intro i e; subst e
      have : undI 7 (Int.ofNat 0) = 0 := by decide
      rw [this, Int.add_zero]
      exact wrap_i64 (by omega) (by omega)
    have w1 : ∀ i, i = Int.ofNat 1 → IntKind.i64.wrap (d + undI 7 i) = d := by
      intro i e; subst e
      have : undI 7 (Int.ofNat 1) = 0 := by decide
      rw [this, Int.add_zero]
      exact wrap_i64 (by omega) (by omega)
    have w2 : ∀ i, i = Int.ofNat 2 → IntKind.i64.wrap (d + undI 7 i) = d + 1 := by
      intro i e; subst e
      have : undI 7 (Int.ofNat 2) = 1 := by decide
      rw [this]
      exact wrap_i64 (by omega) (by omega)
    have hN1 : NdAt H X 7 0 [] (.ptr Y1 0) (.ptr Y2 0) (.ptr Y3 0) := by unfold NdAt at *; rw [hG.same X hXl]; exact hN
    refine Rt.enter (af := c50) rfl rfl ?_
    repeat' (first | refine Wc.seq ?_ | refine Wc.reg ?_ | refine Wc.skip ?_ | refine Fin.seq ?_ | refine Wo.nil ?_ | refine Wc.cond_f rfl ?_ | refine Wo.val rfl (.mv rfl) ?_ | refine Wo.val rfl (.bin rfl rfl rfl) ?_)
    have hv : Rt Ck 51 ([] ++ [.ptr X 0, .int .i64 d] ++ [.ptr B 0]) H fun _ H' => Kept B H H' ∧ LeftAt H' B m :=
      Rt.weak (rt51n (m := m) hN1 (by decide)) fun _ H' e => by subst e; exact ⟨⟨Nat.le_refl _, fun _ _ _ => rfl⟩, hBm⟩
    refine Wo.vcall rfl rfl rfl rfl hv ?_
    rintro _ H1 ⟨hK1, hB1⟩
    have hG1 : Grow H0 H1 := hK1.grow hG hB0
    have hN2 : NdAt H1 X 7 0 [] (.ptr Y1 0) (.ptr Y2 0) (.ptr Y3 0) := by unfold NdAt at *; rw [hG1.same X hXl]; exact hN
    repeat' (first | refine Wc.seq ?_ | refine Wc.reg ?_ | refine Fin.seq ?_ | refine Wo.nil ?_ | refine Wo.val rfl (.mv rfl) ?_)
    refine Wo.call rfl rfl (rt79 hN2 (Nat.lt_of_lt_of_le hXl hG1.next) rfl ⟨rfl, rfl, rfl⟩) ?_
    rintro _ H2 ⟨rfl, hE2⟩
    have hK2 : Kept B H H2 := hK1.trans (Ext.grow hE2).kept
    have hB2 : LeftAt H2 B m := by
      unfold LeftAt at *
      rw [hE2.same B (by have := hK1.next; omega)]
      exact hB1
    have hG2 : Grow H0 H2 := hK2.grow hG hB0
    repeat' (first | refine Wc.block ?_ | refine Fin.seq ?_ | refine Wo.nil ?_ | refine Wo.val rfl (.mv rfl) ?_)
    refine Wc.loop ?_
    repeat' (first | refine Wc.seq ?_ | refine Wc.block ?_ | refine Wc.reg ?_ | refine Wc.skip ?_ | refine Fin.seq ?_ | refine Wo.nil ?_ | refine Wc.cond_t rfl ?_ | refine Wo.val rfl (.mv rfl) ?_ | refine Wo.val rfl (.bin rfl rfl rfl) ?_)
    refine Wo.val rfl (.ixv rfl rfl (by decide) (by decide) rfl) ?_
    repeat' (first | refine Wc.reg ?_ | refine Fin.seq ?_ | refine Wo.nil ?_ | refine Wo.val rfl (.mv rfl) ?_)
    have hN3 : NdAt H2 X 7 0 [] (.ptr Y1 0) (.ptr Y2 0) (.ptr Y3 0) := by unfold NdAt at *; rw [hG2.same X hXl]; exact hN
    refine Wo.call rfl rfl (rt80 hN3) ?_
    rintro _ Hx ⟨rfl, e⟩
    rw [e]
    repeat' (first | refine Wo.val rfl (.mv rfl) ?_ | refine Wo.val rfl (.bin rfl rfl rfl) ?_)
    rw [w0 _ rfl]
    refine Wo.call rfl rfl (rt50 a lo Y1 hTa hw.1 H2 B m _ hG2 hB0 (by have := hK2.next; omega) hB2 hm (by omega) (by omega) (by omega)) ?_
    rintro _ H3 ⟨hk3, hB3⟩
    have hK3 := hK2.trans hk3
    have hG3 : Grow H0 H3 := hK3.grow hG hB0
    repeat' (first | refine Wc.reg ?_ | refine Fin.seq ?_ | refine Fin.block ?_ | refine Wo.nil ?_ | refine Wo.val rfl (.mv rfl) ?_ | refine Wo.val rfl (.bin rfl rfl rfl) ?_)
    refine Wc.loop ?_
    repeat' (first | refine Wc.seq ?_ | refine Wc.block ?_ | refine Wc.reg ?_ | refine Wc.skip ?_ | refine Fin.seq ?_ | refine Wo.nil ?_ | refine Wc.cond_t rfl ?_ | refine Wo.val rfl (.mv rfl) ?_ | refine Wo.val rfl (.bin rfl rfl rfl) ?_)
    refine Wo.val rfl (.ixv rfl rfl (by decide) (by decide) rfl) ?_
    repeat' (first | refine Wc.reg ?_ | refine Fin.seq ?_ | refine Wo.nil ?_ | refine Wo.val rfl (.mv rfl) ?_)
    have hN4 : NdAt H3 X 7 0 [] (.ptr Y1 0) (.ptr Y2 0) (.ptr Y3 0) := by unfold NdAt at *; rw [hG3.same X hXl]; exact hN
    refine Wo.call rfl rfl (rt80 hN4) ?_
    rintro _ Hx ⟨rfl, e⟩
    rw [e]
    repeat' (first | refine Wo.val rfl (.mv rfl) ?_ | refine Wo.val rfl (.bin rfl rfl rfl) ?_)
    rw [w1 (IntKind.i64.wrap (Int.ofNat 0 + Int.ofNat 1)) rfl]
    refine Wo.call rfl rfl (rt50 b lo Y2 hTb hw.2.1 H3 B m _ hG3 hB0 (by have := hK3.next; omega) hB3 hm (by omega) (by omega) (by omega)) ?_
    rintro _ H4 ⟨hk4, hB4⟩
    have hK4 := hK3.trans hk4
    have hG4 : Grow H0 H4 := hK4.grow hG hB0
    repeat' (first | refine Wc.reg ?_ | refine Fin.seq ?_ | refine Fin.block ?_ | refine Wo.nil ?_ | refine Wo.val rfl (.mv rfl) ?_ | refine Wo.val rfl (.bin rfl rfl rfl) ?_)
    refine Wc.loop ?_
    repeat' (first | refine Wc.seq ?_ | refine Wc.block ?_ | refine Wc.reg ?_ | refine Wc.skip ?_ | refine Fin.seq ?_ | refine Wo.nil ?_ | refine Wc.cond_t rfl ?_ | refine Wo.val rfl (.mv rfl) ?_ | refine Wo.val rfl (.bin rfl rfl rfl) ?_)
    refine Wo.val rfl (.ixv rfl rfl (by decide) (by decide) rfl) ?_
    repeat' (first | refine Wc.reg ?_ | refine Fin.seq ?_ | refine Wo.nil ?_ | refine Wo.val rfl (.mv rfl) ?_)
    have hN5 : NdAt H4 X 7 0 [] (.ptr Y1 0) (.ptr Y2 0) (.ptr Y3 0) := by unfold NdAt at *; rw [hG4.same X hXl]; exact hN
    refine Wo.call rfl rfl (rt80 hN5) ?_
    rintro _ Hx ⟨rfl, e⟩
    rw [e]
    repeat' (first | refine Wo.val rfl (.mv rfl) ?_ | refine Wo.val rfl (.bin rfl rfl rfl) ?_)
    rw [w2 (IntKind.i64.wrap (IntKind.i64.wrap (Int.ofNat 0 + Int.ofNat 1) + Int.ofNat 1)) rfl]
    refine Wo.call rfl rfl (rt50 c lo Y3 hTc hw.2.2 H4 B m _ hG4 hB0 (by have := hK4.next; omega) hB4 hm (by omega) (by omega) (by omega)) ?_
    rintro _ H5 ⟨hk5, hB5⟩
    have hK5 := hK4.trans hk5
    have hG5 : Grow H0 H5 := hK5.grow hG hB0
    repeat' (first | refine Wc.reg ?_ | refine Fin.seq ?_ | refine Fin.block ?_ | refine Wo.nil ?_ | refine Wo.val rfl (.mv rfl) ?_ | refine Wo.val rfl (.bin rfl rfl rfl) ?_)
    refine Wc.loop ?_
    repeat' (first | refine Wc.seq ?_ | refine Wc.reg ?_ | refine Wc.exit ?_ | refine Fin.seq ?_ | refine Fin.seq_exit ?_ | refine Fin.block_here ?_ | refine Wo.nil ?_ | refine Wc.cond_f rfl ?_ | refine Wo.val rfl (.bin rfl rfl rfl) ?_)
    exact Fin.kret_n rfl ⟨hK5, hB5⟩
end

theorem rt27 {t : Tm} {lo X : Nat} {H : AH} (hT : TreeAt lo H t X) (hw : t.wf) (hs : t.size ≤ 3000) (hf : freeN t = 0) : Rt Ck 27 [.ptr X 0] H fun v H' => v = .int .i64 0 ∧ Grow H H' := by
  refine Rt.enter (af := c27) rfl rfl ?_
  refine Wc.seq (Wc.reg ?_)
  refine Wo.val rfl (.mv rfl) ?_
  refine Wo.nil (Fin.seq (Wc.seq (Wc.reg ?_)))
  refine Wo.allocn rfl (fun H1 hn1 hA1 hs1 => ?_)
  refine Wo.st1 (c' := [.int .i64 0]) rfl rfl hA1 rfl rfl rfl rfl rfl (fun H2 hn2 hA2 hs2 => ?_)
  have hG : Grow H H2 := ⟨by omega, fun Y hY => by rw [hs2 Y (by omega), hs1 Y (by omega)]⟩
  repeat' (first | refine Wc.seq ?_ | refine Wc.reg ?_ | refine Fin.seq ?_ | refine Wo.nil ?_ | refine Wo.val rfl (.mv rfl) ?_)
  refine Wo.call rfl rfl (rt26 (hT.grow hG) hw hs) ?_
  rintro _ H3 ⟨rfl, hG3⟩
  have hL3 : LeftAt H3 H.next 0 := by unfold LeftAt; rw [hG3.same _ (by omega)]; exact hA2
  repeat' (first | refine Wc.reg ?_ | refine Fin.seq ?_ | refine Wo.nil ?_ | refine Wc.cond_t rfl ?_ | refine Wo.val rfl (.mv rfl) ?_ | refine Wo.val rfl (.mkf rfl rfl) ?_)
  refine Wo.call rfl rfl (rt50 t lo X hT hw H3 H.next 0 0 (hG.trans hG3) (Nat.le_refl _) (by have := hG3.next; omega) hL3 (by omega) (by omega) (by omega) (by omega)) ?_
  rintro _ H4 ⟨hK4, hL4⟩
  unfold LeftAt at hL4
  repeat' (first | refine Wc.seq ?_ | refine Wc.reg ?_ | refine Wc.ret ?_ | refine Fin.seq ?_ | refine Wo.nil ?_ | refine Wo.val rfl (.mv rfl) ?_ | refine Wo.val rfl (.ld rfl (AH.rd_at (by assumption) (by exact rfl))) ?_)
  exact Fin.kret rfl ⟨rfl, hK4.grow (hG.trans hG3) (Nat.le_refl _)⟩
end Go.Vd.L
