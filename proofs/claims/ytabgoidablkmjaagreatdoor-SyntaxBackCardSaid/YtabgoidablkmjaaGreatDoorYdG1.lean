/- Unlike closed terms have unlike texts. -/
import Derived.Test.YtabgoidablkmjaaGreatDoorYdF12
set_option linter.unusedVariables false
set_option linter.unusedSimpArgs false
namespace Go.Vd.L
open Go.Vd

/-- A run has one end. -/
theorem Rt.both {C : Ctx} {f : Nat} {xs : List AV} {H : AH} {Q Q' : AV → AH → Prop} (h : Rt C f xs H Q) (g : Rt C f xs H Q') : Rt C f xs H fun v H' => Q v H' ∧ Q' v H' := by
  unfold Rt at *
  obtain ⟨n, v, H', h1, h2⟩ := h
  obtain ⟨m, v', H'', g1, g2⟩ := g
  have e1 := run_le (Nat.le_max_left n m) _ _ h1
  have e2 := run_le (Nat.le_max_right n m) _ _ g1
  rw [e1] at e2
  cases e2
  exact ⟨n, v, H', h1, h2, g2⟩
theorem Rt.some {C : Ctx} {f : Nat} {xs : List AV} {H : AH} {Q : AV → AH → Prop} (h : Rt C f xs H Q) : ∃ v H', Q v H' := by
  unfold Rt at h
  obtain ⟨n, v, H', _, h2⟩ := h
  exact ⟨v, H', h2⟩

theorem strs_inj : ∀ {a b : List (List UInt8)}, strs a = strs b → a = b
  | [], [], _ => rfl
  | x :: a, y :: b, h => by
    simp only [strs, List.map_cons, List.cons.injEq, AV.str.injEq] at h
    rw [h.1, strs_inj (a := a) (b := b) h.2]
  | [], _ :: _, h => by simp [strs] at h
  | _ :: _, [], h => by simp [strs] at h
theorem WS.inj {N : Nat} {H : AH} {ws : AV} {a b : List (List UInt8)} (h : WS N H ws a) (g : WS N H ws b) : a = b := by
  rcases h with ⟨rfl, rfl⟩ | ⟨_, K, rfl, h1, _⟩
  · rcases g with ⟨rfl, _⟩ | ⟨_, K', e, _⟩
    · rfl
    · cases e
  · rcases g with ⟨_, e⟩ | ⟨_, K', e, g1, _⟩
    · cases e
    · injection e with e1
      subst e1
      rw [h1] at g1
      simp only [Option.some.injEq, AB.cells.injEq] at g1
      exact strs_inj g1.1

theorem TreeAt.inj {H : AH} : ∀ {t u : Tm} {lo lo' X : Nat}, TreeAt lo H t X → TreeAt lo' H u X → t = u
  | .nd0 k n s, .nd0 k' n' s', _, _, X, ⟨_, _, h⟩, ⟨_, _, g⟩ => by
    unfold NdAt at h g
    rw [h] at g
    simp only [Option.some.injEq, AB.cells.injEq, List.cons.injEq, AV.int.injEq, AV.str.injEq] at g
    obtain ⟨⟨⟨_, rfl⟩, ⟨_, rfl⟩, rfl, _⟩, _⟩ := g
    rfl
  | .nd2 k a b, .nd2 k' a' b', _, _, X, ⟨_, _, Y, Z, h, h1, h2⟩, ⟨_, _, Y', Z', g, g1, g2⟩ => by
    unfold NdAt at h g
    rw [h] at g
    simp only [Option.some.injEq, AB.cells.injEq, List.cons.injEq, AV.int.injEq, AV.str.injEq, AV.ptr.injEq] at g
    obtain ⟨⟨⟨_, rfl⟩, _, _, ⟨rfl, _⟩, ⟨rfl, _⟩, _⟩, _⟩ := g
    rw [h1.inj g1, h2.inj g2]
  | .nd3 a b c, .nd3 a' b' c', _, _, X, ⟨_, _, Y, Z, W, h, h1, h2, h3⟩, ⟨_, _, Y', Z', W', g, g1, g2, g3⟩ => by
    unfold NdAt at h g
    rw [h] at g
    simp only [Option.some.injEq, AB.cells.injEq, List.cons.injEq, AV.int.injEq, AV.str.injEq, AV.ptr.injEq] at g
    obtain ⟨⟨_, _, _, ⟨rfl, _⟩, ⟨rfl, _⟩, ⟨rfl, _⟩, _⟩, _⟩ := g
    rw [h1.inj g1, h2.inj g2, h3.inj g3]
  | .nd0 k n s, .nd2 k' a' b', _, _, X, ⟨_, _, h⟩, ⟨_, _, Y', Z', g, _⟩ => by
    unfold NdAt at h g
    rw [h] at g
    simp at g
  | .nd0 k n s, .nd3 a' b' c', _, _, X, ⟨_, _, h⟩, ⟨_, _, Y', Z', W', g, _⟩ => by
    unfold NdAt at h g
    rw [h] at g
    simp at g
  | .nd2 k a b, .nd0 _ _ _, _, _, X, ⟨_, _, Y, Z, h, _⟩, ⟨_, _, g⟩ => by
    unfold NdAt at h g
    rw [h] at g
    simp at g
  | .nd2 k a b, .nd3 _ _ _, _, _, X, ⟨_, _, Y, Z, h, _⟩, ⟨_, _, Y', Z', W', g, _⟩ => by
    unfold NdAt at h g
    rw [h] at g
    simp at g
  | .nd3 a b c, .nd0 _ _ _, _, _, X, ⟨_, _, Y, Z, W, h, _⟩, ⟨_, _, g⟩ => by
    unfold NdAt at h g
    rw [h] at g
    simp at g
  | .nd3 a b c, .nd2 _ _ _, _, _, X, ⟨_, _, Y, Z, W, h, _⟩, ⟨_, _, Y', Z', g, _⟩ => by
    unfold NdAt at h g
    rw [h] at g
    simp at g

theorem tok_len {t : Tm} {d : Nat} (hw : t.wf) (hl : (pr t d).length ≤ 2000) : (tok t d).length ≤ 2000 := by
  have := sp_len (tok_good t d hw)
  rw [pr_tok] at hl
  omega

theorem pr_inj {t u : Tm} (ht : t.wf) (hu : u.wf) (ft : freeN t ≤ 0) (fu : freeN u ≤ 0) (st : t.size ≤ 3000) (su : u.size ≤ 3000) (hl : (pr t 0).length ≤ 2000) (h : pr t 0 = pr u 0) : t = u := by
  have r1 := rt12t (H := HB) (d := 0) ht hl
  have r2 := rt12t (H := HB) (d := 0) hu (by rw [← h]; exact hl)
  rw [← h] at r2
  obtain ⟨v, H', ⟨ws, rfl, w1, _⟩, ⟨ws', e, w2, _⟩⟩ := Rt.some (Rt.both r1 r2)
  simp only [AV.tup.injEq, List.cons.injEq, and_true] at e
  subst e
  have r3 := rt13 w1 ht ft st (tok_len ht hl)
  have r4 := rt13 w2 hu fu su (tok_len hu (by rw [← h]; exact hl))
  obtain ⟨v, H'', ⟨X, K, o, c, ex, rfl, t1, _⟩, ⟨X', K', o', c', ex', e, t2, _⟩⟩ := Rt.some (Rt.both r3 r4)
  simp only [AV.tup.injEq, List.cons.injEq, AV.ptr.injEq] at e
  obtain ⟨⟨rfl, _⟩, _⟩ := e
  exact t1.inj t2
end Go.Vd.L
namespace Go.Vd.L
open Go.Vd

theorem rt8B : Rt Ck 8 [] HB fun v H' => v = .bool true ∧ H' = HB1 := by
  unfold Rt
  refine ⟨1, .bool true, HB1, ?_, rfl, rfl⟩
  unfold run callR
  have e : Ck.orc 8 = some knownK := rfl
  simp only [e, knownK_HB]

theorem HB1_get (X : Nat) : HB1.get X = HB.get X := rfl

/-- The law's end. -/
def E3 (v : AV) (H' : AH) : Prop := v = .bool true ∧ Grow HB1 H'

theorem gT {H : AH} {a : Int} (h : 0 < a) : binV Ck H .gtr .int (.int .i64 a) (.int .i64 (Int.ofNat 0)) = some (.bool true) := gtT (by simpa using h)
theorem gF {H : AH} {a : Int} (h : a ≤ 0) : binV Ck H .gtr .int (.int .i64 a) (.int .i64 (Int.ofNat 0)) = some (.bool false) := gtF (by simpa using h)

theorem pr_eq {t u : Tm} (ht : t.wf) (hu : u.wf) (ft : freeN t ≤ 0) (fu : freeN u ≤ 0) (st : t.size ≤ 3000) (su : u.size ≤ 3000) (hl : (pr t 0).length ≤ 2000) : strEq (pr u 0) (pr t 0) = sameB t u := by
  cases h : sameB t u with
  | true =>
    have := sameB_eq h
    subst this
    exact strEq_refl _
  | false =>
    refine strEq_ne fun e => ?_
    have := pr_inj ht hu ft fu st su hl e.symm
    subst this
    rw [sameB_refl] at h
    cases h

theorem back (s u : List UInt8) : Rt Ck 3 [.str s, .str u] HB E3 := by
  refine Rt.enter (af := c3) rfl rfl ?_
  repeat' (first | refine Wc.seq ?_ | refine Wc.reg ?_ | refine Fin.seq ?_ | refine Wo.nil ?_ | refine Wo.val rfl (.mv rfl) ?_)
  refine Wo.call rfl rfl rt8B ?_
  rintro _ _ ⟨rfl, rfl⟩
  repeat' (first | refine Wc.seq ?_ | refine Wc.reg ?_ | refine Wc.skip ?_ | refine Fin.seq ?_ | refine Wo.nil ?_ | refine Wc.cond_f rfl ?_ | refine Wo.val rfl (.mv rfl) ?_ | refine Wo.val rfl (.un rfl rfl) ?_)
  refine Wo.call rfl rfl (rt9 s HB1) ?_
  rintro v1 H1 ⟨hG1, hv1⟩
  repeat' refine Wo.val rfl (.mv rfl) ?_
  refine Wo.call rfl rfl (rt9 u H1) ?_
  rintro v2 H2 ⟨hG2, hv2⟩
  have hG := hG1.trans hG2
  rcases hv1 with rfl | ⟨t, X, rfl, hT1, ht, st⟩
  · repeat' (first | refine Wc.seq ?_ | refine Wc.reg ?_ | refine Wc.ret ?_ | refine Fin.seq ?_ | refine Fin.seq_ret ?_ | refine Wo.nil ?_ | refine Wc.cond_t rfl ?_ | refine Wo.skip rfl ?_ | refine Wo.val rfl (.mv rfl) ?_ | refine Wo.val rfl (.pick_t rfl rfl) ?_ | refine Wo.val rfl (.bin rfl rfl rfl) ?_)
    exact Fin.kret rfl ⟨rfl, hG⟩
  rcases hv2 with rfl | ⟨v, Y, rfl, hV, hv, sv⟩
  · repeat' (first | refine Wc.seq ?_ | refine Wc.reg ?_ | refine Wc.ret ?_ | refine Fin.seq ?_ | refine Fin.seq_ret ?_ | refine Wo.nil ?_ | refine Wc.cond_t rfl ?_ | refine Wo.skip rfl ?_ | refine Wo.val rfl (.mv rfl) ?_ | refine Wo.val rfl (.pick_t rfl rfl) ?_ | refine Wo.val rfl (.pick_f rfl rfl) ?_ | refine Wo.val rfl (.bin rfl rfl rfl) ?_)
    exact Fin.kret rfl ⟨rfl, hG⟩
  have hT := hT1.grow hG2
  repeat' (first | refine Wc.seq ?_ | refine Wc.reg ?_ | refine Fin.seq ?_ | refine Wo.nil ?_ | refine Wo.val rfl (.mv rfl) ?_ | refine Wo.val rfl (.pick_f rfl rfl) ?_ | refine Wo.val rfl (.bin rfl rfl rfl) ?_)
  refine Wo.call rfl rfl (rt10 t _ X H2 hT ht) ?_
  rintro _ H3 ⟨rfl, e⟩
  rw [e]
  rcases Int.lt_or_le 0 (freeN t) with ft | ft
  · have b1 := gT (H := H2) ft
    repeat' (first | refine Wc.seq ?_ | refine Wc.reg ?_ | refine Wc.ret ?_ | refine Fin.seq ?_ | refine Fin.seq_ret ?_ | refine Wo.nil ?_ | refine Wc.cond_t rfl ?_ | refine Wo.skip rfl ?_ | refine Wo.val rfl (.mv rfl) ?_ | refine Wo.val rfl (.pick_t rfl rfl) ?_ | refine Wo.val rfl (.pick_f rfl rfl) ?_ | refine Wo.val rfl (.bin rfl rfl (by assumption)) ?_)
    exact Fin.kret rfl ⟨rfl, hG⟩
  have b1 := gF (H := H2) ft
  repeat' (first | refine Wo.val rfl (.mv rfl) ?_ | refine Wo.val rfl (.pick_f rfl rfl) ?_ | refine Wo.val rfl (.bin rfl rfl (by assumption)) ?_)
  refine Wo.call rfl rfl (rt10 v _ Y H2 hV hv) ?_
  rintro _ H3 ⟨rfl, e⟩
  rw [e]
  rcases Int.lt_or_le 0 (freeN v) with fv | fv
  · have b2 := gT (H := H2) fv
    repeat' (first | refine Wc.seq ?_ | refine Wc.reg ?_ | refine Wc.ret ?_ | refine Fin.seq ?_ | refine Fin.seq_ret ?_ | refine Wo.nil ?_ | refine Wc.cond_t rfl ?_ | refine Wo.val rfl (.mv rfl) ?_ | refine Wo.val rfl (.pick_f rfl rfl) ?_ | refine Wo.val rfl (.bin rfl rfl (by assumption)) ?_)
    exact Fin.kret rfl ⟨rfl, hG⟩
  have b2 := gF (H := H2) fv
  have ft0 : freeN t = 0 := by have := (freeN_le ht).1; omega
  have fv0 : freeN v = 0 := by have := (freeN_le hv).1; omega
  have hPW : ∀ H, Grow HB1 H → PW H ∧ 2 < H.next := fun H h => ⟨by unfold PW; rw [h.same 2 (by decide), HB1_get, HB_get]; rfl, Nat.lt_of_lt_of_le (by decide) h.next⟩
  repeat' (first | refine Wc.seq ?_ | refine Wc.reg ?_ | refine Wc.skip ?_ | refine Fin.seq ?_ | refine Wo.nil ?_ | refine Wc.cond_f rfl ?_ | refine Wo.val rfl (.mv rfl) ?_ | refine Wo.val rfl (.pick_f rfl rfl) ?_ | refine Wo.val rfl (.bin rfl rfl (by assumption)) ?_)
  refine Wo.call rfl rfl (rt11 (hPW H2 hG).1 (hPW H2 hG).2 hT ht st ft0) ?_
  rintro _ H4 ⟨rfl, hG4⟩
  have hGa := hG.trans hG4
  rcases Nat.lt_or_ge 2000 (pr t 0).length with hl | hl
  · have b3 : binV Ck H4 .gtr .int (.int .i64 ((pr t 0).length : Nat)) (.int .i64 (Int.ofNat 2000)) = some (.bool true) := gtT (by simp; omega)
    repeat' (first | refine Wc.seq ?_ | refine Wc.reg ?_ | refine Wc.ret ?_ | refine Fin.seq ?_ | refine Fin.seq_ret ?_ | refine Wo.nil ?_ | refine Wc.cond_t rfl ?_ | refine Wo.val rfl (.mv rfl) ?_ | refine Wo.val rfl (.bin rfl rfl (by assumption)) ?_ | refine Wo.val rfl (.tlen rfl) ?_)
    exact Fin.kret rfl ⟨rfl, hGa⟩
  have b3 : binV Ck H4 .gtr .int (.int .i64 ((pr t 0).length : Nat)) (.int .i64 (Int.ofNat 2000)) = some (.bool false) := gtF (by simp; omega)
  repeat' (first | refine Wc.seq ?_ | refine Wc.reg ?_ | refine Wc.skip ?_ | refine Fin.seq ?_ | refine Wo.nil ?_ | refine Wc.cond_f rfl ?_ | refine Wo.val rfl (.mv rfl) ?_ | refine Wo.val rfl (.bin rfl rfl (by assumption)) ?_ | refine Wo.val rfl (.tlen rfl) ?_)
  refine Wo.call rfl rfl (rt12t (d := 0) ht hl) ?_
  rintro _ H5 ⟨ws, rfl, hW5, hG5⟩
  repeat' (first | refine Wc.seq ?_ | refine Wc.reg ?_ | refine Fin.seq ?_ | refine Wo.nil ?_ | refine Wo.val rfl (.mv rfl) ?_ | refine Wo.val rfl (.ext rfl rfl) ?_)
  refine Wo.call rfl rfl (rt13 hW5 ht ft st (tok_len ht hl)) ?_
  rintro _ H6 ⟨Z, K, o, c, ex, rfl, hZ, hG6⟩
  have hGb := hGa.trans (hG5.trans hG6)
  have hT6 := hT.grow (hG4.trans (hG5.trans hG6))
  have hV6 := hV.grow (hG4.trans (hG5.trans hG6))
  have c1 : binV Ck H6 .neq .str (.str (pr t 0)) (.str []) = some (.bool true) := by
    rw [binV_s]
    have : strEq (pr t 0) [] = false := strEq_ne (pr_len t 0 ht).2
    simp [strOp, this]
  have c2 : binV Ck H6 .eql .int (.int .i64 ((0 : Nat) : Int)) (.int .i64 (Int.ofNat 0)) = some (.bool true) := binV_eqT rfl
  repeat' (first | refine Wc.seq ?_ | refine Wc.reg ?_ | refine Fin.seq ?_ | refine Wo.nil ?_ | refine Wo.val rfl (.mv rfl) ?_ | refine Wo.val rfl (.pick_t rfl rfl) ?_ | refine Wo.val rfl (.bin rfl rfl (by assumption)) ?_ | refine Wo.val rfl (.len rfl) ?_ | refine Wo.val rfl (.ext rfl rfl) ?_)
  refine Wo.call rfl rfl (rt14 t t _ _ Z X H6 hZ hT6 ht ht) ?_
  rintro _ H7 ⟨rfl, e⟩
  rw [e, sameB_refl]
  repeat' (first | refine Wo.val rfl (.mv rfl) ?_ | refine Wo.val rfl (.pick_t rfl rfl) ?_)
  refine Wo.call rfl rfl (rt11 (hPW H6 hGb).1 (hPW H6 hGb).2 hV6 hv sv fv0) ?_
  rintro _ H8 ⟨rfl, hG8⟩
  have c3 : binV Ck H8 .eql .str (.str (pr v 0)) (.str (pr t 0)) = some (.bool (sameB t v)) := by
    rw [binV_s, ← pr_eq ht hv ft fv st sv hl]
    simp [strOp]
  repeat' (first | refine Wo.val rfl (.mv rfl) ?_ | refine Wo.val rfl (.bin rfl rfl (by assumption)) ?_)
  refine Wo.call rfl rfl (rt14 t v _ _ X Y H8 (hT6.grow hG8) (hV6.grow hG8) ht hv) ?_
  rintro _ H9 ⟨rfl, e⟩
  rw [e]
  have c4 : binV Ck H8 .eql .bool (.bool (sameB t v)) (.bool (sameB t v)) = some (.bool true) := by
    cases sameB t v <;> rfl
  repeat' (first | refine Wc.ret ?_ | refine Fin.seq ?_ | refine Wo.nil ?_ | refine Wo.val rfl (.mv rfl) ?_ | refine Wo.val rfl (.pick_t rfl rfl) ?_ | refine Wo.val rfl (.bin rfl rfl (by assumption)) ?_)
  exact Fin.kret rfl ⟨rfl, hGb.trans hG8⟩
end Go.Vd.L
