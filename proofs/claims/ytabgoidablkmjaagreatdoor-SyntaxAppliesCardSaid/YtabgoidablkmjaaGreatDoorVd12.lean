/- Operations: what the evaluator gives, the model gives. Part 7: builtins, conversions, interfaces. -/
import Derived.Test.YtabgoidablkmjaaGreatDoorVd11
import Derived.Laws.BytesString
import Derived.Laws.MakeOwn
set_option linter.unusedVariables false
set_option linter.unusedSimpArgs false
namespace Go.Vd

theorem cOpds_cons {P : Program} {l : List Operand} {y : Opd} {m : List Opd} (h : cOpds P l = some (y :: m)) : ∃ x l', l = x :: l' ∧ cOpd P x = some y ∧ cOpds P l' = some m := by
  cases l with
  | nil => simp [cOpds] at h
  | cons x l =>
    simp only [cOpds] at h
    split at h
    · rename_i y' m' h1 h2
      cases h
      exact ⟨x, l, rfl, h1, h2⟩
    · cases h
theorem cOpds_nil {P : Program} {l : List Operand} (h : cOpds P l = some []) : l = [] := by
  cases l with
  | nil => rfl
  | cons x l =>
    simp only [cOpds] at h
    split at h <;> cases h

section
variable {P : Program} {φ : Mp} {H : AH} {w : World} {tm : Tr AV} {a : Act} {o : Oper} {C : Ctx}

theorem run_builtin {c : Call} {b : Builtin} (ho : o.op = .call c) (hc : c.callee = .builtin b) :
    (execOp a.eval o).run P w = (builtin b c.argTypes o.type (c.args.map fun | .const _ => true | _ => false) (c.args.map a.eval)).run P w := by
  simp only [execOp, ho, resolve, hc, Sem.run_bind, Sem.run_pure, Result.andThen_ok, invoke]
  rfl

theorem args1 {c : Call} {x : Operand} (h : c.args.toList = [x]) : c.args.map a.eval = #[a.eval x] := by
  apply Array.ext'
  simp [h]
theorem args2 {c : Call} {x y : Operand} (h : c.args.toList = [x, y]) : c.args.map a.eval = #[a.eval x, a.eval y] := by
  apply Array.ext'
  simp [h]
theorem types1 {c : Call} {t : TypeId} {l : List TypeId} (h : c.argTypes.toList = t :: l) : c.argTypes[0]? = some t := by
  rw [← Array.getElem?_toList, h]; rfl
theorem types2 {c : Call} {t u : TypeId} {l : List TypeId} (h : c.argTypes.toList = t :: u :: l) : c.argTypes[1]? = some u := by
  rw [← Array.getElem?_toList, h]; rfl

theorem s_tlen {c : Call} {x : Operand} {y : Opd} {t : TypeId} (hR : R P.globals.size φ H w) (hF : FR φ tm a) (ho : o.op = .call c) (hb : c.callee = .builtin .len) (hl : c.args.toList = [x]) (hx : cOpd P x = some y) (ht : c.argTypes.toList = [t])
    (hu : P.underlying t = some .string) {v : AV} {H' : AH} (ha : aop C tm H (.tlen y) = .val v H') : Snd P P.globals.size φ H w o a v H' := by
  have hrel := opd_rel hR hF hx
  have h0 := types1 ht
  simp only [aop] at ha
  split at ha
  · rename_i l hl'
    cases ha
    rw [hl'] at hrel
    refine Snd.still hR (v' := .int .i64 l.length) ?_ (by simp [VR])
    rw [run_builtin ho hb, args1 hl]
    simp only [builtin, Builtin.len_, h0, hrel.str_inv, Sem.run_bind]
    simp [run_underlying' hu, goInt, ba_size]
  · cases ha

theorem s_len {c : Call} {x : Operand} {y : Opd} {t e : TypeId} (hR : R P.globals.size φ H w) (hF : FR φ tm a) (ho : o.op = .call c) (hb : c.callee = .builtin .len) (hl : c.args.toList = [x]) (hx : cOpd P x = some y) (ht : c.argTypes.toList = [t])
    (hu : P.underlying t = some (.slice e)) {v : AV} {H' : AH} (ha : aop C tm H (.len y) = .val v H') : Snd P P.globals.size φ H w o a v H' := by
  have hrel := opd_rel hR hF hx
  have h0 := types1 ht
  simp only [aop] at ha
  split at ha
  · rename_i X u len cap sz ex hl'
    cases ha
    rw [hl'] at hrel
    simp only [VR] at hrel
    obtain ⟨p, q, cc, _, g2, _⟩ := hrel
    refine Snd.still hR (v' := .int .i64 len) ?_ (by simp [VR])
    rw [run_builtin ho hb, args1 hl]
    simp only [builtin, Builtin.len_, h0, g2, Sem.run_bind]
    simp [run_underlying' hu, goInt]
  · rename_i hl'
    cases ha
    rw [hl'] at hrel
    refine Snd.still hR (v' := .int .i64 0) ?_ (by simp [VR])
    rw [run_builtin ho hb, args1 hl]
    simp only [builtin, Builtin.len_, h0, hrel.nils_inv, Sem.run_bind]
    simp [run_underlying' hu, goInt]
  · cases ha

theorem s_alen {c : Call} {x : Operand} {t : TypeId} {n : Nat} (hR : R P.globals.size φ H w) (ho : o.op = .call c) (hb : c.callee = .builtin .len) (hl : c.args.toList = [x]) (ht : c.argTypes.toList = [t])
    (hu : (∃ e, P.underlying t = some (.array n e)) ∨ (∃ p e, P.underlying t = some (.pointer p) ∧ P.underlying p = some (.array n e))) {v : AV} {H' : AH} (ha : aop C tm H (.alen n) = .val v H') : Snd P P.globals.size φ H w o a v H' := by
  have h0 := types1 ht
  simp only [aop] at ha
  cases ha
  refine Snd.still hR (v' := .int .i64 n) ?_ (by simp [VR])
  rw [run_builtin ho hb, args1 hl]
  rcases hu with ⟨e, hu⟩ | ⟨p, e, hu, hp⟩
  · simp only [builtin, Builtin.len_, h0, Sem.run_bind]
    simp [run_underlying' hu, goInt]
  · simp only [builtin, Builtin.len_, h0, Sem.run_bind]
    simp [run_underlying' hu, run_underlying' hp, goInt]

theorem s_cap {c : Call} {x : Operand} {y : Opd} {t e : TypeId} (hR : R P.globals.size φ H w) (hF : FR φ tm a) (ho : o.op = .call c) (hb : c.callee = .builtin .cap) (hl : c.args.toList = [x]) (hx : cOpd P x = some y) (ht : c.argTypes.toList = [t])
    (hu : P.underlying t = some (.slice e)) {v : AV} {H' : AH} (ha : aop C tm H (.cap y) = .val v H') : Snd P P.globals.size φ H w o a v H' := by
  have hrel := opd_rel hR hF hx
  have h0 := types1 ht
  simp only [aop] at ha
  split at ha
  · rename_i X u len cap sz hl'
    cases ha
    rw [hl'] at hrel
    simp only [VR] at hrel
    obtain ⟨p, q, cc, _, g2, g3, _⟩ := hrel
    have := g3 trivial
    subst this
    refine Snd.still hR (v' := .int .i64 cc) ?_ (by simp [VR])
    rw [run_builtin ho hb, args1 hl]
    simp only [builtin, Builtin.cap_, h0, g2, Sem.run_bind]
    simp [run_underlying' hu, goInt]
  · rename_i hl'
    cases ha
    rw [hl'] at hrel
    refine Snd.still hR (v' := .int .i64 0) ?_ (by simp [VR])
    rw [run_builtin ho hb, args1 hl]
    simp only [builtin, Builtin.cap_, h0, hrel.nils_inv, Sem.run_bind]
    simp [run_underlying' hu, goInt]
  · cases ha

theorem mm_fold {mx : Bool} : ∀ {l : List AV} {vs : List Value} {k : IntKind} {n : Int} {r : AV}, VRs φ l vs → mmA mx k n l = some r →
    (vs.foldlM (if mx then Builtin.max2 else Builtin.min2) (.int k n)).run P w = .ok (match r with | .int j m => .int j m | _ => undef) w ∧ ∃ j m, r = .int j m
  | [], vs, k, n, r, h, hm => by
    simp only [VRs] at h
    subst h
    simp only [mmA, Option.some.injEq] at hm
    subst hm
    exact ⟨by simp, k, n, rfl⟩
  | .int j b :: l, vs, k, n, r, h, hm => by
    simp only [VRs, VR] at h
    obtain ⟨v, ws, rfl, rfl, h⟩ := h
    simp only [mmA] at hm
    split at hm
    · rename_i hk
      subst hk
      obtain ⟨h1, h2⟩ := mm_fold h hm
      refine ⟨?_, h2⟩
      rw [List.foldlM_cons, Sem.run_bind]
      cases mx
      · simp only [Bool.false_eq_true, if_false] at h1 ⊢
        rw [← h1]
        rfl
      · simp only [if_true] at h1 ⊢
        rw [← h1]
        rfl
    · cases hm
  | .bool _ :: l, vs, k, n, r, h, hm => by simp [mmA] at hm
  | .str _ :: l, vs, k, n, r, h, hm => by simp [mmA] at hm
  | .nilp :: l, vs, k, n, r, h, hm => by simp [mmA] at hm
  | .ptr _ _ :: l, vs, k, n, r, h, hm => by simp [mmA] at hm
  | .hnd _ _ :: l, vs, k, n, r, h, hm => by simp [mmA] at hm
  | .nils :: l, vs, k, n, r, h, hm => by simp [mmA] at hm
  | .slc _ _ _ _ _ _ :: l, vs, k, n, r, h, hm => by simp [mmA] at hm
  | .nilm :: l, vs, k, n, r, h, hm => by simp [mmA] at hm
  | .map _ :: l, vs, k, n, r, h, hm => by simp [mmA] at hm
  | .fn _ _ _ :: l, vs, k, n, r, h, hm => by simp [mmA] at hm
  | .nilf :: l, vs, k, n, r, h, hm => by simp [mmA] at hm
  | .ifc _ _ :: l, vs, k, n, r, h, hm => by simp [mmA] at hm
  | .nili :: l, vs, k, n, r, h, hm => by simp [mmA] at hm
  | .agg _ :: l, vs, k, n, r, h, hm => by simp [mmA] at hm
  | .tup _ :: l, vs, k, n, r, h, hm => by simp [mmA] at hm

theorem s_mm {c : Call} {mx : Bool} {y : Opd} {m : List Opd} (hR : R P.globals.size φ H w) (hF : FR φ tm a) (ho : o.op = .call c) (hb : c.callee = .builtin (if mx then .max else .min)) (hl : cOpds P c.args.toList = some (y :: m))
    {v : AV} {H' : AH} (ha : aop C tm H (.mm mx y m) = .val v H') : Snd P P.globals.size φ H w o a v H' := by
  obtain ⟨x, l', e1, e2, e3⟩ := cOpds_cons hl
  have hrel := opd_rel hR hF e2
  have hrels := opds_rel hR hF e3
  simp only [aop] at ha
  split at ha
  · rename_i k n hk
    simp only [ofV] at ha
    split at ha
    · rename_i r hr
      cases ha
      rw [hk] at hrel
      obtain ⟨h1, j, q, rfl⟩ := mm_fold (P := P) (w := w) hrels hr
      refine Snd.still hR (v' := .int j q) ?_ (by simp [VR])
      rw [run_builtin ho hb]
      have e4 : (c.args.map a.eval).toList = .int k n :: l'.map a.eval := by
        simp [e1, hrel.int_inv]
      cases mx
      · simp only [Bool.false_eq_true, if_false, builtin, Builtin.min_, Sem.run_bind, e4] at h1 ⊢
        rw [h1]
        rfl
      · simp only [if_true, builtin, Builtin.max_, Sem.run_bind, e4] at h1 ⊢
        rw [h1]
        rfl
    · cases ha
  · cases ha
end
end Go.Vd
