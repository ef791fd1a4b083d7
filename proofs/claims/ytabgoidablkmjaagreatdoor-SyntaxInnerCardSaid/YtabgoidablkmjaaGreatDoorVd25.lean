/- Results; deferred functions. -/
import Derived.Test.YtabgoidablkmjaaGreatDoorVd24
set_option linter.unusedVariables false
set_option linter.unusedSimpArgs false
namespace Go.Vd

section
variable {P : Program} {φ : Mp} {H : AH} {w : World} {tm : Tr AV}

/-- A result, read. -/
def resOf (tmps : Array Value) : ResultVar → Sem Value
  | .tmp t => pure (tmps.getD t undef)
  | .cell a t => do loadVar t (← asAddr (tmps.getD a undef))

theorem results_list (hR : R P.globals.size φ H w) {tmps : Array Value} : ∀ {l : List ResultVar} {r : List (Nat × Option (Option Nat))} {vs : List AV}, cRes P l = some r → resR tm H r = some vs →
    (∀ p ∈ r, VR φ (ev tm (.t p.1)) (tmps.getD p.1 undef)) → ∃ us : List Value, (l.mapM (resOf tmps)).run P w = .ok us w ∧ VRs φ vs us
  | [], r, vs, hc, hr, hT => by
    simp only [cRes, Option.some.injEq] at hc
    subst hc
    simp only [resR, Option.some.injEq] at hr
    subst hr
    exact ⟨[], by simp, by simp [VRs]⟩
  | .tmp t :: l, r, vs, hc, hr, hT => by
    simp only [cRes] at hc
    split at hc
    · rename_i m hm
      cases hc
      simp only [resR] at hr
      split at hr
      · rename_i us hus
        cases hr
        obtain ⟨xs, h1, h2⟩ := results_list hR hm hus fun p hp => hT p (List.mem_cons_of_mem _ hp)
        refine ⟨tmps.getD t undef :: xs, ?_, ?_⟩
        · simp only [List.mapM_cons, resOf, Sem.run_bind, Sem.run_pure, Result.andThen_ok, h1]
        · simp only [VRs]
          exact ⟨_, _, rfl, hT _ (List.mem_cons_self ..), h2⟩
      · cases hr
    · cases hc
  | .cell c t :: l, r, vs, hc, hr, hT => by
    simp only [cRes] at hc
    split at hc
    · rename_i d n m hu hsz hm
      cases hc
      obtain ⟨i, hi, hes⟩ := szOf_some hsz
      simp only [resR] at hr
      split at hr
      · rename_i X o us hX hus
        have hrel := hT _ (List.mem_cons_self ..)
        simp only at hrel
        rw [hX] at hrel
        obtain ⟨p, h1, h2⟩ := hrel.ptr_inv
        obtain ⟨xs, g1, g2⟩ := results_list hR hm hus fun p hp => hT p (List.mem_cons_of_mem _ hp)
        have hone : ∀ (v : AV) (v' : Value), VR φ v v' → (loadVar t ⟨p.b, p.base + o, none⟩).run P w = .ok v' w →
            ∃ us' : List Value, ((ResultVar.cell c t :: l).mapM (resOf tmps)).run P w = .ok us' w ∧ VRs φ (v :: us) us' := by
          intro v v' hv hl
          refine ⟨v' :: xs, ?_, ?_⟩
          · simp only [List.mapM_cons, resOf, Sem.run_bind, Sem.run_pure, Result.andThen_ok, h2, asAddr, hl, g1]
          · simp only [VRs]
            exact ⟨_, _, rfl, hv, g2⟩
        cases hagg : isAggD d with
        | true =>
          rw [hagg] at hr
          simp only [if_true] at hr
          split at hr
          · rename_i v hv
            cases hr
            obtain ⟨ys, f1, f2, f3⟩ := hR.run_loadCells (P := P) h1 hv
            refine hone _ (.agg ⟨ys⟩) (by simp only [VR]; exact ⟨ys, rfl, f1⟩) ?_
            simp only [Sem.run_bind, Sem.run_pure, Result.andThen_ok, loadVar, run_isAgg' hu, hagg, if_true, run_sizeOf' hi, hes, f3]
          · cases hr
        | false =>
          rw [hagg] at hr
          simp only [Bool.false_eq_true, if_false] at hr
          split at hr
          · rename_i v hv
            cases hr
            obtain ⟨v', f1, f2⟩ := hR.rd h1 hv
            refine hone _ v' f2 ?_
            simp only [Sem.run_bind, Sem.run_pure, Result.andThen_ok, loadVar, run_isAgg' hu, hagg, Bool.false_eq_true, if_false, run_load' f1]
          · cases hr
      · cases hr
    · cases hc

/-- What a function's results come to. -/
def oneOf : List AV → AV
  | [v] => v
  | vs => .tup vs

theorem results_run (hR : R P.globals.size φ H w) {fn : Func} {tmps : Array Value} {r : List (Nat × Option (Option Nat))} {vs : List AV} (hc : cRes P fn.results.toList = some r) (hr : resR tm H r = some vs)
    (hT : ∀ p ∈ r, VR φ (ev tm (.t p.1)) (tmps.getD p.1 undef)) : ∃ v, (results fn tmps).run P w = .ok v w ∧ VR φ (oneOf vs) v := by
  obtain ⟨us, h1, h2⟩ := results_list hR hc hr hT
  have hl := h2.length
  have h3 : (results fn tmps).run P w = .ok (if h : us.toArray.size = 1 then us.toArray[0] else .tuple us.toArray) w := by
    have e : results fn tmps = (fn.results.mapM (resOf tmps) >>= fun vs => pure (if h : vs.size = 1 then vs[0] else .tuple vs)) := rfl
    rw [e, Array.mapM_eq_mapM_toList]
    simp only [Sem.run_bind, Sem.run_map, h1, Result.andThen_ok, Sem.run_pure, map_eq_pure_bind]
  refine ⟨_, h3, ?_⟩
  match vs, us, h2, hl with
  | [], [], h2, _ =>
    simp only [oneOf, VR, VRs]
    exact ⟨[], by simp, rfl⟩
  | [v], [u], h2, _ =>
    simp only [VRs] at h2
    obtain ⟨x, xs, e, h4, h5⟩ := h2
    cases e
    simpa [oneOf] using h4
  | v1 :: v2 :: vs, u1 :: u2 :: us, h2, _ =>
    simp only [oneOf, VR]
    exact ⟨u1 :: u2 :: us, by simp, h2⟩

end
end Go.Vd
