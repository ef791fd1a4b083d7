/- One operation, its call followed: what the evaluator gives, the model gives. -/
import Derived.Test.YtabgoidablkmjaaGreatDoorVd18
import Derived.Recover
set_option linter.unusedVariables false
set_option linter.unusedSimpArgs false
namespace Go.Vd

/-- What a call comes to. -/
def CPost (P : Program) (φ : Mp) (H : AH) (w : World) (r : ARes) (H' : AH) : Ending → World → Prop
  | .returned v, w' => ∃ ψ u, r = .ret u ∧ R P.globals.size ψ H' w' ∧ Nx φ H w ψ H' w' ∧ VR ψ u v
  | .panicked chain, w' => ∃ ψ u v, r = .pan u ∧ chain = [{ v := v, recovered := false }] ∧ R P.globals.size ψ H' w' ∧ Nx φ H w ψ H' w' ∧ VR ψ u v
  | .outgrown, _ => False

/-- Calls that the evaluator follows are sound. -/
def IHC (P : Program) (ih : Task → Option Out) : Prop :=
  ∀ f as H r H', ih (.call f as H) = some (.call r H') → Enters P f ∧
    ∀ φ w (args : List Value), R P.globals.size φ H w → VRs φ as args → Calls P f ⟨args⟩ w (CPost P φ H w r H')

section
variable {P : Program} {φ : Mp} {H H' : AH} {w : World} {tm : Tr AV} {a : Act} {o : Oper} {ao : AOper} {C : Ctx} {ih : Task → Option Out} {v : AV}
  {K : Act → World → Prop} {Q : Exit → Act → World → Prop}

theorem run_callMethod {t : TypeId} {v r : Value} {m : String} {args : List Value} {f : FuncId} (h : (method (P.types.size + Made.depth) t v m).run P w = .ok (f, r) w) :
    (callMethod (.iface t v) m ⟨args⟩).run P w = (callFunc f ⟨r :: args⟩).run P w := by
  simp only [callMethod, Sem.run_bind, run_program, Result.andThen_ok, h]
  congr 2
  apply Array.ext'
  simp

theorem cOper_spec {nt : Nat} {ops : List Oper} (h : cOper P nt ops o = some ao) :
    ao.dst = o.dst ∧ (ao.op = .bad ∨ cop P o = some ao.op) ∧ gTmp ops o.guard = some ao.guard ∧ ∀ d, o.dst = some d → d < nt := by
  unfold cOper at h
  split at h
  · rename_i g hg
    rw [Option.ite_none_right_eq_some] at h
    obtain ⟨hd, h⟩ := h
    cases h
    refine ⟨rfl, ?_, hg, ?_⟩
    · cases hc : cop P o with
      | none => exact .inl rfl
      | some b => exact .inr rfl
    · intro d e
      rw [e] at hd
      exact Nat.le_of_ble_eq_true hd
  · cases h

theorem cOpers_get {nt : Nat} {ops : List Oper} : ∀ {l : List Oper} {m : List AOper}, cOpers P nt ops l = some m → m.length = l.length ∧
    ∀ (i : Nat) (o : Oper), l[i]? = some o → ∃ ao, m[i]? = some ao ∧ cOper P nt ops o = some ao
  | [], m, h => by simp only [cOpers, Option.some.injEq] at h; subst h; exact ⟨rfl, fun i o e => by simp at e⟩
  | x :: l, m, h => by
    simp only [cOpers] at h
    split at h
    · rename_i y m' h1 h2
      cases h
      obtain ⟨h3, h4⟩ := cOpers_get h2
      refine ⟨by simp [h3], ?_⟩
      intro i o e
      cases i with
      | zero => simp at e; subst e; exact ⟨y, by simp, h1⟩
      | succ i => simpa using h4 i o (by simpa using e)
    · cases h

theorem not_bool {φ : Mp} {x : AV} {b : Bool} (h : VR φ x (.bool b)) : x = .bool b := by
  cases x <;> simp only [VR] at h <;> first
    | (cases h; rfl)
    | (cases h; done)
    | (obtain ⟨_, _, h⟩ := h; cases h; done)
    | (obtain ⟨_, _, _, _, h, _⟩ := h; cases h; done)
    | (obtain ⟨_, _, h, _⟩ := h; cases h; done)
    | (obtain ⟨_, h, _⟩ := h; cases h; done)

theorem wanted_rel (hF : FR φ tm a) {ops : Array Oper} (hg : gTmp ops.toList o.guard = some ao.guard) : Region.wanted o (yielded ops a.tmps) = wanted tm ao.guard := by
  unfold Region.wanted
  unfold gTmp at hg
  cases hgd : o.guard with
  | none =>
    rw [hgd] at hg
    simp only [Option.some.injEq] at hg
    rw [← hg]
    rfl
  | some jb =>
    obtain ⟨j, b⟩ := jb
    rw [hgd] at hg
    simp only at hg
    split at hg
    · rename_i p hp
      split at hg
      · rename_i d hd
        simp only [Option.some.injEq] at hg
        rw [← hg]
        have hp' : ops[j]? = some p := by simpa using hp
        have hv := hF d
        simp only [wanted, yielded, hp', Option.bind_some, hd]
        cases ht : a.tmps[d]? with
        | none =>
          have e : a.tmps.getD d undef = undef := by simp [Array.getD_eq_getD_getElem?, ht]
          rw [e] at hv
          cases hx : ev tm (.t d) with
          | bool c => rw [hx] at hv; simp only [VR] at hv; cases hv
          | _ => rfl
        | some x =>
          have e : a.tmps.getD d undef = x := by simp [Array.getD_eq_getD_getElem?, ht]
          rw [e] at hv
          cases x with
          | bool c =>
            rw [not_bool hv]
            cases c <;> cases b <;> rfl
          | _ =>
            cases hx : ev tm (.t d) with
            | bool c => rw [hx] at hv; simp only [VR] at hv; cases hv
            | _ => rfl
      · cases hg
    · cases hg

theorem ofExt_go {x : Option (AV × AH)} (h : ofExt x = .go v H') : x = some (v, H') := by
  cases x with
  | none => cases h
  | some y => cases h; rfl

theorem ofOut_go {x : Option Out} (h : ofOut x = .go v H') : x = some (.call (.ret v) H') := by
  unfold ofOut at h
  split at h
  · cases h; rfl
  · cases h
  · cases h

theorem ofOut_pan {x : Option Out} (h : ofOut x = .pan v H') : x = some (.call (.pan v) H') := by
  unfold ofOut at h
  split at h
  · cases h
  · cases h; rfl
  · cases h

theorem ofOut_rest {x : Option Out} : (∃ v H', ofOut x = .go v H') ∨ (∃ v H', ofOut x = .pan v H') ∨ ofOut x = .fail := by
  unfold ofOut
  split
  · exact .inl ⟨_, _, rfl⟩
  · exact .inr (.inl ⟨_, _, rfl⟩)
  · exact .inr (.inr rfl)

theorem ofExt_rest {x : Option (AV × AH)} : (∃ v H', ofExt x = .go v H') ∨ ofExt x = .fail := by
  cases x with
  | none => exact .inr rfl
  | some y => exact .inl ⟨_, _, rfl⟩

/-- A call that returns or panics. -/
theorem upon_call (hi : IHC P ih) {f : Nat} {as : List AV} {args : List Value} {r : ARes} (hR : R P.globals.size φ H w) (hv : VRs φ as args) (h : ih (.call f as H) = some (.call r H'))
    (hK : ∀ ψ u v' w', r = .ret u → R P.globals.size ψ H' w' → Nx φ H w ψ H' w' → VR ψ u v' → K (a.put o.dst v') w')
    (hQ : ∀ ψ u v' w', r = .pan u → R P.globals.size ψ H' w' → Nx φ H w ψ H' w' → VR ψ u v' → Q (.panic [{ v := v', recovered := false }]) a w') :
    o.upon P a K Q ((callFunc f ⟨args⟩).run P w) := by
  obtain ⟨he, hc⟩ := hi f as H r H' h
  rw [run_callFunc he, Oper.upon_enter]
  refine (hc φ w args hR hv).mono ?_
  intro e w' hp
  cases e with
  | returned v' =>
    obtain ⟨ψ, u, h1, h2, h3, h4⟩ := hp
    exact hK ψ u v' w' h1 h2 h3 h4
  | panicked chain =>
    obtain ⟨ψ, u, v', h1, h2, h3, h4, h5⟩ := hp
    subst h2
    exact hQ ψ u v' w' h1 h3 h4 h5
  | outgrown => exact hp.elim

theorem oper_go (hC : CtxOK P C) (hi : IHC P ih) (hR : R P.globals.size φ H w) (hF : FR φ tm a) (hc : ao.op = .bad ∨ cop P o = some ao.op) (hs : follow C ih H (aop C tm H ao.op) = .go v H')
    (hK : ∀ ψ v' w', R P.globals.size ψ H' w' → Nx φ H w ψ H' w' → VR ψ v v' → K (a.put o.dst v') w') : o.wp P a w K Q := by
  rcases hc with hc | hc
  · rw [hc] at hs
    simp [aop, follow] at hs
  cases hv : aop C tm H ao.op with
  | val v1 H1 =>
    rw [hv] at hs
    simp only [follow] at hs
    cases hs
    obtain ⟨ψ, v', w', hy, h1, h2, h3⟩ := aop_val hC hR hF hc hv
    unfold Oper.wp
    rcases hy with hy | ⟨hy, rfl⟩ <;> rw [hy] <;> exact hK ψ _ w' h1 h2 h3
  | call f as =>
    rw [hv] at hs
    have hs := ofOut_go hs
    obtain ⟨args, h1, h2⟩ := aop_call hR hF hc hv
    unfold Oper.wp
    rw [h1]
    exact upon_call hi hR h2 hs (fun ψ u v' w' e h3 h4 h5 => by cases e; exact hK ψ v' w' h3 h4 h5) (fun ψ u v' w' e => by cases e)
  | xcall f as =>
    rw [hv] at hs
    have hs := ofExt_go hs
    obtain ⟨args, h1, h2⟩ := aop_xcall hR hF hc hv
    obtain ⟨ψ, v', w', h3, h4, h5, h6⟩ := hC.ext f as H v H' hs φ w args hR h2
    unfold Oper.wp
    rw [h1, h3]
    exact hK ψ v' w' h4 h5 h6
  | icall t u m as =>
    rw [hv] at hs
    simp only [follow] at hs
    split at hs
    · rename_i f r hm
      obtain ⟨u', args, h1, h2, h3⟩ := aop_icall hR hF hc hv
      obtain ⟨r', h4, h5⟩ := hC.meth t u m f r hm φ H w u' hR h2
      have hargs : VRs φ (r :: as) (r' :: args) := by
        simp only [VRs]
        exact ⟨r', args, rfl, h5, h3⟩
      unfold Oper.wp
      rw [h1, run_callMethod h4]
      split at hs
      · obtain ⟨ψ, v', w', g3, g4, g5, g6⟩ := hC.ext f _ H v H' (ofExt_go hs) φ w _ hR hargs
        rw [g3]
        exact hK ψ v' w' g4 g5 g6
      · exact upon_call hi hR hargs (ofOut_go hs) (fun ψ u v' w' e h3 h4 h5 => by cases e; exact hK ψ v' w' h3 h4 h5) (fun ψ u v' w' e => by cases e)
    · cases hs
  | dfr f as => rw [hv] at hs; cases hs
  | pan u => rw [hv] at hs; cases hs
  | rcv => rw [hv] at hs; cases hs
  | fail => rw [hv] at hs; cases hs

theorem oper_pan (hC : CtxOK P C) (hi : IHC P ih) (hR : R P.globals.size φ H w) (hF : FR φ tm a) (hc : ao.op = .bad ∨ cop P o = some ao.op) (hs : follow C ih H (aop C tm H ao.op) = .pan v H')
    (hQ : ∀ ψ v' w', R P.globals.size ψ H' w' → Nx φ H w ψ H' w' → VR ψ v v' → Q (.panic [{ v := v', recovered := false }]) a w') : o.wp P a w K Q := by
  rcases hc with hc | hc
  · rw [hc] at hs
    simp [aop, follow] at hs
  cases hv : aop C tm H ao.op with
  | val v1 H1 => rw [hv] at hs; cases hs
  | call f as =>
    rw [hv] at hs
    have hs := ofOut_pan hs
    obtain ⟨args, h1, h2⟩ := aop_call hR hF hc hv
    unfold Oper.wp
    rw [h1]
    exact upon_call hi hR h2 hs (fun ψ u v' w' e => by cases e) (fun ψ u v' w' e h3 h4 h5 => by cases e; exact hQ ψ v' w' h3 h4 h5)
  | xcall f as =>
    rw [hv] at hs
    simp only [follow] at hs
    rcases ofExt_rest (x := C.ext f as H) with ⟨_, _, e⟩ | e <;> rw [e] at hs <;> cases hs
  | icall t u m as =>
    rw [hv] at hs
    simp only [follow] at hs
    split at hs
    · rename_i f r hm
      obtain ⟨u', args, h1, h2, h3⟩ := aop_icall hR hF hc hv
      obtain ⟨r', h4, h5⟩ := hC.meth t u m f r hm φ H w u' hR h2
      have hargs : VRs φ (r :: as) (r' :: args) := by
        simp only [VRs]
        exact ⟨r', args, rfl, h5, h3⟩
      unfold Oper.wp
      rw [h1, run_callMethod h4]
      split at hs
      · rcases ofExt_rest (x := C.ext f (r :: as) H) with ⟨_, _, e⟩ | e <;> rw [e] at hs <;> cases hs
      · exact upon_call hi hR hargs (ofOut_pan hs) (fun ψ u v' w' e => by cases e) (fun ψ u v' w' e h3 h4 h5 => by cases e; exact hQ ψ v' w' h3 h4 h5)
    · cases hs
  | dfr f as => rw [hv] at hs; cases hs
  | pan u =>
    rw [hv] at hs
    cases hs
    obtain ⟨v', h1, h2⟩ := aop_pan hR hF hc hv
    unfold Oper.wp
    rw [h1]
    exact hQ φ v' w hR (Nx.refl φ H w) h2
  | rcv => rw [hv] at hs; cases hs
  | fail => rw [hv] at hs; cases hs

theorem follow_dfr {x : ORes} {f : Nat} {as : List AV} (hs : follow C ih H x = .dfr f as) : x = .dfr f as := by
  cases x with
  | dfr g bs => simp only [follow] at hs; cases hs; rfl
  | call g bs =>
    simp only [follow] at hs
    rcases ofOut_rest (x := ih (.call g bs H)) with ⟨_, _, e⟩ | ⟨_, _, e⟩ | e <;> rw [e] at hs <;> cases hs
  | xcall g bs =>
    simp only [follow] at hs
    rcases ofExt_rest (x := C.ext g bs H) with ⟨_, _, e⟩ | e <;> rw [e] at hs <;> cases hs
  | icall t u m bs =>
    simp only [follow] at hs
    split at hs
    · split at hs
      · rename_i g r _ _
        rcases ofExt_rest (x := C.ext g (r :: bs) H) with ⟨_, _, e⟩ | e <;> rw [e] at hs <;> cases hs
      · rename_i g r _ _
        rcases ofOut_rest (x := ih (.call g (r :: bs) H)) with ⟨_, _, e⟩ | ⟨_, _, e⟩ | e <;> rw [e] at hs <;> cases hs
    · cases hs
  | val _ _ => simp only [follow] at hs; cases hs
  | pan _ => simp only [follow] at hs; cases hs
  | rcv => simp only [follow] at hs; cases hs
  | fail => simp only [follow] at hs; cases hs

theorem follow_rcv {x : ORes} (hs : follow C ih H x = .rcv) : x = .rcv := by
  cases x with
  | rcv => rfl
  | call g bs =>
    simp only [follow] at hs
    rcases ofOut_rest (x := ih (.call g bs H)) with ⟨_, _, e⟩ | ⟨_, _, e⟩ | e <;> rw [e] at hs <;> cases hs
  | xcall g bs =>
    simp only [follow] at hs
    rcases ofExt_rest (x := C.ext g bs H) with ⟨_, _, e⟩ | e <;> rw [e] at hs <;> cases hs
  | icall t u m bs =>
    simp only [follow] at hs
    split at hs
    · split at hs
      · rename_i g r _ _
        rcases ofExt_rest (x := C.ext g (r :: bs) H) with ⟨_, _, e⟩ | e <;> rw [e] at hs <;> cases hs
      · rename_i g r _ _
        rcases ofOut_rest (x := ih (.call g (r :: bs) H)) with ⟨_, _, e⟩ | ⟨_, _, e⟩ | e <;> rw [e] at hs <;> cases hs
    · cases hs
  | val _ _ => simp only [follow] at hs; cases hs
  | pan _ => simp only [follow] at hs; cases hs
  | dfr _ _ => simp only [follow] at hs; cases hs
  | fail => simp only [follow] at hs; cases hs

theorem oper_dfr (hR : R P.globals.size φ H w) (hF : FR φ tm a) (hc : ao.op = .bad ∨ cop P o = some ao.op) {f : Nat} {as : List AV} (hs : follow C ih H (aop C tm H ao.op) = .dfr f as)
    (hK : ∀ cap args : List Value, VRs φ as (args ++ cap) → K (({ a with defers := { target := .fn (.func f) ⟨cap⟩, args := ⟨args⟩ } :: a.defers } : Act).put o.dst undef) w) : o.wp P a w K Q := by
  rcases hc with hc | hc
  · rw [hc] at hs
    simp [aop, follow] at hs
  have hs := follow_dfr hs
  obtain ⟨cap, args, h1, h2⟩ := aop_dfr hR hF hc hs
  unfold Oper.wp
  rw [h1]
  exact hK cap args h2

theorem oper_rcv (hc : ao.op = .bad ∨ cop P o = some ao.op) (hs : follow C ih H (aop C tm H ao.op) = .rcv) : (execOp a.eval o).run P w = .ok .recover w := by
  rcases hc with hc | hc
  · rw [hc] at hs
    simp [aop, follow] at hs
  exact aop_rcv hc (follow_rcv hs)
end
end Go.Vd
