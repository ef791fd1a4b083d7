/- Code. -/
import Derived.Test.YtabgoidablkmjaaGreatDoorVd23
set_option linter.unusedVariables false
set_option linter.unusedSimpArgs false
namespace Go.Vd

/-- A loop, ahead of a round. -/
def LoopI (P : Program) (c : Code) (Q : Exit → Act → World → Prop) (a : Act) (w : World) : Prop :=
  ∀ (b : Frame) (k : List Item) (cs : List Frame), ∃ e a' w', Q e a' w' ∧ Arrives P (lone (b.at a (.code c :: .inLoop c :: k)) cs w) b k cs e a' w'

section
variable {P : Program} {Q : Exit → Act → World → Prop} {a : Act} {w : World} {c : Code}

theorem loopI_round (h : c.wp P (Exit.then (LoopI P c Q) Q) a w) : LoopI P c Q a w := by
  intro b k cs
  obtain ⟨e, a₁, w₁, hq, harr⟩ := h b (.inLoop c :: k) cs
  cases e with
  | normal =>
    obtain ⟨e₂, a₂, w₂, hq₂, harr₂⟩ := hq b k cs
    exact ⟨e₂, a₂, w₂, hq₂, .of_steps (Steps.trans harr (.one step_inLoop)) harr₂⟩
  | exit id => exact ⟨_, a₁, w₁, hq, .pass (x := .inLoop c) rfl (fun _ _ => .inl (by simp)) harr⟩
  | goto l => exact ⟨_, a₁, w₁, hq, .pass (x := .inLoop c) rfl (fun _ _ => .inl (by simp)) harr⟩
  | ret => exact ⟨_, a₁, w₁, hq, .pass (x := .inLoop c) rfl (fun _ _ => .inl (by simp)) harr⟩
  | panic ch => exact ⟨_, a₁, w₁, hq, .pass (x := .inLoop c) rfl (fun _ _ => .inl (by simp)) harr⟩
  | outgrown => exact ⟨_, a₁, w₁, hq, .pass (x := .inLoop c) rfl (fun _ _ => .inl (by simp)) harr⟩

theorem wp_loopI (h : LoopI P c Q a w) : (Code.loop c).wp P Q a w := by
  intro b k cs
  obtain ⟨e, a', w', hq, harr⟩ := h b k cs
  exact ⟨e, a', w', hq, .of_steps (.one step_loop) harr⟩
end

/-- Loops that the evaluator follows are sound. -/
def IHL (P : Program) (ih : Task → Option Out) : Prop :=
  ∀ (c : AC) (s : ASt) (e : AEx) (s' : ASt), ih (.code (.loop c) s) = some (.code e s') → ∀ (nt : Nat) (K : List Nat) (b : Code), ccode P nt K b = some c →
    ∀ (φ : Mp) (a : Act) (w : World), SR P nt φ s a w → ∀ Q, Post P nt K φ s w e s' Q → LoopI P b Q a w

section
variable {P : Program} {C : Ctx} {ih : Task → Option Out} {nt : Nat} {K : List Nat}

theorem VR.bool_of {φ : Mp} {t : Bool} {v : Value} (h : VR φ (.bool t) v) : v = .bool t := by simpa only [VR] using h

theorem exec_sound (hC : CtxOK P C) (hi : IHC P ih) (hl : IHL P ih) (hm : P.follows .mixedOrders = true) : ∀ (b : Code) (c : AC), ccode P nt K b = some c → ∀ (s : ASt) (e : AEx) (s' : ASt),
    exec C ih c s = some (e, s') → ∀ (φ : Mp) (a : Act) (w : World), SR P nt φ s a w → ∀ Q, Post P nt K φ s w e s' Q → b.wp P Q a w
  | .skip, c, hc, s, e, s', hs, φ, a, w, hS, Q, hQ => by
    simp only [ccode, Option.some.injEq] at hc
    subst hc
    simp only [exec] at hs
    cases hs
    exact wp_skip (hQ φ _ a w ⟨rfl, hS⟩ (Nx.refl φ _ w))
  | .region id ops d, c, hc, s, e, s', hs, φ, a, w, hS, Q, hQ => by
    simp only [ccode] at hc
    split at hc
    · rename_i as has
      cases d with
      | true =>
        simp only [if_true, Option.some.injEq] at hc
        subst hc
        exact draw_sound hC hi hm has hs hS hQ
      | false =>
        simp only [Bool.false_eq_true, if_false, Option.some.injEq] at hc
        subst hc
        simp only [exec] at hs
        exact region_sound hC hi has hs hS hQ
    · cases hc
  | .seq x y, c, hc, s, e, s', hs, φ, a, w, hS, Q, hQ => by
    simp only [ccode] at hc
    split at hc
    · rename_i cx cy hx hy
      cases hc
      refine wp_seq ?_
      simp only [exec] at hs
      split at hs
      · rename_i s1 h1
        refine exec_sound hC hi hl hm x cx hx s .normal s1 h1 φ a w hS _ ?_
        intro ψ ex a' w' hex hn
        obtain ⟨rfl, hS'⟩ := hex
        exact exec_sound hC hi hl hm y cy hy s1 e s' hs ψ a' w' hS' Q (hQ.nx hn)
      · rename_i hne
        refine exec_sound hC hi hl hm x cx hx s e s' hs φ a w hS _ ?_
        intro ψ ex a' w' hex hn
        have h := hQ ψ ex a' w' hex hn
        cases e with
        | normal => exact absurd hs (hne s')
        | exit id => obtain ⟨rfl, _⟩ := hex; exact h
        | ret => obtain ⟨rfl, _⟩ := hex; exact h
        | pan v => obtain ⟨v', rfl, _⟩ := hex; exact h
    · cases hc
  | .cond z x y, c, hc, s, e, s', hs, φ, a, w, hS, Q, hQ => by
    simp only [ccode] at hc
    split at hc
    · rename_i cz cx cy hz hx hy
      cases hc
      have hrel := opd_rel hS.r hS.fr hz
      simp only [exec] at hs
      split at hs
      · rename_i hb
        rw [hb] at hrel
        exact wp_cond_true hrel.bool_of (exec_sound hC hi hl hm x cx hx s e s' hs φ a w hS Q hQ)
      · rename_i hb
        rw [hb] at hrel
        exact wp_cond_false hrel.bool_of (exec_sound hC hi hl hm y cy hy s e s' hs φ a w hS Q hQ)
      · cases hs
    · cases hc
  | .block id x, c, hc, s, e, s', hs, φ, a, w, hS, Q, hQ => by
    simp only [ccode] at hc
    split at hc
    · rename_i cx hx
      cases hc
      refine wp_block ?_
      simp only [exec] at hs
      split at hs
      · rename_i j s1 h1
        refine exec_sound hC hi hl hm x cx hx s (.exit j) s1 h1 φ a w hS _ ?_
        intro ψ ex a' w' hex hn
        obtain ⟨rfl, hS'⟩ := hex
        simp only [Exit.inBlock]
        by_cases hj : j = id
        · subst hj
          simp only [Nat.beq_refl, if_true, Option.some.injEq, Prod.mk.injEq] at hs
          obtain ⟨rfl, rfl⟩ := hs
          simp only [if_true]
          exact hQ ψ _ a' w' ⟨rfl, hS'⟩ hn
        · have hb : Nat.beq j id = false := by
            cases hb : Nat.beq j id with
            | false => rfl
            | true => exact absurd (Nat.eq_of_beq_eq_true hb) hj
          simp only [hb, Bool.false_eq_true, if_false, Option.some.injEq, Prod.mk.injEq] at hs
          obtain ⟨rfl, rfl⟩ := hs
          simp only [hj, if_false]
          exact hQ ψ _ a' w' ⟨rfl, hS'⟩ hn
      · rename_i hne
        refine exec_sound hC hi hl hm x cx hx s e s' hs φ a w hS _ ?_
        intro ψ ex a' w' hex hn
        have h := hQ ψ ex a' w' hex hn
        cases e with
        | normal => obtain ⟨rfl, _⟩ := hex; exact h
        | exit j => exact absurd hs (hne j s')
        | ret => obtain ⟨rfl, _⟩ := hex; exact h
        | pan v => obtain ⟨v', rfl, _⟩ := hex; exact h
    · cases hc
  | .loop x, c, hc, s, e, s', hs, φ, a, w, hS, Q, hQ => by
    simp only [ccode] at hc
    split at hc
    · rename_i cx hx
      cases hc
      refine wp_loopI (loopI_round ?_)
      simp only [exec] at hs
      split at hs
      · rename_i s1 h1
        refine exec_sound hC hi hl hm x cx hx s .normal s1 h1 φ a w hS _ ?_
        intro ψ ex a' w' hex hn
        obtain ⟨rfl, hS'⟩ := hex
        split at hs
        · rename_i e2 s2 h2
          cases hs
          exact hl cx s1 e s' h2 nt K x hx ψ a' w' hS' Q (hQ.nx hn)
        · cases hs
      · rename_i hne
        refine exec_sound hC hi hl hm x cx hx s e s' hs φ a w hS _ ?_
        intro ψ ex a' w' hex hn
        have h := hQ ψ ex a' w' hex hn
        cases e with
        | normal => exact absurd hs (hne s')
        | exit id => obtain ⟨rfl, _⟩ := hex; exact h
        | ret => obtain ⟨rfl, _⟩ := hex; exact h
        | pan v => obtain ⟨v', rfl, _⟩ := hex; exact h
    · cases hc
  | .rangeFunc .., c, hc, s, e, s', hs, φ, a, w, hS, Q, hQ => by
    simp only [ccode, Option.some.injEq] at hc
    subst hc
    simp [exec] at hs
  | .exit id, c, hc, s, e, s', hs, φ, a, w, hS, Q, hQ => by
    simp only [ccode, Option.some.injEq] at hc
    subst hc
    simp only [exec] at hs
    cases hs
    exact wp_exit (hQ φ _ a w ⟨rfl, hS⟩ (Nx.refl φ _ w))
  | .scope x, c, hc, s, e, s', hs, φ, a, w, hS, Q, hQ => by
    simp only [ccode] at hc
    split at hc
    · rename_i cx hx
      cases hc
      simp only [exec] at hs
      refine wp_scope_straight (exec_sound hC hi hl hm x cx hx s e s' hs φ a w hS _ ?_)
      intro ψ ex a' w' hex hn
      have h := hQ ψ ex a' w' hex hn
      cases e with
      | normal => obtain ⟨rfl, _⟩ := hex; exact h
      | exit id => obtain ⟨rfl, _⟩ := hex; exact h
      | ret => obtain ⟨rfl, _⟩ := hex; exact h
      | pan v => obtain ⟨v', rfl, _⟩ := hex; exact h
    · cases hc
  | .label l, c, hc, s, e, s', hs, φ, a, w, hS, Q, hQ => by
    simp only [ccode, Option.some.injEq] at hc
    subst hc
    simp [exec] at hs
  | .goto l, c, hc, s, e, s', hs, φ, a, w, hS, Q, hQ => by
    simp only [ccode, Option.some.injEq] at hc
    subst hc
    simp [exec] at hs
  | .ret, c, hc, s, e, s', hs, φ, a, w, hS, Q, hQ => by
    simp only [ccode, Option.some.injEq] at hc
    subst hc
    simp only [exec] at hs
    cases hs
    exact wp_ret (hQ φ _ a w ⟨rfl, hS⟩ (Nx.refl φ _ w))
  | .refuse m, c, hc, s, e, s', hs, φ, a, w, hS, Q, hQ => by
    simp only [ccode, Option.some.injEq] at hc
    subst hc
    simp [exec] at hs
end
end Go.Vd
