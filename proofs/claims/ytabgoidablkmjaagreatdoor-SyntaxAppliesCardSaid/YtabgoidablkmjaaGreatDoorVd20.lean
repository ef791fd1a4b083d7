/- Plain regions. -/
import Derived.Test.YtabgoidablkmjaaGreatDoorVd19
import Derived.Scope
import Derived.Orders
set_option linter.unusedVariables false
set_option linter.unusedSimpArgs false
namespace Go.Vd

def DfR (φ : Mp) : List (Nat × List AV) → List Deferred → Prop
  | [], ds => ds = []
  | (f, as) :: l, ds => ∃ (cap args : List Value) (rest : List Deferred), ds = { target := .fn (.func f) ⟨cap⟩, args := ⟨args⟩ } :: rest ∧ VRs φ as (args ++ cap) ∧ DfR φ l rest

theorem DfR.mono {φ ψ : Mp} (h : Le φ ψ) : ∀ {l : List (Nat × List AV)} {ds : List Deferred}, DfR φ l ds → DfR ψ l ds
  | [], _, e => e
  | (f, as) :: l, _, e => by
    simp only [DfR] at e ⊢
    obtain ⟨cap, args, rest, h1, h2, h3⟩ := e
    exact ⟨cap, args, rest, h1, h2.mono h, DfR.mono h h3⟩

structure SR (P : Program) (nt : Nat) (φ : Mp) (s : ASt) (a : Act) (w : World) : Prop where
  fr : FR φ s.tm a
  df : DfR φ s.df a.defers
  r : R P.globals.size φ s.hp w
  sz : nt ≤ a.tmps.size

/-- How code is left. -/
def ExR (P : Program) (nt : Nat) (ks : List Nat) (φ : Mp) : AEx → ASt → Exit → Act → World → Prop
  | .normal, s, ex, a, w => ex = .normal ∧ SR P nt φ s a w
  | .exit id, s, ex, a, w => ex = .exit id ∧ SR P nt φ s a w
  | .ret, s, ex, a, w => ex = .ret ∧ SR P nt φ s a w
  | .pan v, s, ex, a, w => ∃ v', ex = .panic [{ v := v', recovered := false }] ∧ VR φ v v' ∧ (∀ t ∈ ks, VR φ (ev s.tm (.t t)) (a.tmps.getD t undef)) ∧ DfR φ s.df a.defers ∧
      R P.globals.size φ s.hp w

/-- What is asked of whatever comes behind. -/
def Post (P : Program) (nt : Nat) (ks : List Nat) (φ : Mp) (s : ASt) (w : World) (e : AEx) (s' : ASt) (Q : Exit → Act → World → Prop) : Prop :=
  ∀ ψ ex a' w', ExR P nt ks ψ e s' ex a' w' → Nx φ s.hp w ψ s'.hp w' → Q ex a' w'

theorem Post.nx {P : Program} {nt : Nat} {ks : List Nat} {φ ψ : Mp} {s s1 s' : ASt} {w w1 : World} {e : AEx} {Q : Exit → Act → World → Prop} (h : Post P nt ks φ s w e s' Q)
    (hn : Nx φ s.hp w ψ s1.hp w1) : Post P nt ks ψ s1 w1 e s' Q := fun χ ex a' w' hx hn' => h χ ex a' w' hx (hn.trans hn')

theorem ev_set {tm : Tr AV} {d t : Nat} {v : AV} : ev (tm.set d v) (.t t) = if t = d then v else ev tm (.t t) := by
  simp only [ev, Tr.get_set]
  split
  · rename_i x hx
    split at hx
    · rename_i e; cases hx; simp [e]
    · rename_i e; simp [e, hx]
  · rename_i hx
    split at hx
    · cases hx
    · rename_i e; simp [e, hx]

theorem getD_put {a : Act} {d t : Nat} {v : Value} (hd : d < a.tmps.size) : (a.put (some d) v).tmps.getD t undef = if t = d then v else a.tmps.getD t undef := by
  simp only [Act.put, Array.getD_eq_getD_getElem?, Array.getElem?_setIfInBounds]
  by_cases h : d = t
  · subst h
    simp [hd]
  · have : ¬ t = d := fun e => h e.symm
    simp [h, this]

section
variable {P : Program} {φ : Mp} {H H' : AH} {w : World} {tm : Tr AV} {a : Act} {o : Oper} {ao : AOper} {C : Ctx} {ih : Task → Option Out} {v : AV} {v' : Value} {nt : Nat}

theorem FR.put (hF : FR φ tm a) (hv : VR φ v v') {dst : Option Nat} (hd : ∀ d, dst = some d → d < a.tmps.size) : FR φ (putT tm dst v) (a.put dst v') := by
  cases dst with
  | none => exact hF
  | some d =>
    intro t
    simp only [putT]
    rw [ev_set, getD_put (hd d rfl)]
    split
    · exact hv
    · exact hF t

theorem put_size (a : Act) (dst : Option Nat) (v : Value) : (a.put dst v).tmps.size = a.tmps.size := by
  cases dst <;> simp [Act.put]

theorem put_defers (a : Act) (dst : Option Nat) (v : Value) : (a.put dst v).defers = a.defers := by
  cases dst <;> simp [Act.put]

theorem VR.und : VR φ AV.und undef := by
  simp only [AV.und, VR, VRs]
  exact ⟨[], rfl, rfl⟩

theorem VR.und' {v' : Value} (h : v' = undef) : VR φ AV.und v' := h ▸ VR.und

/-- One operation of a plain region. -/
theorem ops_sound (hC : CtxOK P C) (hi : IHC P ih) {ops : Array Oper} {ks : List Nat} {Q : Exit → Act → World → Prop} : ∀ (l : List AOper) (is : List Nat), is.length = l.length →
    (∀ (j i : Nat) (ao : AOper), is[j]? = some i → l[j]? = some ao → ∃ o, ops[i]? = some o ∧ cOper P nt ops.toList o = some ao) →
    ∀ (φ : Mp) (s : ASt) (a : Act) (w : World) (e : AEx) (s' : ASt), opsR C ih l s = some (e, s') → SR P nt φ s a w → Post P nt ks φ s w e s' Q → wpOps P ops Q is a w
  | [], is, hl, _, φ, s, a, w, e, s', hs, hS, hQ => by
    have : is = [] := List.length_eq_zero_iff.1 hl
    subst this
    simp only [opsR] at hs
    cases hs
    simp only [wpOps]
    exact hQ φ _ a w ⟨rfl, hS⟩ (Nx.refl φ _ w)
  | ao :: l, [], hl, _, φ, s, a, w, e, s', hs, hS, hQ => by simp at hl
  | ao :: l, i :: is, hl, hcs, φ, s, a, w, e, s', hs, hS, hQ => by
    obtain ⟨o, ho, hco⟩ := hcs 0 i ao (by simp) (by simp)
    obtain ⟨h1, h2, h3, h4⟩ := cOper_spec hco
    have hw := wanted_rel (ao := ao) hS.fr h3
    have hd : ∀ d, o.dst = some d → d < a.tmps.size := fun d e => Nat.lt_of_lt_of_le (h4 d e) hS.sz
    have hrec := ops_sound hC hi (Q := Q) (ks := ks) l is (by simpa using hl) (fun j i ao e1 e2 => hcs (j + 1) i ao (by simpa using e1) (by simpa using e2))
    have hgo : ∀ (v : AV) (H : AH) (ψ : Mp) (v' : Value) (w' : World), opsR C ih l ⟨putT s.tm ao.dst v, s.df, H⟩ = some (e, s') → R P.globals.size ψ H w' → Nx φ s.hp w ψ H w' → VR ψ v v' →
        wpOps P ops Q is (a.put o.dst v') w' := by
      intro v H ψ v' w' hs' hR hn hv
      refine hrec ψ _ _ w' e s' hs' ⟨?_, ?_, hR, ?_⟩ (hQ.nx (s1 := ⟨putT s.tm ao.dst v, s.df, H⟩) hn)
      · rw [h1]
        exact (hS.fr.mono hn.le).put hv hd
      · rw [put_defers]
        exact hS.df.mono hn.le
      · rw [put_size]
        exact hS.sz
    rw [wpOps_cons]
    unfold wpOp
    simp only [ho]
    simp only [opsR, astep] at hs
    split
    · rename_i hwt
      rw [hw] at hwt
      simp only [hwt, if_true] at hs
      left
      split at hs
      · rename_i v H hf
        exact oper_go hC hi hS.r hS.fr h2 hf fun ψ v' w' g1 g2 g3 => hgo v H ψ v' w' hs g1 g2 g3
      · rename_i f as hf
        refine oper_dfr hS.r hS.fr h2 hf fun cap args hv => ?_
        refine hrec φ _ _ w e s' hs ⟨?_, ?_, hS.r, ?_⟩ (hQ.nx (s1 := ⟨putT s.tm ao.dst .und, (f, as) :: s.df, s.hp⟩) (Nx.refl φ s.hp w))
        · rw [h1]
          exact FR.put (a := ({ a with defers := _ :: a.defers } : Act)) (fun t => hS.fr t) VR.und hd
        · rw [put_defers]
          exact ⟨cap, args, a.defers, rfl, hv, hS.df⟩
        · rw [put_size]
          exact hS.sz
      · rename_i v H hf
        cases hs
        refine oper_pan hC hi hS.r hS.fr h2 hf fun ψ v' w' g1 g2 g3 => ?_
        exact hQ ψ _ a w' ⟨v', rfl, g3, fun t _ => (hS.fr.mono g2.le) t, hS.df.mono g2.le, g1⟩ g2
      · cases hs
    · rename_i hwt
      rw [hw] at hwt
      simp only [hwt, if_false, Bool.false_eq_true] at hs
      exact hgo _ _ φ undef w hs hS.r (Nx.refl φ s.hp w) VR.und

theorem region_sound (hC : CtxOK P C) (hi : IHC P ih) {id : Nat} {ops : Array Oper} {as : List AOper} {ks : List Nat} {Q : Exit → Act → World → Prop} (hc : cOpers P nt ops.toList ops.toList = some as)
    {s : ASt} {e : AEx} {s' : ASt} (hs : opsR C ih as s = some (e, s')) (hS : SR P nt φ s a w) (hQ : Post P nt ks φ s w e s' Q) : (Code.region id ops false).wp P Q a w := by
  refine wp_region (ops_sound hC hi as _ ?_ ?_ φ s a w e s' hs hS hQ)
  · simp [(cOpers_get hc).1]
  · intro j i ao h1 h2
    have hj : j < ops.size := by
      rcases Nat.lt_or_ge j ops.size with h | h
      · exact h
      · rw [List.getElem?_eq_none (by simpa using h)] at h1; cases h1
    have : i = j := by
      rw [List.getElem?_range hj] at h1
      cases h1; rfl
    subst this
    have ho : ops.toList[i]? = some ops[i] := by simp [hj]
    obtain ⟨ao', h3, h4⟩ := (cOpers_get hc).2 i _ ho
    rw [h2] at h3
    cases h3
    exact ⟨ops[i], by simp [hj], h4⟩
end
end Go.Vd
