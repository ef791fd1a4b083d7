/- Deferred functions, whole calls: the evaluator is sound. -/
import Derived.Test.YtabgoidablkmjaaGreatDoorVd25
set_option linter.unusedVariables false
set_option linter.unusedSimpArgs false
namespace Go.Vd

/-- The mode of a frame whose deferred functions run. -/
def PSR (φ : Mp) : PS → FrameMode → Prop
  | none, u => u = .returning
  | some (v, b), u => ∃ v', u = .panicking [{ v := v', recovered := b }] ∧ VR φ v v'

theorem PSR.mono {φ ψ : Mp} (h : Le φ ψ) {p : PS} {u : FrameMode} (hp : PSR φ p u) : PSR ψ p u := by
  cases p with
  | none => exact hp
  | some x =>
    obtain ⟨v', h1, h2⟩ := hp
    exact ⟨v', h1, VR.mono h _ _ h2⟩

structure FnsOK (P : Program) (C : Ctx) : Prop where
  fns : ∀ f af, C.fns f = some af → ∃ fn, P.funcs[f]? = some fn ∧ cfn P fn = some af ∧ (fn.name == "runtime.NumGoroutine") = false
  orc : ∀ f g as H r H', C.orc f = some g → g as H = some (r, H') → Enters P f ∧ ∀ φ w (args : List Value), R P.globals.size φ H w → VRs φ as args → Calls P f ⟨args⟩ w (CPost P φ H w r H')
  mix : P.follows .mixedOrders = true

section
variable {P : Program} {C : Ctx} {ih : Task → Option Out} {nt : Nat} {K : List Nat}

theorem cfn_spec {fn : Func} {af : AF} (h : cfn P fn = some af) : ∃ b, fn.body = some b ∧ ccode P fn.ntmps (keeps af.res) b = some af.code ∧ cRes P fn.results.toList = some af.res := by
  unfold cfn at h
  split at h
  · rename_i b hb
    split at h
    · rename_i r hr
      split at h
      · rename_i c hc
        cases h
        exact ⟨b, hb, hc, hr⟩
      · cases h
    · cases h
  · cases h

theorem FnsOK.enters (hf : FnsOK P C) {f : Nat} {af : AF} (h : C.fns f = some af) : Enters P f := by
  obtain ⟨fn, h1, h2, h3⟩ := hf.fns f af h
  obtain ⟨b, h4, _⟩ := cfn_spec h2
  exact ⟨fn, h1, by rw [h4]; rfl, h3⟩

theorem opsD_sound (hC : CtxOK P C) (hi : IHC P ih) {ops : Array Oper} {c₀ : Frame} {cs : List Frame} {Q : Exit → Act → List Frame → World → Prop} : ∀ (l : List AOper) (is : List Nat),
    is.length = l.length → (∀ (j i : Nat) (ao : AOper), is[j]? = some i → l[j]? = some ao → ∃ o, ops[i]? = some o ∧ cOper P nt ops.toList o = some ao) →
    ∀ (φ : Mp) (s : ASt) (p : PS) (u : FrameMode) (a : Act) (w : World) (s' : ASt) (q : PS), opsD C ih l s p = some (s', q) → SR P nt φ s a w → PSR φ p u →
      (∀ ψ a' w' u', SR P nt ψ s' a' w' → PSR ψ q u' → Nx φ s.hp w ψ s'.hp w' → Q .normal a' ({ c₀ with mode := u' } :: cs) w') → wpOpsS P ops Q is a ({ c₀ with mode := u } :: cs) w
  | [], is, hl, _, φ, s, p, u, a, w, s', q, hs, hS, hp, hQ => by
    have : is = [] := List.length_eq_zero_iff.1 hl
    subst this
    simp only [opsD] at hs
    cases hs
    simp only [wpOpsS]
    exact hQ φ a w u hS hp (Nx.refl φ _ w)
  | ao :: l, [], hl, _, φ, s, p, u, a, w, s', q, hs, hS, hp, hQ => by simp at hl
  | ao :: l, i :: is, hl, hcs, φ, s, p, u, a, w, s', q, hs, hS, hp, hQ => by
    obtain ⟨o, ho, hco⟩ := hcs 0 i ao (by simp) (by simp)
    obtain ⟨h1, h2, h3, h4⟩ := cOper_spec hco
    have hw := wanted_rel (ao := ao) hS.fr h3
    have hd : ∀ d, o.dst = some d → d < a.tmps.size := fun d e => Nat.lt_of_lt_of_le (h4 d e) hS.sz
    have hrec := opsD_sound hC hi (Q := Q) (c₀ := c₀) (cs := cs) l is (by simpa using hl) (fun j i ao e1 e2 => hcs (j + 1) i ao (by simpa using e1) (by simpa using e2))
    have hgo : ∀ (v : AV) (H : AH) (p' : PS) (u' : FrameMode) (ψ : Mp) (v' : Value) (w' : World), opsD C ih l ⟨putT s.tm ao.dst v, s.df, H⟩ p' = some (s', q) → R P.globals.size ψ H w' → Nx φ s.hp w ψ H w' →
        VR ψ v v' → PSR ψ p' u' → wpOpsS P ops Q is (a.put o.dst v') ({ c₀ with mode := u' } :: cs) w' := by
      intro v H p' u' ψ v' w' hs' hR hn hv hp'
      refine hrec ψ _ p' u' _ w' s' q hs' ⟨?_, ?_, hR, ?_⟩ hp' fun χ a2 w2 u2 g1 g2 g3 => hQ χ a2 w2 u2 g1 g2 (hn.trans g3)
      · rw [h1]
        exact (hS.fr.mono hn.le).put hv hd
      · rw [put_defers]
        exact hS.df.mono hn.le
      · rw [put_size]
        exact hS.sz
    simp only [wpOpsS, ho]
    simp only [opsD, astep] at hs
    split
    · rename_i hwt
      rw [hw] at hwt
      simp only [hwt, if_true] at hs
      split at hs
      · rename_i v H hf
        have := oper_go (o := o) (a := a) (Q := fun e a' w' => Q e a' ({ c₀ with mode := u } :: cs) w') (K := fun a' w' => wpOpsS P ops Q is a' ({ c₀ with mode := u } :: cs) w') hC hi hS.r hS.fr h2 hf
          fun ψ v' w' g1 g2 g3 => hgo v H p u ψ v' w' hs g1 g2 g3 (hp.mono g2.le)
        unfold Oper.wp at this
        generalize (execOp a.eval o).run P w = r at this ⊢
        cases r with
        | ok n w' => cases n <;> first
          | exact this
          | exact this.elim
        | halt x w' => exact this
      · rename_i hf
        rw [oper_rcv h2 hf]
        simp only
        split at hs
        · rename_i v
          obtain ⟨v', e1, e2⟩ := hp
          subst e1
          simp only [recoverD]
          exact hgo v s.hp (some (v, true)) (.panicking [{ v := v', recovered := true }]) φ v' w hs hS.r (Nx.refl φ s.hp w) e2 ⟨v', rfl, e2⟩
        · rename_i hne
          have hno : recoverD ({ c₀ with mode := u } :: cs) = none := by
            cases p with
            | none =>
              have hp : u = .returning := hp
              subst hp
              rfl
            | some x =>
              obtain ⟨v, b⟩ := x
              obtain ⟨v', e1, e2⟩ := hp
              subst e1
              cases b with
              | true => rfl
              | false => exact absurd rfl (hne v)
          rw [hno]
          simp only
          exact hgo .nili s.hp p u φ .nilIface w hs hS.r (Nx.refl φ s.hp w) (by simp [VR]) hp
      · cases hs
    · rename_i hwt
      rw [hw] at hwt
      simp only [hwt, if_false, Bool.false_eq_true] at hs
      exact hgo _ _ p u φ undef w hs hS.r (Nx.refl φ s.hp w) VR.und hp

theorem execD_exec (hC : CtxOK P C) (hi : IHC P ih) (hl : IHL P ih) (hm : P.follows .mixedOrders = true) {b : Code} {c : AC} (hc : ccode P nt K b = some c) {s : ASt} {p : PS} {e : AEx} {s' : ASt} {q : PS}
    (hx : execD C ih c s p = match exec C ih c s with
      | some (e, s') => some (e, s', p)
      | none => none) (hs : execD C ih c s p = some (e, s', q)) {φ : Mp} {a : Act} {w : World} (hS : SR P nt φ s a w) {u : FrameMode} (hp : PSR φ p u) {c₀ : Frame} {cs : List Frame}
    {Q : Exit → Act → List Frame → World → Prop}
    (hQ : ∀ ψ ex a' w' u', ExR P nt K ψ e s' ex a' w' → PSR ψ q u' → Nx φ s.hp w ψ s'.hp w' → Q ex a' ({ c₀ with mode := u' } :: cs) w') : b.wpS P Q a ({ c₀ with mode := u } :: cs) w := by
  rw [hx] at hs
  split at hs
  · rename_i e1 s1 h1
    cases hs
    exact wpS_of_wp (exec_sound hC hi hl hm b c hc s e s' h1 φ a w hS _ fun ψ ex a' w' g1 g2 => hQ ψ ex a' w' u g1 (hp.mono g2.le) g2)
  · cases hs

theorem execD_sound (hC : CtxOK P C) (hi : IHC P ih) (hl : IHL P ih) (hm : P.follows .mixedOrders = true) {c₀ : Frame} {cs : List Frame} : ∀ (b : Code) (c : AC), ccode P nt K b = some c →
    ∀ (s : ASt) (p : PS) (e : AEx) (s' : ASt) (q : PS), execD C ih c s p = some (e, s', q) → ∀ (φ : Mp) (a : Act) (w : World), SR P nt φ s a w → ∀ (u : FrameMode), PSR φ p u →
    ∀ (Q : Exit → Act → List Frame → World → Prop),
    (∀ ψ ex a' w' u', ExR P nt K ψ e s' ex a' w' → PSR ψ q u' → Nx φ s.hp w ψ s'.hp w' → Q ex a' ({ c₀ with mode := u' } :: cs) w') → b.wpS P Q a ({ c₀ with mode := u } :: cs) w
  | .region id ops d, c, hc, s, p, e, s', q, hs, φ, a, w, hS, u, hp, Q, hQ => by
    have hc0 := hc
    simp only [ccode] at hc
    split at hc
    · rename_i as has
      cases d with
      | true =>
        simp only [if_true, Option.some.injEq] at hc
        subst hc
        refine execD_exec hC hi hl hm hc0 ?_ hs hS hp hQ
        unfold cDraw
        simp only
        split <;> rfl
      | false =>
        simp only [Bool.false_eq_true, if_false, Option.some.injEq] at hc
        subst hc
        simp only [execD] at hs
        split at hs
        · rename_i s1 q1 h1
          cases hs
          refine wpS_region (opsD_sound hC hi as _ ?_ ?_ φ s p u a w s' q h1 hS hp fun ψ a' w' u' g1 g2 g3 => hQ ψ _ a' w' u' ⟨rfl, g1⟩ g2 g3)
          · simp [(cOpers_get has).1]
          · intro j i ao h1 h2
            have hj : j < ops.size := by
              rcases Nat.lt_or_ge j ops.size with h | h
              · exact h
              · rw [List.getElem?_eq_none (by simpa using h)] at h1; cases h1
            have : i = j := by
              rw [List.getElem?_range hj] at h1
              cases h1; rfl
            subst this
            have ho : ops.toList[i]? = some ops[i] := by simp [hj]
            obtain ⟨ao', h3, h4⟩ := (cOpers_get has).2 i _ ho
            rw [h2] at h3
            cases h3
            exact ⟨ops[i], by simp [hj], h4⟩
        · cases hs
    · cases hc
  | .seq x y, c, hc, s, p, e, s', q, hs, φ, a, w, hS, u, hp, Q, hQ => by
    simp only [ccode] at hc
    split at hc
    · rename_i cx cy hx hy
      cases hc
      refine wpS_seq ?_
      simp only [execD] at hs
      split at hs
      · rename_i s1 q1 h1
        refine execD_sound hC hi hl hm x cx hx s p .normal s1 q1 h1 φ a w hS u hp _ ?_
        intro ψ ex a' w' u' hex hp' hn
        obtain ⟨rfl, hS'⟩ := hex
        exact execD_sound hC hi hl hm y cy hy s1 q1 e s' q hs ψ a' w' hS' u' hp' Q fun χ ex a2 w2 u2 g1 g2 g3 => hQ χ ex a2 w2 u2 g1 g2 (hn.trans g3)
      · rename_i hne
        refine execD_sound hC hi hl hm x cx hx s p e s' q hs φ a w hS u hp _ ?_
        intro ψ ex a' w' u' hex hp' hn
        have h := hQ ψ ex a' w' u' hex hp' hn
        cases e with
        | normal => exact absurd hs (hne s' q)
        | exit id => obtain ⟨rfl, _⟩ := hex; exact h
        | ret => obtain ⟨rfl, _⟩ := hex; exact h
        | pan v => obtain ⟨v', rfl, _⟩ := hex; exact h
    · cases hc
  | .skip, c, hc, s, p, e, s', q, hs, φ, a, w, hS, u, hp, Q, hQ => by
    have hc0 := hc
    simp only [ccode, Option.some.injEq] at hc
    subst hc
    exact execD_exec hC hi hl hm hc0 rfl hs hS hp hQ
  | .cond z x y, c, hc, s, p, e, s', q, hs, φ, a, w, hS, u, hp, Q, hQ => by
    have hc0 := hc
    simp only [ccode] at hc
    split at hc
    · cases hc
      exact execD_exec hC hi hl hm hc0 rfl hs hS hp hQ
    · cases hc
  | .block id x, c, hc, s, p, e, s', q, hs, φ, a, w, hS, u, hp, Q, hQ => by
    have hc0 := hc
    simp only [ccode] at hc
    split at hc
    · cases hc
      exact execD_exec hC hi hl hm hc0 rfl hs hS hp hQ
    · cases hc
  | .loop x, c, hc, s, p, e, s', q, hs, φ, a, w, hS, u, hp, Q, hQ => by
    have hc0 := hc
    simp only [ccode] at hc
    split at hc
    · cases hc
      exact execD_exec hC hi hl hm hc0 rfl hs hS hp hQ
    · cases hc
  | .scope x, c, hc, s, p, e, s', q, hs, φ, a, w, hS, u, hp, Q, hQ => by
    have hc0 := hc
    simp only [ccode] at hc
    split at hc
    · cases hc
      exact execD_exec hC hi hl hm hc0 rfl hs hS hp hQ
    · cases hc
  | .rangeFunc .., c, hc, s, p, e, s', q, hs, φ, a, w, hS, u, hp, Q, hQ => by
    have hc0 := hc
    simp only [ccode, Option.some.injEq] at hc
    subst hc
    exact execD_exec hC hi hl hm hc0 rfl hs hS hp hQ
  | .exit _, c, hc, s, p, e, s', q, hs, φ, a, w, hS, u, hp, Q, hQ => by
    have hc0 := hc
    simp only [ccode, Option.some.injEq] at hc
    subst hc
    exact execD_exec hC hi hl hm hc0 rfl hs hS hp hQ
  | .label _, c, hc, s, p, e, s', q, hs, φ, a, w, hS, u, hp, Q, hQ => by
    have hc0 := hc
    simp only [ccode, Option.some.injEq] at hc
    subst hc
    exact execD_exec hC hi hl hm hc0 rfl hs hS hp hQ
  | .goto _, c, hc, s, p, e, s', q, hs, φ, a, w, hS, u, hp, Q, hQ => by
    have hc0 := hc
    simp only [ccode, Option.some.injEq] at hc
    subst hc
    exact execD_exec hC hi hl hm hc0 rfl hs hS hp hQ
  | .ret, c, hc, s, p, e, s', q, hs, φ, a, w, hS, u, hp, Q, hQ => by
    have hc0 := hc
    simp only [ccode, Option.some.injEq] at hc
    subst hc
    exact execD_exec hC hi hl hm hc0 rfl hs hS hp hQ
  | .refuse _, c, hc, s, p, e, s', q, hs, φ, a, w, hS, u, hp, Q, hQ => by
    have hc0 := hc
    simp only [ccode, Option.some.injEq] at hc
    subst hc
    exact execD_exec hC hi hl hm hc0 rfl hs hS hp hQ

theorem ev_tmOf : ∀ (l : List AV) (n : Nat) (T : Tr AV) (t : Nat), ev (tmOf n l T) (.t t) = if n ≤ t ∧ t < n + l.length then l.getD (t - n) .und else ev T (.t t)
  | [], n, T, t => by
    simp only [tmOf, List.length_nil, Nat.add_zero]
    rw [if_neg (by omega)]
  | x :: l, n, T, t => by
    simp only [tmOf, List.length_cons]
    rw [ev_tmOf l (n + 1), ev_set]
    by_cases h1 : t = n
    · subst h1
      rw [if_neg (by omega), if_pos rfl, if_pos (by omega)]
      simp
    · by_cases h2 : n + 1 ≤ t ∧ t < n + 1 + l.length
      · rw [if_pos h2, if_pos (by omega)]
        have : t - n = (t - (n + 1)) + 1 := by omega
        rw [this]
        simp
      · rw [if_neg h2, if_neg h1, if_neg (by omega)]

theorem enter_FR {φ : Mp} {as : List AV} {args : List Value} (h : VRs φ as args) (n : Nat) :
    FR φ (tmOf 0 as .nil) { tmps := (⟨args⟩ : Array Value) ++ Array.replicate (n - (⟨args⟩ : Array Value).size) undef, defers := [] } := by
  intro t
  rw [ev_tmOf]
  have hl := h.length
  simp only [Nat.zero_le, true_and, Nat.zero_add, Nat.sub_zero, Array.getD_eq_getD_getElem?]
  split
  · rename_i ht
    have h1 : as[t]? = some as[t] := by simp [ht]
    obtain ⟨v, h2, h3⟩ := h.get t _ h1
    have ht' : t < args.length := by omega
    rw [Array.getElem?_append_left (by simpa using ht')]
    simp only [List.getElem?_toArray, h2, Option.getD_some]
    simp only [List.getD, h1, Option.getD_some]
    exact h3
  · rename_i ht
    have ht' : args.length ≤ t := by omega
    rw [Array.getElem?_append_right (by simpa using ht')]
    have e : ev (Tr.nil : Tr AV) (.t t) = .und := rfl
    rw [e, Array.getElem?_replicate]
    split <;> exact VR.und

theorem invoke_fn {f : Nat} (he : Enters P f) (cap args : List Value) (w : World) : (invoke (.fn (.func f) ⟨cap⟩) ⟨args⟩).run P w = .ok (.enter f ⟨args ++ cap⟩) w := by
  have : (⟨args⟩ : Array Value) ++ ⟨cap⟩ = ⟨args ++ cap⟩ := by apply Array.ext'; simp
  simp only [invoke, this]
  exact run_callFunc he _

theorem leaves_sound (hf : FnsOK P C) (hC : CtxOK P C) (hi : IHC P ih) (hl : IHL P ih) {fn : Func} {tmps : Array Value} {Rr : Ending → World → Prop} {H' : AH} {q : PS} : ∀ (df : List (Nat × List AV)) (H : AH) (p : PS),
    defersR C ih df H p = some (H', q) → (∀ v, p ≠ some (v, true)) → ∀ (φ : Mp) (w : World) (ds : List Deferred) (u : FrameMode), R P.globals.size φ H w → DfR φ df ds → PSR φ p u →
      (∀ ψ w' u', R P.globals.size ψ H' w' → Nx φ H w ψ H' w' → PSR ψ q u' → (∀ v, q ≠ some (v, true)) → Leaves P fn tmps Rr [] u' w') → Leaves P fn tmps Rr ds u w
  | [], H, p, hs, hne, φ, w, ds, u, hR, hd, hp, hfin => by
    simp only [DfR] at hd
    subst hd
    simp only [defersR] at hs
    cases hs
    exact hfin φ w u hR (Nx.refl φ _ w) hp hne
  | (f, as) :: l, H, p, hs, hne, φ, w, ds, u, hR, hd, hp, hfin => by
    simp only [DfR] at hd
    obtain ⟨cap, args, rest, rfl, hv, hd⟩ := hd
    simp only [defersR] at hs
    split at hs
    · cases hs
    · rename_i af haf
      split at hs
      · rename_i e s q1 hx
        split at hs
        all_goals first
          | (cases hs; done)
          | skip
        all_goals
          rename_i hdf hres
          obtain ⟨fn', g1, g2, g3⟩ := hf.fns f af haf
          obtain ⟨b, g4, g5, g6⟩ := cfn_spec g2
          have hu : u ≠ .run := by
            cases p with
            | none => have hp : u = .returning := hp; subst hp; simp
            | some x => obtain ⟨v, b⟩ := x; obtain ⟨v', e1, _⟩ := hp; subst e1; simp
          refine leaves_cons hu (invoke_fn (hf.enters haf) cap args w) (callsD_of_wpS g1 g4 ?_)
          intro c₀ cs hmode
          have hc : ({ c₀ with mode := u } : Frame) = c₀ := by subst hmode; rfl
          rw [← hc]
          refine execD_sound hC hi hl hf.mix b af.code g5 _ p _ s q1 hx φ _ w ⟨enter_FR hv _, rfl, hR, by simp; omega⟩ u hp _ ?_
          intro ψ ex a' w' u' hex hp' hn
          obtain ⟨rfl, hS⟩ := hex
          obtain ⟨v, r1, r2⟩ := results_run hS.r g6 hres fun pr _ => hS.fr pr.1
          have hdf' : a'.defers = [] := by
            have := hS.df
            rw [hdf] at this
            exact this
          refine ⟨hdf', u', rfl, v, r1, ?_⟩
          refine leaves_sound hf hC hi hl l s.hp _ hs ?_ ψ w' rest _ hS.r (hd.mono hn.le) ?_ fun χ w2 u2 k1 k2 k3 => hfin χ w2 u2 k1 (hn.trans k2) k3
          · intro x hx
            split at hx
            · cases hx
            · rename_i hq; exact hq x hx
          · cases q1 with
            | none =>
              have hp' : u' = .returning := hp'
              subst hp'
              rfl
            | some x =>
              obtain ⟨x, bb⟩ := x
              obtain ⟨x', e1, e2⟩ := hp'
              subst e1
              cases bb with
              | true => rfl
              | false => exact ⟨x', rfl, e2⟩
      · cases hs

theorem keeps_mem : ∀ {r : List (Nat × Option (Option Nat))}, allCells r = true → ∀ p ∈ r, p.1 ∈ keeps r
  | [], _, p, hp => by cases hp
  | (t, some c) :: r, h, p, hp => by
    simp only [allCells] at h
    rcases List.mem_cons.1 hp with e | e
    · subst e; simp [keeps]
    · simp only [keeps, List.mem_cons]
      exact .inr (keeps_mem h p e)
  | (t, none) :: r, h, p, hp => by simp [allCells] at h

theorem leave_sound (hf : FnsOK P C) (hC : CtxOK P C) (hi : IHC P ih) (hl : IHL P ih) {fn : Func} {af : AF} (hres : cRes P fn.results.toList = some af.res) {s : ASt} {p : PS} {r : ARes} {H' : AH}
    (hs : leave C ih af s p = some (.call r H')) (hne : ∀ v, p ≠ some (v, true)) {φ0 : Mp} {H0 : AH} {w0 : World} {φ : Mp} {a : Act} {w : World} {u : FrameMode} (hR : R P.globals.size φ s.hp w) (hd : DfR φ s.df a.defers)
    (hp : PSR φ p u) (hn : Nx φ0 H0 w0 φ s.hp w) (hT : (p = none ∨ allCells af.res = true) → ∀ pr ∈ af.res, VR φ (ev s.tm (.t pr.1)) (a.tmps.getD pr.1 undef)) :
    Leaves P fn a.tmps (CPost P φ0 H0 w0 r H') a.defers u w := by
  unfold leave at hs
  split at hs
  · rename_i H1 hdf
    rw [Option.ite_none_right_eq_some] at hs
    obtain ⟨hc, hs⟩ := hs
    refine leaves_sound hf hC hi hl s.df s.hp p hdf hne φ w a.defers u hR hd hp ?_
    intro ψ w' u' g1 g2 g3 _
    have g3 : u' = .returning := g3
    subst g3
    have hT' := hT (by
      cases p with
      | none => exact .inl rfl
      | some x => simp at hc; exact .inr hc)
    have hfin : ∀ vs, resR s.tm H1 af.res = some vs → some (Out.call (.ret (oneOf vs)) H1) = some (.call r H') → Leaves P fn a.tmps (CPost P φ0 H0 w0 r H') [] .returning w' := by
      intro vs hvs he
      cases he
      obtain ⟨v, r1, r2⟩ := results_run (fn := fn) (tmps := a.tmps) g1 hres hvs fun pr hpr => VR.mono g2.le _ _ (hT' pr hpr)
      exact ⟨v, r1, ψ, _, rfl, g1, hn.trans g2, r2⟩
    split at hs
    · rename_i v hv
      exact hfin [v] hv hs
    · rename_i vs hvs hv
      refine hfin vs hv ?_
      have : oneOf vs = .tup vs := by
        match vs, hvs with
        | [], _ => rfl
        | [x], h => exact absurd rfl (h x)
        | x :: y :: l, _ => rfl
      rw [this]
      exact hs
    · cases hs
  · rename_i H1 v hdf
    cases hs
    refine leaves_sound hf hC hi hl s.df s.hp p hdf hne φ w a.defers u hR hd hp ?_
    intro ψ w' u' g1 g2 g3 _
    obtain ⟨v', e1, e2⟩ := g3
    subst e1
    exact ⟨ψ, v, v', rfl, rfl, g1, hn.trans g2, e2⟩
  · cases hs

theorem call_sound (hf : FnsOK P C) (hC : CtxOK P C) (hi : IHC P ih) (hl : IHL P ih) {f : Nat} {as : List AV} {H : AH} {r : ARes} {H' : AH} (hs : callR C ih f as H = some (.call r H')) :
    Enters P f ∧ ∀ φ w (args : List Value), R P.globals.size φ H w → VRs φ as args → Calls P f ⟨args⟩ w (CPost P φ H w r H') := by
  unfold callR at hs
  split at hs
  · rename_i g hg
    split at hs
    · rename_i r1 H1 hr
      cases hs
      exact hf.orc f g as H r H' hg hr
    · cases hs
  · split at hs
    · cases hs
    · rename_i af haf
      refine ⟨hf.enters haf, ?_⟩
      intro φ w args hR hv
      obtain ⟨fn, g1, g2, g3⟩ := hf.fns f af haf
      obtain ⟨b, g4, g5, g6⟩ := cfn_spec g2
      refine calls_of_wp_defers g1 g4 ?_
      have hS : SR P fn.ntmps φ ⟨tmOf 0 as .nil, [], H⟩ { tmps := (⟨args⟩ : Array Value) ++ Array.replicate (fn.ntmps - (⟨args⟩ : Array Value).size) undef, defers := [] } w :=
        ⟨enter_FR hv _, rfl, hR, by simp; omega⟩
      split at hs
      · rename_i s hx
        refine exec_sound hC hi hl hf.mix b af.code g5 _ _ s hx φ _ w hS _ ?_
        intro ψ ex a' w' hex hn
        obtain ⟨rfl, hS'⟩ := hex
        exact leave_sound hf hC hi hl g6 hs (fun v e => by cases e) hS'.r hS'.df rfl hn fun _ pr _ => hS'.fr pr.1
      · rename_i s hx
        refine exec_sound hC hi hl hf.mix b af.code g5 _ _ s hx φ _ w hS _ ?_
        intro ψ ex a' w' hex hn
        obtain ⟨rfl, hS'⟩ := hex
        exact leave_sound hf hC hi hl g6 hs (fun v e => by cases e) hS'.r hS'.df rfl hn fun _ pr _ => hS'.fr pr.1
      · rename_i v s hx
        refine exec_sound hC hi hl hf.mix b af.code g5 _ _ s hx φ _ w hS _ ?_
        intro ψ ex a' w' hex hn
        obtain ⟨v', rfl, h1, h2, h3, h4⟩ := hex
        exact leave_sound hf hC hi hl g6 hs (fun v e => by cases e) h4 h3 ⟨v', rfl, h1⟩ hn fun h pr hpr => by
          rcases h with h | h
          · cases h
          · exact h2 pr.1 (keeps_mem h pr hpr)
      · cases hs

theorem loop_sound (hf : FnsOK P C) (hC : CtxOK P C) (hi : IHC P ih) (hl : IHL P ih) {c : AC} {s : ASt} {e : AEx} {s' : ASt} (hs : exec C ih (.loop c) s = some (e, s')) {b : Code} (hc : ccode P nt K b = some c)
    {φ : Mp} {a : Act} {w : World} (hS : SR P nt φ s a w) {Q : Exit → Act → World → Prop} (hQ : Post P nt K φ s w e s' Q) : LoopI P b Q a w := by
  refine loopI_round ?_
  simp only [exec] at hs
  split at hs
  · rename_i s1 h1
    refine exec_sound hC hi hl hf.mix b c hc s .normal s1 h1 φ a w hS _ ?_
    intro ψ ex a' w' hex hn
    obtain ⟨rfl, hS'⟩ := hex
    split at hs
    · rename_i e2 s2 h2
      cases hs
      exact hl c s1 e s' h2 nt K b hc ψ a' w' hS' Q (hQ.nx hn)
    · cases hs
  · rename_i hne
    refine exec_sound hC hi hl hf.mix b c hc s e s' hs φ a w hS _ ?_
    intro ψ ex a' w' hex hn
    have h := hQ ψ ex a' w' hex hn
    cases e with
    | normal => exact absurd hs (hne s')
    | exit id => obtain ⟨rfl, _⟩ := hex; exact h
    | ret => obtain ⟨rfl, _⟩ := hex; exact h
    | pan v => obtain ⟨v', rfl, _⟩ := hex; exact h

theorem run_sound (hf : FnsOK P C) (hC : CtxOK P C) : ∀ (n : Nat), IHC P (run C n) ∧ IHL P (run C n)
  | 0 => ⟨fun f as H r H' h => by simp [run] at h, fun c s e s' h => by simp [run] at h⟩
  | n + 1 => by
    obtain ⟨hi, hl⟩ := run_sound hf hC n
    constructor
    · intro f as H r H' h
      simp only [run] at h
      exact call_sound hf hC hi hl h
    · intro c s e s' h nt K b hc φ a w hS Q hQ
      simp only [run] at h
      split at h
      · rename_i e1 s1 h1
        cases h
        exact loop_sound hf hC hi hl h1 hc hS hQ
      · cases h

/-- The evaluator's calls are the model's. -/
theorem run_calls (hf : FnsOK P C) (hC : CtxOK P C) {n f : Nat} {as : List AV} {H : AH} {r : ARes} {H' : AH} (h : run C n (.call f as H) = some (.call r H')) {φ : Mp} {w : World} {args : List Value}
    (hR : R P.globals.size φ H w) (hv : VRs φ as args) : Calls P f ⟨args⟩ w (CPost P φ H w r H') :=
  ((run_sound hf hC n).1 f as H r H' h).2 φ w args hR hv
end
end Go.Vd
