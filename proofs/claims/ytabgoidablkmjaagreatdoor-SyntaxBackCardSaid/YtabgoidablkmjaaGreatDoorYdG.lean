/- Plain regions. -/
import Derived.Test.YtabgoidablkmjaaGreatDoorYdF
import Derived.Scope
import Derived.Orders
set_option linter.unusedVariables false
set_option linter.unusedSimpArgs false
namespace Go.Vd

def DfR (φ : Mp) : List (Nat × List AV) → List Deferred → Prop
  | [], ds => ds = []
  | (f, as) :: l, ds => ∃ (cap args : List Value) (rest : List Deferred), ds = { target := .fn (.func f) ⟨cap⟩, args := ⟨args⟩ } :: rest ∧ VRs φ as (args ++ cap) ∧ DfR φ l rest

theorem DfR.mono {φ ψ : Mp} (h : Le φ ψ) : ∀ {l : List (Nat × List AV)} {ds : List Deferred}, DfR φ l ds → DfR ψ l ds
  | [], _, e => e
  | (f, as) :: l, _, e => by
    simp only [DfR] at e ⊢
    obtain ⟨cap, args, rest, h1, h2, h3⟩ := e
    exact ⟨cap, args, rest, h1, h2.mono h, DfR.mono h h3⟩

structure SR (P : Program) (nt : Nat) (φ : Mp) (s : ASt) (a : Act) (w : World) : Prop where
  fr : FR φ s.tm a
  df : DfR φ s.df a.defers
  r : R P.globals.size φ s.hp w
  sz : nt ≤ a.tmps.size

/-- How code is left. -/
def ExR (P : Program) (nt : Nat) (ks : List Nat) (φ : Mp) : AEx → ASt → Exit → Act → World → Prop
  | .normal, s, ex, a, w => ex = .normal ∧ SR P nt φ s a w
  | .exit id, s, ex, a, w => ex = .exit id ∧ SR P nt φ s a w
  | .ret, s, ex, a, w => ex = .ret ∧ SR P nt φ s a w
  | .pan v, s, ex, a, w => ∃ v', ex = .panic [{ v := v', recovered := false }] ∧ VR φ v v' ∧ (∀ t ∈ ks, VR φ (ev s.tm (.t t)) (a.tmps.getD t undef)) ∧ DfR φ s.df a.defers ∧
      R P.globals.size φ s.hp w

/-- What is asked of whatever comes behind. -/
def Post (P : Program) (nt : Nat) (ks : List Nat) (φ : Mp) (s : ASt) (w : World) (e : AEx) (s' : ASt) (Q : Exit → Act → World → Prop) : Prop :=
  ∀ ψ ex a' w', ExR P nt ks ψ e s' ex a' w' → Nx φ s.hp w ψ s'.hp w' → Q ex a' w'

theorem Post.nx {P : Program} {nt : Nat} {ks : List Nat} {φ ψ : Mp} {s s1 s' : ASt} {w w1 : World} {e : AEx} {Q : Exit → Act → World → Prop} (h : Post P nt ks φ s w e s' Q)
    (hn : Nx φ s.hp w ψ s1.hp w1) : Post P nt ks ψ s1 w1 e s' Q := fun χ ex a' w' hx hn' => h χ ex a' w' hx (hn.trans hn')

theorem ev_set {tm : Tr AV} {d t : Nat} {v : AV} : ev (tm.set d v) (.t t) = if t = d then v else ev tm (.t t) := by
  simp only [ev, Tr.get_set]
  split
  · rename_i x hx
    split at hx
    · rename_i e; cases hx; simp [e]
    · rename_i e; simp [e, hx]
  · rename_i hx
    split at hx
    · cases hx
    · rename_i e; simp [e, hx]

theorem getD_put {a : Act} {d t : Nat} {v : Value} (hd : d < a.tmps.size) : (a.put (some d) v).tmps.getD t undef = if t = d then v else a.tmps.getD t undef := by
  simp only [Act.put, Array.getD_eq_getD_getElem?, Array.getElem?_setIfInBounds]
  by_cases h : d = t
  · subst h
    simp [hd]
  · have : ¬ t = d := fun e => h e.symm
    simp [h, this]

section
variable {P : Program} {φ : Mp} {H H' : AH} {w : World} {tm : Tr AV} {a : Act} {o : Oper} {ao : AOper} {C : Ctx} {ih : Task → Option Out} {v : AV} {v' : Value} {nt : Nat}

theorem FR.put (hF : FR φ tm a) (hv : VR φ v v') {dst : Option Nat} (hd : ∀ d, dst = some d → d < a.tmps.size) : FR φ (putT tm dst v) (a.put dst v') := by
  cases dst with
  | none => exact hF
  | some d =>
    intro t
    simp only [putT]
    rw [ev_set, getD_put (hd d rfl)]
    split
    · exact hv
    · exact hF t

theorem put_size (a : Act) (dst : Option Nat) (v : Value) : (a.put dst v).tmps.size = a.tmps.size := by
  cases dst <;> simp [Act.put]

theorem put_defers (a : Act) (dst : Option Nat) (v : Value) : (a.put dst v).defers = a.defers := by
  cases dst <;> simp [Act.put]

theorem VR.und : VR φ AV.und undef := by
  simp only [AV.und, VR, VRs]
  exact ⟨[], rfl, rfl⟩

theorem VR.und' {v' : Value} (h : v' = undef) : VR φ AV.und v' := h ▸ VR.und

/-- One operation of a plain region. -/
theorem ops_sound (hC : CtxOK P C) (hi : IHC P ih) {ops : Array Oper} {ks : List Nat} {Q : Exit → Act → World → Prop} : ∀ (l : List AOper) (is : List Nat), is.length = l.length →
    (∀ (j i : Nat) (ao : AOper), is[j]? = some i → l[j]? = some ao → ∃ o, ops[i]? = some o ∧ cOper P nt ops.toList o = some ao) →
    ∀ (φ : Mp) (s : ASt) (a : Act) (w : World) (e : AEx) (s' : ASt), opsR C ih l s = some (e, s') → SR P nt φ s a w → Post P nt ks φ s w e s' Q → wpOps P ops Q is a w
  | [], is, hl, _, φ, s, a, w, e, s', hs, hS, hQ => by
    have : is = [] := List.length_eq_zero_iff.1 hl
    subst this
    simp only [opsR] at hs
    cases hs
    simp only [wpOps]
    exact hQ φ _ a w ⟨rfl, hS⟩ (Nx.refl φ _ w)
  | ao :: l, [], hl, _, φ, s, a, w, e, s', hs, hS, hQ => by simp at hl
  | ao :: l, i :: is, hl, hcs, φ, s, a, w, e, s', hs, hS, hQ => by
    obtain ⟨o, ho, hco⟩ := hcs 0 i ao (by simp) (by simp)
    obtain ⟨h1, h2, h3, h4⟩ := cOper_spec hco
    have hw := wanted_rel (ao := ao) hS.fr h3
    have hd : ∀ d, o.dst = some d → d < a.tmps.size := fun d e => Nat.lt_of_lt_of_le (h4 d e) hS.sz
    have hrec := ops_sound hC hi (Q := Q) (ks := ks) l is (by simpa using hl) (fun j i ao e1 e2 => hcs (j + 1) i ao (by simpa using e1) (by simpa using e2))
    have hgo : ∀ (v : AV) (H : AH) (ψ : Mp) (v' : Value) (w' : World), opsR C ih l ⟨putT s.tm ao.dst v, s.df, H⟩ = some (e, s') → R P.globals.size ψ H w' → Nx φ s.hp w ψ H w' → VR ψ v v' →
        wpOps P ops Q is (a.put o.dst v') w' := by
      intro v H ψ v' w' hs' hR hn hv
      refine hrec ψ _ _ w' e s' hs' ⟨?_, ?_, hR, ?_⟩ (hQ.nx (s1 := ⟨putT s.tm ao.dst v, s.df, H⟩) hn)
      · rw [h1]
        exact (hS.fr.mono hn.le).put hv hd
      · rw [put_defers]
        exact hS.df.mono hn.le
      · rw [put_size]
        exact hS.sz
    rw [wpOps_cons]
    unfold wpOp
    simp only [ho]
    simp only [opsR, astep] at hs
    split
    · rename_i hwt
      rw [hw] at hwt
      simp only [hwt, if_true] at hs
      left
      split at hs
      · rename_i v H hf
        exact oper_go hC hi hS.r hS.fr h2 hf fun ψ v' w' g1 g2 g3 => hgo v H ψ v' w' hs g1 g2 g3
      · rename_i f as hf
        refine oper_dfr hS.r hS.fr h2 hf fun cap args hv => ?_
        refine hrec φ _ _ w e s' hs ⟨?_, ?_, hS.r, ?_⟩ (hQ.nx (s1 := ⟨putT s.tm ao.dst .und, (f, as) :: s.df, s.hp⟩) (Nx.refl φ s.hp w))
        · rw [h1]
          exact FR.put (a := ({ a with defers := _ :: a.defers } : Act)) (fun t => hS.fr t) VR.und hd
        · rw [put_defers]
          exact ⟨cap, args, a.defers, rfl, hv, hS.df⟩
        · rw [put_size]
          exact hS.sz
      · rename_i v H hf
        cases hs
        refine oper_pan hC hi hS.r hS.fr h2 hf fun ψ v' w' g1 g2 g3 => ?_
        exact hQ ψ _ a w' ⟨v', rfl, g3, fun t _ => (hS.fr.mono g2.le) t, hS.df.mono g2.le, g1⟩ g2
      · cases hs
    · rename_i hwt
      rw [hw] at hwt
      simp only [hwt, if_false, Bool.false_eq_true] at hs
      exact hgo _ _ φ undef w hs hS.r (Nx.refl φ s.hp w) VR.und

theorem region_sound (hC : CtxOK P C) (hi : IHC P ih) {id : Nat} {ops : Array Oper} {as : List AOper} {ks : List Nat} {Q : Exit → Act → World → Prop} (hc : cOpers P nt ops.toList ops.toList = some as)
    {s : ASt} {e : AEx} {s' : ASt} (hs : opsR C ih as s = some (e, s')) (hS : SR P nt φ s a w) (hQ : Post P nt ks φ s w e s' Q) : (Code.region id ops false).wp P Q a w := by
  refine wp_region (ops_sound hC hi as _ ?_ ?_ φ s a w e s' hs hS hQ)
  · simp [(cOpers_get hc).1]
  · intro j i ao h1 h2
    have hj : j < ops.size := by
      rcases Nat.lt_or_ge j ops.size with h | h
      · exact h
      · rw [List.getElem?_eq_none (by simpa using h)] at h1; cases h1
    have : i = j := by
      rw [List.getElem?_range hj] at h1
      cases h1; rfl
    subst this
    have ho : ops.toList[i]? = some ops[i] := by simp [hj]
    obtain ⟨ao', h3, h4⟩ := (cOpers_get hc).2 i _ ho
    rw [h2] at h3
    cases h3
    exact ⟨ops[i], by simp [hj], h4⟩
end
end Go.Vd
namespace Go.Vd

theorem countP_lt {l : List Nat} {p q : Nat → Bool} (h : ∀ x ∈ l, p x = true → q x = true) {i : Nat} (hi : i ∈ l) (hp : p i = false) (hq : q i = true) : l.countP p < l.countP q := by
  induction l with
  | nil => cases hi
  | cons x l ih =>
    have hle : l.countP p ≤ l.countP q := List.countP_mono_left fun y hy => h y (List.mem_cons_of_mem _ hy)
    rcases List.mem_cons.1 hi with e | e
    · subst e
      rw [List.countP_cons, List.countP_cons, hp, hq]
      simp
      omega
    · have h1 := ih (fun y hy => h y (List.mem_cons_of_mem _ hy)) e
      rw [List.countP_cons, List.countP_cons]
      have h2 := h x (List.mem_cons_self ..)
      cases hx : p x
      · simp; split <;> omega
      · rw [h2 hx]; simp; omega

section
variable {C : Ctx} {ih : Task → Option Out}

theorem agree_spec {a b : Tr AV} : ∀ {l : List Nat}, agree a b l = true → ∀ t ∈ l, ev a (.t t) = ev b (.t t)
  | [], _, t, ht => by cases ht
  | x :: l, h, t, ht => by
    simp only [agree, Bool.and_eq_true] at h
    rcases List.mem_cons.1 ht with e | e
    · subst e; exact AV.beq_eq _ _ h.1
    · exact agree_spec h.2 t e

theorem heavOK_spec {tm : Tr AV} : ∀ {ts : List (Tr AV × AV)} {hv : List AOper}, heavOK tm ts hv = true → ∀ (k : Nat) (t1 : Tr AV) (v : AV) (o : AOper), ts[k]? = some (t1, v) → hv[k]? = some o →
    (∀ t ∈ o.tl, ev t1 (.t t) = ev tm (.t t)) ∧ dstOK tm o.dst v = true
  | [], _, _, k, t1, v, o, h1, _ => by simp at h1
  | (t, u) :: ts, [], h, k, t1, v, o, _, h2 => by simp at h2
  | (t, u) :: ts, p :: hv, h, k, t1, v, o, h1, h2 => by
    simp only [heavOK, Bool.and_eq_true] at h
    cases k with
    | zero =>
      simp at h1 h2
      obtain ⟨rfl, rfl⟩ := h1
      subst h2
      exact ⟨agree_spec h.1.1, h.1.2⟩
    | succ k => exact heavOK_spec h.2 k t1 v o (by simpa using h1) (by simpa using h2)

theorem again_spec {tm : Tr AV} {H : AH} : ∀ {l : List AOper}, again C tm H l = true → ∀ o ∈ l, ∃ v, valR C tm H o = some v ∧ dstOK tm o.dst v = true
  | [], _, o, ho => by cases ho
  | p :: l, h, o, ho => by
    simp only [again, Bool.and_eq_true] at h
    rcases List.mem_cons.1 ho with e | e
    · subst e
      have h1 := h.1
      split at h1
      · rename_i v hv; exact ⟨v, hv, h1⟩
      · cases h1
    · exact again_spec h.2 o e

theorem againAll_spec {tm : Tr AV} : ∀ {Hs : List AH} {wins : List (List AOper)}, againAll C tm Hs wins = true → ∀ (m : Nat) (H : AH) (l : List AOper), Hs[m]? = some H → wins[m]? = some l → again C tm H l = true
  | [], _, _, m, H, l, h1, _ => by simp at h1
  | _ :: _, [], h, m, H, l, _, h2 => by simp at h2
  | G :: Hs, q :: wins, h, m, H, l, h1, h2 => by
    simp only [againAll, Bool.and_eq_true] at h
    cases m with
    | zero =>
      simp at h1 h2
      subst h1; subst h2
      exact h.1
    | succ m => exact againAll_spec h.2 m H l (by simpa using h1) (by simpa using h2)

theorem putT_ne {tm : Tr AV} {d : Option Nat} {v : AV} {t : Nat} (h : d ≠ some t) : ev (putT tm d v) (.t t) = ev tm (.t t) := by
  cases d with
  | none => rfl
  | some k =>
    simp only [putT]
    rw [ev_set]
    split
    · rename_i e; exact absurd (by rw [e]) h
    · rfl

theorem lights_spec {H : AH} : ∀ {l : List AOper} {tm t1 : Tr AV}, lightsR C H l tm = some t1 → ∀ t, (∀ o ∈ l, o.dst ≠ some t) → ev t1 (.t t) = ev tm (.t t)
  | [], tm, t1, h, t, _ => by simp only [lightsR, Option.some.injEq] at h; rw [h]
  | o :: l, tm, t1, h, t, hn => by
    simp only [lightsR] at h
    split at h
    · rename_i v hv
      rw [lights_spec h t fun p hp => hn p (List.mem_cons_of_mem _ hp)]
      exact putT_ne (hn o (List.mem_cons_self ..))
    · cases h

structure SegOK (C : Ctx) (ih : Task → Option Out) (ls : List (List AOper)) (hv : List AOper) (tm : Tr AV) (H : AH) (r : DRes) : Prop where
  rest : ∀ t, (∀ l ∈ ls, ∀ o ∈ l, o.dst ≠ some t) → (∀ o ∈ hv, o.dst ≠ some t) → ev r.tm (.t t) = ev tm (.t t)
  zero : r.hs[0]? = some H
  heavy : ∀ (k : Nat) (t1 : Tr AV) (v : AV), r.ts[k]? = some (t1, v) → ∃ Hk Hk1 o, r.hs[k]? = some Hk ∧ r.hs[k + 1]? = some Hk1 ∧ hv[k]? = some o ∧ astep C ih t1 Hk o = .go v Hk1
  last : ∃ HL, r.hs[r.ts.length]? = some HL ∧ ((r.ex = .normal ∧ r.hp = HL ∧ r.ts.length = hv.length) ∨
    (∃ v o, r.ex = .pan v ∧ hv[r.ts.length]? = some o ∧ astep C ih r.tm HL o = .pan v r.hp))

theorem segs_spec : ∀ {ls : List (List AOper)} {hv : List AOper} {tm : Tr AV} {H : AH} {r : DRes}, segsR C ih ls hv tm H = some r → SegOK C ih ls hv tm H r
  | [], _, _, _, _, h => by simp [segsR] at h
  | l :: ls, [], tm, H, r, h => by
    simp only [segsR] at h
    split at h
    · rename_i t1 ht
      cases h
      exact ⟨fun t h1 _ => lights_spec ht t (h1 l (List.mem_cons_self ..)), rfl, fun k t1 v e => by simp at e, H, rfl, .inl ⟨rfl, rfl, rfl⟩⟩
    · cases h
  | l :: ls, o :: hv, tm, H, r, h => by
    simp only [segsR] at h
    split at h
    · cases h
    · rename_i t1 ht
      split at h
      · rename_i v H' hv'
        split at h
        · rename_i r' hr'
          cases h
          have hs := segs_spec hr'
          refine ⟨fun t h1 h2 => ?_, rfl, ?_, ?_⟩
          · show ev r'.tm (.t t) = _
            rw [hs.rest t (fun q hq => h1 q (List.mem_cons_of_mem _ hq)) (fun q hq => h2 q (List.mem_cons_of_mem _ hq)), putT_ne (h2 o (List.mem_cons_self ..))]
            exact lights_spec ht t (h1 l (List.mem_cons_self ..))
          · intro k t2 u e
            cases k with
            | zero =>
              simp at e
              obtain ⟨rfl, rfl⟩ := e
              refine ⟨H, H', o, rfl, ?_, rfl, hv'⟩
              simpa using hs.zero
            | succ k =>
              obtain ⟨Hk, Hk1, p, e1, e2, e3, e4⟩ := hs.heavy k t2 u (by simpa using e)
              exact ⟨Hk, Hk1, p, by simpa using e1, by simpa using e2, by simpa using e3, e4⟩
          · obtain ⟨HL, e1, e2⟩ := hs.last
            refine ⟨HL, by simpa using e1, ?_⟩
            rcases e2 with ⟨e2, e3, e4⟩ | ⟨u, p, e2, e3, e4⟩
            · exact .inl ⟨e2, e3, by simp [e4]⟩
            · exact .inr ⟨u, p, e2, by simpa using e3, e4⟩
        · cases h
      · rename_i v H' hv'
        cases h
        exact ⟨fun t h1 _ => lights_spec ht t (h1 l (List.mem_cons_self ..)), rfl, fun k t1 v e => by simp at e, H, rfl, .inr ⟨v, o, rfl, rfl, hv'⟩⟩
      · cases h

theorem wanted_congr {a b : Tr AV} {o : AOper} (h : ∀ t ∈ o.tl, ev a (.t t) = ev b (.t t)) : wanted a o.guard = wanted b o.guard := by
  cases hg : o.guard with
  | none => rfl
  | some db =>
    obtain ⟨d, c⟩ := db
    simp only [wanted]
    rw [h d (by simp [AOper.tl, hg])]

theorem tl_op {o : AOper} {t : Nat} (h : t ∈ o.op.tl) : t ∈ o.tl := by
  simp only [AOper.tl, List.mem_append]
  exact .inl h

theorem valR_congr {a b : Tr AV} {H : AH} {o : AOper} (h : ∀ t ∈ o.tl, ev a (.t t) = ev b (.t t)) : valR C a H o = valR C b H o := by
  unfold valR
  rw [wanted_congr h, aop_congr fun t ht => h t (tl_op ht)]

theorem astep_congr {a b : Tr AV} {H : AH} {o : AOper} (h : ∀ t ∈ o.tl, ev a (.t t) = ev b (.t t)) : astep C ih a H o = astep C ih b H o := by
  unfold astep
  rw [wanted_congr h, aop_congr fun t ht => h t (tl_op ht)]

end
end Go.Vd
namespace Go.Vd

/-- The bit k of the row i. -/
def mk (b : List Nat) (i k : Nat) : Bool := (b.getD i 0).testBit k

structure DrawOK (K : List Nat) (ops : Array Oper) (as : List AOper) (b hs : List Nat) : Prop where
  len : as.length = ops.size
  back : ∀ i o, ops[i]? = some o → ∀ e ∈ o.after, Region.binds .any e = true → e.on < i
  clos : ∀ i o k, ops[i]? = some o → k < ops.size → mk b i k = true → ∃ e ∈ o.after, Region.binds .any e = true ∧ (e.on = k ∨ mk b e.on k = true)
  hsv : ∀ (k h : Nat), hs[k]? = some h → isHv as h = true ∧ h < ops.size
  tot : ∀ (j k g h : Nat), hs[j]? = some g → hs[k]? = some h → j < k → mk b h g = true
  all : ∀ i, i < ops.size → isHv as i = true → i ∈ hs
  dst : ∀ (i k : Nat) (o p : AOper) (d : Nat), as[i]? = some o → as[k]? = some p → p.dst = some d → (d ∈ o.tl → mk b i k = true) ∧ (i = k ∨ o.dst ≠ some d)
  keep : ∀ (o : AOper) (d : Nat), o ∈ as → o.dst = some d → d ∉ K

theorem zipIdx_mem {α : Type} {l : List α} {x : α} {k : Nat} (h : l[k]? = some x) : (x, k) ∈ l.zipIdx := by
  rw [List.mem_zipIdx_iff_getElem?]
  exact h

theorem drawOK_spec {K : List Nat} {ops : Array Oper} {as : List AOper} {b hs : List Nat} (h : drawOK K ops.toList as b hs = true) : DrawOK K ops as b hs := by
  simp only [drawOK, Bool.and_eq_true] at h
  obtain ⟨⟨⟨⟨⟨h1, h2⟩, h3⟩, h4⟩, h5⟩, h6⟩ := h
  have hlen : ops.toList.length = ops.size := by simp
  rw [hlen] at h1 h2 h3 h4
  rw [List.all_eq_true] at h2 h3 h4 h5 h6
  have hlt : ∀ {i : Nat} {o : Oper}, ops[i]? = some o → i < ops.size := fun e => (Array.getElem?_eq_some_iff.1 e).1
  have key : ∀ (i : Nat) (o : Oper), ops[i]? = some o → _ := fun i o e => h2 i (List.mem_range.2 (hlt e))
  refine ⟨Nat.eq_of_beq_eq_true h1, ?_, ?_, ?_, ?_, ?_, ?_, ?_⟩
  · intro i o e x hx hb
    have := key i o e
    have e' : ops.toList[i]? = some o := by simpa using e
    rw [e'] at this
    simp only [Bool.and_eq_true] at this
    have h7 := List.all_eq_true.1 this.1 x (by simpa using hx)
    simp only [hb, Bool.not_true, Bool.false_or] at h7
    exact Nat.le_of_ble_eq_true h7
  · intro i o k e hk hm
    have := key i o e
    have e' : ops.toList[i]? = some o := by simpa using e
    rw [e'] at this
    simp only [Bool.and_eq_true] at this
    have h7 := List.all_eq_true.1 this.2 k (List.mem_range.2 hk)
    simp only [mk] at hm
    simp only [hm, Bool.not_true, Bool.false_or] at h7
    obtain ⟨x, hx, h8⟩ := List.any_eq_true.1 h7
    simp only [Bool.and_eq_true, Bool.or_eq_true] at h8
    exact ⟨x, by simpa using hx, h8.1, h8.2.imp (fun g => Nat.eq_of_beq_eq_true g) id⟩
  · intro k g e
    have := h3 _ (zipIdx_mem e)
    simp only [Bool.and_eq_true] at this
    exact ⟨this.1.1, Nat.le_of_ble_eq_true this.1.2⟩
  · intro j k g x e1 e2 hjk
    have := h3 _ (zipIdx_mem e2)
    simp only [Bool.and_eq_true] at this
    have h7 := List.all_eq_true.1 this.2 _ (zipIdx_mem e1)
    have h8 : Nat.blt j k = true := Nat.ble_eq_true_of_le hjk
    simpa [h8, mk] using h7
  · intro i hi hv
    have := h4 i (List.mem_range.2 hi)
    simpa [hv] using this
  · intro i k o p d e1 e2 hd
    have := List.all_eq_true.1 (h5 _ (zipIdx_mem e1)) _ (zipIdx_mem e2)
    simp only [hd, Bool.and_eq_true, Bool.or_eq_true] at this
    refine ⟨fun hm => ?_, ?_⟩
    · have h7 := this.1
      simpa [hm, mk] using h7
    · rcases this.2 with h7 | h7
      · exact .inl (Nat.eq_of_beq_eq_true h7)
      · exact .inr (by simpa using h7)
  · intro o d ho hd hk
    have := h6 o ho
    rw [hd] at this
    simp [hk] at this

section
variable {K : List Nat} {ops : Array Oper} {as : List AOper} {b hs : List Nat}

def Closed (ops : Array Oper) (listed : Array Bool) : Prop :=
  ∀ i o, ops[i]? = some o → listed.getD i false = true → ∀ e ∈ o.after, Region.binds .any e = true → listed.getD e.on false = true

theorem mask_listed (hD : DrawOK K ops as b hs) {listed : Array Bool} (hc : Closed ops listed) : ∀ (i : Nat) (o : Oper), ops[i]? = some o →
    (∀ e ∈ o.after, Region.binds .any e = true → listed.getD e.on false = true) → ∀ k, k < ops.size → mk b i k = true → listed.getD k false = true := by
  intro i
  induction i using Nat.strongRecOn with
  | _ i ih =>
    intro o ho hr k hk hm
    obtain ⟨e, he, hb, h⟩ := hD.clos i o k ho hk hm
    have hl := hr e he hb
    rcases h with h | h
    · rw [← h]; exact hl
    · have hlt := hD.back i o ho e he hb
      have hsz : i < ops.size := (Array.getElem?_eq_some_iff.1 ho).1
      have hon : ops[e.on]? = some ops[e.on] := by simp [Nat.lt_trans hlt hsz]
      exact ih e.on hlt _ hon (fun e' he' hb' => hc e.on _ hon hl e' he' hb') k hk h

theorem mask_listed' (hD : DrawOK K ops as b hs) {listed : Array Bool} (hc : Closed ops listed) {i k : Nat} {o : Oper} (ho : ops[i]? = some o) (hl : listed.getD i false = true) (hk : k < ops.size)
    (hm : mk b i k = true) : listed.getD k false = true :=
  mask_listed hD hc i o ho (fun e he hb => hc i o ho hl e he hb) k hk hm

theorem getD_set {listed : Array Bool} {i j : Nat} (hi : i < listed.size) : (listed.setIfInBounds i true).getD j false = true ↔ (j = i ∨ listed.getD j false = true) := by
  simp only [Array.getD_eq_getD_getElem?, Array.getElem?_setIfInBounds]
  by_cases h : i = j
  · subst h; simp [hi]
  · have : ¬ j = i := fun e => h e.symm
    simp [h, this]

theorem Closed.set {listed : Array Bool} (hc : Closed ops listed) {i : Nat} {o : Oper} (ho : ops[i]? = some o) (hi : i < listed.size)
    (hr : ∀ e ∈ o.after, Region.binds .any e = true → listed.getD e.on false = true) : Closed ops (listed.setIfInBounds i true) := by
  intro j p hp hl e he hb
  rw [getD_set hi] at hl ⊢
  rcases hl with hl | hl
  · subst hl
    rw [ho] at hp
    cases hp
    exact .inr (hr e he hb)
  · exact .inr (hc j p hp hl e he hb)

/-- If not all is listed, something is ready. -/
theorem exists_ready (hD : DrawOK K ops as b hs) {listed : Array Bool} (hsz : listed.size = ops.size) : ∀ (i : Nat), i < ops.size → listed.getD i false = false → ∃ j, j ∈ Region.ready .any ops listed := by
  intro i
  induction i using Nat.strongRecOn with
  | _ i ih =>
    intro hi hu
    by_cases h : ∀ e ∈ ops[i].after, Region.binds .any e = true → listed.getD e.on false = true
    · refine ⟨i, mem_ready.2 ⟨?_, ops[i], by simp [hi], h⟩⟩
      have : i < listed.size := by omega
      simp only [Array.getD_eq_getD_getElem?] at hu ⊢
      simpa [this] using hu
    · simp only [Classical.not_forall] at h
      obtain ⟨e, he, hb, h⟩ := h
      have hlt := hD.back i _ (by simp [hi] : ops[i]? = some ops[i]) e he hb
      exact ih e.on hlt (by omega) (by simpa using h)

variable {P : Program} {C : Ctx} {ih : Task → Option Out} {nt : Nat} {Q : Exit → Act → World → Prop}
  {r : DRes} {tm0 : Tr AV} {H0 : AH} {φ0 : Mp} {w0 : World} {a0 : Act} {ls wins : List (List AOper)}

/-- What stays true while operations of the region are taken. -/
structure DInv (P : Program) (ops : Array Oper) (as : List AOper) (hs : List Nat) (nt : Nat) (r : DRes) (tm0 : Tr AV) (H0 : AH) (φ0 : Mp) (w0 : World) (a0 : Act)
    (listed : Array Bool) (m : Nat) (H : AH) (φ : Mp) (tm : Tr AV) (a : Act) (w : World) : Prop where
  size : listed.size = ops.size
  clos : Closed ops listed
  hv : ∀ (k h : Nat), hs[k]? = some h → (listed.getD h false = true ↔ k < m)
  le : m ≤ r.ts.length
  hp : r.hs[m]? = some H
  rel : R P.globals.size φ H w
  nx : Nx φ0 H0 w0 φ H w
  fr : FR φ tm a
  sz : nt ≤ a.tmps.size
  df : a.defers = a0.defers
  seen : ∀ (i : Nat) (o : AOper) (d : Nat), listed.getD i false = true → as[i]? = some o → o.dst = some d → ev tm (.t d) = ev r.tm (.t d)
  unseen : ∀ t, (∀ (i : Nat) (o : AOper), listed.getD i false = true → as[i]? = some o → o.dst ≠ some t) → ev tm (.t t) = ev tm0 (.t t)

/-- What the evaluator has shown. -/
structure DRun (P : Program) (C : Ctx) (ih : Task → Option Out) (ops : Array Oper) (as : List AOper) (b hs : List Nat) (nt : Nat) (r : DRes) (tm0 : Tr AV) : Prop where
  comp : ∀ (i : Nat) (o : Oper), ops[i]? = some o → ∃ ao, as[i]? = some ao ∧ cOper P nt ops.toList o = some ao
  rest : ∀ t, (∀ (i : Nat) (o : AOper), as[i]? = some o → o.dst ≠ some t) → ev r.tm (.t t) = ev tm0 (.t t)
  light : ∀ (i m : Nat) (o : AOper) (H : AH), as[i]? = some o → o.op.light = true → m ≤ r.ts.length → r.hs[m]? = some H → inWin b hs i m = true → ∃ v, valR C r.tm H o = some v ∧ dstOK r.tm o.dst v = true
  heavy : ∀ (k i : Nat) (o : AOper) (H : AH), hs[k]? = some i → as[i]? = some o → k < r.ts.length → r.hs[k]? = some H →
    ∃ v H', astep C ih r.tm H o = .go v H' ∧ r.hs[k + 1]? = some H' ∧ dstOK r.tm o.dst v = true
  last : ∃ HL, r.hs[r.ts.length]? = some HL ∧ ((r.ex = .normal ∧ r.hp = HL ∧ r.ts.length = hs.length) ∨
    (∃ v i o, r.ex = .pan v ∧ hs[r.ts.length]? = some i ∧ as[i]? = some o ∧ astep C ih r.tm HL o = .pan v r.hp))

theorem dstOK_ev {tm : Tr AV} {d : Nat} {v : AV} (h : dstOK tm (some d) v = true) : v = ev tm (.t d) := AV.beq_eq _ _ h

theorem DInv.step (hD : DrawOK K ops as b hs) (hr : DRun P C ih ops as b hs nt r tm0) {listed : Array Bool} {m m' : Nat} {H H' : AH} {φ ψ : Mp} {tm : Tr AV} {a : Act} {w w' : World}
    (h : DInv P ops as hs nt r tm0 H0 φ0 w0 a0 listed m H φ tm a w) {i : Nat} {o : Oper} {ao : AOper} (ho : ops[i]? = some o) (hao : as[i]? = some ao) (hco : cOper P nt ops.toList o = some ao)
    (hu : listed.getD i true = false) (hrd : ∀ e ∈ o.after, Region.binds .any e = true → listed.getD e.on false = true)
    (hm : ∀ (k h : Nat), hs[k]? = some h → ((listed.setIfInBounds i true).getD h false = true ↔ k < m')) (hle : m' ≤ r.ts.length) (hhp : r.hs[m']? = some H')
    {v : AV} {v' : Value} (hR : R P.globals.size ψ H' w') (hn : Nx φ H w ψ H' w') (hv : VR ψ v v') (hd : dstOK r.tm ao.dst v = true) :
    DInv P ops as hs nt r tm0 H0 φ0 w0 a0 (listed.setIfInBounds i true) m' H' ψ (putT tm ao.dst v) (a.put o.dst v') w' := by
  obtain ⟨h1, h2, h3, h4⟩ := cOper_spec hco
  have hi : i < listed.size := by rw [h.size]; exact (Array.getElem?_eq_some_iff.1 ho).1
  refine ⟨by simp [h.size], h.clos.set ho hi hrd, hm, hle, hhp, hR, h.nx.trans hn, ?_, ?_, ?_, ?_, ?_⟩
  · rw [h1]
    exact (h.fr.mono hn.le).put hv fun d e => Nat.lt_of_lt_of_le (h4 d e) h.sz
  · rw [put_size]; exact h.sz
  · rw [put_defers]; exact h.df
  · intro j p d hl hp hpd
    rw [getD_set hi] at hl
    rcases hl with hl | hl
    · subst hl
      rw [hao] at hp
      cases hp
      rw [hpd] at hd ⊢
      simp only [putT]
      rw [ev_set, if_pos rfl]
      exact dstOK_ev hd
    · rw [putT_ne, h.seen j p d hl hp hpd]
      intro e
      rcases (hD.dst i j ao p d hao hp hpd).2 with g | g
      · subst g
        simp only [Array.getD_eq_getD_getElem?] at hu hl
        cases hx : listed[i]? with
        | none => rw [hx] at hl; simp at hl
        | some x => rw [hx] at hl hu; simp at hl hu; rw [hl] at hu; cases hu
      · exact g e
  · intro t ht
    rw [putT_ne (ht i ao ((getD_set hi).2 (.inl rfl)) hao)]
    exact h.unseen t fun j p hl hp => ht j p ((getD_set hi).2 (.inr hl)) hp

/-- The temporaries that a ready operation looks at. -/
theorem DInv.looks (hD : DrawOK K ops as b hs) (hr : DRun P C ih ops as b hs nt r tm0) {listed : Array Bool} {m : Nat} {H : AH} {φ : Mp} {tm : Tr AV} {a : Act} {w : World}
    (h : DInv P ops as hs nt r tm0 H0 φ0 w0 a0 listed m H φ tm a w) {i : Nat} {o : Oper} {ao : AOper} (ho : ops[i]? = some o) (hao : as[i]? = some ao)
    (hrd : ∀ e ∈ o.after, Region.binds .any e = true → listed.getD e.on false = true) : ∀ t ∈ ao.tl, ev tm (.t t) = ev r.tm (.t t) := by
  intro t ht
  by_cases hx : ∃ (k : Nat) (p : AOper), as[k]? = some p ∧ p.dst = some t
  · obtain ⟨k, p, hp, hpd⟩ := hx
    have hk : k < ops.size := by
      rw [← hD.len]
      exact (List.getElem?_eq_some_iff.1 hp).1
    exact h.seen k p t (mask_listed hD h.clos i o ho hrd k hk ((hD.dst i k ao p t hao hp hpd).1 ht)) hp hpd
  · have hno : ∀ (k : Nat) (p : AOper), as[k]? = some p → p.dst ≠ some t := fun k p hp hpd => hx ⟨k, p, hp, hpd⟩
    rw [h.unseen t fun k p _ hp => hno k p hp, hr.rest t hno]

/-- All is listed. -/
theorem DInv.done (hD : DrawOK K ops as b hs) (hr : DRun P C ih ops as b hs nt r tm0) {listed : Array Bool} {m : Nat} {H : AH} {φ : Mp} {tm : Tr AV} {a : Act} {w : World}
    (h : DInv P ops as hs nt r tm0 H0 φ0 w0 a0 listed m H φ tm a w) (hall : ∀ i, i < ops.size → listed.getD i false = true) : r.ex = .normal ∧ H = r.hp ∧ FR φ r.tm a := by
  have hm : hs.length ≤ m := by
    rcases Nat.lt_or_ge m hs.length with g | g
    · have e : hs[m]? = some hs[m] := by simp [g]
      have := (h.hv m _ e).1 (hall _ (hD.hsv m _ e).2)
      omega
    · exact g
  have hl := h.le
  obtain ⟨HL, h1, h2⟩ := hr.last
  rcases h2 with ⟨h2, h3, h4⟩ | ⟨v, i, o, h2, h3, _⟩
  · have : m = r.ts.length := by omega
    subst this
    have := h.hp
    rw [h1] at this
    cases this
    refine ⟨h2, h3.symm, fun t => ?_⟩
    have hf := h.fr t
    by_cases hx : ∃ (k : Nat) (p : AOper), as[k]? = some p ∧ p.dst = some t
    · obtain ⟨k, p, hp, hpd⟩ := hx
      have hk : k < ops.size := by
        rw [← hD.len]
        exact (List.getElem?_eq_some_iff.1 hp).1
      rw [← h.seen k p t (hall k hk) hp hpd]
      exact hf
    · have hno : ∀ (k : Nat) (p : AOper), as[k]? = some p → p.dst ≠ some t := fun k p hp hpd => hx ⟨k, p, hp, hpd⟩
      rw [hr.rest t hno, ← h.unseen t fun k p _ hp => hno k p hp]
      exact hf
  · have : r.ts.length < hs.length := (List.getElem?_eq_some_iff.1 h3).1
    omega
end
end Go.Vd
namespace Go.Vd

section
variable {K : List Nat} {ops : Array Oper} {as : List AOper} {b hs : List Nat}
variable {P : Program} {C : Ctx} {ih : Task → Option Out} {nt : Nat} {Q : Exit → Act → World → Prop}
  {r : DRes} {tm0 : Tr AV} {H0 : AH} {φ0 : Mp} {w0 : World} {a0 : Act} {ls wins : List (List AOper)}

theorem getD_false_of_true {listed : Array Bool} {i : Nat} (h : listed.getD i true = false) : listed.getD i false = false := by
  simp only [Array.getD_eq_getD_getElem?] at *
  cases hx : listed[i]? with
  | none => rfl
  | some x => rw [hx] at h; simpa using h

theorem draw_any (hC : CtxOK P C) (hi : IHC P ih) (hD : DrawOK K ops as b hs) (hr : DRun P C ih ops as b hs nt r tm0)
    (hQn : ∀ φ a w, r.ex = .normal → R P.globals.size φ r.hp w → Nx φ0 H0 w0 φ r.hp w → FR φ r.tm a → nt ≤ a.tmps.size → a.defers = a0.defers → Q .normal a w)
    (hQp : ∀ φ v v' a w, r.ex = .pan v → R P.globals.size φ r.hp w → Nx φ0 H0 w0 φ r.hp w → VR φ v v' →
      (∀ t, (∀ (i : Nat) (o : AOper), as[i]? = some o → o.dst ≠ some t) → VR φ (ev tm0 (.t t)) (a.tmps.getD t undef)) → a.defers = a0.defers → Q (.panic [{ v := v', recovered := false }]) a w) :
    ∀ (fuel : Nat) (listed : Array Bool) (m : Nat) (H : AH) (φ : Mp) (tm : Tr AV) (a : Act) (w : World), DInv P ops as hs nt r tm0 H0 φ0 w0 a0 listed m H φ tm a w →
      (List.range ops.size).countP (fun i => !listed.getD i false) ≤ fuel → wpAny P .any ops Q fuel listed a w := by
  have hdone : ∀ (listed : Array Bool) (m : Nat) (H : AH) (φ : Mp) (tm : Tr AV) (a : Act) (w : World), DInv P ops as hs nt r tm0 H0 φ0 w0 a0 listed m H φ tm a w →
      (∀ i, i < ops.size → listed.getD i false = true) → Q .normal a w := by
    intro listed m H φ tm a w h hall
    obtain ⟨h1, h2, h3⟩ := h.done hD hr hall
    subst h2
    exact hQn φ a w h1 h.rel h.nx h3 h.sz h.df
  intro fuel
  induction fuel with
  | zero =>
    intro listed m H φ tm a w h hcnt
    have hall : ∀ i, i < ops.size → listed.getD i false = true := by
      intro i hlt
      cases hx : listed.getD i false with
      | true => rfl
      | false =>
        have : 0 < (List.range ops.size).countP (fun i => !listed.getD i false) := List.countP_pos_iff.2 ⟨i, List.mem_range.2 hlt, by rw [hx]; rfl⟩
        omega
    refine wpAny_done ?_ (hdone listed m H φ tm a w h hall) 0
    rw [List.eq_nil_iff_forall_not_mem]
    intro j hj
    obtain ⟨h1, o, ho, _⟩ := mem_ready.1 hj
    have h2 := hall j (Array.getElem?_eq_some_iff.1 ho).1
    rw [getD_false_of_true h1] at h2
    cases h2
  | succ fuel IH =>
    intro listed m H φ tm a w h hcnt
    refine ⟨fun hrd => hdone listed m H φ tm a w h ?_, ?_⟩
    · intro i hlt
      cases hx : listed.getD i false with
      | true => rfl
      | false =>
        obtain ⟨j, hj⟩ := exists_ready hD h.size i hlt hx
        rw [hrd] at hj
        cases hj
    intro i hmem
    obtain ⟨hu, o, ho, hrd⟩ := mem_ready.1 hmem
    obtain ⟨ao, hao, hco⟩ := hr.comp i o ho
    obtain ⟨h1, h2, h3, h4⟩ := cOper_spec hco
    have hlt : i < ops.size := (Array.getElem?_eq_some_iff.1 ho).1
    have hsz : i < listed.size := by rw [h.size]; exact hlt
    have hlook := h.looks hD hr ho hao hrd
    have hw := wanted_rel (ao := ao) h.fr h3
    have hcnt' : (List.range ops.size).countP (fun j => !(listed.setIfInBounds i true).getD j false) ≤ fuel := by
      have := countP_lt (l := List.range ops.size) (p := fun j => !(listed.setIfInBounds i true).getD j false) (q := fun j => !listed.getD j false) (fun x _ hx => by
        simp only [Bool.not_eq_true'] at hx ⊢
        cases hy : listed.getD x false with
        | false => rfl
        | true => rw [(getD_set hsz).2 (.inr hy)] at hx; cases hx) (List.mem_range.2 hlt) (by
        simp only [Bool.not_eq_false']
        exact (getD_set hsz).2 (.inl rfl)) (by
        simp only [Bool.not_eq_true']
        exact getD_false_of_true hu)
      omega
    have hone : wpOp P ops Q i (wpAny P .any ops Q fuel (listed.setIfInBounds i true)) a w ↔
        (if Region.wanted o (yielded ops a.tmps) then o.wp P a w (wpAny P .any ops Q fuel (listed.setIfInBounds i true)) Q ∨ (o.asks P a w ∧ LetsOut Q)
          else wpAny P .any ops Q fuel (listed.setIfInBounds i true) (a.put o.dst undef) w) := by
      unfold wpOp
      simp only [ho]
    rw [hone]
    cases hvy : isHv as i with
    | false =>
      -- a light operation
      have hl : ao.op.light = true := by
        simp only [isHv, hao] at hvy
        simpa using hvy
      have hwin : inWin b hs i m = true := by
        unfold inWin
        rw [List.all_eq_true]
        rintro ⟨x, k⟩ hx
        rw [List.mem_zipIdx_iff_getElem?] at hx
        simp only at hx
        have hxs := hD.hsv k x hx
        simp only [Bool.and_eq_true, Bool.or_eq_true, Bool.not_eq_true']
        constructor
        · cases hm1 : (b.getD i 0).testBit x with
          | false => exact .inl rfl
          | true =>
            right
            have := (h.hv k x hx).1 (mask_listed hD h.clos i o ho hrd x hxs.2 hm1)
            exact Nat.ble_eq_true_of_le this
        · cases hm1 : (b.getD x 0).testBit i with
          | false => exact .inl rfl
          | true =>
            right
            refine Nat.ble_eq_true_of_le ?_
            rcases Nat.lt_or_ge k m with g | g
            · exfalso
              have hxl := (h.hv k x hx).2 g
              have hxo : ops[x]? = some ops[x] := by simp [hxs.2]
              have := mask_listed' hD h.clos hxo hxl hlt hm1
              rw [getD_false_of_true hu] at this
              cases this
            · exact g
      obtain ⟨v, hv, hd⟩ := hr.light i m ao H hao hl h.le h.hp hwin
      rw [← valR_congr hlook] at hv
      have hm' : ∀ (k x : Nat), hs[k]? = some x → ((listed.setIfInBounds i true).getD x false = true ↔ k < m) := by
        intro k x hx
        rw [getD_set hsz, ← h.hv k x hx]
        constructor
        · rintro (e | e)
          · exfalso
            have := (hD.hsv k x hx).1
            rw [e, hvy] at this
            cases this
          · exact e
        · exact .inr
      have hnext : ∀ ψ v' w', R P.globals.size ψ H w' → Nx φ H w ψ H w' → VR ψ v v' → wpAny P .any ops Q fuel (listed.setIfInBounds i true) (a.put o.dst v') w' := by
        intro ψ v' w' g1 g2 g3
        exact IH _ m H ψ _ _ w' (h.step hD hr ho hao hco hu hrd hm' h.le h.hp g1 g2 g3 hd) hcnt'
      unfold valR at hv
      split
      · rename_i hwt
        rw [hw] at hwt
        simp only [hwt, if_true] at hv
        left
        split at hv
        · rename_i u H1 hva
          cases hv
          have := aop_light hl hva
          subst this
          refine oper_go (ao := ao) (ih := ih) hC hi h.rel h.fr h2 (by rw [hva]; rfl) hnext
        · cases hv
      · rename_i hwt
        rw [hw] at hwt
        simp only [hwt, Bool.false_eq_true, if_false] at hv
        cases hv
        exact hnext φ undef w h.rel (Nx.refl φ H w) VR.und
    | true =>
      -- a heavy operation
      obtain ⟨k, hk⟩ := List.mem_iff_getElem?.1 (hD.all i hlt hvy)
      have hkm : k = m := by
        have g1 : ¬ k < m := fun g => by
          have := (h.hv k i hk).2 g
          rw [getD_false_of_true hu] at this
          cases this
        rcases Nat.lt_or_ge m k with g | g
        · exfalso
          have hmlt : m < hs.length := Nat.lt_trans g (List.getElem?_eq_some_iff.1 hk).1
          have hmx : hs[m]? = some hs[m] := by simp [hmlt]
          have := (h.hv m _ hmx).1 (mask_listed hD h.clos i o ho hrd _ (hD.hsv m _ hmx).2 (hD.tot m k _ i hmx hk g))
          omega
        · omega
      subst hkm
      have hm' : ∀ (j x : Nat), hs[j]? = some x → ((listed.setIfInBounds i true).getD x false = true ↔ j < k + 1) := by
        intro j x hx
        rw [getD_set hsz, h.hv j x hx]
        constructor
        · rintro (e | e)
          · subst e
            rcases Nat.lt_trichotomy j k with g | g | g
            · omega
            · omega
            · exfalso
              have g1 := hD.tot k j x x hk hx g
              obtain ⟨e', he', hb', hor⟩ := hD.clos x o x ho hlt g1
              have := mask_listed hD h.clos x o ho hrd x hlt g1
              rw [getD_false_of_true hu] at this
              cases this
          · omega
        · intro g
          rcases Nat.lt_or_ge j k with g1 | g1
          · exact .inr g1
          · have : j = k := by omega
            subst this
            rw [hk] at hx
            cases hx
            exact .inl rfl
      rcases Nat.lt_or_ge k r.ts.length with g | g
      · obtain ⟨v, H', hs1, hs2, hd⟩ := hr.heavy k i ao H hk hao g h.hp
        rw [← astep_congr hlook] at hs1
        have hnext : ∀ ψ v' w', R P.globals.size ψ H' w' → Nx φ H w ψ H' w' → VR ψ v v' → wpAny P .any ops Q fuel (listed.setIfInBounds i true) (a.put o.dst v') w' := by
          intro ψ v' w' g1 g2 g3
          exact IH _ (k + 1) H' ψ _ _ w' (h.step hD hr ho hao hco hu hrd hm' (by omega) hs2 g1 g2 g3 hd) hcnt'
        unfold astep at hs1
        split
        · rename_i hwt
          rw [hw] at hwt
          simp only [hwt, if_true] at hs1
          exact .inl (oper_go hC hi h.rel h.fr h2 hs1 hnext)
        · rename_i hwt
          rw [hw] at hwt
          simp only [hwt, Bool.false_eq_true, if_false] at hs1
          cases hs1
          exact hnext φ undef w h.rel (Nx.refl φ H w) VR.und
      · have hke : k = r.ts.length := Nat.le_antisymm h.le g
        obtain ⟨HL, hl1, hl2⟩ := hr.last
        have hHL : HL = H := by
          have := h.hp
          rw [hke, hl1] at this
          exact (Option.some.inj this)
        subst hHL
        rcases hl2 with ⟨_, _, hl4⟩ | ⟨v, i', o', hex, hi', ho', hs1⟩
        · have := (List.getElem?_eq_some_iff.1 hk).1
          omega
        · rw [← hke, hk] at hi'
          cases hi'
          rw [hao] at ho'
          cases ho'
          rw [← astep_congr hlook] at hs1
          unfold astep at hs1
          split
          · rename_i hwt
            rw [hw] at hwt
            simp only [hwt, if_true] at hs1
            left
            refine oper_pan hC hi h.rel h.fr h2 hs1 fun ψ v' w' g1 g2 g3 => ?_
            refine hQp ψ v v' a w' hex g1 (h.nx.trans g2) g3 (fun t ht => ?_) h.df
            rw [← h.unseen t fun j p _ hp => ht j p hp]
            exact (h.fr.mono g2.le) t
          · rename_i hwt
            rw [hw] at hwt
            simp only [hwt, Bool.false_eq_true, if_false] at hs1
            cases hs1

/-- The compiled region. -/
theorem cDraw_run (hc : cOpers P nt ops.toList ops.toList = some as) {s s' : ASt} {e : AEx} (hs' : exec C ih (cDraw K ops.toList as) s = some (e, s')) :
    ∃ b hs r, DrawOK K ops as b hs ∧ DRun P C ih ops as b hs nt r s.tm ∧ r.hs[0]? = some s.hp ∧ e = r.ex ∧ s'.hp = r.hp ∧ s'.df = s.df ∧ ((e = .normal ∧ s'.tm = r.tm) ∨ (∃ v, e = .pan v ∧ s'.tm = s.tm)) := by
  unfold cDraw at hs'
  simp only at hs'
  generalize hb : preds ops.toList = b at hs'
  generalize hhs : (List.range as.length).filter (isHv as) = hs at hs'
  generalize hlt : ((List.range as.length).filter fun i => !isHv as i) = lt at hs'
  split at hs'
  · rename_i hok
    have hD := drawOK_spec hok
    simp only [exec, drawR] at hs'
    split at hs'
    · rename_i r hr
      rw [Option.ite_none_right_eq_some] at hs'
      obtain ⟨hchk, hs'⟩ := hs'
      rw [Bool.and_eq_true] at hchk
      have hseg := segs_spec hr
      have hlen := hD.len
      have hcomp : ∀ (i : Nat) (o : Oper), ops[i]? = some o → ∃ ao, as[i]? = some ao ∧ cOper P nt ops.toList o = some ao := fun i o ho => (cOpers_get hc).2 i o (by simpa using ho)
      have hget : ∀ (i : Nat) (o : AOper), as[i]? = some o → as.getD i default = o := fun i o e => by simp [List.getD, e]
      have hmem : ∀ i, i < as.length → as.getD i default ∈ as := fun i hi => by
        have : as[i]? = some as[i] := by simp [hi]
        rw [hget i _ this]
        exact List.mem_of_getElem? this
      have hltm : ∀ i ∈ lt, i < as.length := fun i hi => by
        rw [← hlt] at hi
        exact List.mem_range.1 ((List.mem_filter.1 hi).1)
      have hhsm : ∀ i ∈ hs, i < as.length := fun i hi => by
        rw [← hhs] at hi
        exact List.mem_range.1 ((List.mem_filter.1 hi).1)
      have hhv : ∀ (k i : Nat) (o : AOper), hs[k]? = some i → as[i]? = some o → (hs.map fun i => as.getD i default)[k]? = some o := by
        intro k i o h1 h2
        simp only [List.getElem?_map, h1, Option.map_some, hget i o h2]
      refine ⟨b, hs, r, hD, ⟨hcomp, ?_, ?_, ?_, ?_⟩, hseg.zero, ?_⟩
      · intro t ht
        refine hseg.rest t ?_ ?_
        · intro l hl o ho
          obtain ⟨m, hm, rfl⟩ := List.mem_map.1 hl
          obtain ⟨i, hi, rfl⟩ := List.mem_map.1 ho
          have hi' := hltm i ((List.mem_filter.1 hi).1)
          exact ht i _ (by simp [List.getD, hi'])
        · intro o ho
          obtain ⟨i, hi, rfl⟩ := List.mem_map.1 ho
          have hi' := hhsm i hi
          exact ht i _ (by simp [List.getD, hi'])
      · intro i m o H hi hl hm hH hw
        have hilt : i < as.length := (List.getElem?_eq_some_iff.1 hi).1
        have hm2 : m < hs.length + 1 := by
          obtain ⟨HL, _, h2⟩ := hseg.last
          simp only [List.length_map] at h2
          rcases h2 with ⟨_, _, h4⟩ | ⟨_, _, _, h4, _⟩
          · omega
          · have := (List.getElem?_eq_some_iff.1 h4).1
            simp only [List.length_map] at this
            omega
        refine again_spec (againAll_spec hchk.2 m H _ hH (by simp only [List.getElem?_map, List.getElem?_range hm2, Option.map_some]; rfl)) o ?_
        refine List.mem_map.2 ⟨i, ?_, hget i o hi⟩
        refine List.mem_filter.2 ⟨?_, hw⟩
        rw [← hlt]
        refine List.mem_filter.2 ⟨List.mem_range.2 hilt, ?_⟩
        simp [isHv, hi, hl]
      · intro k i o H hk hi hlk hH
        obtain ⟨⟨t1, v⟩, htv⟩ : ∃ x, r.ts[k]? = some x := ⟨r.ts[k], by simp [hlk]⟩
        obtain ⟨Hk, Hk1, p, h1, h2, h3, h4⟩ := hseg.heavy k t1 v htv
        rw [hhv k i o hk hi] at h3
        cases h3
        rw [hH] at h1
        cases h1
        obtain ⟨h5, h6⟩ := heavOK_spec hchk.1 k t1 v o htv (hhv k i o hk hi)
        rw [astep_congr h5] at h4
        exact ⟨v, Hk1, h4, h2, h6⟩
      · obtain ⟨HL, h1, h2⟩ := hseg.last
        refine ⟨HL, h1, ?_⟩
        simp only [List.length_map] at h2
        rcases h2 with h2 | ⟨v, o, h2, h3, h4⟩
        · exact .inl h2
        · right
          rw [List.getElem?_map] at h3
          cases hx : hs[r.ts.length]? with
          | none => rw [hx] at h3; cases h3
          | some i =>
            rw [hx] at h3
            simp only [Option.map_some, Option.some.injEq] at h3
            have hi' := hhsm i (List.mem_of_getElem? hx)
            refine ⟨v, i, o, h2, rfl, ?_, h4⟩
            rw [← h3]
            simp [List.getD, hi']
      · split at hs'
        · rename_i hex
          cases hs'
          exact ⟨hex.symm, rfl, rfl, .inl ⟨rfl, rfl⟩⟩
        · rename_i v hex
          cases hs'
          exact ⟨hex.symm, rfl, rfl, .inr ⟨v, rfl, rfl⟩⟩
        · cases hs'
    · cases hs'
  · simp [exec] at hs'

theorem draw_sound (hC : CtxOK P C) (hi : IHC P ih) (hmx : P.follows .mixedOrders = true) {id : Nat} {s s' : ASt} {e : AEx} {φ : Mp} {a : Act} {w : World} (hc : cOpers P nt ops.toList ops.toList = some as)
    (hs' : exec C ih (cDraw K ops.toList as) s = some (e, s')) (hS : SR P nt φ s a w) (hQ : Post P nt K φ s w e s' Q) : (Code.region id ops true).wp P Q a w := by
  obtain ⟨b, hs, r, hD, hr, h0, h1, h2, h3, h4⟩ := cDraw_run hc hs'
  refine wp_region_any hmx ?_
  have hn0 := Nx.drew φ s.hp w (w.drawn + 1)
  refine draw_any (H0 := s.hp) (φ0 := φ) (w0 := { w with drawn := w.drawn + 1 }) (a0 := a) hC hi hD hr ?_ ?_ ops.size _ 0 s.hp φ s.tm a _ ⟨by simp, ?_, ?_, Nat.zero_le _, h0, hS.r.drew _, Nx.refl _ _ _, hS.fr, hS.sz, rfl, ?_, ?_⟩ ?_
  · intro ψ a' w' hex g1 g2 g3 g4 g5
    rcases h4 with ⟨h4, h5⟩ | ⟨v, h4, h5⟩
    · refine hQ ψ _ a' w' ?_ (by rw [h2]; exact hn0.trans g2)
      rw [h4]
      refine ⟨rfl, ?_, ?_, ?_, g4⟩
      · rw [h5]; exact g3
      · rw [h3, g5]; exact hS.df.mono g2.le
      · rw [h2]; exact g1
    · rw [h1, hex] at h4; cases h4
  · intro ψ v v' a' w' hex g1 g2 g3 g4 g5
    rcases h4 with ⟨h4, h5⟩ | ⟨u, h4, h5⟩
    · rw [h1, hex] at h4; cases h4
    · have huv : u = v := by rw [h1, hex] at h4; cases h4; rfl
      subst huv
      refine hQ ψ _ a' w' ?_ (by rw [h2]; exact hn0.trans g2)
      rw [h4]
      refine ⟨v', rfl, g3, ?_, ?_, ?_⟩
      · intro t ht
        rw [h5]
        refine g4 t fun i o hi ho => ?_
        exact hD.keep o t (List.mem_of_getElem? hi) ho ht
      · rw [h3, g5]; exact hS.df.mono g2.le
      · rw [h2]; exact g1
  · intro i o ho hl
    simp [Array.getD_eq_getD_getElem?, Array.getElem?_replicate] at hl
    split at hl <;> simp at hl
  · intro k h hk
    constructor
    · intro hl
      simp [Array.getD_eq_getD_getElem?, Array.getElem?_replicate] at hl
      split at hl <;> simp at hl
    · intro g; omega
  · intro i o d hl
    simp [Array.getD_eq_getD_getElem?, Array.getElem?_replicate] at hl
    split at hl <;> simp at hl
  · intro t _; rfl
  · have := List.countP_le_length (p := fun i => !(Array.replicate ops.size false).getD i false) (l := List.range ops.size)
    simpa using this
end
end Go.Vd
namespace Go.Vd

/-- A loop, ahead of a round. -/
def LoopI (P : Program) (c : Code) (Q : Exit → Act → World → Prop) (a : Act) (w : World) : Prop :=
  ∀ (b : Frame) (k : List Item) (cs : List Frame), ∃ e a' w', Q e a' w' ∧ Arrives P (lone (b.at a (.code c :: .inLoop c :: k)) cs w) b k cs e a' w'

section
variable {P : Program} {Q : Exit → Act → World → Prop} {a : Act} {w : World} {c : Code}

theorem loopI_round (h : c.wp P (Exit.then (LoopI P c Q) Q) a w) : LoopI P c Q a w := by
  intro b k cs
  obtain ⟨e, a₁, w₁, hq, harr⟩ := h b (.inLoop c :: k) cs
  cases e with
  | normal =>
    obtain ⟨e₂, a₂, w₂, hq₂, harr₂⟩ := hq b k cs
    exact ⟨e₂, a₂, w₂, hq₂, .of_steps (Steps.trans harr (.one step_inLoop)) harr₂⟩
  | exit id => exact ⟨_, a₁, w₁, hq, .pass (x := .inLoop c) rfl (fun _ _ => .inl (by simp)) harr⟩
  | goto l => exact ⟨_, a₁, w₁, hq, .pass (x := .inLoop c) rfl (fun _ _ => .inl (by simp)) harr⟩
  | ret => exact ⟨_, a₁, w₁, hq, .pass (x := .inLoop c) rfl (fun _ _ => .inl (by simp)) harr⟩
  | panic ch => exact ⟨_, a₁, w₁, hq, .pass (x := .inLoop c) rfl (fun _ _ => .inl (by simp)) harr⟩
  | outgrown => exact ⟨_, a₁, w₁, hq, .pass (x := .inLoop c) rfl (fun _ _ => .inl (by simp)) harr⟩

theorem wp_loopI (h : LoopI P c Q a w) : (Code.loop c).wp P Q a w := by
  intro b k cs
  obtain ⟨e, a', w', hq, harr⟩ := h b k cs
  exact ⟨e, a', w', hq, .of_steps (.one step_loop) harr⟩
end

/-- Loops that the evaluator follows are sound. -/
def IHL (P : Program) (ih : Task → Option Out) : Prop :=
  ∀ (c : AC) (s : ASt) (e : AEx) (s' : ASt), ih (.code (.loop c) s) = some (.code e s') → ∀ (nt : Nat) (K : List Nat) (b : Code), ccode P nt K b = some c →
    ∀ (φ : Mp) (a : Act) (w : World), SR P nt φ s a w → ∀ Q, Post P nt K φ s w e s' Q → LoopI P b Q a w

section
variable {P : Program} {C : Ctx} {ih : Task → Option Out} {nt : Nat} {K : List Nat}

theorem VR.bool_of {φ : Mp} {t : Bool} {v : Value} (h : VR φ (.bool t) v) : v = .bool t := by simpa only [VR] using h

theorem exec_sound (hC : CtxOK P C) (hi : IHC P ih) (hl : IHL P ih) (hm : P.follows .mixedOrders = true) : ∀ (b : Code) (c : AC), ccode P nt K b = some c → ∀ (s : ASt) (e : AEx) (s' : ASt),
    exec C ih c s = some (e, s') → ∀ (φ : Mp) (a : Act) (w : World), SR P nt φ s a w → ∀ Q, Post P nt K φ s w e s' Q → b.wp P Q a w
  | .skip, c, hc, s, e, s', hs, φ, a, w, hS, Q, hQ => by
    simp only [ccode, Option.some.injEq] at hc
    subst hc
    simp only [exec] at hs
    cases hs
    exact wp_skip (hQ φ _ a w ⟨rfl, hS⟩ (Nx.refl φ _ w))
  | .region id ops d, c, hc, s, e, s', hs, φ, a, w, hS, Q, hQ => by
    simp only [ccode] at hc
    split at hc
    · rename_i as has
      cases d with
      | true =>
        simp only [if_true, Option.some.injEq] at hc
        subst hc
        exact draw_sound hC hi hm has hs hS hQ
      | false =>
        simp only [Bool.false_eq_true, if_false, Option.some.injEq] at hc
        subst hc
        simp only [exec] at hs
        exact region_sound hC hi has hs hS hQ
    · cases hc
  | .seq x y, c, hc, s, e, s', hs, φ, a, w, hS, Q, hQ => by
    simp only [ccode] at hc
    split at hc
    · rename_i cx cy hx hy
      cases hc
      refine wp_seq ?_
      simp only [exec] at hs
      split at hs
      · rename_i s1 h1
        refine exec_sound hC hi hl hm x cx hx s .normal s1 h1 φ a w hS _ ?_
        intro ψ ex a' w' hex hn
        obtain ⟨rfl, hS'⟩ := hex
        exact exec_sound hC hi hl hm y cy hy s1 e s' hs ψ a' w' hS' Q (hQ.nx hn)
      · rename_i hne
        refine exec_sound hC hi hl hm x cx hx s e s' hs φ a w hS _ ?_
        intro ψ ex a' w' hex hn
        have h := hQ ψ ex a' w' hex hn
        cases e with
        | normal => exact absurd hs (hne s')
        | exit id => obtain ⟨rfl, _⟩ := hex; exact h
        | ret => obtain ⟨rfl, _⟩ := hex; exact h
        | pan v => obtain ⟨v', rfl, _⟩ := hex; exact h
    · cases hc
  | .cond z x y, c, hc, s, e, s', hs, φ, a, w, hS, Q, hQ => by
    simp only [ccode] at hc
    split at hc
    · rename_i cz cx cy hz hx hy
      cases hc
      have hrel := opd_rel hS.r hS.fr hz
      simp only [exec] at hs
      split at hs
      · rename_i hb
        rw [hb] at hrel
        exact wp_cond_true hrel.bool_of (exec_sound hC hi hl hm x cx hx s e s' hs φ a w hS Q hQ)
      · rename_i hb
        rw [hb] at hrel
        exact wp_cond_false hrel.bool_of (exec_sound hC hi hl hm y cy hy s e s' hs φ a w hS Q hQ)
      · cases hs
    · cases hc
  | .block id x, c, hc, s, e, s', hs, φ, a, w, hS, Q, hQ => by
    simp only [ccode] at hc
    split at hc
    · rename_i cx hx
      cases hc
      refine wp_block ?_
      simp only [exec] at hs
      split at hs
      · rename_i j s1 h1
        refine exec_sound hC hi hl hm x cx hx s (.exit j) s1 h1 φ a w hS _ ?_
        intro ψ ex a' w' hex hn
        obtain ⟨rfl, hS'⟩ := hex
        simp only [Exit.inBlock]
        by_cases hj : j = id
        · subst hj
          simp only [Nat.beq_refl, if_true, Option.some.injEq, Prod.mk.injEq] at hs
          obtain ⟨rfl, rfl⟩ := hs
          simp only [if_true]
          exact hQ ψ _ a' w' ⟨rfl, hS'⟩ hn
        · have hb : Nat.beq j id = false := by
            cases hb : Nat.beq j id with
            | false => rfl
            | true => exact absurd (Nat.eq_of_beq_eq_true hb) hj
          simp only [hb, Bool.false_eq_true, if_false, Option.some.injEq, Prod.mk.injEq] at hs
          obtain ⟨rfl, rfl⟩ := hs
          simp only [hj, if_false]
          exact hQ ψ _ a' w' ⟨rfl, hS'⟩ hn
      · rename_i hne
        refine exec_sound hC hi hl hm x cx hx s e s' hs φ a w hS _ ?_
        intro ψ ex a' w' hex hn
        have h := hQ ψ ex a' w' hex hn
        cases e with
        | normal => obtain ⟨rfl, _⟩ := hex; exact h
        | exit j => exact absurd hs (hne j s')
        | ret => obtain ⟨rfl, _⟩ := hex; exact h
        | pan v => obtain ⟨v', rfl, _⟩ := hex; exact h
    · cases hc
  | .loop x, c, hc, s, e, s', hs, φ, a, w, hS, Q, hQ => by
    simp only [ccode] at hc
    split at hc
    · rename_i cx hx
      cases hc
      refine wp_loopI (loopI_round ?_)
      simp only [exec] at hs
      split at hs
      · rename_i s1 h1
        refine exec_sound hC hi hl hm x cx hx s .normal s1 h1 φ a w hS _ ?_
        intro ψ ex a' w' hex hn
        obtain ⟨rfl, hS'⟩ := hex
        split at hs
        · rename_i e2 s2 h2
          cases hs
          exact hl cx s1 e s' h2 nt K x hx ψ a' w' hS' Q (hQ.nx hn)
        · cases hs
      · rename_i hne
        refine exec_sound hC hi hl hm x cx hx s e s' hs φ a w hS _ ?_
        intro ψ ex a' w' hex hn
        have h := hQ ψ ex a' w' hex hn
        cases e with
        | normal => exact absurd hs (hne s')
        | exit id => obtain ⟨rfl, _⟩ := hex; exact h
        | ret => obtain ⟨rfl, _⟩ := hex; exact h
        | pan v => obtain ⟨v', rfl, _⟩ := hex; exact h
    · cases hc
  | .rangeFunc .., c, hc, s, e, s', hs, φ, a, w, hS, Q, hQ => by
    simp only [ccode, Option.some.injEq] at hc
    subst hc
    simp [exec] at hs
  | .exit id, c, hc, s, e, s', hs, φ, a, w, hS, Q, hQ => by
    simp only [ccode, Option.some.injEq] at hc
    subst hc
    simp only [exec] at hs
    cases hs
    exact wp_exit (hQ φ _ a w ⟨rfl, hS⟩ (Nx.refl φ _ w))
  | .scope x, c, hc, s, e, s', hs, φ, a, w, hS, Q, hQ => by
    simp only [ccode] at hc
    split at hc
    · rename_i cx hx
      cases hc
      simp only [exec] at hs
      refine wp_scope_straight (exec_sound hC hi hl hm x cx hx s e s' hs φ a w hS _ ?_)
      intro ψ ex a' w' hex hn
      have h := hQ ψ ex a' w' hex hn
      cases e with
      | normal => obtain ⟨rfl, _⟩ := hex; exact h
      | exit id => obtain ⟨rfl, _⟩ := hex; exact h
      | ret => obtain ⟨rfl, _⟩ := hex; exact h
      | pan v => obtain ⟨v', rfl, _⟩ := hex; exact h
    · cases hc
  | .label l, c, hc, s, e, s', hs, φ, a, w, hS, Q, hQ => by
    simp only [ccode, Option.some.injEq] at hc
    subst hc
    simp [exec] at hs
  | .goto l, c, hc, s, e, s', hs, φ, a, w, hS, Q, hQ => by
    simp only [ccode, Option.some.injEq] at hc
    subst hc
    simp [exec] at hs
  | .ret, c, hc, s, e, s', hs, φ, a, w, hS, Q, hQ => by
    simp only [ccode, Option.some.injEq] at hc
    subst hc
    simp only [exec] at hs
    cases hs
    exact wp_ret (hQ φ _ a w ⟨rfl, hS⟩ (Nx.refl φ _ w))
  | .refuse m, c, hc, s, e, s', hs, φ, a, w, hS, Q, hQ => by
    simp only [ccode, Option.some.injEq] at hc
    subst hc
    simp [exec] at hs
end
end Go.Vd
namespace Go.Vd

section
variable {P : Program} {φ : Mp} {H : AH} {w : World} {tm : Tr AV}

/-- A result, read. -/
def resOf (tmps : Array Value) : ResultVar → Sem Value
  | .tmp t => pure (tmps.getD t undef)
  | .cell a t => do loadVar t (← asAddr (tmps.getD a undef))

theorem results_list (hR : R P.globals.size φ H w) {tmps : Array Value} : ∀ {l : List ResultVar} {r : List (Nat × Option (Option Nat))} {vs : List AV}, cRes P l = some r → resR tm H r = some vs →
    (∀ p ∈ r, VR φ (ev tm (.t p.1)) (tmps.getD p.1 undef)) → ∃ us : List Value, (l.mapM (resOf tmps)).run P w = .ok us w ∧ VRs φ vs us
  | [], r, vs, hc, hr, hT => by
    simp only [cRes, Option.some.injEq] at hc
    subst hc
    simp only [resR, Option.some.injEq] at hr
    subst hr
    exact ⟨[], by simp, by simp [VRs]⟩
  | .tmp t :: l, r, vs, hc, hr, hT => by
    simp only [cRes] at hc
    split at hc
    · rename_i m hm
      cases hc
      simp only [resR] at hr
      split at hr
      · rename_i us hus
        cases hr
        obtain ⟨xs, h1, h2⟩ := results_list hR hm hus fun p hp => hT p (List.mem_cons_of_mem _ hp)
        refine ⟨tmps.getD t undef :: xs, ?_, ?_⟩
        · simp only [List.mapM_cons, resOf, Sem.run_bind, Sem.run_pure, Result.andThen_ok, h1]
        · simp only [VRs]
          exact ⟨_, _, rfl, hT _ (List.mem_cons_self ..), h2⟩
      · cases hr
    · cases hc
  | .cell c t :: l, r, vs, hc, hr, hT => by
    simp only [cRes] at hc
    split at hc
    · rename_i d n m hu hsz hm
      cases hc
      obtain ⟨i, hi, hes⟩ := szOf_some hsz
      simp only [resR] at hr
      split at hr
      · rename_i X o us hX hus
        have hrel := hT _ (List.mem_cons_self ..)
        simp only at hrel
        rw [hX] at hrel
        obtain ⟨p, h1, h2⟩ := hrel.ptr_inv
        obtain ⟨xs, g1, g2⟩ := results_list hR hm hus fun p hp => hT p (List.mem_cons_of_mem _ hp)
        have hone : ∀ (v : AV) (v' : Value), VR φ v v' → (loadVar t ⟨p.b, p.base + o, none⟩).run P w = .ok v' w →
            ∃ us' : List Value, ((ResultVar.cell c t :: l).mapM (resOf tmps)).run P w = .ok us' w ∧ VRs φ (v :: us) us' := by
          intro v v' hv hl
          refine ⟨v' :: xs, ?_, ?_⟩
          · simp only [List.mapM_cons, resOf, Sem.run_bind, Sem.run_pure, Result.andThen_ok, h2, asAddr, hl, g1]
          · simp only [VRs]
            exact ⟨_, _, rfl, hv, g2⟩
        cases hagg : isAggD d with
        | true =>
          rw [hagg] at hr
          simp only [if_true] at hr
          split at hr
          · rename_i v hv
            cases hr
            obtain ⟨ys, f1, f2, f3⟩ := hR.run_loadCells (P := P) h1 hv
            refine hone _ (.agg ⟨ys⟩) (by simp only [VR]; exact ⟨ys, rfl, f1⟩) ?_
            simp only [Sem.run_bind, Sem.run_pure, Result.andThen_ok, loadVar, run_isAgg' hu, hagg, if_true, run_sizeOf' hi, hes, f3]
          · cases hr
        | false =>
          rw [hagg] at hr
          simp only [Bool.false_eq_true, if_false] at hr
          split at hr
          · rename_i v hv
            cases hr
            obtain ⟨v', f1, f2⟩ := hR.rd h1 hv
            refine hone _ v' f2 ?_
            simp only [Sem.run_bind, Sem.run_pure, Result.andThen_ok, loadVar, run_isAgg' hu, hagg, Bool.false_eq_true, if_false, run_load' f1]
          · cases hr
      · cases hr
    · cases hc

/-- What a function's results come to. -/
def oneOf : List AV → AV
  | [v] => v
  | vs => .tup vs

theorem results_run (hR : R P.globals.size φ H w) {fn : Func} {tmps : Array Value} {r : List (Nat × Option (Option Nat))} {vs : List AV} (hc : cRes P fn.results.toList = some r) (hr : resR tm H r = some vs)
    (hT : ∀ p ∈ r, VR φ (ev tm (.t p.1)) (tmps.getD p.1 undef)) : ∃ v, (results fn tmps).run P w = .ok v w ∧ VR φ (oneOf vs) v := by
  obtain ⟨us, h1, h2⟩ := results_list hR hc hr hT
  have hl := h2.length
  have h3 : (results fn tmps).run P w = .ok (if h : us.toArray.size = 1 then us.toArray[0] else .tuple us.toArray) w := by
    have e : results fn tmps = (fn.results.mapM (resOf tmps) >>= fun vs => pure (if h : vs.size = 1 then vs[0] else .tuple vs)) := rfl
    rw [e, Array.mapM_eq_mapM_toList]
    simp only [Sem.run_bind, Sem.run_map, h1, Result.andThen_ok, Sem.run_pure, map_eq_pure_bind]
  refine ⟨_, h3, ?_⟩
  match vs, us, h2, hl with
  | [], [], h2, _ =>
    simp only [oneOf, VR, VRs]
    exact ⟨[], by simp, rfl⟩
  | [v], [u], h2, _ =>
    simp only [VRs] at h2
    obtain ⟨x, xs, e, h4, h5⟩ := h2
    cases e
    simpa [oneOf] using h4
  | v1 :: v2 :: vs, u1 :: u2 :: us, h2, _ =>
    simp only [oneOf, VR]
    exact ⟨u1 :: u2 :: us, by simp, h2⟩

end
end Go.Vd
namespace Go.Vd

/-- The mode of a frame whose deferred functions run. -/
def PSR (φ : Mp) : PS → FrameMode → Prop
  | none, u => u = .returning
  | some (v, b), u => ∃ v', u = .panicking [{ v := v', recovered := b }] ∧ VR φ v v'

theorem PSR.mono {φ ψ : Mp} (h : Le φ ψ) {p : PS} {u : FrameMode} (hp : PSR φ p u) : PSR ψ p u := by
  cases p with
  | none => exact hp
  | some x =>
    obtain ⟨v', h1, h2⟩ := hp
    exact ⟨v', h1, VR.mono h _ _ h2⟩

structure FnsOK (P : Program) (C : Ctx) : Prop where
  fns : ∀ f af, C.fns f = some af → ∃ fn, P.funcs[f]? = some fn ∧ cfn P fn = some af ∧ (fn.name == "runtime.NumGoroutine") = false
  orc : ∀ f g as H r H', C.orc f = some g → g as H = some (r, H') → Enters P f ∧ ∀ φ w (args : List Value), R P.globals.size φ H w → VRs φ as args → Calls P f ⟨args⟩ w (CPost P φ H w r H')
  mix : P.follows .mixedOrders = true

section
variable {P : Program} {C : Ctx} {ih : Task → Option Out} {nt : Nat} {K : List Nat}

theorem cfn_spec {fn : Func} {af : AF} (h : cfn P fn = some af) : ∃ b, fn.body = some b ∧ ccode P fn.ntmps (keeps af.res) b = some af.code ∧ cRes P fn.results.toList = some af.res := by
  unfold cfn at h
  split at h
  · rename_i b hb
    split at h
    · rename_i r hr
      split at h
      · rename_i c hc
        cases h
        exact ⟨b, hb, hc, hr⟩
      · cases h
    · cases h
  · cases h

theorem FnsOK.enters (hf : FnsOK P C) {f : Nat} {af : AF} (h : C.fns f = some af) : Enters P f := by
  obtain ⟨fn, h1, h2, h3⟩ := hf.fns f af h
  obtain ⟨b, h4, _⟩ := cfn_spec h2
  exact ⟨fn, h1, by rw [h4]; rfl, h3⟩

theorem opsD_sound (hC : CtxOK P C) (hi : IHC P ih) {ops : Array Oper} {c₀ : Frame} {cs : List Frame} {Q : Exit → Act → List Frame → World → Prop} : ∀ (l : List AOper) (is : List Nat),
    is.length = l.length → (∀ (j i : Nat) (ao : AOper), is[j]? = some i → l[j]? = some ao → ∃ o, ops[i]? = some o ∧ cOper P nt ops.toList o = some ao) →
    ∀ (φ : Mp) (s : ASt) (p : PS) (u : FrameMode) (a : Act) (w : World) (s' : ASt) (q : PS), opsD C ih l s p = some (s', q) → SR P nt φ s a w → PSR φ p u →
      (∀ ψ a' w' u', SR P nt ψ s' a' w' → PSR ψ q u' → Nx φ s.hp w ψ s'.hp w' → Q .normal a' ({ c₀ with mode := u' } :: cs) w') → wpOpsS P ops Q is a ({ c₀ with mode := u } :: cs) w
  | [], is, hl, _, φ, s, p, u, a, w, s', q, hs, hS, hp, hQ => by
    have : is = [] := List.length_eq_zero_iff.1 hl
    subst this
    simp only [opsD] at hs
    cases hs
    simp only [wpOpsS]
    exact hQ φ a w u hS hp (Nx.refl φ _ w)
  | ao :: l, [], hl, _, φ, s, p, u, a, w, s', q, hs, hS, hp, hQ => by simp at hl
  | ao :: l, i :: is, hl, hcs, φ, s, p, u, a, w, s', q, hs, hS, hp, hQ => by
    obtain ⟨o, ho, hco⟩ := hcs 0 i ao (by simp) (by simp)
    obtain ⟨h1, h2, h3, h4⟩ := cOper_spec hco
    have hw := wanted_rel (ao := ao) hS.fr h3
    have hd : ∀ d, o.dst = some d → d < a.tmps.size := fun d e => Nat.lt_of_lt_of_le (h4 d e) hS.sz
    have hrec := opsD_sound hC hi (Q := Q) (c₀ := c₀) (cs := cs) l is (by simpa using hl) (fun j i ao e1 e2 => hcs (j + 1) i ao (by simpa using e1) (by simpa using e2))
    have hgo : ∀ (v : AV) (H : AH) (p' : PS) (u' : FrameMode) (ψ : Mp) (v' : Value) (w' : World), opsD C ih l ⟨putT s.tm ao.dst v, s.df, H⟩ p' = some (s', q) → R P.globals.size ψ H w' → Nx φ s.hp w ψ H w' →
        VR ψ v v' → PSR ψ p' u' → wpOpsS P ops Q is (a.put o.dst v') ({ c₀ with mode := u' } :: cs) w' := by
      intro v H p' u' ψ v' w' hs' hR hn hv hp'
      refine hrec ψ _ p' u' _ w' s' q hs' ⟨?_, ?_, hR, ?_⟩ hp' fun χ a2 w2 u2 g1 g2 g3 => hQ χ a2 w2 u2 g1 g2 (hn.trans g3)
      · rw [h1]
        exact (hS.fr.mono hn.le).put hv hd
      · rw [put_defers]
        exact hS.df.mono hn.le
      · rw [put_size]
        exact hS.sz
    simp only [wpOpsS, ho]
    simp only [opsD, astep] at hs
    split
    · rename_i hwt
      rw [hw] at hwt
      simp only [hwt, if_true] at hs
      split at hs
      · rename_i v H hf
        have := oper_go (o := o) (a := a) (Q := fun e a' w' => Q e a' ({ c₀ with mode := u } :: cs) w') (K := fun a' w' => wpOpsS P ops Q is a' ({ c₀ with mode := u } :: cs) w') hC hi hS.r hS.fr h2 hf
          fun ψ v' w' g1 g2 g3 => hgo v H p u ψ v' w' hs g1 g2 g3 (hp.mono g2.le)
        unfold Oper.wp at this
        generalize (execOp a.eval o).run P w = r at this ⊢
        cases r with
        | ok n w' => cases n <;> first
          | exact this
          | exact this.elim
        | halt x w' => exact this
      · rename_i hf
        rw [oper_rcv h2 hf]
        simp only
        split at hs
        · rename_i v
          obtain ⟨v', e1, e2⟩ := hp
          subst e1
          simp only [recoverD]
          exact hgo v s.hp (some (v, true)) (.panicking [{ v := v', recovered := true }]) φ v' w hs hS.r (Nx.refl φ s.hp w) e2 ⟨v', rfl, e2⟩
        · rename_i hne
          have hno : recoverD ({ c₀ with mode := u } :: cs) = none := by
            cases p with
            | none =>
              have hp : u = .returning := hp
              subst hp
              rfl
            | some x =>
              obtain ⟨v, b⟩ := x
              obtain ⟨v', e1, e2⟩ := hp
              subst e1
              cases b with
              | true => rfl
              | false => exact absurd rfl (hne v)
          rw [hno]
          simp only
          exact hgo .nili s.hp p u φ .nilIface w hs hS.r (Nx.refl φ s.hp w) (by simp [VR]) hp
      · cases hs
    · rename_i hwt
      rw [hw] at hwt
      simp only [hwt, if_false, Bool.false_eq_true] at hs
      exact hgo _ _ p u φ undef w hs hS.r (Nx.refl φ s.hp w) VR.und hp

theorem execD_exec (hC : CtxOK P C) (hi : IHC P ih) (hl : IHL P ih) (hm : P.follows .mixedOrders = true) {b : Code} {c : AC} (hc : ccode P nt K b = some c) {s : ASt} {p : PS} {e : AEx} {s' : ASt} {q : PS}
    (hx : execD C ih c s p = match exec C ih c s with
      | some (e, s') => some (e, s', p)
      | none => none) (hs : execD C ih c s p = some (e, s', q)) {φ : Mp} {a : Act} {w : World} (hS : SR P nt φ s a w) {u : FrameMode} (hp : PSR φ p u) {c₀ : Frame} {cs : List Frame}
    {Q : Exit → Act → List Frame → World → Prop}
    (hQ : ∀ ψ ex a' w' u', ExR P nt K ψ e s' ex a' w' → PSR ψ q u' → Nx φ s.hp w ψ s'.hp w' → Q ex a' ({ c₀ with mode := u' } :: cs) w') : b.wpS P Q a ({ c₀ with mode := u } :: cs) w := by
  rw [hx] at hs
  split at hs
  · rename_i e1 s1 h1
    cases hs
    exact wpS_of_wp (exec_sound hC hi hl hm b c hc s e s' h1 φ a w hS _ fun ψ ex a' w' g1 g2 => hQ ψ ex a' w' u g1 (hp.mono g2.le) g2)
  · cases hs

theorem execD_sound (hC : CtxOK P C) (hi : IHC P ih) (hl : IHL P ih) (hm : P.follows .mixedOrders = true) {c₀ : Frame} {cs : List Frame} : ∀ (b : Code) (c : AC), ccode P nt K b = some c →
    ∀ (s : ASt) (p : PS) (e : AEx) (s' : ASt) (q : PS), execD C ih c s p = some (e, s', q) → ∀ (φ : Mp) (a : Act) (w : World), SR P nt φ s a w → ∀ (u : FrameMode), PSR φ p u →
    ∀ (Q : Exit → Act → List Frame → World → Prop),
    (∀ ψ ex a' w' u', ExR P nt K ψ e s' ex a' w' → PSR ψ q u' → Nx φ s.hp w ψ s'.hp w' → Q ex a' ({ c₀ with mode := u' } :: cs) w') → b.wpS P Q a ({ c₀ with mode := u } :: cs) w
  | .region id ops d, c, hc, s, p, e, s', q, hs, φ, a, w, hS, u, hp, Q, hQ => by
    have hc0 := hc
    simp only [ccode] at hc
    split at hc
    · rename_i as has
      cases d with
      | true =>
        simp only [if_true, Option.some.injEq] at hc
        subst hc
        refine execD_exec hC hi hl hm hc0 ?_ hs hS hp hQ
        unfold cDraw
        simp only
        split <;> rfl
      | false =>
        simp only [Bool.false_eq_true, if_false, Option.some.injEq] at hc
        subst hc
        simp only [execD] at hs
        split at hs
        · rename_i s1 q1 h1
          cases hs
          refine wpS_region (opsD_sound hC hi as _ ?_ ?_ φ s p u a w s' q h1 hS hp fun ψ a' w' u' g1 g2 g3 => hQ ψ _ a' w' u' ⟨rfl, g1⟩ g2 g3)
          · simp [(cOpers_get has).1]
          · intro j i ao h1 h2
            have hj : j < ops.size := by
              rcases Nat.lt_or_ge j ops.size with h | h
              · exact h
              · rw [List.getElem?_eq_none (by simpa using h)] at h1; cases h1
            have : i = j := by
              rw [List.getElem?_range hj] at h1
              cases h1; rfl
            subst this
            have ho : ops.toList[i]? = some ops[i] := by simp [hj]
            obtain ⟨ao', h3, h4⟩ := (cOpers_get has).2 i _ ho
            rw [h2] at h3
            cases h3
            exact ⟨ops[i], by simp [hj], h4⟩
        · cases hs
    · cases hc
  | .seq x y, c, hc, s, p, e, s', q, hs, φ, a, w, hS, u, hp, Q, hQ => by
    simp only [ccode] at hc
    split at hc
    · rename_i cx cy hx hy
      cases hc
      refine wpS_seq ?_
      simp only [execD] at hs
      split at hs
      · rename_i s1 q1 h1
        refine execD_sound hC hi hl hm x cx hx s p .normal s1 q1 h1 φ a w hS u hp _ ?_
        intro ψ ex a' w' u' hex hp' hn
        obtain ⟨rfl, hS'⟩ := hex
        exact execD_sound hC hi hl hm y cy hy s1 q1 e s' q hs ψ a' w' hS' u' hp' Q fun χ ex a2 w2 u2 g1 g2 g3 => hQ χ ex a2 w2 u2 g1 g2 (hn.trans g3)
      · rename_i hne
        refine execD_sound hC hi hl hm x cx hx s p e s' q hs φ a w hS u hp _ ?_
        intro ψ ex a' w' u' hex hp' hn
        have h := hQ ψ ex a' w' u' hex hp' hn
        cases e with
        | normal => exact absurd hs (hne s' q)
        | exit id => obtain ⟨rfl, _⟩ := hex; exact h
        | ret => obtain ⟨rfl, _⟩ := hex; exact h
        | pan v => obtain ⟨v', rfl, _⟩ := hex; exact h
    · cases hc
  | .skip, c, hc, s, p, e, s', q, hs, φ, a, w, hS, u, hp, Q, hQ => by
    have hc0 := hc
    simp only [ccode, Option.some.injEq] at hc
    subst hc
    exact execD_exec hC hi hl hm hc0 rfl hs hS hp hQ
  | .cond z x y, c, hc, s, p, e, s', q, hs, φ, a, w, hS, u, hp, Q, hQ => by
    have hc0 := hc
    simp only [ccode] at hc
    split at hc
    · cases hc
      exact execD_exec hC hi hl hm hc0 rfl hs hS hp hQ
    · cases hc
  | .block id x, c, hc, s, p, e, s', q, hs, φ, a, w, hS, u, hp, Q, hQ => by
    have hc0 := hc
    simp only [ccode] at hc
    split at hc
    · cases hc
      exact execD_exec hC hi hl hm hc0 rfl hs hS hp hQ
    · cases hc
  | .loop x, c, hc, s, p, e, s', q, hs, φ, a, w, hS, u, hp, Q, hQ => by
    have hc0 := hc
    simp only [ccode] at hc
    split at hc
    · cases hc
      exact execD_exec hC hi hl hm hc0 rfl hs hS hp hQ
    · cases hc
  | .scope x, c, hc, s, p, e, s', q, hs, φ, a, w, hS, u, hp, Q, hQ => by
    have hc0 := hc
    simp only [ccode] at hc
    split at hc
    · cases hc
      exact execD_exec hC hi hl hm hc0 rfl hs hS hp hQ
    · cases hc
  | .rangeFunc .., c, hc, s, p, e, s', q, hs, φ, a, w, hS, u, hp, Q, hQ => by
    have hc0 := hc
    simp only [ccode, Option.some.injEq] at hc
    subst hc
    exact execD_exec hC hi hl hm hc0 rfl hs hS hp hQ
  | .exit _, c, hc, s, p, e, s', q, hs, φ, a, w, hS, u, hp, Q, hQ => by
    have hc0 := hc
    simp only [ccode, Option.some.injEq] at hc
    subst hc
    exact execD_exec hC hi hl hm hc0 rfl hs hS hp hQ
  | .label _, c, hc, s, p, e, s', q, hs, φ, a, w, hS, u, hp, Q, hQ => by
    have hc0 := hc
    simp only [ccode, Option.some.injEq] at hc
    subst hc
    exact execD_exec hC hi hl hm hc0 rfl hs hS hp hQ
  | .goto _, c, hc, s, p, e, s', q, hs, φ, a, w, hS, u, hp, Q, hQ => by
    have hc0 := hc
    simp only [ccode, Option.some.injEq] at hc
    subst hc
    exact execD_exec hC hi hl hm hc0 rfl hs hS hp hQ
  | .ret, c, hc, s, p, e, s', q, hs, φ, a, w, hS, u, hp, Q, hQ => by
    have hc0 := hc
    simp only [ccode, Option.some.injEq] at hc
    subst hc
    exact execD_exec hC hi hl hm hc0 rfl hs hS hp hQ
  | .refuse _, c, hc, s, p, e, s', q, hs, φ, a, w, hS, u, hp, Q, hQ => by
    have hc0 := hc
    simp only [ccode, Option.some.injEq] at hc
    subst hc
    exact execD_exec hC hi hl hm hc0 rfl hs hS hp hQ

theorem ev_tmOf : ∀ (l : List AV) (n : Nat) (T : Tr AV) (t : Nat), ev (tmOf n l T) (.t t) = if n ≤ t ∧ t < n + l.length then l.getD (t - n) .und else ev T (.t t)
  | [], n, T, t => by
    simp only [tmOf, List.length_nil, Nat.add_zero]
    rw [if_neg (by omega)]
  | x :: l, n, T, t => by
    simp only [tmOf, List.length_cons]
    rw [ev_tmOf l (n + 1), ev_set]
    by_cases h1 : t = n
    · subst h1
      rw [if_neg (by omega), if_pos rfl, if_pos (by omega)]
      simp
    · by_cases h2 : n + 1 ≤ t ∧ t < n + 1 + l.length
      · rw [if_pos h2, if_pos (by omega)]
        have : t - n = (t - (n + 1)) + 1 := by omega
        rw [this]
        simp
      · rw [if_neg h2, if_neg h1, if_neg (by omega)]

theorem enter_FR {φ : Mp} {as : List AV} {args : List Value} (h : VRs φ as args) (n : Nat) :
    FR φ (tmOf 0 as .nil) { tmps := (⟨args⟩ : Array Value) ++ Array.replicate (n - (⟨args⟩ : Array Value).size) undef, defers := [] } := by
  intro t
  rw [ev_tmOf]
  have hl := h.length
  simp only [Nat.zero_le, true_and, Nat.zero_add, Nat.sub_zero, Array.getD_eq_getD_getElem?]
  split
  · rename_i ht
    have h1 : as[t]? = some as[t] := by simp [ht]
    obtain ⟨v, h2, h3⟩ := h.get t _ h1
    have ht' : t < args.length := by omega
    rw [Array.getElem?_append_left (by simpa using ht')]
    simp only [List.getElem?_toArray, h2, Option.getD_some]
    simp only [List.getD, h1, Option.getD_some]
    exact h3
  · rename_i ht
    have ht' : args.length ≤ t := by omega
    rw [Array.getElem?_append_right (by simpa using ht')]
    have e : ev (Tr.nil : Tr AV) (.t t) = .und := rfl
    rw [e, Array.getElem?_replicate]
    split <;> exact VR.und

theorem invoke_fn {f : Nat} (he : Enters P f) (cap args : List Value) (w : World) : (invoke (.fn (.func f) ⟨cap⟩) ⟨args⟩).run P w = .ok (.enter f ⟨args ++ cap⟩) w := by
  have : (⟨args⟩ : Array Value) ++ ⟨cap⟩ = ⟨args ++ cap⟩ := by apply Array.ext'; simp
  simp only [invoke, this]
  exact run_callFunc he _

theorem leaves_sound (hf : FnsOK P C) (hC : CtxOK P C) (hi : IHC P ih) (hl : IHL P ih) {fn : Func} {tmps : Array Value} {Rr : Ending → World → Prop} {H' : AH} {q : PS} : ∀ (df : List (Nat × List AV)) (H : AH) (p : PS),
    defersR C ih df H p = some (H', q) → (∀ v, p ≠ some (v, true)) → ∀ (φ : Mp) (w : World) (ds : List Deferred) (u : FrameMode), R P.globals.size φ H w → DfR φ df ds → PSR φ p u →
      (∀ ψ w' u', R P.globals.size ψ H' w' → Nx φ H w ψ H' w' → PSR ψ q u' → (∀ v, q ≠ some (v, true)) → Leaves P fn tmps Rr [] u' w') → Leaves P fn tmps Rr ds u w
  | [], H, p, hs, hne, φ, w, ds, u, hR, hd, hp, hfin => by
    simp only [DfR] at hd
    subst hd
    simp only [defersR] at hs
    cases hs
    exact hfin φ w u hR (Nx.refl φ _ w) hp hne
  | (f, as) :: l, H, p, hs, hne, φ, w, ds, u, hR, hd, hp, hfin => by
    simp only [DfR] at hd
    obtain ⟨cap, args, rest, rfl, hv, hd⟩ := hd
    simp only [defersR] at hs
    split at hs
    · cases hs
    · rename_i af haf
      split at hs
      · rename_i e s q1 hx
        split at hs
        all_goals first
          | (cases hs; done)
          | skip
        all_goals
          rename_i hdf hres
          obtain ⟨fn', g1, g2, g3⟩ := hf.fns f af haf
          obtain ⟨b, g4, g5, g6⟩ := cfn_spec g2
          have hu : u ≠ .run := by
            cases p with
            | none => have hp : u = .returning := hp; subst hp; simp
            | some x => obtain ⟨v, b⟩ := x; obtain ⟨v', e1, _⟩ := hp; subst e1; simp
          refine leaves_cons hu (invoke_fn (hf.enters haf) cap args w) (callsD_of_wpS g1 g4 ?_)
          intro c₀ cs hmode
          have hc : ({ c₀ with mode := u } : Frame) = c₀ := by subst hmode; rfl
          rw [← hc]
          refine execD_sound hC hi hl hf.mix b af.code g5 _ p _ s q1 hx φ _ w ⟨enter_FR hv _, rfl, hR, by simp; omega⟩ u hp _ ?_
          intro ψ ex a' w' u' hex hp' hn
          obtain ⟨rfl, hS⟩ := hex
          obtain ⟨v, r1, r2⟩ := results_run hS.r g6 hres fun pr _ => hS.fr pr.1
          have hdf' : a'.defers = [] := by
            have := hS.df
            rw [hdf] at this
            exact this
          refine ⟨hdf', u', rfl, v, r1, ?_⟩
          refine leaves_sound hf hC hi hl l s.hp _ hs ?_ ψ w' rest _ hS.r (hd.mono hn.le) ?_ fun χ w2 u2 k1 k2 k3 => hfin χ w2 u2 k1 (hn.trans k2) k3
          · intro x hx
            split at hx
            · cases hx
            · rename_i hq; exact hq x hx
          · cases q1 with
            | none =>
              have hp' : u' = .returning := hp'
              subst hp'
              rfl
            | some x =>
              obtain ⟨x, bb⟩ := x
              obtain ⟨x', e1, e2⟩ := hp'
              subst e1
              cases bb with
              | true => rfl
              | false => exact ⟨x', rfl, e2⟩
      · cases hs

theorem keeps_mem : ∀ {r : List (Nat × Option (Option Nat))}, allCells r = true → ∀ p ∈ r, p.1 ∈ keeps r
  | [], _, p, hp => by cases hp
  | (t, some c) :: r, h, p, hp => by
    simp only [allCells] at h
    rcases List.mem_cons.1 hp with e | e
    · subst e; simp [keeps]
    · simp only [keeps, List.mem_cons]
      exact .inr (keeps_mem h p e)
  | (t, none) :: r, h, p, hp => by simp [allCells] at h

theorem leave_sound (hf : FnsOK P C) (hC : CtxOK P C) (hi : IHC P ih) (hl : IHL P ih) {fn : Func} {af : AF} (hres : cRes P fn.results.toList = some af.res) {s : ASt} {p : PS} {r : ARes} {H' : AH}
    (hs : leave C ih af s p = some (.call r H')) (hne : ∀ v, p ≠ some (v, true)) {φ0 : Mp} {H0 : AH} {w0 : World} {φ : Mp} {a : Act} {w : World} {u : FrameMode} (hR : R P.globals.size φ s.hp w) (hd : DfR φ s.df a.defers)
    (hp : PSR φ p u) (hn : Nx φ0 H0 w0 φ s.hp w) (hT : (p = none ∨ allCells af.res = true) → ∀ pr ∈ af.res, VR φ (ev s.tm (.t pr.1)) (a.tmps.getD pr.1 undef)) :
    Leaves P fn a.tmps (CPost P φ0 H0 w0 r H') a.defers u w := by
  unfold leave at hs
  split at hs
  · rename_i H1 hdf
    rw [Option.ite_none_right_eq_some] at hs
    obtain ⟨hc, hs⟩ := hs
    refine leaves_sound hf hC hi hl s.df s.hp p hdf hne φ w a.defers u hR hd hp ?_
    intro ψ w' u' g1 g2 g3 _
    have g3 : u' = .returning := g3
    subst g3
    have hT' := hT (by
      cases p with
      | none => exact .inl rfl
      | some x => simp at hc; exact .inr hc)
    have hfin : ∀ vs, resR s.tm H1 af.res = some vs → some (Out.call (.ret (oneOf vs)) H1) = some (.call r H') → Leaves P fn a.tmps (CPost P φ0 H0 w0 r H') [] .returning w' := by
      intro vs hvs he
      cases he
      obtain ⟨v, r1, r2⟩ := results_run (fn := fn) (tmps := a.tmps) g1 hres hvs fun pr hpr => VR.mono g2.le _ _ (hT' pr hpr)
      exact ⟨v, r1, ψ, _, rfl, g1, hn.trans g2, r2⟩
    split at hs
    · rename_i v hv
      exact hfin [v] hv hs
    · rename_i vs hvs hv
      refine hfin vs hv ?_
      have : oneOf vs = .tup vs := by
        match vs, hvs with
        | [], _ => rfl
        | [x], h => exact absurd rfl (h x)
        | x :: y :: l, _ => rfl
      rw [this]
      exact hs
    · cases hs
  · rename_i H1 v hdf
    cases hs
    refine leaves_sound hf hC hi hl s.df s.hp p hdf hne φ w a.defers u hR hd hp ?_
    intro ψ w' u' g1 g2 g3 _
    obtain ⟨v', e1, e2⟩ := g3
    subst e1
    exact ⟨ψ, v, v', rfl, rfl, g1, hn.trans g2, e2⟩
  · cases hs

theorem call_sound (hf : FnsOK P C) (hC : CtxOK P C) (hi : IHC P ih) (hl : IHL P ih) {f : Nat} {as : List AV} {H : AH} {r : ARes} {H' : AH} (hs : callR C ih f as H = some (.call r H')) :
    Enters P f ∧ ∀ φ w (args : List Value), R P.globals.size φ H w → VRs φ as args → Calls P f ⟨args⟩ w (CPost P φ H w r H') := by
  unfold callR at hs
  split at hs
  · rename_i g hg
    split at hs
    · rename_i r1 H1 hr
      cases hs
      exact hf.orc f g as H r H' hg hr
    · cases hs
  · split at hs
    · cases hs
    · rename_i af haf
      refine ⟨hf.enters haf, ?_⟩
      intro φ w args hR hv
      obtain ⟨fn, g1, g2, g3⟩ := hf.fns f af haf
      obtain ⟨b, g4, g5, g6⟩ := cfn_spec g2
      refine calls_of_wp_defers g1 g4 ?_
      have hS : SR P fn.ntmps φ ⟨tmOf 0 as .nil, [], H⟩ { tmps := (⟨args⟩ : Array Value) ++ Array.replicate (fn.ntmps - (⟨args⟩ : Array Value).size) undef, defers := [] } w :=
        ⟨enter_FR hv _, rfl, hR, by simp; omega⟩
      split at hs
      · rename_i s hx
        refine exec_sound hC hi hl hf.mix b af.code g5 _ _ s hx φ _ w hS _ ?_
        intro ψ ex a' w' hex hn
        obtain ⟨rfl, hS'⟩ := hex
        exact leave_sound hf hC hi hl g6 hs (fun v e => by cases e) hS'.r hS'.df rfl hn fun _ pr _ => hS'.fr pr.1
      · rename_i s hx
        refine exec_sound hC hi hl hf.mix b af.code g5 _ _ s hx φ _ w hS _ ?_
        intro ψ ex a' w' hex hn
        obtain ⟨rfl, hS'⟩ := hex
        exact leave_sound hf hC hi hl g6 hs (fun v e => by cases e) hS'.r hS'.df rfl hn fun _ pr _ => hS'.fr pr.1
      · rename_i v s hx
        refine exec_sound hC hi hl hf.mix b af.code g5 _ _ s hx φ _ w hS _ ?_
        intro ψ ex a' w' hex hn
        obtain ⟨v', rfl, h1, h2, h3, h4⟩ := hex
        exact leave_sound hf hC hi hl g6 hs (fun v e => by cases e) h4 h3 ⟨v', rfl, h1⟩ hn fun h pr hpr => by
          rcases h with h | h
          · cases h
          · exact h2 pr.1 (keeps_mem h pr hpr)
      · cases hs

theorem loop_sound (hf : FnsOK P C) (hC : CtxOK P C) (hi : IHC P ih) (hl : IHL P ih) {c : AC} {s : ASt} {e : AEx} {s' : ASt} (hs : exec C ih (.loop c) s = some (e, s')) {b : Code} (hc : ccode P nt K b = some c)
    {φ : Mp} {a : Act} {w : World} (hS : SR P nt φ s a w) {Q : Exit → Act → World → Prop} (hQ : Post P nt K φ s w e s' Q) : LoopI P b Q a w := by
  refine loopI_round ?_
  simp only [exec] at hs
  split at hs
  · rename_i s1 h1
    refine exec_sound hC hi hl hf.mix b c hc s .normal s1 h1 φ a w hS _ ?_
    intro ψ ex a' w' hex hn
    obtain ⟨rfl, hS'⟩ := hex
    split at hs
    · rename_i e2 s2 h2
      cases hs
      exact hl c s1 e s' h2 nt K b hc ψ a' w' hS' Q (hQ.nx hn)
    · cases hs
  · rename_i hne
    refine exec_sound hC hi hl hf.mix b c hc s e s' hs φ a w hS _ ?_
    intro ψ ex a' w' hex hn
    have h := hQ ψ ex a' w' hex hn
    cases e with
    | normal => exact absurd hs (hne s')
    | exit id => obtain ⟨rfl, _⟩ := hex; exact h
    | ret => obtain ⟨rfl, _⟩ := hex; exact h
    | pan v => obtain ⟨v', rfl, _⟩ := hex; exact h

theorem run_sound (hf : FnsOK P C) (hC : CtxOK P C) : ∀ (n : Nat), IHC P (run C n) ∧ IHL P (run C n)
  | 0 => ⟨fun f as H r H' h => by simp [run] at h, fun c s e s' h => by simp [run] at h⟩
  | n + 1 => by
    obtain ⟨hi, hl⟩ := run_sound hf hC n
    constructor
    · intro f as H r H' h
      simp only [run] at h
      exact call_sound hf hC hi hl h
    · intro c s e s' h nt K b hc φ a w hS Q hQ
      simp only [run] at h
      split at h
      · rename_i e1 s1 h1
        cases h
        exact loop_sound hf hC hi hl h1 hc hS hQ
      · cases h

/-- The evaluator's calls are the model's. -/
theorem run_calls (hf : FnsOK P C) (hC : CtxOK P C) {n f : Nat} {as : List AV} {H : AH} {r : ARes} {H' : AH} (h : run C n (.call f as H) = some (.call r H')) {φ : Mp} {w : World} {args : List Value}
    (hR : R P.globals.size φ H w) (hv : VRs φ as args) : Calls P f ⟨args⟩ w (CPost P φ H w r H') :=
  ((run_sound hf hC n).1 f as H r H' h).2 φ w args hR hv
end
end Go.Vd
