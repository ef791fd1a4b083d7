/- Regions that draw: what the evaluator's run of a region tells. -/
import Derived.Test.YtabgoidablkmjaaGreatDoorVd20
set_option linter.unusedVariables false
set_option linter.unusedSimpArgs false
namespace Go.Vd

theorem countP_lt {l : List Nat} {p q : Nat → Bool} (h : ∀ x ∈ l, p x = true → q x = true) {i : Nat} (hi : i ∈ l) (hp : p i = false) (hq : q i = true) : l.countP p < l.countP q := by
  induction l with
  | nil => cases hi
  | cons x l ih =>
    have hle : l.countP p ≤ l.countP q := List.countP_mono_left fun y hy => h y (List.mem_cons_of_mem _ hy)
    rcases List.mem_cons.1 hi with e | e
    · subst e
      rw [List.countP_cons, List.countP_cons, hp, hq]
      simp
      omega
    · have h1 := ih (fun y hy => h y (List.mem_cons_of_mem _ hy)) e
      rw [List.countP_cons, List.countP_cons]
      have h2 := h x (List.mem_cons_self ..)
      cases hx : p x
      · simp; split <;> omega
      · rw [h2 hx]; simp; omega

section
variable {C : Ctx} {ih : Task → Option Out}

theorem agree_spec {a b : Tr AV} : ∀ {l : List Nat}, agree a b l = true → ∀ t ∈ l, ev a (.t t) = ev b (.t t)
  | [], _, t, ht => by cases ht
  | x :: l, h, t, ht => by
    simp only [agree, Bool.and_eq_true] at h
    rcases List.mem_cons.1 ht with e | e
    · subst e; exact AV.beq_eq _ _ h.1
    · exact agree_spec h.2 t e

theorem heavOK_spec {tm : Tr AV} : ∀ {ts : List (Tr AV × AV)} {hv : List AOper}, heavOK tm ts hv = true → ∀ (k : Nat) (t1 : Tr AV) (v : AV) (o : AOper), ts[k]? = some (t1, v) → hv[k]? = some o →
    (∀ t ∈ o.tl, ev t1 (.t t) = ev tm (.t t)) ∧ dstOK tm o.dst v = true
  | [], _, _, k, t1, v, o, h1, _ => by simp at h1
  | (t, u) :: ts, [], h, k, t1, v, o, _, h2 => by simp at h2
  | (t, u) :: ts, p :: hv, h, k, t1, v, o, h1, h2 => by
    simp only [heavOK, Bool.and_eq_true] at h
    cases k with
    | zero =>
      simp at h1 h2
      obtain ⟨rfl, rfl⟩ := h1
      subst h2
      exact ⟨agree_spec h.1.1, h.1.2⟩
    | succ k => exact heavOK_spec h.2 k t1 v o (by simpa using h1) (by simpa using h2)

theorem again_spec {tm : Tr AV} {H : AH} : ∀ {l : List AOper}, again C tm H l = true → ∀ o ∈ l, ∃ v, valR C tm H o = some v ∧ dstOK tm o.dst v = true
  | [], _, o, ho => by cases ho
  | p :: l, h, o, ho => by
    simp only [again, Bool.and_eq_true] at h
    rcases List.mem_cons.1 ho with e | e
    · subst e
      have h1 := h.1
      split at h1
      · rename_i v hv; exact ⟨v, hv, h1⟩
      · cases h1
    · exact again_spec h.2 o e

theorem againAll_spec {tm : Tr AV} : ∀ {Hs : List AH} {wins : List (List AOper)}, againAll C tm Hs wins = true → ∀ (m : Nat) (H : AH) (l : List AOper), Hs[m]? = some H → wins[m]? = some l → again C tm H l = true
  | [], _, _, m, H, l, h1, _ => by simp at h1
  | _ :: _, [], h, m, H, l, _, h2 => by simp at h2
  | G :: Hs, q :: wins, h, m, H, l, h1, h2 => by
    simp only [againAll, Bool.and_eq_true] at h
    cases m with
    | zero =>
      simp at h1 h2
      subst h1; subst h2
      exact h.1
    | succ m => exact againAll_spec h.2 m H l (by simpa using h1) (by simpa using h2)

theorem putT_ne {tm : Tr AV} {d : Option Nat} {v : AV} {t : Nat} (h : d ≠ some t) : ev (putT tm d v) (.t t) = ev tm (.t t) := by
  cases d with
  | none => rfl
  | some k =>
    simp only [putT]
    rw [ev_set]
    split
    · rename_i e; exact absurd (by rw [e]) h
    · rfl

theorem lights_spec {H : AH} : ∀ {l : List AOper} {tm t1 : Tr AV}, lightsR C H l tm = some t1 → ∀ t, (∀ o ∈ l, o.dst ≠ some t) → ev t1 (.t t) = ev tm (.t t)
  | [], tm, t1, h, t, _ => by simp only [lightsR, Option.some.injEq] at h; rw [h]
  | o :: l, tm, t1, h, t, hn => by
    simp only [lightsR] at h
    split at h
    · rename_i v hv
      rw [lights_spec h t fun p hp => hn p (List.mem_cons_of_mem _ hp)]
      exact putT_ne (hn o (List.mem_cons_self ..))
    · cases h

structure SegOK (C : Ctx) (ih : Task → Option Out) (ls : List (List AOper)) (hv : List AOper) (tm : Tr AV) (H : AH) (r : DRes) : Prop where
  rest : ∀ t, (∀ l ∈ ls, ∀ o ∈ l, o.dst ≠ some t) → (∀ o ∈ hv, o.dst ≠ some t) → ev r.tm (.t t) = ev tm (.t t)
  zero : r.hs[0]? = some H
  heavy : ∀ (k : Nat) (t1 : Tr AV) (v : AV), r.ts[k]? = some (t1, v) → ∃ Hk Hk1 o, r.hs[k]? = some Hk ∧ r.hs[k + 1]? = some Hk1 ∧ hv[k]? = some o ∧ astep C ih t1 Hk o = .go v Hk1
  last : ∃ HL, r.hs[r.ts.length]? = some HL ∧ ((r.ex = .normal ∧ r.hp = HL ∧ r.ts.length = hv.length) ∨
    (∃ v o, r.ex = .pan v ∧ hv[r.ts.length]? = some o ∧ astep C ih r.tm HL o = .pan v r.hp))

theorem segs_spec : ∀ {ls : List (List AOper)} {hv : List AOper} {tm : Tr AV} {H : AH} {r : DRes}, segsR C ih ls hv tm H = some r → SegOK C ih ls hv tm H r
  | [], _, _, _, _, h => by simp [segsR] at h
  | l :: ls, [], tm, H, r, h => by
    simp only [segsR] at h
    split at h
    · rename_i t1 ht
      cases h
      exact ⟨fun t h1 _ => lights_spec ht t (h1 l (List.mem_cons_self ..)), rfl, fun k t1 v e => by simp at e, H, rfl, .inl ⟨rfl, rfl, rfl⟩⟩
    · cases h
  | l :: ls, o :: hv, tm, H, r, h => by
    simp only [segsR] at h
    split at h
    · cases h
    · rename_i t1 ht
      split at h
      · rename_i v H' hv'
        split at h
        · rename_i r' hr'
          cases h
          have hs := segs_spec hr'
          refine ⟨fun t h1 h2 => ?_, rfl, ?_, ?_⟩
          · show ev r'.tm (.t t) = _
            rw [hs.rest t (fun q hq => h1 q (List.mem_cons_of_mem _ hq)) (fun q hq => h2 q (List.mem_cons_of_mem _ hq)), putT_ne (h2 o (List.mem_cons_self ..))]
            exact lights_spec ht t (h1 l (List.mem_cons_self ..))
          · intro k t2 u e
            cases k with
            | zero =>
              simp at e
              obtain ⟨rfl, rfl⟩ := e
              refine ⟨H, H', o, rfl, ?_, rfl, hv'⟩
              simpa using hs.zero
            | succ k =>
              obtain ⟨Hk, Hk1, p, e1, e2, e3, e4⟩ := hs.heavy k t2 u (by simpa using e)
              exact ⟨Hk, Hk1, p, by simpa using e1, by simpa using e2, by simpa using e3, e4⟩
          · obtain ⟨HL, e1, e2⟩ := hs.last
            refine ⟨HL, by simpa using e1, ?_⟩
            rcases e2 with ⟨e2, e3, e4⟩ | ⟨u, p, e2, e3, e4⟩
            · exact .inl ⟨e2, e3, by simp [e4]⟩
            · exact .inr ⟨u, p, e2, by simpa using e3, e4⟩
        · cases h
      · rename_i v H' hv'
        cases h
        exact ⟨fun t h1 _ => lights_spec ht t (h1 l (List.mem_cons_self ..)), rfl, fun k t1 v e => by simp at e, H, rfl, .inr ⟨v, o, rfl, rfl, hv'⟩⟩
      · cases h

theorem wanted_congr {a b : Tr AV} {o : AOper} (h : ∀ t ∈ o.tl, ev a (.t t) = ev b (.t t)) : wanted a o.guard = wanted b o.guard := by
  cases hg : o.guard with
  | none => rfl
  | some db =>
    obtain ⟨d, c⟩ := db
    simp only [wanted]
    rw [h d (by simp [AOper.tl, hg])]

theorem tl_op {o : AOper} {t : Nat} (h : t ∈ o.op.tl) : t ∈ o.tl := by
  simp only [AOper.tl, List.mem_append]
  exact .inl h

theorem valR_congr {a b : Tr AV} {H : AH} {o : AOper} (h : ∀ t ∈ o.tl, ev a (.t t) = ev b (.t t)) : valR C a H o = valR C b H o := by
  unfold valR
  rw [wanted_congr h, aop_congr fun t ht => h t (tl_op ht)]

theorem astep_congr {a b : Tr AV} {H : AH} {o : AOper} (h : ∀ t ∈ o.tl, ev a (.t t) = ev b (.t t)) : astep C ih a H o = astep C ih b H o := by
  unfold astep
  rw [wanted_congr h, aop_congr fun t ht => h t (tl_op ht)]

end
end Go.Vd
