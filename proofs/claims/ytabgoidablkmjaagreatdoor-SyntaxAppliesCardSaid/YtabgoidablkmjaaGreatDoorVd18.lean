/- What an operation looks at; light operations; equal values. -/
import Derived.Test.YtabgoidablkmjaaGreatDoorVd17
set_option linter.unusedVariables false
set_option linter.unusedSimpArgs false
namespace Go.Vd

mutual
theorem AV.beq_eq : ∀ (a b : AV), AV.beq a b = true → a = b
  | .bool a, b, h => by cases b <;> simp [AV.beq] at h; rw [h]
  | .int k n, b, h => by cases b <;> simp [AV.beq] at h; rw [h.1, h.2]
  | .cls k n r, b, h => by cases b <;> simp [AV.beq] at h; rw [h.1.1, h.1.2, h.2]
  | .str l, b, h => by cases b <;> simp [AV.beq] at h; rw [h]
  | .nilp, b, h => by cases b <;> simp [AV.beq] at h; rfl
  | .ptr X o, b, h => by cases b <;> simp [AV.beq] at h; rw [h.1, h.2]
  | .hnd X o, b, h => by cases b <;> simp [AV.beq] at h; rw [h.1, h.2]
  | .nils, b, h => by cases b <;> simp [AV.beq] at h; rfl
  | .slc X o l c s e, b, h => by
    cases b <;> simp [AV.beq] at h
    obtain ⟨⟨⟨⟨⟨h1, h2⟩, h3⟩, h4⟩, h5⟩, h6⟩ := h
    rw [h1, h2, h3, h4, h5, h6]
  | .nilm, b, h => by cases b <;> simp [AV.beq] at h; rfl
  | .map X, b, h => by cases b <;> simp [AV.beq] at h; rw [h]
  | .fn f a c, b, h => by
    cases b <;> simp [AV.beq] at h
    obtain ⟨⟨h1, h2⟩, h3⟩ := h
    rw [h1, AV.beqs_eq _ _ h2, AV.beqs_eq _ _ h3]
  | .nilf, b, h => by cases b <;> simp [AV.beq] at h; rfl
  | .ifc t v, b, h => by
    cases b <;> simp [AV.beq] at h
    rw [h.1, AV.beq_eq _ _ h.2]
  | .nili, b, h => by cases b <;> simp [AV.beq] at h; rfl
  | .agg l, b, h => by
    cases b <;> simp [AV.beq] at h
    rw [AV.beqs_eq _ _ h]
  | .tup l, b, h => by
    cases b <;> simp [AV.beq] at h
    rw [AV.beqs_eq _ _ h]
theorem AV.beqs_eq : ∀ (l m : List AV), AV.beqs l m = true → l = m
  | [], m, h => by cases m <;> simp [AV.beqs] at h; rfl
  | a :: l, m, h => by
    cases m <;> simp [AV.beqs] at h
    rw [AV.beq_eq _ _ h.1, AV.beqs_eq _ _ h.2]
end

section
variable {tm tm' : Tr AV}

theorem ev_congr {x : Opd} (h : ∀ t ∈ x.tl, ev tm (.t t) = ev tm' (.t t)) : ev tm x = ev tm' x := by
  cases x with
  | t n => exact h n (by simp [Opd.tl])
  | c v => rfl

theorem evs_congr : ∀ {l : List Opd}, (∀ t ∈ tls l, ev tm (.t t) = ev tm' (.t t)) → evs tm l = evs tm' l
  | [], _ => rfl
  | x :: l, h => by
    simp only [evs]
    rw [ev_congr fun t ht => h t (by simp [tls, ht]), evs_congr fun t ht => h t (by simp [tls, ht])]

theorem evo_congr {x : Option Opd} (h : ∀ t ∈ tlo x, ev tm (.t t) = ev tm' (.t t)) : evo tm x = evo tm' x := by
  cases x with
  | none => rfl
  | some x => simp only [evo]; rw [ev_congr h]

theorem evp_congr : ∀ {l : List (Nat × Nat × Opd)}, (∀ t ∈ tlp l, ev tm (.t t) = ev tm' (.t t)) → evp tm l = evp tm' l
  | [], _ => rfl
  | (a, b, x) :: l, h => by
    simp only [evp]
    rw [ev_congr fun t ht => h t (by simp [tlp, ht]), evp_congr fun t ht => h t (by simp [tlp, ht])]

theorem evq_congr {sz : Nat} : ∀ {l : List (Nat × Opd)}, (∀ t ∈ tlq l, ev tm (.t t) = ev tm' (.t t)) → evq tm sz l = evq tm' sz l
  | [], _ => rfl
  | (a, x) :: l, h => by
    simp only [evq]
    rw [ev_congr fun t ht => h t (by simp [tlq, ht]), evq_congr fun t ht => h t (by simp [tlq, ht])]

theorem aop_congr {C : Ctx} {H : AH} {b : AOp} (h : ∀ t ∈ b.tl, ev tm (.t t) = ev tm' (.t t)) : aop C tm H b = aop C tm' H b := by
  cases b
  case conv k x =>
    simp only [AOp.tl] at h
    cases k <;> simp only [aop, ev_congr h]
  case fld off n x =>
    simp only [AOp.tl] at h
    cases n <;> simp only [aop, ev_congr h]
  case pick x y z =>
    simp only [AOp.tl, List.mem_append] at h
    simp only [aop]
    rw [ev_congr fun t ht => h t (.inl ht), ev_congr fun t ht => h t (.inr (.inl ht)), ev_congr fun t ht => h t (.inr (.inr ht))]
  case upd k x y z =>
    simp only [AOp.tl, List.mem_append] at h
    simp only [aop]
    rw [ev_congr fun t ht => h t (.inl ht), ev_congr fun t ht => h t (.inr (.inl ht)), ev_congr fun t ht => h t (.inr (.inr ht))]
  case build zs ps =>
    simp only [AOp.tl] at h
    simp only [aop, evp_congr h]
  case bslice e sz n zs ps =>
    simp only [AOp.tl] at h
    simp only [aop, evq_congr h]
  case mkf f a b =>
    simp only [AOp.tl, List.mem_append] at h
    simp only [aop]
    rw [evs_congr fun t ht => h t (.inl ht), evs_congr fun t ht => h t (.inr ht)]
  case sls x lo hi =>
    simp only [AOp.tl, List.mem_append] at h
    simp only [aop]
    rw [ev_congr fun t ht => h t (.inl ht), evo_congr fun t ht => h t (.inr (.inl ht)), evo_congr fun t ht => h t (.inr (.inr ht))]
  case slv sz x lo hi mx =>
    simp only [AOp.tl, List.mem_append] at h
    simp only [aop]
    rw [ev_congr fun t ht => h t (.inl ht), evo_congr fun t ht => h t (.inr (.inl ht)), evo_congr fun t ht => h t (.inr (.inr (.inl ht))), evo_congr fun t ht => h t (.inr (.inr (.inr ht)))]
  case sla n sz x lo hi mx =>
    simp only [AOp.tl, List.mem_append] at h
    simp only [aop]
    rw [ev_congr fun t ht => h t (.inl ht), evo_congr fun t ht => h t (.inr (.inl ht)), evo_congr fun t ht => h t (.inr (.inr (.inl ht))), evo_congr fun t ht => h t (.inr (.inr (.inr ht)))]
  case call f as =>
    simp only [AOp.tl] at h
    simp only [aop, evs_congr h]
  case xcall f as =>
    simp only [AOp.tl] at h
    simp only [aop, evs_congr h]
  case vcall x as =>
    simp only [AOp.tl, List.mem_append] at h
    simp only [aop]
    rw [ev_congr fun t ht => h t (.inl ht), evs_congr fun t ht => h t (.inr ht)]
  case icall m x as =>
    simp only [AOp.tl, List.mem_append] at h
    simp only [aop]
    rw [ev_congr fun t ht => h t (.inl ht), evs_congr fun t ht => h t (.inr ht)]
  case dfr x as =>
    simp only [AOp.tl, List.mem_append] at h
    simp only [aop]
    rw [ev_congr fun t ht => h t (.inl ht), evs_congr fun t ht => h t (.inr ht)]
  case mm m x as =>
    simp only [AOp.tl, List.mem_append] at h
    simp only [aop]
    rw [ev_congr fun t ht => h t (.inl ht), evs_congr fun t ht => h t (.inr ht)]
  case alloc => simp only [aop]
  case mkm => simp only [aop]
  case alen => simp only [aop]
  case rcv => simp only [aop]
  case bad => simp only [aop]
  all_goals first
    | (simp only [AOp.tl] at h
       simp only [aop, ev_congr h]
       done)
    | (simp only [AOp.tl, List.mem_append] at h
       simp only [aop]
       rw [ev_congr fun t ht => h t (.inl ht), ev_congr fun t ht => h t (.inr ht)]
       done)

theorem ofV_val {H H' : AH} {x : Option AV} {v : AV} (h : ofV H x = .val v H') : x = some v ∧ H' = H := by
  cases x with
  | none => cases h
  | some u => cases h; exact ⟨rfl, rfl⟩

theorem aop_light {C : Ctx} {H H' : AH} {b : AOp} {v : AV} (hb : b.light = true) (h : aop C tm H b = .val v H') : H' = H := by
  cases b <;> first
    | (simp [AOp.light, AOp.pure] at hb; done)
    | skip
  case conv k x =>
    cases k <;> first
      | (simp [AOp.light, AOp.pure] at hb; done)
      | (simp only [aop] at h
         (repeat' split at h) <;> first
          | (cases h; rfl)
          | exact (ofV_val h).2
          | cases h)
  case fld off n x =>
    cases n <;> simp only [aop] at h <;> (repeat' split at h) <;> first
      | (cases h; rfl)
      | exact (ofV_val h).2
      | cases h
  all_goals
    simp only [aop] at h
    (repeat' split at h) <;> first
      | (cases h; rfl)
      | exact (ofV_val h).2
      | cases h
end
end Go.Vd
