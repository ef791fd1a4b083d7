/- Operations: what the evaluator gives, the model gives. Part 3: operators, conversions. -/
import Derived.Test.YtabgoidablkmjaaGreatDoorVd7
set_option linter.unusedVariables false
set_option linter.unusedSimpArgs false
namespace Go.Vd

/-- What the evaluator is told of types that may be held against each other. -/
def CmpOK (P : Program) (C : Ctx) : Prop := ∀ t, C.cmp t = true → ∃ i k, P.info? t = some i ∧ i.comparable = true ∧ P.underlying t = some (.int k)

section
variable {P : Program} {φ : Mp} {H : AH} {w : World} {tm : Tr AV} {a : Act} {o : Oper} {C : Ctx}

theorem not_frozen_block {n : Nat} (hR : R n φ H w) {X : Nat} {p : Pl} (hX : φ X = some p) (hl : H.live0 X = true) :
    (∃ c e lo hi, w.heap[p.b]? = some (.cells c e (lo, hi)) ∧ hi ≤ lo) ∧ H.alive X := by
  unfold AH.live0 at hl
  split at hl
  · rename_i l e fl hg
    have hfl := Nat.eq_of_beq_eq_true hl
    have hb := hR.blk X p hX
    rw [hg] at hb
    obtain ⟨c, lo, hi, h1, h2, h3, h4, h5, h6⟩ := hb
    exact ⟨⟨c, e, lo, hi, h1, by have := (h4 hfl).1; omega⟩, by simp [AH.alive, hg]⟩
  · cases hl

theorem run_sameAddr_ne {n : Nat} (hR : R n φ H w) {X Y u v : Nat} {p q : Pl} (hX : φ X = some p) (hY : φ Y = some q) (hl : H.live0 X = true) (hm : H.live0 Y = true) (hne : X ≠ Y) :
    (sameAddr ⟨p.b, p.base + u, none⟩ ⟨q.b, q.base + v, none⟩).run P w = .ok false w := by
  obtain ⟨⟨c, e, lo, hi, h1, h2⟩, aX⟩ := not_frozen_block hR hX hl
  obtain ⟨⟨c', e', lo', hi', g1, g2⟩, aY⟩ := not_frozen_block hR hY hm
  have hb : p.b ≠ q.b := fun e => hne (hR.inj X Y p q hX hY aX aY e)
  have f1 : ∀ o s, w.frozen? ⟨p.b, o, s⟩ = false := fun o s => by
    simp only [World.frozen?, h1]
    have : ¬ (lo ≤ o ∧ o < hi) := by omega
    simpa using this
  have f2 : ∀ o s, w.frozen? ⟨q.b, o, s⟩ = false := fun o s => by
    simp only [World.frozen?, g1]
    have : ¬ (lo' ≤ o ∧ o < hi') := by omega
    simpa using this
  have s1 : w.shape? p.b = some (e, c.size) := by simp [World.shape?, h1]
  have s2 : w.shape? q.b = some (e', c'.size) := by simp [World.shape?, g1]
  simp [sameAddr, hb, f1, noView, viewAt, s1, s2, mayBeOne, stringish, f2]

theorem run_equal_ptr {n : Nat} (hR : R n φ H w) {t e : TypeId} {i : TypeInfo} (hu : P.underlying t = some (.pointer e)) (hi : P.info? e = some i) (hs : i.size ≠ 0) {u v : AV} {x y : Value}
    (hx : VR φ u x) (hy : VR φ v y) {b : Bool} (h : eqP H u v = some b) (d : Nat) : (Op.equalIn (d + 1) t x y).run P w = .ok b w := by
  unfold eqP at h
  split at h
  · cases h
    rw [hx.nilp_inv, hy.nilp_inv]
    simp [Op.equalIn, run_underlying' hu]
  · cases h
    obtain ⟨q, g1, g2⟩ := hy.ptr_inv
    rw [hx.nilp_inv, g2]
    simp [Op.equalIn, run_underlying' hu]
  · cases h
    obtain ⟨q, g1, g2⟩ := hx.ptr_inv
    rw [hy.nilp_inv, g2]
    simp [Op.equalIn, run_underlying' hu]
  · rename_i X o Y u
    obtain ⟨p, h1, h2⟩ := hx.ptr_inv
    obtain ⟨q, g1, g2⟩ := hy.ptr_inv
    rw [h2, g2]
    split at h
    · rename_i e
      have e := Nat.eq_of_beq_eq_true e
      subst e
      rw [h1] at g1
      cases g1
      cases h
      simp only [Op.equalIn, Sem.run_bind, run_underlying' hu, Result.andThen_ok, run_sizeOf' hi, hs, ne_eq, not_false_eq_true, if_true]
      simp only [sameAddr, beq_self_eq_true, if_true, Sem.run_pure]
      congr 1
      by_cases e : o = u
      · subst e; simp
      · have : Nat.beq o u = false := by
          cases hb : Nat.beq o u with
          | true => exact absurd (Nat.eq_of_beq_eq_true hb) e
          | false => rfl
        rw [this]
        simp
        omega
    · rename_i e
      split at h
      · rename_i hl
        cases h
        simp only [Bool.and_eq_true] at hl
        have hne : X ≠ Y := fun g => e (by subst g; exact Nat.beq_refl X)
        simp only [Op.equalIn, Sem.run_bind, run_underlying' hu, Result.andThen_ok, run_sizeOf' hi, hs, ne_eq, not_false_eq_true, if_true]
        exact run_sameAddr_ne hR h1 g1 hl.1 hl.2 hne
      · cases h
  · cases h

theorem run_bind_u {α : Type} {t : TypeId} {d : TypeDesc} (hu : P.underlying t = some d) (f : TypeDesc → Sem α) : (underlying t >>= f).run P w = (f d).run P w := by
  rw [Sem.run_bind, run_underlying' hu]
  rfl

theorem run_equal_ifc (hC : CmpOK P C) {t : TypeId} {ms : Array (String × TypeId)} (hu : P.underlying t = some (.interface ms)) {u v : AV} {x y : Value}
    (hx : VR φ u x) (hy : VR φ v y) {b : Bool} (h : eqF C.cmp u v = some b) (d : Nat) : (Op.equalIn (d + 2) t x y).run P w = .ok b w := by
  unfold eqF at h
  split at h
  · cases h
    obtain ⟨q, g1, g2⟩ := hy.ifc_inv
    rw [hx.nili_inv, g1]
    (rw [Op.equalIn, run_bind_u hu]; rfl)
  · cases h
    obtain ⟨q, g1, g2⟩ := hx.ifc_inv
    rw [hy.nili_inv, g1]
    (rw [Op.equalIn, run_bind_u hu]; rfl)
  · rename_i t1 v1 t2 v2
    obtain ⟨x', h1, h2⟩ := hx.ifc_inv
    obtain ⟨y', g1, g2⟩ := hy.ifc_inv
    rw [h1, g1]
    unfold eqI at h
    split at h
    · rename_i e
      have e := Nat.eq_of_beq_eq_true e
      subst e
      split at h
      · rename_i hc
        obtain ⟨i, k, hi, hcomp, hk⟩ := hC t1 hc
        split at h
        · rename_i k1 a1 k2 a2
          split at h
          · rename_i hkk
            subst hkk
            cases h
            rw [h2.int_inv, g2.int_inv]
            simp only [Op.equalIn, Sem.run_bind, run_underlying' hu, Result.andThen_ok, ne_eq, not_true_eq_false, if_false, run_typeInfo' hi, hcomp, Bool.not_true, Bool.false_eq_true, run_underlying' hk, if_true, Sem.run_pure]
            rfl
          · cases h
        · cases h
      · cases h
    · rename_i e
      cases h
      have : t1 ≠ t2 := fun g => e (by subst g; exact Nat.beq_refl t1)
      (rw [Op.equalIn, run_bind_u hu]; simp [this])
  · cases h

theorem run_equal (hR : R P.globals.size φ H w) (hC : CmpOK P C) {t : TypeId} {k k' : EK} (hk : ekOf P t = some k) (hkk : k' = k ∨ (k = .ifc ∧ k' = .ifg)) {u v : AV} {x y : Value} (hx : VR φ u x) (hy : VR φ v y)
    {b : Bool} (h : eqA C.cmp H k' u v = some b) (d : Nat) : (Op.equalIn (d + 2) t x y).run P w = .ok b w := by
  unfold ekOf at hk
  split at hk
  · cases hk; rcases hkk with rfl | ⟨h1, _⟩ <;> first | (cases h1; done) | (simp [eqA] at h)
  · cases hk; rcases hkk with rfl | ⟨h1, _⟩ <;> first | (cases h1; done) | (simp [eqA] at h)
  · rename_i hu
    cases hk
    rcases hkk with rfl | ⟨h1, _⟩
    · simp only [eqA, eqB] at h
      split at h
      · cases h
        rw [hx.bool_inv, hy.bool_inv]
        show (Op.equalIn ((d + 1) + 1) t _ _).run P w = _
        (rw [Op.equalIn, run_bind_u hu]; rfl)
      · cases h
    · cases h1
  · rename_i e hu
    split at hk
    · cases hk
    · rename_i s hs0 hs
      cases hk
      rcases hkk with rfl | ⟨h1, _⟩
      · obtain ⟨i, hi, his⟩ := szOf_some hs
        exact run_equal_ptr hR hu hi (by rw [his]; intro e; subst e; exact hs0 rfl) hx hy h (d + 1)
      · cases h1
    · cases hk
  · rename_i ms hu
    cases hk
    rcases hkk with rfl | ⟨_, rfl⟩
    · simp only [eqA, eqC] at h
      split at h
      · cases h
        rw [hx.nili_inv, hy.nili_inv]
        show (Op.equalIn ((d + 1) + 1) t _ _).run P w = _
        (rw [Op.equalIn, run_bind_u hu]; rfl)
      · exact run_equal_ifc hC hu hx hy h d
    · exact run_equal_ifc hC hu hx hy h d
  · rename_i e hu
    cases hk
    rcases hkk with rfl | ⟨h1, _⟩
    · simp only [eqA, eqS] at h
      split at h
      · cases h
        rw [hx.nils_inv, hy.nils_inv]
        show (Op.equalIn ((d + 1) + 1) t _ _).run P w = _
        (rw [Op.equalIn, run_bind_u hu]; rfl)
      · cases h
        simp only [VR] at hy
        obtain ⟨p, q, c, _, g2, _⟩ := hy
        rw [hx.nils_inv, g2]
        show (Op.equalIn ((d + 1) + 1) t _ _).run P w = _
        (rw [Op.equalIn, run_bind_u hu]; rfl)
      · cases h
        simp only [VR] at hx
        obtain ⟨p, q, c, _, g2, _⟩ := hx
        rw [hy.nils_inv, g2]
        show (Op.equalIn ((d + 1) + 1) t _ _).run P w = _
        (rw [Op.equalIn, run_bind_u hu]; rfl)
      · cases h
    · cases h1
  · rename_i hu
    cases hk
    rcases hkk with rfl | ⟨h1, _⟩
    · simp only [eqA, eqN] at h
      split at h
      · cases h
        rw [hx.nilf_inv, hy.nilf_inv]
        show (Op.equalIn ((d + 1) + 1) t _ _).run P w = _
        (rw [Op.equalIn, run_bind_u hu]; rfl)
      · cases h
        simp only [VR] at hy
        obtain ⟨p, q, g2, _⟩ := hy
        rw [hx.nilf_inv, g2]
        show (Op.equalIn ((d + 1) + 1) t _ _).run P w = _
        (rw [Op.equalIn, run_bind_u hu]; rfl)
      · cases h
        simp only [VR] at hx
        obtain ⟨p, q, g2, _⟩ := hx
        rw [hy.nilf_inv, g2]
        show (Op.equalIn ((d + 1) + 1) t _ _).run P w = _
        (rw [Op.equalIn, run_bind_u hu]; rfl)
      · cases h
    · cases h1
  · rename_i hu
    cases hk
    rcases hkk with rfl | ⟨h1, _⟩
    · simp only [eqA, eqM] at h
      split at h
      · cases h
        rw [hx.nilm_inv, hy.nilm_inv]
        show (Op.equalIn ((d + 1) + 1) t _ _).run P w = _
        (rw [Op.equalIn, run_bind_u hu]; rfl)
      · cases h
        obtain ⟨q, _, g2⟩ := hy.map_inv
        rw [hx.nilm_inv, g2]
        show (Op.equalIn ((d + 1) + 1) t _ _).run P w = _
        (rw [Op.equalIn, run_bind_u hu]; rfl)
      · cases h
        obtain ⟨q, _, g2⟩ := hx.map_inv
        rw [hy.nilm_inv, g2]
        show (Op.equalIn ((d + 1) + 1) t _ _).run P w = _
        (rw [Op.equalIn, run_bind_u hu]; rfl)
      · cases h
    · cases h1
  · cases hk
theorem run_equal' (hR : R P.globals.size φ H w) (hC : CmpOK P C) {t : TypeId} {k k' : EK} (hk : ekOf P t = some k) (hkk : k' = k ∨ (k = .ifc ∧ k' = .ifg)) {u v : AV} {x y : Value} (hx : VR φ u x) (hy : VR φ v y)
    {b : Bool} (h : eqA C.cmp H k' u v = some b) : (Op.equal t x y).run P w = .ok b w := run_equal hR hC hk hkk hx hy h 9998
end
end Go.Vd
