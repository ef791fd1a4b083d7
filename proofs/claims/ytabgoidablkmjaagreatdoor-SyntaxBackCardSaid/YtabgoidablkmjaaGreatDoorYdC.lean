/- Operations: what the evaluator gives, the model gives. Part 3: operators, conversions. -/
import Derived.Test.YtabgoidablkmjaaGreatDoorYdB
set_option linter.unusedVariables false
set_option linter.unusedSimpArgs false
namespace Go.Vd

/-- What the evaluator is told of types that may be held against each other. -/
def CmpOK (P : Program) (C : Ctx) : Prop := ∀ t, C.cmp t = true → ∃ i k, P.info? t = some i ∧ i.comparable = true ∧ P.underlying t = some (.int k)

section
variable {P : Program} {φ : Mp} {H : AH} {w : World} {tm : Tr AV} {a : Act} {o : Oper} {C : Ctx}

theorem not_frozen_block {n : Nat} (hR : R n φ H w) {X : Nat} {p : Pl} (hX : φ X = some p) (hl : H.live0 X = true) :
    (∃ c e lo hi, w.heap[p.b]? = some (.cells c e (lo, hi)) ∧ hi ≤ lo) ∧ H.alive X := by
  unfold AH.live0 at hl
  split at hl
  · rename_i l e fl hg
    have hfl := Nat.eq_of_beq_eq_true hl
    have hb := hR.blk X p hX
    rw [hg] at hb
    obtain ⟨c, lo, hi, h1, h2, h3, h4, h5, h6⟩ := hb
    exact ⟨⟨c, e, lo, hi, h1, by have := (h4 hfl).1; omega⟩, by simp [AH.alive, hg]⟩
  · cases hl

theorem run_sameAddr_ne {n : Nat} (hR : R n φ H w) {X Y u v : Nat} {p q : Pl} (hX : φ X = some p) (hY : φ Y = some q) (hl : H.live0 X = true) (hm : H.live0 Y = true) (hne : X ≠ Y) :
    (sameAddr ⟨p.b, p.base + u, none⟩ ⟨q.b, q.base + v, none⟩).run P w = .ok false w := by
  obtain ⟨⟨c, e, lo, hi, h1, h2⟩, aX⟩ := not_frozen_block hR hX hl
  obtain ⟨⟨c', e', lo', hi', g1, g2⟩, aY⟩ := not_frozen_block hR hY hm
  have hb : p.b ≠ q.b := fun e => hne (hR.inj X Y p q hX hY aX aY e)
  have f1 : ∀ o s, w.frozen? ⟨p.b, o, s⟩ = false := fun o s => by
    simp only [World.frozen?, h1]
    have : ¬ (lo ≤ o ∧ o < hi) := by omega
    simpa using this
  have f2 : ∀ o s, w.frozen? ⟨q.b, o, s⟩ = false := fun o s => by
    simp only [World.frozen?, g1]
    have : ¬ (lo' ≤ o ∧ o < hi') := by omega
    simpa using this
  have s1 : w.shape? p.b = some (e, c.size) := by simp [World.shape?, h1]
  have s2 : w.shape? q.b = some (e', c'.size) := by simp [World.shape?, g1]
  simp [sameAddr, hb, f1, noView, viewAt, s1, s2, mayBeOne, stringish, f2]

theorem run_equal_ptr {n : Nat} (hR : R n φ H w) {t e : TypeId} {i : TypeInfo} (hu : P.underlying t = some (.pointer e)) (hi : P.info? e = some i) (hs : i.size ≠ 0) {u v : AV} {x y : Value}
    (hx : VR φ u x) (hy : VR φ v y) {b : Bool} (h : eqP H u v = some b) (d : Nat) : (Op.equalIn (d + 1) t x y).run P w = .ok b w := by
  unfold eqP at h
  split at h
  · cases h
    rw [hx.nilp_inv, hy.nilp_inv]
    simp [Op.equalIn, run_underlying' hu]
  · cases h
    obtain ⟨q, g1, g2⟩ := hy.ptr_inv
    rw [hx.nilp_inv, g2]
    simp [Op.equalIn, run_underlying' hu]
  · cases h
    obtain ⟨q, g1, g2⟩ := hx.ptr_inv
    rw [hy.nilp_inv, g2]
    simp [Op.equalIn, run_underlying' hu]
  · rename_i X o Y u
    obtain ⟨p, h1, h2⟩ := hx.ptr_inv
    obtain ⟨q, g1, g2⟩ := hy.ptr_inv
    rw [h2, g2]
    split at h
    · rename_i e
      have e := Nat.eq_of_beq_eq_true e
      subst e
      rw [h1] at g1
      cases g1
      cases h
      simp only [Op.equalIn, Sem.run_bind, run_underlying' hu, Result.andThen_ok, run_sizeOf' hi, hs, ne_eq, not_false_eq_true, if_true]
      simp only [sameAddr, beq_self_eq_true, if_true, Sem.run_pure]
      congr 1
      by_cases e : o = u
      · subst e; simp
      · have : Nat.beq o u = false := by
          cases hb : Nat.beq o u with
          | true => exact absurd (Nat.eq_of_beq_eq_true hb) e
          | false => rfl
        rw [this]
        simp
        omega
    · rename_i e
      split at h
      · rename_i hl
        cases h
        simp only [Bool.and_eq_true] at hl
        have hne : X ≠ Y := fun g => e (by subst g; exact Nat.beq_refl X)
        simp only [Op.equalIn, Sem.run_bind, run_underlying' hu, Result.andThen_ok, run_sizeOf' hi, hs, ne_eq, not_false_eq_true, if_true]
        exact run_sameAddr_ne hR h1 g1 hl.1 hl.2 hne
      · cases h
  · cases h

theorem run_bind_u {α : Type} {t : TypeId} {d : TypeDesc} (hu : P.underlying t = some d) (f : TypeDesc → Sem α) : (underlying t >>= f).run P w = (f d).run P w := by
  rw [Sem.run_bind, run_underlying' hu]
  rfl

theorem run_equal_ifc (hC : CmpOK P C) {t : TypeId} {ms : Array (String × TypeId)} (hu : P.underlying t = some (.interface ms)) {u v : AV} {x y : Value}
    (hx : VR φ u x) (hy : VR φ v y) {b : Bool} (h : eqF C.cmp u v = some b) (d : Nat) : (Op.equalIn (d + 2) t x y).run P w = .ok b w := by
  unfold eqF at h
  split at h
  · cases h
    obtain ⟨q, g1, g2⟩ := hy.ifc_inv
    rw [hx.nili_inv, g1]
    (rw [Op.equalIn, run_bind_u hu]; rfl)
  · cases h
    obtain ⟨q, g1, g2⟩ := hx.ifc_inv
    rw [hy.nili_inv, g1]
    (rw [Op.equalIn, run_bind_u hu]; rfl)
  · rename_i t1 v1 t2 v2
    obtain ⟨x', h1, h2⟩ := hx.ifc_inv
    obtain ⟨y', g1, g2⟩ := hy.ifc_inv
    rw [h1, g1]
    unfold eqI at h
    split at h
    · rename_i e
      have e := Nat.eq_of_beq_eq_true e
      subst e
      split at h
      · rename_i hc
        obtain ⟨i, k, hi, hcomp, hk⟩ := hC t1 hc
        split at h
        · rename_i k1 a1 k2 a2
          split at h
          · rename_i hkk
            subst hkk
            cases h
            rw [h2.int_inv, g2.int_inv]
            simp only [Op.equalIn, Sem.run_bind, run_underlying' hu, Result.andThen_ok, ne_eq, not_true_eq_false, if_false, run_typeInfo' hi, hcomp, Bool.not_true, Bool.false_eq_true, run_underlying' hk, if_true, Sem.run_pure]
            rfl
          · cases h
        · cases h
      · cases h
    · rename_i e
      cases h
      have : t1 ≠ t2 := fun g => e (by subst g; exact Nat.beq_refl t1)
      (rw [Op.equalIn, run_bind_u hu]; simp [this])
  · cases h

theorem run_equal (hR : R P.globals.size φ H w) (hC : CmpOK P C) {t : TypeId} {k k' : EK} (hk : ekOf P t = some k) (hkk : k' = k ∨ (k = .ifc ∧ k' = .ifg)) {u v : AV} {x y : Value} (hx : VR φ u x) (hy : VR φ v y)
    {b : Bool} (h : eqA C.cmp H k' u v = some b) (d : Nat) : (Op.equalIn (d + 2) t x y).run P w = .ok b w := by
  unfold ekOf at hk
  split at hk
  · cases hk; rcases hkk with rfl | ⟨h1, _⟩ <;> first | (cases h1; done) | (simp [eqA] at h)
  · cases hk; rcases hkk with rfl | ⟨h1, _⟩ <;> first | (cases h1; done) | (simp [eqA] at h)
  · rename_i hu
    cases hk
    rcases hkk with rfl | ⟨h1, _⟩
    · simp only [eqA, eqB] at h
      split at h
      · cases h
        rw [hx.bool_inv, hy.bool_inv]
        show (Op.equalIn ((d + 1) + 1) t _ _).run P w = _
        (rw [Op.equalIn, run_bind_u hu]; rfl)
      · cases h
    · cases h1
  · rename_i e hu
    split at hk
    · cases hk
    · rename_i s hs0 hs
      cases hk
      rcases hkk with rfl | ⟨h1, _⟩
      · obtain ⟨i, hi, his⟩ := szOf_some hs
        exact run_equal_ptr hR hu hi (by rw [his]; intro e; subst e; exact hs0 rfl) hx hy h (d + 1)
      · cases h1
    · cases hk
  · rename_i ms hu
    cases hk
    rcases hkk with rfl | ⟨_, rfl⟩
    · simp only [eqA, eqC] at h
      split at h
      · cases h
        rw [hx.nili_inv, hy.nili_inv]
        show (Op.equalIn ((d + 1) + 1) t _ _).run P w = _
        (rw [Op.equalIn, run_bind_u hu]; rfl)
      · exact run_equal_ifc hC hu hx hy h d
    · exact run_equal_ifc hC hu hx hy h d
  · rename_i e hu
    cases hk
    rcases hkk with rfl | ⟨h1, _⟩
    · simp only [eqA, eqS] at h
      split at h
      · cases h
        rw [hx.nils_inv, hy.nils_inv]
        show (Op.equalIn ((d + 1) + 1) t _ _).run P w = _
        (rw [Op.equalIn, run_bind_u hu]; rfl)
      · cases h
        simp only [VR] at hy
        obtain ⟨p, q, c, _, g2, _⟩ := hy
        rw [hx.nils_inv, g2]
        show (Op.equalIn ((d + 1) + 1) t _ _).run P w = _
        (rw [Op.equalIn, run_bind_u hu]; rfl)
      · cases h
        simp only [VR] at hx
        obtain ⟨p, q, c, _, g2, _⟩ := hx
        rw [hy.nils_inv, g2]
        show (Op.equalIn ((d + 1) + 1) t _ _).run P w = _
        (rw [Op.equalIn, run_bind_u hu]; rfl)
      · cases h
    · cases h1
  · rename_i hu
    cases hk
    rcases hkk with rfl | ⟨h1, _⟩
    · simp only [eqA, eqN] at h
      split at h
      · cases h
        rw [hx.nilf_inv, hy.nilf_inv]
        show (Op.equalIn ((d + 1) + 1) t _ _).run P w = _
        (rw [Op.equalIn, run_bind_u hu]; rfl)
      · cases h
        simp only [VR] at hy
        obtain ⟨p, q, g2, _⟩ := hy
        rw [hx.nilf_inv, g2]
        show (Op.equalIn ((d + 1) + 1) t _ _).run P w = _
        (rw [Op.equalIn, run_bind_u hu]; rfl)
      · cases h
        simp only [VR] at hx
        obtain ⟨p, q, g2, _⟩ := hx
        rw [hy.nilf_inv, g2]
        show (Op.equalIn ((d + 1) + 1) t _ _).run P w = _
        (rw [Op.equalIn, run_bind_u hu]; rfl)
      · cases h
    · cases h1
  · rename_i hu
    cases hk
    rcases hkk with rfl | ⟨h1, _⟩
    · simp only [eqA, eqM] at h
      split at h
      · cases h
        rw [hx.nilm_inv, hy.nilm_inv]
        show (Op.equalIn ((d + 1) + 1) t _ _).run P w = _
        (rw [Op.equalIn, run_bind_u hu]; rfl)
      · cases h
        obtain ⟨q, _, g2⟩ := hy.map_inv
        rw [hx.nilm_inv, g2]
        show (Op.equalIn ((d + 1) + 1) t _ _).run P w = _
        (rw [Op.equalIn, run_bind_u hu]; rfl)
      · cases h
        obtain ⟨q, _, g2⟩ := hx.map_inv
        rw [hy.nilm_inv, g2]
        show (Op.equalIn ((d + 1) + 1) t _ _).run P w = _
        (rw [Op.equalIn, run_bind_u hu]; rfl)
      · cases h
    · cases h1
  · cases hk
theorem run_equal' (hR : R P.globals.size φ H w) (hC : CmpOK P C) {t : TypeId} {k k' : EK} (hk : ekOf P t = some k) (hkk : k' = k ∨ (k = .ifc ∧ k' = .ifg)) {u v : AV} {x y : Value} (hx : VR φ u x) (hy : VR φ v y)
    {b : Bool} (h : eqA C.cmp H k' u v = some b) : (Op.equal t x y).run P w = .ok b w := run_equal hR hC hk hkk hx hy h 9998
end
end Go.Vd
namespace Go.Vd

section
variable {P : Program} {φ : Mp} {H : AH} {w : World} {tm : Tr AV} {a : Act} {o : Oper} {C : Ctx}

theorem strEq_eq : ∀ (x y : List UInt8), strEq x y = (x == y)
  | [], [] => rfl
  | [], _ :: _ => rfl
  | _ :: _, [] => rfl
  | a :: x, b :: y => by
    simp only [strEq, strEq_eq x y]
    have : Nat.beq a.toNat b.toNat = (a == b) := by
      by_cases h : a = b
      · subst h; simp
      · have h2 : a.toNat ≠ b.toNat := fun e => h (UInt8.toNat_inj.1 e)
        have h3 : Nat.beq a.toNat b.toNat = false := by
          cases hb : Nat.beq a.toNat b.toNat with
          | true => exact absurd (Nat.eq_of_beq_eq_true hb) h2
          | false => rfl
        rw [h3]
        simp [h]
    rw [this]
    rfl

theorem bytesLt_eq : ∀ (x y : List UInt8), bytesLt x y = Op.bytesLess x y
  | [], [] => rfl
  | [], _ :: _ => rfl
  | _ :: _, [] => rfl
  | a :: x, b :: y => by
    simp only [bytesLt, Op.bytesLess, bytesLt_eq x y]
    have e1 : Nat.beq a.toNat b.toNat = (a == b) := by
      by_cases h : a = b
      · subst h; simp
      · have h2 : a.toNat ≠ b.toNat := fun e => h (UInt8.toNat_inj.1 e)
        have h3 : Nat.beq a.toNat b.toNat = false := by
          cases hb : Nat.beq a.toNat b.toNat with
          | true => exact absurd (Nat.eq_of_beq_eq_true hb) h2
          | false => rfl
        rw [h3]
        simp [h]
    have e2 : Nat.blt a.toNat b.toNat = decide (a < b) := by
      by_cases h : a < b
      · have := UInt8.lt_iff_toNat_lt.1 h
        simp only [h, decide_true]
        exact Nat.ble_eq_true_of_le this
      · have h2 : ¬ a.toNat < b.toNat := fun e => h (UInt8.lt_iff_toNat_lt.2 e)
        simp only [h, decide_false]
        cases hb : Nat.blt a.toNat b.toNat with
        | true => exact absurd (Nat.le_of_ble_eq_true hb) h2
        | false => rfl
    rw [e1, e2]

theorem ba_toList (l : List UInt8) : (ByteArray.mk l.toArray).toList = l := by
  have h : ∀ (bs : ByteArray) (i : Nat) (r : List UInt8), ByteArray.toList.loop bs i r = r.reverse ++ bs.data.toList.drop i := by
    intro bs i r
    fun_induction ByteArray.toList.loop bs i r with
    | case1 i r h ih =>
      rw [ih]
      have hi : i < bs.data.toList.length := by simpa using h
      rw [List.drop_eq_getElem_cons hi]
      simp only [List.reverse_cons, List.append_assoc, List.singleton_append]
      congr 2
      have h' : i < bs.data.size := h
      simp only [ByteArray.get!]
      rw [getElem!_pos bs.data i h', Array.getElem_toList]
    | case2 i r h =>
      have : bs.data.toList.length ≤ i := by
        have : ¬ i < bs.data.size := h
        simp; omega
      simp [List.drop_eq_nil_of_le this]
  rw [ByteArray.toList, h]
  simp

theorem ba_append (x y : List UInt8) : (ByteArray.mk x.toArray) ++ (ByteArray.mk y.toArray) = ByteArray.mk (x ++ y).toArray := by
  apply ByteArray.ext
  rw [ByteArray.data_append]
  simp

theorem ba_size (x : List UInt8) : (ByteArray.mk x.toArray).size = x.length := by simp [ByteArray.size]

theorem run_strOp {op : BinOp} {x y : List UInt8} {v : AV} (h : strOp op x y = some v) : ∃ v', (Op.stringOp op ⟨x.toArray⟩ ⟨y.toArray⟩).run P w = .ok v' w ∧ VR φ v v' := by
  cases op <;> simp only [strOp] at h <;> try (cases h; done)
  case add =>
    split at h
    · rename_i hl
      have hl := Nat.le_of_ble_eq_true hl
      cases h
      refine ⟨.string ⟨(x ++ y).toArray⟩, ?_, by simp [VR]⟩
      simp only [Op.stringOp, ba_size]
      rw [if_neg (by simp only [IntKind.max, IntKind.signed, IntKind.bits]; omega), ba_append]
      rfl
    · cases h
  all_goals
    cases h
    simp only [Op.stringOp, ba_toList, Sem.run_pure, strEq_eq, bytesLt_eq, VR]
    exact ⟨_, rfl, rfl⟩

theorem run_intOp {op : BinOp} {k : IntKind} {x y : Int} {v : AV} (h : intOp op k x y = some v) :
    ∃ v', (match op with
      | .add | .sub | .mul => Op.intArith op k x y
      | .quo | .rem => Op.intDiv op k x y
      | .and | .or | .xor | .andNot => Op.intBits op k x y
      | _ => Op.intCmp op x y).run P w = .ok v' w ∧ VR φ v v' := by
  cases op <;> simp only [intOp] at h <;> try (cases h; done)
  case quo =>
    split at h
    · cases h
    · rename_i h0
      cases h
      exact ⟨_, by simp [Op.intDiv, h0]; rfl, by simp [VR]⟩
  case rem =>
    split at h
    · cases h
    · rename_i h0
      cases h
      exact ⟨_, by simp [Op.intDiv, h0]; rfl, by simp [VR]⟩
  all_goals
    cases h
    simp only [Op.intArith, Op.intBits, Op.intCmp, Sem.run_pure, VR]
    first
      | exact ⟨_, rfl, rfl⟩
      | (refine ⟨_, rfl, ?_⟩
         congr 1
         by_cases e : x = y
         · simp [e]
         · simp [e])

theorem eqF_shape {cmp : Nat → Bool} {t : TypeId} {u v : AV} {x y : Value} (hx : VR φ u x) (hy : VR φ v y) {b : Bool} (h : eqF cmp u v = some b) :
    binOp .eql t x y = (do pure (.bool (← Op.equal t x y)) : Sem Value) ∧ binOp .neq t x y = (do pure (.bool (!(← Op.equal t x y))) : Sem Value) := by
  unfold eqF at h
  split at h
  · obtain ⟨q, g1, _⟩ := hy.ifc_inv
    rw [hx.nili_inv, g1]
    exact ⟨rfl, rfl⟩
  · obtain ⟨q, g1, _⟩ := hx.ifc_inv
    rw [hy.nili_inv, g1]
    exact ⟨rfl, rfl⟩
  · obtain ⟨q, g1, _⟩ := hx.ifc_inv
    obtain ⟨r, g2, _⟩ := hy.ifc_inv
    rw [g1, g2]
    exact ⟨rfl, rfl⟩
  · cases h

theorem eqA_shape {cmp : Nat → Bool} {k : EK} {t : TypeId} {u v : AV} {x y : Value} (hx : VR φ u x) (hy : VR φ v y) {b : Bool} (h : eqA cmp H k u v = some b) :
    binOp .eql t x y = (do pure (.bool (← Op.equal t x y)) : Sem Value) ∧ binOp .neq t x y = (do pure (.bool (!(← Op.equal t x y))) : Sem Value) := by
  cases k <;> simp only [eqA] at h <;> try (cases h; done)
  case bool =>
    unfold eqB at h
    split at h
    · rw [hx.bool_inv, hy.bool_inv]
      exact ⟨rfl, rfl⟩
    · cases h
  case ptr =>
    unfold eqP at h
    split at h
    · rw [hx.nilp_inv, hy.nilp_inv]
      exact ⟨rfl, rfl⟩
    · obtain ⟨q, _, g1⟩ := hy.ptr_inv
      rw [hx.nilp_inv, g1]
      exact ⟨rfl, rfl⟩
    · obtain ⟨q, _, g1⟩ := hx.ptr_inv
      rw [hy.nilp_inv, g1]
      exact ⟨rfl, rfl⟩
    · obtain ⟨q, _, g1⟩ := hx.ptr_inv
      obtain ⟨r, _, g2⟩ := hy.ptr_inv
      rw [g1, g2]
      exact ⟨rfl, rfl⟩
    · cases h
  case ifc =>
    unfold eqC at h
    split at h
    · rw [hx.nili_inv, hy.nili_inv]
      exact ⟨rfl, rfl⟩
    · exact eqF_shape hx hy h
  case ifg => exact eqF_shape hx hy h
  case slc =>
    unfold eqS at h
    split at h
    · rw [hx.nils_inv, hy.nils_inv]
      exact ⟨rfl, rfl⟩
    · simp only [VR] at hy
      obtain ⟨p, q, c, _, g2, _⟩ := hy
      rw [hx.nils_inv, g2]
      exact ⟨rfl, rfl⟩
    · simp only [VR] at hx
      obtain ⟨p, q, c, _, g2, _⟩ := hx
      rw [hy.nils_inv, g2]
      exact ⟨rfl, rfl⟩
    · cases h
  case fn =>
    unfold eqN at h
    split at h
    · rw [hx.nilf_inv, hy.nilf_inv]
      exact ⟨rfl, rfl⟩
    · simp only [VR] at hy
      obtain ⟨p, q, g2, _⟩ := hy
      rw [hx.nilf_inv, g2]
      exact ⟨rfl, rfl⟩
    · simp only [VR] at hx
      obtain ⟨p, q, g2, _⟩ := hx
      rw [hy.nilf_inv, g2]
      exact ⟨rfl, rfl⟩
    · cases h
  case map =>
    unfold eqM at h
    split at h
    · rw [hx.nilm_inv, hy.nilm_inv]
      exact ⟨rfl, rfl⟩
    · obtain ⟨q, _, g2⟩ := hy.map_inv
      rw [hx.nilm_inv, g2]
      exact ⟨rfl, rfl⟩
    · obtain ⟨q, _, g2⟩ := hx.map_inv
      rw [hy.nilm_inv, g2]
      exact ⟨rfl, rfl⟩
    · cases h

theorem run_binA {op : BinOp} {t : TypeId} {k k' : EK} (hR : R P.globals.size φ H w) (hC : CmpOK P C) (hk : ekOf P t = some k) (hkk : k' = k ∨ (k = .ifc ∧ k' = .ifg)) {u v r : AV} {x y : Value} (hx : VR φ u x) (hy : VR φ v y)
    (h : binA C.cmp H op k' u v = some r) : ∃ r', (binOp op t x y).run P w = .ok r' w ∧ VR φ r r' := by
  unfold binA at h
  split at h
  · rename_i i p j q
    rw [hx.int_inv, hy.int_inv]
    split at h
    · split at h
      · cases h
      · rename_i hq
        cases h
        refine ⟨.int i (i.wrap (p * 2 ^ (min q.toNat i.bits))), ?_, ?_⟩
        · simp [binOp, Op.shift, hq]
        · simp [VR]
    · split at h
      · cases h
      · rename_i hq
        cases h
        refine ⟨.int i (p.fdiv (2 ^ (min q.toNat i.bits))), ?_, ?_⟩
        · simp [binOp, Op.shift, hq]
        · simp [VR]
    · rename_i h1 h2
      split at h
      · rename_i hij
        subst hij
        obtain ⟨v', h3, h4⟩ := run_intOp (P := P) (w := w) (φ := φ) h
        refine ⟨v', ?_, h4⟩
        cases op <;> first
          | (simp only [binOp, ne_eq, not_true_eq_false, if_false]; exact h3)
          | (simp [intOp] at h; done)
          | exact absurd rfl h1
          | exact absurd rfl h2
      · cases h
  · rename_i p q
    rw [hx.str_inv, hy.str_inv]
    obtain ⟨v', h3, h4⟩ := run_strOp (P := P) (w := w) (φ := φ) h
    refine ⟨v', ?_, h4⟩
    cases op <;> first
      | exact h3
      | (simp [strOp] at h; done)
  · rename_i hn1 hn2
    split at h
    · simp only [Option.map_eq_some_iff] at h
      obtain ⟨b, hb, rfl⟩ := h
      refine ⟨.bool b, ?_, by simp [VR]⟩
      have := run_equal' hR hC hk hkk hx hy hb
      have key := (eqA_shape (t := t) hx hy hb).1
      rw [key]
      simp [this]
    · simp only [Option.map_eq_some_iff] at h
      obtain ⟨b, hb, rfl⟩ := h
      refine ⟨.bool (!b), ?_, by simp [VR]⟩
      have := run_equal' hR hC hk hkk hx hy hb
      have key := (eqA_shape (t := t) hx hy hb).2
      rw [key]
      simp [this]
    · cases h
end
end Go.Vd
namespace Go.Vd

section
variable {P : Program} {φ : Mp} {H : AH} {w : World} {tm : Tr AV} {a : Act} {o : Oper} {C : Ctx}

theorem run_eqGuard {op : BinOp} {t : TypeId} {k k' : EK} {x y : Operand} (hk : ekOf P t = some k) (hkk : k' = gk x y k) {u v r : AV} {x' y' : Value} (hx : VR φ u x') (hy : VR φ v y') (h : binA C.cmp H op k' u v = some r) : (eqGuard op t x y x' y').run P w = .ok () w := by
  by_cases hop : op = .eql ∨ op = .neq
  · have hE : eqGuard op t x y x' y' = eqGuard .eql t x y x' y' := by rcases hop with rfl | rfl <;> rfl
    rw [hE]
    cases u <;> simp only [VR] at hx
    case nili =>
      subst hx
      cases v <;> simp only [VR] at hy
      case nili =>
        subst hy
        have hc : (isConstO x || isConstO y) = true := by
          cases hcc : (isConstO x || isConstO y) with
          | true => rfl
          | false =>
            exfalso
            unfold gk at hkk
            rw [hcc] at hkk
            simp only [Bool.false_eq_true, if_false] at hkk
            unfold binA at h
            rcases hop with rfl | rfl
            all_goals
              cases k <;> simp only at hkk <;> subst hkk <;> simp [eqA, eqF, eqB, eqP, eqS, eqN, eqM] at h
        cases x <;> cases y <;> first
          | rfl
          | (simp [isConstO] at hc; done)
      case agg l => obtain ⟨vs, rfl, _⟩ := hy; rfl
      case slc X o l c s e => obtain ⟨p, q, c', _, rfl, _⟩ := hy; rfl
      case ptr X o => obtain ⟨p, _, rfl⟩ := hy; rfl
      case map X => obtain ⟨p, _, rfl⟩ := hy; rfl
      case fn f b c => obtain ⟨p, q, rfl, _⟩ := hy; rfl
      case ifc t z => obtain ⟨p, rfl, _⟩ := hy; rfl
      case tup l => obtain ⟨p, rfl, _⟩ := hy; rfl
      case cls i m r => obtain ⟨n, rfl, _⟩ := hy; rfl
      case sym X => obtain ⟨n, _, rfl⟩ := hy; rfl
      all_goals (subst hy; rfl)
    case agg l =>
      exfalso
      unfold binA at h
      rcases hop with rfl | rfl
      all_goals
        cases k' <;> simp [eqA, eqF, eqB, eqP, eqS, eqN, eqM, eqC] at h
    case slc X o l c s e => obtain ⟨p, q, c', _, rfl, _⟩ := hx; rfl
    case ptr X o => obtain ⟨p, _, rfl⟩ := hx; rfl
    case map X => obtain ⟨p, _, rfl⟩ := hx; rfl
    case fn f b c => obtain ⟨p, q, rfl, _⟩ := hx; rfl
    case ifc t z => obtain ⟨p, rfl, _⟩ := hx; rfl
    case tup l => obtain ⟨p, rfl, _⟩ := hx; rfl
    case cls i m r => obtain ⟨n, rfl, _⟩ := hx; rfl
    case sym X => obtain ⟨n, _, rfl⟩ := hx; rfl
    all_goals (subst hx; rfl)
  · cases op <;> first
      | rfl
      | (simp at hop; done)

theorem and_one_u8 (n : Nat) : IntKind.u8.wrap ((BitVec.ofInt IntKind.u8.bits (.ofNat n) &&& BitVec.ofInt IntKind.u8.bits 1).toNat : Nat) = .ofNat (n % 2) := by
  have h : (BitVec.ofInt IntKind.u8.bits (.ofNat n) &&& BitVec.ofInt IntKind.u8.bits 1).toNat = n % 2 := by
    have h1 : (BitVec.ofInt 8 (Int.ofNat n)).toNat = n % 256 := by
      have : BitVec.ofInt 8 (Int.ofNat n) = BitVec.ofNat 8 n := by
        apply BitVec.eq_of_toNat_eq
        simp
      rw [this]
      simp
    show (BitVec.ofInt 8 (Int.ofNat n) &&& BitVec.ofInt 8 1).toNat = n % 2
    rw [BitVec.toNat_and, h1]
    show n % 256 &&& 1 = n % 2
    rw [Nat.and_one_is_mod]
    omega
  rw [h]
  have : n % 2 = 0 ∨ n % 2 = 1 := by omega
  rcases this with e | e <;> rw [e] <;> rfl

theorem binC_spec {cmp : Nat → Bool} {H : AH} {op : BinOp} {k : EK} {u v r : AV} {x' : Value} (h : binC op u v = some r) (hx : VR φ u x') :
    ∃ u1 r1, VR φ u1 x' ∧ binA cmp H op k u1 v = some r1 ∧ ∀ z, VR φ r1 z → VR φ r z := by
  unfold binC at h
  split at h
  · rename_i i m r0 j b
    simp only [VR] at hx
    obtain ⟨n, rfl, hn⟩ := hx
    split at h
    · rw [Option.ite_none_right_eq_some] at h
      obtain ⟨hc, h⟩ := h
      cases h
      simp only [Bool.and_eq_true, decide_eq_true_eq] at hc
      obtain ⟨⟨rfl, hb⟩, hm⟩ := hc
      have hb : 0 < b := Nat.le_of_ble_eq_true hb
      have hm : m % b = 0 := Nat.eq_of_beq_eq_true hm
      refine ⟨.int i (.ofNat n), .int i ((Int.ofNat n).tmod (.ofNat b)), by simp [VR], ?_, ?_⟩
      · have hne : (Int.ofNat b) ≠ 0 := by
          intro e
          have : b = 0 := by simpa using e
          omega
        simp only [binA, if_true, intOp]
        rw [if_neg hne]
      · intro z hz
        simp only [VR] at hz ⊢
        rw [hz, ← hn]
        have e : (Int.ofNat n).tmod (Int.ofNat b) = Int.ofNat (n % b) := rfl
        rw [e, Nat.mod_mod_of_dvd n (Nat.dvd_of_mod_eq_zero hm)]
    · rw [Option.ite_none_right_eq_some] at h
      obtain ⟨hc, h⟩ := h
      cases h
      simp only [Bool.and_eq_true] at hc
      have hb : b ≤ 8 := Nat.le_of_ble_eq_true hc.1
      have hm : m % 2 ^ b = 0 := Nat.eq_of_beq_eq_true hc.2
      refine ⟨.int i (.ofNat n), .int i ((Int.ofNat n).fdiv (2 ^ (min (Int.ofNat b).toNat i.bits))), by simp [VR], ?_, ?_⟩
      · simp only [binA]
        rw [if_neg]
        have : (0 : Int) ≤ Int.ofNat b := Int.natCast_nonneg b
        omega
      · intro z hz
        simp only [VR] at hz ⊢
        refine ⟨n / 2 ^ b, ?_, ?_⟩
        · rw [hz]
          have hbits : 8 ≤ i.bits := by cases i <;> decide
          have e1 : min (Int.ofNat b).toNat i.bits = b := by
            have : (Int.ofNat b).toNat = b := rfl
            omega
          rw [e1]
          have e2 : (2 : Int) ^ b = Int.ofNat (2 ^ b) := by
            simp
          rw [e2]
          congr 1
          have hpos : 0 < 2 ^ b := Nat.two_pow_pos b
          have hf : (Int.ofNat n).fdiv (Int.ofNat (2 ^ b)) = (Int.ofNat n) / (Int.ofNat (2 ^ b)) := Int.fdiv_eq_ediv_of_nonneg _ (Int.natCast_nonneg (2 ^ b))
          rw [hf]
          rfl
        · obtain ⟨q, hq⟩ := Nat.dvd_of_mod_eq_zero hm
          have hpos : 0 < 2 ^ b := Nat.two_pow_pos b
          rw [← hn, hq, Nat.mul_div_cancel_left _ hpos, Nat.mod_mul_right_div_self]
    · rw [Option.ite_none_right_eq_some] at h
      obtain ⟨hc, h⟩ := h
      cases h
      simp only [Bool.and_eq_true, decide_eq_true_eq] at hc
      obtain ⟨⟨⟨rfl, rfl⟩, hb⟩, hm⟩ := hc
      have hb : b = 1 := Nat.eq_of_beq_eq_true hb
      have hm : m % 2 = 0 := Nat.eq_of_beq_eq_true hm
      subst hb
      refine ⟨.int .u8 (.ofNat n), .int .u8 (.ofNat (n % 2)), by simp [VR], ?_, ?_⟩
      · simp only [binA, if_true, intOp]
        rw [← and_one_u8 n]
        rfl
      · intro z hz
        simp only [VR] at hz ⊢
        rw [hz, ← hn, Nat.mod_mod_of_dvd n (Nat.dvd_of_mod_eq_zero hm)]
    · cases h
  · cases h

theorem symEq_spec {n : Nat} (hR : R n φ H w) {u v : AV} {b : Bool} (h : symEq H u v = some b) {x' y' : Value} (hx : VR φ u x') (hy : VR φ v y') :
    ∃ s t : List UInt8, VR φ (.str s) x' ∧ VR φ (.str t) y' ∧ strEq s t = b := by
  have sy : ∀ {X : Nat} {p : Pl}, φ X = some p → H.isSy X = true → goodB (decS p.base) = true := by
    intro X p hp hs
    unfold AH.isSy at hs
    split at hs
    · rename_i ne hg
      have := hR.blk X p hp
      rw [hg] at this
      exact this.1
    · cases hs
  have ap : ∀ {X Y : Nat} {p q : Pl}, φ X = some p → φ Y = some q → H.apart X Y = true → decS q.base ≠ decS p.base := by
    intro X Y p q hp hq hs
    unfold AH.apart at hs
    split at hs
    · rename_i ne hg
      have := hR.blk X p hp
      rw [hg] at this
      obtain ⟨Z, hZ, he⟩ := List.any_eq_true.1 hs
      have he := Nat.eq_of_beq_eq_true he
      subst he
      obtain ⟨q', h1, h2⟩ := this.2 _ hZ
      rw [hq] at h1
      cases h1
      exact h2
    · cases hs
  unfold symEq at h
  split at h
  · rename_i X s
    rw [Option.ite_none_right_eq_some] at h
    obtain ⟨hc, h⟩ := h
    cases h
    simp only [Bool.and_eq_true, Bool.not_eq_true'] at hc
    simp only [VR] at hx hy
    obtain ⟨p, hp, rfl⟩ := hx
    refine ⟨decS p.base, s, by simp [VR], by simp [VR, hy], ?_⟩
    rw [strEq_eq]
    have := sy hp hc.1
    cases he : (decS p.base == s) with
    | false => rfl
    | true => rw [beq_iff_eq] at he; rw [he, hc.2] at this; cases this
  · rename_i s X
    rw [Option.ite_none_right_eq_some] at h
    obtain ⟨hc, h⟩ := h
    cases h
    simp only [Bool.and_eq_true, Bool.not_eq_true'] at hc
    simp only [VR] at hx hy
    obtain ⟨p, hp, rfl⟩ := hy
    refine ⟨s, decS p.base, by simp [VR, hx], by simp [VR], ?_⟩
    rw [strEq_eq]
    have := sy hp hc.1
    cases he : (s == decS p.base) with
    | false => rfl
    | true => rw [beq_iff_eq] at he; rw [← he, hc.2] at this; cases this
  · rename_i X Y
    simp only [VR] at hx hy
    obtain ⟨p, hp, rfl⟩ := hx
    obtain ⟨q, hq, rfl⟩ := hy
    refine ⟨decS p.base, decS q.base, by simp [VR], by simp [VR], ?_⟩
    rw [strEq_eq]
    split at h
    · rename_i hb
      have hb := Nat.eq_of_beq_eq_true hb
      subst hb
      rw [hp] at hq
      cases hq
      cases h
      simp
    · rw [Option.ite_none_right_eq_some] at h
      obtain ⟨hc, h⟩ := h
      cases h
      have := ap hp hq hc
      cases he : (decS p.base == decS q.base) with
      | false => rfl
      | true => rw [beq_iff_eq] at he; exact absurd he.symm this
  · cases h

theorem binY_spec {n : Nat} (hR : R n φ H w) {cmp : Nat → Bool} {op : BinOp} {k : EK} {u v r : AV} (h : binY H op u v = some r) {x' y' : Value} (hx : VR φ u x') (hy : VR φ v y') :
    ∃ u1 v1, VR φ u1 x' ∧ VR φ v1 y' ∧ binA cmp H op k u1 v1 = some r := by
  unfold binY at h
  split at h
  · rw [Option.map_eq_some_iff] at h
    obtain ⟨b, h1, rfl⟩ := h
    obtain ⟨s, t, h2, h3, h4⟩ := symEq_spec hR h1 hx hy
    exact ⟨_, _, h2, h3, by simp only [binA, strOp, h4]⟩
  · rw [Option.map_eq_some_iff] at h
    obtain ⟨b, h1, rfl⟩ := h
    obtain ⟨s, t, h2, h3, h4⟩ := symEq_spec hR h1 hx hy
    exact ⟨_, _, h2, h3, by simp only [binA, strOp, h4]⟩
  · cases h

theorem s_bin {op : BinOp} {t u : Nat} {x y : Operand} {b : AOp} (hC : CmpOK P C) (hR : R P.globals.size φ H w) (hF : FR φ tm a) (ho : o.op = .binOp op t x y u) (hc : cop P o = some b)
    {v : AV} {H' : AH} (ha : aop C tm H b = .val v H') : Snd P P.globals.size φ H w o a v H' := by
  simp only [cop, ho] at hc
  split at hc
  · rename_i x' y' k hx hy hk
    cases hc
    simp only [aop] at ha
    have h1 := opd_rel hR hF hx
    have h2 := opd_rel hR hF hy
    have key : ∀ (u1 v1 r1 : AV), VR φ u1 (a.eval x) → VR φ v1 (a.eval y) → binA C.cmp H op (gk x y k) u1 v1 = some r1 → (∀ z, VR φ r1 z → VR φ v z) → H' = H → Snd P P.globals.size φ H w o a v H' := by
      intro u1 v1 r1 g1 h2 g2 g3 g4
      subst g4
      obtain ⟨r', h3, h4⟩ := run_binA (w := w) (t := t) hR hC hk (by
        unfold gk
        split
        · split
          · exact .inl rfl
          · exact .inr ⟨rfl, rfl⟩
        · exact .inl rfl) g1 h2 g2
      have h5 := run_eqGuard (w := w) (C := C) hk rfl g1 h2 g2
      refine Snd.still hR (v' := r') ?_ (g3 r' h4)
      simp only [execOp, ho, Sem.run_bind, h5, Result.andThen_ok, h3, Sem.run_pure]
    split at ha
    · rename_i r0 hr
      simp only [ofV] at ha
      cases ha
      obtain ⟨u1, r1, g1, g2, g3⟩ := binC_spec (cmp := C.cmp) (H := H) (k := gk x y k) hr h1
      exact key u1 _ r1 g1 h2 g2 g3 rfl
    · split at ha
      · rename_i r0 hr
        simp only [ofV] at ha
        cases ha
        obtain ⟨u1, v1, g1, g2, g3⟩ := binY_spec hR (cmp := C.cmp) (k := gk x y k) hr h1 h2
        exact key u1 v1 _ g1 g2 g3 (fun z hz => hz) rfl
      · simp only [ofV] at ha
        split at ha
        · rename_i r hr
          cases ha
          exact key _ _ _ h1 h2 hr (fun z hz => hz) rfl
        · cases ha
  · cases hc

theorem s_un {op : UnOp} {t : Nat} {x : Operand} {y : Opd} (hR : R P.globals.size φ H w) (hF : FR φ tm a) (ho : o.op = .unOp op t x) (hc : cOpd P x = some y)
    {v : AV} {H' : AH} (ha : aop C tm H (.un op y) = .val v H') : Snd P P.globals.size φ H w o a v H' := by
  have hrel := opd_rel hR hF hc
  simp only [aop, ofV] at ha
  split at ha
  · rename_i r hr
    cases ha
    generalize ev tm y = u at hr hrel
    unfold unA at hr
    split at hr
    · rename_i k n
      cases hr
      refine Snd.still hR (v' := .int k (k.wrap (0 - n))) ?_ (by simp [VR])
      simp only [execOp, ho, hrel.int_inv]
      rfl
    · rename_i k n
      obtain ⟨v', h3, h4⟩ := run_intOp (P := P) (w := w) (φ := φ) hr
      refine Snd.still hR (v' := v') ?_ h4
      simp only [execOp, ho, hrel.int_inv, Op.unary, Sem.run_bind]
      simp only at h3
      rw [h3]
      rfl
    · rename_i b
      cases hr
      refine Snd.still hR (v' := .bool !b) ?_ (by simp [VR])
      simp only [execOp, ho, hrel.bool_inv]
      rfl
    · cases hr
  · cases ha

theorem s_ext {x : Operand} {i : Nat} {y : Opd} (hR : R P.globals.size φ H w) (hF : FR φ tm a) (ho : o.op = .extract x i) (hc : cOpd P x = some y)
    {v : AV} {H' : AH} (ha : aop C tm H (.ext y i) = .val v H') : Snd P P.globals.size φ H w o a v H' := by
  have hrel := opd_rel hR hF hc
  simp only [aop] at ha
  split at ha
  · rename_i l hl
    rw [hl] at hrel
    simp only [ofV] at ha
    split at ha
    · rename_i r hr
      cases ha
      obtain ⟨vs, h1, h2⟩ := hrel.tup_inv
      obtain ⟨v', h3, h4⟩ := h2.get i v hr
      refine Snd.still hR (v' := v') ?_ h4
      simp only [execOp, ho, h1, Instr.extract, List.getElem?_toArray, h3]
      rfl
    · cases ha
  · cases ha

theorem asInt_run {k : IntKind} {n : Int} : (asInt (.int k n)).run P w = .ok n w := rfl
theorem asIntOf_run {k : IntKind} {n : Int} : (asIntOf (.int k n)).run P w = .ok (k, n) w := rfl

theorem s_ixs {t : Nat} {x i : Operand} {b : AOp} (hR : R P.globals.size φ H w) (hF : FR φ tm a) (ho : o.op = .indexAddr t x i) (hc : cop P o = some b)
    {v : AV} {H' : AH} (ha : aop C tm H b = .val v H') : Snd P P.globals.size φ H w o a v H' := by
  simp only [cop, ho] at hc
  split at hc
  · rename_i e y j hu hx hi
    simp only [Option.map_eq_some_iff] at hc
    obtain ⟨sz, hsz, rfl⟩ := hc
    obtain ⟨ie, hie, rfl⟩ := szOf_some hsz
    have h1 := opd_rel hR hF hx
    have h2 := opd_rel hR hF hi
    simp only [aop] at ha
    split at ha
    · rename_i X u len cap s ex k n hX hN
      split at ha
      · rename_i hcond
        cases ha
        simp only [Bool.and_eq_true, decide_eq_true_eq] at hcond
        obtain ⟨⟨⟨c1, c2⟩, c3⟩, c4⟩ := hcond
        have c1 := Nat.eq_of_beq_eq_true c1
        have c2 := Nat.le_of_ble_eq_true c2
        subst c1
        rw [hX] at h1
        rw [hN] at h2
        simp only [VR] at h1
        obtain ⟨p, q, c, g1, g2, g3, g4, g5⟩ := h1
        have hc0 : 0 < c := by
          cases ex with
          | true => rw [g3 rfl]; omega
          | false => have := (g4 rfl).1; omega
        have hq := g5 hc0
        subst hq
        refine Snd.still hR (v' := .pointer (some ⟨p.b, p.base + (u + n.toNat * ie.size), none⟩)) ?_ (by simp only [VR]; exact ⟨p, g1, rfl⟩)
        simp only [execOp, ho, Instr.indexAt, h2.int_inv, Sem.run_bind, asIntOf_run, Result.andThen_ok, run_underlying' hu, g2, Sem.run_pure]
        simp only [c3, c4, and_self, if_true, Sem.run_bind, run_sizeOf' hie, Result.andThen_ok, Sem.run_pure, add_eq, Nat.add_assoc]
      · cases ha
    · cases ha
  · rename_i len e y j hu hx hi
    simp only [Option.map_eq_some_iff] at hc
    obtain ⟨sz, hsz, rfl⟩ := hc
    obtain ⟨ie, hie, rfl⟩ := szOf_some hsz
    have h1 := opd_rel hR hF hx
    have h2 := opd_rel hR hF hi
    simp only [aop] at ha
    split at ha
    · rename_i X u k n hX hN
      split at ha
      · rename_i hcond
        cases ha
        simp only [Bool.and_eq_true, decide_eq_true_eq] at hcond
        obtain ⟨c3, c4⟩ := hcond
        rw [hX] at h1
        rw [hN] at h2
        obtain ⟨p, g1, g2⟩ := h1.ptr_inv
        refine Snd.still hR (v' := .pointer (some ⟨p.b, p.base + (u + n.toNat * ie.size), none⟩)) ?_ (by simp only [VR]; exact ⟨p, g1, rfl⟩)
        simp only [execOp, ho, Instr.indexAt, h2.int_inv, Sem.run_bind, asIntOf_run, Result.andThen_ok, run_underlying' hu, g2, Instr.sureAddr, Sem.run_pure]
        simp only [c3, c4, and_self, if_true, Sem.run_bind, run_sizeOf' hie, Result.andThen_ok, Sem.run_pure, add_eq, Nat.add_assoc]
      · cases ha
    · cases ha
  · cases hc

theorem s_ix {t : Nat} {x i : Operand} {b : AOp} (hR : R P.globals.size φ H w) (hF : FR φ tm a) (ho : o.op = .index t x i) (hc : cop P o = some b)
    {v : AV} {H' : AH} (ha : aop C tm H b = .val v H') : Snd P P.globals.size φ H w o a v H' := by
  simp only [cop, ho] at hc
  split at hc
  · rename_i y j hu hx hi
    cases hc
    have h1 := opd_rel hR hF hx
    have h2 := opd_rel hR hF hi
    simp only [aop] at ha
    split at ha
    · rename_i s k n hX hN
      rw [hX] at h1
      rw [hN] at h2
      split at ha
      · rename_i c3
        simp only [decide_eq_true_eq] at c3
        simp only [ofV] at ha
        split at ha
        · rename_i r hr
          cases ha
          simp only [Option.map_eq_some_iff] at hr
          obtain ⟨bb, hb, rfl⟩ := hr
          refine Snd.still hR (v' := .int .u8 bb.toNat) ?_ (by simp [VR])
          simp only [execOp, ho, Instr.index, h2.int_inv, h1.str_inv, Sem.run_bind, asIntOf_run, Result.andThen_ok, run_underlying' hu]
          have : (ByteArray.mk s.toArray)[n.toNat]? = some bb := by
            have hlt : n.toNat < s.length := by
              rcases Nat.lt_or_ge n.toNat s.length with g | g
              · exact g
              · rw [List.getElem?_eq_none g] at hb; cases hb
            rw [List.getElem?_eq_getElem hlt] at hb
            cases hb
            simp only [getElem?, decidableGetElem?]
            rw [dif_pos (by simpa [ByteArray.size] using hlt)]
            rfl
          simp only [c3, if_true, this, Sem.run_pure, Result.andThen_ok]
        · cases ha
      · cases ha
    · cases ha
  · rename_i len e y j hu hx hi
    split at hc
    · rename_i d sz hd hsz
      cases hc
      obtain ⟨ie, hie, rfl⟩ := szOf_some hsz
      have h1 := opd_rel hR hF hx
      have h2 := opd_rel hR hF hi
      simp only [aop] at ha
      split at ha
      · rename_i l k n hX hN
        rw [hX] at h1
        rw [hN] at h2
        split at ha
        · rename_i hcond
          simp only [Bool.and_eq_true, decide_eq_true_eq] at hcond
          obtain ⟨c3, c4⟩ := hcond
          obtain ⟨vs, g1, g2⟩ := h1.agg_inv
          have key : H' = H ∧ (if isAggD d then (if Nat.ble (n.toNat * ie.size + ie.size) l.length then some (.agg ((l.drop (n.toNat * ie.size)).take ie.size)) else none) else l[n.toNat * ie.size]?) = some v := by
            by_cases hagg : isAggD d = true
            · simp only [hagg, if_true] at ha ⊢
              split at ha
              · rename_i hle
                cases ha
                exact ⟨rfl, by simp [hle]⟩
              · cases ha
            · simp only [hagg] at ha ⊢
              simp only [Bool.false_eq_true, if_false] at ha ⊢
              simp only [ofV] at ha
              split at ha
              · rename_i r hr
                cases ha
                exact ⟨rfl, hr⟩
              · cases ha
          obtain ⟨rfl, hv⟩ := key
          obtain ⟨v', g3, g4⟩ := run_part (P := P) (w := w) hd hie g2 (n.toNat * ie.size) hv
          refine Snd.still hR (v' := v') ?_ g4
          simp only [execOp, ho, Instr.index, h2.int_inv, Sem.run_bind, asIntOf_run, Result.andThen_ok, run_underlying' hu, g1]
          simp only [c3, c4, and_self, if_true, Sem.run_bind, run_sizeOf' hie, Result.andThen_ok, g3, Sem.run_pure]
        · cases ha
      · cases ha
    · cases hc
  · cases hc
end
end Go.Vd
