/- Operations: what the evaluator gives, the model gives. Part 4: operators, conversions, indexes, slices. -/
import Derived.Test.YtabgoidablkmjaaGreatDoorVd8
set_option linter.unusedVariables false
set_option linter.unusedSimpArgs false
namespace Go.Vd

section
variable {P : Program} {φ : Mp} {H : AH} {w : World} {tm : Tr AV} {a : Act} {o : Oper} {C : Ctx}

theorem strEq_eq : ∀ (x y : List UInt8), strEq x y = (x == y)
  | [], [] => rfl
  | [], _ :: _ => rfl
  | _ :: _, [] => rfl
  | a :: x, b :: y => by
    simp only [strEq, strEq_eq x y]
    have : Nat.beq a.toNat b.toNat = (a == b) := by
      by_cases h : a = b
      · subst h; simp
      · have h2 : a.toNat ≠ b.toNat := fun e => h (UInt8.toNat_inj.1 e)
        have h3 : Nat.beq a.toNat b.toNat = false := by
          cases hb : Nat.beq a.toNat b.toNat with
          | true => exact absurd (Nat.eq_of_beq_eq_true hb) h2
          | false => rfl
        rw [h3]
        simp [h]
    rw [this]
    rfl

theorem bytesLt_eq : ∀ (x y : List UInt8), bytesLt x y = Op.bytesLess x y
  | [], [] => rfl
  | [], _ :: _ => rfl
  | _ :: _, [] => rfl
  | a :: x, b :: y => by
    simp only [bytesLt, Op.bytesLess, bytesLt_eq x y]
    have e1 : Nat.beq a.toNat b.toNat = (a == b) := by
      by_cases h : a = b
      · subst h; simp
      · have h2 : a.toNat ≠ b.toNat := fun e => h (UInt8.toNat_inj.1 e)
        have h3 : Nat.beq a.toNat b.toNat = false := by
          cases hb : Nat.beq a.toNat b.toNat with
          | true => exact absurd (Nat.eq_of_beq_eq_true hb) h2
          | false => rfl
        rw [h3]
        simp [h]
    have e2 : Nat.blt a.toNat b.toNat = decide (a < b) := by
      by_cases h : a < b
      · have := UInt8.lt_iff_toNat_lt.1 h
        simp only [h, decide_true]
        exact Nat.ble_eq_true_of_le this
      · have h2 : ¬ a.toNat < b.toNat := fun e => h (UInt8.lt_iff_toNat_lt.2 e)
        simp only [h, decide_false]
        cases hb : Nat.blt a.toNat b.toNat with
        | true => exact absurd (Nat.le_of_ble_eq_true hb) h2
        | false => rfl
    rw [e1, e2]

theorem ba_toList (l : List UInt8) : (ByteArray.mk l.toArray).toList = l := by
  have h : ∀ (bs : ByteArray) (i : Nat) (r : List UInt8), ByteArray.toList.loop bs i r = r.reverse ++ bs.data.toList.drop i := by
    intro bs i r
    fun_induction ByteArray.toList.loop bs i r with
    | case1 i r h ih =>
      rw [ih]
      have hi : i < bs.data.toList.length := by simpa using h
      rw [List.drop_eq_getElem_cons hi]
      simp only [List.reverse_cons, List.append_assoc, List.singleton_append]
      congr 2
      have h' : i < bs.data.size := h
      simp only [ByteArray.get!]
      rw [getElem!_pos bs.data i h', Array.getElem_toList]
    | case2 i r h =>
      have : bs.data.toList.length ≤ i := by
        have : ¬ i < bs.data.size := h
        simp; omega
      simp [List.drop_eq_nil_of_le this]
  rw [ByteArray.toList, h]
  simp

theorem ba_append (x y : List UInt8) : (ByteArray.mk x.toArray) ++ (ByteArray.mk y.toArray) = ByteArray.mk (x ++ y).toArray := by
  apply ByteArray.ext
  rw [ByteArray.data_append]
  simp

theorem ba_size (x : List UInt8) : (ByteArray.mk x.toArray).size = x.length := by simp [ByteArray.size]

theorem run_strOp {op : BinOp} {x y : List UInt8} {v : AV} (h : strOp op x y = some v) : ∃ v', (Op.stringOp op ⟨x.toArray⟩ ⟨y.toArray⟩).run P w = .ok v' w ∧ VR φ v v' := by
  cases op <;> simp only [strOp] at h <;> try (cases h; done)
  case add =>
    split at h
    · rename_i hl
      have hl := Nat.le_of_ble_eq_true hl
      cases h
      refine ⟨.string ⟨(x ++ y).toArray⟩, ?_, by simp [VR]⟩
      simp only [Op.stringOp, ba_size]
      rw [if_neg (by simp only [IntKind.max, IntKind.signed, IntKind.bits]; omega), ba_append]
      rfl
    · cases h
  all_goals
    cases h
    simp only [Op.stringOp, ba_toList, Sem.run_pure, strEq_eq, bytesLt_eq, VR]
    exact ⟨_, rfl, rfl⟩

theorem run_intOp {op : BinOp} {k : IntKind} {x y : Int} {v : AV} (h : intOp op k x y = some v) :
    ∃ v', (match op with
      | .add | .sub | .mul => Op.intArith op k x y
      | .quo | .rem => Op.intDiv op k x y
      | .and | .or | .xor | .andNot => Op.intBits op k x y
      | _ => Op.intCmp op x y).run P w = .ok v' w ∧ VR φ v v' := by
  cases op <;> simp only [intOp] at h <;> try (cases h; done)
  case quo =>
    split at h
    · cases h
    · rename_i h0
      cases h
      exact ⟨_, by simp [Op.intDiv, h0]; rfl, by simp [VR]⟩
  case rem =>
    split at h
    · cases h
    · rename_i h0
      cases h
      exact ⟨_, by simp [Op.intDiv, h0]; rfl, by simp [VR]⟩
  all_goals
    cases h
    simp only [Op.intArith, Op.intBits, Op.intCmp, Sem.run_pure, VR]
    first
      | exact ⟨_, rfl, rfl⟩
      | (refine ⟨_, rfl, ?_⟩
         congr 1
         by_cases e : x = y
         · simp [e]
         · simp [e])

theorem eqF_shape {cmp : Nat → Bool} {t : TypeId} {u v : AV} {x y : Value} (hx : VR φ u x) (hy : VR φ v y) {b : Bool} (h : eqF cmp u v = some b) :
    binOp .eql t x y = (do pure (.bool (← Op.equal t x y)) : Sem Value) ∧ binOp .neq t x y = (do pure (.bool (!(← Op.equal t x y))) : Sem Value) := by
  unfold eqF at h
  split at h
  · obtain ⟨q, g1, _⟩ := hy.ifc_inv
    rw [hx.nili_inv, g1]
    exact ⟨rfl, rfl⟩
  · obtain ⟨q, g1, _⟩ := hx.ifc_inv
    rw [hy.nili_inv, g1]
    exact ⟨rfl, rfl⟩
  · obtain ⟨q, g1, _⟩ := hx.ifc_inv
    obtain ⟨r, g2, _⟩ := hy.ifc_inv
    rw [g1, g2]
    exact ⟨rfl, rfl⟩
  · cases h

theorem eqA_shape {cmp : Nat → Bool} {k : EK} {t : TypeId} {u v : AV} {x y : Value} (hx : VR φ u x) (hy : VR φ v y) {b : Bool} (h : eqA cmp H k u v = some b) :
    binOp .eql t x y = (do pure (.bool (← Op.equal t x y)) : Sem Value) ∧ binOp .neq t x y = (do pure (.bool (!(← Op.equal t x y))) : Sem Value) := by
  cases k <;> simp only [eqA] at h <;> try (cases h; done)
  case bool =>
    unfold eqB at h
    split at h
    · rw [hx.bool_inv, hy.bool_inv]
      exact ⟨rfl, rfl⟩
    · cases h
  case ptr =>
    unfold eqP at h
    split at h
    · rw [hx.nilp_inv, hy.nilp_inv]
      exact ⟨rfl, rfl⟩
    · obtain ⟨q, _, g1⟩ := hy.ptr_inv
      rw [hx.nilp_inv, g1]
      exact ⟨rfl, rfl⟩
    · obtain ⟨q, _, g1⟩ := hx.ptr_inv
      rw [hy.nilp_inv, g1]
      exact ⟨rfl, rfl⟩
    · obtain ⟨q, _, g1⟩ := hx.ptr_inv
      obtain ⟨r, _, g2⟩ := hy.ptr_inv
      rw [g1, g2]
      exact ⟨rfl, rfl⟩
    · cases h
  case ifc =>
    unfold eqC at h
    split at h
    · rw [hx.nili_inv, hy.nili_inv]
      exact ⟨rfl, rfl⟩
    · exact eqF_shape hx hy h
  case ifg => exact eqF_shape hx hy h
  case slc =>
    unfold eqS at h
    split at h
    · rw [hx.nils_inv, hy.nils_inv]
      exact ⟨rfl, rfl⟩
    · simp only [VR] at hy
      obtain ⟨p, q, c, _, g2, _⟩ := hy
      rw [hx.nils_inv, g2]
      exact ⟨rfl, rfl⟩
    · simp only [VR] at hx
      obtain ⟨p, q, c, _, g2, _⟩ := hx
      rw [hy.nils_inv, g2]
      exact ⟨rfl, rfl⟩
    · cases h
  case fn =>
    unfold eqN at h
    split at h
    · rw [hx.nilf_inv, hy.nilf_inv]
      exact ⟨rfl, rfl⟩
    · simp only [VR] at hy
      obtain ⟨p, q, g2, _⟩ := hy
      rw [hx.nilf_inv, g2]
      exact ⟨rfl, rfl⟩
    · simp only [VR] at hx
      obtain ⟨p, q, g2, _⟩ := hx
      rw [hy.nilf_inv, g2]
      exact ⟨rfl, rfl⟩
    · cases h
  case map =>
    unfold eqM at h
    split at h
    · rw [hx.nilm_inv, hy.nilm_inv]
      exact ⟨rfl, rfl⟩
    · obtain ⟨q, _, g2⟩ := hy.map_inv
      rw [hx.nilm_inv, g2]
      exact ⟨rfl, rfl⟩
    · obtain ⟨q, _, g2⟩ := hx.map_inv
      rw [hy.nilm_inv, g2]
      exact ⟨rfl, rfl⟩
    · cases h

theorem run_binA {op : BinOp} {t : TypeId} {k k' : EK} (hR : R P.globals.size φ H w) (hC : CmpOK P C) (hk : ekOf P t = some k) (hkk : k' = k ∨ (k = .ifc ∧ k' = .ifg)) {u v r : AV} {x y : Value} (hx : VR φ u x) (hy : VR φ v y)
    (h : binA C.cmp H op k' u v = some r) : ∃ r', (binOp op t x y).run P w = .ok r' w ∧ VR φ r r' := by
  unfold binA at h
  split at h
  · rename_i i p j q
    rw [hx.int_inv, hy.int_inv]
    split at h
    · split at h
      · cases h
      · rename_i hq
        cases h
        refine ⟨.int i (i.wrap (p * 2 ^ (min q.toNat i.bits))), ?_, ?_⟩
        · simp [binOp, Op.shift, hq]
        · simp [VR]
    · split at h
      · cases h
      · rename_i hq
        cases h
        refine ⟨.int i (p.fdiv (2 ^ (min q.toNat i.bits))), ?_, ?_⟩
        · simp [binOp, Op.shift, hq]
        · simp [VR]
    · rename_i h1 h2
      split at h
      · rename_i hij
        subst hij
        obtain ⟨v', h3, h4⟩ := run_intOp (P := P) (w := w) (φ := φ) h
        refine ⟨v', ?_, h4⟩
        cases op <;> first
          | (simp only [binOp, ne_eq, not_true_eq_false, if_false]; exact h3)
          | (simp [intOp] at h; done)
          | exact absurd rfl h1
          | exact absurd rfl h2
      · cases h
  · rename_i p q
    rw [hx.str_inv, hy.str_inv]
    obtain ⟨v', h3, h4⟩ := run_strOp (P := P) (w := w) (φ := φ) h
    refine ⟨v', ?_, h4⟩
    cases op <;> first
      | exact h3
      | (simp [strOp] at h; done)
  · rename_i hn1 hn2
    split at h
    · simp only [Option.map_eq_some_iff] at h
      obtain ⟨b, hb, rfl⟩ := h
      refine ⟨.bool b, ?_, by simp [VR]⟩
      have := run_equal' hR hC hk hkk hx hy hb
      have key := (eqA_shape (t := t) hx hy hb).1
      rw [key]
      simp [this]
    · simp only [Option.map_eq_some_iff] at h
      obtain ⟨b, hb, rfl⟩ := h
      refine ⟨.bool (!b), ?_, by simp [VR]⟩
      have := run_equal' hR hC hk hkk hx hy hb
      have key := (eqA_shape (t := t) hx hy hb).2
      rw [key]
      simp [this]
    · cases h
end
end Go.Vd
