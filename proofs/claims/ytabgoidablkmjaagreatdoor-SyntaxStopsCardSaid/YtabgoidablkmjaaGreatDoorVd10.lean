/- Operations: what the evaluator gives, the model gives. Part 5. -/
import Derived.Test.YtabgoidablkmjaaGreatDoorVd9
set_option linter.unusedVariables false
set_option linter.unusedSimpArgs false
namespace Go.Vd

section
variable {P : Program} {φ : Mp} {H : AH} {w : World} {tm : Tr AV} {a : Act} {o : Oper} {C : Ctx}

theorem run_eqGuard {op : BinOp} {t : TypeId} {k k' : EK} {x y : Operand} (hk : ekOf P t = some k) (hkk : k' = gk x y k) {u v r : AV} {x' y' : Value} (hx : VR φ u x') (hy : VR φ v y') (h : binA C.cmp H op k' u v = some r) : (eqGuard op t x y x' y').run P w = .ok () w := by
  by_cases hop : op = .eql ∨ op = .neq
  · have hE : eqGuard op t x y x' y' = eqGuard .eql t x y x' y' := by rcases hop with rfl | rfl <;> rfl
    rw [hE]
    cases u <;> simp only [VR] at hx
    case nili =>
      subst hx
      cases v <;> simp only [VR] at hy
      case nili =>
        subst hy
        have hc : (isConstO x || isConstO y) = true := by
          cases hcc : (isConstO x || isConstO y) with
          | true => rfl
          | false =>
            exfalso
            unfold gk at hkk
            rw [hcc] at hkk
            simp only [Bool.false_eq_true, if_false] at hkk
            unfold binA at h
            rcases hop with rfl | rfl
            all_goals
              cases k <;> simp only at hkk <;> subst hkk <;> simp [eqA, eqF, eqB, eqP, eqS, eqN, eqM] at h
        cases x <;> cases y <;> first
          | rfl
          | (simp [isConstO] at hc; done)
      case agg l => obtain ⟨vs, rfl, _⟩ := hy; rfl
      case slc X o l c s e => obtain ⟨p, q, c', _, rfl, _⟩ := hy; rfl
      case ptr X o => obtain ⟨p, _, rfl⟩ := hy; rfl
      case map X => obtain ⟨p, _, rfl⟩ := hy; rfl
      case fn f b c => obtain ⟨p, q, rfl, _⟩ := hy; rfl
      case ifc t z => obtain ⟨p, rfl, _⟩ := hy; rfl
      case tup l => obtain ⟨p, rfl, _⟩ := hy; rfl
      case cls i m r => obtain ⟨n, rfl, _⟩ := hy; rfl
      all_goals (subst hy; rfl)
    case agg l =>
      exfalso
      unfold binA at h
      rcases hop with rfl | rfl
      all_goals
        cases k' <;> simp [eqA, eqF, eqB, eqP, eqS, eqN, eqM, eqC] at h
    case slc X o l c s e => obtain ⟨p, q, c', _, rfl, _⟩ := hx; rfl
    case ptr X o => obtain ⟨p, _, rfl⟩ := hx; rfl
    case map X => obtain ⟨p, _, rfl⟩ := hx; rfl
    case fn f b c => obtain ⟨p, q, rfl, _⟩ := hx; rfl
    case ifc t z => obtain ⟨p, rfl, _⟩ := hx; rfl
    case tup l => obtain ⟨p, rfl, _⟩ := hx; rfl
    case cls i m r => obtain ⟨n, rfl, _⟩ := hx; rfl
    all_goals (subst hx; rfl)
  · cases op <;> first
      | rfl
      | (simp at hop; done)

theorem and_one_u8 (n : Nat) : IntKind.u8.wrap ((BitVec.ofInt IntKind.u8.bits (.ofNat n) &&& BitVec.ofInt IntKind.u8.bits 1).toNat : Nat) = .ofNat (n % 2) := by
  have h : (BitVec.ofInt IntKind.u8.bits (.ofNat n) &&& BitVec.ofInt IntKind.u8.bits 1).toNat = n % 2 := by
    have h1 : (BitVec.ofInt 8 (Int.ofNat n)).toNat = n % 256 := by
      have : BitVec.ofInt 8 (Int.ofNat n) = BitVec.ofNat 8 n := by
        apply BitVec.eq_of_toNat_eq
        simp
      rw [this]
      simp
    show (BitVec.ofInt 8 (Int.ofNat n) &&& BitVec.ofInt 8 1).toNat = n % 2
    rw [BitVec.toNat_and, h1]
    show n % 256 &&& 1 = n % 2
    rw [Nat.and_one_is_mod]
    omega
  rw [h]
  have : n % 2 = 0 ∨ n % 2 = 1 := by omega
  rcases this with e | e <;> rw [e] <;> rfl

theorem binC_spec {cmp : Nat → Bool} {H : AH} {op : BinOp} {k : EK} {u v r : AV} {x' : Value} (h : binC op u v = some r) (hx : VR φ u x') :
    ∃ u1 r1, VR φ u1 x' ∧ binA cmp H op k u1 v = some r1 ∧ ∀ z, VR φ r1 z → VR φ r z := by
  unfold binC at h
  split at h
  · rename_i i m r0 j b
    simp only [VR] at hx
    obtain ⟨n, rfl, hn⟩ := hx
    split at h
    · rw [Option.ite_none_right_eq_some] at h
      obtain ⟨hc, h⟩ := h
      cases h
      simp only [Bool.and_eq_true, decide_eq_true_eq] at hc
      obtain ⟨⟨rfl, hb⟩, hm⟩ := hc
      have hb : 0 < b := Nat.le_of_ble_eq_true hb
      have hm : m % b = 0 := Nat.eq_of_beq_eq_true hm
      refine ⟨.int i (.ofNat n), .int i ((Int.ofNat n).tmod (.ofNat b)), by simp [VR], ?_, ?_⟩
      · have hne : (Int.ofNat b) ≠ 0 := by
          intro e
          have : b = 0 := by simpa using e
          omega
        simp only [binA, if_true, intOp]
        rw [if_neg hne]
      · intro z hz
        simp only [VR] at hz ⊢
        rw [hz, ← hn]
        have e : (Int.ofNat n).tmod (Int.ofNat b) = Int.ofNat (n % b) := rfl
        rw [e, Nat.mod_mod_of_dvd n (Nat.dvd_of_mod_eq_zero hm)]
    · rw [Option.ite_none_right_eq_some] at h
      obtain ⟨hc, h⟩ := h
      cases h
      simp only [Bool.and_eq_true] at hc
      have hb : b ≤ 8 := Nat.le_of_ble_eq_true hc.1
      have hm : m % 2 ^ b = 0 := Nat.eq_of_beq_eq_true hc.2
      refine ⟨.int i (.ofNat n), .int i ((Int.ofNat n).fdiv (2 ^ (min (Int.ofNat b).toNat i.bits))), by simp [VR], ?_, ?_⟩
      · simp only [binA]
        rw [if_neg]
        have : (0 : Int) ≤ Int.ofNat b := Int.natCast_nonneg b
        omega
      · intro z hz
        simp only [VR] at hz ⊢
        refine ⟨n / 2 ^ b, ?_, ?_⟩
        · rw [hz]
          have hbits : 8 ≤ i.bits := by cases i <;> decide
          have e1 : min (Int.ofNat b).toNat i.bits = b := by
            have : (Int.ofNat b).toNat = b := rfl
            omega
          rw [e1]
          have e2 : (2 : Int) ^ b = Int.ofNat (2 ^ b) := by
            simp
          rw [e2]
          congr 1
          have hpos : 0 < 2 ^ b := Nat.two_pow_pos b
          have hf : (Int.ofNat n).fdiv (Int.ofNat (2 ^ b)) = (Int.ofNat n) / (Int.ofNat (2 ^ b)) := Int.fdiv_eq_ediv_of_nonneg _ (Int.natCast_nonneg (2 ^ b))
          rw [hf]
          rfl
        · obtain ⟨q, hq⟩ := Nat.dvd_of_mod_eq_zero hm
          have hpos : 0 < 2 ^ b := Nat.two_pow_pos b
          rw [← hn, hq, Nat.mul_div_cancel_left _ hpos, Nat.mod_mul_right_div_self]
    · rw [Option.ite_none_right_eq_some] at h
      obtain ⟨hc, h⟩ := h
      cases h
      simp only [Bool.and_eq_true, decide_eq_true_eq] at hc
      obtain ⟨⟨⟨rfl, rfl⟩, hb⟩, hm⟩ := hc
      have hb : b = 1 := Nat.eq_of_beq_eq_true hb
      have hm : m % 2 = 0 := Nat.eq_of_beq_eq_true hm
      subst hb
      refine ⟨.int .u8 (.ofNat n), .int .u8 (.ofNat (n % 2)), by simp [VR], ?_, ?_⟩
      · simp only [binA, if_true, intOp]
        rw [← and_one_u8 n]
        rfl
      · intro z hz
        simp only [VR] at hz ⊢
        rw [hz, ← hn, Nat.mod_mod_of_dvd n (Nat.dvd_of_mod_eq_zero hm)]
    · cases h
  · cases h

theorem s_bin {op : BinOp} {t u : Nat} {x y : Operand} {b : AOp} (hC : CmpOK P C) (hR : R P.globals.size φ H w) (hF : FR φ tm a) (ho : o.op = .binOp op t x y u) (hc : cop P o = some b)
    {v : AV} {H' : AH} (ha : aop C tm H b = .val v H') : Snd P P.globals.size φ H w o a v H' := by
  simp only [cop, ho] at hc
  split at hc
  · rename_i x' y' k hx hy hk
    cases hc
    simp only [aop] at ha
    have h1 := opd_rel hR hF hx
    have h2 := opd_rel hR hF hy
    have key : ∀ (u1 r1 : AV), VR φ u1 (a.eval x) → binA C.cmp H op (gk x y k) u1 (ev tm y') = some r1 → (∀ z, VR φ r1 z → VR φ v z) → H' = H → Snd P P.globals.size φ H w o a v H' := by
      intro u1 r1 g1 g2 g3 g4
      subst g4
      obtain ⟨r', h3, h4⟩ := run_binA (w := w) (t := t) hR hC hk (by
        unfold gk
        split
        · split
          · exact .inl rfl
          · exact .inr ⟨rfl, rfl⟩
        · exact .inl rfl) g1 h2 g2
      have h5 := run_eqGuard (w := w) (C := C) hk rfl g1 h2 g2
      refine Snd.still hR (v' := r') ?_ (g3 r' h4)
      simp only [execOp, ho, Sem.run_bind, h5, Result.andThen_ok, h3, Sem.run_pure]
    split at ha
    · rename_i r0 hr
      simp only [ofV] at ha
      cases ha
      obtain ⟨u1, r1, g1, g2, g3⟩ := binC_spec (cmp := C.cmp) (H := H) (k := gk x y k) hr h1
      exact key u1 r1 g1 g2 g3 rfl
    · simp only [ofV] at ha
      split at ha
      · rename_i r hr
        cases ha
        exact key _ _ h1 hr (fun z hz => hz) rfl
      · cases ha
  · cases hc

theorem s_un {op : UnOp} {t : Nat} {x : Operand} {y : Opd} (hR : R P.globals.size φ H w) (hF : FR φ tm a) (ho : o.op = .unOp op t x) (hc : cOpd P x = some y)
    {v : AV} {H' : AH} (ha : aop C tm H (.un op y) = .val v H') : Snd P P.globals.size φ H w o a v H' := by
  have hrel := opd_rel hR hF hc
  simp only [aop, ofV] at ha
  split at ha
  · rename_i r hr
    cases ha
    generalize ev tm y = u at hr hrel
    unfold unA at hr
    split at hr
    · rename_i k n
      cases hr
      refine Snd.still hR (v' := .int k (k.wrap (0 - n))) ?_ (by simp [VR])
      simp only [execOp, ho, hrel.int_inv]
      rfl
    · rename_i k n
      obtain ⟨v', h3, h4⟩ := run_intOp (P := P) (w := w) (φ := φ) hr
      refine Snd.still hR (v' := v') ?_ h4
      simp only [execOp, ho, hrel.int_inv, Op.unary, Sem.run_bind]
      simp only at h3
      rw [h3]
      rfl
    · rename_i b
      cases hr
      refine Snd.still hR (v' := .bool !b) ?_ (by simp [VR])
      simp only [execOp, ho, hrel.bool_inv]
      rfl
    · cases hr
  · cases ha

theorem s_ext {x : Operand} {i : Nat} {y : Opd} (hR : R P.globals.size φ H w) (hF : FR φ tm a) (ho : o.op = .extract x i) (hc : cOpd P x = some y)
    {v : AV} {H' : AH} (ha : aop C tm H (.ext y i) = .val v H') : Snd P P.globals.size φ H w o a v H' := by
  have hrel := opd_rel hR hF hc
  simp only [aop] at ha
  split at ha
  · rename_i l hl
    rw [hl] at hrel
    simp only [ofV] at ha
    split at ha
    · rename_i r hr
      cases ha
      obtain ⟨vs, h1, h2⟩ := hrel.tup_inv
      obtain ⟨v', h3, h4⟩ := h2.get i v hr
      refine Snd.still hR (v' := v') ?_ h4
      simp only [execOp, ho, h1, Instr.extract, List.getElem?_toArray, h3]
      rfl
    · cases ha
  · cases ha

theorem asInt_run {k : IntKind} {n : Int} : (asInt (.int k n)).run P w = .ok n w := rfl
theorem asIntOf_run {k : IntKind} {n : Int} : (asIntOf (.int k n)).run P w = .ok (k, n) w := rfl

theorem s_ixs {t : Nat} {x i : Operand} {b : AOp} (hR : R P.globals.size φ H w) (hF : FR φ tm a) (ho : o.op = .indexAddr t x i) (hc : cop P o = some b)
    {v : AV} {H' : AH} (ha : aop C tm H b = .val v H') : Snd P P.globals.size φ H w o a v H' := by
  simp only [cop, ho] at hc
  split at hc
  · rename_i e y j hu hx hi
    simp only [Option.map_eq_some_iff] at hc
    obtain ⟨sz, hsz, rfl⟩ := hc
    obtain ⟨ie, hie, rfl⟩ := szOf_some hsz
    have h1 := opd_rel hR hF hx
    have h2 := opd_rel hR hF hi
    simp only [aop] at ha
    split at ha
    · rename_i X u len cap s ex k n hX hN
      split at ha
      · rename_i hcond
        cases ha
        simp only [Bool.and_eq_true, decide_eq_true_eq] at hcond
        obtain ⟨⟨⟨c1, c2⟩, c3⟩, c4⟩ := hcond
        have c1 := Nat.eq_of_beq_eq_true c1
        have c2 := Nat.le_of_ble_eq_true c2
        subst c1
        rw [hX] at h1
        rw [hN] at h2
        simp only [VR] at h1
        obtain ⟨p, q, c, g1, g2, g3, g4, g5⟩ := h1
        have hc0 : 0 < c := by
          cases ex with
          | true => rw [g3 rfl]; omega
          | false => have := (g4 rfl).1; omega
        have hq := g5 hc0
        subst hq
        refine Snd.still hR (v' := .pointer (some ⟨p.b, p.base + (u + n.toNat * ie.size), none⟩)) ?_ (by simp only [VR]; exact ⟨p, g1, rfl⟩)
        simp only [execOp, ho, Instr.indexAt, h2.int_inv, Sem.run_bind, asIntOf_run, Result.andThen_ok, run_underlying' hu, g2, Sem.run_pure]
        simp only [c3, c4, and_self, if_true, Sem.run_bind, run_sizeOf' hie, Result.andThen_ok, Sem.run_pure, add_eq, Nat.add_assoc]
      · cases ha
    · cases ha
  · rename_i len e y j hu hx hi
    simp only [Option.map_eq_some_iff] at hc
    obtain ⟨sz, hsz, rfl⟩ := hc
    obtain ⟨ie, hie, rfl⟩ := szOf_some hsz
    have h1 := opd_rel hR hF hx
    have h2 := opd_rel hR hF hi
    simp only [aop] at ha
    split at ha
    · rename_i X u k n hX hN
      split at ha
      · rename_i hcond
        cases ha
        simp only [Bool.and_eq_true, decide_eq_true_eq] at hcond
        obtain ⟨c3, c4⟩ := hcond
        rw [hX] at h1
        rw [hN] at h2
        obtain ⟨p, g1, g2⟩ := h1.ptr_inv
        refine Snd.still hR (v' := .pointer (some ⟨p.b, p.base + (u + n.toNat * ie.size), none⟩)) ?_ (by simp only [VR]; exact ⟨p, g1, rfl⟩)
        simp only [execOp, ho, Instr.indexAt, h2.int_inv, Sem.run_bind, asIntOf_run, Result.andThen_ok, run_underlying' hu, g2, Instr.sureAddr, Sem.run_pure]
        simp only [c3, c4, and_self, if_true, Sem.run_bind, run_sizeOf' hie, Result.andThen_ok, Sem.run_pure, add_eq, Nat.add_assoc]
      · cases ha
    · cases ha
  · cases hc

theorem s_ix {t : Nat} {x i : Operand} {b : AOp} (hR : R P.globals.size φ H w) (hF : FR φ tm a) (ho : o.op = .index t x i) (hc : cop P o = some b)
    {v : AV} {H' : AH} (ha : aop C tm H b = .val v H') : Snd P P.globals.size φ H w o a v H' := by
  simp only [cop, ho] at hc
  split at hc
  · rename_i y j hu hx hi
    cases hc
    have h1 := opd_rel hR hF hx
    have h2 := opd_rel hR hF hi
    simp only [aop] at ha
    split at ha
    · rename_i s k n hX hN
      rw [hX] at h1
      rw [hN] at h2
      split at ha
      · rename_i c3
        simp only [decide_eq_true_eq] at c3
        simp only [ofV] at ha
        split at ha
        · rename_i r hr
          cases ha
          simp only [Option.map_eq_some_iff] at hr
          obtain ⟨bb, hb, rfl⟩ := hr
          refine Snd.still hR (v' := .int .u8 bb.toNat) ?_ (by simp [VR])
          simp only [execOp, ho, Instr.index, h2.int_inv, h1.str_inv, Sem.run_bind, asIntOf_run, Result.andThen_ok, run_underlying' hu]
          have : (ByteArray.mk s.toArray)[n.toNat]? = some bb := by
            have hlt : n.toNat < s.length := by
              rcases Nat.lt_or_ge n.toNat s.length with g | g
              · exact g
              · rw [List.getElem?_eq_none g] at hb; cases hb
            rw [List.getElem?_eq_getElem hlt] at hb
            cases hb
            simp only [getElem?, decidableGetElem?]
            rw [dif_pos (by simpa [ByteArray.size] using hlt)]
            rfl
          simp only [c3, if_true, this, Sem.run_pure, Result.andThen_ok]
        · cases ha
      · cases ha
    · cases ha
  · rename_i len e y j hu hx hi
    split at hc
    · rename_i d sz hd hsz
      cases hc
      obtain ⟨ie, hie, rfl⟩ := szOf_some hsz
      have h1 := opd_rel hR hF hx
      have h2 := opd_rel hR hF hi
      simp only [aop] at ha
      split at ha
      · rename_i l k n hX hN
        rw [hX] at h1
        rw [hN] at h2
        split at ha
        · rename_i hcond
          simp only [Bool.and_eq_true, decide_eq_true_eq] at hcond
          obtain ⟨c3, c4⟩ := hcond
          obtain ⟨vs, g1, g2⟩ := h1.agg_inv
          have key : H' = H ∧ (if isAggD d then (if Nat.ble (n.toNat * ie.size + ie.size) l.length then some (.agg ((l.drop (n.toNat * ie.size)).take ie.size)) else none) else l[n.toNat * ie.size]?) = some v := by
            by_cases hagg : isAggD d = true
            · simp only [hagg, if_true] at ha ⊢
              split at ha
              · rename_i hle
                cases ha
                exact ⟨rfl, by simp [hle]⟩
              · cases ha
            · simp only [hagg] at ha ⊢
              simp only [Bool.false_eq_true, if_false] at ha ⊢
              simp only [ofV] at ha
              split at ha
              · rename_i r hr
                cases ha
                exact ⟨rfl, hr⟩
              · cases ha
          obtain ⟨rfl, hv⟩ := key
          obtain ⟨v', g3, g4⟩ := run_part (P := P) (w := w) hd hie g2 (n.toNat * ie.size) hv
          refine Snd.still hR (v' := v') ?_ g4
          simp only [execOp, ho, Instr.index, h2.int_inv, Sem.run_bind, asIntOf_run, Result.andThen_ok, run_underlying' hu, g1]
          simp only [c3, c4, and_self, if_true, Sem.run_bind, run_sizeOf' hie, Result.andThen_ok, g3, Sem.run_pure]
        · cases ha
      · cases ha
    · cases hc
  · cases hc
end
end Go.Vd
