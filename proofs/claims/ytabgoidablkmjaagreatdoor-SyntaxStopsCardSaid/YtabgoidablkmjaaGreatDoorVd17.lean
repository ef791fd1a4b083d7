/- Operations: calls, deferred calls, panics. -/
import Derived.Test.YtabgoidablkmjaaGreatDoorVd16
set_option linter.unusedVariables false
set_option linter.unusedSimpArgs false
namespace Go.Vd

/-- Operations that may come to something else than a value. -/
def AOp.isCall : AOp → Bool
  | .call .. | .xcall .. | .vcall .. | .icall .. | .dfr .. | .pan _ | .rcv => true
  | _ => false

theorem aop_plain {C : Ctx} {tm : Tr AV} {H : AH} {b : AOp} (h : b.isCall = false) : (∃ v H', aop C tm H b = .val v H') ∨ aop C tm H b = .fail := by
  cases b <;> first
    | (simp [AOp.isCall] at h; done)
    | skip
  case conv k x => cases k <;> simp only [aop, ofV] <;> (repeat' split) <;> simp
  case fld off n x => cases n <;> simp only [aop, ofV] <;> (repeat' split) <;> simp
  all_goals
    simp only [aop, ofV] <;> (repeat' split) <;> simp

section
variable {P : Program} {φ : Mp} {H : AH} {w : World} {tm : Tr AV} {a : Act} {o : Oper} {C : Ctx}

/-- The operations that are calls, by what they were compiled from. -/
theorem cop_isCall {b : AOp} (hc : cop P o = some b) (hb : b.isCall = true) :
    (∃ c as, o.op = .call c ∧ cOpds P c.args.toList = some as ∧
      ((∃ f fn, c.callee = .value (.func f) ∧ P.funcs[f]? = some fn ∧ (b = .call f as ∨ b = .xcall f as)) ∨ (∃ x y, c.callee = .value x ∧ cOpd P x = some y ∧ b = .vcall y as) ∨
        (∃ r m y, c.callee = .invoke r m ∧ cOpd P r = some y ∧ b = .icall m y as) ∨ (c.callee = .builtin .recover ∧ as = [] ∧ b = .rcv))) ∨
    (∃ c x y as, o.op = .defer c ∧ c.callee = .value x ∧ cOpd P x = some y ∧ cOpds P c.args.toList = some as ∧ b = .dfr y as) ∨
    (∃ x y, o.op = .panic x ∧ cOpd P x = some y ∧ b = .pan y) := by
  cases ho : o.op with
  | call c =>
    left
    simp only [cop, ho] at hc
    split at hc
    · cases hc
    · rename_i as has
      refine ⟨c, as, rfl, has, ?_⟩
      split at hc
      · rename_i f hf
        left
        split at hc
        · rename_i fn hfn
          split at hc
          · cases hc
          · split at hc
            · cases hc
              exact ⟨f, fn, hf, hfn, .inl rfl⟩
            · cases hc
              exact ⟨f, fn, hf, hfn, .inr rfl⟩
        · cases hc
      · rename_i x hx hx2
        right; left
        simp only [Option.map_eq_some_iff] at hc
        obtain ⟨y, hy, rfl⟩ := hc
        exact ⟨x, y, hx2, hy, rfl⟩
      · rename_i r m hr
        right; right; left
        simp only [Option.map_eq_some_iff] at hc
        obtain ⟨y, hy, rfl⟩ := hc
        exact ⟨r, m, y, hr, hy, rfl⟩
      · rename_i bb hbb
        right; right; right
        split at hc <;> (repeat' split at hc) <;> first
          | (cases hc; simp [AOp.isCall] at hb; done)
          | (cases hc; done)
          | (cases hc; exact ⟨hbb, rfl, rfl⟩)
  | defer c =>
    right; left
    simp only [cop, ho] at hc
    split at hc
    · rename_i x as hx has
      simp only [Option.map_eq_some_iff] at hc
      obtain ⟨y, hy, rfl⟩ := hc
      exact ⟨c, x, y, as, rfl, hx, hy, has, rfl⟩
    · cases hc
  | panic x =>
    right; right
    simp only [cop, ho, Option.map_eq_some_iff] at hc
    obtain ⟨y, hy, rfl⟩ := hc
    exact ⟨x, y, rfl, hy, rfl⟩
  | next it isS =>
    cases isS
    · simp [cop, ho] at hc
    · simp only [cop, ho, Option.map_eq_some_iff] at hc
      obtain ⟨y, hy, rfl⟩ := hc
      simp [AOp.isCall] at hb
  | _ =>
    exfalso
    simp only [cop, ho] at hc
    first
      | (cases hc; done)
      | (simp only [Option.map_eq_some_iff] at hc; obtain ⟨y, hy, rfl⟩ := hc; simp [AOp.isCall] at hb; done)
      | ((repeat' split at hc) <;> first
          | (cases hc; done)
          | (cases hc; simp [AOp.isCall] at hb; done)
          | (simp only [Option.map_eq_some_iff] at hc; obtain ⟨y, hy, rfl⟩ := hc; simp [AOp.isCall] at hb; done))

theorem run_callFunc {f : Nat} (h : Enters P f) (args : Array Value) : (callFunc f args).run P w = .ok (.enter f args) w := by
  obtain ⟨fn, h1, h2, h3⟩ := h
  have h4 : fn.body.isNone = false := by
    cases hb : fn.body with
    | none => rw [hb] at h2; cases h2
    | some b => rfl
  simp only [callFunc, Sem.run_bind, run_program, Result.andThen_ok, h1, h3, h4, Bool.false_eq_true, if_false]
  rfl

/-- What a call operation comes to in the model: the callee, by 'callFunc'. -/
theorem run_call_value {c : Call} {x : Operand} {f : Nat} {l1 l2 : List Value} (ho : o.op = .call c) (hc : c.callee = .value x) (hx : a.eval x = .func (.func f) ⟨l1⟩ ⟨l2⟩) :
    (execOp a.eval o).run P w = (callFunc f ⟨l1 ++ c.args.toList.map a.eval ++ l2⟩).run P w := by
  simp only [execOp, ho, resolve, hc, Sem.run_bind, hx, Deferred.ofValue, Sem.run_pure, Result.andThen_ok, invoke]
  congr 2
  apply Array.ext'
  simp

theorem aop_call (hR : R P.globals.size φ H w) (hF : FR φ tm a) {b : AOp} (hc : cop P o = some b) {f : Nat} {as : List AV} (ha : aop C tm H b = .call f as) :
    ∃ args : List Value, (execOp a.eval o).run P w = (callFunc f ⟨args⟩).run P w ∧ VRs φ as args := by
  have hb : b.isCall = true := by
    cases hb : b.isCall with
    | true => rfl
    | false => rcases aop_plain (C := C) (tm := tm) (H := H) hb with ⟨v, H', h⟩ | h <;> rw [h] at ha <;> cases ha
  rcases cop_isCall hc hb with ⟨c, l, ho, hl, h | h | h | h⟩ | ⟨c, x, y, l, ho, hx, hy, hl, rfl⟩ | ⟨x, y, ho, hy, rfl⟩
  · obtain ⟨g, fn, hg, hfn, rfl | rfl⟩ := h
    · simp only [aop] at ha
      cases ha
      refine ⟨[] ++ c.args.toList.map a.eval ++ [], run_call_value ho hg rfl, ?_⟩
      simpa using opds_rel hR hF hl
    · simp [aop] at ha
  · obtain ⟨x, y, hx, hy, rfl⟩ := h
    have hrel := opd_rel hR hF hy
    simp only [aop] at ha
    split at ha
    · rename_i g p q he
      rw [he] at hrel
      split at ha
      · cases ha
      · cases ha
        simp only [VR] at hrel
        obtain ⟨l1, l2, e1, h1, h2⟩ := hrel
        exact ⟨_, run_call_value ho hx e1, (h1.append (opds_rel hR hF hl)).append h2⟩
    · cases ha
  · obtain ⟨r, m, y, _, _, rfl⟩ := h
    simp only [aop] at ha
    split at ha <;> cases ha
  · obtain ⟨_, _, rfl⟩ := h
    simp [aop] at ha
  · simp only [aop] at ha
    split at ha <;> cases ha
  · simp only [aop] at ha
    split at ha <;> cases ha

theorem aop_xcall (hR : R P.globals.size φ H w) (hF : FR φ tm a) {b : AOp} (hc : cop P o = some b) {f : Nat} {as : List AV} (ha : aop C tm H b = .xcall f as) :
    ∃ args : List Value, (execOp a.eval o).run P w = (callFunc f ⟨args⟩).run P w ∧ VRs φ as args := by
  have hb : b.isCall = true := by
    cases hb : b.isCall with
    | true => rfl
    | false => rcases aop_plain (C := C) (tm := tm) (H := H) hb with ⟨v, H', h⟩ | h <;> rw [h] at ha <;> cases ha
  rcases cop_isCall hc hb with ⟨c, l, ho, hl, h | h | h | h⟩ | ⟨c, x, y, l, ho, hx, hy, hl, rfl⟩ | ⟨x, y, ho, hy, rfl⟩
  · obtain ⟨g, fn, hg, hfn, rfl | rfl⟩ := h
    · simp [aop] at ha
    · simp only [aop] at ha
      cases ha
      refine ⟨[] ++ c.args.toList.map a.eval ++ [], run_call_value ho hg rfl, ?_⟩
      simpa using opds_rel hR hF hl
  · obtain ⟨x, y, hx, hy, rfl⟩ := h
    simp only [aop] at ha
    split at ha
    · split at ha <;> cases ha
    · cases ha
  · obtain ⟨r, m, y, _, _, rfl⟩ := h
    simp only [aop] at ha
    split at ha <;> cases ha
  · obtain ⟨_, _, rfl⟩ := h
    simp [aop] at ha
  · simp only [aop] at ha
    split at ha <;> cases ha
  · simp only [aop] at ha
    split at ha <;> cases ha

theorem aop_icall (hR : R P.globals.size φ H w) (hF : FR φ tm a) {b : AOp} (hc : cop P o = some b) {t : Nat} {v : AV} {m : String} {as : List AV} (ha : aop C tm H b = .icall t v m as) :
    ∃ (v' : Value) (args : List Value), (execOp a.eval o).run P w = (callMethod (.iface t v') m ⟨args⟩).run P w ∧ VR φ v v' ∧ VRs φ as args := by
  have hb : b.isCall = true := by
    cases hb : b.isCall with
    | true => rfl
    | false => rcases aop_plain (C := C) (tm := tm) (H := H) hb with ⟨v, H', h⟩ | h <;> rw [h] at ha <;> cases ha
  rcases cop_isCall hc hb with ⟨c, l, ho, hl, h | h | h | h⟩ | ⟨c, x, y, l, ho, hx, hy, hl, rfl⟩ | ⟨x, y, ho, hy, rfl⟩
  · obtain ⟨g, fn, hg, hfn, rfl | rfl⟩ := h <;> simp [aop] at ha
  · obtain ⟨x, y, hx, hy, rfl⟩ := h
    simp only [aop] at ha
    split at ha
    · split at ha <;> cases ha
    · cases ha
  · obtain ⟨r, m, y, hr, hy, rfl⟩ := h
    have hrel := opd_rel hR hF hy
    simp only [aop] at ha
    split at ha
    · rename_i t' u he
      cases ha
      rw [he] at hrel
      obtain ⟨v', e1, h1⟩ := hrel.ifc_inv
      refine ⟨v', c.args.toList.map a.eval, ?_, h1, opds_rel hR hF hl⟩
      simp only [execOp, ho, resolve, hr, Sem.run_bind, Sem.run_pure, Result.andThen_ok, invoke, e1]
      have : (#[Value.iface t v'] ++ Array.map a.eval c.args)[0]? = some (Value.iface t v') := by rw [Array.getElem?_append_left (Nat.zero_lt_one)]; rfl
      simp only [this]
      congr 2
      apply Array.ext'
      have hl2 : (c.args.toList.map a.eval).length = c.args.size := by simp
      simp [List.take_of_length_le (Nat.le_of_eq hl2)]
    · cases ha
  · obtain ⟨_, _, rfl⟩ := h
    simp [aop] at ha
  · simp only [aop] at ha
    split at ha <;> cases ha
  · simp only [aop] at ha
    split at ha <;> cases ha

theorem aop_dfr (hR : R P.globals.size φ H w) (hF : FR φ tm a) {b : AOp} (hc : cop P o = some b) {f : Nat} {as : List AV} (ha : aop C tm H b = .dfr f as) :
    ∃ (cap args : List Value), (execOp a.eval o).run P w = .ok (.defer { target := .fn (.func f) ⟨cap⟩, args := ⟨args⟩ }) w ∧ VRs φ as (args ++ cap) := by
  have hb : b.isCall = true := by
    cases hb : b.isCall with
    | true => rfl
    | false => rcases aop_plain (C := C) (tm := tm) (H := H) hb with ⟨v, H', h⟩ | h <;> rw [h] at ha <;> cases ha
  rcases cop_isCall hc hb with ⟨c, l, ho, hl, h | h | h | h⟩ | ⟨c, x, y, l, ho, hx, hy, hl, rfl⟩ | ⟨x, y, ho, hy, rfl⟩
  · obtain ⟨g, fn, hg, hfn, rfl | rfl⟩ := h <;> simp [aop] at ha
  · obtain ⟨x, y, hx, hy, rfl⟩ := h
    simp only [aop] at ha
    split at ha
    · split at ha <;> cases ha
    · cases ha
  · obtain ⟨r, m, y, hr, hy, rfl⟩ := h
    simp only [aop] at ha
    split at ha <;> cases ha
  · obtain ⟨_, _, rfl⟩ := h
    simp [aop] at ha
  · have hrel := opd_rel hR hF hy
    simp only [aop] at ha
    split at ha
    · rename_i g p q he
      cases ha
      rw [he] at hrel
      simp only [VR] at hrel
      obtain ⟨l1, l2, e1, h1, h2⟩ := hrel
      refine ⟨l2, l1 ++ c.args.toList.map a.eval, ?_, (h1.append (opds_rel hR hF hl)).append h2⟩
      simp only [execOp, ho, resolve, hx, Sem.run_bind, e1, Deferred.ofValue, Sem.run_pure, Result.andThen_ok]
      congr 3
      apply Array.ext'
      simp
    · cases ha
  · simp only [aop] at ha
    split at ha <;> cases ha

theorem aop_pan (hR : R P.globals.size φ H w) (hF : FR φ tm a) {b : AOp} (hc : cop P o = some b) {v : AV} (ha : aop C tm H b = .pan v) :
    ∃ v' : Value, (execOp a.eval o).run P w = .halt (.panic v') w ∧ VR φ v v' := by
  have hb : b.isCall = true := by
    cases hb : b.isCall with
    | true => rfl
    | false => rcases aop_plain (C := C) (tm := tm) (H := H) hb with ⟨v, H', h⟩ | h <;> rw [h] at ha <;> cases ha
  rcases cop_isCall hc hb with ⟨c, l, ho, hl, h | h | h | h⟩ | ⟨c, x, y, l, ho, hx, hy, hl, rfl⟩ | ⟨x, y, ho, hy, rfl⟩
  · obtain ⟨g, fn, hg, hfn, rfl | rfl⟩ := h <;> simp [aop] at ha
  · obtain ⟨x, y, hx, hy, rfl⟩ := h
    simp only [aop] at ha
    split at ha
    · split at ha <;> cases ha
    · cases ha
  · obtain ⟨r, m, y, hr, hy, rfl⟩ := h
    simp only [aop] at ha
    split at ha <;> cases ha
  · obtain ⟨_, _, rfl⟩ := h
    simp [aop] at ha
  · simp only [aop] at ha
    split at ha <;> cases ha
  · have hrel := opd_rel hR hF hy
    simp only [aop] at ha
    split at ha
    · rename_i t u he
      cases ha
      rw [he] at hrel
      obtain ⟨v', e1, h1⟩ := hrel.ifc_inv
      refine ⟨.iface t v', ?_, by simp only [VR]; exact ⟨v', rfl, h1⟩⟩
      simp [execOp, ho, e1, Instr.panic]
    · cases ha

theorem aop_rcv {b : AOp} (hc : cop P o = some b) (ha : aop C tm H b = .rcv) : (execOp a.eval o).run P w = .ok .recover w := by
  have hb : b.isCall = true := by
    cases hb : b.isCall with
    | true => rfl
    | false => rcases aop_plain (C := C) (tm := tm) (H := H) hb with ⟨v, H', h⟩ | h <;> rw [h] at ha <;> cases ha
  rcases cop_isCall hc hb with ⟨c, l, ho, hl, h | h | h | h⟩ | ⟨c, x, y, l, ho, hx, hy, hl, rfl⟩ | ⟨x, y, ho, hy, rfl⟩
  · obtain ⟨g, fn, hg, hfn, rfl | rfl⟩ := h <;> simp [aop] at ha
  · obtain ⟨x, y, hx, hy, rfl⟩ := h
    simp only [aop] at ha
    split at ha
    · split at ha <;> cases ha
    · cases ha
  · obtain ⟨r, m, y, hr, hy, rfl⟩ := h
    simp only [aop] at ha
    split at ha <;> cases ha
  · obtain ⟨h1, rfl, rfl⟩ := h
    rw [run_builtin ho h1]
    rfl
  · simp only [aop] at ha
    split at ha <;> cases ha
  · simp only [aop] at ha
    split at ha <;> cases ha
end
end Go.Vd
