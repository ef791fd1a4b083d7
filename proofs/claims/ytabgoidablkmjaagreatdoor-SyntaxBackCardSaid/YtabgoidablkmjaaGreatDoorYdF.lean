/- Operations: what the evaluator gives, the model gives. The whole. -/
import Derived.Test.YtabgoidablkmjaaGreatDoorYdE
import Derived.Recover
set_option linter.unusedVariables false
set_option linter.unusedSimpArgs false
namespace Go.Vd

/-- A function that may be entered. -/
def Enters (P : Program) (f : Nat) : Prop := ∃ fn, P.funcs[f]? = some fn ∧ fn.body.isSome = true ∧ (fn.name == "runtime.NumGoroutine") = false

structure CtxOK (P : Program) (C : Ctx) : Prop where
  cmp : CmpOK P C
  impl : ImplOK P C
  lies : LiesOK P C
  ext : ∀ f as H v H', C.ext f as H = some (v, H') → ∀ φ w (args : List Value), R P.globals.size φ H w → VRs φ as args →
    ∃ ψ v' w', (callFunc f ⟨args⟩).run P w = .ok (.value v') w' ∧ R P.globals.size ψ H' w' ∧ Nx φ H w ψ H' w' ∧ VR ψ v v'
  meth : ∀ t v m f r, C.meth t v m = some (f, r) → ∀ φ H w v', R P.globals.size φ H w → VR φ v v' → ∃ r', (method (P.types.size + Made.depth) t v' m).run P w = .ok (f, r') w ∧ VR φ r r'

section
variable {P : Program} {φ : Mp} {H : AH} {w : World} {tm : Tr AV} {a : Act} {o : Oper} {C : Ctx}

theorem R.ng' (hR : R P.globals.size φ H w) : P.globals.size ≤ H.next := by
  rcases Nat.eq_zero_or_pos P.globals.size with h | h
  · omega
  · exact hR.ng h

theorem aop_val (hC : CtxOK P C) (hR : R P.globals.size φ H w) (hF : FR φ tm a) {b : AOp} (hc : cop P o = some b) {v : AV} {H' : AH} (ha : aop C tm H b = .val v H') : Snd P P.globals.size φ H w o a v H' := by
  have hg := hR.ng'
  cases ho : o.op with
  | move x =>
    simp only [cop, ho, Option.map_eq_some_iff] at hc
    obtain ⟨y, hy, rfl⟩ := hc
    simp only [aop] at ha
    cases ha
    exact s_move hR hF (.inl ho) hy
  | assign x =>
    simp only [cop, ho, Option.map_eq_some_iff] at hc
    obtain ⟨y, hy, rfl⟩ := hc
    simp only [aop] at ha
    cases ha
    exact s_move hR hF (.inr ho) hy
  | pick c x y =>
    simp only [cop, ho] at hc
    split at hc
    · rename_i c' x' y' h1 h2 h3
      cases hc
      exact s_pick hR hF ho h1 h2 h3 ha
    · cases hc
  | alloc e =>
    simp only [cop, ho, Option.map_eq_some_iff] at hc
    obtain ⟨zs, hz, rfl⟩ := hc
    exact s_alloc hg hR ho hz ha
  | box e x =>
    simp only [cop, ho, Option.map_eq_some_iff] at hc
    obtain ⟨y, hy, rfl⟩ := hc
    exact s_box hg hR hF ho hy ha
  | build t ps => exact s_build hR hF ho hc ha
  | buildSlice t n ps => exact s_bslice hg hR hF ho hc ha
  | insert t m k x => simp [cop, ho] at hc
  | load t x => exact s_ld hR hF ho hc ha
  | store t x y => exact s_st hR hF ho hc ha
  | ready g => simp [cop, ho] at hc
  | waits g => simp [cop, ho] at hc
  | nilCheck x =>
    simp only [cop, ho, Option.map_eq_some_iff] at hc
    obtain ⟨y, hy, rfl⟩ := hc
    exact s_chk hR hF ho hy ha
  | binOp op t x y u => exact s_bin hC.cmp hR hF ho hc ha
  | unOp op t x =>
    simp only [cop, ho, Option.map_eq_some_iff] at hc
    obtain ⟨y, hy, rfl⟩ := hc
    exact s_un hR hF ho hy ha
  | convert s d x => exact s_conv hC.lies hR hF ho hc ha
  | sliceToArrayPointer d x => simp [cop, ho] at hc
  | makeInterface t x => exact s_mki hR hF ho hc ha
  | makeFunc f x y => exact s_mkf hR hF ho hc ha
  | makeMap t r => simp [cop, ho] at hc
  | makeChan t s => simp [cop, ho] at hc
  | makeSlice t l c => exact s_mks hg hR hF ho hc ha
  | slice t x lo hi mx => exact s_slice hR hF ho hc ha
  | fieldAddr t x f => exact s_fad hR hF ho hc ha
  | field t x f => exact s_fld hR hF ho hc ha
  | indexAddr t x i => exact s_ixs hR hF ho hc ha
  | index t x i => exact s_ix hR hF ho hc ha
  | lookup t x i ok => simp [cop, ho] at hc
  | mapUpdate t m k x => simp [cop, ho] at hc
  | mapEntry t m k => simp [cop, ho] at hc
  | entryStore t m s x => simp [cop, ho] at hc
  | range t x => exact s_rng hg hR hF ho hc ha
  | next it isS => exact s_nxt hR hF ho hc ha
  | entry it => simp [cop, ho] at hc
  | typeAssert x t u ok => exact s_ta hC.impl hR hF ho hc ha
  | extract x i =>
    simp only [cop, ho, Option.map_eq_some_iff] at hc
    obtain ⟨y, hy, rfl⟩ := hc
    exact s_ext hR hF ho hy ha
  | call c =>
    simp only [cop, ho] at hc
    split at hc
    · cases hc
    · rename_i as has
      split at hc
      · split at hc
        · split at hc
          · cases hc
          · split at hc <;> (cases hc; simp [aop] at ha)
        · cases hc
      · simp only [Option.map_eq_some_iff] at hc
        obtain ⟨y, hy, rfl⟩ := hc
        simp only [aop] at ha
        split at ha
        · split at ha <;> cases ha
        · cases ha
      · simp only [Option.map_eq_some_iff] at hc
        obtain ⟨y, hy, rfl⟩ := hc
        simp only [aop] at ha
        split at ha <;> cases ha
      · rename_i b hb
        split at hc
        · -- append
          rename_i x' y' st yt l hl'
          obtain ⟨x, l1, e1, e2, e3⟩ := cOpds_cons has
          obtain ⟨y, l2, e4, e5, e6⟩ := cOpds_cons e3
          have e7 := cOpds_nil e6
          subst e7; subst e4
          split at hc
          · rename_i e f hst hyt
            split at hc
            · rename_i sz bt z hsz hbt hz
              split at hc
              · rename_i hzl
                cases hc
                exact s_app hg hR hF ho hb e1 e2 e5 hl' hst (.inl ⟨f, hyt⟩) hsz hbt hz (Nat.eq_of_beq_eq_true hzl) ha
              · cases hc
            · cases hc
          · rename_i e hst hyt
            split at hc
            · rename_i sz bt z hsz hbt hz
              split at hc
              · rename_i hzl
                cases hc
                exact s_app hg hR hF ho hb e1 e2 e5 hl' hst (.inr hyt) hsz hbt hz (Nat.eq_of_beq_eq_true hzl) ha
              · cases hc
            · cases hc
          · cases hc
        · -- len
          rename_i x' t hl'
          obtain ⟨x, l1, e1, e2, e3⟩ := cOpds_cons has
          have e7 := cOpds_nil e3
          subst e7
          split at hc
          · rename_i hu
            cases hc
            exact s_tlen hR hF ho hb e1 e2 hl' hu ha
          · rename_i e hu
            cases hc
            exact s_len hR hF ho hb e1 e2 hl' hu ha
          · rename_i n e hu
            cases hc
            exact s_alen hR ho hb e1 hl' (.inl ⟨e, hu⟩) ha
          · rename_i p hu
            split at hc
            · rename_i n e hp
              cases hc
              exact s_alen hR ho hb e1 hl' (.inr ⟨p, e, hu, hp⟩) ha
            · cases hc
          · cases hc
        · -- cap
          rename_i x' t hl'
          obtain ⟨x, l1, e1, e2, e3⟩ := cOpds_cons has
          have e7 := cOpds_nil e3
          subst e7
          split at hc
          · rename_i e hu
            cases hc
            exact s_cap hR hF ho hb e1 e2 hl' hu ha
          · cases hc
        · cases hc
          exact s_mm (mx := true) hR hF ho hb has ha
        · cases hc
          exact s_mm (mx := false) hR hF ho hb has ha
        · cases hc
          simp [aop] at ha
        · cases hc
          rename_i x' hl'
          obtain ⟨x, l1, e1, e2, e3⟩ := cOpds_cons has
          have e7 := cOpds_nil e3
          subst e7
          exact s_sdata hR hF ho hb e1 e2 ha
        · rename_i x' y' pt l hl'
          obtain ⟨x, l1, e1, e2, e3⟩ := cOpds_cons has
          obtain ⟨y, l2, e4, e5, e6⟩ := cOpds_cons e3
          have e7 := cOpds_nil e6
          subst e7; subst e4
          split at hc
          · rename_i e hu
            split at hc
            · rename_i hsz
              cases hc
              exact s_ustr hR hF ho hb e1 e2 e5 hl' hu hsz ha
            · cases hc
          · cases hc
        · cases hc
  | go c => simp [cop, ho] at hc
  | defer c =>
    simp only [cop, ho] at hc
    split at hc
    · simp only [Option.map_eq_some_iff] at hc
      obtain ⟨y, hy, rfl⟩ := hc
      simp only [aop] at ha
      split at ha <;> cases ha
    · cases hc
  | panic x =>
    simp only [cop, ho, Option.map_eq_some_iff] at hc
    obtain ⟨y, hy, rfl⟩ := hc
    simp only [aop] at ha
    split at ha <;> cases ha
  | send c x => simp [cop, ho] at hc
  | recv t c ok => simp [cop, ho] at hc
  | select cs b => simp [cop, ho] at hc
end
end Go.Vd
namespace Go.Vd

/-- Operations that may come to something else than a value. -/
def AOp.isCall : AOp → Bool
  | .call .. | .xcall .. | .vcall .. | .icall .. | .dfr .. | .pan _ | .rcv => true
  | _ => false

theorem aop_plain {C : Ctx} {tm : Tr AV} {H : AH} {b : AOp} (h : b.isCall = false) : (∃ v H', aop C tm H b = .val v H') ∨ aop C tm H b = .fail := by
  cases b <;> first
    | (simp [AOp.isCall] at h; done)
    | skip
  case conv k x => cases k <;> simp only [aop, ofV] <;> (repeat' split) <;> simp
  case fld off n x => cases n <;> simp only [aop, ofV] <;> (repeat' split) <;> simp
  all_goals
    simp only [aop, ofV] <;> (repeat' split) <;> simp

section
variable {P : Program} {φ : Mp} {H : AH} {w : World} {tm : Tr AV} {a : Act} {o : Oper} {C : Ctx}

/-- The operations that are calls, by what they were compiled from. -/
theorem cop_isCall {b : AOp} (hc : cop P o = some b) (hb : b.isCall = true) :
    (∃ c as, o.op = .call c ∧ cOpds P c.args.toList = some as ∧
      ((∃ f fn, c.callee = .value (.func f) ∧ P.funcs[f]? = some fn ∧ (b = .call f as ∨ b = .xcall f as)) ∨ (∃ x y, c.callee = .value x ∧ cOpd P x = some y ∧ b = .vcall y as) ∨
        (∃ r m y, c.callee = .invoke r m ∧ cOpd P r = some y ∧ b = .icall m y as) ∨ (c.callee = .builtin .recover ∧ as = [] ∧ b = .rcv))) ∨
    (∃ c x y as, o.op = .defer c ∧ c.callee = .value x ∧ cOpd P x = some y ∧ cOpds P c.args.toList = some as ∧ b = .dfr y as) ∨
    (∃ x y, o.op = .panic x ∧ cOpd P x = some y ∧ b = .pan y) := by
  cases ho : o.op with
  | call c =>
    left
    simp only [cop, ho] at hc
    split at hc
    · cases hc
    · rename_i as has
      refine ⟨c, as, rfl, has, ?_⟩
      split at hc
      · rename_i f hf
        left
        split at hc
        · rename_i fn hfn
          split at hc
          · cases hc
          · split at hc
            · cases hc
              exact ⟨f, fn, hf, hfn, .inl rfl⟩
            · cases hc
              exact ⟨f, fn, hf, hfn, .inr rfl⟩
        · cases hc
      · rename_i x hx hx2
        right; left
        simp only [Option.map_eq_some_iff] at hc
        obtain ⟨y, hy, rfl⟩ := hc
        exact ⟨x, y, hx2, hy, rfl⟩
      · rename_i r m hr
        right; right; left
        simp only [Option.map_eq_some_iff] at hc
        obtain ⟨y, hy, rfl⟩ := hc
        exact ⟨r, m, y, hr, hy, rfl⟩
      · rename_i bb hbb
        right; right; right
        split at hc <;> (repeat' split at hc) <;> first
          | (cases hc; simp [AOp.isCall] at hb; done)
          | (cases hc; done)
          | (cases hc; exact ⟨hbb, rfl, rfl⟩)
  | defer c =>
    right; left
    simp only [cop, ho] at hc
    split at hc
    · rename_i x as hx has
      simp only [Option.map_eq_some_iff] at hc
      obtain ⟨y, hy, rfl⟩ := hc
      exact ⟨c, x, y, as, rfl, hx, hy, has, rfl⟩
    · cases hc
  | panic x =>
    right; right
    simp only [cop, ho, Option.map_eq_some_iff] at hc
    obtain ⟨y, hy, rfl⟩ := hc
    exact ⟨x, y, rfl, hy, rfl⟩
  | next it isS =>
    cases isS
    · simp [cop, ho] at hc
    · simp only [cop, ho, Option.map_eq_some_iff] at hc
      obtain ⟨y, hy, rfl⟩ := hc
      simp [AOp.isCall] at hb
  | _ =>
    exfalso
    simp only [cop, ho] at hc
    first
      | (cases hc; done)
      | (simp only [Option.map_eq_some_iff] at hc; obtain ⟨y, hy, rfl⟩ := hc; simp [AOp.isCall] at hb; done)
      | ((repeat' split at hc) <;> first
          | (cases hc; done)
          | (cases hc; simp [AOp.isCall] at hb; done)
          | (simp only [Option.map_eq_some_iff] at hc; obtain ⟨y, hy, rfl⟩ := hc; simp [AOp.isCall] at hb; done))

theorem run_callFunc {f : Nat} (h : Enters P f) (args : Array Value) : (callFunc f args).run P w = .ok (.enter f args) w := by
  obtain ⟨fn, h1, h2, h3⟩ := h
  have h4 : fn.body.isNone = false := by
    cases hb : fn.body with
    | none => rw [hb] at h2; cases h2
    | some b => rfl
  simp only [callFunc, Sem.run_bind, run_program, Result.andThen_ok, h1, h3, h4, Bool.false_eq_true, if_false]
  rfl

/-- What a call operation comes to in the model: the callee, by 'callFunc'. -/
theorem run_call_value {c : Call} {x : Operand} {f : Nat} {l1 l2 : List Value} (ho : o.op = .call c) (hc : c.callee = .value x) (hx : a.eval x = .func (.func f) ⟨l1⟩ ⟨l2⟩) :
    (execOp a.eval o).run P w = (callFunc f ⟨l1 ++ c.args.toList.map a.eval ++ l2⟩).run P w := by
  simp only [execOp, ho, resolve, hc, Sem.run_bind, hx, Deferred.ofValue, Sem.run_pure, Result.andThen_ok, invoke]
  congr 2
  apply Array.ext'
  simp

theorem aop_call (hR : R P.globals.size φ H w) (hF : FR φ tm a) {b : AOp} (hc : cop P o = some b) {f : Nat} {as : List AV} (ha : aop C tm H b = .call f as) :
    ∃ args : List Value, (execOp a.eval o).run P w = (callFunc f ⟨args⟩).run P w ∧ VRs φ as args := by
  have hb : b.isCall = true := by
    cases hb : b.isCall with
    | true => rfl
    | false => rcases aop_plain (C := C) (tm := tm) (H := H) hb with ⟨v, H', h⟩ | h <;> rw [h] at ha <;> cases ha
  rcases cop_isCall hc hb with ⟨c, l, ho, hl, h | h | h | h⟩ | ⟨c, x, y, l, ho, hx, hy, hl, rfl⟩ | ⟨x, y, ho, hy, rfl⟩
  · obtain ⟨g, fn, hg, hfn, rfl | rfl⟩ := h
    · simp only [aop] at ha
      cases ha
      refine ⟨[] ++ c.args.toList.map a.eval ++ [], run_call_value ho hg rfl, ?_⟩
      simpa using opds_rel hR hF hl
    · simp [aop] at ha
  · obtain ⟨x, y, hx, hy, rfl⟩ := h
    have hrel := opd_rel hR hF hy
    simp only [aop] at ha
    split at ha
    · rename_i g p q he
      rw [he] at hrel
      split at ha
      · cases ha
      · cases ha
        simp only [VR] at hrel
        obtain ⟨l1, l2, e1, h1, h2⟩ := hrel
        exact ⟨_, run_call_value ho hx e1, (h1.append (opds_rel hR hF hl)).append h2⟩
    · cases ha
  · obtain ⟨r, m, y, _, _, rfl⟩ := h
    simp only [aop] at ha
    split at ha <;> cases ha
  · obtain ⟨_, _, rfl⟩ := h
    simp [aop] at ha
  · simp only [aop] at ha
    split at ha <;> cases ha
  · simp only [aop] at ha
    split at ha <;> cases ha

theorem aop_xcall (hR : R P.globals.size φ H w) (hF : FR φ tm a) {b : AOp} (hc : cop P o = some b) {f : Nat} {as : List AV} (ha : aop C tm H b = .xcall f as) :
    ∃ args : List Value, (execOp a.eval o).run P w = (callFunc f ⟨args⟩).run P w ∧ VRs φ as args := by
  have hb : b.isCall = true := by
    cases hb : b.isCall with
    | true => rfl
    | false => rcases aop_plain (C := C) (tm := tm) (H := H) hb with ⟨v, H', h⟩ | h <;> rw [h] at ha <;> cases ha
  rcases cop_isCall hc hb with ⟨c, l, ho, hl, h | h | h | h⟩ | ⟨c, x, y, l, ho, hx, hy, hl, rfl⟩ | ⟨x, y, ho, hy, rfl⟩
  · obtain ⟨g, fn, hg, hfn, rfl | rfl⟩ := h
    · simp [aop] at ha
    · simp only [aop] at ha
      cases ha
      refine ⟨[] ++ c.args.toList.map a.eval ++ [], run_call_value ho hg rfl, ?_⟩
      simpa using opds_rel hR hF hl
  · obtain ⟨x, y, hx, hy, rfl⟩ := h
    simp only [aop] at ha
    split at ha
    · split at ha <;> cases ha
    · cases ha
  · obtain ⟨r, m, y, _, _, rfl⟩ := h
    simp only [aop] at ha
    split at ha <;> cases ha
  · obtain ⟨_, _, rfl⟩ := h
    simp [aop] at ha
  · simp only [aop] at ha
    split at ha <;> cases ha
  · simp only [aop] at ha
    split at ha <;> cases ha

theorem aop_icall (hR : R P.globals.size φ H w) (hF : FR φ tm a) {b : AOp} (hc : cop P o = some b) {t : Nat} {v : AV} {m : String} {as : List AV} (ha : aop C tm H b = .icall t v m as) :
    ∃ (v' : Value) (args : List Value), (execOp a.eval o).run P w = (callMethod (.iface t v') m ⟨args⟩).run P w ∧ VR φ v v' ∧ VRs φ as args := by
  have hb : b.isCall = true := by
    cases hb : b.isCall with
    | true => rfl
    | false => rcases aop_plain (C := C) (tm := tm) (H := H) hb with ⟨v, H', h⟩ | h <;> rw [h] at ha <;> cases ha
  rcases cop_isCall hc hb with ⟨c, l, ho, hl, h | h | h | h⟩ | ⟨c, x, y, l, ho, hx, hy, hl, rfl⟩ | ⟨x, y, ho, hy, rfl⟩
  · obtain ⟨g, fn, hg, hfn, rfl | rfl⟩ := h <;> simp [aop] at ha
  · obtain ⟨x, y, hx, hy, rfl⟩ := h
    simp only [aop] at ha
    split at ha
    · split at ha <;> cases ha
    · cases ha
  · obtain ⟨r, m, y, hr, hy, rfl⟩ := h
    have hrel := opd_rel hR hF hy
    simp only [aop] at ha
    split at ha
    · rename_i t' u he
      cases ha
      rw [he] at hrel
      obtain ⟨v', e1, h1⟩ := hrel.ifc_inv
      refine ⟨v', c.args.toList.map a.eval, ?_, h1, opds_rel hR hF hl⟩
      simp only [execOp, ho, resolve, hr, Sem.run_bind, Sem.run_pure, Result.andThen_ok, invoke, e1]
      have : (#[Value.iface t v'] ++ Array.map a.eval c.args)[0]? = some (Value.iface t v') := by rw [Array.getElem?_append_left (Nat.zero_lt_one)]; rfl
      simp only [this]
      congr 2
      apply Array.ext'
      have hl2 : (c.args.toList.map a.eval).length = c.args.size := by simp
      simp [List.take_of_length_le (Nat.le_of_eq hl2)]
    · cases ha
  · obtain ⟨_, _, rfl⟩ := h
    simp [aop] at ha
  · simp only [aop] at ha
    split at ha <;> cases ha
  · simp only [aop] at ha
    split at ha <;> cases ha

theorem aop_dfr (hR : R P.globals.size φ H w) (hF : FR φ tm a) {b : AOp} (hc : cop P o = some b) {f : Nat} {as : List AV} (ha : aop C tm H b = .dfr f as) :
    ∃ (cap args : List Value), (execOp a.eval o).run P w = .ok (.defer { target := .fn (.func f) ⟨cap⟩, args := ⟨args⟩ }) w ∧ VRs φ as (args ++ cap) := by
  have hb : b.isCall = true := by
    cases hb : b.isCall with
    | true => rfl
    | false => rcases aop_plain (C := C) (tm := tm) (H := H) hb with ⟨v, H', h⟩ | h <;> rw [h] at ha <;> cases ha
  rcases cop_isCall hc hb with ⟨c, l, ho, hl, h | h | h | h⟩ | ⟨c, x, y, l, ho, hx, hy, hl, rfl⟩ | ⟨x, y, ho, hy, rfl⟩
  · obtain ⟨g, fn, hg, hfn, rfl | rfl⟩ := h <;> simp [aop] at ha
  · obtain ⟨x, y, hx, hy, rfl⟩ := h
    simp only [aop] at ha
    split at ha
    · split at ha <;> cases ha
    · cases ha
  · obtain ⟨r, m, y, hr, hy, rfl⟩ := h
    simp only [aop] at ha
    split at ha <;> cases ha
  · obtain ⟨_, _, rfl⟩ := h
    simp [aop] at ha
  · have hrel := opd_rel hR hF hy
    simp only [aop] at ha
    split at ha
    · rename_i g p q he
      cases ha
      rw [he] at hrel
      simp only [VR] at hrel
      obtain ⟨l1, l2, e1, h1, h2⟩ := hrel
      refine ⟨l2, l1 ++ c.args.toList.map a.eval, ?_, (h1.append (opds_rel hR hF hl)).append h2⟩
      simp only [execOp, ho, resolve, hx, Sem.run_bind, e1, Deferred.ofValue, Sem.run_pure, Result.andThen_ok]
      congr 3
      apply Array.ext'
      simp
    · cases ha
  · simp only [aop] at ha
    split at ha <;> cases ha

theorem aop_pan (hR : R P.globals.size φ H w) (hF : FR φ tm a) {b : AOp} (hc : cop P o = some b) {v : AV} (ha : aop C tm H b = .pan v) :
    ∃ v' : Value, (execOp a.eval o).run P w = .halt (.panic v') w ∧ VR φ v v' := by
  have hb : b.isCall = true := by
    cases hb : b.isCall with
    | true => rfl
    | false => rcases aop_plain (C := C) (tm := tm) (H := H) hb with ⟨v, H', h⟩ | h <;> rw [h] at ha <;> cases ha
  rcases cop_isCall hc hb with ⟨c, l, ho, hl, h | h | h | h⟩ | ⟨c, x, y, l, ho, hx, hy, hl, rfl⟩ | ⟨x, y, ho, hy, rfl⟩
  · obtain ⟨g, fn, hg, hfn, rfl | rfl⟩ := h <;> simp [aop] at ha
  · obtain ⟨x, y, hx, hy, rfl⟩ := h
    simp only [aop] at ha
    split at ha
    · split at ha <;> cases ha
    · cases ha
  · obtain ⟨r, m, y, hr, hy, rfl⟩ := h
    simp only [aop] at ha
    split at ha <;> cases ha
  · obtain ⟨_, _, rfl⟩ := h
    simp [aop] at ha
  · simp only [aop] at ha
    split at ha <;> cases ha
  · have hrel := opd_rel hR hF hy
    simp only [aop] at ha
    split at ha
    · rename_i t u he
      cases ha
      rw [he] at hrel
      obtain ⟨v', e1, h1⟩ := hrel.ifc_inv
      refine ⟨.iface t v', ?_, by simp only [VR]; exact ⟨v', rfl, h1⟩⟩
      simp [execOp, ho, e1, Instr.panic]
    · cases ha

theorem aop_rcv {b : AOp} (hc : cop P o = some b) (ha : aop C tm H b = .rcv) : (execOp a.eval o).run P w = .ok .recover w := by
  have hb : b.isCall = true := by
    cases hb : b.isCall with
    | true => rfl
    | false => rcases aop_plain (C := C) (tm := tm) (H := H) hb with ⟨v, H', h⟩ | h <;> rw [h] at ha <;> cases ha
  rcases cop_isCall hc hb with ⟨c, l, ho, hl, h | h | h | h⟩ | ⟨c, x, y, l, ho, hx, hy, hl, rfl⟩ | ⟨x, y, ho, hy, rfl⟩
  · obtain ⟨g, fn, hg, hfn, rfl | rfl⟩ := h <;> simp [aop] at ha
  · obtain ⟨x, y, hx, hy, rfl⟩ := h
    simp only [aop] at ha
    split at ha
    · split at ha <;> cases ha
    · cases ha
  · obtain ⟨r, m, y, hr, hy, rfl⟩ := h
    simp only [aop] at ha
    split at ha <;> cases ha
  · obtain ⟨h1, rfl, rfl⟩ := h
    rw [run_builtin ho h1]
    rfl
  · simp only [aop] at ha
    split at ha <;> cases ha
  · simp only [aop] at ha
    split at ha <;> cases ha
end
end Go.Vd
namespace Go.Vd

mutual
theorem AV.beq_eq : ∀ (a b : AV), AV.beq a b = true → a = b
  | .bool a, b, h => by cases b <;> simp [AV.beq] at h; rw [h]
  | .int k n, b, h => by cases b <;> simp [AV.beq] at h; rw [h.1, h.2]
  | .cls k n r, b, h => by cases b <;> simp [AV.beq] at h; rw [h.1.1, h.1.2, h.2]
  | .str l, b, h => by cases b <;> simp [AV.beq] at h; rw [h]
  | .sym l, b, h => by cases b <;> simp [AV.beq] at h; rw [h]
  | .nilp, b, h => by cases b <;> simp [AV.beq] at h; rfl
  | .ptr X o, b, h => by cases b <;> simp [AV.beq] at h; rw [h.1, h.2]
  | .hnd X o, b, h => by cases b <;> simp [AV.beq] at h; rw [h.1, h.2]
  | .nils, b, h => by cases b <;> simp [AV.beq] at h; rfl
  | .slc X o l c s e, b, h => by
    cases b <;> simp [AV.beq] at h
    obtain ⟨⟨⟨⟨⟨h1, h2⟩, h3⟩, h4⟩, h5⟩, h6⟩ := h
    rw [h1, h2, h3, h4, h5, h6]
  | .nilm, b, h => by cases b <;> simp [AV.beq] at h; rfl
  | .map X, b, h => by cases b <;> simp [AV.beq] at h; rw [h]
  | .fn f a c, b, h => by
    cases b <;> simp [AV.beq] at h
    obtain ⟨⟨h1, h2⟩, h3⟩ := h
    rw [h1, AV.beqs_eq _ _ h2, AV.beqs_eq _ _ h3]
  | .nilf, b, h => by cases b <;> simp [AV.beq] at h; rfl
  | .ifc t v, b, h => by
    cases b <;> simp [AV.beq] at h
    rw [h.1, AV.beq_eq _ _ h.2]
  | .nili, b, h => by cases b <;> simp [AV.beq] at h; rfl
  | .agg l, b, h => by
    cases b <;> simp [AV.beq] at h
    rw [AV.beqs_eq _ _ h]
  | .tup l, b, h => by
    cases b <;> simp [AV.beq] at h
    rw [AV.beqs_eq _ _ h]
theorem AV.beqs_eq : ∀ (l m : List AV), AV.beqs l m = true → l = m
  | [], m, h => by cases m <;> simp [AV.beqs] at h; rfl
  | a :: l, m, h => by
    cases m <;> simp [AV.beqs] at h
    rw [AV.beq_eq _ _ h.1, AV.beqs_eq _ _ h.2]
end

section
variable {tm tm' : Tr AV}

theorem ev_congr {x : Opd} (h : ∀ t ∈ x.tl, ev tm (.t t) = ev tm' (.t t)) : ev tm x = ev tm' x := by
  cases x with
  | t n => exact h n (by simp [Opd.tl])
  | c v => rfl

theorem evs_congr : ∀ {l : List Opd}, (∀ t ∈ tls l, ev tm (.t t) = ev tm' (.t t)) → evs tm l = evs tm' l
  | [], _ => rfl
  | x :: l, h => by
    simp only [evs]
    rw [ev_congr fun t ht => h t (by simp [tls, ht]), evs_congr fun t ht => h t (by simp [tls, ht])]

theorem evo_congr {x : Option Opd} (h : ∀ t ∈ tlo x, ev tm (.t t) = ev tm' (.t t)) : evo tm x = evo tm' x := by
  cases x with
  | none => rfl
  | some x => simp only [evo]; rw [ev_congr h]

theorem evp_congr : ∀ {l : List (Nat × Nat × Opd)}, (∀ t ∈ tlp l, ev tm (.t t) = ev tm' (.t t)) → evp tm l = evp tm' l
  | [], _ => rfl
  | (a, b, x) :: l, h => by
    simp only [evp]
    rw [ev_congr fun t ht => h t (by simp [tlp, ht]), evp_congr fun t ht => h t (by simp [tlp, ht])]

theorem evq_congr {sz : Nat} : ∀ {l : List (Nat × Opd)}, (∀ t ∈ tlq l, ev tm (.t t) = ev tm' (.t t)) → evq tm sz l = evq tm' sz l
  | [], _ => rfl
  | (a, x) :: l, h => by
    simp only [evq]
    rw [ev_congr fun t ht => h t (by simp [tlq, ht]), evq_congr fun t ht => h t (by simp [tlq, ht])]

theorem aop_congr {C : Ctx} {H : AH} {b : AOp} (h : ∀ t ∈ b.tl, ev tm (.t t) = ev tm' (.t t)) : aop C tm H b = aop C tm' H b := by
  cases b
  case conv k x =>
    simp only [AOp.tl] at h
    cases k <;> simp only [aop, ev_congr h]
  case fld off n x =>
    simp only [AOp.tl] at h
    cases n <;> simp only [aop, ev_congr h]
  case pick x y z =>
    simp only [AOp.tl, List.mem_append] at h
    simp only [aop]
    rw [ev_congr fun t ht => h t (.inl ht), ev_congr fun t ht => h t (.inr (.inl ht)), ev_congr fun t ht => h t (.inr (.inr ht))]
  case upd k x y z =>
    simp only [AOp.tl, List.mem_append] at h
    simp only [aop]
    rw [ev_congr fun t ht => h t (.inl ht), ev_congr fun t ht => h t (.inr (.inl ht)), ev_congr fun t ht => h t (.inr (.inr ht))]
  case build zs ps =>
    simp only [AOp.tl] at h
    simp only [aop, evp_congr h]
  case bslice e sz n zs ps =>
    simp only [AOp.tl] at h
    simp only [aop, evq_congr h]
  case mkf f a b =>
    simp only [AOp.tl, List.mem_append] at h
    simp only [aop]
    rw [evs_congr fun t ht => h t (.inl ht), evs_congr fun t ht => h t (.inr ht)]
  case sls x lo hi =>
    simp only [AOp.tl, List.mem_append] at h
    simp only [aop]
    rw [ev_congr fun t ht => h t (.inl ht), evo_congr fun t ht => h t (.inr (.inl ht)), evo_congr fun t ht => h t (.inr (.inr ht))]
  case slv sz x lo hi mx =>
    simp only [AOp.tl, List.mem_append] at h
    simp only [aop]
    rw [ev_congr fun t ht => h t (.inl ht), evo_congr fun t ht => h t (.inr (.inl ht)), evo_congr fun t ht => h t (.inr (.inr (.inl ht))), evo_congr fun t ht => h t (.inr (.inr (.inr ht)))]
  case sla n sz x lo hi mx =>
    simp only [AOp.tl, List.mem_append] at h
    simp only [aop]
    rw [ev_congr fun t ht => h t (.inl ht), evo_congr fun t ht => h t (.inr (.inl ht)), evo_congr fun t ht => h t (.inr (.inr (.inl ht))), evo_congr fun t ht => h t (.inr (.inr (.inr ht)))]
  case call f as =>
    simp only [AOp.tl] at h
    simp only [aop, evs_congr h]
  case xcall f as =>
    simp only [AOp.tl] at h
    simp only [aop, evs_congr h]
  case vcall x as =>
    simp only [AOp.tl, List.mem_append] at h
    simp only [aop]
    rw [ev_congr fun t ht => h t (.inl ht), evs_congr fun t ht => h t (.inr ht)]
  case icall m x as =>
    simp only [AOp.tl, List.mem_append] at h
    simp only [aop]
    rw [ev_congr fun t ht => h t (.inl ht), evs_congr fun t ht => h t (.inr ht)]
  case dfr x as =>
    simp only [AOp.tl, List.mem_append] at h
    simp only [aop]
    rw [ev_congr fun t ht => h t (.inl ht), evs_congr fun t ht => h t (.inr ht)]
  case mm m x as =>
    simp only [AOp.tl, List.mem_append] at h
    simp only [aop]
    rw [ev_congr fun t ht => h t (.inl ht), evs_congr fun t ht => h t (.inr ht)]
  case alloc => simp only [aop]
  case mkm => simp only [aop]
  case alen => simp only [aop]
  case rcv => simp only [aop]
  case bad => simp only [aop]
  all_goals first
    | (simp only [AOp.tl] at h
       simp only [aop, ev_congr h]
       done)
    | (simp only [AOp.tl, List.mem_append] at h
       simp only [aop]
       rw [ev_congr fun t ht => h t (.inl ht), ev_congr fun t ht => h t (.inr ht)]
       done)

theorem ofV_val {H H' : AH} {x : Option AV} {v : AV} (h : ofV H x = .val v H') : x = some v ∧ H' = H := by
  cases x with
  | none => cases h
  | some u => cases h; exact ⟨rfl, rfl⟩

theorem aop_light {C : Ctx} {H H' : AH} {b : AOp} {v : AV} (hb : b.light = true) (h : aop C tm H b = .val v H') : H' = H := by
  cases b <;> first
    | (simp [AOp.light, AOp.pure] at hb; done)
    | skip
  case conv k x =>
    cases k <;> first
      | (simp [AOp.light, AOp.pure] at hb; done)
      | (simp only [aop] at h
         (repeat' split at h) <;> first
          | (cases h; rfl)
          | exact (ofV_val h).2
          | cases h)
  case fld off n x =>
    cases n <;> simp only [aop] at h <;> (repeat' split at h) <;> first
      | (cases h; rfl)
      | exact (ofV_val h).2
      | cases h
  all_goals
    simp only [aop] at h
    (repeat' split at h) <;> first
      | (cases h; rfl)
      | exact (ofV_val h).2
      | cases h
end
end Go.Vd
namespace Go.Vd

/-- What a call comes to. -/
def CPost (P : Program) (φ : Mp) (H : AH) (w : World) (r : ARes) (H' : AH) : Ending → World → Prop
  | .returned v, w' => ∃ ψ u, r = .ret u ∧ R P.globals.size ψ H' w' ∧ Nx φ H w ψ H' w' ∧ VR ψ u v
  | .panicked chain, w' => ∃ ψ u v, r = .pan u ∧ chain = [{ v := v, recovered := false }] ∧ R P.globals.size ψ H' w' ∧ Nx φ H w ψ H' w' ∧ VR ψ u v
  | .outgrown, _ => False

/-- Calls that the evaluator follows are sound. -/
def IHC (P : Program) (ih : Task → Option Out) : Prop :=
  ∀ f as H r H', ih (.call f as H) = some (.call r H') → Enters P f ∧
    ∀ φ w (args : List Value), R P.globals.size φ H w → VRs φ as args → Calls P f ⟨args⟩ w (CPost P φ H w r H')

section
variable {P : Program} {φ : Mp} {H H' : AH} {w : World} {tm : Tr AV} {a : Act} {o : Oper} {ao : AOper} {C : Ctx} {ih : Task → Option Out} {v : AV}
  {K : Act → World → Prop} {Q : Exit → Act → World → Prop}

theorem run_callMethod {t : TypeId} {v r : Value} {m : String} {args : List Value} {f : FuncId} (h : (method (P.types.size + Made.depth) t v m).run P w = .ok (f, r) w) :
    (callMethod (.iface t v) m ⟨args⟩).run P w = (callFunc f ⟨r :: args⟩).run P w := by
  simp only [callMethod, Sem.run_bind, run_program, Result.andThen_ok, h]
  congr 2
  apply Array.ext'
  simp

theorem cOper_spec {nt : Nat} {ops : List Oper} (h : cOper P nt ops o = some ao) :
    ao.dst = o.dst ∧ (ao.op = .bad ∨ cop P o = some ao.op) ∧ gTmp ops o.guard = some ao.guard ∧ ∀ d, o.dst = some d → d < nt := by
  unfold cOper at h
  split at h
  · rename_i g hg
    rw [Option.ite_none_right_eq_some] at h
    obtain ⟨hd, h⟩ := h
    cases h
    refine ⟨rfl, ?_, hg, ?_⟩
    · cases hc : cop P o with
      | none => exact .inl rfl
      | some b => exact .inr rfl
    · intro d e
      rw [e] at hd
      exact Nat.le_of_ble_eq_true hd
  · cases h

theorem cOpers_get {nt : Nat} {ops : List Oper} : ∀ {l : List Oper} {m : List AOper}, cOpers P nt ops l = some m → m.length = l.length ∧
    ∀ (i : Nat) (o : Oper), l[i]? = some o → ∃ ao, m[i]? = some ao ∧ cOper P nt ops o = some ao
  | [], m, h => by simp only [cOpers, Option.some.injEq] at h; subst h; exact ⟨rfl, fun i o e => by simp at e⟩
  | x :: l, m, h => by
    simp only [cOpers] at h
    split at h
    · rename_i y m' h1 h2
      cases h
      obtain ⟨h3, h4⟩ := cOpers_get h2
      refine ⟨by simp [h3], ?_⟩
      intro i o e
      cases i with
      | zero => simp at e; subst e; exact ⟨y, by simp, h1⟩
      | succ i => simpa using h4 i o (by simpa using e)
    · cases h

theorem not_bool {φ : Mp} {x : AV} {b : Bool} (h : VR φ x (.bool b)) : x = .bool b := by
  cases x <;> simp only [VR] at h <;> first
    | (cases h; rfl)
    | (cases h; done)
    | (obtain ⟨_, _, h⟩ := h; cases h; done)
    | (obtain ⟨_, _, _, _, h, _⟩ := h; cases h; done)
    | (obtain ⟨_, _, h, _⟩ := h; cases h; done)
    | (obtain ⟨_, h, _⟩ := h; cases h; done)

theorem wanted_rel (hF : FR φ tm a) {ops : Array Oper} (hg : gTmp ops.toList o.guard = some ao.guard) : Region.wanted o (yielded ops a.tmps) = wanted tm ao.guard := by
  unfold Region.wanted
  unfold gTmp at hg
  cases hgd : o.guard with
  | none =>
    rw [hgd] at hg
    simp only [Option.some.injEq] at hg
    rw [← hg]
    rfl
  | some jb =>
    obtain ⟨j, b⟩ := jb
    rw [hgd] at hg
    simp only at hg
    split at hg
    · rename_i p hp
      split at hg
      · rename_i d hd
        simp only [Option.some.injEq] at hg
        rw [← hg]
        have hp' : ops[j]? = some p := by simpa using hp
        have hv := hF d
        simp only [wanted, yielded, hp', Option.bind_some, hd]
        cases ht : a.tmps[d]? with
        | none =>
          have e : a.tmps.getD d undef = undef := by simp [Array.getD_eq_getD_getElem?, ht]
          rw [e] at hv
          cases hx : ev tm (.t d) with
          | bool c => rw [hx] at hv; simp only [VR] at hv; cases hv
          | _ => rfl
        | some x =>
          have e : a.tmps.getD d undef = x := by simp [Array.getD_eq_getD_getElem?, ht]
          rw [e] at hv
          cases x with
          | bool c =>
            rw [not_bool hv]
            cases c <;> cases b <;> rfl
          | _ =>
            cases hx : ev tm (.t d) with
            | bool c => rw [hx] at hv; simp only [VR] at hv; cases hv
            | _ => rfl
      · cases hg
    · cases hg

theorem ofExt_go {x : Option (AV × AH)} (h : ofExt x = .go v H') : x = some (v, H') := by
  cases x with
  | none => cases h
  | some y => cases h; rfl

theorem ofOut_go {x : Option Out} (h : ofOut x = .go v H') : x = some (.call (.ret v) H') := by
  unfold ofOut at h
  split at h
  · cases h; rfl
  · cases h
  · cases h

theorem ofOut_pan {x : Option Out} (h : ofOut x = .pan v H') : x = some (.call (.pan v) H') := by
  unfold ofOut at h
  split at h
  · cases h
  · cases h; rfl
  · cases h

theorem ofOut_rest {x : Option Out} : (∃ v H', ofOut x = .go v H') ∨ (∃ v H', ofOut x = .pan v H') ∨ ofOut x = .fail := by
  unfold ofOut
  split
  · exact .inl ⟨_, _, rfl⟩
  · exact .inr (.inl ⟨_, _, rfl⟩)
  · exact .inr (.inr rfl)

theorem ofExt_rest {x : Option (AV × AH)} : (∃ v H', ofExt x = .go v H') ∨ ofExt x = .fail := by
  cases x with
  | none => exact .inr rfl
  | some y => exact .inl ⟨_, _, rfl⟩

/-- A call that returns or panics. -/
theorem upon_call (hi : IHC P ih) {f : Nat} {as : List AV} {args : List Value} {r : ARes} (hR : R P.globals.size φ H w) (hv : VRs φ as args) (h : ih (.call f as H) = some (.call r H'))
    (hK : ∀ ψ u v' w', r = .ret u → R P.globals.size ψ H' w' → Nx φ H w ψ H' w' → VR ψ u v' → K (a.put o.dst v') w')
    (hQ : ∀ ψ u v' w', r = .pan u → R P.globals.size ψ H' w' → Nx φ H w ψ H' w' → VR ψ u v' → Q (.panic [{ v := v', recovered := false }]) a w') :
    o.upon P a K Q ((callFunc f ⟨args⟩).run P w) := by
  obtain ⟨he, hc⟩ := hi f as H r H' h
  rw [run_callFunc he, Oper.upon_enter]
  refine (hc φ w args hR hv).mono ?_
  intro e w' hp
  cases e with
  | returned v' =>
    obtain ⟨ψ, u, h1, h2, h3, h4⟩ := hp
    exact hK ψ u v' w' h1 h2 h3 h4
  | panicked chain =>
    obtain ⟨ψ, u, v', h1, h2, h3, h4, h5⟩ := hp
    subst h2
    exact hQ ψ u v' w' h1 h3 h4 h5
  | outgrown => exact hp.elim

theorem oper_go (hC : CtxOK P C) (hi : IHC P ih) (hR : R P.globals.size φ H w) (hF : FR φ tm a) (hc : ao.op = .bad ∨ cop P o = some ao.op) (hs : follow C ih H (aop C tm H ao.op) = .go v H')
    (hK : ∀ ψ v' w', R P.globals.size ψ H' w' → Nx φ H w ψ H' w' → VR ψ v v' → K (a.put o.dst v') w') : o.wp P a w K Q := by
  rcases hc with hc | hc
  · rw [hc] at hs
    simp [aop, follow] at hs
  cases hv : aop C tm H ao.op with
  | val v1 H1 =>
    rw [hv] at hs
    simp only [follow] at hs
    cases hs
    obtain ⟨ψ, v', w', hy, h1, h2, h3⟩ := aop_val hC hR hF hc hv
    unfold Oper.wp
    rcases hy with hy | ⟨hy, rfl⟩ <;> rw [hy] <;> exact hK ψ _ w' h1 h2 h3
  | call f as =>
    rw [hv] at hs
    have hs := ofOut_go hs
    obtain ⟨args, h1, h2⟩ := aop_call hR hF hc hv
    unfold Oper.wp
    rw [h1]
    exact upon_call hi hR h2 hs (fun ψ u v' w' e h3 h4 h5 => by cases e; exact hK ψ v' w' h3 h4 h5) (fun ψ u v' w' e => by cases e)
  | xcall f as =>
    rw [hv] at hs
    have hs := ofExt_go hs
    obtain ⟨args, h1, h2⟩ := aop_xcall hR hF hc hv
    obtain ⟨ψ, v', w', h3, h4, h5, h6⟩ := hC.ext f as H v H' hs φ w args hR h2
    unfold Oper.wp
    rw [h1, h3]
    exact hK ψ v' w' h4 h5 h6
  | icall t u m as =>
    rw [hv] at hs
    simp only [follow] at hs
    split at hs
    · rename_i f r hm
      obtain ⟨u', args, h1, h2, h3⟩ := aop_icall hR hF hc hv
      obtain ⟨r', h4, h5⟩ := hC.meth t u m f r hm φ H w u' hR h2
      have hargs : VRs φ (r :: as) (r' :: args) := by
        simp only [VRs]
        exact ⟨r', args, rfl, h5, h3⟩
      unfold Oper.wp
      rw [h1, run_callMethod h4]
      split at hs
      · obtain ⟨ψ, v', w', g3, g4, g5, g6⟩ := hC.ext f _ H v H' (ofExt_go hs) φ w _ hR hargs
        rw [g3]
        exact hK ψ v' w' g4 g5 g6
      · exact upon_call hi hR hargs (ofOut_go hs) (fun ψ u v' w' e h3 h4 h5 => by cases e; exact hK ψ v' w' h3 h4 h5) (fun ψ u v' w' e => by cases e)
    · cases hs
  | dfr f as => rw [hv] at hs; cases hs
  | pan u => rw [hv] at hs; cases hs
  | rcv => rw [hv] at hs; cases hs
  | fail => rw [hv] at hs; cases hs

theorem oper_pan (hC : CtxOK P C) (hi : IHC P ih) (hR : R P.globals.size φ H w) (hF : FR φ tm a) (hc : ao.op = .bad ∨ cop P o = some ao.op) (hs : follow C ih H (aop C tm H ao.op) = .pan v H')
    (hQ : ∀ ψ v' w', R P.globals.size ψ H' w' → Nx φ H w ψ H' w' → VR ψ v v' → Q (.panic [{ v := v', recovered := false }]) a w') : o.wp P a w K Q := by
  rcases hc with hc | hc
  · rw [hc] at hs
    simp [aop, follow] at hs
  cases hv : aop C tm H ao.op with
  | val v1 H1 => rw [hv] at hs; cases hs
  | call f as =>
    rw [hv] at hs
    have hs := ofOut_pan hs
    obtain ⟨args, h1, h2⟩ := aop_call hR hF hc hv
    unfold Oper.wp
    rw [h1]
    exact upon_call hi hR h2 hs (fun ψ u v' w' e => by cases e) (fun ψ u v' w' e h3 h4 h5 => by cases e; exact hQ ψ v' w' h3 h4 h5)
  | xcall f as =>
    rw [hv] at hs
    simp only [follow] at hs
    rcases ofExt_rest (x := C.ext f as H) with ⟨_, _, e⟩ | e <;> rw [e] at hs <;> cases hs
  | icall t u m as =>
    rw [hv] at hs
    simp only [follow] at hs
    split at hs
    · rename_i f r hm
      obtain ⟨u', args, h1, h2, h3⟩ := aop_icall hR hF hc hv
      obtain ⟨r', h4, h5⟩ := hC.meth t u m f r hm φ H w u' hR h2
      have hargs : VRs φ (r :: as) (r' :: args) := by
        simp only [VRs]
        exact ⟨r', args, rfl, h5, h3⟩
      unfold Oper.wp
      rw [h1, run_callMethod h4]
      split at hs
      · rcases ofExt_rest (x := C.ext f (r :: as) H) with ⟨_, _, e⟩ | e <;> rw [e] at hs <;> cases hs
      · exact upon_call hi hR hargs (ofOut_pan hs) (fun ψ u v' w' e => by cases e) (fun ψ u v' w' e h3 h4 h5 => by cases e; exact hQ ψ v' w' h3 h4 h5)
    · cases hs
  | dfr f as => rw [hv] at hs; cases hs
  | pan u =>
    rw [hv] at hs
    cases hs
    obtain ⟨v', h1, h2⟩ := aop_pan hR hF hc hv
    unfold Oper.wp
    rw [h1]
    exact hQ φ v' w hR (Nx.refl φ H w) h2
  | rcv => rw [hv] at hs; cases hs
  | fail => rw [hv] at hs; cases hs

theorem follow_dfr {x : ORes} {f : Nat} {as : List AV} (hs : follow C ih H x = .dfr f as) : x = .dfr f as := by
  cases x with
  | dfr g bs => simp only [follow] at hs; cases hs; rfl
  | call g bs =>
    simp only [follow] at hs
    rcases ofOut_rest (x := ih (.call g bs H)) with ⟨_, _, e⟩ | ⟨_, _, e⟩ | e <;> rw [e] at hs <;> cases hs
  | xcall g bs =>
    simp only [follow] at hs
    rcases ofExt_rest (x := C.ext g bs H) with ⟨_, _, e⟩ | e <;> rw [e] at hs <;> cases hs
  | icall t u m bs =>
    simp only [follow] at hs
    split at hs
    · split at hs
      · rename_i g r _ _
        rcases ofExt_rest (x := C.ext g (r :: bs) H) with ⟨_, _, e⟩ | e <;> rw [e] at hs <;> cases hs
      · rename_i g r _ _
        rcases ofOut_rest (x := ih (.call g (r :: bs) H)) with ⟨_, _, e⟩ | ⟨_, _, e⟩ | e <;> rw [e] at hs <;> cases hs
    · cases hs
  | val _ _ => simp only [follow] at hs; cases hs
  | pan _ => simp only [follow] at hs; cases hs
  | rcv => simp only [follow] at hs; cases hs
  | fail => simp only [follow] at hs; cases hs

theorem follow_rcv {x : ORes} (hs : follow C ih H x = .rcv) : x = .rcv := by
  cases x with
  | rcv => rfl
  | call g bs =>
    simp only [follow] at hs
    rcases ofOut_rest (x := ih (.call g bs H)) with ⟨_, _, e⟩ | ⟨_, _, e⟩ | e <;> rw [e] at hs <;> cases hs
  | xcall g bs =>
    simp only [follow] at hs
    rcases ofExt_rest (x := C.ext g bs H) with ⟨_, _, e⟩ | e <;> rw [e] at hs <;> cases hs
  | icall t u m bs =>
    simp only [follow] at hs
    split at hs
    · split at hs
      · rename_i g r _ _
        rcases ofExt_rest (x := C.ext g (r :: bs) H) with ⟨_, _, e⟩ | e <;> rw [e] at hs <;> cases hs
      · rename_i g r _ _
        rcases ofOut_rest (x := ih (.call g (r :: bs) H)) with ⟨_, _, e⟩ | ⟨_, _, e⟩ | e <;> rw [e] at hs <;> cases hs
    · cases hs
  | val _ _ => simp only [follow] at hs; cases hs
  | pan _ => simp only [follow] at hs; cases hs
  | dfr _ _ => simp only [follow] at hs; cases hs
  | fail => simp only [follow] at hs; cases hs

theorem oper_dfr (hR : R P.globals.size φ H w) (hF : FR φ tm a) (hc : ao.op = .bad ∨ cop P o = some ao.op) {f : Nat} {as : List AV} (hs : follow C ih H (aop C tm H ao.op) = .dfr f as)
    (hK : ∀ cap args : List Value, VRs φ as (args ++ cap) → K (({ a with defers := { target := .fn (.func f) ⟨cap⟩, args := ⟨args⟩ } :: a.defers } : Act).put o.dst undef) w) : o.wp P a w K Q := by
  rcases hc with hc | hc
  · rw [hc] at hs
    simp [aop, follow] at hs
  have hs := follow_dfr hs
  obtain ⟨cap, args, h1, h2⟩ := aop_dfr hR hF hc hs
  unfold Oper.wp
  rw [h1]
  exact hK cap args h2

theorem oper_rcv (hc : ao.op = .bad ∨ cop P o = some ao.op) (hs : follow C ih H (aop C tm H ao.op) = .rcv) : (execOp a.eval o).run P w = .ok .recover w := by
  rcases hc with hc | hc
  · rw [hc] at hs
    simp [aop, follow] at hs
  exact aop_rcv hc (follow_rcv hs)
end
end Go.Vd
