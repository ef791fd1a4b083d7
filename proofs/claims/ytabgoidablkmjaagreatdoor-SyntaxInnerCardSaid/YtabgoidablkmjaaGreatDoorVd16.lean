/- Operations: what the evaluator gives, the model gives. The whole. -/
import Derived.Test.YtabgoidablkmjaaGreatDoorVd15
set_option linter.unusedVariables false
set_option linter.unusedSimpArgs false
namespace Go.Vd

/-- A function that may be entered. -/
def Enters (P : Program) (f : Nat) : Prop := ∃ fn, P.funcs[f]? = some fn ∧ fn.body.isSome = true ∧ (fn.name == "runtime.NumGoroutine") = false

structure CtxOK (P : Program) (C : Ctx) : Prop where
  cmp : CmpOK P C
  impl : ImplOK P C
  lies : LiesOK P C
  ext : ∀ f as H v H', C.ext f as H = some (v, H') → ∀ φ w (args : List Value), R P.globals.size φ H w → VRs φ as args →
    ∃ ψ v' w', (callFunc f ⟨args⟩).run P w = .ok (.value v') w' ∧ R P.globals.size ψ H' w' ∧ Nx φ H w ψ H' w' ∧ VR ψ v v'
  meth : ∀ t v m f r, C.meth t v m = some (f, r) → ∀ φ H w v', R P.globals.size φ H w → VR φ v v' → ∃ r', (method (P.types.size + Made.depth) t v' m).run P w = .ok (f, r') w ∧ VR φ r r'

section
variable {P : Program} {φ : Mp} {H : AH} {w : World} {tm : Tr AV} {a : Act} {o : Oper} {C : Ctx}

theorem R.ng' (hR : R P.globals.size φ H w) : P.globals.size ≤ H.next := by
  rcases Nat.eq_zero_or_pos P.globals.size with h | h
  · omega
  · exact hR.ng h

theorem aop_val (hC : CtxOK P C) (hR : R P.globals.size φ H w) (hF : FR φ tm a) {b : AOp} (hc : cop P o = some b) {v : AV} {H' : AH} (ha : aop C tm H b = .val v H') : Snd P P.globals.size φ H w o a v H' := by
  have hg := hR.ng'
  cases ho : o.op with
  | move x =>
    simp only [cop, ho, Option.map_eq_some_iff] at hc
    obtain ⟨y, hy, rfl⟩ := hc
    simp only [aop] at ha
    cases ha
    exact s_move hR hF (.inl ho) hy
  | assign x =>
    simp only [cop, ho, Option.map_eq_some_iff] at hc
    obtain ⟨y, hy, rfl⟩ := hc
    simp only [aop] at ha
    cases ha
    exact s_move hR hF (.inr ho) hy
  | pick c x y =>
    simp only [cop, ho] at hc
    split at hc
    · rename_i c' x' y' h1 h2 h3
      cases hc
      exact s_pick hR hF ho h1 h2 h3 ha
    · cases hc
  | alloc e =>
    simp only [cop, ho, Option.map_eq_some_iff] at hc
    obtain ⟨zs, hz, rfl⟩ := hc
    exact s_alloc hg hR ho hz ha
  | box e x =>
    simp only [cop, ho, Option.map_eq_some_iff] at hc
    obtain ⟨y, hy, rfl⟩ := hc
    exact s_box hg hR hF ho hy ha
  | build t ps => exact s_build hR hF ho hc ha
  | buildSlice t n ps => exact s_bslice hg hR hF ho hc ha
  | insert t m k x => simp [cop, ho] at hc
  | load t x => exact s_ld hR hF ho hc ha
  | store t x y => exact s_st hR hF ho hc ha
  | ready g => simp [cop, ho] at hc
  | waits g => simp [cop, ho] at hc
  | nilCheck x =>
    simp only [cop, ho, Option.map_eq_some_iff] at hc
    obtain ⟨y, hy, rfl⟩ := hc
    exact s_chk hR hF ho hy ha
  | binOp op t x y u => exact s_bin hC.cmp hR hF ho hc ha
  | unOp op t x =>
    simp only [cop, ho, Option.map_eq_some_iff] at hc
    obtain ⟨y, hy, rfl⟩ := hc
    exact s_un hR hF ho hy ha
  | convert s d x => exact s_conv hC.lies hR hF ho hc ha
  | sliceToArrayPointer d x => simp [cop, ho] at hc
  | makeInterface t x => exact s_mki hR hF ho hc ha
  | makeFunc f x y => exact s_mkf hR hF ho hc ha
  | makeMap t r => simp [cop, ho] at hc
  | makeChan t s => simp [cop, ho] at hc
  | makeSlice t l c => exact s_mks hg hR hF ho hc ha
  | slice t x lo hi mx => exact s_slice hR hF ho hc ha
  | fieldAddr t x f => exact s_fad hR hF ho hc ha
  | field t x f => exact s_fld hR hF ho hc ha
  | indexAddr t x i => exact s_ixs hR hF ho hc ha
  | index t x i => exact s_ix hR hF ho hc ha
  | lookup t x i ok => simp [cop, ho] at hc
  | mapUpdate t m k x => simp [cop, ho] at hc
  | mapEntry t m k => simp [cop, ho] at hc
  | entryStore t m s x => simp [cop, ho] at hc
  | range t x => exact s_rng hg hR hF ho hc ha
  | next it isS => exact s_nxt hR hF ho hc ha
  | entry it => simp [cop, ho] at hc
  | typeAssert x t u ok => exact s_ta hC.impl hR hF ho hc ha
  | extract x i =>
    simp only [cop, ho, Option.map_eq_some_iff] at hc
    obtain ⟨y, hy, rfl⟩ := hc
    exact s_ext hR hF ho hy ha
  | call c =>
    simp only [cop, ho] at hc
    split at hc
    · cases hc
    · rename_i as has
      split at hc
      · split at hc
        · split at hc
          · cases hc
          · split at hc <;> (cases hc; simp [aop] at ha)
        · cases hc
      · simp only [Option.map_eq_some_iff] at hc
        obtain ⟨y, hy, rfl⟩ := hc
        simp only [aop] at ha
        split at ha
        · split at ha <;> cases ha
        · cases ha
      · simp only [Option.map_eq_some_iff] at hc
        obtain ⟨y, hy, rfl⟩ := hc
        simp only [aop] at ha
        split at ha <;> cases ha
      · rename_i b hb
        split at hc
        · -- append
          rename_i x' y' st yt l hl'
          obtain ⟨x, l1, e1, e2, e3⟩ := cOpds_cons has
          obtain ⟨y, l2, e4, e5, e6⟩ := cOpds_cons e3
          have e7 := cOpds_nil e6
          subst e7; subst e4
          split at hc
          · rename_i e f hst hyt
            split at hc
            · rename_i sz bt z hsz hbt hz
              split at hc
              · rename_i hzl
                cases hc
                exact s_app hg hR hF ho hb e1 e2 e5 hl' hst (.inl ⟨f, hyt⟩) hsz hbt hz (Nat.eq_of_beq_eq_true hzl) ha
              · cases hc
            · cases hc
          · rename_i e hst hyt
            split at hc
            · rename_i sz bt z hsz hbt hz
              split at hc
              · rename_i hzl
                cases hc
                exact s_app hg hR hF ho hb e1 e2 e5 hl' hst (.inr hyt) hsz hbt hz (Nat.eq_of_beq_eq_true hzl) ha
              · cases hc
            · cases hc
          · cases hc
        · -- len
          rename_i x' t hl'
          obtain ⟨x, l1, e1, e2, e3⟩ := cOpds_cons has
          have e7 := cOpds_nil e3
          subst e7
          split at hc
          · rename_i hu
            cases hc
            exact s_tlen hR hF ho hb e1 e2 hl' hu ha
          · rename_i e hu
            cases hc
            exact s_len hR hF ho hb e1 e2 hl' hu ha
          · rename_i n e hu
            cases hc
            exact s_alen hR ho hb e1 hl' (.inl ⟨e, hu⟩) ha
          · rename_i p hu
            split at hc
            · rename_i n e hp
              cases hc
              exact s_alen hR ho hb e1 hl' (.inr ⟨p, e, hu, hp⟩) ha
            · cases hc
          · cases hc
        · -- cap
          rename_i x' t hl'
          obtain ⟨x, l1, e1, e2, e3⟩ := cOpds_cons has
          have e7 := cOpds_nil e3
          subst e7
          split at hc
          · rename_i e hu
            cases hc
            exact s_cap hR hF ho hb e1 e2 hl' hu ha
          · cases hc
        · cases hc
          exact s_mm (mx := true) hR hF ho hb has ha
        · cases hc
          exact s_mm (mx := false) hR hF ho hb has ha
        · cases hc
          simp [aop] at ha
        · cases hc
          rename_i x' hl'
          obtain ⟨x, l1, e1, e2, e3⟩ := cOpds_cons has
          have e7 := cOpds_nil e3
          subst e7
          exact s_sdata hR hF ho hb e1 e2 ha
        · rename_i x' y' pt l hl'
          obtain ⟨x, l1, e1, e2, e3⟩ := cOpds_cons has
          obtain ⟨y, l2, e4, e5, e6⟩ := cOpds_cons e3
          have e7 := cOpds_nil e6
          subst e7; subst e4
          split at hc
          · rename_i e hu
            split at hc
            · rename_i hsz
              cases hc
              exact s_ustr hR hF ho hb e1 e2 e5 hl' hu hsz ha
            · cases hc
          · cases hc
        · cases hc
  | go c => simp [cop, ho] at hc
  | defer c =>
    simp only [cop, ho] at hc
    split at hc
    · simp only [Option.map_eq_some_iff] at hc
      obtain ⟨y, hy, rfl⟩ := hc
      simp only [aop] at ha
      split at ha <;> cases ha
    · cases hc
  | panic x =>
    simp only [cop, ho, Option.map_eq_some_iff] at hc
    obtain ⟨y, hy, rfl⟩ := hc
    simp only [aop] at ha
    split at ha <;> cases ha
  | send c x => simp [cop, ho] at hc
  | recv t c ok => simp [cop, ho] at hc
  | select cs b => simp [cop, ho] at hc
end
end Go.Vd
