/- From the evaluator's run to the calls of the program in the seat's worlds. -/
import Derived.Test.YtabgoidablkmjaaGreatDoorYdL10
import Derived.Test.YtabgoidablkmjaaGreatDoorRows
import Derived.Test.YtabgoidablkmjaaGreatDoorTie
import Derived.Test.YtabgoidablkmjaaGreatDoorCards
import Derived.ProofKit
import Derived.LaidMore
import Derived.LaidHandle
import Derived.Lay
import Derived.SevenTiedAt
set_option linter.unusedVariables false
set_option linter.unusedSimpArgs false
namespace Go.Vd.L
open Go.Vd Go.Proofs Go.Proofs.YtabgoidablkmjaaGreatDoor

/-- What the rows list. -/
def laidS : List (String × DataW Unit) := Rows.syntaxAppliesRow.laid

theorem error31 : ((List.range Tryz.prog.types.size).filter fun t => Tryz.prog.rowNamed t [101, 114, 114, 111, 114]) = [31] := by kernel_rfl
theorem rtype109 : (Tryz.prog.cutTypes.find? (·.1 == "internal/reflectlite.rtype")).map (·.2) = some 109 := by kernel_rfl
theorem handle31 : typeHandle Tryz.prog 31 = .pointer (some ⟨7, 31, none⟩) := by kernel_rfl
theorem gErr : Tryz.prog.globalNamed "errors.errorType" = some 0 := by kernel_rfl
theorem nGlobals : Tryz.prog.globals.size = 7 := by kernel_rfl
theorem handles : (laidS.filter fun x => x.2.handleName?.isSome) = [("errors.errorType", Rows.laid_errors_errorType)] := by kernel_rfl
theorem handleN : (Rows.laid_errors_errorType : DataW Unit).handleName? = some [101, 114, 114, 111, 114] := by kernel_rfl
theorem handleF : ((Rows.laid_errors_errorType : DataW Unit).funcsIn?).isNone = true := by kernel_rfl

theorem row0 : (((begin Tryz.prog (fun _ _ => 0) default).world.heap[0]?).bind Obj.row?).map (fun x => (x.1.size, x.2)) = some (1, 79) := by kernel_rfl
theorem rows7 : ((List.range 7).all fun g => (((begin Tryz.prog (fun _ _ => 0) default).world.heap[g]?).bind Obj.row?).isSome) = true := by kernel_rfl

/-- The cell of the first variable. -/
def cell0 : Value := .iface 109 (.agg #[.pointer (some ⟨7, 31, none⟩)])

theorem block0 {w : World} (hs : w.ShapedOpen Tryz.prog) (hL : laidMetH Tryz.prog laidS w) : w.heap[0]? = some (.cells #[cell0] 79) := by
  have hr := row0
  cases h0 : ((begin Tryz.prog (fun _ _ => 0) default).world.heap[0]?).bind Obj.row? with
  | none => rw [h0] at hr; cases hr
  | some x =>
    obtain ⟨zero, t⟩ := x
    rw [h0] at hr
    simp only [Option.map_some, Option.some.injEq, Prod.mk.injEq] at hr
    obtain ⟨hz, rfl⟩ := hr
    obtain ⟨cs, hh, hsz, _⟩ := hs.1 0 zero 79 (by rw [nGlobals]; omega) h0
    have hm : handlesMet Tryz.prog [("errors.errorType", Rows.laid_errors_errorType)] w := by
      unfold laidMetH at hL
      rw [handles] at hL
      exact hL.2
    have := hm _ (List.mem_singleton.2 rfl)
    have hF := handleF
    cases hf : (Rows.laid_errors_errorType : DataW Unit).funcsIn? with
    | some d => rw [hf] at hF; cases hF
    | none =>
      simp only [hf] at this
      obtain ⟨name, u, ty, e1, e2, e3, e4, e5⟩ := this
      rw [handleN] at e1
      cases e1
      rw [rtype109] at e2
      cases e2
      have hty : ty = 31 := by
        have : ty ∈ ((List.range Tryz.prog.types.size).filter fun t => Tryz.prog.rowNamed t [101, 114, 114, 111, 114]) := List.mem_filter.2 ⟨List.mem_range.2 e3, e4⟩
        rw [error31] at this
        simpa using this
      subst hty
      rw [handle31] at e5
      simp only [World.var?, gErr, Option.bind_some, hh] at e5
      cases e5
      exact hh

def phi0 : Mp := fun X => if X < 7 then some ⟨X, 0, if X = 0 then 1 else 0⟩ else none

theorem R0 {w : World} (hs : w.ShapedOpen Tryz.prog) (hL : laidMetH Tryz.prog laidS w) : R Tryz.prog.globals.size phi0 H0 w where
  lo := fun X p h => by
    unfold phi0 at h
    split at h
    · rename_i hx
      cases h
      refine ⟨hx, ?_⟩
      have hr := List.all_eq_true.1 rows7 X (List.mem_range.2 hx)
      cases h0 : ((begin Tryz.prog (fun _ _ => 0) default).world.heap[X]?).bind Obj.row? with
      | none => rw [h0] at hr; cases hr
      | some x =>
        obtain ⟨cs, hh, _⟩ := hs.1 X x.1 x.2 (by rw [nGlobals]; exact hx) h0
        exact (Array.getElem?_eq_some_iff.1 hh).1
    · cases h
  inj := fun X Y p q hX hY aX aY _ => by
    have key : ∀ Z, AH.alive H0 Z → Z = 0 := by
      intro Z aZ
      unfold AH.alive at aZ
      rw [get1] at aZ
      by_cases hz : Z = 0
      · exact hz
      · rw [if_neg hz] at aZ; exact aZ.elim
    rw [key X aX, key Y aY]
  blk := fun X p h => by
    rw [get1]
    by_cases hz : X = 0
    · subst hz
      rw [if_pos rfl]
      have : p = ⟨0, 0, 1⟩ := by
        unfold phi0 at h
        simpa using h.symm
      subst this
      refine ⟨#[cell0], 0, 0, block0 hs hL, by simp, by simp, fun e => by cases e <;> simp, fun _ i _ => by omega, ?_⟩
      intro i a hi
      match i, hi with
      | 0, hi =>
        simp at hi
        subst hi
        exact ⟨cell0, rfl, by simp [VR, VRs, cell0]⟩
    · rw [if_neg hz]; trivial
  gl := fun g hg => by
    rw [nGlobals] at hg
    exact ⟨_, by unfold phi0; rw [if_pos hg]⟩

/-- What a run that answers true says of the program's call. -/
theorem true_calls {w : World} (hs : w.ShapedOpen Tryz.prog) (hL : laidMetH Tryz.prog laidS w) {n f : Nat} {xs : List AV} {args : Array Value} (hrun : okT (run C2 n (.call f xs H0)) = true) (hv : VRs phi0 xs args.toList) :
    Calls Tryz.prog f args w fun e w' => e = .returned (.bool true) ∧ w.keptBut w' (fun _ => False) := by
  unfold okT at hrun
  split at hrun
  · rename_i b H hr
    simp only [Bool.and_eq_true] at hrun
    obtain ⟨hb, hg⟩ := hrun
    subst hb
    have hR := R0 hs hL
    have hg0 : H.get 0 = H0.get 0 := by
      split at hg
      · rename_i x hx
        rw [hx, AV.beq_eq _ _ hg]
        rfl
      · cases hg
    obtain ⟨args⟩ := args
    refine (run_calls fns_OK2 ctx_ok2 hr hR hv).mono ?_
    intro e w' hp
    cases e with
    | returned v =>
      obtain ⟨ψ, u, h1, h2, h3, h4⟩ := hp
      cases h1
      simp only [VR] at h4
      subst h4
      refine ⟨rfl, h3.out.1, h3.out.2.1, fun i hi => ?_⟩
      have hi' : w'.heap[i]? = w.heap[i]? := by
        by_cases h0 : i = 0
        · subst h0
          have hp0 : ψ 0 = some ⟨0, 0, 1⟩ := h3.le 0 _ (by simp [phi0])
          have hb := h2.blk 0 _ hp0
          rw [hg0, get1, if_pos rfl] at hb
          obtain ⟨c, lo, hh, b1, b2, b3, b4, b5, b6⟩ := hb
          obtain ⟨⟨rfl, rfl⟩, _, hc⟩ := b4 rfl
          obtain ⟨v, v1, v2⟩ := b6 0 _ rfl
          have : v = cell0 := by
            simp only [VR, VRs] at v2
            obtain ⟨y, rfl, vs, rfl, a, ws, rfl, rfl, rfl⟩ := v2
            rfl
          subst this
          rw [block0 hs hL]
          show w'.heap[0]? = _
          rw [b1]
          have : c = #[cell0] := by
            obtain ⟨l⟩ := c
            match l, hc, v1 with
            | [x], _, v1 => simp at v1; rw [v1]
          rw [this]
        · refine h3.frame i hi fun X p hX hp hal => ?_
          have key : X = 0 := by
            unfold AH.alive at hal
            rw [get1] at hal
            by_cases hz : X = 0
            · exact hz
            · rw [if_neg hz] at hal; exact hal.elim
          subst key
          have : p = ⟨0, 0, 1⟩ := by
            unfold phi0 at hX
            simpa using hX.symm
          subst this
          exact h0 hp.symm
      rw [hi']
      cases hw : w.heap[i]? with
      | none => trivial
      | some o => cases o <;> simp
    | panicked c =>
      obtain ⟨ψ, u, v, h1, _⟩ := hp
      cases h1
    | outgrown => exact hp.elim
  · cases hrun
end Go.Vd.L
namespace Go.Vd.L
open Go.Vd Go.Proofs Go.Proofs.YtabgoidablkmjaaGreatDoor

/-- A start in which the listed variables read as listed. -/
noncomputable def W0 (os : Os) : World := (World.doorLaid Tryz.prog 41 os).layVars Tryz.prog [("unicode/utf8.first", Rows.laid_unicode_utf8_first)]

theorem W0_os (os : Os) : (W0 os).os = os := World.layVars_os _ _ _

set_option maxRecDepth 100000 in
theorem W0_met (os : Os) (args : Array Value) : laidMetH Tryz.prog laidS ((W0 os).forCall (fun _ _ => 0) ⟨#[], args, []⟩).memory :=
  laidMetH_of_parts3 (fuel := 8) (laidMet_of_run' 8 (by kernel_rfl) (by kernel_rfl)) (by kernel_rfl) (by kernel_rfl)

theorem own : ownKnob Tryz.prog.godebug = none := by kernel_rfl

set_option maxRecDepth 100000 in
theorem W0_shaped (os : Os) (args : Array Value) : ((W0 os).forCall (fun _ _ => 0) ⟨#[], args, []⟩).Shaped Tryz.prog :=
  World.shaped_of_RefB (by kernel_rfl) (by kernel_rfl)

section
variable {H : Type} {enc : TypeId × Value → H}
/-- The wrap of a row that lists variables, with the world's shape handed to the contract. -/
theorem handed_shaped {C : Checked} {os : Os} {f : FuncId} {fn : Func} {s : ChangeSpec} {conds : List PathCond} {apart fresh handsOn again : Bool} {X : World → Array Value → Prop}
    (hX : ∀ (w w' : World) (args : Array Value), w.heap = w'.heap → X w args → X w' args)
    (own : ownKnob C.prog.godebug = none) (started : os.Started) (noInit : C.prog.inits.idxOf? f = none) (hfn : C.prog.funcs[f]? = some fn)
    (witness : ∃ (w : World) (tape : Tape) (i : Input), w.os = os ∧ (w.forCall tape i).Shaped C.prog ∧ i.vars = [] ∧ Input.okWide C.prog (w.forCall tape i) .any w.heap.size f i ∧
      ((s.pre enc C.prog fn conds apart (w.forCall tape i).memory i.args ∧ X (w.forCall tape i).memory i.args) ∧ sizedMet enc C.prog fn (OpenSpec.ofChange s) apart (w.forCall tape i).memory i.args) ∧ ({} : Assume).holds C.prog (lone (Frame.enter C.prog f i.args .normal) [] (w.forCall tape i)))
    (contract : ∀ (W : World) (base : Nat) (args : Array Value) (ds gs : List (DataW H)) (before : List MemPlace),
      (∀ (j : Nat) t v, fn.params[j]? = some t → args[j]? = some v → Value.okWide C.prog W .any base t v) →
      DataW.Whole enc C.prog fn.params.toList s.vars apart W args.toList ds gs before →
      conds.all (PathCond.test C.prog ⟨fn.params.toList, ds, s.plain.varTypes C.prog, gs⟩) = true →
      (DataW.weightsEach C.prog (fn.params.toList ++ s.plain.varTypes C.prog) (ds ++ gs)).all (· ≤ reachBytes) = true → X W args → W.ShapedOpen C.prog →
      Calls C.prog f args W fun e W' => ∃ v, e = .returned v ∧ s.post enc C.prog fn apart fresh handsOn again W args v W') :
    ReturnsInHanded {} C os f .any (fun w args => (s.pre enc C.prog fn conds apart w args ∧ X w args) ∧ sizedMet enc C.prog fn (OpenSpec.ofChange s) apart w args) (s.post enc C.prog fn apart fresh handsOn again) := by
  refine returnsInHanded_of_calls own started noInit witness ?_
  intro w tape i _ hsh _ hok hpre _
  obtain ⟨_, _, _, fn', hfn', _, _, _, _, hval⟩ := hok
  have e : fn' = fn := Option.some.inj (hfn'.symm.trans hfn)
  subst e
  obtain ⟨⟨⟨ds, gs, before, hw, hc⟩, hx⟩, hz⟩ := hpre
  have hw' := DataW.Whole.of_heap (w' := w.forCall tape i) (by rfl) hw
  refine (contract (w.forCall tape i) w.heap.size i.args ds gs before hval hw' hc (hz.weights hw) (hX _ _ _ (by rfl) hx) hsh).mono fun e W' ⟨v, he, hp⟩ => ?_
  subst he
  exact ChangeSpec.post_blind hp
end

/-- A byte as a class. -/
theorem cls_u8 {φ : Mp} {n : Int} (hw : (Lit.int .u8 n).wf = true) (m : Nat) (hm : 0 < m) : ∃ r, r < m ∧ VR φ (.cls .u8 m r) (.int .u8 n) := by
  have h : 0 ≤ n ∧ n ≤ 255 := by simpa [Lit.wf, IntKind.min, IntKind.max, IntKind.signed, IntKind.bits] using hw
  refine ⟨n.toNat % m, Nat.mod_lt _ hm, ?_⟩
  simp only [VR]
  refine ⟨n.toNat, ?_, rfl⟩
  have : (n.toNat : Int) = n := Int.toNat_of_nonneg h.1
  rw [show (Int.ofNat n.toNat) = n from this]
end Go.Vd.L
