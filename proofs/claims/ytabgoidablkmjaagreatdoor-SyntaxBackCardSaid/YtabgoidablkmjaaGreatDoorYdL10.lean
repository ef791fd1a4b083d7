/- The function known as an oracle. -/
import Derived.Test.YtabgoidablkmjaaGreatDoorYdL5
set_option linter.unusedVariables false
set_option linter.unusedSimpArgs false
namespace Go.Vd.L
open Go.Vd Go.Proofs

def okN : Option Out → Bool
  | some (.call (.ret (.bool b)) H) => b && Nat.ble H.next 200 && (match H.get 0 with
    | some (.cells [x] 79 0) => AV.beq x (.ifc 109 (.agg [.hnd 7 31]))
    | _ => false)
  | _ => false

theorem kn : okN (run C 1000 (.call 8 [] H0)) = true := by kernel_rfl

def H1 : AH := ⟨200, H0.tr⟩

theorem get0 : H0.get 0 = some (.cells [.ifc 109 (.agg [.hnd 7 31])] 79 0) := rfl
theorem get1 (X : Nat) : H0.get X = if X = 0 then some (.cells [.ifc 109 (.agg [.hnd 7 31])] 79 0) else none := by
  show (Tr.nil.set 0 _).get X = _
  rw [Tr.get_set]
  rfl

theorem known_calls {φ : Mp} {w : World} (hR : R Tryz.prog.globals.size φ H0 w) : Calls Tryz.prog 8 ⟨[]⟩ w (CPost Tryz.prog φ H0 w (.ret (.bool true)) H1) := by
  have h := kn
  unfold okN at h
  split at h
  · rename_i b H hrun
    simp only [Bool.and_eq_true] at h
    obtain ⟨⟨hb, hn⟩, hg⟩ := h
    subst hb
    have hn : H.next ≤ 200 := Nat.le_of_ble_eq_true hn
    have hg0 : H.get 0 = H0.get 0 := by
      split at hg
      · rename_i x hx
        rw [hx, AV.beq_eq _ _ hg]
        rfl
      · cases hg
    refine (run_calls fns_OK ctx_ok hrun hR (by simp [VRs])).mono ?_
    intro e w' hp
    cases e with
    | returned v =>
      obtain ⟨ψ, u, h1, h2, h3, h4⟩ := hp
      cases h1
      refine ⟨ψ, _, rfl, ⟨?_, ?_, ?_, h2.gl⟩, ⟨h3.le, h3.size, h3.frame, h3.out, ?_, ?_, ?_, ?_⟩, h4⟩
      · intro X p hX
        have := h2.lo X p hX
        exact ⟨Nat.lt_of_lt_of_le this.1 hn, this.2⟩
      · intro X Y p q _ _ aX aY _
        have key : ∀ Z, AH.alive H1 Z → Z = 0 := by
          intro Z aZ
          unfold AH.alive at aZ
          have e : H1.get Z = H0.get Z := rfl
          rw [e, get1] at aZ
          by_cases hz : Z = 0
          · exact hz
          · rw [if_neg hz] at aZ; exact aZ.elim
        rw [key X aX, key Y aY]
      · intro X p hX
        have e : H1.get X = H0.get X := rfl
        rw [e]
        by_cases hz : X = 0
        · subst hz
          rw [← hg0]
          exact h2.blk 0 p hX
        · rw [get1, if_neg hz]
          trivial
      · show 7 ≤ 200
        omega
      · intro X _ _; rfl
      · intro X p _ hd; exact hd
      · intro X p hX hn'
        exact h3.new X p hX hn'
    | panicked c =>
      obtain ⟨ψ, u, v, h1, _⟩ := hp
      cases h1
    | outgrown => exact hp.elim
  · cases h

def knownO (xs : List AV) (H : AH) : Option (ARes × AH) :=
  match xs with
  | [] => match H with
    | ⟨n, .node (some (.cells [x] 79 0)) .nil .nil⟩ => if Nat.beq n 7 && AV.beq x (.ifc 109 (.agg [.hnd 7 31])) then some (.ret (.bool true), H1) else none
    | _ => none
  | _ => none

def C2 : Ctx := { C with orc := fun f => if Nat.beq f 8 then some knownO else none }

theorem ctx_ok2 : CtxOK Tryz.prog C2 := ⟨ctx_ok.cmp, ctx_ok.impl, ctx_ok.lies, ctx_ok.ext, ctx_ok.meth⟩

theorem fns_OK2 : FnsOK Tryz.prog C2 where
  fns := fns_ok
  mix := mixed
  orc := by
    intro f g xs H r H' h1 h2
    have h1 : (if Nat.beq f 8 = true then some knownO else none) = some g := h1
    rw [Option.ite_none_right_eq_some] at h1
    obtain ⟨hf, h1⟩ := h1
    cases h1
    have := Nat.eq_of_beq_eq_true hf
    subst this
    unfold knownO at h2
    split at h2
    · split at h2
      · rw [Option.ite_none_right_eq_some] at h2
        obtain ⟨hc, h2⟩ := h2
        rw [Bool.and_eq_true] at hc
        have e1 := Nat.eq_of_beq_eq_true hc.1
        have e2 := AV.beq_eq _ _ hc.2
        subst e1; subst e2
        cases h2
        refine ⟨fns_OK.enters (f := 8) (af := c8) rfl, ?_⟩
        intro φ w args hR hv
        simp only [VRs] at hv
        subst hv
        exact known_calls hR
      · cases h2
    · cases h2
end Go.Vd.L
