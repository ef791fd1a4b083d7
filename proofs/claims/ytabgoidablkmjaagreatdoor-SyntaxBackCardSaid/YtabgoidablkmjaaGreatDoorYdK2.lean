/- The compiled code is what the further functions compile to. -/
import Derived.Test.YtabgoidablkmjaaGreatDoorYdK1
import Derived.Test.YtabgoidablkmjaaGreatDoorYdL11
set_option linter.unusedVariables false
set_option linter.unusedSimpArgs false
namespace Go.Vd.L
open Go.Vd Go.Proofs
theorem e3 : cf 3 = some c3 := by kernel_rfl
theorem e4 : cf 4 = some c4 := by kernel_rfl
theorem e9 : cf 9 = some c9 := by kernel_rfl
theorem e10 : cf 10 = some c10 := by kernel_rfl
theorem e15 : cf 15 = some c15 := by kernel_rfl
theorem e24 : cf 24 = some c24 := by kernel_rfl
theorem e25 : cf 25 = some c25 := by kernel_rfl
theorem e37 : cf 37 = some c37 := by kernel_rfl
theorem e48 : cf 48 = some c48 := by kernel_rfl
theorem e74 : cf 74 = some c74 := by kernel_rfl
theorem e75 : cf 75 = some c75 := by kernel_rfl
theorem e76 : cf 76 = some c76 := by kernel_rfl
theorem e77 : cf 77 = some c77 := by kernel_rfl
theorem e92 : cf 92 = some c92 := by kernel_rfl
theorem e93 : cf 93 = some c93 := by kernel_rfl
theorem e94 : cf 94 = some c94 := by kernel_rfl
theorem e105 : cf 105 = some c105 := by kernel_rfl
theorem e110 : cf 110 = some c110 := by kernel_rfl
theorem e111 : cf 111 = some c111 := by kernel_rfl
theorem e116 : cf 116 = some c116 := by kernel_rfl
theorem e117 : cf 117 = some c117 := by kernel_rfl
theorem e120 : cf 120 = some c120 := by kernel_rfl
theorem e121 : cf 121 = some c121 := by kernel_rfl
theorem e122 : cf 122 = some c122 := by kernel_rfl
theorem e127 : cf 127 = some c127 := by kernel_rfl
theorem e128 : cf 128 = some c128 := by kernel_rfl
theorem fnsM_all : fnsM.all fun i c => cf i = some c :=
  ⟨⟨⟨⟨e3, ⟨e4, e9⟩⟩, ⟨e10, ⟨e15, e24⟩⟩⟩, ⟨⟨e25, ⟨e37, e48⟩⟩, ⟨⟨e74, e75⟩, ⟨e76, e77⟩⟩⟩⟩, ⟨⟨⟨e92, ⟨e93, e94⟩⟩, ⟨e105, ⟨e110, e111⟩⟩⟩, ⟨⟨e116, ⟨e117, e120⟩⟩, ⟨⟨e121, e122⟩, ⟨e127, e128⟩⟩⟩⟩⟩

theorem fnsA_ok (f : Nat) (af : AF) (h : fnsA f = some af) : ∃ fn, Tryz.prog.funcs[f]? = some fn ∧ cfn Tryz.prog fn = some af ∧ (fn.name == "runtime.NumGoroutine") = false := by
  unfold fnsA at h
  split at h
  · rename_i a ha
    cases h
    have := BT.get_all fnsM_all ha
    unfold cf at this
    rw [Option.bind_eq_some_iff] at this
    obtain ⟨fn, h1, h2⟩ := this
    rw [Option.ite_none_left_eq_some] at h2
    exact ⟨fn, h1, h2.2, by simpa using h2.1⟩
  · exact fns_ok f af h

/-- The context with all functions; known() is an oracle. -/
noncomputable def Ck : Ctx := { C with fns := fnsA, orc := fun f => if Nat.beq f 8 then some knownK else none }

theorem ctx_okk : CtxOK Tryz.prog Ck := ⟨ctx_ok.cmp, ctx_ok.impl, ctx_ok.lies, ctx_ok.ext, ctx_ok.meth⟩

theorem fns_OKk : FnsOK Tryz.prog Ck where
  fns := fnsA_ok
  mix := mixed
  orc := by
    intro f g xs H r H' h1 h2
    have h1 : (if Nat.beq f 8 = true then some knownK else none) = some g := h1
    rw [Option.ite_none_right_eq_some] at h1
    obtain ⟨hf, h1⟩ := h1
    cases h1
    unfold knownK at h2
    split at h2
    · rename_i x hx
      cases h2
      refine fns_OK2.orc f knownO xs H r H' ?_ hx
      show (if Nat.beq f 8 = true then some knownO else none) = some knownO
      rw [if_pos hf]
    · have := Nat.eq_of_beq_eq_true hf
      subst this
      split at h2
      · rename_i hc
        obtain ⟨rfl, rfl⟩ := hc
        cases h2
        refine ⟨fns_OK.enters (f := 8) (af := c8) rfl, ?_⟩
        intro φ w args hR hv
        simp only [VRs] at hv
        subst hv
        exact known_callsB hR
      · cases h2

theorem Ck_orc {f : Nat} (h : Nat.beq f 8 = false) : Ck.orc f = none := by
  show (if Nat.beq f 8 = true then some knownK else none) = none
  rw [h]
  rfl
end Go.Vd.L
