/- Whatever the two bytes are, the law SyntaxInner of terms as texts answers true, and the input reads as it did. The listed variables of the library are tied to its text. -/
import Derived.Test.YtabgoidablkmjaaGreatDoorVdLI0
import Derived.Test.YtabgoidablkmjaaGreatDoorVdLI1
import Derived.Test.YtabgoidablkmjaaGreatDoorVdLI2
import Derived.Test.YtabgoidablkmjaaGreatDoorVdLI3
import Derived.Test.YtabgoidablkmjaaGreatDoorVdLI4
import Derived.Test.YtabgoidablkmjaaGreatDoorVdLI5
import Derived.Test.YtabgoidablkmjaaGreatDoorVdLI6
import Derived.Test.YtabgoidablkmjaaGreatDoorVdLI7
import Derived.Test.YtabgoidablkmjaaGreatDoorVdM2
set_option linter.unusedVariables false
set_option linter.unusedSimpArgs false
namespace Go.Vd.L
open Go.Vd
theorem I_all : ∀ a, a < 6 → ∀ b, b < 2 ^ (a + 1) → okT (run C2 1000 (.call 6 [.cls .u8 6 a, .cls .u8 (2 ^ (a + 1)) b] H0)) = true
  | 0, _, 0, _ => I_0_2_0
  | 0, _, 1, _ => I_0_2_1
  | 0, _, _ + 2, h => absurd h (by omega)
  | 1, _, 0, _ => I_1_4_0
  | 1, _, 1, _ => I_1_4_1
  | 1, _, 2, _ => I_1_4_2
  | 1, _, 3, _ => I_1_4_3
  | 1, _, _ + 4, h => absurd h (by omega)
  | 2, _, 0, _ => I_2_8_0
  | 2, _, 1, _ => I_2_8_1
  | 2, _, 2, _ => I_2_8_2
  | 2, _, 3, _ => I_2_8_3
  | 2, _, 4, _ => I_2_8_4
  | 2, _, 5, _ => I_2_8_5
  | 2, _, 6, _ => I_2_8_6
  | 2, _, 7, _ => I_2_8_7
  | 2, _, _ + 8, h => absurd h (by omega)
  | 3, _, 0, _ => I_3_16_0
  | 3, _, 1, _ => I_3_16_1
  | 3, _, 2, _ => I_3_16_2
  | 3, _, 3, _ => I_3_16_3
  | 3, _, 4, _ => I_3_16_4
  | 3, _, 5, _ => I_3_16_5
  | 3, _, 6, _ => I_3_16_6
  | 3, _, 7, _ => I_3_16_7
  | 3, _, 8, _ => I_3_16_8
  | 3, _, 9, _ => I_3_16_9
  | 3, _, 10, _ => I_3_16_10
  | 3, _, 11, _ => I_3_16_11
  | 3, _, 12, _ => I_3_16_12
  | 3, _, 13, _ => I_3_16_13
  | 3, _, 14, _ => I_3_16_14
  | 3, _, 15, _ => I_3_16_15
  | 3, _, _ + 16, h => absurd h (by omega)
  | 4, _, 0, _ => I_4_32_0
  | 4, _, 1, _ => I_4_32_1
  | 4, _, 2, _ => I_4_32_2
  | 4, _, 3, _ => I_4_32_3
  | 4, _, 4, _ => I_4_32_4
  | 4, _, 5, _ => I_4_32_5
  | 4, _, 6, _ => I_4_32_6
  | 4, _, 7, _ => I_4_32_7
  | 4, _, 8, _ => I_4_32_8
  | 4, _, 9, _ => I_4_32_9
  | 4, _, 10, _ => I_4_32_10
  | 4, _, 11, _ => I_4_32_11
  | 4, _, 12, _ => I_4_32_12
  | 4, _, 13, _ => I_4_32_13
  | 4, _, 14, _ => I_4_32_14
  | 4, _, 15, _ => I_4_32_15
  | 4, _, 16, _ => I_4_32_16
  | 4, _, 17, _ => I_4_32_17
  | 4, _, 18, _ => I_4_32_18
  | 4, _, 19, _ => I_4_32_19
  | 4, _, 20, _ => I_4_32_20
  | 4, _, 21, _ => I_4_32_21
  | 4, _, 22, _ => I_4_32_22
  | 4, _, 23, _ => I_4_32_23
  | 4, _, 24, _ => I_4_32_24
  | 4, _, 25, _ => I_4_32_25
  | 4, _, 26, _ => I_4_32_26
  | 4, _, 27, _ => I_4_32_27
  | 4, _, 28, _ => I_4_32_28
  | 4, _, 29, _ => I_4_32_29
  | 4, _, 30, _ => I_4_32_30
  | 4, _, 31, _ => I_4_32_31
  | 4, _, _ + 32, h => absurd h (by omega)
  | 5, _, 0, _ => I_5_64_0
  | 5, _, 1, _ => I_5_64_1
  | 5, _, 2, _ => I_5_64_2
  | 5, _, 3, _ => I_5_64_3
  | 5, _, 4, _ => I_5_64_4
  | 5, _, 5, _ => I_5_64_5
  | 5, _, 6, _ => I_5_64_6
  | 5, _, 7, _ => I_5_64_7
  | 5, _, 8, _ => I_5_64_8
  | 5, _, 9, _ => I_5_64_9
  | 5, _, 10, _ => I_5_64_10
  | 5, _, 11, _ => I_5_64_11
  | 5, _, 12, _ => I_5_64_12
  | 5, _, 13, _ => I_5_64_13
  | 5, _, 14, _ => I_5_64_14
  | 5, _, 15, _ => I_5_64_15
  | 5, _, 16, _ => I_5_64_16
  | 5, _, 17, _ => I_5_64_17
  | 5, _, 18, _ => I_5_64_18
  | 5, _, 19, _ => I_5_64_19
  | 5, _, 20, _ => I_5_64_20
  | 5, _, 21, _ => I_5_64_21
  | 5, _, 22, _ => I_5_64_22
  | 5, _, 23, _ => I_5_64_23
  | 5, _, 24, _ => I_5_64_24
  | 5, _, 25, _ => I_5_64_25
  | 5, _, 26, _ => I_5_64_26
  | 5, _, 27, _ => I_5_64_27
  | 5, _, 28, _ => I_5_64_28
  | 5, _, 29, _ => I_5_64_29
  | 5, _, 30, _ => I_5_64_30
  | 5, _, 31, _ => I_5_64_31
  | 5, _, 32, _ => I_5_64_32
  | 5, _, 33, _ => I_5_64_33
  | 5, _, 34, _ => I_5_64_34
  | 5, _, 35, _ => I_5_64_35
  | 5, _, 36, _ => I_5_64_36
  | 5, _, 37, _ => I_5_64_37
  | 5, _, 38, _ => I_5_64_38
  | 5, _, 39, _ => I_5_64_39
  | 5, _, 40, _ => I_5_64_40
  | 5, _, 41, _ => I_5_64_41
  | 5, _, 42, _ => I_5_64_42
  | 5, _, 43, _ => I_5_64_43
  | 5, _, 44, _ => I_5_64_44
  | 5, _, 45, _ => I_5_64_45
  | 5, _, 46, _ => I_5_64_46
  | 5, _, 47, _ => I_5_64_47
  | 5, _, 48, _ => I_5_64_48
  | 5, _, 49, _ => I_5_64_49
  | 5, _, 50, _ => I_5_64_50
  | 5, _, 51, _ => I_5_64_51
  | 5, _, 52, _ => I_5_64_52
  | 5, _, 53, _ => I_5_64_53
  | 5, _, 54, _ => I_5_64_54
  | 5, _, 55, _ => I_5_64_55
  | 5, _, 56, _ => I_5_64_56
  | 5, _, 57, _ => I_5_64_57
  | 5, _, 58, _ => I_5_64_58
  | 5, _, 59, _ => I_5_64_59
  | 5, _, 60, _ => I_5_64_60
  | 5, _, 61, _ => I_5_64_61
  | 5, _, 62, _ => I_5_64_62
  | 5, _, 63, _ => I_5_64_63
  | 5, _, _ + 64, h => absurd h (by omega)
  | _ + 6, h, _, _ => absurd h (by omega)
end Go.Vd.L
namespace Go.Proofs.YtabgoidablkmjaaGreatDoor
open Go.ChangeShapes Go.WideShapes Go.ChangeAt Go.RowKit Go.Vd Go.Vd.L

theorem inner_params : Tryz.f6.params = #[5, 5] := by kernel_rfl
theorem inner_u8 : Tryz.prog.underlying 5 = some (.int .u8) := by kernel_rfl
theorem inner_bool : Tryz.prog.underlying 4 = some .bool := by kernel_rfl

set_option maxRecDepth 100000 in
theorem inner_lifted (os : Os) (started : os.Started) (H : Type) (enc : TypeId × Value → H) :
    ReturnsInHanded {} Tryz.checked os 6 .any (fun w args => (Rows.syntaxInnerSpec.pre enc Tryz.prog Tryz.f6 [] false w args ∧ laidMetH Tryz.prog laidS w) ∧ sizedMet enc Tryz.prog Tryz.f6 (OpenSpec.ofChange Rows.syntaxInnerSpec) false w args)
      (Rows.syntaxInnerSpec.post enc Tryz.prog Tryz.f6 false true false false) := by
  refine handed_shaped (C := Tryz.checked) (X := fun w _ => laidMetH Tryz.prog laidS w) (fun _ _ _ hh h => h.of_heap hh) own started (by kernel_rfl) Tryz.func6
    (ChangeSpec.witness_shaped (enc := enc) (C := Tryz.checked) (os := os) (X := fun w _ => laidMetH Tryz.prog laidS w) false (W0 os) #[.int .u8 0, .int .u8 0] 8 (W0_os os) (W0_shaped os _) (by kernel_rfl) (by kernel_rfl) (by kernel_rfl) (W0_met os _)) ?_
  intro W base args ds gs before hval0 hW _ _ hL hsh
  have hval : ∀ (j : Nat) t v, Tryz.f6.params[j]? = some t → args[j]? = some v → Value.okWide Tryz.prog W .any base t v := hval0
  have hW' := hW
  obtain ⟨p, q, hA0, hV, rfl, _, _⟩ := hW
  have hA : DataW.TrodAll enc Tryz.prog W 0 (fun _ => true) true Tryz.f6.params.toList args.toList ds p := hA0
  rw [inner_params] at hA hval
  obtain ⟨v0, v1, d0, d1, p0, p1, rfl, rfl, rfl, h0, h1⟩ := trodAll_two hA
  obtain ⟨rfl, rfl⟩ := trodVars_none hV
  obtain ⟨x, rfl, rfl, rfl, wx⟩ := open_int inner_u8 (hval 0 5 v0 rfl rfl) h0
  obtain ⟨y, rfl, rfl, rfl, wy⟩ := open_int inner_u8 (hval 1 5 v1 rfl rfl) h1
  simp only [List.append_nil] at hW'
  obtain ⟨a, ha, ra⟩ := cls_u8 (φ := phi0) wx 6 (by omega)
  obtain ⟨b, hb, rb⟩ := cls_u8 (φ := phi0) wy (2 ^ (a + 1)) (Nat.two_pow_pos _)
  refine (true_calls hsh hL (I_all a ha b hb) (args := #[.int .u8 x, .int .u8 y]) (by simp only [VRs]; exact ⟨_, _, rfl, ra, _, _, rfl, rb, rfl⟩)).mono fun e W' ⟨he, hk⟩ => ?_
  subst he
  exact ⟨_, rfl, _, _, _, [], [], [], hW', trodAll_mk1 (shut_bool inner_bool _), trodAll_mk2 (shut_int inner_u8 wx) (shut_int inner_u8 wy), rfl, World.keptBut_mono (fun _ h => h.elim) hk, fun h => by cases h⟩

theorem syntaxInner_holds : Rows.SyntaxInnerSaid :=
  OpenClaim.holds_of_wide 6 Tryz.f6 rfl rfl rfl rfl rfl rfl rfl ⟨rfl, rfl, rfl, rfl, rfl⟩ rfl rfl rfl rfl rfl (by kernel_rfl) Tryz.func6 (by kernel_rfl)
    (of_decide_eq_true (by kernel_rfl)) (by unfold Func.isWrapper; first | (rw [if_pos (by decide +kernel)]; kernel_rfl) | (rw [if_neg (by decide +kernel)]; exact ⟨rfl, rfl⟩))
    (fun os started H enc _ => inner_lifted os started H enc)

theorem syntaxInner_card : Rows.SyntaxInnerCardSaid :=
  Claim7.holds_tied_plain_at .later [] [.data, .data, .data, .data, .handle, .pinned] true (true, "871adc6a5c5e9705d7335b8ffa638e7731aeef0c53ac7d136086792d8ca32ff1") true
    syntaxInner_holds (fun _ h => by cases h) (by kernel_rfl) (fun _ h => by cases h) syntaxInner_row_tie rfl ⟨rfl, rfl⟩ (by kernel_rfl) rfl
    (fun f fn hf hfn => by
      obtain rfl : f = 6 := Option.some.inj ((show Tryz.prog.funcNamed "vademecum/vademecumlaw10.SyntaxInner" = some 6 by kernel_rfl).symm.trans hf) |>.symm
      obtain rfl : fn = Tryz.f6 := (Option.some.inj (Tryz.func6.symm.trans hfn)).symm
      exact ⟨by kernel_rfl, fun j t ht => by
        rw [inner_params] at ht
        have hm : t ∈ [5, 5] := by simpa using Array.mem_of_getElem? ht
        have hall : ([5, 5].all fun u => !Tryz.prog.wantsStandIn u) = true := by kernel_rfl
        exact (show Tryz.prog.wantsStandIn t = false by simpa using List.all_eq_true.1 hall t hm)⟩)
    (by kernel_rfl)
#print axioms syntaxInner_card
end Go.Proofs.YtabgoidablkmjaaGreatDoor
