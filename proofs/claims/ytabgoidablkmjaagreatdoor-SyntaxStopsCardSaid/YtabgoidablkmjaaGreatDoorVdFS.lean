/- Whatever the two bytes are, the law SyntaxStops of terms as texts answers true, and the input reads as it did. The listed variables of the library are tied to its text. -/
import Derived.Test.YtabgoidablkmjaaGreatDoorVdLS0
import Derived.Test.YtabgoidablkmjaaGreatDoorVdLS1
import Derived.Test.YtabgoidablkmjaaGreatDoorVdLS2
import Derived.Test.YtabgoidablkmjaaGreatDoorVdM2
set_option linter.unusedVariables false
set_option linter.unusedSimpArgs false
namespace Go.Vd.L
open Go.Vd
theorem S_all : ∀ a, a < 9 → ∀ b, b < 6 → okT (run C2 1000 (.call 7 [.cls .u8 9 a, .cls .u8 6 b] H0)) = true
  | 0, _, 0, _ => S_0_6_0
  | 0, _, 1, _ => S_0_6_1
  | 0, _, 2, _ => S_0_6_2
  | 0, _, 3, _ => S_0_6_3
  | 0, _, 4, _ => S_0_6_4
  | 0, _, 5, _ => S_0_6_5
  | 0, _, _ + 6, h => absurd h (by omega)
  | 1, _, 0, _ => S_1_6_0
  | 1, _, 1, _ => S_1_6_1
  | 1, _, 2, _ => S_1_6_2
  | 1, _, 3, _ => S_1_6_3
  | 1, _, 4, _ => S_1_6_4
  | 1, _, 5, _ => S_1_6_5
  | 1, _, _ + 6, h => absurd h (by omega)
  | 2, _, 0, _ => S_2_6_0
  | 2, _, 1, _ => S_2_6_1
  | 2, _, 2, _ => S_2_6_2
  | 2, _, 3, _ => S_2_6_3
  | 2, _, 4, _ => S_2_6_4
  | 2, _, 5, _ => S_2_6_5
  | 2, _, _ + 6, h => absurd h (by omega)
  | 3, _, 0, _ => S_3_6_0
  | 3, _, 1, _ => S_3_6_1
  | 3, _, 2, _ => S_3_6_2
  | 3, _, 3, _ => S_3_6_3
  | 3, _, 4, _ => S_3_6_4
  | 3, _, 5, _ => S_3_6_5
  | 3, _, _ + 6, h => absurd h (by omega)
  | 4, _, 0, _ => S_4_6_0
  | 4, _, 1, _ => S_4_6_1
  | 4, _, 2, _ => S_4_6_2
  | 4, _, 3, _ => S_4_6_3
  | 4, _, 4, _ => S_4_6_4
  | 4, _, 5, _ => S_4_6_5
  | 4, _, _ + 6, h => absurd h (by omega)
  | 5, _, 0, _ => S_5_6_0
  | 5, _, 1, _ => S_5_6_1
  | 5, _, 2, _ => S_5_6_2
  | 5, _, 3, _ => S_5_6_3
  | 5, _, 4, _ => S_5_6_4
  | 5, _, 5, _ => S_5_6_5
  | 5, _, _ + 6, h => absurd h (by omega)
  | 6, _, 0, _ => S_6_6_0
  | 6, _, 1, _ => S_6_6_1
  | 6, _, 2, _ => S_6_6_2
  | 6, _, 3, _ => S_6_6_3
  | 6, _, 4, _ => S_6_6_4
  | 6, _, 5, _ => S_6_6_5
  | 6, _, _ + 6, h => absurd h (by omega)
  | 7, _, 0, _ => S_7_6_0
  | 7, _, 1, _ => S_7_6_1
  | 7, _, 2, _ => S_7_6_2
  | 7, _, 3, _ => S_7_6_3
  | 7, _, 4, _ => S_7_6_4
  | 7, _, 5, _ => S_7_6_5
  | 7, _, _ + 6, h => absurd h (by omega)
  | 8, _, 0, _ => S_8_6_0
  | 8, _, 1, _ => S_8_6_1
  | 8, _, 2, _ => S_8_6_2
  | 8, _, 3, _ => S_8_6_3
  | 8, _, 4, _ => S_8_6_4
  | 8, _, 5, _ => S_8_6_5
  | 8, _, _ + 6, h => absurd h (by omega)
  | _ + 9, h, _, _ => absurd h (by omega)
end Go.Vd.L
namespace Go.Proofs.YtabgoidablkmjaaGreatDoor
open Go.ChangeShapes Go.WideShapes Go.ChangeAt Go.RowKit Go.Vd Go.Vd.L

theorem stops_params : Tryz.f7.params = #[5, 5] := by kernel_rfl
theorem stops_u8 : Tryz.prog.underlying 5 = some (.int .u8) := by kernel_rfl
theorem stops_bool : Tryz.prog.underlying 4 = some .bool := by kernel_rfl

set_option maxRecDepth 100000 in
theorem stops_lifted (os : Os) (started : os.Started) (H : Type) (enc : TypeId × Value → H) :
    ReturnsInHanded {} Tryz.checked os 7 .any (fun w args => (Rows.syntaxStopsSpec.pre enc Tryz.prog Tryz.f7 [] false w args ∧ laidMetH Tryz.prog laidS w) ∧ sizedMet enc Tryz.prog Tryz.f7 (OpenSpec.ofChange Rows.syntaxStopsSpec) false w args)
      (Rows.syntaxStopsSpec.post enc Tryz.prog Tryz.f7 false true false false) := by
  refine handed_shaped (C := Tryz.checked) (X := fun w _ => laidMetH Tryz.prog laidS w) (fun _ _ _ hh h => h.of_heap hh) own started (by kernel_rfl) Tryz.func7
    (ChangeSpec.witness_shaped (enc := enc) (C := Tryz.checked) (os := os) (X := fun w _ => laidMetH Tryz.prog laidS w) false (W0 os) #[.int .u8 0, .int .u8 0] 8 (W0_os os) (W0_shaped os _) (by kernel_rfl) (by kernel_rfl) (by kernel_rfl) (W0_met os _)) ?_
  intro W base args ds gs before hval0 hW _ _ hL hsh
  have hval : ∀ (j : Nat) t v, Tryz.f7.params[j]? = some t → args[j]? = some v → Value.okWide Tryz.prog W .any base t v := hval0
  have hW' := hW
  obtain ⟨p, q, hA0, hV, rfl, _, _⟩ := hW
  have hA : DataW.TrodAll enc Tryz.prog W 0 (fun _ => true) true Tryz.f7.params.toList args.toList ds p := hA0
  rw [stops_params] at hA hval
  obtain ⟨v0, v1, d0, d1, p0, p1, rfl, rfl, rfl, h0, h1⟩ := trodAll_two hA
  obtain ⟨rfl, rfl⟩ := trodVars_none hV
  obtain ⟨x, rfl, rfl, rfl, wx⟩ := open_int stops_u8 (hval 0 5 v0 rfl rfl) h0
  obtain ⟨y, rfl, rfl, rfl, wy⟩ := open_int stops_u8 (hval 1 5 v1 rfl rfl) h1
  simp only [List.append_nil] at hW'
  obtain ⟨a, ha, ra⟩ := cls_u8 (φ := phi0) wx 9 (by omega)
  obtain ⟨b, hb, rb⟩ := cls_u8 (φ := phi0) wy 6 (by omega)
  refine (true_calls hsh hL (S_all a ha b hb) (args := #[.int .u8 x, .int .u8 y]) (by simp only [VRs]; exact ⟨_, _, rfl, ra, _, _, rfl, rb, rfl⟩)).mono fun e W' ⟨he, hk⟩ => ?_
  subst he
  exact ⟨_, rfl, _, _, _, [], [], [], hW', trodAll_mk1 (shut_bool stops_bool _), trodAll_mk2 (shut_int stops_u8 wx) (shut_int stops_u8 wy), rfl, World.keptBut_mono (fun _ h => h.elim) hk, fun h => by cases h⟩

theorem syntaxStops_holds : Rows.SyntaxStopsSaid :=
  OpenClaim.holds_of_wide 7 Tryz.f7 rfl rfl rfl rfl rfl rfl rfl ⟨rfl, rfl, rfl, rfl, rfl⟩ rfl rfl rfl rfl rfl (by kernel_rfl) Tryz.func7 (by kernel_rfl)
    (of_decide_eq_true (by kernel_rfl)) (by unfold Func.isWrapper; first | (rw [if_pos (by decide +kernel)]; kernel_rfl) | (rw [if_neg (by decide +kernel)]; exact ⟨rfl, rfl⟩))
    (fun os started H enc _ => stops_lifted os started H enc)

theorem syntaxStops_card : Rows.SyntaxStopsCardSaid :=
  Claim7.holds_tied_plain_at .later [] [.data, .data, .data, .data, .handle, .pinned] true (true, "871adc6a5c5e9705d7335b8ffa638e7731aeef0c53ac7d136086792d8ca32ff1") true
    syntaxStops_holds (fun _ h => by cases h) (by kernel_rfl) (fun _ h => by cases h) syntaxStops_row_tie rfl ⟨rfl, rfl⟩ (by kernel_rfl) rfl
    (fun f fn hf hfn => by
      obtain rfl : f = 7 := Option.some.inj ((show Tryz.prog.funcNamed "vademecum/vademecumlaw10.SyntaxStops" = some 7 by kernel_rfl).symm.trans hf) |>.symm
      obtain rfl : fn = Tryz.f7 := (Option.some.inj (Tryz.func7.symm.trans hfn)).symm
      exact ⟨by kernel_rfl, fun j t ht => by
        rw [stops_params] at ht
        have hm : t ∈ [5, 5] := by simpa using Array.mem_of_getElem? ht
        have hall : ([5, 5].all fun u => !Tryz.prog.wantsStandIn u) = true := by kernel_rfl
        exact (show Tryz.prog.wantsStandIn t = false by simpa using List.all_eq_true.1 hall t hm)⟩)
    (by kernel_rfl)
#print axioms syntaxStops_card
end Go.Proofs.YtabgoidablkmjaaGreatDoor
