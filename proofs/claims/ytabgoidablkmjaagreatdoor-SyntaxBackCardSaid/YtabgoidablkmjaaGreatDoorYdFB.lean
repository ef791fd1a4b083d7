/- Whatever the two strings are, the law SyntaxBack of terms as texts answers true, and the input reads as it did. The listed variables of the library are tied to its text. -/
import Derived.Test.YtabgoidablkmjaaGreatDoorYdG3
set_option linter.unusedVariables false
set_option linter.unusedSimpArgs false
namespace Go.Proofs.YtabgoidablkmjaaGreatDoor
open Go.ChangeShapes Go.WideShapes Go.ChangeAt Go.RowKit Go.Vd Go.Vd.L
open Go.ChangeMaps (open_string shut_string)

theorem back_params : Tryz.f3.params = #[9, 9] := by kernel_rfl
theorem back_str : Tryz.prog.underlying 9 = some .string := by kernel_rfl
theorem back_bool : Tryz.prog.underlying 4 = some .bool := by kernel_rfl

theorem back_calls {w : World} (hs : w.ShapedOpen Tryz.prog) (hL : laidMetH Tryz.prog laidS w) (s t : ByteArray) :
    Calls Tryz.prog 3 #[.string s, .string t] w fun e w' => e = .returned (.bool true) ∧ w.keptBut w' (fun _ => False) := by
  have es : (⟨s.data.toList.toArray⟩ : ByteArray) = s := by cases s; simp
  have et : (⟨t.data.toList.toArray⟩ : ByteArray) = t := by cases t; simp
  refine true_B hs hL (xs := [.str s.data.toList, .str t.data.toList]) (back _ _) ?_
  simp only [VRs, VR, es, et]
  exact ⟨_, _, rfl, rfl, _, _, rfl, rfl, rfl⟩

set_option maxRecDepth 100000 in
theorem back_lifted (os : Os) (started : os.Started) (H : Type) (enc : TypeId × Value → H) :
    ReturnsInHanded {} Tryz.checked os 3 .any (fun w args => (Rows.syntaxBackSpec.pre enc Tryz.prog Tryz.f3 [] false w args ∧ laidMetH Tryz.prog laidS w) ∧ sizedMet enc Tryz.prog Tryz.f3 (OpenSpec.ofChange Rows.syntaxBackSpec) false w args)
      (Rows.syntaxBackSpec.post enc Tryz.prog Tryz.f3 false true false false) := by
  refine handed_shaped (C := Tryz.checked) (X := fun w _ => laidMetH Tryz.prog laidS w) (fun _ _ _ hh h => h.of_heap hh) own started (by kernel_rfl) Tryz.func3
    (ChangeSpec.witness_shaped (enc := enc) (C := Tryz.checked) (os := os) (X := fun w _ => laidMetH Tryz.prog laidS w) false (W0 os) #[.string ByteArray.empty, .string ByteArray.empty] 8 (W0_os os) (W0_shaped os _) (by kernel_rfl) (by kernel_rfl) (by kernel_rfl) (W0_met os _)) ?_
  intro W base args ds gs before hval0 hW _ _ hL hsh
  have hval : ∀ (j : Nat) t v, Tryz.f3.params[j]? = some t → args[j]? = some v → Value.okWide Tryz.prog W .any base t v := hval0
  have hW' := hW
  obtain ⟨p, q, hA0, hV, rfl, _, _⟩ := hW
  have hA : DataW.TrodAll enc Tryz.prog W 0 (fun _ => true) true Tryz.f3.params.toList args.toList ds p := hA0
  rw [back_params] at hA hval
  obtain ⟨v0, v1, d0, d1, p0, p1, rfl, rfl, rfl, h0, h1⟩ := trodAll_two hA
  obtain ⟨rfl, rfl⟩ := trodVars_none hV
  obtain ⟨x, rfl, rfl, rfl, wx⟩ := open_string back_str (hval 0 9 v0 rfl rfl) h0
  obtain ⟨y, rfl, rfl, rfl, wy⟩ := open_string back_str (hval 1 9 v1 rfl rfl) h1
  simp only [List.append_nil] at hW'
  refine (back_calls hsh hL x y).mono fun e W' ⟨he, hk⟩ => ?_
  subst he
  exact ⟨_, rfl, _, _, _, [], [], [], hW', trodAll_mk1 (shut_bool back_bool _), trodAll_mk2 (shut_string back_str wx) (shut_string back_str wy), rfl, World.keptBut_mono (fun _ h => h.elim) hk, fun h => by cases h⟩

theorem syntaxBack_holds : Rows.SyntaxBackSaid :=
  OpenClaim.holds_of_wide 3 Tryz.f3 rfl rfl rfl rfl rfl rfl rfl ⟨rfl, rfl, rfl, rfl, rfl⟩ rfl rfl rfl rfl rfl (by kernel_rfl) Tryz.func3 (by kernel_rfl)
    (of_decide_eq_true (by kernel_rfl)) (by unfold Func.isWrapper; first | (rw [if_pos (by decide +kernel)]; kernel_rfl) | (rw [if_neg (by decide +kernel)]; exact ⟨rfl, rfl⟩))
    (fun os started H enc _ => back_lifted os started H enc)

theorem syntaxBack_card : Rows.SyntaxBackCardSaid :=
  Claim7.holds_tied_plain_at .later [] [.data, .data, .data, .data, .handle, .pinned] true (true, "871adc6a5c5e9705d7335b8ffa638e7731aeef0c53ac7d136086792d8ca32ff1") true
    syntaxBack_holds (fun _ h => by cases h) (by kernel_rfl) (fun _ h => by cases h) syntaxBack_row_tie rfl ⟨rfl, rfl⟩ (by kernel_rfl) rfl
    (fun f fn hf hfn => by
      obtain rfl : f = 3 := Option.some.inj ((show Tryz.prog.funcNamed "vademecum/vademecumlaw10.SyntaxBack" = some 3 by kernel_rfl).symm.trans hf) |>.symm
      obtain rfl : fn = Tryz.f3 := (Option.some.inj (Tryz.func3.symm.trans hfn)).symm
      exact ⟨by kernel_rfl, fun j t ht => by
        rw [back_params] at ht
        have hm : t ∈ [9, 9] := by simpa using Array.mem_of_getElem? ht
        have hall : ([9, 9].all fun u => !Tryz.prog.wantsStandIn u) = true := by kernel_rfl
        exact (show Tryz.prog.wantsStandIn t = false by simpa using List.all_eq_true.1 hall t hm)⟩)
    (by kernel_rfl)
#print axioms syntaxBack_card
end Go.Proofs.YtabgoidablkmjaaGreatDoor
