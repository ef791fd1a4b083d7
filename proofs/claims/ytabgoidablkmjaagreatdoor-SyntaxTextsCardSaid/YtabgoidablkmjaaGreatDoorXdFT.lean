/- Whatever the two strings and the byte are, the law SyntaxTexts of terms as texts answers true, and the input reads as it did. The listed variables of the library are tied to its text. -/
import Derived.Test.YtabgoidablkmjaaGreatDoorXdN2
import Derived.Test.YtabgoidablkmjaaGreatDoorXdN3
set_option linter.unusedVariables false
set_option linter.unusedSimpArgs false
namespace Go.Proofs.YtabgoidablkmjaaGreatDoor
open Go.ChangeShapes Go.WideShapes Go.ChangeAt Go.RowKit Go.Vd Go.Vd.L
open Go.ChangeMaps (open_string shut_string)

theorem texts_params : Tryz.f4.params = #[9, 9, 5] := by kernel_rfl
theorem texts_str : Tryz.prog.underlying 9 = some .string := by kernel_rfl
theorem texts_u8 : Tryz.prog.underlying 5 = some (.int .u8) := by kernel_rfl
theorem texts_bool : Tryz.prog.underlying 4 = some .bool := by kernel_rfl

theorem texts_calls {w : World} (hs : w.ShapedOpen Tryz.prog) (hL : laidMetH Tryz.prog laidS w) (s t : ByteArray) {d : Int} (hd : (Lit.int .u8 d).wf = true) :
    Calls Tryz.prog 4 #[.string s, .string t, .int .u8 d] w fun e w' => e = .returned (.bool true) ∧ w.keptBut w' (fun _ => False) := by
  have es : (⟨s.data.toList.toArray⟩ : ByteArray) = s := by cases s; simp
  have et : (⟨t.data.toList.toArray⟩ : ByteArray) = t := by cases t; simp
  cases hb : (boundB s.data.toList && boundB t.data.toList && !strEq s.data.toList t.data.toList && !strEq s.data.toList [65] && !strEq t.data.toList [65]) with
  | false =>
    refine true_Ck hs hL (xs := [.str s.data.toList, .str t.data.toList, .int .u8 d]) ((texts_early _ _ d hb).mono fun v H' ⟨h1, h2⟩ => ⟨h1, by rw [h2]; rfl⟩) ?_
    simp only [VRs, VR, es, et]
    exact ⟨_, _, rfl, rfl, _, _, rfl, rfl, _, _, rfl, rfl, rfl⟩
  | true =>
    simp only [Bool.and_eq_true, Bool.not_eq_true'] at hb
    obtain ⟨⟨⟨⟨h1, h2⟩, h3⟩, h4⟩, h5⟩ := hb
    have g1 : goodB s.data.toList = true := by unfold goodB; rw [h1, h4]; rfl
    have g2 : goodB t.data.toList = true := by unfold goodB; rw [h2, h5]; rfl
    have hne : s.data.toList ≠ t.data.toList := fun e => by rw [e, strEq_refl] at h3; cases h3
    obtain ⟨r, hr, rr⟩ := cls_u8 (φ := phiS s.data.toList t.data.toList) hd 5 (by omega)
    refine true_S hs hL g1 g2 hne (T_all r hr) ?_
    simp only [VRs]
    refine ⟨_, _, rfl, ?_, _, _, rfl, ?_, _, _, rfl, rr, rfl⟩
    · simp only [VR]
      exact ⟨⟨0, encS s.data.toList, 0⟩, by simp [phiS], by rw [decS_enc, es]⟩
    · simp only [VR]
      exact ⟨⟨0, encS t.data.toList, 0⟩, by simp [phiS], by rw [decS_enc, et]⟩

set_option maxRecDepth 100000 in
theorem texts_lifted (os : Os) (started : os.Started) (H : Type) (enc : TypeId × Value → H) :
    ReturnsInHanded {} Tryz.checked os 4 .any (fun w args => (Rows.syntaxTextsSpec.pre enc Tryz.prog Tryz.f4 [] false w args ∧ laidMetH Tryz.prog laidS w) ∧ sizedMet enc Tryz.prog Tryz.f4 (OpenSpec.ofChange Rows.syntaxTextsSpec) false w args)
      (Rows.syntaxTextsSpec.post enc Tryz.prog Tryz.f4 false true false false) := by
  refine handed_shaped (C := Tryz.checked) (X := fun w _ => laidMetH Tryz.prog laidS w) (fun _ _ _ hh h => h.of_heap hh) own started (by kernel_rfl) Tryz.func4
    (ChangeSpec.witness_shaped (enc := enc) (C := Tryz.checked) (os := os) (X := fun w _ => laidMetH Tryz.prog laidS w) false (W0 os) #[.string ByteArray.empty, .string ByteArray.empty, .int .u8 0] 8 (W0_os os) (W0_shaped os _) (by kernel_rfl) (by kernel_rfl) (by kernel_rfl) (W0_met os _)) ?_
  intro W base args ds gs before hval0 hW _ _ hL hsh
  have hval : ∀ (j : Nat) t v, Tryz.f4.params[j]? = some t → args[j]? = some v → Value.okWide Tryz.prog W .any base t v := hval0
  have hW' := hW
  obtain ⟨p, q, hA0, hV, rfl, _, _⟩ := hW
  have hA : DataW.TrodAll enc Tryz.prog W 0 (fun _ => true) true Tryz.f4.params.toList args.toList ds p := hA0
  rw [texts_params] at hA hval
  obtain ⟨v0, v1, v2, d0, d1, d2, p0, p1, p2, rfl, rfl, rfl, h0, h1, h2⟩ := trodAll_three hA
  obtain ⟨rfl, rfl⟩ := trodVars_none hV
  obtain ⟨x, rfl, rfl, rfl, wx⟩ := open_string texts_str (hval 0 9 v0 rfl rfl) h0
  obtain ⟨y, rfl, rfl, rfl, wy⟩ := open_string texts_str (hval 1 9 v1 rfl rfl) h1
  obtain ⟨z, rfl, rfl, rfl, wz⟩ := open_int texts_u8 (hval 2 5 v2 rfl rfl) h2
  simp only [List.append_nil] at hW'
  refine (texts_calls hsh hL x y wz).mono fun e W' ⟨he, hk⟩ => ?_
  subst he
  exact ⟨_, rfl, _, _, _, [], [], [], hW', trodAll_mk1 (shut_bool texts_bool _), trodAll_mk3 (shut_string texts_str wx) (shut_string texts_str wy) (shut_int texts_u8 wz), rfl, World.keptBut_mono (fun _ h => h.elim) hk, fun h => by cases h⟩

theorem syntaxTexts_holds : Rows.SyntaxTextsSaid :=
  OpenClaim.holds_of_wide 4 Tryz.f4 rfl rfl rfl rfl rfl rfl rfl ⟨rfl, rfl, rfl, rfl, rfl⟩ rfl rfl rfl rfl rfl (by kernel_rfl) Tryz.func4 (by kernel_rfl)
    (of_decide_eq_true (by kernel_rfl)) (by unfold Func.isWrapper; first | (rw [if_pos (by decide +kernel)]; kernel_rfl) | (rw [if_neg (by decide +kernel)]; exact ⟨rfl, rfl⟩))
    (fun os started H enc _ => texts_lifted os started H enc)

theorem syntaxTexts_card : Rows.SyntaxTextsCardSaid :=
  Claim7.holds_tied_plain_at .later [] [.data, .data, .data, .data, .handle, .pinned] true (true, "871adc6a5c5e9705d7335b8ffa638e7731aeef0c53ac7d136086792d8ca32ff1") true
    syntaxTexts_holds (fun _ h => by cases h) (by kernel_rfl) (fun _ h => by cases h) syntaxTexts_row_tie rfl ⟨rfl, rfl⟩ (by kernel_rfl) rfl
    (fun f fn hf hfn => by
      obtain rfl : f = 4 := Option.some.inj ((show Tryz.prog.funcNamed "vademecum/vademecumlaw10.SyntaxTexts" = some 4 by kernel_rfl).symm.trans hf) |>.symm
      obtain rfl : fn = Tryz.f4 := (Option.some.inj (Tryz.func4.symm.trans hfn)).symm
      exact ⟨by kernel_rfl, fun j t ht => by
        rw [texts_params] at ht
        have hm : t ∈ [9, 9, 5] := by simpa using Array.mem_of_getElem? ht
        have hall : ([9, 9, 5].all fun u => !Tryz.prog.wantsStandIn u) = true := by kernel_rfl
        exact (show Tryz.prog.wantsStandIn t = false by simpa using List.all_eq_true.1 hall t hm)⟩)
    (by kernel_rfl)
#print axioms syntaxTexts_card
end Go.Proofs.YtabgoidablkmjaaGreatDoor
