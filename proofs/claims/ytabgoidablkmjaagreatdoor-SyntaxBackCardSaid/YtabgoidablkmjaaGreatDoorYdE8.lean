/- The plain law: the words of a term's text are good. -/
import Derived.Test.YtabgoidablkmjaaGreatDoorYdE1
set_option linter.unusedVariables false
set_option linter.unusedSimpArgs false
namespace Go.Vd.L
open Go.Vd

theorem runTok_all {w : List UInt8} (h : ∀ c ∈ w, runI (c.toNat : Int) = true) : runTok w := by
  intro m hm
  exact ⟨w[m], List.getElem?_eq_getElem hm, .inl (h _ (List.getElem_mem hm))⟩

theorem dig_run : ∀ n : Nat, n < 10 → runI ((UInt8.ofNat (48 + n)).toNat : Int) = true := by decide
theorem dig_run' (n : Nat) : runI ((dig n).toNat : Int) = true := dig_run (n % 10) (by omega)
theorem itoaD_run (n : Nat) : ∀ c ∈ itoaD n, runI (c.toNat : Int) = true := by
  intro c hc
  unfold itoaD at hc
  have d0 := dig_run' n
  have d1 := dig_run' (n / 10)
  have d2 := dig_run' (n / 100)
  have d3 := dig_run' (n / 1000)
  split at hc
  · simp at hc; subst hc; exact d0
  · split at hc
    · simp at hc; rcases hc with rfl | rfl <;> assumption
    · split at hc
      · simp at hc; rcases hc with rfl | rfl | rfl <;> assumption
      · simp at hc; rcases hc with rfl | rfl | rfl | rfl <;> assumption
theorem good_vn (d : Nat) : Good (vn d) := by
  refine ⟨by simp [vn], .inl (runTok_all ?_)⟩
  intro c hc
  simp only [vn, List.mem_cons] at hc
  rcases hc with rfl | hc
  · decide
  · exact itoaD_run _ _ hc
theorem good_type (n : Nat) : Good ([84, 121, 112, 101] ++ itoaD n) := by
  refine ⟨by simp, .inl (runTok_all ?_)⟩
  intro c hc
  rw [List.mem_append] at hc
  rcases hc with hc | hc
  · simp at hc
    rcases hc with rfl | rfl | rfl | rfl <;> decide
  · exact itoaD_run _ _ hc

theorem letU_run {c : UInt8} (h : letU c = true) : runI (c.toNat : Int) = true := by
  unfold letU at h
  simp [runI, plainI, h]
theorem plain_run {c : UInt8} (h : plainN c.toNat = true) : runI (c.toNat : Int) = true := by
  have := c.toNat_lt
  simp only [plainN, Bool.or_eq_true, Bool.and_eq_true, Nat.ble_eq, Nat.beq_eq] at h
  simp only [runI, plainI, letterI, Bool.or_eq_true, Bool.and_eq_true, decide_eq_true_eq]
  simp
  omega
theorem dot_46 {c : UInt8} (h : dotU c = true) : c = 46 := by
  unfold dotU at h
  apply UInt8.toNat_inj.1
  have h' : (c.toNat : Int) = 46 := by simpa using h
  show c.toNat = 46
  omega

/-- The bytes of a name. -/
theorem nameF_at : ∀ (w : List UInt8) (b : Bool), nameF b w = true → ∀ (m : Nat) (c : UInt8), w[m]? = some c →
    runI (c.toNat : Int) = true ∨ (c = 46 ∧ (b = true → 0 < m) ∧ (0 < m → ∃ p : UInt8, w[m - 1]? = some p ∧ runI (p.toNat : Int) = true) ∧ ∀ q : UInt8, w[m + 1]? = some q → runI (q.toNat : Int) = true)
  | [], _, _, m, c, hc => by simp at hc
  | a :: r, true, h, m, c, hc => by
    simp only [nameF, Bool.and_eq_true] at h
    cases m with
    | zero => simp at hc; subst hc; exact .inl (letU_run h.1)
    | succ m =>
      simp at hc
      rcases nameF_at r false h.2 m c hc with g | ⟨g1, _, g3, g4⟩
      · exact .inl g
      · refine .inr ⟨g1, fun _ => by omega, fun _ => ?_, fun q hq => g4 q (by simpa using hq)⟩
        cases m with
        | zero => exact ⟨a, rfl, letU_run h.1⟩
        | succ m => obtain ⟨p, hp, hr⟩ := g3 (by omega); exact ⟨p, by simpa using hp, hr⟩
  | a :: r, false, h, m, c, hc => by
    by_cases hd : dotU a = true
    · simp only [nameF, if_pos hd] at h
      cases m with
      | zero =>
        simp at hc; subst hc
        refine .inr ⟨dot_46 hd, fun e => (by cases e), fun e => (by omega), fun q hq => ?_⟩
        cases r with
        | nil => simp at hq
        | cons x r =>
          simp at hq; subst hq
          simp only [nameF, Bool.and_eq_true] at h
          exact letU_run h.1
      | succ m =>
        simp at hc
        rcases nameF_at r true h m c hc with g | ⟨g1, g2, g3, g4⟩
        · exact .inl g
        · have hm := g2 rfl
          refine .inr ⟨g1, fun _ => by omega, fun _ => ?_, fun q hq => g4 q (by simpa using hq)⟩
          obtain ⟨p, hp, hr⟩ := g3 hm
          refine ⟨p, ?_, hr⟩
          rw [show m + 1 - 1 = (m - 1) + 1 by omega]
          simpa using hp
    · simp only [nameF, if_neg hd, Bool.and_eq_true] at h
      cases m with
      | zero => simp at hc; subst hc; exact .inl (plain_run h.1)
      | succ m =>
        simp at hc
        rcases nameF_at r false h.2 m c hc with g | ⟨g1, _, g3, g4⟩
        · exact .inl g
        · refine .inr ⟨g1, fun e => (by cases e), fun _ => ?_, fun q hq => g4 q (by simpa using hq)⟩
          cases m with
          | zero => exact ⟨a, rfl, plain_run h.1⟩
          | succ m => obtain ⟨p, hp, hr⟩ := g3 (by omega); exact ⟨p, by simpa using hp, hr⟩
end Go.Vd.L
namespace Go.Vd.L
open Go.Vd

theorem good_name {s t : List UInt8} (hs : nameB s = true) (ht : ∀ c ∈ t, runI (c.toNat : Int) = true) : Good (s ++ t) := by
  simp only [nameB, Bool.and_eq_true, Bool.not_eq_true'] at hs
  obtain ⟨⟨⟨h1, h2⟩, h3⟩, h4⟩ := hs
  have h1 := Nat.le_of_ble_eq_true h1
  have hne : s ≠ [] := fun e => by rw [e] at h1; simp at h1
  refine ⟨by simp [hne], .inl fun m hm => ?_⟩
  rcases Nat.lt_or_ge m s.length with hl | hl
  · have hm' : s[m]? = some s[m] := List.getElem?_eq_getElem hl
    refine ⟨s[m], by rw [List.getElem?_append_left hl]; exact hm', ?_⟩
    rcases nameF_at s true h4 m _ hm' with g | ⟨g1, g2, g3, g4⟩
    · exact .inl g
    · have h0 := g2 rfl
      obtain ⟨p, hp, hpr⟩ := g3 h0
      have hml : m + 1 < s.length := by
        rcases Nat.lt_or_ge (m + 1) s.length with g | g
        · exact g
        · exfalso
          have e : s.length - 1 = m := by omega
          unfold lastDot at h3
          rw [e, hm', g1] at h3
          exact absurd h3 (by decide)
      refine .inr ⟨by rw [g1]; decide, g1, h0, ⟨p, by rw [List.getElem?_append_left (by omega)]; exact hp, hpr⟩, s[m + 1], by rw [List.getElem?_append_left hml]; exact List.getElem?_eq_getElem hml, g4 _ (List.getElem?_eq_getElem hml)⟩
  · rw [List.length_append] at hm
    have hl2 : m - s.length < t.length := by omega
    exact ⟨t[m - s.length], by rw [List.getElem?_append_right hl]; exact List.getElem?_eq_getElem hl2, .inl (ht _ (List.getElem_mem hl2))⟩

theorem good_sym {w : List UInt8} (h : symTok w) : Good w := ⟨by rcases h with rfl | rfl | rfl | rfl | rfl | rfl <;> simp, .inr h⟩
theorem good_par {k : Int} {arg : Bool} {l : List (List UInt8)} (h : ∀ w ∈ l, Good w) : ∀ w ∈ parT k arg l, Good w := by
  intro w hw
  unfold parT at hw
  split at hw
  · simp only [List.mem_append, List.mem_singleton] at hw
    rcases hw with (rfl | hw) | rfl
    · exact good_sym (.inl rfl)
    · exact h w hw
    · exact good_sym (.inr (.inl rfl))
  · exact h w hw

theorem good_leaf {k n : Int} {s : List UInt8} {d : Nat} (hw : (Tm.nd0 k n s).wf) : Good (pr (.nd0 k n s) d) := by
  obtain ⟨hk, hl⟩ := hw
  simp only [pr]
  rcases hk with rfl | rfl | rfl
  · rw [if_pos rfl]; exact good_type _
  · rw [if_neg (by decide), if_pos rfl]; exact good_vn _
  · rw [if_neg (by decide), if_neg (by decide)]
    simp only [leafB, if_neg (show ¬ (3 : Int) = 1 by omega), if_neg (show ¬ (3 : Int) = 2 by omega), if_true, Bool.and_eq_true] at hl
    refine good_name hl.1.1.1.1 ?_
    intro c hc
    split at hc
    · simp only [List.mem_cons] at hc
      rcases hc with rfl | hc
      · decide
      · exact itoaD_run _ _ hc
    · simp at hc

theorem good_pi : Good [112, 105] := ⟨by simp, .inl (runTok_all (by decide))⟩
theorem good_fun : Good [102, 117, 110] := ⟨by simp, .inl (runTok_all (by decide))⟩
theorem good_let : Good [108, 101, 116] := ⟨by simp, .inl (runTok_all (by decide))⟩
theorem good_in : Good [105, 110] := ⟨by simp, .inl (runTok_all (by decide))⟩

theorem tok_good : ∀ (t : Tm) (d : Nat), t.wf → ∀ w ∈ tok t d, Good w
  | .nd0 k n s, d, hw, w, h => by
    simp only [tok, List.mem_singleton] at h
    subst h
    exact good_leaf hw
  | .nd2 k a b, d, ⟨_, wa, wb⟩, w, h => by
    have ga := tok_good a d wa
    have gb := tok_good b d wb
    have gb' := tok_good b (d + 1) wb
    simp only [tok] at h
    split at h
    · rcases List.mem_append.1 h with h | h
      · exact good_par ga w h
      · exact good_par gb w h
    · split at h
      all_goals
        simp only [List.mem_append, List.mem_cons, List.not_mem_nil, or_false] at h
        rcases h with (((rfl | rfl | rfl) | h) | rfl) | h
        · first | exact good_pi | exact good_fun
        · exact good_vn _
        · exact good_sym (by unfold symTok; simp)
        · exact ga w h
        · exact good_sym (by unfold symTok; simp)
        · exact gb' w h
  | .nd3 a b c, d, ⟨wa, wb, wc⟩, w, h => by
    have ga := tok_good a d wa
    have gb := tok_good b d wb
    have gc := tok_good c (d + 1) wc
    simp only [tok, List.mem_append, List.mem_cons, List.not_mem_nil, or_false] at h
    rcases h with (((((rfl | rfl | rfl) | h) | rfl) | h) | rfl) | h
    · exact good_let
    · exact good_vn _
    · exact good_sym (by unfold symTok; simp)
    · exact ga w h
    · exact good_sym (by unfold symTok; simp)
    · exact gb w h
    · exact good_in
    · exact gc w h
end Go.Vd.L
namespace Go.Vd.L
open Go.Vd

theorem rt12t {t : Tm} {d : Nat} {H : AH} (hw : t.wf) (hl : (pr t d).length ≤ 2000) :
    Rt Ck 12 [.str (pr t d)] H fun v H' => ∃ ws, v = .tup [ws, .int .i64 0] ∧ WS H.next H' ws (tok t d) ∧ Grow H H' := by
  rw [pr_tok] at hl ⊢
  exact rt12 (tok_ne t d) (tok_good t d hw) hl
end Go.Vd.L
