/- The function known, from a heap that holds the table of powers of ten too. -/
import Derived.Test.YtabgoidablkmjaaGreatDoorYdL10
set_option linter.unusedVariables false
set_option linter.unusedSimpArgs false
namespace Go.Vd.L
open Go.Vd Go.Proofs

def pwL : List AV := [.int .u64 1, .int .u64 10, .int .u64 100, .int .u64 1000, .int .u64 10000, .int .u64 100000, .int .u64 1000000, .int .u64 10000000, .int .u64 100000000, .int .u64 1000000000, .int .u64 10000000000, .int .u64 100000000000, .int .u64 1000000000000, .int .u64 10000000000000, .int .u64 100000000000000, .int .u64 1000000000000000, .int .u64 10000000000000000, .int .u64 100000000000000000, .int .u64 1000000000000000000, .int .u64 10000000000000000000]
def cellB : AB := .cells [.ifc 109 (.agg [.hnd 7 31])] 79 0
def tabB : AB := .cells pwL 153 0

/-- The heap with the handle and the table. -/
def HB : AH := ⟨7, (Tr.nil.set 0 cellB).set 2 tabB⟩
def HB1 : AH := ⟨200, HB.tr⟩

theorem HB_get (X : Nat) : HB.get X = if X = 2 then some tabB else if X = 0 then some cellB else none := by
  show ((Tr.nil.set 0 cellB).set 2 tabB).get X = _
  rw [Tr.get_set, Tr.get_set]
  rfl

theorem HB_alive (X : Nat) (h : HB.alive X) : X = 0 ∨ X = 2 := by
  unfold AH.alive at h
  rw [HB_get] at h
  by_cases h2 : X = 2
  · exact .inr h2
  rw [if_neg h2] at h
  by_cases h0 : X = 0
  · exact .inl h0
  rw [if_neg h0] at h
  exact h.elim

def okB : Option Out → Bool
  | some (.call (.ret (.bool b)) H) => b && Nat.ble H.next 200 && (match H.get 0 with
    | some (.cells [x] 79 0) => AV.beq x (.ifc 109 (.agg [.hnd 7 31]))
    | _ => false) && (match H.get 2 with
    | some (.cells l 153 0) => AV.beqs l pwL
    | _ => false)
  | _ => false

theorem knB : okB (run C 1000 (.call 8 [] HB)) = true := by kernel_rfl

theorem AV_beqs_eq {l m : List AV} (h : AV.beqs l m = true) : l = m := by
  have h2 : AV.beq (.agg l) (.agg m) = true := by simpa [AV.beq] using h
  have := AV.beq_eq _ _ h2
  injection this

theorem okB_gets {H : AH} (h : okB (some (.call (.ret (.bool true)) H)) = true) : H.next ≤ 200 ∧ ∀ X, HB.get X ≠ none → H.get X = HB.get X := by
  simp only [okB, Bool.and_eq_true] at h
  obtain ⟨⟨⟨_, hn⟩, h0⟩, h2⟩ := h
  refine ⟨Nat.le_of_ble_eq_true hn, fun X hX => ?_⟩
  rw [HB_get] at hX ⊢
  by_cases e2 : X = 2
  · subst e2
    rw [if_pos rfl]
    split at h2
    · rename_i l hg
      rw [hg, AV_beqs_eq h2]
      rfl
    · cases h2
  rw [if_neg e2] at hX ⊢
  by_cases e0 : X = 0
  · subst e0
    rw [if_pos rfl]
    split at h0
    · rename_i x hg
      rw [hg, AV.beq_eq _ _ h0]
      rfl
    · cases h0
  rw [if_neg e0] at hX
  exact absurd rfl hX

theorem known_callsB {φ : Mp} {w : World} (hR : R Tryz.prog.globals.size φ HB w) : Calls Tryz.prog 8 ⟨[]⟩ w (CPost Tryz.prog φ HB w (.ret (.bool true)) HB1) := by
  have h := knB
  cases hrun : run C 1000 (.call 8 [] HB) with
  | none => rw [hrun] at h; cases h
  | some o =>
    rw [hrun] at h
    have h' := h
    unfold okB at h'
    split at h'
    · rename_i b H hb
      cases hb
      simp only [Bool.and_eq_true] at h'
      obtain ⟨⟨⟨rfl, _⟩, _⟩, _⟩ := h'
      obtain ⟨hn, hg⟩ := okB_gets h
      refine (run_calls fns_OK ctx_ok hrun hR (by simp [VRs])).mono ?_
      intro e w' hp
      cases e with
      | returned v =>
        obtain ⟨ψ, u, h1, h2, h3, h4⟩ := hp
        cases h1
        have hal : ∀ X, AH.alive HB1 X → H.alive X := by
          intro X aX
          have e1 : AH.alive HB X := aX
          unfold AH.alive at aX ⊢
          have e : HB1.get X = HB.get X := rfl
          rw [e] at aX
          cases hx : HB.get X with
          | none => rw [hx] at aX; exact aX.elim
          | some b =>
            rw [hg X (by rw [hx]; simp)]
            exact aX
        refine ⟨ψ, _, rfl, ⟨?_, ?_, ?_, h2.gl⟩, ⟨h3.le, h3.size, h3.frame, h3.out, ?_, ?_, ?_, ?_⟩, h4⟩
        · intro X p hX
          have := h2.lo X p hX
          exact ⟨Nat.lt_of_lt_of_le this.1 hn, this.2⟩
        · intro X Y p q h1 h3 aX aY e
          exact h2.inj X Y p q h1 h3 (hal X aX) (hal Y aY) e
        · intro X p hX
          have e : HB1.get X = HB.get X := rfl
          rw [e]
          cases hx : HB.get X with
          | none => trivial
          | some b =>
            rw [← hx, ← hg X (by rw [hx]; simp)]
            exact h2.blk X p hX
        · show 7 ≤ 200
          omega
        · intro X _ _; rfl
        · intro X p _ hd; exact hd
        · intro X p hX hn'
          exact h3.new X p hX hn'
      | panicked c =>
        obtain ⟨ψ, u, v, h1, _⟩ := hp
        cases h1
      | outgrown => exact hp.elim
    · cases h'

/-- What known() gives, from either heap. -/
noncomputable def knownK (xs : List AV) (H : AH) : Option (ARes × AH) := match knownO xs H with
  | some r => some r
  | none => @ite _ (xs = [] ∧ H = HB) (Classical.propDecidable _) (some (.ret (.bool true), HB1)) none

theorem knownK_HB : knownK [] HB = some (.ret (.bool true), HB1) := by
  have h : knownO [] HB = none := rfl
  unfold knownK
  rw [h]
  exact if_pos ⟨rfl, rfl⟩
end Go.Vd.L
