/- Two names of which only is known that a binder may bear them: known() from a heap that holds them; the oracles for them. -/
import Derived.Test.YtabgoidablkmjaaGreatDoorXdK6
set_option linter.unusedVariables false
set_option linter.unusedSimpArgs false
namespace Go.Vd.L
open Go.Vd Go.Proofs

def cellA : AB := .cells [.ifc 109 (.agg [.hnd 7 31])] 79 0

/-- The heap with two names that are not the same. -/
def HS : AH := ⟨9, ((Tr.nil.set 0 cellA).set 7 (.sy [8])).set 8 (.sy [7])⟩

theorem HS_get (X : Nat) : HS.get X = if X = 8 then some (.sy [7]) else if X = 7 then some (.sy [8]) else if X = 0 then some cellA else none := by
  show (((Tr.nil.set 0 cellA).set 7 _).set 8 _).get X = _
  rw [Tr.get_set, Tr.get_set, Tr.get_set]
  rfl

theorem HS_alive (X : Nat) (h : HS.alive X) : X = 0 := by
  unfold AH.alive at h
  rw [HS_get] at h
  by_cases h8 : X = 8
  · rw [if_pos h8] at h; exact h.elim
  rw [if_neg h8] at h
  by_cases h7 : X = 7
  · rw [if_pos h7] at h; exact h.elim
  rw [if_neg h7] at h
  by_cases h0 : X = 0
  · exact h0
  rw [if_neg h0] at h
  exact h.elim

def okS : Option Out → Bool
  | some (.call (.ret (.bool b)) H) => b && Nat.ble H.next 300 && (match H.get 0 with
    | some (.cells [x] 79 0) => AV.beq x (.ifc 109 (.agg [.hnd 7 31]))
    | _ => false) && (match H.get 7 with
    | some (.sy [a]) => Nat.beq a 8
    | _ => false) && (match H.get 8 with
    | some (.sy [a]) => Nat.beq a 7
    | _ => false)
  | _ => false

theorem knS : okS (run C 1000 (.call 8 [] HS)) = true := by kernel_rfl

def HS1 : AH := ⟨300, HS.tr⟩

/-- What such a run leaves of the elder blocks. -/
theorem okS_gets {H : AH} (h : okS (some (.call (.ret (.bool true)) H)) = true) : H.next ≤ 300 ∧ ∀ X, HS.get X ≠ none → H.get X = HS.get X := by
  simp only [okS, Bool.and_eq_true] at h
  obtain ⟨⟨⟨⟨_, hn⟩, h0⟩, h7⟩, h8⟩ := h
  refine ⟨Nat.le_of_ble_eq_true hn, fun X hX => ?_⟩
  rw [HS_get] at hX ⊢
  by_cases e8 : X = 8
  · subst e8
    rw [if_pos rfl]
    split at h8
    · rename_i a hg
      rw [hg, Nat.eq_of_beq_eq_true h8]
    · cases h8
  rw [if_neg e8] at hX ⊢
  by_cases e7 : X = 7
  · subst e7
    rw [if_pos rfl]
    split at h7
    · rename_i a hg
      rw [hg, Nat.eq_of_beq_eq_true h7]
    · cases h7
  rw [if_neg e7] at hX ⊢
  by_cases e0 : X = 0
  · subst e0
    rw [if_pos rfl]
    split at h0
    · rename_i x hg
      rw [hg, AV.beq_eq _ _ h0]
      rfl
    · cases h0
  rw [if_neg e0] at hX
  exact absurd rfl hX

theorem known_callsS {φ : Mp} {w : World} (hR : R Tryz.prog.globals.size φ HS w) : Calls Tryz.prog 8 ⟨[]⟩ w (CPost Tryz.prog φ HS w (.ret (.bool true)) HS1) := by
  have h := knS
  cases hrun : run C 1000 (.call 8 [] HS) with
  | none => rw [hrun] at h; cases h
  | some o =>
    rw [hrun] at h
    have h' := h
    unfold okS at h'
    split at h'
    · rename_i b H hb
      cases hb
      simp only [Bool.and_eq_true] at h'
      obtain ⟨⟨⟨⟨rfl, _⟩, _⟩, _⟩, _⟩ := h'
      obtain ⟨hn, hg⟩ := okS_gets h
      refine (run_calls fns_OK ctx_ok hrun hR (by simp [VRs])).mono ?_
      intro e w' hp
      cases e with
      | returned v =>
        obtain ⟨ψ, u, h1, h2, h3, h4⟩ := hp
        cases h1
        refine ⟨ψ, _, rfl, ⟨?_, ?_, ?_, h2.gl⟩, ⟨h3.le, h3.size, h3.frame, h3.out, ?_, ?_, ?_, ?_⟩, h4⟩
        · intro X p hX
          have := h2.lo X p hX
          exact ⟨Nat.lt_of_lt_of_le this.1 hn, this.2⟩
        · intro X Y p q _ _ aX aY _
          rw [HS_alive X aX, HS_alive Y aY]
        · intro X p hX
          have e : HS1.get X = HS.get X := rfl
          rw [e]
          cases hx : HS.get X with
          | none => trivial
          | some b =>
            rw [← hx, ← hg X (by rw [hx]; simp)]
            exact h2.blk X p hX
        · show 9 ≤ 300
          omega
        · intro X _ _; rfl
        · intro X p _ hd; exact hd
        · intro X p hX hn'
          exact h3.new X p hX hn'
      | panicked c =>
        obtain ⟨ψ, u, v, h1, _⟩ := hp
        cases h1
      | outgrown => exact hp.elim
    · cases h'

def knownS (xs : List AV) (H : AH) : Option (ARes × AH) :=
  match xs with
  | [] => match H with
    | ⟨n, .node (some (.cells [x] 79 0)) (.node none (.node none (.node (some (.sy [a])) .nil .nil) .nil) .nil) (.node none (.node (none) (.node (some (.sy [b])) .nil .nil) .nil) .nil)⟩ =>
      if Nat.beq n 9 && AV.beq x (.ifc 109 (.agg [.hnd 7 31])) && Nat.beq a 8 && Nat.beq b 7 then some (.ret (.bool true), HS1) else none
    | _ => none
  | _ => none

theorem knownS_HS : ∀ {xs : List AV} {H H' : AH} {r : ARes}, knownS xs H = some (r, H') → xs = [] ∧ H = HS ∧ r = .ret (.bool true) ∧ H' = HS1 := by
  intro xs H H' r h
  unfold knownS at h
  split at h
  · split at h
    · rw [Option.ite_none_right_eq_some] at h
      obtain ⟨hc, h⟩ := h
      simp only [Bool.and_eq_true] at hc
      obtain ⟨⟨⟨h1, h2⟩, h3⟩, h4⟩ := hc
      have e1 := Nat.eq_of_beq_eq_true h1
      have e2 := AV.beq_eq _ _ h2
      have e3 := Nat.eq_of_beq_eq_true h3
      have e4 := Nat.eq_of_beq_eq_true h4
      subst e1; subst e2; subst e3; subst e4
      cases h
      exact ⟨rfl, rfl, rfl, rfl⟩
    · cases h
  · cases h

/-- Blocks that are dead from the first. -/
def pushD : Nat → AH → AH
  | 0, H => H
  | n + 1, H => pushD n (H.push .dead)

theorem pushD_next : ∀ (n : Nat) (H : AH), (pushD n H).next = H.next + n
  | 0, H => rfl
  | n + 1, H => by rw [pushD, pushD_next n, AH.next_push]; omega
theorem pushD_get : ∀ (n : Nat) (H : AH) (X : Nat), X < H.next → (pushD n H).get X = H.get X
  | 0, H, X, _ => rfl
  | n + 1, H, X, h => by rw [pushD, pushD_get n _ X (by rw [AH.next_push]; omega), AH.get_push_ne _ _ (by omega)]
theorem pushD_dead : ∀ (n : Nat) (H : AH) (X : Nat), H.next ≤ X → X < H.next + n → (pushD n H).get X = some .dead
  | 0, H, X, h, g => by omega
  | n + 1, H, X, h, g => by
    rw [pushD]
    by_cases e : X = H.next
    · subst e
      rw [pushD_get n _ _ (by rw [AH.next_push]; omega), AH.get_push_self]
    · exact pushD_dead n _ X (by rw [AH.next_push]; omega) (by rw [AH.next_push]; omega)

def bound15 (xs : List AV) (H : AH) : Option (ARes × AH) :=
  match xs with
  | [.sym X] => if H.isSy X then some (.ret (.bool true), pushD 5 H) else none
  | _ => none

/-- The context for the law of texts: the names' two looks are oracles. -/
def Cs : Ctx := { C with fns := fnsA, orc := fun f => if Nat.beq f 8 then some knownS else if Nat.beq f 15 then some bound15 else if Nat.beq f 85 then some bound15 else none }

theorem ctx_oks : CtxOK Tryz.prog Cs := ⟨ctx_ok.cmp, ctx_ok.impl, ctx_ok.lies, ctx_ok.ext, ctx_ok.meth⟩

theorem good_bound {s : List UInt8} (h : goodB s = true) : boundB s = true := by
  unfold goodB at h
  simp only [Bool.and_eq_true] at h
  exact h.1

/-- What a contract of a function of a string says of a call with a name. -/
theorem bound_calls {f : Nat} (hc : ∀ (s : List UInt8), boundB s = true → ∀ H, Rt Ck f [.str s] H fun v H' => v = .bool true ∧ Ext 5 H H') {X : Nat} {H : AH} (hs : H.isSy X = true)
    {φ : Mp} {w : World} {args : List Value} (hR : R Tryz.prog.globals.size φ H w) (hv : VRs φ [.sym X] args) : Calls Tryz.prog f ⟨args⟩ w (CPost Tryz.prog φ H w (.ret (.bool true)) (pushD 5 H)) := by
  simp only [VRs, VR] at hv
  obtain ⟨v, ws, rfl, ⟨p, hp, rfl⟩, rfl⟩ := hv
  have hg : goodB (decS p.base) = true := by
    unfold AH.isSy at hs
    split at hs
    · rename_i ne hx
      have := hR.blk X p hp
      rw [hx] at this
      exact this.1
    · cases hs
  have hrt := hc (decS p.base) (good_bound hg) H
  unfold Rt at hrt
  obtain ⟨n, v, H', hrun, hv, hE⟩ := hrt
  subst hv
  refine (run_calls fns_OKk ctx_okk hrun hR (args := [.string ⟨(decS p.base).toArray⟩]) (by simp [VRs, VR])).mono ?_
  intro e w' hpost
  cases e with
  | returned v =>
    obtain ⟨ψ, u, h1, h2, h3, h4⟩ := hpost
    cases h1
    have hn : H'.next ≤ H.next + 5 := hE.hi
    have al : ∀ Z, Z < H.next + 5 → (pushD 5 H).alive Z → Z < H.next ∧ H'.alive Z ∧ H.alive Z := by
      intro Z hlt2 hZ
      unfold AH.alive at hZ ⊢
      by_cases hlt : Z < H.next
      · rw [pushD_get 5 H Z hlt] at hZ
        refine ⟨hlt, ?_, hZ⟩
        rw [hE.same Z hlt]
        exact hZ
      · exfalso
        rw [pushD_dead 5 H Z (by omega) hlt2] at hZ
        exact hZ
    refine ⟨ψ, _, rfl, ⟨?_, ?_, ?_, h2.gl⟩, ⟨h3.le, h3.size, h3.frame, h3.out, ?_, ?_, ?_, ?_⟩, h4⟩
    · intro Z q hZ
      have := h2.lo Z q hZ
      exact ⟨by rw [pushD_next]; omega, this.2⟩
    · intro Z Y q r hZ hY aZ aY e
      have k1 := (h2.lo Z q hZ).1
      have k2 := (h2.lo Y r hY).1
      exact h2.inj Z Y q r hZ hY (al Z (by omega) aZ).2.1 (al Y (by omega) aY).2.1 e
    · intro Z q hZ
      by_cases hlt : Z < H.next
      · rw [pushD_get 5 H Z hlt, ← hE.same Z hlt]
        exact h2.blk Z q hZ
      · have := (h2.lo Z q hZ).1
        rw [pushD_dead 5 H Z (by omega) (by omega)]
        trivial
    · rw [pushD_next]; omega
    · intro Z hZ _; exact pushD_get 5 H Z hZ
    · intro Z q hZ hd hal
      have k1 := (hR.lo Z q hZ).1
      exact hd (al Z (by omega) hal).2.2
    · intro Z q hZ hn'
      exact h3.new Z q hZ hn'
  | panicked c =>
    obtain ⟨ψ, u, v, h1, _⟩ := hpost
    cases h1
  | outgrown => exact hpost.elim

theorem fns_OKs : FnsOK Tryz.prog Cs where
  fns := fnsA_ok
  mix := mixed
  orc := by
    intro f g xs H r H' h1 h2
    have h1 : (if Nat.beq f 8 = true then some knownS else if Nat.beq f 15 = true then some bound15 else if Nat.beq f 85 = true then some bound15 else none) = some g := h1
    by_cases k8 : Nat.beq f 8 = true
    · rw [if_pos k8] at h1
      cases h1
      have := Nat.eq_of_beq_eq_true k8
      subst this
      obtain ⟨rfl, rfl, rfl, rfl⟩ := knownS_HS h2
      refine ⟨fns_OK.enters (f := 8) (af := c8) rfl, ?_⟩
      intro φ w args hR hv
      simp only [VRs] at hv
      subst hv
      exact known_callsS hR
    rw [if_neg k8] at h1
    have bnd : ∀ (k : Nat), (∃ af, fnsA k = some af) → (∀ (s : List UInt8), boundB s = true → ∀ H, Rt Ck k [.str s] H fun v H' => v = .bool true ∧ Ext 5 H H') → bound15 xs H = some (r, H') →
        Enters Tryz.prog k ∧ ∀ φ w (args : List Value), R Tryz.prog.globals.size φ H w → VRs φ xs args → Calls Tryz.prog k ⟨args⟩ w (CPost Tryz.prog φ H w r H') := by
      intro k hk hc h2
      unfold bound15 at h2
      split at h2
      · rename_i X
        rw [Option.ite_none_right_eq_some] at h2
        obtain ⟨hs, h2⟩ := h2
        cases h2
        obtain ⟨af, haf⟩ := hk
        exact ⟨fns_OKk.enters (f := k) (af := af) haf, fun φ w args hR hv => bound_calls hc hs hR hv⟩
      · cases h2
    by_cases k15 : Nat.beq f 15 = true
    · rw [if_pos k15] at h1
      cases h1
      have := Nat.eq_of_beq_eq_true k15
      subst this
      exact bnd 15 ⟨c15, rfl⟩ (fun s hs H => (rt15 s H).mono fun v H' ⟨h1, h2⟩ => ⟨by rw [h1, hs], by rw [h2]; exact Ext.refl 5 H⟩) h2
    rw [if_neg k15] at h1
    by_cases k85 : Nat.beq f 85 = true
    · rw [if_pos k85] at h1
      cases h1
      have := Nat.eq_of_beq_eq_true k85
      subst this
      exact bnd 85 ⟨c85, rfl⟩ (fun s hs H => rt85 s hs H) h2
    rw [if_neg k85] at h1
    cases h1
end Go.Vd.L
