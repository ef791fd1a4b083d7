/- The context is sound: the functions without a body. -/
import Derived.Test.YtabgoidablkmjaaGreatDoorVdL6
set_option linter.unusedVariables false
set_option linter.unusedSimpArgs false
namespace Go.Vd.L
open Go.Vd Go.Proofs

theorem u8_of {b : Int} (h : Nat.blt b.toNat 256 = true) : b.toNat.toUInt8.toNat = b.toNat := by
  have : b.toNat < 256 := Nat.le_of_ble_eq_true h
  show b.toNat % 256 = b.toNat
  omega

theorem one_cells {v : AV} (h : v.one = true) : v.cells = [v] := by
  cases v <;> first
    | rfl
    | (simp [AV.one] at h; done)

theorem gsz : Tryz.prog.globals.size = 7 := by kernel_rfl

theorem new_one {φ : Mp} {H : AH} {w : World} (hR : R Tryz.prog.globals.size φ H w) {v : AV} {v' : Value} (hv : VR φ v v') (h1 : v.one = true) (e : Nat) :
    ∃ ψ, R Tryz.prog.globals.size ψ (H.push (.cells [v] e 0)) { w with heap := w.heap.push (.cells v'.cells e) } ∧ Nx φ H w ψ (H.push (.cells [v] e 0)) { w with heap := w.heap.push (.cells v'.cells e) } ∧
      VR ψ (.ptr H.next 0) (.pointer (some ⟨w.heap.size, 0, none⟩)) := by
  have hc := hv.cells
  rw [one_cells h1] at hc
  have := hR.row hR.ng' hc [] e 0 (fun _ => rfl)
  have e1 : (⟨v'.cells.toList ++ []⟩ : Array Value) = v'.cells := by apply Array.ext'; simp
  rw [e1] at this
  refine ⟨_, this.1, this.2, ?_⟩
  simp only [VR]
  exact ⟨_, Mp.add_self _ _ _, by simp⟩
def ExtOK (f : Nat) (e : List AV → AH → Option (AV × AH)) : Prop := ∀ (xs : List AV) (H : AH) (v : AV) (H' : AH), e xs H = some (v, H') → ∀ (φ : Mp) (w : World) (args : List Value),
    R Tryz.prog.globals.size φ H w → VRs φ xs args → ∃ ψ v' w', (callFunc f ⟨args⟩).run Tryz.prog w = .ok (.value v') w' ∧ R Tryz.prog.globals.size ψ H' w' ∧ Nx φ H w ψ H' w' ∧ VR ψ v v'

theorem ok118 : ExtOK 118 e118 := by
  intro xs H v H' h φ w args hR hv
  unfold e118 at h
  split at h
  · rename_i s b
    rw [Option.ite_none_right_eq_some] at h
    obtain ⟨hb, h⟩ := h
    cases h
    simp only [VRs, VR] at hv
    obtain ⟨_, _, rfl, rfl, _, _, rfl, rfl, rfl⟩ := hv
    refine ⟨φ, _, w, x118 s b w, hR, Nx.refl φ _ w, ?_⟩
    simp only [VR, u8_of hb]
  · cases h

theorem ok114 : ExtOK 114 e114 := by
  intro xs H v H' h φ w args hR hv
  unfold e114 at h
  split at h
  · rename_i s b
    rw [Option.ite_none_right_eq_some] at h
    obtain ⟨hb, h⟩ := h
    cases h
    simp only [VRs, VR] at hv
    obtain ⟨_, _, rfl, rfl, _, _, rfl, rfl, rfl⟩ := hv
    refine ⟨φ, _, w, x114 s b w, hR, Nx.refl φ _ w, ?_⟩
    simp only [VR, u8_of hb]
  · cases h

theorem ok96 : ExtOK 96 e96 := by
  intro xs H v H' h φ w args hR hv
  unfold e96 at h
  split at h
  · rename_i x
    cases h
    simp only [VRs] at hv
    obtain ⟨v', _, rfl, h1, rfl⟩ := hv
    exact ⟨φ, _, w, x96 v' w, hR, Nx.refl φ _ w, h1⟩
  · cases h

theorem vr_hd {φ : Mp} (t : Nat) : VR φ (.ifc 109 (.agg [.hnd 7 t])) (.iface 109 (.agg #[hd t])) := by
  simp only [VR, VRs]
  exact ⟨_, rfl, _, rfl, _, _, rfl, rfl, rfl⟩

theorem ok46 : ExtOK 46 e46 := by
  intro xs H v H' h φ w args hR hv
  unfold e46 at h
  split at h
  · rename_i t x
    rw [Option.ite_none_right_eq_some] at h
    obtain ⟨hb, h⟩ := h
    have := Nat.eq_of_beq_eq_true hb
    subst this
    cases h
    simp only [VRs, VR] at hv
    obtain ⟨v', _, rfl, ⟨y, rfl, _⟩, rfl⟩ := hv
    exact ⟨φ, _, w, x46 y w, hR, Nx.refl φ _ w, vr_hd 49⟩
  · cases h

theorem ok57 : ExtOK 57 e57 := by
  intro xs H v H' h φ w args hR hv
  unfold e57 at h
  split at h
  · rename_i t x
    rw [Option.ite_none_right_eq_some] at h
    obtain ⟨h1, h⟩ := h
    simp only [VRs, VR] at hv
    obtain ⟨v', _, rfl, ⟨y, rfl, hy⟩, rfl⟩ := hv
    split at h
    · rename_i hb
      have := Nat.eq_of_beq_eq_true hb
      subst this
      cases h
      obtain ⟨ψ, g1, g2, g3⟩ := new_one hR hy h1 49
      refine ⟨ψ, _, _, x57a y w, g1, g2, ?_⟩
      simp only [VR, VRs] at g3 ⊢
      exact ⟨_, rfl, _, _, rfl, rfl, _, _, rfl, g3, _, _, rfl, rfl, rfl⟩
    · rw [Option.ite_none_right_eq_some] at h
      obtain ⟨hb, h⟩ := h
      have := Nat.eq_of_beq_eq_true hb
      subst this
      cases h
      obtain ⟨ψ, g1, g2, g3⟩ := new_one hR hy h1 70
      refine ⟨ψ, _, _, x57b y w, g1, g2, ?_⟩
      simp only [VR, VRs] at g3 ⊢
      exact ⟨_, rfl, _, _, rfl, rfl, _, _, rfl, g3, _, _, rfl, rfl, rfl⟩
  · cases h
end Go.Vd.L
