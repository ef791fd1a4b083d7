/- The context is sound: the whole. -/
import Derived.Test.YtabgoidablkmjaaGreatDoorVdL8
set_option linter.unusedVariables false
set_option linter.unusedSimpArgs false
namespace Go.Vd.L
open Go.Vd Go.Proofs

def BT.all (p : Nat → AF → Prop) : BT → Prop
  | .leaf k v => p k v
  | .node _ l r => l.all p ∧ r.all p

theorem BT.get_all {p : Nat → AF → Prop} : ∀ {t : BT} {n : Nat} {v : AF}, t.all p → t.get n = some v → p n v
  | .leaf k u, n, v, h, g => by
    simp only [BT.get] at g
    rw [Option.ite_none_right_eq_some] at g
    obtain ⟨g1, g2⟩ := g
    have := Nat.eq_of_beq_eq_true g1
    subst this
    cases g2
    exact h
  | .node k l r, n, v, h, g => by
    simp only [BT.get] at g
    split at g
    · exact BT.get_all h.1 g
    · exact BT.get_all h.2 g

theorem fns_all : fns.all fun i c => cf i = some c :=
  ⟨⟨⟨⟨⟨⟨e5, e6⟩, ⟨e7, ⟨e8, e11⟩⟩⟩, ⟨⟨e12, e13⟩, ⟨e14, ⟨e16, e17⟩⟩⟩⟩, ⟨⟨⟨e18, e19⟩, ⟨e20, ⟨e21, e22⟩⟩⟩, ⟨⟨e23, ⟨e26, e27⟩⟩, ⟨e28, ⟨e29, e30⟩⟩⟩⟩⟩, ⟨⟨⟨⟨e31, e32⟩, ⟨e33, ⟨e34, e35⟩⟩⟩, ⟨⟨e36, e38⟩, ⟨e39, ⟨e40, e41⟩⟩⟩⟩, ⟨⟨⟨e42, e43⟩, ⟨e44, ⟨e45, e47⟩⟩⟩, ⟨⟨e49, ⟨e50, e51⟩⟩, ⟨e52, ⟨e53, e54⟩⟩⟩⟩⟩⟩, ⟨⟨⟨⟨⟨e55, e56⟩, ⟨e60, ⟨e61, e62⟩⟩⟩, ⟨⟨e63, e64⟩, ⟨e65, ⟨e66, e67⟩⟩⟩⟩, ⟨⟨⟨e68, e69⟩, ⟨e70, ⟨e71, e72⟩⟩⟩, ⟨⟨e73, ⟨e78, e79⟩⟩, ⟨e80, ⟨e81, e82⟩⟩⟩⟩⟩, ⟨⟨⟨⟨e85, e86⟩, ⟨e87, ⟨e88, e89⟩⟩⟩, ⟨⟨e90, ⟨e91, e95⟩⟩, ⟨e97, ⟨e98, e99⟩⟩⟩⟩, ⟨⟨⟨e100, e104⟩, ⟨e106, ⟨e107, e108⟩⟩⟩, ⟨⟨e109, ⟨e113, e119⟩⟩, ⟨e125, ⟨e126, e132⟩⟩⟩⟩⟩⟩⟩

theorem fns_ok (f : Nat) (af : AF) (h : fns.get f = some af) : ∃ fn, Tryz.prog.funcs[f]? = some fn ∧ cfn Tryz.prog fn = some af ∧ (fn.name == "runtime.NumGoroutine") = false := by
  have := BT.get_all fns_all h
  unfold cf at this
  rw [Option.bind_eq_some_iff] at this
  obtain ⟨fn, h1, h2⟩ := this
  rw [Option.ite_none_left_eq_some] at h2
  exact ⟨fn, h1, h2.2, by simpa using h2.1⟩

theorem ext_ok (f : Nat) : ExtOK f (ext f) := by
  intro xs H v H' h φ w args hR hv
  unfold ext at h
  have go : ∀ (k : Nat) (e : List AV → AH → Option (AV × AH)), Nat.beq f k = true → ExtOK k e → e xs H = some (v, H') →
      ∃ ψ v' w', (callFunc f ⟨args⟩).run Tryz.prog w = .ok (.value v') w' ∧ R Tryz.prog.globals.size ψ H' w' ∧ Nx φ H w ψ H' w' ∧ VR ψ v v' := by
    intro k e hk he hx
    have := Nat.eq_of_beq_eq_true hk
    subst this
    exact he xs H v H' hx φ w args hR hv
  by_cases k118 : Nat.beq f 118 = true
  · rw [if_pos k118] at h
    exact go _ _ k118 ok118 h
  rw [if_neg k118] at h
  by_cases k114 : Nat.beq f 114 = true
  · rw [if_pos k114] at h
    exact go _ _ k114 ok114 h
  rw [if_neg k114] at h
  by_cases k96 : Nat.beq f 96 = true
  · rw [if_pos k96] at h
    exact go _ _ k96 ok96 h
  rw [if_neg k96] at h
  by_cases k46 : Nat.beq f 46 = true
  · rw [if_pos k46] at h
    exact go _ _ k46 ok46 h
  rw [if_neg k46] at h
  by_cases k57 : Nat.beq f 57 = true
  · rw [if_pos k57] at h
    exact go _ _ k57 ok57 h
  rw [if_neg k57] at h
  by_cases k58 : Nat.beq f 58 = true
  · rw [if_pos k58] at h
    exact go _ _ k58 ok58 h
  rw [if_neg k58] at h
  by_cases k148 : Nat.beq f 148 = true
  · rw [if_pos k148] at h
    exact go _ _ k148 ok148 h
  rw [if_neg k148] at h
  by_cases k59 : Nat.beq f 59 = true
  · rw [if_pos k59] at h
    exact go _ _ k59 ok59 h
  rw [if_neg k59] at h
  by_cases k159 : Nat.beq f 159 = true
  · rw [if_pos k159] at h
    exact go _ _ k159 ok159 h
  rw [if_neg k159] at h
  by_cases k160 : Nat.beq f 160 = true
  · rw [if_pos k160] at h
    exact go _ _ k160 ok160 h
  rw [if_neg k160] at h
  by_cases k158 : Nat.beq f 158 = true
  · rw [if_pos k158] at h
    exact go _ _ k158 ok158 h
  rw [if_neg k158] at h
  by_cases k157 : Nat.beq f 157 = true
  · rw [if_pos k157] at h
    exact go _ _ k157 ok157 h
  rw [if_neg k157] at h
  by_cases k83 : Nat.beq f 83 = true
  · rw [if_pos k83] at h
    exact go _ _ k83 ok83 h
  rw [if_neg k83] at h
  by_cases k84 : Nat.beq f 84 = true
  · rw [if_pos k84] at h
    exact go _ _ k84 ok84 h
  rw [if_neg k84] at h
  cases h

theorem meth_ok (t : Nat) (v : AV) (m : String) (f : Nat) (r : AV) (h : meth t v m = some (f, r)) (φ : Mp) (w : World) (v' : Value) (hv : VR φ v v') :
    ∃ r', (method (Tryz.prog.types.size + Made.depth) t v' m).run Tryz.prog w = .ok (f, r') w ∧ VR φ r r' := by
  unfold meth at h
  rw [Option.ite_none_right_eq_some] at h
  obtain ⟨ht, h⟩ := h
  have := Nat.eq_of_beq_eq_true ht
  subst this
  split at h
  · rename_i a
    have hv0 := hv
    simp only [VR, VRs] at hv
    obtain ⟨_, rfl, a', _, rfl, ha, rfl⟩ := hv
    split at h
    · rename_i hm; subst hm; cases h; exact ⟨_, m109a a' w, ha⟩
    split at h
    · rename_i hm; subst hm; cases h; exact ⟨_, m109b a' w, hv0⟩
    split at h
    · rename_i hm; subst hm; cases h; exact ⟨_, m109c a' w, hv0⟩
    split at h
    · rename_i hm; subst hm; cases h; exact ⟨_, m109d a' w, hv0⟩
    split at h
    · rename_i hm; subst hm; cases h; exact ⟨_, m109e a' w, hv0⟩
    cases h
  · cases h

theorem cmp49 : (Tryz.prog.info? 49).map (·.comparable) = some true := by kernel_rfl
noncomputable def impl49 : Option Bool := match Tryz.prog.info? 49, Tryz.prog.underlying 31 with
  | some i, some (.interface want) => some (Instr.missingMethod want i.methods).isNone
  | _, _ => none
theorem impl49_eq : impl49 = some true := by kernel_rfl
theorem lies60 : (fun (e k q t : Nat) => liesAt Tryz.prog Tryz.prog.depth e (k / Tryz.prog.cellsOf e) q t 1) 60 2 0 58 = true := by kernel_rfl
theorem lies_ok (e k q t : Nat) (h : C.lies e k q t = true) : liesAt Tryz.prog Tryz.prog.depth e (k / Tryz.prog.cellsOf e) q t 1 = true := by
  have h : (Nat.beq e 60 && Nat.beq k 2 && Nat.beq q 0 && Nat.beq t 58) = true := h
  simp only [Bool.and_eq_true] at h
  have e1 : e = 60 := Nat.eq_of_beq_eq_true h.1.1.1
  have e2 : k = 2 := Nat.eq_of_beq_eq_true h.1.1.2
  have e3 : q = 0 := Nat.eq_of_beq_eq_true h.1.2
  have e4 : t = 58 := Nat.eq_of_beq_eq_true h.2
  have key : ∀ (e' k' q' t' : Nat), e' = 60 → k' = 2 → q' = 0 → t' = 58 → (liesAt Tryz.prog Tryz.prog.depth e' (k' / Tryz.prog.cellsOf e') q' t' 1 = (fun (e k q t : Nat) => liesAt Tryz.prog Tryz.prog.depth e (k / Tryz.prog.cellsOf e) q t 1) 60 2 0 58) := by
    intro e' k' q' t' h1 h2 h3 h4
    rw [h1, h2, h3, h4]
  exact (key e k q t e1 e2 e3 e4).trans lies60
theorem mixed : Tryz.prog.follows .mixedOrders = true := by kernel_rfl

theorem ctx_ok : CtxOK Tryz.prog C where
  cmp := by
    intro t ht
    have := Nat.eq_of_beq_eq_true (show Nat.beq t 49 = true from ht)
    subst this
    have h := cmp49
    rw [Option.map_eq_some_iff] at h
    obtain ⟨i, h1, h2⟩ := h
    exact ⟨i, _, h1, h2, u49⟩
  impl := by
    intro t a b hb
    have hb : (if (Nat.beq t 49 && Nat.beq a 31) = true then some true else none) = some b := hb
    rw [Option.ite_none_right_eq_some] at hb
    obtain ⟨h1, h2⟩ := hb
    rw [Bool.and_eq_true] at h1
    have e1 := Nat.eq_of_beq_eq_true h1.1
    have e2 := Nat.eq_of_beq_eq_true h1.2
    subst e1; subst e2
    cases h2
    have h := impl49_eq
    unfold impl49 at h
    split at h
    · rename_i i want g1 g2
      exact ⟨i, want, g1, g2, by simpa using h⟩
    · cases h
  lies := fun e k q t h => lies_ok e k q t h
  ext := fun f xs H v H' h φ w args hR hv => ext_ok f xs H v H' h φ w args hR hv
  meth := fun t v m f r h φ H w v' _ hv => meth_ok t v m f r h φ w v' hv

theorem fns_OK : FnsOK Tryz.prog C where
  fns := fns_ok
  orc := fun f g xs H r H' h => by cases h
  mix := mixed
end Go.Vd.L
