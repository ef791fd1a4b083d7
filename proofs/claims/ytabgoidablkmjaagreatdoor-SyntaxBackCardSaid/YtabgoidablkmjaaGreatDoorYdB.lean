/- The relation between the evaluator's heap and the model's world. -/
import Derived.Test.YtabgoidablkmjaaGreatDoorYdA
import Derived.Calls
import Derived.Laws.Sem
set_option linter.unusedVariables false
set_option linter.unusedSimpArgs false
namespace Go.Vd

structure Pl where
  b : Nat
  base : Nat
  room : Nat

abbrev Mp := Nat → Option Pl

/-- A string as a number, and back. -/
def encS : List UInt8 → Nat
  | [] => 0
  | b :: l => encS l * 256 + b.toNat + 1
def decF : Nat → Nat → List UInt8
  | 0, _ => []
  | f + 1, n => if n = 0 then [] else UInt8.ofNat ((n - 1) % 256) :: decF f ((n - 1) / 256)
def decS (n : Nat) : List UInt8 := decF n n

theorem decF_enc : ∀ (l : List UInt8) (f : Nat), encS l ≤ f → decF f (encS l) = l
  | [], 0, _ => rfl
  | [], f + 1, _ => by simp [encS, decF]
  | b :: l, 0, h => by simp [encS] at h
  | b :: l, f + 1, h => by
    have hb := b.toNat_lt
    simp only [encS] at h ⊢
    have h1 : (encS l * 256 + b.toNat + 1 - 1) % 256 = b.toNat := by omega
    have h2 : (encS l * 256 + b.toNat + 1 - 1) / 256 = encS l := by omega
    simp only [decF]
    rw [if_neg (by omega), h1, h2, decF_enc l f (by omega)]
    simp
theorem decS_enc (l : List UInt8) : decS (encS l) = l := decF_enc l _ (Nat.le_refl _)

mutual
def VR (φ : Mp) : AV → Value → Prop
  | .bool b, v => v = .bool b
  | .int k n, v => v = .int k n
  | .cls k m r, v => ∃ n : Nat, v = .int k (.ofNat n) ∧ n % m = r
  | .str l, v => v = .string ⟨l.toArray⟩
  | .sym X, v => ∃ p, φ X = some p ∧ v = .string ⟨(decS p.base).toArray⟩
  | .nilp, v => v = .pointer none
  | .ptr X o, v => ∃ p, φ X = some p ∧ v = .pointer (some ⟨p.b, p.base + o, none⟩)
  | .hnd b t, v => v = .pointer (some ⟨b, t, none⟩)
  | .nils, v => v = .slice none 0 0
  | .slc X o len cap sz ex, v => ∃ p a c, φ X = some p ∧ v = .slice (some a) len c ∧ (ex = true → c = cap) ∧ (ex = false → cap ≤ c ∧ o + c * sz ≤ p.room) ∧
      (0 < c → a = ⟨p.b, p.base + o, none⟩)
  | .nilm, v => v = .map none
  | .map X, v => ∃ p, φ X = some p ∧ v = .map (some p.b)
  | .fn f a b, v => ∃ as bs, v = .func f ⟨as⟩ ⟨bs⟩ ∧ VRs φ a as ∧ VRs φ b bs
  | .nilf, v => v = .nilFunc
  | .ifc t x, v => ∃ y, v = .iface t y ∧ VR φ x y
  | .nili, v => v = .nilIface
  | .agg l, v => ∃ vs, v = .agg ⟨vs⟩ ∧ VRs φ l vs
  | .tup l, v => ∃ vs, v = .tuple ⟨vs⟩ ∧ VRs φ l vs
def VRs (φ : Mp) : List AV → List Value → Prop
  | [], vs => vs = []
  | a :: l, vs => ∃ v ws, vs = v :: ws ∧ VR φ a v ∧ VRs φ l ws
end

def Le (φ ψ : Mp) : Prop := ∀ X p, φ X = some p → ψ X = some p

theorem Le.refl (φ : Mp) : Le φ φ := fun _ _ h => h
theorem Le.trans {φ ψ χ : Mp} (h : Le φ ψ) (g : Le ψ χ) : Le φ χ := fun X p e => g X p (h X p e)

mutual
theorem VR.mono {φ ψ : Mp} (h : Le φ ψ) : ∀ (a : AV) (v : Value), VR φ a v → VR ψ a v
  | .bool _, _, e => by simpa only [VR] using e
  | .int _ _, _, e => by simpa only [VR] using e
  | .cls _ _ _, _, e => by simpa only [VR] using e
  | .str _, _, e => by simpa only [VR] using e
  | .sym X, _, e => by
    simp only [VR] at e ⊢
    obtain ⟨p, e1, e2⟩ := e
    exact ⟨p, h _ _ e1, e2⟩
  | .nilp, _, e => by simpa only [VR] using e
  | .ptr X o, _, e => by
    simp only [VR] at e ⊢
    obtain ⟨p, e1, e2⟩ := e
    exact ⟨p, h _ _ e1, e2⟩
  | .hnd _ _, _, e => by simpa only [VR] using e
  | .nils, _, e => by simpa only [VR] using e
  | .slc X o len cap sz ex, _, e => by
    simp only [VR] at e ⊢
    obtain ⟨p, a, c, e1, e2⟩ := e
    exact ⟨p, a, c, h _ _ e1, e2⟩
  | .nilm, _, e => by simpa only [VR] using e
  | .map X, _, e => by
    simp only [VR] at e ⊢
    obtain ⟨p, e1, e2⟩ := e
    exact ⟨p, h _ _ e1, e2⟩
  | .fn f a b, _, e => by
    simp only [VR] at e ⊢
    obtain ⟨as, bs, e1, e2, e3⟩ := e
    exact ⟨as, bs, e1, VRs.mono h a as e2, VRs.mono h b bs e3⟩
  | .nilf, _, e => by simpa only [VR] using e
  | .ifc t x, _, e => by
    simp only [VR] at e ⊢
    obtain ⟨y, e1, e2⟩ := e
    exact ⟨y, e1, VR.mono h x y e2⟩
  | .nili, _, e => by simpa only [VR] using e
  | .agg l, _, e => by
    simp only [VR] at e ⊢
    obtain ⟨y, e1, e2⟩ := e
    exact ⟨y, e1, VRs.mono h l y e2⟩
  | .tup l, _, e => by
    simp only [VR] at e ⊢
    obtain ⟨y, e1, e2⟩ := e
    exact ⟨y, e1, VRs.mono h l y e2⟩
theorem VRs.mono {φ ψ : Mp} (h : Le φ ψ) : ∀ (l : List AV) (vs : List Value), VRs φ l vs → VRs ψ l vs
  | [], _, e => by simpa only [VRs] using e
  | a :: l, _, e => by
    simp only [VRs] at e ⊢
    obtain ⟨v, ws, e1, e2, e3⟩ := e
    exact ⟨v, ws, e1, VR.mono h a v e2, VRs.mono h l ws e3⟩
end

/-! ### Lists of values -/

theorem VRs.length {φ : Mp} : ∀ {l : List AV} {vs : List Value}, VRs φ l vs → vs.length = l.length
  | [], _, h => by simp only [VRs] at h; subst h; rfl
  | a :: l, _, h => by
    simp only [VRs] at h
    obtain ⟨v, ws, rfl, _, h⟩ := h
    simp [VRs.length h]

theorem VRs.get {φ : Mp} : ∀ {l : List AV} {vs : List Value}, VRs φ l vs → ∀ (i : Nat) (a : AV), l[i]? = some a → ∃ v, vs[i]? = some v ∧ VR φ a v
  | [], _, _, i, a, e => by simp at e
  | b :: l, _, h, i, a, e => by
    simp only [VRs] at h
    obtain ⟨v, ws, rfl, hv, h⟩ := h
    cases i with
    | zero =>
      simp at e
      subst e
      exact ⟨v, by simp, hv⟩
    | succ i =>
      simp at e
      obtain ⟨u, hu, hr⟩ := VRs.get h i a e
      exact ⟨u, by simpa using hu, hr⟩

theorem VRs.of_get {φ : Mp} : ∀ (l : List AV) (vs : List Value), vs.length = l.length → (∀ (i : Nat) (a : AV) (v : Value), l[i]? = some a → vs[i]? = some v → VR φ a v) → VRs φ l vs
  | [], vs, hl, _ => by
    simp only [VRs]
    exact List.length_eq_zero_iff.1 hl
  | a :: l, [], hl, _ => by simp at hl
  | a :: l, v :: vs, hl, h => by
    simp only [VRs]
    exact ⟨v, vs, rfl, h 0 a v (by simp) (by simp), VRs.of_get l vs (by simpa using hl) fun i b u hb hu => h (i + 1) b u (by simpa using hb) (by simpa using hu)⟩

theorem VRs.append {φ : Mp} : ∀ {l m : List AV} {vs ws : List Value}, VRs φ l vs → VRs φ m ws → VRs φ (l ++ m) (vs ++ ws)
  | [], _, _, _, h, g => by simp only [VRs] at h; subst h; simpa using g
  | a :: l, _, _, _, h, g => by
    simp only [VRs] at h
    obtain ⟨v, us, rfl, hv, h⟩ := h
    simp only [List.cons_append, VRs]
    exact ⟨v, _, rfl, hv, VRs.append h g⟩

theorem VRs.take {φ : Mp} : ∀ (n : Nat) {l : List AV} {vs : List Value}, VRs φ l vs → VRs φ (l.take n) (vs.take n)
  | 0, _, _, _ => by simp [VRs]
  | n + 1, [], _, h => by simp only [VRs] at h; subst h; simp [VRs]
  | n + 1, a :: l, _, h => by
    simp only [VRs] at h
    obtain ⟨v, ws, rfl, hv, h⟩ := h
    simp only [List.take_succ_cons, VRs]
    exact ⟨v, _, rfl, hv, VRs.take n h⟩

theorem VRs.drop {φ : Mp} : ∀ (n : Nat) {l : List AV} {vs : List Value}, VRs φ l vs → VRs φ (l.drop n) (vs.drop n)
  | 0, _, _, h => by simpa using h
  | n + 1, [], _, h => by simp only [VRs] at h; subst h; simp [VRs]
  | n + 1, a :: l, _, h => by
    simp only [VRs] at h
    obtain ⟨v, ws, rfl, hv, h⟩ := h
    simpa using VRs.drop n h

/-! ### The trie -/

theorem Tr.get_setF {α : Type} : ∀ (f : Nat) (t : Tr α) (k : Nat) (v : α) (j : Nat), k ≤ f → (Tr.setF f t k v).get j = if j = k then some v else t.get j
  | 0, t, k, v, j, h => by
    have hk : k = 0 := by omega
    subst hk
    cases t with
    | nil =>
      simp only [Tr.setF]
      cases j with
      | zero => simp [Tr.get]
      | succ j => simp [Tr.get]
    | node x l r =>
      simp only [Tr.setF]
      cases j with
      | zero => simp [Tr.get]
      | succ j => simp [Tr.get]
  | f + 1, t, 0, v, j, h => by
    cases t with
    | nil =>
      simp only [Tr.setF]
      cases j with
      | zero => simp [Tr.get]
      | succ j => simp [Tr.get]
    | node x l r =>
      simp only [Tr.setF]
      cases j with
      | zero => simp [Tr.get]
      | succ j => simp [Tr.get]
  | f + 1, t, k + 1, v, j, h => by
    have ih := Tr.get_setF (α := α) f
    have hk : k / 2 ≤ f := by omega
    cases j with
    | zero =>
      have : ¬ (0 = k + 1) := by omega
      rw [if_neg this]
      cases t with
      | nil =>
        simp only [Tr.setF]
        split <;> simp [Tr.get]
      | node x l r =>
        simp only [Tr.setF]
        split <;> simp [Tr.get]
    | succ j =>
      have e1 : (j + 1 = k + 1) = (j = k) := by simp
      simp only [e1]
      by_cases hm : k % 2 = 0
      · have hb : Nat.beq (k % 2) 0 = true := by rw [hm]; rfl
        cases t with
        | nil =>
          simp only [Tr.setF, hb, if_true, Tr.get]
          by_cases hj : j % 2 = 0
          · have hb2 : Nat.beq (j % 2) 0 = true := by rw [hj]; rfl
            simp only [hb2, if_true, ih _ _ _ _ hk, Tr.get]
            by_cases hjk : j = k
            · subst hjk; simp
            · have : j / 2 ≠ k / 2 := by omega
              simp [hjk, this]
          · have hb2 : Nat.beq (j % 2) 0 = false := by
              have : j % 2 = 1 := by omega
              rw [this]; rfl
            have : j ≠ k := by intro e; subst e; exact hj hm
            simp [hb2, this]
        | node x l r =>
          simp only [Tr.setF, hb, if_true, Tr.get]
          by_cases hj : j % 2 = 0
          · have hb2 : Nat.beq (j % 2) 0 = true := by rw [hj]; rfl
            simp only [hb2, if_true, ih _ _ _ _ hk]
            by_cases hjk : j = k
            · subst hjk; simp
            · have : j / 2 ≠ k / 2 := by omega
              simp [hjk, this]
          · have hb2 : Nat.beq (j % 2) 0 = false := by
              have : j % 2 = 1 := by omega
              rw [this]; rfl
            have : j ≠ k := by intro e; subst e; exact hj hm
            simp [hb2, this]
      · have hb : Nat.beq (k % 2) 0 = false := by
          have : k % 2 = 1 := by omega
          rw [this]; rfl
        cases t with
        | nil =>
          simp only [Tr.setF, hb, Tr.get]
          by_cases hj : j % 2 = 0
          · have hb2 : Nat.beq (j % 2) 0 = true := by rw [hj]; rfl
            have : j ≠ k := by intro e; subst e; exact hm hj
            simp [hb2, this, Tr.get]
          · have hb2 : Nat.beq (j % 2) 0 = false := by
              have : j % 2 = 1 := by omega
              rw [this]; rfl
            simp only [hb2, Bool.false_eq_true, if_false, ih _ _ _ _ hk, Tr.get]
            by_cases hjk : j = k
            · subst hjk; simp
            · have : j / 2 ≠ k / 2 := by omega
              simp [hjk, this]
        | node x l r =>
          simp only [Tr.setF, hb, Tr.get]
          by_cases hj : j % 2 = 0
          · have hb2 : Nat.beq (j % 2) 0 = true := by rw [hj]; rfl
            have : j ≠ k := by intro e; subst e; exact hm hj
            simp [hb2, this, Tr.get]
          · have hb2 : Nat.beq (j % 2) 0 = false := by
              have : j % 2 = 1 := by omega
              rw [this]; rfl
            simp only [hb2, Bool.false_eq_true, if_false, ih _ _ _ _ hk, Tr.get]
            by_cases hjk : j = k
            · subst hjk; simp
            · have : j / 2 ≠ k / 2 := by omega
              simp [hjk, this]

theorem Tr.get_set {α : Type} (t : Tr α) (k : Nat) (v : α) (j : Nat) : (t.set k v).get j = if j = k then some v else t.get j :=
  Tr.get_setF k t k v j (Nat.le_refl k)

theorem AH.get_set (H : AH) (X : Nat) (b : AB) (Y : Nat) : (H.set X b).get Y = if Y = X then some b else H.get Y := Tr.get_set _ _ _ _
theorem AH.get_push (H : AH) (b : AB) (Y : Nat) : (H.push b).get Y = if Y = H.next then some b else H.get Y := Tr.get_set _ _ _ _
theorem AH.next_set (H : AH) (X : Nat) (b : AB) : (H.set X b).next = H.next := rfl
theorem AH.next_push (H : AH) (b : AB) : (H.push b).next = H.next + 1 := rfl

/-! ### The relation -/

def AH.alive (H : AH) (X : Nat) : Prop :=
  match H.get X with
  | some .dead => False
  | some (.sy _) => False
  | none => False
  | _ => True

def CellsR (φ : Mp) (l : List AV) (c : Array Value) (base : Nat) : Prop :=
  ∀ (i : Nat) (a : AV), l[i]? = some a → ∃ v, c[base + i]? = some v ∧ VR φ a v

def EntR (φ : Mp) : List (AV × AV) → List MapEntry → Prop
  | [], es => es = []
  | (k, x) :: l, es => ∃ e fs, es = e :: fs ∧ VR φ k e.key ∧ VR φ x e.val ∧ EntR φ l fs

def BlkR (φ : Mp) (w : World) (p : Pl) : Option AB → Prop
  | some (.cells l e fl) => ∃ c lo hi, w.heap[p.b]? = some (.cells c e (lo, hi)) ∧ l.length ≤ p.room ∧ p.base + p.room ≤ c.size ∧
      (fl = 0 → (lo = 0 ∧ hi = 0) ∧ p.base = 0 ∧ c.size = l.length) ∧ (fl ≤ 1 → ∀ i, i < c.size → ¬ (lo ≤ i ∧ i < hi)) ∧ CellsR φ l c p.base
  | some (.mp es) => ∃ fs k, w.heap[p.b]? = some (.map ⟨fs⟩ k) ∧ EntR φ es fs
  | some (.it s pos) => p.base = 0 ∧ w.heap[p.b]? = some (.stringIter ⟨s.toArray⟩ pos)
  | some (.sy ne) => goodB (decS p.base) = true ∧ ∀ Y, Y ∈ ne → ∃ q, φ Y = some q ∧ decS q.base ≠ decS p.base
  | _ => True

structure R (n : Nat) (φ : Mp) (H : AH) (w : World) : Prop where
  lo : ∀ X p, φ X = some p → X < H.next ∧ p.b < w.heap.size
  inj : ∀ X Y p q, φ X = some p → φ Y = some q → H.alive X → H.alive Y → p.b = q.b → X = Y
  blk : ∀ X p, φ X = some p → BlkR φ w p (H.get X)
  gl : ∀ g, g < n → ∃ r, φ g = some ⟨g, 0, r⟩

/-- What has become of heap and world. -/
structure Nx (φ : Mp) (H : AH) (w : World) (ψ : Mp) (H' : AH) (w' : World) : Prop where
  le : Le φ ψ
  size : w.heap.size ≤ w'.heap.size
  frame : ∀ b, b < w.heap.size → (∀ X p, φ X = some p → p.b = b → ¬ H.alive X) → w'.heap[b]? = w.heap[b]?
  out : w'.os = w.os ∧ w'.output = w.output ∧ w'.tape = w.tape
  next : H.next ≤ H'.next
  same : ∀ X, X < H.next → φ X = none → H'.get X = H.get X
  stay : ∀ X p, φ X = some p → ¬ H.alive X → ¬ H'.alive X
  new : ∀ X p, ψ X = some p → φ X = none → H.next ≤ X ∧ (w.heap.size ≤ p.b ∨ ∃ Y q, φ Y = some q ∧ q.b = p.b ∧ H.alive Y)

theorem Nx.refl (φ : Mp) (H : AH) (w : World) : Nx φ H w φ H w :=
  ⟨Le.refl φ, Nat.le_refl _, fun _ _ _ => rfl, ⟨rfl, rfl, rfl⟩, Nat.le_refl _, fun _ _ _ => rfl, fun _ _ _ h => h, fun X p h g => by rw [h] at g; cases g⟩

theorem Nx.trans {φ ψ χ : Mp} {H H1 H2 : AH} {w w1 w2 : World} (h : Nx φ H w ψ H1 w1) (g : Nx ψ H1 w1 χ H2 w2) : Nx φ H w χ H2 w2 where
  le := h.le.trans g.le
  size := Nat.le_trans h.size g.size
  frame := fun b hb hno => by
    rw [g.frame b (Nat.lt_of_lt_of_le hb h.size) ?_, h.frame b hb hno]
    intro X p hp e
    cases hx : φ X with
    | some q =>
      have := h.le X q hx
      rw [hp] at this
      cases this
      exact h.stay X p hx (hno X p hx e)
    | none =>
      rcases (h.new X p hp hx).2 with hge | ⟨Y, q, hq, hqe, hal⟩
      · omega
      · exact absurd hal (hno Y q hq (hqe.trans e))
  out := ⟨g.out.1.trans h.out.1, g.out.2.1.trans h.out.2.1, g.out.2.2.trans h.out.2.2⟩
  next := Nat.le_trans h.next g.next
  same := fun X hX hn => by
    rw [g.same X (Nat.lt_of_lt_of_le hX h.next) ?_, h.same X hX hn]
    cases hx : ψ X with
    | none => rfl
    | some p => exact absurd (h.new X p hx hn).1 (by omega)
  stay := fun X p hp hd => g.stay X p (h.le X p hp) (h.stay X p hp hd)
  new := fun X p hp hn => by
    cases hx : ψ X with
    | some q =>
      have := g.le X q hx
      rw [hp] at this
      cases this
      exact h.new X p hx hn
    | none =>
      obtain ⟨h1, h2⟩ := g.new X p hp hx
      refine ⟨Nat.le_trans h.next h1, ?_⟩
      rcases h2 with h2 | ⟨Y, q, hq, he, hal⟩
      · exact .inl (Nat.le_trans h.size h2)
      · cases hy : φ Y with
        | some q' =>
          have := h.le Y q' hy
          rw [hq] at this
          cases this
          exact .inr ⟨Y, q, hy, he, Classical.byContradiction fun hd => h.stay Y q hy hd hal⟩
        | none =>
          rcases (h.new Y q hq hy).2 with h3 | ⟨Z, r, hr, hre, hz⟩
          · exact .inl (he ▸ h3)
          · exact .inr ⟨Z, r, hr, hre.trans he, hz⟩

/-- A draw changes nothing. -/
theorem Nx.drew (φ : Mp) (H : AH) (w : World) (n : Nat) : Nx φ H w φ H { w with drawn := n } :=
  ⟨Le.refl φ, Nat.le_refl _, fun _ _ _ => rfl, ⟨rfl, rfl, rfl⟩, Nat.le_refl _, fun _ _ _ => rfl, fun _ _ _ h => h, fun X p h g => by rw [h] at g; cases g⟩

theorem BlkR.of_heap {φ : Mp} {w w' : World} {p : Pl} {b : Option AB} (h : w'.heap[p.b]? = w.heap[p.b]?) (hb : BlkR φ w p b) : BlkR φ w' p b := by
  unfold BlkR at *
  split <;> first
    | (simp only [h]; exact hb)
    | trivial

theorem CellsR.mono {φ ψ : Mp} (h : Le φ ψ) {l : List AV} {c : Array Value} {base : Nat} (hc : CellsR φ l c base) : CellsR ψ l c base :=
  fun i a hi => let ⟨v, h1, h2⟩ := hc i a hi; ⟨v, h1, VR.mono h a v h2⟩

theorem EntR.mono {φ ψ : Mp} (h : Le φ ψ) : ∀ {l : List (AV × AV)} {es : List MapEntry}, EntR φ l es → EntR ψ l es
  | [], _, e => e
  | (k, x) :: l, _, e => by
    simp only [EntR] at e ⊢
    obtain ⟨a, fs, h1, h2, h3, h4⟩ := e
    exact ⟨a, fs, h1, VR.mono h k _ h2, VR.mono h x _ h3, EntR.mono h h4⟩

theorem BlkR.mono {φ ψ : Mp} (h : Le φ ψ) {w : World} {p : Pl} {b : Option AB} (hb : BlkR φ w p b) : BlkR ψ w p b := by
  unfold BlkR at *
  split
  · obtain ⟨c, lo, hi, h1, h2, h3, h4, h5, h6⟩ := hb
    exact ⟨c, lo, hi, h1, h2, h3, h4, h5, h6.mono h⟩
  · obtain ⟨fs, k, h1, h2⟩ := hb
    exact ⟨fs, k, h1, h2.mono h⟩
  · exact hb
  · refine ⟨hb.1, fun Y hY => ?_⟩
    obtain ⟨q, h1, h2⟩ := hb.2 Y hY
    exact ⟨q, h _ _ h1, h2⟩
  · trivial

/-- Of a block that is not alive the world says nothing. -/
theorem BlkR.not_alive {φ : Mp} {H : AH} {X : Nat} (hd : ¬ H.alive X) {w w' : World} {p : Pl} (hb : BlkR φ w p (H.get X)) : BlkR φ w' p (H.get X) := by
  unfold AH.alive at hd
  unfold BlkR at *
  split <;> simp_all

theorem R.drew {n : Nat} {φ : Mp} {H : AH} {w : World} (h : R n φ H w) (k : Nat) : R n φ H { w with drawn := k } :=
  ⟨h.lo, h.inj, fun X p e => (h.blk X p e).of_heap rfl, h.gl⟩

/-- The map with one block more. -/
def Mp.add (φ : Mp) (X : Nat) (p : Pl) : Mp := fun Y => if Y = X then some p else φ Y

theorem Mp.add_le {φ : Mp} {X : Nat} {p : Pl} (h : φ X = none) : Le φ (φ.add X p) := fun Y q e => by
  unfold Mp.add
  split
  · rename_i hy; subst hy; rw [h] at e; cases e
  · exact e
theorem Mp.add_self (φ : Mp) (X : Nat) (p : Pl) : (φ.add X p) X = some p := by simp [Mp.add]

theorem R.none_of_ge {n : Nat} {φ : Mp} {H : AH} {w : World} (h : R n φ H w) {X : Nat} (hx : H.next ≤ X) : φ X = none := by
  cases e : φ X with
  | none => rfl
  | some p => exact absurd (h.lo X p e).1 (by omega)

/-- A block of the evaluator's that lies in the heap already comes to be in the world, at its end. -/
theorem R.lay {n : Nat} {φ : Mp} {H : AH} {w : World} (h : R n φ H w) {X : Nat} (hX : X < H.next) (hn : φ X = none) (o : Obj) {p : Pl} (hpb : p.b = w.heap.size)
    (hb : BlkR (φ.add X p) { w with heap := w.heap.push o } p (H.get X)) (hng : n ≤ X) :
    R n (φ.add X p) H { w with heap := w.heap.push o } where
  lo := fun Y q e => by
    unfold Mp.add at e
    split at e
    · rename_i hy
      cases e
      subst hy
      exact ⟨hX, by simp [hpb]⟩
    · obtain ⟨h1, h2⟩ := h.lo Y q e
      exact ⟨h1, by simp; omega⟩
  inj := fun Y Z q r hy hz aY aZ e => by
    unfold Mp.add at hy hz
    split at hy <;> split at hz
    · rename_i e1 e2; rw [e1, e2]
    · cases hy
      have := (h.lo Z r hz).2
      rw [← e, hpb] at this
      exact absurd this (Nat.lt_irrefl _)
    · cases hz
      have := (h.lo Y q hy).2
      rw [e, hpb] at this
      exact absurd this (Nat.lt_irrefl _)
    · exact h.inj Y Z q r hy hz aY aZ e
  blk := fun Y q e => by
    by_cases hy : Y = X
    · subst hy
      rw [Mp.add_self] at e
      cases e
      exact hb
    · have e' : φ Y = some q := by simpa [Mp.add, hy] using e
      have h1 := h.blk Y q e'
      refine BlkR.mono (Mp.add_le hn) (h1.of_heap ?_)
      have hlt := (h.lo Y q e').2
      rw [Array.getElem?_push]
      split
      · omega
      · rfl
  gl := fun g hg => by
    obtain ⟨r, hr⟩ := h.gl g hg
    exact ⟨r, by simp [Mp.add, show g ≠ X by omega, hr]⟩

/-- A heap that has grown by blocks that no one maps. -/
theorem R.grow {n : Nat} {φ : Mp} {H H' : AH} {w : World} (h : R n φ H w) (hn : H.next ≤ H'.next) (hs : ∀ X, X < H.next → H'.get X = H.get X) : R n φ H' w where
  lo := fun X p e => ⟨Nat.lt_of_lt_of_le (h.lo X p e).1 hn, (h.lo X p e).2⟩
  inj := fun X Y p q hx hy aX aY e => by
    refine h.inj X Y p q hx hy ?_ ?_ e
    · unfold AH.alive at *; rwa [hs X (h.lo X p hx).1] at aX
    · unfold AH.alive at *; rwa [hs Y (h.lo Y q hy).1] at aY
  blk := fun X p e => by rw [hs X (h.lo X p e).1]; exact h.blk X p e
  gl := h.gl

theorem R.push {n : Nat} {φ : Mp} {H : AH} {w : World} (h : R n φ H w) (hng : n ≤ H.next) (b : AB) (o : Obj) {p : Pl} (hpb : p.b = w.heap.size)
    (hb : BlkR (φ.add H.next p) { w with heap := w.heap.push o } p (some b)) :
    R n (φ.add H.next p) (H.push b) { w with heap := w.heap.push o } ∧ Nx φ H w (φ.add H.next p) (H.push b) { w with heap := w.heap.push o } := by
  have hnone := h.none_of_ge (Nat.le_refl H.next)
  have g : R n φ (H.push b) w := h.grow (by simp [AH.next_push]) fun X hX => by rw [AH.get_push, if_neg (by omega)]
  refine ⟨g.lay (by simp [AH.next_push]) hnone o hpb (by rw [AH.get_push, if_pos rfl]; exact hb) hng, ?_⟩
  exact {
    le := Mp.add_le hnone
    size := by simp
    frame := fun b' hb' _ => by
      show (w.heap.push o)[b']? = _
      rw [Array.getElem?_push, if_neg (by omega)]
    out := ⟨rfl, rfl, rfl⟩
    next := by simp [AH.next_push]
    same := fun X hX _ => by rw [AH.get_push, if_neg (by omega)]
    stay := fun X q hq hd => by
      have hlt := (h.lo X q hq).1
      unfold AH.alive at *
      rwa [AH.get_push, if_neg (by omega)]
    new := fun X q hq hx => by
      unfold Mp.add at hq
      split at hq
      · rename_i e
        cases hq
        exact ⟨by omega, .inl (by omega)⟩
      · rw [hx] at hq; cases hq }

/-- One block is as it has become: in the heap and in the world. -/
theorem R.upd {n : Nat} {φ : Mp} {H : AH} {w w' : World} (h : R n φ H w) {X : Nat} {p : Pl} (hX : φ X = some p) (hal : H.alive X) (b : AB)
    (hsize : w'.heap.size = w.heap.size) (hother : ∀ c, c ≠ p.b → w'.heap[c]? = w.heap[c]?) (hout : w'.os = w.os ∧ w'.output = w.output ∧ w'.tape = w.tape)
    (hb : BlkR φ w' p (some b)) : R n φ (H.set X b) w' ∧ Nx φ H w φ (H.set X b) w' := by
  refine ⟨{
    lo := fun Y q e => ⟨(h.lo Y q e).1, hsize ▸ (h.lo Y q e).2⟩
    inj := fun Y Z q r hy hz aY aZ e => ?_
    blk := fun Y q e => ?_
    gl := h.gl }, ?_⟩
  · have al : ∀ Y, (H.set X b).alive Y → H.alive Y := fun Y hY => by
      by_cases e : Y = X
      · subst e; exact hal
      · unfold AH.alive at *; rwa [AH.get_set, if_neg e] at hY
    exact h.inj Y Z q r hy hz (al Y aY) (al Z aZ) e
  · rw [AH.get_set]
    split
    · rename_i hy
      subst hy
      rw [hX] at e
      cases e
      exact hb
    · rename_i hy
      by_cases hd : H.alive Y
      · refine (h.blk Y q e).of_heap (hother _ fun hq => hy ?_)
        exact h.inj Y X q p e hX hd hal hq
      · exact BlkR.not_alive hd (h.blk Y q e)
  · exact {
      le := Le.refl φ
      size := by omega
      frame := fun c hc hno => hother c (fun e => hno X p hX e.symm hal)
      out := hout
      next := Nat.le_refl _
      same := fun Y hY hn => by
        rw [AH.get_set, if_neg]
        intro e
        subst e
        rw [hX] at hn
        cases hn
      stay := fun Y q hq hd => by
        have hne : Y ≠ X := fun e => hd (e ▸ hal)
        unfold AH.alive at *
        rwa [AH.get_set, if_neg hne]
      new := fun Y q hq hn => by rw [hn] at hq; cases hq }
end Go.Vd
namespace Go.Vd

section runs
variable {P : Program} {w : World}

theorem run_typeInfo' {t : TypeId} {i : TypeInfo} (h : P.info? t = some i) : (typeInfo t).run P w = .ok i w := by simp [typeInfo, h]
theorem run_underlying' {t : TypeId} {d : TypeDesc} (h : P.underlying t = some d) : (underlying t).run P w = .ok d w := by simp [underlying, h]
theorem run_sizeOf' {t : TypeId} {i : TypeInfo} (h : P.info? t = some i) : (sizeOf t).run P w = .ok i.size w := by simp [sizeOf, run_typeInfo' h]
theorem run_zeroValue' {t : TypeId} {i : TypeInfo} {z : Value} (h : P.info? t = some i) (hz : i.zero = some z) : (zeroValue t).run P w = .ok z w := by
  simp [zeroValue, run_typeInfo' h, hz]
theorem run_isAgg' {t : TypeId} {d : TypeDesc} (h : P.underlying t = some d) : (isAgg t).run P w = .ok (isAggD d) w := by
  simp only [isAgg, Sem.run_bind, run_underlying' h, Result.andThen_ok]
  cases d <;> rfl
theorem run_newVar' {t : TypeId} {v : Value} : (newVar t v).run P w = .ok ⟨w.heap.size, 0, none⟩ { w with heap := w.heap.push (.cells v.cells t) } := by
  simp [newVar, newRow]

theorem add_eq (b o n : Nat) : (Addr.mk b o none).add n = ⟨b, o + n, none⟩ := by
  unfold Addr.add
  split
  · rename_i h; subst h; rfl
  · rfl

theorem szOf_some {t n : Nat} (h : szOf P t = some n) : ∃ i, P.info? t = some i ∧ i.size = n := by
  simp only [szOf, Option.map_eq_some_iff] at h
  exact h
theorem btOf_some {t n : Nat} (h : btOf P t = some n) : ∃ i, P.info? t = some i ∧ i.bytes = n := by
  simp only [btOf, Option.map_eq_some_iff] at h
  exact h
theorem zvOf_some {t : Nat} {a : AV} (h : zvOf P t = some a) : ∃ i z, P.info? t = some i ∧ i.zero = some z ∧ cvV z = some a := by
  unfold zvOf at h
  cases hi : P.info? t with
  | none => simp [hi] at h
  | some i =>
    cases hz : i.zero with
    | none => simp [hi, hz] at h
    | some z => exact ⟨i, z, rfl, hz, by simpa [hi, hz] using h⟩
theorem zrOf_some {t : Nat} {zs : List AV} (h : zrOf P t = some zs) : ∃ i z a, P.info? t = some i ∧ i.zero = some z ∧ cvV z = some a ∧ a.cells = zs := by
  unfold zrOf at h
  cases hi : P.info? t with
  | none => simp [hi] at h
  | some i =>
    cases hz : i.zero with
    | none => simp [hi, hz] at h
    | some z =>
      simp [hi, hz] at h
      obtain ⟨a, h1, h2⟩ := h
      exact ⟨i, z, a, rfl, hz, h1, h2⟩

end runs

mutual
theorem cvV_rel {φ : Mp} : ∀ (v : Value) (a : AV), cvV v = some a → VR φ a v
  | .bool b, a, h => by simp only [cvV, Option.some.injEq] at h; subst h; simp [VR]
  | .int k n, a, h => by simp only [cvV, Option.some.injEq] at h; subst h; simp [VR]
  | .string s, a, h => by simp only [cvV, Option.some.injEq] at h; subst h; simp [VR]
  | .pointer none, a, h => by simp only [cvV, Option.some.injEq] at h; subst h; simp [VR]
  | .pointer (some _), a, h => by simp [cvV] at h
  | .slice none 0 0, a, h => by simp only [cvV, Option.some.injEq] at h; subst h; simp [VR]
  | .slice none 0 (_ + 1), a, h => by simp [cvV] at h
  | .slice none (_ + 1) _, a, h => by simp [cvV] at h
  | .slice (some _) _ _, a, h => by simp [cvV] at h
  | .map none, a, h => by simp only [cvV, Option.some.injEq] at h; subst h; simp [VR]
  | .map (some _), a, h => by simp [cvV] at h
  | .nilFunc, a, h => by simp only [cvV, Option.some.injEq] at h; subst h; simp [VR]
  | .nilIface, a, h => by simp only [cvV, Option.some.injEq] at h; subst h; simp [VR]
  | .iface t v, a, h => by
    simp only [cvV] at h
    cases hv : cvV v with
    | none => rw [hv] at h; cases h
    | some x =>
      rw [hv] at h
      cases h
      simp only [VR]
      exact ⟨v, rfl, cvV_rel v x hv⟩
  | .agg ⟨l⟩, a, h => by
    simp only [cvV] at h
    cases hv : cvL l with
    | none => rw [hv] at h; cases h
    | some x =>
      rw [hv] at h
      cases h
      simp only [VR]
      exact ⟨l, rfl, cvL_rel l x hv⟩
  | .tuple ⟨l⟩, a, h => by
    simp only [cvV] at h
    cases hv : cvL l with
    | none => rw [hv] at h; cases h
    | some x =>
      rw [hv] at h
      cases h
      simp only [VR]
      exact ⟨l, rfl, cvL_rel l x hv⟩
  | .float _ _, a, h => by simp [cvV] at h
  | .complex _ _ _, a, h => by simp [cvV] at h
  | .chan _, a, h => by simp [cvV] at h
  | .func _ _ _, a, h => by simp [cvV] at h
theorem cvL_rel {φ : Mp} : ∀ (l : List Value) (m : List AV), cvL l = some m → VRs φ m l
  | [], m, h => by simp only [cvL, Option.some.injEq] at h; subst h; simp [VRs]
  | v :: l, m, h => by
    simp only [cvL] at h
    cases hv : cvV v with
    | none => rw [hv] at h; cases h
    | some x =>
      rw [hv] at h
      cases hl : cvL l with
      | none => rw [hl] at h; cases h
      | some y =>
        rw [hl] at h
        cases h
        simp only [VRs]
        exact ⟨v, l, rfl, cvV_rel v x hv, cvL_rel l y hl⟩
end

theorem VR.cells {φ : Mp} {a : AV} {v : Value} (h : VR φ a v) : VRs φ a.cells v.cells.toList := by
  cases a <;> simp only [VR] at h
  case agg l =>
    obtain ⟨vs, rfl, h⟩ := h
    exact h
  all_goals
    simp only [AV.cells]
    first
      | (subst h; simp [VRs, VR, Value.cells]; done)
      | (obtain ⟨p, a, c, h1, rfl, h3, h4, h5⟩ := h
         simp only [VRs, VR, Value.cells]
         exact ⟨_, _, rfl, ⟨p, a, c, h1, rfl, h3, h4, h5⟩, rfl⟩)
      | (obtain ⟨p, h1, rfl⟩ := h
         simp only [VRs, VR, Value.cells]
         exact ⟨_, _, rfl, ⟨p, h1, rfl⟩, rfl⟩)
      | (obtain ⟨as, bs, rfl, h1, h2⟩ := h
         simp only [VRs, VR, Value.cells]
         exact ⟨_, _, rfl, ⟨as, bs, rfl, h1, h2⟩, rfl⟩)
      | (obtain ⟨y, rfl, h1⟩ := h
         simp only [VRs, VR, Value.cells]
         exact ⟨_, _, rfl, ⟨y, rfl, h1⟩, rfl⟩)

theorem VR.one {φ : Mp} {a : AV} {v : Value} (h : VR φ a v) (ho : a.one = true) : v.oneCell' = true := by
  cases a <;> simp only [VR] at h <;> first
    | (simp [AV.one] at ho; done)
    | (subst h; rfl)
    | (obtain ⟨p, a, c, h1, rfl, h3, h4, h5⟩ := h; rfl)
    | (obtain ⟨p, h1, rfl⟩ := h; rfl)
    | (obtain ⟨as, bs, rfl, h1, h2⟩ := h; rfl)
    | (obtain ⟨y, rfl, h1⟩ := h; rfl)

/-! ### Reading and writing cells -/

section cells
variable {P : Program} {n : Nat} {φ : Mp} {H : AH} {w : World}

theorem R.rd (h : R n φ H w) {X o : Nat} {p : Pl} {a : AV} (hX : φ X = some p) (hr : H.rd X o = some a) : ∃ v, w.cell? ⟨p.b, p.base + o, none⟩ = some v ∧ VR φ a v := by
  have hb := h.blk X p hX
  unfold AH.rd at hr
  split at hr
  · rename_i l e fl hg
    rw [hg] at hb
    obtain ⟨c, lo, hi, h1, h2, h3, h4, h5, h6⟩ := hb
    obtain ⟨v, h7, h8⟩ := h6 o a hr
    exact ⟨v, by simp [World.cell?, h1, h7], h8⟩
  · cases hr

theorem run_load' {a : Addr} {v : Value} (h : w.cell? a = some v) (m : Mode) : (load a m).run P w = .ok v w := by simp [h]

theorem run_loadCellsFrom {b o : Nat} : ∀ (k i : Nat) (acc : Array Value) (vs : List Value), vs.length = k → (∀ j v, vs[j]? = some v → w.cell? ⟨b, o + (i + j), none⟩ = some v) →
    (loadCellsFrom ⟨b, o, none⟩ i k acc).run P w = .ok (acc ++ vs.toArray) w
  | 0, i, acc, vs, hl, _ => by
    obtain rfl := List.length_eq_zero_iff.1 hl
    simp [loadCellsFrom]
  | k + 1, i, acc, [], hl, _ => by simp at hl
  | k + 1, i, acc, v :: vs, hl, h => by
    have h0 := h 0 v (by simp)
    simp only [Nat.add_zero] at h0
    simp only [loadCellsFrom, Sem.run_bind, add_eq, run_load' h0, Result.andThen_ok]
    rw [run_loadCellsFrom k (i + 1) (acc.push v) vs (by simpa using hl) fun j u hu => by
      have := h (j + 1) u (by simpa using hu)
      rw [show i + 1 + j = i + (j + 1) by omega]
      exact this]
    simp

theorem R.rdn (h : R n φ H w) {X o k : Nat} {p : Pl} {l : List AV} (hX : φ X = some p) (hr : H.rdn X o k = some l) :
    ∃ vs : List Value, VRs φ l vs ∧ vs.length = k ∧ ∀ j v, vs[j]? = some v → w.cell? ⟨p.b, p.base + o + j, none⟩ = some v := by
  have hb := h.blk X p hX
  unfold AH.rdn at hr
  split at hr
  · rename_i l0 e fl hg
    rw [hg] at hb
    obtain ⟨c, lo, hi, h1, h2, h3, h4, h5, h6⟩ := hb
    split at hr
    · rename_i hle
      have hle := Nat.le_of_ble_eq_true hle
      cases hr
      refine ⟨(c.toList.drop (p.base + o)).take k, ?_, ?_, ?_⟩
      · refine VRs.of_get _ _ ?_ ?_
        · simp; omega
        · intro i a v ha hv
          rw [List.getElem?_take] at ha hv
          split at ha
          · rename_i hik
            rw [if_pos hik] at hv
            rw [List.getElem?_drop] at ha hv
            obtain ⟨u, hu, hr⟩ := h6 (o + i) a ha
            have : c.toList[p.base + o + i]? = some u := by rw [← hu, Array.getElem?_toList, Nat.add_assoc]
            rw [this] at hv
            cases hv
            exact hr
          · cases ha
      · simp; omega
      · intro j v hv
        rw [List.getElem?_take] at hv
        split at hv
        · rw [List.getElem?_drop] at hv
          simp only [World.cell?, h1, Option.isSome_none, Bool.false_eq_true, if_false]
          rw [← hv, Array.getElem?_toList]
        · cases hv
    · cases hr
  · cases hr

theorem R.run_loadCells (h : R n φ H w) {X o k : Nat} {p : Pl} {l : List AV} (hX : φ X = some p) (hr : H.rdn X o k = some l) :
    ∃ vs : List Value, VRs φ l vs ∧ vs.length = k ∧ (loadCells ⟨p.b, p.base + o, none⟩ k).run P w = .ok ⟨vs⟩ w := by
  obtain ⟨vs, h1, h2, h3⟩ := h.rdn hX hr
  refine ⟨vs, h1, h2, ?_⟩
  rw [loadCells, run_loadCellsFrom k 0 #[] vs h2 fun j v hv => by simpa using h3 j v hv]
  simp

theorem World.heap_setCell (w : World) (b o : Nat) (v : Value) {c : Array Value} {e : TypeId} {f : Nat × Nat} (h : w.heap[b]? = some (.cells c e f)) :
    (w.setCell ⟨b, o, none⟩ v).heap = w.heap.setIfInBounds b (.cells (c.setIfInBounds o v) e f) := by
  simp only [World.setCell]
  apply Array.ext
  · simp
  · intro i h1 h2
    simp only [Array.size_modify] at h1
    rw [Array.getElem_modify]
    simp only [Array.size_setIfInBounds] at h2
    rw [Array.getElem_setIfInBounds h2]
    by_cases e1 : b = i
    · subst e1
      have : w.heap[b] = .cells c e f := by
        rw [Array.getElem?_eq_getElem h2] at h
        exact Option.some.inj h
      simp [this]
    · simp [e1]

/-- The world in which a row of cells is written. -/
def wrW (w : World) (b o : Nat) (vs : List Value) : World :=
  { w with heap := w.heap.modify b fun
      | .cells c e f => .cells (Array.mk (c.toList.take o ++ vs ++ c.toList.drop (o + vs.length))) e f
      | x => x }

theorem wrW_nil (w : World) (b o : Nat) : wrW w b o [] = w := by
  unfold wrW
  congr
  apply Array.ext
  · simp
  · intro i h1 h2
    rw [Array.getElem_modify]
    split
    · split
      · rename_i he
        rw [he]
        simp
      · rfl
    · rfl

theorem wrW_cons (w : World) (b o : Nat) (v : Value) (vs : List Value) {c : Array Value} {e : TypeId} {f : Nat × Nat} (h : w.heap[b]? = some (.cells c e f))
    (hl : o + (vs.length + 1) ≤ c.size) : wrW (w.setCell ⟨b, o, none⟩ v) b (o + 1) vs = wrW w b o (v :: vs) := by
  unfold wrW
  rw [World.heap_setCell w b o v h]
  simp only [World.setCell]
  congr 1
  apply Array.ext
  · simp
  · intro i h1 h2
    rw [Array.getElem_modify, Array.getElem_modify]
    simp only [Array.size_modify, Array.size_setIfInBounds] at h1 h2
    rw [Array.getElem_setIfInBounds (by simpa using h1)]
    by_cases e1 : b = i
    · subst e1
      have : w.heap[b] = .cells c e f := by
        rw [Array.getElem?_eq_getElem h2] at h
        exact Option.some.inj h
      simp only [if_true, this]
      congr 2
      rw [Array.toList_setIfInBounds]
      have hlt : o < c.toList.length := by simp; omega
      apply List.ext_getElem?
      intro j
      simp only [List.getElem?_append, List.length_append, List.length_take, List.length_set, List.length_cons, Array.length_toList, List.getElem?_take, List.getElem?_drop, List.getElem?_set, List.getElem?_cons]
      by_cases j1 : j < o
      · simp [show j < min (o + 1) c.size by omega, show j < min (o + 1) c.size + vs.length by omega, show j < min o c.size by omega, show j < min o c.size + (vs.length + 1) by omega, show ¬ (o = j) by omega, show j < o + 1 by omega, j1]
      · by_cases j2 : j = o
        · subst j2
          simp [show j < min (j + 1) c.size by omega, show j < min (j + 1) c.size + vs.length by omega, show ¬ (j < min j c.size) by omega, show j < min j c.size + (vs.length + 1) by omega, show min j c.size = j by omega, show j < c.size by omega]
        · have m1 : min (o + 1) c.size = o + 1 := by omega
          have m2 : min o c.size = o := by omega
          simp only [m1, m2, show ¬ (j < o + 1) by omega, j1, if_false, show ¬ (o = o + 1 + vs.length + (j - (o + 1 + vs.length))) by omega]
          by_cases j3 : j < o + 1 + vs.length
          · simp only [j3, if_true, show j < o + (vs.length + 1) by omega, show ¬ (j - o = 0) by omega, if_false]
            congr 1 <;> omega
          · simp only [j3, if_false, show ¬ (j < o + (vs.length + 1)) by omega, show ¬ (o = o + 1 + vs.length + (j - (o + 1 + vs.length))) by omega]
            congr 1 <;> omega
    · simp [e1]

theorem run_storeCells {b o : Nat} : ∀ (vs : List Value) (i : Nat) (w : World) (c : Array Value) (e : TypeId) (f : Nat × Nat), w.heap[b]? = some (.cells c e f) →
    (∀ j, j < c.size → ¬ (f.1 ≤ j ∧ j < f.2)) → (∀ v, v ∈ vs → v.oneCell' = true) → o + i + vs.length ≤ c.size →
    (storeCells ⟨b, o, none⟩ vs i).run P w = .ok () (wrW w b (o + i) vs)
  | [], i, w, c, e, f, _, _, _, _ => by simp [storeCells, wrW_nil]
  | v :: vs, i, w, c, e, f, h, hf, ho, hl => by
    simp only [List.length_cons] at hl
    have hc : w.cell? ⟨b, o + i, none⟩ = some c[o + i] := by
      simp only [World.cell?, h, Option.isSome_none, Bool.false_eq_true, if_false]
      exact Array.getElem?_eq_getElem _
    have hfz : w.frozen? ⟨b, o + i, none⟩ = false := by
      obtain ⟨lo, hi⟩ := f
      simp only [World.frozen?, h]
      have := hf (o + i) (by omega)
      simp only at this
      by_cases e1 : lo ≤ o + i
      · have : ¬ (o + i < hi) := fun g => this ⟨e1, g⟩
        simp [this]
      · simp [e1]
    simp only [storeCells, Sem.run_bind, add_eq]
    rw [run_store P w _ v .plain (ho v (by simp))]
    simp only [hc, hfz, Bool.false_eq_true, if_false, Result.andThen_ok]
    have hb : b < w.heap.size := by
      rcases Nat.lt_or_ge b w.heap.size with g | g
      · exact g
      · rw [Array.getElem?_eq_none g] at h; cases h
    rw [run_storeCells vs (i + 1) (w.setCell ⟨b, o + i, none⟩ v) (c.setIfInBounds (o + i) v) e f ?_ ?_ (fun u hu => ho u (by simp [hu])) (by simp; omega)]
    · congr 1
      rw [show o + (i + 1) = o + i + 1 by omega]
      exact wrW_cons w b (o + i) v vs h (by omega)
    · rw [World.heap_setCell w b (o + i) v h]
      simp [hb]
    · intro j hj
      exact hf j (by simpa using hj)

theorem R.wr (h : R n φ H w) {X o : Nat} {p : Pl} {l : List AV} {H' : AH} {vs : List Value} (hX : φ X = some p) (hr : H.wr X o l = some H') (hv : VRs φ l vs) (i : Nat) (base : Nat) (hbase : base + i = p.base + o) :
    ∃ w', (storeCells ⟨p.b, base, none⟩ vs i).run P w = .ok () w' ∧ R n φ H' w' ∧ Nx φ H w φ H' w' := by
  have hb := h.blk X p hX
  unfold AH.wr at hr
  split at hr
  · rename_i l0 e fl hg
    rw [hg] at hb
    obtain ⟨c, lo, hi, h1, h2, h3, h4, h5, h6⟩ := hb
    split at hr
    · rename_i hle
      simp only [Bool.and_eq_true] at hle
      obtain ⟨⟨k1, k2⟩, k3⟩ := hle
      have k1 := Nat.le_of_ble_eq_true k1
      have k2 := Nat.le_of_ble_eq_true k2
      cases hr
      have hlen := hv.length
      have hone : ∀ v, v ∈ vs → v.oneCell' = true := by
        intro v hm
        obtain ⟨j, hj⟩ := List.mem_iff_getElem?.1 hm
        have hlt : j < l.length := by
          rw [← hlen]
          rcases Nat.lt_or_ge j vs.length with g | g
          · exact g
          · rw [List.getElem?_eq_none g] at hj; cases hj
        obtain ⟨u, hu, hr⟩ := hv.get j l[j] (List.getElem?_eq_getElem hlt)
        rw [hj] at hu
        cases hu
        exact hr.one (List.all_eq_true.1 k3 _ (List.getElem_mem hlt))
      refine ⟨wrW w p.b (p.base + o) vs, ?_, ?_⟩
      · rw [run_storeCells vs i w c e (lo, hi) h1 (h5 k1) hone (by omega), hbase]
      · refine h.upd hX (by simp [AH.alive, hg]) _ (by simp [wrW]) (fun b hb => ?_) ⟨rfl, rfl, rfl⟩ ?_
        · simp only [wrW]
          rw [Array.getElem?_modify, if_neg (fun e => hb e.symm)]
        · refine ⟨Array.mk (c.toList.take (p.base + o) ++ vs ++ c.toList.drop (p.base + o + vs.length)), lo, hi, ?_, ?_, ?_, ?_, ?_, ?_⟩
          · simp only [wrW]
            rw [Array.getElem?_modify, if_pos rfl, h1]
            rfl
          · simp; omega
          · simp only [List.size_toArray, List.length_append, List.length_take, List.length_drop, Array.length_toList]; omega
          · intro g
            obtain ⟨q1, q2, q3⟩ := h4 g
            refine ⟨q1, q2, ?_⟩
            simp only [List.size_toArray, List.length_append, List.length_take, List.length_drop, Array.length_toList]
            omega
          · intro g j hj
            refine h5 g j ?_
            simp only [List.size_toArray, List.length_append, List.length_take, List.length_drop, Array.length_toList] at hj
            omega
          · intro j a ha
            simp only [List.getElem?_toArray]
            have m1 : min (p.base + o) c.size = p.base + o := by omega
            have m2 : min o l0.length = o := by omega
            rw [List.getElem?_append, List.getElem?_append] at ha ⊢
            simp only [List.length_append, List.length_take, Array.length_toList, m1, m2, List.getElem?_take, List.getElem?_drop] at ha ⊢
            by_cases j1 : j < o
            · simp only [show j < o + l.length by omega, j1, if_true] at ha
              simp only [show p.base + j < p.base + o + vs.length by omega, show p.base + j < p.base + o by omega, if_true, Array.getElem?_toList]
              exact h6 j a ha
            · by_cases j2 : j < o + l.length
              · simp only [j1, j2, if_true, if_false] at ha
                simp only [show p.base + j < p.base + o + vs.length by omega, show ¬ (p.base + j < p.base + o) by omega, if_true, if_false]
                obtain ⟨u, hu, hr⟩ := hv.get _ a ha
                exact ⟨u, by rw [← hu]; congr 1; omega, hr⟩
              · simp only [j2, if_false] at ha
                simp only [show ¬ (p.base + j < p.base + o + vs.length) by omega, if_false, Array.getElem?_toList]
                obtain ⟨u, hu, hr⟩ := h6 _ a ha
                exact ⟨u, by rw [← hu]; congr 1; omega, hr⟩
    · cases hr
  · cases hr
end cells
end Go.Vd
namespace Go.Vd

/-- Temporaries are as the evaluator's. -/
def FR (φ : Mp) (tm : Tr AV) (a : Act) : Prop := ∀ t, VR φ (ev tm (.t t)) (a.tmps.getD t undef)

theorem FR.mono {φ ψ : Mp} (h : Le φ ψ) {tm : Tr AV} {a : Act} (hf : FR φ tm a) : FR ψ tm a := fun t => VR.mono h _ _ (hf t)

/-- What an operation comes to in the model: a value, or nothing (then 'undef'). -/
def Yi (P : Program) (o : Oper) (a : Act) (w : World) (v : Value) (w' : World) : Prop :=
  (execOp a.eval o).run P w = .ok (.value v) w' ∨ ((execOp a.eval o).run P w = .ok .skip w' ∧ v = undef)

def Snd (P : Program) (n : Nat) (φ : Mp) (H : AH) (w : World) (o : Oper) (a : Act) (v : AV) (H' : AH) : Prop :=
  ∃ ψ v' w', Yi P o a w v' w' ∧ R n ψ H' w' ∧ Nx φ H w ψ H' w' ∧ VR ψ v v'

section
variable {P : Program} {φ : Mp} {H : AH} {w : World} {tm : Tr AV} {a : Act} {o : Oper} {C : Ctx}

theorem opd_rel (hR : R P.globals.size φ H w) (hF : FR φ tm a) {x : Operand} {y : Opd} (hc : cOpd P x = some y) : VR φ (ev tm y) (a.eval x) := by
  cases x with
  | tmp t => simp only [cOpd, Option.some.injEq] at hc; subst hc; exact hF t
  | const v =>
    simp only [cOpd] at hc
    split at hc
    · rename_i u hu
      cases hc
      exact cvV_rel v u hu
    · cases hc
  | global g =>
    simp only [cOpd] at hc
    split at hc
    · rename_i hg
      cases hc
      have hg : g < P.globals.size := Nat.le_of_ble_eq_true hg
      obtain ⟨r, hr⟩ := hR.gl g hg
      simp only [ev, VR, Act.eval]
      exact ⟨_, hr, by simp⟩
    · cases hc
  | func f =>
    simp only [cOpd, Option.some.injEq] at hc
    subst hc
    simp only [ev, VR, VRs, Act.eval]
    exact ⟨[], [], rfl, rfl, rfl⟩

theorem opds_rel (hR : R P.globals.size φ H w) (hF : FR φ tm a) : ∀ {l : List Operand} {m : List Opd}, cOpds P l = some m → VRs φ (evs tm m) (l.map a.eval)
  | [], m, hc => by simp only [cOpds, Option.some.injEq] at hc; subst hc; simp [evs, VRs]
  | x :: l, m, hc => by
    simp only [cOpds] at hc
    split at hc
    · rename_i y m' h1 h2
      cases hc
      simp only [evs, VRs, List.map_cons]
      exact ⟨_, _, rfl, opd_rel hR hF h1, opds_rel hR hF h2⟩
    · cases hc

/-- An operation that leaves all as it is. -/
theorem Snd.still {n : Nat} (hR : R n φ H w) {v : AV} {v' : Value} (h : (execOp a.eval o).run P w = .ok (.value v') w) (hv : VR φ v v') : Snd P n φ H w o a v H :=
  ⟨φ, v', w, .inl h, hR, Nx.refl φ H w, hv⟩

theorem s_move {x : Operand} {y : Opd} (hR : R P.globals.size φ H w) (hF : FR φ tm a) (ho : o.op = .move x ∨ o.op = .assign x) (hc : cOpd P x = some y) : Snd P P.globals.size φ H w o a (ev tm y) H := by
  refine Snd.still hR (v' := a.eval x) ?_ (opd_rel hR hF hc)
  rcases ho with ho | ho <;> simp [execOp, ho]

theorem VR.bool_inv {b : Bool} {v : Value} (h : VR φ (.bool b) v) : v = .bool b := by simpa only [VR] using h
theorem VR.int_inv {k : IntKind} {n : Int} {v : Value} (h : VR φ (.int k n) v) : v = .int k n := by simpa only [VR] using h
theorem VR.str_inv {l : List UInt8} {v : Value} (h : VR φ (.str l) v) : v = .string ⟨l.toArray⟩ := by simpa only [VR] using h
theorem VR.nilp_inv {v : Value} (h : VR φ .nilp v) : v = .pointer none := by simpa only [VR] using h
theorem VR.nils_inv {v : Value} (h : VR φ .nils v) : v = .slice none 0 0 := by simpa only [VR] using h
theorem VR.nilm_inv {v : Value} (h : VR φ .nilm v) : v = .map none := by simpa only [VR] using h
theorem VR.nilf_inv {v : Value} (h : VR φ .nilf v) : v = .nilFunc := by simpa only [VR] using h
theorem VR.nili_inv {v : Value} (h : VR φ .nili v) : v = .nilIface := by simpa only [VR] using h
theorem VR.ptr_inv {X u : Nat} {v : Value} (h : VR φ (.ptr X u) v) : ∃ p, φ X = some p ∧ v = .pointer (some ⟨p.b, p.base + u, none⟩) := by simpa only [VR] using h
theorem VR.ifc_inv {t : Nat} {x : AV} {v : Value} (h : VR φ (.ifc t x) v) : ∃ y, v = .iface t y ∧ VR φ x y := by simpa only [VR] using h
theorem VR.agg_inv {l : List AV} {v : Value} (h : VR φ (.agg l) v) : ∃ vs, v = .agg ⟨vs⟩ ∧ VRs φ l vs := by simpa only [VR] using h
theorem VR.tup_inv {l : List AV} {v : Value} (h : VR φ (.tup l) v) : ∃ vs, v = .tuple ⟨vs⟩ ∧ VRs φ l vs := by simpa only [VR] using h
theorem VR.map_inv {X : Nat} {v : Value} (h : VR φ (.map X) v) : ∃ p, φ X = some p ∧ v = .map (some p.b) := by simpa only [VR] using h

theorem s_pick {c x y : Operand} {c' x' y' : Opd} (hR : R P.globals.size φ H w) (hF : FR φ tm a) (ho : o.op = .pick c x y) (hc : cOpd P c = some c') (hx : cOpd P x = some x') (hy : cOpd P y = some y')
    {v : AV} {H' : AH} (ha : aop C tm H (.pick c' x' y') = .val v H') : Snd P P.globals.size φ H w o a v H' := by
  have h1 := opd_rel hR hF hc
  simp only [aop] at ha
  split at ha
  · rename_i e
    cases ha
    rw [e] at h1
    refine Snd.still hR (v' := a.eval x) ?_ (opd_rel hR hF hx)
    simp [execOp, ho, h1.bool_inv, asBool]
  · rename_i e
    cases ha
    rw [e] at h1
    refine Snd.still hR (v' := a.eval y) ?_ (opd_rel hR hF hy)
    simp [execOp, ho, h1.bool_inv, asBool]
  · cases ha

/-! ### New blocks -/

theorem CellsR.of_VRs {ψ : Mp} {l : List AV} {vs : List Value} (h : VRs ψ l vs) : CellsR ψ l ⟨vs⟩ 0 := fun i b hb => by
  obtain ⟨v, h1, h2⟩ := h.get i b hb
  exact ⟨v, by simpa using h1, h2⟩

/-- A new row of cells. -/
theorem R.row {n : Nat} (hR : R n φ H w) (hng : n ≤ H.next) {l : List AV} {vs : List Value} (hv : VRs φ l vs) (extra : List Value) (e : TypeId) (fl : Nat) (hfl : fl = 0 → extra = []) :
    R n (φ.add H.next ⟨w.heap.size, 0, (vs ++ extra).length⟩) (H.push (.cells l e fl)) { w with heap := w.heap.push (.cells ⟨vs ++ extra⟩ e) } ∧
    Nx φ H w (φ.add H.next ⟨w.heap.size, 0, (vs ++ extra).length⟩) (H.push (.cells l e fl)) { w with heap := w.heap.push (.cells ⟨vs ++ extra⟩ e) } := by
  refine hR.push hng _ _ rfl ?_
  refine ⟨⟨vs ++ extra⟩, 0, 0, by simp, by simp [hv.length], by simp, fun e => ⟨⟨rfl, rfl⟩, rfl, by simp [hfl e, hv.length]⟩, fun _ i _ hh => by omega, ?_⟩
  intro i b hb
  obtain ⟨v, h1, h2⟩ := (VRs.mono (Mp.add_le (hR.none_of_ge (Nat.le_refl _))) l vs hv).get i b hb
  refine ⟨v, ?_, h2⟩
  have hlt : i < vs.length := by
    rcases Nat.lt_or_ge i vs.length with g | g
    · exact g
    · rw [List.getElem?_eq_none g] at h1; cases h1
  simp only [Nat.zero_add, List.getElem?_toArray]
  rw [List.getElem?_append_left hlt]
  exact h1

theorem R.ng {n : Nat} (h : R n φ H w) (hn : 0 < n) : n ≤ H.next := by
  obtain ⟨r, hr⟩ := h.gl (n - 1) (by omega)
  have := (h.lo _ _ hr).1
  omega

theorem s_alloc {e : TypeId} {zs : List AV} (hg : P.globals.size ≤ H.next) (hR : R P.globals.size φ H w) (ho : o.op = .alloc e) (hz : zrOf P e = some zs)
    {v : AV} {H' : AH} (ha : aop C tm H (.alloc e zs) = .val v H') : Snd P P.globals.size φ H w o a v H' := by
  obtain ⟨i, z, b, hi, hz1, hz2, rfl⟩ := zrOf_some hz
  simp only [aop] at ha
  split at ha
  · cases ha
    have hv : VRs φ b.cells z.cells.toList := (cvV_rel z b hz2).cells
    obtain ⟨h1, h2⟩ := hR.row hg hv [] e 0 (fun _ => rfl)
    refine ⟨_, .pointer (some ⟨w.heap.size, 0, none⟩), _, .inl ?_, h1, h2, ?_⟩
    · simp [execOp, ho, Instr.alloc, run_zeroValue' hi hz1, run_newVar']
    · simp only [VR]
      exact ⟨_, Mp.add_self _ _ _, by simp⟩
  · cases ha

theorem s_box {e : TypeId} {x : Operand} {y : Opd} (hg : P.globals.size ≤ H.next) (hR : R P.globals.size φ H w) (hF : FR φ tm a) (ho : o.op = .box e x) (hc : cOpd P x = some y)
    {v : AV} {H' : AH} (ha : aop C tm H (.box e y) = .val v H') : Snd P P.globals.size φ H w o a v H' := by
  simp only [aop] at ha
  split at ha
  · cases ha
    have hv := (opd_rel hR hF hc).cells
    obtain ⟨h1, h2⟩ := hR.row hg hv [] e 0 (fun _ => rfl)
    refine ⟨_, .pointer (some ⟨w.heap.size, 0, none⟩), _, .inl ?_, h1, h2, ?_⟩
    · simp [execOp, ho, Instr.box, run_newVar']
    · simp only [VR]
      exact ⟨_, Mp.add_self _ _ _, by simp⟩
  · cases ha

/-! ### Values that are built -/

theorem run_mapM_list {P : Program} {α β : Type} (f : α → Sem β) (g : α → β) : ∀ (l : List α) (w : World), (∀ x, x ∈ l → ∀ w, (f x).run P w = .ok (g x) w) → (l.mapM f).run P w = .ok (l.map g) w
  | [], w, _ => by simp
  | x :: l, w, h => by
    simp only [List.mapM_cons, Sem.run_bind, h x (by simp) w, Result.andThen_ok]
    rw [run_mapM_list f g l w fun y hy => h y (by simp [hy])]
    simp

theorem run_mapM {P : Program} {α β : Type} (f : α → Sem β) (g : α → β) (xs : Array α) (w : World) (h : ∀ x, x ∈ xs → ∀ w, (f x).run P w = .ok (g x) w) : (xs.mapM f).run P w = .ok (xs.map g) w := by
  rw [Array.mapM_eq_mapM_toList]
  simp only [Sem.run_map]
  rw [run_mapM_list f g xs.toList w fun x hx => h x (by simpa using hx)]
  simp [← Array.toList_map]

theorem foldl_set {α : Type} : ∀ (vs : List α) (k : Nat) (cs : Array α) (off : Nat), off + k + vs.length ≤ cs.size →
    (vs.zipIdx k).foldl (fun (cs : Array α) (p : α × Nat) => cs.setIfInBounds (off + p.2) p.1) cs = ⟨cs.toList.take (off + k) ++ vs ++ cs.toList.drop (off + k + vs.length)⟩
  | [], k, cs, off, _ => by simp
  | v :: vs, k, cs, off, h => by
    simp only [List.length_cons] at h
    simp only [List.zipIdx_cons, List.foldl_cons]
    rw [foldl_set vs (k + 1) (cs.setIfInBounds (off + k) v) off (by simp; omega)]
    congr 1
    simp only [Array.toList_setIfInBounds]
    apply List.ext_getElem?
    intro j
    have hcs : cs.toList.length = cs.size := by simp
    simp only [List.getElem?_append, List.length_append, List.length_take, List.length_set, List.length_cons, hcs, List.getElem?_take, List.getElem?_drop, List.getElem?_set, List.getElem?_cons]
    have m1 : min (off + (k + 1)) cs.size = off + k + 1 := by omega
    have m2 : min (off + k) cs.size = off + k := by omega
    simp only [m1, m2]
    by_cases j1 : j < off + k
    · simp [j1, show j < off + k + 1 by omega, show j < off + k + 1 + vs.length by omega, show j < off + k + (vs.length + 1) by omega, show j < off + (k + 1) by omega, show ¬ (off + k = j) by omega]
    · by_cases j2 : j = off + k
      · subst j2
        simp [show off + k < off + (k + 1) by omega, show off + k < cs.size by omega, show off + k < off + k + 1 + vs.length by omega]
      · by_cases j3 : j < off + k + 1 + vs.length
        · simp only [j1, show ¬ (j < off + k + 1) by omega, j3, show j < off + k + (vs.length + 1) by omega, show ¬ (j - (off + k) = 0) by omega, if_true, if_false]
          congr 1 <;> omega
        · simp only [j1, show ¬ (j < off + k + 1) by omega, j3, show ¬ (j < off + k + (vs.length + 1)) by omega, if_false, show ¬ (off + k = off + (k + 1) + vs.length + (j - (off + k + 1 + vs.length))) by omega]
          congr 1 <;> omega

/-- The parts of a literal. -/
def PartsR (φ : Mp) (place : Nat → Option (Nat × Nat)) : List (Nat × Nat × AV) → List (Nat × Value) → Prop
  | [], l => l = []
  | (off, sz, x) :: m, l => ∃ i v l', l = (i, v) :: l' ∧ place i = some (off, sz) ∧ VR φ x v ∧ PartsR φ place m l'

theorem fill_rel {place : Nat → Option (Nat × Nat)} : ∀ {m : List (Nat × Nat × AV)} {l : List (Nat × Value)} {zs out : List AV} {cs : List Value}, PartsR φ place m l → VRs φ zs cs → fillA zs m = some out →
    ∃ vs, Instr.fill place ⟨cs⟩ l = some ⟨vs⟩ ∧ VRs φ out vs
  | [], l, zs, out, cs, hp, hz, hf => by
    simp only [PartsR] at hp
    subst hp
    simp only [fillA, Option.some.injEq] at hf
    subst hf
    exact ⟨cs, by simp [Instr.fill], hz⟩
  | (off, sz, x) :: m, l, zs, out, cs, hp, hz, hf => by
    simp only [PartsR] at hp
    obtain ⟨i, v, l', rfl, hpl, hxv, hp⟩ := hp
    simp only [fillA] at hf
    split at hf
    · rename_i hc
      simp only [Bool.and_eq_true] at hc
      obtain ⟨⟨c1, c2⟩, c3⟩ := hc
      have c1 := Nat.eq_of_beq_eq_true c1
      have c2 := Nat.le_of_ble_eq_true c2
      have hcl := hxv.cells
      have hlen := hcl.length
      have hzl := hz.length
      have hsz : v.cells.size = sz := by rw [← Array.length_toList, hlen, c1]
      obtain ⟨vs, h1, h2⟩ := fill_rel (place := place) (m := m) (l := l') (cs := cs.take off ++ v.cells.toList ++ cs.drop (off + v.cells.toList.length)) hp ((hz.take off).append hcl |>.append (by
        have := hz.drop (off + sz)
        rwa [show off + sz = off + v.cells.toList.length by simp [hsz]] at this
        )) (by rw [show off + v.cells.toList.length = off + sz by simp [hsz]]; exact hf)
      refine ⟨vs, ?_, h2⟩
      rw [Instr.fill]
      simp only [hpl]
      have hno : ¬ ((v.cells.size ≠ sz || off + v.cells.size > (Array.mk cs).size) = true) := by
        simp [hsz, hzl]; omega
      rw [if_neg hno]
      have := foldl_set v.cells.toList 0 ⟨cs⟩ off (by simp [hsz, hzl]; omega)
      simp only [Nat.add_zero] at this
      rw [← Array.foldl_toList, Array.toList_zipIdx]
      rw [this]
      exact h1
    · cases hf

theorem parts_fields (hR : R P.globals.size φ H w) (hF : FR φ tm a) (fs : List Field) (places : Nat → Option (Nat × Nat)) (hpl : ∀ (i : Nat) (f : Field) (s : Nat), fs[i]? = some f → szOf P f.type = some s → places i = some (f.offset, s)) :
    ∀ {l : List (Nat × Operand)} {m : List (Nat × Nat × Opd)}, cParts P fs l = some m → PartsR φ places (evp tm m) (l.map fun p => (p.1, a.eval p.2))
  | [], m, h => by simp only [cParts, Option.some.injEq] at h; subst h; simp [evp, PartsR]
  | (i, x) :: l, m, h => by
    simp only [cParts] at h
    split at h
    · cases h
    · rename_i f hf
      split at h
      · rename_i s y m' h1 h2 h3
        cases h
        simp only [evp, PartsR, List.map_cons]
        exact ⟨i, _, _, rfl, hpl i f s hf h1, opd_rel hR hF h2, parts_fields hR hF fs places hpl h3⟩
      · cases h

theorem parts_array (hR : R P.globals.size φ H w) (hF : FR φ tm a) (sz : Nat) :
    ∀ {l : List (Nat × Operand)} {m : List (Nat × Nat × Opd)}, cPartsA P sz l = some m → PartsR φ (fun i => some (i * sz, sz)) (evp tm m) (l.map fun p => (p.1, a.eval p.2))
  | [], m, h => by simp only [cPartsA, Option.some.injEq] at h; subst h; simp [evp, PartsR]
  | (i, x) :: l, m, h => by
    simp only [cPartsA] at h
    split at h
    · rename_i y m' h2 h3
      cases h
      simp only [evp, PartsR, List.map_cons]
      exact ⟨i, _, _, rfl, rfl, opd_rel hR hF h2, parts_array hR hF sz h3⟩
    · cases h

theorem s_build {t : TypeId} {ps : Array (Nat × Operand)} {b : AOp} (hR : R P.globals.size φ H w) (hF : FR φ tm a) (ho : o.op = .build t ps) (hc : cop P o = some b)
    {v : AV} {H' : AH} (ha : aop C tm H b = .val v H') : Snd P P.globals.size φ H w o a v H' := by
  simp only [cop, ho] at hc
  split at hc
  · rename_i zs fs hz hu
    split at hc
    · rename_i hfs
      have hall : ∀ f, f ∈ fs → ∃ j, P.info? f.type = some j := fun f hf => by
        have := List.all_eq_true.1 hfs f (by simpa using hf)
        exact Option.isSome_iff_exists.1 this
      simp only [Option.map_eq_some_iff] at hc
      obtain ⟨m, hm, rfl⟩ := hc
      obtain ⟨i, z, b, hi, hz1, hz2, rfl⟩ := zrOf_some hz
      simp only [aop, ofV] at ha
      split at ha
      · rename_i u hu'
        cases ha
        simp only [Option.map_eq_some_iff] at hu'
        obtain ⟨out, hout, rfl⟩ := hu'
        have hrun : ∀ w, (fs.mapM (fun f : Field => (do pure (f.offset, ← sizeOf f.type) : Sem (Nat × Nat)))).run P w = .ok (fs.map fun f : Field => (f.offset, P.cellsOf f.type)) w := fun w =>
          run_mapM _ (fun f : Field => (f.offset, P.cellsOf f.type)) fs w fun f hf w => by
            obtain ⟨j, hj⟩ := hall f hf
            simp [run_sizeOf' hj, Program.cellsOf, hj]
        have hpl : ∀ (i : Nat) (f : Field) (s : Nat), fs.toList[i]? = some f → szOf P f.type = some s → (fs.map fun f : Field => (f.offset, P.cellsOf f.type))[i]? = some (f.offset, s) := by
          intro i f s h1 h2
          obtain ⟨j, hj, rfl⟩ := szOf_some h2
          simp only [Array.getElem?_toList] at h1
          simp [h1, Program.cellsOf, hj]
        obtain ⟨vs, h1, h2⟩ := fill_rel (parts_fields hR hF fs.toList _ hpl hm) (cvV_rel z b hz2).cells hout
        refine Snd.still hR (v' := .agg ⟨vs⟩) ?_ (by simp only [VR]; exact ⟨vs, rfl, h2⟩)
        simp only [execOp, ho, Instr.build, Sem.run_bind, run_zeroValue' hi hz1, run_underlying' hu, Result.andThen_ok, hrun]
        have e1 : (ps.map fun p => (p.1, a.eval p.2)).toList = ps.toList.map fun p => (p.1, a.eval p.2) := by simp
        rw [e1]
        have e2 : (Array.mk z.cells.toList) = z.cells := rfl
        rw [e2] at h1
        rw [h1]
        simp
      · cases ha
    · cases hc
  · rename_i zs len e hz hu
    split at hc
    · rename_i sz hsz
      simp only [Option.map_eq_some_iff] at hc
      obtain ⟨m, hm, rfl⟩ := hc
      obtain ⟨i, z, b, hi, hz1, hz2, rfl⟩ := zrOf_some hz
      obtain ⟨ie, hie, rfl⟩ := szOf_some hsz
      simp only [aop, ofV] at ha
      split at ha
      · rename_i u hu'
        cases ha
        simp only [Option.map_eq_some_iff] at hu'
        obtain ⟨out, hout, rfl⟩ := hu'
        obtain ⟨vs, h1, h2⟩ := fill_rel (parts_array hR hF ie.size hm) (cvV_rel z b hz2).cells hout
        refine Snd.still hR (v' := .agg ⟨vs⟩) ?_ (by simp only [VR]; exact ⟨vs, rfl, h2⟩)
        simp only [execOp, ho, Instr.build, Sem.run_bind, run_zeroValue' hi hz1, run_underlying' hu, Result.andThen_ok, run_sizeOf' hie]
        have e1 : (ps.map fun p => (p.1, a.eval p.2)).toList = ps.toList.map fun p => (p.1, a.eval p.2) := by simp
        rw [e1]
        have e2 : (Array.mk z.cells.toList) = z.cells := rfl
        rw [e2] at h1
        rw [h1]
        simp
      · cases ha
    · cases hc
  · cases hc
end
end Go.Vd
namespace Go.Vd

section
variable {P : Program} {φ : Mp} {H : AH} {w : World} {tm : Tr AV} {a : Act} {o : Oper} {C : Ctx}

theorem repl_length (zs : List AV) : ∀ n, (repl zs n).length = n * zs.length
  | 0 => by simp [repl]
  | n + 1 => by simp [repl, repl_length zs n, Nat.add_mul]; omega

def replV (zs : List Value) : Nat → List Value
  | 0 => []
  | n + 1 => zs ++ replV zs n

theorem replV_length (zs : List Value) : ∀ n, (replV zs n).length = n * zs.length
  | 0 => by simp [replV]
  | n + 1 => by simp [replV, replV_length zs n, Nat.add_mul]; omega

theorem repl_rel {zs : List AV} {vs : List Value} (h : VRs φ zs vs) : ∀ n, VRs φ (repl zs n) (replV vs n)
  | 0 => by simp [repl, replV, VRs]
  | n + 1 => by
    simp only [repl, replV]
    exact h.append (repl_rel h n)

theorem replV_get (zs : List Value) : ∀ (n i : Nat), i < n * zs.length → (replV zs n)[i]? = zs[i % zs.length]?
  | 0, i, h => by simp at h
  | n + 1, i, h => by
    simp only [replV]
    by_cases hi : i < zs.length
    · rw [List.getElem?_append_left hi, Nat.mod_eq_of_lt hi]
    · rw [List.getElem?_append_right (by omega)]
      rw [replV_get zs n (i - zs.length) (by rw [Nat.add_mul] at h; omega)]
      congr 1
      have : i = (i - zs.length) + zs.length := by omega
      conv => rhs; rw [this]
      simp

theorem zeros_eq (zs : Array Value) (n : Nat) : ((Array.range (n * zs.size)).map (fun i => zs[i % zs.size]!)) = ⟨replV zs.toList n⟩ := by
  apply Array.ext
  · simp [replV_length]
  · intro i h1 h2
    simp only [Array.size_map, Array.size_range] at h1
    simp only [Array.getElem_map, Array.getElem_range]
    have hz : 0 < zs.size := by
      rcases Nat.eq_zero_or_pos zs.size with e | e
      · rw [e] at h1; simp at h1
      · exact e
    have hm : i % zs.size < zs.size := Nat.mod_lt _ hz
    have := replV_get zs.toList n i (by simpa using h1)
    simp only [Array.length_toList] at this
    rw [List.getElem?_eq_getElem (by simpa [replV_length] using h1), Array.getElem?_toList, Array.getElem?_eq_getElem hm] at this
    have e1 := Option.some.inj this
    simp only [hm, getElem!_pos]
    rw [← e1]
    rfl

theorem s_bslice {t n : Nat} {ps : Array (Nat × Operand)} {b : AOp} (hg : P.globals.size ≤ H.next) (hR : R P.globals.size φ H w) (hF : FR φ tm a) (ho : o.op = .buildSlice t n ps) (hc : cop P o = some b)
    {v : AV} {H' : AH} (ha : aop C tm H b = .val v H') : Snd P P.globals.size φ H w o a v H' := by
  simp only [cop, ho] at hc
  split at hc
  · rename_i e hu
    split at hc
    · rename_i sz zs hsz hz
      split at hc
      · cases hc
      · rename_i hno
        split at hc
        · rename_i l hl
          split at hc
          · rename_i hzl
            cases hc
            have hzl := Nat.eq_of_beq_eq_true hzl
            obtain ⟨ie, hie, hes⟩ := szOf_some hsz
            obtain ⟨i, z, b, hi, hz1, hz2, rfl⟩ := zrOf_some hz
            rw [hie] at hi
            cases hi
            simp only [Bool.or_eq_true, Bool.not_eq_true', not_or, Bool.not_eq_false] at hno
            have hs0 : sz ≠ 0 := by
              intro e
              rw [e] at hno
              exact absurd rfl hno.1
            have hle := Nat.le_of_ble_eq_true hno.2
            simp only [aop] at ha
            split at ha
            · rename_i out hout
              split at ha
              · cases ha
                have hzv : VRs φ b.cells z.cells.toList := (cvV_rel z b hz2).cells
                have hzlen : z.cells.size = sz := by rw [← Array.length_toList, hzv.length, hzl]
                have evq_eq : ∀ (l : List (Nat × Nat × Opd)), cPartsA P sz ps.toList = some l → evq tm sz (l.map fun x => (x.1, x.2.2)) = evp tm l := by
                  have key : ∀ (q : List (Nat × Operand)) (l : List (Nat × Nat × Opd)), cPartsA P sz q = some l → evq tm sz (l.map fun x => (x.1, x.2.2)) = evp tm l := by
                    intro q
                    induction q with
                    | nil => intro l h; simp only [cPartsA, Option.some.injEq] at h; subst h; rfl
                    | cons x q ih =>
                      intro l h
                      obtain ⟨j, x⟩ := x
                      simp only [cPartsA] at h
                      split at h
                      · rename_i y m' h2 h3
                        cases h
                        simp only [List.map_cons, evq, evp]
                        rw [ih m' h3]
                      · cases h
                  exact key ps.toList
                have hout' : fillA (repl b.cells n) (evp tm l) = some out := by
                  rw [← evq_eq l hl]
                  exact hout
                obtain ⟨vs, h1, h2⟩ := fill_rel (parts_array hR hF sz hl) (repl_rel hzv n) hout'
                obtain ⟨g1, g2⟩ := hR.row hg h2 [] e 0 (fun _ => rfl)
                have hlen : vs.length = n * sz := by
                  have e1 : ∀ (m : List (Nat × Nat × AV)) (zs out : List AV), fillA zs m = some out → out.length = zs.length := by
                    intro m
                    induction m with
                    | nil => intro zs out h; simp only [fillA, Option.some.injEq] at h; subst h; rfl
                    | cons x m ih =>
                      intro zs out h
                      obtain ⟨p, q, x⟩ := x
                      simp only [fillA] at h
                      split at h
                      · rename_i hc
                        simp only [Bool.and_eq_true] at hc
                        have c1 := Nat.eq_of_beq_eq_true hc.1.1
                        have c2 := Nat.le_of_ble_eq_true hc.1.2
                        have := ih _ _ h
                        rw [this]
                        simp
                        omega
                      · cases h
                  rw [h2.length, e1 _ _ _ hout', repl_length, hzl]
                refine ⟨_, .slice (some ⟨w.heap.size, 0, none⟩) n n, _, .inl ?_, g1, g2, ?_⟩
                · simp only [execOp, ho, Instr.buildSlice, Sem.run_bind, run_underlying' hu, Result.andThen_ok, run_sizeOf' hie, hes]
                  rw [if_neg (by omega)]
                  have e1 : (ps.map fun p => (p.1, a.eval p.2)).toList = ps.toList.map fun p => (p.1, a.eval p.2) := by simp
                  by_cases hn : n * sz = 0
                  · have hn0 : n = 0 := by
                      rcases Nat.mul_eq_zero.1 hn with e | e
                      · exact e
                      · exact absurd e hs0
                    rw [if_pos hn]
                    simp only [Sem.run_bind, Sem.run_pure, Result.andThen_ok, hn]
                    rw [e1]
                    have h1' := h1
                    subst hn0
                    simp only [replV] at h1'
                    rw [show ((Array.range 0).map (fun i => (#[] : Array Value)[i % (#[] : Array Value).size]!)) = (Array.mk ([] : List Value)) by simp, h1']
                    simp [newRow]
                  · rw [if_neg hn]
                    simp only [Sem.run_bind, Sem.run_pure, Result.andThen_ok, run_zeroValue' hie hz1]
                    rw [e1, ← hzlen, zeros_eq z.cells n, hzlen, h1]
                    simp [newRow]
                · simp only [VR]
                  exact ⟨_, _, _, Mp.add_self _ _ _, rfl, fun _ => rfl, (fun h => nomatch h), fun _ => by simp⟩
              · cases ha
            · cases ha
          · cases hc
        · cases hc
    · cases hc
  · cases hc

theorem s_ld {t : Nat} {x : Operand} {b : AOp} (hR : R P.globals.size φ H w) (hF : FR φ tm a) (ho : o.op = .load t x) (hc : cop P o = some b)
    {v : AV} {H' : AH} (ha : aop C tm H b = .val v H') : Snd P P.globals.size φ H w o a v H' := by
  simp only [cop, ho] at hc
  split at hc
  · rename_i d n y hu hsz hx
    obtain ⟨i, hi, hes⟩ := szOf_some hsz
    have hrel := opd_rel hR hF hx
    split at hc
    · rename_i hagg
      cases hc
      simp only [aop] at ha
      split at ha
      · rename_i X u hX
        rw [hX] at hrel
        obtain ⟨p, h1, h2⟩ := hrel.ptr_inv
        simp only [ofV] at ha
        split at ha
        · rename_i r hr
          cases ha
          simp only [Option.map_eq_some_iff] at hr
          obtain ⟨l, hl, rfl⟩ := hr
          obtain ⟨vs, g1, g2, g3⟩ := hR.run_loadCells (P := P) h1 hl
          refine Snd.still hR (v' := .agg ⟨vs⟩) ?_ (by simp only [VR]; exact ⟨vs, rfl, g1⟩)
          simp only [execOp, ho, Instr.loadAt, h2, Instr.sureAddr, Sem.run_bind, Sem.run_pure, Result.andThen_ok, loadVar, run_isAgg' hu, hagg, if_true, run_sizeOf' hi, hes, g3]
        · cases ha
      · cases ha
    · rename_i hagg
      cases hc
      simp only [aop] at ha
      split at ha
      · rename_i X u hX
        rw [hX] at hrel
        obtain ⟨p, h1, h2⟩ := hrel.ptr_inv
        simp only [ofV] at ha
        split at ha
        · rename_i r hr
          cases ha
          obtain ⟨v', g1, g2⟩ := hR.rd h1 hr
          refine Snd.still hR (v' := v') ?_ g2
          simp only [execOp, ho, Instr.loadAt, h2, Instr.sureAddr, Sem.run_bind, Sem.run_pure, Result.andThen_ok, loadVar, run_isAgg' hu, hagg, if_false, run_load' g1]
          simp [g1]
        · cases ha
      · cases ha
  · cases hc

theorem s_st {t : Nat} {x y : Operand} {b : AOp} (hR : R P.globals.size φ H w) (hF : FR φ tm a) (ho : o.op = .store t x y) (hc : cop P o = some b)
    {v : AV} {H' : AH} (ha : aop C tm H b = .val v H') : Snd P P.globals.size φ H w o a v H' := by
  simp only [cop, ho] at hc
  split at hc
  · rename_i n x' y' hsz hx hy
    cases hc
    obtain ⟨i, hi, hes⟩ := szOf_some hsz
    have hrel := opd_rel hR hF hx
    have hrel2 := (opd_rel hR hF hy).cells
    simp only [aop] at ha
    split at ha
    · rename_i X u hX
      rw [hX] at hrel
      obtain ⟨p, h1, h2⟩ := hrel.ptr_inv
      split at ha
      · rename_i hlen
        have hlen := Nat.eq_of_beq_eq_true hlen
        split at ha
        · rename_i K hK
          cases ha
          obtain ⟨w', g1, g2, g3⟩ := hR.wr (P := P) h1 hK hrel2 0 (p.base + u) (by omega)
          refine ⟨φ, undef, w', .inr ⟨?_, rfl⟩, g2, g3, by simp [AV.und, VR, VRs, undef]⟩
          simp only [execOp, ho, Instr.storeAt, h2, Instr.sureAddr, Sem.run_bind, Sem.run_pure, Result.andThen_ok, storeVar, run_sizeOf' hi, hes]
          have : (a.eval y).cells.size = n := by rw [← Array.length_toList, hrel2.length, hlen]
          rw [if_neg (by simp [this])]
          simp only [g1, Result.andThen_ok]
        · cases ha
      · cases ha
    · cases ha
  · cases hc

theorem s_chk {x : Operand} {y : Opd} (hR : R P.globals.size φ H w) (hF : FR φ tm a) (ho : o.op = .nilCheck x) (hc : cOpd P x = some y)
    {v : AV} {H' : AH} (ha : aop C tm H (.chk y) = .val v H') : Snd P P.globals.size φ H w o a v H' := by
  have hrel := opd_rel hR hF hc
  simp only [aop] at ha
  split at ha
  · rename_i hp
    cases ha
    refine Snd.still hR (v' := a.eval x) ?_ hrel
    generalize ev tm y = u at hrel hp
    simp only [execOp, ho]
    cases u <;> simp [AV.isPtr] at hp <;> simp only [VR] at hrel
    case fn f l m =>
      obtain ⟨as, bs, e, _, _⟩ := hrel
      rw [e]
      cases f <;> simp [AV.isPtr] at hp ⊢
    all_goals first
      | (rw [hrel]; simp)
      | (obtain ⟨p, q, c, _, e, _⟩ := hrel; rw [e]; simp)
      | (obtain ⟨p, _, e⟩ := hrel; rw [e]; simp)
      | (obtain ⟨p, e, _⟩ := hrel; rw [e]; simp)
  · cases ha

theorem s_mki {t : Nat} {x : Operand} {b : AOp} (hR : R P.globals.size φ H w) (hF : FR φ tm a) (ho : o.op = .makeInterface t x) (hc : cop P o = some b)
    {v : AV} {H' : AH} (ha : aop C tm H b = .val v H') : Snd P P.globals.size φ H w o a v H' := by
  simp only [cop, ho] at hc
  split at hc
  · cases hc
  · rename_i d y hno hu hx
    cases hc
    simp only [aop] at ha
    cases ha
    have hrel := opd_rel hR hF hx
    refine Snd.still hR (v' := .iface t (a.eval x)) ?_ (by simp only [VR]; exact ⟨_, rfl, hrel⟩)
    simp only [execOp, ho, Instr.makeInterface, Sem.run_bind, run_underlying' hu, Result.andThen_ok]
    cases d <;> first
      | (simp; done)
      | (rename_i ms; exact absurd hu (hno ms))
  · cases hc

theorem s_mkf {f : Fn} {x y : Array Operand} {b : AOp} (hR : R P.globals.size φ H w) (hF : FR φ tm a) (ho : o.op = .makeFunc f x y) (hc : cop P o = some b)
    {v : AV} {H' : AH} (ha : aop C tm H b = .val v H') : Snd P P.globals.size φ H w o a v H' := by
  simp only [cop, ho] at hc
  split at hc
  · rename_i l m h1 h2
    cases hc
    simp only [aop] at ha
    cases ha
    refine Snd.still hR (v' := .func f (x.map a.eval) (y.map a.eval)) ?_ ?_
    · simp [execOp, ho, Instr.makeFunc]
    · simp only [VR]
      refine ⟨x.toList.map a.eval, y.toList.map a.eval, ?_, opds_rel hR hF h1, opds_rel hR hF h2⟩
      simp [← Array.toList_map]
  · cases hc

theorem s_fad {t f : Nat} {x : Operand} {b : AOp} (hR : R P.globals.size φ H w) (hF : FR φ tm a) (ho : o.op = .fieldAddr t x f) (hc : cop P o = some b)
    {v : AV} {H' : AH} (ha : aop C tm H b = .val v H') : Snd P P.globals.size φ H w o a v H' := by
  simp only [cop, ho] at hc
  split at hc
  · rename_i fs y hu hx
    split at hc
    · rename_i fd hfd
      split at hc
      · rename_i k hsz
        cases hc
        obtain ⟨i, hi, hes⟩ := szOf_some hsz
        have hrel := opd_rel hR hF hx
        simp only [aop] at ha
        split at ha
        · rename_i X u hX
          cases ha
          rw [hX] at hrel
          obtain ⟨p, h1, h2⟩ := hrel.ptr_inv
          refine Snd.still hR (v' := .pointer (some ⟨p.b, p.base + (u + fd.offset), none⟩)) ?_ (by simp only [VR]; exact ⟨p, h1, rfl⟩)
          simp only [execOp, ho, Instr.fieldAt, Sem.run_bind, run_underlying' hu, Result.andThen_ok, hfd, h2, Instr.sureAddr, Sem.run_pure, fieldPlace, run_sizeOf' hi, hes]
          rw [if_neg (by omega)]
          simp [add_eq, Nat.add_assoc]
        · cases ha
      · cases hc
    · cases hc
  · cases hc

theorem run_part {t : Nat} {d : TypeDesc} {i : TypeInfo} (hu : P.underlying t = some d) (hi : P.info? t = some i) {l : List AV} {vs : List Value} (hv : VRs φ l vs) (off : Nat) {v : AV}
    (h : (if isAggD d then (if Nat.ble (off + i.size) l.length then some (.agg ((l.drop off).take i.size)) else none) else l[off]?) = some v) :
    ∃ v', (part t ⟨vs⟩ off).run P w = .ok v' w ∧ VR φ v v' := by
  split at h
  · rename_i ha
    split at h
    · rename_i hl
      have hl := Nat.le_of_ble_eq_true hl
      cases h
      refine ⟨.agg ⟨(vs.drop off).take i.size⟩, ?_, by simp only [VR]; exact ⟨_, rfl, (hv.drop off).take i.size⟩⟩
      simp only [part, Sem.run_bind, run_isAgg' hu, Result.andThen_ok, ha, if_true, run_sizeOf' hi, Sem.run_pure]
      congr 2
      apply Array.ext'
      simp [List.drop_take]
    · cases h
  · rename_i ha
    obtain ⟨v', h1, h2⟩ := hv.get off v h
    refine ⟨v', ?_, h2⟩
    simp only [part, Sem.run_bind, run_isAgg' hu, Result.andThen_ok, ha]
    simp [h1]

theorem s_fld {t f : Nat} {x : Operand} {b : AOp} (hR : R P.globals.size φ H w) (hF : FR φ tm a) (ho : o.op = .field t x f) (hc : cop P o = some b)
    {v : AV} {H' : AH} (ha : aop C tm H b = .val v H') : Snd P P.globals.size φ H w o a v H' := by
  simp only [cop, ho] at hc
  split at hc
  · rename_i fs y hu hx
    split at hc
    · rename_i fd hfd
      split at hc
      · rename_i d n hd hsz
        cases hc
        obtain ⟨i, hi, hes⟩ := szOf_some hsz
        have hrel := opd_rel hR hF hx
        have key : ∃ l, ev tm y = .agg l ∧ H' = H ∧ (if isAggD d then (if Nat.ble (fd.offset + i.size) l.length then some (.agg ((l.drop fd.offset).take i.size)) else none) else l[fd.offset]?) = some v := by
          rw [hes]
          by_cases hagg : isAggD d = true
          · simp only [hagg, if_true, aop] at ha
            split at ha
            · rename_i l hl
              split at ha
              · rename_i hle
                cases ha
                exact ⟨l, hl, rfl, by simp [hagg, hle]⟩
              · cases ha
            · cases ha
          · simp only [hagg, aop] at ha
            simp only [Bool.false_eq_true, if_false, aop] at ha
            split at ha
            · rename_i l hl
              simp only [ofV] at ha
              split at ha
              · rename_i r hr
                cases ha
                exact ⟨l, hl, rfl, by simp [hagg, hr]⟩
              · cases ha
            · cases ha
        obtain ⟨l, hl, rfl, hv⟩ := key
        rw [hl] at hrel
        obtain ⟨vs, h1, h2⟩ := hrel.agg_inv
        obtain ⟨v', h3, h4⟩ := run_part (P := P) (w := w) hd hi h2 fd.offset hv
        refine Snd.still hR (v' := v') ?_ h4
        simp only [execOp, ho, Instr.field, Sem.run_bind, run_underlying' hu, Result.andThen_ok, hfd, h1, asAgg, Sem.run_pure, h3]
      · cases hc
    · cases hc
  · cases hc
end
end Go.Vd
