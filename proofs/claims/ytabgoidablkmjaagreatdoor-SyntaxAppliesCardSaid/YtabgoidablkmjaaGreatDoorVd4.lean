/- The relation between the evaluator's heap and the model's world. -/
import Derived.Test.YtabgoidablkmjaaGreatDoorVd3
import Derived.Calls
import Derived.Laws.Sem
set_option linter.unusedVariables false
set_option linter.unusedSimpArgs false
namespace Go.Vd

structure Pl where
  b : Nat
  base : Nat
  room : Nat

abbrev Mp := Nat → Option Pl

mutual
def VR (φ : Mp) : AV → Value → Prop
  | .bool b, v => v = .bool b
  | .int k n, v => v = .int k n
  | .cls k m r, v => ∃ n : Nat, v = .int k (.ofNat n) ∧ n % m = r
  | .str l, v => v = .string ⟨l.toArray⟩
  | .nilp, v => v = .pointer none
  | .ptr X o, v => ∃ p, φ X = some p ∧ v = .pointer (some ⟨p.b, p.base + o, none⟩)
  | .hnd b t, v => v = .pointer (some ⟨b, t, none⟩)
  | .nils, v => v = .slice none 0 0
  | .slc X o len cap sz ex, v => ∃ p a c, φ X = some p ∧ v = .slice (some a) len c ∧ (ex = true → c = cap) ∧ (ex = false → cap ≤ c ∧ o + c * sz ≤ p.room) ∧
      (0 < c → a = ⟨p.b, p.base + o, none⟩)
  | .nilm, v => v = .map none
  | .map X, v => ∃ p, φ X = some p ∧ v = .map (some p.b)
  | .fn f a b, v => ∃ as bs, v = .func f ⟨as⟩ ⟨bs⟩ ∧ VRs φ a as ∧ VRs φ b bs
  | .nilf, v => v = .nilFunc
  | .ifc t x, v => ∃ y, v = .iface t y ∧ VR φ x y
  | .nili, v => v = .nilIface
  | .agg l, v => ∃ vs, v = .agg ⟨vs⟩ ∧ VRs φ l vs
  | .tup l, v => ∃ vs, v = .tuple ⟨vs⟩ ∧ VRs φ l vs
def VRs (φ : Mp) : List AV → List Value → Prop
  | [], vs => vs = []
  | a :: l, vs => ∃ v ws, vs = v :: ws ∧ VR φ a v ∧ VRs φ l ws
end

def Le (φ ψ : Mp) : Prop := ∀ X p, φ X = some p → ψ X = some p

theorem Le.refl (φ : Mp) : Le φ φ := fun _ _ h => h
theorem Le.trans {φ ψ χ : Mp} (h : Le φ ψ) (g : Le ψ χ) : Le φ χ := fun X p e => g X p (h X p e)

mutual
theorem VR.mono {φ ψ : Mp} (h : Le φ ψ) : ∀ (a : AV) (v : Value), VR φ a v → VR ψ a v
  | .bool _, _, e => by simpa only [VR] using e
  | .int _ _, _, e => by simpa only [VR] using e
  | .cls _ _ _, _, e => by simpa only [VR] using e
  | .str _, _, e => by simpa only [VR] using e
  | .nilp, _, e => by simpa only [VR] using e
  | .ptr X o, _, e => by
    simp only [VR] at e ⊢
    obtain ⟨p, e1, e2⟩ := e
    exact ⟨p, h _ _ e1, e2⟩
  | .hnd _ _, _, e => by simpa only [VR] using e
  | .nils, _, e => by simpa only [VR] using e
  | .slc X o len cap sz ex, _, e => by
    simp only [VR] at e ⊢
    obtain ⟨p, a, c, e1, e2⟩ := e
    exact ⟨p, a, c, h _ _ e1, e2⟩
  | .nilm, _, e => by simpa only [VR] using e
  | .map X, _, e => by
    simp only [VR] at e ⊢
    obtain ⟨p, e1, e2⟩ := e
    exact ⟨p, h _ _ e1, e2⟩
  | .fn f a b, _, e => by
    simp only [VR] at e ⊢
    obtain ⟨as, bs, e1, e2, e3⟩ := e
    exact ⟨as, bs, e1, VRs.mono h a as e2, VRs.mono h b bs e3⟩
  | .nilf, _, e => by simpa only [VR] using e
  | .ifc t x, _, e => by
    simp only [VR] at e ⊢
    obtain ⟨y, e1, e2⟩ := e
    exact ⟨y, e1, VR.mono h x y e2⟩
  | .nili, _, e => by simpa only [VR] using e
  | .agg l, _, e => by
    simp only [VR] at e ⊢
    obtain ⟨y, e1, e2⟩ := e
    exact ⟨y, e1, VRs.mono h l y e2⟩
  | .tup l, _, e => by
    simp only [VR] at e ⊢
    obtain ⟨y, e1, e2⟩ := e
    exact ⟨y, e1, VRs.mono h l y e2⟩
theorem VRs.mono {φ ψ : Mp} (h : Le φ ψ) : ∀ (l : List AV) (vs : List Value), VRs φ l vs → VRs ψ l vs
  | [], _, e => by simpa only [VRs] using e
  | a :: l, _, e => by
    simp only [VRs] at e ⊢
    obtain ⟨v, ws, e1, e2, e3⟩ := e
    exact ⟨v, ws, e1, VR.mono h a v e2, VRs.mono h l ws e3⟩
end

/-! ### Lists of values -/

theorem VRs.length {φ : Mp} : ∀ {l : List AV} {vs : List Value}, VRs φ l vs → vs.length = l.length
  | [], _, h => by simp only [VRs] at h; subst h; rfl
  | a :: l, _, h => by
    simp only [VRs] at h
    obtain ⟨v, ws, rfl, _, h⟩ := h
    simp [VRs.length h]

theorem VRs.get {φ : Mp} : ∀ {l : List AV} {vs : List Value}, VRs φ l vs → ∀ (i : Nat) (a : AV), l[i]? = some a → ∃ v, vs[i]? = some v ∧ VR φ a v
  | [], _, _, i, a, e => by simp at e
  | b :: l, _, h, i, a, e => by
    simp only [VRs] at h
    obtain ⟨v, ws, rfl, hv, h⟩ := h
    cases i with
    | zero =>
      simp at e
      subst e
      exact ⟨v, by simp, hv⟩
    | succ i =>
      simp at e
      obtain ⟨u, hu, hr⟩ := VRs.get h i a e
      exact ⟨u, by simpa using hu, hr⟩

theorem VRs.of_get {φ : Mp} : ∀ (l : List AV) (vs : List Value), vs.length = l.length → (∀ (i : Nat) (a : AV) (v : Value), l[i]? = some a → vs[i]? = some v → VR φ a v) → VRs φ l vs
  | [], vs, hl, _ => by
    simp only [VRs]
    exact List.length_eq_zero_iff.1 hl
  | a :: l, [], hl, _ => by simp at hl
  | a :: l, v :: vs, hl, h => by
    simp only [VRs]
    exact ⟨v, vs, rfl, h 0 a v (by simp) (by simp), VRs.of_get l vs (by simpa using hl) fun i b u hb hu => h (i + 1) b u (by simpa using hb) (by simpa using hu)⟩

theorem VRs.append {φ : Mp} : ∀ {l m : List AV} {vs ws : List Value}, VRs φ l vs → VRs φ m ws → VRs φ (l ++ m) (vs ++ ws)
  | [], _, _, _, h, g => by simp only [VRs] at h; subst h; simpa using g
  | a :: l, _, _, _, h, g => by
    simp only [VRs] at h
    obtain ⟨v, us, rfl, hv, h⟩ := h
    simp only [List.cons_append, VRs]
    exact ⟨v, _, rfl, hv, VRs.append h g⟩

theorem VRs.take {φ : Mp} : ∀ (n : Nat) {l : List AV} {vs : List Value}, VRs φ l vs → VRs φ (l.take n) (vs.take n)
  | 0, _, _, _ => by simp [VRs]
  | n + 1, [], _, h => by simp only [VRs] at h; subst h; simp [VRs]
  | n + 1, a :: l, _, h => by
    simp only [VRs] at h
    obtain ⟨v, ws, rfl, hv, h⟩ := h
    simp only [List.take_succ_cons, VRs]
    exact ⟨v, _, rfl, hv, VRs.take n h⟩

theorem VRs.drop {φ : Mp} : ∀ (n : Nat) {l : List AV} {vs : List Value}, VRs φ l vs → VRs φ (l.drop n) (vs.drop n)
  | 0, _, _, h => by simpa using h
  | n + 1, [], _, h => by simp only [VRs] at h; subst h; simp [VRs]
  | n + 1, a :: l, _, h => by
    simp only [VRs] at h
    obtain ⟨v, ws, rfl, hv, h⟩ := h
    simpa using VRs.drop n h

/-! ### The trie -/

theorem Tr.get_setF {α : Type} : ∀ (f : Nat) (t : Tr α) (k : Nat) (v : α) (j : Nat), k ≤ f → (Tr.setF f t k v).get j = if j = k then some v else t.get j
  | 0, t, k, v, j, h => by
    have hk : k = 0 := by omega
    subst hk
    cases t with
    | nil =>
      simp only [Tr.setF]
      cases j with
      | zero => simp [Tr.get]
      | succ j => simp [Tr.get]
    | node x l r =>
      simp only [Tr.setF]
      cases j with
      | zero => simp [Tr.get]
      | succ j => simp [Tr.get]
  | f + 1, t, 0, v, j, h => by
    cases t with
    | nil =>
      simp only [Tr.setF]
      cases j with
      | zero => simp [Tr.get]
      | succ j => simp [Tr.get]
    | node x l r =>
      simp only [Tr.setF]
      cases j with
      | zero => simp [Tr.get]
      | succ j => simp [Tr.get]
  | f + 1, t, k + 1, v, j, h => by
    have ih := Tr.get_setF (α := α) f
    have hk : k / 2 ≤ f := by omega
    cases j with
    | zero =>
      have : ¬ (0 = k + 1) := by omega
      rw [if_neg this]
      cases t with
      | nil =>
        simp only [Tr.setF]
        split <;> simp [Tr.get]
      | node x l r =>
        simp only [Tr.setF]
        split <;> simp [Tr.get]
    | succ j =>
      have e1 : (j + 1 = k + 1) = (j = k) := by simp
      simp only [e1]
      by_cases hm : k % 2 = 0
      · have hb : Nat.beq (k % 2) 0 = true := by rw [hm]; rfl
        cases t with
        | nil =>
          simp only [Tr.setF, hb, if_true, Tr.get]
          by_cases hj : j % 2 = 0
          · have hb2 : Nat.beq (j % 2) 0 = true := by rw [hj]; rfl
            simp only [hb2, if_true, ih _ _ _ _ hk, Tr.get]
            by_cases hjk : j = k
            · subst hjk; simp
            · have : j / 2 ≠ k / 2 := by omega
              simp [hjk, this]
          · have hb2 : Nat.beq (j % 2) 0 = false := by
              have : j % 2 = 1 := by omega
              rw [this]; rfl
            have : j ≠ k := by intro e; subst e; exact hj hm
            simp [hb2, this]
        | node x l r =>
          simp only [Tr.setF, hb, if_true, Tr.get]
          by_cases hj : j % 2 = 0
          · have hb2 : Nat.beq (j % 2) 0 = true := by rw [hj]; rfl
            simp only [hb2, if_true, ih _ _ _ _ hk]
            by_cases hjk : j = k
            · subst hjk; simp
            · have : j / 2 ≠ k / 2 := by omega
              simp [hjk, this]
          · have hb2 : Nat.beq (j % 2) 0 = false := by
              have : j % 2 = 1 := by omega
              rw [this]; rfl
            have : j ≠ k := by intro e; subst e; exact hj hm
            simp [hb2, this]
      · have hb : Nat.beq (k % 2) 0 = false := by
          have : k % 2 = 1 := by omega
          rw [this]; rfl
        cases t with
        | nil =>
          simp only [Tr.setF, hb, Tr.get]
          by_cases hj : j % 2 = 0
          · have hb2 : Nat.beq (j % 2) 0 = true := by rw [hj]; rfl
            have : j ≠ k := by intro e; subst e; exact hm hj
            simp [hb2, this, Tr.get]
          · have hb2 : Nat.beq (j % 2) 0 = false := by
              have : j % 2 = 1 := by omega
              rw [this]; rfl
            simp only [hb2, Bool.false_eq_true, if_false, ih _ _ _ _ hk, Tr.get]
            by_cases hjk : j = k
            · subst hjk; simp
            · have : j / 2 ≠ k / 2 := by omega
              simp [hjk, this]
        | node x l r =>
          simp only [Tr.setF, hb, Tr.get]
          by_cases hj : j % 2 = 0
          · have hb2 : Nat.beq (j % 2) 0 = true := by rw [hj]; rfl
            have : j ≠ k := by intro e; subst e; exact hm hj
            simp [hb2, this, Tr.get]
          · have hb2 : Nat.beq (j % 2) 0 = false := by
              have : j % 2 = 1 := by omega
              rw [this]; rfl
            simp only [hb2, Bool.false_eq_true, if_false, ih _ _ _ _ hk, Tr.get]
            by_cases hjk : j = k
            · subst hjk; simp
            · have : j / 2 ≠ k / 2 := by omega
              simp [hjk, this]

theorem Tr.get_set {α : Type} (t : Tr α) (k : Nat) (v : α) (j : Nat) : (t.set k v).get j = if j = k then some v else t.get j :=
  Tr.get_setF k t k v j (Nat.le_refl k)

theorem AH.get_set (H : AH) (X : Nat) (b : AB) (Y : Nat) : (H.set X b).get Y = if Y = X then some b else H.get Y := Tr.get_set _ _ _ _
theorem AH.get_push (H : AH) (b : AB) (Y : Nat) : (H.push b).get Y = if Y = H.next then some b else H.get Y := Tr.get_set _ _ _ _
theorem AH.next_set (H : AH) (X : Nat) (b : AB) : (H.set X b).next = H.next := rfl
theorem AH.next_push (H : AH) (b : AB) : (H.push b).next = H.next + 1 := rfl

/-! ### The relation -/

def AH.alive (H : AH) (X : Nat) : Prop :=
  match H.get X with
  | some .dead => False
  | none => False
  | _ => True

def CellsR (φ : Mp) (l : List AV) (c : Array Value) (base : Nat) : Prop :=
  ∀ (i : Nat) (a : AV), l[i]? = some a → ∃ v, c[base + i]? = some v ∧ VR φ a v

def EntR (φ : Mp) : List (AV × AV) → List MapEntry → Prop
  | [], es => es = []
  | (k, x) :: l, es => ∃ e fs, es = e :: fs ∧ VR φ k e.key ∧ VR φ x e.val ∧ EntR φ l fs

def BlkR (φ : Mp) (w : World) (p : Pl) : Option AB → Prop
  | some (.cells l e fl) => ∃ c lo hi, w.heap[p.b]? = some (.cells c e (lo, hi)) ∧ l.length ≤ p.room ∧ p.base + p.room ≤ c.size ∧
      (fl = 0 → (lo = 0 ∧ hi = 0) ∧ p.base = 0 ∧ c.size = l.length) ∧ (fl ≤ 1 → ∀ i, i < c.size → ¬ (lo ≤ i ∧ i < hi)) ∧ CellsR φ l c p.base
  | some (.mp es) => ∃ fs k, w.heap[p.b]? = some (.map ⟨fs⟩ k) ∧ EntR φ es fs
  | some (.it s pos) => p.base = 0 ∧ w.heap[p.b]? = some (.stringIter ⟨s.toArray⟩ pos)
  | _ => True

structure R (n : Nat) (φ : Mp) (H : AH) (w : World) : Prop where
  lo : ∀ X p, φ X = some p → X < H.next ∧ p.b < w.heap.size
  inj : ∀ X Y p q, φ X = some p → φ Y = some q → H.alive X → H.alive Y → p.b = q.b → X = Y
  blk : ∀ X p, φ X = some p → BlkR φ w p (H.get X)
  gl : ∀ g, g < n → ∃ r, φ g = some ⟨g, 0, r⟩

/-- What has become of heap and world. -/
structure Nx (φ : Mp) (H : AH) (w : World) (ψ : Mp) (H' : AH) (w' : World) : Prop where
  le : Le φ ψ
  size : w.heap.size ≤ w'.heap.size
  frame : ∀ b, b < w.heap.size → (∀ X p, φ X = some p → p.b = b → ¬ H.alive X) → w'.heap[b]? = w.heap[b]?
  out : w'.os = w.os ∧ w'.output = w.output ∧ w'.tape = w.tape
  next : H.next ≤ H'.next
  same : ∀ X, X < H.next → φ X = none → H'.get X = H.get X
  stay : ∀ X p, φ X = some p → ¬ H.alive X → ¬ H'.alive X
  new : ∀ X p, ψ X = some p → φ X = none → H.next ≤ X ∧ (w.heap.size ≤ p.b ∨ ∃ Y q, φ Y = some q ∧ q.b = p.b ∧ H.alive Y)

theorem Nx.refl (φ : Mp) (H : AH) (w : World) : Nx φ H w φ H w :=
  ⟨Le.refl φ, Nat.le_refl _, fun _ _ _ => rfl, ⟨rfl, rfl, rfl⟩, Nat.le_refl _, fun _ _ _ => rfl, fun _ _ _ h => h, fun X p h g => by rw [h] at g; cases g⟩

theorem Nx.trans {φ ψ χ : Mp} {H H1 H2 : AH} {w w1 w2 : World} (h : Nx φ H w ψ H1 w1) (g : Nx ψ H1 w1 χ H2 w2) : Nx φ H w χ H2 w2 where
  le := h.le.trans g.le
  size := Nat.le_trans h.size g.size
  frame := fun b hb hno => by
    rw [g.frame b (Nat.lt_of_lt_of_le hb h.size) ?_, h.frame b hb hno]
    intro X p hp e
    cases hx : φ X with
    | some q =>
      have := h.le X q hx
      rw [hp] at this
      cases this
      exact h.stay X p hx (hno X p hx e)
    | none =>
      rcases (h.new X p hp hx).2 with hge | ⟨Y, q, hq, hqe, hal⟩
      · omega
      · exact absurd hal (hno Y q hq (hqe.trans e))
  out := ⟨g.out.1.trans h.out.1, g.out.2.1.trans h.out.2.1, g.out.2.2.trans h.out.2.2⟩
  next := Nat.le_trans h.next g.next
  same := fun X hX hn => by
    rw [g.same X (Nat.lt_of_lt_of_le hX h.next) ?_, h.same X hX hn]
    cases hx : ψ X with
    | none => rfl
    | some p => exact absurd (h.new X p hx hn).1 (by omega)
  stay := fun X p hp hd => g.stay X p (h.le X p hp) (h.stay X p hp hd)
  new := fun X p hp hn => by
    cases hx : ψ X with
    | some q =>
      have := g.le X q hx
      rw [hp] at this
      cases this
      exact h.new X p hx hn
    | none =>
      obtain ⟨h1, h2⟩ := g.new X p hp hx
      refine ⟨Nat.le_trans h.next h1, ?_⟩
      rcases h2 with h2 | ⟨Y, q, hq, he, hal⟩
      · exact .inl (Nat.le_trans h.size h2)
      · cases hy : φ Y with
        | some q' =>
          have := h.le Y q' hy
          rw [hq] at this
          cases this
          exact .inr ⟨Y, q, hy, he, Classical.byContradiction fun hd => h.stay Y q hy hd hal⟩
        | none =>
          rcases (h.new Y q hq hy).2 with h3 | ⟨Z, r, hr, hre, hz⟩
          · exact .inl (he ▸ h3)
          · exact .inr ⟨Z, r, hr, hre.trans he, hz⟩

/-- A draw changes nothing. -/
theorem Nx.drew (φ : Mp) (H : AH) (w : World) (n : Nat) : Nx φ H w φ H { w with drawn := n } :=
  ⟨Le.refl φ, Nat.le_refl _, fun _ _ _ => rfl, ⟨rfl, rfl, rfl⟩, Nat.le_refl _, fun _ _ _ => rfl, fun _ _ _ h => h, fun X p h g => by rw [h] at g; cases g⟩

theorem BlkR.of_heap {φ : Mp} {w w' : World} {p : Pl} {b : Option AB} (h : w'.heap[p.b]? = w.heap[p.b]?) (hb : BlkR φ w p b) : BlkR φ w' p b := by
  unfold BlkR at *
  split <;> first
    | (simp only [h]; exact hb)
    | trivial

theorem CellsR.mono {φ ψ : Mp} (h : Le φ ψ) {l : List AV} {c : Array Value} {base : Nat} (hc : CellsR φ l c base) : CellsR ψ l c base :=
  fun i a hi => let ⟨v, h1, h2⟩ := hc i a hi; ⟨v, h1, VR.mono h a v h2⟩

theorem EntR.mono {φ ψ : Mp} (h : Le φ ψ) : ∀ {l : List (AV × AV)} {es : List MapEntry}, EntR φ l es → EntR ψ l es
  | [], _, e => e
  | (k, x) :: l, _, e => by
    simp only [EntR] at e ⊢
    obtain ⟨a, fs, h1, h2, h3, h4⟩ := e
    exact ⟨a, fs, h1, VR.mono h k _ h2, VR.mono h x _ h3, EntR.mono h h4⟩

theorem BlkR.mono {φ ψ : Mp} (h : Le φ ψ) {w : World} {p : Pl} {b : Option AB} (hb : BlkR φ w p b) : BlkR ψ w p b := by
  unfold BlkR at *
  split
  · obtain ⟨c, lo, hi, h1, h2, h3, h4, h5, h6⟩ := hb
    exact ⟨c, lo, hi, h1, h2, h3, h4, h5, h6.mono h⟩
  · obtain ⟨fs, k, h1, h2⟩ := hb
    exact ⟨fs, k, h1, h2.mono h⟩
  · exact hb
  · trivial

theorem R.drew {n : Nat} {φ : Mp} {H : AH} {w : World} (h : R n φ H w) (k : Nat) : R n φ H { w with drawn := k } :=
  ⟨h.lo, h.inj, fun X p e => (h.blk X p e).of_heap rfl, h.gl⟩

/-- The map with one block more. -/
def Mp.add (φ : Mp) (X : Nat) (p : Pl) : Mp := fun Y => if Y = X then some p else φ Y

theorem Mp.add_le {φ : Mp} {X : Nat} {p : Pl} (h : φ X = none) : Le φ (φ.add X p) := fun Y q e => by
  unfold Mp.add
  split
  · rename_i hy; subst hy; rw [h] at e; cases e
  · exact e
theorem Mp.add_self (φ : Mp) (X : Nat) (p : Pl) : (φ.add X p) X = some p := by simp [Mp.add]

theorem R.none_of_ge {n : Nat} {φ : Mp} {H : AH} {w : World} (h : R n φ H w) {X : Nat} (hx : H.next ≤ X) : φ X = none := by
  cases e : φ X with
  | none => rfl
  | some p => exact absurd (h.lo X p e).1 (by omega)

/-- A block of the evaluator's that lies in the heap already comes to be in the world, at its end. -/
theorem R.lay {n : Nat} {φ : Mp} {H : AH} {w : World} (h : R n φ H w) {X : Nat} (hX : X < H.next) (hn : φ X = none) (o : Obj) {p : Pl} (hpb : p.b = w.heap.size)
    (hb : BlkR (φ.add X p) { w with heap := w.heap.push o } p (H.get X)) (hng : n ≤ X) :
    R n (φ.add X p) H { w with heap := w.heap.push o } where
  lo := fun Y q e => by
    unfold Mp.add at e
    split at e
    · rename_i hy
      cases e
      subst hy
      exact ⟨hX, by simp [hpb]⟩
    · obtain ⟨h1, h2⟩ := h.lo Y q e
      exact ⟨h1, by simp; omega⟩
  inj := fun Y Z q r hy hz aY aZ e => by
    unfold Mp.add at hy hz
    split at hy <;> split at hz
    · rename_i e1 e2; rw [e1, e2]
    · cases hy
      have := (h.lo Z r hz).2
      rw [← e, hpb] at this
      exact absurd this (Nat.lt_irrefl _)
    · cases hz
      have := (h.lo Y q hy).2
      rw [e, hpb] at this
      exact absurd this (Nat.lt_irrefl _)
    · exact h.inj Y Z q r hy hz aY aZ e
  blk := fun Y q e => by
    by_cases hy : Y = X
    · subst hy
      rw [Mp.add_self] at e
      cases e
      exact hb
    · have e' : φ Y = some q := by simpa [Mp.add, hy] using e
      have h1 := h.blk Y q e'
      refine BlkR.mono (Mp.add_le hn) (h1.of_heap ?_)
      have hlt := (h.lo Y q e').2
      rw [Array.getElem?_push]
      split
      · omega
      · rfl
  gl := fun g hg => by
    obtain ⟨r, hr⟩ := h.gl g hg
    exact ⟨r, by simp [Mp.add, show g ≠ X by omega, hr]⟩

/-- A heap that has grown by blocks that no one maps. -/
theorem R.grow {n : Nat} {φ : Mp} {H H' : AH} {w : World} (h : R n φ H w) (hn : H.next ≤ H'.next) (hs : ∀ X, X < H.next → H'.get X = H.get X) : R n φ H' w where
  lo := fun X p e => ⟨Nat.lt_of_lt_of_le (h.lo X p e).1 hn, (h.lo X p e).2⟩
  inj := fun X Y p q hx hy aX aY e => by
    refine h.inj X Y p q hx hy ?_ ?_ e
    · unfold AH.alive at *; rwa [hs X (h.lo X p hx).1] at aX
    · unfold AH.alive at *; rwa [hs Y (h.lo Y q hy).1] at aY
  blk := fun X p e => by rw [hs X (h.lo X p e).1]; exact h.blk X p e
  gl := h.gl

theorem R.push {n : Nat} {φ : Mp} {H : AH} {w : World} (h : R n φ H w) (hng : n ≤ H.next) (b : AB) (o : Obj) {p : Pl} (hpb : p.b = w.heap.size)
    (hb : BlkR (φ.add H.next p) { w with heap := w.heap.push o } p (some b)) :
    R n (φ.add H.next p) (H.push b) { w with heap := w.heap.push o } ∧ Nx φ H w (φ.add H.next p) (H.push b) { w with heap := w.heap.push o } := by
  have hnone := h.none_of_ge (Nat.le_refl H.next)
  have g : R n φ (H.push b) w := h.grow (by simp [AH.next_push]) fun X hX => by rw [AH.get_push, if_neg (by omega)]
  refine ⟨g.lay (by simp [AH.next_push]) hnone o hpb (by rw [AH.get_push, if_pos rfl]; exact hb) hng, ?_⟩
  exact {
    le := Mp.add_le hnone
    size := by simp
    frame := fun b' hb' _ => by
      show (w.heap.push o)[b']? = _
      rw [Array.getElem?_push, if_neg (by omega)]
    out := ⟨rfl, rfl, rfl⟩
    next := by simp [AH.next_push]
    same := fun X hX _ => by rw [AH.get_push, if_neg (by omega)]
    stay := fun X q hq hd => by
      have hlt := (h.lo X q hq).1
      unfold AH.alive at *
      rwa [AH.get_push, if_neg (by omega)]
    new := fun X q hq hx => by
      unfold Mp.add at hq
      split at hq
      · rename_i e
        cases hq
        exact ⟨by omega, .inl (by omega)⟩
      · rw [hx] at hq; cases hq }

/-- One block is as it has become: in the heap and in the world. -/
theorem R.upd {n : Nat} {φ : Mp} {H : AH} {w w' : World} (h : R n φ H w) {X : Nat} {p : Pl} (hX : φ X = some p) (hal : H.alive X) (b : AB)
    (hsize : w'.heap.size = w.heap.size) (hother : ∀ c, c ≠ p.b → w'.heap[c]? = w.heap[c]?) (hout : w'.os = w.os ∧ w'.output = w.output ∧ w'.tape = w.tape)
    (hb : BlkR φ w' p (some b)) : R n φ (H.set X b) w' ∧ Nx φ H w φ (H.set X b) w' := by
  refine ⟨{
    lo := fun Y q e => ⟨(h.lo Y q e).1, hsize ▸ (h.lo Y q e).2⟩
    inj := fun Y Z q r hy hz aY aZ e => ?_
    blk := fun Y q e => ?_
    gl := h.gl }, ?_⟩
  · have al : ∀ Y, (H.set X b).alive Y → H.alive Y := fun Y hY => by
      by_cases e : Y = X
      · subst e; exact hal
      · unfold AH.alive at *; rwa [AH.get_set, if_neg e] at hY
    exact h.inj Y Z q r hy hz (al Y aY) (al Z aZ) e
  · rw [AH.get_set]
    split
    · rename_i hy
      subst hy
      rw [hX] at e
      cases e
      exact hb
    · rename_i hy
      by_cases hd : H.alive Y
      · refine (h.blk Y q e).of_heap (hother _ fun hq => hy ?_)
        exact h.inj Y X q p e hX hd hal hq
      · unfold AH.alive at hd
        unfold BlkR
        split <;> simp_all
  · exact {
      le := Le.refl φ
      size := by omega
      frame := fun c hc hno => hother c (fun e => hno X p hX e.symm hal)
      out := hout
      next := Nat.le_refl _
      same := fun Y hY hn => by
        rw [AH.get_set, if_neg]
        intro e
        subst e
        rw [hX] at hn
        cases hn
      stay := fun Y q hq hd => by
        have hne : Y ≠ X := fun e => hd (e ▸ hal)
        unfold AH.alive at *
        rwa [AH.get_set, if_neg hne]
      new := fun Y q hq hn => by rw [hn] at hq; cases hq }
end Go.Vd
