/- Runs of the model's own small steps, on worlds that are as an evaluator's heap. -/
import Derived.Test.YtabgoidablkmjaaGreatDoorVd4
set_option linter.unusedVariables false
set_option linter.unusedSimpArgs false
namespace Go.Vd

section runs
variable {P : Program} {w : World}

theorem run_typeInfo' {t : TypeId} {i : TypeInfo} (h : P.info? t = some i) : (typeInfo t).run P w = .ok i w := by simp [typeInfo, h]
theorem run_underlying' {t : TypeId} {d : TypeDesc} (h : P.underlying t = some d) : (underlying t).run P w = .ok d w := by simp [underlying, h]
theorem run_sizeOf' {t : TypeId} {i : TypeInfo} (h : P.info? t = some i) : (sizeOf t).run P w = .ok i.size w := by simp [sizeOf, run_typeInfo' h]
theorem run_zeroValue' {t : TypeId} {i : TypeInfo} {z : Value} (h : P.info? t = some i) (hz : i.zero = some z) : (zeroValue t).run P w = .ok z w := by
  simp [zeroValue, run_typeInfo' h, hz]
theorem run_isAgg' {t : TypeId} {d : TypeDesc} (h : P.underlying t = some d) : (isAgg t).run P w = .ok (isAggD d) w := by
  simp only [isAgg, Sem.run_bind, run_underlying' h, Result.andThen_ok]
  cases d <;> rfl
theorem run_newVar' {t : TypeId} {v : Value} : (newVar t v).run P w = .ok ⟨w.heap.size, 0, none⟩ { w with heap := w.heap.push (.cells v.cells t) } := by
  simp [newVar, newRow]

theorem add_eq (b o n : Nat) : (Addr.mk b o none).add n = ⟨b, o + n, none⟩ := by
  unfold Addr.add
  split
  · rename_i h; subst h; rfl
  · rfl

theorem szOf_some {t n : Nat} (h : szOf P t = some n) : ∃ i, P.info? t = some i ∧ i.size = n := by
  simp only [szOf, Option.map_eq_some_iff] at h
  exact h
theorem btOf_some {t n : Nat} (h : btOf P t = some n) : ∃ i, P.info? t = some i ∧ i.bytes = n := by
  simp only [btOf, Option.map_eq_some_iff] at h
  exact h
theorem zvOf_some {t : Nat} {a : AV} (h : zvOf P t = some a) : ∃ i z, P.info? t = some i ∧ i.zero = some z ∧ cvV z = some a := by
  unfold zvOf at h
  cases hi : P.info? t with
  | none => simp [hi] at h
  | some i =>
    cases hz : i.zero with
    | none => simp [hi, hz] at h
    | some z => exact ⟨i, z, rfl, hz, by simpa [hi, hz] using h⟩
theorem zrOf_some {t : Nat} {zs : List AV} (h : zrOf P t = some zs) : ∃ i z a, P.info? t = some i ∧ i.zero = some z ∧ cvV z = some a ∧ a.cells = zs := by
  unfold zrOf at h
  cases hi : P.info? t with
  | none => simp [hi] at h
  | some i =>
    cases hz : i.zero with
    | none => simp [hi, hz] at h
    | some z =>
      simp [hi, hz] at h
      obtain ⟨a, h1, h2⟩ := h
      exact ⟨i, z, a, rfl, hz, h1, h2⟩

end runs

mutual
theorem cvV_rel {φ : Mp} : ∀ (v : Value) (a : AV), cvV v = some a → VR φ a v
  | .bool b, a, h => by simp only [cvV, Option.some.injEq] at h; subst h; simp [VR]
  | .int k n, a, h => by simp only [cvV, Option.some.injEq] at h; subst h; simp [VR]
  | .string s, a, h => by simp only [cvV, Option.some.injEq] at h; subst h; simp [VR]
  | .pointer none, a, h => by simp only [cvV, Option.some.injEq] at h; subst h; simp [VR]
  | .pointer (some _), a, h => by simp [cvV] at h
  | .slice none 0 0, a, h => by simp only [cvV, Option.some.injEq] at h; subst h; simp [VR]
  | .slice none 0 (_ + 1), a, h => by simp [cvV] at h
  | .slice none (_ + 1) _, a, h => by simp [cvV] at h
  | .slice (some _) _ _, a, h => by simp [cvV] at h
  | .map none, a, h => by simp only [cvV, Option.some.injEq] at h; subst h; simp [VR]
  | .map (some _), a, h => by simp [cvV] at h
  | .nilFunc, a, h => by simp only [cvV, Option.some.injEq] at h; subst h; simp [VR]
  | .nilIface, a, h => by simp only [cvV, Option.some.injEq] at h; subst h; simp [VR]
  | .iface t v, a, h => by
    simp only [cvV] at h
    cases hv : cvV v with
    | none => rw [hv] at h; cases h
    | some x =>
      rw [hv] at h
      cases h
      simp only [VR]
      exact ⟨v, rfl, cvV_rel v x hv⟩
  | .agg ⟨l⟩, a, h => by
    simp only [cvV] at h
    cases hv : cvL l with
    | none => rw [hv] at h; cases h
    | some x =>
      rw [hv] at h
      cases h
      simp only [VR]
      exact ⟨l, rfl, cvL_rel l x hv⟩
  | .tuple ⟨l⟩, a, h => by
    simp only [cvV] at h
    cases hv : cvL l with
    | none => rw [hv] at h; cases h
    | some x =>
      rw [hv] at h
      cases h
      simp only [VR]
      exact ⟨l, rfl, cvL_rel l x hv⟩
  | .float _ _, a, h => by simp [cvV] at h
  | .complex _ _ _, a, h => by simp [cvV] at h
  | .chan _, a, h => by simp [cvV] at h
  | .func _ _ _, a, h => by simp [cvV] at h
theorem cvL_rel {φ : Mp} : ∀ (l : List Value) (m : List AV), cvL l = some m → VRs φ m l
  | [], m, h => by simp only [cvL, Option.some.injEq] at h; subst h; simp [VRs]
  | v :: l, m, h => by
    simp only [cvL] at h
    cases hv : cvV v with
    | none => rw [hv] at h; cases h
    | some x =>
      rw [hv] at h
      cases hl : cvL l with
      | none => rw [hl] at h; cases h
      | some y =>
        rw [hl] at h
        cases h
        simp only [VRs]
        exact ⟨v, l, rfl, cvV_rel v x hv, cvL_rel l y hl⟩
end

theorem VR.cells {φ : Mp} {a : AV} {v : Value} (h : VR φ a v) : VRs φ a.cells v.cells.toList := by
  cases a <;> simp only [VR] at h
  case agg l =>
    obtain ⟨vs, rfl, h⟩ := h
    exact h
  all_goals
    simp only [AV.cells]
    first
      | (subst h; simp [VRs, VR, Value.cells]; done)
      | (obtain ⟨p, a, c, h1, rfl, h3, h4, h5⟩ := h
         simp only [VRs, VR, Value.cells]
         exact ⟨_, _, rfl, ⟨p, a, c, h1, rfl, h3, h4, h5⟩, rfl⟩)
      | (obtain ⟨p, h1, rfl⟩ := h
         simp only [VRs, VR, Value.cells]
         exact ⟨_, _, rfl, ⟨p, h1, rfl⟩, rfl⟩)
      | (obtain ⟨as, bs, rfl, h1, h2⟩ := h
         simp only [VRs, VR, Value.cells]
         exact ⟨_, _, rfl, ⟨as, bs, rfl, h1, h2⟩, rfl⟩)
      | (obtain ⟨y, rfl, h1⟩ := h
         simp only [VRs, VR, Value.cells]
         exact ⟨_, _, rfl, ⟨y, rfl, h1⟩, rfl⟩)

theorem VR.one {φ : Mp} {a : AV} {v : Value} (h : VR φ a v) (ho : a.one = true) : v.oneCell' = true := by
  cases a <;> simp only [VR] at h <;> first
    | (simp [AV.one] at ho; done)
    | (subst h; rfl)
    | (obtain ⟨p, a, c, h1, rfl, h3, h4, h5⟩ := h; rfl)
    | (obtain ⟨p, h1, rfl⟩ := h; rfl)
    | (obtain ⟨as, bs, rfl, h1, h2⟩ := h; rfl)
    | (obtain ⟨y, rfl, h1⟩ := h; rfl)

/-! ### Reading and writing cells -/

section cells
variable {P : Program} {n : Nat} {φ : Mp} {H : AH} {w : World}

theorem R.rd (h : R n φ H w) {X o : Nat} {p : Pl} {a : AV} (hX : φ X = some p) (hr : H.rd X o = some a) : ∃ v, w.cell? ⟨p.b, p.base + o, none⟩ = some v ∧ VR φ a v := by
  have hb := h.blk X p hX
  unfold AH.rd at hr
  split at hr
  · rename_i l e fl hg
    rw [hg] at hb
    obtain ⟨c, lo, hi, h1, h2, h3, h4, h5, h6⟩ := hb
    obtain ⟨v, h7, h8⟩ := h6 o a hr
    exact ⟨v, by simp [World.cell?, h1, h7], h8⟩
  · cases hr

theorem run_load' {a : Addr} {v : Value} (h : w.cell? a = some v) (m : Mode) : (load a m).run P w = .ok v w := by simp [h]

theorem run_loadCellsFrom {b o : Nat} : ∀ (k i : Nat) (acc : Array Value) (vs : List Value), vs.length = k → (∀ j v, vs[j]? = some v → w.cell? ⟨b, o + (i + j), none⟩ = some v) →
    (loadCellsFrom ⟨b, o, none⟩ i k acc).run P w = .ok (acc ++ vs.toArray) w
  | 0, i, acc, vs, hl, _ => by
    obtain rfl := List.length_eq_zero_iff.1 hl
    simp [loadCellsFrom]
  | k + 1, i, acc, [], hl, _ => by simp at hl
  | k + 1, i, acc, v :: vs, hl, h => by
    have h0 := h 0 v (by simp)
    simp only [Nat.add_zero] at h0
    simp only [loadCellsFrom, Sem.run_bind, add_eq, run_load' h0, Result.andThen_ok]
    rw [run_loadCellsFrom k (i + 1) (acc.push v) vs (by simpa using hl) fun j u hu => by
      have := h (j + 1) u (by simpa using hu)
      rw [show i + 1 + j = i + (j + 1) by omega]
      exact this]
    simp

theorem R.rdn (h : R n φ H w) {X o k : Nat} {p : Pl} {l : List AV} (hX : φ X = some p) (hr : H.rdn X o k = some l) :
    ∃ vs : List Value, VRs φ l vs ∧ vs.length = k ∧ ∀ j v, vs[j]? = some v → w.cell? ⟨p.b, p.base + o + j, none⟩ = some v := by
  have hb := h.blk X p hX
  unfold AH.rdn at hr
  split at hr
  · rename_i l0 e fl hg
    rw [hg] at hb
    obtain ⟨c, lo, hi, h1, h2, h3, h4, h5, h6⟩ := hb
    split at hr
    · rename_i hle
      have hle := Nat.le_of_ble_eq_true hle
      cases hr
      refine ⟨(c.toList.drop (p.base + o)).take k, ?_, ?_, ?_⟩
      · refine VRs.of_get _ _ ?_ ?_
        · simp; omega
        · intro i a v ha hv
          rw [List.getElem?_take] at ha hv
          split at ha
          · rename_i hik
            rw [if_pos hik] at hv
            rw [List.getElem?_drop] at ha hv
            obtain ⟨u, hu, hr⟩ := h6 (o + i) a ha
            have : c.toList[p.base + o + i]? = some u := by rw [← hu, Array.getElem?_toList, Nat.add_assoc]
            rw [this] at hv
            cases hv
            exact hr
          · cases ha
      · simp; omega
      · intro j v hv
        rw [List.getElem?_take] at hv
        split at hv
        · rw [List.getElem?_drop] at hv
          simp only [World.cell?, h1, Option.isSome_none, Bool.false_eq_true, if_false]
          rw [← hv, Array.getElem?_toList]
        · cases hv
    · cases hr
  · cases hr

theorem R.run_loadCells (h : R n φ H w) {X o k : Nat} {p : Pl} {l : List AV} (hX : φ X = some p) (hr : H.rdn X o k = some l) :
    ∃ vs : List Value, VRs φ l vs ∧ vs.length = k ∧ (loadCells ⟨p.b, p.base + o, none⟩ k).run P w = .ok ⟨vs⟩ w := by
  obtain ⟨vs, h1, h2, h3⟩ := h.rdn hX hr
  refine ⟨vs, h1, h2, ?_⟩
  rw [loadCells, run_loadCellsFrom k 0 #[] vs h2 fun j v hv => by simpa using h3 j v hv]
  simp

theorem World.heap_setCell (w : World) (b o : Nat) (v : Value) {c : Array Value} {e : TypeId} {f : Nat × Nat} (h : w.heap[b]? = some (.cells c e f)) :
    (w.setCell ⟨b, o, none⟩ v).heap = w.heap.setIfInBounds b (.cells (c.setIfInBounds o v) e f) := by
  simp only [World.setCell]
  apply Array.ext
  · simp
  · intro i h1 h2
    simp only [Array.size_modify] at h1
    rw [Array.getElem_modify]
    simp only [Array.size_setIfInBounds] at h2
    rw [Array.getElem_setIfInBounds h2]
    by_cases e1 : b = i
    · subst e1
      have : w.heap[b] = .cells c e f := by
        rw [Array.getElem?_eq_getElem h2] at h
        exact Option.some.inj h
      simp [this]
    · simp [e1]

/-- The world in which a row of cells is written. -/
def wrW (w : World) (b o : Nat) (vs : List Value) : World :=
  { w with heap := w.heap.modify b fun
      | .cells c e f => .cells (Array.mk (c.toList.take o ++ vs ++ c.toList.drop (o + vs.length))) e f
      | x => x }

theorem wrW_nil (w : World) (b o : Nat) : wrW w b o [] = w := by
  unfold wrW
  congr
  apply Array.ext
  · simp
  · intro i h1 h2
    rw [Array.getElem_modify]
    split
    · split
      · rename_i he
        rw [he]
        simp
      · rfl
    · rfl

theorem wrW_cons (w : World) (b o : Nat) (v : Value) (vs : List Value) {c : Array Value} {e : TypeId} {f : Nat × Nat} (h : w.heap[b]? = some (.cells c e f))
    (hl : o + (vs.length + 1) ≤ c.size) : wrW (w.setCell ⟨b, o, none⟩ v) b (o + 1) vs = wrW w b o (v :: vs) := by
  unfold wrW
  rw [World.heap_setCell w b o v h]
  simp only [World.setCell]
  congr 1
  apply Array.ext
  · simp
  · intro i h1 h2
    rw [Array.getElem_modify, Array.getElem_modify]
    simp only [Array.size_modify, Array.size_setIfInBounds] at h1 h2
    rw [Array.getElem_setIfInBounds (by simpa using h1)]
    by_cases e1 : b = i
    · subst e1
      have : w.heap[b] = .cells c e f := by
        rw [Array.getElem?_eq_getElem h2] at h
        exact Option.some.inj h
      simp only [if_true, this]
      congr 2
      rw [Array.toList_setIfInBounds]
      have hlt : o < c.toList.length := by simp; omega
      apply List.ext_getElem?
      intro j
      simp only [List.getElem?_append, List.length_append, List.length_take, List.length_set, List.length_cons, Array.length_toList, List.getElem?_take, List.getElem?_drop, List.getElem?_set, List.getElem?_cons]
      by_cases j1 : j < o
      · simp [show j < min (o + 1) c.size by omega, show j < min (o + 1) c.size + vs.length by omega, show j < min o c.size by omega, show j < min o c.size + (vs.length + 1) by omega, show ¬ (o = j) by omega, show j < o + 1 by omega, j1]
      · by_cases j2 : j = o
        · subst j2
          simp [show j < min (j + 1) c.size by omega, show j < min (j + 1) c.size + vs.length by omega, show ¬ (j < min j c.size) by omega, show j < min j c.size + (vs.length + 1) by omega, show min j c.size = j by omega, show j < c.size by omega]
        · have m1 : min (o + 1) c.size = o + 1 := by omega
          have m2 : min o c.size = o := by omega
          simp only [m1, m2, show ¬ (j < o + 1) by omega, j1, if_false, show ¬ (o = o + 1 + vs.length + (j - (o + 1 + vs.length))) by omega]
          by_cases j3 : j < o + 1 + vs.length
          · simp only [j3, if_true, show j < o + (vs.length + 1) by omega, show ¬ (j - o = 0) by omega, if_false]
            congr 1 <;> omega
          · simp only [j3, if_false, show ¬ (j < o + (vs.length + 1)) by omega, show ¬ (o = o + 1 + vs.length + (j - (o + 1 + vs.length))) by omega]
            congr 1 <;> omega
    · simp [e1]

theorem run_storeCells {b o : Nat} : ∀ (vs : List Value) (i : Nat) (w : World) (c : Array Value) (e : TypeId) (f : Nat × Nat), w.heap[b]? = some (.cells c e f) →
    (∀ j, j < c.size → ¬ (f.1 ≤ j ∧ j < f.2)) → (∀ v, v ∈ vs → v.oneCell' = true) → o + i + vs.length ≤ c.size →
    (storeCells ⟨b, o, none⟩ vs i).run P w = .ok () (wrW w b (o + i) vs)
  | [], i, w, c, e, f, _, _, _, _ => by simp [storeCells, wrW_nil]
  | v :: vs, i, w, c, e, f, h, hf, ho, hl => by
    simp only [List.length_cons] at hl
    have hc : w.cell? ⟨b, o + i, none⟩ = some c[o + i] := by
      simp only [World.cell?, h, Option.isSome_none, Bool.false_eq_true, if_false]
      exact Array.getElem?_eq_getElem _
    have hfz : w.frozen? ⟨b, o + i, none⟩ = false := by
      obtain ⟨lo, hi⟩ := f
      simp only [World.frozen?, h]
      have := hf (o + i) (by omega)
      simp only at this
      by_cases e1 : lo ≤ o + i
      · have : ¬ (o + i < hi) := fun g => this ⟨e1, g⟩
        simp [this]
      · simp [e1]
    simp only [storeCells, Sem.run_bind, add_eq]
    rw [run_store P w _ v .plain (ho v (by simp))]
    simp only [hc, hfz, Bool.false_eq_true, if_false, Result.andThen_ok]
    have hb : b < w.heap.size := by
      rcases Nat.lt_or_ge b w.heap.size with g | g
      · exact g
      · rw [Array.getElem?_eq_none g] at h; cases h
    rw [run_storeCells vs (i + 1) (w.setCell ⟨b, o + i, none⟩ v) (c.setIfInBounds (o + i) v) e f ?_ ?_ (fun u hu => ho u (by simp [hu])) (by simp; omega)]
    · congr 1
      rw [show o + (i + 1) = o + i + 1 by omega]
      exact wrW_cons w b (o + i) v vs h (by omega)
    · rw [World.heap_setCell w b (o + i) v h]
      simp [hb]
    · intro j hj
      exact hf j (by simpa using hj)

theorem R.wr (h : R n φ H w) {X o : Nat} {p : Pl} {l : List AV} {H' : AH} {vs : List Value} (hX : φ X = some p) (hr : H.wr X o l = some H') (hv : VRs φ l vs) (i : Nat) (base : Nat) (hbase : base + i = p.base + o) :
    ∃ w', (storeCells ⟨p.b, base, none⟩ vs i).run P w = .ok () w' ∧ R n φ H' w' ∧ Nx φ H w φ H' w' := by
  have hb := h.blk X p hX
  unfold AH.wr at hr
  split at hr
  · rename_i l0 e fl hg
    rw [hg] at hb
    obtain ⟨c, lo, hi, h1, h2, h3, h4, h5, h6⟩ := hb
    split at hr
    · rename_i hle
      simp only [Bool.and_eq_true] at hle
      obtain ⟨⟨k1, k2⟩, k3⟩ := hle
      have k1 := Nat.le_of_ble_eq_true k1
      have k2 := Nat.le_of_ble_eq_true k2
      cases hr
      have hlen := hv.length
      have hone : ∀ v, v ∈ vs → v.oneCell' = true := by
        intro v hm
        obtain ⟨j, hj⟩ := List.mem_iff_getElem?.1 hm
        have hlt : j < l.length := by
          rw [← hlen]
          rcases Nat.lt_or_ge j vs.length with g | g
          · exact g
          · rw [List.getElem?_eq_none g] at hj; cases hj
        obtain ⟨u, hu, hr⟩ := hv.get j l[j] (List.getElem?_eq_getElem hlt)
        rw [hj] at hu
        cases hu
        exact hr.one (List.all_eq_true.1 k3 _ (List.getElem_mem hlt))
      refine ⟨wrW w p.b (p.base + o) vs, ?_, ?_⟩
      · rw [run_storeCells vs i w c e (lo, hi) h1 (h5 k1) hone (by omega), hbase]
      · refine h.upd hX (by simp [AH.alive, hg]) _ (by simp [wrW]) (fun b hb => ?_) ⟨rfl, rfl, rfl⟩ ?_
        · simp only [wrW]
          rw [Array.getElem?_modify, if_neg (fun e => hb e.symm)]
        · refine ⟨Array.mk (c.toList.take (p.base + o) ++ vs ++ c.toList.drop (p.base + o + vs.length)), lo, hi, ?_, ?_, ?_, ?_, ?_, ?_⟩
          · simp only [wrW]
            rw [Array.getElem?_modify, if_pos rfl, h1]
            rfl
          · simp; omega
          · simp only [List.size_toArray, List.length_append, List.length_take, List.length_drop, Array.length_toList]; omega
          · intro g
            obtain ⟨q1, q2, q3⟩ := h4 g
            refine ⟨q1, q2, ?_⟩
            simp only [List.size_toArray, List.length_append, List.length_take, List.length_drop, Array.length_toList]
            omega
          · intro g j hj
            refine h5 g j ?_
            simp only [List.size_toArray, List.length_append, List.length_take, List.length_drop, Array.length_toList] at hj
            omega
          · intro j a ha
            simp only [List.getElem?_toArray]
            have m1 : min (p.base + o) c.size = p.base + o := by omega
            have m2 : min o l0.length = o := by omega
            rw [List.getElem?_append, List.getElem?_append] at ha ⊢
            simp only [List.length_append, List.length_take, Array.length_toList, m1, m2, List.getElem?_take, List.getElem?_drop] at ha ⊢
            by_cases j1 : j < o
            · simp only [show j < o + l.length by omega, j1, if_true] at ha
              simp only [show p.base + j < p.base + o + vs.length by omega, show p.base + j < p.base + o by omega, if_true, Array.getElem?_toList]
              exact h6 j a ha
            · by_cases j2 : j < o + l.length
              · simp only [j1, j2, if_true, if_false] at ha
                simp only [show p.base + j < p.base + o + vs.length by omega, show ¬ (p.base + j < p.base + o) by omega, if_true, if_false]
                obtain ⟨u, hu, hr⟩ := hv.get _ a ha
                exact ⟨u, by rw [← hu]; congr 1; omega, hr⟩
              · simp only [j2, if_false] at ha
                simp only [show ¬ (p.base + j < p.base + o + vs.length) by omega, if_false, Array.getElem?_toList]
                obtain ⟨u, hu, hr⟩ := h6 _ a ha
                exact ⟨u, by rw [← hu]; congr 1; omega, hr⟩
    · cases hr
  · cases hr
end cells
end Go.Vd
