/- Operations: what the evaluator gives, the model gives. Part 1. -/
import Derived.Test.YtabgoidablkmjaaGreatDoorVd5
set_option linter.unusedVariables false
set_option linter.unusedSimpArgs false
namespace Go.Vd

/-- Temporaries are as the evaluator's. -/
def FR (φ : Mp) (tm : Tr AV) (a : Act) : Prop := ∀ t, VR φ (ev tm (.t t)) (a.tmps.getD t undef)

theorem FR.mono {φ ψ : Mp} (h : Le φ ψ) {tm : Tr AV} {a : Act} (hf : FR φ tm a) : FR ψ tm a := fun t => VR.mono h _ _ (hf t)

/-- What an operation comes to in the model: a value, or nothing (then 'undef'). -/
def Yi (P : Program) (o : Oper) (a : Act) (w : World) (v : Value) (w' : World) : Prop :=
  (execOp a.eval o).run P w = .ok (.value v) w' ∨ ((execOp a.eval o).run P w = .ok .skip w' ∧ v = undef)

def Snd (P : Program) (n : Nat) (φ : Mp) (H : AH) (w : World) (o : Oper) (a : Act) (v : AV) (H' : AH) : Prop :=
  ∃ ψ v' w', Yi P o a w v' w' ∧ R n ψ H' w' ∧ Nx φ H w ψ H' w' ∧ VR ψ v v'

section
variable {P : Program} {φ : Mp} {H : AH} {w : World} {tm : Tr AV} {a : Act} {o : Oper} {C : Ctx}

theorem opd_rel (hR : R P.globals.size φ H w) (hF : FR φ tm a) {x : Operand} {y : Opd} (hc : cOpd P x = some y) : VR φ (ev tm y) (a.eval x) := by
  cases x with
  | tmp t => simp only [cOpd, Option.some.injEq] at hc; subst hc; exact hF t
  | const v =>
    simp only [cOpd] at hc
    split at hc
    · rename_i u hu
      cases hc
      exact cvV_rel v u hu
    · cases hc
  | global g =>
    simp only [cOpd] at hc
    split at hc
    · rename_i hg
      cases hc
      have hg : g < P.globals.size := Nat.le_of_ble_eq_true hg
      obtain ⟨r, hr⟩ := hR.gl g hg
      simp only [ev, VR, Act.eval]
      exact ⟨_, hr, by simp⟩
    · cases hc
  | func f =>
    simp only [cOpd, Option.some.injEq] at hc
    subst hc
    simp only [ev, VR, VRs, Act.eval]
    exact ⟨[], [], rfl, rfl, rfl⟩

theorem opds_rel (hR : R P.globals.size φ H w) (hF : FR φ tm a) : ∀ {l : List Operand} {m : List Opd}, cOpds P l = some m → VRs φ (evs tm m) (l.map a.eval)
  | [], m, hc => by simp only [cOpds, Option.some.injEq] at hc; subst hc; simp [evs, VRs]
  | x :: l, m, hc => by
    simp only [cOpds] at hc
    split at hc
    · rename_i y m' h1 h2
      cases hc
      simp only [evs, VRs, List.map_cons]
      exact ⟨_, _, rfl, opd_rel hR hF h1, opds_rel hR hF h2⟩
    · cases hc

/-- An operation that leaves all as it is. -/
theorem Snd.still {n : Nat} (hR : R n φ H w) {v : AV} {v' : Value} (h : (execOp a.eval o).run P w = .ok (.value v') w) (hv : VR φ v v') : Snd P n φ H w o a v H :=
  ⟨φ, v', w, .inl h, hR, Nx.refl φ H w, hv⟩

theorem s_move {x : Operand} {y : Opd} (hR : R P.globals.size φ H w) (hF : FR φ tm a) (ho : o.op = .move x ∨ o.op = .assign x) (hc : cOpd P x = some y) : Snd P P.globals.size φ H w o a (ev tm y) H := by
  refine Snd.still hR (v' := a.eval x) ?_ (opd_rel hR hF hc)
  rcases ho with ho | ho <;> simp [execOp, ho]

theorem VR.bool_inv {b : Bool} {v : Value} (h : VR φ (.bool b) v) : v = .bool b := by simpa only [VR] using h
theorem VR.int_inv {k : IntKind} {n : Int} {v : Value} (h : VR φ (.int k n) v) : v = .int k n := by simpa only [VR] using h
theorem VR.str_inv {l : List UInt8} {v : Value} (h : VR φ (.str l) v) : v = .string ⟨l.toArray⟩ := by simpa only [VR] using h
theorem VR.nilp_inv {v : Value} (h : VR φ .nilp v) : v = .pointer none := by simpa only [VR] using h
theorem VR.nils_inv {v : Value} (h : VR φ .nils v) : v = .slice none 0 0 := by simpa only [VR] using h
theorem VR.nilm_inv {v : Value} (h : VR φ .nilm v) : v = .map none := by simpa only [VR] using h
theorem VR.nilf_inv {v : Value} (h : VR φ .nilf v) : v = .nilFunc := by simpa only [VR] using h
theorem VR.nili_inv {v : Value} (h : VR φ .nili v) : v = .nilIface := by simpa only [VR] using h
theorem VR.ptr_inv {X u : Nat} {v : Value} (h : VR φ (.ptr X u) v) : ∃ p, φ X = some p ∧ v = .pointer (some ⟨p.b, p.base + u, none⟩) := by simpa only [VR] using h
theorem VR.ifc_inv {t : Nat} {x : AV} {v : Value} (h : VR φ (.ifc t x) v) : ∃ y, v = .iface t y ∧ VR φ x y := by simpa only [VR] using h
theorem VR.agg_inv {l : List AV} {v : Value} (h : VR φ (.agg l) v) : ∃ vs, v = .agg ⟨vs⟩ ∧ VRs φ l vs := by simpa only [VR] using h
theorem VR.tup_inv {l : List AV} {v : Value} (h : VR φ (.tup l) v) : ∃ vs, v = .tuple ⟨vs⟩ ∧ VRs φ l vs := by simpa only [VR] using h
theorem VR.map_inv {X : Nat} {v : Value} (h : VR φ (.map X) v) : ∃ p, φ X = some p ∧ v = .map (some p.b) := by simpa only [VR] using h

theorem s_pick {c x y : Operand} {c' x' y' : Opd} (hR : R P.globals.size φ H w) (hF : FR φ tm a) (ho : o.op = .pick c x y) (hc : cOpd P c = some c') (hx : cOpd P x = some x') (hy : cOpd P y = some y')
    {v : AV} {H' : AH} (ha : aop C tm H (.pick c' x' y') = .val v H') : Snd P P.globals.size φ H w o a v H' := by
  have h1 := opd_rel hR hF hc
  simp only [aop] at ha
  split at ha
  · rename_i e
    cases ha
    rw [e] at h1
    refine Snd.still hR (v' := a.eval x) ?_ (opd_rel hR hF hx)
    simp [execOp, ho, h1.bool_inv, asBool]
  · rename_i e
    cases ha
    rw [e] at h1
    refine Snd.still hR (v' := a.eval y) ?_ (opd_rel hR hF hy)
    simp [execOp, ho, h1.bool_inv, asBool]
  · cases ha

/-! ### New blocks -/

theorem CellsR.of_VRs {ψ : Mp} {l : List AV} {vs : List Value} (h : VRs ψ l vs) : CellsR ψ l ⟨vs⟩ 0 := fun i b hb => by
  obtain ⟨v, h1, h2⟩ := h.get i b hb
  exact ⟨v, by simpa using h1, h2⟩

/-- A new row of cells. -/
theorem R.row {n : Nat} (hR : R n φ H w) (hng : n ≤ H.next) {l : List AV} {vs : List Value} (hv : VRs φ l vs) (extra : List Value) (e : TypeId) (fl : Nat) (hfl : fl = 0 → extra = []) :
    R n (φ.add H.next ⟨w.heap.size, 0, (vs ++ extra).length⟩) (H.push (.cells l e fl)) { w with heap := w.heap.push (.cells ⟨vs ++ extra⟩ e) } ∧
    Nx φ H w (φ.add H.next ⟨w.heap.size, 0, (vs ++ extra).length⟩) (H.push (.cells l e fl)) { w with heap := w.heap.push (.cells ⟨vs ++ extra⟩ e) } := by
  refine hR.push hng _ _ rfl ?_
  refine ⟨⟨vs ++ extra⟩, 0, 0, by simp, by simp [hv.length], by simp, fun e => ⟨⟨rfl, rfl⟩, rfl, by simp [hfl e, hv.length]⟩, fun _ i _ hh => by omega, ?_⟩
  intro i b hb
  obtain ⟨v, h1, h2⟩ := (VRs.mono (Mp.add_le (hR.none_of_ge (Nat.le_refl _))) l vs hv).get i b hb
  refine ⟨v, ?_, h2⟩
  have hlt : i < vs.length := by
    rcases Nat.lt_or_ge i vs.length with g | g
    · exact g
    · rw [List.getElem?_eq_none g] at h1; cases h1
  simp only [Nat.zero_add, List.getElem?_toArray]
  rw [List.getElem?_append_left hlt]
  exact h1

theorem R.ng {n : Nat} (h : R n φ H w) (hn : 0 < n) : n ≤ H.next := by
  obtain ⟨r, hr⟩ := h.gl (n - 1) (by omega)
  have := (h.lo _ _ hr).1
  omega

theorem s_alloc {e : TypeId} {zs : List AV} (hg : P.globals.size ≤ H.next) (hR : R P.globals.size φ H w) (ho : o.op = .alloc e) (hz : zrOf P e = some zs)
    {v : AV} {H' : AH} (ha : aop C tm H (.alloc e zs) = .val v H') : Snd P P.globals.size φ H w o a v H' := by
  obtain ⟨i, z, b, hi, hz1, hz2, rfl⟩ := zrOf_some hz
  simp only [aop] at ha
  split at ha
  · cases ha
    have hv : VRs φ b.cells z.cells.toList := (cvV_rel z b hz2).cells
    obtain ⟨h1, h2⟩ := hR.row hg hv [] e 0 (fun _ => rfl)
    refine ⟨_, .pointer (some ⟨w.heap.size, 0, none⟩), _, .inl ?_, h1, h2, ?_⟩
    · simp [execOp, ho, Instr.alloc, run_zeroValue' hi hz1, run_newVar']
    · simp only [VR]
      exact ⟨_, Mp.add_self _ _ _, by simp⟩
  · cases ha

theorem s_box {e : TypeId} {x : Operand} {y : Opd} (hg : P.globals.size ≤ H.next) (hR : R P.globals.size φ H w) (hF : FR φ tm a) (ho : o.op = .box e x) (hc : cOpd P x = some y)
    {v : AV} {H' : AH} (ha : aop C tm H (.box e y) = .val v H') : Snd P P.globals.size φ H w o a v H' := by
  simp only [aop] at ha
  split at ha
  · cases ha
    have hv := (opd_rel hR hF hc).cells
    obtain ⟨h1, h2⟩ := hR.row hg hv [] e 0 (fun _ => rfl)
    refine ⟨_, .pointer (some ⟨w.heap.size, 0, none⟩), _, .inl ?_, h1, h2, ?_⟩
    · simp [execOp, ho, Instr.box, run_newVar']
    · simp only [VR]
      exact ⟨_, Mp.add_self _ _ _, by simp⟩
  · cases ha

/-! ### Values that are built -/

theorem run_mapM_list {P : Program} {α β : Type} (f : α → Sem β) (g : α → β) : ∀ (l : List α) (w : World), (∀ x, x ∈ l → ∀ w, (f x).run P w = .ok (g x) w) → (l.mapM f).run P w = .ok (l.map g) w
  | [], w, _ => by simp
  | x :: l, w, h => by
    simp only [List.mapM_cons, Sem.run_bind, h x (by simp) w, Result.andThen_ok]
    rw [run_mapM_list f g l w fun y hy => h y (by simp [hy])]
    simp

theorem run_mapM {P : Program} {α β : Type} (f : α → Sem β) (g : α → β) (xs : Array α) (w : World) (h : ∀ x, x ∈ xs → ∀ w, (f x).run P w = .ok (g x) w) : (xs.mapM f).run P w = .ok (xs.map g) w := by
  rw [Array.mapM_eq_mapM_toList]
  simp only [Sem.run_map]
  rw [run_mapM_list f g xs.toList w fun x hx => h x (by simpa using hx)]
  simp [← Array.toList_map]

theorem foldl_set {α : Type} : ∀ (vs : List α) (k : Nat) (cs : Array α) (off : Nat), off + k + vs.length ≤ cs.size →
    (vs.zipIdx k).foldl (fun (cs : Array α) (p : α × Nat) => cs.setIfInBounds (off + p.2) p.1) cs = ⟨cs.toList.take (off + k) ++ vs ++ cs.toList.drop (off + k + vs.length)⟩
  | [], k, cs, off, _ => by simp
  | v :: vs, k, cs, off, h => by
    simp only [List.length_cons] at h
    simp only [List.zipIdx_cons, List.foldl_cons]
    rw [foldl_set vs (k + 1) (cs.setIfInBounds (off + k) v) off (by simp; omega)]
    congr 1
    simp only [Array.toList_setIfInBounds]
    apply List.ext_getElem?
    intro j
    have hcs : cs.toList.length = cs.size := by simp
    simp only [List.getElem?_append, List.length_append, List.length_take, List.length_set, List.length_cons, hcs, List.getElem?_take, List.getElem?_drop, List.getElem?_set, List.getElem?_cons]
    have m1 : min (off + (k + 1)) cs.size = off + k + 1 := by omega
    have m2 : min (off + k) cs.size = off + k := by omega
    simp only [m1, m2]
    by_cases j1 : j < off + k
    · simp [j1, show j < off + k + 1 by omega, show j < off + k + 1 + vs.length by omega, show j < off + k + (vs.length + 1) by omega, show j < off + (k + 1) by omega, show ¬ (off + k = j) by omega]
    · by_cases j2 : j = off + k
      · subst j2
        simp [show off + k < off + (k + 1) by omega, show off + k < cs.size by omega, show off + k < off + k + 1 + vs.length by omega]
      · by_cases j3 : j < off + k + 1 + vs.length
        · simp only [j1, show ¬ (j < off + k + 1) by omega, j3, show j < off + k + (vs.length + 1) by omega, show ¬ (j - (off + k) = 0) by omega, if_true, if_false]
          congr 1 <;> omega
        · simp only [j1, show ¬ (j < off + k + 1) by omega, j3, show ¬ (j < off + k + (vs.length + 1)) by omega, if_false, show ¬ (off + k = off + (k + 1) + vs.length + (j - (off + k + 1 + vs.length))) by omega]
          congr 1 <;> omega

/-- The parts of a literal. -/
def PartsR (φ : Mp) (place : Nat → Option (Nat × Nat)) : List (Nat × Nat × AV) → List (Nat × Value) → Prop
  | [], l => l = []
  | (off, sz, x) :: m, l => ∃ i v l', l = (i, v) :: l' ∧ place i = some (off, sz) ∧ VR φ x v ∧ PartsR φ place m l'

theorem fill_rel {place : Nat → Option (Nat × Nat)} : ∀ {m : List (Nat × Nat × AV)} {l : List (Nat × Value)} {zs out : List AV} {cs : List Value}, PartsR φ place m l → VRs φ zs cs → fillA zs m = some out →
    ∃ vs, Instr.fill place ⟨cs⟩ l = some ⟨vs⟩ ∧ VRs φ out vs
  | [], l, zs, out, cs, hp, hz, hf => by
    simp only [PartsR] at hp
    subst hp
    simp only [fillA, Option.some.injEq] at hf
    subst hf
    exact ⟨cs, by simp [Instr.fill], hz⟩
  | (off, sz, x) :: m, l, zs, out, cs, hp, hz, hf => by
    simp only [PartsR] at hp
    obtain ⟨i, v, l', rfl, hpl, hxv, hp⟩ := hp
    simp only [fillA] at hf
    split at hf
    · rename_i hc
      simp only [Bool.and_eq_true] at hc
      obtain ⟨⟨c1, c2⟩, c3⟩ := hc
      have c1 := Nat.eq_of_beq_eq_true c1
      have c2 := Nat.le_of_ble_eq_true c2
      have hcl := hxv.cells
      have hlen := hcl.length
      have hzl := hz.length
      have hsz : v.cells.size = sz := by rw [← Array.length_toList, hlen, c1]
      obtain ⟨vs, h1, h2⟩ := fill_rel (place := place) (m := m) (l := l') (cs := cs.take off ++ v.cells.toList ++ cs.drop (off + v.cells.toList.length)) hp ((hz.take off).append hcl |>.append (by
        have := hz.drop (off + sz)
        rwa [show off + sz = off + v.cells.toList.length by simp [hsz]] at this
        )) (by rw [show off + v.cells.toList.length = off + sz by simp [hsz]]; exact hf)
      refine ⟨vs, ?_, h2⟩
      rw [Instr.fill]
      simp only [hpl]
      have hno : ¬ ((v.cells.size ≠ sz || off + v.cells.size > (Array.mk cs).size) = true) := by
        simp [hsz, hzl]; omega
      rw [if_neg hno]
      have := foldl_set v.cells.toList 0 ⟨cs⟩ off (by simp [hsz, hzl]; omega)
      simp only [Nat.add_zero] at this
      rw [← Array.foldl_toList, Array.toList_zipIdx]
      rw [this]
      exact h1
    · cases hf

theorem parts_fields (hR : R P.globals.size φ H w) (hF : FR φ tm a) (fs : List Field) (places : Nat → Option (Nat × Nat)) (hpl : ∀ (i : Nat) (f : Field) (s : Nat), fs[i]? = some f → szOf P f.type = some s → places i = some (f.offset, s)) :
    ∀ {l : List (Nat × Operand)} {m : List (Nat × Nat × Opd)}, cParts P fs l = some m → PartsR φ places (evp tm m) (l.map fun p => (p.1, a.eval p.2))
  | [], m, h => by simp only [cParts, Option.some.injEq] at h; subst h; simp [evp, PartsR]
  | (i, x) :: l, m, h => by
    simp only [cParts] at h
    split at h
    · cases h
    · rename_i f hf
      split at h
      · rename_i s y m' h1 h2 h3
        cases h
        simp only [evp, PartsR, List.map_cons]
        exact ⟨i, _, _, rfl, hpl i f s hf h1, opd_rel hR hF h2, parts_fields hR hF fs places hpl h3⟩
      · cases h

theorem parts_array (hR : R P.globals.size φ H w) (hF : FR φ tm a) (sz : Nat) :
    ∀ {l : List (Nat × Operand)} {m : List (Nat × Nat × Opd)}, cPartsA P sz l = some m → PartsR φ (fun i => some (i * sz, sz)) (evp tm m) (l.map fun p => (p.1, a.eval p.2))
  | [], m, h => by simp only [cPartsA, Option.some.injEq] at h; subst h; simp [evp, PartsR]
  | (i, x) :: l, m, h => by
    simp only [cPartsA] at h
    split at h
    · rename_i y m' h2 h3
      cases h
      simp only [evp, PartsR, List.map_cons]
      exact ⟨i, _, _, rfl, rfl, opd_rel hR hF h2, parts_array hR hF sz h3⟩
    · cases h

theorem s_build {t : TypeId} {ps : Array (Nat × Operand)} {b : AOp} (hR : R P.globals.size φ H w) (hF : FR φ tm a) (ho : o.op = .build t ps) (hc : cop P o = some b)
    {v : AV} {H' : AH} (ha : aop C tm H b = .val v H') : Snd P P.globals.size φ H w o a v H' := by
  simp only [cop, ho] at hc
  split at hc
  · rename_i zs fs hz hu
    split at hc
    · rename_i hfs
      have hall : ∀ f, f ∈ fs → ∃ j, P.info? f.type = some j := fun f hf => by
        have := List.all_eq_true.1 hfs f (by simpa using hf)
        exact Option.isSome_iff_exists.1 this
      simp only [Option.map_eq_some_iff] at hc
      obtain ⟨m, hm, rfl⟩ := hc
      obtain ⟨i, z, b, hi, hz1, hz2, rfl⟩ := zrOf_some hz
      simp only [aop, ofV] at ha
      split at ha
      · rename_i u hu'
        cases ha
        simp only [Option.map_eq_some_iff] at hu'
        obtain ⟨out, hout, rfl⟩ := hu'
        have hrun : ∀ w, (fs.mapM (fun f : Field => (do pure (f.offset, ← sizeOf f.type) : Sem (Nat × Nat)))).run P w = .ok (fs.map fun f : Field => (f.offset, P.cellsOf f.type)) w := fun w =>
          run_mapM _ (fun f : Field => (f.offset, P.cellsOf f.type)) fs w fun f hf w => by
            obtain ⟨j, hj⟩ := hall f hf
            simp [run_sizeOf' hj, Program.cellsOf, hj]
        have hpl : ∀ (i : Nat) (f : Field) (s : Nat), fs.toList[i]? = some f → szOf P f.type = some s → (fs.map fun f : Field => (f.offset, P.cellsOf f.type))[i]? = some (f.offset, s) := by
          intro i f s h1 h2
          obtain ⟨j, hj, rfl⟩ := szOf_some h2
          simp only [Array.getElem?_toList] at h1
          simp [h1, Program.cellsOf, hj]
        obtain ⟨vs, h1, h2⟩ := fill_rel (parts_fields hR hF fs.toList _ hpl hm) (cvV_rel z b hz2).cells hout
        refine Snd.still hR (v' := .agg ⟨vs⟩) ?_ (by simp only [VR]; exact ⟨vs, rfl, h2⟩)
        simp only [execOp, ho, Instr.build, Sem.run_bind, run_zeroValue' hi hz1, run_underlying' hu, Result.andThen_ok, hrun]
        have e1 : (ps.map fun p => (p.1, a.eval p.2)).toList = ps.toList.map fun p => (p.1, a.eval p.2) := by simp
        rw [e1]
        have e2 : (Array.mk z.cells.toList) = z.cells := rfl
        rw [e2] at h1
        rw [h1]
        simp
      · cases ha
    · cases hc
  · rename_i zs len e hz hu
    split at hc
    · rename_i sz hsz
      simp only [Option.map_eq_some_iff] at hc
      obtain ⟨m, hm, rfl⟩ := hc
      obtain ⟨i, z, b, hi, hz1, hz2, rfl⟩ := zrOf_some hz
      obtain ⟨ie, hie, rfl⟩ := szOf_some hsz
      simp only [aop, ofV] at ha
      split at ha
      · rename_i u hu'
        cases ha
        simp only [Option.map_eq_some_iff] at hu'
        obtain ⟨out, hout, rfl⟩ := hu'
        obtain ⟨vs, h1, h2⟩ := fill_rel (parts_array hR hF ie.size hm) (cvV_rel z b hz2).cells hout
        refine Snd.still hR (v' := .agg ⟨vs⟩) ?_ (by simp only [VR]; exact ⟨vs, rfl, h2⟩)
        simp only [execOp, ho, Instr.build, Sem.run_bind, run_zeroValue' hi hz1, run_underlying' hu, Result.andThen_ok, run_sizeOf' hie]
        have e1 : (ps.map fun p => (p.1, a.eval p.2)).toList = ps.toList.map fun p => (p.1, a.eval p.2) := by simp
        rw [e1]
        have e2 : (Array.mk z.cells.toList) = z.cells := rfl
        rw [e2] at h1
        rw [h1]
        simp
      · cases ha
    · cases hc
  · cases hc
end
end Go.Vd
