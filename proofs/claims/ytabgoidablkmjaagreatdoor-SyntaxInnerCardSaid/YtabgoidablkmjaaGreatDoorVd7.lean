/- Operations: what the evaluator gives, the model gives. Part 2. -/
import Derived.Test.YtabgoidablkmjaaGreatDoorVd6
set_option linter.unusedVariables false
set_option linter.unusedSimpArgs false
namespace Go.Vd

section
variable {P : Program} {φ : Mp} {H : AH} {w : World} {tm : Tr AV} {a : Act} {o : Oper} {C : Ctx}

theorem repl_length (zs : List AV) : ∀ n, (repl zs n).length = n * zs.length
  | 0 => by simp [repl]
  | n + 1 => by simp [repl, repl_length zs n, Nat.add_mul]; omega

def replV (zs : List Value) : Nat → List Value
  | 0 => []
  | n + 1 => zs ++ replV zs n

theorem replV_length (zs : List Value) : ∀ n, (replV zs n).length = n * zs.length
  | 0 => by simp [replV]
  | n + 1 => by simp [replV, replV_length zs n, Nat.add_mul]; omega

theorem repl_rel {zs : List AV} {vs : List Value} (h : VRs φ zs vs) : ∀ n, VRs φ (repl zs n) (replV vs n)
  | 0 => by simp [repl, replV, VRs]
  | n + 1 => by
    simp only [repl, replV]
    exact h.append (repl_rel h n)

theorem replV_get (zs : List Value) : ∀ (n i : Nat), i < n * zs.length → (replV zs n)[i]? = zs[i % zs.length]?
  | 0, i, h => by simp at h
  | n + 1, i, h => by
    simp only [replV]
    by_cases hi : i < zs.length
    · rw [List.getElem?_append_left hi, Nat.mod_eq_of_lt hi]
    · rw [List.getElem?_append_right (by omega)]
      rw [replV_get zs n (i - zs.length) (by rw [Nat.add_mul] at h; omega)]
      congr 1
      have : i = (i - zs.length) + zs.length := by omega
      conv => rhs; rw [this]
      simp

theorem zeros_eq (zs : Array Value) (n : Nat) : ((Array.range (n * zs.size)).map (fun i => zs[i % zs.size]!)) = ⟨replV zs.toList n⟩ := by
  apply Array.ext
  · simp [replV_length]
  · intro i h1 h2
    simp only [Array.size_map, Array.size_range] at h1
    simp only [Array.getElem_map, Array.getElem_range]
    have hz : 0 < zs.size := by
      rcases Nat.eq_zero_or_pos zs.size with e | e
      · rw [e] at h1; simp at h1
      · exact e
    have hm : i % zs.size < zs.size := Nat.mod_lt _ hz
    have := replV_get zs.toList n i (by simpa using h1)
    simp only [Array.length_toList] at this
    rw [List.getElem?_eq_getElem (by simpa [replV_length] using h1), Array.getElem?_toList, Array.getElem?_eq_getElem hm] at this
    have e1 := Option.some.inj this
    simp only [hm, getElem!_pos]
    rw [← e1]
    rfl

theorem s_bslice {t n : Nat} {ps : Array (Nat × Operand)} {b : AOp} (hg : P.globals.size ≤ H.next) (hR : R P.globals.size φ H w) (hF : FR φ tm a) (ho : o.op = .buildSlice t n ps) (hc : cop P o = some b)
    {v : AV} {H' : AH} (ha : aop C tm H b = .val v H') : Snd P P.globals.size φ H w o a v H' := by
  simp only [cop, ho] at hc
  split at hc
  · rename_i e hu
    split at hc
    · rename_i sz zs hsz hz
      split at hc
      · cases hc
      · rename_i hno
        split at hc
        · rename_i l hl
          split at hc
          · rename_i hzl
            cases hc
            have hzl := Nat.eq_of_beq_eq_true hzl
            obtain ⟨ie, hie, hes⟩ := szOf_some hsz
            obtain ⟨i, z, b, hi, hz1, hz2, rfl⟩ := zrOf_some hz
            rw [hie] at hi
            cases hi
            simp only [Bool.or_eq_true, Bool.not_eq_true', not_or, Bool.not_eq_false] at hno
            have hs0 : sz ≠ 0 := by
              intro e
              rw [e] at hno
              exact absurd rfl hno.1
            have hle := Nat.le_of_ble_eq_true hno.2
            simp only [aop] at ha
            split at ha
            · rename_i out hout
              split at ha
              · cases ha
                have hzv : VRs φ b.cells z.cells.toList := (cvV_rel z b hz2).cells
                have hzlen : z.cells.size = sz := by rw [← Array.length_toList, hzv.length, hzl]
                have evq_eq : ∀ (l : List (Nat × Nat × Opd)), cPartsA P sz ps.toList = some l → evq tm sz (l.map fun x => (x.1, x.2.2)) = evp tm l := by
                  have key : ∀ (q : List (Nat × Operand)) (l : List (Nat × Nat × Opd)), cPartsA P sz q = some l → evq tm sz (l.map fun x => (x.1, x.2.2)) = evp tm l := by
                    intro q
                    induction q with
                    | nil => intro l h; simp only [cPartsA, Option.some.injEq] at h; subst h; rfl
                    | cons x q ih =>
                      intro l h
                      obtain ⟨j, x⟩ := x
                      simp only [cPartsA] at h
                      split at h
                      · rename_i y m' h2 h3
                        cases h
                        simp only [List.map_cons, evq, evp]
                        rw [ih m' h3]
                      · cases h
                  exact key ps.toList
                have hout' : fillA (repl b.cells n) (evp tm l) = some out := by
                  rw [← evq_eq l hl]
                  exact hout
                obtain ⟨vs, h1, h2⟩ := fill_rel (parts_array hR hF sz hl) (repl_rel hzv n) hout'
                obtain ⟨g1, g2⟩ := hR.row hg h2 [] e 0 (fun _ => rfl)
                have hlen : vs.length = n * sz := by
                  have e1 : ∀ (m : List (Nat × Nat × AV)) (zs out : List AV), fillA zs m = some out → out.length = zs.length := by
                    intro m
                    induction m with
                    | nil => intro zs out h; simp only [fillA, Option.some.injEq] at h; subst h; rfl
                    | cons x m ih =>
                      intro zs out h
                      obtain ⟨p, q, x⟩ := x
                      simp only [fillA] at h
                      split at h
                      · rename_i hc
                        simp only [Bool.and_eq_true] at hc
                        have c1 := Nat.eq_of_beq_eq_true hc.1.1
                        have c2 := Nat.le_of_ble_eq_true hc.1.2
                        have := ih _ _ h
                        rw [this]
                        simp
                        omega
                      · cases h
                  rw [h2.length, e1 _ _ _ hout', repl_length, hzl]
                refine ⟨_, .slice (some ⟨w.heap.size, 0, none⟩) n n, _, .inl ?_, g1, g2, ?_⟩
                · simp only [execOp, ho, Instr.buildSlice, Sem.run_bind, run_underlying' hu, Result.andThen_ok, run_sizeOf' hie, hes]
                  rw [if_neg (by omega)]
                  have e1 : (ps.map fun p => (p.1, a.eval p.2)).toList = ps.toList.map fun p => (p.1, a.eval p.2) := by simp
                  by_cases hn : n * sz = 0
                  · have hn0 : n = 0 := by
                      rcases Nat.mul_eq_zero.1 hn with e | e
                      · exact e
                      · exact absurd e hs0
                    rw [if_pos hn]
                    simp only [Sem.run_bind, Sem.run_pure, Result.andThen_ok, hn]
                    rw [e1]
                    have h1' := h1
                    subst hn0
                    simp only [replV] at h1'
                    rw [show ((Array.range 0).map (fun i => (#[] : Array Value)[i % (#[] : Array Value).size]!)) = (Array.mk ([] : List Value)) by simp, h1']
                    simp [newRow]
                  · rw [if_neg hn]
                    simp only [Sem.run_bind, Sem.run_pure, Result.andThen_ok, run_zeroValue' hie hz1]
                    rw [e1, ← hzlen, zeros_eq z.cells n, hzlen, h1]
                    simp [newRow]
                · simp only [VR]
                  exact ⟨_, _, _, Mp.add_self _ _ _, rfl, fun _ => rfl, (fun h => nomatch h), fun _ => by simp⟩
              · cases ha
            · cases ha
          · cases hc
        · cases hc
    · cases hc
  · cases hc

theorem s_ld {t : Nat} {x : Operand} {b : AOp} (hR : R P.globals.size φ H w) (hF : FR φ tm a) (ho : o.op = .load t x) (hc : cop P o = some b)
    {v : AV} {H' : AH} (ha : aop C tm H b = .val v H') : Snd P P.globals.size φ H w o a v H' := by
  simp only [cop, ho] at hc
  split at hc
  · rename_i d n y hu hsz hx
    obtain ⟨i, hi, hes⟩ := szOf_some hsz
    have hrel := opd_rel hR hF hx
    split at hc
    · rename_i hagg
      cases hc
      simp only [aop] at ha
      split at ha
      · rename_i X u hX
        rw [hX] at hrel
        obtain ⟨p, h1, h2⟩ := hrel.ptr_inv
        simp only [ofV] at ha
        split at ha
        · rename_i r hr
          cases ha
          simp only [Option.map_eq_some_iff] at hr
          obtain ⟨l, hl, rfl⟩ := hr
          obtain ⟨vs, g1, g2, g3⟩ := hR.run_loadCells (P := P) h1 hl
          refine Snd.still hR (v' := .agg ⟨vs⟩) ?_ (by simp only [VR]; exact ⟨vs, rfl, g1⟩)
          simp only [execOp, ho, Instr.loadAt, h2, Instr.sureAddr, Sem.run_bind, Sem.run_pure, Result.andThen_ok, loadVar, run_isAgg' hu, hagg, if_true, run_sizeOf' hi, hes, g3]
        · cases ha
      · cases ha
    · rename_i hagg
      cases hc
      simp only [aop] at ha
      split at ha
      · rename_i X u hX
        rw [hX] at hrel
        obtain ⟨p, h1, h2⟩ := hrel.ptr_inv
        simp only [ofV] at ha
        split at ha
        · rename_i r hr
          cases ha
          obtain ⟨v', g1, g2⟩ := hR.rd h1 hr
          refine Snd.still hR (v' := v') ?_ g2
          simp only [execOp, ho, Instr.loadAt, h2, Instr.sureAddr, Sem.run_bind, Sem.run_pure, Result.andThen_ok, loadVar, run_isAgg' hu, hagg, if_false, run_load' g1]
          simp [g1]
        · cases ha
      · cases ha
  · cases hc

theorem s_st {t : Nat} {x y : Operand} {b : AOp} (hR : R P.globals.size φ H w) (hF : FR φ tm a) (ho : o.op = .store t x y) (hc : cop P o = some b)
    {v : AV} {H' : AH} (ha : aop C tm H b = .val v H') : Snd P P.globals.size φ H w o a v H' := by
  simp only [cop, ho] at hc
  split at hc
  · rename_i n x' y' hsz hx hy
    cases hc
    obtain ⟨i, hi, hes⟩ := szOf_some hsz
    have hrel := opd_rel hR hF hx
    have hrel2 := (opd_rel hR hF hy).cells
    simp only [aop] at ha
    split at ha
    · rename_i X u hX
      rw [hX] at hrel
      obtain ⟨p, h1, h2⟩ := hrel.ptr_inv
      split at ha
      · rename_i hlen
        have hlen := Nat.eq_of_beq_eq_true hlen
        split at ha
        · rename_i K hK
          cases ha
          obtain ⟨w', g1, g2, g3⟩ := hR.wr (P := P) h1 hK hrel2 0 (p.base + u) (by omega)
          refine ⟨φ, undef, w', .inr ⟨?_, rfl⟩, g2, g3, by simp [AV.und, VR, VRs, undef]⟩
          simp only [execOp, ho, Instr.storeAt, h2, Instr.sureAddr, Sem.run_bind, Sem.run_pure, Result.andThen_ok, storeVar, run_sizeOf' hi, hes]
          have : (a.eval y).cells.size = n := by rw [← Array.length_toList, hrel2.length, hlen]
          rw [if_neg (by simp [this])]
          simp only [g1, Result.andThen_ok]
        · cases ha
      · cases ha
    · cases ha
  · cases hc

theorem s_chk {x : Operand} {y : Opd} (hR : R P.globals.size φ H w) (hF : FR φ tm a) (ho : o.op = .nilCheck x) (hc : cOpd P x = some y)
    {v : AV} {H' : AH} (ha : aop C tm H (.chk y) = .val v H') : Snd P P.globals.size φ H w o a v H' := by
  have hrel := opd_rel hR hF hc
  simp only [aop] at ha
  split at ha
  · rename_i hp
    cases ha
    refine Snd.still hR (v' := a.eval x) ?_ hrel
    generalize ev tm y = u at hrel hp
    simp only [execOp, ho]
    cases u <;> simp [AV.isPtr] at hp <;> simp only [VR] at hrel
    case fn f l m =>
      obtain ⟨as, bs, e, _, _⟩ := hrel
      rw [e]
      cases f <;> simp [AV.isPtr] at hp ⊢
    all_goals first
      | (rw [hrel]; simp)
      | (obtain ⟨p, q, c, _, e, _⟩ := hrel; rw [e]; simp)
      | (obtain ⟨p, _, e⟩ := hrel; rw [e]; simp)
      | (obtain ⟨p, e, _⟩ := hrel; rw [e]; simp)
  · cases ha

theorem s_mki {t : Nat} {x : Operand} {b : AOp} (hR : R P.globals.size φ H w) (hF : FR φ tm a) (ho : o.op = .makeInterface t x) (hc : cop P o = some b)
    {v : AV} {H' : AH} (ha : aop C tm H b = .val v H') : Snd P P.globals.size φ H w o a v H' := by
  simp only [cop, ho] at hc
  split at hc
  · cases hc
  · rename_i d y hno hu hx
    cases hc
    simp only [aop] at ha
    cases ha
    have hrel := opd_rel hR hF hx
    refine Snd.still hR (v' := .iface t (a.eval x)) ?_ (by simp only [VR]; exact ⟨_, rfl, hrel⟩)
    simp only [execOp, ho, Instr.makeInterface, Sem.run_bind, run_underlying' hu, Result.andThen_ok]
    cases d <;> first
      | (simp; done)
      | (rename_i ms; exact absurd hu (hno ms))
  · cases hc

theorem s_mkf {f : Fn} {x y : Array Operand} {b : AOp} (hR : R P.globals.size φ H w) (hF : FR φ tm a) (ho : o.op = .makeFunc f x y) (hc : cop P o = some b)
    {v : AV} {H' : AH} (ha : aop C tm H b = .val v H') : Snd P P.globals.size φ H w o a v H' := by
  simp only [cop, ho] at hc
  split at hc
  · rename_i l m h1 h2
    cases hc
    simp only [aop] at ha
    cases ha
    refine Snd.still hR (v' := .func f (x.map a.eval) (y.map a.eval)) ?_ ?_
    · simp [execOp, ho, Instr.makeFunc]
    · simp only [VR]
      refine ⟨x.toList.map a.eval, y.toList.map a.eval, ?_, opds_rel hR hF h1, opds_rel hR hF h2⟩
      simp [← Array.toList_map]
  · cases hc

theorem s_fad {t f : Nat} {x : Operand} {b : AOp} (hR : R P.globals.size φ H w) (hF : FR φ tm a) (ho : o.op = .fieldAddr t x f) (hc : cop P o = some b)
    {v : AV} {H' : AH} (ha : aop C tm H b = .val v H') : Snd P P.globals.size φ H w o a v H' := by
  simp only [cop, ho] at hc
  split at hc
  · rename_i fs y hu hx
    split at hc
    · rename_i fd hfd
      split at hc
      · rename_i k hsz
        cases hc
        obtain ⟨i, hi, hes⟩ := szOf_some hsz
        have hrel := opd_rel hR hF hx
        simp only [aop] at ha
        split at ha
        · rename_i X u hX
          cases ha
          rw [hX] at hrel
          obtain ⟨p, h1, h2⟩ := hrel.ptr_inv
          refine Snd.still hR (v' := .pointer (some ⟨p.b, p.base + (u + fd.offset), none⟩)) ?_ (by simp only [VR]; exact ⟨p, h1, rfl⟩)
          simp only [execOp, ho, Instr.fieldAt, Sem.run_bind, run_underlying' hu, Result.andThen_ok, hfd, h2, Instr.sureAddr, Sem.run_pure, fieldPlace, run_sizeOf' hi, hes]
          rw [if_neg (by omega)]
          simp [add_eq, Nat.add_assoc]
        · cases ha
      · cases hc
    · cases hc
  · cases hc

theorem run_part {t : Nat} {d : TypeDesc} {i : TypeInfo} (hu : P.underlying t = some d) (hi : P.info? t = some i) {l : List AV} {vs : List Value} (hv : VRs φ l vs) (off : Nat) {v : AV}
    (h : (if isAggD d then (if Nat.ble (off + i.size) l.length then some (.agg ((l.drop off).take i.size)) else none) else l[off]?) = some v) :
    ∃ v', (part t ⟨vs⟩ off).run P w = .ok v' w ∧ VR φ v v' := by
  split at h
  · rename_i ha
    split at h
    · rename_i hl
      have hl := Nat.le_of_ble_eq_true hl
      cases h
      refine ⟨.agg ⟨(vs.drop off).take i.size⟩, ?_, by simp only [VR]; exact ⟨_, rfl, (hv.drop off).take i.size⟩⟩
      simp only [part, Sem.run_bind, run_isAgg' hu, Result.andThen_ok, ha, if_true, run_sizeOf' hi, Sem.run_pure]
      congr 2
      apply Array.ext'
      simp [List.drop_take]
    · cases h
  · rename_i ha
    obtain ⟨v', h1, h2⟩ := hv.get off v h
    refine ⟨v', ?_, h2⟩
    simp only [part, Sem.run_bind, run_isAgg' hu, Result.andThen_ok, ha]
    simp [h1]

theorem s_fld {t f : Nat} {x : Operand} {b : AOp} (hR : R P.globals.size φ H w) (hF : FR φ tm a) (ho : o.op = .field t x f) (hc : cop P o = some b)
    {v : AV} {H' : AH} (ha : aop C tm H b = .val v H') : Snd P P.globals.size φ H w o a v H' := by
  simp only [cop, ho] at hc
  split at hc
  · rename_i fs y hu hx
    split at hc
    · rename_i fd hfd
      split at hc
      · rename_i d n hd hsz
        cases hc
        obtain ⟨i, hi, hes⟩ := szOf_some hsz
        have hrel := opd_rel hR hF hx
        have key : ∃ l, ev tm y = .agg l ∧ H' = H ∧ (if isAggD d then (if Nat.ble (fd.offset + i.size) l.length then some (.agg ((l.drop fd.offset).take i.size)) else none) else l[fd.offset]?) = some v := by
          rw [hes]
          by_cases hagg : isAggD d = true
          · simp only [hagg, if_true, aop] at ha
            split at ha
            · rename_i l hl
              split at ha
              · rename_i hle
                cases ha
                exact ⟨l, hl, rfl, by simp [hagg, hle]⟩
              · cases ha
            · cases ha
          · simp only [hagg, aop] at ha
            simp only [Bool.false_eq_true, if_false, aop] at ha
            split at ha
            · rename_i l hl
              simp only [ofV] at ha
              split at ha
              · rename_i r hr
                cases ha
                exact ⟨l, hl, rfl, by simp [hagg, hr]⟩
              · cases ha
            · cases ha
        obtain ⟨l, hl, rfl, hv⟩ := key
        rw [hl] at hrel
        obtain ⟨vs, h1, h2⟩ := hrel.agg_inv
        obtain ⟨v', h3, h4⟩ := run_part (P := P) (w := w) hd hi h2 fd.offset hv
        refine Snd.still hR (v' := v') ?_ h4
        simp only [execOp, ho, Instr.field, Sem.run_bind, run_underlying' hu, Result.andThen_ok, hfd, h1, asAgg, Sem.run_pure, h3]
      · cases hc
    · cases hc
  · cases hc
end
end Go.Vd
