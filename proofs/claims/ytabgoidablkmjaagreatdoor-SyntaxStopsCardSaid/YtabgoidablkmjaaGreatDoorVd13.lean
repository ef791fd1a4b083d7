/- Operations: what the evaluator gives, the model gives. Part 8: conversions, interfaces, iterators, made slices. -/
import Derived.Test.YtabgoidablkmjaaGreatDoorVd12
import Derived.Lib.UnsafeStr
set_option linter.unusedVariables false
set_option linter.unusedSimpArgs false
namespace Go.Vd

section
variable {P : Program} {φ : Mp} {H : AH} {w : World} {tm : Tr AV} {a : Act} {o : Oper} {C : Ctx}

/-- What the evaluator is told of interfaces. -/
def ImplOK (P : Program) (C : Ctx) : Prop := ∀ t a b, C.impl t a = some b → ∃ i want, P.info? t = some i ∧ P.underlying a = some (.interface want) ∧ (Instr.missingMethod want i.methods).isNone = b

theorem s_ta {x : Operand} {t u : Nat} {ok : Bool} {b : AOp} (hI : ImplOK P C) (hR : R P.globals.size φ H w) (hF : FR φ tm a) (ho : o.op = .typeAssert x t u ok) (hc : cop P o = some b)
    {v : AV} {H' : AH} (ha : aop C tm H b = .val v H') : Snd P P.globals.size φ H w o a v H' := by
  simp only [cop, ho] at hc
  split at hc
  · rename_i want y z hu hx hz
    cases hc
    obtain ⟨i, zv, hi, hz1, hz2⟩ := zvOf_some hz
    have hrel := opd_rel hR hF hx
    have hzr : VR φ z zv := cvV_rel zv z hz2
    simp only [aop] at ha
    split at ha
    · rename_i hn
      rw [hn] at hrel
      split at ha
      · rename_i hok
        cases ha
        subst hok
        refine Snd.still hR (v' := .tuple #[zv, .bool false]) ?_ (by simp only [VR, VRs]; exact ⟨_, rfl, _, _, rfl, hzr, _, _, rfl, rfl, rfl⟩)
        simp only [execOp, ho, Instr.typeAssert, hrel.nili_inv, Sem.run_bind]
        simp [run_underlying' hu, run_zeroValue' hi hz1]
      · cases ha
    · rename_i t' q hq
      rw [hq] at hrel
      obtain ⟨q', g1, g2⟩ := hrel.ifc_inv
      split at ha
      · rename_i him
        cases ha
        obtain ⟨i', want', hi', hw', hm⟩ := hI t' u true him
        rw [hu] at hw'
        cases hw'
        have hm' : Instr.missingMethod want i'.methods = none := Option.isNone_iff_eq_none.1 hm
        cases ok
        · refine Snd.still hR (v' := .iface t' q') ?_ (by simp [VR]; exact g2)
          simp only [execOp, ho, Instr.typeAssert, g1, Sem.run_bind]
          simp [run_underlying' hu, run_typeInfo' hi', hm']
        · refine Snd.still hR (v' := .tuple #[.iface t' q', .bool true]) ?_ (by simp only [VR, VRs, if_true]; exact ⟨_, rfl, _, _, rfl, ⟨_, rfl, g2⟩, _, _, rfl, rfl, rfl⟩)
          simp only [execOp, ho, Instr.typeAssert, g1, Sem.run_bind]
          simp [run_underlying' hu, run_typeInfo' hi', hm']
      · rename_i him
        split at ha
        · rename_i hok
          cases ha
          subst hok
          obtain ⟨i', want', hi', hw', hm⟩ := hI t' u false him
          rw [hu] at hw'
          cases hw'
          obtain ⟨m, hm'⟩ : ∃ m, Instr.missingMethod want i'.methods = some m := by
            cases e : Instr.missingMethod want i'.methods with
            | none => rw [e] at hm; cases hm
            | some m => exact ⟨m, rfl⟩
          refine Snd.still hR (v' := .tuple #[zv, .bool false]) ?_ (by simp only [VR, VRs]; exact ⟨_, rfl, _, _, rfl, hzr, _, _, rfl, rfl, rfl⟩)
          simp only [execOp, ho, Instr.typeAssert, g1, Sem.run_bind]
          simp [run_underlying' hu, run_typeInfo' hi', hm', run_zeroValue' hi hz1]
        · cases ha
      · cases ha
    · cases ha
  · rename_i d y z hno hu hx hz
    cases hc
    obtain ⟨i, zv, hi, hz1, hz2⟩ := zvOf_some hz
    have hrel := opd_rel hR hF hx
    have hzr : VR φ z zv := cvV_rel zv z hz2
    have hni : ∀ ms, d ≠ .interface ms := fun ms e => hno ms e
    simp only [aop] at ha
    split at ha
    · rename_i hn
      rw [hn] at hrel
      split at ha
      · rename_i hok
        cases ha
        subst hok
        refine Snd.still hR (v' := .tuple #[zv, .bool false]) ?_ (by simp only [VR, VRs]; exact ⟨_, rfl, _, _, rfl, hzr, _, _, rfl, rfl, rfl⟩)
        simp only [execOp, ho, Instr.typeAssert, hrel.nili_inv, Sem.run_bind]
        simp only [run_underlying' hu, Result.andThen_ok]
        cases d <;> first
          | exact absurd rfl (hni _)
          | simp [run_zeroValue' hi hz1]
      · cases ha
    · rename_i t' q hq
      rw [hq] at hrel
      obtain ⟨q', g1, g2⟩ := hrel.ifc_inv
      split at ha
      · rename_i hte
        cases ha
        have hte := Nat.eq_of_beq_eq_true hte
        subst hte
        cases ok
        · refine Snd.still hR (v' := q') ?_ g2
          simp only [execOp, ho, Instr.typeAssert, g1, Sem.run_bind]
          simp only [run_underlying' hu, Result.andThen_ok]
          cases d <;> first
            | exact absurd rfl (hni _)
            | simp
        · refine Snd.still hR (v' := .tuple #[q', .bool true]) ?_ (by simp only [VR, VRs, if_true]; exact ⟨_, rfl, _, _, rfl, g2, _, _, rfl, rfl, rfl⟩)
          simp only [execOp, ho, Instr.typeAssert, g1, Sem.run_bind]
          simp only [run_underlying' hu, Result.andThen_ok]
          cases d <;> first
            | exact absurd rfl (hni _)
            | simp
      · rename_i hte
        have hne : t' ≠ u := fun e => hte (by subst e; exact Nat.beq_refl t')
        split at ha
        · rename_i hok
          cases ha
          subst hok
          refine Snd.still hR (v' := .tuple #[zv, .bool false]) ?_ (by simp only [VR, VRs]; exact ⟨_, rfl, _, _, rfl, hzr, _, _, rfl, rfl, rfl⟩)
          simp only [execOp, ho, Instr.typeAssert, g1, Sem.run_bind]
          simp only [run_underlying' hu, Result.andThen_ok]
          cases d <;> first
            | exact absurd rfl (hni _)
            | simp [hne, run_zeroValue' hi hz1]
        · cases ha
    · cases ha
  · cases hc

/-! ### Iterators over strings -/

theorem s_rng {t : Nat} {x : Operand} {b : AOp} (hg : P.globals.size ≤ H.next) (hR : R P.globals.size φ H w) (hF : FR φ tm a) (ho : o.op = .range t x) (hc : cop P o = some b)
    {v : AV} {H' : AH} (ha : aop C tm H b = .val v H') : Snd P P.globals.size φ H w o a v H' := by
  simp only [cop, ho] at hc
  split at hc
  · rename_i y hu hx
    cases hc
    have hrel := opd_rel hR hF hx
    simp only [aop] at ha
    split at ha
    · rename_i s hs
      cases ha
      rw [hs] at hrel
      obtain ⟨g1, g2⟩ := hR.push hg (.it s 0) (.stringIter ⟨s.toArray⟩ 0) (p := ⟨w.heap.size, 0, 0⟩) rfl (by simp [BlkR])
      refine ⟨_, .pointer (some ⟨w.heap.size, 0, none⟩), _, .inl ?_, g1, g2, ?_⟩
      · simp only [execOp, ho, Instr.range, hrel.str_inv, Sem.run_bind]
        simp [run_underlying' hu]
      · simp only [VR]
        exact ⟨_, Mp.add_self _ _ _, rfl⟩
    · cases ha
  · cases hc

theorem decode_ascii {s : List UInt8} {pos : Nat} {b : UInt8} (h : s[pos]? = some b) (hb : b.toNat < 128) : Utf8.decode ⟨s.toArray⟩ pos = (b.toNat, 1) := by
  have hlt : pos < s.length := by
    rcases Nat.lt_or_ge pos s.length with g | g
    · exact g
    · rw [List.getElem?_eq_none g] at h; cases h
  have h0 : (ByteArray.mk s.toArray).get! (pos + 0) = b := by
    simp only [ByteArray.get!, Nat.add_zero]
    rw [getElem!_pos s.toArray pos (by simpa using hlt)]
    rw [List.getElem?_eq_getElem hlt] at h
    simpa using h
  unfold Utf8.decode
  simp only [h0]
  rw [if_pos hb]

theorem s_nxt {x : Operand} {b : AOp} (hR : R P.globals.size φ H w) (hF : FR φ tm a) {isS : Bool} (ho : o.op = .next x isS) (hc : cop P o = some b)
    {v : AV} {H' : AH} (ha : aop C tm H b = .val v H') : Snd P P.globals.size φ H w o a v H' := by
  cases isS with
  | false => simp [cop, ho] at hc
  | true =>
    simp only [cop, ho, Option.map_eq_some_iff] at hc
    obtain ⟨y, hx, rfl⟩ := hc
    have hrel := opd_rel hR hF hx
    simp only [aop] at ha
    split at ha
    · rename_i X hX
      rw [hX] at hrel
      obtain ⟨p, g1, g2⟩ := hrel.ptr_inv
      have hb := hR.blk X p g1
      split at ha
      · rename_i s pos hg
        rw [hg] at hb
        simp only [BlkR] at hb
        obtain ⟨hbase, hb⟩ := hb
        have hpb := (hR.lo X p g1).2
        rw [hbase] at g2
        have hget : (getObj p.b).run P w = .ok (.stringIter ⟨s.toArray⟩ pos) w := by
          simp only [getObj, Sem.run, hb]
        split at ha
        · rename_i bb hbb
          split at ha
          · rename_i hlt
            have hlt : bb.toNat < 128 := Nat.le_of_ble_eq_true hlt
            cases ha
            have hposlt : pos < s.length := by
              rcases Nat.lt_or_ge pos s.length with g | g
              · exact g
              · rw [List.getElem?_eq_none g] at hbb; cases hbb
            have hset : (setObj p.b (.stringIter ⟨s.toArray⟩ (pos + 1))).run P w = .ok () { w with heap := w.heap.setIfInBounds p.b (.stringIter ⟨s.toArray⟩ (pos + 1)) } := by
              simp only [setObj, Sem.run, hb]
            obtain ⟨k1, k2⟩ := hR.upd (w' := { w with heap := w.heap.setIfInBounds p.b (.stringIter ⟨s.toArray⟩ (pos + 1)) }) g1 (by simp [AH.alive, hg]) (.it s (pos + 1)) (by simp)
              (fun c hc => by simp [Array.getElem?_setIfInBounds, show ¬ p.b = c from fun e => hc e.symm]) ⟨rfl, rfl, rfl⟩ (by
                simp only [BlkR]
                exact ⟨hbase, by simp [hpb]⟩)
            refine ⟨φ, .tuple #[.bool true, goInt pos, .int .i32 bb.toNat], _, .inl ?_, k1, k2, ?_⟩
            · simp only [execOp, ho, Instr.next, g2, Sem.run_bind, hget, Result.andThen_ok]
              rw [if_pos (by rw [ba_size]; exact hposlt)]
              simp only [decode_ascii hbb hlt, Sem.run_bind, hset, Result.andThen_ok, Sem.run_pure]
            · simp only [VR, VRs]
              exact ⟨_, rfl, _, _, rfl, rfl, _, _, rfl, rfl, _, _, rfl, rfl, rfl⟩
          · cases ha
        · rename_i hbb
          cases ha
          have hge : ¬ pos < s.length := by
            intro g
            rw [List.getElem?_eq_getElem g] at hbb
            cases hbb
          refine Snd.still hR (v' := .tuple #[.bool false]) ?_ (by simp only [VR, VRs]; exact ⟨_, rfl, _, _, rfl, rfl, rfl⟩)
          simp only [execOp, ho, Instr.next, g2, Sem.run_bind, hget, Result.andThen_ok]
          rw [if_neg (by rw [ba_size]; exact hge)]
          simp
      · cases ha
    · cases ha

/-! ### Conversions -/

theorem avBytes_rel {l : List AV} {vs : List Value} (h : VRs φ l vs) {s : List UInt8} (hs : avBytes l = some s) : ∃ ns : List Int, vs = ns.map (Value.int .u8) ∧ s = ns.map fun n => UInt8.ofNat n.toNat := by
  induction l generalizing vs s with
  | nil =>
    simp only [VRs] at h
    subst h
    simp only [avBytes, Option.some.injEq] at hs
    subst hs
    exact ⟨[], rfl, rfl⟩
  | cons x l ih =>
    simp only [VRs] at h
    obtain ⟨v, ws, rfl, hv, h⟩ := h
    simp only [avBytes] at hs
    split at hs
    · rename_i b m hb hm
      cases hs
      obtain ⟨ns, rfl, rfl⟩ := ih h hm
      unfold avByte at hb
      split at hb
      · rename_i n
        cases hb
        exact ⟨n :: ns, by rw [hv.int_inv]; rfl, rfl⟩
      · cases hb
    · cases hs

/-- What the evaluator is told of places where a variable lies. -/
def LiesOK (P : Program) (C : Ctx) : Prop := ∀ e k q t, C.lies e k q t = true → liesAt P P.depth e (k / P.cellsOf e) q t 1 = true

theorem s_conv {x : Operand} {t u : Nat} {b : AOp} (hL : LiesOK P C)
    (hR : R P.globals.size φ H w) (hF : FR φ tm a) (ho : o.op = .convert t u x) (hc : cop P o = some b)
    {v : AV} {H' : AH} (ha : aop C tm H b = .val v H') : Snd P P.globals.size φ H w o a v H' := by
  simp only [cop, ho] at hc
  split at hc
  · rename_i y k k' hx ht hu
    cases hc
    have hrel := opd_rel hR hF hx
    simp only [aop] at ha
    split at ha
    · rename_i j n hn
      cases ha
      rw [hn] at hrel
      refine Snd.still hR (v' := .int k' (k'.wrap n)) ?_ (by simp [VR])
      simp only [execOp, ho, convert, hrel.int_inv, Sem.run_bind]
      simp [run_underlying' ht, run_underlying' hu, Conv.intToInt]
    · cases ha
  · rename_i y hx ht hu
    cases hc
    have hrel := opd_rel hR hF hx
    simp only [aop] at ha
    split at ha
    · rename_i l hl
      cases ha
      rw [hl] at hrel
      refine Snd.still hR (v' := .string ⟨l.toArray⟩) ?_ (by simp [VR])
      simp only [execOp, ho, convert, hrel.str_inv, Sem.run_bind]
      simp [run_underlying' ht, run_underlying' hu]
    · cases ha
  · rename_i y e hx ht hu
    split at hc
    · rename_i he
      cases hc
      have hrel := opd_rel hR hF hx
      simp only [aop] at ha
      split at ha
      · rename_i hn
        cases ha
        rw [hn] at hrel
        refine Snd.still hR (v' := .string .empty) ?_ (by simp [VR]; rfl)
        simp only [execOp, ho, hrel.nils_inv, Sem.run_bind, run_convert_bytes_string w t u e none 0 0 ht he hu, Conv.bytesToString, Sem.run_pure, Result.andThen_ok]
      · rename_i X q n cap ex hl
        rw [hl] at hrel
        split at ha
        case isFalse => cases ha
        rename_i hnc
        have hnc := Nat.le_of_ble_eq_true hnc
        split at ha
        · rename_i l hl'
          simp only [ofV] at ha
          split at ha
          · rename_i r hr
            cases ha
            simp only [Option.map_eq_some_iff] at hr
            obtain ⟨s, hs, rfl⟩ := hr
            simp only [VR] at hrel
            obtain ⟨p, ad, cc, g1, g2, g3, g4, g5⟩ := hrel
            obtain ⟨vs, k1, k2, k3⟩ := hR.run_loadCells (P := P) g1 hl'
            obtain ⟨ns, rfl, rfl⟩ := avBytes_rel k1 hs
            have hload : (loadCells ad n).run P w = .ok (ns.map (Value.int .u8)).toArray w := by
              rcases Nat.eq_zero_or_pos n with e0 | e0
              · subst e0
                have : ns = [] := by simpa using k2
                subst this
                simp [loadCells, loadCellsFrom]
              · by_cases hc0 : 0 < cc
                · rw [g5 hc0]; exact k3
                · exfalso
                  cases ex with
                  | true => have := g3 rfl; omega
                  | false => have := (g4 rfl).1; omega
            refine Snd.still hR (v' := .string (ns.foldl (fun r n => r.push (UInt8.ofNat n.toNat)) ByteArray.empty)) ?_ ?_
            · simp only [execOp, ho, g2, Sem.run_bind, run_convert_bytes_string w t u e (some ad) n cc ht he hu, run_bytesToString w ad n cc ns hload, Sem.run_pure, Result.andThen_ok]
            · simp only [VR]
              congr 1
              have : ∀ (ns : List Int) (s : ByteArray), ns.foldl (fun r n => r.push (UInt8.ofNat n.toNat)) s = ⟨s.data ++ (ns.map fun n => UInt8.ofNat n.toNat).toArray⟩ := by
                intro ns
                induction ns with
                | nil => intro s; simp
                | cons n ns ih =>
                  intro s
                  simp only [List.foldl_cons, ih]
                  congr 1
                  apply Array.ext'
                  simp [ByteArray.push]
              rw [this]
              simp [ByteArray.empty, ByteArray.emptyWithCapacity]
              rfl
          · cases ha
        · cases ha
      · cases ha
    · cases hc
  · rename_i y e hx ht hu
    split at hc
    · rename_i k hsz
      cases hc
      obtain ⟨i, hi, hes⟩ := szOf_some hsz
      have hrel := opd_rel hR hF hx
      simp only [aop] at ha
      split at ha
      · rename_i hn
        cases ha
        rw [hn] at hrel
        refine Snd.still hR (v' := .pointer none) ?_ (by simp [VR])
        simp only [execOp, ho, convert, hrel.nilp_inv, Sem.run_bind]
        simp [run_underlying' ht, run_underlying' hu, Conv.unsafePointer]
      · rename_i X q hX
        rw [hX] at hrel
        obtain ⟨p, g1, g2⟩ := hrel.ptr_inv
        split at ha
        · rename_i l e' fl hg
          split at ha
          · rename_i hlt
            have hlt : q < l.length := Nat.le_of_ble_eq_true hlt
            cases ha
            have hb := hR.blk X p g1
            rw [hg] at hb
            obtain ⟨c, lo, hh, h1, h2, h3, h4, h5, h6⟩ := hb
            have hsh : w.shape? p.b = some (e', c.size) := by simp [World.shape?, h1]
            refine Snd.still hR (v' := .pointer (some ⟨p.b, p.base + q, none⟩)) ?_ (by simp only [VR]; exact ⟨p, g1, rfl⟩)
            have hseen : (Conv.seenAt ⟨p.b, p.base + q, none⟩).run P w = .ok ⟨p.b, p.base + q, none⟩ w := by
              simp [Conv.seenAt, viewAt, hsh]
            have hin : (cellsIn p.b).run P w = .ok (some c.size) w := by
              simp [cellsIn, hsh]
            have hsize : (sizeOf e).run P w = .ok (k + 1) w := by rw [run_sizeOf' hi, hes]
            simp only [execOp, ho, convert, g2, Sem.run_bind, run_underlying' ht, run_underlying' hu, Result.andThen_ok, Conv.unsafePointer, hseen, hin, hsize]
            have : ¬ (c.size ≤ p.base + q) := by omega
            simp [this]
          · cases ha
        · cases ha
      · cases ha
    · cases hc
  · rename_i y e hx ht hu
    split at hc
    · rename_i k hsz
      cases hc
      obtain ⟨i, hi, hes⟩ := szOf_some hsz
      have hrel := opd_rel hR hF hx
      simp only [aop] at ha
      split at ha
      · rename_i hn
        cases ha
        rw [hn] at hrel
        refine Snd.still hR (v' := .pointer none) ?_ (by simp [VR])
        simp only [execOp, ho, convert, hrel.nilp_inv, Sem.run_bind]
        simp [run_underlying' ht, run_underlying' hu, Conv.unsafePointer]
      · rename_i X q hX
        rw [hX] at hrel
        obtain ⟨p, g1, g2⟩ := hrel.ptr_inv
        split at ha
        · rename_i l e' fl hg
          split at ha
          · rename_i hlt
            simp only [Bool.and_eq_true] at hlt
            have hfl := Nat.eq_of_beq_eq_true hlt.1
            cases ha
            have hb := hR.blk X p g1
            rw [hg] at hb
            obtain ⟨c, lo, hh, h1, h2, h3, h4, h5, h6⟩ := hb
            obtain ⟨_, hbase, hcs⟩ := h4 hfl
            have hsh : w.shape? p.b = some (e', c.size) := by simp [World.shape?, h1]
            refine Snd.still hR (v' := .pointer (some ⟨p.b, p.base + q, none⟩)) ?_ (by simp only [VR]; exact ⟨p, g1, rfl⟩)
            have hseen : (Conv.seenAt ⟨p.b, p.base + q, none⟩).run P w = .ok ⟨p.b, p.base + q, none⟩ w := by
              simp [Conv.seenAt, viewAt, hsh]
            have hsize : (sizeOf e).run P w = .ok (k + 1) w := by rw [run_sizeOf' hi, hes]
            have hvar : (variablesAt ⟨p.b, p.base + q, none⟩ e 1).run P w = .ok true w := by
              have := hL _ _ _ _ hlt.2
              simp only [variablesAt, Sem.run_bind, run_program, Result.andThen_ok, run_shape, hsh, Sem.run_pure]
              rw [hbase, Nat.zero_add, hcs, this]
            simp only [execOp, ho, convert, g2, Sem.run_bind, run_underlying' ht, run_underlying' hu, Result.andThen_ok, Conv.unsafePointer, hseen, hsize, hvar]
            simp
          · cases ha
        · cases ha
      · cases ha
    · cases hc
  · cases hc
end
end Go.Vd
