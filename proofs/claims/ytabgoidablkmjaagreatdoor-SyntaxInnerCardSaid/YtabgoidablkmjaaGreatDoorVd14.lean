/- Operations: what the evaluator gives, the model gives. Part 9: made slices, unsafe strings, append. -/
import Derived.Test.YtabgoidablkmjaaGreatDoorVd13
set_option linter.unusedVariables false
set_option linter.unusedSimpArgs false
namespace Go.Vd

section
variable {P : Program} {φ : Mp} {H : AH} {w : World} {tm : Tr AV} {a : Act} {o : Oper} {C : Ctx}

theorem s_mks {t : Nat} {x y : Operand} {b : AOp} (hg : P.globals.size ≤ H.next) (hR : R P.globals.size φ H w) (hF : FR φ tm a) (ho : o.op = .makeSlice t x y) (hc : cop P o = some b)
    {v : AV} {H' : AH} (ha : aop C tm H b = .val v H') : Snd P P.globals.size φ H w o a v H' := by
  simp only [cop, ho] at hc
  split at hc
  · rename_i e x' y' hu hx hy
    split at hc
    · rename_i sz bts zs hsz hbt hz
      split at hc
      · cases hc
      · rename_i hno
        cases hc
        obtain ⟨ie, hie, hes⟩ := szOf_some hsz
        obtain ⟨ib, hib, hbs⟩ := btOf_some hbt
        obtain ⟨iz, z, bb, hiz, hz1, hz2, rfl⟩ := zrOf_some hz
        rw [hie] at hib hiz
        cases hib
        cases hiz
        have h1 := opd_rel hR hF hx
        have h2 := opd_rel hR hF hy
        simp only [aop] at ha
        split at ha
        · rename_i k n j m hn hm
          rw [hn] at h1
          rw [hm] at h2
          split at ha
          · rename_i hcond
            cases ha
            simp only [Bool.and_eq_true, decide_eq_true_eq] at hcond
            obtain ⟨⟨⟨⟨⟨c1, c2⟩, c3⟩, c4⟩, c5⟩, c6⟩ := hcond
            have c6 := Nat.eq_of_beq_eq_true c6
            have hzv : VRs φ bb.cells z.cells.toList := (cvV_rel z bb hz2).cells
            have hzlen : z.cells.size = ie.size := by rw [← Array.length_toList, hzv.length, c6, hes]
            have hrun := run_make (P := P) w t e ie z hu hie hz1 k j n m c1 c2 (by rw [hbs, Int.mul_comm]; exact c3) (by omega)
            have hcells : madeCells z.cells (m.toNat * ie.size) = ⟨replV z.cells.toList m.toNat⟩ := by
              rw [← hzlen]
              exact zeros_eq z.cells m.toNat
            rw [hcells] at hrun
            obtain ⟨g1, g2⟩ := hR.row hg (repl_rel hzv m.toNat) [] e 0 (fun _ => rfl)
            rw [List.append_nil] at g1 g2
            refine ⟨_, .slice (some ⟨w.heap.size, 0, none⟩) n.toNat m.toNat, _, .inl ?_, g1, g2, ?_⟩
            · simp only [execOp, ho, h1.int_inv, h2.int_inv, Sem.run_bind, hrun, Result.andThen_ok, Sem.run_pure]
              rfl
            · simp only [VR]
              exact ⟨_, _, _, Mp.add_self _ _ _, rfl, fun _ => rfl, (fun h => nomatch h), fun _ => by simp⟩
          · cases ha
        · cases ha
    · cases hc
  · cases hc

theorem s_sdata {c : Call} {x : Operand} {y : Opd} (hR : R P.globals.size φ H w) (hF : FR φ tm a) (ho : o.op = .call c) (hb : c.callee = .builtin .unsafeSliceData) (hl : c.args.toList = [x]) (hx : cOpd P x = some y)
    {v : AV} {H' : AH} (ha : aop C tm H (.sdata y) = .val v H') : Snd P P.globals.size φ H w o a v H' := by
  have hrel := opd_rel hR hF hx
  simp only [aop] at ha
  split at ha
  · rename_i hn
    cases ha
    rw [hn] at hrel
    refine Snd.still hR (v' := .pointer none) ?_ (by simp [VR])
    rw [run_builtin ho hb, args1 hl]
    simp only [builtin, Sem.run_bind, hrel.nils_inv, Lib.run_unsafeSliceData_nil, Result.andThen_ok, Sem.run_pure]
  · rename_i X q len cap sz ex hX
    rw [hX] at hrel
    split at ha
    · rename_i hc
      cases ha
      simp only [Bool.and_eq_true] at hc
      have k1 := Nat.le_of_ble_eq_true hc.1
      have k2 := Nat.le_of_ble_eq_true hc.2
      simp only [VR] at hrel
      obtain ⟨p, ad, cc, g1, g2, g3, g4, g5⟩ := hrel
      have hcc : 0 < cc := by
        cases ex with
        | true => have := g3 rfl; omega
        | false => have := (g4 rfl).1; omega
      refine Snd.still hR (v' := .pointer (some ⟨p.b, p.base + q, none⟩)) ?_ (by simp only [VR]; exact ⟨p, g1, rfl⟩)
      rw [run_builtin ho hb, args1 hl]
      simp only [builtin, Sem.run_bind, g2, g5 hcc, Lib.run_unsafeSliceData_row w _ _ _ _ cc (by omega), Result.andThen_ok, Sem.run_pure]
    · cases ha
  · cases ha

theorem liesAt_row {e : TypeId} (hc : P.cellsOf e = 1) (count off n : Nat) (hn : off + n ≤ count) : liesAt P P.depth e count off e n = true := by
  have hd : P.depth = (2 * (P.types.size + Made.depth) + 1) + 1 := rfl
  rw [hd]
  simp only [liesAt, Bool.or_eq_true]
  left
  rw [hd]
  have h1 : off % 1 = 0 := Nat.mod_one off
  simp [rowAt, hc, hn, sameLayout, h1]

theorem ustr_none (A : Array TypeId) (ty pt : TypeId) (h : A[0]? = some pt) (k : IntKind) : (Builtin.unsafeString_ A ty #[.pointer none, .int k 0]).run P w = .ok (.string .empty) w := by
  have hdef : Builtin.unsafeString_ A ty #[.pointer none, .int k 0] =
      (do
        let n ← asInt (.int k 0)
        let some _ := A[0]? | stuck "unsafe.String: no argument types"
        if n < 0 then runtimePanic (.error "unsafe.String: len out of range")
        if n > IntKind.i64.max then unsupported (.unsafePointer "String: a length above the largest int")
        if n = 0 then pure (.string .empty)
        else runtimePanic (.error "unsafe.String: ptr is nil and len is not zero")) := rfl
  rw [hdef]
  have hmax : IntKind.i64.max = 9223372036854775807 := rfl
  simp [h, asInt, asIntOf, hmax]

theorem ustr_some (A : Array TypeId) (ty pt e : TypeId) (h : A[0]? = some pt) (hu : P.underlying pt = some (.pointer e)) (k : IntKind) (m : Int) (ad : Addr) (c1 : 1 ≤ m) (c2 : m < 9223372036854775807) {s : ByteArray}
    (hv : (variablesAt ad e m.toNat).run P w = .ok true w) (hl : (loadBytes ad .empty m.toNat).run P w = .ok s w) :
    (Builtin.unsafeString_ A ty #[.pointer (some ad), .int k m]).run P w = .ok (.string s) (w.freeze ad m.toNat) := by
  have hdef : Builtin.unsafeString_ A ty #[.pointer (some ad), .int k m] =
      (do
        let n ← asInt (.int k m)
        let some pt := A[0]? | stuck "unsafe.String: no argument types"
        if n < 0 then runtimePanic (.error "unsafe.String: len out of range")
        if n > IntKind.i64.max then unsupported (.unsafePointer "String: a length above the largest int")
        if n = 0 then pure (.string .empty)
        else if ← variablesAt ad (← elemOf pt) n.toNat then do
          let s ← loadBytes ad .empty n.toNat
          freeze ad n.toNat
          pure (.string s)
        else unsupported (.unsafePointer "String: not so many bytes at ptr")) := rfl
  rw [hdef]
  have hmax : IntKind.i64.max = 9223372036854775807 := rfl
  have n1 : ¬ (m < 0) := by omega
  have n2 : ¬ (9223372036854775807 < m) := by omega
  have n3 : ¬ (m = 0) := by omega
  simp [h, asInt, asIntOf, hmax, n1, n2, n3, elemOf, run_underlying' hu, hv, hl]

theorem s_ustr {c : Call} {x y : Operand} {x' y' : Opd} {pt e : TypeId} {l : List TypeId} (hR : R P.globals.size φ H w) (hF : FR φ tm a) (ho : o.op = .call c) (hb : c.callee = .builtin .unsafeString) (hl : c.args.toList = [x, y])
    (hx : cOpd P x = some x') (hy : cOpd P y = some y') (ht : c.argTypes.toList = pt :: l) (hu : P.underlying pt = some (.pointer e)) (hsz : szOf P e = some 1)
    {v : AV} {H' : AH} (ha : aop C tm H (.ustr e x' y') = .val v H') : Snd P P.globals.size φ H w o a v H' := by
  have h1 := opd_rel hR hF hx
  have h2 := opd_rel hR hF hy
  have h0 := types1 ht
  obtain ⟨ie, hie, hes⟩ := szOf_some hsz
  have hco : P.cellsOf e = 1 := by simp [Program.cellsOf, hie, hes]
  simp only [aop] at ha
  split at ha
  · rename_i k m hX hN
    rw [hX] at h1
    rw [hN] at h2
    split at ha
    · rename_i hm
      cases ha
      subst hm
      refine Snd.still hR (v' := .string .empty) ?_ (by simp [VR]; rfl)
      rw [run_builtin ho hb, args2 hl]
      simp only [builtin, Sem.run_bind, h1.nilp_inv, h2.int_inv, ustr_none _ _ _ h0, Result.andThen_ok, Sem.run_pure]
    · cases ha
  · rename_i X q k m hX hN
    rw [hX] at h1
    rw [hN] at h2
    obtain ⟨p, g1, g2⟩ := h1.ptr_inv
    split at ha
    · rename_i hcond
      simp only [Bool.and_eq_true, decide_eq_true_eq] at hcond
      obtain ⟨c1, c2⟩ := hcond
      split at ha
      · rename_i l e' fl hg
        split at ha
        · rename_i hcond2
          simp only [Bool.and_eq_true] at hcond2
          have c3 := Nat.eq_of_beq_eq_true hcond2.1
          have c4 := Nat.le_of_ble_eq_true hcond2.2
          subst c3
          split at ha
          · rename_i s hs
            cases ha
            have hb' := hR.blk X p g1
            rw [hg] at hb'
            obtain ⟨cc, lo, hi, b1, b2, b3, b4, b5, b6⟩ := hb'
            have hrdn : H.rdn X q m.toNat = some ((l.drop q).take m.toNat) := by
              unfold AH.rdn
              rw [hg]
              simp only
              rw [if_pos]
              exact Nat.ble_eq_true_of_le c4
            obtain ⟨vs, k1, k2, k3⟩ := hR.rdn g1 hrdn
            obtain ⟨ns, rfl, rfl⟩ := avBytes_rel k1 hs
            have hsh : w.shape? p.b = some (e, cc.size) := by simp [World.shape?, b1]
            have hvar : (variablesAt ⟨p.b, p.base + q, none⟩ e m.toNat).run P w = .ok true w := by
              simp only [variablesAt, Sem.run_bind, run_program, Result.andThen_ok, run_shape, hsh, Sem.run_pure]
              rw [hco, Nat.div_one, liesAt_row hco _ _ _ (by omega)]
            have hload : ∀ (ns : List Int) (j : Nat) (acc : ByteArray), (∀ i u, ns[i]? = some u → w.cell? ⟨p.b, p.base + q + (j + i), none⟩ = some (.int .u8 u)) →
                (loadBytes ⟨p.b, p.base + q + j, none⟩ acc ns.length).run P w = .ok ⟨acc.data ++ (ns.map fun n => UInt8.ofNat n.toNat).toArray⟩ w := by
              intro ns
              induction ns with
              | nil => intro j acc _; simp [loadBytes]
              | cons n ns ih =>
                intro j acc hh
                have e0 := hh 0 n (by simp)
                simp only [Nat.add_zero] at e0
                simp only [List.length_cons, loadBytes, Sem.run_bind, run_load' e0, Result.andThen_ok, add_eq]
                rw [Nat.add_assoc (p.base + q) j 1, ih (j + 1) _ (fun i u hu => by
                  have := hh (i + 1) u (by simpa using hu)
                  rw [show j + 1 + i = j + (i + 1) by omega]
                  exact this)]
                congr 1
                apply ByteArray.ext
                apply Array.ext'
                simp [ByteArray.push]
            have hlen : ns.length = m.toNat := by simpa using k2
            have hload' := hload ns 0 .empty (fun i u hu => by
              have := k3 i (.int .u8 u) (by simp [hu])
              simpa using this)
            rw [hlen, Nat.add_zero] at hload'
            have hpb := (hR.lo X p g1).2
            have hm0 : m.toNat ≠ 0 := by omega
            have hfreeze : (w.freeze ⟨p.b, p.base + q, none⟩ m.toNat).heap = w.heap.modify p.b (fun
                | .cells c elem (lo, hi) => .cells c elem (if lo == hi then (p.base + q, p.base + q + m.toNat) else (min lo (p.base + q), max hi (p.base + q + m.toNat)))
                | o => o) := by
              unfold World.freeze
              rw [if_neg hm0]
              rfl
            obtain ⟨q1, q2⟩ := hR.upd (w' := w.freeze ⟨p.b, p.base + q, none⟩ m.toNat) g1 (by simp [AH.alive, hg]) (.cells l e 2) (by rw [hfreeze]; simp)
              (fun c hc => by rw [hfreeze, Array.getElem?_modify, if_neg (fun e => hc e.symm)])
              (by unfold World.freeze; rw [if_neg hm0]; exact ⟨rfl, rfl, rfl⟩) (by
                refine ⟨cc, (if lo == hi then (p.base + q, p.base + q + m.toNat) else (min lo (p.base + q), max hi (p.base + q + m.toNat))).1,
                  (if lo == hi then (p.base + q, p.base + q + m.toNat) else (min lo (p.base + q), max hi (p.base + q + m.toNat))).2, ?_, b2, b3, (fun e => by omega), (fun e => by omega), b6⟩
                · rw [hfreeze, Array.getElem?_modify, if_pos rfl, b1]
                  rfl)
            refine ⟨φ, .string ⟨(ns.map fun n => UInt8.ofNat n.toNat).toArray⟩, _, .inl ?_, q1, q2, by simp [VR]⟩
            rw [run_builtin ho hb, args2 hl]
            simp only [builtin, Sem.run_bind, g2, h2.int_inv, ustr_some _ _ _ _ h0 hu k m _ c1 c2 hvar hload', Result.andThen_ok, Sem.run_pure]
            simp [ByteArray.empty, ByteArray.emptyWithCapacity]
            rfl
          · cases ha
        · cases ha
      · cases ha
    · cases ha
  · cases ha
end
end Go.Vd
