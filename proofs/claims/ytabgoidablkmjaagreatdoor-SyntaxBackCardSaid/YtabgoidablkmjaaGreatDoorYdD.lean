/- Operations: what the evaluator gives, the model gives. Part 6: slices, conversions, maps, interfaces. -/
import Derived.Test.YtabgoidablkmjaaGreatDoorYdC
import Derived.Laws.BytesString
import Derived.Laws.MakeOwn
import Derived.Lib.UnsafeStr
set_option linter.unusedVariables false
set_option linter.unusedSimpArgs false
namespace Go.Vd

section
variable {P : Program} {φ : Mp} {H : AH} {w : World} {tm : Tr AV} {a : Act} {o : Oper} {C : Ctx}

/-- The bounds of a slice expression, in the model. -/
theorem sliceBound_run {v : AV} {v' : Value} (h : VR φ v v') {most : Nat} {d r : Nat} (code : BoundsCode) (hp : pickB (some v) d most = some r) : (Instr.sliceBound v' most code).run P w = .ok r w := by
  unfold pickB at hp
  cases v <;> simp only at hp <;> try (cases hp; done)
  rename_i k n
  split at hp
  · rename_i hc
    cases hp
    simp only [Bool.and_eq_true, decide_eq_true_eq] at hc
    rw [h.int_inv]
    simp only [Instr.sliceBound, Sem.run_bind, asIntOf_run, Result.andThen_ok, hc.1, hc.2, and_self, if_true, Sem.run_pure]
  · cases hp

theorem pickB_none {d most : Nat} : pickB none d most = some d := rfl

theorem pickB_le {v : Option AV} {d most r : Nat} (h : pickB v d most = some r) (hd : d ≤ most) : r ≤ most := by
  unfold pickB at h
  split at h
  · cases h; exact hd
  · split at h
    · rename_i hc
      cases h
      simp only [Bool.and_eq_true, decide_eq_true_eq] at hc
      omega
    · cases h
  · cases h

theorem pickB_mono {v : Option AV} {d most most' r : Nat} (h : pickB v d most = some r) (hm : most ≤ most') : pickB v d most' = some r := by
  unfold pickB at h ⊢
  split at h
  · exact h
  · split at h
    · rename_i hc
      simp only [Bool.and_eq_true, decide_eq_true_eq] at hc
      rw [if_pos (by simp only [Bool.and_eq_true, decide_eq_true_eq]; omega)]
      exact h
    · cases h
  · cases h

theorem pickB_some {u : AV} {d d' most : Nat} : pickB (some u) d most = pickB (some u) d' most := by cases u <;> rfl

/-- Options of values. -/
def OVR (φ : Mp) : Option AV → Option Value → Prop
  | none, v => v = none
  | some x, v => ∃ y, v = some y ∧ VR φ x y

theorem ovr (hR : R P.globals.size φ H w) (hF : FR φ tm a) {x : Option Operand} {y : Option Opd} (h : oMap P x = some y) : OVR φ (evo tm y) (x.map a.eval) := by
  cases x with
  | none => simp only [oMap, Option.some.injEq] at h; subst h; simp [evo, OVR]
  | some x =>
    simp only [oMap, Option.map_eq_some_iff] at h
    obtain ⟨z, hz, rfl⟩ := h
    simp only [evo, OVR, Option.map_some]
    exact ⟨_, rfl, opd_rel hR hF hz⟩

theorem bnds_run (isS : Bool) {len cap l h m : Nat} {lo hi mx : Option AV} {lo' hi' mx' : Option Value} (h1 : OVR φ lo lo') (h2 : OVR φ hi hi') (h3 : OVR φ mx mx') (hb : bnds len cap lo hi mx = some (l, h, m)) :
    (Instr.sliceBounds isS len cap lo' hi' mx').run P w = .ok (l, h, m) w := by
  have low : ∀ (h l : Nat) (c : BoundsCode), pickB lo 0 h = some l → (match lo' with
      | some v => Instr.sliceBound v h c
      | none => pure 0 : Sem Nat).run P w = .ok l w := by
    intro h l c hp
    cases lo with
    | none =>
      simp only [OVR] at h1
      subst h1
      rw [pickB_none] at hp
      cases hp
      rfl
    | some x =>
      simp only [OVR] at h1
      obtain ⟨y, rfl, hy⟩ := h1
      exact sliceBound_run hy c hp
  unfold bnds at hb
  cases mx with
  | none =>
    simp only [OVR] at h3
    subst h3
    simp only at hb
    split at hb
    · cases hb
    · rename_i q hq
      split at hb
      · cases hb
      · rename_i q' hq'
        cases hb
        have e2 := low h l .sliceB hq'
        cases hi with
        | none =>
          simp only [OVR] at h2
          subst h2
          rw [pickB_none] at hq
          cases hq
          cases lo' <;> simp only [Instr.sliceBounds, Sem.run_bind, Sem.run_pure, Result.andThen_ok, Option.isSome_none, Bool.false_eq_true, if_false] at e2 ⊢
          · cases e2; rfl
          · rw [e2]; rfl
        | some z =>
          simp only [OVR] at h2
          obtain ⟨z', rfl, hz⟩ := h2
          have e1 := fun c => sliceBound_run (P := P) (w := w) hz c hq
          cases lo' <;> simp only [Instr.sliceBounds, Sem.run_bind, Sem.run_pure, Result.andThen_ok, Option.isSome_none, Bool.false_eq_true, if_false] at e2 ⊢
          · cases e2; rw [e1]; rfl
          · rw [e1]
            simp only [Result.andThen_ok]
            rw [e2]; rfl
  | some u =>
    simp only [OVR] at h3
    obtain ⟨u', rfl, hu⟩ := h3
    simp only at hb
    cases hi with
    | none => cases hb
    | some z =>
      simp only [OVR] at h2
      obtain ⟨z', rfl, hz⟩ := h2
      simp only at hb
      split at hb
      · cases hb
      · rename_i m1 hm1
        have e0 := fun c => sliceBound_run (P := P) (w := w) hu c hm1
        split at hb
        · cases hb
        · rename_i q hq
          have e1 := fun c => sliceBound_run (P := P) (w := w) hz c hq
          split at hb
          · cases hb
          · rename_i q' hq'
            cases hb
            have e2 := low h l .slice3C hq'
            cases lo' <;> simp only [Instr.sliceBounds, Sem.run_bind, Sem.run_pure, Result.andThen_ok, Option.isSome_some, if_true] at e2 ⊢
            · cases e2
              rw [e0]
              simp only [Result.andThen_ok]
              rw [e1]; rfl
            · rw [e0]
              simp only [Result.andThen_ok]
              rw [e1]
              simp only [Result.andThen_ok]
              rw [e2]; rfl

theorem bnds_le {len cap l h m : Nat} {lo hi mx : Option AV} (hlc : len ≤ cap) (hb : bnds len cap lo hi mx = some (l, h, m)) : l ≤ h ∧ h ≤ m ∧ m ≤ cap ∧ (mx = none → m = cap) := by
  unfold bnds at hb
  cases mx with
  | none =>
    simp only at hb
    split at hb
    · cases hb
    · rename_i q hq
      have := pickB_le hq hlc
      split at hb
      · cases hb
      · rename_i q' hq'
        have := pickB_le hq' (Nat.zero_le _)
        cases hb
        exact ⟨by omega, by omega, Nat.le_refl _, fun _ => rfl⟩
  | some u =>
    simp only at hb
    split at hb
    · cases hb
    · split at hb
      · cases hb
      · rename_i m1 hm1
        have := pickB_le hm1 (Nat.le_refl _)
        split at hb
        · cases hb
        · rename_i q hq
          have := pickB_le hq (Nat.le_refl _)
          split at hb
          · cases hb
          · rename_i q' hq'
            have := pickB_le hq' (Nat.zero_le _)
            cases hb
            exact ⟨by omega, by omega, by omega, fun e => by cases e⟩

theorem bnds_cap {len cap c l h m : Nat} {lo hi mx : Option AV} (hc : cap ≤ c) (hb : bnds len cap lo hi mx = some (l, h, m)) : bnds len c lo hi mx = some (l, h, if mx.isSome then m else c) := by
  unfold bnds at hb ⊢
  cases mx with
  | none =>
    simp only at hb ⊢
    split at hb
    · cases hb
    · rename_i q hq
      rw [pickB_mono hq hc]
      simp only
      split at hb
      · cases hb
      · rename_i q' hq'
        cases hb
        rfl
  | some u =>
    simp only at hb ⊢
    split at hb
    · cases hb
    · split at hb
      · cases hb
      · rename_i m1 hm1
        rw [pickB_some (d' := cap), pickB_mono hm1 hc]
        simp only
        split at hb
        · cases hb
        · rename_i q hq
          split at hb
          · cases hb
          · rename_i q' hq'
            cases hb
            rfl

theorem s_slice {t : Nat} {x : Operand} {lo hi mx : Option Operand} {b : AOp} (hR : R P.globals.size φ H w) (hF : FR φ tm a) (ho : o.op = .slice t x lo hi mx) (hc : cop P o = some b)
    {v : AV} {H' : AH} (ha : aop C tm H b = .val v H') : Snd P P.globals.size φ H w o a v H' := by
  simp only [cop, ho] at hc
  split at hc
  · rename_i y l h hu hx hl hh hm
    cases hc
    have h1 := opd_rel hR hF hx
    have h2 := ovr hR hF hl
    have h3 := ovr hR hF hh
    have hmx : mx = none := by
      cases mx with
      | none => rfl
      | some z => simp [oMap] at hm
    subst hmx
    simp only [aop] at ha
    split at ha
    · rename_i s hs
      rw [hs] at h1
      split at ha
      · rename_i l' h' m' hb
        cases ha
        have hrun := bnds_run (P := P) (w := w) false h2 h3 (mx := none) (mx' := none) rfl hb
        have hle := bnds_le (Nat.le_refl _) hb
        refine Snd.still hR (v' := .string ⟨((s.drop l').take (h' - l')).toArray⟩) ?_ (by simp [VR])
        simp only [execOp, ho, Instr.sliceAt, Sem.run_bind, run_underlying' hu, Result.andThen_ok, Instr.slice, h1.str_inv, ba_size, Option.map_none, Option.isSome_none, Bool.false_eq_true, if_false]
        rw [hrun]
        simp only [Result.andThen_ok, Sem.run_pure]
        congr 3
        apply ByteArray.ext
        rw [ByteArray.data_extract]
        apply Array.ext'
        simp [List.drop_take]
      · cases ha
    · cases ha
  · rename_i e y l h m hu hx hl hh hm
    split at hc
    · rename_i sz hsz
      cases hc
      obtain ⟨ie, hie, rfl⟩ := szOf_some hsz
      have h1 := opd_rel hR hF hx
      have h2 := ovr hR hF hl
      have h3 := ovr hR hF hh
      have h4 := ovr hR hF hm
      simp only [aop] at ha
      split at ha
      · rename_i hs
        rw [hs] at h1
        split at ha
        · rename_i r hb
          obtain ⟨l', h', m'⟩ := r
          cases ha
          have hrun := bnds_run (P := P) (w := w) true h2 h3 h4 hb
          have hle := bnds_le (Nat.le_refl _) hb
          refine Snd.still hR (v' := .slice none 0 0) ?_ (by simp [VR])
          simp only [execOp, ho, Instr.sliceAt, Sem.run_bind, run_underlying' hu, Result.andThen_ok, Instr.slice, h1.nils_inv]
          rw [hrun]
          simp only [Result.andThen_ok, Sem.run_bind, run_sizeOf' hie, Sem.run_pure]
          have e1 : l' = 0 := by omega
          have e2 : h' = 0 := by omega
          have e3 : m' = 0 := by omega
          subst e1; subst e2; subst e3
          simp
        · cases ha
      · rename_i X u len cap s ex hs
        rw [hs] at h1
        split at ha
        · rename_i hcond
          simp only [Bool.and_eq_true] at hcond
          have c1 := Nat.eq_of_beq_eq_true hcond.1
          have c2 := Nat.le_of_ble_eq_true hcond.2
          subst c1
          split at ha
          · rename_i l' h' m' hb
            cases ha
            simp only [VR] at h1
            obtain ⟨p, q, c, g1, g2, g3, g4, g5⟩ := h1
            have hle := bnds_le c2 hb
            have hcc : cap ≤ c := by
              cases ex with
              | true => rw [g3 rfl]; exact Nat.le_refl _
              | false => exact (g4 rfl).1
            have hb' := bnds_cap hcc hb
            have hrun := bnds_run (P := P) (w := w) true h2 h3 h4 hb'
            generalize hM : (if (evo tm m).isSome then m' else c) = M at hrun hb'
            have hMl : h' ≤ M := by
              rw [← hM]
              split <;> omega
            refine Snd.still hR (v' := .slice (if M = l' then some q else some (q.add (l' * ie.size))) (h' - l') (M - l')) ?_ ?_
            · simp only [execOp, ho, Instr.sliceAt, Sem.run_bind, run_underlying' hu, Result.andThen_ok, Instr.slice, g2]
              rw [hrun]
              simp only [Result.andThen_ok, Sem.run_bind, run_sizeOf' hie, Sem.run_pure, Option.map_some]
            · simp only [VR]
              refine ⟨p, if M = l' then q else q.add (l' * ie.size), M - l', g1, by split <;> rfl, ?_, ?_, ?_⟩
              · intro e
                cases hmx : evo tm m with
                | none =>
                  rw [hmx] at hM e
                  simp only [Option.isSome_none, Bool.or_false] at e
                  simp only [Option.isSome_none, Bool.false_eq_true, if_false] at hM
                  have := hle.2.2.2 hmx
                  rw [← hM, g3 e, this]
                | some z =>
                  rw [hmx] at hM
                  simp only [Option.isSome_some, if_true] at hM
                  rw [← hM]
              · intro e
                simp only [Bool.or_eq_false_iff] at e
                obtain ⟨k1, k2⟩ := g4 e.1
                have hM' : M = c := by
                  rw [← hM]
                  simp [e.2]
                have hmc : m' ≤ c := by omega
                subst hM'
                refine ⟨by omega, ?_⟩
                have : u + l' * ie.size + (M - l') * ie.size = u + M * ie.size := by
                  rw [Nat.sub_mul]
                  have : l' * ie.size ≤ M * ie.size := Nat.mul_le_mul_right _ (by omega)
                  omega
                omega
              · intro hpos
                have hMc : M ≤ c := by
                  rw [← hM]
                  split <;> omega
                rw [if_neg (by omega), g5 (by omega), add_eq, Nat.add_assoc]
          · cases ha
        · cases ha
      · cases ha
    · cases hc
  · rename_i n e y l h m hu hx hl hh hm
    split at hc
    · rename_i sz hsz
      cases hc
      obtain ⟨ie, hie, rfl⟩ := szOf_some hsz
      have h1 := opd_rel hR hF hx
      have h2 := ovr hR hF hl
      have h3 := ovr hR hF hh
      have h4 := ovr hR hF hm
      simp only [aop] at ha
      split at ha
      · rename_i X u hs
        rw [hs] at h1
        split at ha
        · rename_i l' h' m' hb
          cases ha
          obtain ⟨p, g1, g2⟩ := h1.ptr_inv
          have hrun := bnds_run (P := P) (w := w) false h2 h3 h4 hb
          have hle := bnds_le (Nat.le_refl _) hb
          refine Snd.still hR (v' := .slice (some (if m' = l' then ⟨p.b, p.base + u, none⟩ else (Addr.mk p.b (p.base + u) none).add (l' * ie.size))) (h' - l') (m' - l')) ?_ ?_
          · simp only [execOp, ho, Instr.sliceAt, Sem.run_bind, run_underlying' hu, Result.andThen_ok, g2, Instr.sureAddr, Sem.run_pure]
            rw [hrun]
            simp only [Result.andThen_ok, Sem.run_bind, run_sizeOf' hie, Sem.run_pure]
          · simp only [VR]
            refine ⟨p, _, m' - l', g1, rfl, fun _ => rfl, (fun e => nomatch e), ?_⟩
            intro hpos
            rw [if_neg (by omega), add_eq, Nat.add_assoc]
        · cases ha
      · cases ha
    · cases hc
  · cases hc
end
end Go.Vd
namespace Go.Vd

theorem cOpds_cons {P : Program} {l : List Operand} {y : Opd} {m : List Opd} (h : cOpds P l = some (y :: m)) : ∃ x l', l = x :: l' ∧ cOpd P x = some y ∧ cOpds P l' = some m := by
  cases l with
  | nil => simp [cOpds] at h
  | cons x l =>
    simp only [cOpds] at h
    split at h
    · rename_i y' m' h1 h2
      cases h
      exact ⟨x, l, rfl, h1, h2⟩
    · cases h
theorem cOpds_nil {P : Program} {l : List Operand} (h : cOpds P l = some []) : l = [] := by
  cases l with
  | nil => rfl
  | cons x l =>
    simp only [cOpds] at h
    split at h <;> cases h

section
variable {P : Program} {φ : Mp} {H : AH} {w : World} {tm : Tr AV} {a : Act} {o : Oper} {C : Ctx}

theorem run_builtin {c : Call} {b : Builtin} (ho : o.op = .call c) (hc : c.callee = .builtin b) :
    (execOp a.eval o).run P w = (builtin b c.argTypes o.type (c.args.map fun | .const _ => true | _ => false) (c.args.map a.eval)).run P w := by
  simp only [execOp, ho, resolve, hc, Sem.run_bind, Sem.run_pure, Result.andThen_ok, invoke]
  rfl

theorem args1 {c : Call} {x : Operand} (h : c.args.toList = [x]) : c.args.map a.eval = #[a.eval x] := by
  apply Array.ext'
  simp [h]
theorem args2 {c : Call} {x y : Operand} (h : c.args.toList = [x, y]) : c.args.map a.eval = #[a.eval x, a.eval y] := by
  apply Array.ext'
  simp [h]
theorem types1 {c : Call} {t : TypeId} {l : List TypeId} (h : c.argTypes.toList = t :: l) : c.argTypes[0]? = some t := by
  rw [← Array.getElem?_toList, h]; rfl
theorem types2 {c : Call} {t u : TypeId} {l : List TypeId} (h : c.argTypes.toList = t :: u :: l) : c.argTypes[1]? = some u := by
  rw [← Array.getElem?_toList, h]; rfl

theorem s_tlen {c : Call} {x : Operand} {y : Opd} {t : TypeId} (hR : R P.globals.size φ H w) (hF : FR φ tm a) (ho : o.op = .call c) (hb : c.callee = .builtin .len) (hl : c.args.toList = [x]) (hx : cOpd P x = some y) (ht : c.argTypes.toList = [t])
    (hu : P.underlying t = some .string) {v : AV} {H' : AH} (ha : aop C tm H (.tlen y) = .val v H') : Snd P P.globals.size φ H w o a v H' := by
  have hrel := opd_rel hR hF hx
  have h0 := types1 ht
  simp only [aop] at ha
  split at ha
  · rename_i l hl'
    cases ha
    rw [hl'] at hrel
    refine Snd.still hR (v' := .int .i64 l.length) ?_ (by simp [VR])
    rw [run_builtin ho hb, args1 hl]
    simp only [builtin, Builtin.len_, h0, hrel.str_inv, Sem.run_bind]
    simp [run_underlying' hu, goInt, ba_size]
  · cases ha

theorem s_len {c : Call} {x : Operand} {y : Opd} {t e : TypeId} (hR : R P.globals.size φ H w) (hF : FR φ tm a) (ho : o.op = .call c) (hb : c.callee = .builtin .len) (hl : c.args.toList = [x]) (hx : cOpd P x = some y) (ht : c.argTypes.toList = [t])
    (hu : P.underlying t = some (.slice e)) {v : AV} {H' : AH} (ha : aop C tm H (.len y) = .val v H') : Snd P P.globals.size φ H w o a v H' := by
  have hrel := opd_rel hR hF hx
  have h0 := types1 ht
  simp only [aop] at ha
  split at ha
  · rename_i X u len cap sz ex hl'
    cases ha
    rw [hl'] at hrel
    simp only [VR] at hrel
    obtain ⟨p, q, cc, _, g2, _⟩ := hrel
    refine Snd.still hR (v' := .int .i64 len) ?_ (by simp [VR])
    rw [run_builtin ho hb, args1 hl]
    simp only [builtin, Builtin.len_, h0, g2, Sem.run_bind]
    simp [run_underlying' hu, goInt]
  · rename_i hl'
    cases ha
    rw [hl'] at hrel
    refine Snd.still hR (v' := .int .i64 0) ?_ (by simp [VR])
    rw [run_builtin ho hb, args1 hl]
    simp only [builtin, Builtin.len_, h0, hrel.nils_inv, Sem.run_bind]
    simp [run_underlying' hu, goInt]
  · cases ha

theorem s_alen {c : Call} {x : Operand} {t : TypeId} {n : Nat} (hR : R P.globals.size φ H w) (ho : o.op = .call c) (hb : c.callee = .builtin .len) (hl : c.args.toList = [x]) (ht : c.argTypes.toList = [t])
    (hu : (∃ e, P.underlying t = some (.array n e)) ∨ (∃ p e, P.underlying t = some (.pointer p) ∧ P.underlying p = some (.array n e))) {v : AV} {H' : AH} (ha : aop C tm H (.alen n) = .val v H') : Snd P P.globals.size φ H w o a v H' := by
  have h0 := types1 ht
  simp only [aop] at ha
  cases ha
  refine Snd.still hR (v' := .int .i64 n) ?_ (by simp [VR])
  rw [run_builtin ho hb, args1 hl]
  rcases hu with ⟨e, hu⟩ | ⟨p, e, hu, hp⟩
  · simp only [builtin, Builtin.len_, h0, Sem.run_bind]
    simp [run_underlying' hu, goInt]
  · simp only [builtin, Builtin.len_, h0, Sem.run_bind]
    simp [run_underlying' hu, run_underlying' hp, goInt]

theorem s_cap {c : Call} {x : Operand} {y : Opd} {t e : TypeId} (hR : R P.globals.size φ H w) (hF : FR φ tm a) (ho : o.op = .call c) (hb : c.callee = .builtin .cap) (hl : c.args.toList = [x]) (hx : cOpd P x = some y) (ht : c.argTypes.toList = [t])
    (hu : P.underlying t = some (.slice e)) {v : AV} {H' : AH} (ha : aop C tm H (.cap y) = .val v H') : Snd P P.globals.size φ H w o a v H' := by
  have hrel := opd_rel hR hF hx
  have h0 := types1 ht
  simp only [aop] at ha
  split at ha
  · rename_i X u len cap sz hl'
    cases ha
    rw [hl'] at hrel
    simp only [VR] at hrel
    obtain ⟨p, q, cc, _, g2, g3, _⟩ := hrel
    have := g3 trivial
    subst this
    refine Snd.still hR (v' := .int .i64 cc) ?_ (by simp [VR])
    rw [run_builtin ho hb, args1 hl]
    simp only [builtin, Builtin.cap_, h0, g2, Sem.run_bind]
    simp [run_underlying' hu, goInt]
  · rename_i hl'
    cases ha
    rw [hl'] at hrel
    refine Snd.still hR (v' := .int .i64 0) ?_ (by simp [VR])
    rw [run_builtin ho hb, args1 hl]
    simp only [builtin, Builtin.cap_, h0, hrel.nils_inv, Sem.run_bind]
    simp [run_underlying' hu, goInt]
  · cases ha

theorem mm_fold {mx : Bool} : ∀ {l : List AV} {vs : List Value} {k : IntKind} {n : Int} {r : AV}, VRs φ l vs → mmA mx k n l = some r →
    (vs.foldlM (if mx then Builtin.max2 else Builtin.min2) (.int k n)).run P w = .ok (match r with | .int j m => .int j m | _ => undef) w ∧ ∃ j m, r = .int j m
  | [], vs, k, n, r, h, hm => by
    simp only [VRs] at h
    subst h
    simp only [mmA, Option.some.injEq] at hm
    subst hm
    exact ⟨by simp, k, n, rfl⟩
  | .int j b :: l, vs, k, n, r, h, hm => by
    simp only [VRs, VR] at h
    obtain ⟨v, ws, rfl, rfl, h⟩ := h
    simp only [mmA] at hm
    split at hm
    · rename_i hk
      subst hk
      obtain ⟨h1, h2⟩ := mm_fold h hm
      refine ⟨?_, h2⟩
      rw [List.foldlM_cons, Sem.run_bind]
      cases mx
      · simp only [Bool.false_eq_true, if_false] at h1 ⊢
        rw [← h1]
        rfl
      · simp only [if_true] at h1 ⊢
        rw [← h1]
        rfl
    · cases hm
  | .bool _ :: l, vs, k, n, r, h, hm => by simp [mmA] at hm
  | .str _ :: l, vs, k, n, r, h, hm => by simp [mmA] at hm
  | .nilp :: l, vs, k, n, r, h, hm => by simp [mmA] at hm
  | .ptr _ _ :: l, vs, k, n, r, h, hm => by simp [mmA] at hm
  | .hnd _ _ :: l, vs, k, n, r, h, hm => by simp [mmA] at hm
  | .nils :: l, vs, k, n, r, h, hm => by simp [mmA] at hm
  | .slc _ _ _ _ _ _ :: l, vs, k, n, r, h, hm => by simp [mmA] at hm
  | .nilm :: l, vs, k, n, r, h, hm => by simp [mmA] at hm
  | .map _ :: l, vs, k, n, r, h, hm => by simp [mmA] at hm
  | .fn _ _ _ :: l, vs, k, n, r, h, hm => by simp [mmA] at hm
  | .nilf :: l, vs, k, n, r, h, hm => by simp [mmA] at hm
  | .ifc _ _ :: l, vs, k, n, r, h, hm => by simp [mmA] at hm
  | .nili :: l, vs, k, n, r, h, hm => by simp [mmA] at hm
  | .agg _ :: l, vs, k, n, r, h, hm => by simp [mmA] at hm
  | .tup _ :: l, vs, k, n, r, h, hm => by simp [mmA] at hm

theorem s_mm {c : Call} {mx : Bool} {y : Opd} {m : List Opd} (hR : R P.globals.size φ H w) (hF : FR φ tm a) (ho : o.op = .call c) (hb : c.callee = .builtin (if mx then .max else .min)) (hl : cOpds P c.args.toList = some (y :: m))
    {v : AV} {H' : AH} (ha : aop C tm H (.mm mx y m) = .val v H') : Snd P P.globals.size φ H w o a v H' := by
  obtain ⟨x, l', e1, e2, e3⟩ := cOpds_cons hl
  have hrel := opd_rel hR hF e2
  have hrels := opds_rel hR hF e3
  simp only [aop] at ha
  split at ha
  · rename_i k n hk
    simp only [ofV] at ha
    split at ha
    · rename_i r hr
      cases ha
      rw [hk] at hrel
      obtain ⟨h1, j, q, rfl⟩ := mm_fold (P := P) (w := w) hrels hr
      refine Snd.still hR (v' := .int j q) ?_ (by simp [VR])
      rw [run_builtin ho hb]
      have e4 : (c.args.map a.eval).toList = .int k n :: l'.map a.eval := by
        simp [e1, hrel.int_inv]
      cases mx
      · simp only [Bool.false_eq_true, if_false, builtin, Builtin.min_, Sem.run_bind, e4] at h1 ⊢
        rw [h1]
        rfl
      · simp only [if_true, builtin, Builtin.max_, Sem.run_bind, e4] at h1 ⊢
        rw [h1]
        rfl
    · cases ha
  · cases ha
end
end Go.Vd
namespace Go.Vd

section
variable {P : Program} {φ : Mp} {H : AH} {w : World} {tm : Tr AV} {a : Act} {o : Oper} {C : Ctx}

/-- What the evaluator is told of interfaces. -/
def ImplOK (P : Program) (C : Ctx) : Prop := ∀ t a b, C.impl t a = some b → ∃ i want, P.info? t = some i ∧ P.underlying a = some (.interface want) ∧ (Instr.missingMethod want i.methods).isNone = b

theorem s_ta {x : Operand} {t u : Nat} {ok : Bool} {b : AOp} (hI : ImplOK P C) (hR : R P.globals.size φ H w) (hF : FR φ tm a) (ho : o.op = .typeAssert x t u ok) (hc : cop P o = some b)
    {v : AV} {H' : AH} (ha : aop C tm H b = .val v H') : Snd P P.globals.size φ H w o a v H' := by
  simp only [cop, ho] at hc
  split at hc
  · rename_i want y z hu hx hz
    cases hc
    obtain ⟨i, zv, hi, hz1, hz2⟩ := zvOf_some hz
    have hrel := opd_rel hR hF hx
    have hzr : VR φ z zv := cvV_rel zv z hz2
    simp only [aop] at ha
    split at ha
    · rename_i hn
      rw [hn] at hrel
      split at ha
      · rename_i hok
        cases ha
        subst hok
        refine Snd.still hR (v' := .tuple #[zv, .bool false]) ?_ (by simp only [VR, VRs]; exact ⟨_, rfl, _, _, rfl, hzr, _, _, rfl, rfl, rfl⟩)
        simp only [execOp, ho, Instr.typeAssert, hrel.nili_inv, Sem.run_bind]
        simp [run_underlying' hu, run_zeroValue' hi hz1]
      · cases ha
    · rename_i t' q hq
      rw [hq] at hrel
      obtain ⟨q', g1, g2⟩ := hrel.ifc_inv
      split at ha
      · rename_i him
        cases ha
        obtain ⟨i', want', hi', hw', hm⟩ := hI t' u true him
        rw [hu] at hw'
        cases hw'
        have hm' : Instr.missingMethod want i'.methods = none := Option.isNone_iff_eq_none.1 hm
        cases ok
        · refine Snd.still hR (v' := .iface t' q') ?_ (by simp [VR]; exact g2)
          simp only [execOp, ho, Instr.typeAssert, g1, Sem.run_bind]
          simp [run_underlying' hu, run_typeInfo' hi', hm']
        · refine Snd.still hR (v' := .tuple #[.iface t' q', .bool true]) ?_ (by simp only [VR, VRs, if_true]; exact ⟨_, rfl, _, _, rfl, ⟨_, rfl, g2⟩, _, _, rfl, rfl, rfl⟩)
          simp only [execOp, ho, Instr.typeAssert, g1, Sem.run_bind]
          simp [run_underlying' hu, run_typeInfo' hi', hm']
      · rename_i him
        split at ha
        · rename_i hok
          cases ha
          subst hok
          obtain ⟨i', want', hi', hw', hm⟩ := hI t' u false him
          rw [hu] at hw'
          cases hw'
          obtain ⟨m, hm'⟩ : ∃ m, Instr.missingMethod want i'.methods = some m := by
            cases e : Instr.missingMethod want i'.methods with
            | none => rw [e] at hm; cases hm
            | some m => exact ⟨m, rfl⟩
          refine Snd.still hR (v' := .tuple #[zv, .bool false]) ?_ (by simp only [VR, VRs]; exact ⟨_, rfl, _, _, rfl, hzr, _, _, rfl, rfl, rfl⟩)
          simp only [execOp, ho, Instr.typeAssert, g1, Sem.run_bind]
          simp [run_underlying' hu, run_typeInfo' hi', hm', run_zeroValue' hi hz1]
        · cases ha
      · cases ha
    · cases ha
  · rename_i d y z hno hu hx hz
    cases hc
    obtain ⟨i, zv, hi, hz1, hz2⟩ := zvOf_some hz
    have hrel := opd_rel hR hF hx
    have hzr : VR φ z zv := cvV_rel zv z hz2
    have hni : ∀ ms, d ≠ .interface ms := fun ms e => hno ms e
    simp only [aop] at ha
    split at ha
    · rename_i hn
      rw [hn] at hrel
      split at ha
      · rename_i hok
        cases ha
        subst hok
        refine Snd.still hR (v' := .tuple #[zv, .bool false]) ?_ (by simp only [VR, VRs]; exact ⟨_, rfl, _, _, rfl, hzr, _, _, rfl, rfl, rfl⟩)
        simp only [execOp, ho, Instr.typeAssert, hrel.nili_inv, Sem.run_bind]
        simp only [run_underlying' hu, Result.andThen_ok]
        cases d <;> first
          | exact absurd rfl (hni _)
          | simp [run_zeroValue' hi hz1]
      · cases ha
    · rename_i t' q hq
      rw [hq] at hrel
      obtain ⟨q', g1, g2⟩ := hrel.ifc_inv
      split at ha
      · rename_i hte
        cases ha
        have hte := Nat.eq_of_beq_eq_true hte
        subst hte
        cases ok
        · refine Snd.still hR (v' := q') ?_ g2
          simp only [execOp, ho, Instr.typeAssert, g1, Sem.run_bind]
          simp only [run_underlying' hu, Result.andThen_ok]
          cases d <;> first
            | exact absurd rfl (hni _)
            | simp
        · refine Snd.still hR (v' := .tuple #[q', .bool true]) ?_ (by simp only [VR, VRs, if_true]; exact ⟨_, rfl, _, _, rfl, g2, _, _, rfl, rfl, rfl⟩)
          simp only [execOp, ho, Instr.typeAssert, g1, Sem.run_bind]
          simp only [run_underlying' hu, Result.andThen_ok]
          cases d <;> first
            | exact absurd rfl (hni _)
            | simp
      · rename_i hte
        have hne : t' ≠ u := fun e => hte (by subst e; exact Nat.beq_refl t')
        split at ha
        · rename_i hok
          cases ha
          subst hok
          refine Snd.still hR (v' := .tuple #[zv, .bool false]) ?_ (by simp only [VR, VRs]; exact ⟨_, rfl, _, _, rfl, hzr, _, _, rfl, rfl, rfl⟩)
          simp only [execOp, ho, Instr.typeAssert, g1, Sem.run_bind]
          simp only [run_underlying' hu, Result.andThen_ok]
          cases d <;> first
            | exact absurd rfl (hni _)
            | simp [hne, run_zeroValue' hi hz1]
        · cases ha
    · cases ha
  · cases hc

/-! ### Iterators over strings -/

theorem s_rng {t : Nat} {x : Operand} {b : AOp} (hg : P.globals.size ≤ H.next) (hR : R P.globals.size φ H w) (hF : FR φ tm a) (ho : o.op = .range t x) (hc : cop P o = some b)
    {v : AV} {H' : AH} (ha : aop C tm H b = .val v H') : Snd P P.globals.size φ H w o a v H' := by
  simp only [cop, ho] at hc
  split at hc
  · rename_i y hu hx
    cases hc
    have hrel := opd_rel hR hF hx
    simp only [aop] at ha
    split at ha
    · rename_i s hs
      cases ha
      rw [hs] at hrel
      obtain ⟨g1, g2⟩ := hR.push hg (.it s 0) (.stringIter ⟨s.toArray⟩ 0) (p := ⟨w.heap.size, 0, 0⟩) rfl (by simp [BlkR])
      refine ⟨_, .pointer (some ⟨w.heap.size, 0, none⟩), _, .inl ?_, g1, g2, ?_⟩
      · simp only [execOp, ho, Instr.range, hrel.str_inv, Sem.run_bind]
        simp [run_underlying' hu]
      · simp only [VR]
        exact ⟨_, Mp.add_self _ _ _, rfl⟩
    · cases ha
  · cases hc

theorem decode_ascii {s : List UInt8} {pos : Nat} {b : UInt8} (h : s[pos]? = some b) (hb : b.toNat < 128) : Utf8.decode ⟨s.toArray⟩ pos = (b.toNat, 1) := by
  have hlt : pos < s.length := by
    rcases Nat.lt_or_ge pos s.length with g | g
    · exact g
    · rw [List.getElem?_eq_none g] at h; cases h
  have h0 : (ByteArray.mk s.toArray).get! (pos + 0) = b := by
    simp only [ByteArray.get!, Nat.add_zero]
    rw [getElem!_pos s.toArray pos (by simpa using hlt)]
    rw [List.getElem?_eq_getElem hlt] at h
    simpa using h
  unfold Utf8.decode
  simp only [h0]
  rw [if_pos hb]

theorem s_nxt {x : Operand} {b : AOp} (hR : R P.globals.size φ H w) (hF : FR φ tm a) {isS : Bool} (ho : o.op = .next x isS) (hc : cop P o = some b)
    {v : AV} {H' : AH} (ha : aop C tm H b = .val v H') : Snd P P.globals.size φ H w o a v H' := by
  cases isS with
  | false => simp [cop, ho] at hc
  | true =>
    simp only [cop, ho, Option.map_eq_some_iff] at hc
    obtain ⟨y, hx, rfl⟩ := hc
    have hrel := opd_rel hR hF hx
    simp only [aop] at ha
    split at ha
    · rename_i X hX
      rw [hX] at hrel
      obtain ⟨p, g1, g2⟩ := hrel.ptr_inv
      have hb := hR.blk X p g1
      split at ha
      · rename_i s pos hg
        rw [hg] at hb
        simp only [BlkR] at hb
        obtain ⟨hbase, hb⟩ := hb
        have hpb := (hR.lo X p g1).2
        rw [hbase] at g2
        have hget : (getObj p.b).run P w = .ok (.stringIter ⟨s.toArray⟩ pos) w := by
          simp only [getObj, Sem.run, hb]
        split at ha
        · rename_i bb hbb
          split at ha
          · rename_i hlt
            have hlt : bb.toNat < 128 := Nat.le_of_ble_eq_true hlt
            cases ha
            have hposlt : pos < s.length := by
              rcases Nat.lt_or_ge pos s.length with g | g
              · exact g
              · rw [List.getElem?_eq_none g] at hbb; cases hbb
            have hset : (setObj p.b (.stringIter ⟨s.toArray⟩ (pos + 1))).run P w = .ok () { w with heap := w.heap.setIfInBounds p.b (.stringIter ⟨s.toArray⟩ (pos + 1)) } := by
              simp only [setObj, Sem.run, hb]
            obtain ⟨k1, k2⟩ := hR.upd (w' := { w with heap := w.heap.setIfInBounds p.b (.stringIter ⟨s.toArray⟩ (pos + 1)) }) g1 (by simp [AH.alive, hg]) (.it s (pos + 1)) (by simp)
              (fun c hc => by simp [Array.getElem?_setIfInBounds, show ¬ p.b = c from fun e => hc e.symm]) ⟨rfl, rfl, rfl⟩ (by
                simp only [BlkR]
                exact ⟨hbase, by simp [hpb]⟩)
            refine ⟨φ, .tuple #[.bool true, goInt pos, .int .i32 bb.toNat], _, .inl ?_, k1, k2, ?_⟩
            · simp only [execOp, ho, Instr.next, g2, Sem.run_bind, hget, Result.andThen_ok]
              rw [if_pos (by rw [ba_size]; exact hposlt)]
              simp only [decode_ascii hbb hlt, Sem.run_bind, hset, Result.andThen_ok, Sem.run_pure]
            · simp only [VR, VRs]
              exact ⟨_, rfl, _, _, rfl, rfl, _, _, rfl, rfl, _, _, rfl, rfl, rfl⟩
          · cases ha
        · rename_i hbb
          cases ha
          have hge : ¬ pos < s.length := by
            intro g
            rw [List.getElem?_eq_getElem g] at hbb
            cases hbb
          refine Snd.still hR (v' := .tuple #[.bool false]) ?_ (by simp only [VR, VRs]; exact ⟨_, rfl, _, _, rfl, rfl, rfl⟩)
          simp only [execOp, ho, Instr.next, g2, Sem.run_bind, hget, Result.andThen_ok]
          rw [if_neg (by rw [ba_size]; exact hge)]
          simp
      · cases ha
    · cases ha

/-! ### Conversions -/

theorem avBytes_rel {l : List AV} {vs : List Value} (h : VRs φ l vs) {s : List UInt8} (hs : avBytes l = some s) : ∃ ns : List Int, vs = ns.map (Value.int .u8) ∧ s = ns.map fun n => UInt8.ofNat n.toNat := by
  induction l generalizing vs s with
  | nil =>
    simp only [VRs] at h
    subst h
    simp only [avBytes, Option.some.injEq] at hs
    subst hs
    exact ⟨[], rfl, rfl⟩
  | cons x l ih =>
    simp only [VRs] at h
    obtain ⟨v, ws, rfl, hv, h⟩ := h
    simp only [avBytes] at hs
    split at hs
    · rename_i b m hb hm
      cases hs
      obtain ⟨ns, rfl, rfl⟩ := ih h hm
      unfold avByte at hb
      split at hb
      · rename_i n
        cases hb
        exact ⟨n :: ns, by rw [hv.int_inv]; rfl, rfl⟩
      · cases hb
    · cases hs

/-- What the evaluator is told of places where a variable lies. -/
def LiesOK (P : Program) (C : Ctx) : Prop := ∀ e k q t, C.lies e k q t = true → liesAt P P.depth e (k / P.cellsOf e) q t 1 = true

theorem s_conv {x : Operand} {t u : Nat} {b : AOp} (hL : LiesOK P C)
    (hR : R P.globals.size φ H w) (hF : FR φ tm a) (ho : o.op = .convert t u x) (hc : cop P o = some b)
    {v : AV} {H' : AH} (ha : aop C tm H b = .val v H') : Snd P P.globals.size φ H w o a v H' := by
  simp only [cop, ho] at hc
  split at hc
  · rename_i y k k' hx ht hu
    cases hc
    have hrel := opd_rel hR hF hx
    simp only [aop] at ha
    split at ha
    · rename_i j n hn
      cases ha
      rw [hn] at hrel
      refine Snd.still hR (v' := .int k' (k'.wrap n)) ?_ (by simp [VR])
      simp only [execOp, ho, convert, hrel.int_inv, Sem.run_bind]
      simp [run_underlying' ht, run_underlying' hu, Conv.intToInt]
    · cases ha
  · rename_i y hx ht hu
    cases hc
    have hrel := opd_rel hR hF hx
    simp only [aop] at ha
    split at ha
    · rename_i l hl
      cases ha
      rw [hl] at hrel
      refine Snd.still hR (v' := .string ⟨l.toArray⟩) ?_ (by simp [VR])
      simp only [execOp, ho, convert, hrel.str_inv, Sem.run_bind]
      simp [run_underlying' ht, run_underlying' hu]
    · cases ha
  · rename_i y e hx ht hu
    split at hc
    · rename_i he
      cases hc
      have hrel := opd_rel hR hF hx
      simp only [aop] at ha
      split at ha
      · rename_i hn
        cases ha
        rw [hn] at hrel
        refine Snd.still hR (v' := .string .empty) ?_ (by simp [VR]; rfl)
        simp only [execOp, ho, hrel.nils_inv, Sem.run_bind, run_convert_bytes_string w t u e none 0 0 ht he hu, Conv.bytesToString, Sem.run_pure, Result.andThen_ok]
      · rename_i X q n cap ex hl
        rw [hl] at hrel
        split at ha
        case isFalse => cases ha
        rename_i hnc
        have hnc := Nat.le_of_ble_eq_true hnc
        split at ha
        · rename_i l hl'
          simp only [ofV] at ha
          split at ha
          · rename_i r hr
            cases ha
            simp only [Option.map_eq_some_iff] at hr
            obtain ⟨s, hs, rfl⟩ := hr
            simp only [VR] at hrel
            obtain ⟨p, ad, cc, g1, g2, g3, g4, g5⟩ := hrel
            obtain ⟨vs, k1, k2, k3⟩ := hR.run_loadCells (P := P) g1 hl'
            obtain ⟨ns, rfl, rfl⟩ := avBytes_rel k1 hs
            have hload : (loadCells ad n).run P w = .ok (ns.map (Value.int .u8)).toArray w := by
              rcases Nat.eq_zero_or_pos n with e0 | e0
              · subst e0
                have : ns = [] := by simpa using k2
                subst this
                simp [loadCells, loadCellsFrom]
              · by_cases hc0 : 0 < cc
                · rw [g5 hc0]; exact k3
                · exfalso
                  cases ex with
                  | true => have := g3 rfl; omega
                  | false => have := (g4 rfl).1; omega
            refine Snd.still hR (v' := .string (ns.foldl (fun r n => r.push (UInt8.ofNat n.toNat)) ByteArray.empty)) ?_ ?_
            · simp only [execOp, ho, g2, Sem.run_bind, run_convert_bytes_string w t u e (some ad) n cc ht he hu, run_bytesToString w ad n cc ns hload, Sem.run_pure, Result.andThen_ok]
            · simp only [VR]
              congr 1
              have : ∀ (ns : List Int) (s : ByteArray), ns.foldl (fun r n => r.push (UInt8.ofNat n.toNat)) s = ⟨s.data ++ (ns.map fun n => UInt8.ofNat n.toNat).toArray⟩ := by
                intro ns
                induction ns with
                | nil => intro s; simp
                | cons n ns ih =>
                  intro s
                  simp only [List.foldl_cons, ih]
                  congr 1
                  apply Array.ext'
                  simp [ByteArray.push]
              rw [this]
              simp [ByteArray.empty, ByteArray.emptyWithCapacity]
              rfl
          · cases ha
        · cases ha
      · cases ha
    · cases hc
  · rename_i y e hx ht hu
    split at hc
    · rename_i k hsz
      cases hc
      obtain ⟨i, hi, hes⟩ := szOf_some hsz
      have hrel := opd_rel hR hF hx
      simp only [aop] at ha
      split at ha
      · rename_i hn
        cases ha
        rw [hn] at hrel
        refine Snd.still hR (v' := .pointer none) ?_ (by simp [VR])
        simp only [execOp, ho, convert, hrel.nilp_inv, Sem.run_bind]
        simp [run_underlying' ht, run_underlying' hu, Conv.unsafePointer]
      · rename_i X q hX
        rw [hX] at hrel
        obtain ⟨p, g1, g2⟩ := hrel.ptr_inv
        split at ha
        · rename_i l e' fl hg
          split at ha
          · rename_i hlt
            have hlt : q < l.length := Nat.le_of_ble_eq_true hlt
            cases ha
            have hb := hR.blk X p g1
            rw [hg] at hb
            obtain ⟨c, lo, hh, h1, h2, h3, h4, h5, h6⟩ := hb
            have hsh : w.shape? p.b = some (e', c.size) := by simp [World.shape?, h1]
            refine Snd.still hR (v' := .pointer (some ⟨p.b, p.base + q, none⟩)) ?_ (by simp only [VR]; exact ⟨p, g1, rfl⟩)
            have hseen : (Conv.seenAt ⟨p.b, p.base + q, none⟩).run P w = .ok ⟨p.b, p.base + q, none⟩ w := by
              simp [Conv.seenAt, viewAt, hsh]
            have hin : (cellsIn p.b).run P w = .ok (some c.size) w := by
              simp [cellsIn, hsh]
            have hsize : (sizeOf e).run P w = .ok (k + 1) w := by rw [run_sizeOf' hi, hes]
            simp only [execOp, ho, convert, g2, Sem.run_bind, run_underlying' ht, run_underlying' hu, Result.andThen_ok, Conv.unsafePointer, hseen, hin, hsize]
            have : ¬ (c.size ≤ p.base + q) := by omega
            simp [this]
          · cases ha
        · cases ha
      · cases ha
    · cases hc
  · rename_i y e hx ht hu
    split at hc
    · rename_i k hsz
      cases hc
      obtain ⟨i, hi, hes⟩ := szOf_some hsz
      have hrel := opd_rel hR hF hx
      simp only [aop] at ha
      split at ha
      · rename_i hn
        cases ha
        rw [hn] at hrel
        refine Snd.still hR (v' := .pointer none) ?_ (by simp [VR])
        simp only [execOp, ho, convert, hrel.nilp_inv, Sem.run_bind]
        simp [run_underlying' ht, run_underlying' hu, Conv.unsafePointer]
      · rename_i X q hX
        rw [hX] at hrel
        obtain ⟨p, g1, g2⟩ := hrel.ptr_inv
        split at ha
        · rename_i l e' fl hg
          split at ha
          · rename_i hlt
            simp only [Bool.and_eq_true] at hlt
            have hfl := Nat.eq_of_beq_eq_true hlt.1
            cases ha
            have hb := hR.blk X p g1
            rw [hg] at hb
            obtain ⟨c, lo, hh, h1, h2, h3, h4, h5, h6⟩ := hb
            obtain ⟨_, hbase, hcs⟩ := h4 hfl
            have hsh : w.shape? p.b = some (e', c.size) := by simp [World.shape?, h1]
            refine Snd.still hR (v' := .pointer (some ⟨p.b, p.base + q, none⟩)) ?_ (by simp only [VR]; exact ⟨p, g1, rfl⟩)
            have hseen : (Conv.seenAt ⟨p.b, p.base + q, none⟩).run P w = .ok ⟨p.b, p.base + q, none⟩ w := by
              simp [Conv.seenAt, viewAt, hsh]
            have hsize : (sizeOf e).run P w = .ok (k + 1) w := by rw [run_sizeOf' hi, hes]
            have hvar : (variablesAt ⟨p.b, p.base + q, none⟩ e 1).run P w = .ok true w := by
              have := hL _ _ _ _ hlt.2
              simp only [variablesAt, Sem.run_bind, run_program, Result.andThen_ok, run_shape, hsh, Sem.run_pure]
              rw [hbase, Nat.zero_add, hcs, this]
            simp only [execOp, ho, convert, g2, Sem.run_bind, run_underlying' ht, run_underlying' hu, Result.andThen_ok, Conv.unsafePointer, hseen, hsize, hvar]
            simp
          · cases ha
        · cases ha
      · cases ha
    · cases hc
  · cases hc
end
end Go.Vd
namespace Go.Vd

section
variable {P : Program} {φ : Mp} {H : AH} {w : World} {tm : Tr AV} {a : Act} {o : Oper} {C : Ctx}

theorem s_mks {t : Nat} {x y : Operand} {b : AOp} (hg : P.globals.size ≤ H.next) (hR : R P.globals.size φ H w) (hF : FR φ tm a) (ho : o.op = .makeSlice t x y) (hc : cop P o = some b)
    {v : AV} {H' : AH} (ha : aop C tm H b = .val v H') : Snd P P.globals.size φ H w o a v H' := by
  simp only [cop, ho] at hc
  split at hc
  · rename_i e x' y' hu hx hy
    split at hc
    · rename_i sz bts zs hsz hbt hz
      split at hc
      · cases hc
      · rename_i hno
        cases hc
        obtain ⟨ie, hie, hes⟩ := szOf_some hsz
        obtain ⟨ib, hib, hbs⟩ := btOf_some hbt
        obtain ⟨iz, z, bb, hiz, hz1, hz2, rfl⟩ := zrOf_some hz
        rw [hie] at hib hiz
        cases hib
        cases hiz
        have h1 := opd_rel hR hF hx
        have h2 := opd_rel hR hF hy
        simp only [aop] at ha
        split at ha
        · rename_i k n j m hn hm
          rw [hn] at h1
          rw [hm] at h2
          split at ha
          · rename_i hcond
            cases ha
            simp only [Bool.and_eq_true, decide_eq_true_eq] at hcond
            obtain ⟨⟨⟨⟨⟨c1, c2⟩, c3⟩, c4⟩, c5⟩, c6⟩ := hcond
            have c6 := Nat.eq_of_beq_eq_true c6
            have hzv : VRs φ bb.cells z.cells.toList := (cvV_rel z bb hz2).cells
            have hzlen : z.cells.size = ie.size := by rw [← Array.length_toList, hzv.length, c6, hes]
            have hrun := run_make (P := P) w t e ie z hu hie hz1 k j n m c1 c2 (by rw [hbs, Int.mul_comm]; exact c3) (by omega)
            have hcells : madeCells z.cells (m.toNat * ie.size) = ⟨replV z.cells.toList m.toNat⟩ := by
              rw [← hzlen]
              exact zeros_eq z.cells m.toNat
            rw [hcells] at hrun
            obtain ⟨g1, g2⟩ := hR.row hg (repl_rel hzv m.toNat) [] e 0 (fun _ => rfl)
            rw [List.append_nil] at g1 g2
            refine ⟨_, .slice (some ⟨w.heap.size, 0, none⟩) n.toNat m.toNat, _, .inl ?_, g1, g2, ?_⟩
            · simp only [execOp, ho, h1.int_inv, h2.int_inv, Sem.run_bind, hrun, Result.andThen_ok, Sem.run_pure]
              rfl
            · simp only [VR]
              exact ⟨_, _, _, Mp.add_self _ _ _, rfl, fun _ => rfl, (fun h => nomatch h), fun _ => by simp⟩
          · cases ha
        · cases ha
    · cases hc
  · cases hc

theorem s_sdata {c : Call} {x : Operand} {y : Opd} (hR : R P.globals.size φ H w) (hF : FR φ tm a) (ho : o.op = .call c) (hb : c.callee = .builtin .unsafeSliceData) (hl : c.args.toList = [x]) (hx : cOpd P x = some y)
    {v : AV} {H' : AH} (ha : aop C tm H (.sdata y) = .val v H') : Snd P P.globals.size φ H w o a v H' := by
  have hrel := opd_rel hR hF hx
  simp only [aop] at ha
  split at ha
  · rename_i hn
    cases ha
    rw [hn] at hrel
    refine Snd.still hR (v' := .pointer none) ?_ (by simp [VR])
    rw [run_builtin ho hb, args1 hl]
    simp only [builtin, Sem.run_bind, hrel.nils_inv, Lib.run_unsafeSliceData_nil, Result.andThen_ok, Sem.run_pure]
  · rename_i X q len cap sz ex hX
    rw [hX] at hrel
    split at ha
    · rename_i hc
      cases ha
      simp only [Bool.and_eq_true] at hc
      have k1 := Nat.le_of_ble_eq_true hc.1
      have k2 := Nat.le_of_ble_eq_true hc.2
      simp only [VR] at hrel
      obtain ⟨p, ad, cc, g1, g2, g3, g4, g5⟩ := hrel
      have hcc : 0 < cc := by
        cases ex with
        | true => have := g3 rfl; omega
        | false => have := (g4 rfl).1; omega
      refine Snd.still hR (v' := .pointer (some ⟨p.b, p.base + q, none⟩)) ?_ (by simp only [VR]; exact ⟨p, g1, rfl⟩)
      rw [run_builtin ho hb, args1 hl]
      simp only [builtin, Sem.run_bind, g2, g5 hcc, Lib.run_unsafeSliceData_row w _ _ _ _ cc (by omega), Result.andThen_ok, Sem.run_pure]
    · cases ha
  · cases ha

theorem liesAt_row {e : TypeId} (hc : P.cellsOf e = 1) (count off n : Nat) (hn : off + n ≤ count) : liesAt P P.depth e count off e n = true := by
  have hd : P.depth = (2 * (P.types.size + Made.depth) + 1) + 1 := rfl
  rw [hd]
  simp only [liesAt, Bool.or_eq_true]
  left
  rw [hd]
  have h1 : off % 1 = 0 := Nat.mod_one off
  simp [rowAt, hc, hn, sameLayout, h1]

theorem ustr_none (A : Array TypeId) (ty pt : TypeId) (h : A[0]? = some pt) (k : IntKind) : (Builtin.unsafeString_ A ty #[.pointer none, .int k 0]).run P w = .ok (.string .empty) w := by
  have hdef : Builtin.unsafeString_ A ty #[.pointer none, .int k 0] =
      (do
        let n ← asInt (.int k 0)
        let some _ := A[0]? | stuck "unsafe.String: no argument types"
        if n < 0 then runtimePanic (.error "unsafe.String: len out of range")
        if n > IntKind.i64.max then unsupported (.unsafePointer "String: a length above the largest int")
        if n = 0 then pure (.string .empty)
        else runtimePanic (.error "unsafe.String: ptr is nil and len is not zero")) := rfl
  rw [hdef]
  have hmax : IntKind.i64.max = 9223372036854775807 := rfl
  simp [h, asInt, asIntOf, hmax]

theorem ustr_some (A : Array TypeId) (ty pt e : TypeId) (h : A[0]? = some pt) (hu : P.underlying pt = some (.pointer e)) (k : IntKind) (m : Int) (ad : Addr) (c1 : 1 ≤ m) (c2 : m < 9223372036854775807) {s : ByteArray}
    (hv : (variablesAt ad e m.toNat).run P w = .ok true w) (hl : (loadBytes ad .empty m.toNat).run P w = .ok s w) :
    (Builtin.unsafeString_ A ty #[.pointer (some ad), .int k m]).run P w = .ok (.string s) (w.freeze ad m.toNat) := by
  have hdef : Builtin.unsafeString_ A ty #[.pointer (some ad), .int k m] =
      (do
        let n ← asInt (.int k m)
        let some pt := A[0]? | stuck "unsafe.String: no argument types"
        if n < 0 then runtimePanic (.error "unsafe.String: len out of range")
        if n > IntKind.i64.max then unsupported (.unsafePointer "String: a length above the largest int")
        if n = 0 then pure (.string .empty)
        else if ← variablesAt ad (← elemOf pt) n.toNat then do
          let s ← loadBytes ad .empty n.toNat
          freeze ad n.toNat
          pure (.string s)
        else unsupported (.unsafePointer "String: not so many bytes at ptr")) := rfl
  rw [hdef]
  have hmax : IntKind.i64.max = 9223372036854775807 := rfl
  have n1 : ¬ (m < 0) := by omega
  have n2 : ¬ (9223372036854775807 < m) := by omega
  have n3 : ¬ (m = 0) := by omega
  simp [h, asInt, asIntOf, hmax, n1, n2, n3, elemOf, run_underlying' hu, hv, hl]

theorem s_ustr {c : Call} {x y : Operand} {x' y' : Opd} {pt e : TypeId} {l : List TypeId} (hR : R P.globals.size φ H w) (hF : FR φ tm a) (ho : o.op = .call c) (hb : c.callee = .builtin .unsafeString) (hl : c.args.toList = [x, y])
    (hx : cOpd P x = some x') (hy : cOpd P y = some y') (ht : c.argTypes.toList = pt :: l) (hu : P.underlying pt = some (.pointer e)) (hsz : szOf P e = some 1)
    {v : AV} {H' : AH} (ha : aop C tm H (.ustr e x' y') = .val v H') : Snd P P.globals.size φ H w o a v H' := by
  have h1 := opd_rel hR hF hx
  have h2 := opd_rel hR hF hy
  have h0 := types1 ht
  obtain ⟨ie, hie, hes⟩ := szOf_some hsz
  have hco : P.cellsOf e = 1 := by simp [Program.cellsOf, hie, hes]
  simp only [aop] at ha
  split at ha
  · rename_i k m hX hN
    rw [hX] at h1
    rw [hN] at h2
    split at ha
    · rename_i hm
      cases ha
      subst hm
      refine Snd.still hR (v' := .string .empty) ?_ (by simp [VR]; rfl)
      rw [run_builtin ho hb, args2 hl]
      simp only [builtin, Sem.run_bind, h1.nilp_inv, h2.int_inv, ustr_none _ _ _ h0, Result.andThen_ok, Sem.run_pure]
    · cases ha
  · rename_i X q k m hX hN
    rw [hX] at h1
    rw [hN] at h2
    obtain ⟨p, g1, g2⟩ := h1.ptr_inv
    split at ha
    · rename_i hcond
      simp only [Bool.and_eq_true, decide_eq_true_eq] at hcond
      obtain ⟨c1, c2⟩ := hcond
      split at ha
      · rename_i l e' fl hg
        split at ha
        · rename_i hcond2
          simp only [Bool.and_eq_true] at hcond2
          have c3 := Nat.eq_of_beq_eq_true hcond2.1
          have c4 := Nat.le_of_ble_eq_true hcond2.2
          subst c3
          split at ha
          · rename_i s hs
            cases ha
            have hb' := hR.blk X p g1
            rw [hg] at hb'
            obtain ⟨cc, lo, hi, b1, b2, b3, b4, b5, b6⟩ := hb'
            have hrdn : H.rdn X q m.toNat = some ((l.drop q).take m.toNat) := by
              unfold AH.rdn
              rw [hg]
              simp only
              rw [if_pos]
              exact Nat.ble_eq_true_of_le c4
            obtain ⟨vs, k1, k2, k3⟩ := hR.rdn g1 hrdn
            obtain ⟨ns, rfl, rfl⟩ := avBytes_rel k1 hs
            have hsh : w.shape? p.b = some (e, cc.size) := by simp [World.shape?, b1]
            have hvar : (variablesAt ⟨p.b, p.base + q, none⟩ e m.toNat).run P w = .ok true w := by
              simp only [variablesAt, Sem.run_bind, run_program, Result.andThen_ok, run_shape, hsh, Sem.run_pure]
              rw [hco, Nat.div_one, liesAt_row hco _ _ _ (by omega)]
            have hload : ∀ (ns : List Int) (j : Nat) (acc : ByteArray), (∀ i u, ns[i]? = some u → w.cell? ⟨p.b, p.base + q + (j + i), none⟩ = some (.int .u8 u)) →
                (loadBytes ⟨p.b, p.base + q + j, none⟩ acc ns.length).run P w = .ok ⟨acc.data ++ (ns.map fun n => UInt8.ofNat n.toNat).toArray⟩ w := by
              intro ns
              induction ns with
              | nil => intro j acc _; simp [loadBytes]
              | cons n ns ih =>
                intro j acc hh
                have e0 := hh 0 n (by simp)
                simp only [Nat.add_zero] at e0
                simp only [List.length_cons, loadBytes, Sem.run_bind, run_load' e0, Result.andThen_ok, add_eq]
                rw [Nat.add_assoc (p.base + q) j 1, ih (j + 1) _ (fun i u hu => by
                  have := hh (i + 1) u (by simpa using hu)
                  rw [show j + 1 + i = j + (i + 1) by omega]
                  exact this)]
                congr 1
                apply ByteArray.ext
                apply Array.ext'
                simp [ByteArray.push]
            have hlen : ns.length = m.toNat := by simpa using k2
            have hload' := hload ns 0 .empty (fun i u hu => by
              have := k3 i (.int .u8 u) (by simp [hu])
              simpa using this)
            rw [hlen, Nat.add_zero] at hload'
            have hpb := (hR.lo X p g1).2
            have hm0 : m.toNat ≠ 0 := by omega
            have hfreeze : (w.freeze ⟨p.b, p.base + q, none⟩ m.toNat).heap = w.heap.modify p.b (fun
                | .cells c elem (lo, hi) => .cells c elem (if lo == hi then (p.base + q, p.base + q + m.toNat) else (min lo (p.base + q), max hi (p.base + q + m.toNat)))
                | o => o) := by
              unfold World.freeze
              rw [if_neg hm0]
              rfl
            obtain ⟨q1, q2⟩ := hR.upd (w' := w.freeze ⟨p.b, p.base + q, none⟩ m.toNat) g1 (by simp [AH.alive, hg]) (.cells l e 2) (by rw [hfreeze]; simp)
              (fun c hc => by rw [hfreeze, Array.getElem?_modify, if_neg (fun e => hc e.symm)])
              (by unfold World.freeze; rw [if_neg hm0]; exact ⟨rfl, rfl, rfl⟩) (by
                refine ⟨cc, (if lo == hi then (p.base + q, p.base + q + m.toNat) else (min lo (p.base + q), max hi (p.base + q + m.toNat))).1,
                  (if lo == hi then (p.base + q, p.base + q + m.toNat) else (min lo (p.base + q), max hi (p.base + q + m.toNat))).2, ?_, b2, b3, (fun e => by omega), (fun e => by omega), b6⟩
                · rw [hfreeze, Array.getElem?_modify, if_pos rfl, b1]
                  rfl)
            refine ⟨φ, .string ⟨(ns.map fun n => UInt8.ofNat n.toNat).toArray⟩, _, .inl ?_, q1, q2, by simp [VR]⟩
            rw [run_builtin ho hb, args2 hl]
            simp only [builtin, Sem.run_bind, g2, h2.int_inv, ustr_some _ _ _ _ h0 hu k m _ c1 c2 hvar hload', Result.andThen_ok, Sem.run_pure]
            simp [ByteArray.empty, ByteArray.emptyWithCapacity]
            rfl
          · cases ha
        · cases ha
      · cases ha
    · cases ha
  · cases ha
end
end Go.Vd
