/- Operations: what the evaluator gives, the model gives. Part 6: slices, conversions, maps, interfaces. -/
import Derived.Test.YtabgoidablkmjaaGreatDoorVd10
set_option linter.unusedVariables false
set_option linter.unusedSimpArgs false
namespace Go.Vd

section
variable {P : Program} {φ : Mp} {H : AH} {w : World} {tm : Tr AV} {a : Act} {o : Oper} {C : Ctx}

/-- The bounds of a slice expression, in the model. -/
theorem sliceBound_run {v : AV} {v' : Value} (h : VR φ v v') {most : Nat} {d r : Nat} (code : BoundsCode) (hp : pickB (some v) d most = some r) : (Instr.sliceBound v' most code).run P w = .ok r w := by
  unfold pickB at hp
  cases v <;> simp only at hp <;> try (cases hp; done)
  rename_i k n
  split at hp
  · rename_i hc
    cases hp
    simp only [Bool.and_eq_true, decide_eq_true_eq] at hc
    rw [h.int_inv]
    simp only [Instr.sliceBound, Sem.run_bind, asIntOf_run, Result.andThen_ok, hc.1, hc.2, and_self, if_true, Sem.run_pure]
  · cases hp

theorem pickB_none {d most : Nat} : pickB none d most = some d := rfl

theorem pickB_le {v : Option AV} {d most r : Nat} (h : pickB v d most = some r) (hd : d ≤ most) : r ≤ most := by
  unfold pickB at h
  split at h
  · cases h; exact hd
  · split at h
    · rename_i hc
      cases h
      simp only [Bool.and_eq_true, decide_eq_true_eq] at hc
      omega
    · cases h
  · cases h

theorem pickB_mono {v : Option AV} {d most most' r : Nat} (h : pickB v d most = some r) (hm : most ≤ most') : pickB v d most' = some r := by
  unfold pickB at h ⊢
  split at h
  · exact h
  · split at h
    · rename_i hc
      simp only [Bool.and_eq_true, decide_eq_true_eq] at hc
      rw [if_pos (by simp only [Bool.and_eq_true, decide_eq_true_eq]; omega)]
      exact h
    · cases h
  · cases h

theorem pickB_some {u : AV} {d d' most : Nat} : pickB (some u) d most = pickB (some u) d' most := by cases u <;> rfl

/-- Options of values. -/
def OVR (φ : Mp) : Option AV → Option Value → Prop
  | none, v => v = none
  | some x, v => ∃ y, v = some y ∧ VR φ x y

theorem ovr (hR : R P.globals.size φ H w) (hF : FR φ tm a) {x : Option Operand} {y : Option Opd} (h : oMap P x = some y) : OVR φ (evo tm y) (x.map a.eval) := by
  cases x with
  | none => simp only [oMap, Option.some.injEq] at h; subst h; simp [evo, OVR]
  | some x =>
    simp only [oMap, Option.map_eq_some_iff] at h
    obtain ⟨z, hz, rfl⟩ := h
    simp only [evo, OVR, Option.map_some]
    exact ⟨_, rfl, opd_rel hR hF hz⟩

theorem bnds_run (isS : Bool) {len cap l h m : Nat} {lo hi mx : Option AV} {lo' hi' mx' : Option Value} (h1 : OVR φ lo lo') (h2 : OVR φ hi hi') (h3 : OVR φ mx mx') (hb : bnds len cap lo hi mx = some (l, h, m)) :
    (Instr.sliceBounds isS len cap lo' hi' mx').run P w = .ok (l, h, m) w := by
  have low : ∀ (h l : Nat) (c : BoundsCode), pickB lo 0 h = some l → (match lo' with
      | some v => Instr.sliceBound v h c
      | none => pure 0 : Sem Nat).run P w = .ok l w := by
    intro h l c hp
    cases lo with
    | none =>
      simp only [OVR] at h1
      subst h1
      rw [pickB_none] at hp
      cases hp
      rfl
    | some x =>
      simp only [OVR] at h1
      obtain ⟨y, rfl, hy⟩ := h1
      exact sliceBound_run hy c hp
  unfold bnds at hb
  cases mx with
  | none =>
    simp only [OVR] at h3
    subst h3
    simp only at hb
    split at hb
    · cases hb
    · rename_i q hq
      split at hb
      · cases hb
      · rename_i q' hq'
        cases hb
        have e2 := low h l .sliceB hq'
        cases hi with
        | none =>
          simp only [OVR] at h2
          subst h2
          rw [pickB_none] at hq
          cases hq
          cases lo' <;> simp only [Instr.sliceBounds, Sem.run_bind, Sem.run_pure, Result.andThen_ok, Option.isSome_none, Bool.false_eq_true, if_false] at e2 ⊢
          · cases e2; rfl
          · rw [e2]; rfl
        | some z =>
          simp only [OVR] at h2
          obtain ⟨z', rfl, hz⟩ := h2
          have e1 := fun c => sliceBound_run (P := P) (w := w) hz c hq
          cases lo' <;> simp only [Instr.sliceBounds, Sem.run_bind, Sem.run_pure, Result.andThen_ok, Option.isSome_none, Bool.false_eq_true, if_false] at e2 ⊢
          · cases e2; rw [e1]; rfl
          · rw [e1]
            simp only [Result.andThen_ok]
            rw [e2]; rfl
  | some u =>
    simp only [OVR] at h3
    obtain ⟨u', rfl, hu⟩ := h3
    simp only at hb
    cases hi with
    | none => cases hb
    | some z =>
      simp only [OVR] at h2
      obtain ⟨z', rfl, hz⟩ := h2
      simp only at hb
      split at hb
      · cases hb
      · rename_i m1 hm1
        have e0 := fun c => sliceBound_run (P := P) (w := w) hu c hm1
        split at hb
        · cases hb
        · rename_i q hq
          have e1 := fun c => sliceBound_run (P := P) (w := w) hz c hq
          split at hb
          · cases hb
          · rename_i q' hq'
            cases hb
            have e2 := low h l .slice3C hq'
            cases lo' <;> simp only [Instr.sliceBounds, Sem.run_bind, Sem.run_pure, Result.andThen_ok, Option.isSome_some, if_true] at e2 ⊢
            · cases e2
              rw [e0]
              simp only [Result.andThen_ok]
              rw [e1]; rfl
            · rw [e0]
              simp only [Result.andThen_ok]
              rw [e1]
              simp only [Result.andThen_ok]
              rw [e2]; rfl

theorem bnds_le {len cap l h m : Nat} {lo hi mx : Option AV} (hlc : len ≤ cap) (hb : bnds len cap lo hi mx = some (l, h, m)) : l ≤ h ∧ h ≤ m ∧ m ≤ cap ∧ (mx = none → m = cap) := by
  unfold bnds at hb
  cases mx with
  | none =>
    simp only at hb
    split at hb
    · cases hb
    · rename_i q hq
      have := pickB_le hq hlc
      split at hb
      · cases hb
      · rename_i q' hq'
        have := pickB_le hq' (Nat.zero_le _)
        cases hb
        exact ⟨by omega, by omega, Nat.le_refl _, fun _ => rfl⟩
  | some u =>
    simp only at hb
    split at hb
    · cases hb
    · split at hb
      · cases hb
      · rename_i m1 hm1
        have := pickB_le hm1 (Nat.le_refl _)
        split at hb
        · cases hb
        · rename_i q hq
          have := pickB_le hq (Nat.le_refl _)
          split at hb
          · cases hb
          · rename_i q' hq'
            have := pickB_le hq' (Nat.zero_le _)
            cases hb
            exact ⟨by omega, by omega, by omega, fun e => by cases e⟩

theorem bnds_cap {len cap c l h m : Nat} {lo hi mx : Option AV} (hc : cap ≤ c) (hb : bnds len cap lo hi mx = some (l, h, m)) : bnds len c lo hi mx = some (l, h, if mx.isSome then m else c) := by
  unfold bnds at hb ⊢
  cases mx with
  | none =>
    simp only at hb ⊢
    split at hb
    · cases hb
    · rename_i q hq
      rw [pickB_mono hq hc]
      simp only
      split at hb
      · cases hb
      · rename_i q' hq'
        cases hb
        rfl
  | some u =>
    simp only at hb ⊢
    split at hb
    · cases hb
    · split at hb
      · cases hb
      · rename_i m1 hm1
        rw [pickB_some (d' := cap), pickB_mono hm1 hc]
        simp only
        split at hb
        · cases hb
        · rename_i q hq
          split at hb
          · cases hb
          · rename_i q' hq'
            cases hb
            rfl

theorem s_slice {t : Nat} {x : Operand} {lo hi mx : Option Operand} {b : AOp} (hR : R P.globals.size φ H w) (hF : FR φ tm a) (ho : o.op = .slice t x lo hi mx) (hc : cop P o = some b)
    {v : AV} {H' : AH} (ha : aop C tm H b = .val v H') : Snd P P.globals.size φ H w o a v H' := by
  simp only [cop, ho] at hc
  split at hc
  · rename_i y l h hu hx hl hh hm
    cases hc
    have h1 := opd_rel hR hF hx
    have h2 := ovr hR hF hl
    have h3 := ovr hR hF hh
    have hmx : mx = none := by
      cases mx with
      | none => rfl
      | some z => simp [oMap] at hm
    subst hmx
    simp only [aop] at ha
    split at ha
    · rename_i s hs
      rw [hs] at h1
      split at ha
      · rename_i l' h' m' hb
        cases ha
        have hrun := bnds_run (P := P) (w := w) false h2 h3 (mx := none) (mx' := none) rfl hb
        have hle := bnds_le (Nat.le_refl _) hb
        refine Snd.still hR (v' := .string ⟨((s.drop l').take (h' - l')).toArray⟩) ?_ (by simp [VR])
        simp only [execOp, ho, Instr.sliceAt, Sem.run_bind, run_underlying' hu, Result.andThen_ok, Instr.slice, h1.str_inv, ba_size, Option.map_none, Option.isSome_none, Bool.false_eq_true, if_false]
        rw [hrun]
        simp only [Result.andThen_ok, Sem.run_pure]
        congr 3
        apply ByteArray.ext
        rw [ByteArray.data_extract]
        apply Array.ext'
        simp [List.drop_take]
      · cases ha
    · cases ha
  · rename_i e y l h m hu hx hl hh hm
    split at hc
    · rename_i sz hsz
      cases hc
      obtain ⟨ie, hie, rfl⟩ := szOf_some hsz
      have h1 := opd_rel hR hF hx
      have h2 := ovr hR hF hl
      have h3 := ovr hR hF hh
      have h4 := ovr hR hF hm
      simp only [aop] at ha
      split at ha
      · rename_i hs
        rw [hs] at h1
        split at ha
        · rename_i r hb
          obtain ⟨l', h', m'⟩ := r
          cases ha
          have hrun := bnds_run (P := P) (w := w) true h2 h3 h4 hb
          have hle := bnds_le (Nat.le_refl _) hb
          refine Snd.still hR (v' := .slice none 0 0) ?_ (by simp [VR])
          simp only [execOp, ho, Instr.sliceAt, Sem.run_bind, run_underlying' hu, Result.andThen_ok, Instr.slice, h1.nils_inv]
          rw [hrun]
          simp only [Result.andThen_ok, Sem.run_bind, run_sizeOf' hie, Sem.run_pure]
          have e1 : l' = 0 := by omega
          have e2 : h' = 0 := by omega
          have e3 : m' = 0 := by omega
          subst e1; subst e2; subst e3
          simp
        · cases ha
      · rename_i X u len cap s ex hs
        rw [hs] at h1
        split at ha
        · rename_i hcond
          simp only [Bool.and_eq_true] at hcond
          have c1 := Nat.eq_of_beq_eq_true hcond.1
          have c2 := Nat.le_of_ble_eq_true hcond.2
          subst c1
          split at ha
          · rename_i l' h' m' hb
            cases ha
            simp only [VR] at h1
            obtain ⟨p, q, c, g1, g2, g3, g4, g5⟩ := h1
            have hle := bnds_le c2 hb
            have hcc : cap ≤ c := by
              cases ex with
              | true => rw [g3 rfl]; exact Nat.le_refl _
              | false => exact (g4 rfl).1
            have hb' := bnds_cap hcc hb
            have hrun := bnds_run (P := P) (w := w) true h2 h3 h4 hb'
            generalize hM : (if (evo tm m).isSome then m' else c) = M at hrun hb'
            have hMl : h' ≤ M := by
              rw [← hM]
              split <;> omega
            refine Snd.still hR (v' := .slice (if M = l' then some q else some (q.add (l' * ie.size))) (h' - l') (M - l')) ?_ ?_
            · simp only [execOp, ho, Instr.sliceAt, Sem.run_bind, run_underlying' hu, Result.andThen_ok, Instr.slice, g2]
              rw [hrun]
              simp only [Result.andThen_ok, Sem.run_bind, run_sizeOf' hie, Sem.run_pure, Option.map_some]
            · simp only [VR]
              refine ⟨p, if M = l' then q else q.add (l' * ie.size), M - l', g1, by split <;> rfl, ?_, ?_, ?_⟩
              · intro e
                cases hmx : evo tm m with
                | none =>
                  rw [hmx] at hM e
                  simp only [Option.isSome_none, Bool.or_false] at e
                  simp only [Option.isSome_none, Bool.false_eq_true, if_false] at hM
                  have := hle.2.2.2 hmx
                  rw [← hM, g3 e, this]
                | some z =>
                  rw [hmx] at hM
                  simp only [Option.isSome_some, if_true] at hM
                  rw [← hM]
              · intro e
                simp only [Bool.or_eq_false_iff] at e
                obtain ⟨k1, k2⟩ := g4 e.1
                have hM' : M = c := by
                  rw [← hM]
                  simp [e.2]
                have hmc : m' ≤ c := by omega
                subst hM'
                refine ⟨by omega, ?_⟩
                have : u + l' * ie.size + (M - l') * ie.size = u + M * ie.size := by
                  rw [Nat.sub_mul]
                  have : l' * ie.size ≤ M * ie.size := Nat.mul_le_mul_right _ (by omega)
                  omega
                omega
              · intro hpos
                have hMc : M ≤ c := by
                  rw [← hM]
                  split <;> omega
                rw [if_neg (by omega), g5 (by omega), add_eq, Nat.add_assoc]
          · cases ha
        · cases ha
      · cases ha
    · cases hc
  · rename_i n e y l h m hu hx hl hh hm
    split at hc
    · rename_i sz hsz
      cases hc
      obtain ⟨ie, hie, rfl⟩ := szOf_some hsz
      have h1 := opd_rel hR hF hx
      have h2 := ovr hR hF hl
      have h3 := ovr hR hF hh
      have h4 := ovr hR hF hm
      simp only [aop] at ha
      split at ha
      · rename_i X u hs
        rw [hs] at h1
        split at ha
        · rename_i l' h' m' hb
          cases ha
          obtain ⟨p, g1, g2⟩ := h1.ptr_inv
          have hrun := bnds_run (P := P) (w := w) false h2 h3 h4 hb
          have hle := bnds_le (Nat.le_refl _) hb
          refine Snd.still hR (v' := .slice (some (if m' = l' then ⟨p.b, p.base + u, none⟩ else (Addr.mk p.b (p.base + u) none).add (l' * ie.size))) (h' - l') (m' - l')) ?_ ?_
          · simp only [execOp, ho, Instr.sliceAt, Sem.run_bind, run_underlying' hu, Result.andThen_ok, g2, Instr.sureAddr, Sem.run_pure]
            rw [hrun]
            simp only [Result.andThen_ok, Sem.run_bind, run_sizeOf' hie, Sem.run_pure]
          · simp only [VR]
            refine ⟨p, _, m' - l', g1, rfl, fun _ => rfl, (fun e => nomatch e), ?_⟩
            intro hpos
            rw [if_neg (by omega), add_eq, Nat.add_assoc]
        · cases ha
      · cases ha
    · cases hc
  · cases hc
end
end Go.Vd
