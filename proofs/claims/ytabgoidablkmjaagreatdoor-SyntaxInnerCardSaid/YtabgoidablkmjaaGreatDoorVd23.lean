/- Regions that draw: the whole. -/
import Derived.Test.YtabgoidablkmjaaGreatDoorVd22
set_option linter.unusedVariables false
set_option linter.unusedSimpArgs false
namespace Go.Vd

section
variable {K : List Nat} {ops : Array Oper} {as : List AOper} {b hs : List Nat}
variable {P : Program} {C : Ctx} {ih : Task → Option Out} {nt : Nat} {Q : Exit → Act → World → Prop}
  {r : DRes} {tm0 : Tr AV} {H0 : AH} {φ0 : Mp} {w0 : World} {a0 : Act} {ls wins : List (List AOper)}

theorem getD_false_of_true {listed : Array Bool} {i : Nat} (h : listed.getD i true = false) : listed.getD i false = false := by
  simp only [Array.getD_eq_getD_getElem?] at *
  cases hx : listed[i]? with
  | none => rfl
  | some x => rw [hx] at h; simpa using h

theorem draw_any (hC : CtxOK P C) (hi : IHC P ih) (hD : DrawOK K ops as b hs) (hr : DRun P C ih ops as b hs nt r tm0)
    (hQn : ∀ φ a w, r.ex = .normal → R P.globals.size φ r.hp w → Nx φ0 H0 w0 φ r.hp w → FR φ r.tm a → nt ≤ a.tmps.size → a.defers = a0.defers → Q .normal a w)
    (hQp : ∀ φ v v' a w, r.ex = .pan v → R P.globals.size φ r.hp w → Nx φ0 H0 w0 φ r.hp w → VR φ v v' →
      (∀ t, (∀ (i : Nat) (o : AOper), as[i]? = some o → o.dst ≠ some t) → VR φ (ev tm0 (.t t)) (a.tmps.getD t undef)) → a.defers = a0.defers → Q (.panic [{ v := v', recovered := false }]) a w) :
    ∀ (fuel : Nat) (listed : Array Bool) (m : Nat) (H : AH) (φ : Mp) (tm : Tr AV) (a : Act) (w : World), DInv P ops as hs nt r tm0 H0 φ0 w0 a0 listed m H φ tm a w →
      (List.range ops.size).countP (fun i => !listed.getD i false) ≤ fuel → wpAny P .any ops Q fuel listed a w := by
  have hdone : ∀ (listed : Array Bool) (m : Nat) (H : AH) (φ : Mp) (tm : Tr AV) (a : Act) (w : World), DInv P ops as hs nt r tm0 H0 φ0 w0 a0 listed m H φ tm a w →
      (∀ i, i < ops.size → listed.getD i false = true) → Q .normal a w := by
    intro listed m H φ tm a w h hall
    obtain ⟨h1, h2, h3⟩ := h.done hD hr hall
    subst h2
    exact hQn φ a w h1 h.rel h.nx h3 h.sz h.df
  intro fuel
  induction fuel with
  | zero =>
    intro listed m H φ tm a w h hcnt
    have hall : ∀ i, i < ops.size → listed.getD i false = true := by
      intro i hlt
      cases hx : listed.getD i false with
      | true => rfl
      | false =>
        have : 0 < (List.range ops.size).countP (fun i => !listed.getD i false) := List.countP_pos_iff.2 ⟨i, List.mem_range.2 hlt, by rw [hx]; rfl⟩
        omega
    refine wpAny_done ?_ (hdone listed m H φ tm a w h hall) 0
    rw [List.eq_nil_iff_forall_not_mem]
    intro j hj
    obtain ⟨h1, o, ho, _⟩ := mem_ready.1 hj
    have h2 := hall j (Array.getElem?_eq_some_iff.1 ho).1
    rw [getD_false_of_true h1] at h2
    cases h2
  | succ fuel IH =>
    intro listed m H φ tm a w h hcnt
    refine ⟨fun hrd => hdone listed m H φ tm a w h ?_, ?_⟩
    · intro i hlt
      cases hx : listed.getD i false with
      | true => rfl
      | false =>
        obtain ⟨j, hj⟩ := exists_ready hD h.size i hlt hx
        rw [hrd] at hj
        cases hj
    intro i hmem
    obtain ⟨hu, o, ho, hrd⟩ := mem_ready.1 hmem
    obtain ⟨ao, hao, hco⟩ := hr.comp i o ho
    obtain ⟨h1, h2, h3, h4⟩ := cOper_spec hco
    have hlt : i < ops.size := (Array.getElem?_eq_some_iff.1 ho).1
    have hsz : i < listed.size := by rw [h.size]; exact hlt
    have hlook := h.looks hD hr ho hao hrd
    have hw := wanted_rel (ao := ao) h.fr h3
    have hcnt' : (List.range ops.size).countP (fun j => !(listed.setIfInBounds i true).getD j false) ≤ fuel := by
      have := countP_lt (l := List.range ops.size) (p := fun j => !(listed.setIfInBounds i true).getD j false) (q := fun j => !listed.getD j false) (fun x _ hx => by
        simp only [Bool.not_eq_true'] at hx ⊢
        cases hy : listed.getD x false with
        | false => rfl
        | true => rw [(getD_set hsz).2 (.inr hy)] at hx; cases hx) (List.mem_range.2 hlt) (by
        simp only [Bool.not_eq_false']
        exact (getD_set hsz).2 (.inl rfl)) (by
        simp only [Bool.not_eq_true']
        exact getD_false_of_true hu)
      omega
    have hone : wpOp P ops Q i (wpAny P .any ops Q fuel (listed.setIfInBounds i true)) a w ↔
        (if Region.wanted o (yielded ops a.tmps) then o.wp P a w (wpAny P .any ops Q fuel (listed.setIfInBounds i true)) Q ∨ (o.asks P a w ∧ LetsOut Q)
          else wpAny P .any ops Q fuel (listed.setIfInBounds i true) (a.put o.dst undef) w) := by
      unfold wpOp
      simp only [ho]
    rw [hone]
    cases hvy : isHv as i with
    | false =>
      -- a light operation
      have hl : ao.op.light = true := by
        simp only [isHv, hao] at hvy
        simpa using hvy
      have hwin : inWin b hs i m = true := by
        unfold inWin
        rw [List.all_eq_true]
        rintro ⟨x, k⟩ hx
        rw [List.mem_zipIdx_iff_getElem?] at hx
        simp only at hx
        have hxs := hD.hsv k x hx
        simp only [Bool.and_eq_true, Bool.or_eq_true, Bool.not_eq_true']
        constructor
        · cases hm1 : (b.getD i 0).testBit x with
          | false => exact .inl rfl
          | true =>
            right
            have := (h.hv k x hx).1 (mask_listed hD h.clos i o ho hrd x hxs.2 hm1)
            exact Nat.ble_eq_true_of_le this
        · cases hm1 : (b.getD x 0).testBit i with
          | false => exact .inl rfl
          | true =>
            right
            refine Nat.ble_eq_true_of_le ?_
            rcases Nat.lt_or_ge k m with g | g
            · exfalso
              have hxl := (h.hv k x hx).2 g
              have hxo : ops[x]? = some ops[x] := by simp [hxs.2]
              have := mask_listed' hD h.clos hxo hxl hlt hm1
              rw [getD_false_of_true hu] at this
              cases this
            · exact g
      obtain ⟨v, hv, hd⟩ := hr.light i m ao H hao hl h.le h.hp hwin
      rw [← valR_congr hlook] at hv
      have hm' : ∀ (k x : Nat), hs[k]? = some x → ((listed.setIfInBounds i true).getD x false = true ↔ k < m) := by
        intro k x hx
        rw [getD_set hsz, ← h.hv k x hx]
        constructor
        · rintro (e | e)
          · exfalso
            have := (hD.hsv k x hx).1
            rw [e, hvy] at this
            cases this
          · exact e
        · exact .inr
      have hnext : ∀ ψ v' w', R P.globals.size ψ H w' → Nx φ H w ψ H w' → VR ψ v v' → wpAny P .any ops Q fuel (listed.setIfInBounds i true) (a.put o.dst v') w' := by
        intro ψ v' w' g1 g2 g3
        exact IH _ m H ψ _ _ w' (h.step hD hr ho hao hco hu hrd hm' h.le h.hp g1 g2 g3 hd) hcnt'
      unfold valR at hv
      split
      · rename_i hwt
        rw [hw] at hwt
        simp only [hwt, if_true] at hv
        left
        split at hv
        · rename_i u H1 hva
          cases hv
          have := aop_light hl hva
          subst this
          refine oper_go (ao := ao) (ih := ih) hC hi h.rel h.fr h2 (by rw [hva]; rfl) hnext
        · cases hv
      · rename_i hwt
        rw [hw] at hwt
        simp only [hwt, Bool.false_eq_true, if_false] at hv
        cases hv
        exact hnext φ undef w h.rel (Nx.refl φ H w) VR.und
    | true =>
      -- a heavy operation
      obtain ⟨k, hk⟩ := List.mem_iff_getElem?.1 (hD.all i hlt hvy)
      have hkm : k = m := by
        have g1 : ¬ k < m := fun g => by
          have := (h.hv k i hk).2 g
          rw [getD_false_of_true hu] at this
          cases this
        rcases Nat.lt_or_ge m k with g | g
        · exfalso
          have hmlt : m < hs.length := Nat.lt_trans g (List.getElem?_eq_some_iff.1 hk).1
          have hmx : hs[m]? = some hs[m] := by simp [hmlt]
          have := (h.hv m _ hmx).1 (mask_listed hD h.clos i o ho hrd _ (hD.hsv m _ hmx).2 (hD.tot m k _ i hmx hk g))
          omega
        · omega
      subst hkm
      have hm' : ∀ (j x : Nat), hs[j]? = some x → ((listed.setIfInBounds i true).getD x false = true ↔ j < k + 1) := by
        intro j x hx
        rw [getD_set hsz, h.hv j x hx]
        constructor
        · rintro (e | e)
          · subst e
            rcases Nat.lt_trichotomy j k with g | g | g
            · omega
            · omega
            · exfalso
              have g1 := hD.tot k j x x hk hx g
              obtain ⟨e', he', hb', hor⟩ := hD.clos x o x ho hlt g1
              have := mask_listed hD h.clos x o ho hrd x hlt g1
              rw [getD_false_of_true hu] at this
              cases this
          · omega
        · intro g
          rcases Nat.lt_or_ge j k with g1 | g1
          · exact .inr g1
          · have : j = k := by omega
            subst this
            rw [hk] at hx
            cases hx
            exact .inl rfl
      rcases Nat.lt_or_ge k r.ts.length with g | g
      · obtain ⟨v, H', hs1, hs2, hd⟩ := hr.heavy k i ao H hk hao g h.hp
        rw [← astep_congr hlook] at hs1
        have hnext : ∀ ψ v' w', R P.globals.size ψ H' w' → Nx φ H w ψ H' w' → VR ψ v v' → wpAny P .any ops Q fuel (listed.setIfInBounds i true) (a.put o.dst v') w' := by
          intro ψ v' w' g1 g2 g3
          exact IH _ (k + 1) H' ψ _ _ w' (h.step hD hr ho hao hco hu hrd hm' (by omega) hs2 g1 g2 g3 hd) hcnt'
        unfold astep at hs1
        split
        · rename_i hwt
          rw [hw] at hwt
          simp only [hwt, if_true] at hs1
          exact .inl (oper_go hC hi h.rel h.fr h2 hs1 hnext)
        · rename_i hwt
          rw [hw] at hwt
          simp only [hwt, Bool.false_eq_true, if_false] at hs1
          cases hs1
          exact hnext φ undef w h.rel (Nx.refl φ H w) VR.und
      · have hke : k = r.ts.length := Nat.le_antisymm h.le g
        obtain ⟨HL, hl1, hl2⟩ := hr.last
        have hHL : HL = H := by
          have := h.hp
          rw [hke, hl1] at this
          exact (Option.some.inj this)
        subst hHL
        rcases hl2 with ⟨_, _, hl4⟩ | ⟨v, i', o', hex, hi', ho', hs1⟩
        · have := (List.getElem?_eq_some_iff.1 hk).1
          omega
        · rw [← hke, hk] at hi'
          cases hi'
          rw [hao] at ho'
          cases ho'
          rw [← astep_congr hlook] at hs1
          unfold astep at hs1
          split
          · rename_i hwt
            rw [hw] at hwt
            simp only [hwt, if_true] at hs1
            left
            refine oper_pan hC hi h.rel h.fr h2 hs1 fun ψ v' w' g1 g2 g3 => ?_
            refine hQp ψ v v' a w' hex g1 (h.nx.trans g2) g3 (fun t ht => ?_) h.df
            rw [← h.unseen t fun j p _ hp => ht j p hp]
            exact (h.fr.mono g2.le) t
          · rename_i hwt
            rw [hw] at hwt
            simp only [hwt, Bool.false_eq_true, if_false] at hs1
            cases hs1

/-- The compiled region. -/
theorem cDraw_run (hc : cOpers P nt ops.toList ops.toList = some as) {s s' : ASt} {e : AEx} (hs' : exec C ih (cDraw K ops.toList as) s = some (e, s')) :
    ∃ b hs r, DrawOK K ops as b hs ∧ DRun P C ih ops as b hs nt r s.tm ∧ r.hs[0]? = some s.hp ∧ e = r.ex ∧ s'.hp = r.hp ∧ s'.df = s.df ∧ ((e = .normal ∧ s'.tm = r.tm) ∨ (∃ v, e = .pan v ∧ s'.tm = s.tm)) := by
  unfold cDraw at hs'
  simp only at hs'
  generalize hb : preds ops.toList = b at hs'
  generalize hhs : (List.range as.length).filter (isHv as) = hs at hs'
  generalize hlt : ((List.range as.length).filter fun i => !isHv as i) = lt at hs'
  split at hs'
  · rename_i hok
    have hD := drawOK_spec hok
    simp only [exec, drawR] at hs'
    split at hs'
    · rename_i r hr
      rw [Option.ite_none_right_eq_some] at hs'
      obtain ⟨hchk, hs'⟩ := hs'
      rw [Bool.and_eq_true] at hchk
      have hseg := segs_spec hr
      have hlen := hD.len
      have hcomp : ∀ (i : Nat) (o : Oper), ops[i]? = some o → ∃ ao, as[i]? = some ao ∧ cOper P nt ops.toList o = some ao := fun i o ho => (cOpers_get hc).2 i o (by simpa using ho)
      have hget : ∀ (i : Nat) (o : AOper), as[i]? = some o → as.getD i default = o := fun i o e => by simp [List.getD, e]
      have hmem : ∀ i, i < as.length → as.getD i default ∈ as := fun i hi => by
        have : as[i]? = some as[i] := by simp [hi]
        rw [hget i _ this]
        exact List.mem_of_getElem? this
      have hltm : ∀ i ∈ lt, i < as.length := fun i hi => by
        rw [← hlt] at hi
        exact List.mem_range.1 ((List.mem_filter.1 hi).1)
      have hhsm : ∀ i ∈ hs, i < as.length := fun i hi => by
        rw [← hhs] at hi
        exact List.mem_range.1 ((List.mem_filter.1 hi).1)
      have hhv : ∀ (k i : Nat) (o : AOper), hs[k]? = some i → as[i]? = some o → (hs.map fun i => as.getD i default)[k]? = some o := by
        intro k i o h1 h2
        simp only [List.getElem?_map, h1, Option.map_some, hget i o h2]
      refine ⟨b, hs, r, hD, ⟨hcomp, ?_, ?_, ?_, ?_⟩, hseg.zero, ?_⟩
      · intro t ht
        refine hseg.rest t ?_ ?_
        · intro l hl o ho
          obtain ⟨m, hm, rfl⟩ := List.mem_map.1 hl
          obtain ⟨i, hi, rfl⟩ := List.mem_map.1 ho
          have hi' := hltm i ((List.mem_filter.1 hi).1)
          exact ht i _ (by simp [List.getD, hi'])
        · intro o ho
          obtain ⟨i, hi, rfl⟩ := List.mem_map.1 ho
          have hi' := hhsm i hi
          exact ht i _ (by simp [List.getD, hi'])
      · intro i m o H hi hl hm hH hw
        have hilt : i < as.length := (List.getElem?_eq_some_iff.1 hi).1
        have hm2 : m < hs.length + 1 := by
          obtain ⟨HL, _, h2⟩ := hseg.last
          simp only [List.length_map] at h2
          rcases h2 with ⟨_, _, h4⟩ | ⟨_, _, _, h4, _⟩
          · omega
          · have := (List.getElem?_eq_some_iff.1 h4).1
            simp only [List.length_map] at this
            omega
        refine again_spec (againAll_spec hchk.2 m H _ hH (by simp only [List.getElem?_map, List.getElem?_range hm2, Option.map_some]; rfl)) o ?_
        refine List.mem_map.2 ⟨i, ?_, hget i o hi⟩
        refine List.mem_filter.2 ⟨?_, hw⟩
        rw [← hlt]
        refine List.mem_filter.2 ⟨List.mem_range.2 hilt, ?_⟩
        simp [isHv, hi, hl]
      · intro k i o H hk hi hlk hH
        obtain ⟨⟨t1, v⟩, htv⟩ : ∃ x, r.ts[k]? = some x := ⟨r.ts[k], by simp [hlk]⟩
        obtain ⟨Hk, Hk1, p, h1, h2, h3, h4⟩ := hseg.heavy k t1 v htv
        rw [hhv k i o hk hi] at h3
        cases h3
        rw [hH] at h1
        cases h1
        obtain ⟨h5, h6⟩ := heavOK_spec hchk.1 k t1 v o htv (hhv k i o hk hi)
        rw [astep_congr h5] at h4
        exact ⟨v, Hk1, h4, h2, h6⟩
      · obtain ⟨HL, h1, h2⟩ := hseg.last
        refine ⟨HL, h1, ?_⟩
        simp only [List.length_map] at h2
        rcases h2 with h2 | ⟨v, o, h2, h3, h4⟩
        · exact .inl h2
        · right
          rw [List.getElem?_map] at h3
          cases hx : hs[r.ts.length]? with
          | none => rw [hx] at h3; cases h3
          | some i =>
            rw [hx] at h3
            simp only [Option.map_some, Option.some.injEq] at h3
            have hi' := hhsm i (List.mem_of_getElem? hx)
            refine ⟨v, i, o, h2, rfl, ?_, h4⟩
            rw [← h3]
            simp [List.getD, hi']
      · split at hs'
        · rename_i hex
          cases hs'
          exact ⟨hex.symm, rfl, rfl, .inl ⟨rfl, rfl⟩⟩
        · rename_i v hex
          cases hs'
          exact ⟨hex.symm, rfl, rfl, .inr ⟨v, rfl, rfl⟩⟩
        · cases hs'
    · cases hs'
  · simp [exec] at hs'

theorem draw_sound (hC : CtxOK P C) (hi : IHC P ih) (hmx : P.follows .mixedOrders = true) {id : Nat} {s s' : ASt} {e : AEx} {φ : Mp} {a : Act} {w : World} (hc : cOpers P nt ops.toList ops.toList = some as)
    (hs' : exec C ih (cDraw K ops.toList as) s = some (e, s')) (hS : SR P nt φ s a w) (hQ : Post P nt K φ s w e s' Q) : (Code.region id ops true).wp P Q a w := by
  obtain ⟨b, hs, r, hD, hr, h0, h1, h2, h3, h4⟩ := cDraw_run hc hs'
  refine wp_region_any hmx ?_
  have hn0 := Nx.drew φ s.hp w (w.drawn + 1)
  refine draw_any (H0 := s.hp) (φ0 := φ) (w0 := { w with drawn := w.drawn + 1 }) (a0 := a) hC hi hD hr ?_ ?_ ops.size _ 0 s.hp φ s.tm a _ ⟨by simp, ?_, ?_, Nat.zero_le _, h0, hS.r.drew _, Nx.refl _ _ _, hS.fr, hS.sz, rfl, ?_, ?_⟩ ?_
  · intro ψ a' w' hex g1 g2 g3 g4 g5
    rcases h4 with ⟨h4, h5⟩ | ⟨v, h4, h5⟩
    · refine hQ ψ _ a' w' ?_ (by rw [h2]; exact hn0.trans g2)
      rw [h4]
      refine ⟨rfl, ?_, ?_, ?_, g4⟩
      · rw [h5]; exact g3
      · rw [h3, g5]; exact hS.df.mono g2.le
      · rw [h2]; exact g1
    · rw [h1, hex] at h4; cases h4
  · intro ψ v v' a' w' hex g1 g2 g3 g4 g5
    rcases h4 with ⟨h4, h5⟩ | ⟨u, h4, h5⟩
    · rw [h1, hex] at h4; cases h4
    · have huv : u = v := by rw [h1, hex] at h4; cases h4; rfl
      subst huv
      refine hQ ψ _ a' w' ?_ (by rw [h2]; exact hn0.trans g2)
      rw [h4]
      refine ⟨v', rfl, g3, ?_, ?_, ?_⟩
      · intro t ht
        rw [h5]
        refine g4 t fun i o hi ho => ?_
        exact hD.keep o t (List.mem_of_getElem? hi) ho ht
      · rw [h3, g5]; exact hS.df.mono g2.le
      · rw [h2]; exact g1
  · intro i o ho hl
    simp [Array.getD_eq_getD_getElem?, Array.getElem?_replicate] at hl
    split at hl <;> simp at hl
  · intro k h hk
    constructor
    · intro hl
      simp [Array.getD_eq_getD_getElem?, Array.getElem?_replicate] at hl
      split at hl <;> simp at hl
    · intro g; omega
  · intro i o d hl
    simp [Array.getD_eq_getD_getElem?, Array.getElem?_replicate] at hl
    split at hl <;> simp at hl
  · intro t _; rfl
  · have := List.countP_le_length (p := fun i => !(Array.replicate ops.size false).getD i false) (l := List.range ops.size)
    simpa using this
end
end Go.Vd
