/- Operations: what the evaluator gives, the model gives. Part 10: append. -/
import Derived.Test.YtabgoidablkmjaaGreatDoorYdD
import Derived.Laws.Append
set_option linter.unusedVariables false
set_option linter.unusedSimpArgs false
namespace Go.Vd

section
variable {P : Program} {φ : Mp} {H : AH} {w : World} {tm : Tr AV} {a : Act} {o : Oper} {C : Ctx}

theorem loadCells_zero (b : Addr) : (loadCells b 0).run P w = .ok #[] w := by simp [loadCells, loadCellsFrom]

theorem contA_run {n : Nat} (hR : R n φ H w) {sz : Nat} (hsz : sz ≠ 0) {u : AV} {x : Value} {new : List AV} (hx : VR φ u x) (h : contA H sz u = some new) :
    ∃ vs k, VRs φ new vs ∧ vs.length = k * sz ∧ (Builtin.lenOf x).run P w = .ok k w ∧ ∀ q, (Builtin.firstCells sz k x).run P { w with drawn := q } = .ok ⟨vs⟩ { w with drawn := q } := by
  unfold contA at h
  split at h
  · cases h
    rw [hx.nils_inv]
    exact ⟨[], 0, by simp [VRs], by simp, by simp [Builtin.lenOf], fun q => by simp [Builtin.firstCells]⟩
  · rename_i X o len cap s ex
    split at h
    · rename_i hc
      simp only [Bool.and_eq_true] at hc
      have c1 := Nat.eq_of_beq_eq_true hc.1
      have c2 := Nat.le_of_ble_eq_true hc.2
      subst c1
      simp only [VR] at hx
      obtain ⟨p, ad, cc, g1, g2, g3, g4, g5⟩ := hx
      rw [g2]
      obtain ⟨vs, k1, k2, k3⟩ := hR.rdn g1 h
      refine ⟨vs, len, k1, k2, by simp [Builtin.lenOf], fun q => ?_⟩
      simp only [Builtin.firstCells]
      rcases Nat.eq_zero_or_pos len with e0 | e0
      · subst e0
        have : vs = [] := by simpa using k2
        subst this
        simp only [Nat.zero_mul]
        exact loadCells_zero _
      · have hcc : 0 < cc := by
          cases ex with
          | true => have := g3 rfl; omega
          | false => have := (g4 rfl).1; omega
        rw [g5 hcc]
        obtain ⟨vs', k1', k2', k3'⟩ := (hR.drew q).run_loadCells (P := P) g1 h
        have : vs' = vs := by
          apply List.ext_getElem?
          intro j
          have hw : ∀ (a : Addr), ({ w with drawn := q } : World).cell? a = w.cell? a := fun _ => rfl
          have hl : vs'.length = vs.length := by rw [k2, k2']
          by_cases hj : j < vs.length
          · have e1 := k3 j vs[j] (List.getElem?_eq_getElem hj)
            obtain ⟨vs2, m1, m2, m3⟩ := (hR.drew q).rdn g1 h
            have hrun := run_loadCellsFrom (P := P) (w := { w with drawn := q }) (b := p.b) (o := p.base + o) (len * s) 0 #[] vs k2 (fun j v hv => by
              have := k3 j v hv
              simpa [hw] using this)
            have hrun' : (loadCells ⟨p.b, p.base + o, none⟩ (len * s)).run P { w with drawn := q } = .ok ⟨vs⟩ { w with drawn := q } := by
              rw [loadCells, hrun]; simp
            rw [k3'] at hrun'
            simp only [Result.ok.injEq, Array.mk.injEq, and_true] at hrun'
            rw [hrun']
          · rw [List.getElem?_eq_none (by omega), List.getElem?_eq_none (by omega)]
        subst this
        exact k3'
    · cases h
  · rename_i l
    split at h
    · rename_i hs1
      have hs1 := Nat.eq_of_beq_eq_true hs1
      subst hs1
      cases h
      rw [hx.str_inv]
      refine ⟨l.map fun b => Value.int .u8 b.toNat, l.length, ?_, by simp, ?_, fun q => ?_⟩
      · refine VRs.of_get _ _ (by simp [bytesAV]) ?_
        intro i a v ha hv
        simp only [bytesAV, List.getElem?_map, Option.map_eq_some_iff] at ha hv
        obtain ⟨b, hb, rfl⟩ := ha
        obtain ⟨b', hb', rfl⟩ := hv
        rw [hb] at hb'
        cases hb'
        simp [VR]
      · simp [Builtin.lenOf, ba_size]
      · simp only [Builtin.firstCells]
        have : ((ByteArray.mk l.toArray).extract 0 l.length).data = l.toArray := by
          rw [ByteArray.data_extract]
          apply Array.ext'
          simp
        rw [this]
        simp
    · cases h
  · cases h
theorem append_in {A : Array TypeId} {ty st yt e : TypeId} {i : TypeInfo} (h0 : A[0]? = some st) (h1 : A[1]? = some yt) (hst : P.underlying st = some (.slice e)) (hyt : (∃ f, P.underlying yt = some (.slice f)) ∨ P.underlying yt = some .string)
    (hi : P.info? e = some i) {ad : Addr} {sLen sCap k : Nat} {x : Value} {vs : List Value} {w' : World} (hlen : (Builtin.lenOf x).run P w = .ok k w) (hfc : (Builtin.firstCells i.size k x).run P w = .ok ⟨vs⟩ w)
    (hle : sLen + k ≤ sCap) (hst' : (storeCells (ad.add (sLen * i.size)) vs).run P w = .ok () w') :
    (Builtin.append_ A ty #[.slice (some ad) sLen sCap, x]).run P w = .ok (.slice (some ad) (sLen + k) sCap) w' := by
  rcases hyt with ⟨f, hy1⟩ | hy1
  · simp [Builtin.append_, h0, h1, run_underlying' hst, run_underlying' hy1, run_sizeOf' hi, hlen, hle, hfc, hst']
  · simp [Builtin.append_, h0, h1, run_underlying' hst, run_underlying' hy1, run_sizeOf' hi, hlen, hle, hfc, hst']

set_option maxHeartbeats 1000000 in
theorem append_grow {A : Array TypeId} {ty st yt e : TypeId} {i : TypeInfo} {z : Value} (h0 : A[0]? = some st) (h1 : A[1]? = some yt) (hst : P.underlying st = some (.slice e)) (hyt : (∃ f, P.underlying yt = some (.slice f)) ∨ P.underlying yt = some .string)
    (hi : P.info? e = some i) (hz : i.zero = some z) {base : Option Addr} {sLen sCap k : Nat} {x : Value} {vs us : List Value} (hlen : (Builtin.lenOf x).run P w = .ok k w)
    (hfc : (Builtin.firstCells i.size k x).run P { w with drawn := w.drawn + 1 } = .ok ⟨vs⟩ { w with drawn := w.drawn + 1 })
    (hfo : (Builtin.firstCells i.size sLen (.slice base sLen sCap)).run P { w with drawn := w.drawn + 1 } = .ok ⟨us⟩ { w with drawn := w.drawn + 1 })
    (hgt : sCap < sLen + k) (h63 : ((sLen + k : Nat) : Int) ≤ 9223372036854775807) (hfit : Builtin.nextslicecap (sLen + k) sCap * i.bytes ≤ 281474976710656) :
    (Builtin.append_ A ty #[.slice base sLen sCap, x]).run P w = .ok (.slice (some ⟨w.heap.size, 0, none⟩) (sLen + k) (grownCap w (sLen + k) sCap e))
      { { w with drawn := w.drawn + 1 } with heap := w.heap.push (.cells ⟨us ++ vs ++ (Builtin.zeroCells z.cells (grownCap w (sLen + k) sCap e - (sLen + k))).toList⟩ e) } := by
  have hn : ¬ (sLen + k ≤ sCap) := by omega
  have h63' : ¬ (9223372036854775807 < ((sLen : Int) + (k : Int))) := by omega
  have h48' : ¬ (281474976710656 < Builtin.nextslicecap (sLen + k) sCap * i.bytes) := by omega
  have hfin : (Array.mk us ++ Array.mk vs ++ Builtin.zeroCells z.cells (grownCap w (sLen + k) sCap e - (sLen + k))) = Array.mk (us ++ vs ++ (Builtin.zeroCells z.cells (grownCap w (sLen + k) sCap e - (sLen + k))).toList) := by
    apply Array.ext'
    simp
  have hfc' : (Builtin.firstCells i.size k x).run P w.drew = .ok ⟨vs⟩ w.drew := hfc
  have hfo' : (Builtin.firstCells i.size sLen (.slice base sLen sCap)).run P w.drew = .ok ⟨us⟩ w.drew := hfo
  rcases hyt with ⟨f, hy1⟩ | hy1
  · simp [Builtin.append_, h0, h1, run_underlying' hst, run_underlying' hy1, sizeOf, typeInfo, zeroValue, hi, hz, hlen, hn, h63', h48', Question.forced, hfc', hfo', newRow, grownCap]
    rw [← Array.append_assoc, show ((Question.appendCap (sLen + k) sCap e).cut (w.tape w.drawn (Question.appendCap (sLen + k) sCap e))) = grownCap w (sLen + k) sCap e from rfl, hfin, List.append_assoc]
    rfl
  · simp [Builtin.append_, h0, h1, run_underlying' hst, run_underlying' hy1, sizeOf, typeInfo, zeroValue, hi, hz, hlen, hn, h63', h48', Question.forced, hfc', hfo', newRow, grownCap]
    rw [← Array.append_assoc, show ((Question.appendCap (sLen + k) sCap e).cut (w.tape w.drawn (Question.appendCap (sLen + k) sCap e))) = grownCap w (sLen + k) sCap e from rfl, hfin, List.append_assoc]
    rfl

theorem grownCap_ge (w : World) (need old : Nat) (e : TypeId) : need ≤ grownCap w need old e := by
  unfold grownCap Question.cut
  exact Nat.le_add_right _ _

theorem zeroCells_length (z : Array Value) (n : Nat) : (Builtin.zeroCells z n).toList.length = n * z.size := by simp [Builtin.zeroCells]

theorem s_app {c : Call} {x y : Operand} {x' y' : Opd} {st yt e : TypeId} {l : List TypeId} {sz bts : Nat} {zs : List AV} (hg : P.globals.size ≤ H.next) (hR : R P.globals.size φ H w) (hF : FR φ tm a) (ho : o.op = .call c) (hb : c.callee = .builtin .append) (hl : c.args.toList = [x, y])
    (hx : cOpd P x = some x') (hy : cOpd P y = some y') (ht : c.argTypes.toList = st :: yt :: l) (hst : P.underlying st = some (.slice e)) (hyt : (∃ f, P.underlying yt = some (.slice f)) ∨ P.underlying yt = some .string)
    (hsz : szOf P e = some sz) (hbt : btOf P e = some bts) (hz : zrOf P e = some zs) (hzl : zs.length = sz)
    {v : AV} {H' : AH} (ha : aop C tm H (.app e sz bts x' y') = .val v H') : Snd P P.globals.size φ H w o a v H' := by
  have r1 := opd_rel hR hF hx
  have r2 := opd_rel hR hF hy
  have h0 := types1 ht
  have h1 := types2 ht
  obtain ⟨ie, hie, hes⟩ := szOf_some hsz
  obtain ⟨ib, hib, hbs⟩ := btOf_some hbt
  obtain ⟨iz, z, zb, hiz, hz1, hz2, rfl⟩ := zrOf_some hz
  rw [hie] at hib hiz
  cases hib
  cases hiz
  have hzsz : z.cells.size = sz := by rw [← Array.length_toList, (cvV_rel (φ := φ) z zb hz2).cells.length, hzl]
  simp only [aop] at ha
  split at ha
  case h_2 => cases ha
  rename_i r hr
  cases ha
  unfold appA at hr
  split at hr
  · cases hr
  rename_i hsz0
  have hsz0 : sz ≠ 0 := fun e => hsz0 (by subst e; rfl)
  split at hr
  · cases hr
  rename_i new hnew
  obtain ⟨vs, k, k1, k2, k3, k4⟩ := contA_run (P := P) hR hsz0 r2 hnew
  have hnk : new.length / sz = k := by
    rw [← k1.length, k2]
    exact Nat.mul_div_cancel _ (Nat.pos_of_ne_zero hsz0)
  simp only [hnk] at hr
  have k4' : ∀ q, (Builtin.firstCells ie.size k (a.eval y)).run P { w with drawn := q } = .ok ⟨vs⟩ { w with drawn := q } := by
    rw [hes]; exact k4
  have hexec : (execOp a.eval o).run P w = ((Builtin.append_ c.argTypes o.type #[a.eval x, a.eval y]).run P w).andThen fun v w' => .ok (.value v) w' := by
    rw [run_builtin ho hb, args2 hl]
    simp only [builtin, Sem.run_bind, Sem.run_pure]
  -- what a grown slice comes to
  have grow : ∀ (base : Option Addr) (sLen sCap : Nat) (us : List Value) (old : List AV), a.eval x = .slice base sLen sCap → VRs φ old us → us.length = sLen * sz → sCap < sLen + k → (4 * (sLen + k) + 4096) * bts ≤ 281474976710656 →
      (sLen + k) ≤ 9223372036854775807 →
      (Builtin.firstCells ie.size sLen (.slice base sLen sCap)).run P { w with drawn := w.drawn + 1 } = .ok ⟨us⟩ { w with drawn := w.drawn + 1 } →
      Snd P P.globals.size φ H w o a (.slc H.next 0 (sLen + k) (sLen + k) sz false) (H.push (.cells (old ++ new) e 1)) := by
    intro base sLen sCap us old e1 hold hul hgt hb4 h63 hfo
    have hfit : Builtin.nextslicecap (sLen + k) sCap * ie.bytes ≤ 281474976710656 := by
      have := nextslicecap_le hgt
      have h2 : Builtin.nextslicecap (sLen + k) sCap * ie.bytes ≤ (4 * (sLen + k) + 4096) * bts := by
        rw [hbs]
        exact Nat.mul_le_mul_right _ (by omega)
      omega
    have hrun := append_grow (P := P) (w := w) (ty := o.type) h0 h1 hst hyt hie hz1 (base := base) (sLen := sLen) (sCap := sCap) (k := k) (x := a.eval y) (vs := vs) (us := us) k3 (k4' _) hfo hgt (by omega) hfit
    have hge := grownCap_ge w (sLen + k) sCap e
    generalize grownCap w (sLen + k) sCap e = cap' at hrun hge
    obtain ⟨g1, g2⟩ := (hR.drew (w.drawn + 1)).row hg (hold.append k1) (Builtin.zeroCells z.cells (cap' - (sLen + k))).toList e 1 (fun h => by cases h)
    have hlen : ((us ++ vs) ++ (Builtin.zeroCells z.cells (cap' - (sLen + k))).toList).length = cap' * sz := by
      rw [List.length_append, List.length_append, zeroCells_length, hzsz, hul, k2, ← Nat.add_mul, ← Nat.add_mul]
      congr 1
      omega
    refine ⟨_, .slice (some ⟨w.heap.size, 0, none⟩) (sLen + k) cap', _, .inl ?_, g1, (Nx.drew φ H w _).trans g2, ?_⟩
    · rw [hexec, e1, hrun]
      rfl
    · simp only [VR]
      refine ⟨_, _, cap', Mp.add_self _ _ _, rfl, (fun h => nomatch h), fun _ => ⟨hge, ?_⟩, fun _ => by simp⟩
      simp only [hlen]
      omega
  split at hr
  · rename_i hn
    rw [hn] at r1
    have e1 := r1.nils_inv
    split at hr
    · rename_i hk0
      have hk0 := Nat.eq_of_beq_eq_true hk0
      cases hr
      subst hk0
      have hrun : (Builtin.append_ c.argTypes o.type #[.slice none 0 0, a.eval y]).run P w = .ok (.slice none 0 0) w := by
        have hfc : (Builtin.firstCells ie.size 0 (a.eval y)).run P w = .ok ⟨vs⟩ w := k4' w.drawn
        rcases hyt with ⟨f, hy1⟩ | hy1
        · simp [Builtin.append_, h0, h1, run_underlying' hst, run_underlying' hy1, run_sizeOf' hie, k3, hfc]
        · simp [Builtin.append_, h0, h1, run_underlying' hst, run_underlying' hy1, run_sizeOf' hie, k3, hfc]
      refine Snd.still hR (v' := .slice none 0 0) ?_ (by simp [VR])
      rw [hexec, e1, hrun]
      rfl
    · rename_i hk0
      split at hr
      · rename_i hc
        cases hr
        simp only [Bool.and_eq_true] at hc
        have hb4 := Nat.le_of_ble_eq_true hc.1.1
        have hb5 := Nat.le_of_ble_eq_true hc.1.2
        have hk0' : 0 < k := Nat.pos_of_ne_zero fun e => hk0 (by subst e; rfl)
        have := grow none 0 0 [] [] e1 (by simp [VRs]) (by simp) (by omega) (by simpa using hb4) (by omega) (by simp [Builtin.firstCells])
        simpa using this
      · cases hr
  · rename_i X u len cap s ex hX
    rw [hX] at r1
    have r1' := r1
    simp only [VR] at r1
    obtain ⟨p, ad, cc, g1, e1, g3, g4, g5⟩ := r1
    split at hr
    · cases hr
    rename_i hcond
    simp only [Bool.or_eq_true, Bool.not_eq_true', not_or, Bool.not_eq_false] at hcond
    have c1 := Nat.eq_of_beq_eq_true hcond.1
    have c2 := Nat.le_of_ble_eq_true hcond.2
    subst c1
    have hcc : cap ≤ cc := by
      cases ex with
      | true => rw [g3 rfl]; exact Nat.le_refl _
      | false => exact (g4 rfl).1
    have hfc : (Builtin.firstCells ie.size k (a.eval y)).run P w = .ok ⟨vs⟩ w := k4' w.drawn
    split at hr
    · rename_i hk0
      have hk0 := Nat.eq_of_beq_eq_true hk0
      cases hr
      subst hk0
      have hvs : vs = [] := by simpa using k2
      subst hvs
      refine Snd.still hR (v' := .slice (some ad) len cc) ?_ (by rw [hX, ← e1]; exact r1')
      rw [hexec, e1, append_in (P := P) (w := w) (ty := o.type) h0 h1 hst hyt hie (w' := w) k3 hfc (by omega) (by simp [storeCells])]
      rfl
    · rename_i hk0
      have hk0' : 0 < k := Nat.pos_of_ne_zero fun e => hk0 (by subst e; rfl)
      split at hr
      · rename_i hfit
        have hfit := Nat.le_of_ble_eq_true hfit
        split at hr
        · rename_i K hK
          cases hr
          have had := g5 (by omega)
          subst had
          obtain ⟨w', q1, q2, q3⟩ := hR.wr (P := P) g1 hK k1 0 (p.base + (u + len * s)) (by omega)
          refine ⟨φ, .slice (some ⟨p.b, p.base + u, none⟩) (len + k) cc, w', .inl ?_, q2, q3, ?_⟩
          · rw [hexec, e1, append_in (P := P) (w := w) (ty := o.type) h0 h1 hst hyt hie (w' := w') k3 hfc (by omega) (by rw [add_eq, hes, Nat.add_assoc]; exact q1)]
            rfl
          · simp only [VR]
            exact ⟨p, _, cc, g1, rfl, g3, g4, fun _ => rfl⟩
        · cases hr
      · rename_i hfit
        have hfit : cap < len + k := by
          rcases Nat.lt_or_ge cap (len + k) with g | g
          · exact g
          · exact absurd (Nat.ble_eq_true_of_le g) hfit
        split at hr
        · rename_i l0 e' fl hget
          split at hr
          · rename_i hc
            simp only [Bool.and_eq_true] at hc
            obtain ⟨⟨⟨⟨d1, d2⟩, d3⟩, d4⟩, d5⟩ := hc
            have d1 := Nat.le_of_ble_eq_true d1
            have d2 := Nat.le_of_ble_eq_true d2
            have d3 := Nat.le_of_ble_eq_true d3
            have d5 := Nat.eq_of_beq_eq_true d5
            subst d5
            have hrdn : H.rdn X u (len * s) = some ((l0.drop u).take (len * s)) := by
              unfold AH.rdn
              rw [hget]
              simp only
              rw [if_pos]
              exact Nat.ble_eq_true_of_le d1
            obtain ⟨us, u1, u2, u3⟩ := (hR.drew (w.drawn + 1)).run_loadCells (P := P) g1 hrdn
            have hfo : 0 < cc ∨ len = 0 → (Builtin.firstCells ie.size len (.slice (some ad) len cc)).run P { w with drawn := w.drawn + 1 } = .ok ⟨us⟩ { w with drawn := w.drawn + 1 } := by
              intro hor
              simp only [Builtin.firstCells, hes]
              rcases hor with hor | hor
              · rw [g5 hor]; exact u3
              · subst hor
                have : us = [] := by simpa using u2
                subst this
                rw [Nat.zero_mul]
                exact loadCells_zero _
            have hor : 0 < cc ∨ len = 0 := by omega
            -- the model's capacity may do
            by_cases hin : len + k ≤ cc
            · cases ex with
              | true => have := g3 rfl; omega
              | false =>
                simp only [Bool.false_eq_true, if_false] at hr
                split at hr
                · rename_i hfl
                  have hfl := Nat.le_of_ble_eq_true hfl
                  cases hr
                  have had := g5 (by omega)
                  subst had
                  obtain ⟨m1, m2⟩ := g4 rfl
                  have hblk := hR.blk X p g1
                  rw [hget] at hblk
                  obtain ⟨cs, lo, hi, b1, b2, b3, b4, b5, b6⟩ := hblk
                  have hpb := (hR.lo X p g1).2
                  have hmul : (len + k) * s ≤ cc * s := Nat.mul_le_mul_right _ hin
                  have hmul2 : (len + k) * s = len * s + k * s := Nat.add_mul _ _ _
                  have hone : ∀ v, v ∈ vs → v.oneCell' = true := by
                    intro v hm
                    obtain ⟨j, hj⟩ := List.mem_iff_getElem?.1 hm
                    have hlt : j < new.length := by
                      rw [← k1.length]
                      rcases Nat.lt_or_ge j vs.length with g | g
                      · exact g
                      · rw [List.getElem?_eq_none g] at hj; cases hj
                    obtain ⟨z', hz', hr'⟩ := k1.get j new[j] (List.getElem?_eq_getElem hlt)
                    rw [hj] at hz'
                    cases hz'
                    exact hr'.one (List.all_eq_true.1 d4 _ (List.getElem_mem hlt))
                  have hstore := run_storeCells (P := P) (b := p.b) (o := p.base + (u + len * s)) vs 0 w cs e (lo, hi) b1 (b5 hfl) hone (by omega)
                  rw [Nat.add_zero] at hstore
                  have hrun := append_in (P := P) (w := w) (ty := o.type) h0 h1 hst hyt hie (ad := ⟨p.b, p.base + u, none⟩) (sLen := len) (sCap := cc) k3 hfc (by omega) (by rw [add_eq, hes, Nat.add_assoc]; exact hstore)
                  -- the new block is the elder one's row
                  have hnone := hR.none_of_ge (Nat.le_refl H.next)
                  let q : Pl := ⟨p.b, p.base + u, p.room - u⟩
                  have hXn : X < H.next := (hR.lo X p g1).1
                  refine ⟨φ.add H.next q, .slice (some ⟨p.b, p.base + u, none⟩) (len + k) cc, wrW w p.b (p.base + (u + len * s)) vs, .inl (by rw [hexec, e1, hrun]; rfl), ?_, ?_, ?_⟩
                  · have hw' : ∀ c, c ≠ p.b → (wrW w p.b (p.base + (u + len * s)) vs).heap[c]? = w.heap[c]? := fun c hc => by
                      simp only [wrW]
                      rw [Array.getElem?_modify, if_neg (fun e => hc e.symm)]
                    have hgetN : ∀ Y, ((H.set X .dead).push (.cells ((l0.drop u).take (len * s) ++ new) e 1)).get Y = if Y = H.next then some (.cells ((l0.drop u).take (len * s) ++ new) e 1) else if Y = X then some .dead else H.get Y := fun Y => by
                      rw [AH.get_push, AH.next_set, AH.get_set]
                    have hXal : H.alive X := by simp [AH.alive, hget]
                    have hpre : VRs φ ((l0.drop u).take (len * s)) us := u1
                    refine ⟨?_, ?_, ?_, ?_⟩
                    · intro Y r hr
                      unfold Mp.add at hr
                      split at hr
                      · rename_i e
                        cases hr
                        subst e
                        exact ⟨by simp [AH.next_push, AH.next_set], by simp [wrW, q]; exact hpb⟩
                      · have := hR.lo Y r hr
                        exact ⟨by simp only [AH.next_push, AH.next_set]; omega, by simp [wrW]; exact this.2⟩
                    · intro Y Z r t hY hZ aY aZ hb
                      have dead : ∀ Y, Y ≠ H.next → ((H.set X .dead).push (.cells ((l0.drop u).take (len * s) ++ new) e 1)).alive Y → Y ≠ X ∧ H.alive Y := by
                        intro Y hne hal
                        unfold AH.alive at hal ⊢
                        rw [hgetN, if_neg hne] at hal
                        by_cases e : Y = X
                        · rw [if_pos e] at hal; exact hal.elim
                        · rw [if_neg e] at hal; exact ⟨e, hal⟩
                      unfold Mp.add at hY hZ
                      split at hY <;> split at hZ
                      · rename_i q1 q2; rw [q1, q2]
                      · rename_i q1 q2
                        cases hY
                        obtain ⟨x1, x2⟩ := dead Z q2 aZ
                        exact absurd (hR.inj Z X t p hZ g1 x2 hXal hb.symm) x1
                      · rename_i q1 q2
                        cases hZ
                        obtain ⟨x1, x2⟩ := dead Y q1 aY
                        exact absurd (hR.inj Y X r p hY g1 x2 hXal hb) x1
                      · rename_i q1 q2
                        obtain ⟨x1, x2⟩ := dead Y q1 aY
                        obtain ⟨x3, x4⟩ := dead Z q2 aZ
                        exact hR.inj Y Z r t hY hZ x2 x4 hb
                    · intro Y r hr
                      rw [hgetN]
                      by_cases e0 : Y = H.next
                      · subst e0
                        rw [Mp.add_self] at hr
                        cases hr
                        rw [if_pos rfl]
                        have hcs : (wrW w p.b (p.base + (u + len * s)) vs).heap[p.b]? = some (.cells ⟨cs.toList.take (p.base + (u + len * s)) ++ vs ++ cs.toList.drop (p.base + (u + len * s) + vs.length)⟩ e (lo, hi)) := by
                          simp only [wrW]
                          rw [Array.getElem?_modify, if_pos rfl, b1]
                          rfl
                        have hnl : new.length = k * s := by rw [← k1.length, k2]
                        have htl : ((l0.drop u).take (len * s)).length = len * s := by
                          rw [List.length_take, List.length_drop]; omega
                        have hsize : (Array.mk (cs.toList.take (p.base + (u + len * s)) ++ vs ++ cs.toList.drop (p.base + (u + len * s) + vs.length))).size = cs.size := by
                          simp only [List.size_toArray, List.length_append, List.length_take, List.length_drop, Array.length_toList]
                          omega
                        refine ⟨_, lo, hi, hcs, ?_, ?_, fun e => (by cases e), ?_, ?_⟩
                        · simp only [List.length_append, htl, hnl]
                          show len * s + k * s ≤ p.room - u
                          omega
                        · rw [hsize]
                          show p.base + u + (p.room - u) ≤ cs.size
                          omega
                        · intro _ j hj
                          rw [hsize] at hj
                          exact b5 hfl j hj
                        · intro j b hb
                          simp only [List.getElem?_toArray]
                          show ∃ v, (cs.toList.take (p.base + (u + len * s)) ++ vs ++ cs.toList.drop (p.base + (u + len * s) + vs.length))[p.base + u + j]? = some v ∧ _
                          have m3 : min (p.base + (u + len * s)) cs.size = p.base + (u + len * s) := by omega
                          rw [List.getElem?_append] at hb
                          rw [List.getElem?_append, List.getElem?_append]
                          simp only [List.length_append, List.length_take, Array.length_toList, m3, List.getElem?_take]
                          rw [htl] at hb
                          split at hb
                          · rename_i hj
                            rw [if_pos (by omega), if_pos (by omega), if_pos (by omega)]
                            rw [List.getElem?_take, if_pos hj, List.getElem?_drop] at hb
                            obtain ⟨v', y1, y2⟩ := b6 _ _ hb
                            refine ⟨v', ?_, VR.mono (Mp.add_le hnone) _ _ y2⟩
                            rw [← y1, Array.getElem?_toList]
                            congr 1
                            omega
                          · rename_i hj
                            obtain ⟨v', y1, y2⟩ := k1.get _ _ hb
                            have hlt : j - len * s < vs.length := by
                              rcases Nat.lt_or_ge (j - len * s) vs.length with g | g
                              · exact g
                              · rw [List.getElem?_eq_none g] at y1; cases y1
                            rw [if_pos (by omega), if_neg (by omega)]
                            refine ⟨v', ?_, VR.mono (Mp.add_le hnone) _ _ y2⟩
                            rw [← y1]
                            congr 1
                            omega
                      · rw [if_neg e0]
                        have hr' : φ Y = some r := by simpa [Mp.add, e0] using hr
                        by_cases e1 : Y = X
                        · rw [if_pos e1]; trivial
                        · rw [if_neg e1]
                          by_cases hal : H.alive Y
                          · refine BlkR.mono (Mp.add_le hnone) ((hR.blk Y r hr').of_heap (hw' _ fun e => e1 ?_))
                            exact hR.inj Y X r p hr' g1 hal hXal e
                          · exact BlkR.mono (Mp.add_le hnone) (BlkR.not_alive hal (hR.blk Y r hr'))
                    · intro g hg'
                      obtain ⟨r, hr⟩ := hR.gl g hg'
                      exact ⟨r, Mp.add_le hnone _ _ hr⟩
                  · have hXal : H.alive X := by simp [AH.alive, hget]
                    exact {
                      le := Mp.add_le hnone
                      size := by simp [wrW]
                      frame := fun c hc hno => by
                        simp only [wrW]
                        rw [Array.getElem?_modify, if_neg (fun e => hno X p g1 e hXal)]
                      out := ⟨rfl, rfl, rfl⟩
                      next := by simp [AH.next_push, AH.next_set]
                      same := fun Y hY hn => by
                        rw [AH.get_push, AH.next_set, if_neg (by omega), AH.get_set, if_neg]
                        intro e
                        subst e
                        rw [g1] at hn
                        cases hn
                      stay := fun Y r hr hd => by
                        have hYn : Y < H.next := (hR.lo Y r hr).1
                        have hne : Y ≠ X := fun e => hd (e ▸ hXal)
                        unfold AH.alive at *
                        rwa [AH.get_push, AH.next_set, if_neg (by omega), AH.get_set, if_neg hne]
                      new := fun Y r hr hn => by
                        unfold Mp.add at hr
                        split at hr
                        · rename_i e
                          cases hr
                          exact ⟨by omega, .inr ⟨X, p, g1, rfl, hXal⟩⟩
                        · rw [hn] at hr; cases hr }
                  · simp only [VR]
                    refine ⟨q, _, cc, Mp.add_self _ _ _, rfl, (fun h => nomatch h), fun _ => ⟨hin, ?_⟩, fun _ => by simp [q]⟩
                    show 0 + cc * s ≤ p.room - u
                    omega
                · cases hr
            · have hG := grow (some ad) len cc us _ e1 u1 u2 (by omega) d2 (by omega) (hfo hor)
              cases ex with
              | true =>
                simp only [if_true] at hr
                cases hr
                exact hG
              | false =>
                simp only [Bool.false_eq_true, if_false] at hr
                split at hr
                · cases hr
                  -- the elder block is dead
                  obtain ⟨ψ, v', w', y1, y2, y3, y4⟩ := hG
                  have hXn : X < H.next := (hR.lo X p g1).1
                  have hgetN : ∀ Y, ((H.set X .dead).push (.cells ((l0.drop u).take (len * s) ++ new) e 1)).get Y = if Y = X then some .dead else (H.push (.cells ((l0.drop u).take (len * s) ++ new) e 1)).get Y := fun Y => by
                    rw [AH.get_push, AH.next_set, AH.get_set, AH.get_push]
                    by_cases e1 : Y = H.next
                    · rw [if_pos e1, if_neg (by omega), if_pos e1]
                    · simp only [if_neg e1]
                  refine ⟨ψ, v', w', y1, ?_, ?_, y4⟩
                  · refine ⟨fun Y r hr => ⟨(y2.lo Y r hr).1, (y2.lo Y r hr).2⟩, ?_, ?_, y2.gl⟩
                    · intro Y Z r t hY hZ aY aZ hb
                      have dead : ∀ Y, ((H.set X .dead).push (.cells ((l0.drop u).take (len * s) ++ new) e 1)).alive Y → (H.push (.cells ((l0.drop u).take (len * s) ++ new) e 1)).alive Y := by
                        intro Y hal
                        unfold AH.alive at hal ⊢
                        rw [hgetN] at hal
                        by_cases e : Y = X
                        · rw [if_pos e] at hal; exact hal.elim
                        · rwa [if_neg e] at hal
                      exact y2.inj Y Z r t hY hZ (dead Y aY) (dead Z aZ) hb
                    · intro Y r hr
                      rw [hgetN]
                      by_cases e1 : Y = X
                      · rw [if_pos e1]; trivial
                      · rw [if_neg e1]; exact y2.blk Y r hr
                  · exact { y3 with
                      next := y3.next
                      same := fun Y hY hn => by
                        rw [hgetN, if_neg]
                        · exact y3.same Y hY hn
                        · intro e
                          subst e
                          rw [g1] at hn
                          cases hn
                      stay := fun Y r hr hd hal => by
                        refine y3.stay Y r hr hd ?_
                        unfold AH.alive at hal ⊢
                        rw [hgetN] at hal
                        by_cases e : Y = X
                        · rw [if_pos e] at hal; exact hal.elim
                        · rwa [if_neg e] at hal }
                · cases hr
          · cases hr
        · cases hr
  · cases hr
end
end Go.Vd
