/- Trees in the heap; the reader of terms. -/
import Derived.Test.YtabgoidablkmjaaGreatDoorYdB1
set_option linter.unusedVariables false
set_option linter.unusedSimpArgs false
namespace Go.Vd

/-- The code behind so many steps. -/
def AC.tail : Nat → AC → AC
  | 0, c => c
  | n + 1, .seq _ b => b.tail n
  | _, c => c

namespace L
open Go.Vd

inductive Tm where
  | nd0 (k n : Int) (s : List UInt8)
  | nd2 (k : Int) (a b : Tm)
  | nd3 (a b c : Tm)

def Tm.wf : Tm → Prop
  | .nd0 k n s => (k = 1 ∨ k = 2 ∨ k = 3) ∧ leafB k n s = true
  | .nd2 k a b => (k = 4 ∨ k = 5 ∨ k = 6) ∧ a.wf ∧ b.wf
  | .nd3 a b c => a.wf ∧ b.wf ∧ c.wf

def Tm.size : Tm → Nat
  | .nd0 _ _ _ => 1
  | .nd2 _ a b => 1 + a.size + b.size
  | .nd3 a b c => 1 + a.size + b.size + c.size

/-- A tree at a place, its nodes from some block on. -/
def TreeAt (lo : Nat) (H : AH) : Tm → Nat → Prop
  | .nd0 k n s, X => lo ≤ X ∧ X < H.next ∧ NdAt H X k n s .nilp .nilp .nilp
  | .nd2 k a b, X => lo ≤ X ∧ X < H.next ∧ ∃ Y Z, NdAt H X k 0 [] (.ptr Y 0) (.ptr Z 0) .nilp ∧ TreeAt lo H a Y ∧ TreeAt lo H b Z
  | .nd3 a b c, X => lo ≤ X ∧ X < H.next ∧ ∃ Y Z W, NdAt H X 7 0 [] (.ptr Y 0) (.ptr Z 0) (.ptr W 0) ∧ TreeAt lo H a Y ∧ TreeAt lo H b Z ∧ TreeAt lo H c W

theorem TreeAt.keep {lo : Nat} {H H' : AH} (hn : H.next ≤ H'.next) (hs : ∀ Y, lo ≤ Y → Y < H.next → H'.get Y = H.get Y) : ∀ {t : Tm} {X : Nat}, TreeAt lo H t X → TreeAt lo H' t X
  | .nd0 k n s, X, ⟨h1, h2, h3⟩ => ⟨h1, by omega, by unfold NdAt at *; rw [hs X h1 h2]; exact h3⟩
  | .nd2 k a b, X, ⟨h1, h2, Y, Z, h3, h4, h5⟩ => ⟨h1, by omega, Y, Z, by unfold NdAt at *; rw [hs X h1 h2]; exact h3, h4.keep hn hs, h5.keep hn hs⟩
  | .nd3 a b c, X, ⟨h1, h2, Y, Z, W, h3, h4, h5, h6⟩ => ⟨h1, by omega, Y, Z, W, by unfold NdAt at *; rw [hs X h1 h2]; exact h3, h4.keep hn hs, h5.keep hn hs, h6.keep hn hs⟩

theorem TreeAt.low {lo lo' : Nat} (h : lo' ≤ lo) {H : AH} : ∀ {t : Tm} {X : Nat}, TreeAt lo H t X → TreeAt lo' H t X
  | .nd0 _ _ _, X, ⟨h1, h2, h3⟩ => ⟨Nat.le_trans h h1, h2, h3⟩
  | .nd2 _ a b, X, ⟨h1, h2, Y, Z, h3, h4, h5⟩ => ⟨Nat.le_trans h h1, h2, Y, Z, h3, h4.low h, h5.low h⟩
  | .nd3 a b c, X, ⟨h1, h2, Y, Z, W, h3, h4, h5, h6⟩ => ⟨Nat.le_trans h h1, h2, Y, Z, W, h3, h4.low h, h5.low h, h6.low h⟩

/-- What the reader leaves: the elder blocks, but for its own. -/
structure Kept (R : Nat) (H H' : AH) : Prop where
  next : H.next ≤ H'.next
  same : ∀ Y, Y < H.next → Y ≠ R → H'.get Y = H.get Y

def Q48 (R : Nat) (n : Int) (H : AH) (v : AV) (H' : AH) : Prop :=
  (v = .nilp ∨ ∃ X, v = .ptr X 0) ∧ Kept R H H' ∧ ∃ s' n' e', RdAt H' R s' n' e' ∧
    (e' = 0 → ∃ t X, v = .ptr X 0 ∧ TreeAt H.next H' t X ∧ t.wf ∧ n' = n + t.size ∧ n' ≤ 3000)

/-- A child that is there, or none. -/
def CO (lo : Nat) (H : AH) (o : Option Tm) (v : AV) : Prop := match o with
  | none => v = .nilp
  | some t => t.wf ∧ ∃ Y, v = .ptr Y 0 ∧ TreeAt lo H t Y
def szO : Option Tm → Nat
  | none => 0
  | some t => t.size

theorem CO.keep {lo : Nat} {H H' : AH} (hn : H.next ≤ H'.next) (hs : ∀ Y, lo ≤ Y → Y < H.next → H'.get Y = H.get Y) {o : Option Tm} {v : AV} (h : CO lo H o v) : CO lo H' o v := by
  cases o with
  | none => exact h
  | some t => exact ⟨h.1, h.2.choose, h.2.choose_spec.1, h.2.choose_spec.2.keep hn hs⟩

/-- How far a node has been read: what is there of it, so many children having been asked for. -/
def St48 (H : AH) (R X : Nat) (n0 : Int) (j : Int) (l : TL) (Hc : AH) : Prop :=
  ∃ s n e k nn nm a b c, l = [(0, .ptr R 0), (3, .ptr X 0), (7, .int .i64 (partsI k))] ∧ RdAt Hc R s n e ∧ NdAt Hc X k nn nm a b c ∧ Kept R H Hc ∧ X < Hc.next ∧
    (a = .nilp ∨ ∃ Y, a = .ptr Y 0) ∧
    (e = 0 → leafB k nn nm = true ∧ n0 + 1 ≤ n ∧ n ≤ 3000 ∧ ∃ oa ob oc, CO (X + 1) Hc oa a ∧ CO (X + 1) Hc ob b ∧ CO (X + 1) Hc oc c ∧ n = n0 + 1 + szO oa + szO ob + szO oc ∧
      (oa.isSome = decide (0 < j ∧ 0 < partsI k)) ∧ (ob.isSome = decide (1 < j ∧ 1 < partsI k)) ∧ (oc.isSome = decide (2 < j ∧ 2 < partsI k)))

section
variable {H : AH} {R X : Nat} {n0 : Int}

theorem end48 (hX : X = H.next) {l : TL} {Hc : AH} (h : St48 H R X n0 3 l Hc) : Wc Ck (c48.code.tail 10) l [] Hc (kret c48 (Q48 R n0 H)) := by
  obtain ⟨s, n, e, k, nn, nm, a, b, c, rfl, hR, hN, hK, hXl, _, hg⟩ := h
  repeat' (first | refine Wc.seq ?_ | refine Wc.reg ?_ | refine Wc.ret ?_ | refine Fin.seq ?_ | refine Wo.nil ?_ | refine Wo.val rfl (.mv rfl) ?_)
  refine Fin.kret rfl ⟨.inr ⟨X, rfl⟩, hK, s, n, e, hR, fun he => ?_⟩
  obtain ⟨hl, hn1, hn2, oa, ob, oc, ha, hb, hc, hn, ea, eb, ec⟩ := hg he
  have hlo : H.next ≤ X + 1 := by omega
  by_cases k1 : k = 1 ∨ k = 2 ∨ k = 3
  · have hp : partsI k = 0 := by unfold partsI; rw [if_neg (by omega), if_neg (by omega)]
    rw [hp] at ea eb ec
    simp at ea eb ec
    subst ea; subst eb; subst ec
    simp only [CO] at ha hb hc
    subst ha; subst hb; subst hc
    exact ⟨.nd0 k nn nm, X, rfl, ⟨by omega, hXl, hN⟩, ⟨k1, hl⟩, by simp only [szO] at hn; simp only [Tm.size]; omega, hn2⟩
  · have hz : nn = 0 ∧ nm = [] ∧ 4 ≤ k ∧ k ≤ 7 := by
      unfold leafB at hl
      rw [if_neg (by omega), if_neg (by omega), if_neg (by omega)] at hl
      simp only [Bool.and_eq_true, decide_eq_true_eq] at hl
      exact ⟨hl.1.1.2, strEq_iff hl.1.1.1, hl.1.2, hl.2⟩
    obtain ⟨rfl, rfl, k4, k7⟩ := hz
    by_cases hk7 : k = 7
    · subst hk7
      have hp : partsI 7 = 3 := by decide
      rw [hp] at ea eb ec
      simp at ea eb ec
      obtain ⟨ta, rfl⟩ := Option.isSome_iff_exists.1 ea
      obtain ⟨tb, rfl⟩ := Option.isSome_iff_exists.1 eb
      obtain ⟨tc, rfl⟩ := Option.isSome_iff_exists.1 ec
      obtain ⟨wa, Ya, rfl, Ta⟩ := ha
      obtain ⟨wb, Yb, rfl, Tb⟩ := hb
      obtain ⟨wc, Yc, rfl, Tc⟩ := hc
      exact ⟨.nd3 ta tb tc, X, rfl, ⟨by omega, hXl, Ya, Yb, Yc, hN, Ta.low hlo, Tb.low hlo, Tc.low hlo⟩, ⟨wa, wb, wc⟩, by simp only [szO] at hn; simp only [Tm.size]; omega, hn2⟩
    · have hp : partsI k = 2 := by unfold partsI; rw [if_pos (by omega)]
      rw [hp] at ea eb ec
      simp at ea eb ec
      obtain ⟨ta, rfl⟩ := Option.isSome_iff_exists.1 ea
      obtain ⟨tb, rfl⟩ := Option.isSome_iff_exists.1 eb
      subst ec
      obtain ⟨wa, Ya, rfl, Ta⟩ := ha
      obtain ⟨wb, Yb, rfl, Tb⟩ := hb
      simp only [CO] at hc
      subst hc
      exact ⟨.nd2 k ta tb, X, rfl, ⟨by omega, hXl, Ya, Yb, hN, Ta.low hlo, Tb.low hlo⟩, ⟨by omega, wa, wb⟩, by simp only [szO] at hn; simp only [Tm.size]; omega, hn2⟩

theorem child9 (hX : X = H.next) (hRX : R < X) (ih : ∀ H' s n e, RdAt H' R s n e → R < H'.next → n0 + 1 ≤ n → n ≤ 3000 → Rt Ck 48 [.ptr R 0] H' (Q48 R n H')) {l : TL} {Hc : AH} (h : St48 H R X n0 2 l Hc) :
    Wc Ck (c48.code.tail 9) l [] Hc (kret c48 (Q48 R n0 H)) := by
  obtain ⟨s, n, e, k, nn, nm, a, b, c, rfl, hR, hN, hK, hXl, hna, hg⟩ := h
  have hR' := hR
  unfold RdAt at hR'
  refine Wc.cut (St48 H R X n0 3) ?_ (fun l' H' h => end48 hX h)
  repeat' (first | refine Wc.seq ?_ | refine Wc.reg ?_ | refine Wo.val rfl (.mv rfl) ?_ | refine Wo.val rfl (.chk rfl rfl) ?_ | refine Wo.val rfl (.bin rfl rfl rfl) ?_ | refine Wo.val rfl (.fad rfl) ?_ | refine Wo.val rfl (.ld rfl (AH.rd_at (by assumption) (by exact rfl))) ?_)
  refine Wo.branch rfl (fun h1 => ?_) (fun h1 => ?_)
  · have he : e = 0 := by simpa using h1
    obtain ⟨hl, hn1, hn2, oa, ob, oc, ha, hb, hc, hn, ea, eb, ec⟩ := hg he
    repeat' (first | refine Fin.seq ?_ | refine Wo.nil ?_ | refine Wo.val rfl (.mv rfl) ?_ | refine Wo.val rfl (.pick_t rfl rfl) ?_ | refine Wo.val rfl (.bin rfl rfl rfl) ?_)
    refine Wc.ifs rfl (fun h2 => ?_) (fun h2 => ?_)
    · have h2 : 2 < partsI k := by simpa using h2
      repeat' (first | refine Wc.reg ?_ | refine Wo.val rfl (.mv rfl) ?_)
      refine Wo.call rfl rfl (ih Hc s n e hR (by omega) hn1 hn2) ?_
      rintro v H1 ⟨hv, hK1, s1, n1, e1, hR1, hg1⟩
      have hN1 : NdAt H1 X k nn nm a b c := by unfold NdAt at *; rw [hK1.same X hXl (by omega)]; exact hN
      have hv1 : v.cells = [v] ∧ v.one = true := by rcases hv with rfl | ⟨Y, rfl⟩ <;> exact ⟨rfl, rfl⟩
      repeat' (first | refine Wo.val rfl (.chk rfl rfl) ?_ | refine Wo.val rfl (.fad rfl) ?_)
      refine Wo.st1 (c' := [.int .i64 k, .int .i64 nn, .str nm, a, b, v]) rfl rfl hN1 rfl rfl hv1.1 hv1.2 rfl (fun H2 hn2' hX2 hs2 => ?_)
      have hle : Hc.next ≤ H2.next := by rw [hn2']; exact hK1.next
      have hsame : ∀ Y, X + 1 ≤ Y → Y < Hc.next → H2.get Y = Hc.get Y := fun Y h1 h2 => by rw [hs2 Y (by omega), hK1.same Y h2 (by omega)]
      have hK2 : Kept R H H2 := ⟨Nat.le_trans hK.next hle, fun Y h1 h2 => by rw [hs2 Y (by omega), hK1.same Y (Nat.lt_of_lt_of_le h1 hK.next) h2, hK.same Y h1 h2]⟩
      have hR2 : RdAt H2 R s1 n1 e1 := by unfold RdAt at *; rw [hs2 R (by omega)]; exact hR1
      repeat' refine Wo.nil ?_
      refine Fin.cut (l' := [(0, .ptr R 0), (3, .ptr X 0), (7, .int .i64 (partsI k))]) ⟨s1, n1, e1, k, nn, nm, a, b, v, rfl, hR2, hX2, hK2, by omega, hna, fun he1 => ?_⟩ ⟨rfl, rfl, rfl, trivial⟩
      obtain ⟨t, Yt, rfl, htr, wt, hsz, hle3⟩ := hg1 he1
      have ht : TreeAt (X + 1) H2 t Yt := (htr.keep (by omega) (fun Y h1 h2 => hs2 Y (by omega))).low (by omega)
      have hnone : oc = none := by
        cases o : oc with
        | none => rfl
        | some x => rw [o] at ec; simp at ec
      subst hnone
      simp only [szO] at hn
      refine ⟨hl, by omega, hle3, oa, ob, (some t), (CO.keep hle hsame ha), (CO.keep hle hsame hb), ⟨wt, Yt, rfl, ht⟩, by simp only [szO]; omega, ?_, ?_, ?_⟩
      all_goals first
        | (simp; omega)
        | (simp only [ea, eb, ec]; simp)
        | simp_all
    · have h2 : ¬ 2 < partsI k := by simpa using h2
      repeat' refine Wc.skip ?_
      refine Fin.cut (l' := [(0, .ptr R 0), (3, .ptr X 0), (7, .int .i64 (partsI k))]) ⟨s, n, e, k, nn, nm, a, b, c, rfl, hR, hN, hK, hXl, hna, fun _ => ⟨hl, hn1, hn2, oa, ob, oc, ha, hb, hc, hn, ?_, ?_, ?_⟩⟩ ⟨rfl, rfl, rfl, trivial⟩
      · rw [ea]; congr 1; apply propext; omega
      · rw [eb]; congr 1; apply propext; omega
      · rw [ec]; congr 1; apply propext; omega
  · have he : e ≠ 0 := by simpa using h1
    repeat' (first | refine Wc.skip ?_ | refine Fin.seq ?_ | refine Wo.nil ?_ | refine Wc.cond_f rfl ?_ | refine Wo.skip rfl ?_ | refine Wo.val rfl (.pick_f rfl rfl) ?_)
    exact Fin.cut (l' := [(0, .ptr R 0), (3, .ptr X 0), (7, .int .i64 (partsI k))]) ⟨s, n, e, k, nn, nm, a, b, c, rfl, hR, hN, hK, hXl, hna, fun h => absurd h he⟩ ⟨rfl, rfl, rfl, trivial⟩

theorem child8 (hX : X = H.next) (hRX : R < X) (ih : ∀ H' s n e, RdAt H' R s n e → R < H'.next → n0 + 1 ≤ n → n ≤ 3000 → Rt Ck 48 [.ptr R 0] H' (Q48 R n H')) {l : TL} {Hc : AH} (h : St48 H R X n0 1 l Hc) :
    Wc Ck (c48.code.tail 8) l [] Hc (kret c48 (Q48 R n0 H)) := by
  obtain ⟨s, n, e, k, nn, nm, a, b, c, rfl, hR, hN, hK, hXl, hna, hg⟩ := h
  have hR' := hR
  unfold RdAt at hR'
  refine Wc.cut (St48 H R X n0 2) ?_ (fun l' H' h => child9 hX hRX ih h)
  repeat' (first | refine Wc.seq ?_ | refine Wc.reg ?_ | refine Wo.val rfl (.mv rfl) ?_ | refine Wo.val rfl (.chk rfl rfl) ?_ | refine Wo.val rfl (.bin rfl rfl rfl) ?_ | refine Wo.val rfl (.fad rfl) ?_ | refine Wo.val rfl (.ld rfl (AH.rd_at (by assumption) (by exact rfl))) ?_)
  refine Wo.branch rfl (fun h1 => ?_) (fun h1 => ?_)
  · have he : e = 0 := by simpa using h1
    obtain ⟨hl, hn1, hn2, oa, ob, oc, ha, hb, hc, hn, ea, eb, ec⟩ := hg he
    repeat' (first | refine Fin.seq ?_ | refine Wo.nil ?_ | refine Wo.val rfl (.mv rfl) ?_ | refine Wo.val rfl (.pick_t rfl rfl) ?_ | refine Wo.val rfl (.bin rfl rfl rfl) ?_)
    refine Wc.ifs rfl (fun h2 => ?_) (fun h2 => ?_)
    · have h2 : 1 < partsI k := by simpa using h2
      repeat' (first | refine Wc.reg ?_ | refine Wo.val rfl (.mv rfl) ?_)
      refine Wo.call rfl rfl (ih Hc s n e hR (by omega) hn1 hn2) ?_
      rintro v H1 ⟨hv, hK1, s1, n1, e1, hR1, hg1⟩
      have hN1 : NdAt H1 X k nn nm a b c := by unfold NdAt at *; rw [hK1.same X hXl (by omega)]; exact hN
      have hv1 : v.cells = [v] ∧ v.one = true := by rcases hv with rfl | ⟨Y, rfl⟩ <;> exact ⟨rfl, rfl⟩
      repeat' (first | refine Wo.val rfl (.chk rfl rfl) ?_ | refine Wo.val rfl (.fad rfl) ?_)
      refine Wo.st1 (c' := [.int .i64 k, .int .i64 nn, .str nm, a, v, c]) rfl rfl hN1 rfl rfl hv1.1 hv1.2 rfl (fun H2 hn2' hX2 hs2 => ?_)
      have hle : Hc.next ≤ H2.next := by rw [hn2']; exact hK1.next
      have hsame : ∀ Y, X + 1 ≤ Y → Y < Hc.next → H2.get Y = Hc.get Y := fun Y h1 h2 => by rw [hs2 Y (by omega), hK1.same Y h2 (by omega)]
      have hK2 : Kept R H H2 := ⟨Nat.le_trans hK.next hle, fun Y h1 h2 => by rw [hs2 Y (by omega), hK1.same Y (Nat.lt_of_lt_of_le h1 hK.next) h2, hK.same Y h1 h2]⟩
      have hR2 : RdAt H2 R s1 n1 e1 := by unfold RdAt at *; rw [hs2 R (by omega)]; exact hR1
      repeat' refine Wo.nil ?_
      refine Fin.cut (l' := [(0, .ptr R 0), (3, .ptr X 0), (7, .int .i64 (partsI k))]) ⟨s1, n1, e1, k, nn, nm, a, v, c, rfl, hR2, hX2, hK2, by omega, hna, fun he1 => ?_⟩ ⟨rfl, rfl, rfl, trivial⟩
      obtain ⟨t, Yt, rfl, htr, wt, hsz, hle3⟩ := hg1 he1
      have ht : TreeAt (X + 1) H2 t Yt := (htr.keep (by omega) (fun Y h1 h2 => hs2 Y (by omega))).low (by omega)
      have hnone : ob = none := by
        cases o : ob with
        | none => rfl
        | some x => rw [o] at eb; simp at eb
      subst hnone
      simp only [szO] at hn
      refine ⟨hl, by omega, hle3, oa, (some t), oc, (CO.keep hle hsame ha), ⟨wt, Yt, rfl, ht⟩, (CO.keep hle hsame hc), by simp only [szO]; omega, ?_, ?_, ?_⟩
      all_goals first
        | (simp; omega)
        | (simp only [ea, eb, ec]; simp)
        | simp_all
    · have h2 : ¬ 1 < partsI k := by simpa using h2
      repeat' refine Wc.skip ?_
      refine Fin.cut (l' := [(0, .ptr R 0), (3, .ptr X 0), (7, .int .i64 (partsI k))]) ⟨s, n, e, k, nn, nm, a, b, c, rfl, hR, hN, hK, hXl, hna, fun _ => ⟨hl, hn1, hn2, oa, ob, oc, ha, hb, hc, hn, ?_, ?_, ?_⟩⟩ ⟨rfl, rfl, rfl, trivial⟩
      · rw [ea]; congr 1; apply propext; omega
      · rw [eb]; congr 1; apply propext; omega
      · rw [ec]; congr 1; apply propext; omega
  · have he : e ≠ 0 := by simpa using h1
    repeat' (first | refine Wc.skip ?_ | refine Fin.seq ?_ | refine Wo.nil ?_ | refine Wc.cond_f rfl ?_ | refine Wo.skip rfl ?_ | refine Wo.val rfl (.pick_f rfl rfl) ?_)
    exact Fin.cut (l' := [(0, .ptr R 0), (3, .ptr X 0), (7, .int .i64 (partsI k))]) ⟨s, n, e, k, nn, nm, a, b, c, rfl, hR, hN, hK, hXl, hna, fun h => absurd h he⟩ ⟨rfl, rfl, rfl, trivial⟩

theorem child7 (hX : X = H.next) (hRX : R < X) (ih : ∀ H' s n e, RdAt H' R s n e → R < H'.next → n0 + 1 ≤ n → n ≤ 3000 → Rt Ck 48 [.ptr R 0] H' (Q48 R n H')) {l : TL} {Hc : AH} (h : St48 H R X n0 0 l Hc) :
    Wc Ck (c48.code.tail 7) l [] Hc (kret c48 (Q48 R n0 H)) := by
  obtain ⟨s, n, e, k, nn, nm, a, b, c, rfl, hR, hN, hK, hXl, hna, hg⟩ := h
  have hR' := hR
  unfold RdAt at hR'
  refine Wc.cut (St48 H R X n0 1) ?_ (fun l' H' h => child8 hX hRX ih h)
  repeat' (first | refine Wc.seq ?_ | refine Wc.reg ?_ | refine Wo.val rfl (.mv rfl) ?_ | refine Wo.val rfl (.chk rfl rfl) ?_ | refine Wo.val rfl (.bin rfl rfl rfl) ?_ | refine Wo.val rfl (.fad rfl) ?_ | refine Wo.val rfl (.ld rfl (AH.rd_at (by assumption) (by exact rfl))) ?_)
  refine Wo.branch rfl (fun h1 => ?_) (fun h1 => ?_)
  · have he : e = 0 := by simpa using h1
    obtain ⟨hl, hn1, hn2, oa, ob, oc, ha, hb, hc, hn, ea, eb, ec⟩ := hg he
    repeat' (first | refine Fin.seq ?_ | refine Wo.nil ?_ | refine Wo.val rfl (.mv rfl) ?_ | refine Wo.val rfl (.pick_t rfl rfl) ?_ | refine Wo.val rfl (.bin rfl rfl rfl) ?_)
    refine Wc.ifs rfl (fun h2 => ?_) (fun h2 => ?_)
    · have h2 : 0 < partsI k := by simpa using h2
      repeat' (first | refine Wc.reg ?_ | refine Wo.val rfl (.mv rfl) ?_)
      refine Wo.call rfl rfl (ih Hc s n e hR (by omega) hn1 hn2) ?_
      rintro v H1 ⟨hv, hK1, s1, n1, e1, hR1, hg1⟩
      have hN1 : NdAt H1 X k nn nm a b c := by unfold NdAt at *; rw [hK1.same X hXl (by omega)]; exact hN
      have hv1 : v.cells = [v] ∧ v.one = true := by rcases hv with rfl | ⟨Y, rfl⟩ <;> exact ⟨rfl, rfl⟩
      repeat' (first | refine Wo.val rfl (.chk rfl rfl) ?_ | refine Wo.val rfl (.fad rfl) ?_)
      refine Wo.st1 (c' := [.int .i64 k, .int .i64 nn, .str nm, v, b, c]) rfl rfl hN1 rfl rfl hv1.1 hv1.2 rfl (fun H2 hn2' hX2 hs2 => ?_)
      have hle : Hc.next ≤ H2.next := by rw [hn2']; exact hK1.next
      have hsame : ∀ Y, X + 1 ≤ Y → Y < Hc.next → H2.get Y = Hc.get Y := fun Y h1 h2 => by rw [hs2 Y (by omega), hK1.same Y h2 (by omega)]
      have hK2 : Kept R H H2 := ⟨Nat.le_trans hK.next hle, fun Y h1 h2 => by rw [hs2 Y (by omega), hK1.same Y (Nat.lt_of_lt_of_le h1 hK.next) h2, hK.same Y h1 h2]⟩
      have hR2 : RdAt H2 R s1 n1 e1 := by unfold RdAt at *; rw [hs2 R (by omega)]; exact hR1
      repeat' refine Wo.nil ?_
      refine Fin.cut (l' := [(0, .ptr R 0), (3, .ptr X 0), (7, .int .i64 (partsI k))]) ⟨s1, n1, e1, k, nn, nm, v, b, c, rfl, hR2, hX2, hK2, by omega, hv, fun he1 => ?_⟩ ⟨rfl, rfl, rfl, trivial⟩
      obtain ⟨t, Yt, rfl, htr, wt, hsz, hle3⟩ := hg1 he1
      have ht : TreeAt (X + 1) H2 t Yt := (htr.keep (by omega) (fun Y h1 h2 => hs2 Y (by omega))).low (by omega)
      have hnone : oa = none := by
        cases o : oa with
        | none => rfl
        | some x => rw [o] at ea; simp at ea
      subst hnone
      simp only [szO] at hn
      refine ⟨hl, by omega, hle3, (some t), ob, oc, ⟨wt, Yt, rfl, ht⟩, (CO.keep hle hsame hb), (CO.keep hle hsame hc), by simp only [szO]; omega, ?_, ?_, ?_⟩
      all_goals first
        | (simp; omega)
        | (simp only [ea, eb, ec]; simp)
        | simp_all
    · have h2 : ¬ 0 < partsI k := by simpa using h2
      repeat' refine Wc.skip ?_
      refine Fin.cut (l' := [(0, .ptr R 0), (3, .ptr X 0), (7, .int .i64 (partsI k))]) ⟨s, n, e, k, nn, nm, a, b, c, rfl, hR, hN, hK, hXl, hna, fun _ => ⟨hl, hn1, hn2, oa, ob, oc, ha, hb, hc, hn, ?_, ?_, ?_⟩⟩ ⟨rfl, rfl, rfl, trivial⟩
      · rw [ea]; congr 1; apply propext; omega
      · rw [eb]; congr 1; apply propext; omega
      · rw [ec]; congr 1; apply propext; omega
  · have he : e ≠ 0 := by simpa using h1
    repeat' (first | refine Wc.skip ?_ | refine Fin.seq ?_ | refine Wo.nil ?_ | refine Wc.cond_f rfl ?_ | refine Wo.skip rfl ?_ | refine Wo.val rfl (.pick_f rfl rfl) ?_)
    exact Fin.cut (l' := [(0, .ptr R 0), (3, .ptr X 0), (7, .int .i64 (partsI k))]) ⟨s, n, e, k, nn, nm, a, b, c, rfl, hR, hN, hK, hXl, hna, fun h => absurd h he⟩ ⟨rfl, rfl, rfl, trivial⟩
end
end L
end Go.Vd
namespace Go.Vd.L
open Go.Vd

def P5 (H : AH) (R X : Nat) (n0 : Int) (l : TL) (Hc : AH) : Prop :=
  ∃ s e k nn nm, l = [(0, .ptr R 0), (3, .ptr X 0)] ∧ RdAt Hc R s (n0 + 1) e ∧ NdAt Hc X k nn nm .nilp .nilp .nilp ∧ nm.length ≤ 24 ∧ Kept R H Hc ∧ X < Hc.next
def P6 (H : AH) (R X : Nat) (n0 : Int) (l : TL) (Hc : AH) : Prop :=
  ∃ s e k nn nm, l = [(0, .ptr R 0), (3, .ptr X 0)] ∧ RdAt Hc R s (n0 + 1) e ∧ NdAt Hc X k nn nm .nilp .nilp .nilp ∧ (e = 0 → leafB k nn nm = true) ∧ Kept R H Hc ∧ X < Hc.next

section
variable {H : AH} {R X : Nat} {n0 : Int}

theorem from6 (hX : X = H.next) (hRX : R < X) (hn3 : n0 + 1 ≤ 3000) (ih : ∀ H' s n e, RdAt H' R s n e → R < H'.next → n0 + 1 ≤ n → n ≤ 3000 → Rt Ck 48 [.ptr R 0] H' (Q48 R n H')) {l : TL} {Hc : AH} (h : P6 H R X n0 l Hc) :
    Wc Ck (c48.code.tail 6) l [] Hc (kret c48 (Q48 R n0 H)) := by
  obtain ⟨s, e, k, nn, nm, rfl, hR, hN, hl, hK, hXl⟩ := h
  have hN' := hN
  unfold NdAt at hN'
  refine Wc.cut (St48 H R X n0 0) ?_ (fun l' H' h => child7 hX hRX ih h)
  repeat' (first | refine Wc.reg ?_ | refine Wo.val rfl (.mv rfl) ?_ | refine Wo.val rfl (.chk rfl rfl) ?_ | refine Wo.val rfl (.fad rfl) ?_ | refine Wo.val rfl (.ld rfl (AH.rd_at (by assumption) (by exact rfl))) ?_)
  refine Wo.call rfl rfl (rt77 k _) ?_
  rintro _ H1 ⟨rfl, e1⟩
  subst e1
  repeat' (first | refine Wo.nil ?_ | refine Wo.val rfl (.mv rfl) ?_)
  refine Fin.cut (l' := [(0, .ptr R 0), (3, .ptr X 0), (7, .int .i64 (partsI k))]) ⟨s, n0 + 1, e, k, nn, nm, .nilp, .nilp, .nilp, rfl, hR, hN, hK, hXl, .inl rfl, fun he => ⟨hl he, by omega, hn3, none, none, none, rfl, rfl, rfl, ?_, ?_, ?_, ?_⟩⟩ ⟨rfl, rfl, rfl, trivial⟩
  · simp only [szO]; omega
  all_goals simp

theorem from5 (hX : X = H.next) (hRX : R < X) (hn3 : n0 + 1 ≤ 3000) (ih : ∀ H' s n e, RdAt H' R s n e → R < H'.next → n0 + 1 ≤ n → n ≤ 3000 → Rt Ck 48 [.ptr R 0] H' (Q48 R n H')) {l : TL} {Hc : AH} (h : P5 H R X n0 l Hc) :
    Wc Ck (c48.code.tail 5) l [] Hc (kret c48 (Q48 R n0 H)) := by
  obtain ⟨s, e, k, nn, nm, rfl, hR, hN, hnm, hK, hXl⟩ := h
  have hR' := hR
  unfold RdAt at hR'
  refine Wc.cut (P6 H R X n0) ?_ (fun l' H' h => from6 hX hRX hn3 ih h)
  repeat' (first | refine Wc.seq ?_ | refine Wc.reg ?_ | refine Wo.val rfl (.mv rfl) ?_ | refine Wo.val rfl (.chk rfl rfl) ?_ | refine Wo.val rfl (.bin rfl rfl rfl) ?_ | refine Wo.val rfl (.fad rfl) ?_ | refine Wo.val rfl (.ld rfl (AH.rd_at (by assumption) (by exact rfl))) ?_)
  refine Wo.branch rfl (fun h1 => ?_) (fun h1 => ?_)
  · have he : e = 0 := by simpa using h1
    repeat' refine Wo.val rfl (.mv rfl) ?_
    refine Wo.call rfl rfl (rt76 (by omega) hN) ?_
    rintro _ H1 ⟨rfl, e1⟩
    subst e1
    repeat' (first | refine Fin.seq ?_ | refine Wo.nil ?_ | refine Wo.val rfl (.pick_t rfl rfl) ?_ | refine Wo.val rfl (.un rfl rfl) ?_)
    refine Wc.ifs rfl (fun h2 => ?_) (fun h2 => ?_)
    · repeat' (first | refine Wc.reg ?_ | refine Wo.val rfl (.mv rfl) ?_ | refine Wo.val rfl (.chk rfl rfl) ?_ | refine Wo.val rfl (.fad rfl) ?_)
      refine Wo.st1 (c' := [.str s, .int .i64 (n0 + 1), .int .i64 (.ofNat 10)]) rfl rfl hR rfl rfl rfl rfl rfl (fun H2 hn2 hX2 hs2 => ?_)
      repeat' refine Wo.nil ?_
      refine Fin.cut (l' := [(0, .ptr R 0), (3, .ptr X 0)]) ⟨s, 10, k, nn, nm, rfl, hX2, ?_, fun h => absurd h (by omega), ?_, by omega⟩ ⟨rfl, rfl, trivial⟩
      · unfold NdAt at *; rw [hs2 X (by omega)]; exact hN
      · exact ⟨by rw [hn2]; exact hK.next, fun Y h1 h2 => by rw [hs2 Y h2]; exact hK.same Y h1 h2⟩
    · have hl : leafB k nn nm = true := by simpa using h2
      repeat' refine Wc.skip ?_
      exact Fin.cut (l' := [(0, .ptr R 0), (3, .ptr X 0)]) ⟨s, e, k, nn, nm, rfl, hR, hN, fun _ => hl, hK, hXl⟩ ⟨rfl, rfl, trivial⟩
  · have he : e ≠ 0 := by simpa using h1
    repeat' (first | refine Wc.skip ?_ | refine Fin.seq ?_ | refine Wo.nil ?_ | refine Wc.cond_f rfl ?_ | refine Wo.skip rfl ?_ | refine Wo.val rfl (.pick_f rfl rfl) ?_)
    exact Fin.cut (l' := [(0, .ptr R 0), (3, .ptr X 0)]) ⟨s, e, k, nn, nm, rfl, hR, hN, fun h => absurd h he, hK, hXl⟩ ⟨rfl, rfl, trivial⟩

theorem from4 (hX : X = H.next) (hRX : R < X) (hn3 : n0 + 1 ≤ 3000) (ih : ∀ H' s n e, RdAt H' R s n e → R < H'.next → n0 + 1 ≤ n → n ≤ 3000 → Rt Ck 48 [.ptr R 0] H' (Q48 R n H')) {Hc : AH} {s : List UInt8} {e k : Int}
    (hR : RdAt Hc R s (n0 + 1) e) (hN : NdAt Hc X k 0 [] .nilp .nilp .nilp) (hK : Kept R H Hc) (hXl : X < Hc.next) :
    Wc Ck (c48.code.tail 4) [(0, .ptr R 0), (3, .ptr X 0)] [] Hc (kret c48 (Q48 R n0 H)) := by
  have hR' := hR
  unfold RdAt at hR'
  have hN' := hN
  unfold NdAt at hN'
  refine Wc.cut (P5 H R X n0) ?_ (fun l' H' h => from5 hX hRX hn3 ih h)
  -- a number into the node, from any heap of this kind
  repeat' (first | refine Wc.seq ?_ | refine Wc.block ?_ | refine Wc.reg ?_ | refine Fin.seq ?_ | refine Wo.nil ?_ | refine Wo.val rfl (.mv rfl) ?_ | refine Wo.val rfl (.chk rfl rfl) ?_ | refine Wo.val rfl (.bin rfl rfl rfl) ?_ | refine Wo.val rfl (.fad rfl) ?_ | refine Wo.val rfl (.ld rfl (AH.rd_at (by assumption) (by exact rfl))) ?_)
  refine Wc.ifs rfl (fun k3 => ?_) (fun k3 => ?_)
  · repeat' (first | refine Wc.seq ?_ | refine Wc.reg ?_ | refine Wo.val rfl (.mv rfl) ?_ | refine Wo.val rfl (.chk rfl rfl) ?_ | refine Wo.val rfl (.fad rfl) ?_ | refine Wo.val rfl (.ld rfl (AH.rd_at (by assumption) (by exact rfl))) ?_)
    refine Wo.call rfl rfl (rt75 s Hc) ?_
    rintro _ H1 ⟨e1, b, r, f, hb, rfl⟩
    subst e1
    repeat' (first | refine Wc.seq ?_ | refine Wc.reg ?_ | refine Fin.seq ?_ | refine Wo.nil ?_ | refine Wo.val rfl (.mv rfl) ?_ | refine Wo.val rfl (.chk rfl rfl) ?_ | refine Wo.val rfl (.fad rfl) ?_ | refine Wo.val rfl (.ext rfl rfl) ?_)
    refine Wo.st1 (c' := [.str r, .int .i64 (n0 + 1), .int .i64 e]) rfl rfl hR rfl rfl rfl rfl rfl (fun H2 hn2 hX2 hs2 => ?_)
    repeat' (first | refine Wo.val rfl (.chk rfl rfl) ?_ | refine Wo.val rfl (.fad rfl) ?_)
    refine Wo.st1 (c' := [.str r, .int .i64 (n0 + 1), .int .i64 f]) rfl rfl hX2 rfl rfl rfl rfl rfl (fun H3 hn3' hX3 hs3 => ?_)
    have hN3 : NdAt H3 X k 0 [] .nilp .nilp .nilp := by unfold NdAt; rw [hs3 X (by omega), hs2 X (by omega)]; exact hN'
    repeat' (first | refine Wo.val rfl (.chk rfl rfl) ?_ | refine Wo.val rfl (.fad rfl) ?_)
    refine Wo.st1 (c' := [.int .i64 k, .int .i64 0, .str b, .nilp, .nilp, .nilp]) rfl rfl hN3 rfl rfl rfl rfl rfl (fun H4 hn4 hX4 hs4 => ?_)
    have hR4 : RdAt H4 R r (n0 + 1) f := by unfold RdAt; rw [hs4 R (by omega)]; exact hX3
    repeat' (first | refine Wc.reg ?_ | refine Fin.seq ?_ | refine Wo.nil ?_ | refine Wo.val rfl (.mv rfl) ?_)
    refine Wo.call rfl rfl (rt74 hR4) ?_
    rintro _ H5 ⟨⟨j, rfl⟩, s5, e5, hR5, hO5⟩
    have hN5 : NdAt H5 X k 0 b .nilp .nilp .nilp := by unfold NdAt; rw [hO5.same X (by omega)]; exact hX4
    repeat' (first | refine Wo.val rfl (.chk rfl rfl) ?_ | refine Wo.val rfl (.fad rfl) ?_)
    refine Wo.st1 (c' := [.int .i64 k, .int .i64 j, .str b, .nilp, .nilp, .nilp]) rfl rfl hN5 rfl rfl rfl rfl rfl (fun H6 hn6 hX6 hs6 => ?_)
    repeat' (first | refine Fin.block ?_ | refine Wo.nil ?_)
    have hnx : H6.next = H1.next := by rw [hn6, hO5.next, hn4, hn3', hn2]
    refine Fin.cut (l' := [(0, .ptr R 0), (3, .ptr X 0)]) ⟨s5, e5, k, j, b, rfl, ?_, hX6, hb, ⟨by rw [hnx]; exact hK.next, fun Y h1 h2 => ?_⟩, by omega⟩ ⟨rfl, rfl, trivial⟩
    · unfold RdAt; rw [hs6 R (by omega)]; exact hR5
    · rw [hs6 Y (by omega), hO5.same Y h2, hs4 Y (by omega), hs3 Y h2, hs2 Y h2]; exact hK.same Y h1 h2
  repeat' (first | refine Wc.seq ?_ | refine Wc.reg ?_ | refine Fin.seq ?_ | refine Wo.nil ?_ | refine Wo.val rfl (.mv rfl) ?_ | refine Wo.val rfl (.bin rfl rfl rfl) ?_)
  refine Wc.ifs rfl (fun k1 => ?_) (fun k1 => ?_)
  · repeat' (first | refine Wc.reg ?_ | refine Wc.skip ?_ | refine Fin.seq ?_ | refine Wc.cond_t rfl ?_ | refine Wo.val rfl (.mv rfl) ?_)
    refine Wo.call rfl rfl (rt74 hR) ?_
    rintro _ H5 ⟨⟨j, rfl⟩, s5, e5, hR5, hO5⟩
    have hN5 : NdAt H5 X k 0 [] .nilp .nilp .nilp := by unfold NdAt; rw [hO5.same X (by omega)]; exact hN'
    repeat' (first | refine Wo.val rfl (.chk rfl rfl) ?_ | refine Wo.val rfl (.fad rfl) ?_)
    refine Wo.st1 (c' := [.int .i64 k, .int .i64 j, .str [], .nilp, .nilp, .nilp]) rfl rfl hN5 rfl rfl rfl rfl rfl (fun H6 hn6 hX6 hs6 => ?_)
    repeat' (first | refine Fin.block ?_ | refine Wo.nil ?_)
    have hnx : H6.next = Hc.next := by rw [hn6, hO5.next]
    refine Fin.cut (l' := [(0, .ptr R 0), (3, .ptr X 0)]) ⟨s5, e5, k, j, [], rfl, ?_, hX6, by simp, ⟨by rw [hnx]; exact hK.next, fun Y h1 h2 => ?_⟩, by omega⟩ ⟨rfl, rfl, trivial⟩
    · unfold RdAt; rw [hs6 R (by omega)]; exact hR5
    · rw [hs6 Y (by omega), hO5.same Y h2]; exact hK.same Y h1 h2
  repeat' (first | refine Wc.reg ?_ | refine Fin.seq ?_ | refine Wo.nil ?_ | refine Wo.val rfl (.mv rfl) ?_ | refine Wo.val rfl (.bin rfl rfl rfl) ?_)
  refine Wc.ifs rfl (fun k2 => ?_) (fun k2 => ?_)
  · repeat' (first | refine Wc.reg ?_ | refine Wo.val rfl (.mv rfl) ?_)
    refine Wo.call rfl rfl (rt74 hR) ?_
    rintro _ H5 ⟨⟨j, rfl⟩, s5, e5, hR5, hO5⟩
    have hN5 : NdAt H5 X k 0 [] .nilp .nilp .nilp := by unfold NdAt; rw [hO5.same X (by omega)]; exact hN'
    repeat' (first | refine Wo.val rfl (.chk rfl rfl) ?_ | refine Wo.val rfl (.fad rfl) ?_)
    refine Wo.st1 (c' := [.int .i64 k, .int .i64 j, .str [], .nilp, .nilp, .nilp]) rfl rfl hN5 rfl rfl rfl rfl rfl (fun H6 hn6 hX6 hs6 => ?_)
    repeat' (first | refine Fin.block ?_ | refine Wo.nil ?_)
    have hnx : H6.next = Hc.next := by rw [hn6, hO5.next]
    refine Fin.cut (l' := [(0, .ptr R 0), (3, .ptr X 0)]) ⟨s5, e5, k, j, [], rfl, ?_, hX6, by simp, ⟨by rw [hnx]; exact hK.next, fun Y h1 h2 => ?_⟩, by omega⟩ ⟨rfl, rfl, trivial⟩
    · unfold RdAt; rw [hs6 R (by omega)]; exact hR5
    · rw [hs6 Y (by omega), hO5.same Y h2]; exact hK.same Y h1 h2
  · repeat' (first | refine Wc.skip ?_ | refine Fin.block ?_)
    exact Fin.cut (l' := [(0, .ptr R 0), (3, .ptr X 0)]) ⟨s, e, k, 0, [], rfl, hR, hN, by simp, hK, hXl⟩ ⟨rfl, rfl, trivial⟩
end

theorem rt48 : ∀ (m : Nat) (n0 : Int) (H : AH) (R : Nat) (s : List UInt8) (e : Int), 3001 - n0 ≤ (m : Int) → RdAt H R s n0 e → R < H.next → 0 ≤ n0 → n0 ≤ 3000 → Rt Ck 48 [.ptr R 0] H (Q48 R n0 H) := by
  intro m
  induction m with
  | zero => intro n0 H R s e hm _ _ _ h; omega
  | succ m ih =>
    intro n0 H R s e hm hR hRl h0 h3
    have hR' := hR
    unfold RdAt at hR'
    have hw : IntKind.i64.wrap (n0 + Int.ofNat 1) = n0 + 1 := wrap_i64 (by simp; omega) (by simp; omega)
    refine Rt.enter (af := c48) rfl rfl ?_
    repeat' (first | refine Wc.seq ?_ | refine Wc.reg ?_ | refine Fin.seq ?_ | refine Wo.nil ?_ | refine Wo.val rfl (.mv rfl) ?_ | refine Wo.val rfl (.chk rfl rfl) ?_ | refine Wo.val rfl (.bin rfl rfl rfl) ?_ | refine Wo.val rfl (.fad rfl) ?_ | refine Wo.val rfl (.ld rfl (AH.rd_at (by assumption) (by exact rfl))) ?_)
    rw [hw]
    refine Wo.st1 (c' := [.str s, .int .i64 (n0 + 1), .int .i64 e]) rfl rfl hR' rfl rfl rfl rfl rfl (fun H1 hn1 hX1 hs1 => ?_)
    clear hR'
    repeat' (first | refine Wc.seq ?_ | refine Wc.reg ?_ | refine Fin.seq ?_ | refine Wo.nil ?_ | refine Wo.val rfl (.mv rfl) ?_ | refine Wo.val rfl (.chk rfl rfl) ?_ | refine Wo.val rfl (.bin rfl rfl rfl) ?_ | refine Wo.val rfl (.fad rfl) ?_ | refine Wo.val rfl (.ld rfl (AH.rd_at (by assumption) (by exact rfl))) ?_)
    refine Wc.ifs rfl (fun h1 => ?_) (fun h1 => ?_)
    · repeat' (first | refine Wc.seq ?_ | refine Wc.reg ?_ | refine Wo.val rfl (.mv rfl) ?_ | refine Wo.val rfl (.chk rfl rfl) ?_ | refine Wo.val rfl (.fad rfl) ?_)
      refine Wo.st1 (c' := [.str s, .int .i64 (n0 + 1), .int .i64 (.ofNat 13)]) rfl rfl hX1 rfl rfl rfl rfl rfl (fun H2 hn2 hX2 hs2 => ?_)
      repeat' (first | refine Wc.seq ?_ | refine Wc.reg ?_ | refine Wc.ret ?_ | refine Fin.seq ?_ | refine Fin.seq_ret ?_ | refine Wo.nil ?_ | refine Wo.val rfl (.mv rfl) ?_)
      refine Fin.kret rfl ⟨.inl rfl, ⟨by omega, fun Y h1 h2 => by rw [hs2 Y h2, hs1 Y h2]⟩, s, n0 + 1, 13, hX2, fun h => absurd h (by omega)⟩
    · have hn3 : n0 + 1 ≤ 3000 := by simpa using h1
      repeat' (first | refine Wc.seq ?_ | refine Wc.reg ?_ | refine Wc.skip ?_ | refine Fin.seq ?_ | refine Wo.val rfl (.mv rfl) ?_)
      refine Wo.call rfl rfl (rt74 (s := s) (n := n0 + 1) (e := e) hX1) ?_
      rintro _ H2 ⟨⟨k, rfl⟩, s2, e2, hR2, hO2⟩
      repeat' refine Wo.val rfl (.build rfl rfl) ?_
      refine Wo.boxn (c := [.int .i64 k, .int .i64 0, .str [], .nilp, .nilp, .nilp]) rfl rfl rfl (fun H3 hn3' hX3 hs3 => ?_)
      have hR3 : RdAt H3 R s2 (n0 + 1) e2 := by unfold RdAt; rw [hs3 R (by rw [hO2.next, hn1]; omega)]; exact hR2
      have hR3' := hR3
      unfold RdAt at hR3'
      have hnx : H2.next = H.next := by rw [hO2.next, hn1]
      have hK3 : Kept R H H3 := ⟨by omega, fun Y h1 h2 => by rw [hs3 Y (by omega), hO2.same Y h2, hs1 Y h2]⟩
      repeat' (first | refine Wc.seq ?_ | refine Wc.reg ?_ | refine Fin.seq ?_ | refine Wo.nil ?_ | refine Wo.val rfl (.mv rfl) ?_ | refine Wo.val rfl (.chk rfl rfl) ?_ | refine Wo.val rfl (.bin rfl rfl rfl) ?_ | refine Wo.val rfl (.fad rfl) ?_ | refine Wo.val rfl (.ld rfl (AH.rd_at (by assumption) (by exact rfl))) ?_)
      refine Wc.ifs rfl (fun h2 => ?_) (fun h2 => ?_)
      · repeat' (first | refine Wc.seq ?_ | refine Wc.reg ?_ | refine Wc.ret ?_ | refine Fin.seq ?_ | refine Fin.seq_ret ?_ | refine Wo.nil ?_ | refine Wo.val rfl (.mv rfl) ?_)
        have he : e2 ≠ 0 := by simpa using h2
        exact Fin.kret rfl ⟨.inl rfl, hK3, s2, n0 + 1, e2, hR3, fun h => absurd h he⟩
      · refine Wc.skip (Fin.seq ?_)
        refine Wc.weak (from4 (X := H2.next) hnx (by omega) hn3 (fun H' s' n' e' a1 a2 a3 a4 => ih n' H' R s' e' (by omega) a1 a2 (by omega) a4) hR3 hX3 hK3 (by omega)) ?_
        exact ⟨rfl, rfl, trivial⟩
end Go.Vd.L
namespace Go.Vd.L
open Go.Vd

/-- The heap has grown; the elder blocks are as they were. -/
structure Grow (H H' : AH) : Prop where
  next : H.next ≤ H'.next
  same : ∀ Y, Y < H.next → H'.get Y = H.get Y
theorem Grow.refl (H : AH) : Grow H H := ⟨Nat.le_refl _, fun _ _ => rfl⟩
theorem Grow.trans {H H1 H2 : AH} (h : Grow H H1) (g : Grow H1 H2) : Grow H H2 := ⟨Nat.le_trans h.next g.next, fun Y hY => by rw [g.same Y (Nat.lt_of_lt_of_le hY h.next), h.same Y hY]⟩
theorem Ext.grow {k : Nat} {H H' : AH} (h : Ext k H H') : Grow H H' := ⟨h.lo, h.same⟩
theorem TreeAt.grow {lo : Nat} {H H' : AH} (h : Grow H H') {t : Tm} {X : Nat} (ht : TreeAt lo H t X) : TreeAt lo H' t X := ht.keep h.next fun Y _ h2 => h.same Y h2

theorem rt24 (s : List UInt8) (H : AH) : Rt Ck 24 [.str s] H fun v H' => ∃ v0 r e, v = .tup [v0, .str r, .int .i64 e] ∧ Grow H H' ∧ (e = 0 → ∃ t X, v0 = .ptr X 0 ∧ TreeAt H.next H' t X ∧ t.wf ∧ t.size ≤ 3000) := by
  refine Rt.enter (af := c24) rfl rfl ?_
  repeat' (first | refine Wc.seq ?_ | refine Wc.reg ?_ | refine Fin.seq ?_ | refine Wo.nil ?_ | refine Wo.val rfl (.mv rfl) ?_ | refine Wo.val rfl (.build rfl rfl) ?_)
  refine Wo.boxn (c := [.str s, .int .i64 0, .int .i64 0]) rfl rfl rfl (fun H1 hn1 hX1 hs1 => ?_)
  repeat' (first | refine Wc.seq ?_ | refine Wc.reg ?_ | refine Fin.seq ?_ | refine Wo.nil ?_ | refine Wo.val rfl (.mv rfl) ?_)
  refine Wo.call rfl rfl (rt48 3001 0 H1 H.next s 0 (by omega) hX1 (by omega) (by omega) (by omega)) ?_
  rintro v H2 ⟨hv, hK, s', n', e', hR, hg⟩
  have hR' := hR
  unfold RdAt at hR'
  have hG : Grow H H2 := ⟨by have := hK.next; omega, fun Y hY => by rw [hK.same Y (by omega) (by omega), hs1 Y (by omega)]⟩
  repeat' (first | refine Wc.seq ?_ | refine Wc.reg ?_ | refine Fin.seq ?_ | refine Wo.nil ?_ | refine Wo.val rfl (.mv rfl) ?_ | refine Wo.val rfl (.chk rfl rfl) ?_ | refine Wo.val rfl (.bin rfl rfl rfl) ?_ | refine Wo.val rfl (.fad rfl) ?_ | refine Wo.val rfl (.ld rfl (AH.rd_at (by assumption) (by exact rfl))) ?_)
  refine Wc.ifs rfl (fun h1 => ?_) (fun h1 => ?_)
  · have he : e' ≠ 0 := by simpa using h1
    repeat' refine Wc.seq ?_
    refine Wc.regd (Wd.last ?_)
    repeat' (first | refine Lx.val rfl (.mv rfl) ?_ | refine Lx.val rfl (.chk rfl rfl) ?_ | refine Lx.val rfl (.fad rfl) ?_ | refine Lx.val rfl (.ld rfl (AH.rd_at (by assumption) (by exact rfl))) ?_)
    refine Lx.nil ⟨AgA.cons ?_ AgA.nil, HvA.nil, ?_⟩
    · repeat' (first | exact Ag.nil | refine Ag.val rfl (.mv rfl) (by first | exact rfl | exact trivial) ?_ | refine Ag.val rfl (.chk rfl rfl) (by first | exact rfl | exact trivial) ?_ | refine Ag.val rfl (.fad rfl) (by first | exact rfl | exact trivial) ?_ | refine Ag.val rfl (.ld rfl (AH.rd_at (by assumption) (by exact rfl))) (by first | exact rfl | exact trivial) ?_)
    repeat' (first | refine Wc.ret ?_ | refine Fin.seq ?_ | refine Fin.seq_ret ?_)
    exact Fin.kret rfl ⟨_, _, _, rfl, hG, fun h => absurd h he⟩
  · have he : e' = 0 := by simpa using h1
    obtain ⟨t, X, rfl, ht, hw, hn, h3⟩ := hg he
    repeat' (first | refine Wc.seq ?_ | refine Wc.skip ?_ | refine Fin.seq ?_)
    refine Wc.regd (Wd.last ?_)
    repeat' (first | refine Lx.val rfl (.mv rfl) ?_ | refine Lx.val rfl (.chk rfl rfl) ?_ | refine Lx.val rfl (.fad rfl) ?_ | refine Lx.val rfl (.ld rfl (AH.rd_at (by assumption) (by exact rfl))) ?_)
    refine Lx.nil ⟨AgA.cons ?_ AgA.nil, HvA.nil, ?_⟩
    · repeat' (first | exact Ag.nil | refine Ag.val rfl (.mv rfl) (by first | exact rfl | exact trivial) ?_ | refine Ag.val rfl (.chk rfl rfl) (by first | exact rfl | exact trivial) ?_ | refine Ag.val rfl (.fad rfl) (by first | exact rfl | exact trivial) ?_ | refine Ag.val rfl (.ld rfl (AH.rd_at (by assumption) (by exact rfl))) (by first | exact rfl | exact trivial) ?_)
    repeat' (first | refine Wc.ret ?_ | refine Fin.seq ?_)
    exact Fin.kret rfl ⟨_, _, _, rfl, hG, fun _ => ⟨t, X, rfl, ht.low (by omega), hw, by omega⟩⟩

theorem rt9 (s : List UInt8) (H : AH) : Rt Ck 9 [.str s] H fun v H' => Grow H H' ∧ (v = .nilp ∨ ∃ t X, v = .ptr X 0 ∧ TreeAt H.next H' t X ∧ t.wf ∧ t.size ≤ 3000) := by
  refine Rt.enter (af := c9) rfl rfl ?_
  repeat' (first | refine Wc.seq ?_ | refine Wc.reg ?_ | refine Fin.seq ?_ | refine Wo.nil ?_ | refine Wo.val rfl (.mv rfl) ?_)
  refine Wo.call rfl rfl (rt24 s H) ?_
  rintro _ H1 ⟨v0, r, e, rfl, hG, ht⟩
  repeat' (first | refine Wc.seq ?_ | refine Wc.reg ?_ | refine Fin.seq ?_ | refine Wo.nil ?_ | refine Wo.val rfl (.mv rfl) ?_ | refine Wo.val rfl (.bin rfl rfl rfl) ?_ | refine Wo.val rfl (.ext rfl rfl) ?_)
  refine Wo.branch rfl (fun h1 => ?_) (fun h1 => ?_)
  · repeat' (first | refine Wc.seq ?_ | refine Wc.reg ?_ | refine Wc.ret ?_ | refine Fin.seq ?_ | refine Fin.seq_ret ?_ | refine Wo.nil ?_ | refine Wc.cond_t rfl ?_ | refine Wo.skip rfl ?_ | refine Wo.val rfl (.mv rfl) ?_ | refine Wo.val rfl (.pick_t rfl rfl) ?_)
    exact Fin.kret rfl ⟨hG, .inl rfl⟩
  · have he : e = 0 := by simpa using h1
    repeat' (first | refine Fin.seq ?_ | refine Wo.nil ?_ | refine Wo.val rfl (.mv rfl) ?_ | refine Wo.val rfl (.pick_f rfl rfl) ?_ | refine Wo.val rfl (.bin rfl rfl rfl) ?_)
    refine Wc.ifs rfl (fun h2 => ?_) (fun h2 => ?_)
    · repeat' (first | refine Wc.seq ?_ | refine Wc.reg ?_ | refine Wc.ret ?_ | refine Fin.seq ?_ | refine Fin.seq_ret ?_ | refine Wo.nil ?_ | refine Wo.val rfl (.mv rfl) ?_)
      exact Fin.kret rfl ⟨hG, .inl rfl⟩
    · repeat' (first | refine Wc.seq ?_ | refine Wc.reg ?_ | refine Wc.skip ?_ | refine Wc.ret ?_ | refine Fin.seq ?_ | refine Wo.nil ?_ | refine Wo.val rfl (.mv rfl) ?_)
      exact Fin.kret rfl ⟨hG, .inr (ht he)⟩
end Go.Vd.L
