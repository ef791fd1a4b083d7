/- The Builder: its state, WriteString, String. -/
import Derived.Test.YtabgoidablkmjaaGreatDoorYdC7
set_option linter.unusedVariables false
set_option linter.unusedSimpArgs false
namespace Go.Vd
section
variable {C : Ctx} {l : TL} {H : AH}
theorem Ao.p2u {x : Opd} {X o e fl : Nat} {c : List AV} (h : evL l x = some (.ptr X o)) (h1 : H.get X = some (.cells c e fl)) (h2 : Nat.blt o c.length = true) : Ao C l H (.conv .p2u x) (.ptr X o) H := by
  unfold Ao
  intro tm t
  simp only [aop, t.ev h, h1, h2, if_true]
theorem Ao.u2p {t : Nat} {x : Opd} {X o e : Nat} {c : List AV} (h : evL l x = some (.ptr X o)) (h1 : H.get X = some (.cells c e 0)) (h2 : C.lies e c.length o t = true) : Ao C l H (.conv (.u2p t) x) (.ptr X o) H := by
  unfold Ao
  intro tm q
  simp only [aop, q.ev h, h1, h2, Nat.beq_refl, Bool.and_self, if_true]
end
end Go.Vd

namespace Go.Vd.L
open Go.Vd

/-- The Builder at P, its bytes in K (if there are any). -/
def BufSt (H : AH) (P K : Nat) (s : List UInt8) : Prop :=
  P < H.next ∧ K < H.next ∧ ∃ a b, H.get P = some (.cells [a, b] 60 0) ∧ (a = .nilp ∨ a = .ptr P 0) ∧ ((s = [] ∧ b = .nils ∧ K = P) ∨ (s ≠ [] ∧ b = .slc K 0 s.length s.length 1 false ∧ K ≠ P ∧ H.get K = some (.cells (bytesAV s) 5 1)))

/-- What was written changed the Builder, its bytes and new blocks only. -/
def Wr (P K : Nat) (H : AH) (K' : Nat) (H' : AH) : Prop := H.next ≤ H'.next ∧ (K' = K ∨ H.next ≤ K') ∧ ∀ Y, Y < H.next → Y ≠ P → Y ≠ K → H'.get Y = H.get Y

theorem Wr.refl {P K : Nat} (H : AH) : Wr P K H K H := ⟨Nat.le_refl _, .inl rfl, fun _ _ _ _ => rfl⟩
theorem Wr.trans {P K K1 K2 : Nat} {H H1 H2 : AH} (h : Wr P K H K1 H1) (g : Wr P K1 H1 K2 H2) : Wr P K H K2 H2 := by
  refine ⟨Nat.le_trans h.1 g.1, ?_, fun Y h1 h2 h3 => ?_⟩
  · rcases g.2.1 with e | e
    · rcases h.2.1 with e' | e'
      · exact .inl (e.trans e')
      · exact .inr (by omega)
    · exact .inr (Nat.le_trans h.1 e)
  · have : Y ≠ K1 := by rcases h.2.1 with e | e <;> omega
    rw [g.2.2 Y (Nat.lt_of_lt_of_le h1 h.1) h2 this, h.2.2 Y h1 h2 h3]
theorem Grow.wr {P K : Nat} {H H' : AH} (h : Grow H H') : Wr P K H K H' := ⟨h.next, .inl rfl, fun Y h1 _ _ => h.same Y h1⟩
theorem BufSt.grow {P K : Nat} {s : List UInt8} {H H' : AH} (h : BufSt H P K s) (g : Grow H H') : BufSt H' P K s := by
  obtain ⟨h1, h2, a, b, h3, h4, h5⟩ := h
  refine ⟨Nat.lt_of_lt_of_le h1 g.next, Nat.lt_of_lt_of_le h2 g.next, a, b, by rw [g.same P h1]; exact h3, h4, ?_⟩
  rcases h5 with h5 | ⟨e1, e2, e3, e4⟩
  · exact .inl h5
  · exact .inr ⟨e1, e2, e3, by rw [g.same K h2]; exact e4⟩

section
variable {H : AH} {P K : Nat}

theorem rt81 {b : AV} {a : AV} (hP : H.get P = some (.cells [a, b] 60 0)) (ha : a = .nilp ∨ a = .ptr P 0) :
    Rt Ck 81 [.ptr P 0] H fun _ H' => H'.next = H.next ∧ H'.get P = some (.cells [.ptr P 0, b] 60 0) ∧ ∀ Y, Y ≠ P → H'.get Y = H.get Y := by
  rcases ha with rfl | rfl
  · refine Rt.enter (af := c81) rfl rfl ?_
    repeat' (first | refine Wc.seq ?_ | refine Wc.reg ?_ | refine Fin.seq ?_ | refine Wo.nil ?_ | refine Wc.cond_t rfl ?_ | refine Wo.val rfl (.mv rfl) ?_ | refine Wo.val rfl (.chk rfl rfl) ?_ | refine Wo.val rfl (.bin rfl rfl rfl) ?_ | refine Wo.val rfl (.fad rfl) ?_ | refine Wo.val rfl (.ld rfl (AH.rd_at (by assumption) (by exact rfl))) ?_)
    refine Wo.val rfl (.p2u rfl hP rfl) ?_
    refine Wo.xcall rfl rfl rfl ?_
    refine Wo.val rfl (.u2p rfl hP rfl) ?_
    repeat' (first | refine Wo.val rfl (.chk rfl rfl) ?_ | refine Wo.val rfl (.fad rfl) ?_)
    refine Wo.st1 rfl rfl hP rfl rfl rfl rfl rfl (fun H1 hn1 hA1 hs1 => ?_)
    repeat' refine Wo.nil ?_
    exact Fin.kret_n rfl ⟨hn1, hA1, hs1⟩
  · have b1 : binV Ck H .neq .ptr (.ptr P 0) (.ptr P 0) = some (.bool false) := by
      simp [binV, binC, binY, binA, eqA, eqP, hP, symEq]
    refine Rt.enter (af := c81) rfl rfl ?_
    repeat' (first | refine Wc.seq ?_ | refine Wc.reg ?_ | refine Wc.skip ?_ | refine Fin.seq ?_ | refine Wo.nil ?_ | refine Wc.cond_f rfl ?_ | refine Wo.val rfl (.mv rfl) ?_ | refine Wo.val rfl (.chk rfl rfl) ?_ | refine Wo.val rfl (.ld rfl (AH.rd_at (by assumption) (by exact rfl))) ?_ | refine Wo.val rfl (.bin rfl rfl (by assumption)) ?_ | refine Wo.val rfl (.fad rfl) ?_ | refine Wo.val rfl (.bin rfl rfl rfl) ?_)
    exact Fin.kret_n rfl ⟨rfl, hP, fun _ _ => rfl⟩

theorem bytes_len (s : List UInt8) : (bytesAV s).length = s.length := by simp [bytesAV]
theorem bytes_one (s : List UInt8) : (bytesAV s).all AV.one = true := by
  simp [bytesAV, AV.one]
theorem bytes_app (s t : List UInt8) : bytesAV (s ++ t) = bytesAV s ++ bytesAV t := by simp [bytesAV]

theorem appA_nil {s : List UInt8} (h : s ≠ []) (hl : s.length ≤ 2147483648) : appA H 5 1 1 .nils (.str s) = some (.slc H.next 0 s.length s.length 1 false, H.push (.cells (bytesAV s) 5 1)) := by
  have h0 : s.length ≠ 0 := fun e => h (List.length_eq_zero_iff.1 e)
  have h1 : Nat.beq s.length 0 = false := by
    cases hs : s.length with
    | zero => exact absurd hs h0
    | succ n => rfl
  have e : contA H 1 (.str s) = some (bytesAV s) := rfl
  unfold appA
  rw [e]
  simp only [bytes_len, Nat.div_one, h1, bytes_one, Nat.ble_eq_true_of_le (show (4 * s.length + 4096) * 1 ≤ 281474976710656 by omega), Nat.ble_eq_true_of_le (show s.length ≤ 4294967296 by omega), Bool.and_self, if_true]
  rfl

theorem appA_slc {s t : List UInt8} (h : s ≠ []) (hl : t.length + s.length ≤ 2147483648) (hK : H.get K = some (.cells (bytesAV t) 5 1)) :
    appA H 5 1 1 (.slc K 0 t.length t.length 1 false) (.str s) = some (.slc H.next 0 (t ++ s).length (t ++ s).length 1 false, (H.set K .dead).push (.cells (bytesAV (t ++ s)) 5 1)) := by
  have h0 : s.length ≠ 0 := fun e => h (List.length_eq_zero_iff.1 e)
  have h1 : Nat.beq s.length 0 = false := by
    cases hs : s.length with
    | zero => exact absurd hs h0
    | succ n => rfl
  have h2 : Nat.ble (t.length + s.length) t.length = false := by
    cases hb : Nat.ble (t.length + s.length) t.length with
    | false => rfl
    | true => have := Nat.le_of_ble_eq_true hb; omega
  have e : contA H 1 (.str s) = some (bytesAV s) := rfl
  unfold appA
  rw [e]
  simp only [bytes_len, Nat.div_one, h1, h2, hK, bytes_one, Nat.beq_refl, Nat.ble_eq_true_of_le (Nat.le_refl t.length), Nat.zero_add, Nat.mul_one, Nat.ble_eq_true_of_le (show (4 * (t.length + s.length) + 4096) ≤ 281474976710656 by omega), Nat.ble_eq_true_of_le (show t.length + s.length ≤ 4294967296 by omega), Bool.and_self, if_true, List.length_append, bytes_app, List.drop_zero]
  rw [show (bytesAV t).take t.length = bytesAV t from by rw [← bytes_len t, List.take_length]]
  rfl

theorem rt53 {s t : List UInt8} (hB : BufSt H P K t) (h : s ≠ []) (hl : t.length + s.length ≤ 2147483648) :
    Rt Ck 53 [.ptr P 0, .str s] H fun _ H' => ∃ K', BufSt H' P K' (t ++ s) ∧ Wr P K H K' H' := by
  obtain ⟨hPl, hKl, a, b, hP, ha, hb⟩ := hB
  refine Rt.enter (af := c53) rfl rfl ?_
  repeat' (first | refine Wc.seq ?_ | refine Wc.reg ?_ | refine Fin.seq ?_ | refine Wo.nil ?_ | refine Wo.val rfl (.mv rfl) ?_)
  refine Wo.call rfl rfl (rt81 hP ha) ?_
  rintro _ H1 ⟨hn1, hP1, hs1⟩
  rcases hb with ⟨rfl, rfl, rfl⟩ | ⟨ht, rfl, hKP, hK⟩
  · repeat' (first | refine Wc.seq ?_ | refine Wc.reg ?_ | refine Fin.seq ?_ | refine Wo.nil ?_ | refine Wo.val rfl (.mv rfl) ?_ | refine Wo.val rfl (.chk rfl rfl) ?_ | refine Wo.val rfl (.fad rfl) ?_ | refine Wo.val rfl (.ld rfl (AH.rd_at (by assumption) (by exact rfl))) ?_)
    refine Wo.val rfl (.app rfl rfl (appA_nil h (by simpa using hl))) ?_
    have hP2 : (H1.push (.cells (bytesAV s) 5 1)).get K = some (.cells [.ptr K 0, .nils] 60 0) := by rw [AH.get_push_ne _ _ (by omega)]; exact hP1
    repeat' (first | refine Wo.val rfl (.chk rfl rfl) ?_ | refine Wo.val rfl (.fad rfl) ?_)
    refine Wo.st1 rfl rfl hP2 rfl rfl rfl rfl rfl (fun H3 hn3 hA3 hs3 => ?_)
    rw [AH.next_push] at hn3
    repeat' (first | refine Wc.seq ?_ | refine Wc.reg ?_ | refine Wc.ret ?_ | refine Fin.seq ?_ | refine Wo.nil ?_ | refine Wo.val rfl (.mv rfl) ?_ | refine Wo.val rfl (.tlen rfl) ?_)
    refine Fin.kret rfl ⟨H1.next, ⟨by omega, by omega, _, _, hA3, .inr rfl, .inr ⟨h, rfl, by omega, ?_⟩⟩, by omega, .inr (by omega), fun Y y1 y2 y3 => ?_⟩
    · rw [hs3 _ (by omega), AH.get_push_self]; rfl
    · rw [hs3 _ y2, AH.get_push_ne _ _ (by omega), hs1 _ y2]
  · have hK1 : H1.get K = some (.cells (bytesAV t) 5 1) := by rw [hs1 K hKP]; exact hK
    repeat' (first | refine Wc.seq ?_ | refine Wc.reg ?_ | refine Fin.seq ?_ | refine Wo.nil ?_ | refine Wo.val rfl (.mv rfl) ?_ | refine Wo.val rfl (.chk rfl rfl) ?_ | refine Wo.val rfl (.fad rfl) ?_ | refine Wo.val rfl (.ld rfl (AH.rd_at (by assumption) (by exact rfl))) ?_)
    refine Wo.val rfl (.app rfl rfl (appA_slc h hl hK1)) ?_
    have hP2 : ((H1.set K .dead).push (.cells (bytesAV (t ++ s)) 5 1)).get P = some (.cells [.ptr P 0, .slc K 0 t.length t.length 1 false] 60 0) := by
      rw [AH.get_push_ne _ _ (by rw [AH.next_set]; omega), AH.get_set_ne _ _ (fun e => hKP e.symm)]; exact hP1
    repeat' (first | refine Wo.val rfl (.chk rfl rfl) ?_ | refine Wo.val rfl (.fad rfl) ?_)
    refine Wo.st1 rfl rfl hP2 rfl rfl rfl rfl rfl (fun H3 hn3 hA3 hs3 => ?_)
    rw [AH.next_push, AH.next_set] at hn3
    repeat' (first | refine Wc.seq ?_ | refine Wc.reg ?_ | refine Wc.ret ?_ | refine Fin.seq ?_ | refine Wo.nil ?_ | refine Wo.val rfl (.mv rfl) ?_ | refine Wo.val rfl (.tlen rfl) ?_)
    refine Fin.kret rfl ⟨H1.next, ⟨by omega, by omega, _, _, hA3, .inr rfl, .inr ⟨by simp [ht], rfl, by omega, ?_⟩⟩, by omega, .inr (by omega), fun Y y1 y2 y3 => ?_⟩
    · rw [hs3 _ (by omega), ← AH.next_set H1 K .dead, AH.get_push_self]
    · rw [hs3 _ y2, AH.get_push_ne _ _ (by rw [AH.next_set]; omega), AH.get_set_ne _ _ y3, hs1 _ y2]

theorem rt29 {t : List UInt8} (hB : BufSt H P K t) (ht : t ≠ []) (hl : t.length ≤ 2147483648) :
    Rt Ck 29 [.ptr P 0] H fun v H' => v = .str t ∧ H'.next = H.next ∧ ∀ Y, Y ≠ K → H'.get Y = H.get Y := by
  obtain ⟨hPl, hKl, a, b, hP, ha, hb⟩ := hB
  rcases hb with ⟨e, _, _⟩ | ⟨_, rfl, hKP, hK⟩
  · exact absurd e ht
  · have h0 : t.length ≠ 0 := fun e => ht (List.length_eq_zero_iff.1 e)
    have hav : avBytes (((bytesAV t).drop 0).take ((t.length : Int)).toNat) = some t := by
      rw [List.drop_zero, Int.toNat_natCast, ← bytes_len t, List.take_length, avBytes_bytes]
    refine Rt.enter (af := c29) rfl rfl ?_
    repeat' (first | refine Wc.seq ?_ | refine Wc.reg ?_ | refine Fin.seq ?_ | refine Wo.nil ?_ | refine Wo.val rfl (.mv rfl) ?_)
    refine Wc.regd (Wd.step ?_)
    repeat' (first | refine Lx.val rfl (.mv rfl) ?_ | refine Lx.val rfl (.chk rfl rfl) ?_ | refine Lx.val rfl (.fad rfl) ?_ | refine Lx.val rfl (.len rfl) ?_ | refine Lx.val rfl (.ld rfl (AH.rd_at (by assumption) (by exact rfl))) ?_)
    refine Lx.nil (Wd.val rfl (.sdata rfl (by omega) (Nat.le_refl _)) ?_)
    refine Wd.step (Lx.nil (Wd.val rfl (.ustr rfl rfl (by omega) (by omega) hK (by simp [bytes_len]) hav) ?_))
    refine Wd.last ?_
    repeat' refine Lx.val rfl (.mv rfl) ?_
    refine Lx.nil ⟨?_, ?_, ?_⟩
    · refine AgA.cons ?_ (AgA.cons ?_ (AgA.cons ?_ AgA.nil))
      all_goals repeat' (first | exact Ag.nil | refine Ag.val rfl (.mv rfl) (by first | exact rfl | exact trivial) ?_ | refine Ag.val rfl (.chk rfl rfl) (by first | exact rfl | exact trivial) ?_ | refine Ag.val rfl (.fad rfl) (by first | exact rfl | exact trivial) ?_ | refine Ag.val rfl (.len rfl) (by first | exact rfl | exact trivial) ?_ | refine Ag.val rfl (.ld rfl (AH.rd_at (by assumption) (by exact rfl))) (by first | exact rfl | exact trivial) ?_)
    · repeat' (first | exact HvA.nil | exact Agr.nil | exact rfl | refine Agr.cons rfl rfl ?_ | refine HvA.cons ?_ ?_ ?_)
    · repeat' (first | refine Wc.ret ?_ | refine Fin.seq ?_)
      exact Fin.kret rfl ⟨rfl, AH.next_set _ _ _, fun Y hY => AH.get_set_ne _ _ hY⟩
end
end Go.Vd.L
namespace Go.Vd.L
open Go.Vd

/-- A term in brackets, where it needs them. -/
def par (k : Int) (arg : Bool) (s : List UInt8) : List UInt8 := if k = 4 ∨ k = 5 ∨ k = 7 ∨ (k = 6 ∧ arg = true) then [40, 32] ++ s ++ [32, 41] else s

theorem par_len (k : Int) (arg : Bool) (s : List UInt8) : s.length ≤ (par k arg s).length := by
  unfold par
  split <;> simp <;> omega

/-- The printer prints this text of the term at Y. -/
def Can (H0 : AH) (P Y : Nat) (d : Nat) (txt : List UInt8) : Prop :=
  ∀ (H : AH) (K : Nat) (acc : List UInt8), Grow H0 H → H0.next ≤ K → BufSt H P K acc → acc.length + txt.length ≤ 2147483648 →
    Rt Ck 28 [.ptr P 0, .ptr Y 0, .int .i64 d] H fun _ H' => ∃ K', BufSt H' P K' (acc ++ txt) ∧ Wr P K H K' H'

theorem Wr.grow {H0 H H' : AH} {P K K' : Nat} (h : Wr P K H K' H') (g : Grow H0 H) (hP : H0.next ≤ P) (hK : H0.next ≤ K) : Grow H0 H' :=
  ⟨Nat.le_trans g.next h.1, fun Y hY => by rw [h.2.2 Y (Nat.lt_of_lt_of_le hY g.next) (by omega) (by omega), g.same Y hY]⟩
theorem Wr.hi {H0 H H' : AH} {P K K' : Nat} (h : Wr P K H K' H') (g : Grow H0 H) (hK : H0.next ≤ K) : H0.next ≤ K' := by
  have := g.next
  rcases h.2.1 with e | e <;> omega

section
variable {H0 H : AH} {P K Y d : Nat} {txt acc : List UInt8}

theorem rt56 {k n : Int} {s : List UInt8} {a b c : AV} {arg : Bool} (hC : Can H0 P Y d txt) (hN : NdAt H0 Y k n s a b c) (hY : Y < H0.next) (hG : Grow H0 H) (hP : H0.next ≤ P) (hK : H0.next ≤ K) (hB : BufSt H P K acc)
    (hl : acc.length + (par k arg txt).length ≤ 2147483648) :
    Rt Ck 56 [.ptr P 0, .ptr Y 0, .int .i64 d, .bool arg] H fun _ H' => ∃ K', BufSt H' P K' (acc ++ par k arg txt) ∧ Wr P K H K' H' := by
  have hX : H.get Y = some (.cells [.int .i64 k, .int .i64 n, .str s, a, b, c] 44 0) := by
    unfold NdAt at hN; rw [hG.same Y hY]; exact hN
  have hbr : (k = 4 ∨ k = 5 ∨ k = 7 ∨ (k = 6 ∧ arg = true)) → ∀ {H : AH}, acc.length + ([40, 32] ++ txt ++ [32, 41]).length ≤ 2147483648 := fun h H => by
    have := hl
    unfold par at this
    rw [if_pos h] at this
    exact this
  by_cases hp : k = 4 ∨ k = 5 ∨ k = 7 ∨ (k = 6 ∧ arg = true)
  · have hl' : acc.length + ([40, 32] ++ txt ++ [32, 41]).length ≤ 2147483648 := hbr hp (H := H)
    have e : par k arg txt = [40, 32] ++ txt ++ [32, 41] := by unfold par; rw [if_pos hp]
    rw [e]
    simp only [List.length_append, List.length_cons, List.length_nil] at hl'
    rcases hp with rfl | rfl | rfl | ⟨rfl, rfl⟩
    all_goals
      refine Rt.enter (af := c56) rfl rfl ?_
      repeat' (first | refine Wc.seq ?_ | refine Wc.block ?_ | refine Wc.reg ?_ | refine Wc.skip ?_ | refine Wc.exit ?_ | refine Fin.seq ?_ | refine Fin.seq_exit ?_ | refine Fin.block ?_ | refine Fin.block_here ?_ | refine Fin.block_on rfl ?_ | refine Wo.nil ?_ | refine Wc.cond_t rfl ?_ | refine Wc.cond_f rfl ?_ | refine Wo.val rfl (.mv rfl) ?_ | refine Wo.val rfl (.chk rfl rfl) ?_ | refine Wo.val rfl (.bin rfl rfl rfl) ?_ | refine Wo.val rfl (.un rfl rfl) ?_ | refine Wo.val rfl (.fad rfl) ?_ | refine Wo.val rfl (.ld rfl (AH.rd_at (by assumption) (by exact rfl))) ?_)
      refine Wo.call rfl rfl (rt53 hB (by simp) (by simp; omega)) ?_
      rintro _ H1 ⟨K1, hB1, hW1⟩
      repeat' (first | refine Wc.seq ?_ | refine Wc.reg ?_ | refine Fin.seq ?_ | refine Wo.nil ?_ | refine Wo.val rfl (.mv rfl) ?_)
      refine Wo.call rfl rfl (hC H1 K1 _ (hW1.grow hG hP hK) (hW1.hi hG hK) hB1 (by simp; omega)) ?_
      rintro _ H2 ⟨K2, hB2, hW2⟩
      repeat' (first | refine Wc.reg ?_ | refine Fin.seq ?_ | refine Wo.nil ?_ | refine Wo.val rfl (.mv rfl) ?_ | refine Wo.val rfl (.chk rfl rfl) ?_ | refine Wo.val rfl (.fad rfl) ?_)
      refine Wo.call rfl rfl (rt53 hB2 (by simp) (by simp; omega)) ?_
      rintro _ H3 ⟨K3, hB3, hW3⟩
      repeat' (first | refine Wc.exit ?_ | refine Fin.seq ?_ | refine Fin.seq_exit ?_ | refine Fin.block_here ?_ | refine Fin.block_on rfl ?_ | refine Wo.nil ?_)
      refine Fin.kret_n rfl ⟨K3, ?_, (hW1.trans hW2).trans hW3⟩
      simpa using hB3
  · have e : par k arg txt = txt := by unfold par; rw [if_neg hp]
    rw [e] at hl
    rw [e]
    by_cases k6 : k = 6
    · subst k6
      have ha : arg = false := by cases arg <;> simp_all
      subst ha
      refine Rt.enter (af := c56) rfl rfl ?_
      repeat' (first | refine Wc.seq ?_ | refine Wc.block ?_ | refine Wc.reg ?_ | refine Wc.exit ?_ | refine Fin.seq ?_ | refine Fin.seq_exit ?_ | refine Fin.block_here ?_ | refine Wo.nil ?_ | refine Wc.cond_t rfl ?_ | refine Wo.val rfl (.mv rfl) ?_ | refine Wo.val rfl (.chk rfl rfl) ?_ | refine Wo.val rfl (.bin rfl rfl rfl) ?_ | refine Wo.val rfl (.un rfl rfl) ?_ | refine Wo.val rfl (.fad rfl) ?_ | refine Wo.val rfl (.ld rfl (AH.rd_at (by assumption) (by exact rfl))) ?_)
      refine Wo.call rfl rfl (hC H K _ hG hK hB (by omega)) ?_
      rintro _ H2 ⟨K2, hB2, hW2⟩
      repeat' (first | refine Wc.ret ?_ | refine Fin.seq ?_ | refine Fin.seq_ret ?_ | refine Fin.block_ret ?_ | refine Wo.nil ?_)
      exact Fin.kret rfl ⟨K2, hB2, hW2⟩
    · have b6 : binV Ck H .eql .int (.int .i64 k) (.int .i64 (Int.ofNat 6)) = some (.bool false) := binV_eqF (by simp; omega)
      have b4 : binV Ck H .eql .int (.int .i64 k) (.int .i64 (Int.ofNat 4)) = some (.bool false) := binV_eqF (by simp; omega)
      have b5 : binV Ck H .eql .int (.int .i64 k) (.int .i64 (Int.ofNat 5)) = some (.bool false) := binV_eqF (by simp; omega)
      have b7 : binV Ck H .eql .int (.int .i64 k) (.int .i64 (Int.ofNat 7)) = some (.bool false) := binV_eqF (by simp; omega)
      refine Rt.enter (af := c56) rfl rfl ?_
      repeat' (first | refine Wc.seq ?_ | refine Wc.block ?_ | refine Wc.reg ?_ | refine Wc.skip ?_ | refine Wc.exit ?_ | refine Fin.seq ?_ | refine Fin.seq_exit ?_ | refine Fin.block_here ?_ | refine Fin.block_on rfl ?_ | refine Wo.nil ?_ | refine Wc.cond_f rfl ?_ | refine Wo.val rfl (.mv rfl) ?_ | refine Wo.val rfl (.chk rfl rfl) ?_ | refine Wo.val rfl (.ld rfl (AH.rd_at (by assumption) (by exact rfl))) ?_ | refine Wo.val rfl (.bin rfl rfl (by assumption)) ?_ | refine Wo.val rfl (.fad rfl) ?_)
      refine Wo.call rfl rfl (hC H K _ hG hK hB (by omega)) ?_
      rintro _ H2 ⟨K2, hB2, hW2⟩
      repeat' (first | refine Wc.exit ?_ | refine Fin.seq ?_ | refine Fin.block_here ?_ | refine Wo.nil ?_)
      exact Fin.kret_n rfl ⟨K2, hB2, hW2⟩
end
end Go.Vd.L
namespace Go.Vd.L
open Go.Vd

/-- The boxes of a call of the printer's term. -/
def Bx (H : AH) (P K X d B3 B4 B5 : Nat) : Prop :=
  (H.get B3 = some (.cells [.ptr P 0] 54 0) ∧ H.get B4 = some (.cells [.ptr X 0] 23 0) ∧ H.get B5 = some (.cells [.int .i64 d] 3 0)) ∧
  (B3 < H.next ∧ B4 < H.next ∧ B5 < H.next) ∧ (B3 ≠ P ∧ B4 ≠ P ∧ B5 ≠ P) ∧ (B3 ≠ K ∧ B4 ≠ K ∧ B5 ≠ K)
theorem Bx.wr {H H' : AH} {P K K' X d B3 B4 B5 : Nat} (h : Bx H P K X d B3 B4 B5) (w : Wr P K H K' H') : Bx H' P K' X d B3 B4 B5 := by
  obtain ⟨⟨a1, a2, a3⟩, ⟨b1, b2, b3⟩, ⟨c1, c2, c3⟩, d1, d2, d3⟩ := h
  have hn := w.1
  refine ⟨⟨by rw [w.2.2 _ b1 c1 d1]; exact a1, by rw [w.2.2 _ b2 c2 d2]; exact a2, by rw [w.2.2 _ b3 c3 d3]; exact a3⟩, ⟨by omega, by omega, by omega⟩, ⟨c1, c2, c3⟩, ?_⟩
  rcases w.2.1 with e | e <;> refine ⟨?_, ?_, ?_⟩ <;> omega

section
variable {H0 H : AH} {P K X Y d B3 B4 B5 : Nat} {txt acc : List UInt8}

theorem PW.grow {H0 H : AH} (h : PW H0) (g : Grow H0 H) (h2 : 2 < H0.next) : PW H := by unfold PW at *; rw [g.same 2 h2]; exact h

def head (w : List UInt8) (d : Nat) : List UInt8 := w ++ [32] ++ (95 :: itoaD d) ++ [32, 58, 32]

theorem rt52 {k n : Int} {s : List UInt8} {b c : AV} {w : List UInt8} (hw : w.length ≤ 10) (hd : d < 10000) (hC : Can H0 P Y d txt) (hN : NdAt H0 X k n s (.ptr Y 0) b c) (hX : X < H0.next) (hG : Grow H0 H) (hP : H0.next ≤ P) (hK : H0.next ≤ K)
    (hB : BufSt H P K acc) (hPW : PW H0) (h2 : 2 < H0.next) (hx : Bx H P K X d B3 B4 B5) (hl : acc.length + (head w d ++ txt).length ≤ 2147483648) :
    Rt Ck 52 [.str w, .ptr B3 0, .ptr B5 0, .ptr B4 0] H fun _ H' => ∃ K', BufSt H' P K' (acc ++ (head w d ++ txt)) ∧ Wr P K H K' H' := by
  have hi := itoaD_len d
  have hlh : acc.length + (head w d).length + txt.length ≤ 2147483648 := by simp only [List.length_append] at hl ⊢; omega
  have hx' := hx
  obtain ⟨⟨x3, x4, x5⟩, _⟩ := hx'
  have c1 : binV Ck H .add .str (.str w) (.str [32]) = some (.str (w ++ [32])) := cat_s (by simp; omega) rfl
  refine Rt.enter (af := c52) rfl rfl ?_
  refine Wc.seq (Wc.regd (Wd.step ?_))
  repeat' (first | refine Lx.val rfl (.mv rfl) ?_ | refine Lx.val rfl (.chk rfl rfl) ?_ | refine Lx.val rfl (.ld rfl (AH.rd_at (by assumption) (by exact rfl))) ?_ | refine Lx.val rfl (.bin rfl rfl (by assumption)) ?_ | refine Lx.val rfl (.fad rfl) ?_)
  refine Lx.nil (Wd.call rfl rfl (rt54 hd (hPW.grow hG h2) (Nat.lt_of_lt_of_le h2 hG.next)) ?_)
  rintro _ H1 ⟨rfl, hg1⟩
  have hW1 : Wr P K H K H1 := hg1.wr
  have hx1 := hx.wr hW1
  have hB1 := hB.grow hg1
  have hx1' := hx1
  obtain ⟨⟨y3, y4, y5⟩, _⟩ := hx1'
  have d1 : binV Ck H1 .add .str (.str w) (.str [32]) = some (.str (w ++ [32])) := cat_s (by simp; omega) rfl
  have d2 : binV Ck H1 .add .str (.str (w ++ [32])) (.str (95 :: itoaD d)) = some (.str (w ++ [32] ++ (95 :: itoaD d))) := cat_s (by simp; omega) rfl
  have d3 : binV Ck H1 .add .str (.str (w ++ [32] ++ (95 :: itoaD d))) (.str [32, 58, 32]) = some (.str (head w d)) := cat_s (by simp; omega) rfl
  refine Wd.step ?_
  repeat' refine Lx.val rfl (.bin rfl rfl (by assumption)) ?_
  refine Lx.nil (Wd.call rfl rfl (rt53 hB1 (by simp [head]) (by omega)) ?_)
  rintro _ H2 ⟨K2, hB2, hW2⟩
  have hx2 := hx1.wr hW2
  have hx2' := hx2
  obtain ⟨⟨z3, z4, z5⟩, _⟩ := hx2'
  have hW12 := hW1.trans hW2
  have hG2 : Grow H0 H2 := hW12.grow hG hP hK
  have hK2 : H0.next ≤ K2 := hW12.hi hG hK
  have hN2 : H2.get X = some (.cells [.int .i64 k, .int .i64 n, .str s, .ptr Y 0, b, c] 44 0) := by unfold NdAt at hN; rw [hG2.same X hX]; exact hN
  refine Wd.last (Lx.nil ⟨?_, ?_, ?_⟩)
  · refine AgA.cons ?_ (AgA.cons ?_ (AgA.cons Ag.nil AgA.nil))
    all_goals repeat' (first | exact Ag.nil | refine Ag.val rfl (.mv rfl) (by first | exact rfl | exact trivial) ?_ | refine Ag.val rfl (.chk rfl rfl) (by first | exact rfl | exact trivial) ?_ | refine Ag.val rfl (.ld rfl (AH.rd_at (by assumption) (by exact rfl))) (by first | exact rfl | exact trivial) ?_ | refine Ag.val rfl (.bin rfl rfl (by assumption)) (by first | exact rfl | exact trivial) ?_ | refine Ag.val rfl (.fad rfl) (by first | exact rfl | exact trivial) ?_)
  · repeat' (first | exact HvA.nil | exact Agr.nil | exact rfl | refine Agr.cons rfl rfl ?_ | refine HvA.cons ?_ ?_ ?_)
  · refine Fin.seq (Wc.regd (Wd.step ?_))
    repeat' (first | refine Lx.val rfl (.chk rfl rfl) ?_ | refine Lx.val rfl (.ld rfl (AH.rd_at (by assumption) (by exact rfl))) ?_ | refine Lx.val rfl (.fad rfl) ?_)
    refine Lx.nil (Wd.call rfl rfl (hC H2 K2 _ hG2 hK2 hB2 (by simp only [List.length_append]; omega)) ?_)
    rintro _ H3 ⟨K3, hB3, hW3⟩
    refine Wd.last (Lx.nil ⟨?_, ?_, ?_⟩)
    · refine AgA.cons ?_ (AgA.cons Ag.nil AgA.nil)
      repeat' (first | exact Ag.nil | refine Ag.val rfl (.chk rfl rfl) (by first | exact rfl | exact trivial) ?_ | refine Ag.val rfl (.ld rfl (AH.rd_at (by assumption) (by exact rfl))) (by first | exact rfl | exact trivial) ?_ | refine Ag.val rfl (.fad rfl) (by first | exact rfl | exact trivial) ?_)
    · repeat' (first | exact HvA.nil | exact Agr.nil | exact rfl | refine Agr.cons rfl rfl ?_ | refine HvA.cons ?_ ?_ ?_)
    · refine Fin.kret_n rfl ⟨K3, ?_, hW12.trans hW3⟩
      rw [← List.append_assoc]
      exact hB3
end
end Go.Vd.L
