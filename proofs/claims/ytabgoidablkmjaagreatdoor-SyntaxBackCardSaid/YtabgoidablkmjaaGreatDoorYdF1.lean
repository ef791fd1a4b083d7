/- The parser: the word ahead. -/
import Derived.Test.YtabgoidablkmjaaGreatDoorYdE8
set_option linter.unusedVariables false
set_option linter.unusedSimpArgs false
namespace Go.Vd.L
open Go.Vd

/-- The parser's state at S: the words that are left lie in W from o on. -/
def PSt (H : AH) (S W o : Nat) (all : List (List UInt8)) (nv : AV) : Prop :=
  ∃ cap fl ex, H.get S = some (.cells [.slc W o (all.length - o) cap 1 ex, nv] 68 0) ∧ o ≤ all.length ∧ all.length - o ≤ cap ∧ H.get W = some (.cells (strs all) 9 fl)

theorem rt61 {H : AH} {S W o : Nat} {all : List (List UInt8)} {nv : AV} {w : List UInt8} (h : PSt H S W o all nv) (hw : all[o]? = some w) : Rt Ck 61 [.ptr S 0] H fun v H' => v = .str w ∧ H' = H := by
  obtain ⟨cap, fl, ex, hS, ho, hcap, hW⟩ := h
  have hl : o < all.length := by
    rcases Nat.lt_or_ge o all.length with g | g
    · exact g
    · rw [List.getElem?_eq_none g] at hw; cases hw
  have b1 : binV Ck H .eql .int (.int .i64 (all.length - o : Nat)) (.int .i64 (Int.ofNat 0)) = some (.bool false) := binV_eqF (by simp; omega)
  have hr : H.rd W (o + (Int.ofNat 0).toNat * 1) = some (.str w) := AH.rd_at hW (by
    show (strs all)[o + 0 * 1]? = _
    simp [strs, hw])
  refine Rt.enter (af := c61) rfl rfl ?_
  repeat' (first | refine Wc.seq ?_ | refine Wc.reg ?_ | refine Wc.skip ?_ | refine Fin.seq ?_ | refine Wo.nil ?_ | refine Wc.cond_f rfl ?_ | refine Wo.val rfl (.mv rfl) ?_ | refine Wo.val rfl (.chk rfl rfl) ?_ | refine Wo.val rfl (.ld rfl (AH.rd_at (by assumption) (by exact rfl))) ?_ | refine Wo.val rfl (.bin rfl rfl (by assumption)) ?_ | refine Wo.val rfl (.fad rfl) ?_ | refine Wo.val rfl (.len rfl) ?_)
  refine Wo.val rfl (.ixs rfl rfl hcap (by decide) (by simp; omega)) ?_
  refine Wo.val rfl (.ld rfl hr) ?_
  repeat' (first | refine Wc.ret ?_ | refine Fin.seq ?_ | refine Wo.nil ?_ | refine Wo.val rfl (.mv rfl) ?_)
  exact Fin.kret rfl ⟨rfl, rfl⟩

theorem rt62 {H : AH} {S W o : Nat} {all : List (List UInt8)} {nv : AV} {w : List UInt8} (h : PSt H S W o all nv) (hSW : S ≠ W) (hw : all[o]? = some w) (ha : all.length ≤ 2000) :
    Rt Ck 62 [.ptr S 0] H fun v H' => v = .str w ∧ PSt H' S W (o + 1) all nv ∧ H'.next = H.next ∧ ∀ Y, Y ≠ S → H'.get Y = H.get Y := by
  have h' := h
  obtain ⟨cap, fl, ex, hS, ho, hcap, hW⟩ := h'
  have hl : o < all.length := by
    rcases Nat.lt_or_ge o all.length with g | g
    · exact g
    · rw [List.getElem?_eq_none g] at hw; cases hw
  have hm : mmA false .i64 (Int.ofNat 1) [.int .i64 (all.length - o : Nat)] = some (.int .i64 ((1 : Nat) : Int)) := by
    simp only [mmA]
    have : ¬ ((all.length - o : Nat) : Int) < 1 := by omega
    simp [this]
  have hbn : bnds (all.length - o) cap (some (.int .i64 ((1 : Nat) : Int))) none none = some (1, all.length - o, cap) := bnds_lo (by omega)
  refine Rt.enter (af := c62) rfl rfl ?_
  repeat' (first | refine Wc.seq ?_ | refine Wc.reg ?_ | refine Fin.seq ?_ | refine Wo.nil ?_ | refine Wo.val rfl (.mv rfl) ?_)
  refine Wo.call rfl rfl (rt61 h hw) ?_
  rintro _ H1 ⟨rfl, e⟩
  rw [e]
  repeat' (first | refine Wc.seq ?_ | refine Fin.seq ?_ | refine Wo.nil ?_ | refine Wo.val rfl (.mv rfl) ?_)
  refine Wc.regd (Wd.step ?_)
  repeat' (first | refine Lx.val rfl (.mv rfl) ?_ | refine Lx.val rfl (.chk rfl rfl) ?_ | refine Lx.val rfl (.ld rfl (AH.rd_at (by assumption) (by exact rfl))) ?_ | refine Lx.val rfl (.fad rfl) ?_ | refine Lx.val rfl (.len rfl) ?_)
  refine Lx.val rfl (.mm rfl rfl hm) ?_
  refine Lx.val rfl (.slv rfl hcap rfl rfl rfl hbn) ?_
  repeat' (first | refine Lx.val rfl (.chk rfl rfl) ?_ | refine Lx.val rfl (.fad rfl) ?_)
  refine Lx.nil (Wd.st1 rfl rfl hS rfl rfl rfl rfl rfl (fun H2 hn2 hA2 hs2 => ?_))
  refine Wd.last (Lx.nil ⟨?_, ?_, ?_⟩)
  · refine AgA.cons ?_ (AgA.cons Ag.nil AgA.nil)
    repeat' (first | refine Ag.val rfl (.mv rfl) (by first | exact rfl | exact trivial) ?_ | refine Ag.val rfl (.chk rfl rfl) (by first | exact rfl | exact trivial) ?_ | refine Ag.val rfl (.ld rfl (AH.rd_at (by assumption) (by exact rfl))) (by first | exact rfl | exact trivial) ?_ | refine Ag.val rfl (.fad rfl) (by first | exact rfl | exact trivial) ?_ | refine Ag.val rfl (.len rfl) (by first | exact rfl | exact trivial) ?_)
    refine Ag.val rfl (.mm rfl rfl hm) rfl ?_
    refine Ag.val rfl (.slv rfl hcap rfl rfl rfl hbn) rfl ?_
    repeat' (first | exact Ag.nil | refine Ag.val rfl (.chk rfl rfl) (by first | exact rfl | exact trivial) ?_ | refine Ag.val rfl (.fad rfl) (by first | exact rfl | exact trivial) ?_)
  · repeat' (first | exact HvA.nil | exact Agr.nil | exact trivial | refine Agr.cons rfl rfl ?_ | refine HvA.cons ?_ ?_ ?_)
  · repeat' (first | refine Wc.seq ?_ | refine Wc.reg ?_ | refine Wc.ret ?_ | refine Fin.seq ?_ | refine Wo.nil ?_ | refine Wo.val rfl (.mv rfl) ?_)
    refine Fin.kret rfl ⟨rfl, ⟨cap - 1, fl, ex || (none : Option AV).isSome, ?_, by omega, by omega, by rw [hs2 W (fun e => hSW e.symm)]; exact hW⟩, hn2, hs2⟩
    rw [hA2, show all.length - (o + 1) = all.length - o - 1 by omega]
    rfl
end Go.Vd.L
namespace Go.Vd.L
open Go.Vd

theorem rt64 {H : AH} {S W o : Nat} {all : List (List UInt8)} {nv : AV} {w : List UInt8} (h : PSt H S W o all nv) (hSW : S ≠ W) (hw : all[o]? = some w) (ha : all.length ≤ 2000) :
    Rt Ck 64 [.ptr S 0, .str w] H fun _ H' => PSt H' S W (o + 1) all nv ∧ H'.next = H.next ∧ ∀ Y, Y ≠ S → H'.get Y = H.get Y := by
  have h' := h
  obtain ⟨cap, fl, ex, hS, ho, hcap, hW⟩ := h'
  have hl : o < all.length := by
    rcases Nat.lt_or_ge o all.length with g | g
    · exact g
    · rw [List.getElem?_eq_none g] at hw; cases hw
  have b1 : binV Ck H .neq .str (.str w) (.str w) = some (.bool false) := by
    rw [binV_s]
    simp [strOp, strEq_refl]
  have b2 : binV Ck H .eql .int (.int .i64 (all.length - o : Nat)) (.int .i64 (Int.ofNat 0)) = some (.bool false) := binV_eqF (by simp; omega)
  refine Rt.enter (af := c64) rfl rfl ?_
  repeat' (first | refine Wc.seq ?_ | refine Wc.reg ?_ | refine Wo.val rfl (.mv rfl) ?_)
  refine Wo.call rfl rfl (rt61 h hw) ?_
  rintro _ H1 ⟨rfl, e⟩
  rw [e]
  repeat' (first | refine Wc.reg ?_ | refine Wc.skip ?_ | refine Fin.seq ?_ | refine Wo.nil ?_ | refine Wc.cond_f rfl ?_ | refine Wo.val rfl (.mv rfl) ?_ | refine Wo.val rfl (.pick_f rfl rfl) ?_ | refine Wo.val rfl (.chk rfl rfl) ?_ | refine Wo.val rfl (.ld rfl (AH.rd_at (by assumption) (by exact rfl))) ?_ | refine Wo.val rfl (.bin rfl rfl (by assumption)) ?_ | refine Wo.val rfl (.fad rfl) ?_ | refine Wo.val rfl (.len rfl) ?_)
  refine Wo.call rfl rfl (rt62 h hSW hw ha) ?_
  rintro _ H2 ⟨rfl, hP, hn, hs⟩
  repeat' refine Wo.nil ?_
  exact Fin.kret_n rfl ⟨hP, hn, hs⟩
end Go.Vd.L
namespace Go.Vd.L
open Go.Vd

theorem rt61e {H : AH} {S W o : Nat} {all : List (List UInt8)} {nv : AV} (h : PSt H S W o all nv) (hw : all.length ≤ o) : Rt Ck 61 [.ptr S 0] H fun v H' => v = .str [] ∧ H' = H := by
  obtain ⟨cap, fl, ex, hS, ho, hcap, hW⟩ := h
  have b1 : binV Ck H .eql .int (.int .i64 (all.length - o : Nat)) (.int .i64 (Int.ofNat 0)) = some (.bool true) := binV_eqT (by simp; omega)
  refine Rt.enter (af := c61) rfl rfl ?_
  repeat' (first | refine Wc.seq ?_ | refine Wc.reg ?_ | refine Wc.ret ?_ | refine Fin.seq ?_ | refine Fin.seq_ret ?_ | refine Wo.nil ?_ | refine Wc.cond_t rfl ?_ | refine Wo.val rfl (.mv rfl) ?_ | refine Wo.val rfl (.chk rfl rfl) ?_ | refine Wo.val rfl (.ld rfl (AH.rd_at (by assumption) (by exact rfl))) ?_ | refine Wo.val rfl (.bin rfl rfl (by assumption)) ?_ | refine Wo.val rfl (.fad rfl) ?_ | refine Wo.val rfl (.len rfl) ?_)
  exact Fin.kret rfl ⟨rfl, rfl⟩

/-- The block of a slice. -/
def vblk : AV → Option Nat
  | .slc X _ _ _ _ _ => some X
  | _ => none

/-- The names that are bound. -/
def NS (H : AH) (nv : AV) (names : List (List UInt8)) : Prop :=
  (names = [] ∧ nv = .nils) ∨ ∃ V cap junk, nv = .slc V 0 names.length cap 1 false ∧ H.get V = some (.cells (strs (names ++ junk)) 9 1) ∧ V < H.next ∧ (names ++ junk).length = cap

theorem NS.one {H : AH} {nv : AV} {names : List (List UInt8)} (h : NS H nv names) : nv.cells = [nv] ∧ nv.one = true := by
  rcases h with ⟨_, rfl⟩ | ⟨V, cap, junk, rfl, _⟩ <;> exact ⟨rfl, rfl⟩
theorem NS.at {H : AH} {nv : AV} {names : List (List UInt8)} (h : NS H nv names) {Y : Nat} (hY : vblk nv = some Y) : ∃ l, H.get Y = some (.cells l 9 1) ∧ Y < H.next := by
  rcases h with ⟨_, rfl⟩ | ⟨V, cap, junk, rfl, h1, h2, _⟩
  · cases hY
  · simp only [vblk, Option.some.injEq] at hY
    subst hY
    exact ⟨_, h1, h2⟩
theorem NS.keep {H H' : AH} {nv : AV} {names : List (List UInt8)} (h : NS H nv names) (hn : H.next ≤ H'.next) (hs : ∀ Y, vblk nv = some Y → H'.get Y = H.get Y) : NS H' nv names := by
  rcases h with h | ⟨V, cap, junk, rfl, h1, h2, h3⟩
  · exact .inl h
  · exact .inr ⟨V, cap, junk, rfl, by rw [hs V rfl]; exact h1, by omega, h3⟩
theorem NS.drop {H : AH} {V n cap : Nat} {names : List (List UInt8)} {w : List UInt8} (h : NS H (.slc V 0 n cap 1 false) (names ++ [w])) : NS H (.slc V 0 names.length cap 1 false) names := by
  rcases h with ⟨h, _⟩ | ⟨V', cap', junk, e, h1, h2, h3⟩
  · simp at h
  · injection e with e1 e2 e3 e4
    subst e1; subst e4
    exact .inr ⟨V, cap, w :: junk, rfl, by rw [h1]; simp, h2, by rw [← h3]; simp⟩
theorem NS.last {H : AH} {nv : AV} {names : List (List UInt8)} {w : List UInt8} (h : NS H nv (names ++ [w])) : ∃ V cap, nv = .slc V 0 (names ++ [w]).length cap 1 false ∧ (names ++ [w]).length ≤ cap := by
  rcases h with ⟨h, _⟩ | ⟨V, cap, junk, e, h1, h2, h3⟩
  · simp at h
  · exact ⟨V, cap, e, by rw [← h3]; simp only [List.length_append]; omega⟩

/-- What has been left as it was. -/
structure Fr (S : Nat) (nv nv' : AV) (H H' : AH) : Prop where
  next : H.next ≤ H'.next
  same : ∀ Y, Y < H.next → Y ≠ S → vblk nv ≠ some Y → H'.get Y = H.get Y
  vb : ∀ Y, vblk nv' = some Y → vblk nv = some Y ∨ H.next ≤ Y
theorem Fr.refl (S : Nat) (nv : AV) (H : AH) : Fr S nv nv H H := ⟨Nat.le_refl _, fun _ _ _ _ => rfl, fun _ h => .inl h⟩
theorem Fr.trans {S : Nat} {a b c : AV} {H H1 H2 : AH} (h : Fr S a b H H1) (g : Fr S b c H1 H2) : Fr S a c H H2 where
  next := Nat.le_trans h.next g.next
  same := fun Y h1 h2 h3 => by
    rw [g.same Y (Nat.lt_of_lt_of_le h1 h.next) h2 (fun e => ?_), h.same Y h1 h2 h3]
    rcases h.vb Y e with e | e
    · exact h3 e
    · omega
  vb := fun Y e => by
    rcases g.vb Y e with e | e
    · exact h.vb Y e
    · exact .inr (Nat.le_trans h.next e)
theorem Grow.fr {S : Nat} {nv : AV} {H H' : AH} (h : Grow H H') : Fr S nv nv H H' := ⟨h.next, fun Y hY _ _ => h.same Y hY, fun _ h => .inl h⟩

/-- The parser between two steps. -/
def PS (N : Nat) (H : AH) (S W o : Nat) (all names : List (List UInt8)) (nv : AV) : Prop :=
  PSt H S W o all nv ∧ NS H nv names ∧ (∀ V, vblk nv = some V → N ≤ V) ∧ W < N ∧ N ≤ S ∧ S < H.next

theorem PSt.at {H : AH} {S W o : Nat} {all : List (List UInt8)} {nv : AV} (h : PSt H S W o all nv) : ∃ l, H.get S = some (.cells l 68 0) := by
  obtain ⟨cap, fl, ex, hS, _⟩ := h
  exact ⟨_, hS⟩
theorem PS.apart {N : Nat} {H : AH} {S W o : Nat} {all names : List (List UInt8)} {nv : AV} (h : PS N H S W o all names nv) : vblk nv ≠ some S := fun e => by
  obtain ⟨l, h1, _⟩ := h.2.1.at e
  obtain ⟨l', h2⟩ := h.1.at
  rw [h1] at h2
  cases h2
theorem PS.grow {N : Nat} {H H' : AH} {S W o : Nat} {all names : List (List UInt8)} {nv : AV} (h : PS N H S W o all names nv) (hG : Grow H H') : PS N H' S W o all names nv := by
  obtain ⟨⟨cap, fl, ex, hS, ho, hcap, hW⟩, hN, h1, h2, h3, h4⟩ := h
  exact ⟨⟨cap, fl, ex, by rw [hG.same S h4]; exact hS, ho, hcap, by rw [hG.same W (by omega)]; exact hW⟩, hN.keep hG.next (fun Y e => hG.same Y (hN.at e).choose_spec.2), h1, h2, h3, Nat.lt_of_lt_of_le h4 hG.next⟩

/-- A node's block: no block of names, not the parser's own. -/
theorem TreeAt.keepT {lo : Nat} {H H' : AH} (hn : H.next ≤ H'.next) (hs : ∀ Y c, lo ≤ Y → Y < H.next → H.get Y = some (.cells c 44 0) → H'.get Y = H.get Y) : ∀ {t : Tm} {X : Nat}, TreeAt lo H t X → TreeAt lo H' t X
  | .nd0 k n s, X, ⟨h1, h2, h3⟩ => ⟨h1, by omega, by unfold NdAt at *; rw [hs X _ h1 h2 h3]; exact h3⟩
  | .nd2 k a b, X, ⟨h1, h2, Y, Z, h3, h4, h5⟩ => ⟨h1, by omega, Y, Z, by unfold NdAt at *; rw [hs X _ h1 h2 h3]; exact h3, h4.keepT hn hs, h5.keepT hn hs⟩
  | .nd3 a b c, X, ⟨h1, h2, Y, Z, W, h3, h4, h5, h6⟩ => ⟨h1, by omega, Y, Z, W, by unfold NdAt at *; rw [hs X _ h1 h2 h3]; exact h3, h4.keepT hn hs, h5.keepT hn hs, h6.keepT hn hs⟩
theorem TreeAt.fr {lo N : Nat} {H H' : AH} {S W o : Nat} {all names : List (List UInt8)} {nv nv' : AV} {t : Tm} {X : Nat} (h : TreeAt lo H t X) (hP : PS N H S W o all names nv) (hF : Fr S nv nv' H H') : TreeAt lo H' t X :=
  h.keepT hF.next fun Y c _ h2 h3 => hF.same Y h2 (fun e => by
    subst e
    obtain ⟨l', h4⟩ := hP.1.at
    rw [h4] at h3
    cases h3) (fun e => by
    obtain ⟨l, h1, _⟩ := hP.2.1.at e
    rw [h1] at h3
    cases h3)

theorem appN {H : AH} {nv : AV} {names : List (List UInt8)} {w : List UInt8} {A fl : Nat} {ex : Bool} (h : NS H nv names) (hd : names.length ≤ 9000) (hA : H.get A = some (.cells [.str w] 9 fl)) :
    ∃ nv' H', appA H 9 1 16 nv (.slc A 0 1 1 1 ex) = some (nv', H') ∧ NS H' nv' (names ++ [w]) ∧ H.next ≤ H'.next ∧ (∀ Y, Y < H.next → vblk nv ≠ some Y → H'.get Y = H.get Y) ∧ (∀ Y, vblk nv' = some Y → vblk nv = some Y ∨ H.next ≤ Y) := by
  have e : contA H 1 (.slc A 0 1 1 1 ex) = some [.str w] := by
    show (if Nat.beq 1 1 && Nat.ble 1 1 then H.rdn A 0 (1 * 1) else none) = _
    rw [if_pos (by rfl), AH.rdn_all (n := 1 * 1) hA rfl]
  rcases h with ⟨rfl, rfl⟩ | ⟨V, cap, junk, rfl, hV, hVl, hcap⟩
  · refine ⟨.slc H.next 0 1 1 1 false, H.push (.cells [.str w] 9 1), by unfold appA; rw [e]; simp [AV.one], .inr ⟨H.next, 1, [], rfl, AH.get_push_self _ _, by rw [AH.next_push]; omega, rfl⟩, by rw [AH.next_push]; omega, fun Y hY _ => AH.get_push_ne _ _ (by omega), fun Y hY => ?_⟩
    simp only [vblk, Option.some.injEq] at hY
    exact .inr (by omega)
  · cases junk with
    | nil =>
      rw [List.append_nil] at hV hcap
      subst hcap
      have h2 : Nat.ble (names.length + 1) names.length = false := by
        cases hb : Nat.ble (names.length + 1) names.length with
        | false => rfl
        | true => have := Nat.le_of_ble_eq_true hb; omega
      refine ⟨.slc H.next 0 (names ++ [w]).length (names ++ [w]).length 1 false, (H.set V .dead).push (.cells (strs (names ++ [w])) 9 1), ?_, .inr ⟨H.next, _, [], rfl, ?_, by rw [AH.next_push, AH.next_set]; omega, by rw [List.append_nil]⟩, by rw [AH.next_push, AH.next_set]; omega, fun Y hY hV => ?_, fun Y hY => ?_⟩
      · unfold appA
        rw [e]
        simp only [List.length_cons, List.length_nil, Nat.div_one, Nat.zero_add, h2, hV, strs_len, Nat.beq_refl, Nat.ble_eq_true_of_le (Nat.le_refl names.length), Nat.mul_one, Nat.ble_eq_true_of_le (show (4 * (names.length + 1) + 4096) * 16 ≤ 281474976710656 by omega), Nat.ble_eq_true_of_le (show names.length + 1 ≤ 4294967296 by omega), Bool.and_self, if_true, List.length_append, List.drop_zero]
        rw [show (strs names).take names.length = strs names from by rw [← strs_len names, List.take_length]]
        simp [strs, AV.one, AH.next_set]
      · rw [← AH.next_set H V .dead, AH.get_push_self, List.append_nil]
      · rw [AH.get_push_ne _ _ (by rw [AH.next_set]; omega), AH.get_set_ne _ _ (fun e => hV (by rw [e]; rfl))]
      · simp only [vblk, Option.some.injEq] at hY
        exact .inr (by omega)
    | cons j junk =>
      have hc : names.length + 1 ≤ cap := by rw [← hcap]; simp
      refine ⟨.slc V 0 (names ++ [w]).length cap 1 false, H.set V (.cells (strs (names ++ [w] ++ junk)) 9 1), ?_, .inr ⟨V, cap, junk, rfl, AH.get_set_self _ _ _, by rw [AH.next_set]; omega, by rw [← hcap]; simp⟩, by rw [AH.next_set]; omega, fun Y hY hV => AH.get_set_ne _ _ (fun e => hV (by rw [e]; rfl)), fun Y hY => .inl hY⟩
      have hw : H.wr V (0 + names.length * 1) [.str w] = some (H.set V (.cells (strs (names ++ [w] ++ junk)) 9 1)) := by
        refine AH.wr1_as hV (by omega) (by rw [strs_len]; simp) rfl ?_
        simp [strs]
      rw [Nat.zero_add, Nat.mul_one] at hw
      unfold appA
      rw [e]
      simp only [List.length_cons, List.length_nil, Nat.div_one, Nat.zero_add, Nat.beq_refl, Nat.ble_eq_true_of_le (show names.length ≤ cap by omega), Nat.ble_eq_true_of_le hc, Nat.mul_one, hw, if_true, List.length_append, Bool.not_true, Bool.or_false, Bool.false_eq_true, if_false]
      simp
end Go.Vd.L
namespace Go.Vd.L
open Go.Vd

/-- A function of the parser takes a term. -/
def Pf (f : Nat) (xs : List AV) (N S W : Nat) (all names : List (List UInt8)) (o n : Nat) (t : Tm) : Prop :=
  ∀ H nv, PS N H S W o all names nv → Rt Ck f xs H fun v H' => ∃ X nv', v = .ptr X 0 ∧ TreeAt H.next H' t X ∧ PS N H' S W (o + n) all names nv' ∧ Fr S nv nv' H H'

theorem rt65 {N S W o n : Nat} {all names : List (List UInt8)} {w : List UInt8} {t : Tm} (hl : names.length < 9000) (h : Pf 35 [.ptr S 0] N S W all (names ++ [w]) o n t) : Pf 65 [.ptr S 0, .str w] N S W all names o n t := by
  intro H nv hP
  have hap := hP.apart
  obtain ⟨⟨cap, fl, ex, hS, ho, hcap, hW⟩, hN, hV, hWN, hNS, hSl⟩ := hP
  refine Rt.enter (af := c65) rfl rfl ?_
  repeat' (first | refine Wc.seq ?_ | refine Wc.reg ?_ | refine Fin.seq ?_ | refine Wo.nil ?_ | refine Wo.val rfl (.mv rfl) ?_ | refine Wo.val rfl (.chk rfl rfl) ?_ | refine Wo.val rfl (.ld rfl (AH.rd_at (by assumption) (by exact rfl))) ?_ | refine Wo.val rfl (.fad rfl) ?_)
  refine Wo.val rfl (.bslice rfl rfl rfl) ?_
  have hNp : NS (H.push (.cells [.str w] 9 0)) nv names := hN.keep (by rw [AH.next_push]; omega) fun Y e => AH.get_push_ne _ _ (by have := (hN.at e).choose_spec.2; omega)
  obtain ⟨nv1, H1, happ, hN1, hn1, hs1, hv1⟩ := appN (w := w) (ex := true) hNp (by omega) (AH.get_push_self _ _)
  rw [AH.next_push] at hn1 hs1 hv1
  refine Wo.val rfl (.app rfl rfl happ) ?_
  have hS1 : H1.get S = some (.cells [.slc W o (all.length - o) cap 1 ex, nv] 68 0) := by rw [hs1 S (by omega) hap, AH.get_push_ne _ _ (by omega)]; exact hS
  repeat' (first | refine Wo.val rfl (.chk rfl rfl) ?_ | refine Wo.val rfl (.fad rfl) ?_)
  refine Wo.st1 (c' := [.slc W o (all.length - o) cap 1 ex, nv1]) rfl rfl hS1 rfl rfl hN1.one.1 hN1.one.2 rfl (fun H2 hn2 hX2 hs2 => ?_)
  have hVW : ∀ V, vblk nv = some V → V ≠ W := fun V e => by have := hV V e; omega
  have hSv1 : vblk nv1 ≠ some S := fun e => by
    rcases hv1 S e with e | e
    · exact hap e
    · omega
  have hP2 : PS N H2 S W o all (names ++ [w]) nv1 := by
    refine ⟨⟨cap, fl, ex, hX2, ho, hcap, ?_⟩, hN1.keep (by omega) (fun Y e => hs2 Y (fun e' => hSv1 (by rw [← e']; exact e))), fun V e => ?_, hWN, hNS, by omega⟩
    · rw [hs2 W (by omega), hs1 W (by omega) (fun e => hVW W e rfl), AH.get_push_ne _ _ (by omega)]; exact hW
    · rcases hv1 V e with e | e
      · exact hV V e
      · omega
  have hF2 : Fr S nv nv1 H H2 := ⟨by omega, fun Y h1 h2 h3 => by rw [hs2 Y h2, hs1 Y (by omega) h3, AH.get_push_ne _ _ (by omega)], fun Y e => by
    rcases hv1 Y e with e | e
    · exact .inl e
    · exact .inr (by omega)⟩
  repeat' (first | refine Wc.seq ?_ | refine Wc.reg ?_ | refine Fin.seq ?_ | refine Wo.nil ?_ | refine Wo.val rfl (.mv rfl) ?_)
  refine Wo.call rfl rfl (h H2 nv1 hP2) ?_
  rintro _ H3 ⟨X, nv3, rfl, hT, hP3, hF3⟩
  obtain ⟨V, cap3, rfl, hc3⟩ := hP3.2.1.last
  have hap3 := hP3.apart
  obtain ⟨⟨cap4, fl4, ex4, hS3, ho3, hcap4, hW3⟩, hN3, hV3, _, _, hSl3⟩ := hP3
  have b1 : binV Ck H3 .sub .int (.int .i64 ((names ++ [w]).length : Nat)) (.int .i64 (Int.ofNat 1)) = some (.int .i64 (names.length : Nat)) := by
    show some (AV.int .i64 (IntKind.i64.wrap (((names ++ [w]).length : Int) - Int.ofNat 1))) = _
    rw [show (((names ++ [w]).length : Nat) : Int) - Int.ofNat 1 = (names.length : Int) by simp, wrap_i64 (by omega) (by omega)]
  have hb : bnds (names ++ [w]).length cap3 none (some (.int .i64 (names.length : Nat))) none = some (0, names.length, cap3) := bnds_hi (by simp at hc3; omega)
  repeat' (first | refine Wc.seq ?_ | refine Fin.seq ?_ | refine Wo.nil ?_ | refine Wo.val rfl (.mv rfl) ?_)
  refine Wc.regd (Wd.step ?_)
  repeat' (first | refine Lx.val rfl (.mv rfl) ?_ | refine Lx.val rfl (.chk rfl rfl) ?_ | refine Lx.val rfl (.ld rfl (AH.rd_at (by assumption) (by exact rfl))) ?_ | refine Lx.val rfl (.bin rfl rfl (by assumption)) ?_ | refine Lx.val rfl (.fad rfl) ?_ | refine Lx.val rfl (.len rfl) ?_)
  refine Lx.val rfl (.slv rfl hc3 rfl rfl rfl hb) ?_
  repeat' (first | refine Lx.val rfl (.chk rfl rfl) ?_ | refine Lx.val rfl (.fad rfl) ?_)
  refine Lx.nil (Wd.st1 rfl rfl hS3 rfl rfl rfl rfl rfl (fun H4 hn4 hX4 hs4 => ?_))
  refine Wd.last (Lx.nil ⟨?_, ?_, ?_⟩)
  · refine AgA.cons ?_ (AgA.cons Ag.nil AgA.nil)
    repeat' (first | refine Ag.val rfl (.mv rfl) (by first | exact rfl | exact trivial) ?_ | refine Ag.val rfl (.chk rfl rfl) (by first | exact rfl | exact trivial) ?_ | refine Ag.val rfl (.ld rfl (AH.rd_at (by assumption) (by exact rfl))) (by first | exact rfl | exact trivial) ?_ | refine Ag.val rfl (.bin rfl rfl (by assumption)) (by first | exact rfl | exact trivial) ?_ | refine Ag.val rfl (.fad rfl) (by first | exact rfl | exact trivial) ?_ | refine Ag.val rfl (.len rfl) (by first | exact rfl | exact trivial) ?_)
    refine Ag.val rfl (.slv rfl hc3 rfl rfl rfl hb) rfl ?_
    repeat' (first | exact Ag.nil | refine Ag.val rfl (.chk rfl rfl) (by first | exact rfl | exact trivial) ?_ | refine Ag.val rfl (.fad rfl) (by first | exact rfl | exact trivial) ?_)
  · repeat' (first | exact HvA.nil | exact Agr.nil | exact trivial | refine Agr.cons rfl rfl ?_ | refine HvA.cons ?_ ?_ ?_)
  · have hVS : V ≠ S := fun e => hap3 (by rw [e]; rfl)
    have hN3' := hN3.drop
    have hN4 : NS H4 (.slc V 0 names.length cap3 1 false) names := hN3'.keep (by omega) (fun Y e => hs4 Y (by simp only [vblk, Option.some.injEq] at e; omega))
    have hF4 : Fr S (.slc V 0 (names ++ [w]).length cap3 1 false) (.slc V 0 names.length cap3 1 false) H3 H4 := ⟨by omega, fun Y _ h2 _ => hs4 Y h2, fun Y e => .inl e⟩
    have hP3 : PS N H3 S W (o + n) all (names ++ [w]) (.slc V 0 (names ++ [w]).length cap3 1 false) := ⟨⟨cap4, fl4, ex4, hS3, ho3, hcap4, hW3⟩, hN3, hV3, hWN, hNS, hSl3⟩
    have e0 : AV.slc V (0 + 0 * 1) (names.length - 0) (cap3 - 0) 1 (false || (none : Option AV).isSome) = .slc V 0 names.length cap3 1 false := by simp
    repeat' (first | refine Wc.seq ?_ | refine Wc.reg ?_ | refine Wc.ret ?_ | refine Fin.seq ?_ | refine Wo.nil ?_ | refine Wo.val rfl (.mv rfl) ?_)
    refine Fin.kret rfl ⟨X, .slc V 0 names.length cap3 1 false, rfl, (hT.fr hP3 hF4).low (by have := hF2.next; omega), ⟨⟨cap4, fl4, ex4, ?_, ho3, hcap4, ?_⟩, hN4, hV3, hWN, hNS, by omega⟩, hF2.trans (hF3.trans hF4)⟩
    · rw [hX4, ← e0]; rfl
    · rw [hs4 W (by omega)]; exact hW3
end Go.Vd.L
