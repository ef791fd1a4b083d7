/- The parser: atoms one behind the other. -/
import Derived.Test.YtabgoidablkmjaaGreatDoorYdF5
set_option linter.unusedVariables false
set_option linter.unusedSimpArgs false
namespace Go.Vd.L
open Go.Vd

/-- A head with what it is applied to. -/
def hdT : Tm → Tm
  | .nd2 k a b => if k = 6 then hdT a else .nd2 k a b
  | .nd0 k n s => .nd0 k n s
  | .nd3 a b c => .nd3 a b c
def argsT : Tm → List Tm
  | .nd2 k a b => if k = 6 then argsT a ++ [b] else []
  | .nd0 _ _ _ => []
  | .nd3 _ _ _ => []
def apT (a : Tm) (bs : List Tm) : Tm := bs.foldl (fun x b => .nd2 6 x b) a
def argK (d : Nat) (b : Tm) : List (List UInt8) := parT (kT b) true (tok b d)

theorem ap_spine : ∀ t : Tm, apT (hdT t) (argsT t) = t
  | .nd0 _ _ _ => rfl
  | .nd2 k a b => by
    simp only [hdT, argsT]
    split
    · rename_i h
      subst h
      have := ap_spine a
      unfold apT at this ⊢
      rw [List.foldl_append, this]
      rfl
    · rfl
  | .nd3 _ _ _ => rfl
theorem tok_spine : ∀ (t : Tm) (d : Nat), parT (kT t) false (tok t d) = parT (kT (hdT t)) false (tok (hdT t) d) ++ (argsT t).flatMap (argK d)
  | .nd0 _ _ _, d => by simp [hdT, argsT]
  | .nd2 k a b, d => by
    simp only [hdT, argsT]
    split
    · rename_i h
      subst h
      have := tok_spine a d
      rw [List.flatMap_append, ← List.append_assoc, ← this]
      simp [parT, kT, tok, argK]
    · simp
  | .nd3 _ _ _, d => by simp [hdT, argsT]

/-- The words behind: none, or one that is no atom first. -/
def stopL (rest : List (List UInt8)) : Prop := rest = [] ∨ ∃ w r, rest = w :: r ∧ stopW w
theorem stopL.at {all rest : List (List UInt8)} {o : Nat} (h : stopL rest) (hd : all.drop o = rest) : stopAtW all o := by
  rcases h with rfl | ⟨w, r, rfl, hw⟩
  · refine .inl ?_
    have := congrArg List.length hd
    rw [List.length_drop] at this
    simp at this; omega
  · exact .inr ⟨w, (drop_at hd).1, hw⟩
theorem rt61s {H : AH} {S W o : Nat} {all : List (List UInt8)} {nv : AV} (h : PSt H S W o all nv) (hs : stopAtW all o) : Rt Ck 61 [.ptr S 0] H fun v H' => (∃ w, v = .str w ∧ strEq w [45, 62] = false) ∧ H' = H := by
  rcases hs with hs | ⟨w, hw, hs⟩
  · exact (rt61e h hs).mono fun v H' ⟨h1, h2⟩ => ⟨⟨[], h1, rfl⟩, h2⟩
  · exact (rt61 h hw).mono fun v H' ⟨h1, h2⟩ => ⟨⟨w, h1, by rcases hs with rfl | rfl | rfl | rfl | rfl <;> rfl⟩, h2⟩

section
variable {N S W d : Nat} {all rest : List (List UInt8)}

theorem drop_app {all a r : List (List UInt8)} {o : Nat} (h : all.drop o = a ++ r) : all.drop (o + a.length) = r := by
  rw [← List.drop_drop, h, List.drop_left]

/-- The next atom, or none. -/
theorem nextA {H : AH} {nv : AV} {o : Nat} {bs : List Tm} (hd : d < 9000) (hs : stopL rest) (hA : ∀ b ∈ bs, ∀ o r, all.drop o = argK d b ++ r → Pf 86 [.ptr S 0] N S W all (vns d) o (argK d b).length b)
    (hdr : all.drop o = bs.flatMap (argK d) ++ rest) (hP : PS N H S W o all (vns d) nv) :
    Rt Ck 86 [.ptr S 0] H fun v H' => ∃ nv', Fr S nv nv' H H' ∧ (match bs with
      | [] => v = .nilp ∧ PS N H' S W o all (vns d) nv'
      | b :: _ => ∃ X, v = .ptr X 0 ∧ TreeAt H.next H' b X ∧ PS N H' S W (o + (argK d b).length) all (vns d) nv') := by
  cases bs with
  | nil => exact (rt86n hP hd (hs.at hdr)).mono fun v H' ⟨h1, h2⟩ => ⟨nv, h2.fr, h1, hP.grow h2⟩
  | cons b bs =>
    rw [List.flatMap_cons, List.append_assoc] at hdr
    exact (hA b (by simp) o _ hdr H nv hP).mono fun v H' ⟨X, nv', h1, h2, h3, h4⟩ => ⟨nv', h4, X, h1, h2, h3⟩

theorem loop66 {lo : Nat} (hd : d < 9000) (hs : stopL rest) {Q : AEx → ASt → Prop} : ∀ (bs : List Tm) (a : Tm) (X3 : Nat) (H : AH) (nv : AV) (o : Nat) (v4 : AV), (∀ b ∈ bs, ∀ o r, all.drop o = argK d b ++ r → Pf 86 [.ptr S 0] N S W all (vns d) o (argK d b).length b) →
    TreeAt lo H a X3 → PS N H S W o all (vns d) nv → all.drop o = bs.tail.flatMap (argK d) ++ rest → (match bs with
      | [] => v4 = .nilp
      | b :: _ => ∃ X, v4 = .ptr X 0 ∧ TreeAt lo H b X) →
    (∀ H' nv' X', TreeAt lo H' (apT a bs) X' → PS N H' S W (o + (bs.tail.flatMap (argK d)).length) all (vns d) nv' → Fr S nv nv' H H' → Fin Q (.exit 0) [(0, .ptr S 0), (3, .ptr X' 0)] [] H') →
    Wc Ck (.loop (bodyN c66 0)) [(0, .ptr S 0), (3, .ptr X3 0), (4, v4)] [] H Q := by
  intro bs
  induction bs with
  | nil =>
    intro a X3 H nv o v4 hA hT hP hdr h4 hE
    subst h4
    refine Wc.loop ?_
    repeat' (first | refine Wc.seq ?_ | refine Wc.reg ?_ | refine Wc.exit ?_ | refine Fin.seq ?_ | refine Fin.seq_exit ?_ | refine Wo.nil ?_ | refine Wc.cond_f rfl ?_ | refine Wo.val rfl (.mv rfl) ?_ | refine Wo.val rfl (.bin rfl rfl rfl) ?_)
    exact (hE H nv X3 hT hP (Fr.refl S nv H)).weak ⟨rfl, rfl, trivial⟩
  | cons b bs ih =>
    intro a X3 H nv o v4 hA hT hP hdr h4 hE
    obtain ⟨X, rfl, hTb⟩ := h4
    refine Wc.loop ?_
    repeat' (first | refine Wc.seq ?_ | refine Wc.block ?_ | refine Wc.reg ?_ | refine Wc.skip ?_ | refine Fin.seq ?_ | refine Wo.nil ?_ | refine Wc.cond_t rfl ?_ | refine Wo.val rfl (.mv rfl) ?_ | refine Wo.val rfl (.build rfl rfl) ?_ | refine Wo.val rfl (.bin rfl rfl rfl) ?_)
    refine Wo.boxn (c := [.int .i64 6, .int .i64 0, .str [], .ptr X3 0, .ptr X 0, .nilp]) rfl rfl rfl (fun H1 hn1 hX1 hs1 => ?_)
    have hG1 : Grow H H1 := ⟨by omega, fun Y hY => hs1 Y (by omega)⟩
    have hlo : lo ≤ H.next := by
      have := hT.node.1
      have : lo ≤ X3 := by
        cases a with
        | nd0 _ _ _ => exact hT.1
        | nd2 _ _ _ => exact hT.1
        | nd3 _ _ _ => exact hT.1
      omega
    have hT1 : TreeAt lo H1 (.nd2 6 a b) H.next := ⟨hlo, by omega, X3, X, hX1, hT.grow hG1, hTb.grow hG1⟩
    have hP1 := hP.grow hG1
    repeat' (first | refine Wc.reg ?_ | refine Fin.seq ?_ | refine Fin.block ?_ | refine Wo.nil ?_ | refine Wo.val rfl (.mv rfl) ?_)
    refine Wo.call rfl rfl (nextA (bs := bs) hd hs (fun b' hb' => hA b' (by simp [hb'])) hdr hP1) ?_
    rintro v H2 ⟨nv2, hF2, hm⟩
    cases bs with
    | nil =>
      obtain ⟨rfl, hP2⟩ := hm
      repeat' (first | refine Fin.seq ?_ | refine Wo.nil ?_ | refine Wo.val rfl (.mv rfl) ?_)
      refine (ih (.nd2 6 a b) H.next H2 nv2 o .nilp (fun b' hb' => by simp at hb') (hT1.fr hP1 hF2) hP2 hdr rfl (fun H3 nv3 X' h1 h2 h3 => hE H3 nv3 X' h1 h2 (hG1.fr.trans (hF2.trans h3)))).weak ⟨rfl, rfl, rfl, trivial⟩
    | cons b' bs =>
      obtain ⟨X', rfl, hTb', hP2⟩ := hm
      repeat' (first | refine Fin.seq ?_ | refine Wo.nil ?_ | refine Wo.val rfl (.mv rfl) ?_)
      refine (ih (.nd2 6 a b) H.next H2 nv2 (o + (argK d b').length) (.ptr X' 0) (fun b'' hb'' => hA b'' (by simp at hb'' ⊢; exact .inr hb'')) (hT1.fr hP1 hF2) hP2 ?_ ⟨X', rfl, hTb'.low (by omega)⟩ (fun H3 nv3 X'' h1 h2 h3 => hE H3 nv3 X'' h1 ?_ (hG1.fr.trans (hF2.trans h3)))).weak ⟨rfl, rfl, rfl, trivial⟩
      · simp only [List.tail_cons, List.flatMap_cons, List.append_assoc] at hdr ⊢
        exact drop_app hdr
      · simp only [List.tail_cons, List.flatMap_cons, List.length_append] at h2 ⊢
        rw [← Nat.add_assoc]
        exact h2

theorem rt66 {t : Tm} {o n : Nat} (hd : d < 9000) (hs : stopL rest) (hH : Pf 86 [.ptr S 0] N S W all (vns d) o n (hdT t)) (hA : ∀ b ∈ argsT t, ∀ o r, all.drop o = argK d b ++ r → Pf 86 [.ptr S 0] N S W all (vns d) o (argK d b).length b)
    (hdr : all.drop (o + n) = (argsT t).flatMap (argK d) ++ rest) : Pf 66 [.ptr S 0] N S W all (vns d) o (n + ((argsT t).flatMap (argK d)).length) t := by
  intro H nv hP
  refine Rt.enter (af := c66) rfl rfl ?_
  repeat' (first | refine Wc.seq ?_ | refine Wc.reg ?_ | refine Fin.seq ?_ | refine Wo.nil ?_ | refine Wo.val rfl (.mv rfl) ?_)
  refine Wo.call rfl rfl (hH H nv hP) ?_
  rintro _ H1 ⟨X, nv1, rfl, hT, hP1, hF1⟩
  repeat' (first | refine Wc.seq ?_ | refine Wc.reg ?_ | refine Wc.skip ?_ | refine Fin.seq ?_ | refine Wo.nil ?_ | refine Wc.cond_f rfl ?_ | refine Wo.val rfl (.mv rfl) ?_ | refine Wo.val rfl (.bin rfl rfl rfl) ?_)
  refine Wo.call rfl rfl (nextA hd hs hA hdr hP1) ?_
  rintro v H2 ⟨nv2, hF2, hm⟩
  have hT2 := hT.fr hP1 hF2
  have key : ∀ (H3 : AH) (nv3 : AV) (X' : Nat), TreeAt H.next H3 t X' → PS N H3 S W (o + n + ((argsT t).flatMap (argK d)).length) all (vns d) nv3 → Fr S nv nv3 H H3 →
      Wc Ck (c66.code.tail 4) [(0, .ptr S 0), (3, .ptr X' 0)] [] H3 (kret c66 (fun v H' => ∃ X nv', v = .ptr X 0 ∧ TreeAt H.next H' t X ∧ PS N H' S W (o + (n + ((argsT t).flatMap (argK d)).length)) all (vns d) nv' ∧ Fr S nv nv' H H')) := by
    intro H3 nv3 X' hT3 hP3 hF3
    have hst : stopAtW all (o + n + ((argsT t).flatMap (argK d)).length) := hs.at (drop_app hdr)
    repeat' (first | refine Wc.seq ?_ | refine Wc.reg ?_ | refine Wo.val rfl (.mv rfl) ?_)
    refine Wo.call rfl rfl (rt61s hP3.1 hst) ?_
    rintro _ H4 ⟨⟨w, rfl, hw⟩, e⟩
    rw [e]
    have b1 : binV Ck H3 .eql .str (.str w) (.str [45, 62]) = some (.bool false) := binV_sF hw
    repeat' (first | refine Wc.seq ?_ | refine Wc.reg ?_ | refine Wc.skip ?_ | refine Wc.ret ?_ | refine Fin.seq ?_ | refine Wo.nil ?_ | refine Wc.cond_f rfl ?_ | refine Wo.val rfl (.mv rfl) ?_ | refine Wo.val rfl (.bin rfl rfl (by assumption)) ?_)
    refine Fin.kret rfl ⟨X', nv3, rfl, hT3, ?_, hF3⟩
    rw [← Nat.add_assoc]
    exact hP3
  have hap := ap_spine t
  generalize argsT t = bs at hdr hA hm key hap
  cases bs with
  | nil =>
    obtain ⟨rfl, hP2⟩ := hm
    repeat' (first | refine Wc.block ?_ | refine Fin.seq ?_ | refine Wo.nil ?_ | refine Wo.val rfl (.mv rfl) ?_)
    refine Wc.weak (loop66 (lo := H.next) (rest := rest) hd hs [] (hdT t) X H2 nv2 (o + n) .nilp (fun b hb => by simp at hb) hT2 hP2 hdr rfl (fun H3 nv3 X' h1 h2 h3 => ?_)) ⟨rfl, rfl, rfl, trivial⟩
    refine Fin.block_here (Fin.seq ?_)
    rw [hap] at h1
    exact key H3 nv3 X' h1 h2 (hF1.trans (hF2.trans h3))
  | cons b bs =>
    obtain ⟨Xb, rfl, hTb, hP2⟩ := hm
    repeat' (first | refine Wc.block ?_ | refine Fin.seq ?_ | refine Wo.nil ?_ | refine Wo.val rfl (.mv rfl) ?_)
    refine Wc.weak (loop66 (lo := H.next) (rest := rest) hd hs (b :: bs) (hdT t) X H2 nv2 (o + n + (argK d b).length) (.ptr Xb 0) hA hT2 hP2 ?_ ⟨Xb, rfl, hTb.low hF1.next⟩ (fun H3 nv3 X' h1 h2 h3 => ?_)) ⟨rfl, rfl, rfl, trivial⟩
    · simp only [List.tail_cons, List.flatMap_cons, List.append_assoc] at hdr ⊢
      exact drop_app hdr
    · refine Fin.block_here (Fin.seq ?_)
      rw [hap] at h1
      refine key H3 nv3 X' h1 ?_ (hF1.trans (hF2.trans h3))
      simp only [List.tail_cons, List.flatMap_cons, List.length_append] at h2 ⊢
      rw [← Nat.add_assoc]
      exact h2
end
end Go.Vd.L
namespace Go.Vd.L
open Go.Vd

section
variable {N S W d o na nb nc : Nat} {all : List (List UInt8)} {a b c t : Tm}

theorem rt63 {names : List (List UInt8)} {w : List UInt8} (ha : all.length ≤ 2000) (hb : boundB w = true) (hw : all[o]? = some w) (hc : all[o + 1]? = some [58]) (h : Pf 35 [.ptr S 0] N S W all names (o + 2) na a) {H : AH} {nv : AV} (hP : PS N H S W o all names nv) :
    Rt Ck 63 [.ptr S 0] H fun v H' => ∃ X nv', v = .tup [.str w, .ptr X 0] ∧ TreeAt H.next H' a X ∧ PS N H' S W (o + 2 + na) all names nv' ∧ Fr S nv nv' H H' := by
  refine Rt.enter (af := c63) rfl rfl ?_
  repeat' (first | refine Wc.seq ?_ | refine Wc.reg ?_ | refine Fin.seq ?_ | refine Wo.nil ?_ | refine Wo.val rfl (.mv rfl) ?_)
  refine Wo.call rfl rfl (rt62 hP.1 hP.SW hw ha) ?_
  rintro _ H1 ⟨rfl, hP1, hn1, hs1⟩
  obtain ⟨hP1, hF1⟩ := hP.step hP1 hn1 hs1
  repeat' (first | refine Wc.seq ?_ | refine Wc.reg ?_ | refine Fin.seq ?_ | refine Wo.nil ?_ | refine Wo.val rfl (.mv rfl) ?_)
  refine Wo.call rfl rfl (rt85 w hb H1) ?_
  rintro _ H2 ⟨rfl, hE2⟩
  have hP2 := hP1.grow (Ext.grow hE2)
  have hF2 : Fr S nv nv H H2 := hF1.trans (Ext.grow hE2).fr
  repeat' (first | refine Wc.seq ?_ | refine Wc.reg ?_ | refine Wc.skip ?_ | refine Fin.seq ?_ | refine Wo.nil ?_ | refine Wc.cond_f rfl ?_ | refine Wo.val rfl (.mv rfl) ?_ | refine Wo.val rfl (.un rfl rfl) ?_)
  refine Wo.call rfl rfl (rt64 hP2.1 hP2.SW hc ha) ?_
  rintro _ H3 ⟨hP3, hn3, hs3⟩
  obtain ⟨hP3, hF3⟩ := hP2.step hP3 hn3 hs3
  repeat' (first | refine Wc.seq ?_ | refine Wc.reg ?_ | refine Fin.seq ?_ | refine Wo.nil ?_ | refine Wo.val rfl (.mv rfl) ?_)
  refine Wo.call rfl rfl (h H3 nv hP3) ?_
  rintro _ H4 ⟨X, nv4, rfl, hT4, hP4, hF4⟩
  repeat' (first | refine Wc.ret ?_ | refine Fin.seq ?_ | refine Wo.nil ?_ | refine Wo.val rfl (.mv rfl) ?_)
  exact Fin.kret rfl ⟨X, nv4, rfl, hT4.low (hF2.trans hF3).next, hP4, hF2.trans (hF3.trans hF4)⟩

theorem rt35f (ha : all.length ≤ 2000) (hd : d < 8999) (hw : all[o]? = some [102, 117, 110]) (h1 : all[o + 1]? = some (vn d)) (h2 : all[o + 1 + 1]? = some [58]) (hA : Pf 35 [.ptr S 0] N S W all (vns d) (o + 1 + 2) na a)
    (h3 : all[o + 1 + 2 + na]? = some [61, 62]) (hB : Pf 35 [.ptr S 0] N S W all (vns (d + 1)) (o + 1 + 2 + na + 1) nb b) : Pf 35 [.ptr S 0] N S W all (vns d) o (3 + na + 1 + nb) (.nd2 5 a b) := by
  intro H nv hP
  refine Rt.enter (af := c35) rfl rfl ?_
  repeat' (first | refine Wc.seq ?_ | refine Wc.reg ?_ | refine Fin.seq ?_ | refine Wo.nil ?_ | refine Wo.val rfl (.mv rfl) ?_)
  refine Wo.call rfl rfl (rt61 hP.1 hw) ?_
  rintro _ H1 ⟨rfl, e⟩
  rw [e]
  repeat' (first | refine Wc.seq ?_ | refine Wc.block ?_ | refine Wc.reg ?_ | refine Fin.seq ?_ | refine Wo.nil ?_ | refine Wc.cond_t rfl ?_ | refine Wo.val rfl (.mv rfl) ?_ | refine Wo.val rfl (.bin rfl rfl rfl) ?_)
  refine Wo.call rfl rfl (rt62 hP.1 hP.SW hw ha) ?_
  rintro _ H1 ⟨rfl, hP1, hn1, hs1⟩
  obtain ⟨hP1, hF1⟩ := hP.step hP1 hn1 hs1
  repeat' (first | refine Wc.seq ?_ | refine Wc.reg ?_ | refine Fin.seq ?_ | refine Wo.nil ?_ | refine Wo.val rfl (.mv rfl) ?_)
  refine Wo.call rfl rfl (rt63 ha (vn_bound d) h1 h2 hA hP1) ?_
  rintro _ H2 ⟨X, nv2, rfl, hT2, hP2, hF2⟩
  repeat' (first | refine Wc.seq ?_ | refine Wc.reg ?_ | refine Fin.seq ?_ | refine Wo.nil ?_ | refine Wo.val rfl (.mv rfl) ?_ | refine Wo.val rfl (.ext rfl rfl) ?_)
  refine Wo.call rfl rfl (rt64 hP2.1 hP2.SW h3 ha) ?_
  rintro _ H3 ⟨hP3, hn3, hs3⟩
  obtain ⟨hP3, hF3⟩ := hP2.step hP3 hn3 hs3
  repeat' (first | refine Wc.seq ?_ | refine Wc.reg ?_ | refine Fin.seq ?_ | refine Wo.nil ?_ | refine Wo.val rfl (.mv rfl) ?_)
  refine Wo.call rfl rfl (rt65 (w := vn d) (by rw [vns_len]; omega) (by rw [← vns_succ]; exact hB) H3 nv2 hP3) ?_
  rintro _ H4 ⟨Y, nv4, rfl, hT4, hP4, hF4⟩
  have hT2' := (hT2.fr hP2 hF3).fr hP3 hF4
  have hF := hF1.trans (hF2.trans (hF3.trans hF4))
  repeat' refine Wo.val rfl (.build rfl rfl) ?_
  refine Wo.boxn (c := [.int .i64 5, .int .i64 0, .str [], .ptr X 0, .ptr Y 0, .nilp]) rfl rfl rfl (fun H5 hn5 hX5 hs5 => ?_)
  have hG5 : Grow H4 H5 := ⟨by omega, fun Y hY => hs5 Y (by omega)⟩
  have l1 := hF1.next
  have l2 := (hF1.trans (hF2.trans hF3)).next
  repeat' (first | refine Wc.ret ?_ | refine Fin.seq ?_ | refine Fin.seq_ret ?_ | refine Fin.block_ret ?_ | refine Wo.nil ?_ | refine Wo.val rfl (.mv rfl) ?_)
  refine Fin.kret rfl ⟨H4.next, nv4, rfl, ⟨hF.next, by omega, X, Y, hX5, (hT2'.grow hG5).low l1, (hT4.grow hG5).low l2⟩, ?_, hF.trans hG5.fr⟩
  rw [show o + (3 + na + 1 + nb) = o + 1 + 2 + na + 1 + nb by omega]
  exact hP4.grow hG5

theorem rt35p (ha : all.length ≤ 2000) (hd : d < 8999) (hw : all[o]? = some [112, 105]) (h1 : all[o + 1]? = some (vn d)) (h2 : all[o + 1 + 1]? = some [58]) (hA : Pf 35 [.ptr S 0] N S W all (vns d) (o + 1 + 2) na a)
    (h3 : all[o + 1 + 2 + na]? = some [44]) (hB : Pf 35 [.ptr S 0] N S W all (vns (d + 1)) (o + 1 + 2 + na + 1) nb b) : Pf 35 [.ptr S 0] N S W all (vns d) o (3 + na + 1 + nb) (.nd2 4 a b) := by
  intro H nv hP
  refine Rt.enter (af := c35) rfl rfl ?_
  repeat' (first | refine Wc.seq ?_ | refine Wc.reg ?_ | refine Fin.seq ?_ | refine Wo.nil ?_ | refine Wo.val rfl (.mv rfl) ?_)
  refine Wo.call rfl rfl (rt61 hP.1 hw) ?_
  rintro _ H1 ⟨rfl, e⟩
  rw [e]
  repeat' (first | refine Wc.seq ?_ | refine Wc.block ?_ | refine Wc.reg ?_ | refine Fin.seq ?_ | refine Wo.nil ?_ | refine Wc.cond_t rfl ?_ | refine Wc.cond_f rfl ?_ | refine Wo.val rfl (.mv rfl) ?_ | refine Wo.val rfl (.bin rfl rfl rfl) ?_)
  refine Wo.call rfl rfl (rt62 hP.1 hP.SW hw ha) ?_
  rintro _ H1 ⟨rfl, hP1, hn1, hs1⟩
  obtain ⟨hP1, hF1⟩ := hP.step hP1 hn1 hs1
  repeat' (first | refine Wc.seq ?_ | refine Wc.reg ?_ | refine Fin.seq ?_ | refine Wo.nil ?_ | refine Wo.val rfl (.mv rfl) ?_)
  refine Wo.call rfl rfl (rt63 ha (vn_bound d) h1 h2 hA hP1) ?_
  rintro _ H2 ⟨X, nv2, rfl, hT2, hP2, hF2⟩
  repeat' (first | refine Wc.seq ?_ | refine Wc.reg ?_ | refine Fin.seq ?_ | refine Wo.nil ?_ | refine Wo.val rfl (.mv rfl) ?_ | refine Wo.val rfl (.ext rfl rfl) ?_)
  refine Wo.call rfl rfl (rt64 hP2.1 hP2.SW h3 ha) ?_
  rintro _ H3 ⟨hP3, hn3, hs3⟩
  obtain ⟨hP3, hF3⟩ := hP2.step hP3 hn3 hs3
  repeat' (first | refine Wc.seq ?_ | refine Wc.reg ?_ | refine Fin.seq ?_ | refine Wo.nil ?_ | refine Wo.val rfl (.mv rfl) ?_)
  refine Wo.call rfl rfl (rt65 (w := vn d) (by rw [vns_len]; omega) (by rw [← vns_succ]; exact hB) H3 nv2 hP3) ?_
  rintro _ H4 ⟨Y, nv4, rfl, hT4, hP4, hF4⟩
  have hT2' := (hT2.fr hP2 hF3).fr hP3 hF4
  have hF := hF1.trans (hF2.trans (hF3.trans hF4))
  repeat' refine Wo.val rfl (.build rfl rfl) ?_
  refine Wo.boxn (c := [.int .i64 4, .int .i64 0, .str [], .ptr X 0, .ptr Y 0, .nilp]) rfl rfl rfl (fun H5 hn5 hX5 hs5 => ?_)
  have hG5 : Grow H4 H5 := ⟨by omega, fun Y hY => hs5 Y (by omega)⟩
  have l1 := hF1.next
  have l2 := (hF1.trans (hF2.trans hF3)).next
  repeat' (first | refine Wc.ret ?_ | refine Fin.seq ?_ | refine Fin.seq_ret ?_ | refine Fin.block_ret ?_ | refine Wo.nil ?_ | refine Wo.val rfl (.mv rfl) ?_)
  refine Fin.kret rfl ⟨H4.next, nv4, rfl, ⟨hF.next, by omega, X, Y, hX5, (hT2'.grow hG5).low l1, (hT4.grow hG5).low l2⟩, ?_, hF.trans hG5.fr⟩
  rw [show o + (3 + na + 1 + nb) = o + 1 + 2 + na + 1 + nb by omega]
  exact hP4.grow hG5

theorem rt35l (ha : all.length ≤ 2000) (hd : d < 8999) (hw : all[o]? = some [108, 101, 116]) (h1 : all[o + 1]? = some (vn d)) (h2 : all[o + 1 + 1]? = some [58]) (hA : Pf 35 [.ptr S 0] N S W all (vns d) (o + 1 + 2) na a)
    (h3 : all[o + 1 + 2 + na]? = some [58, 61]) (hB : Pf 35 [.ptr S 0] N S W all (vns d) (o + 1 + 2 + na + 1) nb b) (h4 : all[o + 1 + 2 + na + 1 + nb]? = some [105, 110])
    (hC : Pf 35 [.ptr S 0] N S W all (vns (d + 1)) (o + 1 + 2 + na + 1 + nb + 1) nc c) : Pf 35 [.ptr S 0] N S W all (vns d) o (3 + na + 1 + nb + 1 + nc) (.nd3 a b c) := by
  intro H nv hP
  refine Rt.enter (af := c35) rfl rfl ?_
  repeat' (first | refine Wc.seq ?_ | refine Wc.reg ?_ | refine Fin.seq ?_ | refine Wo.nil ?_ | refine Wo.val rfl (.mv rfl) ?_)
  refine Wo.call rfl rfl (rt61 hP.1 hw) ?_
  rintro _ H1 ⟨rfl, e⟩
  rw [e]
  repeat' (first | refine Wc.seq ?_ | refine Wc.block ?_ | refine Wc.reg ?_ | refine Fin.seq ?_ | refine Wo.nil ?_ | refine Wc.cond_t rfl ?_ | refine Wc.cond_f rfl ?_ | refine Wo.val rfl (.mv rfl) ?_ | refine Wo.val rfl (.bin rfl rfl rfl) ?_)
  refine Wo.call rfl rfl (rt62 hP.1 hP.SW hw ha) ?_
  rintro _ H1 ⟨rfl, hP1, hn1, hs1⟩
  obtain ⟨hP1, hF1⟩ := hP.step hP1 hn1 hs1
  repeat' (first | refine Wc.seq ?_ | refine Wc.reg ?_ | refine Fin.seq ?_ | refine Wo.nil ?_ | refine Wo.val rfl (.mv rfl) ?_)
  refine Wo.call rfl rfl (rt63 ha (vn_bound d) h1 h2 hA hP1) ?_
  rintro _ H2 ⟨X, nv2, rfl, hT2, hP2, hF2⟩
  repeat' (first | refine Wc.seq ?_ | refine Wc.reg ?_ | refine Fin.seq ?_ | refine Wo.nil ?_ | refine Wo.val rfl (.mv rfl) ?_ | refine Wo.val rfl (.ext rfl rfl) ?_)
  refine Wo.call rfl rfl (rt64 hP2.1 hP2.SW h3 ha) ?_
  rintro _ H3 ⟨hP3, hn3, hs3⟩
  obtain ⟨hP3, hF3⟩ := hP2.step hP3 hn3 hs3
  repeat' (first | refine Wc.seq ?_ | refine Wc.reg ?_ | refine Fin.seq ?_ | refine Wo.nil ?_ | refine Wo.val rfl (.mv rfl) ?_)
  refine Wo.call rfl rfl (hB H3 nv2 hP3) ?_
  rintro _ H4 ⟨Y, nv4, rfl, hT4, hP4, hF4⟩
  repeat' (first | refine Wc.seq ?_ | refine Wc.reg ?_ | refine Fin.seq ?_ | refine Wo.nil ?_ | refine Wo.val rfl (.mv rfl) ?_)
  refine Wo.call rfl rfl (rt64 hP4.1 hP4.SW h4 ha) ?_
  rintro _ H5 ⟨hP5, hn5, hs5⟩
  obtain ⟨hP5, hF5⟩ := hP4.step hP5 hn5 hs5
  repeat' (first | refine Wc.seq ?_ | refine Wc.reg ?_ | refine Fin.seq ?_ | refine Wo.nil ?_ | refine Wo.val rfl (.mv rfl) ?_)
  refine Wo.call rfl rfl (rt65 (w := vn d) (by rw [vns_len]; omega) (by rw [← vns_succ]; exact hC) H5 nv4 hP5) ?_
  rintro _ H6 ⟨Z, nv6, rfl, hT6, hP6, hF6⟩
  have hT2' := (((hT2.fr hP2 hF3).fr hP3 hF4).fr hP4 hF5).fr hP5 hF6
  have hT4' := (hT4.fr hP4 hF5).fr hP5 hF6
  have hF := hF1.trans (hF2.trans (hF3.trans (hF4.trans (hF5.trans hF6))))
  repeat' refine Wo.val rfl (.build rfl rfl) ?_
  refine Wo.boxn (c := [.int .i64 7, .int .i64 0, .str [], .ptr X 0, .ptr Y 0, .ptr Z 0]) rfl rfl rfl (fun H7 hn7 hX7 hs7 => ?_)
  have hG7 : Grow H6 H7 := ⟨by omega, fun Y hY => hs7 Y (by omega)⟩
  have l1 := hF1.next
  have l2 := (hF1.trans (hF2.trans hF3)).next
  have l3 := (hF1.trans (hF2.trans (hF3.trans (hF4.trans hF5)))).next
  repeat' (first | refine Wc.ret ?_ | refine Fin.seq ?_ | refine Fin.seq_ret ?_ | refine Fin.block_ret ?_ | refine Wo.nil ?_ | refine Wo.val rfl (.mv rfl) ?_)
  refine Fin.kret rfl ⟨H6.next, nv6, rfl, ⟨hF.next, by omega, X, Y, Z, hX7, (hT2'.grow hG7).low l1, (hT4'.grow hG7).low l2, (hT6.grow hG7).low l3⟩, ?_, hF.trans hG7.fr⟩
  rw [show o + (3 + na + 1 + nb + 1 + nc) = o + 1 + 2 + na + 1 + nb + 1 + nc by omega]
  exact hP6.grow hG7

/-- No binder in front. -/
theorem rt35a {names : List (List UInt8)} {w : List UInt8} (hw : all[o]? = some w) (hf : strEq w [102, 117, 110] = false) (hp : strEq w [112, 105] = false) (hl : strEq w [108, 101, 116] = false) (h : Pf 66 [.ptr S 0] N S W all names o na t) : Pf 35 [.ptr S 0] N S W all names o na t := by
  intro H nv hP
  have b1 : binV Ck H .eql .str (.str w) (.str [102, 117, 110]) = some (.bool false) := binV_sF hf
  have b2 : binV Ck H .eql .str (.str w) (.str [112, 105]) = some (.bool false) := binV_sF hp
  have b3 : binV Ck H .eql .str (.str w) (.str [108, 101, 116]) = some (.bool false) := binV_sF hl
  refine Rt.enter (af := c35) rfl rfl ?_
  repeat' (first | refine Wc.seq ?_ | refine Wc.reg ?_ | refine Fin.seq ?_ | refine Wo.nil ?_ | refine Wo.val rfl (.mv rfl) ?_)
  refine Wo.call rfl rfl (rt61 hP.1 hw) ?_
  rintro _ H1 ⟨rfl, e⟩
  rw [e]
  repeat' (first | refine Wc.seq ?_ | refine Wc.block ?_ | refine Wc.reg ?_ | refine Wc.skip ?_ | refine Fin.seq ?_ | refine Fin.block ?_ | refine Wo.nil ?_ | refine Wc.cond_f rfl ?_ | refine Wo.val rfl (.mv rfl) ?_ | refine Wo.val rfl (.bin rfl rfl (by assumption)) ?_)
  refine Wo.call rfl rfl (h H nv hP) ?_
  rintro _ H2 ⟨X, nv2, rfl, hT2, hP2, hF2⟩
  repeat' (first | refine Wc.ret ?_ | refine Fin.seq ?_ | refine Wo.nil ?_ | refine Wo.val rfl (.mv rfl) ?_)
  exact Fin.kret rfl ⟨X, nv2, rfl, hT2, hP2, hF2⟩
end
end Go.Vd.L
namespace Go.Vd.L
open Go.Vd

/-- A leaf's word: no bracket, not empty, no keyword. -/
structure LeafW (w : List UInt8) : Prop where
  b : strEq w [40] = false
  e : strEq w [] = false
  f : strEq w [102, 117, 110] = false
  p : strEq w [112, 105] = false
  l : strEq w [108, 101, 116] = false

theorem strEq_c {a b : UInt8} {x y : List UInt8} (h : Nat.beq a.toNat b.toNat = false) : strEq (a :: x) (b :: y) = false := by
  simp only [strEq, h, Bool.false_and]
theorem leafW_c {a : UInt8} {x : List UInt8} (h : Nat.beq a.toNat 40 = false) (h1 : Nat.beq a.toNat 102 = false) (h2 : Nat.beq a.toNat 112 = false) (h3 : Nat.beq a.toNat 108 = false) : LeafW (a :: x) :=
  ⟨strEq_c h, rfl, strEq_c h1, strEq_c h2, strEq_c h3⟩

theorem leafW_s {s x : List UInt8} (hs : nameB s = true) (hk : keyW s = false) (hx : x = [] ∨ ∃ r, x = 64 :: r) : LeafW (s ++ x) ∧ (s ++ x).head? ≠ some 95 := by
  obtain ⟨hF, hne, _⟩ := name_F hs
  have key : ∀ k : List UInt8, (strEq s k = false) → (∀ c ∈ k, c ≠ 64) → strEq (s ++ x) k = false := by
    intro k h1 h2
    rcases hx with rfl | ⟨r, rfl⟩
    · rw [List.append_nil]; exact h1
    · refine strEq_ne fun e => ?_
      exact h2 64 (by rw [← e]; simp) rfl
  have hk' := hk
  unfold keyW at hk'
  simp only [Bool.or_eq_false_iff] at hk'
  cases s with
  | nil => exact absurd rfl hne
  | cons c r =>
    simp only [nameF, Bool.and_eq_true] at hF
    have hc := hF.1
    have hb : ∀ n : Nat, (n = 40 ∨ n = 95) → c.toNat ≠ n := by
      intro n hn e
      unfold letU letterI at hc
      rw [e] at hc
      rcases hn with rfl | rfl <;> simp at hc
    refine ⟨⟨strEq_c (by rw [beq_dec]; simpa using hb 40 (.inl rfl)), rfl, key _ hk'.1.1.1.1 (by decide), key _ hk'.1.1.1.2 (by decide), key _ hk'.1.1.2 (by decide)⟩, ?_⟩
    simp only [List.cons_append, List.head?_cons]
    intro e
    injection e with e
    exact hb 95 (.inr rfl) (by rw [e]; rfl)

theorem leaf_word {k n : Int} {s : List UInt8} {d : Nat} (hw : (Tm.nd0 k n s).wf) : LeafW (pr (.nd0 k n s) d) ∧ (k ≠ 2 → (pr (.nd0 k n s) d).head? ≠ some 95) := by
  obtain ⟨hk, hl⟩ := hw
  rcases hk with rfl | rfl | rfl
  · simp only [pr, if_true]
    exact ⟨leafW_c rfl rfl rfl rfl, fun _ => by simp⟩
  · simp only [pr, if_neg (show ¬ (2 : Int) = 1 by omega), if_true]
    exact ⟨leafW_c rfl rfl rfl rfl, fun h => absurd rfl h⟩
  · simp only [leafB, if_neg (show ¬ (3 : Int) = 1 by omega), if_neg (show ¬ (3 : Int) = 2 by omega), if_true, Bool.and_eq_true, Bool.not_eq_true'] at hl
    simp only [pr, if_neg (show ¬ (3 : Int) = 1 by omega), if_neg (show ¬ (3 : Int) = 2 by omega)]
    have := leafW_s (x := if recB s then 64 :: itoaD n.toNat else []) hl.1.1.1.1 hl.1.1.1.2 (by
      split
      · exact .inr ⟨_, rfl⟩
      · exact .inl rfl)
    exact ⟨this.1, fun _ => this.2⟩

/-! ### Parts of an application -/
theorem mx_l (a b : Int) : a ≤ mxI a b := by unfold mxI; split <;> omega
theorem mx_r (a b : Int) : b ≤ mxI a b := by unfold mxI; split <;> omega
theorem free_2 (k : Int) (a b : Tm) : freeN a ≤ freeN (.nd2 k a b) ∧ freeN b ≤ freeN (.nd2 k a b) + und1 k := by
  simp only [freeN]
  have h1 := mx_l (mxI (mxI 0 (freeN a)) (freeN b - und1 k)) (0 - 1)
  have h2 := mx_l (mxI 0 (freeN a)) (freeN b - und1 k)
  have h3 := mx_r (mxI 0 (freeN a)) (freeN b - und1 k)
  have h4 := mx_r 0 (freeN a)
  exact ⟨by omega, by omega⟩
theorem free_3 (a b c : Tm) : freeN a ≤ freeN (.nd3 a b c) ∧ freeN b ≤ freeN (.nd3 a b c) ∧ freeN c ≤ freeN (.nd3 a b c) + 1 := by
  simp only [freeN]
  have h1 := mx_l (mxI (mxI 0 (freeN a)) (freeN b - 0)) (freeN c - 1)
  have h2 := mx_r (mxI (mxI 0 (freeN a)) (freeN b - 0)) (freeN c - 1)
  have h3 := mx_l (mxI 0 (freeN a)) (freeN b - 0)
  have h4 := mx_r (mxI 0 (freeN a)) (freeN b - 0)
  have h5 := mx_r 0 (freeN a)
  exact ⟨by omega, by omega, by omega⟩

/-- A right term with so many variables around. -/
def Rg (d : Nat) (m : Nat) (t : Tm) : Prop := t.wf ∧ freeN t ≤ d ∧ t.size ≤ m

theorem size_pos : ∀ t : Tm, 1 ≤ t.size
  | .nd0 _ _ _ => Nat.le_refl 1
  | .nd2 _ _ _ => by simp only [Tm.size]; omega
  | .nd3 _ _ _ => by simp only [Tm.size]; omega
theorem hd_part : ∀ {t : Tm} {d m : Nat}, Rg d m t → Rg d m (hdT t) ∧ kT (hdT t) ≠ 6
  | .nd0 k n s, d, m, h => ⟨h, by
    have := h.1.1
    simp only [hdT, kT]; omega⟩
  | .nd2 k a b, d, m, ⟨⟨hk, wa, wb⟩, hf, hs⟩ => by
    simp only [hdT]
    split
    · have := free_2 k a b
      simp only [Tm.size] at hs
      exact hd_part ⟨wa, by omega, by omega⟩
    · rename_i h6
      exact ⟨⟨⟨hk, wa, wb⟩, hf, hs⟩, h6⟩
  | .nd3 a b c, d, m, h => ⟨h, by simp only [hdT, kT]; omega⟩
theorem hd_lt : ∀ {t : Tm} {d m : Nat}, Rg d (m + 1) t → kT t = 6 → Rg d m (hdT t)
  | .nd0 k n s, d, m, h, hk => by have := h.1.1; simp only [kT] at hk; omega
  | .nd2 k a b, d, m, ⟨⟨hk', wa, wb⟩, hf, hs⟩, hk => by
    simp only [kT] at hk
    have := free_2 k a b
    simp only [Tm.size] at hs
    have := size_pos b
    simp only [hdT, if_pos hk]
    exact (hd_part ⟨wa, by omega, by omega⟩).1
  | .nd3 a b c, d, m, h, hk => by simp only [kT] at hk; omega
theorem arg_part : ∀ {t : Tm} {d m : Nat}, Rg d (m + 1) t → ∀ b ∈ argsT t, Rg d m b
  | .nd0 k n s, d, m, h, b, hb => by simp [argsT] at hb
  | .nd2 k a c, d, m, ⟨⟨hk, wa, wc⟩, hf, hs⟩, b, hb => by
    simp only [argsT] at hb
    split at hb
    · rename_i h6
      subst h6
      have hf2 := free_2 6 a c
      have u : und1 6 = 0 := rfl
      simp only [Tm.size] at hs
      rcases List.mem_append.1 hb with hb | hb
      · exact arg_part ⟨wa, by omega, by omega⟩ b hb
      · simp only [List.mem_singleton] at hb
        subst hb
        have := size_pos a
        exact ⟨wc, by omega, by omega⟩
    · cases hb
  | .nd3 _ _ _, d, m, h, b, hb => by simp [argsT] at hb

section
variable {N S W : Nat} {all : List (List UInt8)}

theorem leaf86 {k n : Int} {s : List UInt8} {d o m : Nat} {r : List (List UInt8)} (ha : all.length ≤ 2000) (hd : d < 8000) (h : Rg d m (.nd0 k n s)) (hdr : all.drop o = pr (.nd0 k n s) d :: r) : Pf 86 [.ptr S 0] N S W all (vns d) o 1 (.nd0 k n s) := by
  obtain ⟨hw, hf, _⟩ := h
  have hat := (drop_at hdr).1
  obtain ⟨hL, hh⟩ := leaf_word (d := d) hw
  by_cases k2 : k = 2
  · subst k2
    have hl := hw.2
    simp only [leafB, if_neg (show ¬ (2 : Int) = 1 by omega), if_true, Bool.and_eq_true, decide_eq_true_eq] at hl
    obtain ⟨i, rfl⟩ : ∃ i : Nat, n = i := ⟨n.toNat, by omega⟩
    have hs := strEq_iff hl.1.1
    subst hs
    simp only [freeN, if_true] at hf
    have := rt86v (S := S) (N := N) (W := W) (d := d) (j := d - 1 - i) ha (by omega) (by omega) (by
      rw [hat]
      simp [pr, vn])
    rw [show d - 1 - (d - 1 - i) = i by omega] at this
    exact this
  · exact rt86c ha (by omega) hat hL.b hL.e (hh k2) (leaf_at hw k2)

theorem stopL_of {w : List UInt8} {r : List (List UInt8)} (h : stopW w) : stopL (w :: r) := .inr ⟨w, r, rfl, h⟩

theorem atom86 {d o : Nat} {b : Tm} {arg : Bool} {r : List (List UInt8)} {m : Nat} (ha : all.length ≤ 2000) (hd : d < 8000) (h : Rg d m b) (harg : arg = false → kT b ≠ 6) (hdr : all.drop o = parT (kT b) arg (tok b d) ++ r)
    (ih : ∀ o r, stopL r → all.drop o = tok b d ++ r → Pf 35 [.ptr S 0] N S W all (vns d) o (tok b d).length b) : Pf 86 [.ptr S 0] N S W all (vns d) o (parT (kT b) arg (tok b d)).length b := by
  have bracket : parT (kT b) arg (tok b d) = [[40]] ++ tok b d ++ [[41]] → Pf 86 [.ptr S 0] N S W all (vns d) o (parT (kT b) arg (tok b d)).length b := by
    intro e
    rw [e] at hdr ⊢
    have h1 : all.drop o = [40] :: (tok b d ++ ([41] :: r)) := by rw [hdr]; simp
    obtain ⟨g1, g2⟩ := drop_at h1
    have g3 := drop_app g2
    have := rt86p ha g1 (drop_at g3).1 (ih (o + 1) _ (stopL_of (.inl rfl)) g2)
    have e2 : (([[40]] : List (List UInt8)) ++ tok b d ++ [[41]]).length = (tok b d).length + 2 := by simp
    rw [e2]
    exact this
  cases b with
  | nd0 k n s =>
    have hk := h.1.1
    have e : parT (kT (.nd0 k n s)) arg (tok (.nd0 k n s) d) = [pr (.nd0 k n s) d] := by
      unfold parT
      rw [if_neg (by simp only [kT]; omega)]
      rfl
    rw [e] at hdr ⊢
    exact leaf86 ha hd h hdr
  | nd2 k a c =>
    have hk := h.1.1
    refine bracket ?_
    unfold parT
    rw [if_pos]
    simp only [kT] at harg ⊢
    rcases hk with h | h | h
    · exact .inl h
    · exact .inr (.inl h)
    · cases arg with
      | true => exact .inr (.inr (.inr ⟨h, rfl⟩))
      | false => exact absurd h (harg rfl)
  | nd3 a b c =>
    refine bracket ?_
    unfold parT
    rw [if_pos]
    exact .inr (.inr (.inl rfl))

/-- An application, or a leaf. -/
theorem app35 {d o m : Nat} {t : Tm} {rest : List (List UInt8)} (ha : all.length ≤ 2000) (hd : d < 8000) (h : Rg d (m + 1) t) (ht : kT t = 6 ∨ kT t = 1 ∨ kT t = 2 ∨ kT t = 3) (hs : stopL rest) (hdr : all.drop o = tok t d ++ rest)
    (ih : ∀ b, Rg d m b → ∀ o r, stopL r → all.drop o = tok b d ++ r → Pf 35 [.ptr S 0] N S W all (vns d) o (tok b d).length b) : Pf 35 [.ptr S 0] N S W all (vns d) o (tok t d).length t := by
  have hpt : parT (kT t) false (tok t d) = tok t d := by
    unfold parT
    rw [if_neg]
    simp only [Bool.false_eq_true, and_false, or_false]
    omega
  have htok := tok_spine t d
  rw [hpt] at htok
  have hhd := hd_part h
  -- the head
  have hdr2 : all.drop o = parT (kT (hdT t)) false (tok (hdT t) d) ++ ((argsT t).flatMap (argK d) ++ rest) := by rw [hdr, htok, List.append_assoc]
  have hH : Pf 86 [.ptr S 0] N S W all (vns d) o (parT (kT (hdT t)) false (tok (hdT t) d)).length (hdT t) := by
    rcases ht with h6 | h6
    · exact atom86 ha hd (hd_lt h h6) (fun _ => hhd.2) hdr2 (fun o r h1 h2 => ih _ (hd_lt h h6) o r h1 h2)
    · cases t with
      | nd0 k n s =>
        have e : parT (kT (hdT (.nd0 k n s))) false (tok (hdT (.nd0 k n s)) d) = [pr (.nd0 k n s) d] := by
          unfold parT
          rw [if_neg (by simp only [kT, hdT] at *; omega)]
          rfl
        rw [e] at hdr2 ⊢
        exact leaf86 ha hd h hdr2
      | nd2 k a b => have := h.1.1; simp only [kT] at h6; omega
      | nd3 a b c => simp only [kT] at h6; omega
  -- what it is applied to
  have hA : ∀ b ∈ argsT t, ∀ o r, all.drop o = argK d b ++ r → Pf 86 [.ptr S 0] N S W all (vns d) o (argK d b).length b := by
    intro b hb o r h1
    have hb' := arg_part h b hb
    exact atom86 ha hd hb' (fun e => by cases e) h1 (fun o r h1 h2 => ih _ hb' o r h1 h2)
  have h66 := rt66 (rest := rest) (by omega) hs hH hA (drop_app hdr2)
  rw [← List.length_append, ← htok] at h66
  -- the word in front
  have hw : ∃ w r, all.drop o = w :: r ∧ strEq w [102, 117, 110] = false ∧ strEq w [112, 105] = false ∧ strEq w [108, 101, 116] = false := by
    unfold parT at hdr2
    split at hdr2
    · exact ⟨[40], _, by rw [hdr2]; simp; rfl, rfl, rfl, rfl⟩
    · rename_i hn
      obtain ⟨hR, h6⟩ := hhd
      generalize hdT t = x at hdr2 hn hR h6
      cases x with
      | nd0 k n s =>
        have hL := (leaf_word (d := d) hR.1).1
        exact ⟨pr (.nd0 k n s) d, _, by rw [hdr2]; rfl, hL.f, hL.p, hL.l⟩
      | nd2 k a b =>
        have := hR.1.1
        simp only [kT] at hn h6
        exact absurd (by rcases this with h | h | h
                         · exact .inl h
                         · exact .inr (.inl h)
                         · exact absurd h h6) hn
      | nd3 a b c => exact absurd (.inr (.inr (.inl rfl))) hn
  obtain ⟨w, r, g1, g2, g3, g4⟩ := hw
  exact rt35a (drop_at g1).1 g2 g3 g4 h66

theorem rt35 (ha : all.length ≤ 2000) : ∀ (m : Nat) (t : Tm) (d o : Nat) (rest : List (List UInt8)), Rg d m t → d + m ≤ 7000 → stopL rest → all.drop o = tok t d ++ rest → Pf 35 [.ptr S 0] N S W all (vns d) o (tok t d).length t := by
  intro m
  induction m with
  | zero =>
    intro t d o rest h
    have := size_pos t
    have := h.2.2
    omega
  | succ m ih =>
    intro t d o rest h hdm hs hdr
    have ih' : ∀ b, Rg d m b → ∀ o r, stopL r → all.drop o = tok b d ++ r → Pf 35 [.ptr S 0] N S W all (vns d) o (tok b d).length b := fun b hb o r h1 h2 => ih b d o r hb (by omega) h1 h2
    cases t with
    | nd0 k n s => exact app35 ha (by omega) h (by have := h.1.1; simp only [kT]; omega) hs hdr ih'
    | nd2 k a b =>
      obtain ⟨⟨hk, wa, wb⟩, hf, hsz⟩ := h
      have hf2 := free_2 k a b
      simp only [Tm.size] at hsz
      have ra : Rg d m a := ⟨wa, by omega, by omega⟩
      by_cases k6 : k = 6
      · exact app35 ha (by omega) ⟨⟨hk, wa, wb⟩, hf, by simp only [Tm.size]; omega⟩ (.inl k6) hs hdr ih'
      · have hu : und1 k = 1 := by unfold und1; rw [if_pos (by omega)]
        have rb : Rg (d + 1) m b := ⟨wb, by omega, by omega⟩
        by_cases k4 : k = 4
        · subst k4
          have e : tok (.nd2 4 a b) d = [[112, 105], vn d, [58]] ++ tok a d ++ [[44]] ++ tok b (d + 1) := by simp [tok]
          rw [e] at hdr ⊢
          have h1 : all.drop o = [112, 105] :: vn d :: [58] :: (tok a d ++ ([44] :: (tok b (d + 1) ++ rest))) := by rw [hdr]; simp
          obtain ⟨a1, h2⟩ := drop_at h1
          obtain ⟨a2, h3⟩ := drop_at h2
          obtain ⟨a3, h4⟩ := drop_at h3
          have h5 := drop_app h4
          obtain ⟨a4, h6⟩ := drop_at h5
          have := rt35p ha (by omega) a1 a2 a3 (ih a d _ _ ra (by omega) (stopL_of (.inr (.inl rfl))) h4) a4 (ih b (d + 1) _ _ rb (by omega) hs h6)
          have e2 : (([[112, 105], vn d, [58]] : List (List UInt8)) ++ tok a d ++ [[44]] ++ tok b (d + 1)).length = 3 + (tok a d).length + 1 + (tok b (d + 1)).length := by simp; omega
          rw [e2]
          exact this
        · have k5 : k = 5 := by omega
          subst k5
          have e : tok (.nd2 5 a b) d = [[102, 117, 110], vn d, [58]] ++ tok a d ++ [[61, 62]] ++ tok b (d + 1) := by simp [tok]
          rw [e] at hdr ⊢
          have h1 : all.drop o = [102, 117, 110] :: vn d :: [58] :: (tok a d ++ ([61, 62] :: (tok b (d + 1) ++ rest))) := by rw [hdr]; simp
          obtain ⟨a1, h2⟩ := drop_at h1
          obtain ⟨a2, h3⟩ := drop_at h2
          obtain ⟨a3, h4⟩ := drop_at h3
          have h5 := drop_app h4
          obtain ⟨a4, h6⟩ := drop_at h5
          have := rt35f ha (by omega) a1 a2 a3 (ih a d _ _ ra (by omega) (stopL_of (.inr (.inr (.inl rfl)))) h4) a4 (ih b (d + 1) _ _ rb (by omega) hs h6)
          have e2 : (([[102, 117, 110], vn d, [58]] : List (List UInt8)) ++ tok a d ++ [[61, 62]] ++ tok b (d + 1)).length = 3 + (tok a d).length + 1 + (tok b (d + 1)).length := by simp; omega
          rw [e2]
          exact this
    | nd3 a b c =>
      obtain ⟨⟨wa, wb, wc⟩, hf, hsz⟩ := h
      have hf3 := free_3 a b c
      simp only [Tm.size] at hsz
      have e : tok (.nd3 a b c) d = [[108, 101, 116], vn d, [58]] ++ tok a d ++ [[58, 61]] ++ tok b d ++ [[105, 110]] ++ tok c (d + 1) := by simp [tok]
      rw [e] at hdr ⊢
      have h1 : all.drop o = [108, 101, 116] :: vn d :: [58] :: (tok a d ++ ([58, 61] :: (tok b d ++ ([105, 110] :: (tok c (d + 1) ++ rest))))) := by rw [hdr]; simp
      obtain ⟨a1, h2⟩ := drop_at h1
      obtain ⟨a2, h3⟩ := drop_at h2
      obtain ⟨a3, h4⟩ := drop_at h3
      have h5 := drop_app h4
      obtain ⟨a4, h6⟩ := drop_at h5
      have h7 := drop_app h6
      obtain ⟨a5, h8⟩ := drop_at h7
      have := rt35l ha (by omega) a1 a2 a3 (ih a d _ _ ⟨wa, by omega, by omega⟩ (by omega) (stopL_of (.inr (.inr (.inr (.inl rfl))))) h4) a4 (ih b d _ _ ⟨wb, by omega, by omega⟩ (by omega) (stopL_of (.inr (.inr (.inr (.inr rfl))))) h6) a5
        (ih c (d + 1) _ _ ⟨wc, by omega, by omega⟩ (by omega) hs h8)
      have e2 : (([[108, 101, 116], vn d, [58]] : List (List UInt8)) ++ tok a d ++ [[58, 61]] ++ tok b d ++ [[105, 110]] ++ tok c (d + 1)).length = 3 + (tok a d).length + 1 + (tok b d).length + 1 + (tok c (d + 1)).length := by simp; omega
      rw [e2]
      exact this
end
end Go.Vd.L
