/- The parser: how many nodes there are; what is deferred. -/
import Derived.Test.YtabgoidablkmjaaGreatDoorYdF9
set_option linter.unusedVariables false
set_option linter.unusedSimpArgs false
namespace Go.Vd.L
open Go.Vd

def Cn (H0 : AH) (v : AV) (sz : Nat) : Prop :=
  ∀ (H : AH) (m : Nat), Grow H0 H → m + sz ≤ 3000 → Rt Ck 67 [v, .int .i64 m, .int .i64 (Int.ofNat 3001)] H fun r H' => r = .int .i64 (m + sz : Nat) ∧ Grow H H'

theorem cn_nil (H0 : AH) : Cn H0 .nilp 0 := by
  intro H m hG hm
  refine Rt.enter (af := c67) rfl rfl ?_
  repeat' (first | refine Wc.seq ?_ | refine Wc.reg ?_ | refine Wc.ret ?_ | refine Fin.seq ?_ | refine Fin.seq_ret ?_ | refine Wo.nil ?_ | refine Wc.cond_t rfl ?_ | refine Wo.skip rfl ?_ | refine Wo.val rfl (.mv rfl) ?_ | refine Wo.val rfl (.pick_t rfl rfl) ?_ | refine Wo.val rfl (.bin rfl rfl rfl) ?_)
  exact Fin.kret rfl ⟨rfl, Grow.refl H⟩

theorem addN {H : AH} {a : Nat} (h : a < 100000) : binV Ck H .add .int (.int .i64 (a : Nat)) (.int .i64 (Int.ofNat 1)) = some (.int .i64 (a + 1 : Nat)) := by
  show some (AV.int .i64 (IntKind.i64.wrap ((a : Int) + 1))) = _
  rw [show (a : Int) + 1 = ((a + 1 : Nat) : Int) by omega, wrap_i64 (by omega) (by omega)]

theorem cn_node {H0 : AH} {X : Nat} {k n : Int} {s : List UInt8} {a b c : AV} {sa sb sc : Nat} (hN : NdAt H0 X k n s a b c) (hl : X < H0.next) (h1 : [a, b, c].all AV.one = true) (h2 : a.cells = [a] ∧ b.cells = [b] ∧ c.cells = [c])
    (ha : Cn H0 a sa) (hb : Cn H0 b sb) (hc : Cn H0 c sc) : Cn H0 (.ptr X 0) (1 + sa + sb + sc) := by
  intro H m hG hm
  have hN1 : NdAt H X k n s a b c := by unfold NdAt at *; rw [hG.same X hl]; exact hN
  have b1 : binV Ck H .geq .int (.int .i64 (m : Nat)) (.int .i64 (Int.ofNat 3001)) = some (.bool false) := geF (by simp; omega)
  have b2 := addN (H := H) (a := m) (by omega)
  refine Rt.enter (af := c67) rfl rfl ?_
  repeat' (first | refine Wc.seq ?_ | refine Wc.reg ?_ | refine Wc.skip ?_ | refine Fin.seq ?_ | refine Wo.nil ?_ | refine Wc.cond_f rfl ?_ | refine Wo.val rfl (.mv rfl) ?_ | refine Wo.val rfl (.pick_f rfl rfl) ?_ | refine Wo.val rfl (.bin rfl rfl (by assumption)) ?_ | refine Wo.val rfl (.bin rfl rfl rfl) ?_)
  refine Wo.call rfl rfl (rt79 hN1 (Nat.lt_of_lt_of_le hl hG.next) h1 h2) ?_
  rintro _ H1 ⟨rfl, hE1⟩
  have hG1 := hG.trans (Ext.grow hE1)
  repeat' (first | refine Wc.block ?_ | refine Fin.seq ?_ | refine Wo.nil ?_ | refine Wo.val rfl (.mv rfl) ?_)
  refine Wc.loop ?_
  repeat' (first | refine Wc.seq ?_ | refine Wc.block ?_ | refine Wc.reg ?_ | refine Wc.skip ?_ | refine Fin.seq ?_ | refine Wo.nil ?_ | refine Wc.cond_t rfl ?_ | refine Wo.val rfl (.bin rfl rfl rfl) ?_)
  refine Wo.val rfl (.ixv rfl rfl (by decide) (by decide) rfl) ?_
  repeat' (first | refine Wc.reg ?_ | refine Fin.seq ?_ | refine Wo.nil ?_ | refine Wo.val rfl (.mv rfl) ?_)
  refine Wo.call rfl rfl (ha H1 (m + 1) hG1 (by omega)) ?_
  rintro _ H2 ⟨rfl, hg2⟩
  repeat' (first | refine Wc.reg ?_ | refine Fin.seq ?_ | refine Fin.block ?_ | refine Wo.nil ?_ | refine Wo.val rfl (.mv rfl) ?_ | refine Wo.val rfl (.bin rfl rfl rfl) ?_)
  refine Wc.loop ?_
  repeat' (first | refine Wc.seq ?_ | refine Wc.block ?_ | refine Wc.reg ?_ | refine Wc.skip ?_ | refine Fin.seq ?_ | refine Wo.nil ?_ | refine Wc.cond_t rfl ?_ | refine Wo.val rfl (.bin rfl rfl rfl) ?_)
  refine Wo.val rfl (.ixv rfl rfl (by decide) (by decide) rfl) ?_
  repeat' (first | refine Wc.reg ?_ | refine Fin.seq ?_ | refine Wo.nil ?_ | refine Wo.val rfl (.mv rfl) ?_)
  refine Wo.call rfl rfl (hb H2 (m + 1 + sa) (hG1.trans hg2) (by omega)) ?_
  rintro _ H3 ⟨rfl, hg3⟩
  repeat' (first | refine Wc.reg ?_ | refine Fin.seq ?_ | refine Fin.block ?_ | refine Wo.nil ?_ | refine Wo.val rfl (.mv rfl) ?_ | refine Wo.val rfl (.bin rfl rfl rfl) ?_)
  refine Wc.loop ?_
  repeat' (first | refine Wc.seq ?_ | refine Wc.block ?_ | refine Wc.reg ?_ | refine Wc.skip ?_ | refine Fin.seq ?_ | refine Wo.nil ?_ | refine Wc.cond_t rfl ?_ | refine Wo.val rfl (.bin rfl rfl rfl) ?_)
  refine Wo.val rfl (.ixv rfl rfl (by decide) (by decide) rfl) ?_
  repeat' (first | refine Wc.reg ?_ | refine Fin.seq ?_ | refine Wo.nil ?_ | refine Wo.val rfl (.mv rfl) ?_)
  refine Wo.call rfl rfl (hc H3 (m + 1 + sa + sb) (hG1.trans (hg2.trans hg3)) (by omega)) ?_
  rintro _ H4 ⟨rfl, hg4⟩
  repeat' (first | refine Wc.reg ?_ | refine Fin.seq ?_ | refine Fin.block ?_ | refine Wo.nil ?_ | refine Wo.val rfl (.mv rfl) ?_ | refine Wo.val rfl (.bin rfl rfl rfl) ?_)
  refine Wc.loop ?_
  repeat' (first | refine Wc.seq ?_ | refine Wc.reg ?_ | refine Wc.ret ?_ | refine Wc.exit ?_ | refine Fin.seq ?_ | refine Fin.seq_exit ?_ | refine Fin.block_here ?_ | refine Wo.nil ?_ | refine Wc.cond_f rfl ?_ | refine Wo.val rfl (.mv rfl) ?_ | refine Wo.val rfl (.bin rfl rfl rfl) ?_)
  refine Fin.kret rfl ⟨?_, (Ext.grow hE1).trans (hg2.trans (hg3.trans hg4))⟩
  simp only [oneR]
  congr 2
  omega

theorem cn_tree {H0 : AH} : ∀ {t : Tm} {lo X : Nat}, TreeAt lo H0 t X → Cn H0 (.ptr X 0) t.size
  | .nd0 k n s, lo, X, ⟨_, h1, h2⟩ => cn_node h2 h1 rfl ⟨rfl, rfl, rfl⟩ (cn_nil H0) (cn_nil H0) (cn_nil H0)
  | .nd2 k a b, lo, X, ⟨_, h1, Y, Z, h2, h3, h4⟩ => cn_node h2 h1 rfl ⟨rfl, rfl, rfl⟩ (cn_tree h3) (cn_tree h4) (cn_nil H0)
  | .nd3 a b c, lo, X, ⟨_, h1, Y, Z, W, h2, h3, h4, h5⟩ => cn_node h2 h1 rfl ⟨rfl, rfl, rfl⟩ (cn_tree h3) (cn_tree h4) (cn_tree h5)

theorem rt36 {t : Tm} {lo X : Nat} {H : AH} (hT : TreeAt lo H t X) (hs : t.size ≤ 3000) : Rt Ck 36 [.ptr X 0] H fun v H' => v = .int .i64 (t.size : Nat) ∧ Grow H H' := by
  refine Rt.enter (af := c36) rfl rfl ?_
  repeat' (first | refine Wc.seq ?_ | refine Wc.reg ?_ | refine Fin.seq ?_ | refine Wo.nil ?_ | refine Wo.val rfl (.mv rfl) ?_)
  refine Wo.call rfl rfl (cn_tree hT H 0 (Grow.refl H) (by omega)) ?_
  rintro _ H1 ⟨rfl, hG⟩
  repeat' (first | refine Wc.ret ?_ | refine Fin.seq ?_ | refine Wo.nil ?_ | refine Wo.val rfl (.mv rfl) ?_)
  refine Fin.kret rfl ⟨?_, hG⟩
  simp only [oneR, Nat.zero_add]

theorem rt32 (H : AH) : Rt Ck 32 [.nils] H fun v H' => v = .nils ∧ H' = H := by
  refine Rt.enter (af := c32) rfl rfl ?_
  repeat' (first | refine Wc.seq ?_ | refine Wc.reg ?_ | refine Wc.ret ?_ | refine Fin.seq ?_ | refine Fin.seq_ret ?_ | refine Wo.nil ?_ | refine Wc.cond_t rfl ?_ | refine Wo.val rfl (.mv rfl) ?_ | refine Wo.val rfl (.bin rfl rfl rfl) ?_)
  exact Fin.kret rfl ⟨rfl, rfl⟩

/-! ### What is deferred -/
def cell49 : AB := .cells [.int .i64 (Int.ofNat 0)] 49 0

theorem d33 (ih : Task → Option Out) (H : AH) (a b c d : AV) : defersR Ck ih [(33, [a, b, c, d])] H none = some (H.push cell49, none) := rfl

def kret33 (af : AF) (Q : AV → AH → Prop) : AEx → ASt → Prop := fun e s => (e = .normal ∨ e = .ret) ∧ (∃ a b c d, s.df = [(33, [a, b, c, d])]) ∧ ∃ vs, resR s.tm (s.hp.push cell49) af.res = some vs ∧ Q (oneR vs) (s.hp.push cell49)

theorem Fin.kret33 {af : AF} {R : AV → AH → Prop} {vs : List AV} {l : TL} {H : AH} {a b c d : AV} (h : resL l (H.push cell49) af.res = some vs) (hq : R (oneR vs) (H.push cell49)) : Fin (L.kret33 af R) .ret l [(33, [a, b, c, d])] H := by
  unfold Fin
  exact fun tm t => ⟨.inr rfl, ⟨a, b, c, d, rfl⟩, vs, resR_of t h, hq⟩

theorem Rt.enter33 {f : Nat} {xs : List AV} {af : AF} {R : AV → AH → Prop} {H : AH} (ho : Ck.orc f = none) (hf : Ck.fns f = some af) (h : Wc Ck af.code (zipl 0 xs) [] H (kret33 af R)) : Rt Ck f xs H R := by
  unfold Wc Wx at h
  obtain ⟨n, e, s', h1, he, ⟨a, b, c, d, hd⟩, vs, hv, hq⟩ := h _ (TmR.start xs)
  unfold Rt
  refine ⟨n + 1, oneR vs, s'.hp.push cell49, ?_, hq⟩
  have hl : leave Ck (run Ck n) af s' none = some (.call (.ret (oneR vs)) (s'.hp.push cell49)) := by
    unfold leave
    rw [hd, d33]
    simp only [hv, Option.isNone_none, Bool.true_or, if_true]
    match vs with
    | [] => rfl
    | [v] => rfl
    | a :: b :: r => rfl
  unfold run callR
  simp only [ho, hf, h1]
  rcases he with rfl | rfl
  · exact hl
  · exact hl
attribute [irreducible] kret33

theorem Wd.boxn {C : Ctx} {l : TL} {H : AH} {ls : List (List AOper)} {hv : List AOper} {d : Option Nat} {K' : AV → TL → AH → List AH → List (TL × AV) → Prop} {e : Nat} {x : Opd} {u : AV} {c : List AV} (hx : evL l x = some u) (hc : u.cells = c) (hone : c.all AV.one = true)
    (hk : ∀ H', H'.next = H.next + 1 → H'.get H.next = some (.cells c e 0) → (∀ Y, Y ≠ H.next → H'.get Y = H.get Y) → Wd C ls hv (putl l d (.ptr H.next 0)) H' (K' (.ptr H.next 0))) :
    ∃ v H', St C l H ⟨d, .box e x, none⟩ v H' ∧ Wd C ls hv (putl l d v) H' (K' v) := by
  subst hc
  exact Wd.val rfl (.box hx hone) (hk _ (AH.next_push _ _) (AH.get_push_self _ _) fun Y hY => AH.get_push_ne _ _ hY)
end Go.Vd.L
namespace Go.Vd.L
open Go.Vd

theorem resL3 {l : TL} {H : AH} {X Y Z : Nat} {a b c : AV} (h4 : look l 4 = some (.ptr X 0)) (h5 : look l 5 = some (.ptr Y 0)) (h6 : look l 6 = some (.ptr Z 0)) (r4 : H.rd X 0 = some a) (r5 : H.rd Y 0 = some b) (r6 : H.rd Z 0 = some c) :
    resL l H [(4, some none), (5, some none), (6, some none)] = some [a, b, c] := by
  simp only [resL, h4, h5, h6, r4, r5, r6]

theorem rt13 {H : AH} {t : Tm} {ws : AV} {N0 : Nat} (hWS : WS N0 H ws (tok t 0)) (hw : t.wf) (hf : freeN t ≤ 0) (hs : t.size ≤ 3000) (hl : (tok t 0).length ≤ 2000) :
    Rt Ck 13 [ws, .nils] H fun v H' => ∃ X K o c ex, v = .tup [.ptr X 0, .slc K o 0 c 1 ex, .nili] ∧ TreeAt H.next H' t X ∧ Grow H H' := by
  rcases hWS with ⟨h, _⟩ | ⟨_, K, rfl, hK, _, hKl⟩
  · exact absurd h (tok_ne t 0)
  generalize hall : tok t 0 = all at hK hl
  refine Rt.enter33 (af := c13) rfl rfl ?_
  repeat' (first | refine Wc.seq ?_ | refine Wc.reg ?_)
  refine Wo.boxn (c := [.slc K 0 all.length all.length 1 false]) rfl rfl rfl (fun H1 hn1 hX1 hs1 => ?_)
  skip
  refine Wo.allocn rfl (fun H2 hn2 hX2 hs2 => ?_)
  skip
  refine Wo.allocn rfl (fun H3 hn3 hX3 hs3 => ?_)
  skip
  refine Wo.allocn rfl (fun H4 hn4 hX4 hs4 => ?_)
  have g1 : H4.get H.next = some (.cells [.slc K 0 all.length all.length 1 false] 27 0) := by rw [hs4 _ (by omega), hs3 _ (by omega), hs2 _ (by omega)]; exact hX1
  have g2 : H4.get H1.next = some (.cells [.nilp] 23 0) := by rw [hs4 _ (by omega), hs3 _ (by omega)]; exact hX2
  have g3 : H4.get H2.next = some (.cells [.nils] 27 0) := by rw [hs4 _ (by omega)]; exact hX3
  have hG4 : Grow H H4 := ⟨by omega, fun Y hY => by rw [hs4 Y (by omega), hs3 Y (by omega), hs2 Y (by omega), hs1 Y (by omega)]⟩
  clear hX1 hX2 hX3
  repeat' (first | refine Wc.seq ?_ | refine Fin.seq ?_ | refine Wo.nil ?_)
  refine Wc.regd (Wd.step ?_)
  repeat' (first | refine Lx.val rfl (.mv rfl) ?_ | refine Lx.val rfl (.ld rfl (AH.rd_at (by assumption) (by exact rfl))) ?_)
  refine Lx.nil (Wd.call rfl rfl (rt32 H4) ?_)
  rintro _ Hx ⟨rfl, e⟩
  subst e
  refine Wd.step ?_
  repeat' refine Lx.val rfl (.build rfl rfl) ?_
  refine Lx.nil (Wd.boxn (c := [.slc K 0 all.length all.length 1 false, .nils]) rfl rfl rfl (fun H5 hn5 hX5 hs5 => ?_))
  have k1 : H5.get H.next = some (.cells [.slc K 0 all.length all.length 1 false] 27 0) := by rw [hs5 _ (by omega)]; exact g1
  have k2 : H5.get H1.next = some (.cells [.nilp] 23 0) := by rw [hs5 _ (by omega)]; exact g2
  have k3 : H5.get H2.next = some (.cells [.nils] 27 0) := by rw [hs5 _ (by omega)]; exact g3
  have k4 : H5.get H3.next = some (.cells [.nili] 31 0) := by rw [hs5 _ (by omega)]; exact hX4
  have hG5 : Grow H H5 := hG4.trans ⟨by omega, fun Y hY => hs5 Y (by omega)⟩
  refine Wd.last ?_
  repeat' refine Lx.val rfl (.mv rfl) ?_
  refine Lx.nil ⟨?_, ?_, ?_⟩
  · refine AgA.cons ?_ (AgA.cons ?_ (AgA.cons ?_ AgA.nil))
    · repeat' (first | exact Ag.nil | refine Ag.val rfl (.mv rfl) (by first | exact rfl | exact trivial) ?_ | refine Ag.val rfl (.ld rfl (AH.rd_at (by assumption) (by exact rfl))) (by first | exact rfl | exact trivial) ?_)
    · repeat' (first | exact Ag.nil | refine Ag.val rfl (.ld rfl (AH.rd_at (by assumption) (by exact rfl))) (by first | exact rfl | exact trivial) ?_ | refine Ag.val rfl (.build rfl rfl) (by first | exact rfl | exact trivial) ?_)
    · repeat' (first | exact Ag.nil | refine Ag.val rfl (.mv rfl) (by first | exact rfl | exact trivial) ?_)
  · repeat' (first | exact HvA.nil | exact Agr.nil | exact rfl | refine Agr.cons rfl rfl ?_ | refine HvA.cons ?_ ?_ ?_)
  · repeat' (first | refine Wc.seq ?_ | refine Wc.reg ?_ | refine Fin.seq ?_ | refine Wo.val rfl (.mkf rfl rfl) ?_)
    refine Wo.dfr rfl rfl rfl ?_
    repeat' (first | refine Wc.seq ?_ | refine Wc.reg ?_ | refine Fin.seq ?_ | refine Wo.nil ?_ | refine Wo.val rfl (.mv rfl) ?_)
    have hPS : PS Hx.next H5 Hx.next K 0 all (vns 0) .nils := by
      refine ⟨⟨all.length, 1, false, hX5, by omega, by omega, by rw [hG5.same K hKl]; exact hK⟩, .inl ⟨rfl, rfl⟩, fun V e => (by cases e), by have := hG4.next; omega, Nat.le_refl _, by omega⟩
    have hpf := rt35 (S := Hx.next) (N := Hx.next) (W := K) hl 3000 t 0 0 [] ⟨hw, hf, hs⟩ (by omega) (.inl rfl) (by rw [hall]; simp)
    rw [hall] at hpf
    refine Wo.call rfl rfl (hpf H5 .nils hPS) ?_
    rintro _ H6 ⟨X, nv6, rfl, hT6, hP6, hF6⟩
    have m2 : H6.get H1.next = some (.cells [.nilp] 23 0) := by rw [hF6.same _ (by omega) (by omega) (fun e => by cases e)]; exact k2
    have m3 : H6.get H2.next = some (.cells [.nils] 27 0) := by rw [hF6.same _ (by omega) (by omega) (fun e => by cases e)]; exact k3
    have m4 : H6.get H3.next = some (.cells [.nili] 31 0) := by rw [hF6.same _ (by omega) (by omega) (fun e => by cases e)]; exact k4
    have hG6 : ∀ Y, Y < H.next → H6.get Y = H.get Y := fun Y hY => by
      have := hG4.next
      rw [hF6.same Y (by omega) (by omega) (fun e => by cases e), hG5.same Y hY]
    have l4 := hG4.next
    have l6 := hF6.next
    clear k1 k2 k3 k4 g1 g2 g3
    skip
    refine Wo.st1 (c' := [.ptr X 0]) rfl rfl m2 rfl rfl rfl rfl rfl (fun H7 hn7 hX7 hs7 => ?_)
    have hP6' := hP6
    obtain ⟨⟨cap6, fl6, ex6, hS6, ho6, hc6, hW6⟩, _⟩ := hP6'
    rw [Nat.zero_add, Nat.sub_self] at hS6
    have hT7 : TreeAt H5.next H7 t X := hT6.keepT (by omega) (fun Y c h1 h2 h3 => hs7 Y (by omega))
    have s7 : H7.get Hx.next = some (.cells [.slc K all.length 0 cap6 1 ex6, nv6] 68 0) := by rw [hs7 _ (by omega)]; exact hS6
    have m3' : H7.get H2.next = some (.cells [.nils] 27 0) := by rw [hs7 _ (by omega)]; exact m3
    have m4' : H7.get H3.next = some (.cells [.nili] 31 0) := by rw [hs7 _ (by omega)]; exact m4
    clear m2 m3 m4 hS6
    repeat' (first | refine Wc.seq ?_ | refine Wc.reg ?_ | refine Fin.seq ?_ | refine Wo.nil ?_ | refine Wo.val rfl (.ld rfl (AH.rd_at (by assumption) (by exact rfl))) ?_)
    refine Wo.call rfl rfl (rt36 hT7 hs) ?_
    rintro _ H8 ⟨rfl, hG8⟩
    have l8 := hG8.next
    have b1 : binV Ck H8 .gtr .int (.int .i64 (t.size : Nat)) (.int .i64 (Int.ofNat 3000)) = some (.bool false) := gtF (by simp; omega)
    have hT8 := hT7.grow hG8
    have s8 : H8.get Hx.next = some (.cells [.slc K all.length 0 cap6 1 ex6, nv6] 68 0) := by rw [hG8.same _ (by omega)]; exact s7
    have r2 : H8.get H1.next = some (.cells [.ptr X 0] 23 0) := by rw [hG8.same _ (by omega)]; exact hX7
    have r3 : H8.get H2.next = some (.cells [.nils] 27 0) := by rw [hG8.same _ (by omega)]; exact m3'
    have r4 : H8.get H3.next = some (.cells [.nili] 31 0) := by rw [hG8.same _ (by omega)]; exact m4'
    clear m3' m4' s7 hX7
    repeat' (first | refine Wc.seq ?_ | refine Wc.skip ?_ | refine Fin.seq ?_ | refine Wo.nil ?_ | refine Wc.cond_f rfl ?_ | refine Wo.val rfl (.bin rfl rfl (by assumption)) ?_)
    refine Wc.regd (Wd.step ?_)
    repeat' (first | refine Lx.val rfl (.mv rfl) ?_ | refine Lx.val rfl (.chk rfl rfl) ?_ | refine Lx.val rfl (.ld rfl (AH.rd_at (by assumption) (by exact rfl))) ?_ | refine Lx.val rfl (.fad rfl) ?_)
    refine Lx.nil (Wd.st1 (c' := [.ptr X 0]) rfl rfl r2 rfl rfl rfl rfl rfl (fun H9 hn9 hX9 hs9 => ?_))
    have s9 : H9.get Hx.next = some (.cells [.slc K all.length 0 cap6 1 ex6, nv6] 68 0) := by rw [hs9 _ (by omega)]; exact s8
    have r3' : H9.get H2.next = some (.cells [.nils] 27 0) := by rw [hs9 _ (by omega)]; exact r3
    have r4' : H9.get H3.next = some (.cells [.nili] 31 0) := by rw [hs9 _ (by omega)]; exact r4
    refine Wd.step (Lx.nil (Wd.st1 (c' := [.slc K all.length 0 cap6 1 ex6]) rfl rfl r3' rfl rfl rfl rfl rfl (fun H10 hn10 hX10 hs10 => ?_)))
    have r4'' : H10.get H3.next = some (.cells [.nili] 31 0) := by rw [hs10 _ (by omega)]; exact r4'
    refine Wd.step (Lx.nil (Wd.st1 (c' := [.nili]) rfl rfl r4'' rfl rfl rfl rfl rfl (fun H11 hn11 hX11 hs11 => ?_)))
    have e2 : H11.get H1.next = some (.cells [.ptr X 0] 23 0) := by rw [hs11 _ (by omega), hs10 _ (by omega)]; exact hX9
    have e3 : H11.get H2.next = some (.cells [.slc K all.length 0 cap6 1 ex6] 27 0) := by rw [hs11 _ (by omega)]; exact hX10
    refine Wd.last (Lx.nil ⟨?_, ?_, ?_⟩)
    · refine AgA.cons ?_ (AgA.cons ?_ (AgA.cons ?_ (AgA.cons ?_ AgA.nil)))
      · repeat' (first | exact Ag.nil | refine Ag.val rfl (.mv rfl) (by first | exact rfl | exact trivial) ?_ | refine Ag.val rfl (.chk rfl rfl) (by first | exact rfl | exact trivial) ?_ | refine Ag.val rfl (.ld rfl (AH.rd_at (by assumption) (by exact rfl))) (by first | exact rfl | exact trivial) ?_ | refine Ag.val rfl (.fad rfl) (by first | exact rfl | exact trivial) ?_)
      · repeat' (first | exact Ag.nil | refine Ag.val rfl (.mv rfl) (by first | exact rfl | exact trivial) ?_ | refine Ag.val rfl (.chk rfl rfl) (by first | exact rfl | exact trivial) ?_ | refine Ag.val rfl (.ld rfl (AH.rd_at (by assumption) (by exact rfl))) (by first | exact rfl | exact trivial) ?_ | refine Ag.val rfl (.fad rfl) (by first | exact rfl | exact trivial) ?_)
      · repeat' (exact Ag.nil)
      · repeat' (exact Ag.nil)
    · repeat' (first | exact HvA.nil | exact Agr.nil | exact trivial | refine Agr.cons rfl rfl ?_ | refine HvA.cons ?_ ?_ ?_)
    · repeat' (first | refine Wc.ret ?_ | refine Fin.seq ?_)
      have hlt : ∀ Y, Y < H11.next → (H11.push cell49).get Y = H11.get Y := fun Y hY => AH.get_push_ne _ _ (by omega)
      refine Fin.kret33 (resL3 rfl rfl rfl (AH.rd_at (by rw [hlt _ (by omega)]; exact e2) rfl) (AH.rd_at (by rw [hlt _ (by omega)]; exact e3) rfl) (AH.rd_at (by rw [hlt _ (by omega)]; exact hX11) rfl)) ⟨X, K, all.length, cap6, ex6, rfl, ?_, ?_⟩
      · refine (hT8.keepT (H' := H11.push cell49) (by rw [AH.next_push]; omega) (fun Y c h1 h2 h3 => ?_)).low (by omega)
        rw [hlt Y (by omega), hs11 Y (by omega), hs10 Y (by omega), hs9 Y (by omega)]
      · refine ⟨by rw [AH.next_push]; omega, fun Y hY => ?_⟩
        rw [hlt Y (by omega), hs11 Y (by omega), hs10 Y (by omega), hs9 Y (by omega), hG8.same Y (by omega), hs7 Y (by omega), hG6 Y hY]
end Go.Vd.L
