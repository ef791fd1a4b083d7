/- The printer: the terms. -/
import Derived.Test.YtabgoidablkmjaaGreatDoorYdD1
set_option linter.unusedVariables false
set_option linter.unusedSimpArgs false
namespace Go.Vd.L
open Go.Vd

def pr : Tm → Nat → List UInt8
  | .nd0 k n s, d => if k = 1 then [84, 121, 112, 101] ++ itoaD n.toNat else if k = 2 then 95 :: itoaD (d - 1 - n.toNat) else s ++ (if recB s then 64 :: itoaD n.toNat else [])
  | .nd2 k a b, d => if k = 6 then par (kT a) false (pr a d) ++ [32] ++ par (kT b) true (pr b d) else if k = 4 then head [112, 105] d ++ pr a d ++ [32, 44, 32] ++ pr b (d + 1) else head [102, 117, 110] d ++ pr a d ++ [32, 61, 62, 32] ++ pr b (d + 1)
  | .nd3 a b c, d => head [108, 101, 116] d ++ pr a d ++ [32, 58, 61, 32] ++ pr b d ++ [32, 105, 110, 32] ++ pr c (d + 1)

section
variable {H0 : AH} {P X d : Nat}

theorem sub_n {H : AH} {a b : Nat} (h : b ≤ a) (h2 : a < 100000000) : binV Ck H .sub .int (.int .i64 a) (.int .i64 b) = some (.int .i64 (a - b : Nat)) := by
  show some (AV.int .i64 (IntKind.i64.wrap ((a : Int) - (b : Int)))) = _
  rw [show (a : Int) - (b : Int) = ((a - b : Nat) : Int) by omega, wrap_i64 (by omega) (by omega)]
theorem add_1 {H : AH} {a : Nat} (h2 : a < 100000000) : binV Ck H .add .int (.int .i64 a) (.int .i64 (Int.ofNat 1)) = some (.int .i64 (a + 1 : Nat)) := by
  show some (AV.int .i64 (IntKind.i64.wrap ((a : Int) + 1))) = _
  rw [show (a : Int) + 1 = ((a + 1 : Nat) : Int) by omega, wrap_i64 (by omega) (by omega)]

set_option maxHeartbeats 4000000 in
theorem can1 {m : Nat} {s : List UInt8} (hPW : PW H0) (h2 : 2 < H0.next) (hP : H0.next ≤ P) (hXl : X < H0.next) (hN : NdAt H0 X 1 m s .nilp .nilp .nilp) (hm : m ≤ 9) : Can H0 P X d ([84, 121, 112, 101] ++ itoaD m) := by
    intro H K acc hG hK hB hl
    have hi := itoaD_len m
    refine Rt.enter (af := c28) rfl rfl ?_
    refine Wc.seq (Wc.reg ?_)
    refine Wo.boxn rfl rfl rfl (fun Ha na aa sa => ?_)
    refine Wo.boxn rfl rfl rfl (fun Hb nb ab sb => ?_)
    refine Wo.boxn rfl rfl rfl (fun Hc nc ac sc => ?_)
    have hg : Grow H Hc := ⟨by omega, fun Z hZ => by rw [sc Z (by omega), sb Z (by omega), sa Z (by omega)]⟩
    have hBc := hB.grow hg
    have hW0 : Wr P K H K Hc := hg.wr
    have hPl := hB.1
    have hKl := hB.2.1
    have hx : Bx Hc P K X d H.next Ha.next Hb.next := ⟨⟨by rw [sc _ (by omega), sb _ (by omega)]; exact aa, by rw [sc _ (by omega)]; exact ab, ac⟩, ⟨by omega, by omega, by omega⟩, ⟨by omega, by omega, by omega⟩, by omega, by omega, by omega⟩
    have hGc : Grow H0 Hc := hG.trans hg
    obtain ⟨⟨x3, x4, x5⟩, _⟩ := id hx
    have hPc := hPW.grow hGc h2
    have h2c : 2 < Hc.next := Nat.lt_of_lt_of_le h2 hGc.next
    have hN0 := hN
    unfold NdAt at hN0
    rw [← hGc.same X hXl] at hN0
    repeat' (first | refine Wc.seq ?_ | refine Wc.block ?_ | refine Wc.reg ?_ | refine Fin.seq ?_ | refine Wo.nil ?_ | refine Wc.cond_t rfl ?_ | refine Wo.val rfl (.mv rfl) ?_ | refine Wo.val rfl (.chk rfl rfl) ?_ | refine Wo.val rfl (.bin rfl rfl rfl) ?_ | refine Wo.val rfl (.fad rfl) ?_ | refine Wo.val rfl (.mkf rfl rfl) ?_ | refine Wo.val rfl (.ld rfl (AH.rd_at (by assumption) (by exact rfl))) ?_)
    refine Wc.regd (Wd.step ?_)
    repeat' (first | refine Lx.val rfl (.chk rfl rfl) ?_ | refine Lx.val rfl (.ld rfl (AH.rd_at (by assumption) (by exact rfl))) ?_ | refine Lx.val rfl (.fad rfl) ?_)
    refine Lx.nil (Wd.call rfl rfl (rt55 (by omega) hPc h2c) ?_)
    rintro _ H1 ⟨rfl, hg1⟩
    have hW1 : Wr P K Hc K H1 := hg1.wr
    have hx1 := hx.wr hW1
    obtain ⟨⟨x31, x41, x51⟩, _⟩ := id hx1
    have hB1 := hBc.grow hg1
    have hG1 := hGc.trans hg1
    have hN1 := hN
    unfold NdAt at hN1
    rw [← hG1.same X hXl] at hN1
    have c1 : binV Ck H1 .add .str (.str [84, 121, 112, 101]) (.str (itoaD m)) = some (.str ([84, 121, 112, 101] ++ itoaD m)) := cat_s (by simp; omega) rfl
    refine Wd.step ?_
    repeat' refine Lx.val rfl (.bin rfl rfl (by assumption)) ?_
    refine Lx.nil (Wd.call rfl rfl (rt53 hB1 (by simp) hl) ?_)
    rintro _ H2 ⟨K2, hB2, hW2⟩
    refine Wd.last (Lx.nil ⟨?_, ?_, ?_⟩)
    · refine AgA.cons ?_ (AgA.cons ?_ (AgA.cons Ag.nil AgA.nil))
      all_goals repeat' (first | exact Ag.nil | refine Ag.val rfl (.chk rfl rfl) (by first | exact rfl | exact trivial) ?_ | refine Ag.val rfl (.ld rfl (AH.rd_at (by assumption) (by exact rfl))) (by first | exact rfl | exact trivial) ?_ | refine Ag.val rfl (.bin rfl rfl (by assumption)) (by first | exact rfl | exact trivial) ?_ | refine Ag.val rfl (.fad rfl) (by first | exact rfl | exact trivial) ?_)
    · repeat' (first | exact HvA.nil | exact Agr.nil | exact rfl | refine Agr.cons rfl rfl ?_ | refine HvA.cons ?_ ?_ ?_)
    · repeat' refine Fin.block ?_
      exact Fin.kret_n rfl ⟨K2, hB2, (hW0.trans hW1).trans hW2⟩

set_option maxHeartbeats 4000000 in
theorem can2 {m : Nat} {s : List UInt8} (hPW : PW H0) (h2 : 2 < H0.next) (hP : H0.next ≤ P) (hXl : X < H0.next) (hN : NdAt H0 X 2 m s .nilp .nilp .nilp) (hm : m + 1 ≤ d) (hd : d ≤ 9000) : Can H0 P X d (95 :: itoaD (d - 1 - m)) := by
    intro H K acc hG hK hB hl
    refine Rt.enter (af := c28) rfl rfl ?_
    refine Wc.seq (Wc.reg ?_)
    refine Wo.boxn rfl rfl rfl (fun Ha na aa sa => ?_)
    refine Wo.boxn rfl rfl rfl (fun Hb nb ab sb => ?_)
    refine Wo.boxn rfl rfl rfl (fun Hc nc ac sc => ?_)
    have hg : Grow H Hc := ⟨by omega, fun Z hZ => by rw [sc Z (by omega), sb Z (by omega), sa Z (by omega)]⟩
    have hBc := hB.grow hg
    have hW0 : Wr P K H K Hc := hg.wr
    have hPl := hB.1
    have hKl := hB.2.1
    have hx : Bx Hc P K X d H.next Ha.next Hb.next := ⟨⟨by rw [sc _ (by omega), sb _ (by omega)]; exact aa, by rw [sc _ (by omega)]; exact ab, ac⟩, ⟨by omega, by omega, by omega⟩, ⟨by omega, by omega, by omega⟩, by omega, by omega, by omega⟩
    have hGc : Grow H0 Hc := hG.trans hg
    obtain ⟨⟨x3, x4, x5⟩, _⟩ := id hx
    have hPc := hPW.grow hGc h2
    have h2c : 2 < Hc.next := Nat.lt_of_lt_of_le h2 hGc.next
    have hN0 := hN
    unfold NdAt at hN0
    rw [← hGc.same X hXl] at hN0
    have f1 : binV Ck Hc .sub .int (.int .i64 d) (.int .i64 (Int.ofNat 1)) = some (.int .i64 (d - 1 : Nat)) := sub_n (b := 1) (by omega) (by omega)
    have f2 := sub_n (H := Hc) (a := d - 1) (b := m) (by omega) (by omega)
    repeat' (first | refine Wc.seq ?_ | refine Wc.block ?_ | refine Wc.reg ?_ | refine Fin.seq ?_ | refine Wo.nil ?_ | refine Wc.cond_t rfl ?_ | refine Wc.cond_f rfl ?_ | refine Wo.val rfl (.mv rfl) ?_ | refine Wo.val rfl (.chk rfl rfl) ?_ | refine Wo.val rfl (.bin rfl rfl rfl) ?_ | refine Wo.val rfl (.fad rfl) ?_ | refine Wo.val rfl (.mkf rfl rfl) ?_ | refine Wo.val rfl (.ld rfl (AH.rd_at (by assumption) (by exact rfl))) ?_)
    refine Wc.regd (Wd.step ?_)
    repeat' (first | refine Lx.val rfl (.chk rfl rfl) ?_ | refine Lx.val rfl (.ld rfl (AH.rd_at (by assumption) (by exact rfl))) ?_ | refine Lx.val rfl (.bin rfl rfl (by assumption)) ?_ | refine Lx.val rfl (.fad rfl) ?_)
    refine Lx.nil (Wd.call rfl rfl (rt54 (n := d - 1 - m) (by omega) hPc h2c) ?_)
    rintro _ H1 ⟨rfl, hg1⟩
    have hW1 : Wr P K Hc K H1 := hg1.wr
    have hx1 := hx.wr hW1
    obtain ⟨⟨x31, x41, x51⟩, _⟩ := id hx1
    have hB1 := hBc.grow hg1
    have hG1 := hGc.trans hg1
    have hN1 := hN
    unfold NdAt at hN1
    rw [← hG1.same X hXl] at hN1
    refine Wd.step ?_
    skip
    refine Lx.nil (Wd.call rfl rfl (rt53 hB1 (by simp) hl) ?_)
    rintro _ H2 ⟨K2, hB2, hW2⟩
    refine Wd.last (Lx.nil ⟨?_, ?_, ?_⟩)
    · refine AgA.cons ?_ (AgA.cons ?_ (AgA.cons Ag.nil AgA.nil))
      all_goals repeat' (first | exact Ag.nil | refine Ag.val rfl (.chk rfl rfl) (by first | exact rfl | exact trivial) ?_ | refine Ag.val rfl (.ld rfl (AH.rd_at (by assumption) (by exact rfl))) (by first | exact rfl | exact trivial) ?_ | refine Ag.val rfl (.bin rfl rfl (by assumption)) (by first | exact rfl | exact trivial) ?_ | refine Ag.val rfl (.fad rfl) (by first | exact rfl | exact trivial) ?_)
    · repeat' (first | exact HvA.nil | exact Agr.nil | exact rfl | refine Agr.cons rfl rfl ?_ | refine HvA.cons ?_ ?_ ?_)
    · repeat' refine Fin.block ?_
      exact Fin.kret_n rfl ⟨K2, hB2, (hW0.trans hW1).trans hW2⟩

set_option maxHeartbeats 4000000 in
theorem can3 {m : Nat} {s : List UInt8} (hPW : PW H0) (h2 : 2 < H0.next) (hP : H0.next ≤ P) (hXl : X < H0.next) (hN : NdAt H0 X 3 m s .nilp .nilp .nilp) (hs : nameB s = true) (hm : m ≤ 9) : Can H0 P X d (s ++ (if recB s then 64 :: itoaD m else [])) := by
    intro H K acc hG hK hB hl
    have hi := itoaD_len m
    have hne : s ≠ [] := by intro e; subst e; simp [nameB] at hs
    refine Rt.enter (af := c28) rfl rfl ?_
    refine Wc.seq (Wc.reg ?_)
    refine Wo.boxn rfl rfl rfl (fun Ha na aa sa => ?_)
    refine Wo.boxn rfl rfl rfl (fun Hb nb ab sb => ?_)
    refine Wo.boxn rfl rfl rfl (fun Hc nc ac sc => ?_)
    have hg : Grow H Hc := ⟨by omega, fun Z hZ => by rw [sc Z (by omega), sb Z (by omega), sa Z (by omega)]⟩
    have hBc := hB.grow hg
    have hW0 : Wr P K H K Hc := hg.wr
    have hPl := hB.1
    have hKl := hB.2.1
    have hx : Bx Hc P K X d H.next Ha.next Hb.next := ⟨⟨by rw [sc _ (by omega), sb _ (by omega)]; exact aa, by rw [sc _ (by omega)]; exact ab, ac⟩, ⟨by omega, by omega, by omega⟩, ⟨by omega, by omega, by omega⟩, by omega, by omega, by omega⟩
    have hGc : Grow H0 Hc := hG.trans hg
    obtain ⟨⟨x3, x4, x5⟩, _⟩ := id hx
    have hPc := hPW.grow hGc h2
    have h2c : 2 < Hc.next := Nat.lt_of_lt_of_le h2 hGc.next
    have hN0 := hN
    unfold NdAt at hN0
    rw [← hGc.same X hXl] at hN0
    have hl1 : acc.length + s.length ≤ 2147483648 := by simp only [List.length_append] at hl; omega
    repeat' (first | refine Wc.seq ?_ | refine Wc.block ?_ | refine Wc.reg ?_ | refine Fin.seq ?_ | refine Wo.nil ?_ | refine Wc.cond_t rfl ?_ | refine Wc.cond_f rfl ?_ | refine Wo.val rfl (.mv rfl) ?_ | refine Wo.val rfl (.chk rfl rfl) ?_ | refine Wo.val rfl (.bin rfl rfl rfl) ?_ | refine Wo.val rfl (.fad rfl) ?_ | refine Wo.val rfl (.mkf rfl rfl) ?_ | refine Wo.val rfl (.ld rfl (AH.rd_at (by assumption) (by exact rfl))) ?_)
    refine Wc.regd (Wd.step ?_)
    repeat' (first | refine Lx.val rfl (.chk rfl rfl) ?_ | refine Lx.val rfl (.ld rfl (AH.rd_at (by assumption) (by exact rfl))) ?_ | refine Lx.val rfl (.fad rfl) ?_)
    refine Lx.nil (Wd.call rfl rfl (rt53 hBc hne hl1) ?_)
    rintro _ H1 ⟨K1, hB1, hW1⟩
    have hT0 := hW0
    have hx0 := hx
    have hx1 := hx0.wr hW1
    have hT1 := hT0.trans hW1
    have hG1 : Grow H0 H1 := hT1.grow hG hP hK
    have hK1 : H0.next ≤ K1 := hT1.hi hG hK
    obtain ⟨⟨x31, x41, x51⟩, _⟩ := id hx1
    have hN1 := hN
    unfold NdAt at hN1
    rw [← hG1.same X hXl] at hN1
    refine Wd.last (Lx.nil ⟨?_, ?_, ?_⟩)
    · refine AgA.cons ?_ (AgA.cons Ag.nil AgA.nil)
      repeat' (first | exact Ag.nil | refine Ag.val rfl (.chk rfl rfl) (by first | exact rfl | exact trivial) ?_ | refine Ag.val rfl (.ld rfl (AH.rd_at (by assumption) (by exact rfl))) (by first | exact rfl | exact trivial) ?_ | refine Ag.val rfl (.fad rfl) (by first | exact rfl | exact trivial) ?_)
    · repeat' (first | exact HvA.nil | exact Agr.nil | exact rfl | refine Agr.cons rfl rfl ?_ | refine HvA.cons ?_ ?_ ?_)
    · repeat' (first | refine Wc.seq ?_ | refine Wc.reg ?_ | refine Fin.seq ?_ | refine Wo.val rfl (.chk rfl rfl) ?_ | refine Wo.val rfl (.fad rfl) ?_ | refine Wo.val rfl (.ld rfl (AH.rd_at (by assumption) (by exact rfl))) ?_)
      refine Wo.call rfl rfl (rt42 s (.inl hs) H1) ?_
      rintro _ H2 ⟨⟨r, rfl⟩, hE2⟩
      have hg2 : Grow H1 H2 := Ext.grow hE2
      have hB2 := hB1.grow hg2
      have hW2 : Wr P K1 H1 K1 H2 := hg2.wr
      have hx2 := hx1.wr hW2
      obtain ⟨⟨x32, x42, x52⟩, _⟩ := id hx2
      have hG2 := hG1.trans hg2
      have hN2 := hN
      unfold NdAt at hN2
      rw [← hG2.same X hXl] at hN2
      cases hr : recB s with
      | false =>
        repeat' (first | refine Wc.seq ?_ | refine Wc.reg ?_ | refine Wc.skip ?_ | refine Fin.seq ?_ | refine Fin.block ?_ | refine Wo.nil ?_ | refine Wc.cond_f rfl ?_ | refine Wo.val rfl (.mv rfl) ?_ | refine Wo.val rfl (.ext rfl rfl) ?_)
        refine Fin.kret_n rfl ⟨K1, ?_, hT1.trans hW2⟩
        simpa using hB2
      | true =>
        rw [hr] at hl
        simp only [if_true] at hl
        repeat' (first | refine Wc.seq ?_ | refine Wc.reg ?_ | refine Fin.seq ?_ | refine Wo.nil ?_ | refine Wc.cond_t rfl ?_ | refine Wo.val rfl (.mv rfl) ?_ | refine Wo.val rfl (.ext rfl rfl) ?_)
        refine Wc.regd (Wd.step ?_)
        repeat' (first | refine Lx.val rfl (.chk rfl rfl) ?_ | refine Lx.val rfl (.ld rfl (AH.rd_at (by assumption) (by exact rfl))) ?_ | refine Lx.val rfl (.fad rfl) ?_)
        refine Lx.nil (Wd.call rfl rfl (rt55 (n := m) (by omega) (hPW.grow hG2 h2) (Nat.lt_of_lt_of_le h2 hG2.next)) ?_)
        rintro _ H3 ⟨rfl, hg3⟩
        have hW3 : Wr P K1 H2 K1 H3 := hg3.wr
        have hx3 := hx2.wr hW3
        obtain ⟨⟨x33, x43, x53⟩, _⟩ := id hx3
        have hB3 := hB2.grow hg3
        have c1 : binV Ck H3 .add .str (.str [64]) (.str (itoaD m)) = some (.str (64 :: itoaD m)) := cat_s (by simp; omega) rfl
        refine Wd.step ?_
        repeat' refine Lx.val rfl (.bin rfl rfl (by assumption)) ?_
        refine Lx.nil (Wd.call rfl rfl (rt53 hB3 (by simp) (by simp only [List.length_append] at hl ⊢; omega)) ?_)
        rintro _ H4 ⟨K4, hB4, hW4⟩
        refine Wd.last (Lx.nil ⟨?_, ?_, ?_⟩)
        · refine AgA.cons ?_ (AgA.cons ?_ (AgA.cons Ag.nil AgA.nil))
          all_goals repeat' (first | exact Ag.nil | refine Ag.val rfl (.chk rfl rfl) (by first | exact rfl | exact trivial) ?_ | refine Ag.val rfl (.ld rfl (AH.rd_at (by assumption) (by exact rfl))) (by first | exact rfl | exact trivial) ?_ | refine Ag.val rfl (.bin rfl rfl (by assumption)) (by first | exact rfl | exact trivial) ?_ | refine Ag.val rfl (.fad rfl) (by first | exact rfl | exact trivial) ?_)
        · repeat' (first | exact HvA.nil | exact Agr.nil | exact rfl | refine Agr.cons rfl rfl ?_ | refine HvA.cons ?_ ?_ ?_)
        · repeat' refine Fin.block ?_
          refine Fin.kret_n rfl ⟨K4, ?_, ((hT1.trans hW2).trans hW3).trans hW4⟩
          simpa using hB4
end
end Go.Vd.L
namespace Go.Vd.L
open Go.Vd

section
variable {H0 : AH} {P X d : Nat}

set_option maxHeartbeats 4000000 in
theorem can6 {Y Z : Nat} {txa txb : List UInt8} {ka na kb nb : Int} {sa sb : List UInt8} {a1 a2 a3 b1 b2 b3 : AV} (hPW : PW H0) (h2 : 2 < H0.next) (hP : H0.next ≤ P) (hXl : X < H0.next) (hN : NdAt H0 X 6 0 [] (.ptr Y 0) (.ptr Z 0) .nilp)
    (hY : Y < H0.next) (hZ : Z < H0.next) (hNY : NdAt H0 Y ka na sa a1 a2 a3) (hNZ : NdAt H0 Z kb nb sb b1 b2 b3) (hCa : Can H0 P Y d txa) (hCb : Can H0 P Z d txb) : Can H0 P X d (par ka false txa ++ [32] ++ par kb true txb) := by
    intro H K acc hG hK hB hl
    simp only [List.length_append, List.length_cons, List.length_nil] at hl
    refine Rt.enter (af := c28) rfl rfl ?_
    refine Wc.seq (Wc.reg ?_)
    refine Wo.boxn rfl rfl rfl (fun Ha na aa sa => ?_)
    refine Wo.boxn rfl rfl rfl (fun Hb nb ab sb => ?_)
    refine Wo.boxn rfl rfl rfl (fun Hc nc ac sc => ?_)
    have hg : Grow H Hc := ⟨by omega, fun Z hZ => by rw [sc Z (by omega), sb Z (by omega), sa Z (by omega)]⟩
    have hBc := hB.grow hg
    have hW0 : Wr P K H K Hc := hg.wr
    have hPl := hB.1
    have hKl := hB.2.1
    have hx : Bx Hc P K X d H.next Ha.next Hb.next := ⟨⟨by rw [sc _ (by omega), sb _ (by omega)]; exact aa, by rw [sc _ (by omega)]; exact ab, ac⟩, ⟨by omega, by omega, by omega⟩, ⟨by omega, by omega, by omega⟩, by omega, by omega, by omega⟩
    have hGc : Grow H0 Hc := hG.trans hg
    obtain ⟨⟨x3, x4, x5⟩, _⟩ := id hx
    have hPc := hPW.grow hGc h2
    have h2c : 2 < Hc.next := Nat.lt_of_lt_of_le h2 hGc.next
    have hN0 := hN
    unfold NdAt at hN0
    rw [← hGc.same X hXl] at hN0
    have hT0 := hW0
    have hx0 := hx
    repeat' (first | refine Wc.seq ?_ | refine Wc.block ?_ | refine Wc.reg ?_ | refine Fin.seq ?_ | refine Wo.nil ?_ | refine Wc.cond_t rfl ?_ | refine Wc.cond_f rfl ?_ | refine Wo.val rfl (.mv rfl) ?_ | refine Wo.val rfl (.chk rfl rfl) ?_ | refine Wo.val rfl (.bin rfl rfl rfl) ?_ | refine Wo.val rfl (.fad rfl) ?_ | refine Wo.val rfl (.mkf rfl rfl) ?_ | refine Wo.val rfl (.ld rfl (AH.rd_at (by assumption) (by exact rfl))) ?_)
    refine Wc.regd (Wd.step ?_)
    repeat' (first | refine Lx.val rfl (.chk rfl rfl) ?_ | refine Lx.val rfl (.ld rfl (AH.rd_at (by assumption) (by exact rfl))) ?_ | refine Lx.val rfl (.fad rfl) ?_)
    refine Lx.nil (Wd.call rfl rfl (rt56 hCa hNY hY hGc hP hK hBc (by omega)) ?_)
    rintro _ H1 ⟨K1, hB1, hW1⟩
    have hx1 := hx0.wr hW1
    have hT1 := hT0.trans hW1
    have hG1 : Grow H0 H1 := hT1.grow hG hP hK
    have hK1 : H0.next ≤ K1 := hT1.hi hG hK
    obtain ⟨⟨x31, x41, x51⟩, _⟩ := id hx1
    have hN1 := hN
    unfold NdAt at hN1
    rw [← hG1.same X hXl] at hN1
    refine Wd.last (Lx.nil ⟨?_, ?_, ?_⟩)
    · refine AgA.cons ?_ (AgA.cons Ag.nil AgA.nil)
      repeat' (first | exact Ag.nil | refine Ag.val rfl (.chk rfl rfl) (by first | exact rfl | exact trivial) ?_ | refine Ag.val rfl (.ld rfl (AH.rd_at (by assumption) (by exact rfl))) (by first | exact rfl | exact trivial) ?_ | refine Ag.val rfl (.fad rfl) (by first | exact rfl | exact trivial) ?_)
    · repeat' (first | exact HvA.nil | exact Agr.nil | exact rfl | refine Agr.cons rfl rfl ?_ | refine HvA.cons ?_ ?_ ?_)
    · repeat' (first | refine Wc.seq ?_ | refine Wc.reg ?_ | refine Fin.seq ?_ | refine Wo.val rfl (.chk rfl rfl) ?_ | refine Wo.val rfl (.fad rfl) ?_ | refine Wo.val rfl (.ld rfl (AH.rd_at (by assumption) (by exact rfl))) ?_)
      refine Wo.call rfl rfl (rt53 hB1 (by simp) (by simp only [List.length_append, List.length_cons, List.length_nil]; omega)) ?_
      rintro _ H2 ⟨K2, hB2, hW2⟩
      have hx2 := hx1.wr hW2
      have hT2 := hT1.trans hW2
      have hG2 : Grow H0 H2 := hT2.grow hG hP hK
      have hK2 : H0.next ≤ K2 := hT2.hi hG hK
      obtain ⟨⟨x32, x42, x52⟩, _⟩ := id hx2
      have hN2 := hN
      unfold NdAt at hN2
      rw [← hG2.same X hXl] at hN2
      repeat' (first | refine Fin.seq ?_ | refine Wo.nil ?_)
      refine Wc.regd (Wd.step ?_)
      repeat' (first | refine Lx.val rfl (.chk rfl rfl) ?_ | refine Lx.val rfl (.ld rfl (AH.rd_at (by assumption) (by exact rfl))) ?_ | refine Lx.val rfl (.fad rfl) ?_)
      refine Lx.nil (Wd.call rfl rfl (rt56 hCb hNZ hZ hG2 hP hK2 hB2 (by simp only [List.length_append, List.length_cons, List.length_nil]; omega)) ?_)
      rintro _ H3 ⟨K3, hB3, hW3⟩
      refine Wd.last (Lx.nil ⟨?_, ?_, ?_⟩)
      · refine AgA.cons ?_ (AgA.cons Ag.nil AgA.nil)
        repeat' (first | exact Ag.nil | refine Ag.val rfl (.chk rfl rfl) (by first | exact rfl | exact trivial) ?_ | refine Ag.val rfl (.ld rfl (AH.rd_at (by assumption) (by exact rfl))) (by first | exact rfl | exact trivial) ?_ | refine Ag.val rfl (.fad rfl) (by first | exact rfl | exact trivial) ?_)
      · repeat' (first | exact HvA.nil | exact Agr.nil | exact rfl | refine Agr.cons rfl rfl ?_ | refine HvA.cons ?_ ?_ ?_)
      · repeat' refine Fin.block ?_
        refine Fin.kret_n rfl ⟨K3, ?_, hT2.trans hW3⟩
        simpa using hB3

set_option maxHeartbeats 4000000 in
theorem can4 {Y Z : Nat} {txa txb : List UInt8} (hPW : PW H0) (h2 : 2 < H0.next) (hP : H0.next ≤ P) (hXl : X < H0.next) (hN : NdAt H0 X 4 0 [] (.ptr Y 0) (.ptr Z 0) .nilp)
    (hd : d < 9000) (hCa : Can H0 P Y d txa) (hCb : Can H0 P Z (d + 1) txb) : Can H0 P X d (head [112, 105] d ++ txa ++ [32, 44, 32] ++ txb) := by
    intro H K acc hG hK hB hl
    simp only [List.length_append, List.length_cons, List.length_nil] at hl
    refine Rt.enter (af := c28) rfl rfl ?_
    refine Wc.seq (Wc.reg ?_)
    refine Wo.boxn rfl rfl rfl (fun Ha na aa sa => ?_)
    refine Wo.boxn rfl rfl rfl (fun Hb nb ab sb => ?_)
    refine Wo.boxn rfl rfl rfl (fun Hc nc ac sc => ?_)
    have hg : Grow H Hc := ⟨by omega, fun Z hZ => by rw [sc Z (by omega), sb Z (by omega), sa Z (by omega)]⟩
    have hBc := hB.grow hg
    have hW0 : Wr P K H K Hc := hg.wr
    have hPl := hB.1
    have hKl := hB.2.1
    have hx : Bx Hc P K X d H.next Ha.next Hb.next := ⟨⟨by rw [sc _ (by omega), sb _ (by omega)]; exact aa, by rw [sc _ (by omega)]; exact ab, ac⟩, ⟨by omega, by omega, by omega⟩, ⟨by omega, by omega, by omega⟩, by omega, by omega, by omega⟩
    have hGc : Grow H0 Hc := hG.trans hg
    obtain ⟨⟨x3, x4, x5⟩, _⟩ := id hx
    have hPc := hPW.grow hGc h2
    have h2c : 2 < Hc.next := Nat.lt_of_lt_of_le h2 hGc.next
    have hN0 := hN
    unfold NdAt at hN0
    rw [← hGc.same X hXl] at hN0
    have hT0 := hW0
    have hx0 := hx
    repeat' (first | refine Wc.seq ?_ | refine Wc.block ?_ | refine Wc.reg ?_ | refine Fin.seq ?_ | refine Wo.nil ?_ | refine Wc.cond_t rfl ?_ | refine Wc.cond_f rfl ?_ | refine Wo.val rfl (.mv rfl) ?_ | refine Wo.val rfl (.chk rfl rfl) ?_ | refine Wo.val rfl (.bin rfl rfl rfl) ?_ | refine Wo.val rfl (.fad rfl) ?_ | refine Wo.val rfl (.mkf rfl rfl) ?_ | refine Wo.val rfl (.ld rfl (AH.rd_at (by assumption) (by exact rfl))) ?_)
    refine Wo.vcall rfl rfl rfl rfl (rt52 (w := [112, 105]) (by decide) (by omega) hCa hN hXl hGc hP hK hBc hPW h2 hx (by simp only [List.length_append]; omega)) ?_
    rintro _ H1 ⟨K1, hB1, hW1⟩
    have hx1 := hx0.wr hW1
    have hT1 := hT0.trans hW1
    have hG1 : Grow H0 H1 := hT1.grow hG hP hK
    have hK1 : H0.next ≤ K1 := hT1.hi hG hK
    obtain ⟨⟨x31, x41, x51⟩, _⟩ := id hx1
    have hN1 := hN
    unfold NdAt at hN1
    rw [← hG1.same X hXl] at hN1
    repeat' (first | refine Wc.seq ?_ | refine Wc.reg ?_ | refine Fin.seq ?_ | refine Wo.nil ?_ | refine Wo.val rfl (.chk rfl rfl) ?_ | refine Wo.val rfl (.fad rfl) ?_ | refine Wo.val rfl (.ld rfl (AH.rd_at (by assumption) (by exact rfl))) ?_)
    refine Wo.call rfl rfl (rt53 hB1 (by simp) (by simp only [List.length_append, List.length_cons, List.length_nil]; omega)) ?_
    rintro _ H2 ⟨K2, hB2, hW2⟩
    have hx2 := hx1.wr hW2
    have hT2 := hT1.trans hW2
    have hG2 : Grow H0 H2 := hT2.grow hG hP hK
    have hK2 : H0.next ≤ K2 := hT2.hi hG hK
    obtain ⟨⟨x32, x42, x52⟩, _⟩ := id hx2
    have hN2 := hN
    unfold NdAt at hN2
    rw [← hG2.same X hXl] at hN2
    have f1 := add_1 (H := H2) (a := d) (by omega)
    repeat' (first | refine Fin.seq ?_ | refine Wo.nil ?_)
    refine Wc.regd (Wd.step ?_)
    repeat' (first | refine Lx.val rfl (.chk rfl rfl) ?_ | refine Lx.val rfl (.ld rfl (AH.rd_at (by assumption) (by exact rfl))) ?_ | refine Lx.val rfl (.bin rfl rfl (by assumption)) ?_ | refine Lx.val rfl (.fad rfl) ?_)
    refine Lx.nil (Wd.call rfl rfl (hCb H2 K2 _ hG2 hK2 hB2 (by simp only [List.length_append, List.length_cons, List.length_nil]; omega)) ?_)
    rintro _ H3 ⟨K3, hB3, hW3⟩
    refine Wd.last (Lx.nil ⟨?_, ?_, ?_⟩)
    · refine AgA.cons ?_ (AgA.cons Ag.nil AgA.nil)
      repeat' (first | exact Ag.nil | refine Ag.val rfl (.chk rfl rfl) (by first | exact rfl | exact trivial) ?_ | refine Ag.val rfl (.ld rfl (AH.rd_at (by assumption) (by exact rfl))) (by first | exact rfl | exact trivial) ?_ | refine Ag.val rfl (.bin rfl rfl (by assumption)) (by first | exact rfl | exact trivial) ?_ | refine Ag.val rfl (.fad rfl) (by first | exact rfl | exact trivial) ?_)
    · repeat' (first | exact HvA.nil | exact Agr.nil | exact rfl | refine Agr.cons rfl rfl ?_ | refine HvA.cons ?_ ?_ ?_)
    · repeat' refine Fin.block ?_
      refine Fin.kret_n rfl ⟨K3, ?_, hT2.trans hW3⟩
      simpa using hB3

set_option maxHeartbeats 4000000 in
theorem can5 {Y Z : Nat} {txa txb : List UInt8} (hPW : PW H0) (h2 : 2 < H0.next) (hP : H0.next ≤ P) (hXl : X < H0.next) (hN : NdAt H0 X 5 0 [] (.ptr Y 0) (.ptr Z 0) .nilp)
    (hd : d < 9000) (hCa : Can H0 P Y d txa) (hCb : Can H0 P Z (d + 1) txb) : Can H0 P X d (head [102, 117, 110] d ++ txa ++ [32, 61, 62, 32] ++ txb) := by
    intro H K acc hG hK hB hl
    simp only [List.length_append, List.length_cons, List.length_nil] at hl
    refine Rt.enter (af := c28) rfl rfl ?_
    refine Wc.seq (Wc.reg ?_)
    refine Wo.boxn rfl rfl rfl (fun Ha na aa sa => ?_)
    refine Wo.boxn rfl rfl rfl (fun Hb nb ab sb => ?_)
    refine Wo.boxn rfl rfl rfl (fun Hc nc ac sc => ?_)
    have hg : Grow H Hc := ⟨by omega, fun Z hZ => by rw [sc Z (by omega), sb Z (by omega), sa Z (by omega)]⟩
    have hBc := hB.grow hg
    have hW0 : Wr P K H K Hc := hg.wr
    have hPl := hB.1
    have hKl := hB.2.1
    have hx : Bx Hc P K X d H.next Ha.next Hb.next := ⟨⟨by rw [sc _ (by omega), sb _ (by omega)]; exact aa, by rw [sc _ (by omega)]; exact ab, ac⟩, ⟨by omega, by omega, by omega⟩, ⟨by omega, by omega, by omega⟩, by omega, by omega, by omega⟩
    have hGc : Grow H0 Hc := hG.trans hg
    obtain ⟨⟨x3, x4, x5⟩, _⟩ := id hx
    have hPc := hPW.grow hGc h2
    have h2c : 2 < Hc.next := Nat.lt_of_lt_of_le h2 hGc.next
    have hN0 := hN
    unfold NdAt at hN0
    rw [← hGc.same X hXl] at hN0
    have hT0 := hW0
    have hx0 := hx
    repeat' (first | refine Wc.seq ?_ | refine Wc.block ?_ | refine Wc.reg ?_ | refine Fin.seq ?_ | refine Wo.nil ?_ | refine Wc.cond_t rfl ?_ | refine Wc.cond_f rfl ?_ | refine Wo.val rfl (.mv rfl) ?_ | refine Wo.val rfl (.chk rfl rfl) ?_ | refine Wo.val rfl (.bin rfl rfl rfl) ?_ | refine Wo.val rfl (.fad rfl) ?_ | refine Wo.val rfl (.mkf rfl rfl) ?_ | refine Wo.val rfl (.ld rfl (AH.rd_at (by assumption) (by exact rfl))) ?_)
    refine Wo.vcall rfl rfl rfl rfl (rt52 (w := [102, 117, 110]) (by decide) (by omega) hCa hN hXl hGc hP hK hBc hPW h2 hx (by simp only [List.length_append]; omega)) ?_
    rintro _ H1 ⟨K1, hB1, hW1⟩
    have hx1 := hx0.wr hW1
    have hT1 := hT0.trans hW1
    have hG1 : Grow H0 H1 := hT1.grow hG hP hK
    have hK1 : H0.next ≤ K1 := hT1.hi hG hK
    obtain ⟨⟨x31, x41, x51⟩, _⟩ := id hx1
    have hN1 := hN
    unfold NdAt at hN1
    rw [← hG1.same X hXl] at hN1
    repeat' (first | refine Wc.seq ?_ | refine Wc.reg ?_ | refine Fin.seq ?_ | refine Wo.nil ?_ | refine Wo.val rfl (.chk rfl rfl) ?_ | refine Wo.val rfl (.fad rfl) ?_ | refine Wo.val rfl (.ld rfl (AH.rd_at (by assumption) (by exact rfl))) ?_)
    refine Wo.call rfl rfl (rt53 hB1 (by simp) (by simp only [List.length_append, List.length_cons, List.length_nil]; omega)) ?_
    rintro _ H2 ⟨K2, hB2, hW2⟩
    have hx2 := hx1.wr hW2
    have hT2 := hT1.trans hW2
    have hG2 : Grow H0 H2 := hT2.grow hG hP hK
    have hK2 : H0.next ≤ K2 := hT2.hi hG hK
    obtain ⟨⟨x32, x42, x52⟩, _⟩ := id hx2
    have hN2 := hN
    unfold NdAt at hN2
    rw [← hG2.same X hXl] at hN2
    have f1 := add_1 (H := H2) (a := d) (by omega)
    repeat' (first | refine Fin.seq ?_ | refine Wo.nil ?_)
    refine Wc.regd (Wd.step ?_)
    repeat' (first | refine Lx.val rfl (.chk rfl rfl) ?_ | refine Lx.val rfl (.ld rfl (AH.rd_at (by assumption) (by exact rfl))) ?_ | refine Lx.val rfl (.bin rfl rfl (by assumption)) ?_ | refine Lx.val rfl (.fad rfl) ?_)
    refine Lx.nil (Wd.call rfl rfl (hCb H2 K2 _ hG2 hK2 hB2 (by simp only [List.length_append, List.length_cons, List.length_nil]; omega)) ?_)
    rintro _ H3 ⟨K3, hB3, hW3⟩
    refine Wd.last (Lx.nil ⟨?_, ?_, ?_⟩)
    · refine AgA.cons ?_ (AgA.cons Ag.nil AgA.nil)
      repeat' (first | exact Ag.nil | refine Ag.val rfl (.chk rfl rfl) (by first | exact rfl | exact trivial) ?_ | refine Ag.val rfl (.ld rfl (AH.rd_at (by assumption) (by exact rfl))) (by first | exact rfl | exact trivial) ?_ | refine Ag.val rfl (.bin rfl rfl (by assumption)) (by first | exact rfl | exact trivial) ?_ | refine Ag.val rfl (.fad rfl) (by first | exact rfl | exact trivial) ?_)
    · repeat' (first | exact HvA.nil | exact Agr.nil | exact rfl | refine Agr.cons rfl rfl ?_ | refine HvA.cons ?_ ?_ ?_)
    · repeat' refine Fin.block ?_
      refine Fin.kret_n rfl ⟨K3, ?_, hT2.trans hW3⟩
      simpa using hB3

set_option maxHeartbeats 4000000 in
theorem can7 {Y Z V : Nat} {txa txb txc : List UInt8} (hPW : PW H0) (h2 : 2 < H0.next) (hP : H0.next ≤ P) (hXl : X < H0.next) (hN : NdAt H0 X 7 0 [] (.ptr Y 0) (.ptr Z 0) (.ptr V 0))
    (hd : d < 9000) (hCa : Can H0 P Y d txa) (hCb : Can H0 P Z d txb) (hCc : Can H0 P V (d + 1) txc) : Can H0 P X d (head [108, 101, 116] d ++ txa ++ [32, 58, 61, 32] ++ txb ++ [32, 105, 110, 32] ++ txc) := by
    intro H K acc hG hK hB hl
    simp only [List.length_append, List.length_cons, List.length_nil] at hl
    refine Rt.enter (af := c28) rfl rfl ?_
    refine Wc.seq (Wc.reg ?_)
    refine Wo.boxn rfl rfl rfl (fun Ha na aa sa => ?_)
    refine Wo.boxn rfl rfl rfl (fun Hb nb ab sb => ?_)
    refine Wo.boxn rfl rfl rfl (fun Hc nc ac sc => ?_)
    have hg : Grow H Hc := ⟨by omega, fun Z hZ => by rw [sc Z (by omega), sb Z (by omega), sa Z (by omega)]⟩
    have hBc := hB.grow hg
    have hW0 : Wr P K H K Hc := hg.wr
    have hPl := hB.1
    have hKl := hB.2.1
    have hx : Bx Hc P K X d H.next Ha.next Hb.next := ⟨⟨by rw [sc _ (by omega), sb _ (by omega)]; exact aa, by rw [sc _ (by omega)]; exact ab, ac⟩, ⟨by omega, by omega, by omega⟩, ⟨by omega, by omega, by omega⟩, by omega, by omega, by omega⟩
    have hGc : Grow H0 Hc := hG.trans hg
    obtain ⟨⟨x3, x4, x5⟩, _⟩ := id hx
    have hPc := hPW.grow hGc h2
    have h2c : 2 < Hc.next := Nat.lt_of_lt_of_le h2 hGc.next
    have hN0 := hN
    unfold NdAt at hN0
    rw [← hGc.same X hXl] at hN0
    have hT0 := hW0
    have hx0 := hx
    repeat' (first | refine Wc.seq ?_ | refine Wc.block ?_ | refine Wc.reg ?_ | refine Fin.seq ?_ | refine Wo.nil ?_ | refine Wc.cond_f rfl ?_ | refine Wo.val rfl (.mv rfl) ?_ | refine Wo.val rfl (.chk rfl rfl) ?_ | refine Wo.val rfl (.bin rfl rfl rfl) ?_ | refine Wo.val rfl (.fad rfl) ?_ | refine Wo.val rfl (.mkf rfl rfl) ?_ | refine Wo.val rfl (.ld rfl (AH.rd_at (by assumption) (by exact rfl))) ?_)
    refine Wo.vcall rfl rfl rfl rfl (rt52 (w := [108, 101, 116]) (by decide) (by omega) hCa hN hXl hGc hP hK hBc hPW h2 hx (by simp only [List.length_append]; omega)) ?_
    rintro _ H1 ⟨K1, hB1, hW1⟩
    have hx1 := hx0.wr hW1
    have hT1 := hT0.trans hW1
    have hG1 : Grow H0 H1 := hT1.grow hG hP hK
    have hK1 : H0.next ≤ K1 := hT1.hi hG hK
    obtain ⟨⟨x31, x41, x51⟩, _⟩ := id hx1
    have hN1 := hN
    unfold NdAt at hN1
    rw [← hG1.same X hXl] at hN1
    repeat' (first | refine Wc.seq ?_ | refine Wc.reg ?_ | refine Fin.seq ?_ | refine Wo.nil ?_ | refine Wo.val rfl (.chk rfl rfl) ?_ | refine Wo.val rfl (.fad rfl) ?_ | refine Wo.val rfl (.ld rfl (AH.rd_at (by assumption) (by exact rfl))) ?_)
    refine Wo.call rfl rfl (rt53 hB1 (by simp) (by simp only [List.length_append, List.length_cons, List.length_nil]; omega)) ?_
    rintro _ H2 ⟨K2, hB2, hW2⟩
    have hx2 := hx1.wr hW2
    have hT2 := hT1.trans hW2
    have hG2 : Grow H0 H2 := hT2.grow hG hP hK
    have hK2 : H0.next ≤ K2 := hT2.hi hG hK
    obtain ⟨⟨x32, x42, x52⟩, _⟩ := id hx2
    have hN2 := hN
    unfold NdAt at hN2
    rw [← hG2.same X hXl] at hN2
    repeat' (first | refine Wc.seq ?_ | refine Fin.seq ?_ | refine Wo.nil ?_)
    refine Wc.regd (Wd.step ?_)
    repeat' (first | refine Lx.val rfl (.chk rfl rfl) ?_ | refine Lx.val rfl (.ld rfl (AH.rd_at (by assumption) (by exact rfl))) ?_ | refine Lx.val rfl (.fad rfl) ?_)
    refine Lx.nil (Wd.call rfl rfl (hCb H2 K2 _ hG2 hK2 hB2 (by simp only [List.length_append, List.length_cons, List.length_nil]; omega)) ?_)
    rintro _ H3 ⟨K3, hB3, hW3⟩
    have hx3 := hx2.wr hW3
    have hT3 := hT2.trans hW3
    have hG3 : Grow H0 H3 := hT3.grow hG hP hK
    have hK3 : H0.next ≤ K3 := hT3.hi hG hK
    obtain ⟨⟨x33, x43, x53⟩, _⟩ := id hx3
    have hN3 := hN
    unfold NdAt at hN3
    rw [← hG3.same X hXl] at hN3
    refine Wd.last (Lx.nil ⟨?_, ?_, ?_⟩)
    · refine AgA.cons ?_ (AgA.cons Ag.nil AgA.nil)
      repeat' (first | exact Ag.nil | refine Ag.val rfl (.chk rfl rfl) (by first | exact rfl | exact trivial) ?_ | refine Ag.val rfl (.ld rfl (AH.rd_at (by assumption) (by exact rfl))) (by first | exact rfl | exact trivial) ?_ | refine Ag.val rfl (.fad rfl) (by first | exact rfl | exact trivial) ?_)
    · repeat' (first | exact HvA.nil | exact Agr.nil | exact rfl | refine Agr.cons rfl rfl ?_ | refine HvA.cons ?_ ?_ ?_)
    · repeat' (first | refine Wc.seq ?_ | refine Wc.reg ?_ | refine Fin.seq ?_ | refine Wo.val rfl (.chk rfl rfl) ?_ | refine Wo.val rfl (.fad rfl) ?_ | refine Wo.val rfl (.ld rfl (AH.rd_at (by assumption) (by exact rfl))) ?_)
      refine Wo.call rfl rfl (rt53 hB3 (by simp) (by simp only [List.length_append, List.length_cons, List.length_nil]; omega)) ?_
      rintro _ H4 ⟨K4, hB4, hW4⟩
      have hx4 := hx3.wr hW4
      have hT4 := hT3.trans hW4
      have hG4 : Grow H0 H4 := hT4.grow hG hP hK
      have hK4 : H0.next ≤ K4 := hT4.hi hG hK
      obtain ⟨⟨x34, x44, x54⟩, _⟩ := id hx4
      have hN4 := hN
      unfold NdAt at hN4
      rw [← hG4.same X hXl] at hN4
      have f1 := add_1 (H := H4) (a := d) (by omega)
      repeat' (first | refine Fin.seq ?_ | refine Wo.nil ?_)
      refine Wc.regd (Wd.step ?_)
      repeat' (first | refine Lx.val rfl (.chk rfl rfl) ?_ | refine Lx.val rfl (.ld rfl (AH.rd_at (by assumption) (by exact rfl))) ?_ | refine Lx.val rfl (.bin rfl rfl (by assumption)) ?_ | refine Lx.val rfl (.fad rfl) ?_)
      refine Lx.nil (Wd.call rfl rfl (hCc H4 K4 _ hG4 hK4 hB4 (by simp only [List.length_append, List.length_cons, List.length_nil]; omega)) ?_)
      rintro _ H5 ⟨K5, hB5, hW5⟩
      refine Wd.last (Lx.nil ⟨?_, ?_, ?_⟩)
      · refine AgA.cons ?_ (AgA.cons Ag.nil AgA.nil)
        repeat' (first | exact Ag.nil | refine Ag.val rfl (.chk rfl rfl) (by first | exact rfl | exact trivial) ?_ | refine Ag.val rfl (.ld rfl (AH.rd_at (by assumption) (by exact rfl))) (by first | exact rfl | exact trivial) ?_ | refine Ag.val rfl (.bin rfl rfl (by assumption)) (by first | exact rfl | exact trivial) ?_ | refine Ag.val rfl (.fad rfl) (by first | exact rfl | exact trivial) ?_)
      · repeat' (first | exact HvA.nil | exact Agr.nil | exact rfl | refine Agr.cons rfl rfl ?_ | refine HvA.cons ?_ ?_ ?_)
      · repeat' refine Fin.block ?_
        refine Fin.kret_n rfl ⟨K5, ?_, hT4.trans hW5⟩
        simpa using hB5
end
end Go.Vd.L
namespace Go.Vd.L
open Go.Vd

theorem TreeAt.node {lo : Nat} {H : AH} : ∀ {t : Tm} {X : Nat}, TreeAt lo H t X → X < H.next ∧ ∃ n s a b c, NdAt H X (kT t) n s a b c
  | .nd0 _ _ _, _, ⟨_, h, h1⟩ => ⟨h, _, _, _, _, _, h1⟩
  | .nd2 _ _ _, _, ⟨_, h, _, _, h1, _, _⟩ => ⟨h, _, _, _, _, _, h1⟩
  | .nd3 _ _ _, _, ⟨_, h, _, _, _, h1, _, _, _⟩ => ⟨h, _, _, _, _, _, h1⟩

section
variable {H0 : AH} {P : Nat}

theorem rt28 (hPW : PW H0) (h2 : 2 < H0.next) (hP : H0.next ≤ P) : ∀ (t : Tm) (lo X d : Nat), TreeAt lo H0 t X → t.wf → freeN t ≤ d → d + t.size ≤ 9000 → Can H0 P X d (pr t d)
  | .nd0 k n s, lo, X, d, hT, hw, hf, hs => by
    obtain ⟨_, hXl, hN⟩ := hT
    obtain ⟨hk, hl⟩ := hw
    rcases hk with rfl | rfl | rfl
    · simp only [leafB, if_true, Bool.and_eq_true, decide_eq_true_eq] at hl
      obtain ⟨m, rfl⟩ : ∃ m : Nat, n = m := ⟨n.toNat, by omega⟩
      have := can1 (m := m) (d := d) hPW h2 hP hXl hN (by omega)
      simpa [pr] using this
    · simp only [leafB, if_neg (show ¬ (2 : Int) = 1 by omega), if_true, Bool.and_eq_true, decide_eq_true_eq] at hl
      obtain ⟨m, rfl⟩ : ∃ m : Nat, n = m := ⟨n.toNat, by omega⟩
      simp only [freeN, if_true] at hf
      have := can2 (m := m) (d := d) hPW h2 hP hXl hN (by omega) (by omega)
      simpa [pr] using this
    · simp only [leafB, if_neg (show ¬ (3 : Int) = 1 by omega), if_neg (show ¬ (3 : Int) = 2 by omega), if_true, Bool.and_eq_true, decide_eq_true_eq] at hl
      obtain ⟨m, rfl⟩ : ∃ m : Nat, n = m := ⟨n.toNat, by omega⟩
      have := can3 (m := m) (d := d) hPW h2 hP hXl hN hl.1.1.1.1 (by omega)
      simpa [pr] using this
  | .nd2 k a b, lo, X, d, hT, hw, hf, hs => by
    obtain ⟨_, hXl, Y, Z, hN, hA, hB⟩ := hT
    obtain ⟨hk, wa, wb⟩ := hw
    simp only [Tm.size] at hs
    simp only [freeN, mxI] at hf
    rcases hk with rfl | rfl | rfl
    · have u : und1 4 = 1 := rfl
      rw [u] at hf
      have := can4 hPW h2 hP hXl hN (by omega) (rt28 hPW h2 hP a lo Y d hA wa (by omega) (by omega)) (rt28 hPW h2 hP b lo Z (d + 1) hB wb (by omega) (by omega))
      simpa [pr] using this
    · have u : und1 5 = 1 := rfl
      rw [u] at hf
      have := can5 hPW h2 hP hXl hN (by omega) (rt28 hPW h2 hP a lo Y d hA wa (by omega) (by omega)) (rt28 hPW h2 hP b lo Z (d + 1) hB wb (by omega) (by omega))
      simpa [pr] using this
    · have u : und1 6 = 0 := rfl
      rw [u] at hf
      obtain ⟨hY, na, sa, a1, a2, a3, hNa⟩ := hA.node
      obtain ⟨hZ, nb, sb, b1, b2, b3, hNb⟩ := hB.node
      have := can6 hPW h2 hP hXl hN hY hZ hNa hNb (rt28 hPW h2 hP a lo Y d hA wa (by omega) (by omega)) (rt28 hPW h2 hP b lo Z d hB wb (by omega) (by omega))
      simpa [pr] using this
  | .nd3 a b c, lo, X, d, hT, hw, hf, hs => by
    obtain ⟨_, hXl, Y, Z, V, hN, hA, hB, hC⟩ := hT
    obtain ⟨wa, wb, wc⟩ := hw
    simp only [Tm.size] at hs
    simp only [freeN, mxI] at hf
    have := can7 hPW h2 hP hXl hN (by omega) (rt28 hPW h2 hP a lo Y d hA wa (by omega) (by omega)) (rt28 hPW h2 hP b lo Z d hB wb (by omega) (by omega)) (rt28 hPW h2 hP c lo V (d + 1) hC wc (by omega) (by omega))
    simpa [pr] using this
end

theorem dig_len (n : Nat) : (itoaD n).length ≤ 4 := itoaD_len n
theorem head_len (w : List UInt8) (d : Nat) : (head w d).length ≤ w.length + 9 := by
  have := itoaD_len d
  simp [head]; omega
theorem par_le (k : Int) (arg : Bool) (s : List UInt8) : (par k arg s).length ≤ s.length + 4 := by
  unfold par
  split <;> simp <;> omega
theorem pr_len : ∀ (t : Tm) (d : Nat), t.wf → (pr t d).length ≤ 40 * t.size ∧ pr t d ≠ []
  | .nd0 k n s, d, hw => by
    have h1 := itoaD_len n.toNat
    have h2 := itoaD_len (d - 1 - n.toNat)
    simp only [pr, Tm.size]
    split
    · exact ⟨by simp; omega, by simp⟩
    · split
      · exact ⟨by simp; omega, by simp⟩
      · rename_i k1 k2
        have k3 : k = 3 := by have := hw.1; omega
        subst k3
        have hl := hw.2
        simp only [leafB, if_neg (show ¬ (3 : Int) = 1 by omega), if_neg (show ¬ (3 : Int) = 2 by omega), if_true, Bool.and_eq_true] at hl
        have hs := hl.1.1.1.1
        simp only [nameB, Bool.and_eq_true] at hs
        have hs1 := Nat.le_of_ble_eq_true hs.1.1.2
        have hs0 := Nat.le_of_ble_eq_true hs.1.1.1
        refine ⟨?_, ?_⟩
        · simp only [List.length_append]
          split
          · simp; omega
          · simp; omega
        · intro e
          rw [List.append_eq_nil_iff] at e
          rw [e.1] at hs0
          simp at hs0
  | .nd2 k a b, d, hw => by
    obtain ⟨_, wa, wb⟩ := hw
    have ha := pr_len a d wa
    have hb := pr_len b d wb
    have hb' := pr_len b (d + 1) wb
    have p1 := par_le (kT a) false (pr a d)
    have p2 := par_le (kT b) true (pr b d)
    have q1 := head_len [112, 105] d
    have q2 := head_len [102, 117, 110] d
    simp only [List.length_cons, List.length_nil] at q1 q2
    simp only [pr, Tm.size]
    split
    · exact ⟨by simp; omega, by simp⟩
    · split
      · exact ⟨by simp; omega, by simp⟩
      · exact ⟨by simp; omega, by simp⟩
  | .nd3 a b c, d, hw => by
    obtain ⟨wa, wb, wc⟩ := hw
    have ha := pr_len a d wa
    have hb := pr_len b d wb
    have hc := pr_len c (d + 1) wc
    have q1 := head_len [108, 101, 116] d
    simp only [List.length_cons, List.length_nil] at q1
    simp only [pr, Tm.size]
    exact ⟨by simp; omega, by simp⟩

theorem rt11 {t : Tm} {lo X : Nat} {H : AH} (hPW : PW H) (h2 : 2 < H.next) (hT : TreeAt lo H t X) (hw : t.wf) (hs : t.size ≤ 3000) (hf : freeN t = 0) :
    Rt Ck 11 [.ptr X 0] H fun v H' => v = .str (pr t 0) ∧ Grow H H' := by
  obtain ⟨hlen, hne⟩ := pr_len t 0 hw
  refine Rt.enter (af := c11) rfl rfl ?_
  repeat' (first | refine Wc.seq ?_ | refine Wc.reg ?_ | refine Fin.seq ?_ | refine Wo.nil ?_ | refine Wo.val rfl (.mv rfl) ?_)
  refine Wo.call rfl rfl (rt26 hT hw hs) ?_
  rintro _ H1 ⟨rfl, hG1⟩
  repeat' (first | refine Wo.val rfl (.mv rfl) ?_ | refine Wo.val rfl (.un rfl rfl) ?_)
  refine Wo.call rfl rfl (rt27 (hT.grow hG1) hw hs hf) ?_
  rintro _ H2 ⟨rfl, hG2⟩
  have hG12 := hG1.trans hG2
  repeat' (first | refine Wc.seq ?_ | refine Wc.reg ?_ | refine Wc.skip ?_ | refine Fin.seq ?_ | refine Wo.nil ?_ | refine Wc.cond_f rfl ?_ | refine Wo.val rfl (.pick_f rfl rfl) ?_ | refine Wo.val rfl (.bin rfl rfl rfl) ?_ | refine Wo.val rfl (.build rfl rfl) ?_)
  refine Wo.boxn rfl rfl rfl (fun H3 n3 a3 s3 => ?_)
  have hG23 : Grow H2 H3 := ⟨by omega, fun Z hZ => s3 Z (by omega)⟩
  have hG3 := hG12.trans hG23
  have hB3 : BufSt H3 H2.next H2.next [] := ⟨by omega, by omega, .nilp, .nils, a3, .inl rfl, .inl ⟨rfl, rfl, rfl⟩⟩
  repeat' (first | refine Wc.seq ?_ | refine Wc.reg ?_ | refine Fin.seq ?_ | refine Wo.nil ?_ | refine Wo.val rfl (.mv rfl) ?_)
  refine Wo.call rfl rfl (rt28 hPW h2 hG12.next t lo X 0 hT hw (by omega) (by omega) H3 H2.next [] hG3 hG12.next hB3 (by simp; omega)) ?_
  rintro _ H4 ⟨K4, hB4, hW4⟩
  rw [List.nil_append] at hB4
  repeat' (first | refine Wc.seq ?_ | refine Wc.reg ?_ | refine Fin.seq ?_ | refine Wo.nil ?_ | refine Wo.val rfl (.mv rfl) ?_ | refine Wo.val rfl (.chk rfl rfl) ?_ | refine Wo.val rfl (.fad rfl) ?_)
  refine Wo.call rfl rfl (rt29 hB4 hne (by omega)) ?_
  rintro _ H5 ⟨rfl, n5, s5⟩
  have hG4 := hW4.grow hG3 hG12.next hG12.next
  have hK4 := hW4.hi hG3 hG12.next
  repeat' (first | refine Wc.ret ?_ | refine Fin.seq ?_ | refine Wo.nil ?_ | refine Wo.val rfl (.mv rfl) ?_)
  exact Fin.kret rfl ⟨rfl, by have := hG4.next; omega, fun Y hY => by rw [s5 Y (by omega), hG4.same Y hY]⟩
end Go.Vd.L
