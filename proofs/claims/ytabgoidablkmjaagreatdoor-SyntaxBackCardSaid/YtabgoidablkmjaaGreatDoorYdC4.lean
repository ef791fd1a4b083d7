/- The program's terms: keywords, what a node bears. -/
import Derived.Test.YtabgoidablkmjaaGreatDoorYdC1
set_option linter.unusedVariables false
set_option linter.unusedSimpArgs false
namespace Go.Vd.L
open Go.Vd

def keys4 : List (List UInt8) := [[102, 117, 110], [112, 105], [108, 101, 116], [105, 110]]

theorem rt119 {A : Nat} {H : AH} (hA : H.get A = some (.cells (strs keys4) 9 0)) {s : List UInt8} (h1 : strEq s [102, 117, 110] = false) (h2 : strEq s [112, 105] = false) (h3 : strEq s [108, 101, 116] = false) (h4 : strEq s [105, 110] = false) :
    Rt Ck 119 [.slc A 0 4 4 1 true, .str s] H fun v H' => v = .int .i64 (.negSucc 0) ∧ H' = H := by
  have b1 : binV Ck H .eql .str (.str s) (.str [102, 117, 110]) = some (.bool false) := binV_sF h1
  have b2 : binV Ck H .eql .str (.str s) (.str [112, 105]) = some (.bool false) := binV_sF h2
  have b3 : binV Ck H .eql .str (.str s) (.str [108, 101, 116]) = some (.bool false) := binV_sF h3
  have b4 : binV Ck H .eql .str (.str s) (.str [105, 110]) = some (.bool false) := binV_sF h4
  refine Rt.enter (af := c119) rfl rfl ?_
  repeat' (first | refine Wc.seq ?_ | refine Wc.block ?_ | refine Wc.reg ?_ | refine Fin.seq ?_ | refine Wo.nil ?_ | refine Wo.val rfl (.mv rfl) ?_ | refine Wo.val rfl (.len rfl) ?_)
  refine Wc.loop ?_
  repeat' (first | refine Wc.seq ?_ | refine Wc.block ?_ | refine Wc.reg ?_ | refine Wc.skip ?_ | refine Fin.seq ?_ | refine Wo.nil ?_ | refine Wc.cond_t rfl ?_ | refine Wo.val rfl (.mv rfl) ?_ | refine Wo.val rfl (.bin rfl rfl rfl) ?_)
  refine Wo.val rfl (.ixs rfl rfl (by decide) (by decide) (by decide)) ?_
  repeat' (first | refine Wc.reg ?_ | refine Wc.skip ?_ | refine Fin.seq ?_ | refine Fin.block ?_ | refine Wo.nil ?_ | refine Wc.cond_f rfl ?_ | refine Wo.val rfl (.mv rfl) ?_ | refine Wo.val rfl (.ld rfl (AH.rd_at (by assumption) (by exact rfl))) ?_ | refine Wo.val rfl (.bin rfl rfl (by assumption)) ?_ | refine Wo.val rfl (.bin rfl rfl rfl) ?_)
  refine Wc.loop ?_
  repeat' (first | refine Wc.seq ?_ | refine Wc.block ?_ | refine Wc.reg ?_ | refine Wc.skip ?_ | refine Fin.seq ?_ | refine Wo.nil ?_ | refine Wc.cond_t rfl ?_ | refine Wo.val rfl (.mv rfl) ?_ | refine Wo.val rfl (.bin rfl rfl rfl) ?_)
  refine Wo.val rfl (.ixs rfl rfl (by decide) (by decide) (by decide)) ?_
  repeat' (first | refine Wc.reg ?_ | refine Wc.skip ?_ | refine Fin.seq ?_ | refine Fin.block ?_ | refine Wo.nil ?_ | refine Wc.cond_f rfl ?_ | refine Wo.val rfl (.mv rfl) ?_ | refine Wo.val rfl (.ld rfl (AH.rd_at (by assumption) (by exact rfl))) ?_ | refine Wo.val rfl (.bin rfl rfl (by assumption)) ?_ | refine Wo.val rfl (.bin rfl rfl rfl) ?_)
  refine Wc.loop ?_
  repeat' (first | refine Wc.seq ?_ | refine Wc.block ?_ | refine Wc.reg ?_ | refine Wc.skip ?_ | refine Fin.seq ?_ | refine Wo.nil ?_ | refine Wc.cond_t rfl ?_ | refine Wo.val rfl (.mv rfl) ?_ | refine Wo.val rfl (.bin rfl rfl rfl) ?_)
  refine Wo.val rfl (.ixs rfl rfl (by decide) (by decide) (by decide)) ?_
  repeat' (first | refine Wc.reg ?_ | refine Wc.skip ?_ | refine Fin.seq ?_ | refine Fin.block ?_ | refine Wo.nil ?_ | refine Wc.cond_f rfl ?_ | refine Wo.val rfl (.mv rfl) ?_ | refine Wo.val rfl (.ld rfl (AH.rd_at (by assumption) (by exact rfl))) ?_ | refine Wo.val rfl (.bin rfl rfl (by assumption)) ?_ | refine Wo.val rfl (.bin rfl rfl rfl) ?_)
  refine Wc.loop ?_
  repeat' (first | refine Wc.seq ?_ | refine Wc.block ?_ | refine Wc.reg ?_ | refine Wc.skip ?_ | refine Fin.seq ?_ | refine Wo.nil ?_ | refine Wc.cond_t rfl ?_ | refine Wo.val rfl (.mv rfl) ?_ | refine Wo.val rfl (.bin rfl rfl rfl) ?_)
  refine Wo.val rfl (.ixs rfl rfl (by decide) (by decide) (by decide)) ?_
  repeat' (first | refine Wc.reg ?_ | refine Wc.skip ?_ | refine Fin.seq ?_ | refine Fin.block ?_ | refine Wo.nil ?_ | refine Wc.cond_f rfl ?_ | refine Wo.val rfl (.mv rfl) ?_ | refine Wo.val rfl (.ld rfl (AH.rd_at (by assumption) (by exact rfl))) ?_ | refine Wo.val rfl (.bin rfl rfl (by assumption)) ?_ | refine Wo.val rfl (.bin rfl rfl rfl) ?_)
  refine Wc.loop ?_
  repeat' (first | refine Wc.seq ?_ | refine Wc.reg ?_ | refine Wc.ret ?_ | refine Wc.exit ?_ | refine Fin.seq ?_ | refine Fin.seq_exit ?_ | refine Fin.block_here ?_ | refine Wo.nil ?_ | refine Wc.cond_f rfl ?_ | refine Wo.val rfl (.mv rfl) ?_ | refine Wo.val rfl (.bin rfl rfl rfl) ?_)
  exact Fin.kret rfl ⟨rfl, rfl⟩

theorem rt108 {A : Nat} {H : AH} (hA : H.get A = some (.cells (strs keys4) 9 0)) {s : List UInt8} (h1 : strEq s [102, 117, 110] = false) (h2 : strEq s [112, 105] = false) (h3 : strEq s [108, 101, 116] = false) (h4 : strEq s [105, 110] = false) :
    Rt Ck 108 [.slc A 0 4 4 1 true, .str s] H fun v H' => v = .bool false ∧ H' = H := by
  refine Rt.enter (af := c108) rfl rfl ?_
  repeat' (first | refine Wc.seq ?_ | refine Wc.reg ?_ | refine Fin.seq ?_ | refine Wo.nil ?_ | refine Wo.val rfl (.mv rfl) ?_)
  refine Wo.call rfl rfl (rt119 hA h1 h2 h3 h4) ?_
  rintro _ _ ⟨rfl, rfl⟩
  repeat' (first | refine Wc.ret ?_ | refine Fin.seq ?_ | refine Wo.nil ?_ | refine Wo.val rfl (.mv rfl) ?_ | refine Wo.val rfl (.bin rfl rfl rfl) ?_)
  exact Fin.kret rfl ⟨rfl, rfl⟩

/-- isKeyword of what is no keyword. -/
theorem rt95 (s : List UInt8) (hk : keyW s = false) (H : AH) : Rt Ck 95 [.str s] H fun v H' => v = .bool false ∧ Ext 1 H H' := by
  rw [keyW_sort] at hk
  simp only [Bool.or_eq_false_iff] at hk
  obtain ⟨⟨⟨⟨h1, h2⟩, h3⟩, h4⟩, h5⟩ := hk
  refine Rt.enter (af := c95) rfl rfl ?_
  repeat' (first | refine Wc.seq ?_ | refine Wc.reg ?_ | refine Fin.seq ?_ | refine Wo.nil ?_ | refine Wo.val rfl (.mv rfl) ?_)
  refine Wo.call rfl rfl (rt69 s _ H) ?_
  rintro _ H0 ⟨rfl, e0⟩
  subst e0
  repeat' (first | refine Wc.seq ?_ | refine Wc.reg ?_ | refine Fin.seq ?_ | refine Wo.nil ?_ | refine Wo.val rfl (.mv rfl) ?_ | refine Wo.val rfl (.ext rfl rfl) ?_)
  refine Wo.val rfl (.bslice (r := strs keys4) rfl rfl rfl) ?_
  repeat' refine Wo.val rfl (.mv rfl) ?_
  refine Wo.call rfl rfl (rt108 (AH.get_push_self _ _) h1 h2 h3 h4) ?_
  rintro _ H1 ⟨rfl, e1⟩
  subst e1
  repeat' refine Wo.val rfl (.mv rfl) ?_
  refine Wo.branch rfl (fun c1 => ?_) (fun c1 => ?_)
  · have e1 : cutPre s [84, 121, 112, 101] = s.drop 4 := by simp [cutPre, c1]
    simp only [sortOK, c1, Bool.true_and] at h5
    rw [e1]
    generalize s.drop 4 = n at h5
    match n, h5 with
    | [], _ =>
      repeat' (first | refine Wc.ret ?_ | refine Fin.seq ?_ | refine Wo.nil ?_ | refine Wo.skip rfl ?_ | refine Wo.val rfl (.mv rfl) ?_ | refine Wo.val rfl (.pick_t rfl rfl) ?_ | refine Wo.val rfl (.pick_f rfl rfl) ?_ | refine Wo.val rfl (.bin rfl rfl rfl) ?_ | refine Wo.val rfl (.tlen rfl) ?_)
      exact Fin.kret rfl ⟨rfl, Ext.push _ _⟩
    | [b], h5 =>
      simp only [digitN] at h5
      repeat' (first | refine Wo.val rfl (.mv rfl) ?_ | refine Wo.val rfl (.pick_t rfl rfl) ?_ | refine Wo.val rfl (.bin rfl rfl rfl) ?_ | refine Wo.val rfl (.tlen rfl) ?_ | refine Wo.val rfl (.ixt rfl rfl (by decide) rfl) ?_)
      refine Wo.branch rfl (fun c2 => ?_) (fun c2 => ?_)
      · repeat' (first | refine Wc.ret ?_ | refine Fin.seq ?_ | refine Wo.nil ?_ | refine Wo.val rfl (.mv rfl) ?_ | refine Wo.val rfl (.pick_t rfl rfl) ?_ | refine Wo.val rfl (.pick_f rfl rfl) ?_ | refine Wo.val rfl (.bin rfl rfl rfl) ?_ | refine Wo.val rfl (.ixt rfl rfl (by decide) rfl) ?_)
        refine Fin.kret rfl ⟨?_, Ext.push _ _⟩
        rw [lo_dec] at c2
        rw [c2, Bool.true_and] at h5
        simp only [oneR]
        rw [hi_dec, h5]
      · repeat' (first | refine Wc.ret ?_ | refine Fin.seq ?_ | refine Wo.nil ?_ | refine Wo.skip rfl ?_ | refine Wo.val rfl (.mv rfl) ?_ | refine Wo.val rfl (.pick_f rfl rfl) ?_)
        exact Fin.kret rfl ⟨rfl, Ext.push _ _⟩
    | a :: b :: r, _ =>
      repeat' (first | refine Wc.ret ?_ | refine Fin.seq ?_ | refine Wo.nil ?_ | refine Wo.skip rfl ?_ | refine Wo.val rfl (.mv rfl) ?_ | refine Wo.val rfl (.pick_t rfl rfl) ?_ | refine Wo.val rfl (.pick_f rfl rfl) ?_ | refine Wo.val rfl (.bin rfl rfl rfl) ?_ | refine Wo.val rfl (.tlen rfl) ?_)
      exact Fin.kret rfl ⟨rfl, Ext.push _ _⟩
  · repeat' (first | refine Wc.ret ?_ | refine Fin.seq ?_ | refine Wo.nil ?_ | refine Wo.skip rfl ?_ | refine Wo.val rfl (.mv rfl) ?_ | refine Wo.val rfl (.pick_f rfl rfl) ?_)
    exact Fin.kret rfl ⟨rfl, Ext.push _ _⟩

theorem binV_ge {C : Ctx} {H : AH} {k : IntKind} {a b : Int} (h : b ≤ a) : binV C H .geq .int (.int k a) (.int k b) = some (.bool true) := by
  have h1 : binC .geq (AV.int k a) (AV.int k b) = none := rfl
  unfold binV
  rw [h1]
  show (match binY H .geq (.int k a) (.int k b) with | some v => some v | none => _) = _
  simp [binY, binA, intOp, h]
theorem binV_le {C : Ctx} {H : AH} {k : IntKind} {a b : Int} (h : a ≤ b) : binV C H .leq .int (.int k a) (.int k b) = some (.bool true) := by
  have h1 : binC .leq (AV.int k a) (AV.int k b) = none := rfl
  unfold binV
  rw [h1]
  show (match binY H .leq (.int k a) (.int k b) with | some v => some v | none => _) = _
  simp [binY, binA, intOp, h]

def kT : Tm → Int
  | .nd0 k _ _ => k
  | .nd2 k _ _ => k
  | .nd3 _ _ _ => 7
def nT : Tm → Int
  | .nd0 _ n _ => n
  | _ => 0
def sT : Tm → List UInt8
  | .nd0 _ _ s => s
  | _ => []

set_option maxHeartbeats 4000000 in
/-- What a right node bears is right. -/
theorem rt78 {t : Tm} (hw : t.wf) {H : AH} {X : Nat} {a b c : AV} (hX : NdAt H X (kT t) (nT t) (sT t) a b c) (hl : X < H.next) :
    Rt Ck 78 [.ptr X 0] H fun v H' => v = .tup [.int .i64 (partsI (kT t)), .bool true] ∧ Grow H H' := by
  unfold NdAt at hX
  have hname : nameB (sT t) = true ∨ sT t = [] := by
    cases t with
    | nd0 k n s =>
      obtain ⟨hk, hlf⟩ := hw
      rcases hk with rfl | rfl | rfl
      · simp only [leafB, if_true, Bool.and_eq_true] at hlf; exact .inr (strEq_iff hlf.1.1)
      · rw [leafB, if_neg (by omega), if_pos rfl] at hlf; simp only [Bool.and_eq_true] at hlf; exact .inr (strEq_iff hlf.1.1)
      · rw [leafB, if_neg (by omega), if_neg (by omega), if_pos rfl] at hlf; simp only [Bool.and_eq_true] at hlf; exact .inl hlf.1.1.1.1
    | nd2 _ _ _ => exact .inr rfl
    | nd3 _ _ _ => exact .inr rfl
  refine Rt.enter (af := c78) rfl rfl ?_
  repeat' (first | refine Wc.seq ?_ | refine Wc.reg ?_ | refine Fin.seq ?_ | refine Wo.nil ?_ | refine Wo.val rfl (.mv rfl) ?_ | refine Wo.val rfl (.chk rfl rfl) ?_ | refine Wo.val rfl (.ld rfl (AH.rd_at (by assumption) (by exact rfl))) ?_ | refine Wo.val rfl (.fad rfl) ?_)
  refine Wo.call rfl rfl (rt42 _ hname H) ?_
  rintro _ H1 ⟨⟨r, rfl⟩, hE⟩
  have hX1 := hE.get hl hX
  clear hX
  cases t with
  | nd2 k x y =>
    obtain ⟨hk, _, _⟩ := hw
    have hp : partsI k = 2 := by unfold partsI; rw [if_pos hk]
    simp only [kT, nT, sT] at *
    rw [hp]
    rcases hk with rfl | rfl | rfl
    · repeat' (first | refine Wc.seq ?_ | refine Wc.block ?_ | refine Wc.reg ?_ | refine Wc.skip ?_ | refine Wc.exit ?_ | refine Fin.seq ?_ | refine Fin.seq_exit ?_ | refine Fin.block ?_ | refine Fin.block_here ?_ | refine Fin.block_on rfl ?_ | refine Wo.nil ?_ | refine Wc.cond_t rfl ?_ | refine Wc.cond_f rfl ?_ | refine Wo.val rfl (.mv rfl) ?_ | refine Wo.val rfl (.chk rfl rfl) ?_ | refine Wo.val rfl (.ld rfl (AH.rd_at (by assumption) (by exact rfl))) ?_ | refine Wo.val rfl (.fad rfl) ?_ | refine Wo.val rfl (.ext rfl rfl) ?_ | refine Wo.val rfl (.bin rfl rfl rfl) ?_)
      refine Wc.regd (Wd.last ?_)
      repeat' (first | refine Lx.val rfl (.mv rfl) ?_ | refine Lx.val rfl (.pick_t rfl rfl) ?_ | refine Lx.val rfl (.chk rfl rfl) ?_ | refine Lx.val rfl (.bin rfl rfl rfl) ?_ | refine Lx.val rfl (.fad rfl) ?_ | refine Lx.val rfl (.ld rfl (AH.rd_at (by assumption) (by exact rfl))) ?_)
      refine Lx.nil ⟨AgA.cons ?_ AgA.nil, HvA.nil, ?_⟩
      · repeat' (first | exact Ag.nil | refine Ag.val rfl (.mv rfl) (by first | exact rfl | exact trivial) ?_ | refine Ag.val rfl (.pick_t rfl rfl) (by first | exact rfl | exact trivial) ?_ | refine Ag.val rfl (.chk rfl rfl) (by first | exact rfl | exact trivial) ?_ | refine Ag.val rfl (.bin rfl rfl rfl) (by first | exact rfl | exact trivial) ?_ | refine Ag.val rfl (.fad rfl) (by first | exact rfl | exact trivial) ?_ | refine Ag.val rfl (.ld rfl (AH.rd_at (by assumption) (by exact rfl))) (by first | exact rfl | exact trivial) ?_)
      repeat' (first | refine Wc.ret ?_ | refine Fin.seq ?_ | refine Fin.seq_ret ?_ | refine Fin.block_ret ?_)
      exact Fin.kret rfl ⟨rfl, Ext.grow hE⟩
    · repeat' (first | refine Wc.seq ?_ | refine Wc.block ?_ | refine Wc.reg ?_ | refine Wc.skip ?_ | refine Wc.exit ?_ | refine Fin.seq ?_ | refine Fin.seq_exit ?_ | refine Fin.block ?_ | refine Fin.block_here ?_ | refine Fin.block_on rfl ?_ | refine Wo.nil ?_ | refine Wc.cond_t rfl ?_ | refine Wc.cond_f rfl ?_ | refine Wo.val rfl (.mv rfl) ?_ | refine Wo.val rfl (.chk rfl rfl) ?_ | refine Wo.val rfl (.ld rfl (AH.rd_at (by assumption) (by exact rfl))) ?_ | refine Wo.val rfl (.fad rfl) ?_ | refine Wo.val rfl (.ext rfl rfl) ?_ | refine Wo.val rfl (.bin rfl rfl rfl) ?_)
      refine Wc.regd (Wd.last ?_)
      repeat' (first | refine Lx.val rfl (.mv rfl) ?_ | refine Lx.val rfl (.pick_t rfl rfl) ?_ | refine Lx.val rfl (.chk rfl rfl) ?_ | refine Lx.val rfl (.bin rfl rfl rfl) ?_ | refine Lx.val rfl (.fad rfl) ?_ | refine Lx.val rfl (.ld rfl (AH.rd_at (by assumption) (by exact rfl))) ?_)
      refine Lx.nil ⟨AgA.cons ?_ AgA.nil, HvA.nil, ?_⟩
      · repeat' (first | exact Ag.nil | refine Ag.val rfl (.mv rfl) (by first | exact rfl | exact trivial) ?_ | refine Ag.val rfl (.pick_t rfl rfl) (by first | exact rfl | exact trivial) ?_ | refine Ag.val rfl (.chk rfl rfl) (by first | exact rfl | exact trivial) ?_ | refine Ag.val rfl (.bin rfl rfl rfl) (by first | exact rfl | exact trivial) ?_ | refine Ag.val rfl (.fad rfl) (by first | exact rfl | exact trivial) ?_ | refine Ag.val rfl (.ld rfl (AH.rd_at (by assumption) (by exact rfl))) (by first | exact rfl | exact trivial) ?_)
      repeat' (first | refine Wc.ret ?_ | refine Fin.seq ?_ | refine Fin.seq_ret ?_ | refine Fin.block_ret ?_)
      exact Fin.kret rfl ⟨rfl, Ext.grow hE⟩
    · repeat' (first | refine Wc.seq ?_ | refine Wc.block ?_ | refine Wc.reg ?_ | refine Wc.skip ?_ | refine Wc.exit ?_ | refine Fin.seq ?_ | refine Fin.seq_exit ?_ | refine Fin.block_here ?_ | refine Fin.block_on rfl ?_ | refine Wo.nil ?_ | refine Wc.cond_t rfl ?_ | refine Wc.cond_f rfl ?_ | refine Wo.val rfl (.mv rfl) ?_ | refine Wo.val rfl (.chk rfl rfl) ?_ | refine Wo.val rfl (.ld rfl (AH.rd_at (by assumption) (by exact rfl))) ?_ | refine Wo.val rfl (.fad rfl) ?_ | refine Wo.val rfl (.ext rfl rfl) ?_ | refine Wo.val rfl (.bin rfl rfl rfl) ?_)
      refine Wc.regd (Wd.last ?_)
      repeat' (first | refine Lx.val rfl (.mv rfl) ?_ | refine Lx.val rfl (.pick_t rfl rfl) ?_ | refine Lx.val rfl (.chk rfl rfl) ?_ | refine Lx.val rfl (.bin rfl rfl rfl) ?_ | refine Lx.val rfl (.fad rfl) ?_ | refine Lx.val rfl (.ld rfl (AH.rd_at (by assumption) (by exact rfl))) ?_)
      refine Lx.nil ⟨AgA.cons ?_ AgA.nil, HvA.nil, ?_⟩
      · repeat' (first | exact Ag.nil | refine Ag.val rfl (.mv rfl) (by first | exact rfl | exact trivial) ?_ | refine Ag.val rfl (.pick_t rfl rfl) (by first | exact rfl | exact trivial) ?_ | refine Ag.val rfl (.chk rfl rfl) (by first | exact rfl | exact trivial) ?_ | refine Ag.val rfl (.bin rfl rfl rfl) (by first | exact rfl | exact trivial) ?_ | refine Ag.val rfl (.fad rfl) (by first | exact rfl | exact trivial) ?_ | refine Ag.val rfl (.ld rfl (AH.rd_at (by assumption) (by exact rfl))) (by first | exact rfl | exact trivial) ?_)
      repeat' (first | refine Wc.ret ?_ | refine Fin.seq ?_ | refine Fin.seq_ret ?_ | refine Fin.block_ret ?_)
      exact Fin.kret rfl ⟨rfl, Ext.grow hE⟩
  | nd3 x y z =>
    simp only [kT, nT, sT] at *
    rw [show partsI 7 = 3 by decide]
    repeat' (first | refine Wc.seq ?_ | refine Wc.block ?_ | refine Wc.reg ?_ | refine Wc.skip ?_ | refine Wc.exit ?_ | refine Fin.seq ?_ | refine Fin.seq_exit ?_ | refine Fin.block_here ?_ | refine Fin.block_on rfl ?_ | refine Wo.nil ?_ | refine Wc.cond_t rfl ?_ | refine Wc.cond_f rfl ?_ | refine Wo.val rfl (.mv rfl) ?_ | refine Wo.val rfl (.chk rfl rfl) ?_ | refine Wo.val rfl (.ld rfl (AH.rd_at (by assumption) (by exact rfl))) ?_ | refine Wo.val rfl (.fad rfl) ?_ | refine Wo.val rfl (.ext rfl rfl) ?_ | refine Wo.val rfl (.bin rfl rfl rfl) ?_)
    refine Wc.regd (Wd.last ?_)
    repeat' (first | refine Lx.val rfl (.mv rfl) ?_ | refine Lx.val rfl (.pick_t rfl rfl) ?_ | refine Lx.val rfl (.chk rfl rfl) ?_ | refine Lx.val rfl (.bin rfl rfl rfl) ?_ | refine Lx.val rfl (.fad rfl) ?_ | refine Lx.val rfl (.ld rfl (AH.rd_at (by assumption) (by exact rfl))) ?_)
    refine Lx.nil ⟨AgA.cons ?_ AgA.nil, HvA.nil, ?_⟩
    · repeat' (first | exact Ag.nil | refine Ag.val rfl (.mv rfl) (by first | exact rfl | exact trivial) ?_ | refine Ag.val rfl (.pick_t rfl rfl) (by first | exact rfl | exact trivial) ?_ | refine Ag.val rfl (.chk rfl rfl) (by first | exact rfl | exact trivial) ?_ | refine Ag.val rfl (.bin rfl rfl rfl) (by first | exact rfl | exact trivial) ?_ | refine Ag.val rfl (.fad rfl) (by first | exact rfl | exact trivial) ?_ | refine Ag.val rfl (.ld rfl (AH.rd_at (by assumption) (by exact rfl))) (by first | exact rfl | exact trivial) ?_)
    repeat' (first | refine Wc.ret ?_ | refine Fin.seq ?_ | refine Fin.seq_ret ?_ | refine Fin.block_ret ?_)
    exact Fin.kret rfl ⟨rfl, Ext.grow hE⟩
  | nd0 k n s =>
    simp only [kT, nT, sT] at *
    obtain ⟨hk, hlf⟩ := hw
    have hp : partsI k = 0 := by unfold partsI; rw [if_neg (by omega), if_neg (by omega)]
    rw [hp]
    rcases hk with rfl | rfl | rfl
    · simp only [leafB, if_true, Bool.and_eq_true, decide_eq_true_eq] at hlf
      obtain ⟨⟨h1, h2⟩, h3⟩ := hlf
      have := strEq_iff h1
      subst this
      have b1 : binV Ck H1 .geq .int (.int .i64 n) (.int .i64 (Int.ofNat 0)) = some (.bool true) := binV_ge (by simpa using h2)
      have b2 : binV Ck H1 .leq .int (.int .i64 n) (.int .i64 (Int.ofNat 9)) = some (.bool true) := binV_le (by simpa using h3)
      repeat' (first | refine Wc.seq ?_ | refine Wc.block ?_ | refine Wc.reg ?_ | refine Wc.exit ?_ | refine Fin.seq ?_ | refine Fin.seq_exit ?_ | refine Fin.block_here ?_ | refine Wo.nil ?_ | refine Wc.cond_t rfl ?_ | refine Wo.val rfl (.mv rfl) ?_ | refine Wo.val rfl (.chk rfl rfl) ?_ | refine Wo.val rfl (.ld rfl (AH.rd_at (by assumption) (by exact rfl))) ?_ | refine Wo.val rfl (.fad rfl) ?_ | refine Wo.val rfl (.ext rfl rfl) ?_ | refine Wo.val rfl (.bin rfl rfl rfl) ?_)
      refine Wc.regd (Wd.last ?_)
      repeat' (first | refine Lx.val rfl (.mv rfl) ?_ | refine Lx.val rfl (.pick_t rfl rfl) ?_ | refine Lx.val rfl (.chk rfl rfl) ?_ | refine Lx.val rfl (.ld rfl (AH.rd_at (by assumption) (by exact rfl))) ?_ | refine Lx.val rfl (.bin rfl rfl (by assumption)) ?_ | refine Lx.val rfl (.fad rfl) ?_ | refine Lx.val rfl (.bin rfl rfl rfl) ?_)
      refine Lx.nil ⟨AgA.cons ?_ AgA.nil, HvA.nil, ?_⟩
      · repeat' (first | exact Ag.nil | refine Ag.val rfl (.mv rfl) (by first | exact rfl | exact trivial) ?_ | refine Ag.val rfl (.pick_t rfl rfl) (by first | exact rfl | exact trivial) ?_ | refine Ag.val rfl (.chk rfl rfl) (by first | exact rfl | exact trivial) ?_ | refine Ag.val rfl (.ld rfl (AH.rd_at (by assumption) (by exact rfl))) (by first | exact rfl | exact trivial) ?_ | refine Ag.val rfl (.bin rfl rfl (by assumption)) (by first | exact rfl | exact trivial) ?_ | refine Ag.val rfl (.fad rfl) (by first | exact rfl | exact trivial) ?_ | refine Ag.val rfl (.bin rfl rfl rfl) (by first | exact rfl | exact trivial) ?_)
      repeat' (first | refine Wc.ret ?_ | refine Fin.seq ?_ | refine Fin.seq_ret ?_ | refine Fin.block_ret ?_)
      exact Fin.kret rfl ⟨rfl, Ext.grow hE⟩
    · rw [leafB, if_neg (by omega), if_pos rfl] at hlf
      simp only [Bool.and_eq_true, decide_eq_true_eq] at hlf
      obtain ⟨⟨h1, h2⟩, h3⟩ := hlf
      have := strEq_iff h1
      subst this
      have b1 : binV Ck H1 .geq .int (.int .i64 n) (.int .i64 (Int.ofNat 0)) = some (.bool true) := binV_ge (by simpa using h2)
      have b2 : binV Ck H1 .leq .int (.int .i64 n) (.int .i64 (Int.ofNat 100000)) = some (.bool true) := binV_le (by simpa using h3)
      repeat' (first | refine Wc.seq ?_ | refine Wc.block ?_ | refine Wc.reg ?_ | refine Wc.skip ?_ | refine Wc.exit ?_ | refine Fin.seq ?_ | refine Fin.seq_exit ?_ | refine Fin.block_here ?_ | refine Fin.block_on rfl ?_ | refine Wo.nil ?_ | refine Wc.cond_t rfl ?_ | refine Wc.cond_f rfl ?_ | refine Wo.val rfl (.mv rfl) ?_ | refine Wo.val rfl (.chk rfl rfl) ?_ | refine Wo.val rfl (.ld rfl (AH.rd_at (by assumption) (by exact rfl))) ?_ | refine Wo.val rfl (.fad rfl) ?_ | refine Wo.val rfl (.ext rfl rfl) ?_ | refine Wo.val rfl (.bin rfl rfl rfl) ?_)
      refine Wc.regd (Wd.last ?_)
      repeat' (first | refine Lx.val rfl (.mv rfl) ?_ | refine Lx.val rfl (.pick_t rfl rfl) ?_ | refine Lx.val rfl (.chk rfl rfl) ?_ | refine Lx.val rfl (.ld rfl (AH.rd_at (by assumption) (by exact rfl))) ?_ | refine Lx.val rfl (.bin rfl rfl (by assumption)) ?_ | refine Lx.val rfl (.fad rfl) ?_ | refine Lx.val rfl (.bin rfl rfl rfl) ?_)
      refine Lx.nil ⟨AgA.cons ?_ AgA.nil, HvA.nil, ?_⟩
      · repeat' (first | exact Ag.nil | refine Ag.val rfl (.mv rfl) (by first | exact rfl | exact trivial) ?_ | refine Ag.val rfl (.pick_t rfl rfl) (by first | exact rfl | exact trivial) ?_ | refine Ag.val rfl (.chk rfl rfl) (by first | exact rfl | exact trivial) ?_ | refine Ag.val rfl (.ld rfl (AH.rd_at (by assumption) (by exact rfl))) (by first | exact rfl | exact trivial) ?_ | refine Ag.val rfl (.bin rfl rfl (by assumption)) (by first | exact rfl | exact trivial) ?_ | refine Ag.val rfl (.fad rfl) (by first | exact rfl | exact trivial) ?_ | refine Ag.val rfl (.bin rfl rfl rfl) (by first | exact rfl | exact trivial) ?_)
      repeat' (first | refine Wc.ret ?_ | refine Fin.seq ?_ | refine Fin.seq_ret ?_ | refine Fin.block_ret ?_)
      exact Fin.kret rfl ⟨rfl, Ext.grow hE⟩
    · rw [leafB, if_neg (by omega), if_neg (by omega), if_pos rfl] at hlf
      simp only [Bool.and_eq_true, decide_eq_true_eq, Bool.not_eq_true'] at hlf
      obtain ⟨⟨⟨⟨h1, h2⟩, h3⟩, h4⟩, h5⟩ := hlf
      have b1 : ∀ H : AH, binV Ck H .geq .int (.int .i64 n) (.int .i64 (Int.ofNat 0)) = some (.bool true) := fun H => binV_ge (by simpa using h3)
      have b2 : ∀ H : AH, binV Ck H .leq .int (.int .i64 n) (.int .i64 (Int.ofNat 9)) = some (.bool true) := fun H => binV_le (by simpa using h4)
      cases hr : recB s with
      | true =>
        repeat' (first | refine Wc.seq ?_ | refine Wc.block ?_ | refine Wc.reg ?_ | refine Wc.skip ?_ | refine Wc.exit ?_ | refine Fin.seq ?_ | refine Fin.seq_exit ?_ | refine Fin.block_here ?_ | refine Fin.block_on rfl ?_ | refine Wo.nil ?_ | refine Wc.cond_t rfl ?_ | refine Wc.cond_f rfl ?_ | refine Wo.val rfl (.mv rfl) ?_ | refine Wo.val rfl (.chk rfl rfl) ?_ | refine Wo.val rfl (.ld rfl (AH.rd_at (by assumption) (by exact rfl))) ?_ | refine Wo.val rfl (.fad rfl) ?_ | refine Wo.val rfl (.ext rfl rfl) ?_ | refine Wo.val rfl (.bin rfl rfl rfl) ?_)
        refine Wc.regd (Wd.step ?_)
        repeat' (first | refine Lx.val rfl (.mv rfl) ?_ | refine Lx.val rfl (.chk rfl rfl) ?_ | refine Lx.val rfl (.ld rfl (AH.rd_at (by assumption) (by exact rfl))) ?_ | refine Lx.val rfl (.fad rfl) ?_)
        refine Lx.nil (Wd.call rfl rfl (rt45g s h1 H1) ?_)
        rintro _ H2 ⟨rfl, hE2⟩
        have hX2 := hE2.get (Nat.lt_of_lt_of_le hl hE.lo) hX1
        refine Wd.step ?_
        repeat' (first | refine Lx.val rfl (.mv rfl) ?_ | refine Lx.val rfl (.chk rfl rfl) ?_ | refine Lx.val rfl (.ld rfl (AH.rd_at (by assumption) (by exact rfl))) ?_ | refine Lx.val rfl (.fad rfl) ?_)
        refine Lx.nil (Wd.call rfl rfl (rt95 s h2 H2) ?_)
        rintro _ H3 ⟨rfl, hE3⟩
        have hX3 := hE3.get (Nat.lt_of_lt_of_le hl (Nat.le_trans hE.lo hE2.lo)) hX2
        have c1 := b1 H3
        have c2 := b2 H3
        refine Wd.last ?_
        repeat' (first | refine Lx.skip rfl ?_ | refine Lx.val rfl (.mv rfl) ?_ | refine Lx.val rfl (.pick_t rfl rfl) ?_ | refine Lx.val rfl (.chk rfl rfl) ?_ | refine Lx.val rfl (.ld rfl (AH.rd_at (by assumption) (by exact rfl))) ?_ | refine Lx.val rfl (.bin rfl rfl (by assumption)) ?_ | refine Lx.val rfl (.un rfl rfl) ?_ | refine Lx.val rfl (.fad rfl) ?_)
        refine Lx.nil ⟨?_, ?_, ?_⟩
        · repeat' (first | exact AgA.nil | refine AgA.cons ?_ ?_)
          all_goals repeat' (first | exact Ag.nil | refine Ag.skip rfl (by first | exact rfl | exact trivial) ?_ | refine Ag.val rfl (.mv rfl) (by first | exact rfl | exact trivial) ?_ | refine Ag.val rfl (.pick_t rfl rfl) (by first | exact rfl | exact trivial) ?_ | refine Ag.val rfl (.chk rfl rfl) (by first | exact rfl | exact trivial) ?_ | refine Ag.val rfl (.ld rfl (AH.rd_at (by assumption) (by exact rfl))) (by first | exact rfl | exact trivial) ?_ | refine Ag.val rfl (.bin rfl rfl (by assumption)) (by first | exact rfl | exact trivial) ?_ | refine Ag.val rfl (.un rfl rfl) (by first | exact rfl | exact trivial) ?_ | refine Ag.val rfl (.fad rfl) (by first | exact rfl | exact trivial) ?_)
        · repeat' (first | exact HvA.nil | exact Agr.nil | exact rfl | refine Agr.cons rfl rfl ?_ | refine HvA.cons ?_ ?_ ?_)
        · repeat' (first | refine Wc.ret ?_ | refine Fin.seq ?_ | refine Fin.seq_ret ?_ | refine Fin.block_ret ?_)
          exact Fin.kret rfl ⟨rfl, (Ext.grow hE).trans ((Ext.grow hE2).trans (Ext.grow hE3))⟩
      | false =>
        rw [hr, Bool.false_or, decide_eq_true_eq] at h5
        subst h5
        repeat' (first | refine Wc.seq ?_ | refine Wc.block ?_ | refine Wc.reg ?_ | refine Wc.skip ?_ | refine Wc.exit ?_ | refine Fin.seq ?_ | refine Fin.seq_exit ?_ | refine Fin.block_here ?_ | refine Fin.block_on rfl ?_ | refine Wo.nil ?_ | refine Wc.cond_t rfl ?_ | refine Wc.cond_f rfl ?_ | refine Wo.val rfl (.mv rfl) ?_ | refine Wo.val rfl (.chk rfl rfl) ?_ | refine Wo.val rfl (.ld rfl (AH.rd_at (by assumption) (by exact rfl))) ?_ | refine Wo.val rfl (.fad rfl) ?_ | refine Wo.val rfl (.ext rfl rfl) ?_ | refine Wo.val rfl (.bin rfl rfl rfl) ?_)
        refine Wc.regd (Wd.step ?_)
        repeat' (first | refine Lx.val rfl (.mv rfl) ?_ | refine Lx.val rfl (.chk rfl rfl) ?_ | refine Lx.val rfl (.ld rfl (AH.rd_at (by assumption) (by exact rfl))) ?_ | refine Lx.val rfl (.fad rfl) ?_)
        refine Lx.nil (Wd.call rfl rfl (rt45g s h1 H1) ?_)
        rintro _ H2 ⟨rfl, hE2⟩
        have hX2 := hE2.get (Nat.lt_of_lt_of_le hl hE.lo) hX1
        refine Wd.step ?_
        repeat' (first | refine Lx.val rfl (.mv rfl) ?_ | refine Lx.val rfl (.chk rfl rfl) ?_ | refine Lx.val rfl (.ld rfl (AH.rd_at (by assumption) (by exact rfl))) ?_ | refine Lx.val rfl (.fad rfl) ?_)
        refine Lx.nil (Wd.call rfl rfl (rt95 s h2 H2) ?_)
        rintro _ H3 ⟨rfl, hE3⟩
        have hX3 := hE3.get (Nat.lt_of_lt_of_le hl (Nat.le_trans hE.lo hE2.lo)) hX2
        have c1 := b1 H3
        have c2 := b2 H3
        refine Wd.last ?_
        repeat' (first | refine Lx.val rfl (.mv rfl) ?_ | refine Lx.val rfl (.pick_t rfl rfl) ?_ | refine Lx.val rfl (.pick_f rfl rfl) ?_ | refine Lx.val rfl (.chk rfl rfl) ?_ | refine Lx.val rfl (.ld rfl (AH.rd_at (by assumption) (by exact rfl))) ?_ | refine Lx.val rfl (.bin rfl rfl (by assumption)) ?_ | refine Lx.val rfl (.un rfl rfl) ?_ | refine Lx.val rfl (.fad rfl) ?_)
        refine Lx.nil ⟨?_, ?_, ?_⟩
        · repeat' (first | exact AgA.nil | refine AgA.cons ?_ ?_)
          all_goals repeat' (first | exact Ag.nil | refine Ag.val rfl (.mv rfl) (by first | exact rfl | exact trivial) ?_ | refine Ag.val rfl (.pick_t rfl rfl) (by first | exact rfl | exact trivial) ?_ | refine Ag.val rfl (.pick_f rfl rfl) (by first | exact rfl | exact trivial) ?_ | refine Ag.val rfl (.chk rfl rfl) (by first | exact rfl | exact trivial) ?_ | refine Ag.val rfl (.ld rfl (AH.rd_at (by assumption) (by exact rfl))) (by first | exact rfl | exact trivial) ?_ | refine Ag.val rfl (.bin rfl rfl (by assumption)) (by first | exact rfl | exact trivial) ?_ | refine Ag.val rfl (.un rfl rfl) (by first | exact rfl | exact trivial) ?_ | refine Ag.val rfl (.fad rfl) (by first | exact rfl | exact trivial) ?_)
        · repeat' (first | exact HvA.nil | exact Agr.nil | exact rfl | refine Agr.cons rfl rfl ?_ | refine HvA.cons ?_ ?_ ?_)
        · repeat' (first | refine Wc.ret ?_ | refine Fin.seq ?_ | refine Fin.seq_ret ?_ | refine Fin.block_ret ?_)
          exact Fin.kret rfl ⟨rfl, (Ext.grow hE).trans ((Ext.grow hE2).trans (Ext.grow hE3))⟩
end Go.Vd.L
namespace Go.Vd.L
open Go.Vd

theorem rt79 {H : AH} {X : Nat} {k n : Int} {s : List UInt8} {a b c : AV} (hX : NdAt H X k n s a b c) (hl : X < H.next) (h1 : [a, b, c].all AV.one = true) (h2 : a.cells = [a] ∧ b.cells = [b] ∧ c.cells = [c]) :
    Rt Ck 79 [.ptr X 0] H fun v H' => v = .agg [a, b, c] ∧ Ext 1 H H' := by
  unfold NdAt at hX
  refine Rt.enter (af := c79) rfl rfl ?_
  refine Wc.seq (Wc.reg ?_)
  refine Wo.allocn rfl (fun H1 hn1 hA1 hs1 => ?_)
  have hX1 : H1.get X = some (.cells [.int .i64 k, .int .i64 n, .str s, a, b, c] 44 0) := by rw [hs1 X (by omega)]; exact hX
  clear hX
  have hb : ∀ l : TL, evpL l [(0, 1, .t 6), (1, 1, .t 10), (2, 1, .t 14)] = some [(0, 1, a), (1, 1, b), (2, 1, c)] → Ao Ck l H1 (.build [.nilp, .nilp, .nilp] [(0, 1, .t 6), (1, 1, .t 10), (2, 1, .t 14)]) (.agg [a, b, c]) H1 := by
    intro l hl
    refine Ao.build hl ?_
    simp only [List.all_cons, List.all_nil, Bool.and_true, Bool.and_eq_true] at h1
    simp [fillA, h2.1, h2.2.1, h2.2.2, h1.1, h1.2.1, h1.2.2]
  repeat' (first | refine Wc.seq ?_ | refine Fin.seq ?_ | refine Wo.nil ?_)
  refine Wc.regd (Wd.step ?_)
  repeat' (first | refine Lx.val rfl (.mv rfl) ?_ | refine Lx.val rfl (.chk rfl rfl) ?_ | refine Lx.val rfl (.fad rfl) ?_ | refine Lx.val rfl (.ld rfl (AH.rd_at (by assumption) (by exact rfl))) ?_)
  refine Lx.val rfl (hb _ rfl) ?_
  skip
  refine Lx.nil (Wd.stA rfl rfl rfl rfl hA1 rfl h1 rfl (fun H2 hn2 hA2 hs2 => ?_))
  refine Wd.last ?_
  skip
  refine Lx.nil ⟨?_, ?_, ?_⟩
  · refine AgA.cons ?_ (AgA.cons Ag.nil AgA.nil)
    repeat' (first | refine Ag.val rfl (.mv rfl) (by first | exact rfl | exact trivial) ?_ | refine Ag.val rfl (.chk rfl rfl) (by first | exact rfl | exact trivial) ?_ | refine Ag.val rfl (.fad rfl) (by first | exact rfl | exact trivial) ?_ | refine Ag.val rfl (.ld rfl (AH.rd_at (by assumption) (by exact rfl))) (by first | exact rfl | exact trivial) ?_)
    refine Ag.val rfl (hb _ rfl) rfl ?_
    repeat' (exact Ag.nil)
  · repeat' (first | exact HvA.nil | exact Agr.nil | exact trivial | refine Agr.cons rfl rfl ?_ | refine HvA.cons ?_ ?_ ?_)
  · repeat' (first | refine Wc.ret ?_ | refine Fin.seq ?_)
    have hA2' : H2.get H.next = some (.cells [a, b, c] 124 0) := hA2
    have hr : ∀ l : TL, look l 2 = some (.ptr H.next 0) → resL l H2 c79.res = some [.agg [a, b, c]] := by
      intro l h
      show resL l H2 [(2, some (some 3))] = _
      simp only [resL, h, AH.rdn_all (n := 3) hA2' rfl]
    refine Fin.kret (hr _ rfl) ⟨rfl, by omega, by omega, fun Y hY => by rw [hs2 Y (by omega), hs1 Y (by omega)]⟩

theorem Tm.size_pos : ∀ t : Tm, 1 ≤ t.size
  | .nd0 _ _ _ => by simp [Tm.size]
  | .nd2 _ _ _ => by simp [Tm.size]; omega
  | .nd3 _ _ _ => by simp [Tm.size]; omega

def LeftAt (H : AH) (L : Nat) (m : Int) : Prop := H.get L = some (.cells [.int .i64 m] 3 0)
def Q49 (L : Nat) (m : Int) (t : Tm) (H : AH) (v : AV) (H' : AH) : Prop := v = .bool true ∧ Kept L H H' ∧ LeftAt H' L (m - t.size)

theorem Kept.grow {L : Nat} {H0 H H' : AH} (h : Kept L H H') (g : Grow H0 H) (hL : H0.next ≤ L) : Grow H0 H' :=
  ⟨Nat.le_trans g.next h.next, fun Y hY => by rw [h.same Y (Nat.lt_of_lt_of_le hY g.next) (by omega), g.same Y hY]⟩
theorem Kept.trans {L : Nat} {H H1 H2 : AH} (h : Kept L H H1) (g : Kept L H1 H2) : Kept L H H2 := ⟨Nat.le_trans h.next g.next, fun Y h1 h2 => by rw [g.same Y (Nat.lt_of_lt_of_le h1 h.next) h2, h.same Y h1 h2]⟩
theorem Grow.kept {L : Nat} {H H' : AH} (h : Grow H H') : Kept L H H' := ⟨h.next, fun Y h1 _ => h.same Y h1⟩

section
variable {H0 H : AH} {L : Nat} {m : Int}

set_option maxHeartbeats 4000000 in
theorem rt49 : ∀ (t : Tm) (lo X : Nat), TreeAt lo H0 t X → t.wf → ∀ (H : AH) (L : Nat) (m : Int), Grow H0 H → H0.next ≤ L → L < H.next → LeftAt H L m → (t.size : Int) ≤ m → m ≤ 3000 →
    Rt Ck 49 [.ptr X 0, .ptr L 0] H (Q49 L m t H)
  | .nd0 k n s, lo, X, hT, hw, H, L, m, hG, hL0, hL, hLm, hsz, hm => by
    obtain ⟨_, hXl, hN⟩ := hT
    have hs1 : (1 : Int) ≤ m := by have := Tm.size_pos (.nd0 k n s); omega
    have hp : partsI k = 0 := by have := hw.1; unfold partsI; rw [if_neg (by omega), if_neg (by omega)]
    have b0 : binV Ck H .eql .int (.int .i64 m) (.int .i64 (Int.ofNat 0)) = some (.bool false) := binV_eqF (by simp; omega)
    have hw1 : IntKind.i64.wrap (m - Int.ofNat 1) = m - 1 := wrap_i64 (by simp; omega) (by simp; omega)
    have hLm' := hLm
    unfold LeftAt at hLm'
    refine Rt.enter (af := c49) rfl rfl ?_
    repeat' (first | refine Wc.seq ?_ | refine Wc.reg ?_ | refine Wc.skip ?_ | refine Fin.seq ?_ | refine Wo.nil ?_ | refine Wc.cond_f rfl ?_ | refine Wo.val rfl (.mv rfl) ?_ | refine Wo.val rfl (.pick_f rfl rfl) ?_ | refine Wo.val rfl (.chk rfl rfl) ?_ | refine Wo.val rfl (.ld rfl (AH.rd_at (by assumption) (by exact rfl))) ?_ | refine Wo.val rfl (.bin rfl rfl (by assumption)) ?_ | refine Wo.val rfl (.bin rfl rfl rfl) ?_)
    rw [hw1]
    refine Wo.st1 (c' := [.int .i64 (m - 1)]) rfl rfl hLm' rfl rfl rfl rfl rfl (fun H1 hn1 hX1 hsm1 => ?_)
    have hG1 : Grow H0 H1 := Kept.grow ⟨by omega, fun Y _ h2 => hsm1 Y h2⟩ hG hL0
    have hN1 : NdAt H1 X k n s .nilp .nilp .nilp := by unfold NdAt at *; rw [hG1.same X hXl]; exact hN
    repeat' (first | refine Wc.seq ?_ | refine Wc.reg ?_ | refine Fin.seq ?_ | refine Wo.nil ?_ | refine Wo.val rfl (.mv rfl) ?_)
    refine Wo.call rfl rfl (rt78 (t := .nd0 k n s) hw hN1 (Nat.lt_of_lt_of_le hXl hG1.next)) ?_
    rintro _ H2 ⟨rfl, hG2⟩
    rw [show kT (.nd0 k n s) = k from rfl, hp]
    have hN2 : NdAt H2 X k n s .nilp .nilp .nilp := by unfold NdAt at *; rw [hG2.same X (Nat.lt_of_lt_of_le hXl hG1.next)]; exact hN1
    repeat' (first | refine Wc.seq ?_ | refine Wc.reg ?_ | refine Fin.seq ?_ | refine Wo.nil ?_ | refine Wo.val rfl (.mv rfl) ?_ | refine Wo.val rfl (.ext rfl rfl) ?_)
    refine Wo.call rfl rfl (rt79 hN2 (Nat.lt_of_lt_of_le hXl (Nat.le_trans hG1.next hG2.next)) rfl ⟨rfl, rfl, rfl⟩) ?_
    rintro _ H3 ⟨rfl, hE3⟩
    repeat' (first | refine Wc.block ?_ | refine Fin.seq ?_ | refine Wo.nil ?_ | refine Wo.val rfl (.mv rfl) ?_)
    refine Wc.loop ?_
    repeat' (first | refine Wc.seq ?_ | refine Wc.block ?_ | refine Wc.reg ?_ | refine Wc.skip ?_ | refine Fin.seq ?_ | refine Wo.nil ?_ | refine Wc.cond_t rfl ?_ | refine Wo.val rfl (.mv rfl) ?_ | refine Wo.val rfl (.bin rfl rfl rfl) ?_)
    refine Wo.val rfl (.ixv rfl rfl (by decide) (by decide) rfl) ?_
    repeat' (first | refine Wc.reg ?_ | refine Fin.seq ?_ | refine Fin.block ?_ | refine Wo.nil ?_ | refine Wo.skip rfl ?_ | refine Wo.val rfl (.mv rfl) ?_ | refine Wo.val rfl (.pick_t rfl rfl) ?_ | refine Wo.val rfl (.pick_f rfl rfl) ?_ | refine Wo.val rfl (.bin rfl rfl rfl) ?_)
    refine Wc.loop ?_
    repeat' (first | refine Wc.seq ?_ | refine Wc.block ?_ | refine Wc.reg ?_ | refine Wc.skip ?_ | refine Fin.seq ?_ | refine Wo.nil ?_ | refine Wc.cond_t rfl ?_ | refine Wo.val rfl (.mv rfl) ?_ | refine Wo.val rfl (.bin rfl rfl rfl) ?_)
    refine Wo.val rfl (.ixv rfl rfl (by decide) (by decide) rfl) ?_
    repeat' (first | refine Wc.reg ?_ | refine Fin.seq ?_ | refine Fin.block ?_ | refine Wo.nil ?_ | refine Wo.skip rfl ?_ | refine Wo.val rfl (.mv rfl) ?_ | refine Wo.val rfl (.pick_t rfl rfl) ?_ | refine Wo.val rfl (.pick_f rfl rfl) ?_ | refine Wo.val rfl (.bin rfl rfl rfl) ?_)
    refine Wc.loop ?_
    repeat' (first | refine Wc.seq ?_ | refine Wc.block ?_ | refine Wc.reg ?_ | refine Wc.skip ?_ | refine Fin.seq ?_ | refine Wo.nil ?_ | refine Wc.cond_t rfl ?_ | refine Wo.val rfl (.mv rfl) ?_ | refine Wo.val rfl (.bin rfl rfl rfl) ?_)
    refine Wo.val rfl (.ixv rfl rfl (by decide) (by decide) rfl) ?_
    repeat' (first | refine Wc.reg ?_ | refine Fin.seq ?_ | refine Fin.block ?_ | refine Wo.nil ?_ | refine Wo.skip rfl ?_ | refine Wo.val rfl (.mv rfl) ?_ | refine Wo.val rfl (.pick_t rfl rfl) ?_ | refine Wo.val rfl (.pick_f rfl rfl) ?_ | refine Wo.val rfl (.bin rfl rfl rfl) ?_)
    refine Wc.loop ?_
    repeat' (first | refine Wc.seq ?_ | refine Wc.reg ?_ | refine Wc.ret ?_ | refine Wc.exit ?_ | refine Fin.seq ?_ | refine Fin.seq_exit ?_ | refine Fin.block_here ?_ | refine Wo.nil ?_ | refine Wc.cond_f rfl ?_ | refine Wo.val rfl (.mv rfl) ?_ | refine Wo.val rfl (.bin rfl rfl rfl) ?_)
    refine Fin.kret rfl ⟨rfl, ?_, ?_⟩
    · exact (Kept.trans ⟨by omega, fun Y _ h2 => hsm1 Y h2⟩ hG2.kept).trans (Ext.grow hE3).kept
    · unfold LeftAt
      rw [hE3.same L (by have := hG2.next; omega), hG2.same L (by omega), hX1]
      rfl
  | .nd2 k a b, lo, X, hT, hw, H, L, m, hG, hL0, hL, hLm, hsz, hm => by
    obtain ⟨_, hXl, Y1, Y2, hN, hTa, hTb⟩ := hT
    have hpa := Tm.size_pos a
    have hpb := Tm.size_pos b
    have hsz' : (1 : Int) + (a.size : Int) + (b.size : Int) ≤ m := by simp only [Tm.size] at hsz; omega
    clear hsz
    have hp : partsI k = 2 := by have := hw.1; unfold partsI; rw [if_pos (by omega)]
    have b0 : binV Ck H .eql .int (.int .i64 m) (.int .i64 (Int.ofNat 0)) = some (.bool false) := binV_eqF (by simp; omega)
    have hw1 : IntKind.i64.wrap (m - Int.ofNat 1) = m - 1 := wrap_i64 (by simp; omega) (by simp; omega)
    have hLm' := hLm
    unfold LeftAt at hLm'
    refine Rt.enter (af := c49) rfl rfl ?_
    repeat' (first | refine Wc.seq ?_ | refine Wc.reg ?_ | refine Wc.skip ?_ | refine Fin.seq ?_ | refine Wo.nil ?_ | refine Wc.cond_f rfl ?_ | refine Wo.val rfl (.mv rfl) ?_ | refine Wo.val rfl (.pick_f rfl rfl) ?_ | refine Wo.val rfl (.chk rfl rfl) ?_ | refine Wo.val rfl (.ld rfl (AH.rd_at (by assumption) (by exact rfl))) ?_ | refine Wo.val rfl (.bin rfl rfl (by assumption)) ?_ | refine Wo.val rfl (.bin rfl rfl rfl) ?_)
    rw [hw1]
    refine Wo.st1 (c' := [.int .i64 (m - 1)]) rfl rfl hLm' rfl rfl rfl rfl rfl (fun H1 hn1 hX1 hsm1 => ?_)
    have hG1 : Grow H0 H1 := Kept.grow ⟨by omega, fun Y _ h2 => hsm1 Y h2⟩ hG hL0
    have hN1 : NdAt H1 X k 0 [] (.ptr Y1 0) (.ptr Y2 0) .nilp := by unfold NdAt at *; rw [hG1.same X hXl]; exact hN
    repeat' (first | refine Wc.seq ?_ | refine Wc.reg ?_ | refine Fin.seq ?_ | refine Wo.nil ?_ | refine Wo.val rfl (.mv rfl) ?_)
    refine Wo.call rfl rfl (rt78 (t := .nd2 k a b) hw hN1 (Nat.lt_of_lt_of_le hXl hG1.next)) ?_
    rintro _ H2 ⟨rfl, hG2⟩
    rw [show kT (.nd2 k a b) = k from rfl, hp]
    have hN2 : NdAt H2 X k 0 [] (.ptr Y1 0) (.ptr Y2 0) .nilp := by unfold NdAt at *; rw [hG2.same X (Nat.lt_of_lt_of_le hXl hG1.next)]; exact hN1
    repeat' (first | refine Wc.seq ?_ | refine Wc.reg ?_ | refine Fin.seq ?_ | refine Wo.nil ?_ | refine Wo.val rfl (.mv rfl) ?_ | refine Wo.val rfl (.ext rfl rfl) ?_)
    refine Wo.call rfl rfl (rt79 hN2 (Nat.lt_of_lt_of_le hXl (Nat.le_trans hG1.next hG2.next)) rfl ⟨rfl, rfl, rfl⟩) ?_
    rintro _ H3 ⟨rfl, hE3⟩
    have hK3 : Kept L H H3 := (Kept.trans ⟨by omega, fun Y _ h2 => hsm1 Y h2⟩ hG2.kept).trans (Ext.grow hE3).kept
    have hL3 : LeftAt H3 L (m - 1) := by
      unfold LeftAt
      rw [hE3.same L (by have := hG2.next; omega), hG2.same L (by omega), hX1]
    have hG3 : Grow H0 H3 := hK3.grow hG hL0
    repeat' (first | refine Wc.block ?_ | refine Fin.seq ?_ | refine Wo.nil ?_ | refine Wo.val rfl (.mv rfl) ?_)
    refine Wc.loop ?_
    repeat' (first | refine Wc.seq ?_ | refine Wc.block ?_ | refine Wc.reg ?_ | refine Wc.skip ?_ | refine Fin.seq ?_ | refine Wo.nil ?_ | refine Wc.cond_t rfl ?_ | refine Wo.val rfl (.mv rfl) ?_ | refine Wo.val rfl (.bin rfl rfl rfl) ?_)
    refine Wo.val rfl (.ixv rfl rfl (by decide) (by decide) rfl) ?_
    repeat' (first | refine Wc.reg ?_ | refine Fin.seq ?_ | refine Wo.nil ?_ | refine Wo.skip rfl ?_ | refine Wo.val rfl (.mv rfl) ?_ | refine Wo.val rfl (.pick_t rfl rfl) ?_ | refine Wo.val rfl (.bin rfl rfl rfl) ?_)
    refine Wo.call rfl rfl (rt49 a lo Y1 hTa hw.2.1 H3 L (m - 1) hG3 hL0 (by have := hK3.next; omega) hL3 (by omega) (by omega)) ?_
    rintro _ H4 ⟨rfl, hk4, hL4⟩
    have hK4 := hK3.trans hk4
    have hG4 : Grow H0 H4 := hK4.grow hG hL0
    repeat' (first | refine Wc.reg ?_ | refine Fin.seq ?_ | refine Fin.block ?_ | refine Wo.nil ?_ | refine Wo.val rfl (.mv rfl) ?_ | refine Wo.val rfl (.pick_t rfl rfl) ?_ | refine Wo.val rfl (.pick_f rfl rfl) ?_ | refine Wo.val rfl (.bin rfl rfl rfl) ?_)
    refine Wc.loop ?_
    repeat' (first | refine Wc.seq ?_ | refine Wc.block ?_ | refine Wc.reg ?_ | refine Wc.skip ?_ | refine Fin.seq ?_ | refine Wo.nil ?_ | refine Wc.cond_t rfl ?_ | refine Wo.val rfl (.mv rfl) ?_ | refine Wo.val rfl (.bin rfl rfl rfl) ?_)
    refine Wo.val rfl (.ixv rfl rfl (by decide) (by decide) rfl) ?_
    repeat' (first | refine Wc.reg ?_ | refine Fin.seq ?_ | refine Wo.nil ?_ | refine Wo.skip rfl ?_ | refine Wo.val rfl (.mv rfl) ?_ | refine Wo.val rfl (.pick_t rfl rfl) ?_ | refine Wo.val rfl (.bin rfl rfl rfl) ?_)
    refine Wo.call rfl rfl (rt49 b lo Y2 hTb hw.2.2 H4 L (m - 1 - a.size) hG4 hL0 (by have := hK4.next; omega) hL4 (by omega) (by omega)) ?_
    rintro _ H5 ⟨rfl, hk5, hL5⟩
    have hK5 := hK4.trans hk5
    have hG5 : Grow H0 H5 := hK5.grow hG hL0
    repeat' (first | refine Wc.reg ?_ | refine Fin.seq ?_ | refine Fin.block ?_ | refine Wo.nil ?_ | refine Wo.val rfl (.mv rfl) ?_ | refine Wo.val rfl (.pick_t rfl rfl) ?_ | refine Wo.val rfl (.pick_f rfl rfl) ?_ | refine Wo.val rfl (.bin rfl rfl rfl) ?_)
    refine Wc.loop ?_
    repeat' (first | refine Wc.seq ?_ | refine Wc.block ?_ | refine Wc.reg ?_ | refine Wc.skip ?_ | refine Fin.seq ?_ | refine Wo.nil ?_ | refine Wc.cond_t rfl ?_ | refine Wo.val rfl (.mv rfl) ?_ | refine Wo.val rfl (.bin rfl rfl rfl) ?_)
    refine Wo.val rfl (.ixv rfl rfl (by decide) (by decide) rfl) ?_
    repeat' (first | refine Wc.reg ?_ | refine Fin.seq ?_ | refine Fin.block ?_ | refine Wo.nil ?_ | refine Wo.skip rfl ?_ | refine Wo.val rfl (.mv rfl) ?_ | refine Wo.val rfl (.pick_t rfl rfl) ?_ | refine Wo.val rfl (.pick_f rfl rfl) ?_ | refine Wo.val rfl (.bin rfl rfl rfl) ?_)
    refine Wc.loop ?_
    repeat' (first | refine Wc.seq ?_ | refine Wc.reg ?_ | refine Wc.ret ?_ | refine Wc.exit ?_ | refine Fin.seq ?_ | refine Fin.seq_exit ?_ | refine Fin.block_here ?_ | refine Wo.nil ?_ | refine Wc.cond_f rfl ?_ | refine Wo.val rfl (.mv rfl) ?_ | refine Wo.val rfl (.bin rfl rfl rfl) ?_)
    refine Fin.kret rfl ⟨rfl, hK5, ?_⟩
    have e : (m - 1 - a.size - b.size : Int) = m - (Tm.size (.nd2 k a b) : Nat) := by simp only [Tm.size]; omega
    rw [← e]
    exact hL5
  | .nd3 a b c, lo, X, hT, hw, H, L, m, hG, hL0, hL, hLm, hsz, hm => by
    obtain ⟨_, hXl, Y1, Y2, Y3, hN, hTa, hTb, hTc⟩ := hT
    have hpa := Tm.size_pos a
    have hpb := Tm.size_pos b
    have hpc := Tm.size_pos c
    have hsz' : (1 : Int) + (a.size : Int) + (b.size : Int) + (c.size : Int) ≤ m := by simp only [Tm.size] at hsz; omega
    clear hsz
    have hp : partsI 7 = 3 := by decide
    have b0 : binV Ck H .eql .int (.int .i64 m) (.int .i64 (Int.ofNat 0)) = some (.bool false) := binV_eqF (by simp; omega)
    have hw1 : IntKind.i64.wrap (m - Int.ofNat 1) = m - 1 := wrap_i64 (by simp; omega) (by simp; omega)
    have hLm' := hLm
    unfold LeftAt at hLm'
    refine Rt.enter (af := c49) rfl rfl ?_
    repeat' (first | refine Wc.seq ?_ | refine Wc.reg ?_ | refine Wc.skip ?_ | refine Fin.seq ?_ | refine Wo.nil ?_ | refine Wc.cond_f rfl ?_ | refine Wo.val rfl (.mv rfl) ?_ | refine Wo.val rfl (.pick_f rfl rfl) ?_ | refine Wo.val rfl (.chk rfl rfl) ?_ | refine Wo.val rfl (.ld rfl (AH.rd_at (by assumption) (by exact rfl))) ?_ | refine Wo.val rfl (.bin rfl rfl (by assumption)) ?_ | refine Wo.val rfl (.bin rfl rfl rfl) ?_)
    rw [hw1]
    refine Wo.st1 (c' := [.int .i64 (m - 1)]) rfl rfl hLm' rfl rfl rfl rfl rfl (fun H1 hn1 hX1 hsm1 => ?_)
    have hG1 : Grow H0 H1 := Kept.grow ⟨by omega, fun Y _ h2 => hsm1 Y h2⟩ hG hL0
    have hN1 : NdAt H1 X 7 0 [] (.ptr Y1 0) (.ptr Y2 0) (.ptr Y3 0) := by unfold NdAt at *; rw [hG1.same X hXl]; exact hN
    repeat' (first | refine Wc.seq ?_ | refine Wc.reg ?_ | refine Fin.seq ?_ | refine Wo.nil ?_ | refine Wo.val rfl (.mv rfl) ?_)
    refine Wo.call rfl rfl (rt78 (t := .nd3 a b c) hw hN1 (Nat.lt_of_lt_of_le hXl hG1.next)) ?_
    rintro _ H2 ⟨rfl, hG2⟩
    rw [show kT (.nd3 a b c) = 7 from rfl, hp]
    have hN2 : NdAt H2 X 7 0 [] (.ptr Y1 0) (.ptr Y2 0) (.ptr Y3 0) := by unfold NdAt at *; rw [hG2.same X (Nat.lt_of_lt_of_le hXl hG1.next)]; exact hN1
    repeat' (first | refine Wc.seq ?_ | refine Wc.reg ?_ | refine Fin.seq ?_ | refine Wo.nil ?_ | refine Wo.val rfl (.mv rfl) ?_ | refine Wo.val rfl (.ext rfl rfl) ?_)
    refine Wo.call rfl rfl (rt79 hN2 (Nat.lt_of_lt_of_le hXl (Nat.le_trans hG1.next hG2.next)) rfl ⟨rfl, rfl, rfl⟩) ?_
    rintro _ H3 ⟨rfl, hE3⟩
    have hK3 : Kept L H H3 := (Kept.trans ⟨by omega, fun Y _ h2 => hsm1 Y h2⟩ hG2.kept).trans (Ext.grow hE3).kept
    have hL3 : LeftAt H3 L (m - 1) := by
      unfold LeftAt
      rw [hE3.same L (by have := hG2.next; omega), hG2.same L (by omega), hX1]
    have hG3 : Grow H0 H3 := hK3.grow hG hL0
    repeat' (first | refine Wc.block ?_ | refine Fin.seq ?_ | refine Wo.nil ?_ | refine Wo.val rfl (.mv rfl) ?_)
    refine Wc.loop ?_
    repeat' (first | refine Wc.seq ?_ | refine Wc.block ?_ | refine Wc.reg ?_ | refine Wc.skip ?_ | refine Fin.seq ?_ | refine Wo.nil ?_ | refine Wc.cond_t rfl ?_ | refine Wo.val rfl (.mv rfl) ?_ | refine Wo.val rfl (.bin rfl rfl rfl) ?_)
    refine Wo.val rfl (.ixv rfl rfl (by decide) (by decide) rfl) ?_
    repeat' (first | refine Wc.reg ?_ | refine Fin.seq ?_ | refine Wo.nil ?_ | refine Wo.skip rfl ?_ | refine Wo.val rfl (.mv rfl) ?_ | refine Wo.val rfl (.pick_t rfl rfl) ?_ | refine Wo.val rfl (.bin rfl rfl rfl) ?_)
    refine Wo.call rfl rfl (rt49 a lo Y1 hTa hw.1 H3 L (m - 1) hG3 hL0 (by have := hK3.next; omega) hL3 (by omega) (by omega)) ?_
    rintro _ H4 ⟨rfl, hk4, hL4⟩
    have hK4 := hK3.trans hk4
    have hG4 : Grow H0 H4 := hK4.grow hG hL0
    repeat' (first | refine Wc.reg ?_ | refine Fin.seq ?_ | refine Fin.block ?_ | refine Wo.nil ?_ | refine Wo.val rfl (.mv rfl) ?_ | refine Wo.val rfl (.pick_t rfl rfl) ?_ | refine Wo.val rfl (.pick_f rfl rfl) ?_ | refine Wo.val rfl (.bin rfl rfl rfl) ?_)
    refine Wc.loop ?_
    repeat' (first | refine Wc.seq ?_ | refine Wc.block ?_ | refine Wc.reg ?_ | refine Wc.skip ?_ | refine Fin.seq ?_ | refine Wo.nil ?_ | refine Wc.cond_t rfl ?_ | refine Wo.val rfl (.mv rfl) ?_ | refine Wo.val rfl (.bin rfl rfl rfl) ?_)
    refine Wo.val rfl (.ixv rfl rfl (by decide) (by decide) rfl) ?_
    repeat' (first | refine Wc.reg ?_ | refine Fin.seq ?_ | refine Wo.nil ?_ | refine Wo.skip rfl ?_ | refine Wo.val rfl (.mv rfl) ?_ | refine Wo.val rfl (.pick_t rfl rfl) ?_ | refine Wo.val rfl (.bin rfl rfl rfl) ?_)
    refine Wo.call rfl rfl (rt49 b lo Y2 hTb hw.2.1 H4 L (m - 1 - a.size) hG4 hL0 (by have := hK4.next; omega) hL4 (by omega) (by omega)) ?_
    rintro _ H5 ⟨rfl, hk5, hL5⟩
    have hK5 := hK4.trans hk5
    have hG5 : Grow H0 H5 := hK5.grow hG hL0
    repeat' (first | refine Wc.reg ?_ | refine Fin.seq ?_ | refine Fin.block ?_ | refine Wo.nil ?_ | refine Wo.val rfl (.mv rfl) ?_ | refine Wo.val rfl (.pick_t rfl rfl) ?_ | refine Wo.val rfl (.pick_f rfl rfl) ?_ | refine Wo.val rfl (.bin rfl rfl rfl) ?_)
    refine Wc.loop ?_
    repeat' (first | refine Wc.seq ?_ | refine Wc.block ?_ | refine Wc.reg ?_ | refine Wc.skip ?_ | refine Fin.seq ?_ | refine Wo.nil ?_ | refine Wc.cond_t rfl ?_ | refine Wo.val rfl (.mv rfl) ?_ | refine Wo.val rfl (.bin rfl rfl rfl) ?_)
    refine Wo.val rfl (.ixv rfl rfl (by decide) (by decide) rfl) ?_
    repeat' (first | refine Wc.reg ?_ | refine Fin.seq ?_ | refine Wo.nil ?_ | refine Wo.skip rfl ?_ | refine Wo.val rfl (.mv rfl) ?_ | refine Wo.val rfl (.pick_t rfl rfl) ?_ | refine Wo.val rfl (.bin rfl rfl rfl) ?_)
    refine Wo.call rfl rfl (rt49 c lo Y3 hTc hw.2.2 H5 L (m - 1 - a.size - b.size) hG5 hL0 (by have := hK5.next; omega) hL5 (by omega) (by omega)) ?_
    rintro _ H6 ⟨rfl, hk6, hL6⟩
    have hK6 := hK5.trans hk6
    have hG6 : Grow H0 H6 := hK6.grow hG hL0
    repeat' (first | refine Wc.reg ?_ | refine Fin.seq ?_ | refine Fin.block ?_ | refine Wo.nil ?_ | refine Wo.val rfl (.mv rfl) ?_ | refine Wo.val rfl (.pick_t rfl rfl) ?_ | refine Wo.val rfl (.pick_f rfl rfl) ?_ | refine Wo.val rfl (.bin rfl rfl rfl) ?_)
    refine Wc.loop ?_
    repeat' (first | refine Wc.seq ?_ | refine Wc.reg ?_ | refine Wc.ret ?_ | refine Wc.exit ?_ | refine Fin.seq ?_ | refine Fin.seq_exit ?_ | refine Fin.block_here ?_ | refine Wo.nil ?_ | refine Wc.cond_f rfl ?_ | refine Wo.val rfl (.mv rfl) ?_ | refine Wo.val rfl (.bin rfl rfl rfl) ?_)
    refine Fin.kret rfl ⟨rfl, hK6, ?_⟩
    have e : (m - 1 - a.size - b.size - c.size : Int) = m - (Tm.size (.nd3 a b c) : Nat) := by simp only [Tm.size]; omega
    rw [← e]
    exact hL6
end
end Go.Vd.L
