/- The first heap with the table of powers of ten: what the seat's worlds hold of it; from runs to calls. -/
import Derived.Test.YtabgoidablkmjaaGreatDoorYdG1
import Derived.Test.YtabgoidablkmjaaGreatDoorYdM1
import Derived.LaidSub
import Derived.Lib.LaidTab
set_option linter.unusedVariables false
set_option linter.unusedSimpArgs false
namespace Go.Vd.L
open Go.Vd Go.Proofs Go.Proofs.YtabgoidablkmjaaGreatDoor

theorem cellB_VR {φ : Mp} {v : Value} (h : VR φ (.ifc 109 (.agg [.hnd 7 31])) v) : v = cell0 := by
  simp only [VR, VRs] at h
  obtain ⟨y, rfl, vs, rfl, a, ws, rfl, rfl, rfl⟩ := h
  rfl

def pwZ : List Int := [1, 10, 100, 1000, 10000, 100000, 1000000, 10000000, 100000000, 1000000000, 10000000000, 100000000000, 1000000000000, 10000000000000, 100000000000000, 1000000000000000, 10000000000000000, 100000000000000000, 1000000000000000000, 10000000000000000000]
def pwV : Array Value := (pwZ.map fun z => Value.int .u64 z).toArray
theorem pwL_Z : pwL = pwZ.map fun z => AV.int .u64 z := rfl

theorem gPow : Tryz.prog.globalNamed "internal/strconv.uint64pow10" = some 2 := by kernel_rfl
theorem gPowT : (Tryz.prog.globals[2]?).map (·.type) = some 153 := by kernel_rfl
theorem powElem : (match Tryz.prog.underlying 153 with
    | some (.array n e) => Nat.beq n 20 && (match Tryz.prog.underlying e with
      | some (.int .u64) => true
      | _ => false) && Nat.beq (Tryz.prog.cellsOf e) 1
    | _ => false) = true := by kernel_rfl
theorem powCells : Tryz.prog.cellsOf 153 = 20 := by kernel_rfl
theorem row2 : (((begin Tryz.prog (fun _ _ => 0) default).world.heap[2]?).bind Obj.row?).map (fun x => (x.1.size, x.2)) = some (20, 153) := by kernel_rfl
theorem laidPow : (laidS.filter fun x => x.1 == "internal/strconv.uint64pow10") = [("internal/strconv.uint64pow10", Lib.tabData .u64 pwZ)] := by kernel_rfl

theorem block2 {w : World} (hs : w.ShapedOpen Tryz.prog) (hL : laidMetH Tryz.prog laidS w) : w.heap[2]? = some (.cells pwV 153) := by
  have hr := row2
  cases h0 : ((begin Tryz.prog (fun _ _ => 0) default).world.heap[2]?).bind Obj.row? with
  | none => rw [h0] at hr; cases hr
  | some x =>
    obtain ⟨zero, t⟩ := x
    rw [h0] at hr
    simp only [Option.map_some, Option.some.injEq, Prod.mk.injEq] at hr
    obtain ⟨hz, rfl⟩ := hr
    obtain ⟨cs, hh, hsz, _⟩ := hs.1 2 zero 153 (by rw [nGlobals]; omega) h0
    have hm := laidMetH.filter (fun x => x.1 == "internal/strconv.uint64pow10") hL
    rw [laidPow] at hm
    have hm2 : laidMet Tryz.prog [("internal/strconv.uint64pow10", Lib.tabData .u64 pwZ)] w := hm
    have hE := powElem
    split at hE
    · rename_i n e hu
      simp only [Bool.and_eq_true] at hE
      obtain ⟨⟨h1, h2⟩, h3⟩ := hE
      have h1 := Nat.eq_of_beq_eq_true h1
      have h3 := Nat.eq_of_beq_eq_true h3
      subst h1
      split at h2
      · rename_i he
        have := Lib.tabIs_of_head gPow gPowT hu he h3 powCells hm2
        unfold Lib.TabIs World.var? at this
        rw [gPow, Option.bind_some, hh] at this
        rw [hh, Option.some.inj this]
        rfl
      · cases h2
    · cases hE

def phiB : Mp := fun X => if X < 7 then some ⟨X, 0, if X = 0 then 1 else if X = 2 then 20 else 0⟩ else none

theorem ints_cells {φ : Mp} {k : IntKind} (ns : List Int) : CellsR φ (ns.map fun z => AV.int k z) (ns.map fun z => Value.int k z).toArray 0 := by
  intro i a hi
  rw [List.getElem?_map] at hi
  cases h : ns[i]? with
  | none => rw [h] at hi; cases hi
  | some z =>
    rw [h] at hi
    cases hi
    exact ⟨.int k z, by simp [h], by simp [VR]⟩
theorem cells_ints {φ : Mp} {k : IntKind} {ns : List Int} {c : Array Value} (hc : c.size = ns.length) (h : CellsR φ (ns.map fun z => AV.int k z) c 0) : c = (ns.map fun z => Value.int k z).toArray := by
  apply Array.ext_getElem?
  intro i
  cases hn : ns[i]? with
  | none =>
    have : ns.length ≤ i := List.getElem?_eq_none_iff.1 hn
    rw [Array.getElem?_eq_none (by omega), Array.getElem?_eq_none (by simp; omega)]
  | some z =>
    obtain ⟨v, h1, h2⟩ := h i (.int k z) (by simp [hn])
    simp only [VR] at h2
    subst h2
    rw [Nat.zero_add] at h1
    rw [h1]
    simp [hn]

theorem RB {w : World} (hs : w.ShapedOpen Tryz.prog) (hL : laidMetH Tryz.prog laidS w) : R Tryz.prog.globals.size phiB HB w where
  lo := fun X p h => by
    unfold phiB at h
    split at h
    · rename_i hx
      cases h
      refine ⟨hx, ?_⟩
      have hr := List.all_eq_true.1 rows7 X (List.mem_range.2 hx)
      cases h0 : ((begin Tryz.prog (fun _ _ => 0) default).world.heap[X]?).bind Obj.row? with
      | none => rw [h0] at hr; cases hr
      | some x =>
        obtain ⟨cs, hh, _⟩ := hs.1 X x.1 x.2 (by rw [nGlobals]; exact hx) h0
        exact (Array.getElem?_eq_some_iff.1 hh).1
    · cases h
  inj := fun X Y p q hX hY aX aY e => by
    unfold phiB at hX hY
    split at hX
    · split at hY
      · cases hX; cases hY; exact e
      · cases hY
    · cases hX
  blk := fun X p h => by
    rw [HB_get]
    by_cases h2 : X = 2
    · subst h2
      rw [if_pos rfl]
      have : p = ⟨2, 0, 20⟩ := by
        unfold phiB at h
        simpa using h.symm
      subst this
      refine ⟨pwV, 0, 0, block2 hs hL, ?_, ?_, fun _ => ⟨⟨rfl, rfl⟩, rfl, ?_⟩, fun _ i _ => by omega, ?_⟩
      · exact Nat.le_refl _
      · exact Nat.le_refl _
      · rfl
      · rw [pwL_Z]; exact ints_cells pwZ
    rw [if_neg h2]
    by_cases hz : X = 0
    · subst hz
      rw [if_pos rfl]
      have : p = ⟨0, 0, 1⟩ := by
        unfold phiB at h
        simpa using h.symm
      subst this
      refine ⟨#[cell0], 0, 0, block0 hs hL, by simp, by simp, fun e => by simp, fun _ i _ => by omega, ?_⟩
      intro i a hi
      match i, hi with
      | 0, hi =>
        simp at hi
        subst hi
        exact ⟨cell0, rfl, by simp [VR, VRs, cell0]⟩
    · rw [if_neg hz]; trivial
  gl := fun g hg => by
    rw [nGlobals] at hg
    exact ⟨_, by unfold phiB; rw [if_pos hg]⟩

theorem true_B {w : World} (hs : w.ShapedOpen Tryz.prog) (hL : laidMetH Tryz.prog laidS w) {f : Nat} {xs : List AV} {args : Array Value} (hr : Rt Ck f xs HB E3) (hv : VRs phiB xs args.toList) :
    Calls Tryz.prog f args w fun e w' => e = .returned (.bool true) ∧ w.keptBut w' (fun _ => False) := by
  unfold Rt at hr
  obtain ⟨n, v, H', hrun, rfl, hG⟩ := hr
  have g0 : H'.get 0 = some cellB := by rw [hG.same 0 (by decide), HB1_get, HB_get]; rfl
  have g2 : H'.get 2 = some tabB := by rw [hG.same 2 (by decide), HB1_get, HB_get]; rfl
  obtain ⟨args⟩ := args
  refine (run_calls fns_OKk ctx_okk hrun (RB hs hL) hv).mono ?_
  intro e w' hp
  cases e with
  | returned v =>
    obtain ⟨ψ, u, h1, h2, h3, h4⟩ := hp
    cases h1
    simp only [VR] at h4
    subst h4
    refine ⟨rfl, h3.out.1, h3.out.2.1, fun i hi => ?_⟩
    have hi' : w'.heap[i]? = w.heap[i]? := by
      by_cases h0 : i = 0
      · subst h0
        have hp0 : ψ 0 = some ⟨0, 0, 1⟩ := h3.le 0 _ (by simp [phiB])
        have hb := h2.blk 0 _ hp0
        rw [g0] at hb
        obtain ⟨c, lo, hh, b1, b2, b3, b4, b5, b6⟩ := hb
        obtain ⟨⟨rfl, rfl⟩, _, hc⟩ := b4 rfl
        obtain ⟨v, v1, v2⟩ := b6 0 _ rfl
        have := cellB_VR v2
        subst this
        rw [block0 hs hL]
        show w'.heap[0]? = _
        rw [b1]
        have : c = #[cell0] := by
          obtain ⟨l⟩ := c
          match l, hc, v1 with
          | [x], _, v1 => simp at v1; rw [v1]
        rw [this]
      · by_cases hi2 : i = 2
        · subst hi2
          have hp2 : ψ 2 = some ⟨2, 0, 20⟩ := h3.le 2 _ (by simp [phiB])
          have hb := h2.blk 2 _ hp2
          rw [g2] at hb
          obtain ⟨c, lo, hh, b1, b2, b3, b4, b5, b6⟩ := hb
          obtain ⟨⟨rfl, rfl⟩, _, hc⟩ := b4 rfl
          rw [pwL_Z] at b6 hc
          have := cells_ints (by rw [hc, List.length_map]) b6
          rw [block2 hs hL]
          show w'.heap[2]? = _
          rw [b1, this]
          rfl
        · refine h3.frame i hi fun X p hX hp hX2 => ?_
          rcases HB_alive X hX2 with rfl | rfl
          · have : p = ⟨0, 0, 1⟩ := by unfold phiB at hX; simpa using hX.symm
            subst this
            exact h0 hp.symm
          · have : p = ⟨2, 0, 20⟩ := by unfold phiB at hX; simpa using hX.symm
            subst this
            exact hi2 hp.symm
    rw [hi']
    cases hw : w.heap[i]? with
    | none => trivial
    | some o => cases o <;> simp
  | panicked c =>
    obtain ⟨ψ, u, v, h1, _⟩ := hp
    cases h1
  | outgrown => exact hp.elim
end Go.Vd.L
