/- The runs of the functions without a body that touch memory. -/
import Derived.Test.YtabgoidablkmjaaGreatDoorVdL4
set_option linter.unusedVariables false
set_option linter.unusedSimpArgs false
namespace Go.Vd.L
open Go.Vd Go.Proofs


theorem x57a (v : Value) (w : World) : (callFunc 57 #[.iface 49 v]).run Tryz.prog w =
    .ok (.value (.agg #[hd 49, .pointer (some ⟨w.heap.size, 0, none⟩), .int .u64 130])) { w with heap := w.heap.push (.cells v.cells 49) } := by kernel_rfl
theorem x57b (v : Value) (w : World) : (callFunc 57 #[.iface 70 v]).run Tryz.prog w =
    .ok (.value (.agg #[hd 70, .pointer (some ⟨w.heap.size, 0, none⟩), .int .u64 150])) { w with heap := w.heap.push (.cells v.cells 70) } := by kernel_rfl

theorem u70 : Tryz.prog.underlying 70 = some (.pointer 49) := by kernel_rfl
theorem u49 : Tryz.prog.underlying 49 = some (.int .i64) := by kernel_rfl
theorem s49 : (Tryz.prog.info? 49).map (·.size) = some 1 := by kernel_rfl
theorem el70 (w : World) : (Extern.Rtype.elem? 70).run Tryz.prog w = .ok (some 49) w := by kernel_rfl
theorem mk49 (p : Addr) (w : World) : (Extern.ReflectliteValue.mk 49 p Extern.ReflectliteValue.flagAddr).run Tryz.prog w = .ok (.agg #[hd 49, .pointer (some p), .int .u64 386]) w := by kernel_rfl

theorem run_load70 {t : TypeId} {d : TypeDesc} (hu : Tryz.prog.underlying t = some d) (hd : isAggD d = false) {a : Addr} {v : Value} {w : World} (h : w.cell? a = some v) :
    (loadVar t a).run Tryz.prog w = .ok v w := by
  simp only [Sem.run_bind, Sem.run_pure, Result.andThen_ok, loadVar, run_isAgg' hu, hd, Bool.false_eq_true, if_false, run_load' h]

theorem x59 {a p : Addr} {w : World} (h : w.cell? a = some (.pointer (some p))) : (callFunc 59 #[.agg #[hd 70, .pointer (some a), .int .u64 150]]).run Tryz.prog w = .ok (.value (.bool false)) w := by
  rw [run_callFunc_extern (fn := Tryz.f59) (e := Extern.ReflectliteValue.method (Extern.ReflectliteValue.valueError "reflectlite.Value.IsNil" 0) Extern.ReflectliteValue.isNil) (by kernel_rfl) (by kernel_rfl) (by kernel_rfl) (by kernel_rfl) (by kernel_rfl)]
  have e : (Extern.ReflectliteValue.method (Extern.ReflectliteValue.valueError "reflectlite.Value.IsNil" 0) Extern.ReflectliteValue.isNil #[.agg #[hd 70, .pointer (some a), .int .u64 150]]).run Tryz.prog w = (Extern.ReflectliteValue.isNil 70 a 150 22).run Tryz.prog w := by kernel_rfl
  rw [e]
  unfold Extern.ReflectliteValue.isNil
  have e2 : ([18, 19, 20, 21, 22, 23, 26].contains 22) = true := by decide
  simp only [e2, Bool.not_true, Bool.false_eq_true, if_false, Sem.run_bind, Sem.run_pure, Result.andThen_ok, run_load70 u70 rfl h]

theorem x83 {a p : Addr} {w : World} (h : w.cell? a = some (.pointer (some p))) : (callFunc 83 #[.agg #[hd 70, .pointer (some a), .int .u64 150]]).run Tryz.prog w =
    .ok (.value (.agg #[hd 49, .pointer (some p), .int .u64 386])) w := by
  rw [run_callFunc_extern (fn := Tryz.f83) (e := Extern.ReflectliteValue.method (Extern.ReflectliteValue.valueError "reflectlite.Value.Elem" 0) Extern.ReflectliteValue.elem) (by kernel_rfl) (by kernel_rfl) (by kernel_rfl) (by kernel_rfl) (by kernel_rfl)]
  have e : (Extern.ReflectliteValue.method (Extern.ReflectliteValue.valueError "reflectlite.Value.Elem" 0) Extern.ReflectliteValue.elem #[.agg #[hd 70, .pointer (some a), .int .u64 150]]).run Tryz.prog w = (Extern.ReflectliteValue.elem 70 a 150 22).run Tryz.prog w := by kernel_rfl
  rw [e]
  unfold Extern.ReflectliteValue.elem
  have e2 : ((22 : Nat) != 20 && (22 : Nat) != 22) = false := by decide
  simp only [e2, Bool.false_eq_true, if_false, Sem.run_bind, Sem.run_pure, Result.andThen_ok, run_load70 u70 rfl h, el70, mk49]

theorem x84 {a b : Addr} {v : Value} {w w' : World} (h : w.cell? b = some v) (hs : (storeVar 49 a v).run Tryz.prog w = .ok () w') :
    (callFunc 84 #[.agg #[hd 49, .pointer (some a), .int .u64 386], .agg #[hd 49, .pointer (some b), .int .u64 130]]).run Tryz.prog w = .ok (.value (.tuple #[])) w' := by
  rw [run_callFunc_extern (fn := Tryz.f84) (e := Extern.ReflectliteValue.set) (by kernel_rfl) (by kernel_rfl) (by kernel_rfl) (by kernel_rfl) (by kernel_rfl)]
  have e : (Extern.ReflectliteValue.set #[.agg #[hd 49, .pointer (some a), .int .u64 386], .agg #[hd 49, .pointer (some b), .int .u64 130]]).run Tryz.prog w =
      (do let val ← loadVar 49 b; storeVar 49 a val; pure (.tuple #[]) : Sem Value).run Tryz.prog w := by kernel_rfl
  rw [e]
  simp only [Sem.run_bind, Sem.run_pure, Result.andThen_ok, run_load70 u49 rfl h, hs]

theorem firstIdx_go (c : UInt8) : ∀ (l : List UInt8) (pre : List UInt8), (match ((List.range l.length).map (· + pre.length)).find? (fun i => (⟨(pre ++ l).toArray⟩ : ByteArray)[i]! == c) with
      | some i => (i : Int)
      | none => -1) = idxB c.toNat l pre.length := by
  intro l
  induction l with
  | nil => intro pre; simp [idxB]
  | cons x l ih =>
    intro pre
    have h0 : (⟨(pre ++ x :: l).toArray⟩ : ByteArray)[pre.length]! = x := by
      have : pre.length < (⟨(pre ++ x :: l).toArray⟩ : ByteArray).size := by simp [ByteArray.size]
      rw [getElem!_pos (⟨(pre ++ x :: l).toArray⟩ : ByteArray) pre.length this]
      show (pre ++ x :: l).toArray[pre.length] = x
      simp
    rw [List.length_cons, List.range_succ_eq_map]
    simp only [List.map_cons, Nat.zero_add, List.find?_cons, h0, idxB, List.map_map]
    have hx : Nat.beq x.toNat c.toNat = (x == c) := by
      cases h : (x == c) with
      | true => rw [eq_of_beq h]; exact Nat.beq_refl _
      | false =>
        have h2 : x ≠ c := by simpa using h
        cases h3 : Nat.beq x.toNat c.toNat with
        | false => rfl
        | true => exact absurd (UInt8.toNat_inj.1 (Nat.eq_of_beq_eq_true h3)) h2
    rw [hx]
    cases h : (x == c) with
    | true => simp
    | false =>
      have := ih (pre ++ [x])
      simp only [List.append_assoc, List.cons_append, List.nil_append, List.length_append, List.length_cons, List.length_nil] at this
      simp only [Bool.false_eq_true, if_false]
      rw [← this]
      have e : (List.map ((fun x => x + pre.length) ∘ Nat.succ) (List.range l.length)) = List.map (fun x => x + (pre.length + 1)) (List.range l.length) := by
        apply List.map_congr_left
        intro i _
        simp only [Function.comp]
        omega
      rw [e]

theorem x114 (l : List UInt8) (b : Int) (w : World) : (callFunc 114 #[.string ⟨l.toArray⟩, .int .u8 b]).run Tryz.prog w = .ok (.value (.int .i64 (idxB b.toNat.toUInt8.toNat l 0))) w := by
  rw [run_callFunc_extern (fn := Tryz.f114) (e := Extern.BytealgIndexByte.indexByte) (by kernel_rfl) (by kernel_rfl) (by kernel_rfl) (by kernel_rfl) (by kernel_rfl)]
  rw [run_indexByte_string]
  have := firstIdx_go b.toNat.toUInt8 l []
  have hm : (List.range l.length).map (fun x => x) = List.range l.length := List.map_id' _
  simp only [List.nil_append, List.length_nil, Nat.add_zero, hm] at this
  simp only [firstIdx, Result.andThen_ok]
  have hs : (⟨l.toArray⟩ : ByteArray).size = l.length := by simp [ByteArray.size]
  rw [hs]
  exact congrArg (fun z : Int => (Result.ok (Next.value (Value.int IntKind.i64 z)) w)) this
end Go.Vd.L
