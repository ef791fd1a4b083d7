/- Counting a byte. -/
import Derived.Test.YtabgoidablkmjaaGreatDoorVdL5
set_option linter.unusedVariables false
set_option linter.unusedSimpArgs false
namespace Go.Vd.L
open Go.Vd Go.Proofs

theorem loop_fold {β : Type} (f : β → UInt8 → β) (xs : ByteArray) (stop : Nat) (h : stop ≤ xs.size) : ∀ (i j : Nat) (b : β), j + i = stop →
    ByteArray.foldlM.loop (m := _root_.Id) (fun b x => pure (f b x)) xs stop h i j b = (pure (((xs.data.toList.drop j).take i).foldl f b) : _root_.Id β)
  | 0, j, b, hj => by
    unfold ByteArray.foldlM.loop
    have : ¬ j < stop := by omega
    simp [this]
  | i + 1, j, b, hj => by
    unfold ByteArray.foldlM.loop
    have hlt : j < stop := by omega
    have hl : j < xs.data.toList.length := by
      have : xs.size = xs.data.toList.length := (Array.length_toList (xs := xs.data)).symm
      omega
    simp only [hlt, dif_pos]
    rw [List.drop_eq_getElem_cons hl, List.take_succ_cons, List.foldl_cons]
    have := loop_fold f xs stop h i (j + 1) (f b xs.data.toList[j]) (by omega)
    simp only [pure_bind]
    rw [← this]
    rfl

theorem foldl_list {β : Type} (f : β → UInt8 → β) (b : β) (xs : ByteArray) : xs.foldl f b = xs.data.toList.foldl f b := by
  unfold ByteArray.foldl ByteArray.foldlM
  have h : xs.size ≤ xs.size := Nat.le_refl _
  simp only [h, dif_pos]
  have := loop_fold f xs xs.size h xs.size 0 b (by omega)
  simp only [Nat.sub_zero]
  have e : (xs.data.toList.drop 0).take xs.size = xs.data.toList := by
    simp only [List.drop_zero]
    exact List.take_of_length_le (Nat.le_of_eq (Array.length_toList (xs := xs.data)))
  rw [e] at this
  exact congrArg _root_.Id.run this

theorem cnt_fold (c : UInt8) : ∀ (l : List UInt8) (n : Nat), l.foldl (fun (n : Int) x => if (x == c) = true then n + 1 else n) (n : Int) = (cntB c.toNat l n : Nat)
  | [], n => rfl
  | x :: l, n => by
    have hx : Nat.beq x.toNat c.toNat = (x == c) := by
      cases h : (x == c) with
      | true => rw [eq_of_beq h]; exact Nat.beq_refl _
      | false =>
        have h2 : x ≠ c := by simpa using h
        cases h3 : Nat.beq x.toNat c.toNat with
        | false => rfl
        | true => exact absurd (UInt8.toNat_inj.1 (Nat.eq_of_beq_eq_true h3)) h2
    simp only [List.foldl_cons, cntB, hx]
    cases h : (x == c) with
    | true => simp only [if_true]; exact cnt_fold c l (n + 1)
    | false => simp only [Bool.false_eq_true, if_false]; exact cnt_fold c l n

theorem x118 (l : List UInt8) (b : Int) (w : World) : (callFunc 118 #[.string ⟨l.toArray⟩, .int .u8 b]).run Tryz.prog w = .ok (.value (.int .i64 (cntB b.toNat.toUInt8.toNat l 0))) w := by
  rw [run_callFunc_extern (fn := Tryz.f118) (e := Extern.BytealgCount.count) (by kernel_rfl) (by kernel_rfl) (by kernel_rfl) (by kernel_rfl) (by kernel_rfl)]
  have e : (Extern.BytealgCount.count #[.string ⟨l.toArray⟩, .int .u8 b]).run Tryz.prog w =
      .ok (goInt ((⟨l.toArray⟩ : ByteArray).foldl (fun (n : Int) x => if (x == b.toNat.toUInt8) = true then n + 1 else n) ((0 : Nat) : Int))) w := rfl
  rw [e, foldl_list]
  have := cnt_fold b.toNat.toUInt8 l 0
  simp only [Result.andThen_ok, goInt]
  exact congrArg (fun z : Int => (Result.ok (Next.value (Value.int IntKind.i64 z)) w)) this
end Go.Vd.L
