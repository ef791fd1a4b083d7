/- General contracts: no byte of a bound name is a point or an at sign. -/
import Derived.Test.YtabgoidablkmjaaGreatDoorYdK3
set_option linter.unusedVariables false
set_option linter.unusedSimpArgs false
namespace Go.Vd.L
open Go.Vd

theorem idxB_none : ∀ (b : Nat) (s : List UInt8) (i : Nat), s.all (fun c => !Nat.beq c.toNat b) = true → idxB b s i = -1
  | _, [], _, _ => rfl
  | b, c :: s, i, h => by
    simp only [List.all_cons, Bool.and_eq_true, Bool.not_eq_true'] at h
    simp only [idxB, h.1, Bool.false_eq_true, if_false]
    exact idxB_none b s (i + 1) h.2

theorem ext114 (s : List UInt8) (c : UInt8) (H : AH) : Ck.ext 114 [.str s, .int .u8 (c.toNat : Int)] H = some (.int .i64 (idxB c.toNat s 0), H) := by
  have e : ∀ xs, Ck.ext 114 xs H = e114 xs H := fun xs => rfl
  rw [e]
  unfold e114
  have h : Nat.blt ((c.toNat : Int)).toNat 256 = true := by
    have := c.toNat_lt
    simp only [Nat.blt, blt_dec]
    simp
    omega
  simp only [h, if_true]
  simp

theorem rt100 (s : List UInt8) (c : UInt8) (H : AH) : Rt Ck 100 [.str s, .int .u8 (c.toNat : Int)] H fun v H' => v = .int .i64 (idxB c.toNat s 0) ∧ H' = H := by
  refine Rt.enter (af := c100) rfl rfl ?_
  repeat' (first | refine Wc.seq ?_ | refine Wc.reg ?_ | refine Fin.seq ?_ | refine Wo.nil ?_ | refine Wo.val rfl (.mv rfl) ?_)
  refine Wo.xcall rfl rfl (ext114 s c H) ?_
  repeat' (first | refine Wc.ret ?_ | refine Fin.seq ?_ | refine Wo.nil ?_ | refine Wo.val rfl (.mv rfl) ?_)
  exact Fin.kret rfl ⟨rfl, rfl⟩

theorem rt132 (s : List UInt8) (c : UInt8) (H : AH) : Rt Ck 132 [.str s, .int .u8 (c.toNat : Int)] H fun v H' => v = .int .i64 (idxB c.toNat s 0) ∧ H' = H := by
  refine Rt.enter (af := c132) rfl rfl ?_
  repeat' (first | refine Wc.seq ?_ | refine Wc.reg ?_ | refine Fin.seq ?_ | refine Wo.nil ?_ | refine Wo.val rfl (.mv rfl) ?_)
  refine Wo.call rfl rfl (rt100 s c H) ?_
  rintro _ _ ⟨rfl, rfl⟩
  repeat' (first | refine Wc.ret ?_ | refine Fin.seq ?_ | refine Wo.nil ?_ | refine Wo.val rfl (.mv rfl) ?_)
  exact Fin.kret rfl ⟨rfl, rfl⟩

set_option maxRecDepth 100000 in
theorem rt125 (s : List UInt8) (c : UInt8) (hc : c.toNat < 128) (H : AH) : Rt Ck 125 [.str s, .int .i32 (c.toNat : Int)] H fun v H' => v = .int .i64 (idxB c.toNat s 0) ∧ H' = H := by
  refine Rt.enter (af := c125) rfl rfl ?_
  repeat' (first | refine Wc.seq ?_ | refine Wc.block ?_ | refine Wc.reg ?_ | refine Fin.seq ?_ | refine Wo.nil ?_ | refine Wo.val rfl (.mv rfl) ?_ | refine Wo.val rfl (.pick_t rfl rfl) ?_ | refine Wo.val rfl (.bin rfl rfl rfl) ?_)
  · refine Wc.ifs rfl (fun h2 => ?_) (fun h2 => ?_)
    · repeat' (first | refine Wc.seq ?_ | refine Wc.reg ?_ | refine Wo.val rfl (.mv rfl) ?_ | refine Wo.val rfl (.conv_int rfl) ?_)
      have e : IntKind.u8.wrap (c.toNat : Int) = (c.toNat : Int) := by
        simp only [IntKind.wrap, IntKind.bits, IntKind.signed, Bool.false_and, Bool.false_eq_true, if_false]
        omega
      rw [e]
      refine Wo.call rfl rfl (rt132 s c H) ?_
      rintro _ _ ⟨rfl, rfl⟩
      repeat' (first | refine Wc.ret ?_ | refine Fin.seq ?_ | refine Fin.block_ret ?_ | refine Wo.nil ?_ | refine Wo.val rfl (.mv rfl) ?_)
      exact Fin.kret rfl ⟨rfl, rfl⟩
    · exfalso
      rw [lt_dec] at h2
      simp at h2
      omega

theorem rt126 (n : Int) (H : AH) : Rt Ck 126 [.int .i64 n] H fun v H' => v = .bool (decide (Int.ofNat 8 < n)) ∧ H' = H := by
  refine Rt.enter (af := c126) rfl rfl ?_
  repeat' (first | refine Wc.seq ?_ | refine Wc.reg ?_ | refine Wc.ret ?_ | refine Fin.seq ?_ | refine Wo.nil ?_ | refine Wo.val rfl (.mv rfl) ?_ | refine Wo.val rfl (.bin rfl rfl rfl) ?_)
  exact Fin.kret rfl ⟨rfl, rfl⟩

theorem rt128 (X : Nat) (l : List AV) (e fl : Nat) (c : UInt8) (v : AV) (H : AH) (h : H.get X = some (.cells l e fl)) (hv : l[c.toNat]? = some v) :
    Rt Ck 128 [.ptr X 0, .int .u8 (c.toNat : Int)] H fun u H' => u = v ∧ H' = H := by
  refine Rt.enter (af := c128) rfl rfl ?_
  have := c.toNat_lt
  repeat' (first | refine Wc.seq ?_ | refine Wc.reg ?_ | refine Fin.seq ?_ | refine Wo.nil ?_ | refine Wo.val rfl (.mv rfl) ?_ | refine Wo.val rfl (.chk rfl rfl) ?_)
  refine Wo.val rfl (.ixa rfl rfl (by omega) (by omega)) ?_
  refine Wo.val rfl (.ld rfl (v := v) ?_) ?_
  · rw [AH.rd_of h]
    simpa using hv
  repeat' (first | refine Wc.ret ?_ | refine Fin.seq ?_ | refine Wo.nil ?_ | refine Wo.val rfl (.mv rfl) ?_)
  exact Fin.kret rfl ⟨rfl, rfl⟩

/-- The set of the point and the at sign. -/
def setA : List AV := ((repl [.bool false] 256).set 46 (.bool true)).set 64 (.bool true)

theorem setA_len : setA.length = 256 := by decide +kernel
theorem setA_plain : ((List.range 256).all fun c => !plainN c || (match setA[c]? with
    | some (.bool false) => true
    | _ => false)) = true := by decide +kernel
theorem setA_at {c : UInt8} (h : plainN c.toNat = true) : setA[c.toNat]? = some (.bool false) := by
  have := List.all_eq_true.1 setA_plain c.toNat (List.mem_range.2 c.toNat_lt)
  rw [h] at this
  simp only [Bool.not_true, Bool.false_or] at this
  split at this
  · assumption
  · cases this

theorem setA_one : setA.all AV.one = true := by decide +kernel

set_option maxRecDepth 100000 in
theorem rt127 (H : AH) : Rt Ck 127 [.str [46, 64]] H fun v H' => v = .tup [.agg setA, .bool true] ∧ Ext 1 H H' := by
  refine Rt.enter (af := c127) rfl rfl ?_
  refine Wc.seq (Wc.reg ?_)
  obtain ⟨zs, hz⟩ : ∃ zs, repl [.bool false] 256 = zs := ⟨_, rfl⟩
  have hzl : zs.length = 256 := by rw [← hz]; decide +kernel
  refine Wo.val rfl (.alloc_as (zs' := zs) (by rw [← hz]; kernel_rfl) (by rw [← hz]; decide +kernel)) ?_
  repeat' (first | refine Wc.seq ?_ | refine Wc.block ?_ | refine Wc.reg ?_ | refine Fin.seq ?_ | refine Wo.nil ?_ | refine Wo.val rfl (.mv rfl) ?_)
  refine Wc.loop ?_
  repeat' (first | refine Wc.seq ?_ | refine Wc.block ?_ | refine Wc.reg ?_ | refine Wc.skip ?_ | refine Fin.seq ?_ | refine Wo.nil ?_ | refine Wc.cond_t rfl ?_ | refine Wc.cond_f rfl ?_ | refine Wo.val rfl (.mv rfl) ?_ | refine Wo.val rfl (.bin rfl rfl rfl) ?_ | refine Wo.val rfl (.tlen rfl) ?_ | refine Wo.val rfl (.ixt rfl rfl (by decide) rfl) ?_)
  refine Wo.val rfl (.ixa rfl rfl (by decide) (by decide)) ?_
  refine Wo.val rfl (.stn rfl rfl rfl (AH.wr1_as (l' := zs.set 46 (.bool true)) (AH.get_push_self _ _) (by decide) (by rw [hzl]; decide) rfl rfl)) ?_
  repeat' (first | refine Wc.reg ?_ | refine Fin.seq ?_ | refine Fin.block ?_ | refine Wo.nil ?_ | refine Wo.val rfl (.mv rfl) ?_ | refine Wo.val rfl (.bin rfl rfl rfl) ?_)
  refine Wc.loop ?_
  repeat' (first | refine Wc.seq ?_ | refine Wc.block ?_ | refine Wc.reg ?_ | refine Wc.skip ?_ | refine Fin.seq ?_ | refine Wo.nil ?_ | refine Wc.cond_t rfl ?_ | refine Wc.cond_f rfl ?_ | refine Wo.val rfl (.mv rfl) ?_ | refine Wo.val rfl (.bin rfl rfl rfl) ?_ | refine Wo.val rfl (.tlen rfl) ?_ | refine Wo.val rfl (.ixt rfl rfl (by decide) rfl) ?_)
  refine Wo.val rfl (.ixa rfl rfl (by decide) (by decide)) ?_
  refine Wo.val rfl (.stn rfl rfl rfl (AH.wr1_as (l' := setA) (AH.get_set_self _ _ _) (by decide) (by rw [List.length_set, hzl]; decide) rfl (by rw [← hz]; rfl))) ?_
  repeat' (first | refine Wc.reg ?_ | refine Fin.seq ?_ | refine Fin.block ?_ | refine Wo.nil ?_ | refine Wo.val rfl (.mv rfl) ?_ | refine Wo.val rfl (.bin rfl rfl rfl) ?_)
  refine Wc.loop ?_
  repeat' (first | refine Wc.seq ?_ | refine Wc.reg ?_ | refine Wc.exit ?_ | refine Fin.seq ?_ | refine Fin.seq_exit ?_ | refine Fin.block_here ?_ | refine Wo.nil ?_ | refine Wc.cond_f rfl ?_ | refine Wo.val rfl (.mv rfl) ?_ | refine Wo.val rfl (.bin rfl rfl rfl) ?_ | refine Wo.val rfl (.tlen rfl) ?_)
  refine Wo.val rfl (.ldn rfl (AH.rdn_all (AH.get_set_self _ _ _) setA_len)) ?_
  refine Wo.val rfl (.stn rfl rfl (by show Nat.beq setA.length 256 = true; rw [setA_len]; rfl) (AH.wr_all (AH.get_set_self _ _ _) (by decide) setA_one rfl)) ?_
  repeat' (first | refine Wc.ret ?_ | refine Fin.seq ?_ | refine Wo.nil ?_ | refine Wo.val rfl (.mv rfl) ?_)
  have hr : ∀ l : TL, look l 2 = some (.ptr H.next 0) → look l 3 = some (.bool true) → resL l ((((H.push (.cells zs 159 0)).set H.next (.cells (zs.set 46 (.bool true)) 159 0)).set H.next (.cells setA 159 0)).set H.next (.cells setA 159 0)) c127.res = some [.agg setA, .bool true] := by
    intro l h1 h2
    show resL l _ [(2, some (some 256)), (3, none)] = _
    simp only [resL, h1, h2, AH.rdn_all (AH.get_set_self _ _ _) setA_len]
  refine Fin.kret (hr _ rfl rfl) ⟨rfl, ?_⟩
  exact (((Ext.push H _).set (Nat.le_refl _) _).set (Nat.le_refl _) _).set (Nat.le_refl _) _
end Go.Vd.L
namespace Go.Vd.L
open Go.Vd

theorem plainN_not {b : Nat} (h : plainN b = true) : b ≠ 46 ∧ b ≠ 64 ∧ b < 128 := by
  simp only [plainN, blt_dec, beq_dec, Bool.or_eq_true, Bool.and_eq_true, decide_eq_true_eq] at h
  omega

theorem idx_plain {c : UInt8} (h : plainN c.toNat = true) : idxB c.toNat [46, 64] 0 = -1 := by
  obtain ⟨h1, h2, _⟩ := plainN_not h
  refine idxB_none _ _ _ ?_
  have e : ∀ k : Nat, c.toNat ≠ k → Nat.beq k c.toNat = false := fun k hk => by
    rw [beq_dec]; exact decide_eq_false (fun g => hk g.symm)
  simp [e 46 h1, e 64 h2]

theorem plain_at {s : List UInt8} (hp : s.all (fun b => plainN b.toNat) = true) {i : Nat} (h : i < s.length) : plainN (s[i]).toNat = true :=
  List.all_eq_true.1 hp _ (List.getElem_mem h)

set_option maxRecDepth 100000 in
theorem loop113a {H : AH} {X : Nat} {s : List UInt8} (hs : s.length ≤ 24) (hp : s.all (fun b => plainN b.toNat) = true) (hX : H.get X = some (.cells setA 159 0)) {Q : AEx → ASt → Prop} (h1 : Fin Q (.exit 0) [] [] H) :
    ∀ d i, s.length - i = d → i ≤ s.length → Wc Ck (.loop (bodyN c113 0)) [(0, .str s), (6, .ptr X 0), (8, .int .i64 (i : Nat))] [] H Q := by
  intro d
  induction d with
  | zero =>
    intro i hd hi
    refine Wc.loop ?_
    repeat' (first | refine Wc.seq ?_ | refine Wc.reg ?_ | refine Fin.seq ?_ | refine Wo.nil ?_ | refine Wo.val rfl (.mv rfl) ?_ | refine Wo.val rfl (.bin rfl rfl rfl) ?_ | refine Wo.val rfl (.tlen rfl) ?_)
    refine Wc.ifs rfl (fun hb => ?_) (fun hb => ?_)
    · exfalso; rw [lt_cast] at hb; simp at hb; omega
    · repeat' (first | refine Wc.exit ?_ | refine Fin.seq_exit ?_)
      exact h1.weak trivial
  | succ d ih =>
    intro i hd hi
    have hlt : i < s.length := by omega
    refine Wc.loop ?_
    repeat' (first | refine Wc.seq ?_ | refine Wc.reg ?_ | refine Fin.seq ?_ | refine Wo.nil ?_ | refine Wo.val rfl (.mv rfl) ?_ | refine Wo.val rfl (.bin rfl rfl rfl) ?_ | refine Wo.val rfl (.tlen rfl) ?_)
    refine Wc.ifs rfl (fun hb => ?_) (fun hb => ?_)
    · repeat' (first | refine Wc.seq ?_ | refine Wc.block ?_ | refine Wc.reg ?_ | refine Wc.skip ?_ | refine Fin.seq ?_ | refine Wo.val rfl (.mv rfl) ?_)
      refine Wo.val rfl (.ixt (b := s[i]) rfl rfl (by omega) (by simp [hlt])) ?_
      refine Wo.call rfl rfl (rt128 X setA 159 0 _ _ H hX (setA_at (plain_at hp hlt))) ?_
      rintro _ _ ⟨rfl, rfl⟩
      repeat' (first | refine Wc.reg ?_ | refine Wc.skip ?_ | refine Fin.seq ?_ | refine Fin.block ?_ | refine Wo.nil ?_ | refine Wc.cond_f rfl ?_ | refine Wo.val rfl (.mv rfl) ?_ | refine Wo.val rfl (.bin rfl rfl rfl) ?_)
      refine (ih (i + 1) (by omega) (by omega)).weak ⟨rfl, rfl, ?_, trivial⟩
      show some (AV.int .i64 _) = _
      rw [wrap_succ (by omega)]
    · exfalso; rw [lt_cast] at hb; simp at hb; omega

set_option maxRecDepth 100000 in
theorem loop113b {H : AH} {X : Nat} {s : List UInt8} (hs : s.length ≤ 24) (hp : s.all (fun b => plainN b.toNat) = true) {Q : AEx → ASt → Prop}
    (h1 : ∀ H' : AH, H'.next = H.next → (∀ Y, Y ≠ X → H'.get Y = H.get Y) → Fin Q (.exit 2) [] [] H') :
    ∀ d i (H' : AH), H'.next = H.next → (∀ Y, Y ≠ X → H'.get Y = H.get Y) → H'.get X = some (.it s i) → s.length - i = d → i ≤ s.length → Wc Ck (.loop (bodyN c113 1)) [(1, .str [46, 64]), (45, .ptr X 0)] [] H' Q := by
  intro d
  induction d with
  | zero =>
    intro i H' hn hg hX hd hi
    refine Wc.loop ?_
    repeat' (first | refine Wc.seq ?_ | refine Wc.reg ?_)
    refine Wo.val rfl (.nxt_end rfl hX (by simp; omega)) ?_
    repeat' (first | refine Wc.seq ?_ | refine Wc.exit ?_ | refine Fin.seq ?_ | refine Fin.seq_exit ?_ | refine Wo.nil ?_ | refine Wc.cond_f rfl ?_ | refine Wo.val rfl (.ext rfl rfl) ?_)
    exact (h1 H' hn hg).weak trivial
  | succ d ih =>
    intro i H' hn hg hX hd hi
    have hlt : i < s.length := by omega
    have hpl := plain_at hp hlt
    refine Wc.loop ?_
    repeat' (first | refine Wc.seq ?_ | refine Wc.reg ?_)
    refine Wo.val rfl (.nxt (b := s[i]) rfl hX (by simp [hlt]) (plainN_not hpl).2.2) ?_
    repeat' (first | refine Wc.seq ?_ | refine Wc.block ?_ | refine Wc.reg ?_ | refine Wc.skip ?_ | refine Fin.seq ?_ | refine Wo.nil ?_ | refine Wc.cond_t rfl ?_ | refine Wo.val rfl (.mv rfl) ?_ | refine Wo.val rfl (.ext rfl rfl) ?_)
    refine Wo.call rfl rfl (rt125 _ _ (plainN_not hpl).2.2 _) ?_
    rintro _ _ ⟨rfl, rfl⟩
    rw [idx_plain hpl]
    repeat' (first | refine Wc.skip ?_ | refine Fin.seq ?_ | refine Fin.block ?_ | refine Wo.nil ?_ | refine Wc.cond_f rfl ?_ | refine Wo.val rfl (.bin rfl rfl rfl) ?_)
    refine (ih (i + 1) _ (by rw [AH.next_set]; exact hn) (fun Y hY => by rw [AH.get_set_ne _ _ hY]; exact hg Y hY) (AH.get_set_self _ _ _) (by omega) (by omega)).weak ⟨rfl, rfl, trivial⟩

set_option maxRecDepth 100000 in
theorem rt113 (s : List UInt8) (hs : s.length ≤ 24) (hp : s.all (fun b => plainN b.toNat) = true) (H : AH) : Rt Ck 113 [.str s, .str [46, 64]] H fun v H' => v = .int .i64 (.negSucc 0) ∧ Ext 3 H H' := by
  refine Rt.enter (af := c113) rfl rfl ?_
  repeat' (first | refine Wc.seq ?_ | refine Wc.reg ?_ | refine Wc.skip ?_ | refine Fin.seq ?_ | refine Wo.nil ?_ | refine Wc.cond_f rfl ?_ | refine Wo.val rfl (.mv rfl) ?_ | refine Wo.val rfl (.bin rfl rfl rfl) ?_ | refine Wo.val rfl (.tlen rfl) ?_)
  refine Wo.call rfl rfl (rt126 _ H) ?_
  rintro _ _ ⟨rfl, rfl⟩
  repeat' (first | refine Fin.seq ?_ | refine Wo.nil ?_)
  refine Wc.ifs rfl (fun h1 => ?_) (fun h1 => ?_)
  · repeat' (first | refine Wc.seq ?_ | refine Wc.reg ?_ | refine Wo.val rfl (.mv rfl) ?_)
    refine Wo.call rfl rfl (rt127 _) ?_
    rintro _ H1 ⟨rfl, hE⟩
    repeat' (first | refine Wo.val rfl (.mv rfl) ?_ | refine Wo.val rfl (.ext rfl rfl) ?_)
    refine Wo.val rfl (.alloc_as (zs' := repl [.bool false] 256) (by kernel_rfl) (by decide +kernel)) ?_
    refine Wo.val rfl (.stn rfl rfl (by show Nat.beq setA.length 256 = true; rw [setA_len]; rfl) (AH.wr_all (AH.get_push_self _ _) (by decide) setA_one (by rw [show AV.cells (.agg setA) = setA from rfl, setA_len]; decide +kernel))) ?_
    repeat' (first | refine Wc.seq ?_ | refine Wc.block ?_ | refine Wc.reg ?_ | refine Fin.seq ?_ | refine Wo.nil ?_ | refine Wc.cond_t rfl ?_ | refine Wo.val rfl (.mv rfl) ?_)
    refine (loop113a hs hp (AH.get_set_self _ _ _) ?_ _ 0 rfl (Nat.zero_le _)).weak ⟨rfl, rfl, rfl, trivial⟩
    repeat' (first | refine Wc.seq ?_ | refine Wc.reg ?_ | refine Wc.ret ?_ | refine Fin.seq ?_ | refine Fin.seq_ret ?_ | refine Fin.block_here ?_ | refine Wo.nil ?_ | refine Wo.val rfl (.mv rfl) ?_)
    refine Fin.kret rfl ⟨rfl, ?_⟩
    exact (hE.trans ((Ext.push H1 _).set (Nat.le_refl _) _)).mono (by omega)
  · repeat' (first | refine Wc.seq ?_ | refine Wc.block ?_ | refine Wc.reg ?_ | refine Wc.skip ?_ | refine Fin.seq ?_ | refine Wo.nil ?_ | refine Wo.val rfl (.mv rfl) ?_ | refine Wo.val rfl (.rng rfl) ?_)
    refine (loop113b hs hp (fun H' hn hg => ?_) _ 0 _ rfl (fun _ _ => rfl) (AH.get_push_self _ _) rfl (Nat.zero_le _)).weak ⟨rfl, rfl, trivial⟩
    repeat' (first | refine Wc.seq ?_ | refine Wc.reg ?_ | refine Wc.ret ?_ | refine Fin.seq ?_ | refine Fin.block_here ?_ | refine Wo.nil ?_ | refine Wo.val rfl (.mv rfl) ?_)
    refine Fin.kret rfl ⟨rfl, ?_⟩
    refine ⟨by rw [hn, AH.next_push]; omega, by rw [hn, AH.next_push]; omega, fun Y hY => ?_⟩
    rw [hg Y (by omega), AH.get_push_ne _ _ (by omega)]

theorem rt98 (s : List UInt8) (hs : s.length ≤ 24) (hp : s.all (fun b => plainN b.toNat) = true) (H : AH) : Rt Ck 98 [.str s, .str [46, 64]] H fun v H' => v = .bool false ∧ Ext 3 H H' := by
  refine Rt.enter (af := c98) rfl rfl ?_
  repeat' (first | refine Wc.seq ?_ | refine Wc.reg ?_ | refine Fin.seq ?_ | refine Wo.nil ?_ | refine Wo.val rfl (.mv rfl) ?_)
  refine Wo.call rfl rfl (rt113 s hs hp _) ?_
  rintro _ H1 ⟨rfl, hE⟩
  repeat' (first | refine Wc.ret ?_ | refine Fin.seq ?_ | refine Wo.nil ?_ | refine Wo.val rfl (.mv rfl) ?_ | refine Wo.val rfl (.bin rfl rfl rfl) ?_)
  exact Fin.kret rfl ⟨rfl, hE⟩
end Go.Vd.L
namespace Go.Vd.L
open Go.Vd

theorem letter_plain {c : Int} (h : letterI c = true) : plainI c = true := by simp [plainI, h]

/-- A part of a name. -/
def partB : List UInt8 → Bool
  | [] => false
  | a :: r => letterI (a.toNat : Int) && r.all (fun b => plainN b.toNat)

theorem partB_at {s : List UInt8} (h : partB s = true) {i : Nat} (hi : i < s.length) : letterI ((s[i]).toNat : Int) = true ∨ (0 < i ∧ plainN (s[i]).toNat = true) := by
  match s, h with
  | a :: r, h =>
    simp only [partB, Bool.and_eq_true] at h
    match i, hi with
    | 0, _ => exact .inl h.1
    | i + 1, hi => exact .inr ⟨by omega, List.all_eq_true.1 h.2 _ (List.getElem_mem (by simpa using hi))⟩

theorem loop73 {H : AH} {s : List UInt8} (hs : s.length < 1000) (hp : partB s = true) {Q : AEx → ASt → Prop} (h1 : Fin Q (.exit 0) [(0, .str s)] [] H) :
    ∀ d i, s.length - i = d → i ≤ s.length → Wc Ck (.loop (bodyN c73 0)) [(0, .str s), (6, .int .i64 (s.length : Nat)), (7, .int .i64 (i : Nat))] [] H Q := by
  intro d
  induction d with
  | zero =>
    intro i hd hi
    refine Wc.loop ?_
    repeat' (first | refine Wc.seq ?_ | refine Wc.reg ?_ | refine Fin.seq ?_ | refine Wo.nil ?_ | refine Wo.val rfl (.bin rfl rfl rfl) ?_)
    refine Wc.ifs rfl (fun hb => ?_) (fun hb => ?_)
    · exfalso; rw [lt_cast] at hb; simp at hb; omega
    · repeat' (first | refine Wc.exit ?_ | refine Fin.seq_exit ?_)
      exact h1.weak ⟨rfl, trivial⟩
  | succ d ih =>
    intro i hd hi
    have hlt : i < s.length := by omega
    refine Wc.loop ?_
    repeat' (first | refine Wc.seq ?_ | refine Wc.reg ?_ | refine Fin.seq ?_ | refine Wo.nil ?_ | refine Wo.val rfl (.bin rfl rfl rfl) ?_)
    refine Wc.ifs rfl (fun hb => ?_) (fun hb => ?_)
    · repeat' (first | refine Wc.seq ?_ | refine Wc.block ?_ | refine Wc.reg ?_ | refine Wc.skip ?_ | refine Fin.seq ?_ | refine Wo.nil ?_ | refine Wo.val rfl (.mv rfl) ?_)
      refine Wo.val rfl (.ixt (b := s[i]) rfl rfl (by omega) (by simp [hlt])) ?_
      repeat' (first | refine Wc.seq ?_ | refine Wc.block ?_ | refine Wc.reg ?_ | refine Fin.seq ?_ | refine Wo.nil ?_ | refine Wo.val rfl (.mv rfl) ?_)
      refine Wo.call rfl rfl (rt91 _ H) ?_
      rintro _ _ ⟨rfl, rfl⟩
      repeat' (first | refine Fin.seq ?_ | refine Wo.nil ?_ | refine Wo.val rfl (.mv rfl) ?_)
      refine Wc.ifs rfl (fun hl => ?_) (fun hl => ?_)
      · repeat' (first | refine Wc.reg ?_ | refine Wc.exit ?_ | refine Fin.seq ?_ | refine Fin.seq_exit ?_ | refine Fin.block ?_ | refine Fin.block_here ?_ | refine Fin.block_on rfl ?_ | refine Wo.nil ?_ | refine Wo.val rfl (.mv rfl) ?_ | refine Wo.val rfl (.bin rfl rfl rfl) ?_)
        refine (ih (i + 1) (by omega) (by omega)).weak ⟨rfl, rfl, ?_, trivial⟩
        show some (AV.int .i64 _) = _
        rw [wrap_succ (by omega)]
      · have hpi : 0 < i ∧ plainN (s[i]).toNat = true := by
          rcases partB_at hp hlt with h | h
          · rw [h] at hl; cases hl
          · exact h
        have hz : decide ((i : Int) = Int.ofNat 0) = false := decide_eq_false (fun e => by have := Int.ofNat.inj e; omega)
        repeat' (first | refine Wc.seq ?_ | refine Wc.reg ?_ | refine Wc.skip ?_ | refine Fin.seq ?_ | refine Wo.nil ?_ | refine Wo.val rfl (.mv rfl) ?_ | refine Wo.val rfl (.bin rfl rfl rfl) ?_)
        refine Wc.ifs rfl (fun hu => ?_) (fun hu => ?_)
        · repeat' (first | refine Wc.seq ?_ | refine Wc.reg ?_ | refine Wc.exit ?_ | refine Fin.seq ?_ | refine Fin.seq_exit ?_ | refine Fin.block ?_ | refine Fin.block_here ?_ | refine Fin.block_on rfl ?_ | refine Wo.nil ?_ | refine Wo.val rfl (.mv rfl) ?_ | refine Wo.val rfl (.bin rfl rfl rfl) ?_)
          rw [hz]
          repeat' (first | refine Wc.reg ?_ | refine Wc.skip ?_ | refine Wc.exit ?_ | refine Fin.seq ?_ | refine Fin.seq_exit ?_ | refine Fin.block ?_ | refine Fin.block_here ?_ | refine Fin.block_on rfl ?_ | refine Wo.nil ?_ | refine Wc.cond_f rfl ?_ | refine Wo.val rfl (.mv rfl) ?_ | refine Wo.val rfl (.bin rfl rfl rfl) ?_)
          refine (ih (i + 1) (by omega) (by omega)).weak ⟨rfl, rfl, ?_, trivial⟩
          show some (AV.int .i64 _) = _
          rw [wrap_succ (by omega)]
        · have hdig : decide (Int.ofNat 48 ≤ ((s[i]).toNat : Int)) = true ∧ decide (((s[i]).toNat : Int) ≤ Int.ofNat 57) = true := by
            have h1 := hpi.2
            rw [← plainI_N] at h1
            simp only [plainI, hl, hu, Bool.false_or, Bool.or_false, Bool.and_eq_true] at h1
            exact h1
          repeat' (first | refine Wc.seq ?_ | refine Wc.reg ?_ | refine Wc.skip ?_ | refine Fin.seq ?_ | refine Wo.val rfl (.mv rfl) ?_ | refine Wo.val rfl (.bin rfl rfl rfl) ?_)
          rw [hdig.1]
          repeat' (first | refine Fin.seq ?_ | refine Wo.nil ?_ | refine Wo.val rfl (.mv rfl) ?_ | refine Wo.val rfl (.pick_t rfl rfl) ?_ | refine Wo.val rfl (.bin rfl rfl rfl) ?_)
          rw [hdig.2]
          repeat' (first | refine Wc.seq ?_ | refine Wc.reg ?_ | refine Wc.exit ?_ | refine Fin.seq ?_ | refine Fin.seq_exit ?_ | refine Fin.block_here ?_ | refine Fin.block_on rfl ?_ | refine Wo.nil ?_ | refine Wc.cond_t rfl ?_ | refine Wo.val rfl (.mv rfl) ?_ | refine Wo.val rfl (.bin rfl rfl rfl) ?_)
          rw [hz]
          repeat' (first | refine Wc.reg ?_ | refine Wc.skip ?_ | refine Wc.exit ?_ | refine Fin.seq ?_ | refine Fin.seq_exit ?_ | refine Fin.block ?_ | refine Fin.block_here ?_ | refine Fin.block_on rfl ?_ | refine Wo.nil ?_ | refine Wc.cond_f rfl ?_ | refine Wo.val rfl (.mv rfl) ?_ | refine Wo.val rfl (.bin rfl rfl rfl) ?_)
          refine (ih (i + 1) (by omega) (by omega)).weak ⟨rfl, rfl, ?_, trivial⟩
          show some (AV.int .i64 _) = _
          rw [wrap_succ (by omega)]
    · exfalso; rw [lt_cast] at hb; simp at hb; omega

theorem rt73 (s : List UInt8) (hs : s.length < 1000) (hp : partB s = true) (H : AH) : Rt Ck 73 [.str s] H fun v H' => v = .bool true ∧ H' = H := by
  refine Rt.enter (af := c73) rfl rfl ?_
  have hne : strEq s [] = false := by
    match s, hp with
    | a :: r, _ => rfl
  repeat' (first | refine Wc.seq ?_ | refine Wc.block ?_ | refine Wc.reg ?_ | refine Fin.seq ?_ | refine Wo.nil ?_ | refine Wo.val rfl (.mv rfl) ?_ | refine Wo.val rfl (.tlen rfl) ?_)
  refine (loop73 hs hp ?_ _ 0 rfl (Nat.zero_le _)).weak ⟨rfl, rfl, rfl, trivial⟩
  repeat' (first | refine Wc.seq ?_ | refine Wc.reg ?_ | refine Wc.ret ?_ | refine Fin.seq ?_ | refine Fin.block_here ?_ | refine Wo.nil ?_ | refine Wo.val rfl (.mv rfl) ?_ | refine Wo.val rfl (.bin rfl rfl rfl) ?_)
  refine Fin.kret rfl ⟨?_, rfl⟩
  simp [oneR, hne]

theorem ext118 (s : List UInt8) (c : UInt8) (H : AH) : Ck.ext 118 [.str s, .int .u8 (c.toNat : Int)] H = some (.int .i64 (cntB c.toNat s 0 : Nat), H) := by
  have e : ∀ xs, Ck.ext 118 xs H = e118 xs H := fun xs => rfl
  rw [e]
  unfold e118
  have h : Nat.blt ((c.toNat : Int)).toNat 256 = true := by
    have := c.toNat_lt
    simp only [Nat.blt, blt_dec]
    simp
    omega
  simp only [h, if_true]
  simp

theorem cntB_none : ∀ (b : Nat) (s : List UInt8) (n : Nat), s.all (fun c => !Nat.beq c.toNat b) = true → cntB b s n = n
  | _, [], _, _ => rfl
  | b, c :: s, n, h => by
    simp only [List.all_cons, Bool.and_eq_true, Bool.not_eq_true'] at h
    simp only [cntB, h.1, Bool.false_eq_true, if_false]
    exact cntB_none b s n h.2

theorem rt106 (s : List UInt8) (H : AH) : Rt Ck 106 [.str s, .str [46]] H fun v H' => v = .int .i64 (cntB 46 s 0 : Nat) ∧ H' = H := by
  refine Rt.enter (af := c106) rfl rfl ?_
  repeat' (first | refine Wc.seq ?_ | refine Wc.reg ?_ | refine Wc.skip ?_ | refine Fin.seq ?_ | refine Wo.nil ?_ | refine Wc.cond_t rfl ?_ | refine Wc.cond_f rfl ?_ | refine Wo.val rfl (.mv rfl) ?_ | refine Wo.val rfl (.bin rfl rfl rfl) ?_ | refine Wo.val rfl (.tlen rfl) ?_ | refine Wo.val rfl (.ixt rfl rfl (by decide) rfl) ?_)
  refine Wo.xcall rfl rfl (ext118 s 46 H) ?_
  repeat' (first | refine Wc.ret ?_ | refine Fin.seq ?_ | refine Fin.seq_ret ?_ | refine Wo.nil ?_ | refine Wo.val rfl (.mv rfl) ?_)
  exact Fin.kret rfl ⟨rfl, rfl⟩

theorem rt90 (s : List UInt8) (hs : s.length < 1000) (hc : cntB 46 s 0 = 0) (H : AH) : Rt Ck 90 [.str s, .str [46], .int .i64 (.ofNat 0), .int .i64 (.negSucc 0)] H
    fun v H' => v = .slc H.next 0 1 1 1 true ∧ H'.get H.next = some (.cells [.str s] 9 0) ∧ Ext 1 H H' := by
  refine Rt.enter (af := c90) rfl rfl ?_
  repeat' (first | refine Wc.seq ?_ | refine Wc.reg ?_ | refine Wc.skip ?_ | refine Fin.seq ?_ | refine Wo.nil ?_ | refine Wc.cond_t rfl ?_ | refine Wc.cond_f rfl ?_ | refine Wo.val rfl (.mv rfl) ?_ | refine Wo.val rfl (.bin rfl rfl rfl) ?_)
  refine Wo.call rfl rfl (rt106 s H) ?_
  rintro _ H0 ⟨rfl, e0⟩
  subst e0
  rw [hc]
  repeat' (first | refine Wc.seq ?_ | refine Wc.reg ?_ | refine Fin.seq ?_ | refine Wo.nil ?_ | refine Wo.val rfl (.mv rfl) ?_ | refine Wo.val rfl (.bin rfl rfl rfl) ?_ | refine Wo.val rfl (.tlen rfl) ?_)
  have hm : mmA false .i64 (IntKind.i64.wrap (((0 : Nat) : Int) + Int.ofNat 1)) [.int .i64 (IntKind.i64.wrap ((s.length : Int) + Int.ofNat 1))] = some (.int .i64 (Int.ofNat 1)) := by
    rw [wrap_succ (i := s.length) (by omega)]
    show mmA false .i64 (Int.ofNat 1) _ = _
    simp only [mmA, if_true, Bool.false_eq_true, if_false]
    rw [if_neg (by simp; omega)]
  refine Wo.val rfl (.mm rfl rfl hm) ?_
  repeat' (first | refine Wc.seq ?_ | refine Wc.reg ?_ | refine Fin.seq ?_ | refine Wo.nil ?_ | refine Wo.val rfl (.mv rfl) ?_)
  refine Wo.val rfl (.mks rfl rfl (by decide)) ?_
  repeat' (first | refine Wc.seq ?_ | refine Wc.block ?_ | refine Wc.reg ?_ | refine Fin.seq ?_ | refine Wo.nil ?_ | refine Wo.val rfl (.mv rfl) ?_ | refine Wo.val rfl (.bin rfl rfl rfl) ?_)
  refine Wc.loop ?_
  repeat' (first | refine Wc.seq ?_ | refine Wc.reg ?_ | refine Wc.exit ?_ | refine Fin.seq ?_ | refine Fin.seq_exit ?_ | refine Fin.block_here ?_ | refine Wo.nil ?_ | refine Wc.cond_f rfl ?_ | refine Wo.val rfl (.mv rfl) ?_ | refine Wo.val rfl (.bin rfl rfl rfl) ?_)
  refine Wo.val rfl (.ixs rfl rfl (by decide) (by decide) (by decide)) ?_
  refine Wo.val rfl (.stn rfl rfl rfl (AH.wr1_as (l' := [.str s]) (AH.get_push_self _ _) (by decide) (by decide) rfl rfl)) ?_
  repeat' (first | refine Wc.seq ?_ | refine Wc.reg ?_ | refine Fin.seq ?_ | refine Wo.nil ?_ | refine Wo.val rfl (.mv rfl) ?_ | refine Wo.val rfl (.bin rfl rfl rfl) ?_)
  refine Wo.val rfl (.slv (p := 0) (q := 1) (r := 1) rfl (by decide) rfl rfl rfl rfl) ?_
  repeat' (first | refine Wc.ret ?_ | refine Fin.seq ?_ | refine Wo.nil ?_ | refine Wo.val rfl (.mv rfl) ?_)
  refine Fin.kret rfl ⟨rfl, AH.get_set_self _ _ _, ?_⟩
  exact (Ext.push H0 _).set (Nat.le_refl _) _

theorem rt72 (s : List UInt8) (hs : s.length < 1000) (hc : cntB 46 s 0 = 0) (H : AH) : Rt Ck 72 [.str s, .str [46]] H
    fun v H' => v = .slc H.next 0 1 1 1 true ∧ H'.get H.next = some (.cells [.str s] 9 0) ∧ Ext 1 H H' := by
  refine Rt.enter (af := c72) rfl rfl ?_
  repeat' (first | refine Wc.seq ?_ | refine Wc.reg ?_ | refine Fin.seq ?_ | refine Wo.nil ?_ | refine Wo.val rfl (.mv rfl) ?_)
  refine Wo.call rfl rfl (rt90 s hs hc H) ?_
  rintro _ H1 ⟨rfl, hg, hE⟩
  repeat' (first | refine Wc.ret ?_ | refine Fin.seq ?_ | refine Wo.nil ?_ | refine Wo.val rfl (.mv rfl) ?_)
  exact Fin.kret rfl ⟨rfl, hg, hE⟩

theorem cnt_part {s : List UInt8} (h : partB s = true) : cntB 46 s 0 = 0 := by
  have key : ∀ b : UInt8, plainN b.toNat = true → (!Nat.beq b.toNat 46) = true := fun b hb => by
    have := (plainN_not hb).1
    rw [beq_dec]
    simpa using this
  refine cntB_none 46 s 0 ?_
  match s, h with
  | a :: r, h =>
    simp only [partB, Bool.and_eq_true] at h
    have ha : plainN a.toNat = true := by rw [← plainI_N]; exact letter_plain h.1
    simp only [List.all_cons, Bool.and_eq_true]
    refine ⟨key a ha, List.all_eq_true.2 fun b hb => key b (List.all_eq_true.1 h.2 b hb)⟩

/-- IsName of a part of a name. -/
theorem rt45 (s : List UInt8) (hs : s.length ≤ 24) (hp : partB s = true) (H : AH) : Rt Ck 45 [.str s] H fun v H' => v = .bool true ∧ Ext 1 H H' := by
  refine Rt.enter (af := c45) rfl rfl ?_
  repeat' (first | refine Wc.seq ?_ | refine Wc.reg ?_ | refine Fin.seq ?_ | refine Wo.nil ?_ | refine Wo.val rfl (.mv rfl) ?_)
  refine Wo.call rfl rfl (rt72 s (by omega) (cnt_part hp) H) ?_
  rintro _ H1 ⟨rfl, hg, hE⟩
  repeat' (first | refine Wc.block ?_ | refine Fin.seq ?_ | refine Wo.nil ?_ | refine Wo.val rfl (.mv rfl) ?_ | refine Wo.val rfl (.len rfl) ?_)
  refine Wc.loop ?_
  repeat' (first | refine Wc.seq ?_ | refine Wc.block ?_ | refine Wc.reg ?_ | refine Wc.skip ?_ | refine Fin.seq ?_ | refine Wo.nil ?_ | refine Wc.cond_t rfl ?_ | refine Wo.val rfl (.bin rfl rfl rfl) ?_)
  refine Wo.val rfl (.ixs rfl rfl (by decide) (by decide) (by decide)) ?_
  refine Wo.val rfl (.ld (v := .str s) rfl (by rw [AH.rd_of hg]; rfl)) ?_
  repeat' (first | refine Wc.seq ?_ | refine Wc.reg ?_ | refine Fin.seq ?_ | refine Wo.nil ?_ | refine Wo.val rfl (.mv rfl) ?_)
  refine Wo.call rfl rfl (rt73 s (by omega) hp H1) ?_
  rintro _ H2 ⟨rfl, e2⟩
  subst e2
  repeat' (first | refine Wc.reg ?_ | refine Wc.skip ?_ | refine Fin.seq ?_ | refine Fin.block ?_ | refine Wo.nil ?_ | refine Wc.cond_f rfl ?_ | refine Wo.val rfl (.mv rfl) ?_ | refine Wo.val rfl (.bin rfl rfl rfl) ?_ | refine Wo.val rfl (.un rfl rfl) ?_)
  refine Wc.loop ?_
  repeat' (first | refine Wc.seq ?_ | refine Wc.reg ?_ | refine Wc.ret ?_ | refine Wc.exit ?_ | refine Fin.seq ?_ | refine Fin.seq_exit ?_ | refine Fin.block_here ?_ | refine Wo.nil ?_ | refine Wc.cond_f rfl ?_ | refine Wo.val rfl (.mv rfl) ?_ | refine Wo.val rfl (.bin rfl rfl rfl) ?_ | refine Wo.val rfl (.tlen rfl) ?_)
  refine Fin.kret rfl ⟨?_, hE⟩
  have : decide ((s.length : Int) ≤ Int.ofNat 24) = true := by rw [hi_dec]; exact Nat.ble_eq_true_of_le hs
  simp only [oneR]
  rw [this]

theorem rt85 (s : List UInt8) (hb : boundB s = true) (H : AH) : Rt Ck 85 [.str s] H fun v H' => v = .bool true ∧ Ext 5 H H' := by
  refine Rt.enter (af := c85) rfl rfl ?_
  match s, hb with
  | a :: r, hb =>
    simp only [boundB, Bool.and_eq_true, Bool.not_eq_true'] at hb
    obtain ⟨⟨⟨⟨_, h24⟩, hd⟩, hp⟩, hk⟩ := hb
    have h24 : (a :: r).length ≤ 24 := Nat.le_of_ble_eq_true h24
    have e24 : decide (Int.ofNat 24 < ((a :: r).length : Int)) = false := by rw [gt_dec]; exact decide_eq_false (by omega)
    have hpa : plainN a.toNat = true := by simp only [List.all_cons, Bool.and_eq_true] at hp; exact hp.1
    have hpr : r.all (fun b => plainN b.toNat) = true := by simp only [List.all_cons, Bool.and_eq_true] at hp; exact hp.2
    have hl : r.length ≤ 23 := by have := h24; simp only [List.length_cons] at this; omega
    repeat' (first | refine Wc.seq ?_ | refine Wc.reg ?_ | refine Fin.seq ?_ | refine Wo.nil ?_ | refine Wo.val rfl (.mv rfl) ?_ | refine Wo.val rfl (.pick_f rfl rfl) ?_ | refine Wo.val rfl (.bin rfl rfl rfl) ?_ | refine Wo.val rfl (.tlen rfl) ?_)
    rw [e24]
    repeat' refine Wo.val rfl (.mv rfl) ?_
    refine Wo.call rfl rfl (rt44 _ H) ?_
    rintro _ H1 ⟨rfl, e1⟩
    subst e1
    rw [hk]
    repeat' (first | refine Wo.val rfl (.mv rfl) ?_ | refine Wo.val rfl (.pick_f rfl rfl) ?_)
    refine Wo.call rfl rfl (rt98 _ h24 hp H1) ?_
    rintro _ H2 ⟨rfl, hE2⟩
    repeat' (first | refine Wc.seq ?_ | refine Wc.reg ?_ | refine Wc.skip ?_ | refine Fin.seq ?_ | refine Wo.nil ?_ | refine Wc.cond_f rfl ?_ | refine Wo.val rfl (.mv rfl) ?_ | refine Wo.val rfl (.pick_f rfl rfl) ?_)
    refine Wo.val rfl (.sls rfl rfl rfl (bnds_lo (n := 1) (by simp))) ?_
    refine Wo.val rfl (.bin rfl rfl (binV_add (x := [97]) (y := List.take ((a :: r).length - 1) (List.drop 1 (a :: r))) (by simp; omega))) ?_
    rw [show [97] ++ List.take ((a :: r).length - 1) (List.drop 1 (a :: r)) = 97 :: r by simp]
    refine Wo.call rfl rfl (rt45 (97 :: r) (by simp; omega) (by simp only [partB, hpr, Bool.and_true]; decide) H2) ?_
    rintro _ H3 ⟨rfl, hE3⟩
    repeat' (first | refine Wo.val rfl (.mv rfl) ?_ | refine Wo.val rfl (.bin rfl rfl rfl) ?_ | refine Wo.val rfl (.ixt rfl rfl (by decide) rfl) ?_)
    refine Wo.branch rfl (fun hu => ?_) (fun hu => ?_)
    · repeat' (first | refine Wc.ret ?_ | refine Fin.seq ?_ | refine Wo.nil ?_ | refine Wo.skip rfl ?_ | refine Wo.val rfl (.mv rfl) ?_ | refine Wo.val rfl (.pick_t rfl rfl) ?_)
      exact Fin.kret rfl ⟨rfl, (hE2.trans hE3).mono (by omega)⟩
    · have hla : letterI (a.toNat : Int) = true := by
        have h1 := hpa
        rw [← plainI_N] at h1
        simp only [plainI, hu, Bool.or_false] at h1
        cases h : letterI (a.toNat : Int) with
        | true => rfl
        | false =>
          rw [h, Bool.false_or, lo_dec, hi_dec] at h1
          simp only [digitN, h1] at hd
          cases hd
      repeat' refine Wo.val rfl (.mv rfl) ?_
      refine Wo.call rfl rfl (rt45 (a :: r) h24 (by simp only [partB, hpr, hla, Bool.and_self]) H3) ?_
      rintro _ H4 ⟨rfl, hE4⟩
      repeat' (first | refine Wc.ret ?_ | refine Fin.seq ?_ | refine Wo.nil ?_ | refine Wo.val rfl (.mv rfl) ?_ | refine Wo.val rfl (.pick_t rfl rfl) ?_ | refine Wo.val rfl (.pick_f rfl rfl) ?_)
      exact Fin.kret rfl ⟨rfl, ((hE2.trans hE3).trans hE4).mono (by omega)⟩
end Go.Vd.L
