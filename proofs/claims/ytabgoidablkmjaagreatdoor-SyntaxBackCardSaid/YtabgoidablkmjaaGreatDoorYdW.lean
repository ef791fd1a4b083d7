/- More rounds give the same answer: the evaluator is monotone in its rounds. -/
import Derived.Test.YtabgoidablkmjaaGreatDoorYdG
import Derived.Test.YtabgoidablkmjaaGreatDoorYdB
set_option linter.unusedVariables false
set_option linter.unusedSimpArgs false
namespace Go.Vd

def Below' (ih ih' : Task → Option Out) : Prop := ∀ t o, ih t = some o → ih' t = some o

section
variable {C : Ctx} {ih ih' : Task → Option Out}

theorem follow_mono (h : Below' ih ih') (H : AH) (r : ORes) (x : SRes) (hx : x ≠ .fail) (e : follow C ih H r = x) : follow C ih' H r = x := by
  have key : ∀ t, ofOut (ih t) = x → ofOut (ih' t) = x := fun t e => by
    cases ht : ih t with
    | none => rw [ht] at e; exact absurd e.symm hx
    | some o => rw [h t o ht, ← ht]; exact e
  cases r with
  | val v H' => exact e
  | call f as => exact key _ e
  | xcall f as => exact e
  | icall t v m as =>
    simp only [follow] at e ⊢
    split
    · rename_i f r hm
      simp only [hm] at e
      split
      · rename_i hf; rw [if_pos hf] at e; exact e
      · rename_i hf; rw [if_neg hf] at e; exact key _ e
    · rename_i hm
      simp only [hm] at e
      exact e
  | dfr f as => exact e
  | pan v => exact e
  | rcv => exact e
  | fail => exact e

theorem astep_mono (h : Below' ih ih') (tm : Tr AV) (H : AH) (o : AOper) (x : SRes) (hx : x ≠ .fail) (e : astep C ih tm H o = x) : astep C ih' tm H o = x := by
  unfold astep at *
  split
  · rename_i hw; rw [if_pos hw] at e; exact follow_mono h _ _ _ hx e
  · rename_i hw; rw [if_neg hw] at e; exact e

theorem opsR_mono (h : Below' ih ih') : ∀ (l : List AOper) (s : ASt) r, opsR C ih l s = some r → opsR C ih' l s = some r
  | [], s, r, e => e
  | o :: l, s, r, e => by
    unfold opsR at e ⊢
    cases ha : astep C ih s.tm s.hp o with
    | go v H => rw [ha] at e; rw [astep_mono h _ _ _ _ (by simp) ha]; exact opsR_mono h l _ r e
    | dfr f as => rw [ha] at e; rw [astep_mono h _ _ _ _ (by simp) ha]; exact opsR_mono h l _ r e
    | pan v H => rw [ha] at e; rw [astep_mono h _ _ _ _ (by simp) ha]; exact e
    | rcv => rw [ha] at e; cases e
    | fail => rw [ha] at e; cases e

theorem segsR_mono (h : Below' ih ih') : ∀ (ls : List (List AOper)) (hv : List AOper) (tm : Tr AV) (H : AH) r, segsR C ih ls hv tm H = some r → segsR C ih' ls hv tm H = some r
  | [], _, _, _, _, e => by unfold segsR at e; cases e
  | l :: ls, [], tm, H, r, e => by unfold segsR at e ⊢; exact e
  | l :: ls, o :: hv, tm, H, r, e => by
    unfold segsR at e ⊢
    cases hl : lightsR C H l tm with
    | none => rw [hl] at e; cases e
    | some t1 =>
      simp only [hl] at e ⊢
      cases ha : astep C ih t1 H o with
      | go v H' =>
        rw [ha] at e; rw [astep_mono h _ _ _ _ (by simp) ha]
        simp only at e ⊢
        cases hs : segsR C ih ls hv (putT t1 o.dst v) H' with
        | none => rw [hs] at e; cases e
        | some r' => rw [hs] at e; rw [segsR_mono h ls hv _ _ _ hs]; exact e
      | pan v H' => rw [ha] at e; rw [astep_mono h _ _ _ _ (by simp) ha]; exact e
      | dfr f as => rw [ha] at e; cases e
      | rcv => rw [ha] at e; cases e
      | fail => rw [ha] at e; cases e

theorem drawR_mono (h : Below' ih ih') (ls hv wins s) (r) (e : drawR C ih ls hv wins s = some r) : drawR C ih' ls hv wins s = some r := by
  unfold drawR at e ⊢
  cases hs : segsR C ih ls hv s.tm s.hp with
  | none => rw [hs] at e; cases e
  | some x => rw [hs] at e; rw [segsR_mono h _ _ _ _ _ hs]; exact e

theorem exec_mono (h : Below' ih ih') : ∀ (c : AC) (s : ASt) r, exec C ih c s = some r → exec C ih' c s = some r
  | .skip, s, r, e => e
  | .reg ops, s, r, e => opsR_mono h ops s r e
  | .regd ls hv wins, s, r, e => drawR_mono h ls hv wins s r e
  | .seq a b, s, r, e => by
    unfold exec at e ⊢
    cases ha : exec C ih a s with
    | none => rw [ha] at e; cases e
    | some x =>
      rw [ha] at e
      rw [exec_mono h a s x ha]
      obtain ⟨ex, s'⟩ := x
      cases ex with
      | normal => exact exec_mono h b s' r e
      | exit j => exact e
      | ret => exact e
      | pan v => exact e
  | .cond c a b, s, r, e => by
    unfold exec at e ⊢
    split
    · rename_i hc; simp only [hc] at e; exact exec_mono h a s r e
    · rename_i hc; simp only [hc] at e; exact exec_mono h b s r e
    · rename_i h1 h2
      split at e
      · rename_i hc; exact absurd hc h1
      · rename_i hc; exact absurd hc h2
      · cases e
  | .block id b, s, r, e => by
    unfold exec at e ⊢
    cases ha : exec C ih b s with
    | none => rw [ha] at e; cases e
    | some x => rw [ha] at e; rw [exec_mono h b s x ha]; exact e
  | .loop b, s, r, e => by
    unfold exec at e ⊢
    cases ha : exec C ih b s with
    | none => rw [ha] at e; cases e
    | some x =>
      rw [ha] at e
      rw [exec_mono h b s x ha]
      obtain ⟨ex, s'⟩ := x
      cases ex with
      | normal =>
        simp only at e ⊢
        cases hi : ih (.code (.loop b) s') with
        | none => rw [hi] at e; cases e
        | some o => rw [hi] at e; rw [h _ _ hi]; exact e
      | exit j => exact e
      | ret => exact e
      | pan v => exact e
  | .exit id, s, r, e => e
  | .scope b, s, r, e => by unfold exec at e ⊢; exact exec_mono h b s r e
  | .ret, s, r, e => e
  | .bad, s, r, e => e

theorem opsD_mono (h : Below' ih ih') : ∀ (l : List AOper) (s : ASt) (p : PS) r, opsD C ih l s p = some r → opsD C ih' l s p = some r
  | [], s, p, r, e => e
  | o :: l, s, p, r, e => by
    unfold opsD at e ⊢
    cases ha : astep C ih s.tm s.hp o with
    | go v H => rw [ha] at e; rw [astep_mono h _ _ _ _ (by simp) ha]; exact opsD_mono h l _ _ r e
    | dfr f as => rw [ha] at e; cases e
    | pan v H => rw [ha] at e; cases e
    | rcv =>
      rw [ha] at e; rw [astep_mono h _ _ _ _ (by simp) ha]
      simp only at e ⊢
      split
      · exact opsD_mono h l _ _ r e
      · rename_i hp
        split at e
        · rename_i hq; exact absurd rfl (hp _)
        · exact opsD_mono h l _ _ r e
    | fail => rw [ha] at e; cases e

theorem execD_mono (h : Below' ih ih') : ∀ (c : AC) (s : ASt) (p : PS) r, execD C ih c s p = some r → execD C ih' c s p = some r := by
  have dflt : ∀ (c : AC) (s : ASt) (p : PS) r, (match exec C ih c s with
    | some (e, s') => some (e, s', p)
    | none => none) = some r → (match exec C ih' c s with
    | some (e, s') => some (e, s', p)
    | none => none) = some r := by
    intro c s p r e
    cases ha : exec C ih c s with
    | none => rw [ha] at e; cases e
    | some x => rw [ha] at e; rw [exec_mono h c s x ha]; exact e
  intro c
  induction c with
  | reg ops =>
    intro s p r e
    unfold execD at e ⊢
    cases ho : opsD C ih ops s p with
    | none => rw [ho] at e; cases e
    | some x => rw [ho] at e; rw [opsD_mono h _ _ _ _ ho]; exact e
  | seq a b iha ihb =>
    intro s p r e
    unfold execD at e ⊢
    cases ha : execD C ih a s p with
    | none => rw [ha] at e; cases e
    | some x =>
      rw [ha] at e
      rw [iha s p x ha]
      obtain ⟨ex, s', q⟩ := x
      cases ex with
      | normal => exact ihb s' q r e
      | exit j => exact e
      | ret => exact e
      | pan v => exact e
  | skip => intro s p r e; unfold execD at e ⊢; exact dflt .skip s p r e
  | regd ls hv wins => intro s p r e; unfold execD at e ⊢; exact dflt (.regd ls hv wins) s p r e
  | cond c a b _ _ => intro s p r e; unfold execD at e ⊢; exact dflt (.cond c a b) s p r e
  | block id b _ => intro s p r e; unfold execD at e ⊢; exact dflt (.block id b) s p r e
  | loop b _ => intro s p r e; unfold execD at e ⊢; exact dflt (.loop b) s p r e
  | exit id => intro s p r e; unfold execD at e ⊢; exact dflt (.exit id) s p r e
  | scope b _ => intro s p r e; unfold execD at e ⊢; exact dflt (.scope b) s p r e
  | ret => intro s p r e; unfold execD at e ⊢; exact dflt .ret s p r e
  | bad => intro s p r e; unfold execD at e ⊢; exact dflt .bad s p r e

theorem defersR_mono (h : Below' ih ih') : ∀ (l : List (Nat × List AV)) (H : AH) (p : PS) r, defersR C ih l H p = some r → defersR C ih' l H p = some r
  | [], H, p, r, e => e
  | (f, as) :: l, H, p, r, e => by
    unfold defersR at e ⊢
    cases hf : C.fns f with
    | none => rw [hf] at e; cases e
    | some af =>
      simp only [hf] at e ⊢
      cases hx : execD C ih af.code ⟨tmOf 0 as .nil, [], H⟩ p with
      | none => rw [hx] at e; cases e
      | some x =>
        rw [hx] at e
        rw [execD_mono h _ _ _ x hx]
        obtain ⟨ex, s, q⟩ := x
        simp only at e ⊢
        split at e
        · exact defersR_mono h l _ _ r e
        · exact defersR_mono h l _ _ r e
        · cases e

theorem leave_mono (h : Below' ih ih') (af : AF) (s : ASt) (p : PS) (r) (e : leave C ih af s p = some r) : leave C ih' af s p = some r := by
  unfold leave at e ⊢
  cases hd : defersR C ih s.df s.hp p with
  | none => rw [hd] at e; cases e
  | some x => rw [hd] at e; rw [defersR_mono h _ _ _ x hd]; exact e

theorem callR_mono (h : Below' ih ih') (f : Nat) (as : List AV) (H : AH) (r) (e : callR C ih f as H = some r) : callR C ih' f as H = some r := by
  unfold callR at e ⊢
  cases ho : C.orc f with
  | some g => simp only [ho] at e ⊢; exact e
  | none =>
    simp only [ho] at e ⊢
    cases hf : C.fns f with
    | none => rw [hf] at e; cases e
    | some af =>
      simp only [hf] at e ⊢
      cases hx : exec C ih af.code ⟨tmOf 0 as .nil, [], H⟩ with
      | none => rw [hx] at e; cases e
      | some x =>
        rw [hx] at e
        rw [exec_mono h _ _ x hx]
        obtain ⟨ex, s⟩ := x
        cases ex with
        | normal => exact leave_mono h af s _ r e
        | ret => exact leave_mono h af s _ r e
        | pan v => exact leave_mono h af s _ r e
        | exit j => exact e

theorem run_succ : ∀ n, Below' (run C n) (run C (n + 1))
  | 0 => fun t o e => by unfold run at e; cases e
  | n + 1 => fun t o e => by
    have ih := run_succ n
    cases t with
    | call f as H =>
      unfold run at e ⊢
      exact callR_mono ih f as H o e
    | code c s =>
      unfold run at e ⊢
      cases hx : exec C (run C n) c s with
      | none => rw [hx] at e; cases e
      | some x => rw [hx] at e; rw [exec_mono ih c s x hx]; exact e

theorem run_le {n m : Nat} (h : n ≤ m) : Below' (run C n) (run C m) := by
  induction h with
  | refl => exact fun t o e => e
  | step _ ih => exact fun t o e => run_succ _ t o (ih t o e)
end
end Go.Vd
namespace Go.Vd

abbrev TL := List (Nat × AV)

def look : TL → Nat → Option AV
  | [], _ => none
  | (k, v) :: l, j => match Nat.beq k j with
    | true => some v
    | false => look l j

def TmR (tm : Tr AV) (l : TL) : Prop := ∀ k v, look l k = some v → tm.get k = some v

def putl (l : TL) (d : Option Nat) (v : AV) : TL :=
  match d with
  | some k => (k, v) :: l
  | none => l

def evL (l : TL) : Opd → Option AV
  | .t n => look l n
  | .c v => some v

def evsL (l : TL) : List Opd → Option (List AV)
  | [] => some []
  | x :: xs => match evL l x, evsL l xs with
    | some v, some vs => some (v :: vs)
    | _, _ => none

def evoL (l : TL) : Option Opd → Option (Option AV)
  | none => some none
  | some x => match evL l x with
    | some v => some (some v)
    | none => none

def evpL (l : TL) : List (Nat × Nat × Opd) → Option (List (Nat × Nat × AV))
  | [] => some []
  | (a, b, x) :: xs => match evL l x, evpL l xs with
    | some v, some vs => some ((a, b, v) :: vs)
    | _, _ => none

def evqL (l : TL) (sz : Nat) : List (Nat × Opd) → Option (List (Nat × Nat × AV))
  | [] => some []
  | (a, x) :: xs => match evL l x, evqL l sz xs with
    | some v, some vs => some ((a, sz, v) :: vs)
    | _, _ => none

theorem TmR.put {tm : Tr AV} {l : TL} (h : TmR tm l) (d : Option Nat) (v : AV) : TmR (putT tm d v) (putl l d v) := by
  cases d with
  | none => exact h
  | some k =>
    intro j u hj
    simp only [putT, putl, look] at hj ⊢
    rw [Tr.get_set]
    cases hb : Nat.beq k j with
    | true =>
      have := Nat.eq_of_beq_eq_true hb
      rw [hb] at hj
      rw [if_pos this.symm]
      exact hj
    | false =>
      rw [hb] at hj
      rw [if_neg (fun e => by subst e; rw [Nat.beq_refl] at hb; cases hb)]
      exact h j u hj

theorem TmR.ev {tm : Tr AV} {l : TL} (h : TmR tm l) {x : Opd} {v : AV} (e : evL l x = some v) : ev tm x = v := by
  cases x with
  | t n => simp only [evL] at e; simp only [Vd.ev, h n v e]
  | c u => simp only [evL, Option.some.injEq] at e; exact e

theorem TmR.evs {tm : Tr AV} {l : TL} (h : TmR tm l) : ∀ {xs : List Opd} {vs : List AV}, evsL l xs = some vs → evs tm xs = vs
  | [], _, e => by simp only [evsL, Option.some.injEq] at e; exact e
  | x :: xs, vs, e => by
    simp only [evsL] at e
    split at e
    · rename_i v ws h1 h2
      cases e
      simp only [Vd.evs, h.ev h1, h.evs h2]
    · cases e

theorem TmR.evo {tm : Tr AV} {l : TL} (h : TmR tm l) {x : Option Opd} {v : Option AV} (e : evoL l x = some v) : evo tm x = v := by
  cases x with
  | none => simp only [evoL, Option.some.injEq] at e; exact e
  | some x =>
    simp only [evoL] at e
    split at e
    · rename_i v h1; cases e; simp only [Vd.evo, h.ev h1]
    · cases e

theorem TmR.evp {tm : Tr AV} {l : TL} (h : TmR tm l) : ∀ {xs : List (Nat × Nat × Opd)} {vs : List (Nat × Nat × AV)}, evpL l xs = some vs → evp tm xs = vs
  | [], _, e => by simp only [evpL, Option.some.injEq] at e; exact e
  | (a, b, x) :: xs, vs, e => by
    simp only [evpL] at e
    split at e
    · rename_i v ws h1 h2
      cases e
      simp only [Vd.evp, h.ev h1, h.evp h2]
    · cases e

theorem TmR.evq {tm : Tr AV} {l : TL} (h : TmR tm l) {sz : Nat} : ∀ {xs : List (Nat × Opd)} {vs : List (Nat × Nat × AV)}, evqL l sz xs = some vs → evq tm sz xs = vs
  | [], _, e => by simp only [evqL, Option.some.injEq] at e; exact e
  | (a, x) :: xs, vs, e => by
    simp only [evqL] at e
    split at e
    · rename_i v ws h1 h2
      cases e
      simp only [Vd.evq, h.ev h1, h.evq h2]
    · cases e

def zipl : Nat → List AV → TL
  | _, [] => []
  | n, a :: l => zipl (n + 1) l ++ [(n, a)]

theorem look_append : ∀ (l m : TL) (k : Nat), look (l ++ m) k = (match look l k with | some v => some v | none => look m k)
  | [], _, _ => rfl
  | (j, v) :: l, m, k => by
    simp only [List.cons_append, look]
    cases hb : Nat.beq j k with
    | true => rfl
    | false => exact look_append l m k

theorem tmOf_spec : ∀ (as : List AV) (n : Nat) (t : Tr AV) (l : TL), TmR t l → TmR (tmOf n as t) (zipl n as ++ l)
  | [], n, t, l, h => h
  | a :: as, n, t, l, h => by
    have := tmOf_spec as (n + 1) (t.set n a) ((n, a) :: l) (h.put (some n) a)
    simp only [tmOf, zipl, List.append_assoc, List.singleton_append]
    exact this

/-- The temporaries of a call. -/
theorem TmR.start (as : List AV) : TmR (tmOf 0 as .nil) (zipl 0 as) := by
  have := tmOf_spec as 0 .nil [] (fun k v h => by cases h)
  rwa [List.append_nil] at this

def Subs : TL → TL → Prop
  | [], _ => True
  | (k, v) :: l, m => look m k = some v ∧ Subs l m

theorem TmR.subs {tm : Tr AV} {m : TL} (h : TmR tm m) : ∀ {l : TL}, Subs l m → TmR tm l
  | [], _ => fun k v e => by cases e
  | (j, u) :: l, ⟨h1, h2⟩ => fun k v e => by
    simp only [look] at e
    cases hb : Nat.beq j k with
    | true =>
      rw [hb] at e
      cases e
      have := Nat.eq_of_beq_eq_true hb
      subst this
      exact h j u h1
    | false =>
      rw [hb] at e
      exact (h.subs h2) k v e

section
variable {C : Ctx} {l : TL} {H H' : AH} {v : AV}

/-! ### Operations -/

/-- What an operation gives. -/
def Ao (C : Ctx) (l : TL) (H : AH) (op : AOp) (v : AV) (H' : AH) : Prop := ∀ tm, TmR tm l → aop C tm H op = .val v H'

theorem Ao.mv {x : Opd} (h : evL l x = some v) : Ao C l H (.mv x) v H := fun tm t => by simp only [aop, t.ev h]
theorem Ao.pick_t {c a b : Opd} (h : evL l c = some (.bool true)) (h1 : evL l a = some v) : Ao C l H (.pick c a b) v H := fun tm t => by simp only [aop, t.ev h, t.ev h1]
theorem Ao.pick_f {c a b : Opd} (h : evL l c = some (.bool false)) (h1 : evL l b = some v) : Ao C l H (.pick c a b) v H := fun tm t => by simp only [aop, t.ev h, t.ev h1]
theorem Ao.alloc {e : Nat} {zs : List AV} (h : zs.all AV.one = true) : Ao C l H (.alloc e zs) (.ptr H.next 0) (H.push (.cells zs e 0)) := fun tm _ => by simp only [aop, h, if_true]
theorem Ao.box {e : Nat} {x : Opd} {u : AV} (h : evL l x = some u) (h1 : u.cells.all AV.one = true) : Ao C l H (.box e x) (.ptr H.next 0) (H.push (.cells u.cells e 0)) := fun tm t => by
  simp only [aop, t.ev h, h1, if_true]
theorem Ao.build {zs : List AV} {ps : List (Nat × Nat × Opd)} {qs : List (Nat × Nat × AV)} {r : List AV} (h : evpL l ps = some qs) (h1 : fillA zs qs = some r) : Ao C l H (.build zs ps) (.agg r) H := fun tm t => by
  simp only [aop, t.evp h, h1, Option.map_some, ofV]
theorem Ao.bslice {e sz len : Nat} {zs : List AV} {ps : List (Nat × Opd)} {qs : List (Nat × Nat × AV)} {r : List AV} (h : evqL l sz ps = some qs) (h1 : fillA zs qs = some r) (h2 : r.all AV.one = true) :
    Ao C l H (.bslice e sz len zs ps) (.slc H.next 0 len len sz true) (H.push (.cells r e 0)) := fun tm t => by
  simp only [aop, t.evq h, h1, h2, if_true]
theorem Ao.ld {x : Opd} {X o : Nat} (h : evL l x = some (.ptr X o)) (h1 : H.rd X o = some v) : Ao C l H (.ld x) v H := fun tm t => by simp only [aop, t.ev h, h1, ofV]
theorem Ao.ldn {n : Nat} {x : Opd} {X o : Nat} {r : List AV} (h : evL l x = some (.ptr X o)) (h1 : H.rdn X o n = some r) : Ao C l H (.ldn n x) (.agg r) H := fun tm t => by
  simp only [aop, t.ev h, h1, ofV, Option.map_some]
theorem Ao.stn {n : Nat} {x y : Opd} {X o : Nat} {u : AV} (h : evL l x = some (.ptr X o)) (h0 : evL l y = some u) (h1 : Nat.beq u.cells.length n = true) (h2 : H.wr X o u.cells = some H') :
    Ao C l H (.stn n x y) .und H' := fun tm t => by simp only [aop, t.ev h, t.ev h0, h1, h2, if_true]
theorem Ao.chk {x : Opd} (h : evL l x = some v) (h1 : v.isPtr = true) : Ao C l H (.chk x) v H := fun tm t => by simp only [aop, t.ev h, h1, if_true]

/-- What an operator gives. -/
def binV (C : Ctx) (H : AH) (op : BinOp) (k : EK) (a b : AV) : Option AV :=
  match binC op a b with
  | some v => some v
  | none => match binY H op a b with
    | some v => some v
    | none => binA C.cmp H op k a b

theorem Ao.bin {op : BinOp} {k : EK} {x y : Opd} {a b : AV} (h : evL l x = some a) (h1 : evL l y = some b) (h2 : binV C H op k a b = some v) : Ao C l H (.bin op k x y) v H := fun tm t => by
  have e : ofV H (binV C H op k a b) = .val v H := by rw [h2]; rfl
  simp only [aop, t.ev h, t.ev h1]
  exact e
theorem Ao.un {op : UnOp} {x : Opd} {a : AV} (h : evL l x = some a) (h1 : unA op a = some v) : Ao C l H (.un op x) v H := fun tm t => by simp only [aop, t.ev h, h1, ofV]
theorem Ao.conv_int {k j : IntKind} {n : Int} {x : Opd} (h : evL l x = some (.int j n)) : Ao C l H (.conv (.int k) x) (.int k (k.wrap n)) H := fun tm t => by simp only [aop, t.ev h]
theorem Ao.conv_same {s : List UInt8} {x : Opd} (h : evL l x = some (.str s)) : Ao C l H (.conv .same x) (.str s) H := fun tm t => by simp only [aop, t.ev h]
theorem Ao.conv_s2b {e : Nat} {s : List UInt8} {x : Opd} (h : evL l x = some (.str s)) : Ao C l H (.conv (.s2b e) x) (.slc H.next 0 s.length s.length 1 false) (H.push (.cells (bytesAV s) e 1)) := fun tm t => by
  simp only [aop, t.ev h]
theorem Ao.conv_b2s_nil {x : Opd} (h : evL l x = some .nils) : Ao C l H (.conv .b2s x) (.str []) H := fun tm t => by simp only [aop, t.ev h]
theorem Ao.conv_b2s {x : Opd} {X o n cap : Nat} {ex : Bool} {r : List AV} {s : List UInt8} (h : evL l x = some (.slc X o n cap 1 ex)) (hc : n ≤ cap) (h1 : H.rdn X o n = some r) (h2 : avBytes r = some s) :
    Ao C l H (.conv .b2s x) (.str s) H := fun tm t => by
  simp only [aop, t.ev h, Nat.ble_eq_true_of_le hc, h1, h2, if_true, Option.map_some, ofV]
theorem Ao.mki {t : Nat} {x : Opd} {a : AV} (h : evL l x = some a) : Ao C l H (.mki t x) (.ifc t a) H := fun tm q => by simp only [aop, q.ev h]
theorem Ao.mkf {f : Fn} {a b : List Opd} {as bs : List AV} (h : evsL l a = some as) (h1 : evsL l b = some bs) : Ao C l H (.mkf f a b) (.fn f as bs) H := fun tm t => by simp only [aop, t.evs h, t.evs h1]
theorem Ao.mks {e sz bts : Nat} {z : List AV} {x y : Opd} {k j : IntKind} {n m : Int} (h : evL l x = some (.int k n)) (h1 : evL l y = some (.int j m))
    (h2 : (decide (0 ≤ n) && decide (n ≤ m) && decide (m * bts ≤ 281474976710656) && decide (m < 9223372036854775808) && z.all AV.one && Nat.beq z.length sz) = true) :
    Ao C l H (.mks e sz bts z x y) (.slc H.next 0 n.toNat m.toNat sz true) (H.push (.cells (repl z m.toNat) e 0)) := fun tm t => by
  simp only [aop, t.ev h, t.ev h1, h2, if_true]
theorem Ao.sls {x : Opd} {lo hi : Option Opd} {s : List UInt8} {a b : Option AV} {p q r : Nat} (h : evL l x = some (.str s)) (h1 : evoL l lo = some a) (h2 : evoL l hi = some b)
    (h3 : bnds s.length s.length a b none = some (p, q, r)) : Ao C l H (.sls x lo hi) (.str ((s.drop p).take (q - p))) H := fun tm t => by
  simp only [aop, t.ev h, t.evo h1, t.evo h2, h3]
theorem Ao.slv_nil {sz : Nat} {x : Opd} {lo hi mx : Option Opd} {a b c : Option AV} {p : Nat × Nat × Nat} (h : evL l x = some .nils) (h1 : evoL l lo = some a) (h2 : evoL l hi = some b) (h4 : evoL l mx = some c)
    (h3 : bnds 0 0 a b c = some p) : Ao C l H (.slv sz x lo hi mx) .nils H := fun tm t => by
  simp only [aop, t.ev h, t.evo h1, t.evo h2, t.evo h4, h3]
theorem Ao.slv {sz : Nat} {x : Opd} {lo hi mx : Option Opd} {X o len cap : Nat} {ex : Bool} {a b c : Option AV} {p q r : Nat} (h : evL l x = some (.slc X o len cap sz ex)) (hlc : len ≤ cap)
    (h1 : evoL l lo = some a) (h2 : evoL l hi = some b) (h4 : evoL l mx = some c) (h3 : bnds len cap a b c = some (p, q, r)) :
    Ao C l H (.slv sz x lo hi mx) (.slc X (o + p * sz) (q - p) (r - p) sz (ex || c.isSome)) H := fun tm t => by
  simp only [aop, t.ev h, t.evo h1, t.evo h2, t.evo h4, h3, Nat.beq_refl, Nat.ble_eq_true_of_le hlc, Bool.and_self, if_true]
theorem Ao.sla {n sz : Nat} {x : Opd} {lo hi mx : Option Opd} {X o : Nat} {a b c : Option AV} {p q r : Nat} (h : evL l x = some (.ptr X o))
    (h1 : evoL l lo = some a) (h2 : evoL l hi = some b) (h4 : evoL l mx = some c) (h3 : bnds n n a b c = some (p, q, r)) :
    Ao C l H (.sla n sz x lo hi mx) (.slc X (o + p * sz) (q - p) (r - p) sz true) H := fun tm t => by
  simp only [aop, t.ev h, t.evo h1, t.evo h2, t.evo h4, h3]
theorem Ao.fad {off : Nat} {x : Opd} {X o : Nat} (h : evL l x = some (.ptr X o)) : Ao C l H (.fad off x) (.ptr X (o + off)) H := fun tm t => by simp only [aop, t.ev h]
theorem Ao.fld {off : Nat} {x : Opd} {r : List AV} (h : evL l x = some (.agg r)) (h1 : r[off]? = some v) : Ao C l H (.fld off none x) v H := fun tm t => by simp only [aop, t.ev h, h1, ofV]
theorem Ao.fldn {off n : Nat} {x : Opd} {r : List AV} (h : evL l x = some (.agg r)) (h1 : Nat.ble (off + n) r.length = true) : Ao C l H (.fld off (some n) x) (.agg ((r.drop off).take n)) H := fun tm t => by
  simp only [aop, t.ev h, h1, if_true]
theorem Ao.ixs {sz : Nat} {x i : Opd} {X o len cap : Nat} {ex : Bool} {k : IntKind} {n : Int} (h : evL l x = some (.slc X o len cap sz ex)) (h1 : evL l i = some (.int k n))
    (hlc : len ≤ cap) (h0 : 0 ≤ n) (h2 : n < len) : Ao C l H (.ixs sz x i) (.ptr X (o + n.toNat * sz)) H := fun tm t => by
  simp only [aop, t.ev h, t.ev h1, Nat.beq_refl, Nat.ble_eq_true_of_le hlc, decide_eq_true h0, decide_eq_true h2, Bool.and_self, if_true]
theorem Ao.ixa {len sz : Nat} {x i : Opd} {X o : Nat} {k : IntKind} {n : Int} (h : evL l x = some (.ptr X o)) (h1 : evL l i = some (.int k n)) (h0 : 0 ≤ n) (h2 : n < len) :
    Ao C l H (.ixa len sz x i) (.ptr X (o + n.toNat * sz)) H := fun tm t => by
  simp only [aop, t.ev h, t.ev h1, decide_eq_true h0, decide_eq_true h2, Bool.and_self, if_true]
theorem Ao.ixt {x i : Opd} {s : List UInt8} {k : IntKind} {n : Int} {b : UInt8} (h : evL l x = some (.str s)) (h1 : evL l i = some (.int k n)) (h0 : 0 ≤ n) (h2 : s[n.toNat]? = some b) :
    Ao C l H (.ixt x i) (.int .u8 b.toNat) H := fun tm t => by
  simp only [aop, t.ev h, t.ev h1, decide_eq_true h0, h2, if_true, Option.map_some, ofV]
theorem Ao.ixv {len sz : Nat} {x i : Opd} {r : List AV} {k : IntKind} {n : Int} (h : evL l x = some (.agg r)) (h1 : evL l i = some (.int k n)) (h0 : 0 ≤ n) (h2 : n < len) (h3 : r[n.toNat * sz]? = some v) :
    Ao C l H (.ixv len sz none x i) v H := fun tm t => by
  simp only [aop, t.ev h, t.ev h1, decide_eq_true h0, decide_eq_true h2, Bool.and_self, h3, if_true, ofV]
theorem Ao.tac_nil {t a : Nat} {z : AV} {x : Opd} (h : evL l x = some .nili) : Ao C l H (.tac a z true x) (.tup [z, .bool false]) H := fun tm q => by simp only [aop, q.ev h, if_true]
theorem Ao.ext {x : Opd} {i : Nat} {r : List AV} (h : evL l x = some (.tup r)) (h1 : r[i]? = some v) : Ao C l H (.ext x i) v H := fun tm t => by simp only [aop, t.ev h, h1, ofV]
theorem Ao.app {e sz bts : Nat} {x y : Opd} {a b : AV} (h : evL l x = some a) (h1 : evL l y = some b) (h2 : appA H e sz bts a b = some (v, H')) : Ao C l H (.app e sz bts x y) v H' := fun tm t => by
  simp only [aop, t.ev h, t.ev h1, h2]
theorem Ao.tlen {x : Opd} {s : List UInt8} (h : evL l x = some (.str s)) : Ao C l H (.tlen x) (.int .i64 s.length) H := fun tm t => by simp only [aop, t.ev h]
theorem Ao.len {x : Opd} {X o n cap sz : Nat} {ex : Bool} (h : evL l x = some (.slc X o n cap sz ex)) : Ao C l H (.len x) (.int .i64 n) H := fun tm t => by simp only [aop, t.ev h]
theorem Ao.len_nil {x : Opd} (h : evL l x = some .nils) : Ao C l H (.len x) (.int .i64 0) H := fun tm t => by simp only [aop, t.ev h]
theorem Ao.alen {n : Nat} : Ao C l H (.alen n) (.int .i64 n) H := fun tm t => by simp only [aop]
theorem Ao.cap {x : Opd} {X o n cap sz : Nat} (h : evL l x = some (.slc X o n cap sz true)) : Ao C l H (.cap x) (.int .i64 cap) H := fun tm t => by simp only [aop, t.ev h]
theorem Ao.copy {sz : Nat} {x y : Opd} {X o len cap : Nat} {ex : Bool} {b : AV} {new : List AV} (h : evL l x = some (.slc X o len cap sz ex)) (h1 : evL l y = some b) (h2 : contA H sz b = some new)
    (h3 : len ≤ cap) (h4 : 1 ≤ sz) (h5 : Nat.beq (min (new.length / sz) len) 0 = false) (h6 : H.wr X o (new.take (min (new.length / sz) len * sz)) = some H') :
    Ao C l H (.copy sz x y) (.int .i64 (min (new.length / sz) len : Nat)) H' := fun tm t => by
  simp only [aop, t.ev h, t.ev h1, h2, h5, h6, Nat.beq_refl, Nat.ble_eq_true_of_le h3, Nat.ble_eq_true_of_le h4, Bool.and_self, if_true, Bool.false_eq_true, if_false]
theorem Ao.mm {mx : Bool} {x : Opd} {ys : List Opd} {k : IntKind} {a : Int} {vs : List AV} (h : evL l x = some (.int k a)) (h1 : evsL l ys = some vs) (h2 : mmA mx k a vs = some v) : Ao C l H (.mm mx x ys) v H := fun tm t => by
  simp only [aop, t.ev h, t.evs h1, h2, ofV]
theorem Ao.rng {x : Opd} {s : List UInt8} (h : evL l x = some (.str s)) : Ao C l H (.rng x) (.ptr H.next 0) (H.push (.it s 0)) := fun tm t => by simp only [aop, t.ev h]
theorem Ao.nxt {x : Opd} {X : Nat} {s : List UInt8} {pos : Nat} {b : UInt8} (h : evL l x = some (.ptr X 0)) (h1 : H.get X = some (.it s pos)) (h2 : s[pos]? = some b) (h3 : b.toNat < 128) :
    Ao C l H (.nxt x) (.tup [.bool true, .int .i64 pos, .int .i32 b.toNat]) (H.set X (.it s (pos + 1))) := fun tm t => by
  simp only [aop, t.ev h, h1, h2, show Nat.blt b.toNat 128 = true from Nat.ble_eq_true_of_le h3, if_true]
theorem Ao.nxt_end {x : Opd} {X : Nat} {s : List UInt8} {pos : Nat} (h : evL l x = some (.ptr X 0)) (h1 : H.get X = some (.it s pos)) (h2 : s[pos]? = none) :
    Ao C l H (.nxt x) (.tup [.bool false]) H := fun tm t => by
  simp only [aop, t.ev h, h1, h2]
theorem Ao.sdata_nil {x : Opd} (h : evL l x = some .nils) : Ao C l H (.sdata x) .nilp H := fun tm t => by simp only [aop, t.ev h]
theorem Ao.sdata {x : Opd} {X o len cap sz : Nat} {ex : Bool} (h : evL l x = some (.slc X o len cap sz ex)) (h1 : 1 ≤ len) (h2 : len ≤ cap) : Ao C l H (.sdata x) (.ptr X o) H := fun tm t => by
  simp only [aop, t.ev h, Nat.ble_eq_true_of_le h1, Nat.ble_eq_true_of_le h2, Bool.and_self, if_true]
theorem Ao.ustr_nil {e : Nat} {x n : Opd} {k : IntKind} (h : evL l x = some .nilp) (h1 : evL l n = some (.int k 0)) : Ao C l H (.ustr e x n) (.str []) H := fun tm t => by
  simp only [aop, t.ev h, t.ev h1, if_true]
theorem Ao.ustr {e : Nat} {x n : Opd} {k : IntKind} {m : Int} {X o fl : Nat} {r : List AV} {s : List UInt8} (h : evL l x = some (.ptr X o)) (h1 : evL l n = some (.int k m)) (hm : 1 ≤ m) (hm2 : m < 9223372036854775807)
    (h2 : H.get X = some (.cells r e fl)) (h3 : o + m.toNat ≤ r.length) (h4 : avBytes ((r.drop o).take m.toNat) = some s) : Ao C l H (.ustr e x n) (.str s) (H.set X (.cells r e 2)) := fun tm t => by
  simp only [aop, t.ev h, t.ev h1, decide_eq_true hm, decide_eq_true hm2, h2, Nat.beq_refl, Nat.ble_eq_true_of_le h3, h4, Bool.and_self, if_true]

/-! ### Guards -/
def wantL (l : TL) : Option (Nat × Bool) → Option Bool
  | none => some true
  | some (d, b) => match look l d with
    | some (.bool c) => some (c == b)
    | some (.tup _) => some false
    | _ => none

theorem wanted_of {tm : Tr AV} (h : TmR tm l) {g : Option (Nat × Bool)} {b : Bool} (e : wantL l g = some b) : wanted tm g = b := by
  cases g with
  | none => simp only [wantL, Option.some.injEq] at e; exact e
  | some x =>
    obtain ⟨d, c⟩ := x
    simp only [wantL] at e
    split at e
    · rename_i c' hl
      simp only [Option.some.injEq] at e
      simp only [wanted, ev, h d _ hl]
      exact e
    · rename_i r hl
      simp only [Option.some.injEq] at e
      simp only [wanted, ev, h d _ hl]
      exact e
    · cases e

/-! ### Runs -/
/-- The function returns. -/
def Rt (C : Ctx) (f : Nat) (xs : List AV) (H : AH) (Q : AV → AH → Prop) : Prop := ∃ n v H', run C n (.call f xs H) = some (.call (.ret v) H') ∧ Q v H'

theorem Rt.mono {f : Nat} {xs : List AV} {Q Q' : AV → AH → Prop} (h : Rt C f xs H Q) (hq : ∀ v H', Q v H' → Q' v H') : Rt C f xs H Q' :=
  let ⟨n, v, H', h1, h2⟩ := h
  ⟨n, v, H', h1, hq v H' h2⟩

/-- One operation comes to a value. -/
def St (C : Ctx) (l : TL) (H : AH) (o : AOper) (v : AV) (H' : AH) : Prop := ∃ n, ∀ m, n ≤ m → ∀ tm, TmR tm l → astep C (run C m) tm H o = .go v H'

theorem St.val {o : AOper} (hg : wantL l o.guard = some true) (h : Ao C l H o.op v H') : St C l H o v H' :=
  ⟨0, fun m _ tm t => by unfold astep; rw [if_pos (wanted_of t hg), h tm t]; rfl⟩
theorem St.skip {o : AOper} (hg : wantL l o.guard = some false) : St C l H o .und H :=
  ⟨0, fun m _ tm t => by unfold astep; rw [if_neg (by rw [wanted_of t hg]; simp)]⟩
theorem St.of_run {o : AOper} {f : Nat} {xs : List AV} {n : Nat} (hg : wantL l o.guard = some true) (ha : ∀ tm, TmR tm l → aop C tm H o.op = .call f xs) (h : run C n (.call f xs H) = some (.call (.ret v) H')) :
    St C l H o v H' :=
  ⟨n, fun m hm tm t => by unfold astep; rw [if_pos (wanted_of t hg), ha tm t]; simp only [follow, run_le hm _ _ h, ofOut]⟩
theorem St.call {d : Option Nat} {g : Option (Nat × Bool)} {f : Nat} {as : List Opd} {xs : List AV} {Q : AV → AH → Prop} (hg : wantL l g = some true) (ha : evsL l as = some xs) (h : Rt C f xs H Q) :
    ∃ v H', St C l H ⟨d, .call f as, g⟩ v H' ∧ Q v H' := by
  obtain ⟨n, v, H', h1, h2⟩ := h
  exact ⟨v, H', St.of_run hg (fun tm t => by simp only [aop, t.evs ha]) h1, h2⟩
theorem St.vcall {d : Option Nat} {g : Option (Nat × Bool)} {f : Nat} {x : Opd} {as : List Opd} {xs a b : List AV} {Q : AV → AH → Prop} (hg : wantL l g = some true) (hx : evL l x = some (.fn (.func f) a b)) (hf : C.xfn f = false)
    (ha : evsL l as = some xs) (h : Rt C f (a ++ xs ++ b) H Q) : ∃ v H', St C l H ⟨d, .vcall x as, g⟩ v H' ∧ Q v H' := by
  obtain ⟨n, v, H', h1, h2⟩ := h
  exact ⟨v, H', St.of_run hg (fun tm t => by simp only [aop, t.evs ha, t.ev hx, hf, Bool.false_eq_true, if_false]) h1, h2⟩
theorem St.xcall {d : Option Nat} {g : Option (Nat × Bool)} {f : Nat} {as : List Opd} {xs : List AV} (hg : wantL l g = some true) (ha : evsL l as = some xs) (h : C.ext f xs H = some (v, H')) :
    St C l H ⟨d, .xcall f as, g⟩ v H' :=
  ⟨0, fun m _ tm t => by unfold astep; rw [if_pos (wanted_of t hg)]; simp only [aop, t.evs ha, follow, h, ofExt]⟩

/-- Code, from temporaries that are known in part. -/
def Wx (C : Ctx) (c : AC) (s : ASt) (Q : AEx → ASt → Prop) : Prop := ∃ n e s', exec C (run C n) c s = some (e, s') ∧ Q e s'
def Wc (C : Ctx) (c : AC) (l : TL) (df : List (Nat × List AV)) (H : AH) (Q : AEx → ASt → Prop) : Prop := ∀ tm, TmR tm l → Wx C c ⟨tm, df, H⟩ Q
def Wo (C : Ctx) (ops : List AOper) (l : TL) (df : List (Nat × List AV)) (H : AH) (Q : AEx → ASt → Prop) : Prop := ∀ tm, TmR tm l → ∃ n e s', opsR C (run C n) ops ⟨tm, df, H⟩ = some (e, s') ∧ Q e s'
def Fin (Q : AEx → ASt → Prop) (e : AEx) (l : TL) (df : List (Nat × List AV)) (H : AH) : Prop := ∀ tm, TmR tm l → Q e ⟨tm, df, H⟩

def kseq (C : Ctx) (b : AC) (Q : AEx → ASt → Prop) : AEx → ASt → Prop := fun e s => match e with
  | .normal => Wx C b s Q
  | e => Q e s
def kblock (id : Nat) (Q : AEx → ASt → Prop) : AEx → ASt → Prop := fun e s => match e with
  | .exit j => (match Nat.beq j id with
    | true => Q .normal s
    | false => Q (.exit j) s)
  | e => Q e s
end

section
variable {C : Ctx} {l : TL} {H H' : AH} {v : AV} {df : List (Nat × List AV)} {Q : AEx → ASt → Prop}

theorem Wx.mono {c : AC} {s : ASt} {Q' : AEx → ASt → Prop} (h : Wx C c s Q) (hq : ∀ e s, Q e s → Q' e s) : Wx C c s Q' :=
  let ⟨n, e, s', h1, h2⟩ := h
  ⟨n, e, s', h1, hq e s' h2⟩
theorem Wc.mono {c : AC} {Q' : AEx → ASt → Prop} (h : Wc C c l df H Q) (hq : ∀ e s, Q e s → Q' e s) : Wc C c l df H Q' := fun tm t => (h tm t).mono hq

/-- Temporaries that are known and no longer wanted. -/
theorem Wc.weak {c : AC} {m : TL} (h : Wc C c m df H Q) (hs : Subs m l) : Wc C c l df H Q := fun tm t => h tm (t.subs hs)
theorem Fin.weak {e : AEx} {m : TL} (h : Fin Q e m df H) (hs : Subs m l) : Fin Q e l df H := fun tm t => h tm (t.subs hs)

theorem Wo.weak {ops : List AOper} {m : TL} (h : Wo C ops m df H Q) (hs : Subs m l) : Wo C ops l df H Q := fun tm t => h tm (t.subs hs)

theorem Wc.skip (h : Fin Q .normal l df H) : Wc C .skip l df H Q := fun tm t => ⟨0, .normal, _, rfl, h tm t⟩
theorem Wc.ret (h : Fin Q .ret l df H) : Wc C .ret l df H Q := fun tm t => ⟨0, .ret, _, rfl, h tm t⟩
theorem Wc.exit {id : Nat} (h : Fin Q (.exit id) l df H) : Wc C (.exit id) l df H Q := fun tm t => ⟨0, .exit id, _, rfl, h tm t⟩
theorem Wc.scope {b : AC} (h : Wc C b l df H Q) : Wc C (.scope b) l df H Q := fun tm t => h tm t
theorem Wc.reg {ops : List AOper} (h : Wo C ops l df H Q) : Wc C (.reg ops) l df H Q := fun tm t => h tm t

theorem Wx.seq {a b : AC} {s : ASt} (h : Wx C a s (kseq C b Q)) : Wx C (.seq a b) s Q := by
  obtain ⟨n, e, s', h1, h2⟩ := h
  cases e with
  | normal =>
    obtain ⟨m, e2, s2, h3, h4⟩ := h2
    refine ⟨max n m, e2, s2, ?_, h4⟩
    unfold exec
    rw [exec_mono (run_le (Nat.le_max_left n m)) _ _ _ h1]
    exact exec_mono (run_le (Nat.le_max_right n m)) _ _ _ h3
  | exit j => exact ⟨n, .exit j, s', by unfold exec; rw [h1], h2⟩
  | ret => exact ⟨n, .ret, s', by unfold exec; rw [h1], h2⟩
  | pan u => exact ⟨n, .pan u, s', by unfold exec; rw [h1], h2⟩
theorem Wc.seq {a b : AC} (h : Wc C a l df H (kseq C b Q)) : Wc C (.seq a b) l df H Q := fun tm t => (h tm t).seq

theorem Wx.block {id : Nat} {b : AC} {s : ASt} (h : Wx C b s (kblock id Q)) : Wx C (.block id b) s Q := by
  obtain ⟨n, e, s', h1, h2⟩ := h
  cases e with
  | normal => exact ⟨n, .normal, s', by unfold exec; rw [h1], h2⟩
  | exit j =>
    simp only [kblock] at h2
    cases hb : Nat.beq j id with
    | true => rw [hb] at h2; exact ⟨n, .normal, s', by unfold exec; rw [h1]; simp only [hb, if_true], h2⟩
    | false => rw [hb] at h2; exact ⟨n, .exit j, s', by unfold exec; rw [h1]; simp only [hb, Bool.false_eq_true, if_false], h2⟩
  | ret => exact ⟨n, .ret, s', by unfold exec; rw [h1], h2⟩
  | pan u => exact ⟨n, .pan u, s', by unfold exec; rw [h1], h2⟩
theorem Wc.block {id : Nat} {b : AC} (h : Wc C b l df H (kblock id Q)) : Wc C (.block id b) l df H Q := fun tm t => (h tm t).block

theorem Wx.loop {b : AC} {s : ASt} (h : Wx C b s (kseq C (.loop b) Q)) : Wx C (.loop b) s Q := by
  obtain ⟨n, e, s', h1, h2⟩ := h
  cases e with
  | normal =>
    obtain ⟨m, e2, s2, h3, h4⟩ := h2
    refine ⟨max n m + 1, e2, s2, ?_, h4⟩
    unfold exec
    rw [exec_mono (run_le (Nat.le_trans (Nat.le_max_left n m) (Nat.le_succ _))) _ _ _ h1]
    simp only [run]
    rw [exec_mono (run_le (Nat.le_max_right n m)) _ _ _ h3]
  | exit j => exact ⟨n, .exit j, s', by unfold exec; rw [h1], h2⟩
  | ret => exact ⟨n, .ret, s', by unfold exec; rw [h1], h2⟩
  | pan u => exact ⟨n, .pan u, s', by unfold exec; rw [h1], h2⟩
theorem Wc.loop {b : AC} (h : Wc C b l df H (kseq C (.loop b) Q)) : Wc C (.loop b) l df H Q := fun tm t => (h tm t).loop

theorem Wc.cond {c : Opd} {a b : AC} {t : Bool} (h : evL l c = some (.bool t)) (ha : t = true → Wc C a l df H Q) (hb : t = false → Wc C b l df H Q) : Wc C (.cond c a b) l df H Q := fun tm ht => by
  cases t with
  | true =>
    obtain ⟨n, e, s', h1, h2⟩ := ha rfl tm ht
    exact ⟨n, e, s', by unfold exec; simp only [ht.ev h]; exact h1, h2⟩
  | false =>
    obtain ⟨n, e, s', h1, h2⟩ := hb rfl tm ht
    exact ⟨n, e, s', by unfold exec; simp only [ht.ev h]; exact h1, h2⟩
/-- A test that is not known yet. -/
theorem Wc.ifs {n : Nat} {a b : AC} {t : Bool} (h : look l n = some (.bool t)) (ha : t = true → Wc C a ((n, .bool true) :: l) df H Q) (hb : t = false → Wc C b ((n, .bool false) :: l) df H Q) : Wc C (.cond (.t n) a b) l df H Q := by
  have key : ∀ (tm : Tr AV) t', TmR tm l → t' = t → TmR tm ((n, .bool t') :: l) := fun tm t' ht e k v hk => by
    simp only [look] at hk
    cases hb : Nat.beq n k with
    | true =>
      rw [hb] at hk
      cases hk
      have := Nat.eq_of_beq_eq_true hb
      subst this
      subst e
      exact ht n _ h
    | false => rw [hb] at hk; exact ht k v hk
  refine Wc.cond (c := .t n) (t := t) h (fun e => ?_) (fun e => ?_)
  · subst e; exact fun tm ht => ha rfl tm (key tm true ht rfl)
  · subst e; exact fun tm ht => hb rfl tm (key tm false ht rfl)
theorem Wc.cond_t {c : Opd} {a b : AC} (h : evL l c = some (.bool true)) (ha : Wc C a l df H Q) : Wc C (.cond c a b) l df H Q := Wc.cond h (fun _ => ha) (fun e => by cases e)
theorem Wc.cond_f {c : Opd} {a b : AC} (h : evL l c = some (.bool false)) (hb : Wc C b l df H Q) : Wc C (.cond c a b) l df H Q := Wc.cond h (fun e => by cases e) (fun _ => hb)

theorem Wo.nil (h : Fin Q .normal l df H) : Wo C [] l df H Q := fun tm t => ⟨0, .normal, _, rfl, h tm t⟩
theorem Wo.step {o : AOper} {ops : List AOper} (hs : St C l H o v H') (hk : Wo C ops (putl l o.dst v) df H' Q) : Wo C (o :: ops) l df H Q := fun tm t => by
  obtain ⟨n, h1⟩ := hs
  obtain ⟨m, e, s', h2, h3⟩ := hk (putT tm o.dst v) (t.put o.dst v)
  refine ⟨max n m, e, s', ?_, h3⟩
  unfold opsR
  simp only [h1 _ (Nat.le_max_left n m) tm t]
  exact opsR_mono (run_le (Nat.le_max_right n m)) _ _ _ h2
theorem Wo.val {d : Option Nat} {op : AOp} {g : Option (Nat × Bool)} {ops : List AOper} (hg : wantL l g = some true) (h : Ao C l H op v H') (hk : Wo C ops (putl l d v) df H' Q) : Wo C (⟨d, op, g⟩ :: ops) l df H Q :=
  Wo.step (o := ⟨d, op, g⟩) (St.val hg h) hk
theorem Wo.skip {d : Option Nat} {op : AOp} {g : Option (Nat × Bool)} {ops : List AOper} (hg : wantL l g = some false) (hk : Wo C ops (putl l d .und) df H Q) : Wo C (⟨d, op, g⟩ :: ops) l df H Q :=
  Wo.step (o := ⟨d, op, g⟩) (St.skip hg) hk
theorem Wo.call {d : Option Nat} {g : Option (Nat × Bool)} {f : Nat} {as : List Opd} {ops : List AOper} {xs : List AV} {R : AV → AH → Prop} (hg : wantL l g = some true) (ha : evsL l as = some xs) (h : Rt C f xs H R)
    (hk : ∀ v H', R v H' → Wo C ops (putl l d v) df H' Q) : Wo C (⟨d, .call f as, g⟩ :: ops) l df H Q := by
  obtain ⟨v, H', h1, h2⟩ := St.call (d := d) hg ha h
  exact Wo.step h1 (hk v H' h2)
theorem Wo.vcall {d : Option Nat} {g : Option (Nat × Bool)} {f : Nat} {x : Opd} {as : List Opd} {ops : List AOper} {xs a b : List AV} {R : AV → AH → Prop} (hg : wantL l g = some true)
    (hx : evL l x = some (.fn (.func f) a b)) (hf : C.xfn f = false) (ha : evsL l as = some xs) (h : Rt C f (a ++ xs ++ b) H R)
    (hk : ∀ v H', R v H' → Wo C ops (putl l d v) df H' Q) : Wo C (⟨d, .vcall x as, g⟩ :: ops) l df H Q := by
  obtain ⟨v, H', h1, h2⟩ := St.vcall (d := d) hg hx hf ha h
  exact Wo.step h1 (hk v H' h2)
theorem Wo.xcall {d : Option Nat} {g : Option (Nat × Bool)} {f : Nat} {as : List Opd} {ops : List AOper} {xs : List AV} (hg : wantL l g = some true) (ha : evsL l as = some xs) (h : C.ext f xs H = some (v, H'))
    (hk : Wo C ops (putl l d v) df H' Q) : Wo C (⟨d, .xcall f as, g⟩ :: ops) l df H Q := Wo.step (St.xcall hg ha h) hk
theorem Wo.dfr {d : Option Nat} {g : Option (Nat × Bool)} {f : Nat} {x : Opd} {as : List Opd} {ops : List AOper} {xs a b : List AV} (hg : wantL l g = some true) (hx : evL l x = some (.fn (.func f) a b))
    (ha : evsL l as = some xs) (hk : Wo C ops (putl l d .und) ((f, a ++ xs ++ b) :: df) H Q) : Wo C (⟨d, .dfr x as, g⟩ :: ops) l df H Q := fun tm t => by
  obtain ⟨m, e, s', h2, h3⟩ := hk (putT tm d .und) (t.put d .und)
  refine ⟨m, e, s', ?_, h3⟩
  unfold opsR astep
  rw [if_pos (wanted_of t hg)]
  simp only [aop, t.ev hx, t.evs ha, follow]
  exact h2

/-- A guard that is not known yet. -/
theorem Wo.branch {d : Option Nat} {op : AOp} {j : Nat} {b : Bool} {ops : List AOper} {t : Bool} (hl : look l j = some (.bool t))
    (h1 : t = true → Wo C (⟨d, op, some (j, b)⟩ :: ops) ((j, .bool true) :: l) df H Q) (h2 : t = false → Wo C (⟨d, op, some (j, b)⟩ :: ops) ((j, .bool false) :: l) df H Q) :
    Wo C (⟨d, op, some (j, b)⟩ :: ops) l df H Q := fun tm ht => by
  have key : ∀ t', t' = t → TmR tm ((j, .bool t') :: l) := fun t' e k v hk => by
    simp only [look] at hk
    cases hb : Nat.beq j k with
    | true =>
      rw [hb] at hk
      cases hk
      have := Nat.eq_of_beq_eq_true hb
      subst this
      subst e
      exact ht j _ hl
    | false => rw [hb] at hk; exact ht k v hk
  cases t with
  | true => exact h1 rfl tm (key true rfl)
  | false => exact h2 rfl tm (key false rfl)

/-! ### Ends -/
theorem Fin.seq {b : AC} (h : Wc C b l df H Q) : Fin (kseq C b Q) .normal l df H := fun tm t => h tm t
theorem Fin.seq_exit {b : AC} {j : Nat} (h : Fin Q (.exit j) l df H) : Fin (kseq C b Q) (.exit j) l df H := fun tm t => h tm t
theorem Fin.seq_ret {b : AC} (h : Fin Q .ret l df H) : Fin (kseq C b Q) .ret l df H := fun tm t => h tm t
theorem Fin.block {id : Nat} (h : Fin Q .normal l df H) : Fin (kblock id Q) .normal l df H := fun tm t => h tm t
theorem Fin.block_ret {id : Nat} (h : Fin Q .ret l df H) : Fin (kblock id Q) .ret l df H := fun tm t => h tm t
theorem Fin.block_here {id : Nat} (h : Fin Q .normal l df H) : Fin (kblock id Q) (.exit id) l df H := fun tm t => by
  show (match Nat.beq id id with | true => Q .normal _ | false => Q (.exit id) _)
  rw [Nat.beq_refl]
  exact h tm t
theorem Fin.block_on {id j : Nat} (hj : Nat.beq j id = false) (h : Fin Q (.exit j) l df H) : Fin (kblock id Q) (.exit j) l df H := fun tm t => by
  show (match Nat.beq j id with | true => Q .normal _ | false => Q (.exit j) _)
  rw [hj]
  exact h tm t

/-! ### Where ways meet -/
def kcut (df : List (Nat × List AV)) (Pm : TL → AH → Prop) (Q : AEx → ASt → Prop) : AEx → ASt → Prop := fun e s => match e with
  | .normal => ∃ l, TmR s.tm l ∧ s.df = df ∧ Pm l s.hp
  | e => Q e s
theorem Wc.cut {a b : AC} (Pm : TL → AH → Prop) (h : Wc C a l df H (kcut df Pm Q)) (h2 : ∀ l' H', Pm l' H' → Wc C b l' df H' Q) : Wc C (.seq a b) l df H Q :=
  Wc.seq fun tm t => (h tm t).mono fun e s hs => by
    cases e with
    | normal =>
      obtain ⟨l', h3, h4, h5⟩ := hs
      obtain ⟨tm', df', H'⟩ := s
      simp only at h4
      subst h4
      exact h2 l' H' h5 tm' h3
    | exit j => exact hs
    | ret => exact hs
    | pan v => exact hs
theorem Fin.cut {Pm : TL → AH → Prop} {l' : TL} (h : Pm l' H) (hs : Subs l' l) : Fin (kcut df Pm Q) .normal l df H := fun tm t => ⟨l', t.subs hs, rfl, h⟩
theorem Fin.cut_ret {Pm : TL → AH → Prop} {df' : List (Nat × List AV)} (h : Fin Q .ret l df H) : Fin (kcut df' Pm Q) .ret l df H := fun tm t => h tm t
theorem Fin.cut_exit {Pm : TL → AH → Prop} {df' : List (Nat × List AV)} {j : Nat} (h : Fin Q (.exit j) l df H) : Fin (kcut df' Pm Q) (.exit j) l df H := fun tm t => h tm t

/-! ### Functions -/
def resL (l : TL) (H : AH) : List (Nat × Option (Option Nat)) → Option (List AV)
  | [] => some []
  | (t, none) :: r => match look l t, resL l H r with
    | some v, some m => some (v :: m)
    | _, _ => none
  | (t, some c) :: r => match look l t, resL l H r with
    | some (.ptr X o), some m => (match c with
      | none => (match H.rd X o with
        | some v => some (v :: m)
        | none => none)
      | some n => (match H.rdn X o n with
        | some v => some (.agg v :: m)
        | none => none))
    | _, _ => none

theorem resR_of {tm : Tr AV} (h : TmR tm l) : ∀ {r : List (Nat × Option (Option Nat))} {vs : List AV}, resL l H r = some vs → resR tm H r = some vs
  | [], vs, e => e
  | (t, none) :: r, vs, e => by
    simp only [resL] at e
    split at e
    · rename_i v m h1 h2
      cases e
      simp only [resR, resR_of h h2, ev, h t _ h1]
    · cases e
  | (t, some c) :: r, vs, e => by
    simp only [resL] at e
    split at e
    · rename_i X o m h1 h2
      simp only [resR, resR_of h h2, ev, h t _ h1]
      exact e
    · cases e

def oneR : List AV → AV
  | [v] => v
  | vs => .tup vs

/-- What a function is left by, nothing being deferred. -/
def kret (af : AF) (Q : AV → AH → Prop) : AEx → ASt → Prop := fun e s => (e = .normal ∨ e = .ret) ∧ s.df = [] ∧ ∃ vs, resR s.tm s.hp af.res = some vs ∧ Q (oneR vs) s.hp

theorem Fin.kret {af : AF} {R : AV → AH → Prop} {vs : List AV} (h : resL l H af.res = some vs) (hq : R (oneR vs) H) : Fin (kret af R) .ret l [] H := fun tm t => ⟨.inr rfl, rfl, vs, resR_of t h, hq⟩
theorem Fin.kret_n {af : AF} {R : AV → AH → Prop} {vs : List AV} (h : resL l H af.res = some vs) (hq : R (oneR vs) H) : Fin (Vd.kret af R) .normal l [] H := fun tm t => ⟨.inl rfl, rfl, vs, resR_of t h, hq⟩

theorem Rt.enter {f : Nat} {xs : List AV} {af : AF} {R : AV → AH → Prop} (ho : C.orc f = none) (hf : C.fns f = some af) (h : Wc C af.code (zipl 0 xs) [] H (Vd.kret af R)) : Rt C f xs H R := by
  obtain ⟨n, e, s', h1, he, hd, vs, hv, hq⟩ := h _ (TmR.start xs)
  refine ⟨n + 1, oneR vs, s'.hp, ?_, hq⟩
  have hl : leave C (run C n) af s' none = some (.call (.ret (oneR vs)) s'.hp) := by
    unfold leave
    rw [hd]
    simp only [defersR, hv, Option.isNone_none, Bool.true_or, if_true]
    match vs with
    | [] => rfl
    | [v] => rfl
    | a :: b :: r => rfl
  unfold run callR
  simp only [ho, hf, h1]
  rcases he with rfl | rfl
  · exact hl
  · exact hl
end
attribute [irreducible] Wc Wo Fin Wx kseq kblock kcut Vd.kret Rt St Ao
end Go.Vd
namespace Go.Vd

theorem wrap_i64 {n : Int} (h0 : -9223372036854775808 ≤ n) (h1 : n < 9223372036854775808) : IntKind.i64.wrap n = n := by
  have e : IntKind.i64.wrap n = (if decide (n % 18446744073709551616 ≥ 9223372036854775808) = true then n % 18446744073709551616 - 18446744073709551616 else n % 18446744073709551616) := rfl
  rw [e]
  by_cases h : n % 18446744073709551616 ≥ 9223372036854775808
  · rw [if_pos (decide_eq_true h)]; omega
  · rw [if_neg (by simpa using h)]; omega

theorem wrap_succ {i : Nat} (h : i < 9223372036854775807) : IntKind.i64.wrap ((i : Int) + Int.ofNat 1) = ((i + 1 : Nat) : Int) := by
  rw [wrap_i64 (by simp; omega) (by simp; omega)]
  rfl

theorem wrap_pred {i : Nat} (h : i < 9223372036854775807) (h0 : 1 ≤ i) : IntKind.i64.wrap ((i : Int) - Int.ofNat 1) = ((i - 1 : Nat) : Int) := by
  rw [wrap_i64 (by simp; omega) (by simp; omega)]
  show (i : Int) - 1 = _
  omega

/-- The bodies of the loops of some code, as they stand. -/
def AC.loops : AC → List AC
  | .seq a b => a.loops ++ b.loops
  | .cond _ a b => a.loops ++ b.loops
  | .block _ b => b.loops
  | .scope b => b.loops
  | .loop b => b :: b.loops
  | _ => []
def bodyN (af : AF) (k : Nat) : AC := match af.code.loops[k]? with
  | some b => b
  | none => .bad

theorem blt_dec (a c : Nat) : Nat.ble a c = decide (a ≤ c) := by
  cases h : Nat.ble a c with
  | true => exact (decide_eq_true (Nat.le_of_ble_eq_true h)).symm
  | false => exact (decide_eq_false (fun g => by rw [Nat.ble_eq_true_of_le g] at h; cases h)).symm
theorem beq_dec (a c : Nat) : Nat.beq a c = decide (a = c) := by
  cases h : Nat.beq a c with
  | true => exact (decide_eq_true (Nat.eq_of_beq_eq_true h)).symm
  | false => exact (decide_eq_false (fun g => by subst g; rw [Nat.beq_refl] at h; cases h)).symm
theorem lo_dec (k n : Nat) : decide (Int.ofNat k ≤ (n : Int)) = Nat.ble k n := by
  rw [blt_dec]
  congr 1; apply propext; constructor <;> intro h
  · exact Int.ofNat_le.1 h
  · exact Int.ofNat_le.2 h
theorem hi_dec (k n : Nat) : decide ((n : Int) ≤ Int.ofNat k) = Nat.ble n k := by
  rw [blt_dec]
  congr 1; apply propext; constructor <;> intro h
  · exact Int.ofNat_le.1 h
  · exact Int.ofNat_le.2 h
theorem eq_dec (k n : Nat) : decide ((n : Int) = Int.ofNat k) = Nat.beq n k := by
  rw [beq_dec]
  congr 1; apply propext; constructor <;> intro h
  · exact Int.ofNat.inj h
  · rw [h]; rfl
theorem lt_dec (k n : Nat) : decide ((n : Int) < Int.ofNat k) = decide (n < k) := by
  congr 1; apply propext; constructor <;> intro h
  · exact Int.ofNat_lt.1 h
  · exact Int.ofNat_lt.2 h
theorem gt_dec (k n : Nat) : decide (Int.ofNat k < (n : Int)) = decide (k < n) := by
  congr 1; apply propext; constructor <;> intro h
  · exact Int.ofNat_lt.1 h
  · exact Int.ofNat_lt.2 h
theorem lt_cast (k n : Nat) : decide ((n : Int) < (k : Int)) = decide (n < k) := lt_dec k n
theorem strEq_len : ∀ {x y : List UInt8}, x.length ≠ y.length → strEq x y = false
  | [], [], h => absurd rfl h
  | [], _ :: _, _ => rfl
  | _ :: _, [], _ => rfl
  | a :: x, b :: y, h => by
    have := strEq_len (x := x) (y := y) (by simpa using h)
    simp [strEq, this]
theorem strEq_refl : ∀ x : List UInt8, strEq x x = true
  | [] => rfl
  | a :: x => by simp [strEq, strEq_refl x]
theorem strEq_iff : ∀ {x y : List UInt8}, strEq x y = true → x = y
  | [], [], _ => rfl
  | [], _ :: _, h => by cases h
  | _ :: _, [], h => by cases h
  | a :: x, b :: y, h => by
    simp only [strEq, Bool.and_eq_true] at h
    rw [strEq_iff h.2, UInt8.toNat_inj.1 (Nat.eq_of_beq_eq_true h.1)]
theorem strEq_ne {x y : List UInt8} (h : x ≠ y) : strEq x y = false := by
  cases e : strEq x y with
  | true => exact absurd (strEq_iff e) h
  | false => rfl

theorem all_take_succ {α : Type} {p : α → Bool} {l : List α} {i : Nat} {b : α} (h : l[i]? = some b) (h1 : (l.take i).all p = true) (hb : p b = true) : (l.take (i + 1)).all p = true := by
  rw [List.take_add_one, h]
  simp [List.all_append, h1, hb]
theorem all_take_all {α : Type} {p : α → Bool} {l : List α} (h : (l.take l.length).all p = true) : l.all p = true := by
  rwa [List.take_length] at h
theorem all_false_at {α : Type} {p : α → Bool} {l : List α} {i : Nat} {b : α} (h : l[i]? = some b) (hb : p b = false) : l.all p = false := by
  cases e : l.all p with
  | false => rfl
  | true =>
    have := List.all_eq_true.1 e b (List.mem_of_getElem? h)
    rw [hb] at this
    cases this
end Go.Vd
namespace Go.Vd

section
variable {H H' : AH} {X o e fl : Nat} {l : List AV}

theorem AH.rd_of (h : H.get X = some (.cells l e fl)) : H.rd X o = l[o]? := by unfold AH.rd; rw [h]
theorem AH.rdn_of {n : Nat} (h : H.get X = some (.cells l e fl)) (hn : o + n ≤ l.length) : H.rdn X o n = some ((l.drop o).take n) := by
  unfold AH.rdn; rw [h]; simp only [Nat.ble_eq_true_of_le hn, if_true]
theorem AH.wr_of {vs : List AV} (h : H.get X = some (.cells l e fl)) (hf : fl ≤ 1) (ho : o + vs.length ≤ l.length) (hv : vs.all AV.one = true) :
    H.wr X o vs = some (H.set X (.cells (l.take o ++ vs ++ l.drop (o + vs.length)) e fl)) := by
  unfold AH.wr; rw [h]; simp only [Nat.ble_eq_true_of_le hf, Nat.ble_eq_true_of_le ho, hv, Bool.and_self, if_true]
theorem AH.get_push_self (H : AH) (b : AB) : (H.push b).get H.next = some b := by rw [AH.get_push, if_pos rfl]
theorem AH.get_push_ne (H : AH) (b : AB) (h : X ≠ H.next) : (H.push b).get X = H.get X := by rw [AH.get_push, if_neg h]
theorem AH.get_set_self (H : AH) (X : Nat) (b : AB) : (H.set X b).get X = some b := by rw [AH.get_set, if_pos rfl]
theorem AH.get_set_ne (H : AH) (b : AB) {Y : Nat} (h : Y ≠ X) : (H.set X b).get Y = H.get Y := by rw [AH.get_set, if_neg h]
end

theorem Ao.alloc_as {C : Ctx} {t : TL} {H : AH} {e : Nat} {zs zs' : List AV} (hz : zs = zs') (h : zs'.all AV.one = true) : Ao C t H (.alloc e zs) (.ptr H.next 0) (H.push (.cells zs' e 0)) := by
  subst hz; exact Ao.alloc h
theorem take_set {l : List AV} {o : Nat} {v : AV} (h : o < l.length) : l.take o ++ [v] ++ l.drop (o + [v].length) = l.set o v := by
  rw [List.set_eq_take_append_cons_drop, if_pos h]
  simp
/-- A store of one cell. -/
theorem AH.wr1_of {H : AH} {X o e fl : Nat} {l : List AV} {v : AV} (h : H.get X = some (.cells l e fl)) (hf : fl ≤ 1) (ho : o < l.length) (hv : v.one = true) : H.wr X o [v] = some (H.set X (.cells (l.set o v) e fl)) := by
  rw [AH.wr_of h hf (by simp; omega) (by simp [hv]), take_set ho]

theorem AH.wr1_as {H : AH} {X o e fl : Nat} {l l' : List AV} {v : AV} (h : H.get X = some (.cells l e fl)) (hf : fl ≤ 1) (ho : o < l.length) (hv : v.one = true) (hl : l.set o v = l') : H.wr X o [v] = some (H.set X (.cells l' e fl)) := by
  rw [AH.wr1_of h hf ho hv, hl]
theorem AH.rdn_all {H : AH} {X e fl n : Nat} {l : List AV} (h : H.get X = some (.cells l e fl)) (hn : l.length = n) : H.rdn X 0 n = some l := by
  rw [AH.rdn_of h (by omega), List.drop_zero, List.take_of_length_le (by omega)]
theorem AH.wr_all {H : AH} {X e fl : Nat} {l vs : List AV} (h : H.get X = some (.cells l e fl)) (hf : fl ≤ 1) (hv : vs.all AV.one = true) (hl : vs.length = l.length) : H.wr X 0 vs = some (H.set X (.cells vs e fl)) := by
  rw [AH.wr_of h hf (by omega) hv, hl]
  simp

/-- The heap has k blocks more at most; the elder ones are as they were. -/
structure Ext (k : Nat) (H H' : AH) : Prop where
  lo : H.next ≤ H'.next
  hi : H'.next ≤ H.next + k
  same : ∀ X, X < H.next → H'.get X = H.get X

theorem Ext.refl (k : Nat) (H : AH) : Ext k H H := ⟨Nat.le_refl _, Nat.le_add_right _ _, fun _ _ => rfl⟩
theorem Ext.push (H : AH) (b : AB) : Ext 1 H (H.push b) := ⟨by simp [AH.next_push], by simp [AH.next_push], fun X h => AH.get_push_ne H b (by omega)⟩
theorem Ext.trans {j k : Nat} {H H1 H2 : AH} (h : Ext j H H1) (g : Ext k H1 H2) : Ext (j + k) H H2 :=
  ⟨Nat.le_trans h.lo g.lo, by have := h.hi; have := g.hi; omega, fun X hX => by rw [g.same X (by have := h.lo; omega), h.same X hX]⟩
theorem Ext.mono {j k : Nat} {H H' : AH} (h : Ext j H H') (hk : j ≤ k) : Ext k H H' := ⟨h.lo, by have := h.hi; omega, h.same⟩
/-- A store into a block that is not an elder one. -/
theorem Ext.set {k : Nat} {H H' : AH} (h : Ext k H H') {X : Nat} (hX : H.next ≤ X) (b : AB) : Ext k H (H'.set X b) :=
  ⟨h.lo, h.hi, fun Y hY => by rw [AH.get_set_ne H' b (by omega), h.same Y hY]⟩
theorem Ext.get {k : Nat} {H H' : AH} (h : Ext k H H') {X : Nat} {b : AB} (hX : X < H.next) (hb : H.get X = some b) : H'.get X = some b := by rw [h.same X hX, hb]

theorem binV_add {C : Ctx} {H : AH} {x y : List UInt8} (h : x.length + y.length ≤ 9223372036854775807) : binV C H .add .str (.str x) (.str y) = some (.str (x ++ y)) := by
  simp only [binV, binC, binY, binA, strOp, Nat.ble_eq_true_of_le h, if_true]

/-! ### Bounds of slices -/
theorem bnds_hi {len cap n : Nat} {k : IntKind} (h : n ≤ cap) : bnds len cap none (some (.int k (n : Int))) none = some (0, n, cap) := by
  simp only [bnds, pickB]
  have h1 : decide ((0 : Int) ≤ (n : Int)) = true := decide_eq_true (Int.natCast_nonneg n)
  have h2 : decide ((n : Int) ≤ (cap : Int)) = true := decide_eq_true (Int.ofNat_le.2 h)
  rw [h1, h2]
  simp
theorem bnds_lo {len cap n : Nat} {k : IntKind} (h : n ≤ len) : bnds len cap (some (.int k (n : Int))) none none = some (n, len, cap) := by
  simp only [bnds, pickB]
  have h1 : decide ((0 : Int) ≤ (n : Int)) = true := decide_eq_true (Int.natCast_nonneg n)
  have h2 : decide ((n : Int) ≤ (len : Int)) = true := decide_eq_true (Int.ofNat_le.2 h)
  rw [h1, h2]
  simp
theorem bnds_lohi {len cap n m : Nat} {k j : IntKind} (h : m ≤ cap) (hn : n ≤ m) : bnds len cap (some (.int j (n : Int))) (some (.int k (m : Int))) none = some (n, m, cap) := by
  simp only [bnds, pickB]
  have h1 : decide ((0 : Int) ≤ (n : Int)) = true := decide_eq_true (Int.natCast_nonneg n)
  have h2 : decide ((n : Int) ≤ (m : Int)) = true := decide_eq_true (Int.ofNat_le.2 hn)
  have h3 : decide ((0 : Int) ≤ (m : Int)) = true := decide_eq_true (Int.natCast_nonneg m)
  have h4 : decide ((m : Int) ≤ (cap : Int)) = true := decide_eq_true (Int.ofNat_le.2 h)
  rw [h3, h4]
  simp [h1, h2, hn]
end Go.Vd
