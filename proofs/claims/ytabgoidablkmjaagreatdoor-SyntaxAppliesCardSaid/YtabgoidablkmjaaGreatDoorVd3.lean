/- The evaluator. -/
import Derived.Test.YtabgoidablkmjaaGreatDoorVd2
set_option linter.unusedVariables false
set_option linter.unusedSimpArgs false
namespace Go.Vd

inductive ARes where
  | ret (v : AV)
  | pan (v : AV)
  deriving Inhabited

structure Ctx where
  fns : Nat → Option AF
  impl : Nat → Nat → Option Bool
  cmp : Nat → Bool
  lies : Nat → Nat → Nat → Nat → Bool
  ext : Nat → List AV → AH → Option (AV × AH)
  meth : Nat → AV → String → Option (Nat × AV)
  xfn : Nat → Bool
  orc : Nat → Option (List AV → AH → Option (ARes × AH))
  ng : Nat

def ev (tm : Tr AV) : Opd → AV
  | .t n => match tm.get n with
    | some v => v
    | none => .und
  | .c v => v

def evs (tm : Tr AV) : List Opd → List AV
  | [] => []
  | x :: l => ev tm x :: evs tm l

def evo (tm : Tr AV) : Option Opd → Option AV
  | none => none
  | some x => some (ev tm x)

def evp (tm : Tr AV) : List (Nat × Nat × Opd) → List (Nat × Nat × AV)
  | [] => []
  | (a, b, x) :: l => (a, b, ev tm x) :: evp tm l

def evq (tm : Tr AV) (sz : Nat) : List (Nat × Opd) → List (Nat × Nat × AV)
  | [] => []
  | (a, x) :: l => (a, sz, ev tm x) :: evq tm sz l

def ofV (H : AH) : Option AV → ORes
  | some v => .val v H
  | none => .fail

def aop (C : Ctx) (tm : Tr AV) (H : AH) : AOp → ORes
  | .mv x => .val (ev tm x) H
  | .pick c a b => match ev tm c with
    | .bool true => .val (ev tm a) H
    | .bool false => .val (ev tm b) H
    | _ => .fail
  | .alloc e zs => if zs.all AV.one then .val (.ptr H.next 0) (H.push (.cells zs e 0)) else .fail
  | .box e x => if (ev tm x).cells.all AV.one then .val (.ptr H.next 0) (H.push (.cells (ev tm x).cells e 0)) else .fail
  | .build zs ps => ofV H ((fillA zs (evp tm ps)).map .agg)
  | .bslice e sz len zs ps => match fillA zs (evq tm sz ps) with
    | some l => if l.all AV.one then .val (.slc H.next 0 len len sz true) (H.push (.cells l e 0)) else .fail
    | none => .fail
  | .ld x => match ev tm x with
    | .ptr X o => ofV H (H.rd X o)
    | _ => .fail
  | .ldn n x => match ev tm x with
    | .ptr X o => ofV H ((H.rdn X o n).map .agg)
    | _ => .fail
  | .st x y => match ev tm x with
    | .ptr X o => match H.wr X o [ev tm y] with
      | some H' => .val .und H'
      | none => .fail
    | _ => .fail
  | .stn n x y => match ev tm x with
    | .ptr X o => if Nat.beq (ev tm y).cells.length n then match H.wr X o (ev tm y).cells with
        | some H' => .val .und H'
        | none => .fail
      else .fail
    | _ => .fail
  | .chk x => if (ev tm x).isPtr then .val (ev tm x) H else .fail
  | .bin op k x y => ofV H (match binC op (ev tm x) (ev tm y) with
    | some v => some v
    | none => binA C.cmp H op k (ev tm x) (ev tm y))
  | .un op x => ofV H (unA op (ev tm x))
  | .conv (.int k) x => match ev tm x with
    | .int _ n => .val (.int k (k.wrap n)) H
    | _ => .fail
  | .conv .same x => match ev tm x with
    | .str l => .val (.str l) H
    | _ => .fail
  | .conv (.s2b e) x => match ev tm x with
    | .str l => .val (.slc H.next 0 l.length l.length 1 false) (H.push (.cells (bytesAV l) e 1))
    | _ => .fail
  | .conv .b2s x => match ev tm x with
    | .nils => .val (.str []) H
    | .slc X o n cap 1 _ => if Nat.ble n cap then (match H.rdn X o n with
      | some l => ofV H ((avBytes l).map .str)
      | none => .fail) else .fail
    | _ => .fail
  | .conv .p2u x => match ev tm x with
    | .nilp => .val .nilp H
    | .ptr X o => match H.get X with
      | some (.cells l _ _) => if Nat.blt o l.length then .val (.ptr X o) H else .fail
      | _ => .fail
    | _ => .fail
  | .conv (.u2p t) x => match ev tm x with
    | .nilp => .val .nilp H
    | .ptr X o => match H.get X with
      | some (.cells l e fl) => if Nat.beq fl 0 && C.lies e l.length o t then .val (.ptr X o) H else .fail
      | _ => .fail
    | _ => .fail
  | .conv .i2s _ => .fail
  | .mki t x => .val (.ifc t (ev tm x)) H
  | .mkf f a b => .val (.fn f (evs tm a) (evs tm b)) H
  | .mkm => .val (.map H.next) (H.push (.mp []))
  | .mks e sz bts z l c => match ev tm l, ev tm c with
    | .int _ n, .int _ m => if decide (0 ≤ n) && decide (n ≤ m) && decide (m * bts ≤ 281474976710656) && decide (m < 9223372036854775808) && z.all AV.one && Nat.beq z.length sz then
        .val (.slc H.next 0 n.toNat m.toNat sz true) (H.push (.cells (repl z m.toNat) e 0)) else .fail
    | _, _ => .fail
  | .sls x lo hi => match ev tm x with
    | .str s => match bnds s.length s.length (evo tm lo) (evo tm hi) none with
      | some (l, h, _) => .val (.str ((s.drop l).take (h - l))) H
      | none => .fail
    | _ => .fail
  | .slv sz x lo hi mx => match ev tm x with
    | .nils => match bnds 0 0 (evo tm lo) (evo tm hi) (evo tm mx) with
      | some _ => .val .nils H
      | none => .fail
    | .slc X o len cap s ex => if Nat.beq s sz && Nat.ble len cap then match bnds len cap (evo tm lo) (evo tm hi) (evo tm mx) with
        | some (l, h, m) => .val (.slc X (o + l * sz) (h - l) (m - l) sz (ex || (evo tm mx).isSome)) H
        | none => .fail
      else .fail
    | _ => .fail
  | .sla n sz x lo hi mx => match ev tm x with
    | .ptr X o => match bnds n n (evo tm lo) (evo tm hi) (evo tm mx) with
      | some (l, h, m) => .val (.slc X (o + l * sz) (h - l) (m - l) sz true) H
      | none => .fail
    | _ => .fail
  | .fad off x => match ev tm x with
    | .ptr X o => .val (.ptr X (o + off)) H
    | _ => .fail
  | .fld off none x => match ev tm x with
    | .agg l => ofV H l[off]?
    | _ => .fail
  | .fld off (some n) x => match ev tm x with
    | .agg l => if Nat.ble (off + n) l.length then .val (.agg ((l.drop off).take n)) H else .fail
    | _ => .fail
  | .ixs sz x i => match ev tm x, ev tm i with
    | .slc X o len cap s _, .int _ n => if Nat.beq s sz && Nat.ble len cap && decide (0 ≤ n) && decide (n < len) then .val (.ptr X (o + n.toNat * sz)) H else .fail
    | _, _ => .fail
  | .ixa len sz x i => match ev tm x, ev tm i with
    | .ptr X o, .int _ n => if decide (0 ≤ n) && decide (n < len) then .val (.ptr X (o + n.toNat * sz)) H else .fail
    | _, _ => .fail
  | .ixt x i => match ev tm x, ev tm i with
    | .str s, .int _ n => if decide (0 ≤ n) then ofV H ((s[n.toNat]?).map fun b => .int .u8 b.toNat) else .fail
    | _, _ => .fail
  | .ixv len sz c x i => match ev tm x, ev tm i with
    | .agg l, .int _ n => if decide (0 ≤ n) && decide (n < len) then match c with
        | none => ofV H l[n.toNat * sz]?
        | some m => if Nat.ble (n.toNat * sz + m) l.length then .val (.agg ((l.drop (n.toNat * sz)).take m)) H else .fail
      else .fail
    | _, _ => .fail
  | .look ok k z x i =>
    if goodNil k (ev tm i) then
      match ev tm x with
      | .nilm => .val (if ok then .tup [z, .bool false] else z) H
      | .map X => if !goodKey k (ev tm i) then .fail else match H.get X with
        | some (.mp es) => match findA (ev tm i) es with
          | some v => .val (if ok then .tup [v, .bool true] else v) H
          | none => .val (if ok then .tup [z, .bool false] else z) H
        | _ => .fail
      | _ => .fail
    else .fail
  | .upd k m i v =>
    if goodKey k (ev tm i) then
      match ev tm m with
      | .map X => match H.get X with
        | some (.mp es) => match updA (ev tm i) (ev tm v) es with
          | some l => .val .und (H.set X (.mp l))
          | none => .val .und (H.set X (.mp (es ++ [(ev tm i, ev tm v)])))
        | _ => .fail
      | _ => .fail
    else .fail
  | .tai _ a z ok x => match ev tm x with
    | .nili => if ok then .val (.tup [z, .bool false]) H else .fail
    | .ifc t v => match C.impl t a with
      | some true => .val (if ok then .tup [.ifc t v, .bool true] else .ifc t v) H
      | some false => if ok then .val (.tup [z, .bool false]) H else .fail
      | none => .fail
    | _ => .fail
  | .tac a z ok x => match ev tm x with
    | .nili => if ok then .val (.tup [z, .bool false]) H else .fail
    | .ifc t v => if Nat.beq t a then .val (if ok then .tup [v, .bool true] else v) H else if ok then .val (.tup [z, .bool false]) H else .fail
    | _ => .fail
  | .ext x i => match ev tm x with
    | .tup l => ofV H l[i]?
    | _ => .fail
  | .call f as => .call f (evs tm as)
  | .xcall f as => .xcall f (evs tm as)
  | .vcall x as => match ev tm x with
    | .fn (.func f) a b => if C.xfn f then .fail else .call f (a ++ evs tm as ++ b)
    | _ => .fail
  | .icall m x as => match ev tm x with
    | .ifc t v => .icall t v m (evs tm as)
    | _ => .fail
  | .app e sz bts x y => match appA H e sz bts (ev tm x) (ev tm y) with
    | some (v, H') => .val v H'
    | none => .fail
  | .tlen x => match ev tm x with
    | .str l => .val (.int .i64 l.length) H
    | _ => .fail
  | .len x => match ev tm x with
    | .slc _ _ n _ _ _ => .val (.int .i64 n) H
    | .nils => .val (.int .i64 0) H
    | _ => .fail
  | .mlen x => match ev tm x with
    | .nilm => .val (.int .i64 0) H
    | .map X => match H.get X with
      | some (.mp es) => .val (.int .i64 es.length) H
      | _ => .fail
    | _ => .fail
  | .alen n => .val (.int .i64 n) H
  | .cap x => match ev tm x with
    | .slc _ _ _ c _ true => .val (.int .i64 c) H
    | .nils => .val (.int .i64 0) H
    | _ => .fail
  | .copy sz x y => match contA H sz (ev tm y) with
    | none => .fail
    | some new => match ev tm x with
      | .nils => .val (.int .i64 0) H
      | .slc X o len cap s _ => if Nat.beq s sz && Nat.ble len cap && Nat.ble 1 sz then
          (let n := min (new.length / sz) len
           if Nat.beq n 0 then .val (.int .i64 0) H else
           match H.wr X o (new.take (n * sz)) with
           | some H' => .val (.int .i64 n) H'
           | none => .fail)
        else .fail
      | _ => .fail
  | .mm mx x l => match ev tm x with
    | .int k a => ofV H (mmA mx k a (evs tm l))
    | _ => .fail
  | .rng x => match ev tm x with
    | .str s => .val (.ptr H.next 0) (H.push (.it s 0))
    | _ => .fail
  | .nxt x => match ev tm x with
    | .ptr X 0 => match H.get X with
      | some (.it s pos) => match s[pos]? with
        | some b => if Nat.blt b.toNat 128 then .val (.tup [.bool true, .int .i64 pos, .int .i32 b.toNat]) (H.set X (.it s (pos + 1))) else .fail
        | none => .val (.tup [.bool false]) H
      | _ => .fail
    | _ => .fail
  | .rcv => .rcv
  | .sdata x => match ev tm x with
    | .nils => .val .nilp H
    | .slc X o len cap _ _ => if Nat.ble 1 len && Nat.ble len cap then .val (.ptr X o) H else .fail
    | _ => .fail
  | .ustr e x n => match ev tm x, ev tm n with
    | .nilp, .int _ m => if m = 0 then .val (.str []) H else .fail
    | .ptr X o, .int _ m => if decide (1 ≤ m) && decide (m < 9223372036854775807) then
        match H.get X with
        | some (.cells l e' _) => if Nat.beq e e' && Nat.ble (o + m.toNat) l.length then match avBytes ((l.drop o).take m.toNat) with
            | some s => .val (.str s) (H.set X (.cells l e' 2))
            | none => .fail
          else .fail
        | _ => .fail
      else .fail
    | _, _ => .fail
  | .dfr x as => match ev tm x with
    | .fn (.func f) a b => .dfr f (a ++ evs tm as ++ b)
    | _ => .fail
  | .pan x => match ev tm x with
    | .ifc t v => .pan (.ifc t v)
    | _ => .fail
  | .bad => .fail

inductive AEx where
  | normal
  | exit (id : Nat)
  | ret
  | pan (v : AV)
  deriving Inhabited

structure ASt where
  tm : Tr AV
  df : List (Nat × List AV)
  hp : AH
  deriving Inhabited

def putT (tm : Tr AV) (d : Option Nat) (v : AV) : Tr AV :=
  match d with
  | some k => tm.set k v
  | none => tm

inductive Task where
  | call (f : Nat) (as : List AV) (H : AH)
  | code (c : AC) (s : ASt)

inductive Out where
  | call (r : ARes) (H : AH)
  | code (e : AEx) (s : ASt)

def wanted (tm : Tr AV) : Option (Nat × Bool) → Bool
  | none => true
  | some (d, b) => match ev tm (.t d) with
    | .bool c => c == b
    | _ => false

/-- What an operation comes to, its call followed. -/
inductive SRes where
  | go (v : AV) (H : AH)
  | dfr (f : Nat) (as : List AV)
  | pan (v : AV) (H : AH)
  | rcv
  | fail

def ofOut : Option Out → SRes
  | some (.call (.ret v) H) => .go v H
  | some (.call (.pan v) H) => .pan v H
  | _ => .fail

def ofExt : Option (AV × AH) → SRes
  | some (v, H) => .go v H
  | none => .fail

def follow (C : Ctx) (ih : Task → Option Out) (H : AH) : ORes → SRes
  | .val v H' => .go v H'
  | .call f as => ofOut (ih (.call f as H))
  | .xcall f as => ofExt (C.ext f as H)
  | .icall t v m as => match C.meth t v m with
    | some (f, r) => if C.xfn f then ofExt (C.ext f (r :: as) H) else ofOut (ih (.call f (r :: as) H))
    | none => .fail
  | .dfr f as => .dfr f as
  | .pan v => .pan v H
  | .rcv => .rcv
  | .fail => .fail

def astep (C : Ctx) (ih : Task → Option Out) (tm : Tr AV) (H : AH) (o : AOper) : SRes :=
  if wanted tm o.guard then follow C ih H (aop C tm H o.op) else .go .und H

def opsR (C : Ctx) (ih : Task → Option Out) : List AOper → ASt → Option (AEx × ASt)
  | [], s => some (.normal, s)
  | o :: l, s => match astep C ih s.tm s.hp o with
    | .go v H => opsR C ih l ⟨putT s.tm o.dst v, s.df, H⟩
    | .dfr f as => opsR C ih l ⟨putT s.tm o.dst .und, (f, as) :: s.df, s.hp⟩
    | .pan v H => some (.pan v, ⟨s.tm, s.df, H⟩)
    | _ => none

/-- A light operation. -/
def valR (C : Ctx) (tm : Tr AV) (H : AH) (o : AOper) : Option AV :=
  if wanted tm o.guard then (match aop C tm H o.op with
    | .val v _ => some v
    | _ => none) else some .und

def lightsR (C : Ctx) (H : AH) : List AOper → Tr AV → Option (Tr AV)
  | [], tm => some tm
  | o :: l, tm => match valR C tm H o with
    | some v => lightsR C H l (putT tm o.dst v)
    | none => none

def dstOK (tm : Tr AV) (d : Option Nat) (v : AV) : Bool :=
  match d with
  | none => true
  | some k => AV.beq v (ev tm (.t k))

def again (C : Ctx) (tm : Tr AV) (H : AH) : List AOper → Bool
  | [] => true
  | o :: l => (match valR C tm H o with
    | some v => dstOK tm o.dst v
    | none => false) && again C tm H l

def againAll (C : Ctx) (tm : Tr AV) : List AH → List (List AOper) → Bool
  | [], _ => true
  | H :: Hs, l :: ls => again C tm H l && againAll C tm Hs ls
  | _, _ => false

def agree (a b : Tr AV) : List Nat → Bool
  | [] => true
  | t :: l => AV.beq (ev a (.t t)) (ev b (.t t)) && agree a b l

def heavOK (tm : Tr AV) : List (Tr AV × AV) → List AOper → Bool
  | [], _ => true
  | (t1, v) :: l, o :: os => agree t1 tm o.tl && dstOK tm o.dst v && heavOK tm l os
  | _, _ => false

/-- How a region that draws goes: its exit (with the heap), the last temporaries, the heaps ahead of each heavy operation (and the last), and for each heavy operation the temporaries it met and what it gave. -/
structure DRes where
  ex : AEx
  hp : AH
  tm : Tr AV
  hs : List AH
  ts : List (Tr AV × AV)

def segsR (C : Ctx) (ih : Task → Option Out) : List (List AOper) → List AOper → Tr AV → AH → Option DRes
  | [], _, _, _ => none
  | l :: _, [], tm, H => match lightsR C H l tm with
    | some t1 => some ⟨.normal, H, t1, [H], []⟩
    | none => none
  | l :: ls, o :: hv, tm, H => match lightsR C H l tm with
    | none => none
    | some t1 => match astep C ih t1 H o with
      | .go v H' => match segsR C ih ls hv (putT t1 o.dst v) H' with
        | some r => some ⟨r.ex, r.hp, r.tm, H :: r.hs, (t1, v) :: r.ts⟩
        | none => none
      | .pan v H' => some ⟨.pan v, H', t1, [H], []⟩
      | _ => none

def drawR (C : Ctx) (ih : Task → Option Out) (ls : List (List AOper)) (hv : List AOper) (wins : List (List AOper)) (s : ASt) : Option (AEx × ASt) :=
  match segsR C ih ls hv s.tm s.hp with
  | some r => if heavOK r.tm r.ts hv && againAll C r.tm r.hs wins then
      (match r.ex with
        | .normal => some (.normal, ⟨r.tm, s.df, r.hp⟩)
        | .pan v => some (.pan v, ⟨s.tm, s.df, r.hp⟩)
        | _ => none) else none
  | none => none

def exec (C : Ctx) (ih : Task → Option Out) : AC → ASt → Option (AEx × ASt)
  | .skip, s => some (.normal, s)
  | .reg ops, s => opsR C ih ops s
  | .regd ls hv wins, s => drawR C ih ls hv wins s
  | .seq a b, s => match exec C ih a s with
    | some (.normal, s') => exec C ih b s'
    | r => r
  | .cond c a b, s => match ev s.tm c with
    | .bool true => exec C ih a s
    | .bool false => exec C ih b s
    | _ => none
  | .block id b, s => match exec C ih b s with
    | some (.exit j, s') => if Nat.beq j id then some (.normal, s') else some (.exit j, s')
    | r => r
  | .loop b, s => match exec C ih b s with
    | some (.normal, s') => match ih (.code (.loop b) s') with
      | some (.code e s2) => some (e, s2)
      | _ => none
    | r => r
  | .exit id, s => some (.exit id, s)
  | .scope b, s => exec C ih b s
  | .ret, s => some (.ret, s)
  | .bad, _ => none

/-- What a deferred function sees of a panic: none, one that was recovered or not. -/
abbrev PS := Option (AV × Bool)

def opsD (C : Ctx) (ih : Task → Option Out) : List AOper → ASt → PS → Option (ASt × PS)
  | [], s, p => some (s, p)
  | o :: l, s, p => match astep C ih s.tm s.hp o with
    | .go v H => opsD C ih l ⟨putT s.tm o.dst v, s.df, H⟩ p
    | .rcv => match p with
      | some (v, false) => opsD C ih l ⟨putT s.tm o.dst v, s.df, s.hp⟩ (some (v, true))
      | _ => opsD C ih l ⟨putT s.tm o.dst .nili, s.df, s.hp⟩ p
    | _ => none

def execD (C : Ctx) (ih : Task → Option Out) : AC → ASt → PS → Option (AEx × ASt × PS)
  | .reg ops, s, p => match opsD C ih ops s p with
    | some (s', q) => some (.normal, s', q)
    | none => none
  | .seq a b, s, p => match execD C ih a s p with
    | some (.normal, s', q) => execD C ih b s' q
    | r => r
  | c, s, p => match exec C ih c s with
    | some (e, s') => some (e, s', p)
    | none => none

def tmOf : Nat → List AV → Tr AV → Tr AV
  | _, [], t => t
  | n, a :: l, t => tmOf (n + 1) l (t.set n a)

def resR (tm : Tr AV) (H : AH) : List (Nat × Option (Option Nat)) → Option (List AV)
  | [] => some []
  | (t, none) :: l => match resR tm H l with
    | some m => some (ev tm (.t t) :: m)
    | none => none
  | (t, some c) :: l => match ev tm (.t t), resR tm H l with
    | .ptr X o, some m => (match c with
      | none => (match H.rd X o with
        | some v => some (v :: m)
        | none => none)
      | some n => (match H.rdn X o n with
        | some v => some (.agg v :: m)
        | none => none))
    | _, _ => none

def defersR (C : Ctx) (ih : Task → Option Out) : List (Nat × List AV) → AH → PS → Option (AH × PS)
  | [], H, p => some (H, p)
  | (f, as) :: l, H, p => match C.fns f with
    | none => none
    | some af => match execD C ih af.code ⟨tmOf 0 as .nil, [], H⟩ p with
      | some (e, s, q) => match e, s.df, resR s.tm s.hp af.res with
        | .normal, [], some _ | .ret, [], some _ => defersR C ih l s.hp (match q with
          | some (_, true) => none
          | q => q)
        | _, _, _ => none
      | none => none

def allCells : List (Nat × Option (Option Nat)) → Bool
  | [] => true
  | (_, some _) :: l => allCells l
  | _ => false

def leave (C : Ctx) (ih : Task → Option Out) (af : AF) (s : ASt) (p : PS) : Option Out :=
  match defersR C ih s.df s.hp p with
  | some (H, none) => if p.isNone || allCells af.res then (match resR s.tm H af.res with
      | some [v] => some (.call (.ret v) H)
      | some vs => some (.call (.ret (.tup vs)) H)
      | none => none) else none
  | some (H, some (v, false)) => some (.call (.pan v) H)
  | _ => none

def callR (C : Ctx) (ih : Task → Option Out) (f : Nat) (as : List AV) (H : AH) : Option Out :=
  match C.orc f with
  | some g => match g as H with
    | some (r, H') => some (.call r H')
    | none => none
  | none => match C.fns f with
    | none => none
    | some af => match exec C ih af.code ⟨tmOf 0 as .nil, [], H⟩ with
      | some (.normal, s) => leave C ih af s none
      | some (.ret, s) => leave C ih af s none
      | some (.pan v, s) => leave C ih af s (some (v, false))
      | _ => none

def run (C : Ctx) : Nat → Task → Option Out
  | 0, _ => none
  | n + 1, .call f as H => callR C (run C n) f as H
  | n + 1, .code c s => match exec C (run C n) c s with
    | some (e, s') => some (.code e s')
    | none => none
end Go.Vd
