/- The abstract values, the abstract heap, and the abstract operations of an evaluator of Go functions; no proof. -/
import GoSem.Dispatch
set_option linter.unusedVariables false
set_option linter.unusedSimpArgs false
namespace Go.Vd

/-- Abstract values: as the model's, but with blocks of an abstract heap, and slices whose capacity may be unknown. -/
inductive AV where
  | bool (b : Bool)
  | int (k : IntKind) (n : Int)
  | cls (k : IntKind) (m r : Nat)
  | str (l : List UInt8)
  | nilp
  | ptr (X o : Nat)
  | hnd (b t : Nat)
  | nils
  | slc (X o len cap sz : Nat) (ex : Bool)
  | nilm
  | map (X : Nat)
  | fn (f : Fn) (first captured : List AV)
  | nilf
  | ifc (t : Nat) (v : AV)
  | nili
  | agg (l : List AV)
  | tup (l : List AV)
  deriving Inhabited

def AV.cells : AV → List AV
  | .agg l => l
  | v => [v]

def AV.one : AV → Bool
  | .agg _ | .tup _ => false
  | _ => true

def AV.und : AV := .tup []

mutual
def AV.beq : AV → AV → Bool
  | .bool a, .bool b => a == b
  | .int k a, .int j b => decide (k = j) && decide (a = b)
  | .cls k a c, .cls j b d => decide (k = j) && Nat.beq a b && Nat.beq c d
  | .str a, .str b => a == b
  | .nilp, .nilp => true
  | .ptr X o, .ptr Y u => Nat.beq X Y && Nat.beq o u
  | .hnd X o, .hnd Y u => Nat.beq X Y && Nat.beq o u
  | .nils, .nils => true
  | .slc X o l c s e, .slc Y u m d t f => Nat.beq X Y && Nat.beq o u && Nat.beq l m && Nat.beq c d && Nat.beq s t && (e == f)
  | .nilm, .nilm => true
  | .map X, .map Y => Nat.beq X Y
  | .fn f a b, .fn g c d => decide (f = g) && AV.beqs a c && AV.beqs b d
  | .nilf, .nilf => true
  | .ifc t v, .ifc u x => Nat.beq t u && AV.beq v x
  | .nili, .nili => true
  | .agg a, .agg b => AV.beqs a b
  | .tup a, .tup b => AV.beqs a b
  | _, _ => false
def AV.beqs : List AV → List AV → Bool
  | [], [] => true
  | a :: l, b :: m => AV.beq a b && AV.beqs l m
  | _, _ => false
end

/-- A binary trie over numbers. -/
inductive Tr (α : Type) where
  | nil
  | node (v : Option α) (l r : Tr α)
  deriving Inhabited

def Tr.get {α : Type} : Tr α → Nat → Option α
  | .nil, _ => none
  | .node v l r, k =>
    match k with
    | 0 => v
    | k + 1 => if Nat.beq (k % 2) 0 then l.get (k / 2) else r.get (k / 2)

def Tr.setF {α : Type} : Nat → Tr α → Nat → α → Tr α
  | 0, t, _, v => match t with
    | .nil => .node (some v) .nil .nil
    | .node _ l r => .node (some v) l r
  | f + 1, t, k, v => match k with
    | 0 => match t with
      | .nil => .node (some v) .nil .nil
      | .node _ l r => .node (some v) l r
    | k + 1 => match t with
      | .nil => if Nat.beq (k % 2) 0 then .node none (Tr.setF f .nil (k / 2) v) .nil else .node none .nil (Tr.setF f .nil (k / 2) v)
      | .node x l r => if Nat.beq (k % 2) 0 then .node x (Tr.setF f l (k / 2) v) r else .node x l (Tr.setF f r (k / 2) v)

def Tr.set {α : Type} (t : Tr α) (k : Nat) (v : α) : Tr α := Tr.setF k t k v

/-- Blocks: cells (fl: 0 nothing is frozen, and the model's block has these cells alone; 1 no cell is frozen; 2 anything), maps, an iterator over a string, dead blocks. -/
inductive AB where
  | cells (l : List AV) (e : Nat) (fl : Nat)
  | mp (es : List (AV × AV))
  | it (s : List UInt8) (pos : Nat)
  | dead
  deriving Inhabited

structure AH where
  next : Nat
  tr : Tr AB
  deriving Inhabited

def AH.get (H : AH) (X : Nat) : Option AB := H.tr.get X
def AH.set (H : AH) (X : Nat) (b : AB) : AH := { H with tr := H.tr.set X b }
def AH.push (H : AH) (b : AB) : AH := { next := H.next + 1, tr := H.tr.set H.next b }

def AH.rd (H : AH) (X o : Nat) : Option AV :=
  match H.get X with
  | some (.cells l _ _) => l[o]?
  | _ => none

def AH.rdn (H : AH) (X o n : Nat) : Option (List AV) :=
  match H.get X with
  | some (.cells l _ _) => if Nat.ble (o + n) l.length then some ((l.drop o).take n) else none
  | _ => none

def AH.wr (H : AH) (X o : Nat) (vs : List AV) : Option AH :=
  match H.get X with
  | some (.cells l e fl) =>
    if Nat.ble fl 1 && Nat.ble (o + vs.length) l.length && vs.all AV.one then some (H.set X (.cells (l.take o ++ vs ++ l.drop (o + vs.length)) e fl)) else none
  | _ => none

/-- Operands. -/
inductive Opd where
  | t (n : Nat)
  | c (v : AV)
  deriving Inhabited

/-- What two values are that are held against each other. -/
inductive EK where
  | int | str | bool | ptr | ifc | ifg | slc | fn | map | st2
  deriving Inhabited, DecidableEq

/-- Conversions. -/
inductive CK where
  | int (k : IntKind) | same | s2b (e : Nat) | b2s | i2s | p2u | u2p (t : Nat)
  deriving Inhabited

inductive AOp where
  | mv (x : Opd)
  | pick (c a b : Opd)
  | alloc (e : Nat) (zs : List AV)
  | box (e : Nat) (x : Opd)
  | build (zs : List AV) (ps : List (Nat × Nat × Opd))
  | bslice (e sz len : Nat) (zs : List AV) (ps : List (Nat × Opd))
  | ld (x : Opd)
  | ldn (n : Nat) (x : Opd)
  | st (x y : Opd)
  | stn (n : Nat) (x y : Opd)
  | chk (x : Opd)
  | bin (op : BinOp) (k : EK) (x y : Opd)
  | un (op : UnOp) (x : Opd)
  | conv (k : CK) (x : Opd)
  | mki (t : Nat) (x : Opd)
  | mkf (f : Fn) (a b : List Opd)
  | mkm
  | mks (e sz bts : Nat) (z : List AV) (l c : Opd)
  | sls (x : Opd) (lo hi : Option Opd)
  | slv (sz : Nat) (x : Opd) (lo hi mx : Option Opd)
  | sla (n sz : Nat) (x : Opd) (lo hi mx : Option Opd)
  | fad (off : Nat) (x : Opd)
  | fld (off : Nat) (n : Option Nat) (x : Opd)
  | ixs (sz : Nat) (x i : Opd)
  | ixa (n sz : Nat) (x i : Opd)
  | ixt (x i : Opd)
  | ixv (n sz : Nat) (c : Option Nat) (x i : Opd)
  | look (ok : Bool) (k : EK) (z : AV) (x i : Opd)
  | upd (k : EK) (m i v : Opd)
  | tai (xt a : Nat) (z : AV) (ok : Bool) (x : Opd)
  | tac (a : Nat) (z : AV) (ok : Bool) (x : Opd)
  | ext (x : Opd) (i : Nat)
  | call (f : Nat) (as : List Opd)
  | xcall (f : Nat) (as : List Opd)
  | vcall (x : Opd) (as : List Opd)
  | icall (m : String) (x : Opd) (as : List Opd)
  | app (e sz bts : Nat) (x y : Opd)
  | len (x : Opd)
  | tlen (x : Opd)
  | mlen (x : Opd)
  | alen (n : Nat)
  | cap (x : Opd)
  | copy (sz : Nat) (x y : Opd)
  | mm (mx : Bool) (x : Opd) (l : List Opd)
  | rng (x : Opd)
  | nxt (x : Opd)
  | rcv
  | sdata (x : Opd)
  | ustr (e : Nat) (x n : Opd)
  | dfr (x : Opd) (as : List Opd)
  | pan (x : Opd)
  | bad
  deriving Inhabited

structure AOper where
  dst : Option Nat
  op : AOp
  guard : Option (Nat × Bool)
  deriving Inhabited

/-- What an operation comes to. -/
inductive ORes where
  | val (v : AV) (H : AH)
  | call (f : Nat) (as : List AV)
  | xcall (f : Nat) (as : List AV)
  | icall (t : Nat) (v : AV) (m : String) (as : List AV)
  | dfr (f : Nat) (as : List AV)
  | pan (v : AV)
  | rcv
  | fail

section ops

def wrapI (k : IntKind) (n : Int) : Int := k.wrap n

def bytesLt : List UInt8 → List UInt8 → Bool
  | _, [] => false
  | [], _ :: _ => true
  | a :: x, b :: y => Nat.blt a.toNat b.toNat || (Nat.beq a.toNat b.toNat && bytesLt x y)

def strEq : List UInt8 → List UInt8 → Bool
  | [], [] => true
  | a :: x, b :: y => Nat.beq a.toNat b.toNat && strEq x y
  | _, _ => false

def intOp (op : BinOp) (k : IntKind) (x y : Int) : Option AV :=
  match op with
  | .add => some (.int k (k.wrap (x + y)))
  | .sub => some (.int k (k.wrap (x - y)))
  | .mul => some (.int k (k.wrap (x * y)))
  | .quo => if y = 0 then none else some (.int k (k.wrap (x.tdiv y)))
  | .rem => if y = 0 then none else some (.int k (x.tmod y))
  | .and => some (.int k (k.wrap (BitVec.ofInt k.bits x &&& BitVec.ofInt k.bits y).toNat))
  | .or => some (.int k (k.wrap (BitVec.ofInt k.bits x ||| BitVec.ofInt k.bits y).toNat))
  | .xor => some (.int k (k.wrap (BitVec.ofInt k.bits x ^^^ BitVec.ofInt k.bits y).toNat))
  | .andNot => some (.int k (k.wrap (BitVec.ofInt k.bits x &&& ~~~(BitVec.ofInt k.bits y)).toNat))
  | .eql => some (.bool (decide (x = y)))
  | .neq => some (.bool (!decide (x = y)))
  | .lss => some (.bool (decide (x < y)))
  | .leq => some (.bool (decide (x ≤ y)))
  | .gtr => some (.bool (decide (y < x)))
  | .geq => some (.bool (decide (y ≤ x)))
  | _ => none

def strOp (op : BinOp) (x y : List UInt8) : Option AV :=
  match op with
  | .add => if Nat.ble (x.length + y.length) 9223372036854775807 then some (.str (x ++ y)) else none
  | .eql => some (.bool (strEq x y))
  | .neq => some (.bool (!strEq x y))
  | .lss => some (.bool (bytesLt x y))
  | .leq => some (.bool (bytesLt x y || strEq x y))
  | .gtr => some (.bool (!(bytesLt x y || strEq x y)))
  | .geq => some (.bool (!bytesLt x y))
  | _ => none

def AH.live0 (H : AH) (X : Nat) : Bool :=
  match H.get X with
  | some (.cells _ _ fl) => Nat.beq fl 0
  | _ => false

def eqI (cmp : Nat → Bool) (t u : Nat) (v x : AV) : Option Bool :=
  if Nat.beq t u then (if cmp t then (match v, x with
    | .int k a, .int j b => if k = j then some (decide (a = b)) else none
    | _, _ => none) else none)
  else some false

def eqP (H : AH) : AV → AV → Option Bool
  | .nilp, .nilp => some true
  | .nilp, .ptr _ _ => some false
  | .ptr _ _, .nilp => some false
  | .ptr X o, .ptr Y u => if Nat.beq X Y then some (Nat.beq o u) else if H.live0 X && H.live0 Y then some false else none
  | _, _ => none

def eqF (cmp : Nat → Bool) : AV → AV → Option Bool
  | .nili, .ifc _ _ => some false
  | .ifc _ _, .nili => some false
  | .ifc t v, .ifc u x => eqI cmp t u v x
  | _, _ => none

def eqS : AV → AV → Option Bool
  | .nils, .nils => some true
  | .nils, .slc .. => some false
  | .slc .., .nils => some false
  | _, _ => none

def eqN : AV → AV → Option Bool
  | .nilf, .nilf => some true
  | .nilf, .fn .. => some false
  | .fn .., .nilf => some false
  | _, _ => none

def eqM : AV → AV → Option Bool
  | .nilm, .nilm => some true
  | .nilm, .map _ => some false
  | .map _, .nilm => some false
  | _, _ => none

def eqB : AV → AV → Option Bool
  | .bool a, .bool b => some (a == b)
  | _, _ => none

def eqC (cmp : Nat → Bool) (x y : AV) : Option Bool :=
  match x, y with
  | .nili, .nili => some true
  | x, y => eqF cmp x y

/-- Are values the same? (none: the evaluator doesn't tell) -/
def eqA (cmp : Nat → Bool) (H : AH) (k : EK) (x y : AV) : Option Bool :=
  match k with
  | .bool => eqB x y
  | .ptr => eqP H x y
  | .ifc => eqC cmp x y
  | .ifg => eqF cmp x y
  | .slc => eqS x y
  | .fn => eqN x y
  | .map => eqM x y
  | _ => none

def binA (cmp : Nat → Bool) (H : AH) (op : BinOp) (k : EK) (x y : AV) : Option AV :=
  match x, y with
  | .int i a, .int j b =>
    match op with
    | .shl => if b < 0 then none else some (.int i (i.wrap (a * 2 ^ (min b.toNat i.bits))))
    | .shr => if b < 0 then none else some (.int i (a.fdiv (2 ^ (min b.toNat i.bits))))
    | op => if i = j then intOp op i a b else none
  | .str a, .str b => strOp op a b
  | _, _ =>
    match op with
    | .eql => (eqA cmp H k x y).map .bool
    | .neq => (eqA cmp H k x y).map fun b => .bool (!b)
    | _ => none

/-- Operations on a number of which only the remainder is known. -/
def binC (op : BinOp) (x y : AV) : Option AV :=
  match x, y with
  | .cls k m r, .int j (.ofNat b) =>
    match op with
    | .rem => if decide (k = j) && Nat.blt 0 b && Nat.beq (m % b) 0 then some (.int k (.ofNat (r % b))) else none
    | .shr => if Nat.ble b 8 && Nat.beq (m % 2 ^ b) 0 then some (.cls k (m / 2 ^ b) (r / 2 ^ b)) else none
    | .and => if decide (k = .u8) && decide (j = .u8) && Nat.beq b 1 && Nat.beq (m % 2) 0 then some (.int k (.ofNat (r % 2))) else none
    | _ => none
  | _, _ => none

def unA (op : UnOp) (x : AV) : Option AV :=
  match op, x with
  | .neg, .int k n => some (.int k (k.wrap (0 - n)))
  | .xor, .int k n => intOp .xor k (if k.signed then -1 else k.max) n
  | .not, .bool b => some (.bool !b)
  | _, _ => none

def fillA (cells : List AV) : List (Nat × Nat × AV) → Option (List AV)
  | [] => some cells
  | (off, size, v) :: rest =>
    if Nat.beq v.cells.length size && Nat.ble (off + size) cells.length && v.cells.all AV.one then fillA (cells.take off ++ v.cells ++ cells.drop (off + size)) rest else none

def bytesAV (l : List UInt8) : List AV := l.map fun b => .int .u8 b.toNat

def avByte : AV → Option UInt8
  | .int .u8 n => some (UInt8.ofNat n.toNat)
  | _ => none

def avBytes : List AV → Option (List UInt8)
  | [] => some []
  | a :: l => match avByte a, avBytes l with
    | some b, some m => some (b :: m)
    | _, _ => none

def pickB (v : Option AV) (d most : Nat) : Option Nat :=
  match v with
  | none => some d
  | some (.int _ n) => if decide (0 ≤ n) && decide (n ≤ (most : Int)) then some n.toNat else none
  | some _ => none

/-- The bounds of a slice expression: low, high, capacity. -/
def bnds (len cap : Nat) (lo hi mx : Option AV) : Option (Nat × Nat × Nat) :=
  match mx with
  | some u => (match hi with
    | none => none
    | some z => match pickB (some u) cap cap with
      | none => none
      | some m => match pickB (some z) m m with
        | none => none
        | some h => match pickB lo 0 h with
          | none => none
          | some l => some (l, h, m))
  | none => match pickB hi len cap with
    | none => none
    | some h => match pickB lo 0 h with
      | none => none
      | some l => some (l, h, cap)

def goodNil (k : EK) (v : AV) : Bool :=
  match k, v with
  | .str, .str _ => true
  | .int, .int _ _ => true
  | .st2, .agg [_, _] => true
  | _, _ => false

def goodKey (k : EK) (v : AV) : Bool :=
  match k, v with
  | .str, .str _ => true
  | .int, .int _ _ => true
  | _, _ => false

def keyEq : AV → AV → Bool
  | .str a, .str b => strEq a b
  | .int k a, .int j b => decide (k = j) && decide (a = b)
  | _, _ => false

def findA (k : AV) : List (AV × AV) → Option AV
  | [] => none
  | (x, v) :: es => if keyEq k x then some v else findA k es

def updA (k v : AV) : List (AV × AV) → Option (List (AV × AV))
  | [] => none
  | (x, u) :: es => if keyEq k x then some ((k, v) :: es) else (updA k v es).map fun l => (x, u) :: l

def AV.isPtr : AV → Bool
  | .ptr _ _ | .slc .. | .map _ | .str _ | .int _ _ | .bool _ | .ifc _ _ | .hnd _ _ => true
  | .fn (.func _) _ _ => true
  | _ => false

def mmA (mx : Bool) (k : IntKind) (a : Int) : List AV → Option AV
  | [] => some (.int k a)
  | .int j b :: l => if k = j then mmA mx k (if mx then (if b > a then b else a) else (if b < a then b else a)) l else none
  | _ :: _ => none

def contA (H : AH) (sz : Nat) : AV → Option (List AV)
  | .nils => some []
  | .slc X o len cap s _ => if Nat.beq s sz && Nat.ble len cap then H.rdn X o (len * sz) else none
  | .str l => if Nat.beq sz 1 then some (bytesAV l) else none
  | _ => none

def appA (H : AH) (e sz bts : Nat) (x y : AV) : Option (AV × AH) :=
  if Nat.beq sz 0 then none else
  match contA H sz y with
  | none => none
  | some new =>
    let n := new.length / sz
    match x with
    | .nils =>
      if Nat.beq n 0 then some (.nils, H)
      else if Nat.ble ((4 * n + 4096) * bts) 281474976710656 && Nat.ble n 4294967296 && new.all AV.one then some (.slc H.next 0 n n sz false, H.push (.cells new e 1)) else none
    | .slc X o len cap s ex =>
      if !(Nat.beq s sz) || !(Nat.ble len cap) then none else
      if Nat.beq n 0 then some (x, H)
      else if Nat.ble (len + n) cap then
        match H.wr X (o + len * sz) new with
        | some H' => some (.slc X o (len + n) cap sz ex, H')
        | none => none
      else match H.get X with
        | some (.cells l e' fl) =>
          if Nat.ble (o + len * sz) l.length && Nat.ble ((4 * (len + n) + 4096) * bts) 281474976710656 && Nat.ble (len + n) 4294967296 && new.all AV.one && Nat.beq e e' then
            if ex then some (.slc H.next 0 (len + n) (len + n) sz false, H.push (.cells ((l.drop o).take (len * sz) ++ new) e 1))
            else if Nat.ble fl 1 then some (.slc H.next 0 (len + n) (len + n) sz false, (H.set X .dead).push (.cells ((l.drop o).take (len * sz) ++ new) e 1))
            else none
          else none
        | _ => none
    | _ => none

end ops
end Go.Vd
