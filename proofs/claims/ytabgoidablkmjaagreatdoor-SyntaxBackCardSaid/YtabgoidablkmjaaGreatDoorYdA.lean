/- The abstract values, the abstract heap, and the abstract operations of an evaluator of Go functions; no proof. -/
import GoSem.Dispatch
set_option linter.unusedVariables false
set_option linter.unusedSimpArgs false
namespace Go.Vd

/-- Abstract values: as the model's, but with blocks of an abstract heap, and slices whose capacity may be unknown. -/
inductive AV where
  | bool (b : Bool)
  | int (k : IntKind) (n : Int)
  | cls (k : IntKind) (m r : Nat)
  | str (l : List UInt8)
  | sym (X : Nat)
  | nilp
  | ptr (X o : Nat)
  | hnd (b t : Nat)
  | nils
  | slc (X o len cap sz : Nat) (ex : Bool)
  | nilm
  | map (X : Nat)
  | fn (f : Fn) (first captured : List AV)
  | nilf
  | ifc (t : Nat) (v : AV)
  | nili
  | agg (l : List AV)
  | tup (l : List AV)
  deriving Inhabited

def AV.cells : AV → List AV
  | .agg l => l
  | v => [v]

def AV.one : AV → Bool
  | .agg _ | .tup _ => false
  | _ => true

def AV.und : AV := .tup []

mutual
def AV.beq : AV → AV → Bool
  | .bool a, .bool b => a == b
  | .int k a, .int j b => decide (k = j) && decide (a = b)
  | .cls k a c, .cls j b d => decide (k = j) && Nat.beq a b && Nat.beq c d
  | .str a, .str b => a == b
  | .sym X, .sym Y => Nat.beq X Y
  | .nilp, .nilp => true
  | .ptr X o, .ptr Y u => Nat.beq X Y && Nat.beq o u
  | .hnd X o, .hnd Y u => Nat.beq X Y && Nat.beq o u
  | .nils, .nils => true
  | .slc X o l c s e, .slc Y u m d t f => Nat.beq X Y && Nat.beq o u && Nat.beq l m && Nat.beq c d && Nat.beq s t && (e == f)
  | .nilm, .nilm => true
  | .map X, .map Y => Nat.beq X Y
  | .fn f a b, .fn g c d => decide (f = g) && AV.beqs a c && AV.beqs b d
  | .nilf, .nilf => true
  | .ifc t v, .ifc u x => Nat.beq t u && AV.beq v x
  | .nili, .nili => true
  | .agg a, .agg b => AV.beqs a b
  | .tup a, .tup b => AV.beqs a b
  | _, _ => false
def AV.beqs : List AV → List AV → Bool
  | [], [] => true
  | a :: l, b :: m => AV.beq a b && AV.beqs l m
  | _, _ => false
end

/-- A binary trie over numbers. -/
inductive Tr (α : Type) where
  | nil
  | node (v : Option α) (l r : Tr α)
  deriving Inhabited

def Tr.get {α : Type} : Tr α → Nat → Option α
  | .nil, _ => none
  | .node v l r, k =>
    match k with
    | 0 => v
    | k + 1 => if Nat.beq (k % 2) 0 then l.get (k / 2) else r.get (k / 2)

def Tr.setF {α : Type} : Nat → Tr α → Nat → α → Tr α
  | 0, t, _, v => match t with
    | .nil => .node (some v) .nil .nil
    | .node _ l r => .node (some v) l r
  | f + 1, t, k, v => match k with
    | 0 => match t with
      | .nil => .node (some v) .nil .nil
      | .node _ l r => .node (some v) l r
    | k + 1 => match t with
      | .nil => if Nat.beq (k % 2) 0 then .node none (Tr.setF f .nil (k / 2) v) .nil else .node none .nil (Tr.setF f .nil (k / 2) v)
      | .node x l r => if Nat.beq (k % 2) 0 then .node x (Tr.setF f l (k / 2) v) r else .node x l (Tr.setF f r (k / 2) v)

def Tr.set {α : Type} (t : Tr α) (k : Nat) (v : α) : Tr α := Tr.setF k t k v

/-- Blocks: cells (fl: 0 nothing is frozen, and the model's block has these cells alone; 1 no cell is frozen; 2 anything), maps, an iterator over a string, dead blocks. -/
inductive AB where
  | cells (l : List AV) (e : Nat) (fl : Nat)
  | mp (es : List (AV × AV))
  | it (s : List UInt8) (pos : Nat)
  | sy (ne : List Nat)
  | dead
  deriving Inhabited

structure AH where
  next : Nat
  tr : Tr AB
  deriving Inhabited

def AH.get (H : AH) (X : Nat) : Option AB := H.tr.get X
def AH.set (H : AH) (X : Nat) (b : AB) : AH := { H with tr := H.tr.set X b }
def AH.push (H : AH) (b : AB) : AH := { next := H.next + 1, tr := H.tr.set H.next b }

def AH.rd (H : AH) (X o : Nat) : Option AV :=
  match H.get X with
  | some (.cells l _ _) => l[o]?
  | _ => none

def AH.rdn (H : AH) (X o n : Nat) : Option (List AV) :=
  match H.get X with
  | some (.cells l _ _) => if Nat.ble (o + n) l.length then some ((l.drop o).take n) else none
  | _ => none

def AH.wr (H : AH) (X o : Nat) (vs : List AV) : Option AH :=
  match H.get X with
  | some (.cells l e fl) =>
    if Nat.ble fl 1 && Nat.ble (o + vs.length) l.length && vs.all AV.one then some (H.set X (.cells (l.take o ++ vs ++ l.drop (o + vs.length)) e fl)) else none
  | _ => none

/-- Operands. -/
inductive Opd where
  | t (n : Nat)
  | c (v : AV)
  deriving Inhabited

/-- What two values are that are held against each other. -/
inductive EK where
  | int | str | bool | ptr | ifc | ifg | slc | fn | map | st2
  deriving Inhabited, DecidableEq

/-- Conversions. -/
inductive CK where
  | int (k : IntKind) | same | s2b (e : Nat) | b2s | i2s | p2u | u2p (t : Nat)
  deriving Inhabited

inductive AOp where
  | mv (x : Opd)
  | pick (c a b : Opd)
  | alloc (e : Nat) (zs : List AV)
  | box (e : Nat) (x : Opd)
  | build (zs : List AV) (ps : List (Nat × Nat × Opd))
  | bslice (e sz len : Nat) (zs : List AV) (ps : List (Nat × Opd))
  | ld (x : Opd)
  | ldn (n : Nat) (x : Opd)
  | st (x y : Opd)
  | stn (n : Nat) (x y : Opd)
  | chk (x : Opd)
  | bin (op : BinOp) (k : EK) (x y : Opd)
  | un (op : UnOp) (x : Opd)
  | conv (k : CK) (x : Opd)
  | mki (t : Nat) (x : Opd)
  | mkf (f : Fn) (a b : List Opd)
  | mkm
  | mks (e sz bts : Nat) (z : List AV) (l c : Opd)
  | sls (x : Opd) (lo hi : Option Opd)
  | slv (sz : Nat) (x : Opd) (lo hi mx : Option Opd)
  | sla (n sz : Nat) (x : Opd) (lo hi mx : Option Opd)
  | fad (off : Nat) (x : Opd)
  | fld (off : Nat) (n : Option Nat) (x : Opd)
  | ixs (sz : Nat) (x i : Opd)
  | ixa (n sz : Nat) (x i : Opd)
  | ixt (x i : Opd)
  | ixv (n sz : Nat) (c : Option Nat) (x i : Opd)
  | look (ok : Bool) (k : EK) (z : AV) (x i : Opd)
  | upd (k : EK) (m i v : Opd)
  | tai (xt a : Nat) (z : AV) (ok : Bool) (x : Opd)
  | tac (a : Nat) (z : AV) (ok : Bool) (x : Opd)
  | ext (x : Opd) (i : Nat)
  | call (f : Nat) (as : List Opd)
  | xcall (f : Nat) (as : List Opd)
  | vcall (x : Opd) (as : List Opd)
  | icall (m : String) (x : Opd) (as : List Opd)
  | app (e sz bts : Nat) (x y : Opd)
  | len (x : Opd)
  | tlen (x : Opd)
  | mlen (x : Opd)
  | alen (n : Nat)
  | cap (x : Opd)
  | copy (sz : Nat) (x y : Opd)
  | mm (mx : Bool) (x : Opd) (l : List Opd)
  | rng (x : Opd)
  | nxt (x : Opd)
  | rcv
  | sdata (x : Opd)
  | ustr (e : Nat) (x n : Opd)
  | dfr (x : Opd) (as : List Opd)
  | pan (x : Opd)
  | bad
  deriving Inhabited

structure AOper where
  dst : Option Nat
  op : AOp
  guard : Option (Nat × Bool)
  deriving Inhabited

/-- What an operation comes to. -/
inductive ORes where
  | val (v : AV) (H : AH)
  | call (f : Nat) (as : List AV)
  | xcall (f : Nat) (as : List AV)
  | icall (t : Nat) (v : AV) (m : String) (as : List AV)
  | dfr (f : Nat) (as : List AV)
  | pan (v : AV)
  | rcv
  | fail

section ops

def wrapI (k : IntKind) (n : Int) : Int := k.wrap n

def bytesLt : List UInt8 → List UInt8 → Bool
  | _, [] => false
  | [], _ :: _ => true
  | a :: x, b :: y => Nat.blt a.toNat b.toNat || (Nat.beq a.toNat b.toNat && bytesLt x y)

def strEq : List UInt8 → List UInt8 → Bool
  | [], [] => true
  | a :: x, b :: y => Nat.beq a.toNat b.toNat && strEq x y
  | _, _ => false

def intOp (op : BinOp) (k : IntKind) (x y : Int) : Option AV :=
  match op with
  | .add => some (.int k (k.wrap (x + y)))
  | .sub => some (.int k (k.wrap (x - y)))
  | .mul => some (.int k (k.wrap (x * y)))
  | .quo => if y = 0 then none else some (.int k (k.wrap (x.tdiv y)))
  | .rem => if y = 0 then none else some (.int k (x.tmod y))
  | .and => some (.int k (k.wrap (BitVec.ofInt k.bits x &&& BitVec.ofInt k.bits y).toNat))
  | .or => some (.int k (k.wrap (BitVec.ofInt k.bits x ||| BitVec.ofInt k.bits y).toNat))
  | .xor => some (.int k (k.wrap (BitVec.ofInt k.bits x ^^^ BitVec.ofInt k.bits y).toNat))
  | .andNot => some (.int k (k.wrap (BitVec.ofInt k.bits x &&& ~~~(BitVec.ofInt k.bits y)).toNat))
  | .eql => some (.bool (decide (x = y)))
  | .neq => some (.bool (!decide (x = y)))
  | .lss => some (.bool (decide (x < y)))
  | .leq => some (.bool (decide (x ≤ y)))
  | .gtr => some (.bool (decide (y < x)))
  | .geq => some (.bool (decide (y ≤ x)))
  | _ => none

def strOp (op : BinOp) (x y : List UInt8) : Option AV :=
  match op with
  | .add => if Nat.ble (x.length + y.length) 9223372036854775807 then some (.str (x ++ y)) else none
  | .eql => some (.bool (strEq x y))
  | .neq => some (.bool (!strEq x y))
  | .lss => some (.bool (bytesLt x y))
  | .leq => some (.bool (bytesLt x y || strEq x y))
  | .gtr => some (.bool (!(bytesLt x y || strEq x y)))
  | .geq => some (.bool (!bytesLt x y))
  | _ => none

def AH.live0 (H : AH) (X : Nat) : Bool :=
  match H.get X with
  | some (.cells _ _ fl) => Nat.beq fl 0
  | _ => false

def eqI (cmp : Nat → Bool) (t u : Nat) (v x : AV) : Option Bool :=
  if Nat.beq t u then (if cmp t then (match v, x with
    | .int k a, .int j b => if k = j then some (decide (a = b)) else none
    | _, _ => none) else none)
  else some false

def eqP (H : AH) : AV → AV → Option Bool
  | .nilp, .nilp => some true
  | .nilp, .ptr _ _ => some false
  | .ptr _ _, .nilp => some false
  | .ptr X o, .ptr Y u => if Nat.beq X Y then some (Nat.beq o u) else if H.live0 X && H.live0 Y then some false else none
  | _, _ => none

def eqF (cmp : Nat → Bool) : AV → AV → Option Bool
  | .nili, .ifc _ _ => some false
  | .ifc _ _, .nili => some false
  | .ifc t v, .ifc u x => eqI cmp t u v x
  | _, _ => none

def eqS : AV → AV → Option Bool
  | .nils, .nils => some true
  | .nils, .slc .. => some false
  | .slc .., .nils => some false
  | _, _ => none

def eqN : AV → AV → Option Bool
  | .nilf, .nilf => some true
  | .nilf, .fn .. => some false
  | .fn .., .nilf => some false
  | _, _ => none

def eqM : AV → AV → Option Bool
  | .nilm, .nilm => some true
  | .nilm, .map _ => some false
  | .map _, .nilm => some false
  | _, _ => none

def eqB : AV → AV → Option Bool
  | .bool a, .bool b => some (a == b)
  | _, _ => none

def eqC (cmp : Nat → Bool) (x y : AV) : Option Bool :=
  match x, y with
  | .nili, .nili => some true
  | x, y => eqF cmp x y

/-- Are values the same? (none: the evaluator doesn't tell) -/
def eqA (cmp : Nat → Bool) (H : AH) (k : EK) (x y : AV) : Option Bool :=
  match k with
  | .bool => eqB x y
  | .ptr => eqP H x y
  | .ifc => eqC cmp x y
  | .ifg => eqF cmp x y
  | .slc => eqS x y
  | .fn => eqN x y
  | .map => eqM x y
  | _ => none

def binA (cmp : Nat → Bool) (H : AH) (op : BinOp) (k : EK) (x y : AV) : Option AV :=
  match x, y with
  | .int i a, .int j b =>
    match op with
    | .shl => if b < 0 then none else some (.int i (i.wrap (a * 2 ^ (min b.toNat i.bits))))
    | .shr => if b < 0 then none else some (.int i (a.fdiv (2 ^ (min b.toNat i.bits))))
    | op => if i = j then intOp op i a b else none
  | .str a, .str b => strOp op a b
  | _, _ =>
    match op with
    | .eql => (eqA cmp H k x y).map .bool
    | .neq => (eqA cmp H k x y).map fun b => .bool (!b)
    | _ => none

/-- Names that a binder may bear: the strings of which only that is known. -/
def plainN (b : Nat) : Bool := (Nat.ble 97 b && Nat.ble b 122) || (Nat.ble 65 b && Nat.ble b 90) || (Nat.ble 48 b && Nat.ble b 57) || Nat.beq b 95
def digitN (b : Nat) : Bool := Nat.ble 48 b && Nat.ble b 57
def keyW (l : List UInt8) : Bool :=
  strEq l [102, 117, 110] || strEq l [112, 105] || strEq l [108, 101, 116] || strEq l [105, 110] ||
  (match l with
  | [a, b, c, d, e] => strEq [a, b, c, d] [84, 121, 112, 101] && digitN e.toNat
  | _ => false)
def boundB (l : List UInt8) : Bool :=
  Nat.ble 1 l.length && Nat.ble l.length 24 && (match l with
  | a :: _ => !digitN a.toNat
  | [] => false) && l.all (fun b => plainN b.toNat) && !keyW l
def goodB (l : List UInt8) : Bool := boundB l && !strEq l [65]

def AH.isSy (H : AH) (X : Nat) : Bool := match H.get X with
  | some (.sy _) => true
  | _ => false
def AH.apart (H : AH) (X Y : Nat) : Bool := match H.get X with
  | some (.sy ne) => ne.any (Nat.beq Y)
  | _ => false

/-- Are strings the same, of which only this is known? -/
def symEq (H : AH) : AV → AV → Option Bool
  | .sym X, .str s => if H.isSy X && !goodB s then some false else none
  | .str s, .sym X => if H.isSy X && !goodB s then some false else none
  | .sym X, .sym Y => if Nat.beq X Y then some true else if H.apart X Y then some false else none
  | _, _ => none

def binY (H : AH) (op : BinOp) (x y : AV) : Option AV :=
  match op with
  | .eql => (symEq H x y).map .bool
  | .neq => (symEq H x y).map fun b => .bool (!b)
  | _ => none

/-- Operations on a number of which only the remainder is known. -/
def binC (op : BinOp) (x y : AV) : Option AV :=
  match x, y with
  | .cls k m r, .int j (.ofNat b) =>
    match op with
    | .rem => if decide (k = j) && Nat.blt 0 b && Nat.beq (m % b) 0 then some (.int k (.ofNat (r % b))) else none
    | .shr => if Nat.ble b 8 && Nat.beq (m % 2 ^ b) 0 then some (.cls k (m / 2 ^ b) (r / 2 ^ b)) else none
    | .and => if decide (k = .u8) && decide (j = .u8) && Nat.beq b 1 && Nat.beq (m % 2) 0 then some (.int k (.ofNat (r % 2))) else none
    | _ => none
  | _, _ => none

def unA (op : UnOp) (x : AV) : Option AV :=
  match op, x with
  | .neg, .int k n => some (.int k (k.wrap (0 - n)))
  | .xor, .int k n => intOp .xor k (if k.signed then -1 else k.max) n
  | .not, .bool b => some (.bool !b)
  | _, _ => none

def fillA (cells : List AV) : List (Nat × Nat × AV) → Option (List AV)
  | [] => some cells
  | (off, size, v) :: rest =>
    if Nat.beq v.cells.length size && Nat.ble (off + size) cells.length && v.cells.all AV.one then fillA (cells.take off ++ v.cells ++ cells.drop (off + size)) rest else none

def bytesAV (l : List UInt8) : List AV := l.map fun b => .int .u8 b.toNat

def avByte : AV → Option UInt8
  | .int .u8 n => some (UInt8.ofNat n.toNat)
  | _ => none

def avBytes : List AV → Option (List UInt8)
  | [] => some []
  | a :: l => match avByte a, avBytes l with
    | some b, some m => some (b :: m)
    | _, _ => none

def pickB (v : Option AV) (d most : Nat) : Option Nat :=
  match v with
  | none => some d
  | some (.int _ n) => if decide (0 ≤ n) && decide (n ≤ (most : Int)) then some n.toNat else none
  | some _ => none

/-- The bounds of a slice expression: low, high, capacity. -/
def bnds (len cap : Nat) (lo hi mx : Option AV) : Option (Nat × Nat × Nat) :=
  match mx with
  | some u => (match hi with
    | none => none
    | some z => match pickB (some u) cap cap with
      | none => none
      | some m => match pickB (some z) m m with
        | none => none
        | some h => match pickB lo 0 h with
          | none => none
          | some l => some (l, h, m))
  | none => match pickB hi len cap with
    | none => none
    | some h => match pickB lo 0 h with
      | none => none
      | some l => some (l, h, cap)

def goodNil (k : EK) (v : AV) : Bool :=
  match k, v with
  | .str, .str _ => true
  | .int, .int _ _ => true
  | .st2, .agg [_, _] => true
  | _, _ => false

def goodKey (k : EK) (v : AV) : Bool :=
  match k, v with
  | .str, .str _ => true
  | .int, .int _ _ => true
  | _, _ => false

def keyEq : AV → AV → Bool
  | .str a, .str b => strEq a b
  | .int k a, .int j b => decide (k = j) && decide (a = b)
  | _, _ => false

def findA (k : AV) : List (AV × AV) → Option AV
  | [] => none
  | (x, v) :: es => if keyEq k x then some v else findA k es

def updA (k v : AV) : List (AV × AV) → Option (List (AV × AV))
  | [] => none
  | (x, u) :: es => if keyEq k x then some ((k, v) :: es) else (updA k v es).map fun l => (x, u) :: l

def AV.isPtr : AV → Bool
  | .ptr _ _ | .slc .. | .map _ | .str _ | .int _ _ | .bool _ | .ifc _ _ | .hnd _ _ => true
  | .fn (.func _) _ _ => true
  | _ => false

def mmA (mx : Bool) (k : IntKind) (a : Int) : List AV → Option AV
  | [] => some (.int k a)
  | .int j b :: l => if k = j then mmA mx k (if mx then (if b > a then b else a) else (if b < a then b else a)) l else none
  | _ :: _ => none

def contA (H : AH) (sz : Nat) : AV → Option (List AV)
  | .nils => some []
  | .slc X o len cap s _ => if Nat.beq s sz && Nat.ble len cap then H.rdn X o (len * sz) else none
  | .str l => if Nat.beq sz 1 then some (bytesAV l) else none
  | _ => none

def appA (H : AH) (e sz bts : Nat) (x y : AV) : Option (AV × AH) :=
  if Nat.beq sz 0 then none else
  match contA H sz y with
  | none => none
  | some new =>
    let n := new.length / sz
    match x with
    | .nils =>
      if Nat.beq n 0 then some (.nils, H)
      else if Nat.ble ((4 * n + 4096) * bts) 281474976710656 && Nat.ble n 4294967296 && new.all AV.one then some (.slc H.next 0 n n sz false, H.push (.cells new e 1)) else none
    | .slc X o len cap s ex =>
      if !(Nat.beq s sz) || !(Nat.ble len cap) then none else
      if Nat.beq n 0 then some (x, H)
      else if Nat.ble (len + n) cap then
        match H.wr X (o + len * sz) new with
        | some H' => some (.slc X o (len + n) cap sz ex, H')
        | none => none
      else match H.get X with
        | some (.cells l e' fl) =>
          if Nat.ble (o + len * sz) l.length && Nat.ble ((4 * (len + n) + 4096) * bts) 281474976710656 && Nat.ble (len + n) 4294967296 && new.all AV.one && Nat.beq e e' then
            if ex then some (.slc H.next 0 (len + n) (len + n) sz false, H.push (.cells ((l.drop o).take (len * sz) ++ new) e 1))
            else if Nat.ble fl 1 then some (.slc H.next 0 (len + n) (len + n) sz false, (H.set X .dead).push (.cells ((l.drop o).take (len * sz) ++ new) e 1))
            else none
          else none
        | _ => none
    | _ => none

end ops
end Go.Vd
namespace Go.Vd

mutual
def cvV : Value → Option AV
  | .bool b => some (.bool b)
  | .int k n => some (.int k n)
  | .string s => some (.str s.data.toList)
  | .pointer none => some .nilp
  | .slice none 0 0 => some .nils
  | .map none => some .nilm
  | .nilFunc => some .nilf
  | .nilIface => some .nili
  | .iface t v => match cvV v with
    | some x => some (.ifc t x)
    | none => none
  | .agg ⟨l⟩ => match cvL l with
    | some m => some (.agg m)
    | none => none
  | .tuple ⟨l⟩ => match cvL l with
    | some m => some (.tup m)
    | none => none
  | _ => none
def cvL : List Value → Option (List AV)
  | [] => some []
  | v :: l => match cvV v, cvL l with
    | some x, some m => some (x :: m)
    | _, _ => none
end

def cOpd (P : Program) : Operand → Option Opd
  | .tmp t => some (.t t)
  | .const v => match cvV v with
    | some a => some (.c a)
    | none => none
  | .global g => if Nat.blt g P.globals.size then some (.c (.ptr g 0)) else none
  | .func f => some (.c (.fn (.func f) [] []))

def cOpds (P : Program) : List Operand → Option (List Opd)
  | [] => some []
  | x :: l => match cOpd P x, cOpds P l with
    | some y, some m => some (y :: m)
    | _, _ => none

def isAggD : TypeDesc → Bool
  | .struct _ | .array _ _ => true
  | _ => false

section
variable (P : Program)

def szOf (t : TypeId) : Option Nat := (P.info? t).map (·.size)
def btOf (t : TypeId) : Option Nat := (P.info? t).map (·.bytes)
def zrOf (t : TypeId) : Option (List AV) := ((P.info? t).bind (·.zero)).bind fun v => (cvV v).map AV.cells
def zvOf (t : TypeId) : Option AV := ((P.info? t).bind (·.zero)).bind cvV

def ekOf (t : TypeId) : Option EK :=
  match P.underlying t with
  | some (.int _) => some .int
  | some .string => some .str
  | some .bool => some .bool
  | some (.pointer e) => match szOf P e with
    | some 0 => none
    | some _ => some .ptr
    | none => none
  | some (.interface _) => some .ifc
  | some (.slice _) => some .slc
  | some (.func ..) => some .fn
  | some (.map ..) => some .map
  | _ => none

def isConstO : Operand → Bool
  | .const _ => true
  | _ => false

def gk (x y : Operand) (k : EK) : EK :=
  match k with
  | .ifc => if isConstO x || isConstO y then .ifc else .ifg
  | k => k

def cParts (fs : List Field) : List (Nat × Operand) → Option (List (Nat × Nat × Opd))
  | [] => some []
  | (i, x) :: l => match fs[i]? with
    | none => none
    | some f => match szOf P f.type, cOpd P x, cParts fs l with
      | some s, some y, some m => some ((f.offset, s, y) :: m)
      | _, _, _ => none

def cPartsA (sz : Nat) : List (Nat × Operand) → Option (List (Nat × Nat × Opd))
  | [] => some []
  | (i, x) :: l => match cOpd P x, cPartsA sz l with
    | some y, some m => some ((i * sz, sz, y) :: m)
    | _, _ => none

def repl (zs : List AV) : Nat → List AV
  | 0 => []
  | n + 1 => zs ++ repl zs n

def oMap (x : Option Operand) : Option (Option Opd) :=
  match x with
  | none => some none
  | some y => (cOpd P y).map some

def cop (o : Oper) : Option AOp :=
  match o.op with
  | .move x | .assign x => (cOpd P x).map .mv
  | .pick c a b => match cOpd P c, cOpd P a, cOpd P b with
    | some c, some a, some b => some (.pick c a b)
    | _, _, _ => none
  | .alloc e => (zrOf P e).map (.alloc e)
  | .box e x => (cOpd P x).map (.box e)
  | .build t ps => match zrOf P t, P.underlying t with
    | some zs, some (.struct fs) => if fs.toList.all fun f => (P.info? f.type).isSome then (cParts P fs.toList ps.toList).map (.build zs) else none
    | some zs, some (.array _ e) => match szOf P e with
      | some sz => (cPartsA P sz ps.toList).map (.build zs)
      | none => none
    | _, _ => none
  | .buildSlice t n ps => match P.underlying t with
    | some (.slice e) => match szOf P e, zrOf P e with
      | some sz, some zs => if Nat.beq sz 0 || !(Nat.ble (n * sz) 16777216) then none else
        match cPartsA P sz ps.toList with
        | some l => if Nat.beq zs.length sz then some (.bslice e sz n (repl zs n) (l.map fun (a, _, x) => (a, x))) else none
        | none => none
      | _, _ => none
    | _ => none
  | .load t a => match P.underlying t, szOf P t, cOpd P a with
    | some d, some n, some x => if isAggD d then some (.ldn n x) else some (.ld x)
    | _, _, _ => none
  | .store t a v => match szOf P t, cOpd P a, cOpd P v with
    | some n, some x, some y => some (.stn n x y)
    | _, _, _ => none
  | .nilCheck x => (cOpd P x).map .chk
  | .binOp op t x y _ => match cOpd P x, cOpd P y, ekOf P t with
    | some a, some b, some k => some (.bin op (gk x y k) a b)
    | _, _, _ => none
  | .unOp op _ x => (cOpd P x).map (.un op)
  | .convert s d x => match cOpd P x, P.underlying s, P.underlying d with
    | some y, some (.int _), some (.int k) => some (.conv (.int k) y)
    | some y, some .string, some .string => some (.conv .same y)
    | some y, some (.slice e), some .string => match P.underlying e with
      | some (.int .u8) => some (.conv .b2s y)
      | _ => none
    | some y, some (.pointer e), some .unsafePointer => match szOf P e with
      | some (_ + 1) => some (.conv .p2u y)
      | _ => none
    | some y, some .unsafePointer, some (.pointer e) => match szOf P e with
      | some (_ + 1) => some (.conv (.u2p e) y)
      | _ => none
    | _, _, _ => none
  | .makeInterface t x => match P.underlying t, cOpd P x with
    | some (.interface _), _ => none
    | some _, some y => some (.mki t y)
    | _, _ => none
  | .makeFunc f a b => match cOpds P a.toList, cOpds P b.toList with
    | some x, some y => some (.mkf f x y)
    | _, _ => none
  | .makeSlice t l c => match P.underlying t, cOpd P l, cOpd P c with
    | some (.slice e), some x, some y => match szOf P e, btOf P e, zrOf P e with
      | some sz, some b, some z => if Nat.beq sz 0 || !(Nat.beq z.length sz) then none else some (.mks e sz b z x y)
      | _, _, _ => none
    | _, _, _ => none
  | .slice t x lo hi mx => match P.underlying t, cOpd P x, oMap P lo, oMap P hi, oMap P mx with
    | some .string, some y, some l, some h, some none => some (.sls y l h)
    | some (.slice e), some y, some l, some h, some m => match szOf P e with
      | some sz => some (.slv sz y l h m)
      | none => none
    | some (.array n e), some y, some l, some h, some m => match szOf P e with
      | some sz => some (.sla n sz y l h m)
      | none => none
    | _, _, _, _, _ => none
  | .fieldAddr t x f => match P.underlying t, cOpd P x with
    | some (.struct fs), some y => match fs[f]? with
      | some fd => match szOf P fd.type with
        | some (_ + 1) => some (.fad fd.offset y)
        | _ => none
      | none => none
    | _, _ => none
  | .field t x f => match P.underlying t, cOpd P x with
    | some (.struct fs), some y => match fs[f]? with
      | some fd => match P.underlying fd.type, szOf P fd.type with
        | some d, some n => some (.fld fd.offset (if isAggD d then some n else none) y)
        | _, _ => none
      | none => none
    | _, _ => none
  | .indexAddr t x i => match P.underlying t, cOpd P x, cOpd P i with
    | some (.slice e), some y, some j => (szOf P e).map fun sz => .ixs sz y j
    | some (.array n e), some y, some j => (szOf P e).map fun sz => .ixa n sz y j
    | _, _, _ => none
  | .index t x i => match P.underlying t, cOpd P x, cOpd P i with
    | some .string, some y, some j => some (.ixt y j)
    | some (.array n e), some y, some j => match P.underlying e, szOf P e with
      | some d, some sz => some (.ixv n sz (if isAggD d then some sz else none) y j)
      | _, _ => none
    | _, _, _ => none
  | .typeAssert x t a ok => match P.underlying a, cOpd P x, zvOf P a with
    | some (.interface _), some y, some z => some (.tai t a z ok y)
    | some _, some y, some z => some (.tac a z ok y)
    | _, _, _ => none
  | .extract x i => (cOpd P x).map fun y => .ext y i
  | .call c => match cOpds P c.args.toList with
    | none => none
    | some as => match c.callee with
      | .value (.func f) => match P.funcs[f]? with
        | some fn => if fn.name == "runtime.NumGoroutine" then none else if fn.body.isSome then some (.call f as) else some (.xcall f as)
        | none => none
      | .value f => (cOpd P f).map fun x => .vcall x as
      | .invoke r m => (cOpd P r).map fun x => .icall m x as
      | .builtin b => match b, as, c.argTypes.toList with
        | .append, [x, y], (st :: yt :: _) => match P.underlying st, P.underlying yt with
          | some (.slice e), some (.slice _) => match szOf P e, btOf P e, zrOf P e with
            | some sz, some bt, some z => if Nat.beq z.length sz then some (.app e sz bt x y) else none
            | _, _, _ => none
          | some (.slice e), some .string => match szOf P e, btOf P e, zrOf P e with
            | some sz, some bt, some z => if Nat.beq z.length sz then some (.app e sz bt x y) else none
            | _, _, _ => none
          | _, _ => none
        | .len, [x], [t] => match P.underlying t with
          | some .string => some (.tlen x)
          | some (.slice _) => some (.len x)
          | some (.array n _) => some (.alen n)
          | some (.pointer p) => match P.underlying p with
            | some (.array n _) => some (.alen n)
            | _ => none
          | _ => none
        | .cap, [x], [t] => match P.underlying t with
          | some (.slice _) => some (.cap x)
          | _ => none
        | .max, x :: l, _ => some (.mm true x l)
        | .min, x :: l, _ => some (.mm false x l)
        | .recover, [], _ => some .rcv
        | .unsafeSliceData, [x], _ => some (.sdata x)
        | .unsafeString, [x, y], (pt :: _) => match P.underlying pt with
          | some (.pointer e) => match szOf P e with
            | some 1 => some (.ustr e x y)
            | _ => none
          | _ => none
        | _, _, _ => none
  | .defer c => match c.callee, cOpds P c.args.toList with
    | .value f, some as => (cOpd P f).map fun x => .dfr x as
    | _, _ => none
  | .panic x => (cOpd P x).map .pan
  | .range t x => match P.underlying t, cOpd P x with
    | some .string, some y => some (.rng y)
    | _, _ => none
  | .next x true => (cOpd P x).map .nxt
  | _ => none

/-- Code of the evaluator. A region that draws: light operations ahead of each heavy one, the heavy ones, and the light ones that are looked at again at each of the heaps. -/
inductive AC where
  | skip
  | reg (ops : List AOper)
  | regd (ls : List (List AOper)) (hv : List AOper) (wins : List (List AOper))
  | seq (a b : AC)
  | cond (c : Opd) (a b : AC)
  | block (id : Nat) (b : AC)
  | loop (b : AC)
  | exit (id : Nat)
  | scope (b : AC)
  | ret
  | bad
  deriving Inhabited

def gTmp (ops : List Oper) (g : Option (Nat × Bool)) : Option (Option (Nat × Bool)) :=
  match g with
  | none => some none
  | some (j, b) => match ops[j]? with
    | some o => match o.dst with
      | some d => some (some (d, b))
      | none => none
    | none => none

def cOper (nt : Nat) (ops : List Oper) (o : Oper) : Option AOper :=
  match gTmp ops o.guard with
  | some g => if (match o.dst with | some d => Nat.blt d nt | none => true) then some ⟨o.dst, match cop P o with
      | some a => a
      | none => .bad, g⟩ else none
  | none => none

def cOpers (nt : Nat) (ops : List Oper) : List Oper → Option (List AOper)
  | [] => some []
  | o :: l => match cOper P nt ops o, cOpers nt ops l with
    | some a, some m => some (a :: m)
    | _, _ => none

/-- Operations that leave memory alone and only look at their operands. -/
def AOp.pure : AOp → Bool
  | .mv _ | .pick .. | .build .. | .chk _ | .un .. | .mki .. | .mkf .. | .sls .. | .slv .. | .sla .. | .fad .. | .fld .. | .ixs .. | .ixa .. | .ixt .. | .ixv ..
  | .ext .. | .len _ | .tlen _ | .alen _ | .mm .. | .cap _ => true
  | .tac .. | .tai .. => true
  | .conv (.int _) _ | .conv .same _ => true
  | .bin _ k _ _ => match k with | .ptr => false | _ => true
  | _ => false

/-- Operations that leave memory alone. -/
def AOp.light : AOp → Bool
  | .ld _ | .ldn .. | .bin .. | .conv .b2s _ => true
  | o => o.pure

/-- The temporaries that an operation looks at. -/
def Opd.tl : Opd → List Nat
  | .t n => [n]
  | .c _ => []
def tls : List Opd → List Nat
  | [] => []
  | x :: l => x.tl ++ tls l
def tlo : Option Opd → List Nat
  | none => []
  | some x => x.tl
def tlp : List (Nat × Nat × Opd) → List Nat
  | [] => []
  | (_, _, x) :: l => x.tl ++ tlp l
def tlq : List (Nat × Opd) → List Nat
  | [] => []
  | (_, x) :: l => x.tl ++ tlq l

def AOp.tl : AOp → List Nat
  | .mv x | .box _ x | .ld x | .ldn _ x | .chk x | .un _ x | .conv _ x | .mki _ x | .fad _ x | .fld _ _ x | .tai _ _ _ _ x | .tac _ _ _ x | .ext x _ | .len x | .tlen x | .mlen x | .cap x
  | .rng x | .nxt x | .sdata x | .pan x => x.tl
  | .st x y | .stn _ x y | .bin _ _ x y | .mks _ _ _ _ x y | .ixs _ x y | .ixa _ _ x y | .ixt x y | .ixv _ _ _ x y | .look _ _ _ x y | .app _ _ _ x y | .copy _ x y | .ustr _ x y => x.tl ++ y.tl
  | .pick x y z | .upd _ x y z => x.tl ++ (y.tl ++ z.tl)
  | .build _ ps => tlp ps
  | .bslice _ _ _ _ ps => tlq ps
  | .mkf _ a b => tls a ++ tls b
  | .sls x lo hi => x.tl ++ (tlo lo ++ tlo hi)
  | .slv _ x lo hi mx | .sla _ _ x lo hi mx => x.tl ++ (tlo lo ++ (tlo hi ++ tlo mx))
  | .call _ as | .xcall _ as => tls as
  | .vcall x as | .icall _ x as | .dfr x as => x.tl ++ tls as
  | .mm _ x l => x.tl ++ tls l
  | .alloc .. | .mkm | .alen _ | .rcv | .bad => []

def AOper.tl (o : AOper) : List Nat :=
  o.op.tl ++ (match o.guard with | some (d, _) => [d] | none => [])

/-- For each operation, the ones that are sure to be ahead of it, as bits. -/
def preds (ops : List Oper) : List Nat :=
  (ops.foldl (fun (acc : List Nat) o =>
    acc ++ [o.after.foldl (fun s e => if Region.binds .any e then s ||| (2 ^ e.on) ||| (acc.getD e.on 0) else s) 0]) [])

/-- May the light operation i be taken when m heavy ones have been? -/
def inWin (b : List Nat) (hs : List Nat) (i m : Nat) : Bool :=
  hs.zipIdx.all fun (h, k) => (!(b.getD i 0).testBit h || Nat.blt k m) && (!(b.getD h 0).testBit i || Nat.ble m k)

def isHv (as : List AOper) (i : Nat) : Bool := match as[i]? with
  | some a => !a.op.light
  | none => false

/-- What a region that draws has to keep. -/
def drawOK (K : List Nat) (ops : List Oper) (as : List AOper) (b hs : List Nat) : Bool :=
  let n := ops.length
  Nat.beq as.length n &&
  (List.range n).all (fun i => match ops[i]? with
    | none => false
    | some o => o.after.toList.all (fun e => !Region.binds .any e || Nat.blt e.on i) &&
      (List.range n).all (fun k => !(b.getD i 0).testBit k || o.after.toList.any fun e => Region.binds .any e && (Nat.beq e.on k || (b.getD e.on 0).testBit k))) &&
  hs.zipIdx.all (fun (h, k) => isHv as h && Nat.blt h n && hs.zipIdx.all fun (g, j) => !Nat.blt j k || (b.getD h 0).testBit g) &&
  (List.range n).all (fun i => !isHv as i || hs.contains i) &&
  as.zipIdx.all (fun (o, i) => as.zipIdx.all fun (p, k) => match p.dst with
    | none => true
    | some d => (!o.tl.contains d || (b.getD i 0).testBit k) && (Nat.beq i k || o.dst != some d)) &&
  as.all (fun o => match o.dst with
    | none => true
    | some d => !K.contains d)

def cDraw (K : List Nat) (ops : List Oper) (as : List AOper) : AC :=
  let b := preds ops
  let n := as.length
  let hs := (List.range n).filter (isHv as)
  let lt := (List.range n).filter fun i => !isHv as i
  let rank (i : Nat) : Nat := (hs.filter fun h => (b.getD i 0).testBit h).length
  if drawOK K ops as b hs then
    .regd ((List.range (hs.length + 1)).map fun m => (lt.filter fun i => Nat.beq (rank i) m).map fun i => as.getD i default) (hs.map fun i => as.getD i default)
      ((List.range (hs.length + 1)).map fun m => (lt.filter fun i => inWin b hs i m).map fun i => as.getD i default)
  else .bad

def ccode (nt : Nat) (K : List Nat) : Code → Option AC
  | .skip => some .skip
  | .region _ ops d => match cOpers P nt ops.toList ops.toList with
    | some as => if d then some (cDraw K ops.toList as) else some (.reg as)
    | none => none
  | .seq a b => match ccode nt K a, ccode nt K b with
    | some x, some y => some (.seq x y)
    | _, _ => none
  | .cond c a b => match cOpd P c, ccode nt K a, ccode nt K b with
    | some z, some x, some y => some (.cond z x y)
    | _, _, _ => none
  | .block i b => match ccode nt K b with
    | some x => some (.block i x)
    | none => none
  | .loop b => match ccode nt K b with
    | some x => some (.loop x)
    | none => none
  | .exit i => some (.exit i)
  | .ret => some .ret
  | .refuse _ => some .bad
  | .rangeFunc .. | .goto _ | .label _ => some .bad
  | .scope b => match ccode nt K b with
    | some x => some (.scope x)
    | none => none

/-- A function: its code, how many temporaries, its results (none: the temporary itself; some n: n cells at the address in it; some none: one cell). -/
structure AF where
  code : AC
  nt : Nat
  res : List (Nat × Option (Option Nat))
  deriving Inhabited

def cRes : List ResultVar → Option (List (Nat × Option (Option Nat)))
  | [] => some []
  | .tmp t :: l => match cRes l with
    | some m => some ((t, none) :: m)
    | none => none
  | .cell a t :: l => match P.underlying t, szOf P t, cRes l with
    | some d, some n, some m => some ((a, some (if isAggD d then some n else none)) :: m)
    | _, _, _ => none

/-- The temporaries of results that lie in memory. -/
def keeps : List (Nat × Option (Option Nat)) → List Nat
  | [] => []
  | (t, some _) :: l => t :: keeps l
  | (_, none) :: l => keeps l

def cfn (f : Func) : Option AF :=
  match f.body with
  | some b => match cRes P f.results.toList with
    | some r => match ccode P f.ntmps (keeps r) b with
      | some c => some ⟨c, f.ntmps, r⟩
      | none => none
    | none => none
  | none => none
end
end Go.Vd
namespace Go.Vd

inductive ARes where
  | ret (v : AV)
  | pan (v : AV)
  deriving Inhabited

structure Ctx where
  fns : Nat → Option AF
  impl : Nat → Nat → Option Bool
  cmp : Nat → Bool
  lies : Nat → Nat → Nat → Nat → Bool
  ext : Nat → List AV → AH → Option (AV × AH)
  meth : Nat → AV → String → Option (Nat × AV)
  xfn : Nat → Bool
  orc : Nat → Option (List AV → AH → Option (ARes × AH))
  ng : Nat

def ev (tm : Tr AV) : Opd → AV
  | .t n => match tm.get n with
    | some v => v
    | none => .und
  | .c v => v

def evs (tm : Tr AV) : List Opd → List AV
  | [] => []
  | x :: l => ev tm x :: evs tm l

def evo (tm : Tr AV) : Option Opd → Option AV
  | none => none
  | some x => some (ev tm x)

def evp (tm : Tr AV) : List (Nat × Nat × Opd) → List (Nat × Nat × AV)
  | [] => []
  | (a, b, x) :: l => (a, b, ev tm x) :: evp tm l

def evq (tm : Tr AV) (sz : Nat) : List (Nat × Opd) → List (Nat × Nat × AV)
  | [] => []
  | (a, x) :: l => (a, sz, ev tm x) :: evq tm sz l

def ofV (H : AH) : Option AV → ORes
  | some v => .val v H
  | none => .fail

def aop (C : Ctx) (tm : Tr AV) (H : AH) : AOp → ORes
  | .mv x => .val (ev tm x) H
  | .pick c a b => match ev tm c with
    | .bool true => .val (ev tm a) H
    | .bool false => .val (ev tm b) H
    | _ => .fail
  | .alloc e zs => if zs.all AV.one then .val (.ptr H.next 0) (H.push (.cells zs e 0)) else .fail
  | .box e x => if (ev tm x).cells.all AV.one then .val (.ptr H.next 0) (H.push (.cells (ev tm x).cells e 0)) else .fail
  | .build zs ps => ofV H ((fillA zs (evp tm ps)).map .agg)
  | .bslice e sz len zs ps => match fillA zs (evq tm sz ps) with
    | some l => if l.all AV.one then .val (.slc H.next 0 len len sz true) (H.push (.cells l e 0)) else .fail
    | none => .fail
  | .ld x => match ev tm x with
    | .ptr X o => ofV H (H.rd X o)
    | _ => .fail
  | .ldn n x => match ev tm x with
    | .ptr X o => ofV H ((H.rdn X o n).map .agg)
    | _ => .fail
  | .st x y => match ev tm x with
    | .ptr X o => match H.wr X o [ev tm y] with
      | some H' => .val .und H'
      | none => .fail
    | _ => .fail
  | .stn n x y => match ev tm x with
    | .ptr X o => if Nat.beq (ev tm y).cells.length n then match H.wr X o (ev tm y).cells with
        | some H' => .val .und H'
        | none => .fail
      else .fail
    | _ => .fail
  | .chk x => if (ev tm x).isPtr then .val (ev tm x) H else .fail
  | .bin op k x y => ofV H (match binC op (ev tm x) (ev tm y) with
    | some v => some v
    | none => match binY H op (ev tm x) (ev tm y) with
      | some v => some v
      | none => binA C.cmp H op k (ev tm x) (ev tm y))
  | .un op x => ofV H (unA op (ev tm x))
  | .conv (.int k) x => match ev tm x with
    | .int _ n => .val (.int k (k.wrap n)) H
    | _ => .fail
  | .conv .same x => match ev tm x with
    | .str l => .val (.str l) H
    | _ => .fail
  | .conv (.s2b e) x => match ev tm x with
    | .str l => .val (.slc H.next 0 l.length l.length 1 false) (H.push (.cells (bytesAV l) e 1))
    | _ => .fail
  | .conv .b2s x => match ev tm x with
    | .nils => .val (.str []) H
    | .slc X o n cap 1 _ => if Nat.ble n cap then (match H.rdn X o n with
      | some l => ofV H ((avBytes l).map .str)
      | none => .fail) else .fail
    | _ => .fail
  | .conv .p2u x => match ev tm x with
    | .nilp => .val .nilp H
    | .ptr X o => match H.get X with
      | some (.cells l _ _) => if Nat.blt o l.length then .val (.ptr X o) H else .fail
      | _ => .fail
    | _ => .fail
  | .conv (.u2p t) x => match ev tm x with
    | .nilp => .val .nilp H
    | .ptr X o => match H.get X with
      | some (.cells l e fl) => if Nat.beq fl 0 && C.lies e l.length o t then .val (.ptr X o) H else .fail
      | _ => .fail
    | _ => .fail
  | .conv .i2s _ => .fail
  | .mki t x => .val (.ifc t (ev tm x)) H
  | .mkf f a b => .val (.fn f (evs tm a) (evs tm b)) H
  | .mkm => .val (.map H.next) (H.push (.mp []))
  | .mks e sz bts z l c => match ev tm l, ev tm c with
    | .int _ n, .int _ m => if decide (0 ≤ n) && decide (n ≤ m) && decide (m * bts ≤ 281474976710656) && decide (m < 9223372036854775808) && z.all AV.one && Nat.beq z.length sz then
        .val (.slc H.next 0 n.toNat m.toNat sz true) (H.push (.cells (repl z m.toNat) e 0)) else .fail
    | _, _ => .fail
  | .sls x lo hi => match ev tm x with
    | .str s => match bnds s.length s.length (evo tm lo) (evo tm hi) none with
      | some (l, h, _) => .val (.str ((s.drop l).take (h - l))) H
      | none => .fail
    | _ => .fail
  | .slv sz x lo hi mx => match ev tm x with
    | .nils => match bnds 0 0 (evo tm lo) (evo tm hi) (evo tm mx) with
      | some _ => .val .nils H
      | none => .fail
    | .slc X o len cap s ex => if Nat.beq s sz && Nat.ble len cap then match bnds len cap (evo tm lo) (evo tm hi) (evo tm mx) with
        | some (l, h, m) => .val (.slc X (o + l * sz) (h - l) (m - l) sz (ex || (evo tm mx).isSome)) H
        | none => .fail
      else .fail
    | _ => .fail
  | .sla n sz x lo hi mx => match ev tm x with
    | .ptr X o => match bnds n n (evo tm lo) (evo tm hi) (evo tm mx) with
      | some (l, h, m) => .val (.slc X (o + l * sz) (h - l) (m - l) sz true) H
      | none => .fail
    | _ => .fail
  | .fad off x => match ev tm x with
    | .ptr X o => .val (.ptr X (o + off)) H
    | _ => .fail
  | .fld off none x => match ev tm x with
    | .agg l => ofV H l[off]?
    | _ => .fail
  | .fld off (some n) x => match ev tm x with
    | .agg l => if Nat.ble (off + n) l.length then .val (.agg ((l.drop off).take n)) H else .fail
    | _ => .fail
  | .ixs sz x i => match ev tm x, ev tm i with
    | .slc X o len cap s _, .int _ n => if Nat.beq s sz && Nat.ble len cap && decide (0 ≤ n) && decide (n < len) then .val (.ptr X (o + n.toNat * sz)) H else .fail
    | _, _ => .fail
  | .ixa len sz x i => match ev tm x, ev tm i with
    | .ptr X o, .int _ n => if decide (0 ≤ n) && decide (n < len) then .val (.ptr X (o + n.toNat * sz)) H else .fail
    | _, _ => .fail
  | .ixt x i => match ev tm x, ev tm i with
    | .str s, .int _ n => if decide (0 ≤ n) then ofV H ((s[n.toNat]?).map fun b => .int .u8 b.toNat) else .fail
    | _, _ => .fail
  | .ixv len sz c x i => match ev tm x, ev tm i with
    | .agg l, .int _ n => if decide (0 ≤ n) && decide (n < len) then match c with
        | none => ofV H l[n.toNat * sz]?
        | some m => if Nat.ble (n.toNat * sz + m) l.length then .val (.agg ((l.drop (n.toNat * sz)).take m)) H else .fail
      else .fail
    | _, _ => .fail
  | .look ok k z x i =>
    if goodNil k (ev tm i) then
      match ev tm x with
      | .nilm => .val (if ok then .tup [z, .bool false] else z) H
      | .map X => if !goodKey k (ev tm i) then .fail else match H.get X with
        | some (.mp es) => match findA (ev tm i) es with
          | some v => .val (if ok then .tup [v, .bool true] else v) H
          | none => .val (if ok then .tup [z, .bool false] else z) H
        | _ => .fail
      | _ => .fail
    else .fail
  | .upd k m i v =>
    if goodKey k (ev tm i) then
      match ev tm m with
      | .map X => match H.get X with
        | some (.mp es) => match updA (ev tm i) (ev tm v) es with
          | some l => .val .und (H.set X (.mp l))
          | none => .val .und (H.set X (.mp (es ++ [(ev tm i, ev tm v)])))
        | _ => .fail
      | _ => .fail
    else .fail
  | .tai _ a z ok x => match ev tm x with
    | .nili => if ok then .val (.tup [z, .bool false]) H else .fail
    | .ifc t v => match C.impl t a with
      | some true => .val (if ok then .tup [.ifc t v, .bool true] else .ifc t v) H
      | some false => if ok then .val (.tup [z, .bool false]) H else .fail
      | none => .fail
    | _ => .fail
  | .tac a z ok x => match ev tm x with
    | .nili => if ok then .val (.tup [z, .bool false]) H else .fail
    | .ifc t v => if Nat.beq t a then .val (if ok then .tup [v, .bool true] else v) H else if ok then .val (.tup [z, .bool false]) H else .fail
    | _ => .fail
  | .ext x i => match ev tm x with
    | .tup l => ofV H l[i]?
    | _ => .fail
  | .call f as => .call f (evs tm as)
  | .xcall f as => .xcall f (evs tm as)
  | .vcall x as => match ev tm x with
    | .fn (.func f) a b => if C.xfn f then .fail else .call f (a ++ evs tm as ++ b)
    | _ => .fail
  | .icall m x as => match ev tm x with
    | .ifc t v => .icall t v m (evs tm as)
    | _ => .fail
  | .app e sz bts x y => match appA H e sz bts (ev tm x) (ev tm y) with
    | some (v, H') => .val v H'
    | none => .fail
  | .tlen x => match ev tm x with
    | .str l => .val (.int .i64 l.length) H
    | _ => .fail
  | .len x => match ev tm x with
    | .slc _ _ n _ _ _ => .val (.int .i64 n) H
    | .nils => .val (.int .i64 0) H
    | _ => .fail
  | .mlen x => match ev tm x with
    | .nilm => .val (.int .i64 0) H
    | .map X => match H.get X with
      | some (.mp es) => .val (.int .i64 es.length) H
      | _ => .fail
    | _ => .fail
  | .alen n => .val (.int .i64 n) H
  | .cap x => match ev tm x with
    | .slc _ _ _ c _ true => .val (.int .i64 c) H
    | .nils => .val (.int .i64 0) H
    | _ => .fail
  | .copy sz x y => match contA H sz (ev tm y) with
    | none => .fail
    | some new => match ev tm x with
      | .nils => .val (.int .i64 0) H
      | .slc X o len cap s _ => if Nat.beq s sz && Nat.ble len cap && Nat.ble 1 sz then
          (let n := min (new.length / sz) len
           if Nat.beq n 0 then .val (.int .i64 0) H else
           match H.wr X o (new.take (n * sz)) with
           | some H' => .val (.int .i64 n) H'
           | none => .fail)
        else .fail
      | _ => .fail
  | .mm mx x l => match ev tm x with
    | .int k a => ofV H (mmA mx k a (evs tm l))
    | _ => .fail
  | .rng x => match ev tm x with
    | .str s => .val (.ptr H.next 0) (H.push (.it s 0))
    | _ => .fail
  | .nxt x => match ev tm x with
    | .ptr X 0 => match H.get X with
      | some (.it s pos) => match s[pos]? with
        | some b => if Nat.blt b.toNat 128 then .val (.tup [.bool true, .int .i64 pos, .int .i32 b.toNat]) (H.set X (.it s (pos + 1))) else .fail
        | none => .val (.tup [.bool false]) H
      | _ => .fail
    | _ => .fail
  | .rcv => .rcv
  | .sdata x => match ev tm x with
    | .nils => .val .nilp H
    | .slc X o len cap _ _ => if Nat.ble 1 len && Nat.ble len cap then .val (.ptr X o) H else .fail
    | _ => .fail
  | .ustr e x n => match ev tm x, ev tm n with
    | .nilp, .int _ m => if m = 0 then .val (.str []) H else .fail
    | .ptr X o, .int _ m => if decide (1 ≤ m) && decide (m < 9223372036854775807) then
        match H.get X with
        | some (.cells l e' _) => if Nat.beq e e' && Nat.ble (o + m.toNat) l.length then match avBytes ((l.drop o).take m.toNat) with
            | some s => .val (.str s) (H.set X (.cells l e' 2))
            | none => .fail
          else .fail
        | _ => .fail
      else .fail
    | _, _ => .fail
  | .dfr x as => match ev tm x with
    | .fn (.func f) a b => .dfr f (a ++ evs tm as ++ b)
    | _ => .fail
  | .pan x => match ev tm x with
    | .ifc t v => .pan (.ifc t v)
    | _ => .fail
  | .bad => .fail

inductive AEx where
  | normal
  | exit (id : Nat)
  | ret
  | pan (v : AV)
  deriving Inhabited

structure ASt where
  tm : Tr AV
  df : List (Nat × List AV)
  hp : AH
  deriving Inhabited

def putT (tm : Tr AV) (d : Option Nat) (v : AV) : Tr AV :=
  match d with
  | some k => tm.set k v
  | none => tm

inductive Task where
  | call (f : Nat) (as : List AV) (H : AH)
  | code (c : AC) (s : ASt)

inductive Out where
  | call (r : ARes) (H : AH)
  | code (e : AEx) (s : ASt)

def wanted (tm : Tr AV) : Option (Nat × Bool) → Bool
  | none => true
  | some (d, b) => match ev tm (.t d) with
    | .bool c => c == b
    | _ => false

/-- What an operation comes to, its call followed. -/
inductive SRes where
  | go (v : AV) (H : AH)
  | dfr (f : Nat) (as : List AV)
  | pan (v : AV) (H : AH)
  | rcv
  | fail

def ofOut : Option Out → SRes
  | some (.call (.ret v) H) => .go v H
  | some (.call (.pan v) H) => .pan v H
  | _ => .fail

def ofExt : Option (AV × AH) → SRes
  | some (v, H) => .go v H
  | none => .fail

def follow (C : Ctx) (ih : Task → Option Out) (H : AH) : ORes → SRes
  | .val v H' => .go v H'
  | .call f as => ofOut (ih (.call f as H))
  | .xcall f as => ofExt (C.ext f as H)
  | .icall t v m as => match C.meth t v m with
    | some (f, r) => if C.xfn f then ofExt (C.ext f (r :: as) H) else ofOut (ih (.call f (r :: as) H))
    | none => .fail
  | .dfr f as => .dfr f as
  | .pan v => .pan v H
  | .rcv => .rcv
  | .fail => .fail

def astep (C : Ctx) (ih : Task → Option Out) (tm : Tr AV) (H : AH) (o : AOper) : SRes :=
  if wanted tm o.guard then follow C ih H (aop C tm H o.op) else .go .und H

def opsR (C : Ctx) (ih : Task → Option Out) : List AOper → ASt → Option (AEx × ASt)
  | [], s => some (.normal, s)
  | o :: l, s => match astep C ih s.tm s.hp o with
    | .go v H => opsR C ih l ⟨putT s.tm o.dst v, s.df, H⟩
    | .dfr f as => opsR C ih l ⟨putT s.tm o.dst .und, (f, as) :: s.df, s.hp⟩
    | .pan v H => some (.pan v, ⟨s.tm, s.df, H⟩)
    | _ => none

/-- A light operation. -/
def valR (C : Ctx) (tm : Tr AV) (H : AH) (o : AOper) : Option AV :=
  if wanted tm o.guard then (match aop C tm H o.op with
    | .val v _ => some v
    | _ => none) else some .und

def lightsR (C : Ctx) (H : AH) : List AOper → Tr AV → Option (Tr AV)
  | [], tm => some tm
  | o :: l, tm => match valR C tm H o with
    | some v => lightsR C H l (putT tm o.dst v)
    | none => none

def dstOK (tm : Tr AV) (d : Option Nat) (v : AV) : Bool :=
  match d with
  | none => true
  | some k => AV.beq v (ev tm (.t k))

def again (C : Ctx) (tm : Tr AV) (H : AH) : List AOper → Bool
  | [] => true
  | o :: l => (match valR C tm H o with
    | some v => dstOK tm o.dst v
    | none => false) && again C tm H l

def againAll (C : Ctx) (tm : Tr AV) : List AH → List (List AOper) → Bool
  | [], _ => true
  | H :: Hs, l :: ls => again C tm H l && againAll C tm Hs ls
  | _, _ => false

def agree (a b : Tr AV) : List Nat → Bool
  | [] => true
  | t :: l => AV.beq (ev a (.t t)) (ev b (.t t)) && agree a b l

def heavOK (tm : Tr AV) : List (Tr AV × AV) → List AOper → Bool
  | [], _ => true
  | (t1, v) :: l, o :: os => agree t1 tm o.tl && dstOK tm o.dst v && heavOK tm l os
  | _, _ => false

/-- How a region that draws goes: its exit (with the heap), the last temporaries, the heaps ahead of each heavy operation (and the last), and for each heavy operation the temporaries it met and what it gave. -/
structure DRes where
  ex : AEx
  hp : AH
  tm : Tr AV
  hs : List AH
  ts : List (Tr AV × AV)

def segsR (C : Ctx) (ih : Task → Option Out) : List (List AOper) → List AOper → Tr AV → AH → Option DRes
  | [], _, _, _ => none
  | l :: _, [], tm, H => match lightsR C H l tm with
    | some t1 => some ⟨.normal, H, t1, [H], []⟩
    | none => none
  | l :: ls, o :: hv, tm, H => match lightsR C H l tm with
    | none => none
    | some t1 => match astep C ih t1 H o with
      | .go v H' => match segsR C ih ls hv (putT t1 o.dst v) H' with
        | some r => some ⟨r.ex, r.hp, r.tm, H :: r.hs, (t1, v) :: r.ts⟩
        | none => none
      | .pan v H' => some ⟨.pan v, H', t1, [H], []⟩
      | _ => none

def drawR (C : Ctx) (ih : Task → Option Out) (ls : List (List AOper)) (hv : List AOper) (wins : List (List AOper)) (s : ASt) : Option (AEx × ASt) :=
  match segsR C ih ls hv s.tm s.hp with
  | some r => if heavOK r.tm r.ts hv && againAll C r.tm r.hs wins then
      (match r.ex with
        | .normal => some (.normal, ⟨r.tm, s.df, r.hp⟩)
        | .pan v => some (.pan v, ⟨s.tm, s.df, r.hp⟩)
        | _ => none) else none
  | none => none

def exec (C : Ctx) (ih : Task → Option Out) : AC → ASt → Option (AEx × ASt)
  | .skip, s => some (.normal, s)
  | .reg ops, s => opsR C ih ops s
  | .regd ls hv wins, s => drawR C ih ls hv wins s
  | .seq a b, s => match exec C ih a s with
    | some (.normal, s') => exec C ih b s'
    | r => r
  | .cond c a b, s => match ev s.tm c with
    | .bool true => exec C ih a s
    | .bool false => exec C ih b s
    | _ => none
  | .block id b, s => match exec C ih b s with
    | some (.exit j, s') => if Nat.beq j id then some (.normal, s') else some (.exit j, s')
    | r => r
  | .loop b, s => match exec C ih b s with
    | some (.normal, s') => match ih (.code (.loop b) s') with
      | some (.code e s2) => some (e, s2)
      | _ => none
    | r => r
  | .exit id, s => some (.exit id, s)
  | .scope b, s => exec C ih b s
  | .ret, s => some (.ret, s)
  | .bad, _ => none

/-- What a deferred function sees of a panic: none, one that was recovered or not. -/
abbrev PS := Option (AV × Bool)

def opsD (C : Ctx) (ih : Task → Option Out) : List AOper → ASt → PS → Option (ASt × PS)
  | [], s, p => some (s, p)
  | o :: l, s, p => match astep C ih s.tm s.hp o with
    | .go v H => opsD C ih l ⟨putT s.tm o.dst v, s.df, H⟩ p
    | .rcv => match p with
      | some (v, false) => opsD C ih l ⟨putT s.tm o.dst v, s.df, s.hp⟩ (some (v, true))
      | _ => opsD C ih l ⟨putT s.tm o.dst .nili, s.df, s.hp⟩ p
    | _ => none

def execD (C : Ctx) (ih : Task → Option Out) : AC → ASt → PS → Option (AEx × ASt × PS)
  | .reg ops, s, p => match opsD C ih ops s p with
    | some (s', q) => some (.normal, s', q)
    | none => none
  | .seq a b, s, p => match execD C ih a s p with
    | some (.normal, s', q) => execD C ih b s' q
    | r => r
  | c, s, p => match exec C ih c s with
    | some (e, s') => some (e, s', p)
    | none => none

def tmOf : Nat → List AV → Tr AV → Tr AV
  | _, [], t => t
  | n, a :: l, t => tmOf (n + 1) l (t.set n a)

def resR (tm : Tr AV) (H : AH) : List (Nat × Option (Option Nat)) → Option (List AV)
  | [] => some []
  | (t, none) :: l => match resR tm H l with
    | some m => some (ev tm (.t t) :: m)
    | none => none
  | (t, some c) :: l => match ev tm (.t t), resR tm H l with
    | .ptr X o, some m => (match c with
      | none => (match H.rd X o with
        | some v => some (v :: m)
        | none => none)
      | some n => (match H.rdn X o n with
        | some v => some (.agg v :: m)
        | none => none))
    | _, _ => none

def defersR (C : Ctx) (ih : Task → Option Out) : List (Nat × List AV) → AH → PS → Option (AH × PS)
  | [], H, p => some (H, p)
  | (f, as) :: l, H, p => match C.fns f with
    | none => none
    | some af => match execD C ih af.code ⟨tmOf 0 as .nil, [], H⟩ p with
      | some (e, s, q) => match e, s.df, resR s.tm s.hp af.res with
        | .normal, [], some _ | .ret, [], some _ => defersR C ih l s.hp (match q with
          | some (_, true) => none
          | q => q)
        | _, _, _ => none
      | none => none

def allCells : List (Nat × Option (Option Nat)) → Bool
  | [] => true
  | (_, some _) :: l => allCells l
  | _ => false

def leave (C : Ctx) (ih : Task → Option Out) (af : AF) (s : ASt) (p : PS) : Option Out :=
  match defersR C ih s.df s.hp p with
  | some (H, none) => if p.isNone || allCells af.res then (match resR s.tm H af.res with
      | some [v] => some (.call (.ret v) H)
      | some vs => some (.call (.ret (.tup vs)) H)
      | none => none) else none
  | some (H, some (v, false)) => some (.call (.pan v) H)
  | _ => none

def callR (C : Ctx) (ih : Task → Option Out) (f : Nat) (as : List AV) (H : AH) : Option Out :=
  match C.orc f with
  | some g => match g as H with
    | some (r, H') => some (.call r H')
    | none => none
  | none => match C.fns f with
    | none => none
    | some af => match exec C ih af.code ⟨tmOf 0 as .nil, [], H⟩ with
      | some (.normal, s) => leave C ih af s none
      | some (.ret, s) => leave C ih af s none
      | some (.pan v, s) => leave C ih af s (some (v, false))
      | _ => none

def run (C : Ctx) : Nat → Task → Option Out
  | 0, _ => none
  | n + 1, .call f as H => callR C (run C n) f as H
  | n + 1, .code c s => match exec C (run C n) c s with
    | some (e, s') => some (.code e s')
    | none => none
end Go.Vd
