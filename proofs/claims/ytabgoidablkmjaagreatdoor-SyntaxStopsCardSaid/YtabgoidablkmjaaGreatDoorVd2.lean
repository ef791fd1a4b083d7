/- From the loaded program's operations to the evaluator's: types are looked up once. -/
import Derived.Test.YtabgoidablkmjaaGreatDoorVd1
set_option linter.unusedVariables false
set_option linter.unusedSimpArgs false
namespace Go.Vd

mutual
def cvV : Value → Option AV
  | .bool b => some (.bool b)
  | .int k n => some (.int k n)
  | .string s => some (.str s.data.toList)
  | .pointer none => some .nilp
  | .slice none 0 0 => some .nils
  | .map none => some .nilm
  | .nilFunc => some .nilf
  | .nilIface => some .nili
  | .iface t v => match cvV v with
    | some x => some (.ifc t x)
    | none => none
  | .agg ⟨l⟩ => match cvL l with
    | some m => some (.agg m)
    | none => none
  | .tuple ⟨l⟩ => match cvL l with
    | some m => some (.tup m)
    | none => none
  | _ => none
def cvL : List Value → Option (List AV)
  | [] => some []
  | v :: l => match cvV v, cvL l with
    | some x, some m => some (x :: m)
    | _, _ => none
end

def cOpd (P : Program) : Operand → Option Opd
  | .tmp t => some (.t t)
  | .const v => match cvV v with
    | some a => some (.c a)
    | none => none
  | .global g => if Nat.blt g P.globals.size then some (.c (.ptr g 0)) else none
  | .func f => some (.c (.fn (.func f) [] []))

def cOpds (P : Program) : List Operand → Option (List Opd)
  | [] => some []
  | x :: l => match cOpd P x, cOpds P l with
    | some y, some m => some (y :: m)
    | _, _ => none

def isAggD : TypeDesc → Bool
  | .struct _ | .array _ _ => true
  | _ => false

section
variable (P : Program)

def szOf (t : TypeId) : Option Nat := (P.info? t).map (·.size)
def btOf (t : TypeId) : Option Nat := (P.info? t).map (·.bytes)
def zrOf (t : TypeId) : Option (List AV) := ((P.info? t).bind (·.zero)).bind fun v => (cvV v).map AV.cells
def zvOf (t : TypeId) : Option AV := ((P.info? t).bind (·.zero)).bind cvV

def ekOf (t : TypeId) : Option EK :=
  match P.underlying t with
  | some (.int _) => some .int
  | some .string => some .str
  | some .bool => some .bool
  | some (.pointer e) => match szOf P e with
    | some 0 => none
    | some _ => some .ptr
    | none => none
  | some (.interface _) => some .ifc
  | some (.slice _) => some .slc
  | some (.func ..) => some .fn
  | some (.map ..) => some .map
  | _ => none

def isConstO : Operand → Bool
  | .const _ => true
  | _ => false

def gk (x y : Operand) (k : EK) : EK :=
  match k with
  | .ifc => if isConstO x || isConstO y then .ifc else .ifg
  | k => k

def cParts (fs : List Field) : List (Nat × Operand) → Option (List (Nat × Nat × Opd))
  | [] => some []
  | (i, x) :: l => match fs[i]? with
    | none => none
    | some f => match szOf P f.type, cOpd P x, cParts fs l with
      | some s, some y, some m => some ((f.offset, s, y) :: m)
      | _, _, _ => none

def cPartsA (sz : Nat) : List (Nat × Operand) → Option (List (Nat × Nat × Opd))
  | [] => some []
  | (i, x) :: l => match cOpd P x, cPartsA sz l with
    | some y, some m => some ((i * sz, sz, y) :: m)
    | _, _ => none

def repl (zs : List AV) : Nat → List AV
  | 0 => []
  | n + 1 => zs ++ repl zs n

def oMap (x : Option Operand) : Option (Option Opd) :=
  match x with
  | none => some none
  | some y => (cOpd P y).map some

def cop (o : Oper) : Option AOp :=
  match o.op with
  | .move x | .assign x => (cOpd P x).map .mv
  | .pick c a b => match cOpd P c, cOpd P a, cOpd P b with
    | some c, some a, some b => some (.pick c a b)
    | _, _, _ => none
  | .alloc e => (zrOf P e).map (.alloc e)
  | .box e x => (cOpd P x).map (.box e)
  | .build t ps => match zrOf P t, P.underlying t with
    | some zs, some (.struct fs) => if fs.toList.all fun f => (P.info? f.type).isSome then (cParts P fs.toList ps.toList).map (.build zs) else none
    | some zs, some (.array _ e) => match szOf P e with
      | some sz => (cPartsA P sz ps.toList).map (.build zs)
      | none => none
    | _, _ => none
  | .buildSlice t n ps => match P.underlying t with
    | some (.slice e) => match szOf P e, zrOf P e with
      | some sz, some zs => if Nat.beq sz 0 || !(Nat.ble (n * sz) 16777216) then none else
        match cPartsA P sz ps.toList with
        | some l => if Nat.beq zs.length sz then some (.bslice e sz n (repl zs n) (l.map fun (a, _, x) => (a, x))) else none
        | none => none
      | _, _ => none
    | _ => none
  | .load t a => match P.underlying t, szOf P t, cOpd P a with
    | some d, some n, some x => if isAggD d then some (.ldn n x) else some (.ld x)
    | _, _, _ => none
  | .store t a v => match szOf P t, cOpd P a, cOpd P v with
    | some n, some x, some y => some (.stn n x y)
    | _, _, _ => none
  | .nilCheck x => (cOpd P x).map .chk
  | .binOp op t x y _ => match cOpd P x, cOpd P y, ekOf P t with
    | some a, some b, some k => some (.bin op (gk x y k) a b)
    | _, _, _ => none
  | .unOp op _ x => (cOpd P x).map (.un op)
  | .convert s d x => match cOpd P x, P.underlying s, P.underlying d with
    | some y, some (.int _), some (.int k) => some (.conv (.int k) y)
    | some y, some .string, some .string => some (.conv .same y)
    | some y, some (.slice e), some .string => match P.underlying e with
      | some (.int .u8) => some (.conv .b2s y)
      | _ => none
    | some y, some (.pointer e), some .unsafePointer => match szOf P e with
      | some (_ + 1) => some (.conv .p2u y)
      | _ => none
    | some y, some .unsafePointer, some (.pointer e) => match szOf P e with
      | some (_ + 1) => some (.conv (.u2p e) y)
      | _ => none
    | _, _, _ => none
  | .makeInterface t x => match P.underlying t, cOpd P x with
    | some (.interface _), _ => none
    | some _, some y => some (.mki t y)
    | _, _ => none
  | .makeFunc f a b => match cOpds P a.toList, cOpds P b.toList with
    | some x, some y => some (.mkf f x y)
    | _, _ => none
  | .makeSlice t l c => match P.underlying t, cOpd P l, cOpd P c with
    | some (.slice e), some x, some y => match szOf P e, btOf P e, zrOf P e with
      | some sz, some b, some z => if Nat.beq sz 0 || !(Nat.beq z.length sz) then none else some (.mks e sz b z x y)
      | _, _, _ => none
    | _, _, _ => none
  | .slice t x lo hi mx => match P.underlying t, cOpd P x, oMap P lo, oMap P hi, oMap P mx with
    | some .string, some y, some l, some h, some none => some (.sls y l h)
    | some (.slice e), some y, some l, some h, some m => match szOf P e with
      | some sz => some (.slv sz y l h m)
      | none => none
    | some (.array n e), some y, some l, some h, some m => match szOf P e with
      | some sz => some (.sla n sz y l h m)
      | none => none
    | _, _, _, _, _ => none
  | .fieldAddr t x f => match P.underlying t, cOpd P x with
    | some (.struct fs), some y => match fs[f]? with
      | some fd => match szOf P fd.type with
        | some (_ + 1) => some (.fad fd.offset y)
        | _ => none
      | none => none
    | _, _ => none
  | .field t x f => match P.underlying t, cOpd P x with
    | some (.struct fs), some y => match fs[f]? with
      | some fd => match P.underlying fd.type, szOf P fd.type with
        | some d, some n => some (.fld fd.offset (if isAggD d then some n else none) y)
        | _, _ => none
      | none => none
    | _, _ => none
  | .indexAddr t x i => match P.underlying t, cOpd P x, cOpd P i with
    | some (.slice e), some y, some j => (szOf P e).map fun sz => .ixs sz y j
    | some (.array n e), some y, some j => (szOf P e).map fun sz => .ixa n sz y j
    | _, _, _ => none
  | .index t x i => match P.underlying t, cOpd P x, cOpd P i with
    | some .string, some y, some j => some (.ixt y j)
    | some (.array n e), some y, some j => match P.underlying e, szOf P e with
      | some d, some sz => some (.ixv n sz (if isAggD d then some sz else none) y j)
      | _, _ => none
    | _, _, _ => none
  | .typeAssert x t a ok => match P.underlying a, cOpd P x, zvOf P a with
    | some (.interface _), some y, some z => some (.tai t a z ok y)
    | some _, some y, some z => some (.tac a z ok y)
    | _, _, _ => none
  | .extract x i => (cOpd P x).map fun y => .ext y i
  | .call c => match cOpds P c.args.toList with
    | none => none
    | some as => match c.callee with
      | .value (.func f) => match P.funcs[f]? with
        | some fn => if fn.name == "runtime.NumGoroutine" then none else if fn.body.isSome then some (.call f as) else some (.xcall f as)
        | none => none
      | .value f => (cOpd P f).map fun x => .vcall x as
      | .invoke r m => (cOpd P r).map fun x => .icall m x as
      | .builtin b => match b, as, c.argTypes.toList with
        | .append, [x, y], (st :: yt :: _) => match P.underlying st, P.underlying yt with
          | some (.slice e), some (.slice _) => match szOf P e, btOf P e, zrOf P e with
            | some sz, some bt, some z => if Nat.beq z.length sz then some (.app e sz bt x y) else none
            | _, _, _ => none
          | some (.slice e), some .string => match szOf P e, btOf P e, zrOf P e with
            | some sz, some bt, some z => if Nat.beq z.length sz then some (.app e sz bt x y) else none
            | _, _, _ => none
          | _, _ => none
        | .len, [x], [t] => match P.underlying t with
          | some .string => some (.tlen x)
          | some (.slice _) => some (.len x)
          | some (.array n _) => some (.alen n)
          | some (.pointer p) => match P.underlying p with
            | some (.array n _) => some (.alen n)
            | _ => none
          | _ => none
        | .cap, [x], [t] => match P.underlying t with
          | some (.slice _) => some (.cap x)
          | _ => none
        | .max, x :: l, _ => some (.mm true x l)
        | .min, x :: l, _ => some (.mm false x l)
        | .recover, [], _ => some .rcv
        | .unsafeSliceData, [x], _ => some (.sdata x)
        | .unsafeString, [x, y], (pt :: _) => match P.underlying pt with
          | some (.pointer e) => match szOf P e with
            | some 1 => some (.ustr e x y)
            | _ => none
          | _ => none
        | _, _, _ => none
  | .defer c => match c.callee, cOpds P c.args.toList with
    | .value f, some as => (cOpd P f).map fun x => .dfr x as
    | _, _ => none
  | .panic x => (cOpd P x).map .pan
  | .range t x => match P.underlying t, cOpd P x with
    | some .string, some y => some (.rng y)
    | _, _ => none
  | .next x true => (cOpd P x).map .nxt
  | _ => none

/-- Code of the evaluator. A region that draws: light operations ahead of each heavy one, the heavy ones, and the light ones that are looked at again at each of the heaps. -/
inductive AC where
  | skip
  | reg (ops : List AOper)
  | regd (ls : List (List AOper)) (hv : List AOper) (wins : List (List AOper))
  | seq (a b : AC)
  | cond (c : Opd) (a b : AC)
  | block (id : Nat) (b : AC)
  | loop (b : AC)
  | exit (id : Nat)
  | scope (b : AC)
  | ret
  | bad
  deriving Inhabited

def gTmp (ops : List Oper) (g : Option (Nat × Bool)) : Option (Option (Nat × Bool)) :=
  match g with
  | none => some none
  | some (j, b) => match ops[j]? with
    | some o => match o.dst with
      | some d => some (some (d, b))
      | none => none
    | none => none

def cOper (nt : Nat) (ops : List Oper) (o : Oper) : Option AOper :=
  match gTmp ops o.guard with
  | some g => if (match o.dst with | some d => Nat.blt d nt | none => true) then some ⟨o.dst, match cop P o with
      | some a => a
      | none => .bad, g⟩ else none
  | none => none

def cOpers (nt : Nat) (ops : List Oper) : List Oper → Option (List AOper)
  | [] => some []
  | o :: l => match cOper P nt ops o, cOpers nt ops l with
    | some a, some m => some (a :: m)
    | _, _ => none

/-- Operations that leave memory alone and only look at their operands. -/
def AOp.pure : AOp → Bool
  | .mv _ | .pick .. | .build .. | .chk _ | .un .. | .mki .. | .mkf .. | .sls .. | .slv .. | .sla .. | .fad .. | .fld .. | .ixs .. | .ixa .. | .ixt .. | .ixv ..
  | .ext .. | .len _ | .tlen _ | .alen _ | .mm .. | .cap _ => true
  | .tac .. | .tai .. => true
  | .conv (.int _) _ | .conv .same _ => true
  | .bin _ k _ _ => match k with | .ptr => false | _ => true
  | _ => false

/-- Operations that leave memory alone. -/
def AOp.light : AOp → Bool
  | .ld _ | .ldn .. | .bin .. | .conv .b2s _ => true
  | o => o.pure

/-- The temporaries that an operation looks at. -/
def Opd.tl : Opd → List Nat
  | .t n => [n]
  | .c _ => []
def tls : List Opd → List Nat
  | [] => []
  | x :: l => x.tl ++ tls l
def tlo : Option Opd → List Nat
  | none => []
  | some x => x.tl
def tlp : List (Nat × Nat × Opd) → List Nat
  | [] => []
  | (_, _, x) :: l => x.tl ++ tlp l
def tlq : List (Nat × Opd) → List Nat
  | [] => []
  | (_, x) :: l => x.tl ++ tlq l

def AOp.tl : AOp → List Nat
  | .mv x | .box _ x | .ld x | .ldn _ x | .chk x | .un _ x | .conv _ x | .mki _ x | .fad _ x | .fld _ _ x | .tai _ _ _ _ x | .tac _ _ _ x | .ext x _ | .len x | .tlen x | .mlen x | .cap x
  | .rng x | .nxt x | .sdata x | .pan x => x.tl
  | .st x y | .stn _ x y | .bin _ _ x y | .mks _ _ _ _ x y | .ixs _ x y | .ixa _ _ x y | .ixt x y | .ixv _ _ _ x y | .look _ _ _ x y | .app _ _ _ x y | .copy _ x y | .ustr _ x y => x.tl ++ y.tl
  | .pick x y z | .upd _ x y z => x.tl ++ (y.tl ++ z.tl)
  | .build _ ps => tlp ps
  | .bslice _ _ _ _ ps => tlq ps
  | .mkf _ a b => tls a ++ tls b
  | .sls x lo hi => x.tl ++ (tlo lo ++ tlo hi)
  | .slv _ x lo hi mx | .sla _ _ x lo hi mx => x.tl ++ (tlo lo ++ (tlo hi ++ tlo mx))
  | .call _ as | .xcall _ as => tls as
  | .vcall x as | .icall _ x as | .dfr x as => x.tl ++ tls as
  | .mm _ x l => x.tl ++ tls l
  | .alloc .. | .mkm | .alen _ | .rcv | .bad => []

def AOper.tl (o : AOper) : List Nat :=
  o.op.tl ++ (match o.guard with | some (d, _) => [d] | none => [])

/-- For each operation, the ones that are sure to be ahead of it, as bits. -/
def preds (ops : List Oper) : List Nat :=
  (ops.foldl (fun (acc : List Nat) o =>
    acc ++ [o.after.foldl (fun s e => if Region.binds .any e then s ||| (2 ^ e.on) ||| (acc.getD e.on 0) else s) 0]) [])

/-- May the light operation i be taken when m heavy ones have been? -/
def inWin (b : List Nat) (hs : List Nat) (i m : Nat) : Bool :=
  hs.zipIdx.all fun (h, k) => (!(b.getD i 0).testBit h || Nat.blt k m) && (!(b.getD h 0).testBit i || Nat.ble m k)

def isHv (as : List AOper) (i : Nat) : Bool := match as[i]? with
  | some a => !a.op.light
  | none => false

/-- What a region that draws has to keep. -/
def drawOK (K : List Nat) (ops : List Oper) (as : List AOper) (b hs : List Nat) : Bool :=
  let n := ops.length
  Nat.beq as.length n &&
  (List.range n).all (fun i => match ops[i]? with
    | none => false
    | some o => o.after.toList.all (fun e => !Region.binds .any e || Nat.blt e.on i) &&
      (List.range n).all (fun k => !(b.getD i 0).testBit k || o.after.toList.any fun e => Region.binds .any e && (Nat.beq e.on k || (b.getD e.on 0).testBit k))) &&
  hs.zipIdx.all (fun (h, k) => isHv as h && Nat.blt h n && hs.zipIdx.all fun (g, j) => !Nat.blt j k || (b.getD h 0).testBit g) &&
  (List.range n).all (fun i => !isHv as i || hs.contains i) &&
  as.zipIdx.all (fun (o, i) => as.zipIdx.all fun (p, k) => match p.dst with
    | none => true
    | some d => (!o.tl.contains d || (b.getD i 0).testBit k) && (Nat.beq i k || o.dst != some d)) &&
  as.all (fun o => match o.dst with
    | none => true
    | some d => !K.contains d)

def cDraw (K : List Nat) (ops : List Oper) (as : List AOper) : AC :=
  let b := preds ops
  let n := as.length
  let hs := (List.range n).filter (isHv as)
  let lt := (List.range n).filter fun i => !isHv as i
  let rank (i : Nat) : Nat := (hs.filter fun h => (b.getD i 0).testBit h).length
  if drawOK K ops as b hs then
    .regd ((List.range (hs.length + 1)).map fun m => (lt.filter fun i => Nat.beq (rank i) m).map fun i => as.getD i default) (hs.map fun i => as.getD i default)
      ((List.range (hs.length + 1)).map fun m => (lt.filter fun i => inWin b hs i m).map fun i => as.getD i default)
  else .bad

def ccode (nt : Nat) (K : List Nat) : Code → Option AC
  | .skip => some .skip
  | .region _ ops d => match cOpers P nt ops.toList ops.toList with
    | some as => if d then some (cDraw K ops.toList as) else some (.reg as)
    | none => none
  | .seq a b => match ccode nt K a, ccode nt K b with
    | some x, some y => some (.seq x y)
    | _, _ => none
  | .cond c a b => match cOpd P c, ccode nt K a, ccode nt K b with
    | some z, some x, some y => some (.cond z x y)
    | _, _, _ => none
  | .block i b => match ccode nt K b with
    | some x => some (.block i x)
    | none => none
  | .loop b => match ccode nt K b with
    | some x => some (.loop x)
    | none => none
  | .exit i => some (.exit i)
  | .ret => some .ret
  | .refuse _ => some .bad
  | .rangeFunc .. | .goto _ | .label _ => some .bad
  | .scope b => match ccode nt K b with
    | some x => some (.scope x)
    | none => none

/-- A function: its code, how many temporaries, its results (none: the temporary itself; some n: n cells at the address in it; some none: one cell). -/
structure AF where
  code : AC
  nt : Nat
  res : List (Nat × Option (Option Nat))
  deriving Inhabited

def cRes : List ResultVar → Option (List (Nat × Option (Option Nat)))
  | [] => some []
  | .tmp t :: l => match cRes l with
    | some m => some ((t, none) :: m)
    | none => none
  | .cell a t :: l => match P.underlying t, szOf P t, cRes l with
    | some d, some n, some m => some ((a, some (if isAggD d then some n else none)) :: m)
    | _, _, _ => none

/-- The temporaries of results that lie in memory. -/
def keeps : List (Nat × Option (Option Nat)) → List Nat
  | [] => []
  | (t, some _) :: l => t :: keeps l
  | (_, none) :: l => keeps l

def cfn (f : Func) : Option AF :=
  match f.body with
  | some b => match cRes P f.results.toList with
    | some r => match ccode P f.ntmps (keeps r) b with
      | some c => some ⟨c, f.ntmps, r⟩
      | none => none
    | none => none
  | none => none
end
end Go.Vd
