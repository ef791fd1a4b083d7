/- The context of the seat's program: what its functions without a body give. -/
import Derived.Test.YtabgoidablkmjaaGreatDoorYdL1
set_option linter.unusedVariables false
set_option linter.unusedSimpArgs false
namespace Go.Vd.L
open Go.Vd

inductive BT where
  | leaf (k : Nat) (v : AF)
  | node (k : Nat) (l r : BT)

def BT.get : BT → Nat → Option AF
  | .leaf k v, n => if Nat.beq k n then some v else none
  | .node k l r, n => if Nat.blt n k then l.get n else r.get n

def fns : BT := (.node 55 (.node 31 (.node 18 (.node 12 (.node 7 (.node 6 (.leaf 5 c5) (.leaf 6 c6)) (.node 8 (.leaf 7 c7) (.node 11 (.leaf 8 c8) (.leaf 11 c11)))) (.node 14 (.node 13 (.leaf 12 c12) (.leaf 13 c13)) (.node 16 (.leaf 14 c14) (.node 17 (.leaf 16 c16) (.leaf 17 c17))))) (.node 23 (.node 20 (.node 19 (.leaf 18 c18) (.leaf 19 c19)) (.node 21 (.leaf 20 c20) (.node 22 (.leaf 21 c21) (.leaf 22 c22)))) (.node 28 (.node 26 (.leaf 23 c23) (.node 27 (.leaf 26 c26) (.leaf 27 c27))) (.node 29 (.leaf 28 c28) (.node 30 (.leaf 29 c29) (.leaf 30 c30)))))) (.node 42 (.node 36 (.node 33 (.node 32 (.leaf 31 c31) (.leaf 32 c32)) (.node 34 (.leaf 33 c33) (.node 35 (.leaf 34 c34) (.leaf 35 c35)))) (.node 39 (.node 38 (.leaf 36 c36) (.leaf 38 c38)) (.node 40 (.leaf 39 c39) (.node 41 (.leaf 40 c40) (.leaf 41 c41))))) (.node 49 (.node 44 (.node 43 (.leaf 42 c42) (.leaf 43 c43)) (.node 45 (.leaf 44 c44) (.node 47 (.leaf 45 c45) (.leaf 47 c47)))) (.node 52 (.node 50 (.leaf 49 c49) (.node 51 (.leaf 50 c50) (.leaf 51 c51))) (.node 53 (.leaf 52 c52) (.node 54 (.leaf 53 c53) (.leaf 54 c54))))))) (.node 85 (.node 68 (.node 63 (.node 60 (.node 56 (.leaf 55 c55) (.leaf 56 c56)) (.node 61 (.leaf 60 c60) (.node 62 (.leaf 61 c61) (.leaf 62 c62)))) (.node 65 (.node 64 (.leaf 63 c63) (.leaf 64 c64)) (.node 66 (.leaf 65 c65) (.node 67 (.leaf 66 c66) (.leaf 67 c67))))) (.node 73 (.node 70 (.node 69 (.leaf 68 c68) (.leaf 69 c69)) (.node 71 (.leaf 70 c70) (.node 72 (.leaf 71 c71) (.leaf 72 c72)))) (.node 80 (.node 78 (.leaf 73 c73) (.node 79 (.leaf 78 c78) (.leaf 79 c79))) (.node 81 (.leaf 80 c80) (.node 82 (.leaf 81 c81) (.leaf 82 c82)))))) (.node 100 (.node 90 (.node 87 (.node 86 (.leaf 85 c85) (.leaf 86 c86)) (.node 88 (.leaf 87 c87) (.node 89 (.leaf 88 c88) (.leaf 89 c89)))) (.node 97 (.node 91 (.leaf 90 c90) (.node 95 (.leaf 91 c91) (.leaf 95 c95))) (.node 98 (.leaf 97 c97) (.node 99 (.leaf 98 c98) (.leaf 99 c99))))) (.node 109 (.node 106 (.node 104 (.leaf 100 c100) (.leaf 104 c104)) (.node 107 (.leaf 106 c106) (.node 108 (.leaf 107 c107) (.leaf 108 c108)))) (.node 125 (.node 113 (.leaf 109 c109) (.node 119 (.leaf 113 c113) (.leaf 119 c119))) (.node 126 (.leaf 125 c125) (.node 132 (.leaf 126 c126) (.leaf 132 c132))))))))

def idxB (b : Nat) : List UInt8 → Nat → Int
  | [], _ => -1
  | c :: l, i => if Nat.beq c.toNat b then (i : Int) else idxB b l (i + 1)

def cntB (b : Nat) : List UInt8 → Nat → Nat
  | [], n => n
  | c :: l, n => if Nat.beq c.toNat b then cntB b l (n + 1) else cntB b l n

def e118 (xs : List AV) (H : AH) : Option (AV × AH) :=
  match xs with
  | [.str s, .int .u8 b] => if Nat.blt b.toNat 256 then some (.int .i64 (cntB b.toNat s 0), H) else none
  | _ => none

def e114 (xs : List AV) (H : AH) : Option (AV × AH) :=
  match xs with
  | [.str s, .int .u8 b] => if Nat.blt b.toNat 256 then some (.int .i64 (idxB b.toNat s 0), H) else none
  | _ => none

def e96 (xs : List AV) (H : AH) : Option (AV × AH) :=
  match xs with
  | [x] => some (x, H)
  | _ => none

def e46 (xs : List AV) (H : AH) : Option (AV × AH) :=
  match xs with
  | [.ifc t _] => if Nat.beq t 49 then some (.ifc 109 (.agg [.hnd 7 49]), H) else none
  | _ => none

def e57 (xs : List AV) (H : AH) : Option (AV × AH) :=
  match xs with
  | [.ifc t v] => if v.one then (if Nat.beq t 49 then some (.agg [.hnd 7 49, .ptr H.next 0, .int .u64 130], H.push (.cells [v] 49 0))
      else if Nat.beq t 70 then some (.agg [.hnd 7 70, .ptr H.next 0, .int .u64 150], H.push (.cells [v] 70 0)) else none) else none
  | _ => none

/-- The parts of a reflected value: its type, its place, its flags. -/
def isV (b t t' : Nat) (k : IntKind) (n n' : Int) : Bool := Nat.beq b 7 && Nat.beq t t' && decide (k = .u64) && decide (n = n')

def e58 (xs : List AV) (H : AH) : Option (AV × AH) :=
  match xs with
  | [.agg [.hnd b t, .ptr _ _, .int k n]] => if isV b t 70 k n 150 then some (.ifc 109 (.agg [.hnd 7 70]), H) else none
  | _ => none

def e148 (xs : List AV) (H : AH) : Option (AV × AH) :=
  match xs with
  | [.hnd b t] => if Nat.beq b 7 then (if Nat.beq t 49 then some (.int .u8 2, H) else if Nat.beq t 70 then some (.int .u8 22, H) else none) else none
  | _ => none

def e59 (xs : List AV) (H : AH) : Option (AV × AH) :=
  match xs with
  | [.agg [.hnd b t, .ptr X o, .int k n]] => if isV b t 70 k n 150 then (match H.rd X o with
      | some (.ptr _ _) => some (.bool false, H)
      | _ => none) else none
  | _ => none

def e159 (xs : List AV) (H : AH) : Option (AV × AH) :=
  match xs with
  | [.agg [.hnd b t]] => if Nat.beq b 7 && Nat.beq t 70 then some (.ifc 109 (.agg [.hnd 7 49]), H) else none
  | _ => none

def e160 (xs : List AV) (H : AH) : Option (AV × AH) :=
  match xs with
  | [.agg [.hnd b t], .ifc u (.agg [.hnd c s])] => if Nat.beq b 7 && Nat.beq t 49 && Nat.beq u 109 && Nat.beq c 7 && Nat.beq s 31 then some (.bool true, H) else none
  | _ => none

def e158 (xs : List AV) (H : AH) : Option (AV × AH) :=
  match xs with
  | [.agg [.hnd b t]] => if Nat.beq b 7 && Nat.beq t 49 then some (.bool true, H) else none
  | _ => none

def e157 (xs : List AV) (H : AH) : Option (AV × AH) :=
  match xs with
  | [.agg [.hnd b t], .ifc u (.agg [.hnd c s])] => if Nat.beq b 7 && Nat.beq t 49 && Nat.beq u 109 && Nat.beq c 7 && Nat.beq s 49 then some (.bool true, H) else none
  | _ => none

def e83 (xs : List AV) (H : AH) : Option (AV × AH) :=
  match xs with
  | [.agg [.hnd b t, .ptr X o, .int k n]] => if isV b t 70 k n 150 then (match H.rd X o with
      | some (.ptr Y u) => some (.agg [.hnd 7 49, .ptr Y u, .int .u64 386], H)
      | _ => none) else none
  | _ => none

def e84 (xs : List AV) (H : AH) : Option (AV × AH) :=
  match xs with
  | [.agg [.hnd b t, .ptr X o, .int k n], .agg [.hnd c s, .ptr Y z, .int j m]] => if isV b t 49 k n 386 && isV c s 49 j m 130 then (match H.rd Y z with
      | some (.int i v) => (match H.wr X o [.int i v] with
        | some H' => some (.tup [], H')
        | none => none)
      | _ => none) else none
  | _ => none

def ext (f : Nat) (xs : List AV) (H : AH) : Option (AV × AH) :=
  if Nat.beq f 118 then e118 xs H
  else if Nat.beq f 114 then e114 xs H
  else if Nat.beq f 96 then e96 xs H
  else if Nat.beq f 46 then e46 xs H
  else if Nat.beq f 57 then e57 xs H
  else if Nat.beq f 58 then e58 xs H
  else if Nat.beq f 148 then e148 xs H
  else if Nat.beq f 59 then e59 xs H
  else if Nat.beq f 159 then e159 xs H
  else if Nat.beq f 160 then e160 xs H
  else if Nat.beq f 158 then e158 xs H
  else if Nat.beq f 157 then e157 xs H
  else if Nat.beq f 83 then e83 xs H
  else if Nat.beq f 84 then e84 xs H
  else none

def meth (t : Nat) (v : AV) (m : String) : Option (Nat × AV) :=
  if Nat.beq t 109 then (match v with
    | .agg [h] => if m = "Kind" then some (148, h) else if m = "Elem" then some (159, v) else if m = "Implements" then some (160, v)
      else if m = "Comparable" then some (158, v) else if m = "AssignableTo" then some (157, v) else none
    | _ => none)
  else none

def C : Ctx where
  fns := fns.get
  impl := fun t a => if Nat.beq t 49 && Nat.beq a 31 then some true else none
  cmp := fun t => Nat.beq t 49
  lies := fun e k o t => Nat.beq e 60 && Nat.beq k 2 && Nat.beq o 0 && Nat.beq t 58
  ext := ext
  meth := meth
  xfn := fun f => Nat.blt 133 f || Nat.beq f 46
  orc := fun _ => none
  ng := 7

def H0 : AH := { next := 7, tr := Tr.nil.set 0 (.cells [.ifc 109 (.agg [.hnd 7 31])] 79 0) }

/-- The answer is true, and the first variable's cell is as it was. -/
def okT : Option Out → Bool
  | some (.call (.ret (.bool b)) H) => b && (match H.get 0 with
    | some (.cells [x] 79 0) => AV.beq x (.ifc 109 (.agg [.hnd 7 31]))
    | _ => false)
  | _ => false
end Go.Vd.L
