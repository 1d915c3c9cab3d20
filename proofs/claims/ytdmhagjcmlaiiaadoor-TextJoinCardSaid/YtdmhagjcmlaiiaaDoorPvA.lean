/- Pv, part A: an abstract machine over pure values (slices are lists; no heap addresses, no capacities, one order of evaluation), to which the model's walk is tied in parts B and C. Definitions alone. -/
import Derived.WalkKit
set_option linter.unusedVariables false
namespace Go.Pv

/-- What a slice value may do with the cells behind its end: nothing, there are none, or it alone may write them (elements of e cells). -/
inductive Own where
  | ro
  | full
  | sp (e : Nat)
  deriving DecidableEq

inductive PV where
  | v (x : Value)
  | agg (cs : List PV)
  | tup (cs : List PV)
  | sl (m : Own) (nl : Option Bool) (xs : List PV)
  | el (cs : List PV) (off : Nat)
  | ptr (id off : Nat)
  | os (id off len : Nat)
  | loc (d off : Nat)
  | clo (f : FuncId) (first caps : List PV)
  | ifc (t : TypeId) (x : PV)

instance : Inhabited PV := ⟨.v (.tuple #[])⟩

namespace PV
def cells : PV → List PV
  | .agg cs => cs
  | p => [p]
def roLeaf : PV → PV
  | .sl (.sp _) nl xs => .sl .ro nl xs
  | p => p
def ro1 : PV → PV
  | .agg cs => .agg (cs.map roLeaf)
  | p => roLeaf p
def ro : PV → PV
  | .tup cs => .tup (cs.map ro1)
  | p => ro1 p
def normLeaf : PV → PV
  | .sl _ nl xs => .sl .ro nl xs
  | p => p
def norm : PV → PV
  | .agg cs => .agg (cs.map normLeaf)
  | p => normLeaf p
mutual
def noPtr : PV → Bool
  | .v _ => true
  | .agg cs => noPtrL cs
  | .tup cs => noPtrL cs
  | .sl _ _ xs => noPtrL xs
  | .el cs _ => noPtrL cs
  | .ptr _ _ => false
  | .os _ _ _ => false
  | .loc _ _ => false
  | .clo _ a b => noPtrL a && noPtrL b
  | .ifc _ x => noPtr x
def noPtrL : List PV → Bool
  | [] => true
  | p :: l => noPtr p && noPtrL l
end
/-- It fits into one cell of memory. -/
def leaf : PV → Bool
  | .v x => x.oneCell'
  | .agg _ | .tup _ | .loc _ _ => false
  | _ => true
def cellsOk (e : Nat) (p : PV) : Bool := p.cells.length == e && p.cells.all leaf
def isLoc : PV → Bool
  | .loc _ _ => true
  | _ => false
end PV

def undefP : PV := .v (.tuple #[])
abbrev Mem := List (List PV)

/-- An operand: a slot, or a constant. -/
inductive X where
  | t (n : Nat)
  | k (p : PV)

inductive Act where
  | mv | mvx | pick
  | fa (off : Nat)
  | ia (e : Nat)
  | ldel (n : Nat) (agg : Bool)
  | ix
  | bin (op : BinOp)
  | eqb (neg : Bool)
  | isnil (neg : Bool)
  | un (op : UnOp)
  | cvi (k : IntKind)
  | cvs
  | s2b
  | b2s
  | build (zero : List PV) (parts : List (Nat × Nat))
  | bsl (e : Nat)
  | len | slen
  | mx | mn
  | app (e bytes : Nat)
  | slice (e : Nat) (lo hi mx : Bool)
  | sslice (lo hi : Bool)
  | mks (e bytes : Nat)
  | ext (i : Nat)
  | extx (i : Nat)
  | nchk
  | bnew (d : Nat) (zero : List PV)
  | bbox (d : Nat)
  | bld (d n : Nat) (agg take : Bool)
  | bst (d n : Nat) (keep : Bool)
  | gnew (zero : List PV)
  | gbox
  | gld (n : Nat) (agg take : Bool)
  | gst (n : Nat) (keep : Bool)
  | os2b
  | ob2s
  | call (pure : Bool)

/-- An operation: where its result goes, which slots it empties, what it does, its operands, its guard. -/
structure O where
  dst : Option Nat
  kill : List Nat
  act : Act
  ins : List X
  guard : Option (Nat × Bool)

inductive C where
  | skip
  | reg (draw : Bool) (ops : List O)
  | seq (a b : C)
  | cond (x : X) (a b : C)
  | block (id : Nat) (c : C)
  | loop (c : C)
  | exit (id : Nat)
  | ret
  | dead

inductive RV where
  | slot (t : Nat)
  | cell (d n : Nat) (agg : Bool)

structure Fn where
  n : Nat
  body : C
  res : List RV

structure Sig where
  /-- The parameter, if any, whose end the function takes over, and the size of its elements. -/
  own : Option (Nat × Nat)
  keep : List (Option Nat)

structure Env where
  F : FuncId → Option Fn
  sig : FuncId → Sig

structure St where
  env : Nat → Option PV
  box : Nat → Option (List PV)
  mem : Mem

def upd {α : Type} (f : Nat → Option α) (d : Nat) (p : Option α) : Nat → Option α := fun t => if t = d then p else f t
def St.put (s : St) : Option Nat → PV → St
  | none, _ => s
  | some d, p => { s with env := upd s.env d (some p) }
def St.kill (s : St) (l : List Nat) : St := { s with env := fun t => if t ∈ l then none else s.env t }
def St.setBox (s : St) (d : Nat) (c : List PV) : St := { s with box := upd s.box d (some c) }
def St.setMem (s : St) (m : Mem) : St := { s with mem := m }

def val (env : Nat → Option PV) : X → Option PV
  | .t n => env n
  | .k p => some p
def vals (env : Nat → Option PV) : List X → Option (List PV)
  | [] => some []
  | x :: l => (val env x).bind fun p => (vals env l).map fun r => p :: r

def pureOf {α : Type} : Sem α → Option α
  | .pure a => some a
  | _ => none

def intV (op : BinOp) (k : IntKind) (a : Int) (k' : IntKind) (b : Int) : Option Value :=
  match op with
  | .shl => pureOf (Op.shift .shl k a k' b)
  | .shr => pureOf (Op.shift .shr k a k' b)
  | .add => if k = k' then pureOf (Op.intArith .add k a b) else none
  | .sub => if k = k' then pureOf (Op.intArith .sub k a b) else none
  | .mul => if k = k' then pureOf (Op.intArith .mul k a b) else none
  | .quo => if k = k' then pureOf (Op.intDiv .quo k a b) else none
  | .rem => if k = k' then pureOf (Op.intDiv .rem k a b) else none
  | .and => if k = k' then pureOf (Op.intBits .and k a b) else none
  | .or => if k = k' then pureOf (Op.intBits .or k a b) else none
  | .xor => if k = k' then pureOf (Op.intBits .xor k a b) else none
  | .andNot => if k = k' then pureOf (Op.intBits .andNot k a b) else none
  | .eql => if k = k' then some (.bool (a == b)) else none
  | .neq => if k = k' then some (.bool (a != b)) else none
  | .lss => if k = k' then some (.bool (a < b)) else none
  | .leq => if k = k' then some (.bool (a ≤ b)) else none
  | .gtr => if k = k' then some (.bool (a > b)) else none
  | .geq => if k = k' then some (.bool (a ≥ b)) else none
def binV (op : BinOp) (x y : Value) : Option Value :=
  match x, y with
  | .int k a, .int k' b => intV op k a k' b
  | .string a, .string b => pureOf (Op.stringOp op a b)
  | _, _ => none
def unV (op : UnOp) (x : Value) : Option Value :=
  match x with
  | .int k n => pureOf (Op.unary op (.int k n))
  | .bool b => pureOf (Op.unary op (.bool b))
  | _ => none

def bytesP (s : ByteArray) : List PV := s.data.toList.map fun b => .v (.int .u8 b.toNat)
def byteOf? : PV → Option UInt8
  | .v (.int .u8 n) => some (UInt8.ofNat n.toNat)
  | _ => none
def bytesOf? : List PV → Option (List UInt8)
  | [] => some []
  | p :: l => (byteOf? p).bind fun b => (bytesOf? l).map fun r => b :: r
def one (agg : Bool) (cs : List PV) : Option PV := if agg then some (.agg cs) else (match cs with | [c] => some c | _ => none)
/-- The cells of l from off on are replaced by cs. -/
def splice {α : Type} (l : List α) (off : Nat) (cs : List α) : List α := l.take off ++ cs ++ l.drop (off + cs.length)
def fillP (zero : List PV) : List (Nat × Nat) → List PV → Option (List PV)
  | [], [] => some zero
  | (off, n) :: ps, p :: l => if p.cellsOk n = true ∧ off + n ≤ zero.length then fillP (splice zero off (p.norm).cells) ps l else none
  | _, _ => none
def headIs (e : Nat) : List PV → Bool
  | [] => true
  | p :: _ => p.cells.length == e
def idx? : PV → Option Int
  | .v (.int _ i) => some i
  | _ => none
/-- The bounds of a slice expression: lo, hi, max (at most the length). -/
def bounds (n : Nat) (hl hh hm : Bool) (l : List PV) : Option (Nat × Nat × Option Nat) :=
  match hl, hh, hm with
  | false, false, false => (match l with | [] => some (0, n, none) | _ => none)
  | true, false, false => (match l with | [.v (.int _ a)] => if 0 ≤ a ∧ a ≤ n then some (a.toNat, n, none) else none | _ => none)
  | false, true, false => (match l with | [.v (.int _ b)] => if 0 ≤ b ∧ b ≤ n then some (0, b.toNat, none) else none | _ => none)
  | true, true, false => (match l with | [.v (.int _ a), .v (.int _ b)] => if 0 ≤ a ∧ a ≤ b ∧ b ≤ n then some (a.toNat, b.toNat, none) else none | _ => none)
  | false, true, true => (match l with | [.v (.int _ b), .v (.int _ c)] => if 0 ≤ b ∧ b ≤ c ∧ c ≤ n then some (0, b.toNat, some c.toNat) else none | _ => none)
  | true, true, true => (match l with | [.v (.int _ a), .v (.int _ b), .v (.int _ c)] => if 0 ≤ a ∧ a ≤ b ∧ b ≤ c ∧ c ≤ n then some (a.toNat, b.toNat, some c.toNat) else none | _ => none)
  | _, _, true => none

def e1 (f : PV → Option PV) : List PV → Option PV
  | [x] => f x
  | _ => none
def e2 (f : PV → PV → Option PV) : List PV → Option PV
  | [x, y] => f x y
  | _ => none
def e3 (f : PV → PV → PV → Option PV) : List PV → Option PV
  | [x, y, z] => f x y z
  | _ => none
def eT (f : PV → List PV → Option PV) : List PV → Option PV
  | x :: l => f x l
  | [] => none
def pMv (x : PV) : Option PV := if x.isLoc then none else some x.ro
def pMvx (x : PV) : Option PV := if x.isLoc then none else some x
def pPick (c x y : PV) : Option PV :=
  match c with
  | .v (.bool b) => if (if b then x else y).isLoc then none else some (if b then x else y).ro
  | _ => none
def pFa (off : Nat) : PV → Option PV
  | .loc d o => some (.loc d (o + off))
  | .ptr i o => some (.ptr i (o + off))
  | .el cs o => some (.el cs (o + off))
  | _ => none
def pIa (e : Nat) : PV → PV → Option PV
  | .sl _ _ xs, .v (.int _ i) => if 0 ≤ i then (match xs[i.toNat]? with | some x => if x.cells.length = e then some (.el x.cells 0) else none | none => none) else none
  | .os id off n, .v (.int _ i) => if 0 ≤ i ∧ i.toNat < n then some (.ptr id (off + i.toNat * e)) else none
  | _, _ => none
def pLdel (n : Nat) (agg : Bool) : PV → Option PV
  | .el cs o => if o + n ≤ cs.length then (one agg ((cs.drop o).take n)).map PV.ro else none
  | _ => none
def pIx : PV → PV → Option PV
  | .v (.string s), .v (.int _ i) => if h : 0 ≤ i ∧ i.toNat < s.size then some (.v (.int .u8 (s[i.toNat]'h.2).toNat)) else none
  | _, _ => none
def pBin (op : BinOp) : PV → PV → Option PV
  | .v x, .v y => (binV op x y).map .v
  | _, _ => none
def pEqb (neg : Bool) : PV → PV → Option PV
  | .v (.bool a), .v (.bool b) => some (.v (.bool (if neg then !(a == b) else (a == b))))
  | _, _ => none
def pIsnil (neg : Bool) : PV → PV → Option PV
  | .sl _ nl xs, .sl .full (some true) [] =>
    (match nl with
    | some b => some (.v (.bool (if neg then !b else b)))
    | none => if xs.isEmpty then none else some (.v (.bool neg)))
  | _, _ => none
def pUn (op : UnOp) : PV → Option PV
  | .v x => (unV op x).map .v
  | _ => none
def pCvi (k : IntKind) : PV → Option PV
  | .v (.int _ n) => some (.v (.int k (k.wrap n)))
  | _ => none
def pCvs : PV → Option PV
  | .v (.string s) => some (.v (.string s))
  | _ => none
def pS2b : PV → Option PV
  | .v (.string s) => some (.sl .ro (some false) (bytesP s))
  | _ => none
def pB2s : PV → Option PV
  | .sl _ _ xs => (bytesOf? xs).map fun b => .v (.string ⟨b.toArray⟩)
  | _ => none
def pBsl (e : Nat) (l : List PV) : Option PV := if l.all (PV.cellsOk e) then some (.sl .full (some false) (l.map PV.norm)) else none
def pLen : PV → Option PV
  | .sl _ _ xs => some (.v (.int .i64 xs.length))
  | .os _ _ n => some (.v (.int .i64 n))
  | _ => none
def pSlen : PV → Option PV
  | .v (.string s) => some (.v (.int .i64 s.size))
  | _ => none
def pMx : PV → PV → Option PV
  | .v (.int k a), .v (.int _ b) => some (.v (.int k (if b > a then b else a)))
  | _, _ => none
def pMn : PV → PV → Option PV
  | .v (.int k a), .v (.int _ b) => some (.v (.int k (if b < a then b else a)))
  | _, _ => none
def pApp (e bytes : Nat) : PV → PV → Option PV
  | .sl m nl xs, .sl _ _ ys =>
    if (m = .full ∨ m = .sp e) ∧ headIs e xs ∧ headIs e ys ∧ (xs.length + ys.length) * bytes ≤ 140737488355328 ∧ 0 < bytes ∧ 0 < e then some (.sl (.sp e) (if ys.isEmpty then nl else some false) (xs ++ ys)) else none
  | .sl m nl xs, .v (.string s) =>
    if (m = .full ∨ m = .sp e) ∧ headIs e xs ∧ e = 1 ∧ (xs.length + s.size) * bytes ≤ 140737488355328 ∧ 0 < bytes then some (.sl (.sp e) (if (bytesP s).isEmpty then nl else some false) (xs ++ bytesP s)) else none
  | _, _ => none
def pSlice (e : Nat) (hl hh hm : Bool) : PV → List PV → Option PV
  | .sl m nl xs, l => if headIs e xs then (bounds xs.length hl hh hm l).map fun (lo, hi, mx) =>
      .sl (if mx = some hi ∨ (m = .full ∧ mx = none ∧ hi = xs.length) then .full else .ro) nl ((xs.take hi).drop lo) else none
  | _, _ => none
def pSslice (hl hh : Bool) : PV → List PV → Option PV
  | .v (.string s), l => (bounds s.size hl hh false l).map fun (lo, hi, _) => .v (.string (s.extract lo hi))
  | _, _ => none
def pMks (e bytes : Nat) : PV → PV → Option PV
  | .v (.int .i64 n), .v (.int .i64 c) => if n = 0 ∧ 0 ≤ c ∧ c * bytes ≤ 140737488355328 ∧ 0 < e ∧ 0 < bytes then some (.sl (.sp e) (some false) []) else none
  | _, _ => none
def pExt (i : Nat) : PV → Option PV
  | .tup cs => cs[i]?.bind fun c => match c with | .tup _ => none | c => some c.ro1
  | _ => none
def pExtx (i : Nat) : PV → Option PV
  | .tup cs => cs[i]?.bind fun c => match c with | .tup _ => none | c => some c
  | _ => none
def pNchk : PV → Option PV
  | .loc d o => some (.loc d o)
  | .ptr i o => some (.ptr i o)
  | .el cs o => some (.el cs o)
  | _ => none

def evalP (a : Act) (l : List PV) : Option PV :=
  match a with
  | .mv => e1 pMv l
  | .mvx => e1 pMvx l
  | .pick => e3 pPick l
  | .fa off => e1 (pFa off) l
  | .ia e => e2 (pIa e) l
  | .ldel n agg => e1 (pLdel n agg) l
  | .ix => e2 pIx l
  | .bin op => e2 (pBin op) l
  | .eqb neg => e2 (pEqb neg) l
  | .isnil neg => e2 (pIsnil neg) l
  | .un op => e1 (pUn op) l
  | .cvi k => e1 (pCvi k) l
  | .cvs => e1 pCvs l
  | .s2b => e1 pS2b l
  | .b2s => e1 pB2s l
  | .build zero parts => (fillP zero parts l).map .agg
  | .bsl e => pBsl e l
  | .len => e1 pLen l
  | .slen => e1 pSlen l
  | .mx => e2 pMx l
  | .mn => e2 pMn l
  | .app e bytes => e2 (pApp e bytes) l
  | .slice e hl hh hm => eT (pSlice e hl hh hm) l
  | .sslice hl hh => eT (pSslice hl hh) l
  | .mks e bytes => e2 (pMks e bytes) l
  | .ext i => e1 (pExt i) l
  | .extx i => e1 (pExtx i) l
  | .nchk => e1 pNchk l
  | _ => none

/-- What touches a local variable that lies in memory. -/
def bLd (n : Nat) (agg take : Bool) (c : List PV) (o : Nat) : Option (PV × List PV) :=
  if take then (if agg then none else (match c[o]? with | some (.sl m nl xs) => some (.sl m nl xs, splice c o [(PV.sl m nl xs).roLeaf]) | _ => none))
  else if o + n ≤ c.length then (one agg ((c.drop o).take n)).map fun p => (p.ro, c) else none
def bSt (n : Nat) (keep : Bool) (c : List PV) (o : Nat) (x : PV) : Option (PV × List PV) :=
  if keep then (match x with | .sl _ _ _ => if o + 1 ≤ c.length ∧ n = 1 then some (undefP, splice c o [x]) else none | _ => none)
  else if x.cellsOk n ∧ o + n ≤ c.length then some (undefP, splice c o x.ro.cells) else none
def evalB (a : Act) (l : List PV) (old : Option (List PV)) : Option (PV × List PV) :=
  match a with
  | .bnew d zero => (match l, old with | [], none => some (.loc d 0, zero) | _, _ => none)
  | .bbox d => (match l, old with | [x], none => if x.cells.all PV.leaf then some (.loc d 0, x.ro.cells) else none | _, _ => none)
  | .bld d n agg take => (match l, old with | [.loc d' o], some c => if d' = d then bLd n agg take c o else none | _, _ => none)
  | .bst d n keep => (match l, old with | [.loc d' o, x], some c => if d' = d then bSt n keep c o x else none | _, _ => none)
  | _ => none

def evalM (a : Act) (l : List PV) (m : Mem) : Option (PV × Mem) :=
  match a with
  | .gnew zero => (match l with | [] => some (.ptr m.length 0, m ++ [zero]) | _ => none)
  | .gbox => (match l with | [x] => if x.cells.all PV.leaf then some (.ptr m.length 0, m ++ [x.ro.cells]) else none | _ => none)
  | .gld n agg take => (match l with | [.ptr i o] => (m[i]?).bind fun c => (bLd n agg take c o).map fun (p, c') => (p, m.set i c') | _ => none)
  | .os2b => (match l with | [.v (.string s)] => some (.os m.length 0 s.size, m ++ [bytesP s]) | _ => none)
  | .ob2s => (match l with | [.os i o n] => (m[i]?).bind fun c => if o + n ≤ c.length then (bytesOf? ((c.drop o).take n)).map fun b => (.v (.string ⟨b.toArray⟩), m) else none | _ => none)
  | .gst n keep => (match l with | [.ptr i o, x] => (m[i]?).bind fun c => (bSt n keep c o x).map fun (p, c') => (p, m.set i c') | _ => none)
  | _ => none

inductive Kind where
  | pure | box (d : Nat) | mem | call (p : Bool)
  deriving DecidableEq
def Act.kind : Act → Kind
  | .bnew d _ | .bbox d | .bld d _ _ _ | .bst d _ _ => .box d
  | .gnew _ | .gbox | .gld _ _ _ | .gst _ _ | .os2b | .ob2s => .mem
  | .call p => .call p
  | _ => .pure

def passOne : Option Nat → PV → Option PV
  | none, p => match p with | .loc _ _ => none | .tup _ => none | p => some p.norm
  | some e, .sl .full nl xs => some (.sl (.sp e) nl xs)
  | some e, .sl (.sp e') nl xs => if e = e' then some (.sl (.sp e) nl xs) else none
  | some _, _ => none
def passFrom (own : Option (Nat × Nat)) : Nat → List PV → Option (List PV)
  | _, [] => some []
  | i, p :: l => (passOne (match own with | some (j, e) => if i = j then some e else none | none => none) p).bind fun q => (passFrom own (i + 1) l).map fun r => q :: r
def pass (own : Option (Nat × Nat)) (l : List PV) : Option (List PV) := passFrom own 0 l
def passRes1 : List (Option Nat) → List PV → Option (List PV)
  | _, [] => some []
  | k, p :: l => (passOne (k.headD none) p).bind fun q => (passRes1 k.tail l).map fun r => q :: r
def passRes (keep : List (Option Nat)) : PV → Option PV
  | .tup cs => (passRes1 keep cs).map .tup
  | p => passOne (keep.headD none) p

def target : List PV → Option (FuncId × List PV)
  | .v (.func (.func f) a b) :: l => if a.size = 0 ∧ b.size = 0 then some (f, l) else none
  | .clo f a b :: l => some (f, a ++ l ++ b)
  | _ => none

/-- The slot that gives its end to the callee is emptied. -/
def killOk (own : Option (Nat × Nat)) (ins : List X) (kill : List Nat) : Bool :=
  match own, ins with
  | none, _ => true
  | some (i, _), .k (.v _) :: xs => (match xs[i]? with | some (.t s) => kill.contains s | _ => true)
  | _, _ => false
def wanted (env : Nat → Option PV) : Option (Nat × Bool) → Option Bool
  | none => some true
  | some (g, b) => match env g with
    | some (.v (.bool c)) => some (c == b)
    | some _ => some false
    | none => none

/-- A call, as a relation: function, arguments, objects; result, objects. -/
abbrev CRel := FuncId → List PV → Mem → PV → Mem → Prop

inductive Step (Γ : Env) (CR : CRel) : O → St → St → Prop where
  | skip {o : O} {st : St} : wanted st.env o.guard = some false → Step Γ CR o st (st.put o.dst undefP)
  | pure {o : O} {st : St} {l : List PV} {p : PV} : wanted st.env o.guard = some true → o.act.kind = .pure → vals st.env o.ins = some l → evalP o.act l = some p →
      Step Γ CR o st ((st.kill o.kill).put o.dst p)
  | box {o : O} {st : St} {l : List PV} {d : Nat} {p : PV} {c : List PV} : wanted st.env o.guard = some true → o.act.kind = .box d → vals st.env o.ins = some l → evalB o.act l (st.box d) = some (p, c) →
      Step Γ CR o st (((st.kill o.kill).setBox d c).put o.dst p)
  | mem {o : O} {st : St} {l : List PV} {p : PV} {m : Mem} : wanted st.env o.guard = some true → o.act.kind = .mem → vals st.env o.ins = some l → evalM o.act l st.mem = some (p, m) →
      Step Γ CR o st (((st.kill o.kill).setMem m).put o.dst p)
  | callP {o : O} {st : St} {l as bs : List PV} {f : FuncId} {p : PV} {m : Mem} : wanted st.env o.guard = some true → o.act = .call true → vals st.env o.ins = some l → target l = some (f, as) →
      killOk (Γ.sig f).own o.ins o.kill = true → pass (Γ.sig f).own as = some bs → PV.noPtrL bs = true → CR f bs [] p m → p.noPtr = true → Step Γ CR o st ((st.kill o.kill).put o.dst p)
  | callM {o : O} {st : St} {l as bs : List PV} {f : FuncId} {p : PV} {m : Mem} : wanted st.env o.guard = some true → o.act = .call false → vals st.env o.ins = some l → target l = some (f, as) →
      killOk (Γ.sig f).own o.ins o.kill = true → pass (Γ.sig f).own as = some bs → CR f bs st.mem p m → Step Γ CR o st (((st.kill o.kill).setMem m).put o.dst p)

inductive EvO (Γ : Env) (CR : CRel) : List O → St → St → Prop where
  | nil {st : St} : EvO Γ CR [] st st
  | cons {o : O} {l : List O} {st s1 s2 : St} : Step Γ CR o st s1 → EvO Γ CR l s1 s2 → EvO Γ CR (o :: l) st s2

inductive Ex where
  | nor | exit (id : Nat) | ret
  deriving DecidableEq
def Ex.inBlock (id : Nat) : Ex → Ex
  | .exit i => if i = id then .nor else .exit i
  | e => e

def Own.le : Own → Own → Prop
  | .ro, _ => True
  | .sp e, .full => True
  | a, b => a = b
inductive Wk1 : PV → PV → Prop where
  | refl (p : PV) : Wk1 p p
  | sl {m m0 : Own} {nl nl0 : Option Bool} {xs : List PV} : m0.le m → (nl0 = none ∨ nl0 = nl) → Wk1 (.sl m0 nl0 xs) (.sl m nl xs)
inductive WkL : List PV → List PV → Prop where
  | nil : WkL [] []
  | cons {p0 p : PV} {l0 l : List PV} : Wk1 p0 p → WkL l0 l → WkL (p0 :: l0) (p :: l)
inductive Wk : PV → PV → Prop where
  | one {p0 p : PV} : Wk1 p0 p → Wk p0 p
  | agg {c0 c : List PV} : WkL c0 c → Wk (.agg c0) (.agg c)

structure Le (s0 s : St) : Prop where
  env : ∀ t p0, s0.env t = some p0 → ∃ p, s.env t = some p ∧ Wk p0 p
  box : ∀ d c0, s0.box d = some c0 → ∃ c, s.box d = some c ∧ WkL c0 c
  mem : s0.mem.length = s.mem.length ∧ ∀ (i : Nat) (c0 : List PV), s0.mem[i]? = some c0 → ∃ c : List PV, s.mem[i]? = some c ∧ WkL c0 c
  wf : ∀ t d o, s0.env t = some (.loc d o) → ∃ c, s0.box d = some c

inductive EvC (Γ : Env) (CR : CRel) : C → St → Ex → St → Prop where
  | skip {st : St} : EvC Γ CR .skip st .nor st
  | reg {b : Bool} {l : List O} {st s1 : St} : EvO Γ CR l st s1 → EvC Γ CR (.reg b l) st .nor s1
  | seqN {a b : C} {st s1 s2 : St} {e : Ex} : EvC Γ CR a st .nor s1 → EvC Γ CR b s1 e s2 → EvC Γ CR (.seq a b) st e s2
  | seqX {a b : C} {st s1 : St} {e : Ex} : EvC Γ CR a st e s1 → e ≠ .nor → EvC Γ CR (.seq a b) st e s1
  | cond {x : X} {a b : C} {st s1 : St} {e : Ex} {t : Bool} : val st.env x = some (.v (.bool t)) → EvC Γ CR (if t then a else b) st e s1 → EvC Γ CR (.cond x a b) st e s1
  | block {id : Nat} {c : C} {st s1 : St} {e : Ex} : EvC Γ CR c st e s1 → EvC Γ CR (.block id c) st (e.inBlock id) s1
  | loopN {c : C} {st s1 s2 : St} {e : Ex} : EvC Γ CR c st .nor s1 → EvC Γ CR (.loop c) s1 e s2 → EvC Γ CR (.loop c) st e s2
  | loopX {c : C} {st s1 : St} {e : Ex} : EvC Γ CR c st e s1 → e ≠ .nor → EvC Γ CR (.loop c) st e s1
  | exit {id : Nat} {st : St} : EvC Γ CR (.exit id) st (.exit id) st
  | ret {st : St} : EvC Γ CR .ret st .ret st
  | weak {c : C} {s0 st s1 : St} {e : Ex} : Le s0 st → EvC Γ CR c s0 e s1 → EvC Γ CR c st e s1
  | post {c : C} {st s1 s2 : St} {e : Ex} : Le s2 s1 → EvC Γ CR c st e s1 → EvC Γ CR c st e s2

def readRV (st : St) : RV → Option PV
  | .slot t => (st.env t).bind fun p => if p.isLoc then none else some p
  | .cell d n agg => match st.env d with
    | some (.loc d' 0) => if d' = d then (st.box d).bind fun c => if c.length = n then one agg c else none else none
    | _ => none
def flatP : PV → Option PV
  | .tup _ => none
  | p => some p
def readRVs (st : St) : List RV → Option (List PV)
  | [] => some []
  | r :: l => ((readRV st r).bind flatP).bind fun p => (readRVs st l).map fun q => p :: q
def readRes (st : St) (l : List RV) : Option PV :=
  (readRVs st l).map fun ps => match ps with
    | [p] => p
    | ps => .tup ps

def St.init (args : List PV) (m : Mem) : St := { env := fun t => args[t]?, box := fun _ => none, mem := m }

/-- What is taken from outside: a function, its arguments, its result. -/
abbrev XRel := FuncId → List PV → PV → Prop

def CallN (Γ : Env) (Xt : XRel) : Nat → CRel
  | 0 => fun f args m res m' => Xt f args res ∧ m' = m
  | n + 1 => fun f args m res m' => (Xt f args res ∧ m' = m) ∨
    ∃ fn st' e raw, Γ.F f = some fn ∧ args.length = fn.n ∧ EvC Γ (CallN Γ Xt n) fn.body (St.init args m) e st' ∧ (e = .nor ∨ e = .ret) ∧ readRes st' fn.res = some raw ∧
      passRes (Γ.sig f).keep raw = some res ∧ m' = st'.mem

end Go.Pv
