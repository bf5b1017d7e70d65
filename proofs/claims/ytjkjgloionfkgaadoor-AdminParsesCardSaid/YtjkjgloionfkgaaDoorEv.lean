/- An evaluator over plain values for the part of the machine's code that this program uses; no memory of the machine and no tape stand in it. -/
import GoSem.Core.Value
import GoSem.Core.View
import GoSem.Core.Utf8

namespace Go.Abs

/-- Plain data: what a value leads to in memory that is never written again. -/
inductive PV where
  | bool (b : Bool)
  | int (k : IntKind) (n : Int)
  | str (s : List UInt8)
  | nilPtr | nilIface | nilFunc | nilMap
  | iface (t : Nat) (v : PV)
  | agg (cs : List PV)
  | slice (sz : Nat) (xs : List PV)
  | nilS (sz : Nat)
  | ptr (v : PV)
  | fn (f : Nat)
  deriving Inhabited

inductive Key where
  | v (i : Nat) | t (j : Nat) | c (l k : Nat)
  deriving DecidableEq, Inhabited

inductive AV where
  | p (v : PV)
  | own (fz : Bool) (sz : Nat) (xs : List PV)
  | lent (k : Key)
  | eref (k : Key) (i off : Nat)
  | ref (l off : Nat)
  | mref (l : Nat)
  | fn (f : Nat) (first cap : List AV)
  | agg (cs : List AV)
  | tup (cs : List AV)
  | sl (xs : List AV)
  | pt (a : AV)
  | undef
  deriving Inhabited

inductive Kind where
  | box | iter | map
  deriving DecidableEq, Inhabited

structure Obj where
  kind : Kind
  cells : List AV
  deriving Inhabited

structure St where
  vars : List AV
  tmps : List AV
  heap : List Obj
  deriving Inhabited

inductive Opd where
  | v (i : Nat) | t (j : Nat) | k (p : PV) | f (n : Nat)
  deriving Inhabited

inductive Sh where
  | s | a (n : Nat)
  deriving DecidableEq, Inhabited

inductive Part where
  | z (v : AV) | o (x : Opd) (sh : Sh)
  deriving Inhabited

inductive BOp where
  | add | sub | mul | quo | rem | lss | leq | gtr | geq | eql | neq | and | or | shr | shl | xor
  deriving DecidableEq, Inhabited
/-- What a type's values are, where they are compared. -/
inductive EqK where
  | bool | int | str | iface | func | ptr | agg (ks : List EqK)
  deriving Inhabited
inductive UOp where
  | not | neg
  deriving DecidableEq, Inhabited

inductive AOp where
  | mv (x : Opd)
  | asg (x : Opd)
  | pick (c a b : Opd)
  | alloc (zero : List AV)
  | box (x : Opd) (sh : Sh)
  | build (parts : List Part)
  | bslice (fz : Bool) (sz : Nat) (parts : List (Opd × Sh))
  | ld (x : Opd) (sh : Sh)
  | st (x y : Opd) (sh : Sh)
  | nilck (x : Opd)
  | bin (op : BOp) (x y : Opd)
  | eq (neg : Bool) (k : EqK) (x y : Opd)
  | un (op : UOp) (x : Opd)
  | conv (k : IntKind) (x : Opd)
  | cstr (x : Opd)
  | mkif (t : Nat) (x : Opd)
  | fld (x : Opd) (off : Nat) (sh : Sh)
  | faddr (x : Opd) (off : Nat) (sh : Sh)
  | iaddr (x i : Opd) (sz : Nat) (sh : Sh)
  | idx (x i : Opd)
  | sslc (x : Opd) (lo hi : Option Opd)
  | slc (x : Opd) (lo hi : Option Opd) (sz : Nat)
  | slc0 (x a b c : Opd) (sz : Nat)
  | ext (x : Opd) (i : Nat)
  | tas (x : Opd) (t : Nat) (zero : Option PV)
  | call (q : Bool) (f : Nat) (args : List Opd)
  | callv (q : Bool) (x : Opd) (args : List Opd)
  | inv (q : Bool) (x : Opd) (tbl : List (Nat × Nat)) (args : List Opd)
  | len (x : Opd)
  | slen (x : Opd)
  | app (x y : Opd) (fz : Bool) (sz bytes : Nat)
  | mn (args : List Opd) | mx (args : List Opd)
  | mkfn (f : Nat) (first cap : List Opd)
  | range (x : Opd)
  | next (x : Opd)
  | mkmap
  | look (x k : Opd) (ok : Bool) (zero : PV)
  | mset (x k y : Opd)
  deriving Inhabited

/-- An operation: where its value is laid (the variable 'd', or a temporary of its own; 'nd': nowhere), its guard, and, where the order is open, the operations that surely stand ahead of it. -/
structure GOp where
  op : AOp
  d : Option Nat := none
  g : Option (Opd × Bool) := none
  nd : Bool := false
  D : List Nat := []
  deriving Inhabited

/-- A stretch of a region whose order is open: operations that change nothing, operations of earlier stretches that may still stand here, and an operation that changes something. -/
structure Ph where
  qs : List Nat
  again : List Nat
  k : Option Nat
  deriving Inhabited

inductive ACode where
  | skip
  | reg (frz : List Key) (ops : List GOp)
  | dreg (frz : List Key) (ops : List GOp) (phs : List Ph)
  | seq (a b : ACode)
  | ifc (x : Opd) (a b : ACode)
  | blk (id : Nat) (keep : List Nat) (b : ACode)
  | loop (keep : List Nat) (b : ACode)
  | exit (id : Nat)
  | ret
  deriving Inhabited

inductive Res where
  | v (i : Nat) | c (i : Nat) (sh : Sh)
  deriving Inhabited

structure AFun where
  np : Nat
  nv : Nat
  sl : List Nat
  res : List Res
  body : ACode
  deriving Inhabited

/-! ## Reading the state -/
def getK (s : St) : Key → AV
  | .v i => s.vars.getD i .undef
  | .t j => s.tmps.getD j .undef
  | .c l k => ((s.heap[l]?).map (fun o => o.cells.getD k .undef)).getD .undef
def setK (s : St) (k : Key) (a : AV) : St :=
  match k with
  | .v i => { s with vars := s.vars.set i a }
  | .t j => { s with tmps := s.tmps.set j a }
  | .c l k => { s with heap := s.heap.modify l (fun o => { o with cells := o.cells.set k a }) }
def dropK (k : Key) : AV → AV
  | .lent k' => if k' = k then .undef else .lent k'
  | .eref k' i o => if k' = k then .undef else .eref k' i o
  | a => a
/-- What leads to the row that stood at a key is forgotten. -/
def inval (s : St) (k : Key) : St := { s with vars := s.vars.map (dropK k), tmps := s.tmps.map (dropK k) }
def isOwn : AV → Bool
  | .own .. => true
  | _ => false
/-- A store at a key. -/
def putK (s : St) (k : Key) (a : AV) : St := if isOwn (getK s k) then setK (inval s k) k a else setK s k a

def val (s : St) : Opd → AV
  | .v i => s.vars.getD i .undef
  | .t j => s.tmps.getD j .undef
  | .k p => .p p
  | .f n => .p (.fn n)
/-- A value as it is copied: of an owned row only a loan. -/
def copy (s : St) (x : Opd) : AV :=
  match x, val s x with
  | .v i, .own .. => .lent (.v i)
  | .t j, .own .. => .lent (.t j)
  | _, a => a
/-- The row that a value is, if it is one. -/
def rowOf (s : St) : AV → Option (Bool × Nat × List PV)
  | .p (.slice sz xs) => some (true, sz, xs)
  | .p (.nilS sz) => some (true, sz, [])
  | .own fz sz xs => some (fz, sz, xs)
  | .lent k => match getK s k with
    | .own fz sz xs => some (fz, sz, xs)
    | _ => none
  | _ => none
/-- A value that may be handed on: rows that may still be written may not. -/
def give (s : St) : AV → Option AV
  | .own fz sz xs => if fz || xs.isEmpty then some (.p (.slice sz xs)) else none
  | .lent k => match getK s k with
    | .own fz sz xs => if fz || xs.isEmpty then some (.p (.slice sz xs)) else none
    | _ => none
  | .eref .. => none
  | .undef => none
  | a => some a
def giveP (s : St) (a : AV) : Option PV :=
  match give s a with
  | some (.p v) => some v
  | _ => none
def giveAll (s : St) : List Opd → Option (List AV)
  | [] => some []
  | x :: r => match give s (val s x), giveAll s r with
    | some a, some l => some (a :: l)
    | _, _ => none
def allP : List AV → Option (List PV)
  | [] => some []
  | .p v :: r => match allP r with
    | some l => some (v :: l)
    | none => none
  | _ :: _ => none
def mkAgg (cs : List AV) : AV := match allP cs with | some l => .p (.agg l) | none => .agg cs
def mkTup (cs : List AV) : AV := .tup cs
/-- The cells of a value of a shape. -/
def cellsOf (sh : Sh) (a : AV) : Option (List AV) :=
  match sh, a with
  | .s, .p (.agg _) => none
  | .s, .agg _ => none
  | .s, .tup _ => none
  | .s, .undef => none
  | .s, .lent _ => none
  | .s, .eref .. => none
  | .s, a => some [a]
  | .a n, .p (.agg cs) => if cs.length = n then some (cs.map AV.p) else none
  | .a n, .agg cs => if cs.length = n then some cs else none
  | .a _, _ => none
def isAggP : PV → Bool
  | .agg _ => true
  | _ => false
def fromCells (sh : Sh) (cs : List AV) : Option AV :=
  match sh with
  | .s => match cs with | [a] => some a | _ => none
  | .a n => if cs.length = n then some (mkAgg cs) else none
/-- Plain data out of the middle of plain data. -/
def subP (v : PV) (off : Nat) (sh : Sh) : Option PV :=
  match v with
  | .agg cs => match sh with
    | .s => match cs[off]? with
      | some (.agg _) => none
      | x => x
    | .a n => if off + n ≤ cs.length then some (.agg ((cs.drop off).take n)) else none
  | v => match sh with
    | .s => if off = 0 then some v else none
    | .a _ => none
def shapeOk (sh : Sh) (v : PV) : Bool :=
  match sh, v with
  | .s, .agg _ => false
  | .s, _ => true
  | .a n, .agg cs => cs.length == n
  | .a _, _ => false
def loan (l : Nat) (off : Nat) (a : AV) : AV := if isOwn a then .lent (.c l off) else a
def giveCells (s : St) : List AV → Option (List AV)
  | [] => some []
  | a :: r => match give s a, giveCells s r with
    | some b, some l => some (b :: l)
    | _, _ => none
def load (s : St) (sh : Sh) : AV → Option AV
  | .p (.ptr v) => if shapeOk sh v then some (.p v) else none
  | .pt a => match sh with
    | .s => some a
    | .a _ => none
  | .ref l off => match s.heap[l]? with
    | some ⟨.box, cs⟩ => match sh with
      | .s => match cs[off]? with
        | some a => some (loan l off a)
        | none => none
      | .a n => if off + n ≤ cs.length then match giveCells s ((cs.drop off).take n) with
          | some r => fromCells (.a n) r
          | none => none
        else none
    | _ => none
  | .eref k i off => match getK s k with
    | .own _ _ xs => match xs[i]? with
      | some v => (subP v off sh).map AV.p
      | none => none
    | _ => none
  | _ => none

/-! ## Taking a value out of its place -/
/-- What is laid into a variable or a cell: an owned row moves there out of a temporary. -/
def take (s : St) (x : Opd) : Option (AV × St) :=
  match x, val s x with
  | .t j, .own fz sz xs => some (.own fz sz xs, setK (inval s (.t j)) (.t j) (if fz then .p (.slice sz xs) else .undef))
  | _, .p (.nilS sz) => some (.own true sz [], s)
  | _, .eref k i o => some (.eref k i o, s)
  | _, .undef => some (.undef, s)
  | _, a => (give s a).map fun b => (b, s)
/-- As it lies in a cell: of the nil row the owner. -/
def lay : AV → AV
  | .p (.nilS sz) => .own true sz []
  | a => a
def setCells (s : St) (l : Nat) : Nat → List AV → St
  | _, [] => s
  | off, a :: r => setCells (putK s (.c l off) (lay a)) l (off + 1) r
def noLoan : AV → Bool
  | .lent _ | .eref .. | .undef => false
  | _ => true
def asPs : List AV → Option (List PV) := allP
def store (s : St) (sh : Sh) (a : AV) (x : Opd) : Option St :=
  match a with
  | .ref l off => match s.heap[l]? with
    | some ⟨.box, cs⟩ => match take s x with
      | some (v, s') => if noLoan v then match cellsOf sh v with
          | some l' => if off + l'.length ≤ cs.length then some (setCells s' l off l') else none
          | none => none
        else none
      | none => none
    | _ => none
  | .eref k i off => match getK s k with
    | .own false sz xs => match give s (val s x) with
      | some v => match cellsOf sh v with
        | some l' => match allP l', xs[i]? with
          | some ps, some (.agg cs) => if off + ps.length ≤ cs.length then some (setK s k (.own false sz (xs.set i (.agg (cs.take off ++ ps ++ cs.drop (off + ps.length)))))) else none
          | some [q], some w => if isAggP w then none else if isAggP q then none else if off = 0 then some (setK s k (.own false sz (xs.set i q))) else none
          | _, _ => none
        | none => none
      | none => none
    | _ => none
  | _ => none

/-! ## Operations on plain data -/
def ltL : List UInt8 → List UInt8 → Bool
  | _, [] => false
  | [], _ :: _ => true
  | a :: x, b :: y => decide (a < b) || (a == b && ltL x y)
def binInt (op : BOp) (k : IntKind) (a b : Int) : Option PV :=
  match op with
  | .add => some (.int k (k.wrap (a + b)))
  | .sub => some (.int k (k.wrap (a - b)))
  | .mul => some (.int k (k.wrap (a * b)))
  | .quo => if b = 0 then none else some (.int k (k.wrap (a.tdiv b)))
  | .rem => if b = 0 then none else some (.int k (a.tmod b))
  | .lss => some (.bool (decide (a < b)))
  | .leq => some (.bool (decide (a ≤ b)))
  | .gtr => some (.bool (decide (a > b)))
  | .geq => some (.bool (decide (a ≥ b)))
  | .eql => some (.bool (a == b))
  | .neq => some (.bool (a != b))
  | _ => none
def maxStr : Nat := 2 ^ 40
def binStr (op : BOp) (a b : List UInt8) : Option PV :=
  match op with
  | .add => if a.length + b.length ≤ maxStr then some (.str (a ++ b)) else none
  | .eql => some (.bool (decide (a = b)))
  | .neq => some (.bool (!decide (a = b)))
  | .lss => some (.bool (ltL a b))
  | .leq => some (.bool (ltL a b || decide (a = b)))
  | .gtr => some (.bool (!(ltL a b || decide (a = b))))
  | .geq => some (.bool (!ltL a b))
  | _ => none
def binP (op : BOp) (x y : PV) : Option PV :=
  match x, y with
  | .int j a, .int k b => if j = k then binInt op k a b else none
  | .str a, .str b => binStr op a b
  | _, _ => none
def eqScalar (k : EqK) (x y : PV) : Option Bool :=
  match k, x, y with
  | .bool, .bool a, .bool b => some (a == b)
  | .int, .int j a, .int k b => if j = k then some (a == b) else none
  | .str, .str a, .str b => some (decide (a = b))
  | _, _, _ => none
def eqCells : List EqK → List PV → List PV → Option Bool
  | [], [], [] => some true
  | k :: ks, a :: r, b :: q => match eqScalar k a b, eqCells ks r q with
    | some x, some y => some (x && y)
    | _, _ => none
  | _, _, _ => none
def eqA (k : EqK) (x y : AV) : Option Bool :=
  match k, x, y with
  | .iface, .p .nilIface, .p .nilIface => some true
  | .iface, .p .nilIface, .p (.iface _ _) => some false
  | .iface, .p (.iface _ _), .p .nilIface => some false
  | .func, .p .nilFunc, .p .nilFunc => some true
  | .func, .p (.fn _), .p .nilFunc => some false
  | .func, .fn _ _ _, .p .nilFunc => some false
  | .ptr, .p .nilPtr, .p .nilPtr => some true
  | .ptr, .p (.ptr _), .p .nilPtr => some false
  | .ptr, .ref _ _, .p .nilPtr => some false
  | .agg ks, .p (.agg a), .p (.agg b) => eqCells ks a b
  | .bool, .p a, .p b => eqScalar .bool a b
  | _, _, _ => none

/-! ## What a call hands over: the objects that its arguments lead to -/
mutual
def refs : AV → List Nat
  | .ref l _ => [l]
  | .mref l => [l]
  | .fn _ a b => refsL a ++ refsL b
  | .agg cs => refsL cs
  | .tup cs => refsL cs
  | .sl cs => refsL cs
  | .pt a => refs a
  | _ => []
def refsL : List AV → List Nat
  | [] => []
  | a :: r => refs a ++ refsL r
end
def addNew : List Nat → List Nat → List Nat
  | [], seen => seen
  | l :: r, seen => if seen.contains l then addNew r seen else addNew r (seen ++ [l])
/-- All that is reached, in the order in which it is met. -/
def reach (h : List Obj) : Nat → Nat → List Nat → List Nat
  | 0, _, seen => seen
  | n + 1, i, seen => match seen[i]? with
    | none => seen
    | some l => reach h n (i + 1) (addNew (((h[l]?).map fun o => refsL o.cells).getD []) seen)
def findIx (l : Nat) : List Nat → Nat → Option Nat
  | [], _ => none
  | x :: r, i => if x = l then some i else findIx l r (i + 1)
mutual
def ren (m : Nat → Option Nat) : AV → Option AV
  | .ref l o => (m l).map fun l' => .ref l' o
  | .mref l => (m l).map fun l' => .mref l'
  | .fn f a b => match renL m a, renL m b with
    | some a, some b => some (.fn f a b)
    | _, _ => none
  | .agg cs => (renL m cs).map AV.agg
  | .tup cs => (renL m cs).map AV.tup
  | .sl cs => (renL m cs).map AV.sl
  | .pt a => (ren m a).map AV.pt
  | .lent _ => none
  | .eref .. => none
  | .undef => some .undef
  | .p v => some (.p v)
  | .own a b c => some (.own a b c)
def renL (m : Nat → Option Nat) : List AV → Option (List AV)
  | [] => some []
  | a :: r => match ren m a, renL m r with
    | some a, some r => some (a :: r)
    | _, _ => none
end
def renObj (m : Nat → Option Nat) (o : Obj) : Option Obj := (renL m o.cells).map fun cs => { o with cells := cs }
def renObjs (m : Nat → Option Nat) : List Obj → Option (List Obj)
  | [] => some []
  | o :: r => match renObj m o, renObjs m r with
    | some o, some r => some (o :: r)
    | _, _ => none
def pickObjs (h : List Obj) : List Nat → Option (List Obj)
  | [] => some []
  | l :: r => match h[l]?, pickObjs h r with
    | some o, some q => some (o :: q)
    | _, _ => none
def putObjs (h : List Obj) : List Nat → List Obj → List Obj
  | l :: r, o :: q => putObjs (h.set l o) r q
  | _, _ => h

abbrev Calls := Nat → List AV → List Obj → Option (AV × List Obj)

/-- Loans of cells of objects that a call may write are forgotten. -/
def dropL (ls : List Nat) : AV → AV
  | .lent (.c l k) => if ls.contains l then .undef else .lent (.c l k)
  | .eref (.c l k) i o => if ls.contains l then .undef else .eref (.c l k) i o
  | a => a
def hasNew (n : Nat) (l : List AV) : Bool := (refsL l).any fun x => decide (n ≤ x)
def objCells : List Obj → List AV
  | [] => []
  | o :: r => o.cells ++ objCells r
def backTo (ls : List Nat) (n k i : Nat) : Option Nat := if i < ls.length then ls[i]? else if i < k then some (n + (i - ls.length)) else none
/-- The objects that a call leaves behind: new ones only if something leads to them. -/
def keptObjs (ls : List Nat) (r : AV) (h' : List Obj) : List Obj := if hasNew ls.length (r :: objCells (h'.take ls.length)) then h' else h'.take ls.length
def callRefs (call : Calls) (s : St) (f : Nat) (args : List AV) (ls : List Nat) : Option (AV × St) :=
  match renL (fun l => findIx l ls 0) args, (pickObjs s.heap ls).bind (renObjs fun l => findIx l ls 0) with
  | some args', some objs => match call f args' objs with
    | some (r, h') =>
      match ren (backTo ls s.heap.length (keptObjs ls r h').length) r, renObjs (backTo ls s.heap.length (keptObjs ls r h').length) (keptObjs ls r h') with
      | some r', some h'' => some (r', { vars := s.vars.map (dropL ls), tmps := s.tmps.map (dropL ls), heap := putObjs s.heap ls h'' ++ h''.drop ls.length })
      | _, _ => none
    | none => none
  | _, _ => none
def doCall (call : Calls) (s : St) (q : Bool) (f : Nat) (args : List AV) : Option (AV × St) :=
  if (refsL args).isEmpty then match call f args [] with
    | some (r, _) => if (refs r).isEmpty then some (r, s) else if q then none else callRefs call s f args []
    | none => none
  else if q then none else callRefs call s f args (reach s.heap 40 0 (addNew (refsL args) []))

/-! ## Strings -/
/-- The code point that a text begins with, and how many bytes it has: as the machine's 'range' has it. -/
def decodeL (s : List UInt8) : Nat × Nat :=
  let at' (k : Nat) : Nat := (s.getD k 0).toNat
  let cont (k : Nat) : Bool := decide (k < s.length) && at' k / 64 == 2
  let b0 := at' 0
  if b0 < 0x80 then (b0, 1)
  else if b0 / 32 == 6 && cont 1 then
    let c := (b0 % 32) * 64 + at' 1 % 64
    if c ≥ 0x80 then (c, 2) else (Utf8.runeError, 1)
  else if b0 / 16 == 14 && cont 1 && cont 2 then
    let c := (b0 % 16) * 4096 + (at' 1 % 64) * 64 + at' 2 % 64
    if c ≥ 0x800 && Utf8.valid c then (c, 3) else (Utf8.runeError, 1)
  else if b0 / 8 == 30 && cont 1 && cont 2 && cont 3 then
    let c := (b0 % 8) * 262144 + (at' 1 % 64) * 4096 + (at' 2 % 64) * 64 + at' 3 % 64
    if c ≥ 0x10000 && Utf8.valid c then (c, 4) else (Utf8.runeError, 1)
  else (Utf8.runeError, 1)

/-! ## One operation: the value that it gives, and the state behind it -/
def boundOk (a b n : Int) : Bool := decide (0 ≤ a) && decide (a ≤ b) && decide (b ≤ n)
def optInt (s : St) (d : Int) : Option Opd → Option Int
  | none => some d
  | some x => match giveP s (val s x) with
    | some (.int _ n) => some n
    | _ => none
def doAppend (s : St) (x y : Opd) (fz : Bool) (sz bytes : Nat) : Option (AV × St) :=
  match rowOf s (copy s y) with
  | some (_, sy, ys) =>
    if ys.isEmpty then
      match copy s x with
      | .lent k => match getK s k with
        | .own f z xs => some (.own f z xs, setK (inval s k) k (if f then .p (.slice z xs) else .undef))
        | _ => none
      | .p (.nilS z) => some (.own true z [], s)
      | .p (.slice z xs) => some (.p (.slice z xs), s)
      | _ => none
    else if sy = sz then
      match copy s x with
      | .lent k => match getK s k with
        | .own f z xs => if z = sz ∧ (fz || !f || xs.isEmpty) = true ∧ (xs.length + ys.length) * bytes ≤ 2 ^ 46 then
            some (.own fz sz (xs ++ ys), setK (inval s k) k (if f then .p (.slice z xs) else .undef)) else none
        | _ => none
      | .p (.nilS _) => if ys.length * bytes ≤ 2 ^ 46 then some (.own fz sz ys, s) else none
      | _ => none
    else none
  | none => none
def partsP (s : St) : List Part → Option (List AV)
  | [] => some []
  | .z v :: r => match partsP s r with
    | some l => some (v :: l)
    | none => none
  | .o x sh :: r => match (give s (val s x)).bind (cellsOf sh), partsP s r with
    | some c, some l => some (c ++ l)
    | _, _ => none
def rowParts (s : St) : List (Opd × Sh) → Option (List AV)
  | [] => some []
  | (x, sh) :: r => match give s (val s x), rowParts s r with
    | some a, some l => if (cellsOf sh a).isSome then some (a :: l) else none
    | _, _ => none
def foldI (f : Int → Int → Int) (s : St) : List Opd → Option (IntKind × Int)
  | [] => none
  | [x] => match giveP s (val s x) with
    | some (.int k n) => some (k, n)
    | _ => none
  | x :: r => match giveP s (val s x), foldI f s r with
    | some (.int k n), some (j, m) => if k = j then some (k, f n m) else none
    | _, _ => none
def lookE (key : PV) : List PV → Option (Option PV)
  | [] => some none
  | .agg [.str k, v] :: r => match key with
    | .str q => if q = k then some (some v) else lookE key r
    | _ => none
  | _ :: _ => none
def putE (key v : PV) : List PV → Option (List PV)
  | [] => some [.agg [key, v]]
  | .agg [.str k, w] :: r => match key with
    | .str q => if q = k then some (.agg [.str k, v] :: r) else (putE key v r).map fun q => .agg [.str k, w] :: q
    | _ => none
  | _ :: _ => none

def evOp (call : Calls) (o : AOp) (s : St) : Option (AV × St) :=
  match o with
  | .mv x => some (copy s x, s)
  | .asg x => take s x
  | .pick c a b => match val s c with
    | .p (.bool t) => some (copy s (if t then a else b), s)
    | _ => none
  | .alloc z => some (.ref s.heap.length 0, { s with heap := s.heap ++ [⟨.box, z⟩] })
  | .box x sh => match give s (val s x) with
    | some a => match cellsOf sh a with
      | some cs => some (.ref s.heap.length 0, { s with heap := s.heap ++ [⟨.box, cs.map lay⟩] })
      | none => none
    | none => none
  | .build ps => match partsP s ps with
    | some cs => some (mkAgg cs, s)
    | none => none
  | .bslice fz sz ps => match rowParts s ps with
    | some l => match allP l with
      | some xs => some (.own fz sz xs, s)
      | none => if sz = 1 ∧ ps.all (fun p => decide (p.2 = .s)) = true then some (.sl l, s) else none
    | none => none
  | .ld x sh => (load s sh (copy s x)).map fun a => (a, s)
  | .st x y sh => (store s sh (copy s x) y).map fun s' => (.undef, s')
  | .nilck x => match copy s x with
    | .ref l o => some (.ref l o, s)
    | .eref k i o => some (.eref k i o, s)
    | .p (.ptr v) => some (.p (.ptr v), s)
    | .fn f a b => some (.fn f a b, s)
    | .p (.fn f) => some (.p (.fn f), s)
    | _ => none
  | .bin op x y => match val s x, val s y with
    | .p a, .p b => (binP op a b).map fun v => (.p v, s)
    | _, _ => none
  | .eq neg k x y => (eqA k (val s x) (val s y)).map fun b => (.p (.bool (b != neg)), s)
  | .un op x => match op, val s x with
    | .not, .p (.bool b) => some (.p (.bool (!b)), s)
    | .neg, .p (.int k n) => some (.p (.int k (k.wrap (-n))), s)
    | _, _ => none
  | .conv k x => match val s x with
    | .p (.int _ n) => some (.p (.int k (k.wrap n)), s)
    | _ => none
  | .cstr x => match val s x with
    | .p (.str b) => some (.p (.str b), s)
    | _ => none
  | .mkif t x => match give s (val s x) with
    | some (.p v) => some (.p (.iface t v), s)
    | _ => none
  | .fld x off sh => match val s x with
    | .p (.agg cs) => (subP (.agg cs) off sh).map fun w => (.p w, s)
    | _ => none
  | .faddr x off sh => match copy s x with
    | .ref l o => some (.ref l (o + off), s)
    | .eref k i o => some (.eref k i (o + off), s)
    | .p (.ptr v) => (subP v off sh).map fun w => (.p (.ptr w), s)
    | _ => none
  | .iaddr x i sz sh => match giveP s (val s i) with
    | some (.int _ n) => match copy s x with
      | .sl l => if 0 ≤ n ∧ sz = 1 then (l[n.toNat]?).map fun a => (.pt a, s) else none
      | a => match rowOf s a with
        | some (fz, z, xs) => if z = sz && decide (0 ≤ n) then match xs[n.toNat]? with
            | some v => if shapeOk sh v then
                if fz then some (.p (.ptr v), s) else match a with
                  | .lent k => some (.eref k n.toNat 0, s)
                  | _ => none
              else none
            | none => none
          else none
        | none => none
    | _ => none
  | .idx x i => match val s x, giveP s (val s i) with
    | .p (.str b), some (.int _ n) => if 0 ≤ n then (b[n.toNat]?).map fun c => (.p (.int .u8 c.toNat), s) else none
    | _, _ => none
  | .sslc x lo hi => match val s x with
    | .p (.str b) => match optInt s 0 lo, optInt s b.length hi with
      | some i, some j => if boundOk i j b.length then some (.p (.str ((b.drop i.toNat).take (j.toNat - i.toNat))), s) else none
      | _, _ => none
    | _ => none
  | .slc x lo hi sz => match rowOf s (copy s x) with
    | some (fz, z, xs) => match optInt s 0 lo, optInt s xs.length hi with
      | some i, some j => if boundOk i j xs.length && (fz || xs.isEmpty) && z == sz then some (.p (.slice z ((xs.drop i.toNat).take (j.toNat - i.toNat))), s) else none
      | _, _ => none
    | none => none
  | .slc0 x a b c sz => match rowOf s (copy s x), giveP s (val s a), giveP s (val s b), giveP s (val s c) with
    | some _, some (.int _ 0), some (.int _ 0), some (.int _ 0) => some (.own true sz [], s)
    | _, _, _, _ => none
  | .ext x i => match val s x with
    | .tup l => match l[i]? with
      | some a => (give s a).map fun b => (b, s)
      | none => none
    | _ => none
  | .tas x t zero => match val s x with
    | .p (.iface u v) => match zero with
      | some z => if u = t then some (.tup [.p v, .p (.bool true)], s) else some (.tup [.p z, .p (.bool false)], s)
      | none => if u = t then some (.p v, s) else none
    | .p .nilIface => zero.map fun z => (.tup [.p z, .p (.bool false)], s)
    | _ => none
  | .call q f args => (giveAll s args).bind (doCall call s q f)
  | .callv q x args => match val s x, giveAll s args with
    | .p (.fn f), some l => doCall call s q f l
    | .fn f first cap, some l => doCall call s q f (first ++ l ++ cap)
    | _, _ => none
  | .inv q x tbl args => match val s x, giveAll s args with
    | .p (.iface t v), some l => match tbl.lookup t with
      | some f => doCall call s q f (.p v :: l)
      | none => none
    | _, _ => none
  | .slen x => match val s x with
    | .p (.str b) => some (.p (.int .i64 b.length), s)
    | _ => none
  | .len x => match copy s x with
    | .sl l => some (.p (.int .i64 l.length), s)
    | a => match rowOf s a with
      | some (_, _, xs) => some (.p (.int .i64 xs.length), s)
      | none => none
  | .app x y fz sz bytes => doAppend s x y fz sz bytes
  | .mn l => (foldI (fun a b => if a < b then a else b) s l).map fun (k, n) => (.p (.int k n), s)
  | .mx l => (foldI (fun a b => if a > b then a else b) s l).map fun (k, n) => (.p (.int k n), s)
  | .mkfn f first cap => match giveAll s first, giveAll s cap with
    | some [], some [] => some (.p (.fn f), s)
    | some a, some b => some (.fn f a b, s)
    | _, _ => none
  | .range x => match val s x with
    | .p (.str b) => some (.ref s.heap.length 0, { s with heap := s.heap ++ [⟨.iter, [.p (.str b), .p (.int .i64 0)]⟩] })
    | _ => none
  | .next x => match val s x with
    | .ref l 0 => match s.heap[l]? with
      | some ⟨.iter, [.p (.str b), .p (.int .i64 pos)]⟩ =>
        if pos < b.length then
          some (.tup [.p (.bool true), .p (.int .i64 pos), .p (.int .i32 (decodeL (b.drop pos.toNat)).1)],
            { s with heap := s.heap.set l ⟨.iter, [.p (.str b), .p (.int .i64 (pos + (decodeL (b.drop pos.toNat)).2))]⟩ })
        else some (.tup [.p (.bool false)], s)
      | _ => none
    | _ => none
  | .mkmap => some (.mref s.heap.length, { s with heap := s.heap ++ [⟨.map, [.p (.slice 2 [])]⟩] })
  | .look x k ok zero => match val s x, giveP s (val s k) with
    | .mref l, some (.str key) => match s.heap[l]? with
      | some ⟨.map, [.p (.slice 2 es)]⟩ => match lookE (.str key) es with
        | some (some v) => some (if ok then .tup [.p v, .p (.bool true)] else .p v, s)
        | some none => some (if ok then .tup [.p zero, .p (.bool false)] else .p zero, s)
        | none => none
      | _ => none
    | _, _ => none
  | .mset x k y => match val s x, giveP s (val s k), giveP s (val s y) with
    | .mref l, some (.str key), some v => match s.heap[l]? with
      | some ⟨.map, [.p (.slice 2 es)]⟩ => match putE (.str key) v es with
        | some es' => if isAggP v then none else some (.undef, { s with heap := s.heap.set l ⟨.map, [.p (.slice 2 es')]⟩ })
        | none => none
      | _ => none
    | _, _, _ => none

/-! ## Regions, code, calls -/
def wantedG (s : St) : Option (Opd × Bool) → Option Bool
  | none => some true
  | some (x, b) => match val s x with
    | .p (.bool t) => some (t == b)
    | .tup _ => some false
    | _ => none
/-- A value as it may lie at a key: a loan stays in a temporary alone, and none at the key from which it comes. -/
def fitDst (s : St) (κ : Key) : AV → AV
  | .lent k => match κ with
    | .v _ => (give s (.lent k)).getD .undef
    | _ => if k = κ then .undef else .lent k
  | .eref k i o => if k = κ then .undef else .eref k i o
  | a => a
def dstKey (j : Nat) : Option Nat → Key
  | none => .t j
  | some i => .v i
/-- Where an operation's value is laid: a temporary, or a variable. -/
def putRes (s : St) (j : Nat) (d : Option Nat) (a : AV) : St := putK s (dstKey j d) (fitDst s (dstKey j d) a)
def lay1 (o : GOp) (j : Nat) (s : St) (a : AV) : St := if o.nd then s else putRes s j o.d a
def evOps (call : Calls) : List GOp → Nat → St → Option St
  | [], _, s => some s
  | o :: r, j, s => match wantedG s o.g with
    | some true => match evOp call o.op s with
      | some (a, s') => evOps call r (j + 1) (lay1 o j s' a)
      | none => none
    | some false => evOps call r (j + 1) (lay1 o j s (.tup []))
    | none => none
/-- A row that may be written is one no more. -/
def freezeK (s : St) (k : Key) : Option St :=
  match getK s k with
  | .own _ sz xs => some (setK s k (.own true sz xs))
  | _ => none
def freezeAll : List Key → St → Option St
  | [], s => some s
  | k :: r, s => (freezeK s k).bind (freezeAll r)
/-! ## Regions whose order is open -/
mutual
def eqPV : PV → PV → Bool
  | .bool a, .bool b => a == b
  | .int j a, .int k b => decide (j = k) && decide (a = b)
  | .str a, .str b => decide (a = b)
  | .nilPtr, .nilPtr | .nilIface, .nilIface | .nilFunc, .nilFunc | .nilMap, .nilMap => true
  | .iface t a, .iface u b => decide (t = u) && eqPV a b
  | .agg a, .agg b => eqPVs a b
  | .slice n a, .slice m b => decide (n = m) && eqPVs a b
  | .nilS n, .nilS m => decide (n = m)
  | .ptr a, .ptr b => eqPV a b
  | .fn a, .fn b => decide (a = b)
  | _, _ => false
def eqPVs : List PV → List PV → Bool
  | [], [] => true
  | a :: r, b :: q => eqPV a b && eqPVs r q
  | _, _ => false
end
mutual
def eqAV : AV → AV → Bool
  | .p a, .p b => eqPV a b
  | .own f n a, .own g m b => f == g && decide (n = m) && eqPVs a b
  | .ref l o, .ref m q => decide (l = m) && decide (o = q)
  | .mref l, .mref m => decide (l = m)
  | .fn f a b, .fn g c d => decide (f = g) && eqAVs a c && eqAVs b d
  | .agg a, .agg b => eqAVs a b
  | .tup a, .tup b => eqAVs a b
  | .sl a, .sl b => eqAVs a b
  | .pt a, .pt b => eqAV a b
  | .undef, .undef => true
  | _, _ => false
def eqAVs : List AV → List AV → Bool
  | [], [] => true
  | a :: r, b :: q => eqAV a b && eqAVs r q
  | _, _ => false
end
def maskL (D : List Nat) : List AV → Nat → List AV
  | [], _ => []
  | a :: r, i => (if D.contains i then a else .undef) :: maskL D r (i + 1)
/-- Of the temporaries only those that surely are laid. -/
def mask (D : List Nat) (s : St) : St := { s with tmps := maskL D s.tmps 0 }
/-- Operations that change no state. -/
def isPure : AOp → Bool
  | .mv _ | .pick .. | .build _ | .bslice .. | .ld .. | .nilck _ | .bin .. | .eq .. | .un .. | .conv .. | .cstr _ | .mkif .. | .fld .. | .faddr .. | .iaddr .. | .idx .. | .sslc .. | .slc .. | .slc0 ..
  | .ext .. | .tas .. | .len _ | .slen _ | .mn _ | .mx _ | .mkfn .. | .look .. => true
  | .call q _ _ | .callv q _ _ | .inv q _ _ _ => q
  | _ => false
def noLoanA : AV → Bool
  | .lent _ | .eref .. => false
  | _ => true
/-- What an operation that changes nothing gives. -/
def evQ (call : Calls) (o : GOp) (s : St) : Option AV :=
  match wantedG (mask o.D s) o.g with
  | some true => (evOp call o.op (mask o.D s)).map (·.1)
  | some false => some (.tup [])
  | none => none
def layQ (o : GOp) (j : Nat) (s : St) (a : AV) : St := { s with tmps := s.tmps.set j (if o.nd then .undef else fitDst s (.t j) a) }
def evQs (call : Calls) (ops : List GOp) : List Nat → St → Option St
  | [], s => some s
  | j :: r, s => match ops[j]? with
    | some o => match evQ call o s with
      | some a => evQs call ops r (layQ o j s a)
      | none => none
    | none => none
def againOk (call : Calls) (ops : List GOp) (s : St) (j : Nat) : Bool :=
  match ops[j]? with
  | some o => match evQ call o s with
    | some a => noLoanA a && eqAV (s.tmps.getD j .undef) (if o.nd then .undef else a)
    | none => false
  | none => false
def mergeL (D : List Nat) : List AV → List AV → Nat → List AV
  | a :: r, b :: q, i => (if D.contains i then a else b) :: mergeL D r q (i + 1)
  | _, q, _ => q
/-- Of the temporaries that are not surely laid none is on loan. -/
def freeL (D : List Nat) : List AV → Nat → Bool
  | [], _ => true
  | a :: r, i => (D.contains i || noLoanA a) && freeL D r (i + 1)
def layK (o : GOp) (k : Nat) (s : St) (a : AV) : St :=
  if o.nd then { s with tmps := s.tmps.set k .undef }
  else match o.d with
    | none => { s with tmps := s.tmps.set k a }
    | some i => { putK s (.v i) a with tmps := (putK s (.v i) a).tmps.set k .undef }
/-- An operation that changes something. -/
def evK (call : Calls) (o : GOp) (k : Nat) (s : St) : Option St :=
  match wantedG (mask o.D s) o.g with
  | some true => match evOp call o.op (mask o.D s) with
    | some (a, s1) => if noLoanA a && freeL o.D s.tmps 0 then some (layK o k { s1 with tmps := mergeL o.D s1.tmps s.tmps 0 } a) else none
    | none => none
  | some false => some (layK o k s (.tup []))
  | none => none
def evPhs (call : Calls) (ops : List GOp) : List Ph → St → Option St
  | [], s => some s
  | ph :: r, s => match evQs call ops ph.qs s with
    | some s1 => if ph.again.all (againOk call ops s1) then match ph.k with
        | some k => match ops[k]? with
          | some o => match evK call o k s1 with
            | some s2 => evPhs call ops r s2
            | none => none
          | none => none
        | none => evPhs call ops r s1
      else none
    | none => none

inductive Ex where
  | normal | exit (id : Nat) | ret
  deriving Inhabited, DecidableEq

/-- Behind a region its temporaries are gone. -/
def dropT : AV → AV
  | .lent (.t _) => .undef
  | .eref (.t _) _ _ => .undef
  | a => a
def cutA (n : Nat) (keep : List Nat) (a : AV) : AV :=
  if (refs a).all (fun x => decide (x < n)) then match a with
    | .lent (.c l k) => if l < n then .lent (.c l k) else .undef
    | .eref (.c l k) i o => if l < n then .eref (.c l k) i o else .undef
    | .lent (.t _) => .undef
    | .eref (.t _) _ _ => .undef
    | .lent (.v i) => if keep.contains i then .lent (.v i) else .undef
    | .eref (.v i) j o => if keep.contains i then .eref (.v i) j o else .undef
    | a => a
  else .undef
def cutV (n : Nat) (keep : List Nat) : List AV → Nat → List AV
  | [], _ => []
  | a :: r, i => (if keep.contains i then cutA n keep a else .undef) :: cutV n keep r (i + 1)
/-- What a loop or a block leaves behind: the variables that are used later, the objects that were there before. -/
def clean (n : Nat) (keep : List Nat) (s : St) : Option St :=
  if (refsL (objCells (s.heap.take n))).all (fun x => decide (x < n)) then some { vars := cutV n keep s.vars 0, tmps := [], heap := s.heap.take n } else none

def iterate (f : St → Option (Ex × St)) (c : St → Option St) : Nat → St → Option (Ex × St)
  | 0, _ => none
  | n + 1, s => match f s with
    | some (.normal, s') => match c s' with
      | some s'' => iterate f c n s''
      | none => none
    | r => r

def evCode (call : Calls) (fuel : Nat) : ACode → St → Option (Ex × St)
  | .skip, s => some (.normal, s)
  | .reg fr ops, s => match freezeAll fr s with
    | some s1 => match evOps call ops 0 { s1 with tmps := List.replicate ops.length .undef } with
      | some s2 => some (.normal, { s2 with vars := s2.vars.map dropT, tmps := [] })
      | none => none
    | none => none
  | .dreg fr ops phs, s => match freezeAll fr s with
    | some s1 => match evPhs call ops phs { s1 with tmps := List.replicate ops.length .undef } with
      | some s2 => some (.normal, { s2 with vars := s2.vars.map dropT, tmps := [] })
      | none => none
    | none => none
  | .seq a b, s => match evCode call fuel a s with
    | some (.normal, s') => evCode call fuel b s'
    | r => r
  | .ifc x a b, s => match val s x with
    | .p (.bool true) => evCode call fuel a s
    | .p (.bool false) => evCode call fuel b s
    | _ => none
  | .blk id keep b, s => match evCode call fuel b s with
    | some (.exit id', s') => if id' = id then (clean s.heap.length keep s').map fun s'' => (.normal, s'') else some (.exit id', s')
    | some (.normal, s') => (clean s.heap.length keep s').map fun s'' => (.normal, s'')
    | r => r
  | .loop keep b, s => match clean s.heap.length keep s with
    | some s0 => iterate (evCode call fuel b) (clean s.heap.length keep) fuel s0
    | none => none
  | .exit id, s => some (.exit id, s)
  | .ret, s => some (.ret, s)

def resOf (s : St) : Res → Option AV
  | .v i => match s.vars.getD i .undef with
    | .own fz sz xs => some (.own fz sz xs)
    | .undef => none
    | a => give s a
  | .c i sh => match s.vars.getD i .undef with
    | .ref l o => (load s sh (.ref l o)).bind (give s)
    | _ => none
def giveRes (s : St) : List Res → Option (List AV)
  | [] => some []
  | r :: q => match resOf s r, giveRes s q with
    | some (.own fz sz xs), some l => if fz || xs.isEmpty then some (.p (.slice sz xs) :: l) else none
    | some a, some l => some (a :: l)
    | _, _ => none
def results (s : St) : List Res → Option AV
  | [r] => resOf s r
  | l => (giveRes s l).map AV.tup

def evFun (prim : Nat → Option (List AV → List Obj → Option (AV × List Obj))) (funs : Nat → Option AFun) (fuel : Nat) : Nat → Calls
  | 0, _, _, _ => none
  | n + 1, f, args, h => match prim f with
    | some g => g args h
    | none => match funs f with
      | none => none
      | some F => if args.length = F.np then
          match evCode (evFun prim funs fuel n) fuel F.body { vars := args ++ List.replicate (F.nv - F.np) .undef, tmps := [], heap := h } with
          | some (.exit _, _) => none
          | some (_, s) => (results s F.res).map fun r => (r, s.heap)
          | none => none
        else none
end Go.Abs
