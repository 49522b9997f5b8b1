/- An abstract evaluator for compiled Go code: values, heap, operations, control; and the compilation out of the model's code. -/
import Derived.Calls
import Derived.Orders
import Derived.Below
import Derived.Laws.Rows
import Derived.Laws.Entries
import Derived.Laws.Cells
import Derived.Laws.AppendOwn
import Derived.WalkKit
import Derived.Laws.MakeOwn
import Derived.Laws.Slices
import Derived.Laws.BytesString
import Derived.Deep.AppendSrc
import Derived.Laws.IdiomStrings
namespace Go.Ev
set_option linter.unusedVariables false

/-- Abstract values. 'fz': a slice that nobody writes any more, by value; 'ro': a pointer to cells that nobody writes; 'ptr', 'sl': into the abstract heap. -/
inductive AV where
  | int (k : IntKind) (n : Int)
  | bool (b : Bool)
  | str (s : ByteArray)
  | nilp | nils | nilm | nilf | nili
  | ptr (f d g off : Nat)
  | ro (cs : List AV)
  | sl (f d g sz off len : Nat)
  | fz (sz : Nat) (es : List AV) (cap : Option Nat)
  | agg (cs : List AV)
  | tup (vs : List AV)
  | func (f : Nat) (cap : List AV)
  | ifc (t : Nat) (v : AV)
  | any
  deriving Inhabited

inductive AR where
  | t (i : Nat)
  | c (v : AV)

/-- The kinds of compiled operations. -/
inductive AK where
  | mv | pick | bin (o : BinOp) | eqb (neq : Bool) | eqp (neq : Bool) | eqs (neq : Bool) | eqi (neq : Bool) | eqf (neq : Bool) | eqa (neq : Bool) | not | neg | cpl
  | conv (k : IntKind) | s2b | b2s | s2s
  | box | boxm (key : Nat) | new (zero : List AV) (key : Nat)
  | ld1 | ldn (n : Nat) | ld1r | ldnr (n : Nat) | ldk (key : Nat) | ldnk (n key : Nat) | st (n : Nat) | stk (n key : Nat) | fa (off : Nat) | fld1 (off : Nat) | fldn (off n : Nat)
  | ixS (sz : Nat) | ixP (len sz : Nat) | ixT | ixA1 (len : Nat) | ixAn (len sz : Nat)
  | slc (sz : Nat) (lo hi mx : Bool) | slcT (lo hi : Bool) | slp (len sz : Nat) (lo hi : Bool)
  | len | lenT | cap | app (sz by_ key : Nat) | apps (key : Nat) | lit (sz len : Nat) | litr (sz len : Nat) | litm (sz len key : Nat) | bld (zero : List AV) (ps : List (Nat × Nat))
  | mk (zero : AV) (by_ key : Nat)
  | ext (i : Nat) | nck | mn | mx | mkf (f : Nat) | ifc (t : Nat)
  | stf (n : Nat) | slcx (sz : Nat) (lo hi mx : Bool) | clr (sz : Nat) | apn (sz by_ key : Nat)
  | call (f mode : Nat) | callv (mode : Nat) | unk

structure Op where
  d : Option Nat
  g : Option (Nat × Bool)
  o : AK
  x : List AR

/-- At a loop's head: the temporaries that are dead, the rows that nobody reaches any more. -/
structure Mk where
  t : List Bool
  h : List Nat
inductive Cd where
  | skip | reg (ops : List Op) | regf (ops : List Op) (is : List Nat) | seq (a b : Cd) | cond (c : AR) (a b : Cd) | blk (id : Nat) (m : List Bool) (b : Cd) | loop (m : Mk) (b : Cd) | exit (id : Nat) | ret

inductive It where
  | c (c : Cd) | blk (id : Nat) (m : List Bool) | lp (m : Mk) (b : Cd) | ops (l : List Op) | frz (is : List Nat)

/-- The marked temporaries are no more known: nobody reads them. -/
def killM : List Bool → List AV → List AV
  | true :: m, _ :: t => .any :: killM m t
  | false :: m, a :: t => a :: killM m t
  | _, t => t

/-- The next generation of each name. -/
abbrev Ctr := Nat → Nat
def zeroC : Ctr := fun _ => 0
def bump (nx : Ctr) (d e : Nat) : Nat := if e = d then nx d + 1 else nx e
abbrev Heap := List (Nat × Nat × Nat × Option (List AV))

def getT : List AV → Nat → AV
  | [], _ => .any
  | a :: _, 0 => a
  | _ :: l, n + 1 => getT l n
def setT : List AV → Nat → AV → List AV
  | [], _, _ => []
  | _ :: l, 0, v => v :: l
  | a :: l, n + 1, v => a :: setT l n v
def put (t : List AV) : Option Nat → AV → List AV
  | none, _ => t
  | some d, v => setT t d v
def ev (t : List AV) : AR → AV
  | .t i => getT t i
  | .c v => v
def evs (t : List AV) : List AR → List AV
  | [] => []
  | x :: l => ev t x :: evs t l
/-- A value's cells; of what is not known: none. -/
def cells : AV → List AV
  | .agg cs => cs
  | .any => []
  | v => [v]
def scal1 : AV → Bool
  | .agg _ | .tup _ | .any => false
  | _ => true
/-- What leads to no memory. -/
def scal : AV → Bool
  | .int _ _ | .bool _ | .str _ | .nilp | .nils | .nilm | .nilf | .nili => true
  | .tup vs => vs.all fun v => match v with
    | .int _ _ | .bool _ | .str _ | .nilp | .nils | .nilm | .nilf | .nili => true
    | _ => false
  | _ => false

def find : Heap → Nat → Nat → Option (Nat × Option (List AV))
  | [], _, _ => none
  | (f', d', g, b) :: H, f, d => if d' = d ∧ f' = f then some (g, b) else find H f d
def setB : Heap → Nat → Nat → Nat → Option (List AV) → Heap
  | [], f, d, g, b => [(f, d, g, b)]
  | (f', d', g', b') :: H, f, d, g, b => if d' = d ∧ f' = f then (f, d, g, b) :: H else if d < d' then (f, d, g, b) :: (f', d', g', b') :: H else (f', d', g', b') :: setB H f d g b
def getB {α : Type} : Heap → Nat → Nat → Nat → (List AV → α) → α → α
  | [], _, _, _, _, bad => bad
  | (f', d', g', b) :: H, f, d, g, ok, bad =>
    if d' = d ∧ f' = f then (if g' = g then (match b with | some cs => ok cs | none => bad) else bad) else getB H f d g ok bad
/-- Without these entries. -/
def keyIn : List (Nat × Nat) → Nat → Nat → Bool
  | [], _, _ => false
  | (f', d') :: ks, f, d => if d' = d ∧ f' = f then true else keyIn ks f d
def kill (ids : List (Nat × Nat)) : Heap → Heap
  | [] => []
  | (f, d, g, b) :: H => if keyIn ids f d = true then kill ids H else (f, d, g, b) :: kill ids H

/-- Without the rows of these names of one frame. -/
def keysOf (φ : Nat) : List Nat → List (Nat × Nat)
  | [] => []
  | d :: ds => (φ, d) :: keysOf φ ds
def dropK (φ : Nat) (ds : List Nat) (H : Heap) : Heap := match ds with
  | [] => H
  | ds => kill (keysOf φ ds) H

def chunkN (sz : Nat) : Nat → List AV → List AV
  | 0, _ => []
  | n + 1, cs => .agg (cs.take sz) :: chunkN sz n (cs.drop sz)
def chunk (sz len : Nat) (cs : List AV) : List AV := if sz = 1 then cs else chunkN sz len cs

def mapK {α : Type} (f : AV → (AV → List (Nat × Nat) → α) → α → α) : List AV → (List AV → List (Nat × Nat) → α) → α → α
  | [], ok, _ => ok [] []
  | c :: cs, ok, bad => f c (fun c' i => mapK f cs (fun cs' j => ok (c' :: cs') (i ++ j)) bad) bad
/-- A value that nobody writes any more; the entries that it takes along. -/
def frzK {α : Type} : Nat → Heap → AV → (AV → List (Nat × Nat) → α) → α → α
  | 0, _, _, _, bad => bad
  | n + 1, H, v, ok, bad => match v with
    | .sl f d g sz off len => getB H f d g (fun cs =>
        if (off + len) * sz ≤ cs.length then mapK (frzK n H) ((cs.drop (off * sz)).take (len * sz)) (fun cs' i => ok (.fz sz (chunk sz len cs') none) ((f, d) :: i)) bad else bad) bad
    | .agg cs => mapK (frzK n H) cs (fun cs' i => ok (.agg cs') i) bad
    | .tup cs => mapK (frzK n H) cs (fun cs' i => ok (.tup cs') i) bad
    | .ifc t v => frzK n H v (fun v' i => ok (.ifc t v') i) bad
    | .func f cs => mapK (frzK n H) cs (fun cs' i => ok (.func f cs') i) bad
    | .ro cs => mapK (frzK n H) cs (fun cs' i => ok (.ro cs') i) bad
    | .ptr f d g off => if off = 0 then getB H f d g (fun cs => mapK (frzK n H) cs (fun cs' i => ok (.ro cs') ((f, d) :: i)) bad) bad else bad
    | .any => bad
    | v => ok v []

def ibits (o : BinOp) (k : IntKind) (x y : Int) : Int :=
  let a := BitVec.ofInt k.bits x
  let b := BitVec.ofInt k.bits y
  match o with
  | .and => k.wrap (a &&& b).toNat
  | .or => k.wrap (a ||| b).toNat
  | .xor => k.wrap (a ^^^ b).toNat
  | _ => k.wrap (a &&& ~~~b).toNat
def ishl (k : IntKind) (x y : Int) : Int := k.wrap (x * 2 ^ (min y.toNat k.bits))
def ishr (k : IntKind) (x y : Int) : Int := x.fdiv (2 ^ (min y.toNat k.bits))

def intK {α : Type} (o : BinOp) (k : IntKind) (a b : Int) (ok : AV → α) (bad : α) : α :=
  match o with
  | .add => ok (.int k (k.wrap (a + b)))
  | .sub => ok (.int k (k.wrap (a - b)))
  | .mul => ok (.int k (k.wrap (a * b)))
  | .quo => if b = 0 then bad else ok (.int k (k.wrap (a.tdiv b)))
  | .rem => if b = 0 then bad else ok (.int k (a.tmod b))
  | .and | .or | .xor | .andNot => ok (.int k (ibits o k a b))
  | .shl | .shr => bad
  | .eql => ok (.bool (decide (a = b)))
  | .neq => ok (.bool (!decide (a = b)))
  | .lss => ok (.bool (decide (a < b)))
  | .leq => ok (.bool (decide (a ≤ b)))
  | .gtr => ok (.bool (decide (b < a)))
  | .geq => ok (.bool (decide (b ≤ a)))
def strK {α : Type} (o : BinOp) (x y : ByteArray) (ok : AV → α) (bad : α) : α :=
  match o with
  | .add => if (x.size + y.size : Nat) ≤ 1099511627776 then ok (.str (x ++ y)) else bad
  | .eql => ok (.bool (x.toList == y.toList))
  | .neq => ok (.bool !(x.toList == y.toList))
  | .lss => ok (.bool (Op.bytesLess x.toList y.toList))
  | .leq => ok (.bool (Op.bytesLess x.toList y.toList || x.toList == y.toList))
  | .gtr => ok (.bool !(Op.bytesLess x.toList y.toList || x.toList == y.toList))
  | .geq => ok (.bool !(Op.bytesLess x.toList y.toList))
  | _ => bad
def binK {α : Type} (o : BinOp) (x y : AV) (ok : AV → α) (bad : α) : α :=
  match x, y with
  | .int k a, .int k' b => match o with
    | .shl => if b < 0 then bad else ok (.int k (ishl k a b))
    | .shr => if b < 0 then bad else ok (.int k (ishr k a b))
    | o => if k = k' then intK o k a b ok bad else bad
  | .str a, .str b => strK o a b ok bad
  | _, _ => bad
/-- Is a pointer nil? -/
def nilpK {α : Type} (x : AV) (ok : Bool → α) (bad : α) : α :=
  match x with
  | .nilp => ok true
  | .ptr .. | .ro _ => ok false
  | _ => bad
def nilsK {α : Type} (x : AV) (ok : Bool → α) (bad : α) : α :=
  match x with
  | .nils => ok true
  | .sl .. => ok false
  | .fz _ (_ :: _) _ => ok false
  | .fz _ [] (some _) => ok false
  | _ => bad
def nilfK {α : Type} (x : AV) (ok : Bool → α) (bad : α) : α :=
  match x with
  | .nilf => ok true
  | .func .. => ok false
  | _ => bad
def niliK {α : Type} (x : AV) (ok : Bool → α) (bad : α) : α :=
  match x with
  | .nili => ok true
  | .ifc .. => ok false
  | _ => bad
/-- Two rows of whole numbers. -/
def eqIntsK {α : Type} : List AV → List AV → (Bool → α) → α → α
  | [], [], ok, _ => ok true
  | .int k a :: x, .int k' b :: y, ok, bad => if k = k' then eqIntsK x y (fun r => ok (decide (a = b) && r)) bad else bad
  | _, _, _, bad => bad

def bytesOf : List AV → List UInt8
  | [] => []
  | .int _ n :: l => UInt8.ofNat n.toNat :: bytesOf l
  | _ :: l => 0 :: bytesOf l
def isBytes (l : List AV) : Bool := l.all fun x => match x with | .int .u8 n => decide (0 ≤ n ∧ n < 256) | _ => false
def avBytes (s : ByteArray) : List AV := s.data.toList.map fun b => .int .u8 b.toNat

/-- The parts' cells laid over zero cells. -/
def fillK {α : Type} : List (Nat × Nat) → List AV → List AV → (List AV → α) → α → α
  | [], [], cs, ok, _ => ok cs
  | (off, n) :: ps, v :: vs, cs, ok, bad =>
    if (cells v).length = n ∧ off + n ≤ cs.length then fillK ps vs (cs.take off ++ cells v ++ cs.drop (off + n)) ok bad else bad
  | _, _, _, _, bad => bad
/-- Elements of one size. -/
def allSz (sz : Nat) : List AV → Bool
  | [] => true
  | e :: l => (cells e).length == sz && (cells e).all scal1 && allSz sz l
def catCells : List AV → List AV
  | [] => []
  | e :: l => cells e ++ catCells l
def bndK {α : Type} (x : AV) (m : Nat) (ok : Nat → α) (bad : α) : α :=
  match x with
  | .int _ n => if 0 ≤ n ∧ n ≤ (m : Int) then ok n.toNat else bad
  | _ => bad
/-- A cut's bounds: lo, hi, max, as far as they are told. -/
def cutK {α : Type} (len : Nat) (lim : Nat) (lo hi mx : Bool) (vs : List AV) (ok : Nat → Nat → Option Nat → α) (bad : α) : α :=
  match lo, hi, mx, vs with
  | false, false, false, [] => ok 0 len none
  | true, false, false, [l] => bndK l len (fun l => ok l len none) bad
  | false, true, false, [h] => bndK h lim (fun h => ok 0 h none) bad
  | true, true, false, [l, h] => bndK h lim (fun h => bndK l h (fun l => ok l h none) bad) bad
  | false, true, true, [h, m] => bndK m lim (fun m => bndK h m (fun h => ok 0 h (some m)) bad) bad
  | true, true, true, [l, h, m] => bndK m lim (fun m => bndK h m (fun h => bndK l h (fun l => ok l h (some m)) bad) bad) bad
  | _, _, _, _ => bad

/-- The room of a cut; of what may be nil no room is told: what has a known room is not nil. -/
def capOf (es : List AV) (c m : Option Nat) (l : Nat) : Option Nat :=
  match es, c, m with
  | [], none, _ => none
  | _, _, some m => some (m - l)
  | _, some c, none => some (c - l)
  | _, none, none => none

/-- One row behind another. -/
def appK {α : Type} (sz by_ key : Nat) (x y : AV) (H : Heap) (nx : Ctr) (φ : Nat) (ok : AV → Heap → Ctr → α) (bad : α) : α :=
  let news {β : Type} (k : Nat → List AV → β) (b : β) : β := match y with
    | .nils => k 0 []
    | .fz sz' es _ => if sz' = sz then k es.length (catCells es) else b
    | .sl f d g sz' off len => if sz' = sz then getB H f d g (fun cs => if (off + len) * sz ≤ cs.length then k len ((cs.drop (off * sz)).take (len * sz)) else b) b else b
    | _ => b
  news (fun m ns => match x with
    | .nils => if m = 0 then ok .nils H nx else if m * by_ ≤ 1099511627776 ∧ m ≤ 1099511627776 then ok (.sl φ key (nx key) sz 0 m) (setB H φ key (nx key) (some ns)) (bump nx key) else bad
    | .fz sz' es c' => if m = 0 then ok (.fz sz' es c') H nx else (match c' with
      | some c => if c < es.length + m ∧ sz' = sz ∧ (es.length + m) * by_ ≤ 1099511627776 ∧ es.length + m ≤ 1099511627776 then ok (.sl φ key (nx key) sz 0 (es.length + m)) (setB H φ key (nx key) (some (catCells es ++ ns))) (bump nx key) else bad
      | none => bad)
    | .sl f d g sz' off len => if sz' = sz ∧ off = 0 ∧ (len + m) * by_ ≤ 1099511627776 ∧ len + m ≤ 1099511627776 then
        getB H f d g (fun cs => if cs.length = len * sz then ok (.sl f d (nx d) sz 0 (len + m)) (setB H f d (nx d) (some (cs ++ ns))) (bump nx d)
          else if (len + m) * sz ≤ cs.length then ok (.sl f d g sz 0 (len + m)) (setB H f d g (some (cs.take (len * sz) ++ ns ++ cs.drop ((len + m) * sz)))) nx else bad) bad else bad
    | _ => bad) bad

/-- Rows that nobody writes. -/
def pureK {α : Type} (x y : AV) (ok bad : α) : α := match x, y with
  | .nils, .nils | .nils, .fz _ _ _ | .fz _ _ _, .nils | .fz _ _ _, .fz _ _ _ => ok
  | _, _ => bad
/-- One operation (no call) upon its operands' values. -/
def opK {α : Type} (o : AK) (vs : List AV) (H : Heap) (nx : Ctr) (φ : Nat) (ok : AV → Heap → Ctr → α) (bad : α) : α :=
  match o, vs with
  | .mv, [x] => ok x H nx
  | .pick, [c, a, b] => match c with | .bool p => if p = true then ok a H nx else ok b H nx | _ => bad
  | .bin o, [x, y] => binK o x y (fun v => ok v H nx) bad
  | .eqb n, [x, y] => match x, y with | .bool a, .bool b => ok (.bool (if n = true then !(a == b) else a == b)) H nx | _, _ => bad
  | .eqp n, [x, y] => match y with
    | .nilp => nilpK x (fun b => ok (.bool (if n = true then !b else b)) H nx) bad
    | _ => bad
  | .eqs n, [x, y] => match y with
    | .nils => nilsK x (fun b => ok (.bool (if n = true then !b else b)) H nx) bad
    | _ => bad
  | .eqf n, [x, y] => match y with
    | .nilf => nilfK x (fun b => ok (.bool (if n = true then !b else b)) H nx) bad
    | _ => bad
  | .eqi n, [x, y] => match y with
    | .nili => niliK x (fun b => ok (.bool (if n = true then !b else b)) H nx) bad
    | _ => bad
  | .not, [x] => match x with | .bool b => ok (.bool (!b)) H nx | _ => bad
  | .neg, [x] => match x with | .int k n => ok (.int k (k.wrap (0 - n))) H nx | _ => bad
  | .cpl, [x] => match x with | .int k n => ok (.int k (ibits .xor k (if k.signed then -1 else k.max) n)) H nx | _ => bad
  | .conv k, [x] => match x with | .int _ n => ok (.int k (k.wrap n)) H nx | _ => bad
  | .s2b, [x] => match x with | .str s => if s.size ≤ 1099511627776 then ok (.fz 1 (avBytes s) none) H nx else bad | _ => bad
  | .b2s, [x] => match x with
    | .nils => ok (.str ⟨#[]⟩) H nx
    | .fz sz es _ => if sz = 1 ∧ isBytes es = true then ok (.str ⟨(bytesOf es).toArray⟩) H nx else bad
    | .sl f d g sz off len => getB H f d g (fun cs => if sz = 1 ∧ off + len ≤ cs.length ∧ isBytes ((cs.drop off).take len) = true then ok (.str ⟨(bytesOf ((cs.drop off).take len)).toArray⟩) H nx else bad) bad
    | _ => bad
  | .box, [x] => if scal1 x = true ∨ (cells x).length ≠ 0 then ok (.ro (cells x)) H nx else bad
  | .boxm key, [x] => if (cells x).length ≠ 0 ∧ (cells x).all scal1 = true then ok (.ptr φ key (nx key) 0) (setB H φ key (nx key) (some (cells x))) (bump nx key) else bad
  | .new z key, [] => ok (.ptr φ key (nx key) 0) (setB H φ key (nx key) (some z)) (bump nx key)
  | .ld1, [x] => match x with
    | .ro (c :: _) => ok c H nx
    | .ptr f d g off => getB H f d g (fun cs => match cs.drop off with | c :: _ => ok c H nx | [] => bad) bad
    | _ => bad
  | .ldn n, [x] => match x with
    | .ro cs => if n ≤ cs.length then ok (.agg (cs.take n)) H nx else bad
    | .ptr f d g off => getB H f d g (fun cs => if off + n ≤ cs.length then ok (.agg ((cs.drop off).take n)) H nx else bad) bad
    | _ => bad
  | .ld1r, [x] => match x with
    | .ro (c :: _) => ok c H nx
    | _ => bad
  | .ldnr n, [x] => match x with
    | .ro cs => if n ≤ cs.length then ok (.agg (cs.take n)) H nx else bad
    | _ => bad
  | .ldk key, [x] => match x with
    | .ptr f d g off => if d = key ∧ f = φ then (getB H f d g (fun cs => match cs.drop off with | c :: _ => ok c H nx | [] => bad) bad) else bad
    | _ => bad
  | .ldnk n key, [x] => match x with
    | .ptr f d g off => if d = key ∧ f = φ then (getB H f d g (fun cs => if off + n ≤ cs.length then ok (.agg ((cs.drop off).take n)) H nx else bad) bad) else bad
    | _ => bad
  | .s2s, [x] => match x with
    | .sl f d g sz off len => getB H f d g (fun cs => if sz = 1 ∧ 0 < len ∧ off + len ≤ cs.length ∧ isBytes ((cs.drop off).take len) = true then ok (.fz 1 ((cs.drop off).take len) none) (kill [(f, d)] H) nx else bad) bad
    | _ => bad
  | .st n, [x, v] => match x with
    | .ptr f d g off => getB H f d g (fun cs => if (cells v).length = n ∧ (cells v).all scal1 = true ∧ off + n ≤ cs.length then ok .any (setB H f d g (some (cs.take off ++ cells v ++ cs.drop (off + n)))) nx else bad) bad
    | _ => bad
  | .stk n key, [x, v] => match x with
    | .ptr f d g off => if d = key ∧ f = φ then (getB H f d g (fun cs => if (cells v).length = n ∧ (cells v).all scal1 = true ∧ off + n ≤ cs.length then ok .any (setB H f d g (some (cs.take off ++ cells v ++ cs.drop (off + n)))) nx else bad) bad) else bad
    | _ => bad
  | .stf n, [x, v] => frzK 9 H v (fun v' ids => match x with
    | .ptr f d g off => getB (kill ids H) f d g (fun cs => if (cells v').length = n ∧ (cells v').all scal1 = true ∧ off + n ≤ cs.length then ok .any (setB (kill ids H) f d g (some (cs.take off ++ cells v' ++ cs.drop (off + n)))) nx else bad) bad
    | _ => bad) bad
  | .slcx sz lo hi mx, x :: bs => match x with
    | .sl f d g sz' off len => if sz' = sz then getB H f d g (fun cs => cutK len (max len (cs.length / sz - off)) lo hi mx bs (fun l h _ => if mx = true then ok .any H nx else ok (.sl f d g sz (off + l) (h - l)) H nx) bad) bad else bad
    | _ => bad
  | .clr sz, [x] => match x with
    | .sl f d g sz' off len => if sz' = sz ∧ 0 < len then getB H f d g (fun cs => if (off + len) * sz ≤ cs.length then ok .any (setB H f d g (some (cs.take (off * sz)))) nx else bad) bad else bad
    | _ => bad
  | .fa off, [x] => match x with
    | .ro cs => if off < cs.length then ok (.ro (cs.drop off)) H nx else bad
    | .ptr f d g o => ok (.ptr f d g (o + off)) H nx
    | _ => bad
  | .fld1 off, [x] => match x with | .agg cs => (match cs.drop off with | c :: _ => ok c H nx | [] => bad) | _ => bad
  | .fldn off n, [x] => match x with | .agg cs => if off + n ≤ cs.length then ok (.agg ((cs.drop off).take n)) H nx else bad | _ => bad
  | .ixS sz, [x, i] => match i with
    | .int _ n => if n < 0 then bad else match x with
      | .fz sz' es _ => if sz' = sz then (match es[n.toNat]? with | some e => ok (.ro (cells e)) H nx | none => bad) else bad
      | .sl f d g sz' off len => if sz' = sz ∧ n.toNat < len then ok (.ptr f d g ((off + n.toNat) * sz)) H nx else bad
      | _ => bad
    | _ => bad
  | .ixP len sz, [x, i] => match i with
    | .int _ n => if 0 ≤ n ∧ n < (len : Int) then match x with
      | .ro cs => if n.toNat * sz < cs.length then ok (.ro (cs.drop (n.toNat * sz))) H nx else bad
      | .ptr f d g o => ok (.ptr f d g (o + n.toNat * sz)) H nx
      | _ => bad else bad
    | _ => bad
  | .ixT, [x, i] => match x, i with
    | .str s, .int _ n => if n < 0 then bad else match s.data.toList[n.toNat]? with | some b => ok (.int .u8 b.toNat) H nx | none => bad
    | _, _ => bad
  | .ixA1 len, [x, i] => match x, i with
    | .agg cs, .int _ n => if 0 ≤ n ∧ n < (len : Int) then match cs[n.toNat]? with | some c => ok c H nx | none => bad else bad
    | _, _ => bad
  | .slc sz lo hi mx, x :: bs => match x with
    | .nils => cutK 0 0 lo hi mx bs (fun l h m => if l = 0 ∧ h = 0 ∧ (m = none ∨ m = some 0) then ok .nils H nx else bad) bad
    | .fz sz' es c => if sz' = sz then cutK es.length es.length lo hi mx bs (fun l h m => ok (.fz sz ((es.take h).drop l) (capOf es c m l)) H nx) bad else bad
    | .sl f d g sz' off len => if sz' = sz ∧ mx = false then cutK len len lo hi mx bs (fun l h _ => ok (.sl f d g sz (off + l) (h - l)) H nx) bad else bad
    | _ => bad
  | .slcT lo hi, x :: bs => match x with
    | .str s => cutK s.size s.size lo hi false bs (fun l h _ => ok (.str (s.extract l h)) H nx) bad
    | _ => bad
  | .lenT, [x] => match x with
    | .str s => ok (.int .i64 s.size) H nx
    | _ => bad
  | .len, [x] => match x with
    | .nils => ok (.int .i64 0) H nx
    | .fz _ es _ => ok (.int .i64 es.length) H nx
    | .sl _ _ _ _ _ len => ok (.int .i64 len) H nx
    | _ => bad
  | .app sz by_ key, [x, y] => appK sz by_ key x y H nx φ ok bad
  | .apn sz by_ key, [x, y] => pureK x y (appK sz by_ key x y H nx φ ok bad) bad
  | .apps key, [x, y] => match y with | .str s => appK 1 1 key x (.fz 1 (avBytes s) none) H nx φ ok bad | _ => bad
  | .lit sz len, xs => if xs.length = len ∧ allSz sz xs = true then mapK (frzK 9 H) xs (fun xs' i => match i with | [] => ok (.fz sz xs' (some len)) H nx | _ => bad) bad else bad
  | .litr sz len, xs => if xs.length = len ∧ allSz sz xs = true then mapK (frzK 9 []) xs (fun xs' i => match i with | [] => ok (.fz sz xs' (some len)) H nx | _ => bad) bad else bad
  | .litm sz len key, xs => if xs.length = len ∧ allSz sz xs = true then ok (.sl φ key (nx key) sz 0 len) (setB H φ key (nx key) (some (catCells xs))) (bump nx key) else bad
  | .bld z ps, xs => fillK ps xs z (fun cs => ok (.agg cs) H nx) bad
  | .mk z by_ key, [l] => match l with
    | .int .i64 n => if 0 ≤ n ∧ n * by_ ≤ 1099511627776 ∧ n ≤ 1099511627776 then ok (.sl φ key (nx key) 1 0 n.toNat) (setB H φ key (nx key) (some (List.replicate n.toNat z))) (bump nx key) else bad
    | _ => bad
  | .ext i, [x] => match x with | .tup vs => (match vs.drop i with | v :: _ => ok v H nx | [] => bad) | _ => bad
  | .nck, [x] => match x with | .ptr .. | .ro _ | .func .. => ok x H nx | _ => bad
  | .mn, [x, y] => match x, y with | .int k a, .int _ b => ok (.int k (if b < a then b else a)) H nx | _, _ => bad
  | .mx, [x, y] => match x, y with | .int k a, .int _ b => ok (.int k (if b > a then b else a)) H nx | _, _ => bad
  | .mkf f, caps => ok (.func f caps) H nx
  | .ifc t, [x] => ok (.ifc t x) H nx
  | _, _ => bad

inductive Out where
  | more (k : List It) (t : List AV) (H : Heap) (nx : Ctr)
  | call (f mode : Nat) (vs : List AV) (ids : List (Nat × Nat)) (d : Option Nat) (l : List Op) (k : List It) (t : List AV) (H : Heap) (nx : Ctr)
  | done (t : List AV) (H : Heap) (nx : Ctr)
  | fall (t : List AV) (H : Heap) (nx : Ctr)
  | bad

def exitK {α : Type} (id : Nat) : List It → (List It → List Bool → α) → α → α
  | [], _, bad => bad
  | .blk i m :: k, ok, bad => if i = id then ok k m else exitK id k ok bad
  | _ :: k, ok, bad => exitK id k ok bad
/-- The value, nobody writing it any more, if these entries are all that it takes along. -/
def thaw (ids : List (Nat × Nat)) (H : Heap) (v : AV) : AV := frzK 9 H v (fun v' js => if js.all (fun j => keyIn ids j.1 j.2) = true then v' else v) v
def gets (t : List AV) : List Nat → List AV
  | [] => []
  | i :: l => getT t i :: gets t l
def putAll (t : List AV) : List Nat → List AV → List AV
  | i :: is, v :: vs => putAll (setT t i v) is vs
  | _, _ => t
def frzT (ids : List (Nat × Nat)) (H : Heap) : List AV → List AV
  | [] => []
  | v :: t => thaw ids H v :: frzT ids H t

/-- One operation, or the call that it is. -/
def execK (φ : Nat) (o : Op) (l : List Op) (k : List It) (t : List AV) (H : Heap) (nx : Ctr) (go : List It → List AV → Heap → Ctr → Out) : Out :=
  match o.o, evs t o.x with
  | .call f mode, vs => match mode with
    | 2 => .call f 2 vs [] o.d l k t H nx
    | 4 => mapK (frzK 9 []) vs (fun vs' i => match i with | [] => .call f 0 vs' [] o.d l k t H nx | _ => .bad) .bad
    | m => mapK (frzK 9 H) vs (fun vs' ids => .call f m vs' ids o.d l k t H nx) .bad
  | .callv mode, v :: vs => match v with
    | .func f caps => match mode with
      | 2 => .call f 2 (vs ++ caps) [] o.d l k t H nx
      | 3 => .bad
      | m => mapK (frzK 9 H) (vs ++ caps) (fun vs' ids => .call f m vs' ids o.d l k t H nx) .bad
    | _ => .bad
  | ak, vs => opK ak vs H nx φ (fun v H nx => go (.ops l :: k) (put t o.d v) H nx) .bad

/-- One step; 'go' goes on. -/
def advStep (φ : Nat) (go : List It → List AV → Heap → Ctr → Out) (its : List It) (t : List AV) (H : Heap) (nx : Ctr) : Out :=
  match its with
  | [] => .fall t H nx
  | .ops [] :: k => go k t H nx
  | .ops (o :: l) :: k => match o.g with
    | none => execK φ o l k t H nx (go)
    | some (j, w) => match getT t j with
      | .bool b => if b = w then execK φ o l k t H nx (go) else go (.ops l :: k) (put t o.d (.tup [])) H nx
      | .tup [] => go (.ops l :: k) (put t o.d (.tup [])) H nx
      | _ => .bad
  | .blk _ m :: k => go k (killM m t) H nx
  | .frz is :: k => mapK (frzK 9 H) (gets t is) (fun vs ids => go k (putAll t is vs) (kill ids H) nx) .bad
  | .lp m b :: k => .more (.lp m b :: k) (killM m.t t) (dropK φ m.h H) nx
  | .c c :: k => match c with
    | .skip => go k t H nx
    | .reg ops => go (.ops ops :: k) t H nx
    | .regf ops is => go (.ops ops :: .frz is :: k) t H nx
    | .seq a b => go (.c a :: .c b :: k) t H nx
    | .cond c a b => match ev t c with
      | .bool x => if x = true then go (.c a :: k) t H nx else go (.c b :: k) t H nx
      | _ => .bad
    | .blk i m b => go (.c b :: .blk i m :: k) t H nx
    | .loop m b => .more (.lp m b :: k) (killM m.t t) (dropK φ m.h H) nx
    | .exit i => exitK i k (fun k' m => go k' (killM m t) H nx) .bad
    | .ret => .done t H nx
def adv : Nat → Nat → List It → List AV → Heap → Ctr → Out
  | 0, _, k, t, H, nx => .more k t H nx
  | n + 1, φ, its, t, H, nx => advStep φ (adv n φ) its t H nx
end Go.Ev
/- How abstract values stand for the model's; how the abstract heap stands for a world; moves from world to world. -/
namespace Go.Ev
open Go.RowKit
set_option linter.unusedVariables false

theorem add_add (a : Addr) (m n : Nat) : (a.add m).add n = a.add (m + n) := by
  unfold Addr.add
  by_cases hm : m = 0
  · subst hm; simp
  · by_cases hn : n = 0
    · subst hn; simp
    · simp [hm, hn, Nat.add_assoc]
theorem add_block (a : Addr) (n : Nat) : (a.add n).block = a.block := by unfold Addr.add; split <;> rfl
theorem add_mk (b o n : Nat) : (⟨b, o, none⟩ : Addr).add n = ⟨b, o + n, none⟩ := by unfold Addr.add; split <;> simp_all

/-- Structs and arrays. -/
def aggD : TypeDesc → Bool
  | .struct _ | .array _ _ => true
  | _ => false
def ifaceD : TypeDesc → Bool
  | .interface _ => true
  | _ => false

abbrev Loc := Nat → Nat → Nat → Nat → Prop
def none4 : Loc := fun _ _ _ _ => False

inductive Rep (L : Loc) (X : Nat → Prop) (nx : Ctr) (w : World) : Bool → AV → Value → Prop
  | any {p v} : Rep L X nx w p .any v
  | int {p k n} : Rep L X nx w p (.int k n) (.int k n)
  | bool {p b} : Rep L X nx w p (.bool b) (.bool b)
  | str {p s} : Rep L X nx w p (.str s) (.string s)
  | nilp {p} : Rep L X nx w p .nilp (.pointer none)
  | nils {p} : Rep L X nx w p .nils (.slice none 0 0)
  | nilm {p} : Rep L X nx w p .nilm (.map none)
  | nilf {p} : Rep L X nx w p .nilf .nilFunc
  | nili {p} : Rep L X nx w p .nili .nilIface
  | ptr {f d g off a} (hg : g < nx d) (h : ∀ b, L f d g b → a = ⟨b, off, none⟩) : Rep L X nx w false (.ptr f d g off) (.pointer (some a))
  | ro {p cs a} (vv : Nat → Value) (hc : ∀ (j : Nat) x, cs[j]? = some x → w.cell? (a.add j) = some (vv j)) (hr : ∀ (j : Nat) x, cs[j]? = some x → Rep L X nx w p x (vv j))
      (ho : cs ≠ [] → (∀ f d g, ¬ L f d g a.block) ∧ ¬ X a.block ∧ a.block < w.heap.size) : Rep L X nx w p (.ro cs) (.pointer (some a))
  | sl {f d g sz off len a c} (hg : g < nx d) (hl : len ≤ c)
      (h : ∀ b, L f d g b → (c ≠ 0 → a = ⟨b, off * sz, none⟩) ∧ c ≤ maxLen ∧ ∃ vs E, w.heap[b]? = some (.cells vs E (0, 0)) ∧ (off + c) * sz = vs.size) :
      Rep L X nx w false (.sl f d g sz off len) (.slice (some a) len c)
  | fz0 {p sz cap A c} (hcap : ∀ c', cap = some c' → c = c') (hA : A = none → c = 0 ∧ cap = none) : Rep L X nx w p (.fz sz [] cap) (.slice A 0 c)
  | fz {p sz es cap a c} (vv : Nat → Nat → Value) (hne : es ≠ []) (hl : es.length ≤ c) (hcap : ∀ c', cap = some c' → c = c')
      (hsz : ∀ (i : Nat) e, es[i]? = some e → (cells e).length = sz)
      (hc : ∀ (i : Nat) e (j : Nat) x, es[i]? = some e → (cells e)[j]? = some x → w.cell? (a.add (i * sz + j)) = some (vv i j))
      (hr : ∀ (i : Nat) e (j : Nat) x, es[i]? = some e → (cells e)[j]? = some x → Rep L X nx w true x (vv i j))
      (h1 : ∀ (i : Nat) e (j : Nat) x, es[i]? = some e → (cells e)[j]? = some x → (vv i j).oneCell' = true)
      (ho : (∀ f d g, ¬ L f d g a.block) ∧ ¬ X a.block ∧ a.block < w.heap.size) : Rep L X nx w p (.fz sz es cap) (.slice (some a) es.length c)
  | agg {p cs} {vs : Array Value} (h : vs.size = cs.length) (hr : ∀ (j : Nat) x, cs[j]? = some x → Rep L X nx w p x (vs.getD j undef)) : Rep L X nx w p (.agg cs) (.agg vs)
  | tup {p cs} {vs : Array Value} (h : vs.size = cs.length) (hr : ∀ (j : Nat) x, cs[j]? = some x → Rep L X nx w p x (vs.getD j undef)) : Rep L X nx w p (.tup cs) (.tuple vs)
  | func {p f cs} {vs : Array Value} (h : vs.size = cs.length) (hr : ∀ (j : Nat) x, cs[j]? = some x → Rep L X nx w p x (vs.getD j undef)) : Rep L X nx w p (.func f cs) (.func (.func f) #[] vs)
  | ifc {p t v v'} (h : Rep L X nx w p v v') : Rep L X nx w p (.ifc t v) (.iface t v')

theorem Rep.weak {L : Loc} {X : Nat → Prop} {nx : Ctr} {w : World} {x : AV} {v : Value} (h : Rep L X nx w true x v) : Rep L X nx w false x v := by
  generalize hp : true = p at h
  induction h with
  | any => exact .any
  | int => exact .int
  | bool => exact .bool
  | str => exact .str
  | nilp => exact .nilp
  | nils => exact .nils
  | nilm => exact .nilm
  | nilf => exact .nilf
  | nili => exact .nili
  | ptr => cases hp
  | ro vv hc hr ho ih => exact .ro vv hc (fun j x h => ih j x h hp) ho
  | sl => cases hp
  | fz0 h hA => exact .fz0 h hA
  | fz vv a b c d e f h g ih => exact .fz vv a b c d e f h g
  | agg h hr ih => exact .agg h (fun j x h => ih j x h hp)
  | tup h hr ih => exact .tup h (fun j x h => ih j x h hp)
  | func h hr ih => exact .func h (fun j x h => ih j x h hp)
  | ifc h ih => exact .ifc (ih hp)

theorem Rep.any_p {L : Loc} {X : Nat → Prop} {nx : Ctr} {w : World} {p : Bool} {x : AV} {v : Value} (h : Rep L X nx w true x v) : Rep L X nx w p x v := by
  cases p
  · exact h.weak
  · exact h

/-- From world to world: what nobody writes stays; what lies in the heap keeps its place. -/
structure Move (L : Loc) (nx : Ctr) (w : World) (L' : Loc) (nx' : Ctr) (w' : World) : Prop where
  hnx : ∀ d, nx d ≤ nx' d
  size : w.heap.size ≤ w'.heap.size
  old : ∀ f d g b, L' f d g b → g < nx d → L f d g b
  new : ∀ f d g b, L' f d g b → nx d ≤ g → w.heap.size ≤ b ∨ ∃ f' d' g', L f' d' g' b
  cell : ∀ a u, w.cell? a = some u → (∀ f d g, ¬ L f d g a.block) → w'.cell? a = some u
  blk : ∀ f d g b vs E, L' f d g b → g < nx d → w.heap[b]? = some (.cells vs E (0, 0)) → ∃ vs', w'.heap[b]? = some (.cells vs' E (0, 0)) ∧ vs'.size = vs.size

theorem Move.refl (L : Loc) (nx : Ctr) (w : World) : Move L nx w L nx w :=
  ⟨fun _ => Nat.le_refl _, Nat.le_refl _, fun _ _ _ _ h _ => h, fun f d g b h _ => .inr ⟨f, d, g, h⟩, fun _ _ h _ => h, fun _ _ _ _ vs _ _ _ h => ⟨vs, h, rfl⟩⟩

theorem Move.avoid {L : Loc} {nx : Ctr} {w : World} {L' : Loc} {nx' : Ctr} {w' : World} (m : Move L nx w L' nx' w') {b : Nat} (hb : b < w.heap.size) (h : ∀ f d g, ¬ L f d g b) : ∀ f d g, ¬ L' f d g b := by
  intro f d g hL
  by_cases hg : g < nx d
  · exact h _ _ _ (m.old _ _ _ _ hL hg)
  · rcases m.new _ _ _ _ hL (by omega) with hb | ⟨f', d', g', h'⟩
    · omega
    · exact h _ _ _ h'

theorem Rep.move {L : Loc} {X : Nat → Prop} {nx : Ctr} {w : World} {L' : Loc} {nx' : Ctr} {w' : World} {p : Bool} {x : AV} {v : Value} (m : Move L nx w L' nx' w') (h : Rep L X nx w p x v) : Rep L' X nx' w' p x v := by
  induction h with
  | any => exact .any
  | int => exact .int
  | bool => exact .bool
  | str => exact .str
  | nilp => exact .nilp
  | nils => exact .nils
  | nilm => exact .nilm
  | nilf => exact .nilf
  | nili => exact .nili
  | ptr hg h => exact .ptr (Nat.lt_of_lt_of_le hg (m.hnx _)) (fun b hb => h b (m.old _ _ _ _ hb hg))
  | @ro p cs a vv hc hr ho ih =>
    refine .ro vv (fun j x hx => ?_) ih (fun hne => ?_)
    · have hne : cs ≠ [] := by intro h; subst h; simp at hx
      exact m.cell _ _ (hc j x hx) (by rw [add_block]; exact (ho hne).1)
    · exact ⟨m.avoid (ho hne).2.2 (ho hne).1, (ho hne).2.1, Nat.lt_of_lt_of_le (ho hne).2.2 m.size⟩
  | sl hg hl h =>
    refine .sl (Nat.lt_of_lt_of_le hg (m.hnx _)) hl (fun b hb => ?_)
    obtain ⟨h1, h2, vs, E, h3, h4⟩ := h b (m.old _ _ _ _ hb hg)
    obtain ⟨vs', h5, h6⟩ := m.blk _ _ _ _ _ _ hb hg h3
    exact ⟨h1, h2, vs', E, h5, by omega⟩
  | fz0 h hA => exact .fz0 h hA
  | @fz p sz es cap a c vv hne hl hcap hsz hc hr h1 ho ih =>
    exact .fz vv hne hl hcap hsz (fun i e j x h1 h2 => m.cell _ _ (hc i e j x h1 h2) (by rw [add_block]; exact ho.1)) ih h1 ⟨m.avoid ho.2.2 ho.1, ho.2.1, Nat.lt_of_lt_of_le ho.2.2 m.size⟩
  | agg h hr ih => exact .agg h ih
  | tup h hr ih => exact .tup h ih
  | func h hr ih => exact .func h ih
  | ifc h ih => exact .ifc ih

theorem Rep.cells {L : Loc} {X : Nat → Prop} {nx : Ctr} {w : World} {p : Bool} {x : AV} {v : Value} (h : Rep L X nx w p x v) (hx : cells x ≠ []) :
    v.cells.size = (cells x).length ∧ ∀ (j : Nat) y, (cells x)[j]? = some y → Rep L X nx w p y (v.cells.getD j undef) := by
  have one : ∀ (x : AV) (v : Value), Ev.cells x = [x] → v.cells = #[v] → Rep L X nx w p x v → v.cells.size = (Ev.cells x).length ∧ ∀ (j : Nat) y, (Ev.cells x)[j]? = some y → Rep L X nx w p y (v.cells.getD j undef) := by
    intro x v h1 h2 h3
    rw [h1, h2]
    refine ⟨rfl, fun j y hj => ?_⟩
    cases j with
    | zero => simp at hj; subst hj; exact h3
    | succ j => simp at hj
  cases h with
  | any => simp [Ev.cells] at hx
  | agg h hr => exact ⟨h, hr⟩
  | int => exact one _ _ rfl rfl .int
  | bool => exact one _ _ rfl rfl .bool
  | str => exact one _ _ rfl rfl .str
  | nilp => exact one _ _ rfl rfl .nilp
  | nils => exact one _ _ rfl rfl .nils
  | nilm => exact one _ _ rfl rfl .nilm
  | nilf => exact one _ _ rfl rfl .nilf
  | nili => exact one _ _ rfl rfl .nili
  | ptr a b => exact one _ _ rfl rfl (.ptr a b)
  | ro a b c d => exact one _ _ rfl rfl (.ro a b c d)
  | sl a b c => exact one _ _ rfl rfl (.sl a b c)
  | fz0 a b => exact one _ _ rfl rfl (.fz0 a b)
  | fz a b c d e f g h i => exact one _ _ rfl rfl (.fz a b c d e f g h i)
  | tup a b => exact one _ _ rfl rfl (.tup a b)
  | func a b => exact one _ _ rfl rfl (.func a b)
  | ifc a => exact one _ _ rfl rfl (.ifc a)

/-! ### the abstract heap -/
theorem find_setB_same (H : Heap) (f d g : Nat) (b : Option (List AV)) : find (setB H f d g b) f d = some (g, b) := by
  induction H with
  | nil => simp [setB, find]
  | cons e H ih =>
    obtain ⟨f', d', g', b'⟩ := e
    simp only [setB]
    split
    · simp [find]
    · rename_i h
      split
      · simp [find]
      · simp only [find, if_neg h]; exact ih
theorem find_setB_ne (H : Heap) (f d g : Nat) (b : Option (List AV)) (f' d' : Nat) (h : ¬ (f' = f ∧ d' = d)) : find (setB H f d g b) f' d' = find H f' d' := by
  induction H with
  | nil => simp only [setB, find]; rw [if_neg (fun e => h ⟨e.2.symm, e.1.symm⟩)]
  | cons e H ih =>
    obtain ⟨f1, d1, g1, b1⟩ := e
    simp only [setB]
    split
    · rename_i h1
      obtain ⟨rfl, rfl⟩ := h1
      simp only [find]
      rw [if_neg (fun e => h ⟨e.2.symm, e.1.symm⟩), if_neg (fun e => h ⟨e.2.symm, e.1.symm⟩)]
    · split
      · simp only [find]; rw [if_neg (c := d = d' ∧ f = f') (fun e => h ⟨e.2.symm, e.1.symm⟩)]
      · simp only [find]; rw [ih]
theorem getB_find {α : Type} (H : Heap) (f d g : Nat) (ok : List AV → α) (bad : α) :
    getB H f d g ok bad = match find H f d with | some (g', some cs) => if g' = g then ok cs else bad | _ => bad := by
  induction H with
  | nil => rfl
  | cons e H ih =>
    obtain ⟨f1, d1, g1, b1⟩ := e
    simp only [getB, find]
    split
    · cases b1 <;> simp
    · exact ih
theorem getB_of {α : Type} {H : Heap} {f d g : Nat} {cs : List AV} (h : find H f d = some (g, some cs)) (ok : List AV → α) (bad : α) : getB H f d g ok bad = ok cs := by
  rw [getB_find, h]; simp

def Lof (H : Heap) (bm : Nat → Nat → Nat) : Loc := fun f d g b => (∃ cs, find H f d = some (g, some cs)) ∧ b = bm f d
theorem Lof.mk {H : Heap} {bm : Nat → Nat → Nat} {f d g : Nat} {cs : List AV} (h : find H f d = some (g, some cs)) : Lof H bm f d g (bm f d) := ⟨⟨cs, h⟩, rfl⟩

/-- The abstract heap stands for what the call owns in a world; all else is as it was in w0 (but what was owned, O, at the beginning). -/
structure Rel (w0 : World) (O X : Nat → Prop) (bm : Nat → Nat → Nat) (H : Heap) (nx : Ctr) (w : World) : Prop where
  blk : ∀ f d g cs, find H f d = some (g, some cs) → ∃ vs E, w.heap[bm f d]? = some (.cells vs E (0, 0)) ∧ cs.length ≤ vs.size ∧ ∀ (j : Nat) x, cs[j]? = some x → Rep (Lof H bm) X nx w false x (vs.getD j undef) ∧ (vs.getD j undef).oneCell' = true
  inj : ∀ f d g cs f' d' g' cs', find H f d = some (g, some cs) → find H f' d' = some (g', some cs') → bm f d = bm f' d' → f = f' ∧ d = d'
  gen : ∀ f d g b, find H f d = some (g, b) → g < nx d
  own : ∀ f d g cs, find H f d = some (g, some cs) → (w0.heap.size ≤ bm f d ∨ O (bm f d)) ∧ ¬ X (bm f d)
  os : w.os = w0.os
  tape : w.tape = w0.tape
  output : w.output = w0.output
  size : w0.heap.size ≤ w.heap.size
  keep : ∀ b, b < w0.heap.size → ¬ O b → w.heap[b]? = w0.heap[b]?
  xlt : ∀ b, X b → b < w0.heap.size

def bset (bm : Nat → Nat → Nat) (f d b : Nat) : Nat → Nat → Nat := fun f1 d1 => if f1 = f ∧ d1 = d then b else bm f1 d1
theorem bset_same (bm : Nat → Nat → Nat) (f d b : Nat) : bset bm f d b f d = b := by simp [bset]
theorem bset_ne {bm : Nat → Nat → Nat} {f d b f1 d1 : Nat} (h : ¬ (f1 = f ∧ d1 = d)) : bset bm f d b f1 d1 = bm f1 d1 := by simp only [bset, if_neg h]

/-- One entry of the abstract heap becomes another: where it lay, or in a new block. -/
theorem Rel.set {w0 : World} {O X : Nat → Prop} {bm : Nat → Nat → Nat} {H : Heap} {nx : Ctr} {w : World} (r : Rel w0 O X bm H nx w)
    {w' : World} {f d g' b' : Nat} {nx' : Ctr} {cs' : List AV} {vs : Array Value} {E : TypeId}
    (hos : w'.os = w.os) (htape : w'.tape = w.tape) (hout : w'.output = w.output) (hsize : w.heap.size ≤ w'.heap.size)
    (hother : ∀ b, b ≠ b' → b < w.heap.size → w'.heap[b]? = w.heap[b]?)
    (hblk : w'.heap[b']? = some (.cells vs E (0, 0)))
    (hb' : w.heap.size ≤ b' ∨ (b' = bm f d ∧ ∃ g cs, find H f d = some (g, some cs)))
    (hg : (g' = nx d ∧ nx' = bump nx d) ∨ (nx' = nx ∧ b' = bm f d ∧ (∃ cs, find H f d = some (g', some cs)) ∧ ∀ vs0 E0, w.heap[b']? = some (.cells vs0 E0 (0, 0)) → vs.size = vs0.size ∧ E = E0))
    (hlen : cs'.length ≤ vs.size) (hrep : ∀ (j : Nat) x, cs'[j]? = some x → Rep (Lof H bm) X nx w false x (vs.getD j undef) ∧ (vs.getD j undef).oneCell' = true) :
    Rel w0 O X (bset bm f d b') (setB H f d g' (some cs')) nx' w' ∧
      Move (Lof H bm) nx w (Lof (setB H f d g' (some cs')) (bset bm f d b')) nx' w' := by
  have hnx : ∀ e, nx e ≤ nx' e := by
    intro e
    rcases hg with ⟨_, h⟩ | ⟨h, _⟩
    · rw [h]; unfold bump; split
      · rename_i h; subst h; omega
      · exact Nat.le_refl _
    · rw [h]; exact Nat.le_refl _
  -- where an entry of the new heap lies
  have hfind : ∀ f1 d1 g1 cs1, find (setB H f d g' (some cs')) f1 d1 = some (g1, some cs1) → (f1 = f ∧ d1 = d ∧ g1 = g' ∧ cs1 = cs') ∨ (¬ (f1 = f ∧ d1 = d) ∧ find H f1 d1 = some (g1, some cs1)) := by
    intro f1 d1 g1 cs1 h
    by_cases e : f1 = f ∧ d1 = d
    · obtain ⟨rfl, rfl⟩ := e
      rw [find_setB_same] at h
      simp at h
      exact .inl ⟨rfl, rfl, h.1.symm, h.2.symm⟩
    · rw [find_setB_ne _ _ _ _ _ _ _ e] at h; exact .inr ⟨e, h⟩
  have hlt : ∀ f1 d1 g1 cs1, find H f1 d1 = some (g1, some cs1) → bm f1 d1 < w.heap.size := by
    intro f1 d1 g1 cs1 h
    obtain ⟨vs1, E1, h1, _⟩ := r.blk _ _ _ _ h
    rcases Nat.lt_or_ge (bm f1 d1) w.heap.size with h2 | h2
    · exact h2
    · rw [Array.getElem?_eq_none h2] at h1; cases h1
  have hne : ∀ f1 d1 g1 cs1, ¬ (f1 = f ∧ d1 = d) → find H f1 d1 = some (g1, some cs1) → bm f1 d1 ≠ b' := by
    intro f1 d1 g1 cs1 hn h e
    have := hlt _ _ _ _ h
    rcases hb' with hb' | ⟨rfl, g, cs, hf⟩
    · omega
    · exact hn (r.inj _ _ _ _ _ _ _ _ h hf e)
  have m : Move (Lof H bm) nx w (Lof (setB H f d g' (some cs')) (bset bm f d b')) nx' w' := by
    refine ⟨hnx, hsize, ?_, ?_, ?_, ?_⟩
    · rintro f1 d1 g1 b1 ⟨⟨cs1, h1⟩, rfl⟩ hlt1
      rcases hfind _ _ _ _ h1 with ⟨rfl, rfl, rfl, rfl⟩ | ⟨e, h1⟩
      · rcases hg with ⟨h, _⟩ | ⟨_, h, ⟨cs, hcs⟩, _⟩
        · omega
        · rw [bset_same, h]; exact Lof.mk hcs
      · rw [bset_ne e]; exact Lof.mk h1
    · rintro f1 d1 g1 b1 ⟨⟨cs1, h1⟩, rfl⟩ hge
      rcases hfind _ _ _ _ h1 with ⟨rfl, rfl, rfl, rfl⟩ | ⟨e, h1⟩
      · rw [bset_same]
        rcases hb' with h | ⟨rfl, g, cs, h⟩
        · exact .inl h
        · exact .inr ⟨_, _, _, Lof.mk h⟩
      · have := r.gen _ _ _ _ h1; omega
    · intro a u hc hav
      have hab : a.block ≠ b' := by
        intro e
        have := World.block_lt_of_cell? w a hc
        rcases hb' with h | ⟨h, g, cs, hf⟩
        · omega
        · exact hav f d g (by rw [e, h]; exact Lof.mk hf)
      have := World.block_lt_of_cell? w a hc
      rw [World.cell?_of_block (w := w) (hother _ hab this)]; exact hc
    · rintro f1 d1 g1 b1 vs1 E1 ⟨⟨cs1, h1⟩, rfl⟩ hlt1 hh
      rcases hfind _ _ _ _ h1 with ⟨rfl, rfl, rfl, rfl⟩ | ⟨e, h1⟩
      · rw [bset_same] at hh ⊢
        rcases hg with ⟨h, _⟩ | ⟨_, h, _, hsz⟩
        · omega
        · obtain ⟨h1, rfl⟩ := hsz _ _ hh
          exact ⟨vs, hblk, h1⟩
      · rw [bset_ne e] at hh ⊢
        exact ⟨vs1, by rw [hother _ (hne _ _ _ _ e h1) (hlt _ _ _ _ h1)]; exact hh, rfl⟩
  refine ⟨⟨?_, ?_, ?_, ?_, hos.trans r.os, htape.trans r.tape, hout.trans r.output, Nat.le_trans r.size hsize, ?_, r.xlt⟩, m⟩
  · intro f1 d1 g1 cs1 h
    rcases hfind _ _ _ _ h with ⟨rfl, rfl, rfl, rfl⟩ | ⟨e, h1⟩
    · rw [bset_same]
      exact ⟨vs, E, hblk, hlen, fun j x hx => ⟨(hrep j x hx).1.move m, (hrep j x hx).2⟩⟩
    · rw [bset_ne e]
      obtain ⟨vs1, E1, h2, h3, h4⟩ := r.blk _ _ _ _ h1
      exact ⟨vs1, E1, by rw [hother _ (hne _ _ _ _ e h1) (hlt _ _ _ _ h1)]; exact h2, h3, fun j x hx => ⟨(h4 j x hx).1.move m, (h4 j x hx).2⟩⟩
  · intro f1 d1 g1 cs1 f2 d2 g2 cs2 h1 h2 he
    rcases hfind _ _ _ _ h1 with ⟨rfl, rfl, rfl, rfl⟩ | ⟨e1, k1⟩ <;> rcases hfind _ _ _ _ h2 with ⟨rfl, rfl, rfl, rfl⟩ | ⟨e2, k2⟩
    · exact ⟨rfl, rfl⟩
    · rw [bset_same, bset_ne e2] at he; exact absurd he.symm (hne _ _ _ _ e2 k2)
    · rw [bset_ne e1, bset_same] at he; exact absurd he (hne _ _ _ _ e1 k1)
    · rw [bset_ne e1, bset_ne e2] at he; exact r.inj _ _ _ _ _ _ _ _ k1 k2 he
  · intro f1 d1 g1 b1 h
    by_cases e : f1 = f ∧ d1 = d
    · obtain ⟨rfl, rfl⟩ := e
      rw [find_setB_same] at h
      simp at h
      rcases hg with ⟨h1, h2⟩ | ⟨h1, _, ⟨cs, h2⟩, _⟩
      · rw [h2]; unfold bump; rw [if_pos rfl]; omega
      · have := r.gen _ _ _ _ h2; rw [h1]; omega
    · rw [find_setB_ne _ _ _ _ _ _ _ e] at h
      have := r.gen _ _ _ _ h
      exact Nat.lt_of_lt_of_le this (hnx _)
  · intro f1 d1 g1 cs1 h
    rcases hfind _ _ _ _ h with ⟨rfl, rfl, rfl, rfl⟩ | ⟨e, h1⟩
    · rw [bset_same]
      rcases hb' with h | ⟨rfl, g, cs, hf⟩
      · have := r.size
        exact ⟨.inl (by omega), fun hx => by have := r.xlt _ hx; omega⟩
      · exact r.own _ _ _ _ hf
    · rw [bset_ne e]; exact r.own _ _ _ _ h1
  · intro b hb hO
    have hsz := r.size
    have hbb : b ≠ b' := by
      intro e
      rcases hb' with h | ⟨h, g, cs, hf⟩
      · omega
      · rcases (r.own _ _ _ _ hf).1 with h1 | h1
        · omega
        · exact hO (by rw [e, h]; exact h1)
    rw [hother b hbb (by omega)]
    exact r.keep b hb hO

/-- A new entry, in a new block. -/
theorem Rel.new {w0 : World} {O X : Nat → Prop} {bm : Nat → Nat → Nat} {H : Heap} {nx : Ctr} {w : World} (r : Rel w0 O X bm H nx w)
    {w' : World} (f d : Nat) {cs' : List AV} {vs : Array Value} {E : TypeId}
    (hos : w'.os = w.os) (htape : w'.tape = w.tape) (hout : w'.output = w.output) (hh : w'.heap = w.heap.push (.cells vs E (0, 0)))
    (hlen : cs'.length ≤ vs.size) (hrep : ∀ (j : Nat) x, cs'[j]? = some x → Rep (Lof H bm) X nx w false x (vs.getD j undef) ∧ (vs.getD j undef).oneCell' = true) :
    Rel w0 O X (bset bm f d w.heap.size) (setB H f d (nx d) (some cs')) (bump nx d) w' ∧
      Move (Lof H bm) nx w (Lof (setB H f d (nx d) (some cs')) (bset bm f d w.heap.size)) (bump nx d) w' :=
  r.set (E := E) hos htape hout (by rw [hh]; simp) (fun b _ hb => by rw [hh, Array.getElem?_push, if_neg (by omega)]) (by rw [hh]; simp) (.inl (Nat.le_refl _)) (.inl ⟨rfl, rfl⟩) hlen hrep

/-- A new block that nobody will write, or draws: nothing in the abstract heap turns. -/
theorem Rel.grow {w0 : World} {O X : Nat → Prop} {bm : Nat → Nat → Nat} {H : Heap} {nx : Ctr} {w : World} (r : Rel w0 O X bm H nx w)
    {w' : World} (hos : w'.os = w.os) (htape : w'.tape = w.tape) (hout : w'.output = w.output) (hsize : w.heap.size ≤ w'.heap.size)
    (hother : ∀ b, b < w.heap.size → w'.heap[b]? = w.heap[b]?) :
    Rel w0 O X bm H nx w' ∧ Move (Lof H bm) nx w (Lof H bm) nx w' := by
  have hlt : ∀ f1 d1 g1 cs1, find H f1 d1 = some (g1, some cs1) → bm f1 d1 < w.heap.size := by
    intro f1 d1 g1 cs1 h
    obtain ⟨vs1, E1, h1, _⟩ := r.blk _ _ _ _ h
    rcases Nat.lt_or_ge (bm f1 d1) w.heap.size with h2 | h2
    · exact h2
    · rw [Array.getElem?_eq_none h2] at h1; cases h1
  have m : Move (Lof H bm) nx w (Lof H bm) nx w' := by
    refine ⟨fun _ => Nat.le_refl _, hsize, fun _ _ _ _ h _ => h, fun f d g b h _ => .inr ⟨f, d, g, h⟩, ?_, ?_⟩
    · intro a u hc _
      rw [World.cell?_of_block (w := w) (hother _ (World.block_lt_of_cell? w a hc))]; exact hc
    · rintro f d g b vs E ⟨⟨cs, h⟩, rfl⟩ _ hb
      exact ⟨vs, by rw [hother _ (hlt _ _ _ _ h)]; exact hb, rfl⟩
  refine ⟨⟨?_, r.inj, r.gen, r.own, hos.trans r.os, htape.trans r.tape, hout.trans r.output, Nat.le_trans r.size hsize, ?_, r.xlt⟩, m⟩
  · intro f d g cs h
    obtain ⟨vs, E, h1, h2, h3⟩ := r.blk _ _ _ _ h
    exact ⟨vs, E, by rw [hother _ (hlt _ _ _ _ h)]; exact h1, h2, fun j x hx => ⟨(h3 j x hx).1.move m, (h3 j x hx).2⟩⟩
  · intro b hb hO
    have := r.size
    rw [hother b (by omega)]; exact r.keep b hb hO
end Go.Ev
/- Operations: what the abstract evaluator tells of an operation is what the model's operation does. -/
namespace Go.Ev
open Go.RowKit
set_option linter.unusedVariables false
set_option linter.unusedSimpArgs false
set_option linter.unusedSectionVars false

section
variable {P : Program} {w0 : World} {O X : Nat → Prop} {bm : Nat → Nat → Nat} {H : Heap} {nx : Ctr} {w : World}

/-- An operation of the model runs and gives what 'v', 'H'' and 'nx'' stand for. -/
def OK (P : Program) (w0 : World) (O X : Nat → Prop) (bm : Nat → Nat → Nat) (H : Heap) (nx : Ctr) (w : World) (s : Sem Value) (v : AV) (H' : Heap) (nx' : Ctr) : Prop :=
  ∃ v' w' bm', s.run P w = .ok v' w' ∧ Rel w0 O X bm' H' nx' w' ∧ Move (Lof H bm) nx w (Lof H' bm') nx' w' ∧ Rep (Lof H' bm') X nx' w' false v v'

theorem OK.same (r : Rel w0 O X bm H nx w) {s : Sem Value} {v : AV} {v' : Value} (h : s.run P w = .ok v' w) (hr : Rep (Lof H bm) X nx w false v v') :
    OK P w0 O X bm H nx w s v H nx := ⟨v', w, bm, h, r, Move.refl _ _ _, hr⟩
theorem OK.grow (r : Rel w0 O X bm H nx w) {s : Sem Value} {v : AV} {v' : Value} {w' : World} (h : s.run P w = .ok v' w')
    (hos : w'.os = w.os) (htape : w'.tape = w.tape) (hout : w'.output = w.output) (hsize : w.heap.size ≤ w'.heap.size)
    (hother : ∀ b, b < w.heap.size → w'.heap[b]? = w.heap[b]?) (hr : Rep (Lof H bm) X nx w' false v v') :
    OK P w0 O X bm H nx w s v H nx := let ⟨a, b⟩ := r.grow hos htape hout hsize hother; ⟨v', w', bm, h, a, b, hr⟩
theorem OK.new (r : Rel w0 O X bm H nx w) {s : Sem Value} {v : AV} {v' : Value} {w' : World} {f d : Nat} {cs : List AV} {vs : Array Value} {E : TypeId} (h : s.run P w = .ok v' w')
    (hos : w'.os = w.os) (htape : w'.tape = w.tape) (hout : w'.output = w.output) (hh : w'.heap = w.heap.push (.cells vs E (0, 0)))
    (hlen : cs.length ≤ vs.size) (hrep : ∀ (j : Nat) x, cs[j]? = some x → Rep (Lof H bm) X nx w false x (vs.getD j undef) ∧ (vs.getD j undef).oneCell' = true)
    (hr : Rep (Lof (setB H f d (nx d) (some cs)) (bset bm f d w.heap.size)) X (bump nx d) w' false v v') :
    OK P w0 O X bm H nx w s v (setB H f d (nx d) (some cs)) (bump nx d) := let ⟨a, b⟩ := r.new f d hos htape hout hh hlen hrep; ⟨v', w', _, h, a, b, hr⟩

theorem run_sizeOf {t : TypeId} {i : TypeInfo} (h : P.info? t = some i) (w : World) : (sizeOf t).run P w = .ok i.size w := by simp [sizeOf, typeInfo, h]

/-! ### whole numbers, texts -/
theorem ok_int (r : Rel w0 O X bm H nx w) (o : BinOp) (t : TypeId) (x y : AV) (v1 v2 : Value) (h1 : Rep (Lof H bm) X nx w false x v1) (h2 : Rep (Lof H bm) X nx w false y v2)
    {v : AV} {H' : Heap} {nx' : Ctr} (h : binK o x y (fun v => some (v, H, nx)) none = some (v, H', nx')) (ox oy : Operand) :
    OK P w0 O X bm H nx w (do eqGuard o t ox oy v1 v2; binOp o t v1 v2) v H' nx' := by
  unfold binK at h
  split at h
  · rename_i k a k' b
    cases h1; cases h2
    have eg : eqGuard o t ox oy (.int k a) (.int k' b) = pure () := by cases o <;> rfl
    rw [eg]
    split at h
    · split at h
      · cases h
      · rename_i hb
        simp at h
        obtain ⟨rfl, rfl, rfl⟩ := h
        exact OK.same r (v' := .int k (ishl k a b)) (by simp [binOp, Op.shift, hb, ishl]) .int
    · split at h
      · cases h
      · rename_i hb
        simp at h
        obtain ⟨rfl, rfl, rfl⟩ := h
        exact OK.same r (v' := .int k (ishr k a b)) (by simp [binOp, Op.shift, hb, ishr]) .int
    · rename_i hshl hshr
      split at h
      · rename_i hk
        subst hk
        unfold intK at h
        split at h <;> try (simp at h; try obtain ⟨rfl, rfl, rfl⟩ := h)
        · exact OK.same r (v' := .int k (k.wrap (a + b))) (by simp [binOp, Op.intArith]) .int
        · exact OK.same r (v' := .int k (k.wrap (a - b))) (by simp [binOp, Op.intArith]) .int
        · exact OK.same r (v' := .int k (k.wrap (a * b))) (by simp [binOp, Op.intArith]) .int
        · obtain ⟨hb, rfl, rfl, rfl⟩ := h
          exact OK.same r (v' := .int k (k.wrap (a.tdiv b))) (by simp [binOp, Op.intDiv, hb]) .int
        · obtain ⟨hb, rfl, rfl, rfl⟩ := h
          exact OK.same r (v' := .int k (a.tmod b)) (by simp [binOp, Op.intDiv, hb]) .int
        · exact OK.same r (v' := .int k (ibits .and k a b)) (by simp [binOp, Op.intBits, ibits]) .int
        · exact OK.same r (v' := .int k (ibits .or k a b)) (by simp [binOp, Op.intBits, ibits]) .int
        · exact OK.same r (v' := .int k (ibits .xor k a b)) (by simp [binOp, Op.intBits, ibits]) .int
        · exact OK.same r (v' := .int k (ibits .andNot k a b)) (by simp [binOp, Op.intBits, ibits]) .int
        · exact OK.same r (v' := .bool (decide (a = b))) (by simp [binOp, Op.intCmp]; rfl) .bool
        · exact OK.same r (v' := .bool (!decide (a = b))) (by simp [binOp, Op.intCmp]; rfl) .bool
        · exact OK.same r (v' := .bool (decide (a < b))) (by simp [binOp, Op.intCmp]) .bool
        · exact OK.same r (v' := .bool (decide (a ≤ b))) (by simp [binOp, Op.intCmp]) .bool
        · exact OK.same r (v' := .bool (decide (b < a))) (by simp [binOp, Op.intCmp]) .bool
        · exact OK.same r (v' := .bool (decide (b ≤ a))) (by simp [binOp, Op.intCmp]) .bool
      · cases h
  · rename_i a b
    cases h1; cases h2
    have eg : eqGuard o t ox oy (.string a) (.string b) = pure () := by cases o <;> rfl
    rw [eg]
    unfold strK at h
    split at h <;> try (simp at h; try obtain ⟨rfl, rfl, rfl⟩ := h)
    · obtain ⟨hb, rfl, rfl, rfl⟩ := h
      exact OK.same r (v' := .string (a ++ b)) (by simp [binOp, Op.stringOp]; omega) .str
    all_goals exact OK.same r (by simp [binOp, Op.stringOp]) .bool
  · cases h

theorem ok_not (r : Rel w0 O X bm H nx w) (x : AV) (v1 : Value) (h1 : Rep (Lof H bm) X nx w false x v1) {φ : Nat}
    {v : AV} {H' : Heap} {nx' : Ctr} (h : opK .not [x] H nx φ (fun v H nx => some (v, H, nx)) none = some (v, H', nx')) : OK P w0 O X bm H nx w (Op.unary .not v1) v H' nx' := by
  simp only [opK] at h
  split at h
  · cases h1
    simp at h; obtain ⟨rfl, rfl, rfl⟩ := h
    exact OK.same r (by simp [Op.unary]) .bool
  · cases h
theorem ok_neg (r : Rel w0 O X bm H nx w) (x : AV) (v1 : Value) (h1 : Rep (Lof H bm) X nx w false x v1) {φ : Nat}
    {v : AV} {H' : Heap} {nx' : Ctr} (h : opK .neg [x] H nx φ (fun v H nx => some (v, H, nx)) none = some (v, H', nx')) : OK P w0 O X bm H nx w (Op.unary .neg v1) v H' nx' := by
  simp only [opK] at h
  split at h
  · cases h1
    simp at h; obtain ⟨rfl, rfl, rfl⟩ := h
    exact OK.same r (by simp [Op.unary, Op.intArith]) .int
  · cases h
theorem ok_cpl (r : Rel w0 O X bm H nx w) (x : AV) (v1 : Value) (h1 : Rep (Lof H bm) X nx w false x v1) {φ : Nat}
    {v : AV} {H' : Heap} {nx' : Ctr} (h : opK .cpl [x] H nx φ (fun v H nx => some (v, H, nx)) none = some (v, H', nx')) : OK P w0 O X bm H nx w (Op.unary .xor v1) v H' nx' := by
  simp only [opK] at h
  split at h
  · cases h1
    simp at h; obtain ⟨rfl, rfl, rfl⟩ := h
    exact OK.same r (by simp [Op.unary, Op.intBits, ibits]) .int
  · cases h
theorem ok_conv (r : Rel w0 O X bm H nx w) (src dst : TypeId) (k : IntKind) (hs : (P.underlying src).isSome = true) (hd : P.underlying dst = some (.int k)) (x : AV) (v1 : Value) (h1 : Rep (Lof H bm) X nx w false x v1) {φ : Nat}
    {v : AV} {H' : Heap} {nx' : Ctr} (h : opK (.conv k) [x] H nx φ (fun v H nx => some (v, H, nx)) none = some (v, H', nx')) : OK P w0 O X bm H nx w (convert src dst v1) v H' nx' := by
  simp only [opK] at h
  obtain ⟨d, hs⟩ := Option.isSome_iff_exists.mp hs
  split at h
  · cases h1
    simp at h; obtain ⟨rfl, rfl, rfl⟩ := h
    exact OK.same r (by simp [convert, run_underlying hs, run_underlying hd, Conv.intToInt]) .int
  · cases h
theorem run_equal_bool {t : TypeId} (ht : P.underlying t = some .bool) (a b : Bool) (w : World) : (Op.equal t (.bool a) (.bool b)).run P w = .ok (a == b) w := by
  show (Op.equalIn (9999 + 1) t (.bool a) (.bool b)).run P w = _
  rw [Op.equalIn]; simp only [Sem.run_bind, run_underlying ht, Result.andThen_ok]; rfl
theorem run_equal_ptr_nil {t e : TypeId} (ht : P.underlying t = some (.pointer e)) (a : Option Addr) (w : World) : (Op.equal t (.pointer a) (.pointer none)).run P w = .ok a.isNone w := by
  show (Op.equalIn (9999 + 1) t (.pointer a) (.pointer none)).run P w = _
  rw [Op.equalIn]; simp only [Sem.run_bind, run_underlying ht, Result.andThen_ok]; cases a <;> rfl
theorem run_equal_slice_nil {t e : TypeId} (ht : P.underlying t = some (.slice e)) (a : Option Addr) (l c : Nat) (w : World) : (Op.equal t (.slice a l c) (.slice none 0 0)).run P w = .ok a.isNone w := by
  show (Op.equalIn (9999 + 1) t (.slice a l c) (.slice none 0 0)).run P w = _
  rw [Op.equalIn]; simp only [Sem.run_bind, run_underlying ht, Result.andThen_ok]; cases a <;> rfl
theorem run_eqn (n : Bool) (t : TypeId) (v1 v2 : Value) (b : Bool) (h : (Op.equal t v1 v2).run P w = .ok b w) (h1 : binOp .eql t v1 v2 = (do pure (.bool (← Op.equal t v1 v2)))) (h2 : binOp .neq t v1 v2 = (do pure (.bool (!(← Op.equal t v1 v2))))) :
    (binOp (if n = true then .neq else .eql) t v1 v2).run P w = .ok (.bool (if n = true then !b else b)) w := by
  cases n
  · simp [h1, h]
  · simp [h2, h]
theorem ok_eqb (r : Rel w0 O X bm H nx w) (n : Bool) (t : TypeId) (ht : P.underlying t = some .bool) (x y : AV) (v1 v2 : Value) (h1 : Rep (Lof H bm) X nx w false x v1) (h2 : Rep (Lof H bm) X nx w false y v2) {φ : Nat}
    {v : AV} {H' : Heap} {nx' : Ctr} (h : opK (.eqb n) [x, y] H nx φ (fun v H nx => some (v, H, nx)) none = some (v, H', nx')) (ox oy : Operand) :
    OK P w0 O X bm H nx w (do eqGuard (if n = true then .neq else .eql) t ox oy v1 v2; binOp (if n = true then .neq else .eql) t v1 v2) v H' nx' := by
  simp only [opK] at h
  split at h
  · cases h1; cases h2
    simp at h; obtain ⟨rfl, rfl, rfl⟩ := h
    have eg : ∀ o a b, eqGuard o t ox oy (.bool a) (.bool b) = pure () := by intro o a b; cases o <;> rfl
    refine OK.same r ?_ .bool
    rw [eg]
    exact run_eqn n t _ _ _ (run_equal_bool ht _ _ w) rfl rfl
  · cases h
theorem ok_eqp (r : Rel w0 O X bm H nx w) (n : Bool) (t e : TypeId) (ht : P.underlying t = some (.pointer e)) (x y : AV) (v1 v2 : Value) (h1 : Rep (Lof H bm) X nx w false x v1) (h2 : Rep (Lof H bm) X nx w false y v2) {φ : Nat}
    {v : AV} {H' : Heap} {nx' : Ctr} (h : opK (.eqp n) [x, y] H nx φ (fun v H nx => some (v, H, nx)) none = some (v, H', nx')) (ox oy : Operand) :
    OK P w0 O X bm H nx w (do eqGuard (if n = true then .neq else .eql) t ox oy v1 v2; binOp (if n = true then .neq else .eql) t v1 v2) v H' nx' := by
  simp only [opK] at h
  have eg : ∀ o a b, eqGuard o t ox oy (.pointer a) (.pointer b) = pure () := by intro o a b; cases o <;> rfl
  split at h
  · cases h2
    unfold nilpK at h
    split at h <;> try (cases h; done)
    all_goals
      cases h1
      simp at h; obtain ⟨rfl, rfl, rfl⟩ := h
      refine OK.same r ?_ .bool
      rw [eg]
      exact (run_eqn n t _ _ _ (run_equal_ptr_nil ht _ w) rfl rfl).trans (by cases n <;> rfl)
  · cases h
theorem ok_eqs (r : Rel w0 O X bm H nx w) (n : Bool) (t e : TypeId) (ht : P.underlying t = some (.slice e)) (x y : AV) (v1 v2 : Value) (h1 : Rep (Lof H bm) X nx w false x v1) (h2 : Rep (Lof H bm) X nx w false y v2) {φ : Nat}
    {v : AV} {H' : Heap} {nx' : Ctr} (h : opK (.eqs n) [x, y] H nx φ (fun v H nx => some (v, H, nx)) none = some (v, H', nx')) (ox oy : Operand) :
    OK P w0 O X bm H nx w (do eqGuard (if n = true then .neq else .eql) t ox oy v1 v2; binOp (if n = true then .neq else .eql) t v1 v2) v H' nx' := by
  simp only [opK] at h
  have eg : ∀ o a l c b l' c', eqGuard o t ox oy (.slice a l c) (.slice b l' c') = pure () := by intro o a l c b l' c'; cases o <;> rfl
  split at h
  · cases h2
    unfold nilsK at h
    split at h <;> try (cases h; done)
    · cases h1
      simp at h; obtain ⟨rfl, rfl, rfl⟩ := h
      refine OK.same r ?_ .bool
      rw [eg]
      exact (run_eqn n t _ _ _ (run_equal_slice_nil ht _ _ _ w) rfl rfl).trans (by cases n <;> rfl)
    · cases h1
      simp at h; obtain ⟨rfl, rfl, rfl⟩ := h
      refine OK.same r ?_ .bool
      rw [eg]
      exact (run_eqn n t _ _ _ (run_equal_slice_nil ht _ _ _ w) rfl rfl).trans (by cases n <;> rfl)
    · cases h1
      simp at h; obtain ⟨rfl, rfl, rfl⟩ := h
      refine OK.same r ?_ .bool
      rw [eg]
      exact (run_eqn n t _ _ _ (run_equal_slice_nil ht _ _ _ w) rfl rfl).trans (by cases n <;> rfl)
    · cases h1 with
      | fz vv hne => exact absurd rfl hne
      | @fz0 _ _ _ A c hcap hA =>
        cases A with
        | none => cases (hA rfl).2
        | some A =>
          simp at h; obtain ⟨rfl, rfl, rfl⟩ := h
          refine OK.same r ?_ .bool
          rw [eg]
          exact (run_eqn n t _ _ _ (run_equal_slice_nil ht _ _ _ w) rfl rfl).trans (by cases n <;> rfl)
  · cases h

/-! ### memory that nobody writes -/
theorem alloc_heap (w : World) (o : Obj) : (w.alloc o).heap = w.heap.push o := rfl
theorem cell_new (w : World) (vs : Array Value) (E : TypeId) (j : Nat) : World.cell? { w with heap := w.heap.push (.cells vs E (0, 0)) } ⟨w.heap.size, j, none⟩ = vs[j]? := by
  simp [World.cell?]
theorem getD_of (vs : Array Value) (j : Nat) (h : j < vs.size) : vs[j]? = some (vs.getD j undef) := by simp [h]

theorem ok_box (r : Rel w0 O X bm H nx w) (t : TypeId) (x : AV) (v1 : Value) (h1 : Rep (Lof H bm) X nx w false x v1) {φ : Nat}
    {v : AV} {H' : Heap} {nx' : Ctr} (h : opK .box [x] H nx φ (fun v H nx => some (v, H, nx)) none = some (v, H', nx')) : OK P w0 O X bm H nx w (Instr.box t v1) v H' nx' := by
  simp only [opK] at h
  split at h
  · rename_i hc
    have hne : cells x ≠ [] := by
      intro e
      rcases hc with hc | hc
      · cases x <;> simp [scal1, cells] at hc e
      · exact hc (by rw [e]; rfl)
    obtain ⟨hs, hr⟩ := h1.cells hne
    simp at h; obtain ⟨rfl, rfl, rfl⟩ := h
    have hL : ∀ f d g, ¬ Lof H bm f d g w.heap.size := by
      rintro f d g ⟨⟨cs, hf⟩, e⟩
      obtain ⟨vs1, E1, h1, _⟩ := r.blk _ _ _ _ hf
      rw [← e] at h1; simp at h1
    have hX : ¬ X w.heap.size := fun hx => by have := r.xlt _ hx; have := r.size; omega
    let w' : World := { w with heap := w.heap.push (.cells v1.cells t (0, 0)) }
    obtain ⟨rr, mm⟩ := r.grow (w' := w') rfl rfl rfl (by simp [w']) (fun b hb => by simp [w', Array.getElem?_push]; omega)
    refine ⟨.pointer (some ⟨w.heap.size, 0, none⟩), w', bm, by simp [Instr.box, newVar, newRow, w'], rr, mm, ?_⟩
    refine .ro (fun j => v1.cells.getD j undef) (fun j y hj => ?_) (fun j y hj => (hr j y hj).move mm) (fun _ => ⟨hL, hX, by simp [w']⟩)
    rw [add_mk, Nat.zero_add, cell_new]
    exact getD_of _ _ (by rw [hs]; exact (List.getElem?_eq_some_iff.1 hj).1)
  · cases h
theorem ok_fa (r : Rel w0 O X bm H nx w) (t : TypeId) (fs : Array Field) (ht : P.underlying t = some (.struct fs)) (n : Nat) (f : Field) (hf : fs[n]? = some f) (i : TypeInfo) (hi : P.info? f.type = some i) (h0 : i.size ≠ 0) (x : AV) (v1 : Value) (h1 : Rep (Lof H bm) X nx w false x v1) {φ : Nat}
    {v : AV} {H' : Heap} {nx' : Ctr} (h : opK (.fa f.offset) [x] H nx φ (fun v H nx => some (v, H, nx)) none = some (v, H', nx')) : OK P w0 O X bm H nx w (Instr.fieldAt t v1 n) v H' nx' := by
  simp only [opK] at h
  have hrun : ∀ a, (Instr.fieldAt t (.pointer (some a)) n).run P w = .ok (.pointer (some (a.add f.offset))) w := by
    intro a; simp [Instr.fieldAt, run_underlying ht, hf, Instr.sureAddr, fieldPlace, run_sizeOf hi, h0]
  split at h
  · rename_i cs
    split at h
    · rename_i hlt
      cases h1 with
      | ro vv hc hr ho =>
        simp at h; obtain ⟨rfl, rfl, rfl⟩ := h
        refine OK.same r (hrun _) (.ro (fun j => vv (f.offset + j)) (fun j y hj => ?_) (fun j y hj => hr _ _ (by rw [List.getElem?_drop] at hj; exact hj)) (fun _ => ?_))
        · rw [add_add]; exact hc _ y (by rw [List.getElem?_drop] at hj; exact hj)
        · rw [add_block]; exact ho (by intro e; simp [e] at hlt)
    · cases h
  · cases h1 with
    | ptr hg hh =>
      simp at h; obtain ⟨rfl, rfl, rfl⟩ := h
      refine OK.same r (hrun _) (.ptr hg (fun b hb => ?_))
      rw [hh b hb, add_mk]
  · cases h
theorem ok_ld1' (r : Rel w0 O X bm H nx w) (t : TypeId) (D : TypeDesc) (ht : P.underlying t = some D) (hD : aggD D = false) (x : AV) (v1 : Value) (h1 : Rep (Lof H bm) X nx w false x v1) {φ : Nat}
    {v : AV} {H' : Heap} {nx' : Ctr} (h : opK .ld1 [x] H nx φ (fun v H nx => some (v, H, nx)) none = some (v, H', nx')) : ∃ v', (Instr.loadAt t v1).run P w = .ok v' w ∧ H' = H ∧ nx' = nx ∧ Rep (Lof H bm) X nx w false v v' := by
  simp only [opK] at h
  have hrun : ∀ a u, w.cell? a = some u → (Instr.loadAt t (.pointer (some a))).run P w = .ok u w := by
    intro a u hc
    have : (isAgg t).run P w = .ok false w := by
      simp only [isAgg, Sem.run_bind, run_underlying ht, Result.andThen_ok]
      cases D <;> simp [aggD] at hD ⊢
    simp [Instr.loadAt, Instr.sureAddr, loadVar, this, hc]
  split at h
  · rename_i c cs
    cases h1 with
    | ro vv hc hr ho =>
      simp at h; obtain ⟨rfl, rfl, rfl⟩ := h
      have := hc 0 c rfl
      rw [Addr.add_zero'] at this
      exact ⟨_, hrun _ _ this, rfl, rfl, hr 0 c rfl⟩
  · rename_i f d g off
    rw [getB_find] at h
    split at h
    · rename_i g' cs hf
      split at h
      · rename_i hg
        subst hg
        cases hd : cs.drop off with
        | nil => rw [hd] at h; cases h
        | cons c cs' =>
          rw [hd] at h
          simp at h; obtain ⟨rfl, rfl, rfl⟩ := h
          cases h1 with
          | ptr hg hh =>
            obtain rfl := hh _ (Lof.mk hf)
            obtain ⟨vs, E, hb, hl, hrep⟩ := r.blk _ _ _ _ hf
            have hoff : cs[off]? = some c := by have := congrArg (fun l => l[0]?) hd; simpa using this
            have hlt := (List.getElem?_eq_some_iff.1 hoff).1
            refine ⟨_, hrun _ (vs.getD off undef) ?_, rfl, rfl, (hrep _ _ hoff).1⟩
            rw [cell_of_row w _ _ vs E _ hb]; exact getD_of _ _ (by omega)
      · cases h
    · cases h
  · cases h
theorem ok_ld1 (r : Rel w0 O X bm H nx w) (t : TypeId) (D : TypeDesc) (ht : P.underlying t = some D) (hD : aggD D = false) (x : AV) (v1 : Value) (h1 : Rep (Lof H bm) X nx w false x v1) {φ : Nat}
    {v : AV} {H' : Heap} {nx' : Ctr} (h : opK .ld1 [x] H nx φ (fun v H nx => some (v, H, nx)) none = some (v, H', nx')) : OK P w0 O X bm H nx w (Instr.loadAt t v1) v H' nx' := by
  obtain ⟨v', h2, rfl, rfl, h3⟩ := ok_ld1' r t D ht hD x v1 h1 h
  exact OK.same r h2 h3
theorem run_loadCells_arr (w : World) (a : Addr) (vs : Array Value) (o n : Nat) (hn : o + n ≤ vs.size) (h : ∀ j, j < n → w.cell? (a.add j) = some (vs.getD (o + j) undef)) :
    (loadCells a n).run P w = .ok (vs.extract o (o + n)) w := by
  rw [run_loadCells w a n (fun j => vs.getD (o + j) undef) h]
  congr 1
  apply Array.ext
  · simp; omega
  · intro i h1 h2
    simp at h1
    have : o + i < vs.size := by omega
    simp [this]
theorem ok_ldn' (r : Rel w0 O X bm H nx w) (t : TypeId) (D : TypeDesc) (ht : P.underlying t = some D) (hD : aggD D = true) (i : TypeInfo) (hi : P.info? t = some i) (x : AV) (v1 : Value) (h1 : Rep (Lof H bm) X nx w false x v1) {φ : Nat}
    {v : AV} {H' : Heap} {nx' : Ctr} (h : opK (.ldn i.size) [x] H nx φ (fun v H nx => some (v, H, nx)) none = some (v, H', nx')) : ∃ v', (Instr.loadAt t v1).run P w = .ok v' w ∧ H' = H ∧ nx' = nx ∧ Rep (Lof H bm) X nx w false v v' := by
  simp only [opK] at h
  have hrun : ∀ a (f : Nat → Value), (∀ j, j < i.size → w.cell? (a.add j) = some (f j)) → (Instr.loadAt t (.pointer (some a))).run P w = .ok (.agg ((List.range i.size).map f).toArray) w := by
    intro a f hc
    have : (isAgg t).run P w = .ok true w := by
      simp only [isAgg, Sem.run_bind, run_underlying ht, Result.andThen_ok]
      cases D <;> simp [aggD] at hD ⊢
    simp [Instr.loadAt, Instr.sureAddr, loadVar, this, run_sizeOf hi, run_loadCells w a i.size f hc]
  have hget : ∀ (f : Nat → Value) j, j < i.size → (((List.range i.size).map f).toArray).getD j undef = f j := by
    intro f j hj; simp [hj]
  split at h
  · rename_i cs
    split at h
    · rename_i hle
      cases h1 with
      | ro vv hc hr ho =>
        simp at h; obtain ⟨rfl, rfl, rfl⟩ := h
        refine ⟨_, hrun _ vv (fun j hj => ?_), rfl, rfl, .agg (by simp; omega) (fun j y hj => ?_)⟩
        · have : j < cs.length := by omega
          exact hc j cs[j] (List.getElem?_eq_getElem this)
        · have hj' : j < i.size := by have := (List.getElem?_eq_some_iff.1 hj).1; simp at this; omega
          rw [hget _ _ hj']
          rw [List.getElem?_take_of_lt hj'] at hj
          exact hr _ _ hj
    · cases h
  · rename_i f d g off
    rw [getB_find] at h
    split at h
    · rename_i g' cs hf
      split at h
      · rename_i hg
        subst hg
        split at h
        · rename_i hle
          simp at h; obtain ⟨rfl, rfl, rfl⟩ := h
          cases h1 with
          | ptr hg hh =>
            obtain rfl := hh _ (Lof.mk hf)
            obtain ⟨vs, E, hb, hl, hrep⟩ := r.blk _ _ _ _ hf
            refine ⟨_, hrun _ (fun j => vs.getD (off + j) undef) (fun j hj => ?_), rfl, rfl, .agg (by simp; omega) (fun j y hj => ?_)⟩
            · rw [add_mk, cell_of_row w _ _ vs E _ hb]; exact getD_of _ _ (by omega)
            · have hj' : j < i.size := by have := (List.getElem?_eq_some_iff.1 hj).1; simp at this; omega
              rw [hget _ _ hj']
              rw [List.getElem?_take_of_lt hj', List.getElem?_drop] at hj
              exact (hrep _ _ hj).1
        · cases h
      · cases h
    · cases h
  · cases h
theorem ok_ldn (r : Rel w0 O X bm H nx w) (t : TypeId) (D : TypeDesc) (ht : P.underlying t = some D) (hD : aggD D = true) (i : TypeInfo) (hi : P.info? t = some i) (x : AV) (v1 : Value) (h1 : Rep (Lof H bm) X nx w false x v1) {φ : Nat}
    {v : AV} {H' : Heap} {nx' : Ctr} (h : opK (.ldn i.size) [x] H nx φ (fun v H nx => some (v, H, nx)) none = some (v, H', nx')) : OK P w0 O X bm H nx w (Instr.loadAt t v1) v H' nx' := by
  obtain ⟨v', h2, rfl, rfl, h3⟩ := ok_ldn' r t D ht hD i hi x v1 h1 h
  exact OK.same r h2 h3
end
end Go.Ev
/- Operations, second part: what writes and makes memory; indexes, cuts, append. -/
namespace Go.Ev
open Go.RowKit
set_option linter.unusedVariables false
set_option linter.unusedSimpArgs false
set_option linter.unusedSectionVars false

section
variable {P : Program} {w0 : World} {O X : Nat → Prop} {bm : Nat → Nat → Nat} {H : Heap} {nx : Ctr} {w : World}

theorem one_of_scal1 {L : Loc} {p : Bool} {x : AV} {v : Value} (h : Rep L X nx w p x v) (hs : scal1 x = true) : v.oneCell' = true := by
  cases h <;> first | rfl | simp [scal1] at hs

/-- A value that is the same in whatever world. -/
def Closed (x : AV) (v : Value) : Prop := ∀ (L : Loc) (X : Nat → Prop) (nx : Ctr) (w : World) (p : Bool), Rep L X nx w p x v

theorem ok_boxm (r : Rel w0 O X bm H nx w) (t : TypeId) (key : Nat) (x : AV) (v1 : Value) (h1 : Rep (Lof H bm) X nx w false x v1) {φ : Nat}
    {v : AV} {H' : Heap} {nx' : Ctr} (h : opK (.boxm key) [x] H nx φ (fun v H nx => some (v, H, nx)) none = some (v, H', nx')) : OK P w0 O X bm H nx w (Instr.box t v1) v H' nx' := by
  simp only [opK] at h
  split at h
  · rename_i hc
    obtain ⟨hs, hr⟩ := h1.cells (by intro e; rw [e] at hc; exact hc.1 rfl)
    simp at h; obtain ⟨rfl, rfl, rfl⟩ := h
    refine OK.new r (vs := v1.cells) (E := t) (w' := { w with heap := w.heap.push (.cells v1.cells t (0, 0)) }) (v' := .pointer (some ⟨w.heap.size, 0, none⟩))
      (by simp [Instr.box, newVar, newRow]) rfl rfl rfl rfl (by omega) (fun j x hj => ⟨hr j x hj, one_of_scal1 (hr j x hj) (List.all_eq_true.1 hc.2 _ (List.mem_of_getElem? hj))⟩) (.ptr (by simp [bump]) ?_)
    rintro b ⟨_, rfl⟩
    rw [bset_same]
  · cases h
theorem ok_new (r : Rel w0 O X bm H nx w) (t : TypeId) (i : TypeInfo) (hi : P.info? t = some i) (zv : Value) (hz : i.zero = some zv) (z : List AV) (hl : z.length = zv.cells.size)
    (hzr : ∀ (j : Nat) x, z[j]? = some x → Closed x (zv.cells.getD j undef) ∧ scal1 x = true) (key : Nat) {φ : Nat}
    {v : AV} {H' : Heap} {nx' : Ctr} (h : opK (.new z key) [] H nx φ (fun v H nx => some (v, H, nx)) none = some (v, H', nx')) : OK P w0 O X bm H nx w (Instr.alloc t true (.tuple #[])) v H' nx' := by
  simp only [opK] at h
  simp at h; obtain ⟨rfl, rfl, rfl⟩ := h
  refine OK.new r (vs := zv.cells) (E := t) (w' := { w with heap := w.heap.push (.cells zv.cells t (0, 0)) }) (v' := .pointer (some ⟨w.heap.size, 0, none⟩))
    (by simp [Instr.alloc, zeroValue, typeInfo, hi, hz, newVar, newRow]) rfl rfl rfl rfl (by omega) (fun j x hx => ⟨(hzr j x hx).1 _ _ _ _ _, one_of_scal1 ((hzr j x hx).1 (Lof H bm) X nx w false) (hzr j x hx).2⟩) (.ptr (by simp [bump]) ?_)
  rintro b ⟨_, rfl⟩
  rw [bset_same]
theorem ok_st (r : Rel w0 O X bm H nx w) (t : TypeId) (i : TypeInfo) (hi : P.info? t = some i) (x y : AV) (v1 v2 : Value) (h1 : Rep (Lof H bm) X nx w false x v1) (h2 : Rep (Lof H bm) X nx w false y v2) (h0 : i.size ≠ 0) {φ : Nat}
    {v : AV} {H' : Heap} {nx' : Ctr} (h : opK (.st i.size) [x, y] H nx φ (fun v H nx => some (v, H, nx)) none = some (v, H', nx')) :
    ∃ w' bm', (Instr.storeAt t v1 v2).run P w = .ok () w' ∧ Rel w0 O X bm' H' nx' w' ∧ Move (Lof H bm) nx w (Lof H' bm') nx' w' ∧ v = .any := by
  simp only [opK] at h
  split at h
  · rename_i f d g off
    rw [getB_find] at h
    split at h
    · rename_i g' cs hf
      split at h
      · rename_i hg
        subst hg
        split at h
        · rename_i hc
          obtain ⟨hc1, hc2, hc3⟩ := hc
          simp only [Option.some.injEq, Prod.mk.injEq] at h; obtain ⟨rfl, rfl, rfl⟩ := h
          cases h1 with
          | ptr hg hh =>
            obtain rfl := hh _ (Lof.mk hf)
            obtain ⟨hs, hr⟩ := h2.cells (by intro e; rw [e] at hc1; exact h0 hc1.symm)
            obtain ⟨vs, E, hb, hl, hrep⟩ := r.blk _ _ _ _ hf
            have hone : ∀ u ∈ v2.cells.toList, u.oneCell' = true := by
              intro u hu
              obtain ⟨j, hj, rfl⟩ := List.mem_iff_getElem.1 hu
              have hj' : j < (cells y).length := by simpa [hs] using hj
              have := hr j _ (List.getElem?_eq_getElem hj')
              have hsc := (List.all_eq_true.1 hc2) _ (List.getElem_mem hj')
              have h3 := one_of_scal1 this hsc
              simpa [hs, hj', Array.getD] using h3
            have hst := run_storeCells_at P (bm f d) off E v2.cells.toList 0 vs w hb (by simp only [Array.length_toList]; omega) hone
            refine ⟨_, bset bm f d (bm f d), by simp only [Instr.storeAt, Instr.sureAddr, storeVar, Sem.run_bind, Sem.run_pure, Result.andThen_ok, run_sizeOf hi]; rw [if_neg (by rw [hs]; exact fun h => h hc1)]; exact hst, ?_⟩
            simp only [Nat.add_zero]
            have := r.set (w' := w.setRow (bm f d) (vs.toList.take off ++ v2.cells.toList ++ vs.toList.drop (off + v2.cells.toList.length)).toArray) (f := f) (d := d) (g' := g') (nx' := nx) (b' := bm f d)
              (cs' := cs.take off ++ cells y ++ cs.drop (off + i.size)) rfl rfl rfl (by simp) (fun b hb1 _ => setRow_other _ _ _ _ hb1) (setRow_heap _ _ _ _ _ _ hb) (.inr ⟨rfl, _, _, hf⟩)
              (.inr ⟨rfl, rfl, ⟨_, hf⟩, fun vs0 E0 h0 => by rw [hb] at h0; simp at h0; obtain ⟨rfl, rfl⟩ := h0; exact ⟨by simp; omega, rfl⟩⟩)
              (by simp; omega) ?_
            · exact ⟨this.1, this.2, trivial⟩
            · intro j u hj
              have hlen : v2.cells.toList.length = i.size := by simp [hs, hc1]
              have e1 : (vs.toList.take off ++ v2.cells.toList ++ vs.toList.drop (off + v2.cells.toList.length)).toArray.getD j undef = ((vs.toList.take off ++ v2.cells.toList ++ vs.toList.drop (off + v2.cells.toList.length))[j]?).getD undef := by simp
              rw [e1]
              rw [List.append_assoc, List.getElem?_append] at hj ⊢
              have l1 : (cs.take off).length = off := by simp; omega
              have l2 : (vs.toList.take off).length = off := by simp; omega
              rw [l1] at hj
              rw [l2]
              split at hj
              · rename_i hlt
                rw [if_pos hlt, List.getElem?_take_of_lt hlt]
                rw [List.getElem?_take_of_lt hlt] at hj
                have := hrep _ _ hj
                simpa using this
              · rename_i hge
                rw [if_neg hge]
                rw [List.getElem?_append] at hj ⊢
                rw [hc1] at hj
                rw [hlen]
                split at hj
                · rename_i hlt
                  rw [if_pos hlt]
                  have h3 := hr _ _ hj
                  have h4 := one_of_scal1 h3 (List.all_eq_true.1 hc2 _ (List.mem_of_getElem? hj))
                  exact ⟨by simpa using h3, by simpa using h4⟩
                · rename_i hge2
                  rw [if_neg hge2]
                  rw [List.getElem?_drop] at hj ⊢
                  have := hrep _ _ hj
                  simpa using this
        · cases h
      · cases h
    · cases h
  · cases h

/-! ### parts, indexes -/
theorem ok_fld1 (r : Rel w0 O X bm H nx w) (t : TypeId) (fs : Array Field) (ht : P.underlying t = some (.struct fs)) (n : Nat) (f : Field) (hf : fs[n]? = some f) (D : TypeDesc) (htf : P.underlying f.type = some D) (hD : aggD D = false) (x : AV) (v1 : Value) (h1 : Rep (Lof H bm) X nx w false x v1) {φ : Nat}
    {v : AV} {H' : Heap} {nx' : Ctr} (h : opK (.fld1 f.offset) [x] H nx φ (fun v H nx => some (v, H, nx)) none = some (v, H', nx')) : OK P w0 O X bm H nx w (Instr.field t v1 n) v H' nx' := by
  simp only [opK] at h
  split at h
  · rename_i cs
    cases hd : cs.drop f.offset with
    | nil => rw [hd] at h; cases h
    | cons c cs' =>
      rw [hd] at h
      simp at h; obtain ⟨rfl, rfl, rfl⟩ := h
      cases h1 with
      | agg hl hr =>
        rename_i vs
        have hoff : cs[f.offset]? = some c := by have := congrArg (fun l => l[0]?) hd; simpa using this
        have hlt := (List.getElem?_eq_some_iff.1 hoff).1
        have : (isAgg f.type).run P w = .ok false w := by
          simp only [isAgg, Sem.run_bind, run_underlying htf, Result.andThen_ok]
          cases D <;> simp [aggD] at hD ⊢
        refine OK.same r ?_ (hr _ _ hoff)
        have hv : vs[f.offset]? = some (vs.getD f.offset undef) := getD_of _ _ (by omega)
        simp only [Instr.field, Sem.run_bind, run_underlying ht, Result.andThen_ok, hf, asAgg, Sem.run_pure, part, this, Bool.false_eq_true, if_false, hv]
  · cases h
theorem ok_fldn (r : Rel w0 O X bm H nx w) (t : TypeId) (fs : Array Field) (ht : P.underlying t = some (.struct fs)) (n : Nat) (f : Field) (hf : fs[n]? = some f) (i : TypeInfo) (hi : P.info? f.type = some i) (D : TypeDesc) (htf : P.underlying f.type = some D) (hD : aggD D = true) (x : AV) (v1 : Value) (h1 : Rep (Lof H bm) X nx w false x v1) {φ : Nat}
    {v : AV} {H' : Heap} {nx' : Ctr} (h : opK (.fldn f.offset i.size) [x] H nx φ (fun v H nx => some (v, H, nx)) none = some (v, H', nx')) : OK P w0 O X bm H nx w (Instr.field t v1 n) v H' nx' := by
  simp only [opK] at h
  split at h
  · rename_i cs
    split at h
    · rename_i hle
      simp at h; obtain ⟨rfl, rfl, rfl⟩ := h
      cases h1 with
      | agg hl hr =>
        rename_i vs
        have : (isAgg f.type).run P w = .ok true w := by
          simp only [isAgg, Sem.run_bind, run_underlying htf, Result.andThen_ok]
          cases D <;> simp [aggD] at hD ⊢
        refine OK.same r (v' := .agg (vs.extract f.offset (f.offset + i.size))) ?_ (.agg (by simp; omega) (fun j y hj => ?_))
        · simp only [Instr.field, Sem.run_bind, run_underlying ht, Result.andThen_ok, hf, asAgg, Sem.run_pure, part, this, if_true, run_sizeOf hi]
        · have hj' : j < i.size := by have := (List.getElem?_eq_some_iff.1 hj).1; simp at this; omega
          rw [List.getElem?_take_of_lt hj', List.getElem?_drop] at hj
          have := hr _ _ hj
          have hlt : f.offset + j < vs.size := by omega
          have h2 : j < min (f.offset + i.size) vs.size - f.offset := by omega
          simpa [hlt, hj', h2, Array.getElem?_extract] using this
    · cases h
  · cases h
theorem ok_ixS (r : Rel w0 O X bm H nx w) (t e : TypeId) (ht : P.underlying t = some (.slice e)) (i : TypeInfo) (hi : P.info? e = some i) (x y : AV) (v1 v2 : Value) (h1 : Rep (Lof H bm) X nx w false x v1) (h2 : Rep (Lof H bm) X nx w false y v2) {φ : Nat} (h0 : i.size ≠ 0)
    {v : AV} {H' : Heap} {nx' : Ctr} (h : opK (.ixS i.size) [x, y] H nx φ (fun v H nx => some (v, H, nx)) none = some (v, H', nx')) : OK P w0 O X bm H nx w (Instr.indexAt t v1 v2) v H' nx' := by
  simp only [opK] at h
  have hrun : ∀ a (len c : Nat) k (n : Int), 0 ≤ n → n < len → (Instr.indexAt t (.slice (some a) len c) (.int k n)).run P w = .ok (.pointer (some (a.add (n.toNat * i.size)))) w := by
    intro a len c k n h0 h1
    simp [Instr.indexAt, asIntOf, run_underlying ht, run_sizeOf hi, h0, h1]
  split at h
  · rename_i k n
    cases h2
    split at h
    · cases h
    · rename_i hn
      split at h
      · rename_i sz es cap
        split at h
        · rename_i hsz0
          subst hsz0
          cases hes : es[n.toNat]? with
          | none => rw [hes] at h; cases h
          | some e1 =>
            rw [hes] at h
            simp at h; obtain ⟨rfl, rfl, rfl⟩ := h
            have hlt := (List.getElem?_eq_some_iff.1 hes).1
            cases h1 with
            | fz0 => simp at hes
            | fz vv hne hl hcap hsz hc hr h1 ho =>
              refine OK.same r (hrun _ _ _ _ _ (by omega) (by omega)) (.ro (fun j => vv n.toNat j) (fun j z hj => ?_) (fun j z hj => (hr _ _ _ _ hes hj).weak) (fun _ => ?_))
              · rw [add_add]; exact hc _ _ _ _ hes hj
              · rw [add_block]; exact ho
        · cases h
      · rename_i f d g sz off len
        split at h
        · rename_i hc
          obtain ⟨rfl, hlt⟩ := hc
          simp at h; obtain ⟨rfl, rfl, rfl⟩ := h
          cases h1 with
          | sl hg hl hh =>
            refine OK.same r (hrun _ _ _ _ _ (by omega) (by omega)) (.ptr hg (fun b hb => ?_))
            obtain ⟨h3, _⟩ := hh b hb
            rw [h3 (by omega), add_mk, Nat.add_mul]
        · cases h
      · cases h
  · cases h
theorem ok_ixP (r : Rel w0 O X bm H nx w) (t e : TypeId) (len : Nat) (ht : P.underlying t = some (.array len e)) (i : TypeInfo) (hi : P.info? e = some i) (x y : AV) (v1 v2 : Value) (h1 : Rep (Lof H bm) X nx w false x v1) (h2 : Rep (Lof H bm) X nx w false y v2) {φ : Nat}
    {v : AV} {H' : Heap} {nx' : Ctr} (h : opK (.ixP len i.size) [x, y] H nx φ (fun v H nx => some (v, H, nx)) none = some (v, H', nx')) : OK P w0 O X bm H nx w (Instr.indexAt t v1 v2) v H' nx' := by
  simp only [opK] at h
  have hrun : ∀ a k (n : Int), 0 ≤ n → n < len → (Instr.indexAt t (.pointer (some a)) (.int k n)).run P w = .ok (.pointer (some (a.add (n.toNat * i.size)))) w := by
    intro a k n h0 h1
    simp [Instr.indexAt, asIntOf, run_underlying ht, run_sizeOf hi, h0, h1, Instr.sureAddr]
  split at h
  · rename_i k n
    cases h2
    split at h
    · rename_i hn
      split at h
      · rename_i cs
        split at h
        · rename_i hlt
          simp at h; obtain ⟨rfl, rfl, rfl⟩ := h
          cases h1 with
          | ro vv hc hr ho =>
            refine OK.same r (hrun _ _ _ hn.1 hn.2) (.ro (fun j => vv (n.toNat * i.size + j)) (fun j z hj => ?_) (fun j z hj => ?_) (fun _ => ?_))
            · rw [add_add]; exact hc _ z (by rw [List.getElem?_drop] at hj; exact hj)
            · exact hr _ _ (by rw [List.getElem?_drop] at hj; exact hj)
            · rw [add_block]; exact ho (by intro e; simp [e] at hlt)
        · cases h
      · simp at h; obtain ⟨rfl, rfl, rfl⟩ := h
        cases h1 with
        | ptr hg hh =>
          refine OK.same r (hrun _ _ _ hn.1 hn.2) (.ptr hg (fun b hb => ?_))
          rw [hh b hb, add_mk]
      · cases h
    · cases h
  · cases h
theorem ok_ixT (r : Rel w0 O X bm H nx w) (t : TypeId) (ht : P.underlying t = some .string) (x y : AV) (v1 v2 : Value) (h1 : Rep (Lof H bm) X nx w false x v1) (h2 : Rep (Lof H bm) X nx w false y v2) {φ : Nat}
    {v : AV} {H' : Heap} {nx' : Ctr} (h : opK .ixT [x, y] H nx φ (fun v H nx => some (v, H, nx)) none = some (v, H', nx')) : OK P w0 O X bm H nx w (Instr.index t v1 v2) v H' nx' := by
  simp only [opK] at h
  split at h
  · rename_i s k n
    cases h1; cases h2
    split at h
    · cases h
    · rename_i hn
      cases hb : s.data.toList[n.toNat]? with
      | none => rw [hb] at h; cases h
      | some b =>
        rw [hb] at h
        simp at h; obtain ⟨rfl, rfl, rfl⟩ := h
        have h0 : 0 ≤ n := by omega
        have hsb : s[n.toNat]? = some b := by
          obtain ⟨h1, h2⟩ := List.getElem?_eq_some_iff.1 hb
          have h1' : n.toNat < s.size := by simpa using h1
          rw [getElem?_pos s n.toNat h1']
          rw [← h2]; rfl
        refine OK.same r (v' := .int .u8 b.toNat) ?_ .int
        simp [Instr.index, asIntOf, run_underlying ht, h0, hsb]
  · cases h
theorem ok_lenT (r : Rel w0 O X bm H nx w) (t ty : TypeId) (ht : P.underlying t = some .string) (x : AV) (v1 : Value) (h1 : Rep (Lof H bm) X nx w false x v1) {φ : Nat}
    {v : AV} {H' : Heap} {nx' : Ctr} (h : opK .lenT [x] H nx φ (fun v H nx => some (v, H, nx)) none = some (v, H', nx')) : OK P w0 O X bm H nx w (Builtin.len_ #[t] ty #[v1]) v H' nx' := by
  simp only [opK] at h
  split at h
  · rename_i s
    cases h1
    simp at h; obtain ⟨rfl, rfl, rfl⟩ := h
    exact OK.same r (v' := .int .i64 s.size) (by simp [Builtin.len_, run_underlying ht, goInt]) .int
  · cases h
theorem ok_len (r : Rel w0 O X bm H nx w) (t ty e : TypeId) (ht : P.underlying t = some (.slice e)) (x : AV) (v1 : Value) (h1 : Rep (Lof H bm) X nx w false x v1) {φ : Nat}
    {v : AV} {H' : Heap} {nx' : Ctr} (h : opK .len [x] H nx φ (fun v H nx => some (v, H, nx)) none = some (v, H', nx')) : OK P w0 O X bm H nx w (Builtin.len_ #[t] ty #[v1]) v H' nx' := by
  simp only [opK] at h
  have hrun : ∀ a n c, (Builtin.len_ #[t] ty #[.slice a n c]).run P w = .ok (.int .i64 n) w := by intro a n c; simp [Builtin.len_, run_underlying ht, goInt]
  split at h <;> try (cases h; done)
  all_goals
    cases h1 <;> simp at h <;> obtain ⟨rfl, rfl, rfl⟩ := h <;> exact OK.same r (hrun _ _ _) .int
theorem ok_ext (r : Rel w0 O X bm H nx w) (i : Nat) (x : AV) (v1 : Value) (h1 : Rep (Lof H bm) X nx w false x v1) {φ : Nat}
    {v : AV} {H' : Heap} {nx' : Ctr} (h : opK (.ext i) [x] H nx φ (fun v H nx => some (v, H, nx)) none = some (v, H', nx')) : OK P w0 O X bm H nx w (Instr.extract v1 i) v H' nx' := by
  simp only [opK] at h
  split at h
  · rename_i cs
    cases hd : cs.drop i with
    | nil => rw [hd] at h; cases h
    | cons c cs' =>
      rw [hd] at h
      simp at h; obtain ⟨rfl, rfl, rfl⟩ := h
      cases h1 with
      | tup hl hr =>
        rename_i vs
        have hoff : cs[i]? = some c := by have := congrArg (fun l => l[0]?) hd; simpa using this
        have hlt := (List.getElem?_eq_some_iff.1 hoff).1
        refine OK.same r ?_ (hr _ _ hoff)
        have hv : vs[i]? = some (vs.getD i undef) := getD_of _ _ (by omega)
        simp only [Instr.extract, hv, Sem.run_pure]
  · cases h
theorem ok_mn (r : Rel w0 O X bm H nx w) (ts : Array TypeId) (ty : TypeId) (x y : AV) (v1 v2 : Value) (h1 : Rep (Lof H bm) X nx w false x v1) (h2 : Rep (Lof H bm) X nx w false y v2) {φ : Nat}
    {v : AV} {H' : Heap} {nx' : Ctr} (h : opK .mn [x, y] H nx φ (fun v H nx => some (v, H, nx)) none = some (v, H', nx')) : OK P w0 O X bm H nx w (Builtin.min_ ts ty #[v1, v2]) v H' nx' := by
  simp only [opK] at h
  split at h
  · cases h1; cases h2
    simp at h; obtain ⟨rfl, rfl, rfl⟩ := h
    exact OK.same r (by simp [Builtin.min_, Builtin.min2]) .int
  · cases h
theorem ok_mx (r : Rel w0 O X bm H nx w) (ts : Array TypeId) (ty : TypeId) (x y : AV) (v1 v2 : Value) (h1 : Rep (Lof H bm) X nx w false x v1) (h2 : Rep (Lof H bm) X nx w false y v2) {φ : Nat}
    {v : AV} {H' : Heap} {nx' : Ctr} (h : opK .mx [x, y] H nx φ (fun v H nx => some (v, H, nx)) none = some (v, H', nx')) : OK P w0 O X bm H nx w (Builtin.max_ ts ty #[v1, v2]) v H' nx' := by
  simp only [opK] at h
  split at h
  · cases h1; cases h2
    simp at h; obtain ⟨rfl, rfl, rfl⟩ := h
    exact OK.same r (by simp [Builtin.max_, Builtin.max2]) .int
  · cases h
end
end Go.Ev
/- Operations, third part: cuts, append, literals, make, conversions; what is frozen. -/
namespace Go.Ev
open Go.RowKit
set_option linter.unusedVariables false
set_option linter.unusedSimpArgs false
set_option linter.unusedSectionVars false

theorem catCells_get {sz : Nat} (h0 : 0 < sz) : ∀ (es : List AV), (∀ (i : Nat) e, es[i]? = some e → (cells e).length = sz) → ∀ q, (catCells es)[q]? = (es[q / sz]?).bind fun e => (cells e)[q % sz]?
  | [], _, q => by simp [catCells]
  | e :: es, h, q => by
    have h1 := h 0 e rfl
    have ih := catCells_get h0 es (fun i e hi => h (i + 1) e hi)
    simp only [catCells, List.getElem?_append, h1]
    split
    · rename_i hq
      rw [Nat.div_eq_of_lt hq, Nat.mod_eq_of_lt hq]; rfl
    · rename_i hq
      rw [ih (q - sz)]
      have hq' : sz ≤ q := by omega
      obtain ⟨k, rfl⟩ : ∃ k, q = k + sz := ⟨q - sz, by omega⟩
      simp only [Nat.add_sub_cancel, Nat.add_mod_right]
      rw [Nat.add_div_right _ h0]; rfl
theorem catCells_len {sz : Nat} : ∀ (es : List AV), (∀ (i : Nat) e, es[i]? = some e → (cells e).length = sz) → (catCells es).length = es.length * sz
  | [], _ => by simp [catCells]
  | e :: es, h => by
    have h1 := h 0 e rfl
    have ih := catCells_len es (fun i e hi => h (i + 1) e hi)
    simp only [catCells, List.length_append, h1, ih, List.length_cons, Nat.add_mul]; omega

section
variable {P : Program} {w0 : World} {O X : Nat → Prop} {bm : Nat → Nat → Nat} {H : Heap} {nx : Ctr} {w : World}

/-- Operands' values, one by one. -/
inductive Reps (L : Loc) (X : Nat → Prop) (nx : Ctr) (w : World) (p : Bool) : List AV → List Value → Prop
  | nil : Reps L X nx w p [] []
  | cons {x xs v vs} (h : Rep L X nx w p x v) (t : Reps L X nx w p xs vs) : Reps L X nx w p (x :: xs) (v :: vs)

theorem Reps.inv {L : Loc} {p : Bool} {x : AV} {xs : List AV} {vs : List Value} (h : Reps L X nx w p (x :: xs) vs) : ∃ v vs', vs = v :: vs' ∧ Rep L X nx w p x v ∧ Reps L X nx w p xs vs' := by
  cases h with | cons h t => exact ⟨_, _, rfl, h, t⟩
theorem Reps.inv0 {L : Loc} {p : Bool} {vs : List Value} (h : Reps L X nx w p [] vs) : vs = [] := by cases h; rfl

/-! ### cuts -/
theorem run_sliceBound (k : IntKind) (n : Int) (y : Nat) (code : BoundsCode) (h0 : 0 ≤ n) (h1 : n ≤ y) : (Instr.sliceBound (.int k n) y code).run P w = .ok n.toNat w := by
  simp [Instr.sliceBound, asIntOf, h0, h1]
theorem bndK_some {L : Loc} {x : AV} {v : Value} {m n : Nat} {α : Type} {ok : Nat → Option α} {r : α} (h : bndK x m ok none = some r) (hr : Rep L X nx w false x v) :
    ∃ k i, v = .int k i ∧ 0 ≤ i ∧ i ≤ m ∧ ok i.toNat = some r := by
  unfold bndK at h
  split at h
  · cases hr
    split at h
    · rename_i hc; exact ⟨_, _, rfl, hc.1, hc.2, h⟩
    · cases h
  · cases h
/-- The bounds as the model has them: low, high, max. -/
def bounds (lo hi mx : Bool) (vs : List Value) : Option Value × Option Value × Option Value :=
  match lo, hi, mx, vs with
  | true, false, false, [l] => (some l, none, none)
  | false, true, false, [h] => (none, some h, none)
  | true, true, false, [l, h] => (some l, some h, none)
  | false, true, true, [h, m] => (none, some h, some m)
  | true, true, true, [l, h, m] => (some l, some h, some m)
  | _, _, _, _ => (none, none, none)
theorem cut_run {L : Loc} (isSlice : Bool) (len lim cap : Nat) (lo hi mx : Bool) (xs : List AV) (vs : List Value) (hv : Reps L X nx w false xs vs) (hcap : lim ≤ cap) (hlen : len ≤ lim)
    {α : Type} {ok : Nat → Nat → Option Nat → Option α} {r : α} (h : cutK len lim lo hi mx xs ok none = some r) :
    ∃ l hh m, (Instr.sliceBounds isSlice len cap (bounds lo hi mx vs).1 (bounds lo hi mx vs).2.1 (bounds lo hi mx vs).2.2).run P w = .ok (l, hh, m.getD cap) w ∧ ok l hh m = some r ∧ l ≤ hh ∧ hh ≤ lim ∧ (∀ q, m = some q → hh ≤ q ∧ q ≤ lim) ∧ (mx = false → m = none) := by
  unfold cutK at h
  split at h
  · obtain rfl := hv.inv0
    exact ⟨0, len, none, by simp [bounds, Instr.sliceBounds], h, by omega, by omega, by simp, fun _ => rfl⟩
  · obtain ⟨_, _, rfl, h1, t⟩ := hv.inv; obtain rfl := t.inv0
    obtain ⟨k, i, rfl, h0, hi, h⟩ := bndK_some (n := 0) h h1
    exact ⟨i.toNat, len, none, by simp [bounds, Instr.sliceBounds, run_sliceBound _ _ _ _ h0 hi], h, by omega, by omega, by simp, fun _ => rfl⟩
  · obtain ⟨_, _, rfl, h1, t⟩ := hv.inv; obtain rfl := t.inv0
    obtain ⟨k, i, rfl, h0, hi, h⟩ := bndK_some (n := 0) h h1
    exact ⟨0, i.toNat, none, by simp [bounds, Instr.sliceBounds, run_sliceBound _ _ _ _ h0 (show i ≤ (cap : Int) by omega)], h, by omega, by omega, by simp, fun _ => rfl⟩
  · obtain ⟨_, _, rfl, h1, t⟩ := hv.inv; obtain ⟨_, _, rfl, h2, t⟩ := t.inv; obtain rfl := t.inv0
    obtain ⟨k, i, rfl, h0, hi, h⟩ := bndK_some (n := 0) h h2
    obtain ⟨k', i', rfl, h0', hi', h⟩ := bndK_some (n := 0) h h1
    exact ⟨i'.toNat, i.toNat, none, by simp [bounds, Instr.sliceBounds, run_sliceBound _ _ _ _ h0 (show i ≤ (cap : Int) by omega), run_sliceBound _ _ _ _ h0' hi'], h, by omega, by omega, by simp, fun _ => rfl⟩
  · obtain ⟨_, _, rfl, h1, t⟩ := hv.inv; obtain ⟨_, _, rfl, h2, t⟩ := t.inv; obtain rfl := t.inv0
    obtain ⟨k, i, rfl, h0, hi, h⟩ := bndK_some (n := 0) h h2
    obtain ⟨k', i', rfl, h0', hi', h⟩ := bndK_some (n := 0) h h1
    exact ⟨0, i'.toNat, some i.toNat, by simp [bounds, Instr.sliceBounds, run_sliceBound _ _ _ _ h0 (show i ≤ (cap : Int) by omega), run_sliceBound _ _ _ _ h0' hi'], h, by omega, by omega, by simp; omega, by simp⟩
  · obtain ⟨_, _, rfl, h1, t⟩ := hv.inv; obtain ⟨_, _, rfl, h2, t⟩ := t.inv; obtain ⟨_, _, rfl, h3, t⟩ := t.inv; obtain rfl := t.inv0
    obtain ⟨k, i, rfl, h0, hi, h⟩ := bndK_some (n := 0) h h3
    obtain ⟨k', i', rfl, h0', hi', h⟩ := bndK_some (n := 0) h h2
    obtain ⟨k2, i2, rfl, h02, hi2, h⟩ := bndK_some (n := 0) h h1
    exact ⟨i2.toNat, i'.toNat, some i.toNat, by simp [bounds, Instr.sliceBounds, run_sliceBound _ _ _ _ h0 (show i ≤ (cap : Int) by omega), run_sliceBound _ _ _ _ h0' hi', run_sliceBound _ _ _ _ h02 hi2], h, by omega, by omega, by simp; omega, by simp⟩
  · cases h

theorem bounds_mx (lo hi : Bool) (vs : List Value) : (bounds lo hi false vs).2.2 = none := by unfold bounds; split <;> simp_all

theorem ok_slcT (r : Rel w0 O X bm H nx w) (t : TypeId) (ht : P.underlying t = some .string) (lo hi : Bool) (x : AV) (v1 : Value) (hx : Rep (Lof H bm) X nx w false x v1) (xs : List AV) (vs : List Value) (hv : Reps (Lof H bm) X nx w false xs vs) {φ : Nat}
    {v : AV} {H' : Heap} {nx' : Ctr} (h : opK (.slcT lo hi) (x :: xs) H nx φ (fun v H nx => some (v, H, nx)) none = some (v, H', nx')) :
    OK P w0 O X bm H nx w (Instr.sliceAt t v1 (bounds lo hi false vs).1 (bounds lo hi false vs).2.1 none) v H' nx' := by
  simp only [opK] at h
  split at h
  case h_2 => cases h
  rename_i s
  cases hx
  obtain ⟨l, hh, m, hrun, h, h1, h2, h3, h4⟩ := cut_run (P := P) false s.size s.size s.size lo hi false xs vs hv (Nat.le_refl _) (Nat.le_refl _) h
  have hb := bounds_mx lo hi vs
  rw [hb] at hrun
  simp at h; obtain ⟨rfl, rfl, rfl⟩ := h
  exact OK.same r (by simp [Instr.sliceAt, Instr.slice, run_underlying ht, hrun]) .str
theorem ok_slc (r : Rel w0 O X bm H nx w) (t e : TypeId) (ht : P.underlying t = some (.slice e)) (i : TypeInfo) (hi : P.info? e = some i) (lo hi_ mx : Bool) (x : AV) (v1 : Value) (h1 : Rep (Lof H bm) X nx w false x v1) (xs : List AV) (vs : List Value) (hv : Reps (Lof H bm) X nx w false xs vs) {φ : Nat}
    {v : AV} {H' : Heap} {nx' : Ctr} (h : opK (.slc i.size lo hi_ mx) (x :: xs) H nx φ (fun v H nx => some (v, H, nx)) none = some (v, H', nx')) :
    OK P w0 O X bm H nx w (Instr.sliceAt t v1 (bounds lo hi_ mx vs).1 (bounds lo hi_ mx vs).2.1 (bounds lo hi_ mx vs).2.2) v H' nx' := by
  simp only [opK] at h
  have hrun0 : ∀ a len c l hh m, (Instr.sliceBounds true len c (bounds lo hi_ mx vs).1 (bounds lo hi_ mx vs).2.1 (bounds lo hi_ mx vs).2.2).run P w = .ok (l, hh, m) w →
      (Instr.sliceAt t (.slice a len c) (bounds lo hi_ mx vs).1 (bounds lo hi_ mx vs).2.1 (bounds lo hi_ mx vs).2.2).run P w = .ok (.slice (if m = l then a else a.map (·.add (l * i.size))) (hh - l) (m - l)) w := by
    intro a len c l hh m hb
    simp [Instr.sliceAt, Instr.slice, run_underlying ht, hb, run_sizeOf hi]
  split at h
  · cases h1
    obtain ⟨l, hh, m, hrun, h, h2, h3, h4, h5⟩ := cut_run (P := P) true 0 0 0 lo hi_ mx xs vs hv (Nat.le_refl _) (Nat.le_refl _) h
    have hrun := hrun0 none _ _ _ _ _ hrun
    split at h
    · rename_i hc
      obtain ⟨rfl, rfl, hm⟩ := hc
      simp at h; obtain ⟨rfl, rfl, rfl⟩ := h
      refine OK.same r hrun ?_
      rcases hm with rfl | rfl <;> simp <;> exact .nils
    · cases h
  · rename_i sz' es c0
    split at h
    · rename_i hsz0
      subst hsz0
      have key : ∀ A c, v1 = .slice A es.length c → es.length ≤ c → (∀ c', c0 = some c' → c = c') → (A = none → c = 0 ∧ es = [] ∧ c0 = none) → OK P w0 O X bm H nx w (Instr.sliceAt t v1 (bounds lo hi_ mx vs).1 (bounds lo hi_ mx vs).2.1 (bounds lo hi_ mx vs).2.2) v H' nx' := by
        intro A c hv1 hlc hcap hA
        obtain ⟨l, hh, m, hrun, h, h2, h3, h4, h5⟩ := cut_run (P := P) true es.length es.length c lo hi_ mx xs vs hv hlc (Nat.le_refl _) h
        have hrun := hrun0 A _ _ _ _ _ hrun
        simp only [Option.some.injEq, Prod.mk.injEq] at h; obtain ⟨rfl, rfl, rfl⟩ := h
        rw [hv1]
        refine OK.same r hrun ?_
        have hcap' : ∀ c', capOf es c0 m l = some c' → m.getD c - l = c' := by
          intro c' hc'
          unfold capOf at hc'
          split at hc'
          · cases hc'
          · simpa using hc'
          · have := hcap _ rfl; simp at hc' ⊢; omega
          · cases hc'
        have hlen : ((es.take hh).drop l).length = hh - l := by simp; omega
        by_cases hne : (es.take hh).drop l = []
        · rw [hne]
          have : hh - l = 0 := by rw [← hlen, hne]; rfl
          rw [this]
          refine .fz0 hcap' (fun hn => ?_)
          have hAn : A = none := by split at hn <;> simpa using hn
          obtain ⟨hc0, he0, hn0⟩ := hA hAn
          refine ⟨?_, by rw [he0, hn0]; rfl⟩
          cases m with
          | none => simp; omega
          | some q => have := h4 q rfl; simp; omega
        · rw [← hlen]
          have hlt : l < hh := by
            rcases Nat.lt_or_ge l hh with h6 | h6
            · exact h6
            · exact absurd (List.eq_nil_of_length_eq_zero (by rw [hlen]; omega)) hne
          rw [hv1] at h1
          cases h1 with
          | fz0 => simp at hne
          | fz vv hne0 hl hcap hsz hc hr ho1 ho =>
            have hml : m.getD c ≠ l := by
              cases m with
              | some q => have := h4 q rfl; simp; omega
              | none => simp; omega
            rw [if_neg hml]
            have hget : ∀ (q : Nat) y, ((es.take hh).drop l)[q]? = some y → es[l + q]? = some y := by
              intro q y hq
              have hq' : l + q < hh := by have := (List.getElem?_eq_some_iff.1 hq).1; rw [hlen] at this; omega
              rw [List.getElem?_drop, List.getElem?_take_of_lt hq'] at hq; exact hq
            refine .fz (fun q j => vv (l + q) j) hne ?_ hcap' (fun q y hq => hsz _ _ (hget q y hq)) (fun q y j z hq hj => ?_) (fun q y j z hq hj => hr _ _ _ _ (hget q y hq) hj) (fun q y j z hq hj => ho1 _ _ _ _ (hget q y hq) hj) ?_
            · rw [hlen]
              cases m with
              | some q => have := h4 q rfl; simp; omega
              | none => simp; omega
            · rw [add_add]
              have := hc _ _ _ _ (hget q y hq) hj
              rwa [Nat.add_mul, Nat.add_assoc] at this
            · rw [add_block]; exact ho
      cases h1 with
      | fz0 hcap hA => exact key _ _ rfl (Nat.zero_le _) hcap (fun e => ⟨(hA e).1, rfl, (hA e).2⟩)
      | fz vv hne hl hcap hsz hc hr ho1 ho => exact key _ _ rfl hl hcap (fun e => by cases e)
    · cases h
  · rename_i f d g sz' off len
    split at h
    · rename_i hc
      obtain ⟨rfl, rfl⟩ := hc
      cases h1 with
      | sl hg hl hh1 =>
        rename_i a c
        obtain ⟨l, hh, m, hrun, h, h2, h3, h4, h5⟩ := cut_run (P := P) true len len c lo hi_ false xs vs hv hl (Nat.le_refl _) h
        have hb := bounds_mx lo hi_ vs
        obtain rfl := h5 rfl
        have hrun := hrun0 (some a) _ _ _ _ _ hrun
        simp only [Option.some.injEq, Prod.mk.injEq] at h; obtain ⟨rfl, rfl, rfl⟩ := h
        refine OK.same r hrun ?_
        have hA : ∀ q, (if q = l then some a else Option.map (fun x => x.add (l * i.size)) (some a)) = some (if q = l then a else a.add (l * i.size)) := by intro q; split <;> rfl
        rw [hA]
        refine .sl hg (by simp; omega) (fun b hb => ?_)
        obtain ⟨k1, k2, vs1, E, k3, k4⟩ := hh1 b hb
        simp only [Option.getD_none]
        refine ⟨fun hc => ?_, by omega, vs1, E, k3, ?_⟩
        · rw [if_neg (by omega), k1 (by omega), add_mk, Nat.add_mul]
        · rw [← k4]; congr 1; omega
    · cases h
  · cases h
end
end Go.Ev
/- Operations, fourth part: append, literals, make, conversions, function values. -/
namespace Go.Ev
open Go.RowKit
set_option linter.unusedVariables false
set_option linter.unusedSimpArgs false
set_option linter.unusedSectionVars false

section
variable {P : Program} {w0 : World} {O X : Nat → Prop} {bm : Nat → Nat → Nat} {H : Heap} {nx : Ctr} {w : World}

theorem run_app_none {t tx ty e : TypeId} {i : TypeInfo} (ht : P.underlying t = some (.slice e)) (hi : P.info? e = some i) (B : Option Addr) (n c : Nat) (hn : n ≤ c) {v2 : Value} (hs : Go.Src P i.size tx v2 0 [] w) :
    (Builtin.append_ #[t, tx] ty #[.slice B n c, v2]).run P w = .ok (.slice B n c) w := by
  rcases hs.kind with ⟨e', hk⟩ | hk <;> cases B <;> simp [Builtin.append_, run_underlying ht, run_underlying hk, sizeOf, typeInfo, hi, hs.len, hn, hs.cells, storeCells]
theorem run_app_room {t tx ty e : TypeId} {E0 : TypeId} {i : TypeInfo} (ht : P.underlying t = some (.slice e)) (hi : P.info? e = some i)
    (g sLen sCap : Nat) (cur : Array Value) (hg : w.heap[g]? = some (.cells cur E0 (0, 0)))
    (m : Nat) (news : List Value) {v2 : Value} (hs : Go.Src P i.size tx v2 m news w)
    (hroom : sLen + m ≤ sCap) (hfit : sLen * i.size + news.length ≤ cur.size) :
    (Builtin.append_ #[t, tx] ty #[.slice (some ⟨g, 0, none⟩) sLen sCap, v2]).run P w =
      .ok (.slice (some ⟨g, 0, none⟩) (sLen + m) sCap) (w.setRow g (cur.toList.take (sLen * i.size) ++ news ++ cur.toList.drop (sLen * i.size + news.length)).toArray) := by
  have hst := run_storeCells_at P g (sLen * i.size) E0 news 0 cur w hg (by simpa using hfit) hs.one
  simp only [Nat.add_zero] at hst
  rcases hs.kind with ⟨e', hk⟩ | hk <;> simp [Builtin.append_, run_underlying ht, run_underlying hk, sizeOf, typeInfo, hi, hs.len, hroom, hs.cells, Addr.add_lit, hst]

/-- What is appended. -/
def SrcA (P : Program) (tx : TypeId) (H : Heap) (bm : Nat → Nat → Nat) (X : Nat → Prop) (nx : Ctr) (w : World) (sz m : Nat) (ns : List AV) (v2 : Value) : Prop :=
  ns.length = m * sz ∧ ∃ u : Nat → Value, Go.Src P sz tx v2 m ((List.range (m * sz)).map u) w ∧ ∀ (q : Nat) x, ns[q]? = some x → Rep (Lof H bm) X nx w false x (u q)
theorem srcA_nil {tx e' : TypeId} (hk : P.underlying tx = some (.slice e')) (sz : Nat) (A : Option Addr) (c : Nat) : SrcA P tx H bm X nx w sz 0 [] (.slice A 0 c) := by
  refine ⟨by simp, fun _ => undef, ?_, by simp⟩
  rw [Nat.zero_mul, List.range_zero, List.map_nil]
  cases A with
  | none => exact Go.Src.ofNil w hk c
  | some a => exact Go.Src.ofSlice w hk a 0 c [] (by simp) (by simp) (by simp)
theorem srcA_cells {tx e' : TypeId} (hk : P.underlying tx = some (.slice e')) {sz m : Nat} {ns : List AV} (hl : ns.length = m * sz) (a : Addr) (c : Nat) (u : Nat → Value)
    (h : ∀ (q : Nat) x, ns[q]? = some x → w.cell? (a.add q) = some (u q) ∧ Rep (Lof H bm) X nx w false x (u q) ∧ (u q).oneCell' = true) : SrcA P tx H bm X nx w sz m ns (.slice (some a) m c) := by
  refine ⟨hl, u, ?_, fun q x hq => (h q x hq).2.1⟩
  have key : ∀ j, j < m * sz → w.cell? (a.add j) = some (u j) ∧ (u j).oneCell' = true := by
    intro j hj
    have := h j ns[j] (List.getElem?_eq_getElem (by omega))
    exact ⟨this.1, this.2.2⟩
  refine Go.Src.ofSlice w hk a m c _ (by simp) (fun j w1 hj => ?_) (fun w1 hw1 => ?_)
  · have hj' : j < m * sz := by have := (List.getElem?_eq_some_iff.1 hj).1; simpa using this
    have : ((List.range (m * sz)).map u)[j]? = some (u j) := by simp [hj']
    rw [this] at hj; cases hj
    exact (key j hj').1
  · obtain ⟨j, hj, rfl⟩ := List.mem_map.1 hw1
    exact (key j (List.mem_range.1 hj)).2
theorem src_fz {tx e' : TypeId} (hk : P.underlying tx = some (.slice e')) {sz : Nat} (h0 : 0 < sz) {es : List AV} {cap : Option Nat} {v2 : Value} (h : Rep (Lof H bm) X nx w false (.fz sz es cap) v2) : SrcA P tx H bm X nx w sz es.length (catCells es) v2 := by
  cases h with
  | fz0 => exact srcA_nil hk sz _ _
  | fz vv hne hl hcap hsz hc hr h1 ho =>
    refine srcA_cells hk (catCells_len es hsz) _ _ (fun q => vv (q / sz) (q % sz)) (fun q x hq => ?_)
    rw [catCells_get h0 es hsz] at hq
    cases he : es[q / sz]? with
    | none => rw [he] at hq; cases hq
    | some e =>
      rw [he] at hq
      have hq : (cells e)[q % sz]? = some x := hq
      refine ⟨?_, (hr _ _ _ _ he hq).weak, h1 _ _ _ _ he hq⟩
      have := hc _ _ _ _ he hq
      rwa [Nat.div_add_mod' q sz] at this
theorem src_sl {tx e' : TypeId} (hk : P.underlying tx = some (.slice e')) (r : Rel w0 O X bm H nx w) {f d g sz off len : Nat} {cs : List AV} (hf : find H f d = some (g, some cs)) (hle : (off + len) * sz ≤ cs.length) (h0 : 0 < sz)
    {v2 : Value} (h : Rep (Lof H bm) X nx w false (.sl f d g sz off len) v2) : SrcA P tx H bm X nx w sz len ((cs.drop (off * sz)).take (len * sz)) v2 := by
  cases h with
  | sl hg hl hh =>
    rename_i a c
    by_cases hz : len = 0
    · subst hz
      simp only [Nat.zero_mul, List.take_zero]
      exact srcA_nil hk sz _ _
    · obtain ⟨k1, k2, vs1, E1, k3, k4⟩ := hh _ (Lof.mk hf)
      obtain rfl := k1 (by omega)
      obtain ⟨vs, E, hb, hle2, hrep⟩ := r.blk _ _ _ _ hf
      have hmul : (off + len) * sz = off * sz + len * sz := Nat.add_mul _ _ _
      refine srcA_cells hk (by simp; omega) _ _ (fun q => vs.getD (off * sz + q) undef) (fun q x hq => ?_)
      have hq' : q < len * sz := by have := (List.getElem?_eq_some_iff.1 hq).1; simp at this; omega
      rw [List.getElem?_take_of_lt hq', List.getElem?_drop] at hq
      refine ⟨?_, hrep _ _ hq⟩
      rw [add_mk, cell_of_row w _ _ vs E _ hb]
      exact getD_of _ _ (by omega)
/-- A text's bytes. -/
theorem src_str {tx : TypeId} (hk : P.underlying tx = some .string) (s : ByteArray) : SrcA P tx H bm X nx w 1 s.size (avBytes s) (.string s) := by
  have hl : s.data.toList.length = s.size := by rw [Array.length_toList]; rfl
  refine ⟨by simp only [avBytes, List.length_map, Nat.mul_one]; exact hl, fun q => (Go.byteCells s).getD q undef, ?_, fun q x hq => ?_⟩
  · have : (List.range (s.size * 1)).map (fun q => (Go.byteCells s).getD q undef) = Go.byteCells s := by
      apply List.ext_getElem?
      intro j
      by_cases hj : j < s.size
      · rw [List.getElem?_map, List.getElem?_range (by omega)]
        have hjl : j < (Go.byteCells s).length := by rw [Go.byteCells_length]; exact hj
        have : (Go.byteCells s)[j]? = some (Go.byteCells s)[j] := List.getElem?_eq_getElem hjl
        simp [List.getD, this]
      · rw [List.getElem?_eq_none (by simp; omega), List.getElem?_eq_none (by rw [Go.byteCells_length]; omega)]
    rw [this]
    exact Go.Src.ofString w hk s
  · simp only [avBytes, List.getElem?_map, Option.map_eq_some_iff] at hq
    obtain ⟨b, hb, rfl⟩ := hq
    have : (Go.byteCells s).getD q undef = Value.int .u8 b.toNat := by simp [Go.byteCells, List.getD, hb]
    simp only [this]
    exact .int

/-- Nothing, or cells at an address. -/
def SrcO (H : Heap) (bm : Nat → Nat → Nat) (X : Nat → Prop) (nx : Ctr) (w : World) (sz m : Nat) (ns : List AV) (v2 : Value) : Prop :=
  (m = 0 ∧ ns = [] ∧ ∃ A c, v2 = .slice A 0 c) ∨
  (0 < m ∧ ns.length = m * sz ∧ ∃ a c, ∃ u : Nat → Value, v2 = .slice (some a) m c ∧ ∀ (q : Nat) x, ns[q]? = some x → w.cell? (a.add q) = some (u q) ∧ Rep (Lof H bm) X nx w false x (u q) ∧ (u q).oneCell' = true)

theorem srcO_sl (r : Rel w0 O X bm H nx w) {f d g sz off len : Nat} {cs : List AV} (hf : find H f d = some (g, some cs)) (hle : (off + len) * sz ≤ cs.length) (h0 : 0 < sz)
    {v2 : Value} (h : Rep (Lof H bm) X nx w false (.sl f d g sz off len) v2) : SrcO H bm X nx w sz len ((cs.drop (off * sz)).take (len * sz)) v2 := by
  cases h with
  | sl hg hl hh =>
    rename_i a c
    by_cases hz : len = 0
    · subst hz; exact .inl ⟨rfl, by simp, _, _, rfl⟩
    · obtain ⟨k1, k2, vs1, E1, k3, k4⟩ := hh _ (Lof.mk hf)
      obtain rfl := k1 (by omega)
      obtain ⟨vs, E, hb, hle2, hrep⟩ := r.blk _ _ _ _ hf
      have hmul : (off + len) * sz = off * sz + len * sz := Nat.add_mul _ _ _
      refine .inr ⟨by omega, by simp; omega, _, _, fun q => vs.getD (off * sz + q) undef, rfl, fun q x hq => ?_⟩
      have hq' : q < len * sz := by have := (List.getElem?_eq_some_iff.1 hq).1; simp at this; omega
      rw [List.getElem?_take_of_lt hq', List.getElem?_drop] at hq
      refine ⟨?_, hrep _ _ hq⟩
      rw [add_mk, cell_of_row w _ _ vs E _ hb]
      exact getD_of _ _ (by omega)

theorem getD_append_left (l m : List Value) (j : Nat) (h : j < l.length) : ((l ++ m).toArray.getD j undef) = l.getD j undef := by
  simp [List.getElem?_append_left h, List.getD]
theorem getD_range_map (n : Nat) (u : Nat → Value) (j : Nat) (h : j < n) : ((List.range n).map u).getD j undef = u j := by
  simp [List.getD, h]
theorem zero_size (z : Array Value) (n : Nat) : (Builtin.zeroCells z n).size = n * z.size := by simp [Builtin.zeroCells]

theorem app_dst (r : Rel w0 O X bm H nx w) (t tx ty e : TypeId) (i : TypeInfo) (ht : P.underlying t = some (.slice e)) (hi : P.info? e = some i) (z : Value) (hz : i.zero = some z) (hzs : z.cells.size = i.size) (h0 : 0 < i.size) (key : Nat) {φ : Nat}
    (x : AV) (v1 v2 : Value) (h1 : Rep (Lof H bm) X nx w false x v1) (m : Nat) (ns : List AV) (hs : SrcA P tx H bm X nx w i.size m ns v2)
    {v : AV} {H' : Heap} {nx' : Ctr}
    (h : (match (generalizing := false) x with
      | .nils => if m = 0 then some (.nils, H, nx) else if m * i.bytes ≤ 1099511627776 ∧ m ≤ 1099511627776 then some (.sl φ key (nx key) i.size 0 m, setB H φ key (nx key) (some ns), bump nx key) else none
      | .fz sz' es c' => if m = 0 then some (.fz sz' es c', H, nx) else (match (generalizing := false) c' with
        | some c => if c < es.length + m ∧ sz' = i.size ∧ (es.length + m) * i.bytes ≤ 1099511627776 ∧ es.length + m ≤ 1099511627776 then some (.sl φ key (nx key) i.size 0 (es.length + m), setB H φ key (nx key) (some (catCells es ++ ns)), bump nx key) else none
        | none => none)
      | .sl f d g sz' off len => if sz' = i.size ∧ off = 0 ∧ (len + m) * i.bytes ≤ 1099511627776 ∧ len + m ≤ 1099511627776 then
          getB H f d g (fun cs => if cs.length = len * i.size then some (.sl f d (nx d) i.size 0 (len + m), setB H f d (nx d) (some (cs ++ ns)), bump nx d)
            else if (len + m) * i.size ≤ cs.length then some (.sl f d g i.size 0 (len + m), setB H f d g (some (cs.take (len * i.size) ++ ns ++ cs.drop ((len + m) * i.size))), nx) else none) none else none
      | _ => none) = some (v, H', nx')) :
    OK P w0 O X bm H nx w (Builtin.append_ #[t, tx] ty #[v1, v2]) v H' nx' := by
  -- a new row of olds and news
  have grown : ∀ (olds : List AV) (ov : Nat → Value) (n : Nat) (A : Option Addr) (c f d : Nat), olds.length = n * i.size → (∀ (q : Nat) x, olds[q]? = some x → Rep (Lof H bm) X nx w false x (ov q) ∧ (ov q).oneCell' = true) →
      v1 = .slice A n c → (A = none → n = 0 ∧ c = 0) → (∀ b, A = some b → ∀ q, q < n * i.size → w.cell? (b.add q) = some (ov q)) → n ≤ c → c < n + m → (n + m) * i.bytes ≤ 1099511627776 → n + m ≤ 1099511627776 →
      v = .sl f d (nx d) i.size 0 (n + m) → H' = setB H f d (nx d) (some (olds ++ ns)) → nx' = bump nx d → OK P w0 O X bm H nx w (Builtin.append_ #[t, tx] ty #[v1, v2]) v H' nx' := by
    intro olds ov n A c f d hlo hor hv1 hA hcell hnc hcap hby hbd hv hH hnx
    obtain ⟨hlen, u, hsrc, hu⟩ := hs
    · have hm : 0 < m := by omega
      let news : List Value := (List.range (m * i.size)).map u
      have hln : news.length = m * i.size := by simp [news]
      let oldv : List Value := (List.range (n * i.size)).map ov
      have hlov : oldv.length = n * i.size := by simp [oldv]
      have hold : (Builtin.firstCells i.size n (.slice A n c)).run P w.drew = .ok oldv.toArray w.drew := by
        cases A with
        | none =>
          obtain ⟨rfl, rfl⟩ := hA rfl
          have := run_firstCells_none (P := P) w.drew i.size 0 0 0
          simpa [oldv] using this
        | some b =>
          refine run_firstCells_some w.drew i.size n b n c oldv hlov (fun j w1 hj => ?_)
          have hj' : j < n * i.size := by have := (List.getElem?_eq_some_iff.1 hj).1; omega
          have h3 : oldv[j]? = some (ov j) := by simp [oldv, hj']
          rw [h3] at hj; cases hj
          simpa using hcell b rfl j hj'
      have hone : ∀ j, j < m * i.size → (u j).oneCell' = true := fun j hj => hsrc.one _ (List.mem_map.2 ⟨j, List.mem_range.2 hj, rfl⟩)
      have hrun : (Builtin.append_ #[t, tx] ty #[v1, v2]).run P w = .ok (.slice (some ⟨w.heap.size, 0, none⟩) (n + m) (grownCap w (n + m) c e)) (w.drew.alloc (.cells (oldv.toArray ++ news.toArray ++ Builtin.zeroCells z.cells (grownCap w (n + m) c e - (n + m))) e)) := by
        rw [hv1]
        have := run_append_grow_src (P := P) w t tx ty e i z ht hi hz A n c oldv hold v2 m news hsrc hcap (by omega) (growslice_fits hcap (by omega))
        rw [this]
        have h9 : (oldv ++ news).toArray = oldv.toArray ++ news.toArray := by simp
        rw [h9]
      subst hv hH hnx
      have hge := grownCap_ge w (n + m) c e
      refine OK.new r (vs := oldv.toArray ++ news.toArray ++ Builtin.zeroCells z.cells (grownCap w (n + m) c e - (n + m))) (E := e) hrun rfl rfl rfl rfl ?_ ?_ (.sl (by simp [bump]) hge ?_)
      · simp only [List.length_append, Array.size_append, List.size_toArray, hlo, hlen, hln, hlov]; omega
      · intro j y hj
        have e1 : (oldv.toArray ++ news.toArray ++ Builtin.zeroCells z.cells (grownCap w (n + m) c e - (n + m))).getD j undef = if j < n * i.size then ov j else u (j - n * i.size) := by
          have hlt : j < n * i.size + m * i.size := by have := (List.getElem?_eq_some_iff.1 hj).1; simp [hlo, hlen] at this; omega
          have h3 : j < (oldv.toArray ++ news.toArray).size := by simp [hln, hlov]; omega
          have h4 : (oldv.toArray ++ news.toArray ++ Builtin.zeroCells z.cells (grownCap w (n + m) c e - (n + m)))[j]? = (oldv.toArray ++ news.toArray)[j]? := Array.getElem?_append_left h3
          rw [Array.getD_eq_getD_getElem?, h4]
          split
          · rename_i hl
            rw [Array.getElem?_append_left (by simp [hlov]; exact hl)]
            simp [oldv, hl]
          · rename_i hl
            rw [Array.getElem?_append_right (by simp [hlov]; omega)]
            have h5 : j - n * i.size < m * i.size := by omega
            simp [news, hlov, h5]
        rw [e1]
        rw [List.getElem?_append] at hj
        rw [hlo] at hj
        split at hj
        · rename_i hl; rw [if_pos hl]; exact hor _ _ hj
        · rename_i hl; rw [if_neg hl]; exact ⟨hu _ _ hj, hone _ (by have := (List.getElem?_eq_some_iff.1 hj).1; omega)⟩
      · rintro b ⟨_, rfl⟩
        rw [bset_same]
        refine ⟨fun _ => by simp, grownCap_le_maxLen w _ _ _ (by simp only [maxLen]; omega), _, e, heap_alloc_new w.drew _, ?_⟩
        simp only [Array.size_append, List.size_toArray, hln, hlov, zero_size, hzs]
        rw [Nat.zero_add, ← Nat.add_mul, ← Nat.add_mul]
        congr 1; omega
  cases x with
  | nils =>
    cases h1
    simp only at h
    split at h
    · rename_i hm
      simp at h; obtain ⟨rfl, rfl, rfl⟩ := h
      obtain ⟨_, u, hsrc, _⟩ := hs
      subst hm
      simp only [Nat.zero_mul, List.range_zero, List.map_nil] at hsrc
      exact OK.same r (run_app_none ht hi none 0 0 (Nat.le_refl _) hsrc) .nils
    · rename_i hm
      split at h
      · rename_i hc
        simp at h; obtain ⟨h3, h4, h5⟩ := h
        exact grown [] (fun _ => undef) 0 none 0 φ key (by simp) (by simp) rfl (fun _ => ⟨rfl, rfl⟩) (by simp) (Nat.le_refl _) (by omega) (by simpa using hc.1) (by simpa using hc.2) (by simp [← h3]) (by simp [← h4]) h5.symm
      · cases h
  | fz sz' es cap =>
    simp only at h
    split at h
    · rename_i hm
      simp only [Option.some.injEq, Prod.mk.injEq] at h; obtain ⟨rfl, rfl, rfl⟩ := h
      obtain ⟨_, u, hsrc, _⟩ := hs
      subst hm
      simp only [Nat.zero_mul, List.range_zero, List.map_nil] at hsrc
      have h1' := h1
      cases h1 with
      | fz0 hcap hA => exact OK.same r (run_app_none ht hi _ _ _ (Nat.zero_le _) hsrc) h1'
      | fz vv hne hl hcap hsz hcc hr ho1 ho => exact OK.same r (run_app_none ht hi _ _ _ hl hsrc) h1'
    cases cap with
    | none => cases h
    | some c0 =>
      simp only at h
      split at h
      · rename_i hc
        obtain ⟨hc1, rfl, hc3, hc4⟩ := hc
        simp only [Option.some.injEq, Prod.mk.injEq] at h; obtain ⟨h3, h4, h5⟩ := h
        cases h1 with
        | fz0 hcap hA =>
          rename_i A c
          have := hcap c0 rfl; subst this
          cases A with
          | none => exact grown [] (fun _ => undef) 0 none _ φ key (by simp) (by simp) rfl (fun _ => ⟨rfl, (hA rfl).1⟩) (by simp) (Nat.zero_le _) (by simpa using hc1) (by simpa using hc3) (by simpa using hc4) (by simpa using h3.symm) (by simp [← h4, catCells]) h5.symm
          | some b => exact grown [] (fun _ => undef) 0 (some b) _ φ key (by simp) (by simp) rfl (fun e => by cases e) (by simp) (Nat.zero_le _) (by simpa using hc1) (by simpa using hc3) (by simpa using hc4) (by simpa using h3.symm) (by simp [← h4, catCells]) h5.symm
        | fz vv hne hl hcap hsz hcc hr ho1 ho =>
          have := hcap c0 rfl; subst this
          have hlen := catCells_len es hsz
          have hall : ∀ (q : Nat) y, (catCells es)[q]? = some y → ∃ e1, es[q / i.size]? = some e1 ∧ (cells e1)[q % i.size]? = some y := by
            intro q y hq
            rw [catCells_get h0 es hsz] at hq
            cases he : es[q / i.size]? with
            | none => rw [he] at hq; cases hq
            | some e1 => rw [he] at hq; exact ⟨e1, rfl, hq⟩
          refine grown (catCells es) (fun q => vv (q / i.size) (q % i.size)) es.length (some _) _ φ key hlen (fun q y hq => ?_) rfl (fun e => by cases e) (fun b hb q hq => ?_) hl hc1 hc3 hc4 h3.symm h4.symm h5.symm
          · obtain ⟨e1, k1, k2⟩ := hall q y hq
            exact ⟨(hr _ _ _ _ k1 k2).weak, ho1 _ _ _ _ k1 k2⟩
          · cases hb
            obtain ⟨e1, k1, k2⟩ := hall q _ (List.getElem?_eq_getElem (by omega))
            have := hcc _ _ _ _ k1 k2
            rwa [Nat.div_add_mod' q i.size] at this
      · cases h
  | sl f d g sz' off len =>
    simp only at h
    split at h
    · rename_i hc
      obtain ⟨rfl, rfl, hc3, hc4⟩ := hc
      rw [getB_find] at h
      split at h
      · rename_i g' cs hf
        split at h
        · rename_i hg
          subst hg
          split at h
          · rename_i hcl
            simp only [Option.some.injEq, Prod.mk.injEq] at h; obtain ⟨h3, h4, h5⟩ := h
            cases h1 with
            | sl hg hl hh =>
              rename_i a c
              obtain ⟨k1, k2, vs1, E1, k3, k4⟩ := hh _ (Lof.mk hf)
              obtain ⟨vs, E, hb, hle2, hrep⟩ := r.blk _ _ _ _ hf
              rw [hb] at k3; simp only [Option.some.injEq, Obj.cells.injEq] at k3; obtain ⟨rfl, rfl, _⟩ := k3
              rw [Nat.zero_add] at k4
              by_cases hroom : len + m ≤ c
              · by_cases hc0 : c = 0
                · -- nothing is there, nothing comes
                  have hl0 : len = 0 := by omega
                  have hm0 : m = 0 := by omega
                  subst hl0 hm0 hc0
                  obtain ⟨hns, u, hsrc, _⟩ := hs
                  simp only [Nat.zero_mul, List.range_zero, List.map_nil] at hsrc hns
                  obtain rfl := List.eq_nil_of_length_eq_zero hns
                  · have hcs : cs = [] := List.eq_nil_of_length_eq_zero (by simpa using hcl)
                    subst hcs
                    have := r.set (w' := w) (f := f) (d := d) (g' := nx d) (nx' := bump nx d) (b' := bm f d) (cs' := []) rfl rfl rfl (Nat.le_refl _) (fun _ _ _ => rfl) hb (.inr ⟨rfl, _, _, hf⟩) (.inl ⟨rfl, rfl⟩) (by simp) (by simp)
                    subst h3 h4 h5
                    refine ⟨_, w, _, run_app_none ht hi (some a) 0 0 (Nat.le_refl _) hsrc, this.1, this.2, .sl (by simp [bump]) (by omega) ?_⟩
                    rintro b ⟨_, rfl⟩
                    rw [bset_same]
                    exact ⟨fun h => absurd rfl h, k2, _, _, hb, by simpa using k4⟩
                · obtain rfl := k1 hc0
                  rw [Nat.zero_mul] at *
                  have hmul := Nat.add_mul len m i.size
                  have hmul2 : (len + m) * i.size ≤ c * i.size := Nat.mul_le_mul_right _ hroom
                  obtain ⟨hlen, u, hsrc, hu⟩ := hs
                  · let news : List Value := (List.range (m * i.size)).map u
                    have hln : news.length = m * i.size := by simp [news]
                    have hone : ∀ j, j < m * i.size → (u j).oneCell' = true := fun j hj => hsrc.one _ (List.mem_map.2 ⟨j, List.mem_range.2 hj, rfl⟩)
                    have hrun := run_app_room (P := P) (w := w) (ty := ty) ht hi (bm f d) len c vs hb m news hsrc hroom (by omega)
                    have := r.set (w' := w.setRow (bm f d) (vs.toList.take (len * i.size) ++ news ++ vs.toList.drop (len * i.size + news.length)).toArray) (f := f) (d := d) (g' := nx d) (nx' := bump nx d) (b' := bm f d)
                      (cs' := cs ++ ns) rfl rfl rfl (by simp) (fun b hb1 _ => setRow_other _ _ _ _ hb1) (setRow_heap _ _ _ _ _ _ hb) (.inr ⟨rfl, _, _, hf⟩) (.inl ⟨rfl, rfl⟩) (by simp; omega) ?_
                    · subst h3 h4 h5
                      refine ⟨_, _, _, hrun, this.1, this.2, .sl (by simp [bump]) (by omega) ?_⟩
                      rintro b ⟨_, rfl⟩
                      rw [bset_same]
                      exact ⟨fun _ => by simp, k2, _, _, setRow_heap _ _ _ _ _ _ hb, by simp; omega⟩
                    · intro j y hj
                      have hlt : j < cs.length + ns.length := by have := (List.getElem?_eq_some_iff.1 hj).1; simpa using this
                      have e1 : (vs.toList.take (len * i.size) ++ news ++ vs.toList.drop (len * i.size + news.length)).toArray.getD j undef = if j < len * i.size then vs.getD j undef else u (j - len * i.size) := by
                        have e2 : (vs.toList.take (len * i.size) ++ news ++ vs.toList.drop (len * i.size + news.length)).toArray.getD j undef = ((vs.toList.take (len * i.size) ++ news ++ vs.toList.drop (len * i.size + news.length))[j]?).getD undef := by simp
                        rw [e2, List.append_assoc, List.getElem?_append]
                        have l2 : (vs.toList.take (len * i.size)).length = len * i.size := by simp; omega
                        rw [l2]
                        split
                        · rename_i hl2
                          rw [List.getElem?_take_of_lt hl2]; simp
                        · rename_i hl2
                          rw [List.getElem?_append_left (by rw [hln]; omega)]
                          have h5 : j - len * i.size < m * i.size := by omega
                          simp [news, h5]
                      rw [e1]
                      rw [List.getElem?_append, hcl] at hj
                      split at hj
                      · rename_i hl2; rw [if_pos hl2]; exact hrep _ _ hj
                      · rename_i hl2; rw [if_neg hl2]; exact ⟨hu _ _ hj, hone _ (by have := (List.getElem?_eq_some_iff.1 hj).1; omega)⟩
              · have hbc : a = ⟨bm f d, 0, none⟩ ∨ len = 0 := by
                  by_cases hc0 : c = 0
                  · right; omega
                  · left; rw [k1 hc0, Nat.zero_mul]
                refine grown cs (fun q => vs.getD q undef) len (some a) c f d hcl hrep rfl (fun e => by cases e) (fun b hb1 q hq => ?_) hl (by omega) hc3 hc4 h3.symm h4.symm h5.symm
                cases hb1
                rcases hbc with rfl | rfl
                · rw [add_mk, Nat.zero_add, cell_of_row w _ _ vs E _ hb]; exact getD_of _ _ (by omega)
                · simp at hq
          · rename_i hcl
            split at h
            case isFalse => cases h
            rename_i hle
            simp only [Option.some.injEq, Prod.mk.injEq] at h; obtain ⟨h3, h4, h5⟩ := h
            cases h1 with
            | sl hg hl hh =>
              rename_i a c
              obtain ⟨k1, k2, vs1, E1, k3, k4⟩ := hh _ (Lof.mk hf)
              obtain ⟨vs, E, hb, hle2, hrep⟩ := r.blk _ _ _ _ hf
              rw [hb] at k3; simp only [Option.some.injEq, Obj.cells.injEq] at k3; obtain ⟨rfl, rfl, _⟩ := k3
              rw [Nat.zero_add] at k4
              have hmul := Nat.add_mul len m i.size
              have hroom : len + m ≤ c := Nat.le_of_mul_le_mul_right (by omega) h0
              have hc0 : c ≠ 0 := by
                intro e0
                subst e0
                have : len = 0 := by omega
                subst this
                apply hcl
                simp at k4 ⊢
                exact List.eq_nil_of_length_eq_zero (by rw [← k4] at hle2; simpa using hle2)
              obtain rfl := k1 hc0
              rw [Nat.zero_mul] at *
              obtain ⟨hlen, u, hsrc, hu⟩ := hs
              let news : List Value := (List.range (m * i.size)).map u
              have hln : news.length = m * i.size := by simp [news]
              have hone : ∀ j, j < m * i.size → (u j).oneCell' = true := fun j hj => hsrc.one _ (List.mem_map.2 ⟨j, List.mem_range.2 hj, rfl⟩)
              have hrun := run_app_room (P := P) (w := w) (ty := ty) ht hi (bm f d) len c vs hb m news hsrc hroom (by omega)
              have := r.set (w' := w.setRow (bm f d) (vs.toList.take (len * i.size) ++ news ++ vs.toList.drop (len * i.size + news.length)).toArray) (f := f) (d := d) (g' := g') (nx' := nx) (b' := bm f d)
                (cs' := cs.take (len * i.size) ++ ns ++ cs.drop ((len + m) * i.size)) rfl rfl rfl (by simp) (fun b hb1 _ => setRow_other _ _ _ _ hb1) (setRow_heap _ _ _ _ _ _ hb) (.inr ⟨rfl, _, _, hf⟩)
                (.inr ⟨rfl, rfl, ⟨_, hf⟩, fun vs0 E0 h0 => by rw [hb] at h0; simp at h0; obtain ⟨rfl, rfl⟩ := h0; exact ⟨by simp; omega, rfl⟩⟩) (by simp; omega) ?_
              · subst h3 h4 h5
                refine ⟨_, _, _, hrun, this.1, this.2, .sl (r.gen _ _ _ _ hf) (by omega) ?_⟩
                rintro b ⟨_, rfl⟩
                rw [bset_same]
                exact ⟨fun _ => by simp, k2, _, _, setRow_heap _ _ _ _ _ _ hb, by simp; omega⟩
              · intro j y hj
                have e1 : (vs.toList.take (len * i.size) ++ news ++ vs.toList.drop (len * i.size + news.length)).toArray.getD j undef = if j < len * i.size then vs.getD j undef else if j < len * i.size + m * i.size then u (j - len * i.size) else vs.getD j undef := by
                  have e2 : (vs.toList.take (len * i.size) ++ news ++ vs.toList.drop (len * i.size + news.length)).toArray.getD j undef = ((vs.toList.take (len * i.size) ++ news ++ vs.toList.drop (len * i.size + news.length))[j]?).getD undef := by simp
                  rw [e2, List.append_assoc, List.getElem?_append]
                  have l2 : (vs.toList.take (len * i.size)).length = len * i.size := by simp; omega
                  rw [l2]
                  split
                  · rename_i hl2
                    rw [List.getElem?_take_of_lt hl2]; simp
                  · rename_i hl2
                    rw [List.getElem?_append, hln]
                    split
                    · rename_i hl3
                      rw [if_pos (by omega)]
                      simp [news, hl3]
                    · rename_i hl3
                      rw [if_neg (by omega), List.getElem?_drop, show len * i.size + m * i.size + (j - len * i.size - m * i.size) = j by omega]
                      simp
                rw [e1]
                have l1 : (cs.take (len * i.size)).length = len * i.size := by simp; omega
                rw [List.append_assoc, List.getElem?_append, l1] at hj
                split at hj
                · rename_i hl2
                  rw [if_pos hl2]
                  rw [List.getElem?_take_of_lt hl2] at hj
                  exact hrep _ _ hj
                · rename_i hl2
                  rw [if_neg hl2]
                  rw [List.getElem?_append, hlen] at hj
                  split at hj
                  · rename_i hl3
                    rw [if_pos (by omega)]
                    exact ⟨hu _ _ hj, hone _ (by omega)⟩
                  · rename_i hl3
                    rw [if_neg (by omega)]
                    rw [List.getElem?_drop, show (len + m) * i.size + (j - len * i.size - m * i.size) = j by omega] at hj
                    exact hrep _ _ hj
        · cases h
      · cases h
    · cases h
  | _ => cases h

theorem ok_apps (r : Rel w0 O X bm H nx w) (t tx ty e : TypeId) (i : TypeInfo) (ht : P.underlying t = some (.slice e)) (htx : P.underlying tx = some .string) (hi : P.info? e = some i) (z : Value) (hz : i.zero = some z) (hzs : z.cells.size = i.size) (h1s : i.size = 1) (h1b : i.bytes = 1) (key : Nat) {φ : Nat}
    (x y : AV) (v1 v2 : Value) (h1 : Rep (Lof H bm) X nx w false x v1) (h2 : Rep (Lof H bm) X nx w false y v2)
    {v : AV} {H' : Heap} {nx' : Ctr} (h : opK (.apps key) [x, y] H nx φ (fun v H nx => some (v, H, nx)) none = some (v, H', nx')) :
    OK P w0 O X bm H nx w (Builtin.append_ #[t, tx] ty #[v1, v2]) v H' nx' := by
  simp only [opK] at h
  split at h
  · rename_i s
    cases h2
    have hs : SrcA P tx H bm X nx w i.size s.size (avBytes s) (.string s) := by rw [h1s]; exact src_str htx s
    have e1 : (avBytes s).length = s.size := by simp only [avBytes, List.length_map, Array.length_toList]; rfl
    have e2 : ∀ l : List UInt8, catCells (l.map fun b => AV.int .u8 b.toNat) = l.map fun b => AV.int .u8 b.toNat := by
      intro l; induction l with
      | nil => rfl
      | cons b l ih => simp only [List.map_cons, catCells, cells, ih, List.cons_append, List.nil_append]
    have e3 : catCells (avBytes s) = avBytes s := e2 _
    refine app_dst r (φ := φ) t tx ty e i ht hi z hz hzs (by omega) key x v1 _ h1 _ _ hs ?_
    rw [h1s, h1b]
    simp only [appK, if_true, e1, e3] at h
    exact h
  · cases h
theorem ok_app (r : Rel w0 O X bm H nx w) (t ty e : TypeId) (i : TypeInfo) (ht : P.underlying t = some (.slice e)) (hi : P.info? e = some i) (z : Value) (hz : i.zero = some z) (hzs : z.cells.size = i.size) (h0 : 0 < i.size) (key : Nat) {φ : Nat}
    (x y : AV) (v1 v2 : Value) (h1 : Rep (Lof H bm) X nx w false x v1) (h2 : Rep (Lof H bm) X nx w false y v2)
    {v : AV} {H' : Heap} {nx' : Ctr} (h : opK (.app i.size i.bytes key) [x, y] H nx φ (fun v H nx => some (v, H, nx)) none = some (v, H', nx')) :
    OK P w0 O X bm H nx w (Builtin.append_ #[t, t] ty #[v1, v2]) v H' nx' := by
  simp only [opK, appK] at h
  cases y with
  | nils =>
    cases h2
    exact app_dst r (φ := φ) t t ty e i ht hi z hz hzs h0 key x v1 _ h1 0 [] (srcA_nil ht _ _ _) (by cases x <;> first | (simp at h; done) | (simp at h ⊢; exact h))
  | fz sz' es cap =>
    simp only at h
    split at h
    · rename_i hc
      subst hc
      exact app_dst r t t ty e i ht hi z hz hzs h0 key x v1 _ h1 _ _ (src_fz ht h0 h2) h
    · cases h
  | sl f d g sz' off len =>
    simp only at h
    split at h
    · rename_i hc
      subst hc
      rw [getB_find] at h
      split at h
      · rename_i g' cs hf
        split at h
        · rename_i hg
          subst hg
          split at h
          · rename_i hle
            exact app_dst r t t ty e i ht hi z hz hzs h0 key x v1 _ h1 _ _ (src_sl ht r hf hle h0 h2) h
          · cases h
        · cases h
      · cases h
    · cases h
  | _ => cases h
end
end Go.Ev
/- What is frozen; literals, make, conversions, function values. -/
namespace Go.Ev
open Go.RowKit
set_option linter.unusedVariables false
set_option linter.unusedSimpArgs false
set_option linter.unusedSectionVars false

/-! ### told in continuations, or told plainly: the same -/
theorem mapK_nat {α β : Type} (F : α → β) (f : {γ : Type} → AV → (AV → List (Nat × Nat) → γ) → γ → γ) (hf : ∀ {α β : Type} (F : α → β) v ok bad, F (f v ok bad) = f v (fun v i => F (ok v i)) (F bad)) :
    ∀ (l : List AV) (ok : List AV → List (Nat × Nat) → α) (bad : α), F (mapK f l ok bad) = mapK f l (fun v i => F (ok v i)) (F bad)
  | [], ok, bad => rfl
  | c :: cs, ok, bad => by
    simp only [mapK]
    refine (hf F _ _ _).trans ?_
    congr 1
    funext v i
    exact mapK_nat F f hf cs _ _
theorem getB_nat {α β : Type} (F : α → β) (H : Heap) (f d g : Nat) (ok : List AV → α) (bad : α) : F (getB H f d g ok bad) = getB H f d g (fun v => F (ok v)) (F bad) := by
  rw [getB_find, getB_find]
  split
  · split <;> rfl
  · rfl
theorem frzK_nat : ∀ (n : Nat) (H : Heap) {α β : Type} (F : α → β) (v : AV) (ok : AV → List (Nat × Nat) → α) (bad : α), F (frzK n H v ok bad) = frzK n H v (fun v i => F (ok v i)) (F bad)
  | 0, _, _, _, _, _, _, _ => rfl
  | n + 1, H, α, β, F, v, ok, bad => by
    have ih := fun (l : List AV) (ok : List AV → List (Nat × Nat) → α) (bad : α) => mapK_nat F (fun {γ} => frzK (α := γ) n H) (fun F v ok bad => frzK_nat n H F v ok bad) l ok bad
    cases v <;> simp only [frzK] <;> first | rfl | exact ih _ _ _ | exact frzK_nat n H F _ _ _ | skip
    case ptr =>
      split
      · refine (getB_nat F _ _ _ _ _ _).trans ?_
        congr 1
        funext cs
        exact ih _ _ _
      · rfl
    case sl =>
      refine (getB_nat F _ _ _ _ _ _).trans ?_
      congr 1
      funext cs
      split
      · exact ih _ _ _
      · rfl

section
variable {P : Program} {w0 : World} {O X : Nat → Prop} {bm : Nat → Nat → Nat} {H : Heap} {nx : Ctr} {w : World}

theorem Reps.of {L : Loc} {p : Bool} : ∀ (cs : List AV) (vs : List Value), vs.length = cs.length → (∀ (j : Nat) x, cs[j]? = some x → Rep L X nx w p x (vs.getD j undef)) → Reps L X nx w p cs vs
  | [], vs, hl, _ => by have : vs = [] := List.eq_nil_of_length_eq_zero (by simpa using hl); subst this; exact .nil
  | c :: cs, [], hl, _ => by simp at hl
  | c :: cs, v :: vs, hl, h => .cons (by have := h 0 c rfl; simpa using this) (Reps.of cs vs (by simpa using hl) (fun j x hx => by have := h (j + 1) x hx; simpa using this))
theorem Reps.len {L : Loc} {p : Bool} {cs : List AV} {vs : List Value} (h : Reps L X nx w p cs vs) : vs.length = cs.length := by
  induction h with
  | nil => rfl
  | cons _ _ ih => simp [ih]
theorem Reps.get {L : Loc} {p : Bool} {cs : List AV} {vs : List Value} (h : Reps L X nx w p cs vs) : ∀ (j : Nat) x, cs[j]? = some x → Rep L X nx w p x (vs.getD j undef) := by
  induction h with
  | nil => intro j x hx; simp at hx
  | cons h _ ih =>
    intro j x hx
    cases j with
    | zero => simp at hx; subst hx; simpa using h
    | succ j => simp at hx; have := ih j x hx; simpa using this

/-- Frozen: nothing of it lies in the heap any more, as far as the heap has not what was taken along. -/
def Froz (H : Heap) (bm : Nat → Nat → Nat) (X : Nat → Prop) (nx : Ctr) (w : World) (ids : List (Nat × Nat)) (v : AV) (val : Value) : Prop :=
  v ≠ .any ∧ ∀ (L : Loc) (nx' : Ctr), (∀ f d g b, L f d g b → Lof H bm f d g b ∧ (f, d) ∉ ids) → Rep L X nx' w true v val
theorem Rep.sub {L L' : Loc} {nx nx' : Ctr} {x : AV} {v : Value} (h : Rep L X nx w true x v) (hs : ∀ f d g b, L' f d g b → L f d g b) : Rep L' X nx' w true x v := by
  generalize hp : true = p at h
  induction h with
  | any => exact .any
  | int => exact .int
  | bool => exact .bool
  | str => exact .str
  | nilp => exact .nilp
  | nils => exact .nils
  | nilm => exact .nilm
  | nilf => exact .nilf
  | nili => exact .nili
  | ptr => cases hp
  | ro vv hc hr ho ih => subst hp; exact .ro vv hc (fun j x h => ih j x h rfl) (fun hne => ⟨fun f d g hL => (ho hne).1 f d g (hs _ _ _ _ hL), (ho hne).2⟩)
  | sl => cases hp
  | fz0 h hA => subst hp; exact .fz0 h hA
  | fz vv a b c d e f g h ih => subst hp; exact .fz vv a b c d e (fun i e j x h1 h2 => ih i e j x h1 h2 rfl) g ⟨fun f d g hL => h.1 f d g (hs _ _ _ _ hL), h.2⟩
  | agg h hr ih => subst hp; exact .agg h (fun j x h => ih j x h rfl)
  | tup h hr ih => subst hp; exact .tup h (fun j x h => ih j x h rfl)
  | func h hr ih => subst hp; exact .func h (fun j x h => ih j x h rfl)
  | ifc h ih => subst hp; exact .ifc (ih rfl)
/-- A value of the pure kind stands whatever lies in the heap: its memory is not the heap's. -/
theorem Rep.pure_fz {L : Loc} {sz : Nat} {es : List AV} {cap : Option Nat} {v : Value} {p : Bool} (h : Rep L X nx w p (.fz sz es cap) v) : Rep L X nx w true (.fz sz es cap) v := by
  cases h with
  | fz0 a b => exact .fz0 a b
  | fz a b c d e f g h i => exact .fz a b c d e f g h i

theorem chunkN_len (sz : Nat) : ∀ n cs, (chunkN sz n cs).length = n
  | 0, _ => rfl
  | n + 1, cs => by simp [chunkN, chunkN_len sz n]
theorem chunkN_get (sz : Nat) : ∀ n cs i e, (chunkN sz n cs)[i]? = some e → e = .agg ((cs.drop (i * sz)).take sz) ∧ i < n
  | 0, _, i, e, h => by simp [chunkN] at h
  | n + 1, cs, 0, e, h => by simp [chunkN] at h; simp [← h]
  | n + 1, cs, i + 1, e, h => by
    simp only [chunkN, List.getElem?_cons_succ] at h
    have := chunkN_get sz n _ i e h
    rw [List.drop_drop] at this
    rw [show (i + 1) * sz = sz + i * sz by rw [Nat.add_mul]; omega]
    exact ⟨this.1, by omega⟩

theorem frz_map {n : Nat} (ih : ∀ (v : AV) (val : Value) {α : Type} (ok : AV → List (Nat × Nat) → Option α) (r : α), Rep (Lof H bm) X nx w false v val → frzK n H v ok none = some r → ∃ v' ids, ok v' ids = some r ∧ Froz H bm X nx w ids v' val) :
    ∀ (cs : List AV) (vals : List Value) {α : Type} (ok : List AV → List (Nat × Nat) → Option α) (r : α), Reps (Lof H bm) X nx w false cs vals → mapK (frzK n H) cs ok none = some r →
      ∃ cs' ids, ok cs' ids = some r ∧ cs'.length = cs.length ∧ (∀ (j : Nat) x, cs'[j]? = some x → x ≠ .any) ∧ ∀ (L : Loc) (nx' : Ctr), (∀ f d g b, L f d g b → Lof H bm f d g b ∧ (f, d) ∉ ids) → Reps L X nx' w true cs' vals
  | [], vals, α, ok, r, hr, h => by
    obtain rfl := hr.inv0
    exact ⟨[], [], h, rfl, by simp, fun _ _ _ => .nil⟩
  | c :: cs, vals, α, ok, r, hr, h => by
    obtain ⟨v, vs, rfl, h1, t⟩ := hr.inv
    simp only [mapK] at h
    obtain ⟨v', i1, h, f1, f2⟩ := ih c v _ _ h1 h
    obtain ⟨cs', i2, h, g1, g2, g3⟩ := frz_map ih cs vs _ _ t h
    refine ⟨v' :: cs', i1 ++ i2, h, by simp [g1], fun j x hx => ?_, fun L nx' hL => .cons (f2 L nx' fun f d g b hb => ⟨(hL _ _ _ _ hb).1, fun hm => (hL _ _ _ _ hb).2 (List.mem_append_left _ hm)⟩) (g3 L nx' fun f d g b hb => ⟨(hL _ _ _ _ hb).1, fun hm => (hL _ _ _ _ hb).2 (List.mem_append_right _ hm)⟩)⟩
    cases j with
    | zero => simp at hx; subst hx; exact f1
    | succ j => simp at hx; exact g2 j x hx

theorem frz_ok (r0 : Rel w0 O X bm H nx w) : ∀ (n : Nat) (v : AV) (val : Value) {α : Type} (ok : AV → List (Nat × Nat) → Option α) (r : α), Rep (Lof H bm) X nx w false v val → frzK n H v ok none = some r → ∃ v' ids, ok v' ids = some r ∧ Froz H bm X nx w ids v' val
  | 0, _, _, _, _, _, _, h => by cases h
  | n + 1, v, val, α, ok, r, hr, h => by
    have ih := @frz_map X bm H nx w n (fun v val α ok r h1 h2 => frz_ok r0 n v val ok r h1 h2)
    have agg : ∀ (cs : List AV) (vs : Array Value), vs.size = cs.length → (∀ (j : Nat) x, cs[j]? = some x → Rep (Lof H bm) X nx w false x (vs.getD j undef)) → Reps (Lof H bm) X nx w false cs vs.toList := by
      intro cs vs h1 h2
      exact Reps.of _ _ (by simpa using h1) (fun j x hx => by have := h2 j x hx; simpa [List.getD] using this)
    have back : ∀ {L : Loc} {nx'} (cs : List AV) (vs : Array Value), Reps L X nx' w true cs vs.toList → vs.size = cs.length ∧ ∀ (j : Nat) x, cs[j]? = some x → Rep L X nx' w true x (vs.getD j undef) := by
      intro L nx' cs vs h1
      exact ⟨by have := h1.len; simpa using this, fun j x hx => by have := h1.get j x hx; simpa [List.getD] using this⟩
    cases hr with
    | any => cases h
    | int => exact ⟨_, _, h, by simp, fun _ _ _ => .int⟩
    | bool => exact ⟨_, _, h, by simp, fun _ _ _ => .bool⟩
    | str => exact ⟨_, _, h, by simp, fun _ _ _ => .str⟩
    | nilp => exact ⟨_, _, h, by simp, fun _ _ _ => .nilp⟩
    | nils => exact ⟨_, _, h, by simp, fun _ _ _ => .nils⟩
    | nilm => exact ⟨_, _, h, by simp, fun _ _ _ => .nilm⟩
    | nilf => exact ⟨_, _, h, by simp, fun _ _ _ => .nilf⟩
    | nili => exact ⟨_, _, h, by simp, fun _ _ _ => .nili⟩
    | @ptr f d g off a hg hh =>
      simp only [frzK] at h
      split at h
      · rename_i h0
        subst h0
        rw [getB_find] at h
        split at h
        · rename_i g' cs hf
          split at h
          · rename_i hg'
            subst hg'
            obtain rfl := hh _ (Lof.mk hf)
            obtain ⟨vs, E, hb, hle2, hrep⟩ := r0.blk _ _ _ _ hf
            have hblk : bm f d < w.heap.size := by
              rcases Nat.lt_or_ge (bm f d) w.heap.size with h5 | h5
              · exact h5
              · rw [Array.getElem?_eq_none h5] at hb; cases hb
            have hreps : Reps (Lof H bm) X nx w false cs ((List.range cs.length).map fun q => vs.getD (0 + q) undef) := by
              refine Reps.of _ _ (by simp) (fun j x hx => ?_)
              have hj : j < cs.length := (List.getElem?_eq_some_iff.1 hx).1
              rw [getD_range_map _ _ j hj, Nat.zero_add]
              exact (hrep _ _ hx).1
            obtain ⟨cs', ids, h, g1, g2, g3⟩ := ih _ _ _ _ hreps h
            refine ⟨_, _, h, by simp, fun L nx' hL => ?_⟩
            have g3 := g3 L nx' (fun f1 d1 g1 b1 hb1 => ⟨(hL _ _ _ _ hb1).1, fun hm => (hL _ _ _ _ hb1).2 (List.mem_cons_of_mem _ hm)⟩)
            refine .ro (fun j => vs.getD (0 + j) undef) (fun j x hx => ?_) (fun j x hx => ?_) (fun hne => ⟨fun f1 d1 g1 hL1 => ?_, ?_, hblk⟩)
            · have hj : j < cs'.length := (List.getElem?_eq_some_iff.1 hx).1
              rw [add_mk, cell_of_row w _ _ vs E _ hb]
              exact getD_of _ _ (by omega)
            · have hj : j < cs'.length := (List.getElem?_eq_some_iff.1 hx).1
              have := g3.get j x hx
              rwa [getD_range_map _ _ j (by omega)] at this
            · obtain ⟨⟨⟨cs1, hf1⟩, hbb⟩, hnm⟩ := hL _ _ _ _ hL1
              obtain ⟨rfl, rfl⟩ := r0.inj _ _ _ _ _ _ _ _ hf hf1 hbb
              exact hnm (List.mem_cons_self)
            · exact (r0.own _ _ _ _ hf).2
          · cases h
        · cases h
      · cases h
    | @ro _ cs a vv hc hr ho =>
      simp only [frzK] at h
      have hreps : Reps (Lof H bm) X nx w false cs ((List.range cs.length).map vv) := by
        refine Reps.of _ _ (by simp) (fun j x hx => ?_)
        have hj : j < cs.length := (List.getElem?_eq_some_iff.1 hx).1
        rw [getD_range_map _ _ j hj]
        exact hr j x hx
      obtain ⟨cs', ids, h, g1, g2, g3⟩ := ih _ _ _ _ hreps h
      have old : ∀ (j : Nat) x, cs'[j]? = some x → ∃ y, cs[j]? = some y := by
        intro j x hx
        have hj : j < cs'.length := (List.getElem?_eq_some_iff.1 hx).1
        exact ⟨cs[j]'(by omega), List.getElem?_eq_getElem (by omega)⟩
      refine ⟨_, _, h, by simp, fun L nx' hL => .ro vv (fun j x hx => ?_) (fun j x hx => ?_) (fun hne => ?_)⟩
      · obtain ⟨y, hy⟩ := old j x hx
        exact hc j y hy
      · obtain ⟨y, hy⟩ := old j x hx
        have hj : j < cs.length := (List.getElem?_eq_some_iff.1 hy).1
        have := (g3 L nx' hL).get j x hx
        rwa [getD_range_map _ _ j hj] at this
      · have hne' : cs ≠ [] := by
          intro e; rw [e] at g1; exact hne (List.eq_nil_of_length_eq_zero (by simpa using g1))
        obtain ⟨k1, k2, k3⟩ := ho hne'
        exact ⟨fun f d g hL1 => k1 f d g (hL _ _ _ _ hL1).1, k2, k3⟩
    | fz0 a b => exact ⟨_, _, h, by simp, fun _ _ _ => .fz0 a b⟩
    | fz a b c d e f g h1 i =>
      have := (Rep.fz (p := false) a b c d e f g h1 i).pure_fz
      exact ⟨_, _, h, by simp, fun L nx' hL => this.sub (fun f d g b hb => (hL _ _ _ _ hb).1)⟩
    | agg h1 h2 =>
      simp only [frzK] at h
      obtain ⟨cs', ids, h, g1, g2, g3⟩ := ih _ _ _ _ (agg _ _ h1 h2) h
      exact ⟨_, _, h, by simp, fun L nx' hL => .agg (back _ _ (g3 L nx' hL)).1 (back _ _ (g3 L nx' hL)).2⟩
    | tup h1 h2 =>
      simp only [frzK] at h
      obtain ⟨cs', ids, h, g1, g2, g3⟩ := ih _ _ _ _ (agg _ _ h1 h2) h
      exact ⟨_, _, h, by simp, fun L nx' hL => .tup (back _ _ (g3 L nx' hL)).1 (back _ _ (g3 L nx' hL)).2⟩
    | func h1 h2 =>
      simp only [frzK] at h
      obtain ⟨cs', ids, h, g1, g2, g3⟩ := ih _ _ _ _ (agg _ _ h1 h2) h
      exact ⟨_, _, h, by simp, fun L nx' hL => .func (back _ _ (g3 L nx' hL)).1 (back _ _ (g3 L nx' hL)).2⟩
    | ifc h1 =>
      simp only [frzK] at h
      obtain ⟨v', ids, h, g1, g2⟩ := frz_ok r0 n _ _ _ _ h1 h
      exact ⟨_, _, h, by simp, fun L nx' hL => .ifc (g2 L nx' hL)⟩
    | @sl f d g sz off len a c hg hl hh =>
      simp only [frzK] at h
      rw [getB_find] at h
      split at h
      · rename_i g' cs hf
        split at h
        · rename_i hg'
          subst hg'
          split at h
          · rename_i hle
            obtain ⟨k1, k2, vs1, E1, k3, k4⟩ := hh _ (Lof.mk hf)
            obtain ⟨vs, E, hb, hle2, hrep⟩ := r0.blk _ _ _ _ hf
            have hmul := Nat.add_mul off len sz
            have hblk : bm f d < w.heap.size := by
              rcases Nat.lt_or_ge (bm f d) w.heap.size with h5 | h5
              · exact h5
              · rw [Array.getElem?_eq_none h5] at hb; cases hb
            let vals : List Value := (List.range (len * sz)).map fun q => vs.getD (off * sz + q) undef
            have hvals : ∀ q, q < len * sz → vals.getD q undef = vs.getD (off * sz + q) undef := fun q hq => getD_range_map _ _ q hq
            have hget : ∀ (q : Nat) y, ((cs.drop (off * sz)).take (len * sz))[q]? = some y → q < len * sz ∧ cs[off * sz + q]? = some y := by
              intro q y hq
              have hq' : q < len * sz := by have := (List.getElem?_eq_some_iff.1 hq).1; simp at this; omega
              rw [List.getElem?_take_of_lt hq', List.getElem?_drop] at hq
              exact ⟨hq', hq⟩
            have hreps : Reps (Lof H bm) X nx w false ((cs.drop (off * sz)).take (len * sz)) vals := by
              refine Reps.of _ _ (by simp [vals]; omega) (fun q y hq => ?_)
              obtain ⟨hq', hq⟩ := hget q y hq
              rw [hvals q hq']; exact (hrep _ _ hq).1
            obtain ⟨cs', ids, h, g1, g2, g3⟩ := ih _ _ _ _ hreps h
            have hlen' : cs'.length = len * sz := by rw [g1]; simp; omega
            refine ⟨_, _, h, by simp, fun L nx' hL => ?_⟩
            have hLi : ∀ f1 d1 g1 b1, L f1 d1 g1 b1 → Lof H bm f1 d1 g1 b1 ∧ (f1, d1) ∉ ids := fun f1 d1 g1 b1 hb1 => ⟨(hL _ _ _ _ hb1).1, fun hm => (hL _ _ _ _ hb1).2 (List.mem_cons_of_mem _ hm)⟩
            have g3 := g3 L nx' hLi
            have hone : ∀ q, q < len * sz → (vs.getD (off * sz + q) undef).oneCell' = true := by
              intro q hq
              exact (hrep (off * sz + q) cs[off * sz + q] (List.getElem?_eq_getElem (by omega))).2
            -- the elements' cells
            have hcell : ∀ (i : Nat) e, (chunk sz len cs')[i]? = some e → i < len ∧ (cells e).length = sz ∧ ∀ (j : Nat) x, (cells e)[j]? = some x → j < sz ∧ cs'[i * sz + j]? = some x := by
              intro i e he
              unfold chunk at he
              split at he
              · rename_i h1
                subst h1
                have hi : i < len := by have := (List.getElem?_eq_some_iff.1 he).1; omega
                have hrepi := g3.get i e he
                have hone' := hone i (by omega)
                rw [hvals i (by omega)] at hrepi
                have hce : cells e = [e] := by
                  generalize vs.getD (off * 1 + i) undef = u at hrepi hone'
                  cases hrepi with
                  | agg => cases hone'
                  | any => exact absurd rfl (g2 i _ he)
                  | _ => rfl
                rw [hce]
                refine ⟨hi, rfl, fun j x hj => ?_⟩
                cases j with
                | zero => simp at hj; subst hj; simp [he]
                | succ j => simp at hj
              · obtain ⟨rfl, hi⟩ := chunkN_get _ _ _ _ _ he
                have hm2 : (i + 1) * sz ≤ len * sz := Nat.mul_le_mul_right _ hi
                rw [Nat.add_mul] at hm2
                refine ⟨hi, by simp [cells]; omega, fun j x hj => ?_⟩
                simp only [cells] at hj
                have hj' : j < sz := by have := (List.getElem?_eq_some_iff.1 hj).1; simp at this; omega
                rw [List.getElem?_take_of_lt hj', List.getElem?_drop] at hj
                exact ⟨hj', hj⟩
            have hchl : (chunk sz len cs').length = len := by
              unfold chunk
              split
              · rename_i h1; subst h1; omega
              · exact chunkN_len _ _ _
            by_cases hz : len = 0
            · have : chunk sz len cs' = [] := List.eq_nil_of_length_eq_zero (by omega)
              rw [this]; subst hz; exact .fz0 (by simp) (fun e => by cases e)
            · obtain rfl := k1 (by omega)
              have : (Value.slice (some ⟨bm f d, off * sz, none⟩) len c) = .slice (some ⟨bm f d, off * sz, none⟩) (chunk sz len cs').length c := by rw [hchl]
              rw [this]
              refine .fz (fun i j => vs.getD (off * sz + (i * sz + j)) undef) (fun e => by rw [e] at hchl; simp at hchl; omega) (by omega) (by simp) (fun i e he => (hcell i e he).2.1) (fun i e j x he hj => ?_) (fun i e j x he hj => ?_) (fun i e j x he hj => ?_) ⟨fun f1 d1 g1 hL1 => ?_, ?_, hblk⟩
              · obtain ⟨hi, _, h3⟩ := hcell i e he
                have := (h3 j x hj).2
                have hlt := (List.getElem?_eq_some_iff.1 this).1
                rw [add_mk, cell_of_row w _ _ vs E _ hb]
                exact getD_of _ _ (by omega)
              · obtain ⟨hi, _, h3⟩ := hcell i e he
                have h4 := (h3 j x hj).2
                have hlt := (List.getElem?_eq_some_iff.1 h4).1
                have := g3.get _ _ h4
                rwa [hvals _ (by omega)] at this
              · obtain ⟨hi, _, h3⟩ := hcell i e he
                have h4 := (h3 j x hj).2
                have hlt := (List.getElem?_eq_some_iff.1 h4).1
                exact hone _ (by omega)
              · obtain ⟨⟨⟨cs1, hf1⟩, hbb⟩, hnm⟩ := hL _ _ _ _ hL1
                obtain ⟨rfl, rfl⟩ := r0.inj _ _ _ _ _ _ _ _ hf hf1 hbb
                exact hnm (List.mem_cons_self)
              · exact (r0.own _ _ _ _ hf).2
          · cases h
        · cases h
      · cases h
end
end Go.Ev
/- Operations, last part: literals, make, conversions to and from bytes, function values. -/
namespace Go.Ev
open Go.RowKit
set_option linter.unusedVariables false
set_option linter.unusedSimpArgs false
set_option linter.unusedSectionVars false

/-- Cells set one behind the other. -/
theorem foldl_set : ∀ (l : List Value) (s off : Nat) (cells : Array Value), off + s + l.length ≤ cells.size →
    (((l.zipIdx s).foldl (fun cs (x : Value × Nat) => cs.setIfInBounds (off + x.2) x.1) cells)).toList = cells.toList.take (off + s) ++ l ++ cells.toList.drop (off + s + l.length)
  | [], s, off, cells, h => by simp
  | v :: l, s, off, cells, h => by
    simp only [List.zipIdx_cons, List.foldl_cons]
    rw [foldl_set l (s + 1) off _ (by simp at h ⊢; omega)]
    simp only [List.length_cons] at h
    apply List.ext_getElem?
    intro q
    simp only [Array.toList_setIfInBounds, List.getElem?_append, List.length_append, List.length_take, List.length_set, Array.length_toList, List.length_cons, List.getElem?_drop, List.getElem?_take, List.getElem?_set]
    have e1 : min (off + (s + 1)) cells.size = off + s + 1 := by omega
    have e2 : min (off + s) cells.size = off + s := by omega
    rw [e1, e2]
    by_cases h1 : q < off + s
    · have a1 : q < off + s + 1 + l.length := by omega
      have a2 : q < off + s + 1 := by omega
      have a3 : q < off + s + (l.length + 1) := by omega
      have a4 : q < off + (s + 1) := by omega
      have a5 : ¬ (off + s = q) := by omega
      simp [a1, a2, a3, a4, a5, h1]
    · by_cases h2 : q = off + s
      · subst h2
        have a1 : off + s < off + s + 1 + l.length := by omega
        have a3 : off + s < off + (s + 1) := by omega
        have a4 : off + s < cells.size := by omega
        simp [a1, a3, a4]
      · have a2 : ¬ q < off + s + 1 := by omega
        have a4 : ¬ q < off + (s + 1) := by omega
        obtain ⟨k, rfl⟩ : ∃ k, q = off + s + 1 + k := ⟨q - (off + s + 1), by omega⟩
        have b1 : ¬ (off + s + 1 + k < off + s) := by omega
        have b2 : off + s + 1 + k - (off + s) = k + 1 := by omega
        have b3 : off + s + 1 + k - (off + s + 1) = k := by omega
        by_cases h3 : k < l.length
        · have c1 : off + s + 1 + k < off + s + 1 + l.length := by omega
          have c2 : off + s + 1 + k < off + s + (l.length + 1) := by omega
          simp [c1, c2, a2, b1, b2, b3]
        · have c1 : ¬ (off + s + 1 + k < off + s + 1 + l.length) := by omega
          have c2 : ¬ (off + s + 1 + k < off + s + (l.length + 1)) := by omega
          have c3 : off + (s + 1) + l.length + (off + s + 1 + k - (off + s + 1 + l.length)) = off + s + 1 + k := by omega
          have c4 : off + s + (l.length + 1) + (off + s + 1 + k - (off + s + (l.length + 1))) = off + s + 1 + k := by omega
          have c5 : ¬ (off + s = off + s + 1 + k) := by omega
          simp [c1, c2, c3, c4, c5]

theorem fill_step (place : Nat → Option (Nat × Nat)) (cells : Array Value) (i : Nat) (v : Value) (rest : List (Nat × Value)) (off sz : Nat) (hp : place i = some (off, sz)) (hs : v.cells.size = sz) (hle : off + sz ≤ cells.size) :
    ∃ cells' : Array Value, Instr.fill place cells ((i, v) :: rest) = Instr.fill place cells' rest ∧ cells'.toList = cells.toList.take off ++ v.cells.toList ++ cells.toList.drop (off + sz) := by
  refine ⟨v.cells.zipIdx.foldl (fun cs (c, j) => cs.setIfInBounds (off + j) c) cells, ?_, ?_⟩
  · simp only [Instr.fill, hp]
    rw [if_neg (by rw [hs]; simp; omega)]
  · have := foldl_set v.cells.toList 0 off cells (by simp; omega)
    rw [← Array.foldl_toList, Array.toList_zipIdx]
    simp only [Nat.add_zero, Array.length_toList, hs] at this
    exact this

section
variable {P : Program} {w0 : World} {O X : Nat → Prop} {bm : Nat → Nat → Nat} {H : Heap} {nx : Ctr} {w : World}

theorem Reps.append {L : Loc} {p : Bool} {xs ys : List AV} {vs us : List Value} (h : Reps L X nx w p xs vs) (k : Reps L X nx w p ys us) : Reps L X nx w p (xs ++ ys) (vs ++ us) := by
  induction h with
  | nil => exact k
  | cons h _ ih => exact .cons h ih
theorem Reps.take {L : Loc} {p : Bool} {xs : List AV} {vs : List Value} (h : Reps L X nx w p xs vs) : ∀ n, Reps L X nx w p (xs.take n) (vs.take n) := by
  induction h with
  | nil => intro n; simp; exact .nil
  | cons h _ ih =>
    intro n
    cases n with
    | zero => exact .nil
    | succ n => exact .cons h (ih n)
theorem Reps.drop {L : Loc} {p : Bool} {xs : List AV} {vs : List Value} (h : Reps L X nx w p xs vs) : ∀ n, Reps L X nx w p (xs.drop n) (vs.drop n) := by
  induction h with
  | nil => intro n; simp; exact .nil
  | cons h t ih =>
    intro n
    cases n with
    | zero => exact .cons h t
    | succ n => exact ih n
theorem Rep.cellsR {L : Loc} {p : Bool} {x : AV} {v : Value} (h : Rep L X nx w p x v) (hx : Ev.cells x ≠ []) : Reps L X nx w p (Ev.cells x) v.cells.toList :=
  Reps.of _ _ (by have := (h.cells hx).1; simpa using this) (fun j y hj => by have := (h.cells hx).2 j y hj; simpa [List.getD] using this)
theorem Reps.move {L L' : Loc} {nx' : Ctr} {w' : World} {p : Bool} {xs : List AV} {vs : List Value} (m : Move L nx w L' nx' w') (h : Reps L X nx w p xs vs) : Reps L' X nx' w' p xs vs := by
  induction h with
  | nil => exact .nil
  | cons h _ ih => exact .cons (h.move m) ih

/-- Parts laid over cells: as the abstract ones are. -/
theorem fill_ok {L : Loc} (place : Nat → Option (Nat × Nat)) {α : Type} {ok : List AV → Option α} {r : α} : ∀ (ps : List (Nat × Nat)) (is : List Nat) (xs : List AV) (vs : List Value) (cs : List AV) (arr : Array Value),
    ps.length = is.length → (∀ (k : Nat) i, is[k]? = some i → place i = ps[k]?) → (∀ q ∈ ps, q.2 ≠ 0) → Reps L X nx w false xs vs → Reps L X nx w false cs arr.toList → fillK ps xs cs ok none = some r →
    ∃ out cs', Instr.fill place arr (is.zip vs) = some out ∧ ok cs' = some r ∧ Reps L X nx w false cs' out.toList
  | [], is, xs, vs, cs, arr, hl, hp, h0, hx, hc, h => by
    have : is = [] := List.eq_nil_of_length_eq_zero (by simpa using hl.symm)
    subst this
    cases xs with
    | nil => exact ⟨arr, cs, rfl, h, hc⟩
    | cons x xs => cases h
  | (off, n) :: ps, is, xs, vs, cs, arr, hl, hp, h0, hx, hc, h => by
    cases is with
    | nil => simp at hl
    | cons i is =>
      cases xs with
      | nil => cases h
      | cons x xs =>
        obtain ⟨v, vs, rfl, h1, t⟩ := hx.inv
        simp only [fillK] at h
        split at h
        · rename_i hcnd
          have hn : cells x ≠ [] := by intro e; rw [e] at hcnd; exact h0 _ (List.mem_cons_self) hcnd.1.symm
          have hv := h1.cellsR hn
          have hvs : v.cells.size = n := by have := (h1.cells hn).1; omega
          have hcl := hc.len
          obtain ⟨arr', e1, e2⟩ := fill_step place arr i v (is.zip vs) off n (hp 0 i rfl) hvs (by simp at hcl; omega)
          have hc' : Reps L X nx w false (cs.take off ++ cells x ++ cs.drop (off + n)) arr'.toList := by
            rw [e2]; exact ((hc.take off).append hv).append (hc.drop (off + n))
          obtain ⟨out, cs', g1, g2, g3⟩ := fill_ok place ps is xs vs _ arr' (by simpa using hl) (fun k i hk => by have := hp (k + 1) i hk; simpa using this) (fun q hq => h0 q (List.mem_cons_of_mem _ hq)) t hc' h
          exact ⟨out, cs', by rw [List.zip_cons_cons, e1]; exact g1, g2, g3⟩
        · cases h

theorem ok_nck (r : Rel w0 O X bm H nx w) (x : AV) (v1 : Value) (h1 : Rep (Lof H bm) X nx w false x v1) {φ : Nat}
    {v : AV} {H' : Heap} {nx' : Ctr} (h : opK .nck [x] H nx φ (fun v H nx => some (v, H, nx)) none = some (v, H', nx')) (o : Oper) (ρ : Operand → Value) (y : Operand) (ho : o.op = .nilCheck y) (hy : ρ y = v1) :
    ∃ w' bm', (execOp ρ o).run P w = .ok (.value v1) w' ∧ Rel w0 O X bm' H' nx' w' ∧ Move (Lof H bm) nx w (Lof H' bm') nx' w' ∧ Rep (Lof H' bm') X nx' w' false v v1 := by
  simp only [opK] at h
  split at h <;> try (cases h; done)
  all_goals
    simp at h; obtain ⟨rfl, rfl, rfl⟩ := h
    refine ⟨w, bm, ?_, r, Move.refl _ _ _, h1⟩
    cases h1 <;> simp [execOp, ho, hy]
theorem ok_ifc (r : Rel w0 O X bm H nx w) (t : TypeId) (D : TypeDesc) (ht : P.underlying t = some D) (hD : ifaceD D = false) (x : AV) (v1 : Value) (h1 : Rep (Lof H bm) X nx w false x v1) {φ : Nat}
    {v : AV} {H' : Heap} {nx' : Ctr} (h : opK (.ifc t) [x] H nx φ (fun v H nx => some (v, H, nx)) none = some (v, H', nx')) : OK P w0 O X bm H nx w (Instr.makeInterface t v1) v H' nx' := by
  simp only [opK] at h
  simp at h; obtain ⟨rfl, rfl, rfl⟩ := h
  refine OK.same r (v' := .iface t v1) ?_ (.ifc h1)
  cases D <;> simp [ifaceD] at hD <;> simp [Instr.makeInterface, run_underlying ht]
theorem ok_b2s (r : Rel w0 O X bm H nx w) (src dst e : TypeId) (hs : P.underlying src = some (.slice e)) (he : P.underlying e = some (.int .u8)) (hd : P.underlying dst = some .string) (x : AV) (v1 : Value) (h1 : Rep (Lof H bm) X nx w false x v1) {φ : Nat}
    {v : AV} {H' : Heap} {nx' : Ctr} (h : opK .b2s [x] H nx φ (fun v H nx => some (v, H, nx)) none = some (v, H', nx')) : OK P w0 O X bm H nx w (convert src dst v1) v H' nx' := by
  have hbl : ∀ (l : List AV), isBytes l = true → (bytesOf l).length = l.length ∧ ∀ j (hj : j < (bytesOf l).length), l[j]? = some (.int .u8 (((bytesOf l)[j]).toNat : Int)) := by
    intro l
    induction l with
    | nil => intro _; exact ⟨rfl, fun j hj => by simp [bytesOf] at hj⟩
    | cons a l ih =>
      intro hb
      simp only [isBytes, List.all_cons, Bool.and_eq_true] at hb
      obtain ⟨ha, hb⟩ := hb
      obtain ⟨i1, i2⟩ := ih hb
      split at ha
      · rename_i n
        have hn := of_decide_eq_true ha
        refine ⟨by simp [bytesOf, i1], fun j hj => ?_⟩
        cases j with
        | zero =>
          have e1 : (UInt8.ofNat n.toNat).toNat = n.toNat := by rw [UInt8.toNat_ofNat']; omega
          simp [bytesOf, e1]; omega
        | succ j => simp [bytesOf] at hj ⊢; exact i2 j (by omega)
      · cases ha
  simp only [opK] at h
  split at h
  · cases h1
    simp at h; obtain ⟨rfl, rfl, rfl⟩ := h
    exact OK.same r (v' := .string .empty) (by rw [run_convert_bytes_string w src dst e none 0 0 hs he hd]; rfl) .str
  · rename_i sz es cap
    split at h
    · rename_i hc
      obtain ⟨rfl, hb⟩ := hc
      simp at h; obtain ⟨rfl, rfl, rfl⟩ := h
      obtain ⟨b1, b2⟩ := hbl es hb
      cases h1 with
      | fz0 hcap hA =>
        rename_i A c
        cases A with
        | none => exact OK.same r (v' := .string ⟨(bytesOf []).toArray⟩) (by rw [run_convert_bytes_string w src dst e none 0 _ hs he hd]; rfl) .str
        | some a => exact OK.same r (run_convert_bytes_back w src dst e a c [] hs he hd (fun j hj => by simp at hj)) .str
      | fz vv hne hl hcap hsz hcc hr ho1 ho =>
        rename_i a c
        have := run_convert_bytes_back (P := P) w src dst e a c (bytesOf es) hs he hd (fun j hj => by
          have h2 := b2 j hj
          have h3 := hcc _ _ 0 _ h2 rfl
          have h4 := hr _ _ 0 _ h2 rfl
          rw [Nat.mul_one, Nat.add_zero] at h3
          rw [h3]; generalize vv j 0 = u at h4; cases h4; rfl)
        rw [b1] at this
        exact OK.same r this .str
    · cases h
  · rename_i f d g sz off len
    rw [getB_find] at h
    split at h
    · rename_i g' cs hf
      split at h
      · rename_i hg
        subst hg
        split at h
        · rename_i hc
          obtain ⟨rfl, hle, hb⟩ := hc
          simp at h; obtain ⟨rfl, rfl, rfl⟩ := h
          obtain ⟨b1, b2⟩ := hbl _ hb
          have hlen : ((cs.drop off).take len).length = len := by simp; omega
          have hs' := srcO_sl r hf (by simpa using hle) (by omega) h1
          simp only [Nat.mul_one] at hs'
          rcases hs' with ⟨rfl, _, A, c, rfl⟩ | ⟨hpos, _, a, c, u, rfl, hu⟩
          · have : bytesOf ((cs.drop off).take 0) = [] := by simp [bytesOf]
            rw [this]
            cases A with
            | none => exact OK.same r (v' := .string ⟨#[]⟩) (by rw [run_convert_bytes_string w src dst e none 0 _ hs he hd]; rfl) .str
            | some a => exact OK.same r (run_convert_bytes_back w src dst e a c [] hs he hd (fun j hj => by simp at hj)) .str
          · have := run_convert_bytes_back (P := P) w src dst e a c (bytesOf ((cs.drop off).take len)) hs he hd (fun j hj => by
              have h2 := b2 j hj
              obtain ⟨k1, k2, _⟩ := hu j _ h2
              rw [k1]; generalize u j = u1 at k2; cases k2; rfl)
            rw [b1, hlen] at this
            exact OK.same r this .str
        · cases h
      · cases h
    · cases h
  · cases h

theorem hole (r : Rel w0 O X bm H nx w) : (∀ f d g, ¬ Lof H bm f d g w.heap.size) ∧ ¬ X w.heap.size := by
  refine ⟨?_, fun hx => by have := r.xlt _ hx; have := r.size; omega⟩
  rintro f d g ⟨⟨cs, hf⟩, e⟩
  obtain ⟨vs1, E1, h1, _⟩ := r.blk _ _ _ _ hf
  rw [← e] at h1; simp at h1

theorem ok_s2b (r : Rel w0 O X bm H nx w) (src dst e : TypeId) (hs : P.underlying src = some .string) (hd : P.underlying dst = some (.slice e)) (he : P.underlying e = some (.int .u8)) (x : AV) (v1 : Value) (h1 : Rep (Lof H bm) X nx w false x v1) {φ : Nat}
    {v : AV} {H' : Heap} {nx' : Ctr} (h : opK .s2b [x] H nx φ (fun v H nx => some (v, H, nx)) none = some (v, H', nx')) : OK P w0 O X bm H nx w (convert src dst v1) v H' nx' := by
  simp only [opK] at h
  split at h
  · rename_i s
    cases h1
    split at h
    · simp at h; obtain ⟨rfl, rfl, rfl⟩ := h
      have hrun := run_bytes_of_string (P := P) w src dst e s hs hd he
      have hcap := grownCap_ge w s.size 0 e
      obtain ⟨rr, mm⟩ := r.grow (w' := w.drew.alloc (.cells (bytesRow s (grownCap w s.size 0 e)) e ((bytesRow s (grownCap w s.size 0 e)).size, (bytesRow s (grownCap w s.size 0 e)).size + 1))) rfl rfl rfl (by simp [alloc_heap]) (fun b hb => heap_alloc_old w.drew _ hb)
      refine ⟨_, _, bm, hrun, rr, mm, ?_⟩
      have hlen : (avBytes s).length = s.size := by simp [avBytes]
      by_cases hz : avBytes s = []
      · have : s.size = 0 := by rw [← hlen, hz]; rfl
        rw [hz, this]; exact .fz0 (by simp) (fun e => by cases e)
      · have hsl : ∀ c, (Value.slice (some ⟨w.heap.size, 0, none⟩) s.size c) = .slice (some ⟨w.heap.size, 0, none⟩) (avBytes s).length c := by rw [hlen]; intro c; rfl
        rw [hsl]
        have hcell : ∀ (i : Nat) y, (avBytes s)[i]? = some y → ∃ b, s.data.toList[i]? = some b ∧ y = .int .u8 b.toNat := by
          intro i y hi
          simp only [avBytes, List.getElem?_map] at hi
          cases hb : s.data.toList[i]? with
          | none => rw [hb] at hi; cases hi
          | some b => rw [hb] at hi; simp at hi; exact ⟨b, rfl, hi.symm⟩
        refine .fz (fun i _ => ((bytesRow s (grownCap w s.size 0 e))).getD i undef) hz (by rw [hlen]; exact hcap) (by simp) (fun i y hi => ?_) (fun i y j z hi hj => ?_) (fun i y j z hi hj => ?_) (fun i y j z hi hj => ?_) ⟨?_, ?_, ?_⟩
        · obtain ⟨b, _, rfl⟩ := hcell i y hi; rfl
        · obtain ⟨b, hb, rfl⟩ := hcell i y hi
          have hlt : i < s.size := by have := (List.getElem?_eq_some_iff.1 hb).1; simpa using this
          cases j with
          | succ j => simp [cells] at hj
          | zero =>
            rw [add_mk, Nat.mul_one, Nat.add_zero, Nat.zero_add]
            refine (World.cell?_alloc_mark w.drew _ _ _ _).trans ?_
            exact getD_of _ _ (by simp [bytesRow]; omega)
        · obtain ⟨b, hb, rfl⟩ := hcell i y hi
          cases j with
          | succ j => simp [cells] at hj
          | zero =>
            simp [cells] at hj; subst hj
            have hlt : i < s.size := by have := (List.getElem?_eq_some_iff.1 hb).1; simpa using this
            have : (bytesRow s (grownCap w s.size 0 e)).getD i undef = .int .u8 b.toNat := by
              have h3 : (bytesRow s (grownCap w s.size 0 e))[i]? = some (.int .u8 b.toNat) := by
                simp only [bytesRow]
                rw [Array.getElem?_append_left (by simp; exact hlt)]
                have h4 : s.data[i]? = some b := by simpa using hb
                simp [h4]
              rw [Array.getD_eq_getD_getElem?, h3]; rfl
            rw [this]; exact .int
        · obtain ⟨b, hb, rfl⟩ := hcell i y hi
          have hlt : i < s.size := by have := (List.getElem?_eq_some_iff.1 hb).1; simpa using this
          have h3 : (bytesRow s (grownCap w s.size 0 e))[i]? = some (.int .u8 b.toNat) := by
            simp only [bytesRow]
            rw [Array.getElem?_append_left (by simp; exact hlt)]
            have h4 : s.data[i]? = some b := by simpa using hb
            simp [h4]
          rw [Array.getD_eq_getD_getElem?, h3]; rfl
        · exact (hole r).1
        · exact (hole r).2
        · simp [alloc_heap]
    · cases h
  · cases h

/-- A new row of elements, whole. -/
theorem fill_row (sz : Nat) : ∀ (vals : List Value) (k : Nat) (arr : Array Value), (∀ v ∈ vals, v.cells.size = sz) → (k + vals.length) * sz ≤ arr.size →
    ∃ out, Instr.fill (fun i => some (i * sz, sz)) arr ((List.range' k vals.length).zip vals) = some out ∧ out.toList = arr.toList.take (k * sz) ++ (vals.map fun v => v.cells.toList).flatten ++ arr.toList.drop ((k + vals.length) * sz)
  | [], k, arr, _, _ => ⟨arr, rfl, by simp⟩
  | v :: vals, k, arr, hv, hle => by
    have hv0 := hv v (List.mem_cons_self)
    have hm : (k + (vals.length + 1)) * sz = k * sz + sz + vals.length * sz := by rw [← Nat.add_assoc, Nat.add_mul, Nat.add_mul]; omega
    simp only [List.length_cons] at hle
    obtain ⟨arr', e1, e2⟩ := fill_step (fun i => some (i * sz, sz)) arr k v ((List.range' (k + 1) vals.length).zip vals) (k * sz) sz rfl hv0 (by omega)
    have hsz : arr'.size = arr.size := by
      have := congrArg List.length e2
      simp only [Array.length_toList, List.length_append, List.length_take, List.length_drop] at this
      omega
    obtain ⟨out, g1, g2⟩ := fill_row sz vals (k + 1) arr' (fun u hu => hv u (List.mem_cons_of_mem _ hu)) (by rw [hsz]; rw [show k + 1 + vals.length = k + (vals.length + 1) by omega]; exact hle)
    refine ⟨out, ?_, ?_⟩
    · simp only [List.length_cons, List.range'_succ, List.zip_cons_cons]; rw [e1]; exact g1
    · rw [g2, e2]
      have hm1 : (k + 1) * sz = k * sz + sz := by rw [Nat.add_mul]; omega
      have hm2 : (k + 1 + vals.length) * sz = k * sz + sz + vals.length * sz := by rw [Nat.add_mul, hm1]
      have l1 : (arr.toList.take (k * sz)).length = k * sz := by simp; omega
      have l2 : v.cells.toList.length = sz := by simp [hv0]
      have t1 : (arr.toList.take (k * sz) ++ v.cells.toList ++ arr.toList.drop (k * sz + sz)).take ((k + 1) * sz) = arr.toList.take (k * sz) ++ v.cells.toList := by
        rw [List.take_append_of_le_length (by simp only [List.length_append, l1, l2]; omega)]
        exact List.take_of_length_le (by simp only [List.length_append, l1, l2]; omega)
      have t2 : (arr.toList.take (k * sz) ++ v.cells.toList ++ arr.toList.drop (k * sz + sz)).drop ((k + 1 + vals.length) * sz) = arr.toList.drop ((k + (vals.length + 1)) * sz) := by
        rw [List.drop_append, List.drop_eq_nil_of_le (by simp only [List.length_append, l1, l2]; omega), List.nil_append, List.drop_drop]
        congr 1
        simp only [List.length_append, l1, l2]; omega
      rw [t1, t2]
      simp only [List.map_cons, List.flatten_cons, List.length_cons, List.append_assoc]

theorem allSz_spec {sz : Nat} : ∀ {l : List AV}, allSz sz l = true → ∀ e ∈ l, (cells e).length = sz ∧ (cells e).all scal1 = true
  | [], _, e, he => by cases he
  | a :: l, h, e, he => by
    simp only [allSz, Bool.and_eq_true, beq_iff_eq] at h
    rcases List.mem_cons.1 he with rfl | he
    · exact ⟨h.1.1, h.1.2⟩
    · exact allSz_spec h.2 e he

/-- A row of elements: its cells. -/
theorem row_cells {L : Loc} {p : Bool} {sz : Nat} (h0 : sz ≠ 0) : ∀ {xs : List AV} {vals : List Value}, Reps L X nx w p xs vals → (∀ e ∈ xs, (cells e).length = sz) →
    Reps L X nx w p (catCells xs) (vals.map fun v => v.cells.toList).flatten ∧ (∀ v ∈ vals, v.cells.size = sz)
  | _, _, .nil, _ => ⟨.nil, fun v hv => by cases hv⟩
  | _, _, .cons (x := x) (v := v) h t, hx => by
    have hc := hx x (List.mem_cons_self)
    have hne : cells x ≠ [] := by intro e; rw [e] at hc; exact h0 hc.symm
    obtain ⟨i1, i2⟩ := row_cells h0 t (fun e he => hx e (List.mem_cons_of_mem _ he))
    refine ⟨(h.cellsR hne).append i1, fun u hu => ?_⟩
    rcases List.mem_cons.1 hu with rfl | hu
    · rw [(h.cells hne).1, hc]
    · exact i2 u hu

theorem run_lit (t e : TypeId) (ht : P.underlying t = some (.slice e)) (i : TypeInfo) (hi : P.info? e = some i) (z : Value) (hz : i.zero = some z) (h0 : i.size ≠ 0) (vals : List Value) (hv : ∀ v ∈ vals, v.cells.size = i.size) (hbig : vals.length * i.size ≤ 16777216) (w : World) :
    (Instr.buildSlice t vals.length ((List.range vals.length).zip vals).toArray).run P w = .ok (.slice (some ⟨w.heap.size, 0, none⟩) vals.length vals.length) { w with heap := w.heap.push (.cells (vals.map fun v => v.cells.toList).flatten.toArray e (0, 0)) } := by
  have hfl : ∀ (l : List Value), (∀ v ∈ l, v.cells.size = i.size) → ((l.map fun v => v.cells.toList).flatten).length = l.length * i.size := by
    intro l
    induction l with
    | nil => intro _; simp
    | cons v l ih => intro h; simp only [List.map_cons, List.flatten_cons, List.length_append, Array.length_toList, h v (List.mem_cons_self), ih (fun u hu => h u (List.mem_cons_of_mem _ hu)), List.length_cons, Nat.add_mul]; omega
  have key : ∀ (zero : Array Value), Instr.fill (fun j => some (j * i.size, i.size)) ((Array.range (vals.length * i.size)).map (zero[· % zero.size]!)) ((List.range vals.length).zip vals) = some (vals.map fun v => v.cells.toList).flatten.toArray := by
    intro zero
    obtain ⟨out, g1, g2⟩ := fill_row i.size vals 0 ((Array.range (vals.length * i.size)).map (zero[· % zero.size]!)) hv (by simp)
    rw [← List.range_eq_range'] at g1
    rw [g1]
    congr 1
    apply Array.ext'
    rw [g2]
    simp
  have hbig' : ¬ (vals.length * i.size > 2 ^ 24) := by omega
  unfold Instr.buildSlice
  simp only [Sem.run_bind, run_underlying ht, Result.andThen_ok, run_sizeOf hi]
  rw [if_neg hbig']
  have hk0 := key #[]
  have hk := key z.cells
  split
  · simp only [Sem.run_bind, Sem.run_pure, Result.andThen_ok]
    rw [hk0]
    simp [newRow]
  · have hzr : (zeroValue e).run P w = .ok z w := by simp [zeroValue, typeInfo, hi, hz]
    simp only [Sem.run_bind, hzr, Sem.run_pure, Result.andThen_ok]
    rw [hk]
    simp [newRow]

theorem Reps.getR {L : Loc} {p : Bool} {xs : List AV} {vs : List Value} (h : Reps L X nx w p xs vs) {j : Nat} {x : AV} (hj : xs[j]? = some x) : ∃ v, vs[j]? = some v ∧ Rep L X nx w p x v := by
  have h1 := h.get j x hj
  have hl := h.len
  have hlt := (List.getElem?_eq_some_iff.1 hj).1
  refine ⟨vs[j], List.getElem?_eq_getElem (by omega), ?_⟩
  have : vs.getD j undef = vs[j] := by simp [List.getD, show j < vs.length by omega]
  rwa [this] at h1

theorem ok_lit (r : Rel w0 O X bm H nx w) (t e : TypeId) (ht : P.underlying t = some (.slice e)) (i : TypeInfo) (hi : P.info? e = some i) (z : Value) (hz : i.zero = some z) (h0 : i.size ≠ 0) (len : Nat) (hbig : len * i.size ≤ 16777216) (xs : List AV) (vals : List Value) (hx : Reps (Lof H bm) X nx w false xs vals) {φ : Nat}
    {v : AV} {H' : Heap} {nx' : Ctr} (h : opK (.lit i.size len) xs H nx φ (fun v H nx => some (v, H, nx)) none = some (v, H', nx')) : OK P w0 O X bm H nx w (Instr.buildSlice t len ((List.range len).zip vals).toArray) v H' nx' := by
  simp only [opK] at h
  split at h
  · rename_i hc
    obtain ⟨hl, hsz⟩ := hc
    have hsp := allSz_spec hsz
    obtain ⟨xs', ids, h, g1, g2, g3⟩ := frz_map (fun v val α ok r1 h1 h2 => frz_ok r 9 v val ok r1 h1 h2) xs vals _ _ hx h
    split at h
    · simp only [Option.some.injEq, Prod.mk.injEq] at h; obtain ⟨rfl, rfl, rfl⟩ := h
      have hfr := g3 (Lof H bm) nx (fun f d g b hb => ⟨hb, by simp⟩)
      have hvl := hx.len
      obtain ⟨_, hvs⟩ := row_cells h0 hx (fun e he => (hsp e he).1)
      have hln : len = vals.length := by omega
      subst hln
      have hrun := run_lit (P := P) t e ht i hi z hz h0 vals hvs hbig w
      obtain ⟨rr, mm⟩ := r.grow (w' := { w with heap := w.heap.push (.cells (vals.map fun v => v.cells.toList).flatten.toArray e (0, 0)) }) rfl rfl rfl (by simp) (fun b hb => by simp [Array.getElem?_push]; omega)
      refine ⟨_, _, bm, hrun, rr, mm, ?_⟩
      have hsz' : ∀ (q : Nat) e1, xs'[q]? = some e1 → (cells e1).length = i.size := by
        intro q e1 hq
        have hlt := (List.getElem?_eq_some_iff.1 hq).1
        obtain ⟨u, hu, hrep⟩ := hfr.getR hq
        obtain ⟨u', hu', hrep'⟩ := hx.getR (List.getElem?_eq_getElem (show q < xs.length by omega))
        rw [hu] at hu'; cases hu'
        have hxl := (hsp _ (List.getElem_mem (show q < xs.length by omega))).1
        have hcs := (hrep'.cells (by intro e; rw [e] at hxl; exact h0 hxl.symm)).1
        rw [hxl] at hcs
        by_cases hne : cells e1 = []
        · have := g2 q e1 hq
          cases hrep with
          | any => exact absurd rfl this
          | agg ha _ => simp only [cells] at hne; subst hne; simp only [Value.cells, List.length_nil] at hcs ha; omega
          | _ => simp [cells] at hne
        · rw [← hcs]; exact ((hrep.cells hne).1).symm
      obtain ⟨hrc, _⟩ := row_cells h0 hfr (fun e1 he1 => by obtain ⟨q, hq⟩ := List.mem_iff_getElem?.1 he1; exact hsz' q e1 hq)
      have hrl := hrc.len
      have hxl' : vals.length = xs'.length := hfr.len.trans rfl
      by_cases hnil : xs' = []
      · rw [hnil] at hxl' ⊢
        have : vals.length = 0 := hxl'
        rw [this]
        exact .fz0 (by simp) (fun e => by cases e)
      · have hsl : (Value.slice (some ⟨w.heap.size, 0, none⟩) vals.length vals.length) = .slice (some ⟨w.heap.size, 0, none⟩) xs'.length vals.length := by rw [hxl']
        rw [hsl]
        have hpos : 0 < i.size := by omega
        have hidx : ∀ (q : Nat) e1 j y, xs'[q]? = some e1 → (cells e1)[j]? = some y → (catCells xs')[q * i.size + j]? = some y := by
          intro q e1 j y hq hj
          have hj' : j < i.size := by have := (List.getElem?_eq_some_iff.1 hj).1; rw [hsz' q e1 hq] at this; exact this
          rw [catCells_get hpos xs' hsz']
          have d1 : (q * i.size + j) / i.size = q := by rw [Nat.add_comm, Nat.add_mul_div_right _ _ hpos, Nat.div_eq_of_lt hj', Nat.zero_add]
          have d2 : (q * i.size + j) % i.size = j := by rw [Nat.add_comm, Nat.add_mul_mod_self_right, Nat.mod_eq_of_lt hj']
          rw [d1, d2, hq]; exact hj
        refine .fz (fun q j => ((vals.map fun v => v.cells.toList).flatten).getD (q * i.size + j) undef) hnil (by omega) (by rintro c' ⟨⟩; rfl) hsz' (fun q e1 j y hq hj => ?_) (fun q e1 j y hq hj => ?_) (fun q e1 j y hq hj => ?_) ⟨(hole r).1, (hole r).2, by simp⟩
        · have h1 := hidx q e1 j y hq hj
          obtain ⟨u, hu, _⟩ := hrc.getR h1
          rw [add_mk, Nat.zero_add, cell_new]
          simp [List.getD, hu]
        · exact ((hrc.get _ _ (hidx q e1 j y hq hj)).sub (fun _ _ _ _ h => h)).move mm
        · -- what lies in a cell is no aggregate: so it was in the parts
          have h1 := hidx q e1 j y hq hj
          have hq' : q < xs.length := by have := (List.getElem?_eq_some_iff.1 hq).1; omega
          have hxe := hsp _ (List.getElem_mem hq')
          have hj' : j < i.size := by have := (List.getElem?_eq_some_iff.1 hj).1; rw [hsz' q e1 hq] at this; exact this
          obtain ⟨hrc0, _⟩ := row_cells h0 hx (fun e he => (hsp e he).1)
          have h2 : (catCells xs)[q * i.size + j]? = some ((cells xs[q])[j]'(by rw [hxe.1]; exact hj')) := by
            rw [catCells_get hpos xs (fun q1 e2 he2 => (hsp e2 (List.mem_of_getElem? he2)).1)]
            have d1 : (q * i.size + j) / i.size = q := by rw [Nat.add_comm, Nat.add_mul_div_right _ _ hpos, Nat.div_eq_of_lt hj', Nat.zero_add]
            have d2 : (q * i.size + j) % i.size = j := by rw [Nat.add_comm, Nat.add_mul_mod_self_right, Nat.mod_eq_of_lt hj']
            rw [d1, d2, List.getElem?_eq_getElem hq']
            exact List.getElem?_eq_getElem _
          exact one_of_scal1 (hrc0.get _ _ h2) (List.all_eq_true.1 hxe.2 _ (List.getElem_mem _))
    · cases h
  · cases h
theorem ok_litm (r : Rel w0 O X bm H nx w) (t e : TypeId) (ht : P.underlying t = some (.slice e)) (i : TypeInfo) (hi : P.info? e = some i) (z : Value) (hz : i.zero = some z) (h0 : i.size ≠ 0) (len key : Nat) (hbig : len * i.size ≤ 16777216) (xs : List AV) (vals : List Value) (hx : Reps (Lof H bm) X nx w false xs vals) {φ : Nat}
    {v : AV} {H' : Heap} {nx' : Ctr} (h : opK (.litm i.size len key) xs H nx φ (fun v H nx => some (v, H, nx)) none = some (v, H', nx')) : OK P w0 O X bm H nx w (Instr.buildSlice t len ((List.range len).zip vals).toArray) v H' nx' := by
  simp only [opK] at h
  split at h
  · rename_i hc
    obtain ⟨hl, hsz⟩ := hc
    have hsp := allSz_spec hsz
    have hvl := hx.len
    obtain ⟨hrc, hvs⟩ := row_cells h0 hx (fun e he => (hsp e he).1)
    have hln : len = vals.length := by omega
    subst hln
    have hrun := run_lit (P := P) t e ht i hi z hz h0 vals hvs hbig w
    simp only [Option.some.injEq, Prod.mk.injEq] at h; obtain ⟨rfl, rfl, rfl⟩ := h
    have hrl := hrc.len
    have hcl := catCells_len xs (fun (q : Nat) e1 he1 => (hsp e1 (List.mem_of_getElem? he1)).1)
    have hsc : ∀ {l : List AV}, (∀ e ∈ l, (cells e).all scal1 = true) → ∀ x ∈ catCells l, scal1 x = true := by
      intro l
      induction l with
      | nil => intro _ x hx; cases hx
      | cons a l ih =>
        intro h1 x hx
        rcases List.mem_append.1 hx with hx | hx
        · exact List.all_eq_true.1 (h1 a (List.mem_cons_self)) x hx
        · exact ih (fun e he => h1 e (List.mem_cons_of_mem _ he)) x hx
    refine OK.new r (vs := (vals.map fun v => v.cells.toList).flatten.toArray) (E := e) hrun rfl rfl rfl rfl (by simp only [List.size_toArray]; omega) (fun j x hj => ?_) (.sl (by simp [bump]) (Nat.le_refl _) ?_)
    · have h1 := hrc.get j x hj
      have h2 : (vals.map fun v => v.cells.toList).flatten.toArray.getD j undef = (vals.map fun v => v.cells.toList).flatten.getD j undef := by simp [List.getD]
      rw [h2]
      exact ⟨h1, one_of_scal1 h1 (hsc (fun e he => (hsp e he).2) x (List.mem_of_getElem? hj))⟩
    · rintro b ⟨_, rfl⟩
      rw [bset_same]
      refine ⟨fun _ => by simp, ?_, (vals.map fun v => v.cells.toList).flatten.toArray, e, by simp, by simp only [List.size_toArray, Nat.zero_add]; rw [hrl, hcl, hl]⟩
      have : vals.length ≤ vals.length * i.size := Nat.le_mul_of_pos_right _ (by omega)
      simp only [maxLen]; omega
  · cases h
theorem ok_bld (r : Rel w0 O X bm H nx w) (t : TypeId) (i : TypeInfo) (hi : P.info? t = some i) (zv : Value) (hz : i.zero = some zv) (z : List AV) (hzl : z.length = zv.cells.size) (hzr : ∀ (j : Nat) x, z[j]? = some x → Closed x (zv.cells.getD j undef) ∧ scal1 x = true)
    (fs : Array Field) (ht : P.underlying t = some (.struct fs)) (szs : Array Nat) (hszs : (fs.mapM fun f => do pure (f.offset, ← sizeOf f.type) : Sem (Array (Nat × Nat))).run P w = .ok ((fs.map (·.offset)).zip szs) w)
    (ps : List (Nat × Nat)) (is : List Nat) (hpl : ps.length = is.length) (hps : ∀ (k : Nat) q, is[k]? = some q → ((fs.map (·.offset)).zip szs)[q]? = ps[k]?) (hp0 : ∀ q ∈ ps, q.2 ≠ 0)
    (xs : List AV) (vals : List Value) (hx : Reps (Lof H bm) X nx w false xs vals) {φ : Nat}
    {v : AV} {H' : Heap} {nx' : Ctr} (h : opK (.bld z ps) xs H nx φ (fun v H nx => some (v, H, nx)) none = some (v, H', nx')) : OK P w0 O X bm H nx w (Instr.build t (is.zip vals).toArray) v H' nx' := by
  simp only [opK] at h
  have hzc : Reps (Lof H bm) X nx w false z zv.cells.toList := Reps.of _ _ (by simp [hzl]) (fun j x hj => by have := (hzr j x hj).1 (Lof H bm) X nx w false; simpa [List.getD] using this)
  obtain ⟨out, cs', g1, g2, g3⟩ := fill_ok (((fs.map (·.offset)).zip szs)[·]?) ps is xs vals z zv.cells hpl hps hp0 hx hzc h
  simp only [Option.some.injEq, Prod.mk.injEq] at g2; obtain ⟨rfl, rfl, rfl⟩ := g2
  have hzrun : (zeroValue t).run P w = .ok zv w := by simp [zeroValue, typeInfo, hi, hz]
  refine OK.same r (v' := .agg out) ?_ (.agg (by have := g3.len; simpa using this) (fun j x hj => by have := g3.get j x hj; simpa [List.getD] using this))
  simp only [Instr.build, Sem.run_bind, hzrun, Result.andThen_ok, run_underlying ht, hszs, g1, Sem.run_pure]
theorem ok_mk (r : Rel w0 O X bm H nx w) (t e : TypeId) (ht : P.underlying t = some (.slice e)) (i : TypeInfo) (hi : P.info? e = some i) (zv : Value) (hz : i.zero = some zv) (hs1 : i.size = 1) (z : AV) (hzl : zv.cells.size = 1) (hzr : Closed z (zv.cells.getD 0 undef) ∧ scal1 z = true) (key : Nat)
    (x : AV) (v1 : Value) (h1 : Rep (Lof H bm) X nx w false x v1) {φ : Nat}
    {v : AV} {H' : Heap} {nx' : Ctr} (h : opK (.mk z i.bytes key) [x] H nx φ (fun v H nx => some (v, H, nx)) none = some (v, H', nx')) : OK P w0 O X bm H nx w (Instr.makeSlice t v1 v1) v H' nx' := by
  simp only [opK] at h
  split at h
  · rename_i n
    cases h1
    split at h
    · rename_i hc
      obtain ⟨h0, hb, hn⟩ := hc
      have hb : n * (i.bytes : Int) ≤ 1099511627776 := hb
      simp only [Option.some.injEq, Prod.mk.injEq] at h; obtain ⟨rfl, rfl, rfl⟩ := h
      have hrun := run_make (P := P) w t e i zv ht hi hz .i64 .i64 n n h0 (Int.le_refl _) (by rw [Int.mul_comm]; omega) (by omega)
      rw [hs1, Nat.mul_one] at hrun
      have hcell : ∀ j, j < n.toNat → (madeCells zv.cells n.toNat).getD j undef = zv.cells.getD 0 undef := by
        intro j hj
        simp [madeCells, hj, hzl, Nat.mod_one]
      refine OK.new r (vs := madeCells zv.cells n.toNat) (E := e) hrun rfl rfl rfl rfl (by simp [size_madeCells]) (fun j y hj => ?_) (.sl (by simp [bump]) (Nat.le_refl _) ?_)
      · have hj' : j < n.toNat := by have := (List.getElem?_eq_some_iff.1 hj).1; simpa using this
        simp [hj'] at hj
        subst hj
        rw [hcell j hj']
        exact ⟨hzr.1 _ _ _ _ _, one_of_scal1 (hzr.1 (Lof H bm) X nx w false) hzr.2⟩
      · rintro b ⟨_, rfl⟩
        rw [bset_same]
        exact ⟨fun _ => by simp, by simp only [maxLen]; omega, madeCells zv.cells n.toNat, e, heap_alloc_new w _, by simp [size_madeCells]⟩
    · cases h
  · cases h
theorem keyIn_mem {f d : Nat} : ∀ {ids : List (Nat × Nat)}, keyIn ids f d = false → (f, d) ∉ ids
  | [], _ => by simp
  | (f', d') :: ids, h => by
    simp only [keyIn] at h
    split at h
    · cases h
    · rename_i e
      intro hm
      rcases List.mem_cons.1 hm with hm | hm
      · simp at hm; exact e ⟨hm.2.symm, hm.1.symm⟩
      · exact keyIn_mem h hm
theorem find_kill0 (ids : List (Nat × Nat)) : ∀ (H : Heap) (f d g : Nat) (b : Option (List AV)), find (kill ids H) f d = some (g, b) → find H f d = some (g, b) ∧ keyIn ids f d = false
  | [], f, d, g, b, h => by simp [kill, find] at h
  | (f1, d1, g1, b1) :: H, f, d, g, b, h => by
    simp only [kill] at h
    split at h
    · rename_i hk
      obtain ⟨h2, h3⟩ := find_kill0 ids H f d g b h
      refine ⟨?_, h3⟩
      simp only [find]
      rw [if_neg (fun e => by obtain ⟨rfl, rfl⟩ := e; rw [hk] at h3; cases h3)]
      exact h2
    · rename_i hk
      simp only [find] at h ⊢
      split at h
      · rename_i e
        rw [if_pos e]
        obtain ⟨rfl, rfl⟩ := e
        exact ⟨h, by simpa using hk⟩
      · rename_i e
        rw [if_neg e]
        exact find_kill0 ids H f d g b h
theorem find_kill (ids : List (Nat × Nat)) (H : Heap) (f d g : Nat) (cs : List AV) (h : find (kill ids H) f d = some (g, some cs)) : find H f d = some (g, some cs) ∧ (f, d) ∉ ids :=
  ⟨(find_kill0 ids H f d g _ h).1, keyIn_mem (find_kill0 ids H f d g _ h).2⟩
theorem find_kill_gen (ids : List (Nat × Nat)) (H : Heap) (f d g : Nat) (b : Option (List AV)) (h : find (kill ids H) f d = some (g, b)) : ∃ b', find H f d = some (g, b') := ⟨b, (find_kill0 ids H f d g b h).1⟩
theorem Rel.kill (r : Rel w0 O X bm H nx w) (ids : List (Nat × Nat)) : Rel w0 O X bm (Ev.kill ids H) nx w ∧ Move (Lof H bm) nx w (Lof (Ev.kill ids H) bm) nx w := by
  have sub : ∀ f d g b, Lof (Ev.kill ids H) bm f d g b → Lof H bm f d g b := by
    rintro f d g b ⟨⟨cs, h⟩, rfl⟩
    exact Lof.mk (find_kill ids _ _ _ _ _ h).1
  have m : Move (Lof H bm) nx w (Lof (Ev.kill ids H) bm) nx w :=
    ⟨fun _ => Nat.le_refl _, Nat.le_refl _, fun f d g b h _ => sub _ _ _ _ h, fun f d g b h _ => .inr ⟨f, d, g, sub _ _ _ _ h⟩, fun _ _ h _ => h, fun _ _ _ _ vs _ _ _ h => ⟨vs, h, rfl⟩⟩
  refine ⟨⟨?_, ?_, ?_, ?_, r.os, r.tape, r.output, r.size, r.keep, r.xlt⟩, m⟩
  · intro f d g cs h
    obtain ⟨vs, E, h1, h2, h3⟩ := r.blk _ _ _ _ (find_kill ids _ _ _ _ _ h).1
    exact ⟨vs, E, h1, h2, fun j x hx => ⟨(h3 j x hx).1.move m, (h3 j x hx).2⟩⟩
  · intro f d g cs f' d' g' cs' h h'
    exact r.inj _ _ _ _ _ _ _ _ (find_kill ids _ _ _ _ _ h).1 (find_kill ids _ _ _ _ _ h').1
  · intro f d g b h
    obtain ⟨b', h'⟩ := find_kill_gen ids _ _ _ _ _ h
    exact r.gen _ _ _ _ h'
  · intro f d g cs h
    exact r.own _ _ _ _ (find_kill ids _ _ _ _ _ h).1


/-- A block of which the abstract heap tells nothing may change its mark. -/
theorem Rel.mark (r : Rel w0 O X bm H nx w) {w' : World} {b : Nat} (hos : w'.os = w.os) (htape : w'.tape = w.tape) (hout : w'.output = w.output) (hsize : w'.heap.size = w.heap.size)
    (hother : ∀ b', b' ≠ b → w'.heap[b']? = w.heap[b']?) (hcell : ∀ a u, w.cell? a = some u → w'.cell? a = some u) (hb : w0.heap.size ≤ b ∨ O b) (hL : ∀ f d g, ¬ Lof H bm f d g b) :
    Rel w0 O X bm H nx w' ∧ Move (Lof H bm) nx w (Lof H bm) nx w' := by
  have hne : ∀ f1 d1 g1 cs1, find H f1 d1 = some (g1, some cs1) → bm f1 d1 ≠ b := by
    intro f1 d1 g1 cs1 h e
    exact hL f1 d1 g1 (by rw [← e]; exact Lof.mk h)
  have m : Move (Lof H bm) nx w (Lof H bm) nx w' := by
    refine ⟨fun _ => Nat.le_refl _, Nat.le_of_eq hsize.symm, fun _ _ _ _ h _ => h, fun f d g b h _ => .inr ⟨f, d, g, h⟩, fun a u hc _ => hcell a u hc, ?_⟩
    rintro f d g b' vs E ⟨⟨cs, h⟩, rfl⟩ _ hbb
    exact ⟨vs, by rw [hother _ (hne _ _ _ _ h)]; exact hbb, rfl⟩
  refine ⟨⟨?_, r.inj, r.gen, r.own, hos.trans r.os, htape.trans r.tape, hout.trans r.output, by rw [hsize]; exact r.size, ?_, r.xlt⟩, m⟩
  · intro f d g cs h
    obtain ⟨vs, E, h1, h2, h3⟩ := r.blk _ _ _ _ h
    exact ⟨vs, E, by rw [hother _ (hne _ _ _ _ h)]; exact h1, h2, fun j x hx => ⟨(h3 j x hx).1.move m, (h3 j x hx).2⟩⟩
  · intro b' hb' hO
    rw [hother b' (fun e => by subst e; exact hb.elim (fun h => by omega) hO)]
    exact r.keep b' hb' hO
theorem freeze_heap (w : World) (a : Addr) (b : Nat) (h : b ≠ a.block) : (w.freeze a 1).heap[b]? = w.heap[b]? := by
  simp only [World.freeze, if_neg (show ¬ (1 : Nat) = 0 by omega), Array.getElem?_modify]
  rw [if_neg (fun e => h e.symm)]
theorem freeze_cell (w : World) (a p : Addr) {u : Value} (h : w.cell? p = some u) : (w.freeze a 1).cell? p = some u := by
  by_cases e : p.block = a.block
  · unfold World.cell? at h ⊢
    simp only [World.freeze, if_neg (show ¬ (1 : Nat) = 0 by omega), Array.getElem?_modify, e, if_true]
    rw [e] at h
    cases hb : w.heap[a.block]? with
    | none => rw [hb] at h; cases h
    | some o => rw [hb] at h; cases o <;> simp_all
  · rw [World.cell?_of_block (w := w) (freeze_heap w a _ e)]; exact h
theorem ok_s2s (r : Rel w0 O X bm H nx w) (src e : TypeId) (hs : P.underlying src = some (.slice e)) (he : P.underlying e = some (.int .u8)) (x : AV) (v1 : Value) (h1 : Rep (Lof H bm) X nx w false x v1) {φ : Nat}
    {v : AV} {H' : Heap} {nx' : Ctr} (h : opK .s2s [x] H nx φ (fun v H nx => some (v, H, nx)) none = some (v, H', nx')) : OK P w0 O X bm H nx w (convert src src v1) v H' nx' := by
  simp only [opK] at h
  split at h
  · rename_i f d g sz off len
    rw [getB_find] at h
    split at h
    · rename_i g' cs hf
      split at h
      · rename_i hg
        subst hg
        split at h
        · rename_i hc
          obtain ⟨rfl, hpos, hle, hbytes⟩ := hc
          simp only [Option.some.injEq, Prod.mk.injEq] at h; obtain ⟨rfl, rfl, rfl⟩ := h
          cases h1 with
          | @sl _ _ _ _ _ _ a c hg2 hl hh =>
            obtain ⟨k1, k2, vs1, E1, k3, k4⟩ := hh _ (Lof.mk hf)
            obtain rfl := k1 (by omega)
            obtain ⟨vs, E, hb, hle2, hrep⟩ := r.blk _ _ _ _ hf
            have hblk : bm f d < w.heap.size := by
              rcases Nat.lt_or_ge (bm f d) w.heap.size with h5 | h5
              · exact h5
              · rw [Array.getElem?_eq_none h5] at hb; cases hb
            obtain ⟨rk, mk⟩ := r.kill [(f, d)]
            have hno : ∀ f1 d1 g1, ¬ Lof (Ev.kill [(f, d)] H) bm f1 d1 g1 (bm f d) := by
              rintro f1 d1 g1 ⟨⟨cs1, h5⟩, h6⟩
              obtain ⟨h7, h8⟩ := find_kill _ _ _ _ _ _ h5
              obtain ⟨rfl, rfl⟩ := r.inj _ _ _ _ _ _ _ _ hf h7 h6
              exact h8 (List.mem_cons_self)
            obtain ⟨rr, mm⟩ := rk.mark (w' := w.freeze ⟨bm f d, vs.size, none⟩ 1) (b := bm f d) rfl rfl rfl (by simp [World.freeze]) (fun b' hb' => freeze_heap w _ b' hb') (fun a u => freeze_cell w _ a) (r.own _ _ _ _ hf).1 hno
            have hsh : w.shape? (bm f d) = some (E, vs.size) := by simp [World.shape?, hb]
            refine ⟨.slice (some ⟨bm f d, off * 1, none⟩) len c, w.freeze ⟨bm f d, vs.size, none⟩ 1, bm, ?_, rr, ⟨mk.hnx, mm.size, fun f d g b h hg => mk.old _ _ _ _ (mm.old _ _ _ _ h hg) hg, fun f d g b h hg => .inr ⟨f, d, g, mk.old _ _ _ _ h (by obtain ⟨⟨cs, h⟩, _⟩ := h; exact rk.gen _ _ _ _ h)⟩, fun a u hc _ => freeze_cell w _ a hc, ?_⟩, ?_⟩
            · simp [convert, run_underlying hs, run_underlying he, markStringish, hsh]
            · intro f1 d1 g1 b1 vs2 E2 hL hg3 hb2
              exact mm.blk _ _ _ _ _ _ hL hg3 hb2
            · have hlen : ((cs.drop off).take len).length = len := by simp; omega
              have hsl : (Value.slice (some ⟨bm f d, off * 1, none⟩) len c) = .slice (some ⟨bm f d, off * 1, none⟩) ((cs.drop off).take len).length c := by rw [hlen]
              rw [hsl]
              have hget : ∀ (q : Nat) y, ((cs.drop off).take len)[q]? = some y → q < len ∧ cs[off + q]? = some y ∧ ∃ n, y = .int .u8 n := by
                intro q y hq
                have hq' : q < len := by have := (List.getElem?_eq_some_iff.1 hq).1; omega
                have hm : y ∈ (cs.drop off).take len := List.mem_of_getElem? hq
                have h5 := List.all_eq_true.1 hbytes y hm
                rw [List.getElem?_take_of_lt hq', List.getElem?_drop] at hq
                refine ⟨hq', hq, ?_⟩
                split at h5
                · exact ⟨_, rfl⟩
                · cases h5
              have hlt : ∀ q, q < len → off + q < vs.size := by intro q hq; omega
              refine .fz (fun i _ => vs.getD (off + i) undef) (fun e => by rw [e] at hlen; simp at hlen; omega) (by omega) (by simp) (fun i y hi => ?_) (fun i y j z hi hj => ?_) (fun i y j z hi hj => ?_) (fun i y j z hi hj => ?_) ⟨hno, (r.own _ _ _ _ hf).2, by simpa [World.freeze] using hblk⟩
              · obtain ⟨_, _, n, rfl⟩ := hget i y hi; rfl
              · obtain ⟨h5, h6, n, rfl⟩ := hget i y hi
                cases j with
                | succ j => simp [cells] at hj
                | zero =>
                  rw [add_mk]
                  refine freeze_cell w _ _ ?_
                  rw [cell_of_row w _ _ vs E _ hb, Nat.mul_one, Nat.mul_one, Nat.add_zero]
                  exact getD_of _ _ (hlt i h5)
              · obtain ⟨h5, h6, n, rfl⟩ := hget i y hi
                cases j with
                | succ j => simp [cells] at hj
                | zero =>
                  simp [cells] at hj; subst hj
                  have h7 := (hrep _ _ h6).1
                  show Rep _ _ _ _ _ _ (vs.getD (off + i) undef)
                  generalize vs.getD (off + i) undef = u at h7 ⊢
                  cases h7; exact .int
              · obtain ⟨h5, h6, n, rfl⟩ := hget i y hi
                exact (hrep _ _ h6).2
        · cases h
      · cases h
    · cases h
  · cases h
theorem ok_ixA1 (r : Rel w0 O X bm H nx w) (t e : TypeId) (len : Nat) (ht : P.underlying t = some (.array len e)) (i : TypeInfo) (hi : P.info? e = some i) (hs : i.size = 1) (D : TypeDesc) (hte : P.underlying e = some D) (hD : aggD D = false) (x y : AV) (v1 v2 : Value) (h1 : Rep (Lof H bm) X nx w false x v1) (h2 : Rep (Lof H bm) X nx w false y v2) {φ : Nat}
    {v : AV} {H' : Heap} {nx' : Ctr} (h : opK (.ixA1 len) [x, y] H nx φ (fun v H nx => some (v, H, nx)) none = some (v, H', nx')) : OK P w0 O X bm H nx w (Instr.index t v1 v2) v H' nx' := by
  simp only [opK] at h
  split at h
  · rename_i cs k n
    cases h2
    split at h
    · rename_i hn
      split at h
      · rename_i c hc
        simp at h; obtain ⟨rfl, rfl, rfl⟩ := h
        cases h1 with
        | agg hl hr =>
          rename_i vs
          have hlt := (List.getElem?_eq_some_iff.1 hc).1
          have hagg : (isAgg e).run P w = .ok false w := by
            simp only [isAgg, Sem.run_bind, run_underlying hte, Result.andThen_ok]
            cases D <;> simp [aggD] at hD ⊢
          refine OK.same r ?_ (hr _ _ hc)
          have hv : vs[n.toNat]? = some (vs.getD n.toNat undef) := getD_of _ _ (by omega)
          simp only [Instr.index, asIntOf, Sem.run_bind, Sem.run_pure, run_underlying ht, Result.andThen_ok, if_pos hn, run_sizeOf hi, hs, Nat.mul_one, part, hagg, Bool.false_eq_true, if_false, hv]
      · cases h
    · cases h
  · cases h
theorem ok_bldA (r : Rel w0 O X bm H nx w) (t : TypeId) (i : TypeInfo) (hi : P.info? t = some i) (zv : Value) (hz : i.zero = some zv) (z : List AV) (hzl : z.length = zv.cells.size) (hzr : ∀ (j : Nat) x, z[j]? = some x → Closed x (zv.cells.getD j undef) ∧ scal1 x = true)
    (len : Nat) (e : TypeId) (ht : P.underlying t = some (.array len e)) (ie : TypeInfo) (hie : P.info? e = some ie) (h0 : ie.size ≠ 0) (is : List Nat)
    (xs : List AV) (vals : List Value) (hx : Reps (Lof H bm) X nx w false xs vals) {φ : Nat}
    {v : AV} {H' : Heap} {nx' : Ctr} (h : opK (.bld z (is.map fun q => (q * ie.size, ie.size))) xs H nx φ (fun v H nx => some (v, H, nx)) none = some (v, H', nx')) : OK P w0 O X bm H nx w (Instr.build t (is.zip vals).toArray) v H' nx' := by
  simp only [opK] at h
  have hzc : Reps (Lof H bm) X nx w false z zv.cells.toList := Reps.of _ _ (by simp [hzl]) (fun j x hj => by have := (hzr j x hj).1 (Lof H bm) X nx w false; simpa [List.getD] using this)
  obtain ⟨out, cs', g1, g2, g3⟩ := fill_ok (fun q => some (q * ie.size, ie.size)) (is.map fun q => (q * ie.size, ie.size)) is xs vals z zv.cells (by simp) (fun k q hq => by simp [hq]) (fun q hq => by obtain ⟨q', _, rfl⟩ := List.mem_map.1 hq; exact h0) hx hzc h
  simp only [Option.some.injEq, Prod.mk.injEq] at g2; obtain ⟨rfl, rfl, rfl⟩ := g2
  have hzrun : (zeroValue t).run P w = .ok zv w := by simp [zeroValue, typeInfo, hi, hz]
  refine OK.same r (v' := .agg out) ?_ (.agg (by have := g3.len; simpa using this) (fun j x hj => by have := g3.get j x hj; simpa [List.getD] using this))
  simp only [Instr.build, Sem.run_bind, hzrun, Result.andThen_ok, run_underlying ht, run_sizeOf hie, g1, Sem.run_pure]

/-- What freezes with no heap at hand freezes with any. -/
theorem mapF_nil {n : Nat} (ih : ∀ (H : Heap) (v : AV) {α : Type} (ok : AV → List (Nat × Nat) → Option α) (r : α), frzK n [] v ok none = some r → frzK n H v ok none = some r) (H : Heap) : ∀ (l : List AV) {α : Type} (ok : List AV → List (Nat × Nat) → Option α) (r : α), mapK (frzK n []) l ok none = some r → mapK (frzK n H) l ok none = some r
  | [], α, ok, r, h => h
  | a :: l, α, ok, r, h => by
    simp only [mapK] at h ⊢
    have h1 := ih H a _ _ h
    have e := frzK_nat n H (fun x : Option (AV × List (Nat × Nat)) => match x with | some (v, i) => mapK (frzK n []) l (fun cs' j => ok (v :: cs') (i ++ j)) none | none => none) a (fun v i => some (v, i)) none
    have e2 := frzK_nat n H (fun x : Option (AV × List (Nat × Nat)) => match x with | some (v, i) => mapK (frzK n H) l (fun cs' j => ok (v :: cs') (i ++ j)) none | none => none) a (fun v i => some (v, i)) none
    simp only at e e2
    rw [← e] at h1
    rw [← e2]
    cases hq : frzK n H a (fun v i => some (v, i)) none with
    | none => rw [hq] at h1; cases h1
    | some q => obtain ⟨v, i⟩ := q; rw [hq] at h1; exact mapF_nil ih H l _ _ h1
theorem frzK_nil : ∀ (n : Nat) (H : Heap) (v : AV) {α : Type} (ok : AV → List (Nat × Nat) → Option α) (r : α), frzK n [] v ok none = some r → frzK n H v ok none = some r
  | 0, _, _, _, _, _, h => by cases h
  | n + 1, H, v, α, ok, r, h => by
    have ih := fun (l : List AV) (ok : List AV → List (Nat × Nat) → Option α) (r : α) => mapF_nil (fun H v α ok r => frzK_nil n H v ok r) H l ok r
    cases v <;> simp only [frzK] at h ⊢ <;> first | exact h | exact ih _ _ _ h | exact frzK_nil n H _ _ _ h | skip
    case ptr =>
      split at h
      · simp only [getB] at h; cases h
      · cases h
    case sl => simp only [getB] at h; cases h
theorem ok_litr (r : Rel w0 O X bm H nx w) (t e : TypeId) (ht : P.underlying t = some (.slice e)) (i : TypeInfo) (hi : P.info? e = some i) (z : Value) (hz : i.zero = some z) (h0 : i.size ≠ 0) (len : Nat) (hbig : len * i.size ≤ 16777216) (xs : List AV) (vals : List Value) (hx : Reps (Lof H bm) X nx w false xs vals) {φ : Nat}
    {v : AV} {H' : Heap} {nx' : Ctr} (h : opK (.litr i.size len) xs H nx φ (fun v H nx => some (v, H, nx)) none = some (v, H', nx')) : OK P w0 O X bm H nx w (Instr.buildSlice t len ((List.range len).zip vals).toArray) v H' nx' := by
  refine ok_lit r t e ht i hi z hz h0 len hbig xs vals hx (φ := φ) ?_
  simp only [opK] at h ⊢
  split at h
  · rename_i hc
    rw [if_pos hc]
    exact mapF_nil (fun H v α ok r => frzK_nil 9 H v ok r) H xs _ _ h
  · cases h
end
end Go.Ev
/- Operations, fifth part: a store that freezes, a cut past the length, clear. -/
namespace Go.Ev
open Go.RowKit
set_option linter.unusedVariables false
set_option linter.unusedSimpArgs false
set_option linter.unusedSectionVars false

theorem Move.trans {L L1 L2 : Loc} {nx nx1 nx2 : Ctr} {w w1 w2 : World} (a : Move L nx w L1 nx1 w1) (b : Move L1 nx1 w1 L2 nx2 w2) : Move L nx w L2 nx2 w2 := by
  refine ⟨fun e => Nat.le_trans (a.hnx e) (b.hnx e), Nat.le_trans a.size b.size, fun f d g c h hg => a.old _ _ _ _ (b.old _ _ _ _ h (Nat.lt_of_lt_of_le hg (a.hnx _))) hg, fun f d g c h hg => ?_, fun p u hc hL => ?_, fun f d g c vs E h hg hb => ?_⟩
  · by_cases h1 : g < nx1 d
    · exact a.new _ _ _ _ (b.old _ _ _ _ h h1) hg
    · rcases b.new _ _ _ _ h (by omega) with h2 | ⟨f', d', g', h2⟩
      · exact .inl (Nat.le_trans a.size h2)
      · by_cases h3 : g' < nx d'
        · exact .inr ⟨_, _, _, a.old _ _ _ _ h2 h3⟩
        · exact a.new _ _ _ _ h2 (by omega)
  · exact b.cell p u (a.cell p u hc hL) (a.avoid (World.block_lt_of_cell? w p hc) hL)
  · obtain ⟨vs1, h1, h2⟩ := a.blk _ _ _ _ _ _ (b.old _ _ _ _ h (Nat.lt_of_lt_of_le hg (a.hnx _))) hg hb
    obtain ⟨vs2, h3, h4⟩ := b.blk _ _ _ _ _ _ h (Nat.lt_of_lt_of_le hg (a.hnx _)) h1
    exact ⟨vs2, h3, h4.trans h2⟩


section
variable {P : Program} {w0 : World} {O X : Nat → Prop} {bm : Nat → Nat → Nat} {H : Heap} {nx : Ctr} {w : World}

theorem ok_stf (r : Rel w0 O X bm H nx w) (t : TypeId) (i : TypeInfo) (hi : P.info? t = some i) (x y : AV) (v1 v2 : Value) (h1 : Rep (Lof H bm) X nx w false x v1) (h2 : Rep (Lof H bm) X nx w false y v2) (h0 : i.size ≠ 0) {φ : Nat}
    {v : AV} {H' : Heap} {nx' : Ctr} (h : opK (.stf i.size) [x, y] H nx φ (fun v H nx => some (v, H, nx)) none = some (v, H', nx')) :
    ∃ w' bm', (Instr.storeAt t v1 v2).run P w = .ok () w' ∧ Rel w0 O X bm' H' nx' w' ∧ Move (Lof H bm) nx w (Lof H' bm') nx' w' ∧ v = .any := by
  simp only [opK] at h
  obtain ⟨v', ids, h, g1, g2⟩ := frz_ok r 9 y v2 _ _ h2 h
  obtain ⟨rk, mk⟩ := r.kill ids
  have hrep : Rep (Lof (kill ids H) bm) X nx w false v' v2 := by
    refine (g2 _ nx ?_).weak
    rintro f d g b ⟨⟨cs, hcs⟩, rfl⟩
    obtain ⟨k1, k2⟩ := find_kill ids H f d g cs hcs
    exact ⟨Lof.mk k1, k2⟩
  obtain ⟨w', bm', e1, e2, e3, e4⟩ := ok_st rk t i hi x v' v1 v2 (h1.move mk) hrep h0 (φ := φ) (v := v) (H' := H') (nx' := nx') (by simp only [opK]; exact h)
  exact ⟨w', bm', e1, e2, mk.trans e3, e4⟩
theorem ok_slcx (r : Rel w0 O X bm H nx w) (t e : TypeId) (ht : P.underlying t = some (.slice e)) (i : TypeInfo) (hi : P.info? e = some i) (h0 : i.size ≠ 0) (lo hi_ mx : Bool) (x : AV) (v1 : Value) (h1 : Rep (Lof H bm) X nx w false x v1) (xs : List AV) (vs : List Value) (hv : Reps (Lof H bm) X nx w false xs vs) {φ : Nat}
    {v : AV} {H' : Heap} {nx' : Ctr} (h : opK (.slcx i.size lo hi_ mx) (x :: xs) H nx φ (fun v H nx => some (v, H, nx)) none = some (v, H', nx')) :
    OK P w0 O X bm H nx w (Instr.sliceAt t v1 (bounds lo hi_ mx vs).1 (bounds lo hi_ mx vs).2.1 (bounds lo hi_ mx vs).2.2) v H' nx' := by
  simp only [opK] at h
  have hrun0 : ∀ a len c l hh m, (Instr.sliceBounds true len c (bounds lo hi_ mx vs).1 (bounds lo hi_ mx vs).2.1 (bounds lo hi_ mx vs).2.2).run P w = .ok (l, hh, m) w →
      (Instr.sliceAt t (.slice a len c) (bounds lo hi_ mx vs).1 (bounds lo hi_ mx vs).2.1 (bounds lo hi_ mx vs).2.2).run P w = .ok (.slice (if m = l then a else a.map (·.add (l * i.size))) (hh - l) (m - l)) w := by
    intro a len c l hh m hb
    simp [Instr.sliceAt, Instr.slice, run_underlying ht, hb, run_sizeOf hi]
  split at h
  case h_2 => cases h
  rename_i f d g sz' off len
  split at h
  case isFalse => cases h
  rename_i hsz
  subst hsz
  rw [getB_find] at h
  split at h
  case h_2 => cases h
  rename_i g' cs hf
  split at h
  case isFalse => cases h
  rename_i hg'
  subst hg'
  cases h1 with
  | sl hg hl hh1 =>
    rename_i a c
    obtain ⟨q1, q2, vs1, E1, q3, q4⟩ := hh1 _ (Lof.mk hf)
    obtain ⟨vs0, E0, hb0, hle0, _⟩ := r.blk _ _ _ _ hf
    rw [hb0] at q3; simp only [Option.some.injEq, Obj.cells.injEq] at q3; obtain ⟨rfl, rfl, _⟩ := q3
    have hcap : max len (cs.length / i.size - off) ≤ c := by
      have : cs.length / i.size ≤ off + c := by
        have h5 : cs.length ≤ (off + c) * i.size := by omega
        calc cs.length / i.size ≤ ((off + c) * i.size) / i.size := Nat.div_le_div_right h5
          _ = off + c := Nat.mul_div_cancel _ (by omega)
      omega
    obtain ⟨l, hh, m, hrun, h9, h2, h3, h4, h5⟩ := cut_run (P := P) true len (max len (cs.length / i.size - off)) c lo hi_ mx xs vs hv hcap (by omega) h
    have hrun := hrun0 (some a) _ _ _ _ _ hrun
    clear h
    split at h9
    · rename_i hmx
      simp only [Option.some.injEq, Prod.mk.injEq] at h9; obtain ⟨rfl, rfl, rfl⟩ := h9
      exact OK.same r hrun .any
    · rename_i hmx
      have hmx' : mx = false := by simpa using hmx
      subst hmx'
      have hb := bounds_mx lo hi_ vs
      obtain rfl := h5 rfl
      simp at h9; obtain ⟨rfl, rfl, rfl⟩ := h9
      have hgd : (none : Option Nat).getD c = c := rfl
      rw [hgd] at hrun
      refine OK.same r hrun ?_
      have hA : ∀ q, (if q = l then some a else Option.map (fun x => x.add (l * i.size)) (some a)) = some (if q = l then a else a.add (l * i.size)) := by intro q; split <;> rfl
      rw [hA]
      refine .sl hg (by simp; omega) (fun b hb => ?_)
      obtain ⟨k1, k2, vs1, E, k3, k4⟩ := hh1 b hb
      refine ⟨fun hc => ?_, by omega, vs1, E, k3, ?_⟩
      · rw [if_neg (by omega), k1 (by omega), add_mk, Nat.add_mul]
      · rw [← k4]; congr 1; omega
theorem ok_clr (r : Rel w0 O X bm H nx w) (t e ty : TypeId) (ht : P.underlying t = some (.slice e)) (i : TypeInfo) (hi : P.info? e = some i) (zv : Value) (hz : i.zero = some zv) (hzs : zv.cells.size = i.size) (hz1 : ∀ v ∈ zv.cells.toList, v.oneCell' = true) (x : AV) (v1 : Value) (h1 : Rep (Lof H bm) X nx w false x v1) {φ : Nat}
    {v : AV} {H' : Heap} {nx' : Ctr} (h : opK (.clr i.size) [x] H nx φ (fun v H nx => some (v, H, nx)) none = some (v, H', nx')) :
    OK P w0 O X bm H nx w (Builtin.clear_ #[t] ty #[v1]) v H' nx' := by
  simp only [opK] at h
  split at h
  case h_2 => cases h
  rename_i f d g sz' off len
  split at h
  case isFalse => cases h
  rename_i hc
  obtain ⟨rfl, hlen⟩ := hc
  rw [getB_find] at h
  split at h
  case h_2 => cases h
  rename_i g' cs hf
  split at h
  case isFalse => cases h
  rename_i hg'
  subst hg'
  split at h
  case isFalse => cases h
  rename_i hle
  simp only [Option.some.injEq, Prod.mk.injEq] at h; obtain ⟨rfl, rfl, rfl⟩ := h
  cases h1 with
  | sl hg hl hh1 =>
    rename_i a c
    obtain ⟨q1, q2, vs1, E1, q3, q4⟩ := hh1 _ (Lof.mk hf)
    obtain ⟨vs, E, hb, hle0, hrep⟩ := r.blk _ _ _ _ hf
    rw [hb] at q3; simp only [Option.some.injEq, Obj.cells.injEq] at q3; obtain ⟨rfl, rfl, _⟩ := q3
    obtain rfl := q1 (by omega)
    have hmul := Nat.add_mul off len i.size
    have hzl : (Builtin.zeroCells zv.cells len).toList.length = len * i.size := by rw [Array.length_toList, zero_size, hzs]
    have hzo : ∀ u ∈ (Builtin.zeroCells zv.cells len).toList, u.oneCell' = true := by
      intro u hu
      have hu' : u ∈ Builtin.zeroCells zv.cells len := Array.mem_toList_iff.1 hu
      simp only [Builtin.zeroCells] at hu'
      obtain ⟨k, hk, rfl⟩ := Array.mem_map.1 hu'
      have hk1 : k < len * zv.cells.size := by simpa using hk
      have hpos : 0 < zv.cells.size := by
        rcases Nat.eq_zero_or_pos zv.cells.size with h5 | h5
        · rw [h5] at hk1; omega
        · exact h5
      have hlt : k % zv.cells.size < zv.cells.size := Nat.mod_lt _ hpos
      rw [getElem!_pos zv.cells (k % zv.cells.size) hlt]
      exact hz1 _ (Array.mem_toList_iff.2 (Array.getElem_mem hlt))
    have hst := run_storeCells_at P (bm f d) (off * i.size) E (Builtin.zeroCells zv.cells len).toList 0 vs w hb (by rw [hzl]; omega) hzo
    simp only [Nat.add_zero] at hst
    have hrun : (Builtin.clear_ #[t] ty #[.slice (some ⟨bm f d, off * i.size, none⟩) len c]).run P w = .ok (.tuple #[]) (w.setRow (bm f d) (vs.toList.take (off * i.size) ++ (Builtin.zeroCells zv.cells len).toList ++ vs.toList.drop (off * i.size + (Builtin.zeroCells zv.cells len).toList.length)).toArray) := by
      cases len with
      | zero => omega
      | succ n => simp [Builtin.clear_, run_underlying ht, zeroValue, typeInfo, hi, hz, hst]
    have := r.set (w' := w.setRow (bm f d) (vs.toList.take (off * i.size) ++ (Builtin.zeroCells zv.cells len).toList ++ vs.toList.drop (off * i.size + (Builtin.zeroCells zv.cells len).toList.length)).toArray) (f := f) (d := d) (g' := g') (nx' := nx) (b' := bm f d)
      (cs' := cs.take (off * i.size)) rfl rfl rfl (by simp) (fun b hb1 _ => setRow_other _ _ _ _ hb1) (setRow_heap _ _ _ _ _ _ hb) (.inr ⟨rfl, _, _, hf⟩)
      (.inr ⟨rfl, rfl, ⟨_, hf⟩, fun vs0 E0 h0 => by rw [hb] at h0; simp only [Option.some.injEq, Obj.cells.injEq] at h0; obtain ⟨rfl, rfl, _⟩ := h0; exact ⟨by rw [List.size_toArray, List.length_append, List.length_append, hzl, List.length_take, List.length_drop, Array.length_toList]; omega, rfl⟩⟩)
      (by have h5 : vs.toList.length = vs.size := Array.length_toList; rw [List.size_toArray, List.length_append, List.length_append, hzl, List.length_take, List.length_take, List.length_drop]; omega) ?_
    · exact ⟨_, _, _, hrun, this.1, this.2, .any⟩
    · intro j y hj
      have hjl : j < off * i.size := by have := (List.getElem?_eq_some_iff.1 hj).1; simp at this; omega
      rw [List.getElem?_take_of_lt hjl] at hj
      have := hrep _ _ hj
      have e1 : (vs.toList.take (off * i.size) ++ (Builtin.zeroCells zv.cells len).toList ++ vs.toList.drop (off * i.size + (Builtin.zeroCells zv.cells len).toList.length)).toArray.getD j undef = vs.getD j undef := by
        have e2 : ∀ l : List Value, l.toArray.getD j undef = (l[j]?).getD undef := by intro l; simp
        rw [e2, List.append_assoc, List.getElem?_append, List.length_take, Array.length_toList, if_pos (by omega), List.getElem?_take_of_lt hjl]
        simp
      rw [e1]; exact this
end
end Go.Ev
/- The compilation of operations, and that it is sound. -/
namespace Go.Ev
open Go.RowKit
set_option linter.unusedVariables false
set_option linter.unusedSimpArgs false
set_option linter.unusedSectionVars false

/-- Constants. -/
def ofV1 : Value → Option AV
  | .bool b => some (.bool b)
  | .int k n => some (.int k n)
  | .string s => some (.str s)
  | .pointer none => some .nilp
  | .slice none 0 0 => some .nils
  | .map none => some .nilm
  | .nilFunc => some .nilf
  | .nilIface => some .nili
  | _ => none
def ofVs : List Value → Option (List AV)
  | [] => some []
  | v :: vs => match ofV1 v, ofVs vs with
    | some x, some xs => some (x :: xs)
    | _, _ => none
def ofV : Value → Option AV
  | .agg cs => (ofVs cs.toList).map .agg
  | .iface t v => (ofV1 v).map (.ifc t)
  | v => ofV1 v
def arOf : Operand → Option AR
  | .tmp t => some (.t t)
  | .const v => (ofV v).map .c
  | .func f => some (.c (.func f []))
  | .global _ => none
def arsOf : List Operand → Option (List AR)
  | [] => some []
  | x :: xs => match arOf x, arsOf xs with
    | some a, some as => some (a :: as)
    | _, _ => none

theorem ofV1_closed {v : Value} {x : AV} (h : ofV1 v = some x) : Closed x v ∧ scal1 x = true := by
  unfold ofV1 at h
  split at h <;> simp at h <;> subst h <;> refine ⟨?_, rfl⟩ <;> intro L X nx w p
  · exact .bool
  · exact .int
  · exact .str
  · exact .nilp
  · exact .nils
  · exact .nilm
  · exact .nilf
  · exact .nili
theorem ofVs_closed : ∀ {vs : List Value} {xs : List AV}, ofVs vs = some xs → vs.length = xs.length ∧ ∀ (j : Nat) x, xs[j]? = some x → Closed x (vs.getD j undef) ∧ scal1 x = true
  | [], xs, h => by simp [ofVs] at h; subst h; exact ⟨rfl, by simp⟩
  | v :: vs, xs, h => by
    simp only [ofVs] at h
    split at h
    · rename_i x xs' h1 h2
      simp at h; subst h
      obtain ⟨i1, i2⟩ := ofVs_closed h2
      refine ⟨by simp [i1], fun j y hj => ?_⟩
      cases j with
      | zero => simp at hj; subst hj; simpa using ofV1_closed h1
      | succ j => simp at hj; simpa using i2 j y hj
    · cases h
theorem ofV_closed {v : Value} {x : AV} (h : ofV v = some x) : Closed x v := by
  unfold ofV at h
  split at h
  · rename_i cs
    cases h1 : ofVs cs.toList with
    | none => rw [h1] at h; cases h
    | some xs =>
      rw [h1] at h; simp at h; subst h
      obtain ⟨i1, i2⟩ := ofVs_closed h1
      intro L X nx w p
      exact .agg (by simpa using i1) (fun j y hj => by have := (i2 j y hj).1 L X nx w p; simpa [List.getD] using this)
  · rename_i t v
    cases h1 : ofV1 v with
    | none => rw [h1] at h; cases h
    | some y => rw [h1] at h; simp at h; subst h; intro L X nx w p; exact .ifc ((ofV1_closed h1).1 L X nx w p)
  · exact (ofV1_closed h).1

def szOf (P : Program) (t : TypeId) : Option Nat := (P.info? t).map (·.size)
def byOf (P : Program) (t : TypeId) : Nat := ((P.info? t).map (·.bytes)).getD 0
/-- A type's zero cells: as many as it has. -/
def zeroOf (P : Program) (t : TypeId) : Option (List AV) :=
  match P.info? t with
  | some i => match i.zero with
    | some z => if z.cells.size = i.size then ofVs z.cells.toList else none
    | none => none
  | none => none
def isAggOf (P : Program) (t : TypeId) : Option Bool :=
  match P.underlying t with
  | some (.struct _) | some (.array _ _) => some true
  | some _ => some false
  | none => none
def places (P : Program) (fs : Array Field) : List Nat → Option (List (Nat × Nat))
  | [] => some []
  | i :: is => match fs[i]?, places P fs is with
    | some f, some r => match szOf P f.type with
      | some n => if n = 0 then none else some ((f.offset, n) :: r)
      | none => none
    | _, _ => none
def sameOp : Operand → Operand → Bool
  | .tmp a, .tmp b => a == b
  | .const (.int k a), .const (.int k' b) => k == k' && a == b
  | _, _ => false
def isU8 (P : Program) (e : TypeId) : Bool := match P.underlying e with | some (.int .u8) => true | _ => false
def someList {α : Type} : Option α → List α
  | some a => [a]
  | none => []

/-- How a temporary is taken: 1: written through; 2: loads by it look at what nobody writes. -/
def takes (M : Nat → Nat) (d : Option Nat) (n : Nat) : Bool := match d with | some d => M d == n | none => false
/-- 3: a store by this very temporary is to the row that it got when it was made; 100000 + k: it leads to the row k. -/
def keyOf (M : Nat → Nat) (a : Operand) : Option Nat := match a with | .tmp i => if M i = 3 then some i else if 100000 ≤ M i then some (M i - 100000) else none | _ => none
/-- 5: what is stored by this temporary nobody writes any more. -/
def stfOf (M : Nat → Nat) (a : Operand) : Bool := match a with | .tmp i => M i == 5 | _ => false
/-- An operation's kind and operands. M: which variables are written (by the temporary that leads to them), which loads look at what nobody writes; cm: how a function is called. -/
def compK (P : Program) (M : Nat → Nat) (cm : Nat → Nat) (o : Oper) : Option (AK × List Operand) :=
  match o.op with
  | .move x | .assign x => some (.mv, [x])
  | .pick c a b => some (.pick, [c, a, b])
  | .alloc t => match zeroOf P t, o.dst with
    | some z, some d => some (.new z d, [])
    | _, _ => none
  | .box t x => match o.dst with
    | some d => if M d = 1 then some (.boxm d, [x]) else some (.box, [x])
    | none => none
  | .build t ps => match P.underlying t with
    | some (.struct fs) => match zeroOf P t, places P fs (ps.toList.map Prod.fst) with
      | some z, some pl => if fs.all (fun f => (P.info? f.type).isSome) = true then some (.bld z pl, ps.toList.map Prod.snd) else none
      | _, _ => none
    | some (.array _ e) => match zeroOf P t, szOf P e with
      | some z, some n => if n = 0 then none else some (.bld z ((ps.toList.map Prod.fst).map fun q => (q * n, n)), ps.toList.map Prod.snd)
      | _, _ => none
    | _ => none
  | .buildSlice t len ps => match P.underlying t with
    | some (.slice e) => match szOf P e, zeroOf P e, o.dst with
      | some n, some _, some d => if n ≠ 0 ∧ len * n ≤ 16777216 ∧ ps.toList.map Prod.fst = List.range len then
          (if M d = 1 then some (.litm n len d, ps.toList.map Prod.snd) else if M d = 2 then some (.litr n len, ps.toList.map Prod.snd) else some (.lit n len, ps.toList.map Prod.snd)) else none
      | _, _, _ => none
    | _ => none
  | .load t a => match isAggOf P t, szOf P t with
    | some true, some n => if takes M o.dst 2 = true then (match keyOf M a with | some k => some (.ldnk n k, [a]) | none => some (.ldnr n, [a])) else some (.ldn n, [a])
    | some false, _ => if takes M o.dst 2 = true then (match keyOf M a with | some k => some (.ldk k, [a]) | none => some (.ld1r, [a])) else some (.ld1, [a])
    | _, _ => none
  | .store t a v => match szOf P t with
    | some n => if n = 0 then none else match keyOf M a with | some k => some (.stk n k, [a, v]) | none => if stfOf M a = true then some (.stf n, [a, v]) else some (.st n, [a, v])
    | none => none
  | .nilCheck x => some (.nck, [x])
  | .binOp op t x y _ => match P.underlying t with
    | some (.int _) | some .string => some (.bin op, [x, y])
    | some .bool => match op with | .eql => some (.eqb false, [x, y]) | .neq => some (.eqb true, [x, y]) | _ => none
    | some (.pointer _) => match op with | .eql => some (.eqp false, [x, y]) | .neq => some (.eqp true, [x, y]) | _ => none
    | some (.slice _) => match op with | .eql => some (.eqs false, [x, y]) | .neq => some (.eqs true, [x, y]) | _ => none
    | _ => none
  | .unOp u _ x => match u with | .not => some (.not, [x]) | .neg => some (.neg, [x]) | .xor => some (.cpl, [x]) | .plus => none
  | .convert src dst x => match P.underlying src, P.underlying dst with
    | some (.int _), some (.int k) => some (.conv k, [x])
    | some .string, some (.slice e) => if isU8 P e then some (.s2b, [x]) else none
    | some (.slice e), some .string => if isU8 P e then some (.b2s, [x]) else none
    | some (.slice e), some (.slice _) => if src = dst ∧ isU8 P e = true then some (.s2s, [x]) else none
    | _, _ => none
  | .makeInterface t x => match P.underlying t with
    | some (.interface _) => none
    | some _ => some (.ifc t, [x])
    | none => none
  | .makeFunc (.func f) first captured => if first.size = 0 then some (.mkf f, captured.toList) else none
  | .makeSlice t l c => match P.underlying t with
    | some (.slice e) => match szOf P e, zeroOf P e, o.dst with
      | some 1, some [z], some d => if sameOp l c then some (.mk z (byOf P e) d, [l]) else none
      | _, _, _ => none
    | _ => none
  | .slice t x lo hi mx => match P.underlying t with
    | some .string => if mx.isNone then some (.slcT lo.isSome hi.isSome, x :: (someList lo ++ someList hi)) else none
    | some (.slice e) => match szOf P e with
      | some n => if mx.isSome && hi.isNone then none else if takes M o.dst 4 && n != 0 then some (.slcx n lo.isSome hi.isSome mx.isSome, x :: (someList lo ++ someList hi ++ someList mx)) else some (.slc n lo.isSome hi.isSome mx.isSome, x :: (someList lo ++ someList hi ++ someList mx))
      | none => none
    | _ => none
  | .fieldAddr t x n => match P.underlying t with
    | some (.struct fs) => match fs[n]? with
      | some f => match szOf P f.type with
        | some s => if s = 0 then none else some (.fa f.offset, [x])
        | none => none
      | none => none
    | _ => none
  | .field t x n => match P.underlying t with
    | some (.struct fs) => match fs[n]? with
      | some f => match isAggOf P f.type, szOf P f.type with
        | some true, some s => some (.fldn f.offset s, [x])
        | some false, _ => some (.fld1 f.offset, [x])
        | _, _ => none
      | none => none
    | _ => none
  | .indexAddr t x i => match P.underlying t with
    | some (.slice e) => match szOf P e with
      | some n => if n = 0 then none else some (.ixS n, [x, i])
      | none => none
    | some (.array len e) => match szOf P e with
      | some n => some (.ixP len n, [x, i])
      | none => none
    | _ => none
  | .index t x i => match P.underlying t with
    | some .string => some (.ixT, [x, i])
    | some (.array len e) => match szOf P e, isAggOf P e with
      | some 1, some false => some (.ixA1 len, [x, i])
      | _, _ => none
    | _ => none
  | .extract x i => some (.ext i, [x])
  | .call c => match c.callee with
    | .value (.func f) => some (.call f (cm f), c.args.toList)
    | .value x => some (.callv 0, x :: c.args.toList)
    | .builtin b => match b, c.args.toList, c.argTypes.toList with
      | .len, [x], [t] => match P.underlying t with
        | some .string => some (.lenT, [x])
        | some (.slice _) => some (.len, [x])
        | _ => none
      | .append, [x, y], [t, t'] => if t = t' then match P.underlying t with
        | some (.slice e) => match szOf P e, zeroOf P e, o.dst with
          | some n, some _, some d => if n = 0 then none else if M d = 6 then some (.apn n (byOf P e) d, [x, y]) else some (.app n (byOf P e) d, [x, y])
          | _, _, _ => none
        | _ => none else match P.underlying t, P.underlying t', o.dst with
        | some (.slice e), some .string, some d => if szOf P e = some 1 ∧ byOf P e = 1 ∧ (zeroOf P e).isSome = true then some (.apps d, [x, y]) else none
        | _, _, _ => none
      | .clear, [x], [t] => match P.underlying t with
        | some (.slice e) => match szOf P e, zeroOf P e with
          | some n, some _ => some (.clr n, [x])
          | _, _ => none
        | _ => none
      | .min, [x, y], _ => some (.mn, [x, y])
      | .max, [x, y], _ => some (.mx, [x, y])
      | _, _, _ => none
    | .invoke _ _ => none
  | _ => none
def compOp (P : Program) (M : Nat → Nat) (cm : Nat → Nat) (ops : Array Oper) (o : Oper) : Option Op :=
  match compK P M cm o with
  | some (k, xs) => match arsOf xs with
    | some as => match o.guard with
      | none => some ⟨o.dst, none, k, as⟩
      | some (j, b) => match (ops[j]?).bind (·.dst) with
        | some t => some ⟨o.dst, some (t, b), k, as⟩
        | none => none
    | none => none
  | none => none

/-- The temporaries. -/
def TRel (L : Loc) (X : Nat → Prop) (nx : Ctr) (w : World) (t : List AV) (tmps : Array Value) : Prop := Reps L X nx w false t tmps.toList

section
variable {P : Program} {w0 : World} {O X : Nat → Prop} {bm : Nat → Nat → Nat} {H : Heap} {nx : Ctr} {w : World}

theorem getT_get : ∀ (t : List AV) (i : Nat), getT t i = (t[i]?).getD .any
  | [], i => by simp [getT]
  | a :: t, 0 => rfl
  | a :: t, i + 1 => by simp [getT, getT_get t i]
theorem TRel.get {L : Loc} {t : List AV} {tmps : Array Value} (h : TRel L X nx w t tmps) (i : Nat) : Rep L X nx w false (getT t i) (tmps.getD i undef) := by
  rw [getT_get]
  cases hi : t[i]? with
  | none => exact .any
  | some x => have := Reps.get h i x hi; simpa [List.getD] using this
theorem ev_rep {L : Loc} {t : List AV} {a : Act} (h : TRel L X nx w t a.tmps) {x : Operand} {r : AR} (hr : arOf x = some r) : Rep L X nx w false (ev t r) (a.eval x) := by
  cases x with
  | tmp i => simp [arOf] at hr; subst hr; exact h.get i
  | const v =>
    simp only [arOf] at hr
    cases h1 : ofV v with
    | none => rw [h1] at hr; cases hr
    | some y => rw [h1] at hr; simp at hr; subst hr; exact ofV_closed h1 _ _ _ _ _
  | global g => cases hr
  | func f => simp [arOf] at hr; subst hr; exact .func rfl (by simp)
theorem evs_rep {L : Loc} {t : List AV} {a : Act} (h : TRel L X nx w t a.tmps) : ∀ {xs : List Operand} {rs : List AR}, arsOf xs = some rs → Reps L X nx w false (evs t rs) (xs.map a.eval)
  | [], rs, hr => by simp [arsOf] at hr; subst hr; exact .nil
  | x :: xs, rs, hr => by
    simp only [arsOf] at hr
    split at hr
    · rename_i r rs' h1 h2
      simp at hr; subst hr
      exact .cons (ev_rep h h1) (evs_rep h h2)
    · cases hr

/-- What one operation, not a call, does. -/
def Done (P : Program) (w0 : World) (O X : Nat → Prop) (bm : Nat → Nat → Nat) (H : Heap) (nx : Ctr) (w : World) (s : Sem Next) (v : AV) (H' : Heap) (nx' : Ctr) : Prop :=
  ∃ n v' w' bm', s.run P w = .ok n w' ∧ (n = .value v' ∨ (n = .skip ∧ v' = undef)) ∧ Rel w0 O X bm' H' nx' w' ∧ Move (Lof H bm) nx w (Lof H' bm') nx' w' ∧ Rep (Lof H' bm') X nx' w' false v v'
theorem OK.done {s : Sem Value} {v : AV} {H' : Heap} {nx' : Ctr} (h : OK P w0 O X bm H nx w s v H' nx') : Done P w0 O X bm H nx w (do pure (.value (← s))) v H' nx' := by
  obtain ⟨v', w', bm', h1, h2, h3, h4⟩ := h
  exact ⟨.value v', v', w', bm', by simp [h1], .inl rfl, h2, h3, h4⟩

theorem szOf_info {t : TypeId} {n : Nat} (h : szOf P t = some n) : ∃ i, P.info? t = some i ∧ i.size = n := by
  unfold szOf at h
  cases hi : P.info? t with
  | none => rw [hi] at h; cases h
  | some i => rw [hi] at h; simp at h; exact ⟨i, rfl, h⟩
theorem zeroOf_info {t : TypeId} {z : List AV} (h : zeroOf P t = some z) : ∃ i zv, P.info? t = some i ∧ i.zero = some zv ∧ zv.cells.size = i.size ∧ z.length = zv.cells.size ∧ ∀ (j : Nat) x, z[j]? = some x → Closed x (zv.cells.getD j undef) ∧ scal1 x = true := by
  unfold zeroOf at h
  split at h
  · rename_i i hi
    split at h
    · rename_i zv hz
      split at h
      · rename_i hs
        obtain ⟨i1, i2⟩ := ofVs_closed h
        exact ⟨i, zv, hi, hz, hs, by simpa using i1.symm, fun j x hj => by have := i2 j x hj; simpa [List.getD] using this⟩
      · cases h
    · cases h
  · cases h
theorem isAgg_true {t : TypeId} (h : isAggOf P t = some true) : ∃ D, P.underlying t = some D ∧ aggD D = true := by
  unfold isAggOf at h
  split at h
  · rename_i fs hu; exact ⟨_, hu, rfl⟩
  · rename_i fs hu; exact ⟨_, hu, rfl⟩
  · cases h
  · cases h
theorem isAgg_false {t : TypeId} (h : isAggOf P t = some false) : ∃ D, P.underlying t = some D ∧ aggD D = false := by
  unfold isAggOf at h
  split at h
  · cases h
  · cases h
  · rename_i D h1 h2 hu; exact ⟨D, hu, by cases D <;> first | rfl | exact absurd rfl (h1 _) | exact absurd rfl (h2 _ _) | exact absurd hu (h1 _) | exact absurd hu (h2 _ _)⟩
  · cases h
end
end Go.Ev
/- The compiled operation does what the model's does. -/
namespace Go.Ev
open Go.RowKit
set_option linter.unusedVariables false
set_option linter.unusedSimpArgs false
set_option linter.unusedSectionVars false

section
variable {P : Program} {w0 : World} {O X : Nat → Prop} {bm : Nat → Nat → Nat} {H : Heap} {nx : Ctr} {w : World}

theorem zip_map_fst_snd {α β : Type} (l : List (α × β)) : (l.map Prod.fst).zip (l.map Prod.snd) = l := by
  induction l with
  | nil => rfl
  | cons a l ih => simp [ih]
theorem parts_eq (ρ : Operand → Value) (ps : Array (Nat × Operand)) : (ps.map fun (i, x) => (i, ρ x)) = ((ps.toList.map Prod.fst).zip ((ps.toList.map Prod.snd).map ρ)).toArray := by
  apply Array.ext'
  simp only [Array.toList_map]
  induction ps.toList with
  | nil => rfl
  | cons a l ih => simp [ih]
theorem places_spec : ∀ {fs : Array Field} {is : List Nat} {pl : List (Nat × Nat)}, places P fs is = some pl → pl.length = is.length ∧ (∀ q ∈ pl, q.2 ≠ 0) ∧ ∀ (k : Nat) i, is[k]? = some i → ∃ f n, fs[i]? = some f ∧ szOf P f.type = some n ∧ pl[k]? = some (f.offset, n)
  | fs, [], pl, h => by simp [places] at h; subst h; exact ⟨rfl, by simp, by simp⟩
  | fs, i :: is, pl, h => by
    simp only [places] at h
    split at h
    · rename_i f r hf hr
      split at h
      · rename_i n hn
        split at h
        · cases h
        · rename_i h0
          simp at h; subst h
          obtain ⟨i1, i2, i3⟩ := places_spec hr
          refine ⟨by simp [i1], fun q hq => ?_, fun k j hk => ?_⟩
          · rcases List.mem_cons.1 hq with rfl | hq
            · exact h0
            · exact i2 q hq
          · cases k with
            | zero => simp at hk; subst hk; exact ⟨f, n, hf, hn, rfl⟩
            | succ k => simp at hk; simpa using i3 k j hk
      · cases h
    · cases h
/-- All fields' sizes are known. -/
theorem run_places (fs : Array Field) (h : ∀ f ∈ fs, ∃ i, P.info? f.type = some i) (w : World) :
    (fs.mapM fun f => do pure (f.offset, ← sizeOf f.type) : Sem (Array (Nat × Nat))).run P w = .ok (fs.map fun f => (f.offset, P.cellsOf f.type)) w := by
  have key : ∀ (l : List Field), (∀ f ∈ l, ∃ i, P.info? f.type = some i) → (l.mapM fun f => do pure (f.offset, ← sizeOf f.type) : Sem (List (Nat × Nat))).run P w = .ok (l.map fun f => (f.offset, P.cellsOf f.type)) w := by
    intro l
    induction l with
    | nil => intro _; rfl
    | cons f l ih =>
      intro h
      obtain ⟨i, hi⟩ := h f (List.mem_cons_self)
      have ih := ih (fun g hg => h g (List.mem_cons_of_mem _ hg))
      simp only [List.mapM_cons, Sem.run_bind, run_sizeOf hi, Result.andThen_ok, Sem.run_pure, ih, List.map_cons, Program.cellsOf, hi, Option.map_some, Option.getD_some]
  rw [Array.mapM_eq_mapM_toList]
  simp only [Sem.run_map, key fs.toList (fun f hf => h f (by simpa using hf)), Result.andThen_ok]
  congr 1
  apply Array.ext'
  simp

set_option maxHeartbeats 1600000 in
theorem op_sound {M : Nat → Nat} {cm : Nat → Nat} {o : Oper} {k : AK} {xs : List Operand} (hk : compK P M cm o = some (k, xs)) (hcall : ∀ f m, k ≠ .call f m) (hcallv : ∀ m, k ≠ .callv m)
    (r : Rel w0 O X bm H nx w) {ρ : Operand → Value} {vs : List AV} (hr : Reps (Lof H bm) X nx w false vs (xs.map ρ)) {φ : Nat} {v : AV} {H' : Heap} {nx' : Ctr}
    (h : opK k vs H nx φ (fun v H nx => some (v, H, nx)) none = some (v, H', nx')) : Done P w0 O X bm H nx w (execOp ρ o) v H' nx' := by
  have inv1 : ∀ {x : Operand}, xs = [x] → ∃ a, vs = [a] ∧ Rep (Lof H bm) X nx w false a (ρ x) := by
    intro x hx; subst hx
    cases hr with | cons q1 t => cases t; exact ⟨_, rfl, q1⟩
  have inv2 : ∀ {x y : Operand}, xs = [x, y] → ∃ a b, vs = [a, b] ∧ Rep (Lof H bm) X nx w false a (ρ x) ∧ Rep (Lof H bm) X nx w false b (ρ y) := by
    intro x y hx; subst hx
    cases hr with | cons q1 t => cases t with | cons q2 t => cases t; exact ⟨_, _, rfl, q1, q2⟩
  unfold compK at hk
  cases ho : o.op with
  | move x =>
    rw [ho] at hk; simp at hk; obtain ⟨rfl, rfl⟩ := hk
    obtain ⟨a, rfl, h1⟩ := inv1 rfl
    simp [opK] at h; obtain ⟨rfl, rfl, rfl⟩ := h
    exact ⟨.value (ρ x), ρ x, w, bm, by simp [execOp, ho], .inl rfl, r, Move.refl _ _ _, h1⟩
  | assign x =>
    rw [ho] at hk; simp at hk; obtain ⟨rfl, rfl⟩ := hk
    obtain ⟨a, rfl, h1⟩ := inv1 rfl
    simp [opK] at h; obtain ⟨rfl, rfl, rfl⟩ := h
    exact ⟨.value (ρ x), ρ x, w, bm, by simp [execOp, ho], .inl rfl, r, Move.refl _ _ _, h1⟩
  | pick c x y =>
    rw [ho] at hk; simp at hk; obtain ⟨rfl, rfl⟩ := hk
    obtain ⟨c1, a, b, rfl, h1, h2, h3⟩ : ∃ c1 a b, vs = [c1, a, b] ∧ Rep (Lof H bm) X nx w false c1 (ρ c) ∧ Rep (Lof H bm) X nx w false a (ρ x) ∧ Rep (Lof H bm) X nx w false b (ρ y) := by
      cases hr with | cons q1 t => cases t with | cons q2 t => cases t with | cons q3 t => cases t; exact ⟨_, _, _, rfl, q1, q2, q3⟩
    simp only [opK] at h
    split at h
    · rename_i p
      generalize hc : ρ c = u at h1
      cases h1
      split at h <;> rename_i hp <;> simp at h <;> obtain ⟨rfl, rfl, rfl⟩ := h
      · exact ⟨.value (ρ x), ρ x, w, bm, by simp [execOp, ho, hc, asBool, hp], .inl rfl, r, Move.refl _ _ _, h2⟩
      · exact ⟨.value (ρ y), ρ y, w, bm, by simp [execOp, ho, hc, asBool, hp], .inl rfl, r, Move.refl _ _ _, h3⟩
    · cases h
  | alloc t =>
    rw [ho] at hk; simp only at hk
    split at hk
    · rename_i z d hz hd
      simp at hk; obtain ⟨rfl, rfl⟩ := hk
      obtain ⟨i, zv, hi, hzv, hzs, hzl, hzr⟩ := zeroOf_info hz
      cases hr
      have := (ok_new (P := P) r t i hi zv hzv z hzl hzr d h).done
      simpa [execOp, ho] using this
    · cases hk
  | box t x =>
    rw [ho] at hk; simp only at hk
    split at hk
    · rename_i d hd
      split at hk <;> simp at hk <;> obtain ⟨rfl, rfl⟩ := hk <;> obtain ⟨a, rfl, h1⟩ := inv1 rfl
      · have := (ok_boxm (P := P) r t d a _ h1 h).done
        simpa [execOp, ho] using this
      · have := (ok_box (P := P) r t a _ h1 h).done
        simpa [execOp, ho] using this
    · cases hk
  | build t ps =>
    rw [ho] at hk; simp only at hk
    split at hk
    · rename_i fs hu
      split at hk
      case h_2 => cases hk
      rename_i z pl hz hpl
      split at hk
      case isFalse => cases hk
      rename_i hall
      have hfields : ∀ f ∈ fs, ∃ i, P.info? f.type = some i := by
        intro f hf
        have := Array.all_eq_true_iff_forall_mem.1 hall f hf
        exact Option.isSome_iff_exists.1 this
      simp only [Option.some.injEq, Prod.mk.injEq] at hk; obtain ⟨rfl, rfl⟩ := hk
      obtain ⟨i, zv, hi, hzv, hzs, hzl, hzr⟩ := zeroOf_info hz
      obtain ⟨p1, p2, p3⟩ := places_spec hpl
      have hrun := run_places (P := P) fs hfields w
      have hfin : ∀ (k : Nat) q, (ps.toList.map Prod.fst)[k]? = some q → (fs.map fun f => (f.offset, P.cellsOf f.type))[q]? = pl[k]? := by
        intro k q hkq
        obtain ⟨f, n, hf, hn, hp⟩ := p3 k q hkq
        obtain ⟨i2, hi2, rfl⟩ := szOf_info hn
        rw [hp]; simp [hf, Program.cellsOf, hi2]
      have hz2 : ((fs.map (·.offset)).zip (fs.map fun f => P.cellsOf f.type)) = (fs.map fun f => (f.offset, P.cellsOf f.type)) := by
        apply Array.ext
        · simp
        · intro j h1 h2; simp
      have := (ok_bld (P := P) r t i hi zv hzv z hzl hzr fs hu (fs.map fun f => P.cellsOf f.type) (by rw [hz2]; exact hrun) pl (ps.toList.map Prod.fst) p1 (by rw [hz2]; exact hfin) p2 vs _ hr h).done
      rw [← parts_eq] at this
      simpa [execOp, ho] using this
    · rename_i len e hu
      split at hk
      case h_2 => cases hk
      rename_i z n hz hn
      split at hk
      · cases hk
      rename_i hn0
      simp only [Option.some.injEq, Prod.mk.injEq] at hk; obtain ⟨rfl, rfl⟩ := hk
      obtain ⟨i, zv, hi, hzv, hzs, hzl, hzr⟩ := zeroOf_info hz
      obtain ⟨ie, hie, rfl⟩ := szOf_info hn
      have := (ok_bldA (P := P) r t i hi zv hzv z hzl hzr len e hu ie hie hn0 (ps.toList.map Prod.fst) vs _ hr h).done
      rw [← parts_eq] at this
      simpa [execOp, ho] using this
    · cases hk
  | buildSlice t len ps =>
    rw [ho] at hk; simp only at hk
    split at hk
    · rename_i e hu
      split at hk
      · rename_i n z d hn hz hd
        split at hk
        · rename_i hc
          obtain ⟨hn0, hbig, hps⟩ := hc
          obtain ⟨i, hi, rfl⟩ := szOf_info hn
          obtain ⟨i', zv, hi', hzv, hzs, hzl, hzr⟩ := zeroOf_info hz
          rw [hi] at hi'; cases hi'
          have hlr := fun h => (ok_litr (P := P) (φ := φ) (v := v) (H' := H') (nx' := nx') r t e hu i hi zv hzv hn0 len hbig vs _ hr h).done
          split at hk
          case isFalse =>
            split at hk <;> simp at hk <;> obtain ⟨rfl, rfl⟩ := hk
            · have := hlr h
              rw [← hps, ← parts_eq] at this
              simpa [execOp, ho] using this
            · have := (ok_lit (P := P) r t e hu i hi zv hzv hn0 len hbig vs _ hr h).done
              rw [← hps, ← parts_eq] at this
              simpa [execOp, ho] using this
          simp at hk; obtain ⟨rfl, rfl⟩ := hk
          · have := (ok_litm (P := P) r t e hu i hi zv hzv hn0 len d hbig vs _ hr h).done
            rw [← hps, ← parts_eq] at this
            simpa [execOp, ho] using this
        · cases hk
      · cases hk
    · cases hk
  | load t x =>
    rw [ho] at hk; simp only at hk
    split at hk
    case h_3 => cases hk
    · rename_i n ha hn
      have hk2 : (k = .ldnr n ∨ k = .ldn n ∨ ∃ q, k = .ldnk n q) ∧ xs = [x] := by
        split at hk
        · split at hk
          · simp at hk; exact ⟨.inr (.inr ⟨_, hk.1.symm⟩), hk.2.symm⟩
          · simp at hk; exact ⟨.inl hk.1.symm, hk.2.symm⟩
        · simp at hk; exact ⟨.inr (.inl hk.1.symm), hk.2.symm⟩
      clear hk
      obtain ⟨hk2, rfl⟩ := hk2
      replace h : opK (.ldn n) vs H nx φ (fun v H nx => some (v, H, nx)) none = some (v, H', nx') := by
        rcases hk2 with rfl | rfl | ⟨q, rfl⟩
        · obtain ⟨a, rfl, _⟩ := inv1 rfl
          cases a <;> simp only [opK] at h ⊢ <;> first | exact h | (cases h; done)
        · exact h
        · obtain ⟨a, rfl, _⟩ := inv1 rfl
          cases a with
          | ptr f d g off =>
            simp only [opK] at h ⊢
            split at h
            · exact h
            · cases h
          | _ => simp only [opK] at h; cases h
      obtain ⟨i, hi, rfl⟩ := szOf_info hn
      obtain ⟨D, hD, hD2⟩ := isAgg_true ha
      obtain ⟨a, rfl, h1⟩ := inv1 rfl
      have := (ok_ldn (P := P) r t D hD hD2 i hi a _ h1 h).done
      simpa [execOp, ho] using this
    · rename_i ha
      have hk2 : (k = .ld1r ∨ k = .ld1 ∨ ∃ q, k = .ldk q) ∧ xs = [x] := by
        split at hk
        · split at hk
          · simp at hk; exact ⟨.inr (.inr ⟨_, hk.1.symm⟩), hk.2.symm⟩
          · simp at hk; exact ⟨.inl hk.1.symm, hk.2.symm⟩
        · simp at hk; exact ⟨.inr (.inl hk.1.symm), hk.2.symm⟩
      clear hk
      obtain ⟨hk2, rfl⟩ := hk2
      replace h : opK .ld1 vs H nx φ (fun v H nx => some (v, H, nx)) none = some (v, H', nx') := by
        rcases hk2 with rfl | rfl | ⟨q, rfl⟩
        · obtain ⟨a, rfl, _⟩ := inv1 rfl
          cases a with
          | ro cs => cases cs <;> simp only [opK] at h ⊢ <;> first | exact h | (cases h; done)
          | _ => simp only [opK] at h; cases h
        · exact h
        · obtain ⟨a, rfl, _⟩ := inv1 rfl
          cases a with
          | ptr f d g off =>
            simp only [opK] at h ⊢
            split at h
            · exact h
            · cases h
          | _ => simp only [opK] at h; cases h
      obtain ⟨D, hD, hD2⟩ := isAgg_false ha
      obtain ⟨a, rfl, h1⟩ := inv1 rfl
      have := (ok_ld1 (P := P) r t D hD hD2 a _ h1 h).done
      simpa [execOp, ho] using this
  | store t x y =>
    rw [ho] at hk; simp only at hk
    split at hk
    · rename_i n hn
      split at hk
      · cases hk
      · rename_i h0
        have hk2 : (k = .st n ∨ (∃ q, k = .stk n q) ∨ k = .stf n) ∧ xs = [x, y] := by
          split at hk
          · simp at hk; exact ⟨.inr (.inl ⟨_, hk.1.symm⟩), hk.2.symm⟩
          · split at hk
            · simp at hk; exact ⟨.inr (.inr hk.1.symm), hk.2.symm⟩
            · simp at hk; exact ⟨.inl hk.1.symm, hk.2.symm⟩
        obtain ⟨hk3, rfl⟩ := hk2
        obtain ⟨i, hi, rfl⟩ := szOf_info hn
        obtain ⟨a, b, rfl, h1, h2⟩ := inv2 rfl
        rcases or_assoc.2 hk3 with hk3 | rfl
        case inr =>
          obtain ⟨w', bm', e1, e2, e3, rfl⟩ := ok_stf r t i hi a b _ _ h1 h2 h0 h
          exact ⟨.skip, undef, w', bm', by simp [execOp, ho, e1], .inr ⟨rfl, rfl⟩, e2, e3, .any⟩
        have h' : opK (.st i.size) [a, b] H nx φ (fun v H nx => some (v, H, nx)) none = some (v, H', nx') := by
          rcases hk3 with rfl | ⟨q, rfl⟩
          · exact h
          · unfold opK at h ⊢
            simp only at h ⊢
            split at h
            · split at h
              · exact h
              · cases h
            · cases h
        obtain ⟨w', bm', e1, e2, e3, rfl⟩ := ok_st r t i hi a b _ _ h1 h2 h0 h'
        exact ⟨.skip, undef, w', bm', by simp [execOp, ho, e1], .inr ⟨rfl, rfl⟩, e2, e3, .any⟩
    · cases hk
  | nilCheck x =>
    rw [ho] at hk; simp at hk; obtain ⟨rfl, rfl⟩ := hk
    obtain ⟨a, rfl, h1⟩ := inv1 rfl
    obtain ⟨w', bm', e1, e2, e3, e4⟩ := ok_nck r a _ h1 h o ρ x ho rfl
    exact ⟨_, _, w', bm', e1, .inl rfl, e2, e3, e4⟩
  | binOp op t x y yt =>
    rw [ho] at hk; simp only at hk
    have ex : execOp ρ o = (do pure (.value (← (do eqGuard op t x y (ρ x) (ρ y); binOp op t (ρ x) (ρ y))))) := by simp [execOp, ho]
    rw [ex]
    split at hk
    · simp at hk; obtain ⟨rfl, rfl⟩ := hk
      obtain ⟨a, b, rfl, h1, h2⟩ := inv2 rfl
      exact (ok_int (P := P) r op t a b _ _ h1 h2 h x y).done
    · simp at hk; obtain ⟨rfl, rfl⟩ := hk
      obtain ⟨a, b, rfl, h1, h2⟩ := inv2 rfl
      exact (ok_int (P := P) r op t a b _ _ h1 h2 h x y).done
    · rename_i hu
      split at hk <;> simp at hk <;> obtain ⟨rfl, rfl⟩ := hk <;> obtain ⟨a, b, rfl, h1, h2⟩ := inv2 rfl
      · exact (ok_eqb (P := P) r false t hu a b _ _ h1 h2 h x y).done
      · exact (ok_eqb (P := P) r true t hu a b _ _ h1 h2 h x y).done
    · rename_i hu
      split at hk <;> simp at hk <;> obtain ⟨rfl, rfl⟩ := hk <;> obtain ⟨a, b, rfl, h1, h2⟩ := inv2 rfl
      · exact (ok_eqp (P := P) r false t _ hu a b _ _ h1 h2 h x y).done
      · exact (ok_eqp (P := P) r true t _ hu a b _ _ h1 h2 h x y).done
    · rename_i hu
      split at hk <;> simp at hk <;> obtain ⟨rfl, rfl⟩ := hk <;> obtain ⟨a, b, rfl, h1, h2⟩ := inv2 rfl
      · exact (ok_eqs (P := P) r false t _ hu a b _ _ h1 h2 h x y).done
      · exact (ok_eqs (P := P) r true t _ hu a b _ _ h1 h2 h x y).done
    · cases hk
  | unOp u t x =>
    rw [ho] at hk; simp only at hk
    split at hk <;> simp at hk <;> obtain ⟨rfl, rfl⟩ := hk <;> obtain ⟨a, rfl, h1⟩ := inv1 rfl
    · have := (ok_not (P := P) r a _ h1 h).done; simpa [execOp, ho] using this
    · have := (ok_neg (P := P) r a _ h1 h).done; simpa [execOp, ho] using this
    · have := (ok_cpl (P := P) r a _ h1 h).done; simpa [execOp, ho] using this
  | convert src dst x =>
    rw [ho] at hk; simp only at hk
    split at hk
    · rename_i hs hd
      simp at hk; obtain ⟨rfl, rfl⟩ := hk
      obtain ⟨a, rfl, h1⟩ := inv1 rfl
      have := (ok_conv (P := P) r src dst _ (by rw [hs]; rfl) hd a _ h1 h).done
      simpa [execOp, ho] using this
    · rename_i e hs hd
      split at hk
      · rename_i hu8
        simp at hk; obtain ⟨rfl, rfl⟩ := hk
        have he : P.underlying e = some (.int .u8) := by
          unfold isU8 at hu8; split at hu8
          · assumption
          · cases hu8
        obtain ⟨a, rfl, h1⟩ := inv1 rfl
        have := (ok_s2b (P := P) r src dst e hs hd he a _ h1 h).done
        simpa [execOp, ho] using this
      · cases hk
    · rename_i e hs hd
      split at hk
      · rename_i hu8
        simp at hk; obtain ⟨rfl, rfl⟩ := hk
        have he : P.underlying e = some (.int .u8) := by
          unfold isU8 at hu8; split at hu8
          · assumption
          · cases hu8
        obtain ⟨a, rfl, h1⟩ := inv1 rfl
        have := (ok_b2s (P := P) r src dst e hs he hd a _ h1 h).done
        simpa [execOp, ho] using this
      · cases hk
    · rename_i e e' hs hd
      split at hk
      · rename_i hu8
        obtain ⟨rfl, hu8⟩ := hu8
        simp at hk; obtain ⟨rfl, rfl⟩ := hk
        have he : P.underlying e = some (.int .u8) := by
          unfold isU8 at hu8; split at hu8
          · assumption
          · cases hu8
        obtain ⟨a, rfl, h1⟩ := inv1 rfl
        have := (ok_s2s (P := P) r src e hs he a _ h1 h).done
        simpa [execOp, ho] using this
      · cases hk
    · cases hk
  | makeInterface t x =>
    rw [ho] at hk; simp only at hk
    split at hk
    · cases hk
    · rename_i D hD hu
      simp at hk; obtain ⟨rfl, rfl⟩ := hk
      obtain ⟨a, rfl, h1⟩ := inv1 rfl
      have := (ok_ifc (P := P) r t D hu (by cases D <;> first | rfl | exact absurd rfl (hD _) | exact absurd hu (hD _)) a _ h1 h).done
      simpa [execOp, ho] using this
    · cases hk
  | makeFunc fn first captured =>
    rw [ho] at hk
    cases fn <;> simp only at hk <;> try (cases hk; done)
    rename_i f
    split at hk
    · rename_i hf
      simp at hk; obtain ⟨rfl, rfl⟩ := hk
      simp [opK] at h; obtain ⟨rfl, rfl, rfl⟩ := h
      have hfirst : first = #[] := by cases first; simp at hf; simp [hf]
      subst hfirst
      refine ⟨.value (.func (.func f) #[] (captured.map ρ)), .func (.func f) #[] (captured.map ρ), w, bm, by simp [execOp, ho, Instr.makeFunc], .inl rfl, r, Move.refl _ _ _, .func ?_ (fun j x hj => ?_)⟩
      · have := hr.len; simpa using this
      · have := hr.get j x hj
        simpa [List.getD] using this
    · cases hk
  | makeSlice t l c =>
    rw [ho] at hk; simp only at hk
    split at hk
    · rename_i e hu
      split at hk
      · rename_i z d hn hz hd
        split at hk
        · rename_i hs
          simp at hk; obtain ⟨rfl, rfl⟩ := hk
          obtain ⟨i, hi, hsz⟩ := szOf_info hn
          obtain ⟨i', zv, hi', hzv, hzs, hzl, hzr⟩ := zeroOf_info hz
          rw [hi] at hi'; cases hi'
          obtain ⟨a, rfl, h1⟩ := inv1 rfl
          have hby : byOf P e = i.bytes := by simp [byOf, hi]
          rw [hby] at h
          have hsame : ρ c = ρ l := by
            unfold sameOp at hs
            split at hs
            · simp at hs; subst hs; rfl
            · simp at hs; obtain ⟨rfl, rfl⟩ := hs; rfl
            · cases hs
          have := (ok_mk (P := P) r t e hu i hi zv hzv hsz z (by rw [hzs, hsz]) (hzr 0 z rfl) d a _ h1 h).done
          simpa [execOp, ho, hsame] using this
        · cases hk
      · cases hk
    · cases hk
  | slice t x lo hi mx =>
    rw [ho] at hk; simp only at hk
    have ex : execOp ρ o = (do pure (.value (← Instr.sliceAt t (ρ x) (lo.map ρ) (hi.map ρ) (mx.map ρ)))) := by simp [execOp, ho]
    rw [ex]
    split at hk
    · rename_i hu
      split at hk
      · rename_i hm
        simp at hk; obtain ⟨rfl, rfl⟩ := hk
        obtain ⟨a, vs', rfl, h1, t1⟩ : ∃ a vs', vs = a :: vs' ∧ Rep (Lof H bm) X nx w false a (ρ x) ∧ Reps (Lof H bm) X nx w false vs' ((someList lo ++ someList hi).map ρ) := by cases hr with | cons q1 t => exact ⟨_, _, rfl, q1, t⟩
        have := (ok_slcT (P := P) r t hu lo.isSome hi.isSome a _ h1 vs' _ t1 h).done
        obtain rfl : mx = none := by cases mx <;> simp at hm ⊢
        cases lo <;> cases hi <;> exact this
      · cases hk
    · rename_i e hu
      split at hk
      · rename_i n hn
        split at hk
        · cases hk
        · rename_i hm
          obtain ⟨i, hii, rfl⟩ := szOf_info hn
          split at hk
          · rename_i htk
            simp only [Option.some.injEq, Prod.mk.injEq] at hk; obtain ⟨rfl, rfl⟩ := hk
            obtain ⟨a, vs', rfl, h1, t1⟩ : ∃ a vs', vs = a :: vs' ∧ Rep (Lof H bm) X nx w false a (ρ x) ∧ Reps (Lof H bm) X nx w false vs' ((someList lo ++ someList hi ++ someList mx).map ρ) := by cases hr with | cons q1 t => exact ⟨_, _, rfl, q1, t⟩
            have := (ok_slcx (P := P) r t e hu i hii (by simp at htk; exact htk.2) lo.isSome hi.isSome mx.isSome a _ h1 vs' _ t1 h).done
            cases lo <;> cases hi <;> cases mx <;> first | exact this | (simp at hm)
          · simp only [Option.some.injEq, Prod.mk.injEq] at hk; obtain ⟨rfl, rfl⟩ := hk
            obtain ⟨a, vs', rfl, h1, t1⟩ : ∃ a vs', vs = a :: vs' ∧ Rep (Lof H bm) X nx w false a (ρ x) ∧ Reps (Lof H bm) X nx w false vs' ((someList lo ++ someList hi ++ someList mx).map ρ) := by cases hr with | cons q1 t => exact ⟨_, _, rfl, q1, t⟩
            have := (ok_slc (P := P) r t e hu i hii lo.isSome hi.isSome mx.isSome a _ h1 vs' _ t1 h).done
            cases lo <;> cases hi <;> cases mx <;> first | exact this | (simp at hm)
      · cases hk
    · cases hk
  | fieldAddr t x n =>
    rw [ho] at hk; simp only at hk
    split at hk
    · rename_i fs hu
      split at hk
      · rename_i f hf
        split at hk
        · rename_i s hs
          split at hk
          · cases hk
          · rename_i h0
            simp at hk; obtain ⟨rfl, rfl⟩ := hk
            obtain ⟨i, hi, rfl⟩ := szOf_info hs
            obtain ⟨a, rfl, h1⟩ := inv1 rfl
            have := (ok_fa (P := P) r t fs hu n f hf i hi h0 a _ h1 h).done
            simpa [execOp, ho] using this
        · cases hk
      · cases hk
    · cases hk
  | field t x n =>
    rw [ho] at hk; simp only at hk
    split at hk
    · rename_i fs hu
      split at hk
      · rename_i f hf
        split at hk <;> simp at hk
        · rename_i s ha hs
          obtain ⟨rfl, rfl⟩ := hk
          obtain ⟨i, hi, rfl⟩ := szOf_info hs
          obtain ⟨D, hD, hD2⟩ := isAgg_true ha
          obtain ⟨a, rfl, h1⟩ := inv1 rfl
          have := (ok_fldn (P := P) r t fs hu n f hf i hi D hD hD2 a _ h1 h).done
          simpa [execOp, ho] using this
        · rename_i ha
          obtain ⟨rfl, rfl⟩ := hk
          obtain ⟨D, hD, hD2⟩ := isAgg_false ha
          obtain ⟨a, rfl, h1⟩ := inv1 rfl
          have := (ok_fld1 (P := P) r t fs hu n f hf D hD hD2 a _ h1 h).done
          simpa [execOp, ho] using this
      · cases hk
    · cases hk
  | indexAddr t x y =>
    rw [ho] at hk; simp only at hk
    split at hk
    · rename_i e hu
      split at hk
      · rename_i n hn
        split at hk
        · cases hk
        · rename_i h0
          simp at hk; obtain ⟨rfl, rfl⟩ := hk
          obtain ⟨i, hi, rfl⟩ := szOf_info hn
          obtain ⟨a, b, rfl, h1, h2⟩ := inv2 rfl
          have := (ok_ixS (P := P) r t e hu i hi a b _ _ h1 h2 h0 h).done
          simpa [execOp, ho] using this
      · cases hk
    · rename_i len e hu
      split at hk
      · rename_i n hn
        simp at hk; obtain ⟨rfl, rfl⟩ := hk
        obtain ⟨i, hi, rfl⟩ := szOf_info hn
        obtain ⟨a, b, rfl, h1, h2⟩ := inv2 rfl
        have := (ok_ixP (P := P) r t e len hu i hi a b _ _ h1 h2 h).done
        simpa [execOp, ho] using this
      · cases hk
    · cases hk
  | index t x y =>
    rw [ho] at hk; simp only at hk
    split at hk
    · rename_i hu
      simp at hk; obtain ⟨rfl, rfl⟩ := hk
      obtain ⟨a, b, rfl, h1, h2⟩ := inv2 rfl
      have := (ok_ixT (P := P) r t hu a b _ _ h1 h2 h).done
      simpa [execOp, ho] using this
    · rename_i len e hu
      split at hk
      case h_2 => cases hk
      rename_i hsz hag
      simp at hk; obtain ⟨rfl, rfl⟩ := hk
      obtain ⟨i, hi, his⟩ := szOf_info hsz
      obtain ⟨D, hD, hD2⟩ := isAgg_false hag
      obtain ⟨a, b, rfl, h1, h2⟩ := inv2 rfl
      have := (ok_ixA1 (P := P) r t e len hu i hi his D hD hD2 a b _ _ h1 h2 h).done
      simpa [execOp, ho] using this
    · cases hk
  | extract x i =>
    rw [ho] at hk; simp at hk; obtain ⟨rfl, rfl⟩ := hk
    obtain ⟨a, rfl, h1⟩ := inv1 rfl
    have := (ok_ext (P := P) r i a _ h1 h).done
    simpa [execOp, ho] using this
  | call c =>
    rw [ho] at hk; simp only at hk
    split at hk
    · simp at hk; exact absurd hk.1.symm (hcall _ _)
    · simp at hk; exact absurd hk.1.symm (hcallv _)
    · rename_i b hb
      have ex : ∀ (s : Sem Value), builtin b c.argTypes o.type (c.args.map fun | .const _ => true | _ => false) (c.args.map ρ) = (do pure (.value (← s))) → execOp ρ o = (do pure (.value (← s))) := by
        intro s hs
        have : execOp ρ o = (do let d ← resolve ρ c o.type; invoke d.target d.args) := by simp [execOp, ho]
        rw [this]
        simp only [resolve, hb, pure_bind, invoke]
        exact hs
      split at hk
      · rename_i x t hargs htys
        have ha : c.args = #[x] := by apply Array.ext'; simpa using hargs
        have hty : c.argTypes = #[t] := by apply Array.ext'; simpa using htys
        split at hk
        · rename_i hu
          simp at hk; obtain ⟨rfl, rfl⟩ := hk
          obtain ⟨a, rfl, h1⟩ := inv1 rfl
          rw [ex (Builtin.len_ #[t] o.type #[ρ x]) (by rw [ha, hty]; simp [builtin])]
          exact (ok_lenT (P := P) r t o.type hu a _ h1 h).done
        · rename_i e hu
          simp at hk; obtain ⟨rfl, rfl⟩ := hk
          obtain ⟨a, rfl, h1⟩ := inv1 rfl
          rw [ex (Builtin.len_ #[t] o.type #[ρ x]) (by rw [ha, hty]; simp [builtin])]
          exact (ok_len (P := P) r t o.type e hu a _ h1 h).done
        · cases hk
      · rename_i x y t t' hargs htys
        split at hk
        · rename_i htt
          subst htt
          have ha : c.args = #[x, y] := by apply Array.ext'; simpa using hargs
          have hty : c.argTypes = #[t, t] := by apply Array.ext'; simpa using htys
          split at hk
          · rename_i e hu
            split at hk
            · rename_i n z d hn hz hd
              split at hk
              · cases hk
              · rename_i h0
                have hk2 : (k = .app n (byOf P e) d ∨ k = .apn n (byOf P e) d) ∧ xs = [x, y] := by
                  split at hk
                  · simp at hk; exact ⟨.inr hk.1.symm, hk.2.symm⟩
                  · simp at hk; exact ⟨.inl hk.1.symm, hk.2.symm⟩
                clear hk
                obtain ⟨hk2, rfl⟩ := hk2
                replace h : opK (.app n (byOf P e) d) vs H nx φ (fun v H nx => some (v, H, nx)) none = some (v, H', nx') := by
                  rcases hk2 with rfl | rfl
                  · exact h
                  · obtain ⟨a, b, rfl, _, _⟩ := inv2 rfl
                    simp only [opK] at h ⊢
                    unfold pureK at h
                    split at h
                    · exact h
                    · exact h
                    · exact h
                    · exact h
                    · cases h
                obtain ⟨i, hi, rfl⟩ := szOf_info hn
                obtain ⟨i', zv, hi', hzv, hzs, hzl, hzr⟩ := zeroOf_info hz
                rw [hi] at hi'; cases hi'
                have hby : byOf P e = i.bytes := by simp [byOf, hi]
                rw [hby] at h
                obtain ⟨a, b, rfl, h1, h2⟩ := inv2 rfl
                rw [ex (Builtin.append_ #[t, t] o.type #[ρ x, ρ y]) (by rw [ha, hty]; simp [builtin])]
                exact (ok_app (P := P) r t o.type e i hu hi zv hzv hzs (by omega) d a b _ _ h1 h2 h).done
            · cases hk
          · cases hk
        · split at hk
          · rename_i e d hu hu' hd
            split at hk
            · rename_i hc
              obtain ⟨hn, hb, hz⟩ := hc
              simp at hk; obtain ⟨rfl, rfl⟩ := hk
              obtain ⟨zz, hzz⟩ := Option.isSome_iff_exists.1 hz
              obtain ⟨i, hi, hi1⟩ := szOf_info hn
              obtain ⟨i', zv, hi', hzv, hzs, hzl, hzr⟩ := zeroOf_info hzz
              rw [hi] at hi'; cases hi'
              have hby : byOf P e = i.bytes := by simp [byOf, hi]
              rw [hby] at hb
              have ha : c.args = #[x, y] := by apply Array.ext'; simpa using hargs
              have hty : c.argTypes = #[t, t'] := by apply Array.ext'; simpa using htys
              obtain ⟨a, b, rfl, h1, h2⟩ := inv2 rfl
              rw [ex (Builtin.append_ #[t, t'] o.type #[ρ x, ρ y]) (by rw [ha, hty]; simp [builtin])]
              exact (ok_apps (P := P) r t t' o.type e i hu hu' hi zv hzv hzs (by omega) hb d a b _ _ h1 h2 h).done
            · cases hk
          · cases hk
      · rename_i x t hargs htys
        have ha : c.args = #[x] := by apply Array.ext'; simpa using hargs
        have hty : c.argTypes = #[t] := by apply Array.ext'; simpa using htys
        split at hk
        · rename_i e hu
          split at hk
          · rename_i n z hn hz
            simp at hk; obtain ⟨rfl, rfl⟩ := hk
            obtain ⟨i, hi, rfl⟩ := szOf_info hn
            obtain ⟨i', zv, hi', hzv, hzs, hzl, hzr⟩ := zeroOf_info hz
            rw [hi] at hi'; cases hi'
            obtain ⟨a, rfl, h1⟩ := inv1 rfl
            rw [ex (Builtin.clear_ #[t] o.type #[ρ x]) (by rw [ha, hty]; simp [builtin])]
            refine (ok_clr (P := P) r t e o.type hu i hi zv hzv hzs (fun u hu1 => ?_) a _ h1 h).done
            obtain ⟨j, hj, rfl⟩ := List.mem_iff_getElem.1 hu1
            have hjz : j < z.length := by rw [hzl]; simpa using hj
            have h3 := hzr j _ (List.getElem?_eq_getElem hjz)
            have h4 := one_of_scal1 (h3.1 none4 (fun _ => False) zeroC w false) h3.2
            have hj2 : j < zv.cells.size := by simpa using hj
            simpa [hj2] using h4
          · cases hk
        · cases hk
      · rename_i x y hargs
        have ha : c.args = #[x, y] := by apply Array.ext'; simpa using hargs
        simp at hk; obtain ⟨rfl, rfl⟩ := hk
        obtain ⟨a, b, rfl, h1, h2⟩ := inv2 rfl
        rw [ex (Builtin.min_ c.argTypes o.type #[ρ x, ρ y]) (by rw [ha]; simp [builtin])]
        exact (ok_mn (P := P) r _ _ a b _ _ h1 h2 h).done
      · rename_i x y hargs
        have ha : c.args = #[x, y] := by apply Array.ext'; simpa using hargs
        simp at hk; obtain ⟨rfl, rfl⟩ := hk
        obtain ⟨a, b, rfl, h1, h2⟩ := inv2 rfl
        rw [ex (Builtin.max_ c.argTypes o.type #[ρ x, ρ y]) (by rw [ha]; simp [builtin])]
        exact (ok_mx (P := P) r _ _ a b _ _ h1 h2 h).done
      · cases hk
    · cases hk
  | _ => rw [ho] at hk; cases hk
end
end Go.Ev
/- Told in continuations or plainly: the same. Which operations look at the heap. -/
namespace Go.Ev
set_option linter.unusedVariables false
set_option linter.unusedSimpArgs false

section
variable {α β : Type} (F : α → β)
theorem intK_nat (o : BinOp) (k : IntKind) (a b : Int) (ok : AV → α) (bad : α) : F (intK o k a b ok bad) = intK o k a b (fun v => F (ok v)) (F bad) := by
  unfold intK; split <;> first | rfl | (split <;> rfl)
theorem strK_nat (o : BinOp) (x y : ByteArray) (ok : AV → α) (bad : α) : F (strK o x y ok bad) = strK o x y (fun v => F (ok v)) (F bad) := by
  unfold strK; split <;> first | rfl | (split <;> rfl)
theorem binK_nat (o : BinOp) (x y : AV) (ok : AV → α) (bad : α) : F (binK o x y ok bad) = binK o x y (fun v => F (ok v)) (F bad) := by
  unfold binK
  split
  · split
    · split <;> rfl
    · split <;> rfl
    · split
      · exact intK_nat F _ _ _ _ _ _
      · rfl
  · exact strK_nat F _ _ _ _ _
  · rfl
theorem nilpK_nat (x : AV) (ok : Bool → α) (bad : α) : F (nilpK x ok bad) = nilpK x (fun v => F (ok v)) (F bad) := by unfold nilpK; split <;> rfl
theorem nilsK_nat (x : AV) (ok : Bool → α) (bad : α) : F (nilsK x ok bad) = nilsK x (fun v => F (ok v)) (F bad) := by unfold nilsK; split <;> rfl
theorem nilfK_nat (x : AV) (ok : Bool → α) (bad : α) : F (nilfK x ok bad) = nilfK x (fun v => F (ok v)) (F bad) := by unfold nilfK; split <;> rfl
theorem niliK_nat (x : AV) (ok : Bool → α) (bad : α) : F (niliK x ok bad) = niliK x (fun v => F (ok v)) (F bad) := by unfold niliK; split <;> rfl
theorem bndK_nat (x : AV) (m : Nat) (ok : Nat → α) (bad : α) : F (bndK x m ok bad) = bndK x m (fun v => F (ok v)) (F bad) := by
  unfold bndK; split
  · split <;> rfl
  · rfl
theorem cutK_nat (len lim : Nat) (lo hi mx : Bool) (vs : List AV) (ok : Nat → Nat → Option Nat → α) (bad : α) : F (cutK len lim lo hi mx vs ok bad) = cutK len lim lo hi mx vs (fun a b c => F (ok a b c)) (F bad) := by
  unfold cutK
  split
  · rfl
  · exact bndK_nat F _ _ _ _
  · exact bndK_nat F _ _ _ _
  · refine (bndK_nat F _ _ _ _).trans ?_; congr 1; funext h; exact bndK_nat F _ _ _ _
  · refine (bndK_nat F _ _ _ _).trans ?_; congr 1; funext h; exact bndK_nat F _ _ _ _
  · refine (bndK_nat F _ _ _ _).trans ?_; congr 1; funext h; refine (bndK_nat F _ _ _ _).trans ?_; congr 1; funext h; exact bndK_nat F _ _ _ _
  · rfl
theorem fillK_nat : ∀ (ps : List (Nat × Nat)) (vs cs : List AV) (ok : List AV → α) (bad : α), F (fillK ps vs cs ok bad) = fillK ps vs cs (fun v => F (ok v)) (F bad)
  | [], [], cs, ok, bad => rfl
  | [], v :: vs, cs, ok, bad => rfl
  | (a, b) :: ps, [], cs, ok, bad => rfl
  | (a, b) :: ps, v :: vs, cs, ok, bad => by
    simp only [fillK]
    split
    · exact fillK_nat ps vs _ ok bad
    · rfl
theorem mapF_nat (n : Nat) (H : Heap) (l : List AV) (ok : List AV → List (Nat × Nat) → α) (bad : α) : F (mapK (frzK n H) l ok bad) = mapK (frzK n H) l (fun v i => F (ok v i)) (F bad) :=
  mapK_nat F (fun {γ} => frzK (α := γ) n H) (fun F v ok bad => frzK_nat n H F v ok bad) l ok bad

theorem getB_congr {H : Heap} {f d g : Nat} {ok ok' : List AV → α} {bad : α} (h : ∀ cs, ok cs = ok' cs) : getB H f d g ok bad = getB H f d g ok' bad := by
  rw [show ok = ok' from funext h]
theorem mapF_congr {n : Nat} {H : Heap} {l : List AV} {ok ok' : List AV → List (Nat × Nat) → α} {bad : α} (h : ∀ a b, ok a b = ok' a b) : mapK (frzK n H) l ok bad = mapK (frzK n H) l ok' bad := by
  rw [show ok = ok' from funext fun a => funext fun b => h a b]
theorem frzF_congr {n : Nat} {H : Heap} {v : AV} {ok ok' : AV → List (Nat × Nat) → α} {bad : α} (h : ∀ a b, ok a b = ok' a b) : frzK n H v ok bad = frzK n H v ok' bad := by
  rw [show ok = ok' from funext fun a => funext fun b => h a b]
theorem opK_nat (o : AK) (vs : List AV) (H : Heap) (nx : Ctr) (φ : Nat) (ok : AV → Heap → Ctr → α) (bad : α) : F (opK o vs H nx φ ok bad) = opK o vs H nx φ (fun v H nx => F (ok v H nx)) (F bad) := by
  unfold opK appK pureK
  split
  all_goals
    repeat' first
      | rfl
      | exact binK_nat F _ _ _ _ _
      | exact fillK_nat F _ _ _ _ _
      | exact nilpK_nat F _ _ _
      | exact nilsK_nat F _ _ _
      | exact nilfK_nat F _ _ _
      | exact niliK_nat F _ _ _
      | exact cutK_nat F _ _ _ _ _ _ _ _
      | refine (getB_nat F _ _ _ _ _ _).trans (getB_congr fun cs => ?_)
      | refine (mapF_nat F _ _ _ _ _).trans (mapF_congr fun a b => ?_)
      | refine (frzK_nat _ _ F _ _ _).trans (frzF_congr fun a b => ?_)
      | split
  all_goals first
    | (refine (cutK_nat F _ _ _ _ _ _ _ _).trans ?_; congr 1; funext l h m; exact apply_ite F _ _ _)
    | exact apply_ite F _ _ _
    | (refine (apply_ite F _ _ _).trans ?_; congr 1; exact (getB_nat F _ _ _ _ _ _).trans (getB_congr fun cs => apply_ite F _ _ _))
    | (refine (apply_ite F _ _ _).trans ?_; congr 1; exact apply_ite F _ _ _)
    | (refine (apply_ite F _ _ _).trans ?_; congr 1; exact (getB_nat F _ _ _ _ _ _).trans (getB_congr fun cs => (apply_ite F _ _ _).trans (by congr 1; exact apply_ite F _ _ _)))
    | (refine (cutK_nat F _ _ _ _ _ _ _ _).trans ?_; congr 1; funext l h m; split <;> rfl)
    | (refine (apply_ite F _ _ _).trans ?_; congr 1; refine (getB_nat F _ _ _ _ _ _).trans (getB_congr fun cs => ?_); refine (cutK_nat F _ _ _ _ _ _ _ _).trans ?_; congr 1; funext l h m; exact apply_ite F _ _ _)
    | (simp_all; done)
end

/-- 0: looks at its operands alone; 1: looks at the heap; 2: changes it; 3: changes what others have of it. -/
def cls : AK → Nat
  | .mv | .pick | .bin _ | .eqb _ | .eqp _ | .eqs _ | .eqi _ | .eqf _ | .not | .neg | .cpl | .conv _ | .s2b | .box | .fa _ | .fld1 _ | .fldn _ _ | .ixS _ | .ixP _ _ | .ixT | .ixA1 _
  | .slc _ _ _ _ | .slcT _ _ | .len | .lenT | .bld _ _ | .ext _ | .nck | .mn | .mx | .mkf _ | .ifc _ | .ld1r | .ldnr _ | .litr _ _ | .call _ 4 => 0
  | .ld1 | .ldn _ | .ldk _ | .ldnk _ _ | .b2s | .lit _ _ | .call _ 0 | .callv 0 => 1
  | .call _ 3 => 3
  | _ => 2

/-- Plainly told. -/
def opD (o : AK) (vs : List AV) (H : Heap) (nx : Ctr) (φ : Nat) : Option (AV × Heap × Ctr) := opK o vs H nx φ (fun v H nx => some (v, H, nx)) none
theorem opK_opD {α : Type} (o : AK) (vs : List AV) (H : Heap) (nx : Ctr) (φ : Nat) (ok : AV → Heap → Ctr → α) (bad : α) :
    opK o vs H nx φ ok bad = match opD o vs H nx φ with | some (v, H, nx) => ok v H nx | none => bad :=
  (opK_nat (fun x : Option (AV × Heap × Ctr) => match x with | some (v, H, nx) => ok v H nx | none => bad) o vs H nx φ (fun v H nx => some (v, H, nx)) none).symm

/-- What looks at its operands alone. -/
theorem opD_T {o : AK} (h0 : cls o = 0) {vs : List AV} {H : Heap} {nx : Ctr} {φ : Nat} {v : AV} {H' : Heap} {nx' : Ctr} (h : opD o vs H nx φ = some (v, H', nx')) : H' = H ∧ nx' = nx ∧ ∀ H2 nx2, opD o vs H2 nx2 φ = some (v, H2, nx2) := by
  have key : ∃ r : Option AV, ∀ H2 nx2, opD o vs H2 nx2 φ = r.map fun v => (v, H2, nx2) := by
    refine ⟨opK o vs [] zeroC φ (fun v _ _ => some v) none, fun H2 nx2 => ?_⟩
    have e1 : (opK o vs [] zeroC φ (fun v _ _ => some v) none).map (fun v => (v, H2, nx2)) = opK o vs [] zeroC φ (fun v _ _ => some (v, H2, nx2)) none := opK_nat (fun x : Option AV => x.map fun v => (v, H2, nx2)) o vs [] zeroC φ _ _
    rw [e1]
    unfold opD
    cases o <;> first | (simp [cls] at h0; done) | skip
    all_goals
      rcases vs with _ | ⟨a, _ | ⟨b, _ | ⟨c, _ | ⟨d, vs⟩⟩⟩⟩ <;> rfl
  obtain ⟨r, hr⟩ := key
  rw [hr] at h
  cases r with
  | none => cases h
  | some u => simp at h; obtain ⟨rfl, rfl, rfl⟩ := h; exact ⟨rfl, rfl, fun H2 nx2 => by rw [hr]; rfl⟩
/-- What changes nothing. -/
theorem opD_R {o : AK} (h0 : cls o ≤ 1) {vs : List AV} {H : Heap} {nx : Ctr} {φ : Nat} {v : AV} {H' : Heap} {nx' : Ctr} (h : opD o vs H nx φ = some (v, H', nx')) : H' = H ∧ nx' = nx ∧ ∀ nx2, opD o vs H nx2 φ = some (v, H, nx2) := by
  by_cases h1 : cls o = 0
  · obtain ⟨a, b, c⟩ := opD_T h1 h
    exact ⟨a, b, fun nx2 => c _ _⟩
  · have key : ∃ r : Option AV, ∀ nx2, opD o vs H nx2 φ = r.map fun v => (v, H, nx2) := by
      refine ⟨opK o vs H zeroC φ (fun v _ _ => some v) none, fun nx2 => ?_⟩
      have e1 : (opK o vs H zeroC φ (fun v _ _ => some v) none).map (fun v => (v, H, nx2)) = opK o vs H zeroC φ (fun v _ _ => some (v, H, nx2)) none := opK_nat (fun x : Option AV => x.map fun v => (v, H, nx2)) o vs H zeroC φ _ _
      rw [e1]
      unfold opD
      cases o <;> first | (simp [cls] at h0 h1; done) | skip
      all_goals
        rcases vs with _ | ⟨a, _ | ⟨b, _ | ⟨c, _ | ⟨d, vs⟩⟩⟩⟩ <;> rfl
    obtain ⟨r, hr⟩ := key
    rw [hr] at h
    cases r with
    | none => cases h
    | some u => simp at h; obtain ⟨rfl, rfl, rfl⟩ := h; exact ⟨rfl, rfl, fun nx2 => by rw [hr]; rfl⟩
end Go.Ev
