/- An abstract evaluator for compiled Go code: values, heap, operations, control; and the compilation out of the model's code. -/
import Derived.Calls
import Derived.Orders
namespace Go.Ev
set_option linter.unusedVariables false

/-- Abstract values. 'fz': a slice that nobody writes any more, by value; 'ro': a pointer to cells that nobody writes; 'ptr', 'sl': into the abstract heap. -/
inductive AV where
  | int (k : IntKind) (n : Int)
  | bool (b : Bool)
  | str (s : ByteArray)
  | nilp | nils | nilm | nilf | nili
  | ptr (f d g off : Nat)
  | ro (cs : List AV)
  | sl (f d g sz off len : Nat)
  | fz (sz : Nat) (es : List AV) (cap : Option Nat)
  | agg (cs : List AV)
  | tup (vs : List AV)
  | func (f : Nat) (cap : List AV)
  | ifc (t : Nat) (v : AV)
  | any
  deriving Inhabited

inductive AR where
  | t (i : Nat)
  | c (v : AV)

/-- The kinds of compiled operations. -/
inductive AK where
  | mv | pick | bin (o : BinOp) | eqb (neq : Bool) | eqp (neq : Bool) | eqs (neq : Bool) | eqi (neq : Bool) | eqf (neq : Bool) | eqa (neq : Bool) | not | neg | cpl
  | conv (k : IntKind) | s2b | b2s | s2s
  | box | boxm (key : Nat) | new (zero : List AV) (key : Nat)
  | ld1 | ldn (n : Nat) | ld1r | ldnr (n : Nat) | ldk (key : Nat) | ldnk (n key : Nat) | st (n : Nat) | stk (n key : Nat) | fa (off : Nat) | fld1 (off : Nat) | fldn (off n : Nat)
  | ixS (sz : Nat) | ixP (len sz : Nat) | ixT | ixA1 (len : Nat) | ixAn (len sz : Nat)
  | slc (sz : Nat) (lo hi mx : Bool) | slcT (lo hi : Bool) | slp (len sz : Nat) (lo hi : Bool)
  | len | lenT | cap | app (sz by_ key : Nat) | apps (key : Nat) | lit (sz len : Nat) | litr (sz len : Nat) | litm (sz len key : Nat) | bld (zero : List AV) (ps : List (Nat × Nat))
  | mk (zero : AV) (by_ key : Nat)
  | ext (i : Nat) | nck | mn | mx | mkf (f : Nat) | ifc (t : Nat)
  | call (f mode : Nat) | callv (mode : Nat) | unk

structure Op where
  d : Option Nat
  g : Option (Nat × Bool)
  o : AK
  x : List AR

/-- At a loop's head: the temporaries that are dead, the rows that nobody reaches any more. -/
structure Mk where
  t : List Bool
  h : List Nat
inductive Cd where
  | skip | reg (ops : List Op) | regf (ops : List Op) (is : List Nat) | seq (a b : Cd) | cond (c : AR) (a b : Cd) | blk (id : Nat) (m : List Bool) (b : Cd) | loop (m : Mk) (b : Cd) | exit (id : Nat) | ret

inductive It where
  | c (c : Cd) | blk (id : Nat) (m : List Bool) | lp (m : Mk) (b : Cd) | ops (l : List Op) | frz (is : List Nat)

/-- The marked temporaries are no more known: nobody reads them. -/
def killM : List Bool → List AV → List AV
  | true :: m, _ :: t => .any :: killM m t
  | false :: m, a :: t => a :: killM m t
  | _, t => t

/-- The next generation of each name. -/
abbrev Ctr := Nat → Nat
def zeroC : Ctr := fun _ => 0
def bump (nx : Ctr) (d e : Nat) : Nat := if e = d then nx d + 1 else nx e
abbrev Heap := List (Nat × Nat × Nat × Option (List AV))

def getT : List AV → Nat → AV
  | [], _ => .any
  | a :: _, 0 => a
  | _ :: l, n + 1 => getT l n
def setT : List AV → Nat → AV → List AV
  | [], _, _ => []
  | _ :: l, 0, v => v :: l
  | a :: l, n + 1, v => a :: setT l n v
def put (t : List AV) : Option Nat → AV → List AV
  | none, _ => t
  | some d, v => setT t d v
def ev (t : List AV) : AR → AV
  | .t i => getT t i
  | .c v => v
def evs (t : List AV) : List AR → List AV
  | [] => []
  | x :: l => ev t x :: evs t l
/-- A value's cells; of what is not known: none. -/
def cells : AV → List AV
  | .agg cs => cs
  | .any => []
  | v => [v]
def scal1 : AV → Bool
  | .agg _ | .tup _ | .any => false
  | _ => true
/-- What leads to no memory. -/
def scal : AV → Bool
  | .int _ _ | .bool _ | .str _ | .nilp | .nils | .nilm | .nilf | .nili => true
  | .tup vs => vs.all fun v => match v with
    | .int _ _ | .bool _ | .str _ | .nilp | .nils | .nilm | .nilf | .nili => true
    | _ => false
  | _ => false

def find : Heap → Nat → Nat → Option (Nat × Option (List AV))
  | [], _, _ => none
  | (f', d', g, b) :: H, f, d => if d' = d ∧ f' = f then some (g, b) else find H f d
def setB : Heap → Nat → Nat → Nat → Option (List AV) → Heap
  | [], f, d, g, b => [(f, d, g, b)]
  | (f', d', g', b') :: H, f, d, g, b => if d' = d ∧ f' = f then (f, d, g, b) :: H else if d < d' then (f, d, g, b) :: (f', d', g', b') :: H else (f', d', g', b') :: setB H f d g b
def getB {α : Type} : Heap → Nat → Nat → Nat → (List AV → α) → α → α
  | [], _, _, _, _, bad => bad
  | (f', d', g', b) :: H, f, d, g, ok, bad =>
    if d' = d ∧ f' = f then (if g' = g then (match b with | some cs => ok cs | none => bad) else bad) else getB H f d g ok bad
/-- Without these entries. -/
def keyIn : List (Nat × Nat) → Nat → Nat → Bool
  | [], _, _ => false
  | (f', d') :: ks, f, d => if d' = d ∧ f' = f then true else keyIn ks f d
def kill (ids : List (Nat × Nat)) : Heap → Heap
  | [] => []
  | (f, d, g, b) :: H => if keyIn ids f d = true then kill ids H else (f, d, g, b) :: kill ids H

/-- Without the rows of these names of one frame. -/
def keysOf (φ : Nat) : List Nat → List (Nat × Nat)
  | [] => []
  | d :: ds => (φ, d) :: keysOf φ ds
def dropK (φ : Nat) (ds : List Nat) (H : Heap) : Heap := match ds with
  | [] => H
  | ds => kill (keysOf φ ds) H

def chunkN (sz : Nat) : Nat → List AV → List AV
  | 0, _ => []
  | n + 1, cs => .agg (cs.take sz) :: chunkN sz n (cs.drop sz)
def chunk (sz len : Nat) (cs : List AV) : List AV := if sz = 1 then cs else chunkN sz len cs

def mapK {α : Type} (f : AV → (AV → List (Nat × Nat) → α) → α → α) : List AV → (List AV → List (Nat × Nat) → α) → α → α
  | [], ok, _ => ok [] []
  | c :: cs, ok, bad => f c (fun c' i => mapK f cs (fun cs' j => ok (c' :: cs') (i ++ j)) bad) bad
/-- A value that nobody writes any more; the entries that it takes along. -/
def frzK {α : Type} : Nat → Heap → AV → (AV → List (Nat × Nat) → α) → α → α
  | 0, _, _, _, bad => bad
  | n + 1, H, v, ok, bad => match v with
    | .sl f d g sz off len => getB H f d g (fun cs =>
        if (off + len) * sz ≤ cs.length then mapK (frzK n H) ((cs.drop (off * sz)).take (len * sz)) (fun cs' i => ok (.fz sz (chunk sz len cs') none) ((f, d) :: i)) bad else bad) bad
    | .agg cs => mapK (frzK n H) cs (fun cs' i => ok (.agg cs') i) bad
    | .tup cs => mapK (frzK n H) cs (fun cs' i => ok (.tup cs') i) bad
    | .ifc t v => frzK n H v (fun v' i => ok (.ifc t v') i) bad
    | .func f cs => mapK (frzK n H) cs (fun cs' i => ok (.func f cs') i) bad
    | .ro cs => mapK (frzK n H) cs (fun cs' i => ok (.ro cs') i) bad
    | .ptr .. | .any => bad
    | v => ok v []

def ibits (o : BinOp) (k : IntKind) (x y : Int) : Int :=
  let a := BitVec.ofInt k.bits x
  let b := BitVec.ofInt k.bits y
  match o with
  | .and => k.wrap (a &&& b).toNat
  | .or => k.wrap (a ||| b).toNat
  | .xor => k.wrap (a ^^^ b).toNat
  | _ => k.wrap (a &&& ~~~b).toNat
def ishl (k : IntKind) (x y : Int) : Int := k.wrap (x * 2 ^ (min y.toNat k.bits))
def ishr (k : IntKind) (x y : Int) : Int := x.fdiv (2 ^ (min y.toNat k.bits))

def intK {α : Type} (o : BinOp) (k : IntKind) (a b : Int) (ok : AV → α) (bad : α) : α :=
  match o with
  | .add => ok (.int k (k.wrap (a + b)))
  | .sub => ok (.int k (k.wrap (a - b)))
  | .mul => ok (.int k (k.wrap (a * b)))
  | .quo => if b = 0 then bad else ok (.int k (k.wrap (a.tdiv b)))
  | .rem => if b = 0 then bad else ok (.int k (a.tmod b))
  | .and | .or | .xor | .andNot => ok (.int k (ibits o k a b))
  | .shl | .shr => bad
  | .eql => ok (.bool (decide (a = b)))
  | .neq => ok (.bool (!decide (a = b)))
  | .lss => ok (.bool (decide (a < b)))
  | .leq => ok (.bool (decide (a ≤ b)))
  | .gtr => ok (.bool (decide (b < a)))
  | .geq => ok (.bool (decide (b ≤ a)))
def strK {α : Type} (o : BinOp) (x y : ByteArray) (ok : AV → α) (bad : α) : α :=
  match o with
  | .add => if (x.size + y.size : Nat) ≤ 1099511627776 then ok (.str (x ++ y)) else bad
  | .eql => ok (.bool (x.toList == y.toList))
  | .neq => ok (.bool !(x.toList == y.toList))
  | .lss => ok (.bool (Op.bytesLess x.toList y.toList))
  | .leq => ok (.bool (Op.bytesLess x.toList y.toList || x.toList == y.toList))
  | .gtr => ok (.bool !(Op.bytesLess x.toList y.toList || x.toList == y.toList))
  | .geq => ok (.bool !(Op.bytesLess x.toList y.toList))
  | _ => bad
def binK {α : Type} (o : BinOp) (x y : AV) (ok : AV → α) (bad : α) : α :=
  match x, y with
  | .int k a, .int k' b => match o with
    | .shl => if b < 0 then bad else ok (.int k (ishl k a b))
    | .shr => if b < 0 then bad else ok (.int k (ishr k a b))
    | o => if k = k' then intK o k a b ok bad else bad
  | .str a, .str b => strK o a b ok bad
  | _, _ => bad
/-- Is a pointer nil? -/
def nilpK {α : Type} (x : AV) (ok : Bool → α) (bad : α) : α :=
  match x with
  | .nilp => ok true
  | .ptr .. | .ro _ => ok false
  | _ => bad
def nilsK {α : Type} (x : AV) (ok : Bool → α) (bad : α) : α :=
  match x with
  | .nils => ok true
  | .sl .. => ok false
  | .fz _ (_ :: _) _ => ok false
  | .fz _ [] (some _) => ok false
  | _ => bad
def nilfK {α : Type} (x : AV) (ok : Bool → α) (bad : α) : α :=
  match x with
  | .nilf => ok true
  | .func .. => ok false
  | _ => bad
def niliK {α : Type} (x : AV) (ok : Bool → α) (bad : α) : α :=
  match x with
  | .nili => ok true
  | .ifc .. => ok false
  | _ => bad
/-- Two rows of whole numbers. -/
def eqIntsK {α : Type} : List AV → List AV → (Bool → α) → α → α
  | [], [], ok, _ => ok true
  | .int k a :: x, .int k' b :: y, ok, bad => if k = k' then eqIntsK x y (fun r => ok (decide (a = b) && r)) bad else bad
  | _, _, _, bad => bad

def bytesOf : List AV → List UInt8
  | [] => []
  | .int _ n :: l => UInt8.ofNat n.toNat :: bytesOf l
  | _ :: l => 0 :: bytesOf l
def isBytes (l : List AV) : Bool := l.all fun x => match x with | .int .u8 n => decide (0 ≤ n ∧ n < 256) | _ => false
def avBytes (s : ByteArray) : List AV := s.data.toList.map fun b => .int .u8 b.toNat

/-- The parts' cells laid over zero cells. -/
def fillK {α : Type} : List (Nat × Nat) → List AV → List AV → (List AV → α) → α → α
  | [], [], cs, ok, _ => ok cs
  | (off, n) :: ps, v :: vs, cs, ok, bad =>
    if (cells v).length = n ∧ off + n ≤ cs.length then fillK ps vs (cs.take off ++ cells v ++ cs.drop (off + n)) ok bad else bad
  | _, _, _, _, bad => bad
/-- Elements of one size. -/
def allSz (sz : Nat) : List AV → Bool
  | [] => true
  | e :: l => (cells e).length == sz && (cells e).all scal1 && allSz sz l
def catCells : List AV → List AV
  | [] => []
  | e :: l => cells e ++ catCells l
def bndK {α : Type} (x : AV) (m : Nat) (ok : Nat → α) (bad : α) : α :=
  match x with
  | .int _ n => if 0 ≤ n ∧ n ≤ (m : Int) then ok n.toNat else bad
  | _ => bad
/-- A cut's bounds: lo, hi, max, as far as they are told. -/
def cutK {α : Type} (len : Nat) (lim : Nat) (lo hi mx : Bool) (vs : List AV) (ok : Nat → Nat → Option Nat → α) (bad : α) : α :=
  match lo, hi, mx, vs with
  | false, false, false, [] => ok 0 len none
  | true, false, false, [l] => bndK l len (fun l => ok l len none) bad
  | false, true, false, [h] => bndK h lim (fun h => ok 0 h none) bad
  | true, true, false, [l, h] => bndK h lim (fun h => bndK l h (fun l => ok l h none) bad) bad
  | false, true, true, [h, m] => bndK m lim (fun m => bndK h m (fun h => ok 0 h (some m)) bad) bad
  | true, true, true, [l, h, m] => bndK m lim (fun m => bndK h m (fun h => bndK l h (fun l => ok l h (some m)) bad) bad) bad
  | _, _, _, _ => bad

/-- The room of a cut; of what may be nil no room is told: what has a known room is not nil. -/
def capOf (es : List AV) (c m : Option Nat) (l : Nat) : Option Nat :=
  match es, c, m with
  | [], none, _ => none
  | _, _, some m => some (m - l)
  | _, some c, none => some (c - l)
  | _, none, none => none

/-- One row behind another. -/
def appK {α : Type} (sz by_ key : Nat) (x y : AV) (H : Heap) (nx : Ctr) (φ : Nat) (ok : AV → Heap → Ctr → α) (bad : α) : α :=
  let news {β : Type} (k : Nat → List AV → β) (b : β) : β := match y with
    | .nils => k 0 []
    | .fz sz' es _ => if sz' = sz then k es.length (catCells es) else b
    | .sl f d g sz' off len => if sz' = sz then getB H f d g (fun cs => if (off + len) * sz ≤ cs.length then k len ((cs.drop (off * sz)).take (len * sz)) else b) b else b
    | _ => b
  news (fun m ns => match x with
    | .nils => if m = 0 then ok .nils H nx else if m * by_ ≤ 1099511627776 ∧ m ≤ 1099511627776 then ok (.sl φ key (nx key) sz 0 m) (setB H φ key (nx key) (some ns)) (bump nx key) else bad
    | .fz sz' es c' => if m = 0 then ok (.fz sz' es c') H nx else (match c' with
      | some c => if c < es.length + m ∧ sz' = sz ∧ (es.length + m) * by_ ≤ 1099511627776 ∧ es.length + m ≤ 1099511627776 then ok (.sl φ key (nx key) sz 0 (es.length + m)) (setB H φ key (nx key) (some (catCells es ++ ns))) (bump nx key) else bad
      | none => bad)
    | .sl f d g sz' off len => if sz' = sz ∧ off = 0 ∧ (len + m) * by_ ≤ 1099511627776 ∧ len + m ≤ 1099511627776 then
        getB H f d g (fun cs => if cs.length = len * sz then ok (.sl f d (nx d) sz 0 (len + m)) (setB H f d (nx d) (some (cs ++ ns))) (bump nx d) else bad) bad else bad
    | _ => bad) bad

/-- One operation (no call) upon its operands' values. -/
def opK {α : Type} (o : AK) (vs : List AV) (H : Heap) (nx : Ctr) (φ : Nat) (ok : AV → Heap → Ctr → α) (bad : α) : α :=
  match o, vs with
  | .mv, [x] => ok x H nx
  | .pick, [c, a, b] => match c with | .bool p => if p = true then ok a H nx else ok b H nx | _ => bad
  | .bin o, [x, y] => binK o x y (fun v => ok v H nx) bad
  | .eqb n, [x, y] => match x, y with | .bool a, .bool b => ok (.bool (if n = true then !(a == b) else a == b)) H nx | _, _ => bad
  | .eqp n, [x, y] => match y with
    | .nilp => nilpK x (fun b => ok (.bool (if n = true then !b else b)) H nx) bad
    | _ => bad
  | .eqs n, [x, y] => match y with
    | .nils => nilsK x (fun b => ok (.bool (if n = true then !b else b)) H nx) bad
    | _ => bad
  | .eqf n, [x, y] => match y with
    | .nilf => nilfK x (fun b => ok (.bool (if n = true then !b else b)) H nx) bad
    | _ => bad
  | .eqi n, [x, y] => match y with
    | .nili => niliK x (fun b => ok (.bool (if n = true then !b else b)) H nx) bad
    | _ => bad
  | .not, [x] => match x with | .bool b => ok (.bool (!b)) H nx | _ => bad
  | .neg, [x] => match x with | .int k n => ok (.int k (k.wrap (0 - n))) H nx | _ => bad
  | .cpl, [x] => match x with | .int k n => ok (.int k (ibits .xor k (if k.signed then -1 else k.max) n)) H nx | _ => bad
  | .conv k, [x] => match x with | .int _ n => ok (.int k (k.wrap n)) H nx | _ => bad
  | .s2b, [x] => match x with | .str s => if s.size ≤ 1099511627776 then ok (.fz 1 (avBytes s) none) H nx else bad | _ => bad
  | .b2s, [x] => match x with
    | .nils => ok (.str ⟨#[]⟩) H nx
    | .fz sz es _ => if sz = 1 ∧ isBytes es = true then ok (.str ⟨(bytesOf es).toArray⟩) H nx else bad
    | .sl f d g sz off len => getB H f d g (fun cs => if sz = 1 ∧ off + len ≤ cs.length ∧ isBytes ((cs.drop off).take len) = true then ok (.str ⟨(bytesOf ((cs.drop off).take len)).toArray⟩) H nx else bad) bad
    | _ => bad
  | .box, [x] => if scal1 x = true ∨ (cells x).length ≠ 0 then ok (.ro (cells x)) H nx else bad
  | .boxm key, [x] => if (cells x).length ≠ 0 ∧ (cells x).all scal1 = true then ok (.ptr φ key (nx key) 0) (setB H φ key (nx key) (some (cells x))) (bump nx key) else bad
  | .new z key, [] => ok (.ptr φ key (nx key) 0) (setB H φ key (nx key) (some z)) (bump nx key)
  | .ld1, [x] => match x with
    | .ro (c :: _) => ok c H nx
    | .ptr f d g off => getB H f d g (fun cs => match cs.drop off with | c :: _ => ok c H nx | [] => bad) bad
    | _ => bad
  | .ldn n, [x] => match x with
    | .ro cs => if n ≤ cs.length then ok (.agg (cs.take n)) H nx else bad
    | .ptr f d g off => getB H f d g (fun cs => if off + n ≤ cs.length then ok (.agg ((cs.drop off).take n)) H nx else bad) bad
    | _ => bad
  | .ld1r, [x] => match x with
    | .ro (c :: _) => ok c H nx
    | _ => bad
  | .ldnr n, [x] => match x with
    | .ro cs => if n ≤ cs.length then ok (.agg (cs.take n)) H nx else bad
    | _ => bad
  | .ldk key, [x] => match x with
    | .ptr f d g off => if d = key ∧ f = φ then (getB H f d g (fun cs => match cs.drop off with | c :: _ => ok c H nx | [] => bad) bad) else bad
    | _ => bad
  | .ldnk n key, [x] => match x with
    | .ptr f d g off => if d = key ∧ f = φ then (getB H f d g (fun cs => if off + n ≤ cs.length then ok (.agg ((cs.drop off).take n)) H nx else bad) bad) else bad
    | _ => bad
  | .s2s, [x] => match x with
    | .sl f d g sz off len => getB H f d g (fun cs => if sz = 1 ∧ 0 < len ∧ off + len ≤ cs.length ∧ isBytes ((cs.drop off).take len) = true then ok (.fz 1 ((cs.drop off).take len) none) (kill [(f, d)] H) nx else bad) bad
    | _ => bad
  | .st n, [x, v] => match x with
    | .ptr f d g off => getB H f d g (fun cs => if (cells v).length = n ∧ (cells v).all scal1 = true ∧ off + n ≤ cs.length then ok .any (setB H f d g (some (cs.take off ++ cells v ++ cs.drop (off + n)))) nx else bad) bad
    | _ => bad
  | .stk n key, [x, v] => match x with
    | .ptr f d g off => if d = key ∧ f = φ then (getB H f d g (fun cs => if (cells v).length = n ∧ (cells v).all scal1 = true ∧ off + n ≤ cs.length then ok .any (setB H f d g (some (cs.take off ++ cells v ++ cs.drop (off + n)))) nx else bad) bad) else bad
    | _ => bad
  | .fa off, [x] => match x with
    | .ro cs => if off < cs.length then ok (.ro (cs.drop off)) H nx else bad
    | .ptr f d g o => ok (.ptr f d g (o + off)) H nx
    | _ => bad
  | .fld1 off, [x] => match x with | .agg cs => (match cs.drop off with | c :: _ => ok c H nx | [] => bad) | _ => bad
  | .fldn off n, [x] => match x with | .agg cs => if off + n ≤ cs.length then ok (.agg ((cs.drop off).take n)) H nx else bad | _ => bad
  | .ixS sz, [x, i] => match i with
    | .int _ n => if n < 0 then bad else match x with
      | .fz sz' es _ => if sz' = sz then (match es[n.toNat]? with | some e => ok (.ro (cells e)) H nx | none => bad) else bad
      | .sl f d g sz' off len => if sz' = sz ∧ n.toNat < len then ok (.ptr f d g ((off + n.toNat) * sz)) H nx else bad
      | _ => bad
    | _ => bad
  | .ixP len sz, [x, i] => match i with
    | .int _ n => if 0 ≤ n ∧ n < (len : Int) then match x with
      | .ro cs => if n.toNat * sz < cs.length then ok (.ro (cs.drop (n.toNat * sz))) H nx else bad
      | .ptr f d g o => ok (.ptr f d g (o + n.toNat * sz)) H nx
      | _ => bad else bad
    | _ => bad
  | .ixT, [x, i] => match x, i with
    | .str s, .int _ n => if n < 0 then bad else match s.data.toList[n.toNat]? with | some b => ok (.int .u8 b.toNat) H nx | none => bad
    | _, _ => bad
  | .ixA1 len, [x, i] => match x, i with
    | .agg cs, .int _ n => if 0 ≤ n ∧ n < (len : Int) then match cs[n.toNat]? with | some c => ok c H nx | none => bad else bad
    | _, _ => bad
  | .slc sz lo hi mx, x :: bs => match x with
    | .nils => cutK 0 0 lo hi mx bs (fun l h m => if l = 0 ∧ h = 0 ∧ (m = none ∨ m = some 0) then ok .nils H nx else bad) bad
    | .fz sz' es c => if sz' = sz then cutK es.length es.length lo hi mx bs (fun l h m => ok (.fz sz ((es.take h).drop l) (capOf es c m l)) H nx) bad else bad
    | .sl f d g sz' off len => if sz' = sz ∧ mx = false then cutK len len lo hi mx bs (fun l h _ => ok (.sl f d g sz (off + l) (h - l)) H nx) bad else bad
    | _ => bad
  | .slcT lo hi, x :: bs => match x with
    | .str s => cutK s.size s.size lo hi false bs (fun l h _ => ok (.str (s.extract l h)) H nx) bad
    | _ => bad
  | .lenT, [x] => match x with
    | .str s => ok (.int .i64 s.size) H nx
    | _ => bad
  | .len, [x] => match x with
    | .nils => ok (.int .i64 0) H nx
    | .fz _ es _ => ok (.int .i64 es.length) H nx
    | .sl _ _ _ _ _ len => ok (.int .i64 len) H nx
    | _ => bad
  | .app sz by_ key, [x, y] => appK sz by_ key x y H nx φ ok bad
  | .apps key, [x, y] => match y with | .str s => appK 1 1 key x (.fz 1 (avBytes s) none) H nx φ ok bad | _ => bad
  | .lit sz len, xs => if xs.length = len ∧ allSz sz xs = true then mapK (frzK 9 H) xs (fun xs' i => match i with | [] => ok (.fz sz xs' (some len)) H nx | _ => bad) bad else bad
  | .litr sz len, xs => if xs.length = len ∧ allSz sz xs = true then mapK (frzK 9 []) xs (fun xs' i => match i with | [] => ok (.fz sz xs' (some len)) H nx | _ => bad) bad else bad
  | .litm sz len key, xs => if xs.length = len ∧ allSz sz xs = true then ok (.sl φ key (nx key) sz 0 len) (setB H φ key (nx key) (some (catCells xs))) (bump nx key) else bad
  | .bld z ps, xs => fillK ps xs z (fun cs => ok (.agg cs) H nx) bad
  | .mk z by_ key, [l] => match l with
    | .int .i64 n => if 0 ≤ n ∧ n * by_ ≤ 1099511627776 ∧ n ≤ 1099511627776 then ok (.sl φ key (nx key) 1 0 n.toNat) (setB H φ key (nx key) (some (List.replicate n.toNat z))) (bump nx key) else bad
    | _ => bad
  | .ext i, [x] => match x with | .tup vs => (match vs.drop i with | v :: _ => ok v H nx | [] => bad) | _ => bad
  | .nck, [x] => match x with | .ptr .. | .ro _ | .func .. => ok x H nx | _ => bad
  | .mn, [x, y] => match x, y with | .int k a, .int _ b => ok (.int k (if b < a then b else a)) H nx | _, _ => bad
  | .mx, [x, y] => match x, y with | .int k a, .int _ b => ok (.int k (if b > a then b else a)) H nx | _, _ => bad
  | .mkf f, caps => ok (.func f caps) H nx
  | .ifc t, [x] => ok (.ifc t x) H nx
  | _, _ => bad

inductive Out where
  | more (k : List It) (t : List AV) (H : Heap) (nx : Ctr)
  | call (f mode : Nat) (vs : List AV) (ids : List (Nat × Nat)) (d : Option Nat) (l : List Op) (k : List It) (t : List AV) (H : Heap) (nx : Ctr)
  | done (t : List AV) (H : Heap) (nx : Ctr)
  | fall (t : List AV) (H : Heap) (nx : Ctr)
  | bad

def exitK {α : Type} (id : Nat) : List It → (List It → List Bool → α) → α → α
  | [], _, bad => bad
  | .blk i m :: k, ok, bad => if i = id then ok k m else exitK id k ok bad
  | _ :: k, ok, bad => exitK id k ok bad
/-- The value, nobody writing it any more, if these entries are all that it takes along. -/
def thaw (ids : List (Nat × Nat)) (H : Heap) (v : AV) : AV := frzK 9 H v (fun v' js => if js.all (fun j => keyIn ids j.1 j.2) = true then v' else v) v
def gets (t : List AV) : List Nat → List AV
  | [] => []
  | i :: l => getT t i :: gets t l
def putAll (t : List AV) : List Nat → List AV → List AV
  | i :: is, v :: vs => putAll (setT t i v) is vs
  | _, _ => t
def frzT (ids : List (Nat × Nat)) (H : Heap) : List AV → List AV
  | [] => []
  | v :: t => thaw ids H v :: frzT ids H t

/-- One operation, or the call that it is. -/
def execK (φ : Nat) (o : Op) (l : List Op) (k : List It) (t : List AV) (H : Heap) (nx : Ctr) (go : List It → List AV → Heap → Ctr → Out) : Out :=
  match o.o, evs t o.x with
  | .call f mode, vs => match mode with
    | 2 => .call f 2 vs [] o.d l k t H nx
    | 4 => mapK (frzK 9 []) vs (fun vs' i => match i with | [] => .call f 0 vs' [] o.d l k t H nx | _ => .bad) .bad
    | m => mapK (frzK 9 H) vs (fun vs' ids => .call f m vs' ids o.d l k t H nx) .bad
  | .callv mode, v :: vs => match v with
    | .func f caps => match mode with
      | 2 => .call f 2 (vs ++ caps) [] o.d l k t H nx
      | 3 => .bad
      | m => mapK (frzK 9 H) (vs ++ caps) (fun vs' ids => .call f m vs' ids o.d l k t H nx) .bad
    | _ => .bad
  | ak, vs => opK ak vs H nx φ (fun v H nx => go (.ops l :: k) (put t o.d v) H nx) .bad

/-- One step; 'go' goes on. -/
def advStep (φ : Nat) (go : List It → List AV → Heap → Ctr → Out) (its : List It) (t : List AV) (H : Heap) (nx : Ctr) : Out :=
  match its with
  | [] => .fall t H nx
  | .ops [] :: k => go k t H nx
  | .ops (o :: l) :: k => match o.g with
    | none => execK φ o l k t H nx (go)
    | some (j, w) => match getT t j with
      | .bool b => if b = w then execK φ o l k t H nx (go) else go (.ops l :: k) (put t o.d (.tup [])) H nx
      | .tup [] => go (.ops l :: k) (put t o.d (.tup [])) H nx
      | _ => .bad
  | .blk _ m :: k => go k (killM m t) H nx
  | .frz is :: k => mapK (frzK 9 H) (gets t is) (fun vs ids => go k (putAll t is vs) (kill ids H) nx) .bad
  | .lp m b :: k => .more (.lp m b :: k) (killM m.t t) (dropK φ m.h H) nx
  | .c c :: k => match c with
    | .skip => go k t H nx
    | .reg ops => go (.ops ops :: k) t H nx
    | .regf ops is => go (.ops ops :: .frz is :: k) t H nx
    | .seq a b => go (.c a :: .c b :: k) t H nx
    | .cond c a b => match ev t c with
      | .bool x => if x = true then go (.c a :: k) t H nx else go (.c b :: k) t H nx
      | _ => .bad
    | .blk i m b => go (.c b :: .blk i m :: k) t H nx
    | .loop m b => .more (.lp m b :: k) (killM m.t t) (dropK φ m.h H) nx
    | .exit i => exitK i k (fun k' m => go k' (killM m t) H nx) .bad
    | .ret => .done t H nx
def adv : Nat → Nat → List It → List AV → Heap → Ctr → Out
  | 0, _, k, t, H, nx => .more k t H nx
  | n + 1, φ, its, t, H, nx => advStep φ (adv n φ) its t H nx
end Go.Ev
