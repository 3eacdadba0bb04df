/-
  AN EVALUATOR for the model's sequential code over AN ABSTRACT HEAP: what a call with known arguments does, ON EVERY TAPE. Its blocks have numbers of their own; a number may be unknown, and so may a slice's capacity.
  This text: the abstract values and heaps, and what each operation makes of them. It is made to be run by the kernel: trees by digits, recursors, small bodies.
-/
import Derived.Test.YtdcondepcjijnaaGreatRows
import Derived.WalkKit
namespace Go.Ev
noncomputable section

/-- A map whose keys are ways: lists of digits. -/
inductive T (α : Type) where
  | e
  | n (l : T α) (v : Option α) (r : T α)

abbrev Path := List Bool
def T.get {α : Type} (t : T α) : Path → Option α :=
  T.rec (fun _ => none) (fun _ v _ gl gr k => List.rec v (fun b k' _ => Bool.rec (gr k') (gl k') b) k) t

def T.one {α : Type} (x : α) : Path → T α :=
  List.rec (.n .e (some x) .e) (fun b _ go => Bool.rec (.n .e none go) (.n go none .e) b)

def T.put {α : Type} (t : T α) (k : Path) (x : α) : T α :=
  T.rec (fun k => T.one x k) (fun l v r pl pr k => List.rec (.n l (some x) r) (fun b k' _ => Bool.rec (.n l v (pr k')) (.n (pl k') v r) b) k) t k

/-- The digits of a number. -/
def pathF (f : Nat) : Nat → Path :=
  Nat.rec (fun _ => []) (fun _ go k => Bool.rec (Bool.rec (false :: go (Nat.pred (Nat.div k 2))) (true :: go (Nat.div k 2)) (Nat.beq (Nat.mod k 2) 1)) [] (Nat.beq k 0)) f
def pathN (n : Nat) : Path := pathF n n

inductive AV where
  | any
  | bool (b : Bool)
  | int (k : IntKind) (n : Int)
  | top (k : IntKind)
  | str (s : List Nat)
  | ptr (a : Option (Nat × Nat))
  | slice (a : Option (Nat × Nat)) (len cap : Nat) (exact : Bool)
  | map (r : Option Nat)
  | func (fn : Fn) (first captured : List AV)
  | nilFunc
  | nilIface
  | agg (cs : List AV)
  | tuple (cs : List AV)
  /-- a whole number between two bounds -/
  | rng (k : IntKind) (lo hi : Int)
  /-- a text of unknown bytes: how long it is at least, at most -/
  | strU (lo hi : Nat)
  /-- some bytes, somewhere in a block of bytes: how many at least, at most -/
  | sliceU (i : Nat) (lo hi : Nat)
  /-- some bytes of a block that never turns, or nil -/
  | sliceF (i : Nat) (lo hi : Nat)
  /-- the like; they are just as many as i's own number tells -/
  | sliceT (i lo hi : Nat)
  /-- a whole number between two bounds; at most i's own number and c -/
  | rngT (k : IntKind) (lo hi : Int) (i c : Nat)
  /-- as sliceU; at least i's own number and c -/
  | sliceV (q lo hi i c : Nat)
  deriving Inhabited

inductive AObj where
  /-- cells one by one; not exact: behind them there may be more -/
  | flat (exact : Bool) (elem : TypeId) (str : Bool) (l : List AV)
  /-- n rows of s cells each; those that are not in the tree are d -/
  | tree (elem : TypeId) (s n : Nat) (d : List AV) (c : T (List AV))
  | map (es : List (AV × AV × Nat)) (clock : Nat)
  /-- unknown bytes, as far as any slice goes -/
  | bytes (elem : TypeId)
  /-- it never turns -/
  | fixed
  /-- a walk over a map, over a text -/
  | mIter (m : Option Nat) (since : Nat) (seen : List Nat) (stepped : Nat)
  | sIter (s : List Nat) (pos : Nat)
  | dead

structure Heap where
  next : Nat
  t : T AObj

def orDead : Option AObj → AObj
  | some o => o
  | none => .dead
def Heap.obj (h : Heap) (i : Nat) : AObj := orDead (h.t.get (pathN i))
def Heap.set (h : Heap) (i : Nat) (o : AObj) : Heap := ⟨h.next, h.t.put (pathN i) o⟩
def Heap.new (h : Heap) (o : AObj) : Heap := ⟨Nat.succ h.next, h.t.put (pathN h.next) o⟩

/-- A value of the program's text that bears no address, and is one cell. -/
def ofCell : Value → AV
  | .bool b => .bool b
  | .int k n => .int k n
  | .string s => .str (s.data.toList.map UInt8.toNat)
  | .pointer none => .ptr none
  | .slice none n c => .slice none n c true
  | .map none => .map none
  | .nilFunc => .nilFunc
  | .nilIface => .nilIface
  | _ => .any
def ofValue : Value → AV
  | .agg cs => .agg (cs.toList.map ofCell)
  | .tuple cs => (match cs.toList with | [] => .tuple [] | _ => .any)
  | v => ofCell v

def AV.cells : AV → List AV
  | .agg cs => cs
  | v => [v]

/-- A value that a cell can hold. -/
def AV.oneC : AV → Bool
  | .any => false
  | .agg _ => false
  | .tuple _ => false
  | _ => true

def orD (d : List AV) : Option (List AV) → List AV
  | some l => l
  | none => d
def rowAt (d : List AV) (c : T (List AV)) (i : Nat) : List AV := orD d (c.get (pathN i))
def rowsAt (d : List AV) (c : T (List AV)) (n : Nat) : Nat → List AV :=
  Nat.rec (fun _ => []) (fun _ go i => rowAt d c i ++ go (Nat.succ i)) n

def loadO (o n : Nat) : AObj → Option (List AV)
  | .flat _ _ _ l => bif Nat.ble (o + n) l.length then some ((l.drop o).take n) else none
  | .tree _ s m d c =>
    bif Nat.ble (Nat.mod o s + n) s && Nat.ble (Nat.succ (Nat.div o s)) m then some (((rowAt d c (Nat.div o s)).drop (Nat.mod o s)).take n)
    else bif Nat.beq (Nat.mod o s) 0 && Nat.beq (Nat.mod n s) 0 && Nat.ble (Nat.div o s + Nat.div n s) m then some (rowsAt d c (Nat.div n s) (Nat.div o s)) else none
  | _ => none
def loadN (h : Heap) (i o n : Nat) : Option (List AV) := loadO o n (h.obj i)
def oneL : Option (List AV) → Option AV
  | some [v] => some v
  | _ => none
def load1 (h : Heap) (i o : Nat) : Option AV := oneL (loadN h i o 1)

def allOne : List AV → Bool
  | [] => true
  | v :: r => v.oneC && allOne r

/-- Store cells; into a block whose end is open, also just behind what is known. -/
def storeO (h : Heap) (i o : Nat) (vs : List AV) (beyond : Bool) : AObj → Option Heap
  | .flat ex e st l =>
    bif Nat.ble (o + vs.length) l.length || (beyond && !ex && Nat.ble o l.length) then some (h.set i (.flat ex e st (l.take o ++ vs ++ l.drop (o + vs.length)))) else none
  | .tree e s m d c =>
    bif Nat.ble (Nat.mod o s + vs.length) s && Nat.ble (Nat.succ (Nat.div o s)) m then
      some (h.set i (.tree e s m d (c.put (pathN (Nat.div o s)) ((rowAt d c (Nat.div o s)).take (Nat.mod o s) ++ vs ++ (rowAt d c (Nat.div o s)).drop (Nat.mod o s + vs.length)))))
    else none
  | _ => none
def storeN (h : Heap) (i o : Nat) (vs : List AV) (beyond : Bool) : Option Heap := bif allOne vs then storeO h i o vs beyond (h.obj i) else none

inductive Out where
  | val (v : AV) (h : Heap)
  | skip (h : Heap)
  | enter (f : FuncId) (args : List AV) (h : Heap)
def valE (h : Heap) : Option AV → Option Out
  | some v => some (.val v h)
  | none => none
def skipE : Option Heap → Option Out
  | some h => some (.skip h)
  | none => none
def aggE : Option (List AV) → Option AV
  | some v => some (.agg v)
  | none => none
def unitE : Option Heap → Option Out
  | some h => some (.val (.tuple []) h)
  | none => none

/-! Numbers -/

def ixK : IntKind → Nat
  | .i8 => 0 | .i16 => 1 | .i32 => 2 | .i64 => 3 | .u8 => 4 | .u16 => 5 | .u32 => 6 | .u64 => 7
def limK : IntKind → Nat
  | .i8 => 128 | .i16 => 32768 | .i32 => 2147483648 | .i64 => 9223372036854775808 | .u8 => 256 | .u16 => 65536 | .u32 => 4294967296 | .u64 => 18446744073709551616
def kEq (j k : IntKind) : Bool := Nat.beq (ixK j) (ixK k)
def wrapE (k : IntKind) : Int → Int
  | .ofNat m => bif Nat.ble (limK k) m then k.wrap (.ofNat m) else .ofNat m
  | .negSucc m => k.wrap (.negSucc m)
def ltI : Int → Int → Bool
  | .ofNat a, .ofNat b => Nat.ble (Nat.succ a) b
  | .negSucc _, .ofNat _ => true
  | .ofNat _, .negSucc _ => false
  | .negSucc a, .negSucc b => Nat.ble (Nat.succ b) a
def eqI : Int → Int → Bool
  | .ofNat a, .ofNat b => Nat.beq a b
  | .negSucc a, .negSucc b => Nat.beq a b
  | _, _ => false
def eqB : Bool → Bool → Bool
  | true, b => b
  | false, b => !b
def eqL : List Nat → List Nat → Bool
  | [], [] => true
  | a :: x, b :: y => Nat.beq a b && eqL x y
  | _, _ => false
def ltL : List Nat → List Nat → Bool
  | _, [] => false
  | [], _ :: _ => true
  | a :: x, b :: y => Nat.ble (Nat.succ a) b || (Nat.beq a b && ltL x y)

def binI (op : BinOp) (k : IntKind) (a b : Int) : Option AV :=
  match op with
  | .add => some (.int k (wrapE k (Int.add a b)))
  | .sub => some (.int k (wrapE k (Int.sub a b)))
  | .mul => some (.int k (wrapE k (Int.mul a b)))
  | .quo => bif eqI b 0 then none else some (.int k (wrapE k (Int.tdiv a b)))
  | .rem => bif eqI b 0 then none else some (.int k (Int.tmod a b))
  | .and => some (.int k (wrapE k (BitVec.ofInt k.bits a &&& BitVec.ofInt k.bits b).toNat))
  | .or => some (.int k (wrapE k (BitVec.ofInt k.bits a ||| BitVec.ofInt k.bits b).toNat))
  | .xor => some (.int k (wrapE k (BitVec.ofInt k.bits a ^^^ BitVec.ofInt k.bits b).toNat))
  | .eql => some (.bool (eqI a b))
  | .neq => some (.bool (!eqI a b))
  | .lss => some (.bool (ltI a b))
  | .leq => some (.bool (!ltI b a))
  | .gtr => some (.bool (ltI b a))
  | .geq => some (.bool (!ltI a b))
  | _ => none
def shE (op : BinOp) (k : IntKind) (a : Int) : Int → Option AV
  | .ofNat n => (match op with
    | .shl => some (.int k (wrapE k (Int.mul a (Int.ofNat (Nat.pow 2 (Nat.min n k.bits))))))
    | .shr => some (.int k (Int.fdiv a (Int.ofNat (Nat.pow 2 (Nat.min n k.bits)))))
    | _ => none)
  | _ => none
def isSh : BinOp → Bool
  | .shl => true
  | .shr => true
  | _ => false
def binS (op : BinOp) (a b : List Nat) : Option AV :=
  match op with
  | .add => bif Nat.ble (a.length + b.length) 1099511627776 then some (.str (a ++ b)) else none
  | .eql => some (.bool (eqL a b))
  | .neq => some (.bool (!eqL a b))
  | .lss => some (.bool (ltL a b))
  | .geq => some (.bool (!ltL a b))
  | _ => none
def binQ (op : BinOp) (e : Bool) : Option AV :=
  match op with
  | .eql => some (.bool e)
  | .neq => some (.bool (!e))
  | _ => none
def topB (op : BinOp) (k : IntKind) : Option AV :=
  match op with
  | .or => some (.top k)
  | .and => some (.top k)
  | .xor => some (.top k)
  | .add => some (.top k)
  | .sub => some (.top k)
  | _ => none
def shT (op : BinOp) (k : IntKind) (b : Int) : Option AV := bif ltI b 0 then none else bif isSh op then some (.top k) else none

/-! Numbers between bounds; texts whose length alone is known -/

def loK : IntKind → Int
  | .i8 => -128 | .i16 => -32768 | .i32 => -2147483648 | .i64 => -9223372036854775808 | _ => 0
def hiK : IntKind → Int
  | .i8 => 127 | .i16 => 32767 | .i32 => 2147483647 | .i64 => 9223372036854775807 | .u8 => 255 | .u16 => 65535 | .u32 => 4294967295 | .u64 => 18446744073709551615
def rngE (k : IntKind) (lo hi : Int) : AV := bif ltI lo (loK k) || ltI (hiK k) hi then .top k else .rng k lo hi
def lessR (lo hi lo' hi' : Int) (x y : AV) : Option AV := bif ltI hi lo' then some x else bif ltI lo hi' then none else some y
def leqR (lo hi lo' hi' : Int) (x y : AV) : Option AV := bif ltI lo' hi then (bif ltI hi' lo then some y else none) else some x
def divR (k : IntKind) (lo hi c : Int) : Option AV := bif ltI lo 0 || ltI c 1 then none else some (rngE k (Int.tdiv lo c) (Int.tdiv hi c))
def binR (op : BinOp) (k : IntKind) (lo hi lo' hi' : Int) : Option AV :=
  match op with
  | .add => some (rngE k (Int.add lo lo') (Int.add hi hi'))
  | .sub => some (rngE k (Int.sub lo hi') (Int.sub hi lo'))
  | .quo => bif eqI lo' hi' then divR k lo hi lo' else none
  | .eql => bif ltI hi lo' || ltI hi' lo then some (.bool false) else none
  | .neq => bif ltI hi lo' || ltI hi' lo then some (.bool true) else none
  | .lss => lessR lo hi lo' hi' (.bool true) (.bool false)
  | .geq => lessR lo hi lo' hi' (.bool false) (.bool true)
  | .leq => leqR lo hi lo' hi' (.bool true) (.bool false)
  | .gtr => leqR lo hi lo' hi' (.bool false) (.bool true)
  | _ => none
def shR (op : BinOp) (k : IntKind) (lo hi : Int) : Int → Option AV
  | .ofNat n => (match op with
    | .shr => some (.rng k (Int.fdiv lo (Int.ofNat (Nat.pow 2 (Nat.min n k.bits)))) (Int.fdiv hi (Int.ofNat (Nat.pow 2 (Nat.min n k.bits)))))
    | _ => none)
  | _ => none
def binRR (op : BinOp) (k : IntKind) (lo hi : Int) (k' : IntKind) (lo' hi' : Int) : Option AV := bif isSh op then none else bif kEq k k' then binR op k lo hi lo' hi' else none
def binSU (op : BinOp) (a b c d : Nat) : Option AV :=
  match op with
  | .add => bif Nat.ble (b + d) 1099511627776 then some (.strU (a + c) (b + d)) else none
  | .eql => bif Nat.ble (Nat.succ b) c || Nat.ble (Nat.succ d) a then some (.bool false) else none
  | .neq => bif Nat.ble (Nat.succ b) c || Nat.ble (Nat.succ d) a then some (.bool true) else none
  | _ => none

/-- Two pointers: alike just if they lead to one place of one block; a block that a string may share is not asked. -/
def plainO : AObj → Bool
  | .flat _ _ false (_ :: _) => true
  | _ => false
def eqA (h : Heap) : Option (Nat × Nat) → Option (Nat × Nat) → Option Bool
  | none, none => some true
  | none, some _ => some false
  | some _, none => some false
  | some a, some b =>
    bif Nat.beq a.1 b.1 then some (Nat.beq a.2 b.2)
    else bif plainO (h.obj a.1) && plainO (h.obj b.1) then some false else none
def binQ' (op : BinOp) : Option Bool → Option AV
  | some e => binQ op e
  | none => none

/-- How values of a type are held against each other. -/
inductive EqK where
  | bool
  | ptr
  | sl
  | no
def eqBool (q : EqK) (op : BinOp) (e : Bool) : Option AV := match q with | .bool => binQ op e | _ => none
def eqPtr (q : EqK) (op : BinOp) (e : Option Bool) : Option AV := match q with | .ptr => binQ' op e | _ => none
def eqSl (q : EqK) (op : BinOp) (e : Bool) : Option AV := match q with | .sl => binQ op e | _ => none
def binE (q : EqK) (op : BinOp) (h : Heap) (x y : AV) : Option AV :=
  match x, y with
  | .int k a, .int k' b => bif isSh op then shE op k a b else bif kEq k k' then binI op k a b else none
  | .bool a, .bool b => eqBool q op (eqB a b)
  | .str a, .str b => binS op a b
  | .ptr a, .ptr b => eqPtr q op (eqA h a b)
  | .top k, .int k' b => bif isSh op then shT op k b else bif kEq k k' then topB op k else none
  | .int k _, .top k' => bif kEq k k' && !isSh op then topB op k else none
  | .top k, .top k' => bif kEq k k' && !isSh op then topB op k else none
  | .slice none _ _ _, .slice b _ _ _ => eqSl q op b.isNone
  | .slice (some _) _ _ _, .slice none _ _ _ => eqSl q op false
  | .rng k a b, .int k' c => bif isSh op then shR op k a b c else binRR op k a b k' c c
  | .int k c, .rng k' a b => binRR op k c c k' a b
  | .rng k a b, .rng k' c d => binRR op k a b k' c d
  | .strU a b, .str s => binSU op a b s.length s.length
  | .str s, .strU a b => binSU op s.length s.length a b
  | .strU a b, .strU c d => binSU op a b c d
  | .sliceU _ _ _, .slice none _ _ _ => eqSl q op false
  | .slice none _ _ _, .sliceU _ _ _ => eqSl q op false
  | .sliceF _ a _, .slice none _ _ _ => bif Nat.ble 1 a then eqSl q op false else none
  | .slice none _ _ _, .sliceF _ a _ => bif Nat.ble 1 a then eqSl q op false else none
  | _, _ => none

def untag : AV → AV
  | .sliceT i a b => .sliceF i a b
  | .rngT k a b _ _ => .rng k a b
  | .sliceV q a b _ _ => .sliceU q a b
  | v => v
def isT : AV → Bool
  | .sliceT _ _ _ => true
  | .rngT _ _ _ _ _ => true
  | .sliceV _ _ _ _ _ => true
  | _ => false
def binT (q : EqK) (op : BinOp) (h : Heap) (x y : AV) : Option AV := bif isT x || isT y then binE q op h (untag x) (untag y) else binE q op h x y

def unE (op : UnOp) (x : AV) : Option AV :=
  match op, x with
  | .neg, .int k n => some (.int k (wrapE k (Int.sub 0 n)))
  | .xor, .int k n => some (.int k (wrapE k (BitVec.ofInt k.bits (if k.signed then -1 else k.max) ^^^ BitVec.ofInt k.bits n).toNat))
  | .xor, .top k => some (.top k)
  | .not, .bool b => some (.bool !b)
  | _, _ => none

/-! Types, as the program has them -/
section
variable (P : Program)

def isAggB (t : TypeId) : Bool := match P.underlying t with | some (.struct _) => true | some (.array _ _) => true | _ => false
def szOf (t : TypeId) : Option Nat := (P.info? t).map (·.size)
def zeroOf (t : TypeId) : Option AV := match P.info? t with | some i => (match i.zero with | some v => some (ofValue v) | none => none) | none => none

def bytesOfAV : List AV → Option (List Nat)
  | [] => some []
  | .int .u8 (.ofNat n) :: r => (match bytesOfAV r with | some l => bif Nat.ble 256 n then none else some (n :: l) | none => none)
  | _ => none
def ofBytes (s : List Nat) : List AV := s.map fun b => .int .u8 (.ofNat b)
def strE : Option (List Nat) → Option AV
  | some l => some (.str l)
  | none => none
def bytesBind : Option (List AV) → Option (List Nat)
  | some l => bytesOfAV l
  | none => none
def markO (h : Heap) (i : Nat) : AObj → Option Heap
  | .flat ex e _ l => some (h.set i (.flat ex e true l))
  | _ => none
def cvSS (x : AV) : Option Heap → Option Out
  | some h => some (.val x h)
  | none => none

inductive CvK where
  | int (k : IntKind)
  | same
  | s2b (e : TypeId)
  | b2s
  | sl
  | no
def cvK (src dst : TypeId) : CvK :=
  match P.underlying src, P.underlying dst with
  | some (.int _), some (.int k) => .int k
  | some .string, some .string => .same
  | some .string, some (.slice e) => (match P.underlying e, szOf P e with | some (.int .u8), some 1 => .s2b e | _, _ => .no)
  | some (.slice e), some .string => (match P.underlying e with | some (.int .u8) => .b2s | _ => .no)
  | some (.slice _), some (.slice e) => (match P.underlying e with | some (.int .u8) => bif Nat.beq src dst then .sl else .no | _ => .no)
  | _, _ => .no
def convE (h : Heap) (c : CvK) (x : AV) : Option Out :=
  match c, x with
  | .int k, .int _ n => some (.val (.int k (wrapE k n)) h)
  | .int k, .top _ => some (.val (.top k) h)
  | .int k, .rng _ a b => some (.val (rngE k a b) h)
  | .same, .strU a b => some (.val (.strU a b) h)
  | .s2b e, .strU a b => some (.val (.sliceU h.next a b) (h.new (.bytes e)))
  | .same, .str s => some (.val (.str s) h)
  | .s2b e, .str s => some (.val (.slice (some (h.next, 0)) s.length s.length false) (h.new (.flat false e true (ofBytes s))))
  | .b2s, .slice none _ _ _ => some (.val (.str []) h)
  | .b2s, .slice (some a) n _ _ => valE h (strE (bytesBind (loadN h a.1 a.2 n)))
  | .sl, .slice (some a) n c e => cvSS (.slice (some a) n c e) (markO h a.1 (h.obj a.1))
  | _, _ => none

def fieldOf (s : TypeId) (f : Nat) : Option (Nat × Nat × TypeId) :=
  match P.underlying s with
  | some (.struct fs) => (match fs.toList[f]? with | some x => (match szOf P x.type with | some n => some (x.offset, n, x.type) | none => none) | none => none)
  | _ => none

def bound (x : AV) (y : Nat) : Option Nat :=
  match x with
  | .int _ (.ofNat i) => bif Nat.ble i y then some i else none
  | _ => none
def boundO (d y : Nat) : Option AV → Option Nat
  | some v => bound v y
  | none => some d
def boundH (len m : Nat) : Option AV → Option AV → Option Nat
  | some v, _ => bound v m
  | none, none => some len
  | none, some _ => none
def bounds3 (h m : Nat) : Option Nat → Option (Nat × Nat × Nat)
  | some l => some (l, h, m)
  | none => none
def bounds2 (m : Nat) (lo : Option AV) : Option Nat → Option (Nat × Nat × Nat)
  | some h => bounds3 h m (boundO 0 h lo)
  | none => none
def boundsE (len cap : Nat) (lo hi mx : Option AV) : Option (Nat × Nat × Nat) :=
  match boundO cap cap mx with
  | some m => bounds2 m lo (boundH len m hi mx)
  | none => none

inductive SlK where
  | arr (n size : Nat)
  | str
  | sl (size : Nat)
  | no
def slK (t : TypeId) : SlK :=
  match P.underlying t with
  | some (.array n e) => (match szOf P e with | some s => .arr n s | none => .no)
  | some .string => .str
  | some (.slice e) => (match szOf P e with | some s => .sl s | none => .no)
  | some (.pointer arr) => (match P.underlying arr with
    | some (.array n e) => (match szOf P e with | some s => .arr n s | none => .no)
    | _ => .no)
  | _ => .no
def atLow (o l m size : Nat) : Nat := bif Nat.beq m l then o else o + l * size
def slArr (i o size : Nat) : Option (Nat × Nat × Nat) → Option AV
  | some (l, h, m) => some (.slice (some (i, atLow o l m size)) (Nat.sub h l) (Nat.sub m l) true)
  | none => none
def slStr (s : List Nat) : Option (Nat × Nat × Nat) → Option AV
  | some (l, h, _) => some (.str ((s.take h).drop l))
  | none => none
def slNil : Option (Nat × Nat × Nat) → Option AV
  | some (l, h, m) => some (.slice none (Nat.sub h l) (Nat.sub m l) true)
  | none => none
def slOpen (i o size : Nat) : Option (Nat × Nat × Nat) → Option AV
  | some (l, h, m) => bif Nat.beq l 0 then some (.slice (some (i, o)) h m false) else bif Nat.ble (Nat.succ l) m then some (.slice (some (i, o + l * size)) (Nat.sub h l) (Nat.sub m l) false) else none
  | none => none
def slGo (size len cap : Nat) (lo hi mx : Option AV) (a : Option (Nat × Nat)) (ex : Bool) : Option AV :=
  match a, ex, mx with
  | none, true, _ => slNil (boundsE len cap lo hi mx)
  | some a, true, _ => slArr a.1 a.2 size (boundsE len cap lo hi mx)
  | some a, false, some _ => slArr a.1 a.2 size (boundsE len cap lo hi mx)
  | some a, false, none => slOpen a.1 a.2 size (boundsE len cap lo hi mx)
  | _, _, _ => none
def sliceE (k : SlK) (x : AV) (lo hi mx : Option AV) : Option AV :=
  match k, x with
  | .arr n s, .ptr (some a) => slArr a.1 a.2 s (boundsE n n lo hi mx)
  | .str, .str s => (match mx with | none => slStr s (boundsE s.length s.length lo hi none) | some _ => none)
  | .sl size, .slice a len cap ex => slGo size len cap lo hi mx a ex
  | _, _ => none

def lenE (x : AV) : Option Nat :=
  match x with
  | .slice _ n _ _ => some n
  | .str s => some s.length
  | _ => none
def firstE (h : Heap) (n size : Nat) : AV → Option (List AV)
  | .slice (some a) _ _ _ => loadN h a.1 a.2 (n * size)
  | .slice none _ _ _ => bif Nat.beq n 0 then some [] else none
  | .str s => bif Nat.beq size 1 && Nat.ble n s.length then some (ofBytes (s.take n)) else none
  | _ => none

def elemIs (e : TypeId) : AObj → Bool
  | .flat _ e' _ _ => Nat.beq e e'
  | _ => false
def apIn (a : Nat × Nat) (need cap : Nat) (ex : Bool) : Option Heap → Option Out
  | some h => some (.val (.slice (some a) need cap ex) h)
  | none => none
/-- The room is there. -/
def apRoom (e : TypeId) (size len need cap : Nat) (ex : Bool) (h : Heap) (new : List AV) : Option (Nat × Nat) → Option Out
  | none => bif Nat.beq size 0 then none else some (.val (.slice none need cap ex) h)
  | some a => bif ex || elemIs e (h.obj a.1) then apIn a need cap ex (storeN h a.1 (a.2 + len * size) new (!ex && Nat.beq a.2 0)) else none
/-- It is not, or may not be. -/
def apNew (e : TypeId) (need : Nat) (ex : Bool) (h : Heap) (new : List AV) (base : Option (Nat × Nat)) : Option (List AV) → Option Out
  | none => none
  | some old =>
    bif ex then some (.val (.slice (some (h.next, 0)) need need false) (h.new (.flat false e false (old ++ new))))
    else (match base with
      | some (i, 0) => bif elemIs e (h.obj i) then some (.val (.slice (some (h.next, 0)) need need false) ((h.set i .dead).new (.flat false e true (old ++ new)))) else none
      | _ => none)
def apGo (e : TypeId) (size : Nat) (h : Heap) (base : Option (Nat × Nat)) (len cap : Nat) (ex : Bool) (n : Nat) : Option (List AV) → Option Out
  | none => none
  | some new => bif allOne new then bif Nat.ble (len + n) cap then apRoom e size len (len + n) cap ex h new base else bif Nat.ble (len + n) 1073741824 then apNew e (len + n) ex h new base (firstE h len size (.slice base len cap ex)) else none else none
def apLen (e : TypeId) (size : Nat) (h : Heap) (x : AV) (base : Option (Nat × Nat)) (len cap : Nat) (ex : Bool) : Option Nat → Option Out
  | some n => apGo e size h base len cap ex n (firstE h n size x)
  | none => none
/-! append, where one of both is bytes of which the number alone is known -/
def byteC : AV → Bool
  | .int .u8 _ => true
  | .top .u8 => true
  | .rng .u8 _ _ => true
  | _ => false
def byteCs : List AV → Bool
  | [] => true
  | v :: r => byteC v && byteCs r
def byteL : Option (List AV) → Bool
  | some l => byteCs l
  | none => false
def isBytes (e : TypeId) : AObj → Bool
  | .bytes e' => Nat.beq e e'
  | _ => false
def anyBytes : AObj → Bool
  | .bytes _ => true
  | _ => false
def isFixed : AObj → Bool
  | .fixed => true
  | _ => false
def limOf (bytes : Nat) : Nat := bif Nat.ble bytes 1 then 140737488355328 else 1073741824
def apUv (e lim : Nat) (h : Heap) (lo hi : Nat) : Option Out := bif Nat.ble hi lim then some (.val (.sliceU h.next lo hi) (h.new (.bytes e))) else none
def apU (e lim : Nat) (h : Heap) (lo hi : Nat) : AV → Option Out
  | .slice none len cap _ => bif Nat.beq len 0 && Nat.ble (Nat.succ cap) lo then apUv e lim h lo hi else none
  | .slice (some a) len cap true => bif Nat.ble (Nat.succ cap) (len + lo) && byteL (loadN h a.1 a.2 len) then apUv e lim h (len + lo) (len + hi) else none
  | .slice (some (i, 0)) len _ false => bif elemIs e (h.obj i) && byteL (loadN h i 0 len) then apUv e lim (h.set i .dead) (len + lo) (len + hi) else none
  | .sliceU i l m => bif isBytes e (h.obj i) then apUv e lim (h.set i .dead) (l + lo) (m + hi) else none
  | _ => none
def srcU (h : Heap) : AV → Option (Nat × Nat)
  | .sliceU i lo hi => bif Nat.beq hi 0 then some (0, 0) else bif anyBytes (h.obj i) then some (lo, hi) else none
  | .sliceF i lo hi => bif isFixed (h.obj i) then some (lo, hi) else none
  | .strU lo hi => some (lo, hi)
  | .str s => some (s.length, s.length)
  | .slice (some a) n _ _ => bif byteL (loadN h a.1 a.2 n) then some (n, n) else none
  | _ => none
def isU : AV → Bool
  | .sliceU _ _ _ => true
  | .sliceF _ _ _ => true
  | .strU _ _ => true
  | .sliceT _ _ _ => true
  | .sliceV _ _ _ _ _ => true
  | _ => false
def apB (e size lim : Nat) (h : Heap) (s : AV) : Option (Nat × Nat) → Option Out
  | some p => bif Nat.beq size 1 then apU e lim h p.1 p.2 s else none
  | none => none
def appendK (e : TypeId) (size : Nat) (h : Heap) (x : AV) : AV → Option Out
  | .slice base len cap ex => apLen e size h x base len cap ex (lenE x)
  | _ => none
/-- What is known of the new slice's length. -/
def tagA (x s : AV) : Option (Nat × Nat) :=
  match x, s with
  | .sliceT i _ _, .slice _ len _ _ => some (i, len)
  | .slice _ n _ _, .sliceV _ _ _ i c => some (i, c + n)
  | _, _ => none
def tagO : Option (Nat × Nat) → Option Out → Option Out
  | some t, some (.val (.sliceU q a b) h) => some (.val (.sliceV q a b t.1 t.2) h)
  | _, o => o
def zeroU : Option (Nat × Nat) → Bool
  | some p => Nat.beq p.2 0
  | none => false
/-- Nothing is appended. -/
def appendZ (h : Heap) : AV → Option Out
  | .slice (some a) len cap true => bif Nat.ble len cap then some (.val (.slice (some a) len cap true) h) else none
  | _ => none
def appendU (e size lim : Nat) (h : Heap) (x s : AV) : Option Out := bif zeroU (srcU h (untag x)) then appendZ h s else tagO (tagA x s) (apB e size lim h (untag s) (srcU h (untag x)))
def appendE (e size lim : Nat) (h : Heap) (x s : AV) : Option Out := bif isU x || isU s then appendU e size lim h x s else appendK e size h x s

def findE (k : AV) : List (AV × AV × Nat) → Nat → Option (Option (Nat × AV))
  | [], _ => some none
  | (k', v, _) :: r, i =>
    match k, k' with
    | .int a x, .int b y => bif kEq a b then (bif eqI x y then some (some (i, v)) else findE k r (Nat.succ i)) else none
    | .str x, .str y => bif eqL x y then some (some (i, v)) else findE k r (Nat.succ i)
    | _, _ => none

inductive KyK where
  | int
  | str
  | no
def kyK (t : TypeId) : KyK := match P.underlying t with | some (.int _) => .int | some .string => .str | _ => .no
def keyOk (k : KyK) (v : AV) : Bool :=
  match k, v with
  | .int, .int _ _ => true
  | .str, .str _ => true
  | _, _ => false

def min2E (lt : Bool) (k : IntKind) (x y : Int) : AV := .int k (bif lt then (bif ltI y x then y else x) else (bif ltI x y then y else x))
def minE (lt : Bool) : AV → List AV → Option AV
  | x, [] => some x
  | .int k x, .int k' y :: r => bif kEq k k' then minE lt (min2E lt k x y) r else none
  | _, _ => none
def minO (lt : Bool) : List AV → Option AV
  | x :: r => minE lt x r
  | [] => none

/-! The operations, each a function of its operands' values and of the heap -/

inductive MO where
  | l (i : Nat)
  | g (p : Path)
  | c (v : AV)
abbrev OpF := (MO → AV) → Heap → Option Out

def F_mv (x : MO) : OpF := fun ρ h => some (.val (ρ x) h)
def pickE (a b : AV) : AV → Option AV
  | .bool true => some a
  | .bool false => some b
  | _ => none
def F_pick (c a b : MO) : OpF := fun ρ h => valE h (pickE (ρ a) (ρ b) (ρ c))
def boxE (t : TypeId) (cs : List AV) (h : Heap) : Option Out := some (.val (.ptr (some (h.next, 0))) (h.new (.flat true t false cs)))
def F_alloc (t : TypeId) (z : List AV) : OpF := fun _ h => boxE t z h
def boxV (t : TypeId) (cs : List AV) (h : Heap) : Option Out := bif allOne cs then boxE t cs h else none
def F_box (t : TypeId) (x : MO) : OpF := fun ρ h => boxV t (ρ x).cells h
def fillM (ρ : MO → AV) : List (Nat × Nat × MO) → List AV → Option (List AV)
  | [], cells => some cells
  | (off, size, x) :: rest, cells => bif Nat.beq (ρ x).cells.length size && Nat.ble (off + size) cells.length && allOne (ρ x).cells then fillM ρ rest (cells.take off ++ (ρ x).cells ++ cells.drop (off + size)) else none
def F_build (z : List AV) (parts : List (Nat × Nat × MO)) : OpF := fun ρ h => valE h (aggE (fillM ρ parts z))
def buildS2 (e : TypeId) (st : Bool) (len : Nat) (h : Heap) : Option (List AV) → Option Out
  | some cs => some (.val (.slice (some (h.next, 0)) len len true) (h.new (.flat true e st cs)))
  | none => none
def F_buildS (e : TypeId) (st : Bool) (len : Nat) (z : List AV) (parts : List (Nat × Nat × MO)) : OpF := fun ρ h => buildS2 e st len h (fillM ρ parts ((List.replicate len z).flatten))
def load1A (h : Heap) : AV → Option AV
  | .ptr (some a) => load1 h a.1 a.2
  | _ => none
def loadNA (n : Nat) (h : Heap) : AV → Option AV
  | .ptr (some a) => aggE (loadN h a.1 a.2 n)
  | _ => none
def storeA (n : Nat) (cs : List AV) (h : Heap) : AV → Option Heap
  | .ptr (some a) => bif Nat.beq cs.length n then storeN h a.1 a.2 cs false else none
  | _ => none
def F_load1 (x : MO) : OpF := fun ρ h => valE h (load1A h (ρ x))
def F_loadN (n : Nat) (x : MO) : OpF := fun ρ h => valE h (loadNA n h (ρ x))
def F_store (n : Nat) (a x : MO) : OpF := fun ρ h => skipE (storeA n (ρ x).cells h (ρ a))
def nilE : AV → Option AV
  | .ptr (some a) => some (.ptr (some a))
  | _ => none
def F_nilc (x : MO) : OpF := fun ρ h => valE h (nilE (ρ x))
def eqK (t : TypeId) : EqK :=
  match P.underlying t with
  | some .bool => .bool
  | some (.pointer e) => (match szOf P e with | some 0 => .no | some _ => .ptr | none => .no)
  | some (.slice _) => .sl
  | _ => .no
def F_bin (q : EqK) (op : BinOp) (x y : MO) : OpF := fun ρ h => valE h (binT q op h (ρ x) (ρ y))
def F_un (op : UnOp) (x : MO) : OpF := fun ρ h => valE h (unE op (ρ x))
/-- In a region that draws its order: of a row that is already marked. -/
def isMarked : AObj → Bool
  | .flat _ _ true _ => true
  | _ => false
def markE (h : Heap) : AV → Option Out
  | .slice (some a) n c e => bif isMarked (h.obj a.1) then some (.val (.slice (some a) n c e) h) else none
  | _ => none
def F_mark (x : MO) : OpF := fun ρ h => markE h (ρ x)
def F_conv (c : CvK) (x : MO) : OpF := fun ρ h => convE h c (untag (ρ x))
def F_mkf (fn : Fn) (a b : List MO) : OpF := fun ρ h => some (.val (.func fn (a.map ρ) (b.map ρ)) h)
def F_mkmap : OpF := fun _ h => some (.val (.map (some h.next)) (h.new (.map [] 0)))
def mkslE (e : TypeId) (bytes size : Nat) (z : List AV) (h : Heap) (len cap : Nat) : Option Out :=
  bif Nat.ble len cap && Nat.ble (cap * bytes) 1099511627776 && Nat.ble cap 1099511627776 then
    some (.val (.slice (some (h.next, 0)) len cap true) (h.new (bif Nat.ble size 1 then .flat true e false ((List.replicate cap z).flatten) else .tree e size cap z .e)))
  else none
def mksl2 (e : TypeId) (bytes size : Nat) (z : List AV) (h : Heap) : AV → AV → Option Out
  | .int _ (.ofNat len), .int _ (.ofNat cap) => mkslE e bytes size z h len cap
  | _, _ => none
def F_mksl (e : TypeId) (bytes size : Nat) (z : List AV) (l c : MO) : OpF := fun ρ h => mksl2 e bytes size z h (ρ l) (ρ c)
def sliceT (k : SlK) (x : AV) (lo hi mx : Option AV) : Option AV :=
  match k, x, lo, hi, mx with
  | .sl 1, .sliceV q _ _ i c, none, some (.rngT _ (.ofNat a) (.ofNat b) i' c'), none => bif Nat.beq i i' && Nat.ble c' c then some (.sliceU q a b) else none
  | k, x, lo, hi, mx => sliceE k x lo hi mx
def F_sl (k : SlK) (x : MO) (lo hi mx : Option MO) : OpF := fun ρ h => valE h (sliceT k (ρ x) (lo.map ρ) (hi.map ρ) (mx.map ρ))
def faA (o : Nat) : AV → Option AV
  | .ptr (some a) => some (.ptr (some (a.1, a.2 + o)))
  | _ => none
def F_fa (o : Nat) (x : MO) : OpF := fun ρ h => valE h (faA o (ρ x))
def partA (o n : Nat) (agg : Bool) (cs : List AV) : Option AV := bif agg then some (.agg ((cs.drop o).take n)) else cs[o]?
def fldA (o n : Nat) (agg : Bool) : AV → Option AV
  | .agg cs => partA o n agg cs
  | _ => none
def F_fld (o n : Nat) (agg : Bool) (x : MO) : OpF := fun ρ h => valE h (fldA o n agg (ρ x))
def iaA (size : Nat) (x ix : AV) : Option AV :=
  match x, ix with
  | .slice (some a) len _ _, .int _ (.ofNat n) => bif Nat.ble (Nat.succ n) len then some (.ptr (some (a.1, a.2 + n * size))) else none
  | _, _ => none
def iaB (len size : Nat) (x ix : AV) : Option AV :=
  match x, ix with
  | .ptr (some a), .int _ (.ofNat n) => bif Nat.ble (Nat.succ n) len then some (.ptr (some (a.1, a.2 + n * size))) else none
  | _, _ => none
def F_iaS (size : Nat) (x i : MO) : OpF := fun ρ h => valE h (iaA size (ρ x) (ρ i))
def F_iaA (len size : Nat) (x i : MO) : OpF := fun ρ h => valE h (iaB len size (ρ x) (ρ i))
def byteE : Option Nat → Option AV
  | some b => some (.int .u8 (.ofNat b))
  | none => none
def ixS (x ix : AV) : Option AV :=
  match x, ix with
  | .str s, .int _ (.ofNat n) => byteE s[n]?
  | _, _ => none
def ixA (len size : Nat) (agg : Bool) (x ix : AV) : Option AV :=
  match x, ix with
  | .agg cs, .int _ (.ofNat n) => bif Nat.ble (Nat.succ n) len then partA (n * size) size agg cs else none
  | _, _ => none
def F_ixS (x i : MO) : OpF := fun ρ h => valE h (ixS (ρ x) (ρ i))
def F_ixA (len size : Nat) (agg : Bool) (x i : MO) : OpF := fun ρ h => valE h (ixA len size agg (ρ x) (ρ i))
def esOf : AObj → Option (List (AV × AV × Nat))
  | .map es _ => some es
  | _ => none
def entriesE (h : Heap) : AV → Option (List (AV × AV × Nat))
  | .map none => some []
  | .map (some r) => esOf (h.obj r)
  | _ => none
def okE (ok b : Bool) (v : AV) : AV := bif ok then .tuple [v, .bool b] else v
def lkE (z : AV) (ok : Bool) : Option (Option (Nat × AV)) → Option AV
  | some (some p) => some (okE ok true p.2)
  | some none => some (okE ok false z)
  | none => none
def lk2 (z : AV) (k : AV) (ok : Bool) : Option (List (AV × AV × Nat)) → Option AV
  | some es => lkE z ok (findE k es 0)
  | none => none
def F_lk (ky : KyK) (z : AV) (x k : MO) (ok : Bool) : OpF := fun ρ h => bif keyOk ky (ρ k) then valE h (lk2 z (ρ k) ok (entriesE h (ρ x))) else none
def mupE (h : Heap) (r : Nat) (k v : AV) (es : List (AV × AV × Nat)) (clock : Nat) : Option (Option (Nat × AV)) → Option Heap
  | some (some p) => some (h.set r (.map (es.modify p.1 fun e => (k, v, e.2.2)) clock))
  | some none => some (h.set r (.map (es ++ [(k, v, clock)]) (Nat.succ clock)))
  | none => none
def mup2 (h : Heap) (r : Nat) (k v : AV) : AObj → Option Heap
  | .map es clock => mupE h r k v es clock (findE k es 0)
  | _ => none
def mup3 (h : Heap) (k v : AV) : AV → Option Heap
  | .map (some r) => mup2 h r k v (h.obj r)
  | _ => none
def F_mup (ky : KyK) (x k v : MO) : OpF := fun ρ h => bif keyOk ky (ρ k) then skipE (mup3 h (ρ k) (ρ v) (ρ x)) else none
def extE (i : Nat) : AV → Option AV
  | .tuple vs => vs[i]?
  | _ => none
def F_ext (i : Nat) (x : MO) : OpF := fun ρ h => valE h (extE i (ρ x))
def enterE (args : List AV) (h : Heap) : AV → Option Out
  | .func (.func g) first captured => some (.enter g (first ++ args ++ captured) h)
  | _ => none
def F_call (f : MO) (args : List MO) : OpF := fun ρ h => enterE (args.map ρ) h (ρ f)
def mapLen (h : Heap) : Option (List (AV × AV × Nat)) → Option Out
  | some es => some (.val (.int .i64 (.ofNat es.length)) h)
  | none => none
def rngN (a b : Nat) : AV := bif Nat.beq a b then .int .i64 (.ofNat a) else .rng .i64 (.ofNat a) (.ofNat b)
def lenV (h : Heap) : AV → Option Out
  | .slice _ n _ _ => some (.val (.int .i64 (.ofNat n)) h)
  | .str s => some (.val (.int .i64 (.ofNat s.length)) h)
  | .map none => some (.val (.int .i64 (.ofNat 0)) h)
  | .map (some r) => mapLen h (esOf (h.obj r))
  | .strU a b => some (.val (rngN a b) h)
  | .sliceU _ a b => some (.val (rngN a b) h)
  | .sliceF _ a b => some (.val (rngN a b) h)
  | .sliceT i a b => some (.val (.rngT .i64 (.ofNat a) (.ofNat b) i 0) h)
  | .sliceV _ a b _ _ => some (.val (rngN a b) h)
  | _ => none
inductive LnK where
  | str
  | sl
  | map
  | no
def lnK (t : TypeId) : LnK := match P.underlying t with | some .string => .str | some (.slice _) => .sl | some (.map _ _) => .map | _ => .no
def lnOk (k : LnK) (v : AV) : Bool :=
  match k, v with
  | .str, .str _ => true
  | .sl, .slice _ _ _ _ => true
  | .map, .map _ => true
  | .str, .strU _ _ => true
  | .sl, .sliceU _ _ _ => true
  | .sl, .sliceF _ _ _ => true
  | .sl, .sliceT _ _ _ => true
  | .sl, .sliceV _ _ _ _ _ => true
  | _, _ => false
def F_len (k : LnK) (x : MO) : OpF := fun ρ h => bif lnOk k (ρ x) then lenV h (ρ x) else none
def capV : AV → Option AV
  | .slice _ _ c true => some (.int .i64 (.ofNat c))
  | _ => none
def F_cap (x : MO) : OpF := fun ρ h => valE h (capV (ρ x))
def F_app (e size lim : Nat) (s x : MO) : OpF := fun ρ h => appendE e size lim h (ρ x) (ρ s)
def apOk (z : List AV) (size bytes : Nat) : Bool := Nat.beq z.length size && Nat.ble 1 size && Nat.ble bytes 4096
def cpyIn (n : Nat) : Option Heap → Option Out
  | some h => some (.val (.int .i64 (.ofNat n)) h)
  | none => none
def cpy2 (h : Heap) (n : Nat) (base : Option (Nat × Nat)) : Option (List AV) → Option Out
  | some cs => (match base with | some a => cpyIn n (storeN h a.1 a.2 cs false) | none => some (.val (.int .i64 (.ofNat n)) h))
  | none => none
def cpy1 (size : Nat) (h : Heap) (s : AV) (base : Option (Nat × Nat)) (dLen : Nat) : Option Nat → Option Out
  | some sl => cpy2 h (Nat.min sl dLen) base (firstE h (Nat.min sl dLen) size s)
  | none => none
def cpyE (size : Nat) (h : Heap) (s : AV) : AV → Option Out
  | .slice base dLen _ _ => cpy1 size h s base dLen (lenE s)
  | _ => none
def F_cpy (size : Nat) (d s : MO) : OpF := fun ρ h => cpyE size h (ρ s) (ρ d)
def maxI (x y : Int) : Int := bif ltI x y then y else x
def minT (lt : Bool) (l : List AV) : Option AV :=
  match l with
  | [.int k (.ofNat x), .rngT k' a b i c] => bif !lt && kEq k k' then some (.rngT k (maxI (.ofNat x) a) (maxI (.ofNat x) b) i (Nat.max c x)) else none
  | l => minO lt l
def F_min (lt : Bool) (l : List MO) : OpF := fun ρ h => valE h (minT lt (l.map ρ))
def delE (h : Heap) (r : Nat) (es : List (AV × AV × Nat)) (clock : Nat) : Option (Option (Nat × AV)) → Option Heap
  | some (some p) => some (h.set r (.map (es.eraseIdx p.1) clock))
  | some none => some (h.set r (.map es clock))
  | none => none
def del2 (h : Heap) (r : Nat) (k : AV) : AObj → Option Heap
  | .map es clock => delE h r es clock (findE k es 0)
  | _ => none
def del3 (h : Heap) (k : AV) : AV → Option Heap
  | .map (some r) => del2 h r k (h.obj r)
  | _ => none
def F_del (ky : KyK) (m k : MO) : OpF := fun ρ h => bif keyOk ky (ρ k) then unitE (del3 h (ρ k) (ρ m)) else none
def clrM (h : Heap) (r : Nat) : AObj → Option Heap
  | .map _ clock => some (h.set r (.map [] clock))
  | _ => none
def clrMV (h : Heap) : AV → Option Heap
  | .map none => some h
  | .map (some r) => clrM h r (h.obj r)
  | _ => none
def F_clrM (x : MO) : OpF := fun ρ h => unitE (clrMV h (ρ x))
def clrSV (z : List AV) (h : Heap) : AV → Option Heap
  | .slice none _ _ _ => some h
  | .slice (some a) n _ _ => bif Nat.beq n 0 then some h else storeN h a.1 a.2 ((List.replicate n z).flatten) false
  | _ => none
/-! Walks over maps (where the order is forced) and over texts (of bytes below 128) -/
inductive RgK where
  | str
  | map
  | no
def rgK (t : TypeId) : RgK := match P.underlying t with | some .string => .str | some (.map _ _) => .map | _ => .no
def rangeM (h : Heap) (r : Nat) : AObj → Option Out
  | .map _ c => some (.val (.ptr (some (h.next, 0))) (h.new (.mIter (some r) c [] c)))
  | _ => none
def rangeE (h : Heap) (k : RgK) (x : AV) : Option Out :=
  match k, x with
  | .str, .str s => some (.val (.ptr (some (h.next, 0))) (h.new (.sIter s 0)))
  | .map, .map none => some (.val (.ptr (some (h.next, 0))) (h.new (.mIter none 0 [] 0)))
  | .map, .map (some r) => rangeM h r (h.obj r)
  | _, _ => none
def F_range (k : RgK) (x : MO) : OpF := fun ρ h => rangeE h k (ρ x)
def leftE (seen : List Nat) (es : List (AV × AV × Nat)) : List (AV × AV × Nat) := es.filter fun e => !(seen.any (Nat.beq e.2.2))
def goneE (seen : List Nat) (last : Nat) (es : List (AV × AV × Nat)) : Bool := !seen.isEmpty && !es.isEmpty && es.all fun e => Nat.ble last e.2.2
def nextL (h : Heap) (i r since : Nat) (seen : List Nat) (clock : Nat) : List (AV × AV × Nat) → Option Out
  | [] => some (.val (.tuple [.bool false]) h)
  | [e] => bif Nat.ble (Nat.succ e.2.2) since then some (.val (.tuple [.bool true, e.1, e.2.1]) (h.set i (.mIter (some r) since (seen ++ [e.2.2]) clock))) else none
  | _ => none
def nextM (h : Heap) (i r since : Nat) (seen : List Nat) (last : Nat) : AObj → Option Out
  | .map es clock => bif goneE seen last es then none else nextL h i r since seen clock (leftE seen es)
  | _ => none
def nextS (h : Heap) (i : Nat) (s : List Nat) (pos : Nat) : Option Nat → Option Out
  | none => some (.val (.tuple [.bool false]) h)
  | some b => bif Nat.ble (Nat.succ b) 128 then some (.val (.tuple [.bool true, .int .i64 (.ofNat pos), .int .i32 (.ofNat b)]) (h.set i (.sIter s (Nat.succ pos)))) else none
def nextO (h : Heap) (i : Nat) (isStr : Bool) : AObj → Option Out
  | .mIter none _ _ _ => bif isStr then none else some (.val (.tuple [.bool false]) h)
  | .mIter (some r) since seen last => bif isStr then none else nextM h i r since seen last (h.obj r)
  | .sIter s pos => bif isStr then nextS h i s pos s[pos]? else none
  | _ => none
def nextE (h : Heap) (isStr : Bool) : AV → Option Out
  | .ptr (some (i, 0)) => nextO h i isStr (h.obj i)
  | _ => none
def F_next (x : MO) (isStr : Bool) : OpF := fun ρ h => nextE h isStr (ρ x)
def entryF (b : Nat) : List (AV × AV × Nat) → Option AV
  | [] => none
  | e :: r => bif Nat.beq e.2.2 b then some (.tuple [e.1, e.2.1]) else entryF b r
def entryL (es : List (AV × AV × Nat)) : Option Nat → Option AV
  | some b => entryF b es
  | none => none
def entryM (seen : List Nat) (stepped : Nat) : AObj → Option AV
  | .map es clock => bif Nat.beq clock stepped then entryL es seen.getLast? else none
  | _ => none
def entryO (h : Heap) : AObj → Option AV
  | .mIter (some r) _ seen stepped => entryM seen stepped (h.obj r)
  | _ => none
def entryE (h : Heap) : AV → Option AV
  | .ptr (some (i, 0)) => entryO h (h.obj i)
  | _ => none
def F_entry (x : MO) : OpF := fun ρ h => valE h (entryE h (ρ x))
def F_clrS (z : List AV) (x : MO) : OpF := fun ρ h => unitE (clrSV z h (ρ x))

end
end
end Go.Ev
