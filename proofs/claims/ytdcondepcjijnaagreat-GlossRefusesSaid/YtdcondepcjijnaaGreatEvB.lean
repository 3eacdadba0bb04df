/-
  THE EVALUATOR, its second text: a function's code made ready (each operation's operands looked up once), and the run.
-/
import Derived.Test.YtdcondepcjijnaaGreatEvA
namespace Go.Ev
noncomputable section

structure MStep where
  op : OpF
  guard : Option (MO × Bool)
  keep : Option Path

/-- An operation of a region that draws its order: which kind (0 asks no heap, 1 reads, 2 all else), which others are always ahead of it (a number's digits). -/
structure DStep where
  op : OpF
  guard : Option (MO × Bool)
  keep : Option Path
  cls : Nat
  anc : Nat

inductive MC where
  | skip
  | ret
  | exit (id : Nat)
  | seq (a b : MC)
  | cond (x : MO) (a b : MC)
  | block (id : Nat) (a : MC)
  | loop (a : MC)
  | reg (l : List MStep)
  | dreg (l : List DStep)
  | bad

/-! Which slots are read in another region than the one that writes them: nothing leans on this list being right. -/
def addN (x : Nat) (l : List Nat) : List Nat := bif l.any (Nat.beq x) then l else x :: l
def useO (ds : List (Option Nat)) (acc : List Nat) : Operand → List Nat
  | .tmp t => bif ds.any (fun d => match d with | some d => Nat.beq d t | none => false) then acc else addN t acc
  | _ => acc
def usesOps : List Oper → List (Option Nat) → List Nat → List Nat
  | [], _, acc => acc
  | o :: r, ds, acc => usesOps r (o.dst :: ds) (o.op.operands.toList.foldl (useO ds) acc)
def usesC : Code → List Nat → List Nat
  | .seq a b, m => usesC b (usesC a m)
  | .cond x a b, m => usesC b (usesC a (useO [] m x))
  | .block _ a, m => usesC a m
  | .loop a, m => usesC a m
  | .region _ ops _, m => usesOps ops.toList [] m
  | _, m => m
def useR (acc : List Nat) : ResultVar → List Nat
  | .tmp t => addN t acc
  | .cell t _ => addN t acc
def usesF (fn : Func) (c : Code) : List Nat := fn.results.toList.foldl useR (usesC c [])

def sucO : Option Nat → Option Nat
  | some i => some (Nat.succ i)
  | none => none
def idxOf (t : Nat) : List (Option Nat) → Option Nat
  | [] => none
  | some d :: r => bif Nat.beq d t then some 0 else sucO (idxOf t r)
  | none :: r => sucO (idxOf t r)
def posOf (t : Nat) : List Nat → Option Nat
  | [] => none
  | d :: r => bif Nat.beq d t then some 0 else sucO (posOf t r)
def gOf : Option Nat → MO
  | some i => .g (pathN i)
  | none => .c .any
def lOf (ks : List Nat) (t : Nat) : Option Nat → MO
  | some i => .l i
  | none => gOf (posOf t ks)
def cmpO (ks : List Nat) (ds : List (Option Nat)) : Operand → MO
  | .tmp t => lOf ks t (idxOf t ds)
  | .const v => .c (ofValue v)
  | .global _ => .c .any
  | .func f => .c (.func (.func f) [] [])

section
variable (P : Program)

def placesOf : List Field → Option (List (Nat × Nat))
  | [] => some []
  | f :: r => (match szOf P f.type, placesOf r with | some n, some l => some ((f.offset, n) :: l) | _, _ => none)
def placeL (l : List (Nat × Nat)) (i : Nat) : Option (Nat × Nat) := l[i]?
def placeA (size i : Nat) : Option (Nat × Nat) := some (i * size, size)
def cmpParts (place : Nat → Option (Nat × Nat)) (c : Operand → MO) : List (Nat × Operand) → Option (List (Nat × Nat × MO))
  | [] => some []
  | p :: r => (match place p.1, cmpParts place c r with | some q, some l => some ((q.1, q.2, c p.2) :: l) | _, _ => none)

def cmpBuild (c : Operand → MO) (t : TypeId) (parts : List (Nat × Operand)) : Option OpF :=
  match P.underlying t, zeroOf P t with
  | some (.struct fs), some z => (match placesOf P fs.toList with | some pl => (match cmpParts (placeL pl) c parts with | some l => some (F_build z.cells l) | none => none) | none => none)
  | some (.array _ e), some z => (match szOf P e with | some size => (match cmpParts (placeA size) c parts with | some l => some (F_build z.cells l) | none => none) | none => none)
  | _, _ => none
def isByteT (t : TypeId) : Bool := match P.underlying t with | some (.int .u8) => true | _ => false
def cmpBuildS (c : Operand → MO) (t : TypeId) (len : Nat) (parts : List (Nat × Operand)) : Option OpF :=
  match P.underlying t with
  | some (.slice e) => (match szOf P e, zeroOf P e with
    | some size, some z => bif Nat.ble (len * size) 16777216 && Nat.beq z.cells.length size && Nat.ble 1 size then (match cmpParts (placeA size) c parts with | some l => some (F_buildS e (isByteT P e) len z.cells l) | none => none) else none
    | _, _ => none)
  | _ => none
def elemSz (t : TypeId) : Option (TypeId × Nat) :=
  match P.underlying t with
  | some (.slice e) => (match szOf P e with | some s => some (e, s) | none => none)
  | _ => none
def cmpBlt (c : Operand → MO) (b : Builtin) (ts : List TypeId) (args : List Operand) : Option OpF :=
  match b, ts, args with
  | .len, [t], [x] => some (F_len (lnK P t) (c x))
  | .cap, [t], [x] => (match P.underlying t with | some (.slice _) => some (F_cap (c x)) | _ => none)
  | .append, [t, u], [s, x] => (match P.underlying u, elemSz P t with
    | some (.int _), _ => none
    | some _, some p => (match P.info? p.1, zeroOf P p.1 with | some i, some z => bif apOk z.cells p.2 i.bytes then some (F_app p.1 p.2 (limOf i.bytes) (c s) (c x)) else none | _, _ => none)
    | _, _ => none)
  | .copy, t :: _, [d, s] => (match elemSz P t with | some p => some (F_cpy p.2 (c d) (c s)) | none => none)
  | .min, _, l => some (F_min true (l.map c))
  | .max, _, l => some (F_min false (l.map c))
  | .delete, t :: _, [m, k] => (match P.underlying t with | some (.map kt _) => some (F_del (kyK P kt) (c m) (c k)) | _ => none)
  | .clear, [t], [x] => (match P.underlying t with
    | some (.map _ _) => some (F_clrM (c x))
    | some (.slice e) => (match zeroOf P e with | some z => some (F_clrS z.cells (c x)) | none => none)
    | _ => none)
  | _, _, _ => none
def cmpIa (c : Operand → MO) (t : TypeId) (x i : Operand) : Option OpF :=
  match P.underlying t with
  | some (.slice e) => (match szOf P e with | some s => some (F_iaS s (c x) (c i)) | none => none)
  | some (.array n e) => (match szOf P e with | some s => some (F_iaA n s (c x) (c i)) | none => none)
  | _ => none
def cmpIx (c : Operand → MO) (t : TypeId) (x i : Operand) : Option OpF :=
  match P.underlying t with
  | some .string => some (F_ixS (c x) (c i))
  | some (.array n e) => (match szOf P e, P.underlying e with | some s, some _ => some (F_ixA n s (isAggB P e) (c x) (c i)) | _, _ => none)
  | _ => none
def cmpMksl (c : Operand → MO) (t : TypeId) (l k : Operand) : Option OpF :=
  match P.underlying t with
  | some (.slice e) => (match P.info? e, zeroOf P e with | some i, some z => bif Nat.beq z.cells.length i.size && Nat.ble 1 i.size then some (F_mksl e i.bytes i.size z.cells (c l) (c k)) else none | _, _ => none)
  | _ => none

def cmpOp (c : Operand → MO) : Op → Option OpF
  | .move x => some (F_mv (c x))
  | .assign x => some (F_mv (c x))
  | .pick x a b => some (F_pick (c x) (c a) (c b))
  | .alloc t => (match zeroOf P t with | some z => some (F_alloc t z.cells) | none => none)
  | .box t x => some (F_box t (c x))
  | .build t parts => cmpBuild P c t parts.toList
  | .buildSlice t len parts => cmpBuildS P c t len parts.toList
  | .load t a => (match szOf P t, P.underlying t with | some n, some _ => some (bif isAggB P t then F_loadN n (c a) else F_load1 (c a)) | _, _ => none)
  | .store t a x => (match szOf P t with | some n => some (F_store n (c a) (c x)) | none => none)
  | .nilCheck x => some (F_nilc (c x))
  | .binOp op t x y _ => some (F_bin (eqK P t) op (c x) (c y))
  | .unOp op _ x => some (F_un op (c x))
  | .convert s d x => some (F_conv (cvK P s d) (c x))
  | .makeFunc fn a b => some (F_mkf fn (a.toList.map c) (b.toList.map c))
  | .makeMap _ none => some F_mkmap
  | .makeSlice t l k => cmpMksl P c t l k
  | .slice t x lo hi mx => some (F_sl (slK P t) (c x) (lo.map c) (hi.map c) (mx.map c))
  | .fieldAddr s x f => (match fieldOf P s f with | some p => bif Nat.beq p.2.1 0 then none else some (F_fa p.1 (c x)) | none => none)
  | .field s x f => (match fieldOf P s f with | some p => (match P.underlying p.2.2 with | some _ => some (F_fld p.1 p.2.1 (isAggB P p.2.2) (c x)) | none => none) | none => none)
  | .indexAddr t x i => cmpIa P c t x i
  | .index t x i => cmpIx P c t x i
  | .lookup t x k ok => (match P.underlying t with | some (.map kt e) => (match zeroOf P e with | some z => some (F_lk (kyK P kt) z (c x) (c k) ok) | none => none) | _ => none)
  | .mapUpdate t m k x => (match P.underlying t with | some (.map kt _) => some (F_mup (kyK P kt) (c m) (c k) (c x)) | _ => none)
  | .extract x i => some (F_ext i (c x))
  | .range t x => some (F_range (rgK P t) (c x))
  | .next x b => some (F_next (c x) b)
  | .entry x => some (F_entry (c x))
  | .call k => (match k.callee with
    | .builtin b => cmpBlt P c b k.argTypes.toList k.args.toList
    | .value f => some (F_call (c f) (k.args.toList.map c))
    | _ => none)
  | _ => none

def keepOf (nt : Nat) (ks : List Nat) : Option Nat → Option (Option Path)
  | none => some none
  | some d => bif Nat.ble (Nat.succ d) nt then some (match posOf d ks with | some i => some (pathN i) | none => none) else none
def dstOf : List (Option Nat) → Nat → Option Nat
  | [], _ => none
  | d :: r, j => bif Nat.beq r.length j then d else dstOf r j
def guardOf (ks : List Nat) (ds : List (Option Nat)) : Option (Nat × Bool) → Option (Option (MO × Bool))
  | none => some none
  | some p => (match dstOf ds p.1 with | some d => some (some (cmpO ks ds (.tmp d), p.2)) | none => none)
def consS (s : MStep) : Option (List MStep) → Option (List MStep)
  | some l => some (s :: l)
  | none => none
def cmpOps (nt : Nat) (ks : List Nat) : List Oper → List (Option Nat) → Option (List MStep)
  | [], _ => some []
  | o :: r, ds =>
    (match cmpOp P (cmpO ks ds) o.op, guardOf ks ds o.guard, keepOf nt ks o.dst with
    | some op, some g, some k => consS ⟨op, g, k⟩ (cmpOps nt ks r (o.dst :: ds))
    | _, _, _ => none)
/-! Regions that draw their order -/

def memB (i m : Nat) : Bool := Nat.beq (Nat.land (Nat.shiftRight m i) 1) 1
def lOfD (ks : List Nat) (t n anc : Nat) (lat : Bool) : Option Nat → MO
  | some p => bif memB (Nat.sub (Nat.sub n 1) p) anc then .l p else .c .any
  | none => bif lat then gOf (posOf t ks) else .c .any
/-- Whoever writes the slot later waits for operation i. -/
def latOK (i t : Nat) : List (Option Nat × Nat) → Bool
  | [] => true
  | x :: r => (match x.1 with | some d => bif Nat.beq d t then memB i x.2 else true | none => true) && latOK i t r
def cmpOD (ks : List Nat) (ds : List (Option Nat)) (anc : Nat) (later : List (Option Nat × Nat)) : Operand → MO
  | .tmp t => lOfD ks t ds.length anc (latOK ds.length t later) (idxOf t ds)
  | .const v => .c (ofValue v)
  | .global _ => .c .any
  | .func f => .c (.func (.func f) [] [])
def guardD (ks : List Nat) (ds : List (Option Nat)) (anc : Nat) (later : List (Option Nat × Nat)) : Option (Nat × Bool) → Option (Option (MO × Bool))
  | none => some none
  | some p => (match dstOf ds p.1 with | some d => some (some (cmpOD ks ds anc later (.tmp d), p.2)) | none => none)
def bindsB (e : Edge) : Bool := match e.ground with | .textOnly _ => false | .gcOnly _ => false | _ => true
def ancAt : List Nat → Nat → Nat
  | [], _ => 0
  | a :: r, j => bif Nat.beq r.length j then a else ancAt r j
def ancE (ancs : List Nat) : List Edge → Option Nat
  | [] => some 0
  | e :: r => bif bindsB e then (bif Nat.ble (Nat.succ e.on) ancs.length then (match ancE ancs r with | some m => some (Nat.lor (Nat.shiftLeft 1 e.on) (Nat.lor (ancAt ancs e.on) m)) | none => none) else none) else ancE ancs r
def infoD : List Oper → List Nat → Option (List (Option Nat × Nat))
  | [], _ => some []
  | o :: r, ancs => (match ancE ancs o.after.toList with | some m => (match infoD r (m :: ancs) with | some l => some ((o.dst, m) :: l) | none => none) | none => none)
def clsOf : Op → Nat
  | .load _ _ => 1
  | .lookup _ _ _ _ => 1
  | .binOp _ t _ _ _ => (match eqK P t with | .ptr => 1 | _ => 0)
  | .convert s d _ => (match cvK P s d with | .b2s => 1 | .sl => 3 | _ => 0)
  | .store _ _ _ => 2
  | .mapUpdate _ _ _ _ => 2
  | .range _ _ => 2
  | .next _ _ => 2
  | .entry _ => 2
  | .call k => (match k.callee with
    | .builtin .len => 1
    | .builtin .cap => 0
    | .builtin .min => 0
    | .builtin .max => 0
    | _ => 2)
  | _ => 0
def cmpOpD (c : Operand → MO) (o : Op) : Option OpF :=
  match o with
  | .convert s d x => (match cvK P s d with | .sl => some (F_mark (c x)) | _ => cmpOp P c (.convert s d x))
  | o => cmpOp P c o
def consD (s : DStep) : Option (List DStep) → Option (List DStep)
  | some l => some (s :: l)
  | none => none
def cmpDs (nt : Nat) (ks : List Nat) : List Oper → List (Option Nat × Nat) → List (Option Nat) → Option (List DStep)
  | [], _, _ => some []
  | o :: r, x :: inf, ds =>
    (match cmpOpD P (cmpOD ks ds x.2 inf) o.op, guardD ks ds x.2 inf o.guard, keepOf nt ks o.dst with
    | some op, some g, some k => consD ⟨op, g, k, clsOf P o.op, x.2⟩ (cmpDs nt ks r inf (o.dst :: ds))
    | _, _, _ => none)
  | _ :: _, [], _ => none
def nodupD : List (Option Nat) → Bool
  | [] => true
  | some d :: r => (idxOf d r).isNone && nodupD r
  | none :: r => nodupD r
def drawnC (nt : Nat) (ks : List Nat) (ops : List Oper) : Option (List (Option Nat × Nat)) → Option (List DStep)
  | some inf => bif P.follows .mixedOrders && nodupD (ops.map (·.dst)) then cmpDs P nt ks ops inf [] else none
  | none => none
def dregOf : Option (List DStep) → MC
  | some l => .dreg l
  | none => .bad

def regOf : Option (List MStep) → MC
  | some l => .reg l
  | none => .bad
def cmpC (nt : Nat) (ks : List Nat) : Code → MC
  | .skip => .skip
  | .ret => .ret
  | .exit id => .exit id
  | .seq a b => .seq (cmpC nt ks a) (cmpC nt ks b)
  | .cond x a b => .cond (cmpO ks [] x) (cmpC nt ks a) (cmpC nt ks b)
  | .block id a => .block id (cmpC nt ks a)
  | .loop a => .loop (cmpC nt ks a)
  | .region _ ops false => regOf (cmpOps P nt ks ops.toList [])
  | .region _ ops true => dregOf (drawnC P nt ks ops.toList (infoD ops.toList []))
  | _ => .bad

/-! The run -/

abbrev Tm := T AV
def nth (l : List AV) (i : Nat) : AV := Nat.rec (fun l => List.rec .any (fun v _ _ => v) l) (fun _ go l => List.rec .any (fun _ r _ => go r) l) i l
def evO (loc : List AV) (tm : Tm) (x : MO) : AV :=
  MO.rec (fun i => nth loc i) (fun p => Option.rec (.tuple []) (fun v => v) (tm.get p)) (fun v => v) x

/-- What a call comes to: a value, or a trace of where it was given up. -/
inductive RV where
  | ok (v : AV) (h : Heap)
  | no (l : List Nat)
inductive RT where
  | ok (tm : Tm) (h : Heap)
  | no (l : List Nat)
inductive RC where
  | no (l : List Nat)
  | normal (tm : Tm) (h : Heap)
  | exit (id : Nat) (tm : Tm) (h : Heap)
  | ret (tm : Tm) (h : Heap)

abbrev CallE := FuncId → List AV → Heap → RV

def putK (tm : Tm) (v : AV) : Option Path → Tm
  | some p => tm.put p v
  | none => tm
def wantV (want : Bool) : AV → Option Bool
  | .bool b => some (eqB b want)
  | .tuple [] => some false
  | _ => none
def wantM (loc : List AV) (tm : Tm) : Option (MO × Bool) → Option Bool
  | none => some true
  | some p => wantV p.2 (evO loc tm p.1)

abbrev OpsK := List AV → Tm → Heap → RT
/-- What goes on behind a call. -/
def goM (k : OpsK) (keep : Option Path) (loc : List AV) (tm : Tm) : RV → RT
  | .ok v h => k (v :: loc) (putK tm v keep) h
  | .no l => .no (loc.length :: l)
def outM (call : CallE) (k : OpsK) (keep : Option Path) (loc : List AV) (tm : Tm) : Option Out → RT
  | some (.val v h) => k (v :: loc) (putK tm v keep) h
  | some (.skip h) => k (.tuple [] :: loc) (putK tm (.tuple []) keep) h
  | some (.enter f args h) => goM k keep loc tm (call f args h)
  | none => .no [loc.length]
def stepM (call : CallE) (s : MStep) (k : OpsK) (loc : List AV) (tm : Tm) (h : Heap) : Option Bool → RT
  | some true => outM call k s.keep loc tm (s.op (evO loc tm) h)
  | some false => k (.tuple [] :: loc) (putK tm (.tuple []) s.keep) h
  | none => .no [loc.length, 7777]
def opsM (call : CallE) (l : List MStep) : OpsK :=
  List.rec (fun _ tm h => .ok tm h) (fun s _ k loc tm h => stepM call s k loc tm h (wantM loc tm s.guard)) l

/-! The run of a region that draws its order: in the order of the text; what asks no heap may be done whenever its turn comes, who writes goes in this order alone, who reads is asked again at each stage at which its turn may come. -/

inductive DK where
  | skip
  | free (o : Option AObj)
  | read
  | eff (t : T AObj) (ab : Nat)
/-- What an operation came to: i its number; lo, hi: the numbers that it might give to blocks. -/
structure Rec where
  st : DStep
  loc : List AV
  i : Nat
  lo : Nat
  hi : Nat
  v : AV
  k : DK

def selA (anc ab j : Nat) : Bool := memB j anc && !memB j ab
def selE (ab j : Nat) : Bool := !memB j ab
def addK (sel : Nat → Bool) (i lo : Nat) (t : T AObj) : DK → T AObj
  | .free (some o) => bif sel i then t.put (pathN lo) o else t
  | _ => t
def addP (sel : Nat → Bool) (t : T AObj) : List Rec → T AObj
  | [] => t
  | r :: p => addK sel r.i r.lo (addP sel t p) r.k
def effK (x : Bool) : DK → Bool
  | .eff _ _ => x
  | _ => true
def effIn (anc : Nat) : List Rec → Bool
  | [] => true
  | r :: p => effK (memB r.i anc) r.k && effIn anc p

abbrev DKont := List Rec → List AV → Nat → Nat → T AObj → Nat → RT
def freeO (n : Nat) (Y : Heap) : Option AObj := bif Nat.beq Y.next n then none else some (Y.obj n)
def freeM (k : DKont) (st : DStep) (rs : List Rec) (loc : List AV) (i n : Nat) (t : T AObj) (ab : Nat) : Option Out → RT
  | some (.val v Y) => bif Nat.ble n Y.next then k (⟨st, loc, i, n, Y.next, v, .free (freeO n Y)⟩ :: rs) (v :: loc) (Nat.succ i) Y.next t ab else .no [loc.length, 7705]
  | _ => .no [loc.length, 7701]
/-- All its blocks have numbers below n. -/
def ltC (n : Nat) : AV → Bool
  | .ptr (some a) => Nat.ble (Nat.succ a.1) n
  | .slice (some a) _ _ _ => Nat.ble (Nat.succ a.1) n
  | .map (some r) => Nat.ble (Nat.succ r) n
  | .sliceU i _ _ => Nat.ble (Nat.succ i) n
  | .sliceF i _ _ => Nat.ble (Nat.succ i) n
  | .sliceT i _ _ => Nat.ble (Nat.succ i) n
  | .rngT _ _ _ i _ => Nat.ble (Nat.succ i) n
  | .sliceV q _ _ i _ => Nat.ble (Nat.succ i) n && Nat.ble (Nat.succ q) n
  | .func _ [] [] => true
  | .func _ _ _ => false
  | .agg _ => false
  | .tuple _ => false
  | _ => true
def ltCs (n : Nat) : List AV → Bool
  | [] => true
  | v :: r => ltC n v && ltCs n r
def ltV (n : Nat) : AV → Bool
  | .agg cs => ltCs n cs
  | .tuple cs => ltCs n cs
  | v => ltC n v
def readM (k : DKont) (st : DStep) (rs : List Rec) (loc : List AV) (i n : Nat) (t : T AObj) (ab : Nat) : Option Out → RT
  | some (.val v _) => bif ltV n v then k (⟨st, loc, i, n, n, v, .read⟩ :: rs) (v :: loc) (Nat.succ i) n t ab else .no [loc.length, 7707]
  | _ => .no [loc.length, 7702]
def effV (k : DKont) (st : DStep) (rs : List Rec) (loc : List AV) (i n ab : Nat) (v : AV) (h : Heap) : RT :=
  bif Nat.ble n h.next then k (⟨st, loc, i, n, h.next, v, .eff h.t (Nat.lor st.anc ab)⟩ :: rs) (v :: loc) (Nat.succ i) h.next h.t (Nat.lor st.anc ab) else .no [loc.length, 7706]
def effR (k : DKont) (st : DStep) (rs : List Rec) (loc : List AV) (i n ab : Nat) : RV → RT
  | .ok v h => effV k st rs loc i n ab v h
  | .no l => .no (loc.length :: l)
def effM (call : CallE) (k : DKont) (st : DStep) (rs : List Rec) (loc : List AV) (i n ab : Nat) : Option Out → RT
  | some (.val v h) => effV k st rs loc i n ab v h
  | some (.skip h) => effV k st rs loc i n ab (.tuple []) h
  | some (.enter f xs h) => effR k st rs loc i n ab (call f xs h)
  | none => .no [loc.length]
def clsM (call : CallE) (k : DKont) (st : DStep) (rs : List Rec) (loc : List AV) (tm : Tm) (i n : Nat) (t : T AObj) (ab : Nat) : Nat → RT
  | 0 => freeM k st rs loc i n t ab (st.op (evO loc tm) ⟨n, .e⟩)
  | 1 => readM k st rs loc i n t ab (st.op (evO loc tm) ⟨n, addP (selA st.anc ab) t rs⟩)
  | 3 => readM k st rs loc i n t ab (st.op (evO loc tm) ⟨n, addP (selA st.anc ab) t rs⟩)
  | _ => bif effIn st.anc rs then effM call k st rs loc i n ab (st.op (evO loc tm) ⟨n, addP (selA st.anc ab) t rs⟩) else .no [loc.length, 7703]
def dstepM (call : CallE) (k : DKont) (st : DStep) (tm : Tm) (rs : List Rec) (loc : List AV) (i n : Nat) (t : T AObj) (ab : Nat) : Option Bool → RT
  | some true => clsM call k st rs loc tm i n t ab st.cls
  | some false => k (⟨st, loc, i, n, n, .tuple [], .skip⟩ :: rs) (.tuple [] :: loc) (Nat.succ i) n t ab
  | none => .no [loc.length, 7777]

def eqP : Option (Nat × Nat) → Option (Nat × Nat) → Bool
  | none, none => true
  | some a, some b => Nat.beq a.1 b.1 && Nat.beq a.2 b.2
  | _, _ => false
def eqO : Option Nat → Option Nat → Bool
  | none, none => true
  | some a, some b => Nat.beq a b
  | _, _ => false
def eqC (x y : AV) : Bool :=
  match x, y with
  | .any, .any => true
  | .bool a, .bool b => eqB a b
  | .int k a, .int j b => kEq k j && eqI a b
  | .top k, .top j => kEq k j
  | .str a, .str b => eqL a b
  | .ptr a, .ptr b => eqP a b
  | .slice a l c e, .slice a' l' c' e' => eqP a a' && Nat.beq l l' && Nat.beq c c' && eqB e e'
  | .map a, .map b => eqO a b
  | .nilFunc, .nilFunc => true
  | .nilIface, .nilIface => true
  | .rng k a b, .rng j c d => kEq k j && eqI a c && eqI b d
  | .strU a b, .strU c d => Nat.beq a c && Nat.beq b d
  | .sliceU i a b, .sliceU j c d => Nat.beq i j && Nat.beq a c && Nat.beq b d
  | .sliceF i a b, .sliceF j c d => Nat.beq i j && Nat.beq a c && Nat.beq b d
  | .sliceT i a b, .sliceT j c d => Nat.beq i j && Nat.beq a c && Nat.beq b d
  | .rngT k a b i x, .rngT j c d i' x' => kEq k j && eqI a c && eqI b d && Nat.beq i i' && Nat.beq x x'
  | .sliceV i a b t x, .sliceV j c d t' x' => Nat.beq i j && Nat.beq a c && Nat.beq b d && Nat.beq t t' && Nat.beq x x'
  | _, _ => false
def eqCs : List AV → List AV → Bool
  | [], [] => true
  | a :: x, b :: y => eqC a b && eqCs x y
  | _, _ => false
def eqAV (x y : AV) : Bool :=
  match x, y with
  | .agg a, .agg b => eqCs a b
  | .tuple a, .tuple b => eqCs a b
  | a, b => eqC a b

def eqRead (v : AV) : Option Out → Bool
  | some (.val v' _) => eqAV v v'
  | _ => false
def hitK (i : Nat) (st : DStep) (rest : Bool) : DK → Bool
  | .eff _ _ => memB i st.anc || rest
  | _ => rest
def hitsM (i : Nat) : List Rec → Bool
  | [] => false
  | r :: p => hitK i r.st (hitsM i p) r.k
def evalAt (tm : Tm) (n : Nat) (r : Rec) (p : List Rec) (t : T AObj) (ab : Nat) : Bool := eqRead r.v (r.st.op (evO r.loc tm) ⟨n, addP (selA r.st.anc ab) t p⟩)
def chkK (tm : Tm) (n : Nat) (r : Rec) (p : List Rec) (i : Nat) (hits rest : Bool) : DK → Bool
  | .eff t ab => (hits || evalAt tm n r p t ab) && (memB i r.st.anc || rest)
  | _ => rest
def chkR (tm : Tm) (n : Nat) (t0 : T AObj) (r : Rec) (p : List Rec) : List Rec → Bool
  | [] => evalAt tm n r p t0 0
  | q :: s => chkK tm n r p q.i (hitsM r.i (q :: s)) (chkR tm n t0 r p s) q.k
def chkD (x : Bool) : DK → Bool
  | .read => x
  | _ => true
def chkAll (tm : Tm) (n : Nat) (t0 : T AObj) (all : List Rec) : List Rec → Bool
  | [] => true
  | r :: p => chkD (chkR tm n t0 r p all) r.k && chkAll tm n t0 all p
def tmOf (tm : Tm) : List Rec → Tm
  | [] => tm
  | r :: p => putK (tmOf tm p) r.v r.st.keep
def endD (tm : Tm) (t0 : T AObj) : DKont := fun rs loc _ n t ab => bif chkAll tm n t0 rs rs then .ok (tmOf tm rs) ⟨n, addP (selE ab) t rs⟩ else .no [loc.length, 7704]
def dopsM (call : CallE) (tm : Tm) (t0 : T AObj) (l : List DStep) : DKont :=
  List.rec (endD tm t0) (fun st _ k rs loc i n t ab => dstepM call k st tm rs loc i n t ab (wantM loc tm st.guard)) l
def dregM (call : CallE) (l : List DStep) (tm : Tm) (h : Heap) : RT := dopsM call tm h.t l [] [] 0 h.next h.t 0

abbrev RecM := MC → Tm → Heap → RC

def cellM (ty : TypeId) (h : Heap) (v : AV) : Option AV :=
  match szOf P ty, P.underlying ty with
  | some n, some _ => bif isAggB P ty then loadNA n h v else load1A h v
  | _, _ => none
def resM (ks : List Nat) (tm : Tm) (h : Heap) : List ResultVar → Option (List AV)
  | [] => some []
  | .tmp t :: r => (match resM ks tm h r with | some l => some (evO [] tm (cmpO ks [] (.tmp t)) :: l) | none => none)
  | .cell t ty :: r => (match cellM P ty h (evO [] tm (cmpO ks [] (.tmp t))), resM ks tm h r with
    | some v, some l => some (v :: l)
    | _, _ => none)
def oneOf (h : Heap) : Option (List AV) → RV
  | some [v] => .ok v h
  | some vs => .ok (.tuple vs) h
  | none => .no [7778]

structure MF where
  ks : List Nat
  nt : Nat
  body : MC
  res : List ResultVar

def backM (m : MF) : RC → RV
  | .normal tm h => oneOf h (resM P m.ks tm h m.res)
  | .ret tm h => oneOf h (resM P m.ks tm h m.res)
  | .no l => .no l
  | _ => .no [7779]

/-- A function, made ready. -/
def cmpF (fn : Func) (c : Code) : MF := ⟨usesF fn c, fn.ntmps, cmpC P fn.ntmps (usesF fn c) c, fn.results.toList⟩
def bodyOf (fn : Func) : Option Code → Option MF
  | some c => bif fn.name == "runtime.NumGoroutine" then none else some (cmpF P fn c)
  | none => none
def funM (f : FuncId) : Option MF :=
  match P.funcs[f]? with
  | some fn => bodyOf P fn fn.body
  | none => none

/-- The slots at the start: the arguments that are kept. -/
def argAt (args : List AV) (tm : Tm) (i : Nat) : Option AV → Tm
  | some v => tm.put (pathN i) v
  | none => tm
def initT (args : List AV) : List Nat → Nat → Tm → Tm
  | [], _, tm => tm
  | t :: r, i, tm => initT args r (Nat.succ i) (argAt args tm i args[t]?)

abbrev HookF := List AV → Heap → RV
abbrev Hook := FuncId → Option HookF
def bodyM (rec : RecM) (args : List AV) (h : Heap) : Option MF → RV
  | some m => bif Nat.ble args.length m.nt then backM P m (rec m.body (initT args m.ks 0 .e) h) else .no [7785]
  | none => .no [7780]
def tagM (f : Nat) : RV → RV
  | .no l => .no ((1000 + f) :: l)
  | .ok v h => .ok v h
/-- A hook that gives up leaves the call to the body. -/
def orBody (x : RV) : RV → RV
  | .ok v h => .ok v h
  | .no _ => x
def callH (rec : RecM) (f : FuncId) (args : List AV) (h : Heap) : Option HookF → RV
  | some g => orBody (bodyM P rec args h (funM P f)) (g args h)
  | none => bodyM P rec args h (funM P f)
def callM (hook : Hook) (rec : RecM) : CallE := fun f args h => tagM f (callH P rec f args h (hook f))

def thenM (rec : RecM) (b : MC) : RC → RC
  | .normal tm h => rec b tm h
  | .no l => .no l
  | .exit id tm h => .exit id tm h
  | .ret tm h => .ret tm h
def condM (rec : RecM) (a b : MC) (tm : Tm) (h : Heap) : AV → RC
  | .bool true => rec a tm h
  | .bool false => rec b tm h
  | _ => .no [7782]
def blockM (id : Nat) : RC → RC
  | .exit id' tm h => bif Nat.beq id' id then .normal tm h else .exit id' tm h
  | .normal tm h => .normal tm h
  | .no l => .no l
  | .ret tm h => .ret tm h
def regM : RT → RC
  | .ok tm h => .normal tm h
  | .no l => .no l

abbrev StepC := Hook → RecM → Tm → Heap → RC
def C_skip : StepC := fun _ _ tm h => .normal tm h
def C_ret : StepC := fun _ _ tm h => .ret tm h
def C_exit (id : Nat) : StepC := fun _ _ tm h => .exit id tm h
def C_seq (a b : MC) : StepC := fun _ rec tm h => thenM rec b (rec a tm h)
def C_cond (x : MO) (a b : MC) : StepC := fun _ rec tm h => condM rec a b tm h (evO [] tm x)
def C_block (id : Nat) (a : MC) : StepC := fun _ rec tm h => blockM id (rec a tm h)
def C_loop (a : MC) : StepC := fun _ rec tm h => thenM rec (.loop a) (rec a tm h)
def C_reg (l : List MStep) : StepC := fun hook rec tm h => regM (opsM (callM P hook rec) l [] tm h)
def C_dreg (l : List DStep) : StepC := fun hook rec tm h => regM (dregM (callM P hook rec) l tm h)
def C_bad : StepC := fun _ _ _ _ => .no [7783]
def codeM (c : MC) : StepC :=
  MC.rec C_skip C_ret C_exit (fun a b _ _ => C_seq a b) (fun x a b _ _ => C_cond x a b) (fun id a _ => C_block id a) (fun a _ => C_loop a) (C_reg P) (C_dreg P) C_bad c
def runM (hook : Hook) (n : Nat) : RecM :=
  Nat.rec (fun _ _ _ => .no [7784]) (fun _ rec c tm h => codeM P c hook rec tm h) n
def evalM (hook : Hook) (n : Nat) : CallE := callM P hook (runM P hook n)

end
end
end Go.Ev
