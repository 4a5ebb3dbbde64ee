/- The lowering of the model's code to the small language. How abstract values stand for the model's values. -/
import Derived.Test.YtjacmplknlploaaGreatDoorW00
import Derived.Laws.Sem
import Derived.Laws.Cells
import Derived.Lib.FrozenHead
import Derived.Laws.Strings
set_option linter.all false
namespace Go.Am

def ofC : Value → Option AV
  | .bool b => some (.bool b)
  | .int k n => some (.int k n)
  | .string s => some (.str (s.data.toList.map UInt8.toNat))
  | .pointer none => some .nptr
  | .slice none n m => if n = 0 ∧ m = 0 then some .nsl else none
  | .map none => some .nmap
  | .nilFunc => some .nfn
  | .nilIface => some .nif
  | _ => none

def ofCs : List Value → Option (List AV)
  | [] => some []
  | v :: r => match ofC v, ofCs r with
    | some a, some l => some (a :: l)
    | _, _ => none

def ofV : Value → Option AV
  | .agg cs => (ofCs cs.toList).map .agg
  | v => ofC v

def lowX (ng : Nat) : Operand → Option Opd
  | .tmp t => some (.t t)
  | .const v => (ofV v).map .c
  | .global g => if g < ng then some (.g g) else none
  | .func f => some (.f f)

def lowXs (ng : Nat) : List Operand → Option (List Opd)
  | [] => some []
  | x :: r => match lowX ng x, lowXs ng r with
    | some a, some l => some (a :: l)
    | _, _ => none

def lowXo (ng : Nat) : Option Operand → Option (Option Opd)
  | none => some none
  | some x => (lowX ng x).map some

section
variable (P : Program) (ng : Nat)

def szOf (t : TypeId) : Option Nat := (P.info? t).map (·.size)
def byOf (t : TypeId) : Option Nat := (P.info? t).map (·.bytes)
def zOf (t : TypeId) : Option AV := ((P.info? t).bind (·.zero)).bind ofV

/-- How a variable of a type is read: whole, or one cell. -/
def kOf (t : TypeId) : Option (Option Nat) :=
  match P.underlying t with
  | some (.struct _) | some (.array _ _) => (szOf P t).map some
  | some _ => some none
  | none => none

def agOf (t : TypeId) : Bool :=
  match P.underlying t with
  | some (.struct _) | some (.array _ _) => true
  | _ => false

def lowF (fs : Array Field) : List (Nat × Operand) → Option (List (Nat × Nat × Opd))
  | [] => some []
  | (i, x) :: r => match fs[i]?, lowX ng x, lowF fs r with
    | some f, some a, some l => match szOf P f.type with
      | some sz => some ((f.offset, sz, a) :: l)
      | none => none
    | _, _, _ => none

def lowA (sz : Nat) : List (Nat × Operand) → Option (List (Nat × Nat × Opd))
  | [] => some []
  | (i, x) :: r => match lowX ng x, lowA sz r with
    | some a, some l => some ((i * sz, sz, a) :: l)
    | _, _ => none

def lowE : List (Nat × Operand) → Option (List (Nat × Opd))
  | [] => some []
  | (i, x) :: r => match lowX ng x, lowE r with
    | some a, some l => some ((i, a) :: l)
    | _, _ => none

def flatFs (g : TypeId → Option (List LK)) : List Field → Nat → Option (List LK)
  | [], _ => some []
  | f :: fs, n => if f.offset = n ∧ f.name ≠ "_" then match g f.type, kOf P f.type with
      | some sh, some k => if szOf P f.type = some sh.length ∧ (k = none → sh.length = 1) then match flatFs g fs (n + sh.length) with
        | some r => some (sh ++ r)
        | none => none
        else none
      | _, _ => none
    else none

/-- The cells of a type whose cells are truth values, integers and strings. -/
def flatN : Nat → TypeId → Option (List LK)
  | 0, _ => none
  | d + 1, t => match P.underlying t with
    | some .bool => some [.b]
    | some (.int _) => some [.i]
    | some .string => some [.s]
    | some (.struct fs) => if P.stoodInHeld t then none else flatFs P (flatN d) fs.toList 0
    | _ => none

def flatOf (t : TypeId) : Option (List LK) := if P.eqGuardType P.depth t then none else match flatN P 8 t with
  | some sh => if szOf P t = some sh.length then some sh else none
  | none => none

def ordOp : BinOp → Bool
  | .eql | .neq => false
  | _ => true

def lowBin (op : BinOp) (t : TypeId) (x y : Opd) : Option IOp :=
  match P.underlying t with
  | some (.int _) | some .string => some (.bin op x y)
  | some .bool => match op with
    | .eql => some (.eqb false x y)
    | .neq => some (.eqb true x y)
    | _ => none
  | some (.pointer _) => match op with
    | .eql => some (.eqp false x y)
    | .neq => some (.eqp true x y)
    | _ => none
  | some (.slice _) => match op with
    | .eql => some (.eqs false x y)
    | .neq => some (.eqs true x y)
    | _ => none
  | some (.map _ _) => match op with
    | .eql => some (.eqm false x y)
    | .neq => some (.eqm true x y)
    | _ => none
  | some (.func _ _ _) => match op with
    | .eql => some (.eqf false x y)
    | .neq => some (.eqf true x y)
    | _ => none
  | some (.struct _) => match flatOf P t with
    | some sh => match op with
      | .eql => some (.eqa false sh x y)
      | .neq => some (.eqa true sh x y)
      | _ => none
    | none => none
  | _ => none

def srcOf (u : TypeId) : Bool :=
  match P.underlying u with
  | some (.slice _) | some .string => true
  | _ => false

def lowB (fl : Nat) (b : Builtin) (ts : List TypeId) (as : List Operand) : Option IOp :=
  match b, ts, as with
  | .append, [t, u], [s, x] => match lowX ng s, lowX ng x, P.underlying t with
    | some s, some x, some (.slice e) => match szOf P e, byOf P e, zOf P e with
      | some sz, some by_, some z =>
        if srcOf P u && decide (0 < sz) && z.nt && decide (z.cells.length = sz) then some (.app fl e sz by_ (agOf P e) s x) else none
      | _, _, _ => none
    | _, _, _ => none
  | .copy, [t, _], [d, x] => match lowX ng d, lowX ng x, P.underlying t with
    | some d, some x, some (.slice e) => match szOf P e with
      | some sz => some (.copy sz d x)
      | none => none
    | _, _, _ => none
  | .len, [t], [x] => match lowX ng x, P.underlying t with
    | some x, some .string => some (.len true x)
    | some x, some (.slice _) => some (.len false x)
    | some _, some (.array n _) => some (.mov (.c (.int .i64 (Int.ofNat n))))
    | _, _ => none
  | .cap, [t], [x] => match lowX ng x, P.underlying t with
    | some x, some (.slice _) => some (.cap x)
    | _, _ => none
  | .clear, [t], [x] => match lowX ng x, P.underlying t with
    | some x, some (.slice e) => match szOf P e, zOf P e with
      | some sz, some z => some (.clr sz z x)
      | _, _ => none
    | _, _ => none
  | .max, _, x :: xs => match lowX ng x, lowXs ng xs with
    | some x, some xs => some (.mx true x xs)
    | _, _ => none
  | .min, _, x :: xs => match lowX ng x, lowXs ng xs with
    | some x, some xs => some (.mx false x xs)
    | _, _ => none
  | _, _, _ => none

/-- The lowering of an operation other than a call; fl says what an append, or a literal, gives (0: nothing more is appended to it; 1: it can be extended; 2: it is kept among the objects). -/
def lowOp (fl : Nat) : Op → Option IOp
  | .move x | .assign x => (lowX ng x).map .mov
  | .pick c a b => match lowX ng c, lowX ng a, lowX ng b with
    | some c, some a, some b => some (.pick c a b)
    | _, _, _ => none
  | .alloc e => match zOf P e with
    | some z => some (.alloc e z.cells)
    | none => none
  | .box e x => (lowX ng x).map (.box e)
  | .build t ps => match zOf P t, P.underlying t with
    | some z, some (.struct fs) => if fs.toList.all fun f => (szOf P f.type).isSome then (lowF P ng fs ps.toList).map (.build z.cells) else none
    | some z, some (.array _ e) => match szOf P e with
      | some sz => (lowA ng sz ps.toList).map (.build z.cells)
      | none => none
    | _, _ => none
  | .buildSlice t n ps => match P.underlying t with
    | some (.slice e) => match szOf P e, zOf P e, lowE ng ps.toList with
      | some sz, some z, some l => if n * sz ≤ 16777216 then some (.mksl (fl == 1) e sz z n l) else none
      | _, _, _ => none
    | _ => none
  | .load t a => match kOf P t, lowX ng a with
    | some k, some a => some (.load k a)
    | _, _ => none
  | .store t a v => match szOf P t, lowX ng a, lowX ng v with
    | some n, some a, some v => some (.store n a v)
    | _, _, _ => none
  | .nilCheck x => (lowX ng x).map .nilchk
  | .binOp op t x y _ => match lowX ng x, lowX ng y with
    | some x, some y => lowBin P op t x y
    | _, _ => none
  | .unOp op _ x => (lowX ng x).map (.un op)
  | .convert s d x => match lowX ng x, P.underlying s, P.underlying d with
    | some x, some (.int _), some (.int k) => some (.conv k x)
    | some x, some (.slice e), some .string => match P.underlying e with
      | some (.int .u8) => some (.b2s x)
      | _ => none
    | some x, some .string, some (.slice e) => match P.underlying e with
      | some (.int .u8) => if szOf P e = some 1 then some (.s2b x) else none
      | _ => none
    | some x, some .string, some .string => some (.convS x)
    | _, _, _ => none
  | .makeFunc (.func f) a b => match lowXs ng a.toList, lowXs ng b.toList with
    | some a, some b => some (.mkfn f a b)
    | _, _ => none
  | .makeMap _ none => some .mkmap
  | .makeMap t (some (.const (.int _ _))) => match P.underlying t with
    | some (.map _ _) => some .mkmap
    | _ => none
  | .makeSlice t l c => match P.underlying t with
    | some (.slice e) => match szOf P e, byOf P e, zOf P e, lowX ng l, lowX ng c with
      | some sz, some by_, some z, some l, some c => some (.mkslice (fl == 2) e sz by_ z l c)
      | _, _, _, _, _ => none
    | _ => none
  | .slice t x lo hi none => match P.underlying t, lowX ng x, lowXo ng lo, lowXo ng hi with
    | some .string, some x, some lo, some hi => some (.slstr x lo hi)
    | some (.slice e), some x, some lo, some hi => (szOf P e).map fun sz => .slsl sz x lo hi
    | some (.array n e), some x, some lo, some hi => (szOf P e).map fun sz => .slarr n sz x lo hi
    | _, _, _, _ => none
  | .fieldAddr s x i => match P.underlying s, lowX ng x with
    | some (.struct fs), some x => match fs[i]? with
      | some f => match szOf P f.type with
        | some (_ + 1) => some (.fld f.offset x)
        | _ => none
      | none => none
    | _, _ => none
  | .field s x i => match P.underlying s, lowX ng x with
    | some (.struct fs), some x => match fs[i]? with
      | some f => match kOf P f.type with
        | some k => some (.part f.offset k x)
        | none => none
      | none => none
    | _, _ => none
  | .indexAddr t x i => match P.underlying t, lowX ng x, lowX ng i with
    | some (.array n e), some x, some i => (szOf P e).map fun sz => .ixa n sz x i
    | some (.slice e), some x, some i => (szOf P e).map fun sz => .ixs sz x i
    | _, _, _ => none
  | .index t x i => match P.underlying t, lowX ng x, lowX ng i with
    | some .string, some x, some i => some (.ixstr x i)
    | some (.array n e), some x, some i => match szOf P e, kOf P e with
      | some sz, some k => some (.ixarr n sz k x i)
      | _, _ => none
    | _, _, _ => none
  | .lookup t x i ok => match P.underlying t, lowX ng x, lowX ng i with
    | some (.map k e), some x, some i => match P.underlying k, zOf P e with
      | some (.int _), some z => some (.look .int ok z x i)
      | some .string, some z => some (.look .str ok z x i)
      | some (.struct _), some z => (flatOf P k).map fun sh => .look (.agg sh) ok z x i
      | _, _ => none
    | _, _, _ => none
  | .mapUpdate t m k v | .insert t m k v => match P.underlying t, lowX ng m, lowX ng k, lowX ng v with
    | some (.map kt _), some m, some k, some v => match P.underlying kt with
      | some (.int _) => some (.mset .int m k v)
      | some .string => some (.mset .str m k v)
      | some (.struct _) => (flatOf P kt).map fun sh => .mset (.agg sh) m k v
      | _ => none
    | _, _, _, _ => none
  | .extract x i => (lowX ng x).map fun x => .ext x i
  | .call { callee := .builtin b, args, argTypes } => lowB P ng fl b argTypes.toList args.toList
  | _ => none

/-- Whether an operation is one that is never reached, so that it may be lowered to nothing. -/
def lowOpB (fl : Nat) (o : Op) : IOp := (lowOp P ng fl o).getD .bad

def lowG (ops : Array Oper) (o : Oper) : Option (Option (Nat × Bool)) :=
  match o.guard with
  | none => some none
  | some (j, b) => match (ops[j]?).bind (·.dst) with
    | some t => some (some (t, b))
    | none => none

/-- A statement. -/
def lowS (fl : Nat → Nat) (ops : Array Oper) (o : Oper) : Option IStmt :=
  match lowG ops o with
  | none => none
  | some g => match o.op with
    | .call { callee := .value f, args, .. } => match lowX ng f, lowXs ng args.toList with
      | some f, some as => some (.call o.dst g f as)
      | _, _ => some (.op o.dst g .bad)
    | op => some (.op o.dst g (lowOpB P ng (match o.dst with | some t => fl t | none => 0) op))

def lowL (fl : Nat → Nat) (ops : Array Oper) : List Oper → Option (List IStmt)
  | [] => some []
  | o :: r => match lowS P ng fl ops o, lowL fl ops r with
    | some a, some l => some (a :: l)
    | _, _ => none

/-! Regions that draw their order -/

/-- An operation that reads no object and writes none. -/
def IOp.pure : IOp → Bool
  | .mov _ | .pick .. | .build .. | .mksl false .. | .nilchk _ | .bin .. | .eqb .. | .eqp .. | .eqs .. | .eqm .. | .eqf .. | .eqa .. | .un .. | .conv .. | .convS .. | .s2b .. | .slstr .. | .slsl .. | .fld .. | .part .. | .ixa .. | .ixs ..
  | .ixstr .. | .ixarr .. | .mkfn .. | .ext .. | .len .. | .cap _ | .mx .. | .mkslice false .. | .bad => true
  | _ => false

/-- An operation that writes no object. -/
def IOp.quiet : IOp → Bool
  | .load .. | .b2s _ | .slarr .. | .look .. => true
  | o => o.pure

/-- A variable that is made. -/
def IStmt.fresh : IStmt → Bool
  | .op (some _) none (.alloc _ _) => true
  | _ => false
def IStmt.quiet : IStmt → Bool
  | .op _ _ o => o.quiet
  | _ => false
def IStmt.pure : IStmt → Bool
  | .op _ _ o => o.pure
  | _ => false
def IStmt.loud (s : IStmt) : Bool := !s.quiet && !s.fresh

def Opd.tmps : Opd → List Nat
  | .t n => [n]
  | _ => []
def oTmps : Option Opd → List Nat
  | some x => x.tmps
  | none => []

/-- The temporaries that an operation looks at. -/
def IOp.looks : IOp → List Nat
  | .mov x | .box _ x | .load _ x | .nilchk x | .un _ x | .conv _ x | .b2s x | .convS x | .s2b x | .clr _ _ x | .fld _ x | .part _ _ x | .ext x _ | .len _ x | .cap x => x.tmps
  | .pick c a b => c.tmps ++ (a.tmps ++ b.tmps)
  | .alloc .. | .mkmap | .bad => []
  | .build _ ps => ps.flatMap fun p => p.2.2.tmps
  | .mksl _ _ _ _ _ ps => ps.flatMap fun p => p.2.tmps
  | .store _ a v => a.tmps ++ v.tmps
  | .bin _ x y | .eqb _ x y | .eqp _ x y | .eqs _ x y | .eqm _ x y | .eqf _ x y | .eqa _ _ x y | .ixa _ _ x y | .ixs _ x y | .ixstr x y | .ixarr _ _ _ x y | .look _ _ _ x y | .app _ _ _ _ _ x y | .copy _ x y | .mkslice _ _ _ _ _ x y => x.tmps ++ y.tmps
  | .slstr x lo hi | .slsl _ x lo hi | .slarr _ _ x lo hi => x.tmps ++ (oTmps lo ++ oTmps hi)
  | .mset _ m k v => m.tmps ++ (k.tmps ++ v.tmps)
  | .mkfn _ a b => a.flatMap Opd.tmps ++ b.flatMap Opd.tmps
  | .mx _ x xs => x.tmps ++ xs.flatMap Opd.tmps

def gTmps : Option (Nat × Bool) → List Nat
  | some (t, _) => [t]
  | none => []

def IStmt.looks : IStmt → List Nat
  | .op _ g o => gTmps g ++ o.looks
  | .call _ g c as => gTmps g ++ (c.tmps ++ as.flatMap Opd.tmps)
  | _ => []

def force {α : Type} (n : Nat) (f : Nat → α) : α :=
  match n with
  | 0 => f 0
  | k + 1 => f (k + 1)

def maskOf (acc : List Nat) : List Edge → Nat → Nat
  | [], s => s
  | e :: r, s => if Region.binds .any e then force (s ||| 2 ^ e.on ||| acc.getD e.on 0) fun s => maskOf acc r s else maskOf acc r s

def aft : List Oper → List Nat → List Nat
  | [], acc => acc
  | o :: r, acc => force (maskOf acc o.after.toList 0) fun m => aft r (acc ++ [m])

/-- For each operation, those before it, as a list of marks. -/
def afters (ops : Array Oper) : List Nat := aft ops.toList []

inductive LAct where
  | run (i : Nat)
  | chk (i : Nat)
  | zero (i : Nat)

def isBefore (bs : List Nat) (j i : Nat) : Bool := (bs.getD i 0).testBit j

def stAt (ss : List IStmt) (i : Nat) : IStmt := ss.getD i (.chk 0 none .bad)

def louds (ss : List IStmt) : List Nat := (List.range ss.length).filter fun i => (stAt ss i).loud

/-- How many of the loud operations are before an operation, and how many are not behind it. -/
def lowest (bs : List Nat) (loud : List Nat) (i : Nat) : Nat := (loud.filter fun e => isBefore bs e i).length
def highest (bs : List Nat) (loud : List Nat) (i : Nat) : Nat := (loud.filter fun e => !isBefore bs i e).length

def fresh (ss : List IStmt) : List Nat := (List.range ss.length).filter fun i => (stAt ss i).fresh

/-- The order in which a region that draws is evaluated, behind the variables that are made: stage by stage, where each loud operation ends one. -/
def plan (bs : List Nat) (ss : List IStmt) : List LAct :=
  let n := ss.length
  let loud := louds ss
  let quiet := (List.range n).filter fun i => (stAt ss i).quiet
  (List.range (loud.length + 1)).flatMap fun k =>
    ((fresh ss).filter fun i => k ≤ highest bs loud i).map .zero ++
    (quiet.filter fun i => lowest bs loud i < k && k ≤ highest bs loud i && !((stAt ss i).pure)).map .chk ++
    (quiet.filter fun i => lowest bs loud i == k).map .run ++
    (match loud[k]? with | some e => [.run e] | none => [])

def planned (ss : List IStmt) : LAct → IStmt
  | .run i => stAt ss i
  | .chk i => match stAt ss i with
    | .op (some d) g o => .chk d g o
    | .op none g o => .op none g o
    | s => s
  | .zero i => match stAt ss i with
    | .op (some d) _ (.alloc ty cs) => .zero d ty cs
    | s => s

/-- The operation that writes a temporary. -/
def writer (ss : List IStmt) (t : Nat) : Option Nat := (List.range ss.length).find? fun i => (stAt ss i).dst == some t

/-- What an operation looks at is there, and not yet overwritten. -/
def viewOk (bs : List Nat) (ss : List IStmt) (done : List Nat) (i : Nat) : Bool :=
  (stAt ss i).looks.all fun t => match writer ss t with
    | none => true
    | some j => if isBefore bs j i then done.contains j else !done.contains j

def IStmt.plain : IStmt → Bool
  | .op .. | .call .. => true
  | _ => false

def planOk (bs : List Nat) (ss : List IStmt) : List LAct → List Nat → Nat → Bool
  | [], done, k => k == (louds ss).length && (List.range ss.length).all fun i => done.contains i
  | .run i :: r, done, k => decide (i < ss.length) && !done.contains i && viewOk bs ss done i && !(stAt ss i).fresh && (stAt ss i).plain &&
    (if (stAt ss i).quiet then planOk bs ss r (i :: done) k
     else (louds ss)[k]? == some i && planOk bs ss r (i :: done) (k + 1))
  | .chk i :: r, done, k => done.contains i && (stAt ss i).quiet && viewOk bs ss done i && planOk bs ss r done k
  | .zero i :: r, done, k => done.contains i && (stAt ss i).fresh && planOk bs ss r done k

/-- Which operations are evaluated at which stage. -/
def seenAt (ss : List IStmt) : List LAct → Nat → List (Nat × Nat)
  | [], _ => []
  | .run i :: r, k => (i, k) :: seenAt ss r (if (stAt ss i).loud then k + 1 else k)
  | .chk i :: r, k => (i, k) :: seenAt ss r k
  | .zero i :: r, k => (i, k) :: seenAt ss r k

def drawOk (bs : List Nat) (ss : List IStmt) (pl : List LAct) : Bool :=
  let n := ss.length
  let loud := louds ss
  let seen := seenAt ss pl 0
  planOk bs ss pl (fresh ss).reverse 0 &&
  ((List.range n).all fun i =>
    (match (stAt ss i).dst with
     | some t => writer ss t == some i
     | none => true) &&
    ((stAt ss i).looks.all fun t => match writer ss t with
     | some j => isBefore bs j i || isBefore bs i j || i == j
     | none => true) &&
    ((List.range (loud.length + 1)).all fun k =>
      !(decide (lowest bs loud i ≤ k) && decide (k ≤ highest bs loud i)) || (stAt ss i).pure || (stAt ss i).loud || seen.contains (i, k))) &&
  (loud.all fun i => loud.all fun j => !decide (i < j) || isBefore bs i j) &&
  ((List.range loud.length).all fun k => match loud[k]? with
    | some i => seen.contains (i, k)
    | none => true) &&
  ((List.range n).all fun i => seen.any fun p => p.1 == i)

def bindsAll (m : Region.Mode) (o : Oper) (done : List Nat) : Bool := o.after.toList.all fun e => !Region.binds m e || done.contains e.on

/-- An order in which all operations can be evaluated. -/
def orderOk (m : Region.Mode) (ops : List Oper) : List Nat → List Nat → Bool
  | [], done => (List.range ops.length).all fun i => done.contains i
  | i :: r, done => (match ops[i]? with | some o => bindsAll m o done | none => false) && orderOk m ops r (i :: done)

/-- Some such order. -/
def someOrder (m : Region.Mode) (ops : List Oper) : Nat → List Nat → List Nat
  | 0, done => done.reverse
  | n + 1, done => match (List.range ops.length).find? fun i => !done.contains i && (match ops[i]? with | some o => bindsAll m o done | none => false) with
    | some i => someOrder m ops n (i :: done)
    | none => done.reverse

def ordersOk (ops : Array Oper) : Bool :=
  orderOk .any ops.toList (List.range ops.size) [] && orderOk .text ops.toList (List.range ops.size) [] && orderOk .gc ops.toList (someOrder .gc ops.toList ops.size []) []

/-- A region, and its statements in the order of evaluation. -/
def lowReg (fl : Nat → Nat) (ops : Array Oper) (draw : Bool) : Option (List IStmt) :=
  match lowL P ng fl ops ops.toList with
  | none => none
  | some ss => if draw then (if ordersOk ops && drawOk (afters ops) ss (plan (afters ops) ss) then some ((fresh ss).map (stAt ss) ++ (plan (afters ops) ss).map (planned ss)) else none) else some ss

/-- A region that ends with a deferred call. -/
def lowDefer (fl : Nat → Nat) (ops : Array Oper) (draw : Bool) : Option ICode :=
  if draw then none
  else match ops.toList.getLast? with
    | some ⟨none, .defer { callee := .value f, args, .. }, _, _, _, none⟩ => match lowL P ng fl ops ops.toList.dropLast, lowX ng f, lowXs ng args.toList with
      | some ss, some f, some as => some (.dfr ss f as)
      | _, _, _ => none
    | _ => none

def low (fl : Nat → Nat) : Code → Option ICode
  | .skip => some .skip
  | .region _ ops draw => match lowDefer P ng fl ops draw with
    | some c => some c
    | none => (lowReg P ng fl ops draw).map .reg
  | .seq a b => match low fl a, low fl b with
    | some a, some b => some (.seq a b)
    | _, _ => none
  | .cond c a b => match lowX ng c, low fl a, low fl b with
    | some c, some a, some b => some (.cond c a b)
    | _, _, _ => none
  | .block id b => (low fl b).map (.block id)
  | .loop b => (low fl b).map .loop
  | .exit id => some (.exit id)
  | .ret => some .ret
  | .rangeFunc f ps a b => match lowX ng f, low fl a, low fl b with
    | some f, some a, some b => some (.rfunc f ps.toList a b)
    | _, _, _ => none
  | _ => none

def lowR : List ResultVar → Option (List Res)
  | [] => some []
  | .tmp t :: r => (lowR r).map (.tmp t :: ·)
  | .cell t ty :: r => match kOf P ty, lowR r with
    | some k, some l => some (.cell t k :: l)
    | _, _ => none

end
end Go.Am

namespace Go.Am

structure Gh where
  loc : Nat → Option (Nat × Nat)
  imm : Nat → Nat → Option Value
  bsz : Nat → Option Nat
  /-- Objects that are not yet in the memory. -/
  unb : Nat → Bool
  /-- The deferred calls of the frame. -/
  dl : List Deferred := []
  /-- The memory of old, which stays. -/
  w0 : World

structure Gh.le3 (G H : Gh) : Prop where
  loc : ∀ i p, G.loc i = some p → H.loc i = some p
  imm : ∀ b j v, G.imm b j = some v → H.imm b j = some v
  bsz : ∀ b n, G.bsz b = some n → H.bsz b = some n
  w0 : H.w0 = G.w0

structure Gh.le0 (G H : Gh) : Prop extends Gh.le3 G H where
  dl : H.dl = G.dl

structure Gh.le (G H : Gh) : Prop extends Gh.le0 G H where
  unb : H.unb = G.unb

theorem Gh.le.weak {G H : Gh} (h : G.le H) : G.le0 H := h.tole0
theorem Gh.le3.refl (G : Gh) : G.le3 G := ⟨fun _ _ h => h, fun _ _ _ h => h, fun _ _ h => h, rfl⟩
theorem Gh.le3.trans {G H K : Gh} (h : G.le3 H) (k : H.le3 K) : G.le3 K :=
  ⟨fun i p e => k.loc i p (h.loc i p e), fun b j v e => k.imm b j v (h.imm b j v e), fun b n e => k.bsz b n (h.bsz b n e), k.w0.trans h.w0⟩
theorem Gh.le0.refl (G : Gh) : G.le0 G := ⟨Gh.le3.refl G, rfl⟩
theorem Gh.le0.trans {G H K : Gh} (h : G.le0 H) (k : H.le0 K) : G.le0 K := ⟨h.tole3.trans k.tole3, k.dl.trans h.dl⟩
theorem Gh.le0.strong {G H : Gh} (h : G.le0 H) (u : H.unb = G.unb) : G.le H := ⟨h, u⟩
theorem Gh.le.refl (G : Gh) : G.le G := ⟨Gh.le0.refl G, rfl⟩
theorem Gh.le.trans {G H K : Gh} (h : G.le H) (k : H.le K) : G.le K := ⟨h.tole0.trans k.tole0, k.unb.trans h.unb⟩

inductive RepV (G : Gh) : AV → Value → Prop
  | bool (b : Bool) : RepV G (.bool b) (.bool b)
  | int (k : IntKind) (n : Int) : RepV G (.int k n) (.int k n)
  | str (s : List Nat) (x : ByteArray) (h : x.data.toList.map UInt8.toNat = s) : RepV G (.str s) (.string x)
  | nptr : RepV G .nptr (.pointer none)
  | ptr (id off b o : Nat) (h : G.loc id = some (b, o)) : RepV G (.ptr id off) (.pointer (some ⟨b, o + off, none⟩))
  | iptr (cs : List AV) (b o : Nat) (vs : List Value) (hl : vs.length = cs.length) (hi : ∀ (i : Nat) v, vs[i]? = some v → G.imm b (o + i) = some v)
      (h1 : ∀ a ∈ cs, a.one = true) (hr : ∀ (i : Nat) (a : AV) (v : Value), cs[i]? = some a → vs[i]? = some v → RepV G a v) : RepV G (.iptr cs) (.pointer (some ⟨b, o, none⟩))
  | nsl : RepV G .nsl (.slice none 0 0)
  | sl (tag sz : Nat) (xs : List AV) (b o cap n : Nat) (vs : List Value) (hz : 0 < sz) (hs : ∀ x ∈ xs, x.nt = true ∧ x.cells.length = sz) (h1 : ∀ x ∈ xs, ∀ a ∈ x.cells, a.one = true)
      (hl : vs.length = (xs.flatMap AV.cells).length)
      (hi : ∀ (i : Nat) v, vs[i]? = some v → G.imm b (o + i) = some v) (hr : ∀ (i : Nat) a v, (xs.flatMap AV.cells)[i]? = some a → vs[i]? = some v → RepV G a v)
      (hc : xs.length ≤ cap) (hb : G.bsz b = some n) (hn : o + cap * sz ≤ n) (ht1 : tag = 1 → cap = xs.length)
      (ht2 : 2 ≤ tag → G.loc tag = some (b, o + xs.length * sz)) : RepV G (.sl tag sz xs) (.slice (some ⟨b, o, none⟩) xs.length cap)
  | hsl (id off len sz b o cap n : Nat) (hz : 0 < sz) (h : G.loc id = some (b, o)) (hc : len ≤ cap) (hb : G.bsz b = some n) (hn : o + off * sz + cap * sz ≤ n) :
      RepV G (.hsl id off len sz) (.slice (some ⟨b, o + off * sz, none⟩) len cap)
  | nmap : RepV G .nmap (.map none)
  | map (id b : Nat) (h : G.loc id = some (b, 0)) : RepV G (.map id) (.map (some b))
  | nfn : RepV G .nfn .nilFunc
  | nif : RepV G .nif .nilIface
  | yld (id b : Nat) (h : G.loc id = some (b, 0)) : RepV G (.yld id) (.func (.yield b) #[] #[])
  | fn (f : Nat) (first cap : List AV) (us vs : Array Value) (h1 : first.length = us.size) (h2 : cap.length = vs.size)
      (r1 : ∀ (i : Nat) a v, first[i]? = some a → us[i]? = some v → RepV G a v) (r2 : ∀ (i : Nat) a v, cap[i]? = some a → vs[i]? = some v → RepV G a v) :
      RepV G (.fn f first cap) (.func (.func f) us vs)
  | agg (cs : List AV) (vs : Array Value) (hl : cs.length = vs.size) (h1 : ∀ a ∈ cs, a.one = true) (hr : ∀ (i : Nat) (a : AV) (v : Value), cs[i]? = some a → vs[i]? = some v → RepV G a v) :
      RepV G (.agg cs) (.agg vs)
  | tup (cs : List AV) (vs : Array Value) (hl : cs.length = vs.size) (hr : ∀ (i : Nat) (a : AV) (v : Value), cs[i]? = some a → vs[i]? = some v → RepV G a v) :
      RepV G (.tup cs) (.tuple vs)

theorem RepV.mono3 {G H : Gh} (h : G.le3 H) {a : AV} {v : Value} (r : RepV G a v) : RepV H a v := by
  induction r with
  | bool b => exact .bool b
  | int k n => exact .int k n
  | str s x e => exact .str s x e
  | nptr => exact .nptr
  | ptr id off b o e => exact .ptr id off b o (h.loc _ _ e)
  | iptr cs b o vs hl hi h1 hr ih => exact .iptr cs b o vs hl (fun i v e => h.imm _ _ _ (hi i v e)) h1 ih
  | nsl => exact .nsl
  | sl tag sz xs b o cap n vs hz hs h1 hl hi hr hc hb hn ht1 ht2 ih =>
    exact .sl tag sz xs b o cap n vs hz hs h1 hl (fun i v e => h.imm _ _ _ (hi i v e)) ih hc (h.bsz _ _ hb) hn ht1 (fun e => h.loc _ _ (ht2 e))
  | hsl id off len sz b o cap n hz e hc hb hn => exact .hsl id off len sz b o cap n hz (h.loc _ _ e) hc (h.bsz _ _ hb) hn
  | nmap => exact .nmap
  | map id b e => exact .map id b (h.loc _ _ e)
  | nfn => exact .nfn
  | nif => exact .nif
  | yld id b e => exact .yld id b (h.loc _ _ e)
  | fn f first cap us vs h1 h2 _ _ i1 i2 => exact .fn f first cap us vs h1 h2 i1 i2
  | agg cs vs hl h1 _ ih => exact .agg cs vs hl h1 ih
  | tup cs vs hl _ ih => exact .tup cs vs hl ih

theorem RepV.mono0 {G H : Gh} (h : G.le0 H) {a : AV} {v : Value} (r : RepV G a v) : RepV H a v := r.mono3 h.tole3
theorem RepV.mono {G H : Gh} (h : G.le H) {a : AV} {v : Value} (r : RepV G a v) : RepV H a v := r.mono0 h.weak

/-- Two lists of values, item by item. -/
def RepL (G : Gh) (as : List AV) (vs : List Value) : Prop := as.length = vs.length ∧ ∀ (i : Nat) a v, as[i]? = some a → vs[i]? = some v → RepV G a v

theorem RepL.mono3 {G H : Gh} (h : G.le3 H) {as : List AV} {vs : List Value} (r : RepL G as vs) : RepL H as vs := ⟨r.1, fun i a v x y => (r.2 i a v x y).mono3 h⟩
theorem RepL.mono0 {G H : Gh} (h : G.le0 H) {as : List AV} {vs : List Value} (r : RepL G as vs) : RepL H as vs := ⟨r.1, fun i a v x y => (r.2 i a v x y).mono0 h⟩
theorem RepL.mono {G H : Gh} (h : G.le H) {as : List AV} {vs : List Value} (r : RepL G as vs) : RepL H as vs := ⟨r.1, fun i a v x y => (r.2 i a v x y).mono h⟩
theorem RepL.nil (G : Gh) : RepL G [] [] := ⟨rfl, fun i a v h => by simp at h⟩
theorem RepL.cons {G : Gh} {a : AV} {v : Value} {as : List AV} {vs : List Value} (h : RepV G a v) (r : RepL G as vs) : RepL G (a :: as) (v :: vs) :=
  ⟨by simp [r.1], fun i b u x y => by
    cases i with
    | zero => simp at x y; subst x; subst y; exact h
    | succ i => exact r.2 i b u (by simpa using x) (by simpa using y)⟩
theorem RepL.head {G : Gh} {a : AV} {v : Value} {as : List AV} {vs : List Value} (r : RepL G (a :: as) (v :: vs)) : RepV G a v := r.2 0 a v rfl rfl
theorem RepL.tail {G : Gh} {a : AV} {v : Value} {as : List AV} {vs : List Value} (r : RepL G (a :: as) (v :: vs)) : RepL G as vs :=
  ⟨by simpa using r.1, fun i b u x y => r.2 (i + 1) b u (by simpa using x) (by simpa using y)⟩
theorem RepL.append {G : Gh} {as bs : List AV} {vs us : List Value} (r : RepL G as vs) (q : RepL G bs us) : RepL G (as ++ bs) (vs ++ us) := by
  refine ⟨by simp [r.1, q.1], fun i a v x y => ?_⟩
  rw [List.getElem?_append] at x y
  rw [r.1] at x
  split at x
  · rename_i h; rw [if_pos h] at y; exact r.2 i a v x y
  · rename_i h; rw [if_neg h] at y; exact q.2 _ a v x y
theorem RepL.drop {G : Gh} {as : List AV} {vs : List Value} (r : RepL G as vs) (n : Nat) : RepL G (as.drop n) (vs.drop n) :=
  ⟨by simp [r.1], fun i a v x y => r.2 (n + i) a v (by simpa using x) (by simpa using y)⟩
theorem RepL.take {G : Gh} {as : List AV} {vs : List Value} (r : RepL G as vs) (n : Nat) : RepL G (as.take n) (vs.take n) :=
  ⟨by simp [r.1], fun i a v x y => by
    rw [List.getElem?_take] at x y
    split at x
    · rename_i h; rw [if_pos h] at y; exact r.2 i a v x y
    · cases x⟩
theorem RepL.get {G : Gh} {as : List AV} {vs : List Value} (r : RepL G as vs) {i : Nat} {a : AV} (h : as[i]? = some a) : ∃ v, vs[i]? = some v ∧ RepV G a v := by
  have hi : i < vs.length := by rw [← r.1]; exact (List.getElem?_eq_some_iff.1 h).1
  exact ⟨vs[i], by simp [hi], r.2 i a _ h (by simp [hi])⟩
theorem RepL.getD {G : Gh} {as : List AV} {vs : List Value} (r : RepL G as vs) {d : AV} {e : Value} (h : RepV G d e) (i : Nat) : RepV G (as.getD i d) (vs.getD i e) := by
  simp only [List.getD_eq_getElem?_getD]
  by_cases hi : i < as.length
  · have hv : i < vs.length := by rw [← r.1]; exact hi
    exact r.2 i _ _ (by simp [hi]) (by simp [hv])
  · have hv : ¬ i < vs.length := by rw [← r.1]; exact hi
    simpa [hi, hv] using h
theorem RepL.set {G : Gh} {as : List AV} {vs : List Value} (r : RepL G as vs) {a : AV} {v : Value} (h : RepV G a v) (i : Nat) : RepL G (as.set i a) (vs.set i v) := by
  refine ⟨by simp [r.1], fun j b u x y => ?_⟩
  rw [List.getElem?_set] at x y
  split at x
  · rename_i hij
    rw [if_pos hij] at y
    split at x
    · split at y
      · cases x; cases y; exact h
      · cases y
    · cases x
  · rename_i hij; rw [if_neg hij] at y; exact r.2 j b u x y

theorem RepV.nt_cells {G : Gh} {a : AV} {v : Value} (r : RepV G a v) (h : a.nt = true) :
    RepL G a.cells v.cells.toList ∧ (∀ x ∈ a.cells, x.one = true) := by
  by_cases ho : a.one = true
  · have hc : a.cells = [a] := by cases a <;> first | rfl | (simp [AV.one] at ho; done)
    have hv : v.cells.toList = [v] := by cases r <;> first | rfl | (simp [AV.one] at ho; done)
    rw [hc, hv]
    exact ⟨.cons r (.nil G), by intro x hx; simp at hx; subst hx; exact ho⟩
  · cases r with
    | agg cs vs hl h1 hr => exact ⟨⟨by simpa [Value.cells, AV.cells] using hl, fun i a v x y => hr i a v x (by simpa [Value.cells] using y)⟩, h1⟩
    | tup => simp [AV.nt] at h
    | _ => simp [AV.one] at ho

theorem RepV.one_cell {G : Gh} {a : AV} {v : Value} (r : RepV G a v) (h : a.one = true) : v.oneCell' = true := by
  cases r <;> first | rfl | (simp [AV.one] at h; done)

theorem RepL.one_cell {G : Gh} {as : List AV} {vs : List Value} (r : RepL G as vs) (h : ∀ x ∈ as, x.one = true) : ∀ v ∈ vs, v.oneCell' = true := by
  intro v hv
  obtain ⟨i, hi, rfl⟩ := List.getElem_of_mem hv
  have ha : i < as.length := by rw [r.1]; exact hi
  exact (r.2 i as[i] vs[i] (by simp [ha]) (by simp [hi])).one_cell (h _ (List.getElem_mem ha))

theorem AV.one_nt {a : AV} (h : a.one = true) : a.nt = true := by cases a <;> first | rfl | (simp [AV.one] at h; done)
theorem AV.one_cells {a : AV} (h : a.one = true) : a.cells = [a] := by cases a <;> first | rfl | (simp [AV.one] at h; done)

theorem ofC_rep (G : Gh) {v : Value} {a : AV} (h : ofC v = some a) : RepV G a v ∧ a.one = true := by
  cases v with
  | bool b => simp [ofC] at h; subst h; exact ⟨.bool b, rfl⟩
  | int k n => simp [ofC] at h; subst h; exact ⟨.int k n, rfl⟩
  | string s => simp [ofC] at h; subst h; exact ⟨.str _ s (by simp), rfl⟩
  | pointer p => cases p <;> simp [ofC] at h; subst h; exact ⟨.nptr, rfl⟩
  | slice p n m =>
    cases p <;> simp [ofC] at h
    obtain ⟨⟨rfl, rfl⟩, rfl⟩ := h
    exact ⟨.nsl, rfl⟩
  | map p => cases p <;> simp [ofC] at h; subst h; exact ⟨.nmap, rfl⟩
  | nilFunc => simp [ofC] at h; subst h; exact ⟨.nfn, rfl⟩
  | nilIface => simp [ofC] at h; subst h; exact ⟨.nif, rfl⟩
  | _ => simp [ofC] at h

theorem ofCs_rep (G : Gh) : ∀ {vs : List Value} {as : List AV}, ofCs vs = some as → RepL G as vs ∧ ∀ a ∈ as, a.one = true
  | [], as, h => by simp [ofCs] at h; subst h; exact ⟨.nil G, by simp⟩
  | v :: r, as, h => by
    simp only [ofCs] at h
    cases h1 : ofC v with
    | none => simp [h1] at h
    | some a =>
      cases h2 : ofCs r with
      | none => simp [h1, h2] at h
      | some l =>
        simp [h1, h2] at h
        subst h
        have q := ofC_rep G h1
        have p := ofCs_rep G h2
        exact ⟨.cons q.1 p.1, by intro x hx; rcases List.mem_cons.1 hx with rfl | hx; exact q.2; exact p.2 x hx⟩

theorem ofV_rep (G : Gh) {v : Value} {a : AV} (h : ofV v = some a) : RepV G a v ∧ a.nt = true := by
  cases v with
  | agg cs =>
    simp only [ofV, Option.map_eq_some_iff] at h
    obtain ⟨l, hl, rfl⟩ := h
    have p := ofCs_rep G hl
    exact ⟨.agg l cs (by simpa using p.1.1) p.2 (fun i a v x y => p.1.2 i a v x (by simpa using y)), rfl⟩
  | _ => exact ⟨(ofC_rep G (by simpa [ofV] using h)).1, AV.one_nt (ofC_rep G (by simpa [ofV] using h)).2⟩

/-- A frame. -/
def RepF (G : Gh) (fr : List AV) (a : Act) : Prop := RepL G fr a.tmps.toList ∧ a.defers = G.dl

theorem undef_rep (G : Gh) : RepV G .undef Go.undef := .tup [] #[] rfl (fun i a v h => by simp at h)

/-- The variables of the package, which stand at the beginning of the memory. -/
def Glob (ng : Nat) (G : Gh) : Prop := ∀ g, g < ng → G.loc g = some (g, 0)

theorem lowX_rep {ng : Nat} {G : Gh} {fr : List AV} {a : Act} (h : RepF G fr a) {x : Operand} {y : Opd} (hl : lowX ng x = some y) (hg : Glob ng G) :
    RepV G (y.ev fr) (a.eval x) := by
  cases x with
  | tmp t =>
    simp [lowX] at hl; subst hl
    have := h.1.getD (undef_rep G) t
    simpa [Opd.ev, Act.eval, Array.getD_eq_getD_getElem?, List.getD_eq_getElem?_getD] using this
  | const v =>
    simp only [lowX, Option.map_eq_some_iff] at hl
    obtain ⟨c, hc, rfl⟩ := hl
    exact (ofV_rep G hc).1
  | global g =>
    simp [lowX] at hl; obtain ⟨hlt, rfl⟩ := hl
    have := RepV.ptr (G := G) g 0 g 0 (hg g hlt)
    simpa [Opd.ev, Act.eval] using this
  | func f =>
    simp [lowX] at hl; subst hl
    exact .fn f [] [] #[] #[] rfl rfl (fun i a v h => by simp at h) (fun i a v h => by simp at h)

end Go.Am
