/- An abstract machine: values, objects, a small intermediate language, and its evaluator. More fuel gives no other answer. A calculus for the machine: what code comes to, with frames as functions. -/
import Derived.Orders
set_option linter.all false
namespace Go.Am

inductive AV where
  | bool (b : Bool)
  | int (k : IntKind) (n : Int)
  | str (s : List Nat)
  | nptr
  | ptr (id off : Nat)
  | iptr (cs : List AV)
  | nsl
  | sl (tag sz : Nat) (xs : List AV)
  | hsl (id off len sz : Nat)
  | nmap
  | map (id : Nat)
  | nfn
  | fn (f : Nat) (first captured : List AV)
  | yld (id : Nat)
  | nif
  | agg (cs : List AV)
  | tup (vs : List AV)
  deriving Inhabited

abbrev AV.undef : AV := .tup []

def AV.cells : AV → List AV
  | .agg cs => cs
  | v => [v]

/-- No tuple. -/
def AV.nt : AV → Bool
  | .tup _ => false
  | _ => true
/-- One cell. -/
def AV.one : AV → Bool
  | .tup _ | .agg _ => false
  | _ => true

mutual
def AV.eqb : AV → AV → Bool
  | .bool a, .bool b => a == b
  | .int j a, .int k b => decide (j = k) && decide (a = b)
  | .str a, .str b => decide (a = b)
  | .nptr, .nptr => true
  | .ptr a b, .ptr c d => Nat.beq a c && Nat.beq b d
  | .iptr a, .iptr b => AV.eqbL a b
  | .nsl, .nsl => true
  | .sl t n a, .sl u m b => Nat.beq t u && (Nat.beq n m && AV.eqbL a b)
  | .hsl a b c d, .hsl e f g h => Nat.beq a e && (Nat.beq b f && (Nat.beq c g && Nat.beq d h))
  | .nmap, .nmap => true
  | .map a, .map b => Nat.beq a b
  | .nfn, .nfn => true
  | .yld a, .yld b => Nat.beq a b
  | .nif, .nif => true
  | .fn f a b, .fn g c d => Nat.beq f g && (AV.eqbL a c && AV.eqbL b d)
  | .agg a, .agg b => AV.eqbL a b
  | .tup a, .tup b => AV.eqbL a b
  | _, _ => false
def AV.eqbL : List AV → List AV → Bool
  | [], [] => true
  | a :: as, b :: bs => AV.eqb a b && AV.eqbL as bs
  | _, _ => false
end

inductive Opd where
  | t (n : Nat)
  | c (v : AV)
  | g (n : Nat)
  | f (n : Nat)
  deriving Inhabited

def Opd.ev (fr : List AV) : Opd → AV
  | .t n => fr.getD n .undef
  | .c v => v
  | .g n => .ptr n 0
  | .f n => .fn n [] []

/-! Arithmetic -/

def wrapF : IntKind → Int → Int
  | .i64, n => let m := n % 18446744073709551616; if 9223372036854775808 ≤ m then m - 18446744073709551616 else m
  | .u64, n => n % 18446744073709551616
  | .i32, n => let m := n % 4294967296; if 2147483648 ≤ m then m - 4294967296 else m
  | .u32, n => n % 4294967296
  | .i16, n => let m := n % 65536; if 32768 ≤ m then m - 65536 else m
  | .u16, n => n % 65536
  | .i8, n => let m := n % 256; if 128 ≤ m then m - 256 else m
  | .u8, n => n % 256

def bitsOf : IntKind → Nat
  | .i8 | .u8 => 8
  | .i16 | .u16 => 16
  | .i32 | .u32 => 32
  | .i64 | .u64 => 64

def toN (k : IntKind) (n : Int) : Nat := (n % (Int.ofNat (2 ^ bitsOf k))).toNat

def allOnes : IntKind → Int
  | .i8 | .i16 | .i32 | .i64 => -1
  | .u8 => 255
  | .u16 => 65535
  | .u32 => 4294967295
  | .u64 => 18446744073709551615

def binInt (op : BinOp) (k : IntKind) (x y : Int) : Option AV :=
  match op with
  | .add => some (.int k (wrapF k (x + y)))
  | .sub => some (.int k (wrapF k (x - y)))
  | .mul => some (.int k (wrapF k (x * y)))
  | .quo => if y = 0 then none else some (.int k (wrapF k (x.tdiv y)))
  | .rem => if y = 0 then none else some (.int k (x.tmod y))
  | .and => some (.int k (wrapF k (Int.ofNat (Nat.land (toN k x) (toN k y)))))
  | .or => some (.int k (wrapF k (Int.ofNat (Nat.lor (toN k x) (toN k y)))))
  | .xor => some (.int k (wrapF k (Int.ofNat (Nat.xor (toN k x) (toN k y)))))
  | .eql => some (.bool (decide (x = y)))
  | .neq => some (.bool (!decide (x = y)))
  | .lss => some (.bool (decide (x < y)))
  | .leq => some (.bool (decide (x ≤ y)))
  | .gtr => some (.bool (decide (y < x)))
  | .geq => some (.bool (decide (y ≤ x)))
  | _ => none

def shiftInt (op : BinOp) (k : IntKind) (x y : Int) : Option AV :=
  if y < 0 then none
  else match op with
    | .shl => some (.int k (wrapF k (x * Int.ofNat (2 ^ min y.toNat (bitsOf k)))))
    | .shr => some (.int k (x.fdiv (Int.ofNat (2 ^ min y.toNat (bitsOf k)))))
    | _ => none

def bytesLess : List Nat → List Nat → Bool
  | _, [] => false
  | [], _ :: _ => true
  | a :: x, b :: y => decide (a < b) || (decide (a = b) && bytesLess x y)

/-- A bound on all lengths. -/
def maxL : Nat := 68719476736

def binStr (op : BinOp) (x y : List Nat) : Option AV :=
  match op with
  | .add => if x.length + y.length ≤ maxL then some (.str (x ++ y)) else none
  | .eql => some (.bool (decide (x = y)))
  | .neq => some (.bool (!decide (x = y)))
  | .lss => some (.bool (bytesLess x y))
  | .leq => some (.bool (bytesLess x y || decide (x = y)))
  | .gtr => some (.bool (!(bytesLess x y || decide (x = y))))
  | .geq => some (.bool (!bytesLess x y))
  | _ => none

def bin (op : BinOp) (x y : AV) : Option AV :=
  match x, y with
  | .int k a, .int j b =>
    match op with
    | .shl | .shr => shiftInt op k a b
    | _ => if k = j then binInt op k a b else none
  | .str a, .str b => binStr op a b
  | _, _ => none

/-- The kind of a cell that can be compared. -/
inductive LK where
  | b | i | s

/-- What the keys of a map are. -/
inductive KK where
  | int | str | agg (sh : List LK)

inductive IOp where
  | mov (x : Opd)
  | pick (c a b : Opd)
  | alloc (ty : Nat) (cs : List AV)
  | box (ty : Nat) (x : Opd)
  | build (zero : List AV) (parts : List (Nat × Nat × Opd))
  | mksl (tag : Bool) (ty sz : Nat) (zero : AV) (n : Nat) (parts : List (Nat × Opd))
  | load (k : Option Nat) (a : Opd)
  | store (n : Nat) (a v : Opd)
  | nilchk (x : Opd)
  | bin (op : BinOp) (x y : Opd)
  | eqb (neg : Bool) (x y : Opd)
  | eqp (neg : Bool) (x y : Opd)
  | eqs (neg : Bool) (x y : Opd)
  | eqm (neg : Bool) (x y : Opd)
  | eqf (neg : Bool) (x y : Opd)
  | eqa (neg : Bool) (sh : List LK) (x y : Opd)
  | un (op : UnOp) (x : Opd)
  | conv (k : IntKind) (x : Opd)
  | b2s (x : Opd)
  | convS (x : Opd)
  | s2b (x : Opd)
  | slstr (x : Opd) (lo hi : Option Opd)
  | slsl (sz : Nat) (x : Opd) (lo hi : Option Opd)
  | slarr (n sz : Nat) (x : Opd) (lo hi : Option Opd)
  | fld (off : Nat) (x : Opd)
  | part (off : Nat) (k : Option Nat) (x : Opd)
  | ixa (n sz : Nat) (x i : Opd)
  | ixs (sz : Nat) (x i : Opd)
  | ixstr (x i : Opd)
  | ixarr (n sz : Nat) (k : Option Nat) (x i : Opd)
  | look (kk : KK) (ok : Bool) (zero : AV) (x key : Opd)
  | mset (kk : KK) (m k v : Opd)
  | mkmap
  | mkfn (f : Nat) (first cap : List Opd)
  | ext (x : Opd) (i : Nat)
  | app (flag ty sz bytes : Nat) (ag : Bool) (s x : Opd)
  | copy (sz : Nat) (d x : Opd)
  | clr (sz : Nat) (zero : AV) (x : Opd)
  | len (str : Bool) (x : Opd)
  | cap (x : Opd)
  | mx (max : Bool) (x : Opd) (xs : List Opd)
  | mkslice (own : Bool) (ty sz bytes : Nat) (zero : AV) (l c : Opd)
  | bad
  deriving Inhabited

inductive IStmt where
  | op (dst : Option Nat) (g : Option (Nat × Bool)) (o : IOp)
  | call (dst : Option Nat) (g : Option (Nat × Bool)) (callee : Opd) (args : List Opd)
  | chk (dst : Nat) (g : Option (Nat × Bool)) (o : IOp)
  | zero (dst ty : Nat) (cs : List AV)
  deriving Inhabited

def IStmt.dst : IStmt → Option Nat
  | .op d _ _ | .call d _ _ _ => d
  | _ => none

inductive ICode where
  | skip
  | reg (ss : List IStmt)
  | seq (a b : ICode)
  | cond (c : Opd) (a b : ICode)
  | block (id : Nat) (b : ICode)
  | loop (b : ICode)
  | exit (id : Nat)
  | ret
  | rfunc (f : Opd) (ps : List Nat) (a b : ICode)
  | dfr (ss : List IStmt) (c : Opd) (as : List Opd)
  deriving Inhabited

inductive X where
  | normal | exit (id : Nat) | ret

/-- Where a loop over a function stands. -/
inductive LS where
  | ready | busy | done (x : X)

inductive Obj where
  | cells (ty : Nat) (cs : List AV)
  | ro (cs : List AV)
  | arr (fl sz : Nat) (cs : List AV)
  | map (es : List (AV × AV))
  | tail (ty : Nat)
  | loop (fr : List AV) (ps : List Nat) (a b : ICode) (st : LS)
  | dfr

structure St where
  objs : List (Nat × Obj)
  next : Nat

def look : List (Nat × Obj) → Nat → Option Obj
  | [], _ => none
  | (i, o) :: r, k => if i = k then some o else look r k

def upd : List (Nat × Obj) → Nat → Obj → List (Nat × Obj)
  | [], _, _ => []
  | (i, o) :: r, k, x => if i = k then (i, x) :: r else (i, o) :: upd r k x

def del : List (Nat × Obj) → Nat → List (Nat × Obj)
  | [], _ => []
  | (i, o) :: r, k => if i = k then r else (i, o) :: del r k

def St.add (s : St) (o : Obj) : St := ⟨(s.next, o) :: s.objs, s.next + 1⟩
def St.set (s : St) (i : Nat) (o : Obj) : St := ⟨upd s.objs i o, s.next⟩
def St.del (s : St) (i : Nat) : St := ⟨Am.del s.objs i, s.next⟩

/-- What happens to the new objects when a function returns. -/
inductive Keep where
  | none | some | all

def Obj.light : Obj → Bool
  | .cells .. | .map .. => true
  | _ => false

/-- The newest objects stand ahead: those that are new are left out. -/
def dropN (base : Nat) : List (Nat × Obj) → List (Nat × Obj)
  | [] => []
  | p :: r => bif Nat.ble base p.1 then dropN base r else p :: r
def dropS (base : Nat) : List (Nat × Obj) → List (Nat × Obj)
  | [] => []
  | p :: r => bif Nat.ble base p.1 then (bif p.2.light then dropS base r else p :: dropS base r) else p :: r

def drop (keep : Keep) (base : Nat) (l : List (Nat × Obj)) : List (Nat × Obj) :=
  match keep with
  | .all => l
  | .none => dropN base l
  | .some => dropS base l

inductive Res where
  | tmp (t : Nat)
  | cell (t : Nat) (k : Option Nat)

structure IFunc where
  ntmps : Nat
  body : ICode
  res : List Res
  keep : Keep
  dem : Bool

def demA : AV → AV
  | .sl _ n xs => .sl 0 n xs
  | v => v
def demB : AV → AV
  | .agg cs => .agg (cs.map demA)
  | v => demA v
def demC : AV → AV
  | .tup vs => .tup (vs.map demB)
  | v => demB v

/-! Operations -/

def cellsAt (l : List (Nat × Obj)) : AV → Option (List AV)
  | .ptr id off => match look l id with
    | some (.cells _ cs) => some (cs.drop off)
    | some (.ro cs) => some (cs.drop off)
    | some (.arr _ _ cs) => some (cs.drop off)
    | _ => none
  | .iptr cs => some cs
  | _ => none

def take (k : Option Nat) (cs : List AV) : Option AV :=
  match k with
  | none => match cs with
    | c :: _ => some c
    | [] => none
  | some n => if n ≤ cs.length then some (.agg (cs.take n)) else none

def put (cs : List AV) (off : Nat) (vs : List AV) : Option (List AV) :=
  if off + vs.length ≤ cs.length then some (cs.take off ++ (vs ++ cs.drop (off + vs.length))) else none

def storeAt (s : St) (a : AV) (vs : List AV) : Option St :=
  match a with
  | .ptr id off => match look s.objs id with
    | some (.cells ty cs) => match put cs off vs with
      | some cs' => some (s.set id (.cells ty cs'))
      | none => none
    | some (.arr fl sz cs) => if fl ≤ off then match put cs off vs with
      | some cs' => some (s.set id (.arr fl sz cs'))
      | none => none
      else none
    | _ => none
  | _ => none

def fills (cs : List AV) (fr : List AV) : List (Nat × Nat × Opd) → Option (List AV)
  | [] => some cs
  | (off, sz, x) :: r =>
    if (x.ev fr).nt ∧ (x.ev fr).cells.length = sz then
      match put cs off (x.ev fr).cells with
      | some cs' => fills cs' fr r
      | none => none
    else none

def fillE (sz : Nat) (xs : List AV) (fr : List AV) : List (Nat × Opd) → Option (List AV)
  | [] => some xs
  | (i, x) :: r => if (x.ev fr).nt ∧ (x.ev fr).cells.length = sz ∧ i < xs.length then fillE sz (xs.set i (x.ev fr)) fr r else none

/-- The elements of a row of cells. -/
def rows (ag : Bool) (sz n : Nat) (cs : List AV) : List AV :=
  if ag then (List.range n).map fun i => .agg ((cs.drop (i * sz)).take sz) else cs.take n

/-- The elements of what is read as a slice. -/
def elems (l : List (Nat × Obj)) (ag : Bool) (sz : Nat) : AV → Option (List AV)
  | .nsl => some []
  | .sl _ z xs => if z = sz then some xs else none
  | .hsl id off len z => if z = sz ∧ (ag = true ∨ sz = 1) then match cellsAt l (.ptr id (off * sz)) with
    | some cs => if len * sz ≤ cs.length then some (rows ag sz len cs) else none
    | none => none
    else none
  | .str s => if sz = 1 then some (s.map fun b => .int .u8 (Int.ofNat b)) else none
  | _ => none

def bytesOf : List AV → Option (List Nat)
  | [] => some []
  | .int .u8 n :: r => match bytesOf r with
    | some l => some (n.toNat % 256 :: l)
    | none => none
  | _ => none

def bound (v : AV) (top : Nat) : Option Nat :=
  match v with
  | .int _ n => if 0 ≤ n ∧ n ≤ Int.ofNat top then some n.toNat else none
  | _ => none

def bLo (fr : List AV) (h : Nat) : Option Opd → Option Nat
  | some l => bound (l.ev fr) h
  | none => some 0
def bHi (fr : List AV) (n : Nat) : Option Opd → Option Nat
  | some h => bound (h.ev fr) n
  | none => some n

def bounds (fr : List AV) (n : Nat) (lo hi : Option Opd) : Option (Nat × Nat) :=
  match bHi fr n hi with
  | some h => match bLo fr h lo with
    | some l => some (l, h)
    | none => none
  | none => none

def cmpCell : LK → AV → AV → Option Bool
  | .b, .bool a, .bool b => some (a == b)
  | .i, .int j a, .int k b => if j = k then some (decide (a = b)) else none
  | .s, .str a, .str b => some (decide (a = b))
  | _, _, _ => none

def cmpCells : List LK → List AV → List AV → Option Bool
  | [], [], [] => some true
  | l :: sh, a :: x, b :: y => match cmpCell l a b with
    | some r => match cmpCells sh x y with
      | some q => some (r && q)
      | none => none
    | none => none
  | _, _, _ => none

def cmpKey : KK → AV → AV → Option Bool
  | .int, a, b => cmpCell .i a b
  | .str, a, b => cmpCell .s a b
  | .agg sh, .agg a, .agg b => cmpCells sh a b
  | _, _, _ => none

def KK.fit : KK → AV → Bool
  | .int, .int .. => true
  | .str, .str _ => true
  | .agg sh, .agg cs => Nat.beq cs.length sh.length
  | _, _ => false

/-- Where a key is, and its value. -/
def findKey (kk : KK) (k : AV) : List (AV × AV) → Nat → Option (Option (Nat × AV))
  | [], _ => some none
  | (a, v) :: r, i => match cmpKey kk k a with
    | some true => some (some (i, v))
    | some false => findKey kk k r (i + 1)
    | none => none

/-- What an append does to the slice that it extends: its elements, the state without the old slice's claim, and the floor. -/
def consume (s : St) (flag ty sz : Nat) (ag : Bool) : AV → Option (List AV × St × Nat)
  | .nsl => some ([], s, 0)
  | .sl t z xs =>
    if z = sz then
      if t = 1 then some (xs, s, 0)
      else if 2 ≤ t then match look s.objs t with
        | some (.tail u) => if u = ty then some (xs, s.del t, xs.length * sz) else none
        | _ => none
      else none
    else none
  | .hsl id off len z =>
    if z = sz ∧ flag = 2 then match look s.objs id with
      | some (.arr fl y cs) =>
        if y = sz ∧ fl ≤ (off + len) * sz ∧ (off + len) * sz ≤ cs.length ∧ (ag = true ∨ sz = 1) then
          some (rows ag sz len (cs.drop (off * sz)), s.del id, fl - off * sz) else none
      | _ => none
    else none
  | _ => none

def evApp (s : St) (flag ty sz bytes : Nat) (ag : Bool) (x y : AV) : Option (AV × St) :=
  match elems s.objs ag sz y with
  | none => none
  | some ys =>
    if ys.isEmpty then
      match x with
      | .nsl => some (x, s)
      | .sl _ z _ => if z = sz then some (if flag = 0 then demA x else x, s) else none
      | .hsl _ _ _ z => if z = sz ∧ flag = 2 then some (x, s) else none
      | _ => none
    else match consume s flag ty sz ag x with
      | none => none
      | some (xs, s', fl) =>
        if (xs.length + ys.length) * (bytes + 1) ≤ maxL ∧ (ys.all fun v => v.nt && decide (v.cells.length = sz)) then
          match flag with
          | 0 => some (.sl 0 sz (xs ++ ys), s')
          | 1 => some (.sl s'.next sz (xs ++ ys), s'.add (.tail ty))
          | _ => some (.hsl s'.next 0 (xs.length + ys.length) sz, s'.add (.arr fl sz ((xs ++ ys).flatMap AV.cells)))
        else none

def mx2 (max : Bool) (a b : Int) : Int := if max then (if b > a then b else a) else (if b < a then b else a)

def evMx (max : Bool) (k : IntKind) (a : Int) (fr : List AV) : List Opd → Option AV
  | [] => some (.int k a)
  | x :: r => match x.ev fr with
    | .int _ b => evMx max k (mx2 max a b) fr r
    | _ => none

def evOp (fr : List AV) (s : St) : IOp → Option (AV × St)
  | .mov x => some (x.ev fr, s)
  | .pick c a b => match c.ev fr with
    | .bool true => some (a.ev fr, s)
    | .bool false => some (b.ev fr, s)
    | _ => none
  | .alloc ty cs => some (.ptr s.next 0, s.add (.cells ty cs))
  | .box ty x => if (x.ev fr).nt then some (.ptr s.next 0, s.add (.cells ty (x.ev fr).cells)) else none
  | .build zero parts => match fills zero fr parts with
    | some cs => some (.agg cs, s)
    | none => none
  | .mksl tag ty sz zero n parts =>
    if zero.nt ∧ zero.cells.length = sz ∧ 0 < sz then
      match fillE sz (List.replicate n zero) fr parts with
      | some xs => if tag then some (.sl s.next sz xs, s.add (.tail ty)) else some (.sl 1 sz xs, s)
      | none => none
    else none
  | .load k a => match cellsAt s.objs (a.ev fr) with
    | some cs => match take k cs with
      | some v => some (v, s)
      | none => none
    | none => none
  | .store n a v =>
    if (v.ev fr).nt ∧ (v.ev fr).cells.length = n then
      match storeAt s (a.ev fr) (v.ev fr).cells with
      | some s' => some (.undef, s')
      | none => none
    else none
  | .nilchk x => match x.ev fr with
    | .ptr i o => some (.ptr i o, s)
    | .iptr cs => some (.iptr cs, s)
    | .fn f a b => some (.fn f a b, s)
    | _ => none
  | .bin op x y => match bin op (x.ev fr) (y.ev fr) with
    | some v => some (v, s)
    | none => none
  | .eqb neg x y => match x.ev fr, y.ev fr with
    | .bool a, .bool b => some (.bool (if neg then !(a == b) else a == b), s)
    | _, _ => none
  | .eqp neg x y => match x.ev fr, y.ev fr with
    | .nptr, .nptr => some (.bool (!neg), s)
    | .nptr, .ptr _ _ | .nptr, .iptr _ | .ptr _ _, .nptr | .iptr _, .nptr => some (.bool neg, s)
    | _, _ => none
  | .eqs neg x y => match x.ev fr, y.ev fr with
    | .nsl, .nsl => some (.bool (!neg), s)
    | .nsl, .sl _ _ _ | .nsl, .hsl _ _ _ _ | .sl _ _ _, .nsl | .hsl _ _ _ _, .nsl => some (.bool neg, s)
    | _, _ => none
  | .eqm neg x y => match x.ev fr, y.ev fr with
    | .nmap, .nmap => some (.bool (!neg), s)
    | .nmap, .map _ | .map _, .nmap => some (.bool neg, s)
    | _, _ => none
  | .eqf neg x y => match x.ev fr, y.ev fr with
    | .nfn, .nfn => some (.bool (!neg), s)
    | .nfn, .fn _ _ _ | .fn _ _ _, .nfn => some (.bool neg, s)
    | _, _ => none
  | .eqa neg sh x y => match x.ev fr, y.ev fr with
    | .agg a, .agg b => match cmpCells sh a b with
      | some r => some (.bool (if neg then !r else r), s)
      | none => none
    | _, _ => none
  | .un op x => match op, x.ev fr with
    | .neg, .int k n => some (.int k (wrapF k (0 - n)), s)
    | .xor, .int k n => some (.int k (wrapF k (Int.ofNat (Nat.xor (toN k (allOnes k)) (toN k n)))), s)
    | .not, .bool b => some (.bool (!b), s)
    | _, _ => none
  | .conv k x => match x.ev fr with
    | .int _ n => some (.int k (wrapF k n), s)
    | _ => none
  | .b2s x => match x.ev fr with
    | .str _ => none
    | v => match elems s.objs false 1 v with
      | some xs => match bytesOf xs with
        | some b => some (.str b, s)
        | none => none
      | none => none
  | .convS x => match x.ev fr with
    | .str b => some (.str b, s)
    | _ => none
  | .s2b x => match x.ev fr with
    | .str b => some (.sl 0 1 (b.map fun c => .int .u8 (Int.ofNat c)), s)
    | _ => none
  | .slstr x lo hi => match x.ev fr with
    | .str b => match bounds fr b.length lo hi with
      | some (l, h) => some (.str ((b.take h).drop l), s)
      | none => none
    | _ => none
  | .slsl sz x lo hi => match x.ev fr with
    | .nsl => match bounds fr 0 lo hi with
      | some _ => some (.nsl, s)
      | none => none
    | .sl _ z xs => if z = sz then match bounds fr xs.length lo hi with
      | some (l, h) => some (.sl 0 sz ((xs.take h).drop l), s)
      | none => none
      else none
    | .hsl id off len z => if z = sz then match bounds fr len lo hi with
      | some (l, h) => if l < h ∨ l = 0 then some (.hsl id (off + l) (h - l) sz, s) else some (.sl 0 sz [], s)
      | none => none
      else none
    | _ => none
  | .slarr n sz x lo hi => match x.ev fr with
    | .ptr id off => match bounds fr n lo hi with
      | some (l, h) => if off % sz = 0 ∧ 0 < sz ∧ (l < h ∨ l = 0) then
          match Am.look s.objs id with
          | some (.cells _ cs) => if off + n * sz ≤ cs.length then some (.hsl id (off / sz + l) (h - l) sz, s) else none
          | _ => none
        else none
      | none => none
    | _ => none
  | .fld off x => match x.ev fr with
    | .ptr id o => some (.ptr id (o + off), s)
    | .iptr cs => some (.iptr (cs.drop off), s)
    | _ => none
  | .part off k x => match x.ev fr with
    | .agg cs => match take k (cs.drop off) with
      | some v => some (v, s)
      | none => none
    | _ => none
  | .ixa n sz x i => match i.ev fr with
    | .int _ j => if 0 ≤ j ∧ j < Int.ofNat n then
        match x.ev fr with
        | .ptr id o => some (.ptr id (o + j.toNat * sz), s)
        | .iptr cs => some (.iptr (cs.drop (j.toNat * sz)), s)
        | _ => none
      else none
    | _ => none
  | .ixs sz x i => match i.ev fr with
    | .int _ j => if 0 ≤ j then
        match x.ev fr with
        | .sl _ z xs => if z = sz then match xs[j.toNat]? with
          | some v => some (.iptr v.cells, s)
          | none => none
          else none
        | .hsl id off len z => if z = sz ∧ j < Int.ofNat len then some (.ptr id ((off + j.toNat) * sz), s) else none
        | _ => none
      else none
    | _ => none
  | .ixstr x i => match x.ev fr, i.ev fr with
    | .str b, .int _ j => if 0 ≤ j then match b[j.toNat]? with
      | some c => some (.int .u8 (Int.ofNat c), s)
      | none => none
      else none
    | _, _ => none
  | .ixarr n sz k x i => match x.ev fr, i.ev fr with
    | .agg cs, .int _ j => if 0 ≤ j ∧ j < Int.ofNat n then match take k (cs.drop (j.toNat * sz)) with
      | some v => some (v, s)
      | none => none
      else none
    | _, _ => none
  | .look kk ok zero x key =>
    if kk.fit (key.ev fr) then
      match (match x.ev fr with
        | .nmap => some []
        | .map id => match Am.look s.objs id with
          | some (.map es) => some es
          | _ => none
        | _ => none) with
      | some es => match findKey kk (key.ev fr) es 0 with
        | some (some (_, v)) => some (if ok then .tup [v, .bool true] else v, s)
        | some none => some (if ok then .tup [zero, .bool false] else zero, s)
        | none => none
      | none => none
    else none
  | .mset kk m k v => if kk.fit (k.ev fr) then match m.ev fr with
    | .map id => match Am.look s.objs id with
      | some (.map es) => match findKey kk (k.ev fr) es 0 with
        | some (some (i, _)) => some (.undef, s.set id (.map (es.set i (k.ev fr, v.ev fr))))
        | some none => some (.undef, s.set id (.map (es ++ [(k.ev fr, v.ev fr)])))
        | none => none
      | _ => none
    | _ => none
    else none
  | .mkmap => some (.map s.next, s.add (.map []))
  | .mkfn f a b => some (.fn f (a.map (Opd.ev fr)) (b.map (Opd.ev fr)), s)
  | .ext x i => match x.ev fr with
    | .tup vs => match vs[i]? with
      | some v => some (v, s)
      | none => none
    | _ => none
  | .app flag ty sz bytes ag x y => evApp s flag ty sz bytes ag (x.ev fr) (y.ev fr)
  | .copy sz d x => match d.ev fr with
    | .hsl id off len z =>
      if z = sz ∧ sz = 1 then
        match elems s.objs false 1 (x.ev fr) with
        | some xs => match storeAt s (.ptr id off) ((xs.take (min xs.length len)).flatMap AV.cells) with
          | some s' => some (.int .i64 (Int.ofNat (min xs.length len)), s')
          | none => none
        | none => none
      else none
    | _ => none
  | .clr sz zero x => match x.ev fr with
    | .nsl => some (.undef, s)
    | .hsl id off len z => if z = sz ∧ zero.nt ∧ zero.cells.length = sz then
        match storeAt s (.ptr id (off * sz)) ((List.replicate len zero).flatMap AV.cells) with
        | some s' => some (.undef, s')
        | none => none
      else none
    | _ => none
  | .len st x => match st, x.ev fr with
    | true, .str b => some (.int .i64 (Int.ofNat b.length), s)
    | false, .nsl => some (.int .i64 0, s)
    | false, .sl _ _ xs => some (.int .i64 (Int.ofNat xs.length), s)
    | false, .hsl _ _ n _ => some (.int .i64 (Int.ofNat n), s)
    | _, _ => none
  | .cap x => match x.ev fr with
    | .nsl => some (.int .i64 0, s)
    | _ => none
  | .mx max x xs => match x.ev fr with
    | .int k a => match evMx max k a fr xs with
      | some v => some (v, s)
      | none => none
    | _ => none
  | .mkslice own _ sz bytes zero l c => match l.ev fr, c.ev fr with
    | .int .i64 n, .int .i64 m =>
      if 0 ≤ n ∧ n = m ∧ n * Int.ofNat (bytes + 1) ≤ Int.ofNat maxL ∧ zero.nt ∧ zero.cells.length = sz ∧ 0 < sz then
        if own then some (.hsl s.next 0 n.toNat sz, s.add (.arr 0 sz ((List.replicate n.toNat zero).flatMap AV.cells))) else some (.sl 1 sz (List.replicate n.toNat zero), s)
      else none
    | _, _ => none
  | .bad => none

/-! Code -/

/-- What is to be done when a function returns; rd: the code is a round of a loop over a function. -/
inductive D where
  | rd
  | mark (id : Nat)
  | call (v : AV) (args : List AV)

structure Env where
  fn : Nat → Option IFunc
  /-- Functions whose effect is told. -/
  sp : Nat → Option (List AV → St → Option (AV × St))
  /-- Functions whose effect as deferred calls is told. -/
  dsp : Nat → Option (List AV → St → Option St)

abbrev Rec := ICode → List AV → List D → St → Option (X × List AV × List D × St)

def resV (fr : List AV) (s : St) : List Res → Option (List AV)
  | [] => some []
  | .tmp t :: r => match resV fr s r with
    | some l => some (fr.getD t .undef :: l)
    | none => none
  | .cell t k :: r => match cellsAt s.objs (fr.getD t .undef) with
    | some cs => match take k cs with
      | some v => match resV fr s r with
        | some l => some (v :: l)
        | none => none
      | none => none
    | none => none

def packR : List AV → AV
  | [v] => v
  | vs => .tup vs

/-- The results of a function that comes to its end. -/
def outs (fi : IFunc) (base : Nat) (fr : List AV) (s : St) : Option (AV × St) :=
  match resV fr s fi.res with
  | some vs => some (if fi.dem then demC (packR vs) else packR vs, ⟨drop fi.keep base s.objs, s.next⟩)
  | none => none

/-- A function that defers nothing. -/
def finish0 (fi : IFunc) (base : Nat) (r : Option (X × List AV × List D × St)) : Option (AV × St) :=
  match r with
  | some (x, fr, ds, s) =>
    match ds with
    | [] => match x with
      | .exit _ => none
      | _ => outs fi base fr s
    | _ => none
  | none => none

def frame0 (fi : IFunc) (args : List AV) : List AV := args ++ List.replicate (fi.ntmps - args.length) .undef

def evCall0 (E : Env) (rec : Rec) (f : Nat) (args : List AV) (s : St) : Option (AV × St) :=
  match E.fn f with
  | some fi => finish0 fi s.next (rec fi.body (frame0 fi args) [] s)
  | none => none

/-- The deferred calls. -/
def runD (E : Env) (rec : Rec) : List D → St → Option St
  | [], s => some s
  | .rd :: _, _ => none
  | .mark id :: r, s => match look s.objs id with
    | some .dfr => runD E rec r (s.del id)
    | _ => none
  | .call v args :: r, s => match v with
    | .fn f first captured => match (match E.dsp f with
        | some h => h (first ++ (args ++ captured)) s
        | none => match evCall0 E rec f (first ++ (args ++ captured)) s with
          | some (_, s') => some s'
          | none => none) with
      | some s' => runD E rec r s'
      | none => none
    | _ => none

def finish (E : Env) (rec : Rec) (fi : IFunc) (base : Nat) (r : Option (X × List AV × List D × St)) : Option (AV × St) :=
  match r with
  | some (x, fr, ds, s) =>
    match x with
    | .exit _ => none
    | _ => match runD E rec ds s with
      | some s' => outs fi base fr s'
      | none => none
  | none => none

/-- A call of a function with a body. -/
def evCallF (E : Env) (rec : Rec) (f : Nat) (args : List AV) (s : St) : Option (AV × St) :=
  match E.fn f with
  | some fi => finish E rec fi s.next (rec fi.body (frame0 fi args) [] s)
  | none => none

def evCall (E : Env) (rec : Rec) (f : Nat) (args : List AV) (s : St) : Option (AV × St) :=
  match E.sp f with
  | some h => match h args s with
    | some r => some r
    | none => evCallF E rec f args s
  | none => evCallF E rec f args s

def setPs (fr : List AV) : List Nat → List AV → List AV
  | p :: ps, a :: as => setPs (fr.set p a) ps as
  | _, _ => fr

/-- A round of a loop over a function. -/
def evYield (rec : Rec) (id : Nat) (args : List AV) (s : St) : Option (AV × St) :=
  match look s.objs id with
  | some (.loop fr ps a b .ready) =>
    if args.length = ps.length then
      match rec a (setPs fr ps args) [.rd] s with
      | some (.normal, fr1, _, s1) => match look s1.objs id with
        | some (.loop fr1' ps1 a1 b1 .ready) => match rec b fr1 [.rd] (s1.set id (.loop fr1' ps1 a1 b1 .busy)) with
          | some (x, _, _, s2) => match look s2.objs id with
            | some (.loop fr2 ps2 a2 b2 .busy) => match x with
              | .normal => some (.bool true, s2.set id (.loop fr2 ps2 a2 b2 .ready))
              | _ => some (.bool false, s2.set id (.loop fr2 ps2 a2 b2 (.done x)))
            | _ => none
          | none => none
        | _ => none
      | _ => none
    else none
  | _ => none

def setDst (fr : List AV) (d : Option Nat) (v : AV) : List AV :=
  match d with
  | some t => fr.set t v
  | none => fr

def wanted (fr : List AV) : Option (Nat × Bool) → Bool
  | none => true
  | some (t, b) => match fr.getD t .undef with
    | .bool a => a == b
    | _ => false

def evSt (E : Env) (rec : Rec) (fr : List AV) (s : St) : IStmt → Option (AV × St)
  | .op _ g o => if wanted fr g then evOp fr s o else some (.undef, s)
  | .call _ g c as =>
    if wanted fr g then
      match c.ev fr with
      | .fn f first captured => evCall E rec f (first ++ (as.map (Opd.ev fr) ++ captured)) s
      | .yld id => evYield rec id (as.map (Opd.ev fr)) s
      | _ => none
    else some (.undef, s)
  | _ => none

def zeroAt (s : St) (v : AV) (ty : Nat) (cs : List AV) : Bool :=
  match v with
  | .ptr r 0 => match look s.objs r with
    | some (.cells u xs) => Nat.beq u ty && AV.eqbL xs cs
    | _ => false
  | _ => false

def evOps (E : Env) (rec : Rec) : List IStmt → List AV → St → Option (List AV × St)
  | [], fr, s => some (fr, s)
  | .chk d g o :: r, fr, s => match evSt E rec fr s (.op (some d) g o) with
    | some (v, s') => if AV.eqb v (fr.getD d .undef) then evOps E rec r fr s' else none
    | none => none
  | .zero d ty cs :: r, fr, s => if zeroAt s (fr.getD d .undef) ty cs then evOps E rec r fr s else none
  | st :: r, fr, s => match evSt E rec fr s st with
    | some (v, s') => evOps E rec r (setDst fr st.dst v) s'
    | none => none

def inRound : List D → Bool
  | .rd :: _ => true
  | _ => false

/-- A loop over a function: the mark is s.next, the loop s.next + 1. -/
def evRange (E : Env) (rec : Rec) (fr : List AV) (ds : List D) (s : St) (f : AV) (ps : List Nat) (a b : ICode) : Option (X × List AV × List D × St) :=
  if inRound ds then none
  else match f with
    | .fn g first captured => match E.sp g with
      | some _ => none
      | none => match evCallF E rec g (first ++ (.yld (s.next + 1) :: captured)) ((s.add .dfr).add (.loop fr ps a b .ready)) with
      | some (_, s1) => match look s1.objs (s.next + 1) with
        | some (.loop _ _ _ _ .ready) => some (.normal, fr, .mark s.next :: ds, s1.del (s.next + 1))
        | some (.loop _ _ _ _ (.done x)) => some (x, fr, .mark s.next :: ds, s1.del (s.next + 1))
        | _ => none
      | none => none
    | _ => none

def step (E : Env) (rec : Rec) : Rec
  | .skip, fr, ds, s => some (.normal, fr, ds, s)
  | .reg ss, fr, ds, s => match evOps E rec ss fr s with
    | some (fr', s') => some (.normal, fr', ds, s')
    | none => none
  | .seq a b, fr, ds, s => match rec a fr ds s with
    | some (.normal, fr', ds', s') => rec b fr' ds' s'
    | r => r
  | .cond c a b, fr, ds, s => match c.ev fr with
    | .bool true => rec a fr ds s
    | .bool false => rec b fr ds s
    | _ => none
  | .block id b, fr, ds, s => match rec b fr ds s with
    | some (.exit i, fr', ds', s') => if i = id then some (.normal, fr', ds', s') else some (.exit i, fr', ds', s')
    | r => r
  | .loop b, fr, ds, s => match rec b fr ds s with
    | some (.normal, fr', ds', s') => rec (.loop b) fr' ds' s'
    | r => r
  | .exit id, fr, ds, s => some (.exit id, fr, ds, s)
  | .ret, fr, ds, s => some (.ret, fr, ds, s)
  | .rfunc f ps a b, fr, ds, s => evRange E rec fr ds s (f.ev fr) ps a b
  | .dfr ss c as, fr, ds, s => if inRound ds then none else match evOps E rec ss fr s with
    | some (fr', s') => match c.ev fr' with
      | .fn f a b => some (.normal, fr', .call (.fn f a b) (as.map (Opd.ev fr')) :: ds, s')
      | _ => none
    | none => none

def ev (E : Env) : Nat → Rec
  | 0 => fun _ _ _ _ => none
  | n + 1 => step E (ev E n)

/-- A call comes to a result. -/
def CallsTo (E : Env) (f : Nat) (args : List AV) (s : St) (v : AV) (s' : St) : Prop := ∃ n, evCall E (ev E n) f args s = some (v, s')

end Go.Am

namespace Go.Am

def RLe (a b : Rec) : Prop := ∀ c fr ds s r, a c fr ds s = some r → b c fr ds s = some r

section
variable {E : Env} {a b : Rec}

theorem evCall0_mono (h : RLe a b) {f : Nat} {args : List AV} {s : St} {r : AV × St} (he : evCall0 E a f args s = some r) : evCall0 E b f args s = some r := by
  unfold evCall0 at he ⊢
  split at he
  · rename_i fi hfi
    (try simp only [hfi])
    cases hr : a fi.body (frame0 fi args) [] s with
    | none => rw [hr] at he; cases he
    | some q => rw [hr] at he; rw [h _ _ _ _ _ hr]; exact he
  · cases he

theorem runD_mono (h : RLe a b) : ∀ {ds : List D} {s s' : St}, runD E a ds s = some s' → runD E b ds s = some s'
  | [], s, s', he => he
  | .rd :: _, s, s', he => by cases he
  | .mark id :: r, s, s', he => by
    unfold runD at he ⊢
    split at he
    · rename_i hl; (try simp only [hl]); exact runD_mono h he
    · cases he
  | .call v args :: r, s, s', he => by
    unfold runD at he ⊢
    split at he
    case h_2 => cases he
    rename_i f first captured
    split at he
    case h_2 => cases he
    rename_i s2 hs2
    cases hd : E.dsp f with
    | some g =>
      simp only [hd] at hs2
      simp only [hs2]
      exact runD_mono h he
    | none =>
      simp only [hd] at hs2
      cases h0 : evCall0 E a f (first ++ (args ++ captured)) s with
      | none => rw [h0] at hs2; cases hs2
      | some q =>
        rw [h0] at hs2
        cases hs2
        simp only [evCall0_mono h h0]
        exact runD_mono h he

theorem evCallF_mono (h : RLe a b) {f : Nat} {args : List AV} {s : St} {r : AV × St} (he : evCallF E a f args s = some r) : evCallF E b f args s = some r := by
  unfold evCallF at he ⊢
  split at he
  case h_2 => cases he
  rename_i fi hfi
  (try simp only [hfi])
  cases hr : a fi.body (frame0 fi args) [] s with
  | none => rw [hr] at he; cases he
  | some q =>
    rw [hr] at he; rw [h _ _ _ _ _ hr]
    obtain ⟨x, fr, ds, s1⟩ := q
    simp only [finish] at he ⊢
    cases x with
    | exit i => cases he
    | normal =>
      simp only at he ⊢
      split at he
      · rename_i s2 hd; rw [runD_mono h hd]; exact he
      · cases he
    | ret =>
      simp only at he ⊢
      split at he
      · rename_i s2 hd; rw [runD_mono h hd]; exact he
      · cases he

theorem evCall_mono (h : RLe a b) {f : Nat} {args : List AV} {s : St} {r : AV × St} (he : evCall E a f args s = some r) : evCall E b f args s = some r := by
  unfold evCall at he ⊢
  split at he
  · rename_i g hg
    (try simp only [hg])
    split at he
    · rename_i q hq; (try simp only [hq]); exact he
    · rename_i hq; (try simp only [hq]); exact evCallF_mono h he
  · rename_i hg; (try simp only [hg]); exact evCallF_mono h he

theorem evYield_mono (h : RLe a b) {id : Nat} {args : List AV} {s : St} {r : AV × St} (he : evYield a id args s = some r) : evYield b id args s = some r := by
  unfold evYield at he ⊢
  split at he
  case h_2 => cases he
  rename_i fr ps x y hl
  (try simp only [hl])
  split at he
  case isFalse => cases he
  rename_i hlen
  rw [if_pos hlen]
  split at he
  case h_2 => cases he
  rename_i fr1 ds1 s1 h1
  rw [h _ _ _ _ _ h1]
  simp only
  split at he
  case h_2 => cases he
  rename_i f2 p2 a2 b2 hl2
  (try simp only [hl2])
  split at he
  case h_2 => cases he
  rename_i x3 fr3 ds3 s3 h3
  rw [h _ _ _ _ _ h3]
  exact he

theorem evSt_mono (h : RLe a b) {fr : List AV} {s : St} {st : IStmt} {r : AV × St} (he : evSt E a fr s st = some r) : evSt E b fr s st = some r := by
  cases st with
  | op d g o => exact he
  | call d g c l =>
    simp only [evSt] at he ⊢
    split at he
    · rename_i hw
      rw [if_pos hw]
      split at he
      · rename_i f first captured hc; (try simp only [hc]); exact evCall_mono h he
      · rename_i id hc; (try simp only [hc]); exact evYield_mono h he
      · cases he
    · rename_i hw; rw [if_neg hw]; exact he
  | chk => exact he
  | zero => exact he

theorem evOps_mono (h : RLe a b) : ∀ {ss : List IStmt} {fr : List AV} {s : St} {r : List AV × St}, evOps E a ss fr s = some r → evOps E b ss fr s = some r
  | [], fr, s, r, he => he
  | .op d g o :: ss, fr, s, r, he => by
    simp only [evOps] at he ⊢
    split at he
    · rename_i v s' hv; rw [evSt_mono h hv]; exact evOps_mono h he
    · cases he
  | .call d g c l :: ss, fr, s, r, he => by
    simp only [evOps] at he ⊢
    split at he
    · rename_i v s' hv; rw [evSt_mono h hv]; exact evOps_mono h he
    · cases he
  | .chk d g o :: ss, fr, s, r, he => by
    simp only [evOps] at he ⊢
    split at he
    · rename_i v s' hv
      rw [evSt_mono h hv]
      simp only
      split at he
      · rename_i hb; rw [if_pos hb]; exact evOps_mono h he
      · cases he
    · cases he
  | .zero d ty cs :: ss, fr, s, r, he => by
    simp only [evOps] at he ⊢
    split at he
    · rename_i hz; rw [if_pos hz]; exact evOps_mono h he
    · cases he

theorem evRange_mono (h : RLe a b) {fr : List AV} {ds : List D} {s : St} {f : AV} {ps : List Nat} {x y : ICode} {r : X × List AV × List D × St} (he : evRange E a fr ds s f ps x y = some r) :
    evRange E b fr ds s f ps x y = some r := by
  unfold evRange at he ⊢
  split at he
  · cases he
  rename_i hr
  rw [if_neg hr]
  split at he
  case h_2 => cases he
  rename_i g first captured
  split at he
  · cases he
  rename_i hg
  (try simp only [hg])
  split at he
  case h_2 => cases he
  rename_i v s1 h1
  rw [evCallF_mono h h1]
  exact he

theorem step_mono (h : RLe a b) : RLe (step E a) (step E b) := by
  intro c fr ds s r he
  cases c with
  | skip => exact he
  | reg ss =>
    simp only [step] at he ⊢
    split at he
    · rename_i fr' s' hv; rw [evOps_mono h hv]; exact he
    · cases he
  | seq x y =>
    simp only [step] at he ⊢
    cases hx : a x fr ds s with
    | none => rw [hx] at he; cases he
    | some q =>
      rw [hx] at he; rw [h _ _ _ _ _ hx]
      obtain ⟨z, fr', ds', s'⟩ := q
      cases z with
      | normal => exact h _ _ _ _ _ he
      | exit i => exact he
      | ret => exact he
  | cond c x y =>
    simp only [step] at he ⊢
    split at he
    · rename_i hc; (try simp only [hc]); exact h _ _ _ _ _ he
    · rename_i hc; (try simp only [hc]); exact h _ _ _ _ _ he
    · cases he
  | block id x =>
    simp only [step] at he ⊢
    cases hx : a x fr ds s with
    | none => rw [hx] at he; cases he
    | some q => rw [hx] at he; rw [h _ _ _ _ _ hx]; exact he
  | loop x =>
    simp only [step] at he ⊢
    cases hx : a x fr ds s with
    | none => rw [hx] at he; cases he
    | some q =>
      rw [hx] at he; rw [h _ _ _ _ _ hx]
      obtain ⟨z, fr', ds', s'⟩ := q
      cases z with
      | normal => exact h _ _ _ _ _ he
      | exit i => exact he
      | ret => exact he
  | exit id => exact he
  | ret => exact he
  | rfunc f ps x y => exact evRange_mono h he
  | dfr ss c l =>
    simp only [step] at he ⊢
    split at he
    · cases he
    rename_i hr
    rw [if_neg hr]
    split at he
    case h_2 => cases he
    rename_i fr' s' hv
    rw [evOps_mono h hv]
    exact he

end

theorem ev_le (E : Env) : ∀ n, RLe (ev E n) (ev E (n + 1))
  | 0 => fun _ _ _ _ _ h => by cases h
  | n + 1 => step_mono (ev_le E n)

theorem ev_mono (E : Env) {n m : Nat} (h : n ≤ m) : RLe (ev E n) (ev E m) := by
  induction h with
  | refl => exact fun _ _ _ _ _ h => h
  | step _ ih => exact fun c fr ds s r he => ev_le E _ c fr ds s r (ih c fr ds s r he)

end Go.Am

namespace Go.Am

def lst (N : Nat) (φ : Nat → AV) : List AV := (List.range N).map φ

def upd' (φ : Nat → AV) (d : Nat) (v : AV) : Nat → AV := fun i => if i = d then v else φ i

theorem upd_eq (φ : Nat → AV) (d : Nat) (v : AV) : upd' φ d v d = v := by simp [upd']
theorem upd_ne {φ : Nat → AV} {d i : Nat} {v : AV} (h : i ≠ d) : upd' φ d v i = φ i := by simp [upd', h]
theorem upd_at (φ : Nat → AV) (d i : Nat) (v : AV) : upd' φ d v i = if i = d then v else φ i := rfl

theorem lst_length (N : Nat) (φ : Nat → AV) : (lst N φ).length = N := by simp [lst]
theorem lst_getD {N i : Nat} (φ : Nat → AV) (h : i < N) : (lst N φ).getD i .undef = φ i := by
  simp [lst, List.getD, h]
theorem lst_set {N d : Nat} (φ : Nat → AV) (v : AV) : (lst N φ).set d v = lst N (upd' φ d v) := by
  apply List.ext_getElem?
  intro i
  simp only [lst, List.getElem?_set, List.length_map, List.length_range, List.getElem?_map]
  by_cases h : d = i
  · subst h
    rw [if_pos rfl]
    by_cases hd : d < N
    · rw [if_pos hd, List.getElem?_range hd]; simp [upd']
    · rw [if_neg hd, List.getElem?_eq_none (by simp; omega)]; rfl
  · rw [if_neg h]
    by_cases hd : i < N
    · rw [List.getElem?_range hd]; simp [upd', Ne.symm h]
    · rw [List.getElem?_eq_none (by simp; omega)]; rfl

theorem ev_t {N i : Nat} {φ : Nat → AV} (h : i < N) : (Opd.t i).ev (lst N φ) = φ i := lst_getD φ h

theorem ev_c {v : AV} {fr : List AV} : (Opd.c v).ev fr = v := rfl

section
variable {E : Env} {N : Nat} {φ : Nat → AV} {s : St}

def Wp (E : Env) (N : Nat) (c : ICode) (φ : Nat → AV) (s : St) (Q : X → (Nat → AV) → St → Prop) : Prop :=
  ∃ n x φ' s', ev E n c (lst N φ) [] s = some (x, lst N φ', [], s') ∧ Q x φ' s'

def WpO (E : Env) (N : Nat) (ss : List IStmt) (φ : Nat → AV) (s : St) (K : (Nat → AV) → St → Prop) : Prop :=
  ∃ n φ' s', evOps E (ev E n) ss (lst N φ) s = some (lst N φ', s') ∧ K φ' s'

variable {Q : X → (Nat → AV) → St → Prop} {K : (Nat → AV) → St → Prop}

theorem Wp.mono {c : ICode} {Q' : X → (Nat → AV) → St → Prop} (h : Wp E N c φ s Q) (hq : ∀ x φ s, Q x φ s → Q' x φ s) : Wp E N c φ s Q' :=
  let ⟨n, x, φ', s', h1, h2⟩ := h; ⟨n, x, φ', s', h1, hq _ _ _ h2⟩

theorem wpO_nil (h : K φ s) : WpO E N [] φ s K := ⟨0, φ, s, rfl, h⟩

theorem wpO_op {d : Nat} {o : IOp} {r : List IStmt} {v : AV} {s' : St} (he : evOp (lst N φ) s o = some (v, s')) (h : WpO E N r (upd' φ d v) s' K) : WpO E N (.op (some d) none o :: r) φ s K := by
  obtain ⟨n, φ', s2, h1, h2⟩ := h
  refine ⟨n, φ', s2, ?_, h2⟩
  simp only [evOps, evSt, wanted, if_true, he, setDst, IStmt.dst, lst_set, h1]

/-- What an operation comes to, in the goal. -/
def OnOp (r : Option (AV × St)) (k : AV → St → Prop) : Prop :=
  match r with
  | some (v, s') => k v s'
  | none => False

theorem onOp_some {v : AV} {s' : St} {k : AV → St → Prop} : OnOp (some (v, s')) k = k v s' := rfl

theorem wpO_o {d : Nat} {o : IOp} {r : List IStmt} (h : OnOp (evOp (lst N φ) s o) fun v s' => WpO E N r (upd' φ d v) s' K) : WpO E N (.op (some d) none o :: r) φ s K := by
  cases he : evOp (lst N φ) s o with
  | none => rw [he] at h; exact h.elim
  | some p => obtain ⟨v, s'⟩ := p; rw [he] at h; exact wpO_op he h

theorem wpO_n {o : IOp} {r : List IStmt} (h : OnOp (evOp (lst N φ) s o) fun _ s' => WpO E N r φ s' K) : WpO E N (.op none none o :: r) φ s K := by
  cases he : evOp (lst N φ) s o with
  | none => rw [he] at h; exact h.elim
  | some p =>
    obtain ⟨v, s'⟩ := p; rw [he] at h
    obtain ⟨n, φ', s2, h1, h2⟩ := h
    refine ⟨n, φ', s2, ?_, h2⟩
    simp only [evOps, evSt, wanted, if_true, he, setDst, IStmt.dst, h1]

theorem wpO_opn {o : IOp} {r : List IStmt} {v : AV} {s' : St} (he : evOp (lst N φ) s o = some (v, s')) (h : WpO E N r φ s' K) : WpO E N (.op none none o :: r) φ s K := by
  obtain ⟨n, φ', s2, h1, h2⟩ := h
  refine ⟨n, φ', s2, ?_, h2⟩
  simp only [evOps, evSt, wanted, if_true, he, setDst, IStmt.dst, h1]

theorem wpO_call {d f : Nat} {l : List Opd} {r : List IStmt} {v : AV} {s' : St} {args : List AV} (ha : l.map (Opd.ev (lst N φ)) = args) (hc : CallsTo E f args s v s') (h : WpO E N r (upd' φ d v) s' K) :
    WpO E N (.call (some d) none (.f f) l :: r) φ s K := by
  obtain ⟨n, φ', s2, h1, h2⟩ := h
  obtain ⟨m, hm⟩ := hc
  refine ⟨max n m, φ', s2, ?_, h2⟩
  have e1 := evCall_mono (ev_mono E (Nat.le_max_right n m)) hm
  have e2 := evOps_mono (ev_mono E (Nat.le_max_left n m)) h1
  simp only [evOps, evSt, wanted, if_true, Opd.ev, List.nil_append, List.append_nil, setDst, IStmt.dst, lst_set]
  have e3 : List.map (fun x => Opd.ev (lst N φ) x) l = args := ha
  rw [show List.map (Opd.ev (lst N φ)) l = args from ha, e1]
  exact e2

theorem wpO_calln {f : Nat} {l : List Opd} {r : List IStmt} {v : AV} {s' : St} {args : List AV} (ha : l.map (Opd.ev (lst N φ)) = args) (hc : CallsTo E f args s v s') (h : WpO E N r φ s' K) :
    WpO E N (.call none none (.f f) l :: r) φ s K := by
  obtain ⟨n, φ', s2, h1, h2⟩ := h
  obtain ⟨m, hm⟩ := hc
  refine ⟨max n m, φ', s2, ?_, h2⟩
  have e1 := evCall_mono (ev_mono E (Nat.le_max_right n m)) hm
  have e2 := evOps_mono (ev_mono E (Nat.le_max_left n m)) h1
  simp only [evOps, evSt, wanted, if_true, Opd.ev, List.nil_append, List.append_nil, setDst, IStmt.dst]
  rw [show List.map (Opd.ev (lst N φ)) l = args from ha, e1]
  exact e2

/-- A call of a function value. -/
theorem wpO_callf {d f : Nat} {c : Opd} {first cap : List AV} {l : List Opd} {r : List IStmt} {v : AV} {s' : St} {args : List AV} (hf : c.ev (lst N φ) = .fn f first cap) (ha : first ++ (l.map (Opd.ev (lst N φ)) ++ cap) = args)
    (hc : CallsTo E f args s v s') (h : WpO E N r (upd' φ d v) s' K) : WpO E N (.call (some d) none c l :: r) φ s K := by
  obtain ⟨n, φ', s2, h1, h2⟩ := h
  obtain ⟨m, hm⟩ := hc
  refine ⟨max n m, φ', s2, ?_, h2⟩
  have e1 := evCall_mono (ev_mono E (Nat.le_max_right n m)) hm
  have e2 := evOps_mono (ev_mono E (Nat.le_max_left n m)) h1
  simp only [evOps, evSt, wanted, if_true, hf, setDst, IStmt.dst, lst_set]
  rw [ha, e1]
  exact e2

/-- An operation under a condition. -/
theorem wpO_g {d t : Nat} {b : Bool} {o : IOp} {r : List IStmt} {v : AV} {s' : St} (hw : wanted (lst N φ) (some (t, b)) = true) (he : evOp (lst N φ) s o = some (v, s')) (h : WpO E N r (upd' φ d v) s' K) :
    WpO E N (.op (some d) (some (t, b)) o :: r) φ s K := by
  obtain ⟨n, φ', s2, h1, h2⟩ := h
  refine ⟨n, φ', s2, ?_, h2⟩
  simp only [evOps, evSt, hw, if_true, he, setDst, IStmt.dst, lst_set, h1]

theorem wpO_gn {d t : Nat} {b : Bool} {o : IOp} {r : List IStmt} (hw : wanted (lst N φ) (some (t, b)) = false) (h : WpO E N r (upd' φ d .undef) s K) : WpO E N (.op (some d) (some (t, b)) o :: r) φ s K := by
  obtain ⟨n, φ', s2, h1, h2⟩ := h
  refine ⟨n, φ', s2, ?_, h2⟩
  simp only [evOps, evSt, hw, Bool.false_eq_true, if_false, setDst, IStmt.dst, lst_set, h1]

theorem wpO_chk {d : Nat} {o : IOp} {r : List IStmt} {v : AV} {s' : St} (he : evOp (lst N φ) s o = some (v, s')) (hv : AV.eqb v ((lst N φ).getD d .undef) = true) (h : WpO E N r φ s' K) : WpO E N (.chk d none o :: r) φ s K := by
  obtain ⟨n, φ', s2, h1, h2⟩ := h
  refine ⟨n, φ', s2, ?_, h2⟩
  simp only [evOps, evSt, wanted, if_true, he, hv, h1]

theorem wp_skip (h : Q .normal φ s) : Wp E N .skip φ s Q := ⟨1, .normal, φ, s, rfl, h⟩
theorem wp_ret (h : Q .ret φ s) : Wp E N .ret φ s Q := ⟨1, .ret, φ, s, rfl, h⟩
theorem wp_exit {i : Nat} (h : Q (.exit i) φ s) : Wp E N (.exit i) φ s Q := ⟨1, .exit i, φ, s, rfl, h⟩

theorem wp_reg {ss : List IStmt} (h : WpO E N ss φ s (Q .normal)) : Wp E N (.reg ss) φ s Q := by
  obtain ⟨n, φ', s', h1, h2⟩ := h
  exact ⟨n + 1, .normal, φ', s', by simp only [ev, step, h1], h2⟩

/-- What comes behind. -/
def Then (E : Env) (N : Nat) (b : ICode) (Q : X → (Nat → AV) → St → Prop) : X → (Nat → AV) → St → Prop
  | .normal, φ, s => Wp E N b φ s Q
  | x, φ, s => Q x φ s

theorem wp_seq {a b : ICode} (h : Wp E N a φ s (Then E N b Q)) : Wp E N (.seq a b) φ s Q := by
  obtain ⟨n, x, φ', s', h1, h2⟩ := h
  cases x with
  | normal =>
    obtain ⟨m, y, φ2, s2, h3, h4⟩ := h2
    refine ⟨max n m + 1, y, φ2, s2, ?_, h4⟩
    simp only [ev, step, ev_mono E (Nat.le_max_left n m) _ _ _ _ _ h1]
    exact ev_mono E (Nat.le_max_right n m) _ _ _ _ _ h3
  | exit i => exact ⟨n + 1, .exit i, φ', s', by simp only [ev, step, h1], h2⟩
  | ret => exact ⟨n + 1, .ret, φ', s', by simp only [ev, step, h1], h2⟩

theorem wp_w {ss : List IStmt} {b : ICode} (h : WpO E N ss φ s (fun φ s => Wp E N b φ s Q)) : Wp E N (.seq (.reg ss) b) φ s Q := wp_seq (wp_reg h)

theorem wp_cond {c : Opd} {a b : ICode} {t : Bool} (hc : c.ev (lst N φ) = .bool t) (h : Wp E N (if t then a else b) φ s Q) : Wp E N (.cond c a b) φ s Q := by
  obtain ⟨n, x, φ', s', h1, h2⟩ := h
  refine ⟨n + 1, x, φ', s', ?_, h2⟩
  cases t <;> simp only [ev, step, hc] <;> simpa using h1

def Blocked (i : Nat) (Q : X → (Nat → AV) → St → Prop) : X → (Nat → AV) → St → Prop
  | .exit j, φ, s => if j = i then Q .normal φ s else Q (.exit j) φ s
  | x, φ, s => Q x φ s

theorem wp_block {i : Nat} {a : ICode} (h : Wp E N a φ s (Blocked i Q)) : Wp E N (.block i a) φ s Q := by
  obtain ⟨n, x, φ', s', h1, h2⟩ := h
  cases x with
  | normal => exact ⟨n + 1, .normal, φ', s', by simp only [ev, step, h1], h2⟩
  | ret => exact ⟨n + 1, .ret, φ', s', by simp only [ev, step, h1], h2⟩
  | exit j =>
    simp only [Blocked] at h2
    by_cases hj : j = i
    · rw [if_pos hj] at h2; exact ⟨n + 1, .normal, φ', s', by simp only [ev, step, h1, if_pos hj], h2⟩
    · rw [if_neg hj] at h2; exact ⟨n + 1, .exit j, φ', s', by simp only [ev, step, h1, if_neg hj], h2⟩

theorem wp_loop_step {a : ICode} (h : Wp E N a φ s (Then E N (.loop a) Q)) : Wp E N (.loop a) φ s Q := by
  obtain ⟨n, x, φ', s', h1, h2⟩ := h
  cases x with
  | normal =>
    obtain ⟨m, y, φ2, s2, h3, h4⟩ := h2
    refine ⟨max n m + 1, y, φ2, s2, ?_, h4⟩
    simp only [ev, step, ev_mono E (Nat.le_max_left n m) _ _ _ _ _ h1]
    exact ev_mono E (Nat.le_max_right n m) _ _ _ _ _ h3
  | exit i => exact ⟨n + 1, .exit i, φ', s', by simp only [ev, step, h1], h2⟩
  | ret => exact ⟨n + 1, .ret, φ', s', by simp only [ev, step, h1], h2⟩

/-- A loop, with what holds at its head and a measure. -/
theorem wp_loop {a : ICode} {α : Type} (I : α → (Nat → AV) → St → Prop) (μ : α → Nat)
    (hstep : ∀ x φ s, I x φ s → Wp E N a φ s (fun y φ' s' => match y with
      | .normal => ∃ x', μ x' < μ x ∧ I x' φ' s'
      | y => Q y φ' s')) : ∀ x φ s, I x φ s → Wp E N (.loop a) φ s Q := by
  intro x
  induction hm : μ x using Nat.strongRecOn generalizing x with
  | ind m ih =>
    intro φ s hI
    refine wp_loop_step ((hstep x φ s hI).mono fun y φ' s' h => ?_)
    cases y with
    | normal =>
      obtain ⟨x', h1, h2⟩ := h
      exact ih (μ x') (by omega) x' rfl φ' s' h2
    | exit i => exact h
    | ret => exact h

def φ0 (args : List AV) : Nat → AV := fun i => args.getD i .undef

theorem frame0_eq {fi : IFunc} {args : List AV} (h : args.length ≤ fi.ntmps) : frame0 fi args = lst fi.ntmps (φ0 args) := by
  apply List.ext_getElem?
  intro i
  simp only [frame0, lst, List.getElem?_append, List.getElem?_map, List.getElem?_replicate]
  by_cases hi : i < args.length
  · rw [if_pos hi, List.getElem?_range (by omega)]
    simp [φ0, hi]
  · rw [if_neg hi]
    by_cases h2 : i < fi.ntmps
    · rw [if_pos (by omega), List.getElem?_range h2]
      have : args.length ≤ i := by omega
      simp [φ0, List.getD, List.getElem?_eq_none this]
    · rw [if_neg (by omega), List.getElem?_eq_none (by simp; omega)]; rfl

/-- A call, by the function's body. -/
theorem calls_body {f : Nat} {fi : IFunc} {args : List AV} {v : AV} {s' : St} (hs : E.sp f = none) (hf : E.fn f = some fi) (hl : args.length ≤ fi.ntmps)
    (h : Wp E fi.ntmps fi.body (φ0 args) s (fun x φ s1 => (∀ i, x ≠ .exit i) ∧ outs fi s.next (lst fi.ntmps φ) s1 = some (v, s'))) : CallsTo E f args s v s' := by
  obtain ⟨n, x, φ', s1, h1, h2, h3⟩ := h
  refine ⟨n, ?_⟩
  simp only [evCall, hs, evCallF, hf, frame0_eq hl, h1, finish]
  cases x with
  | exit i => exact absurd rfl (h2 i)
  | normal => simp only [runD, h3]
  | ret => simp only [runD, h3]

end
end Go.Am
