/- An interpreter of the model's code, deterministic, and its soundness, part 1: A deterministic interpreter over the loaded code of a program: its data, its operations, its run. No machine in this text. The deterministic interpreter: what each operation does, and the run of code. The loaded code of a program as the interpreter's code. No condition. -/
import GoSem.Dispatch
namespace Go.Dm

/-! ### binary keys and tries -/
inductive Pos where
  | xH
  | xO (p : Pos)
  | xI (p : Pos)
  deriving DecidableEq, Inhabited

inductive PT (α : Type) where
  | leaf
  | node (l : PT α) (v : Option α) (r : PT α)

noncomputable section

/-- xH is 0, xO p is 2p+1, xI p is 2p+2. -/
def Pos.toN (p : Pos) : Nat := p.rec 0 (fun _ n => 2 * n + 1) (fun _ n => 2 * n + 2)
def Pos.succ (p : Pos) : Pos := p.rec (.xO .xH) (fun p _ => .xI p) (fun _ q => .xO q)
/-- of a number, with fuel -/
def posF (f : Nat) : Nat → Pos := f.rec (fun _ => .xH) (fun _ ih n => n.rec .xH (fun m _ => Bool.rec (.xI (ih (m / 2))) (.xO (ih (m / 2))) (Nat.beq (m % 2) 0)))
def posOf (n : Nat) : Pos := posF 24 n
def Pos.beq (p : Pos) : Pos → Bool := p.rec (fun q => q.rec true (fun _ _ => false) (fun _ _ => false))
  (fun _ ih q => q.rec false (fun q _ => ih q) (fun _ _ => false)) (fun _ ih q => q.rec false (fun _ _ => false) (fun q _ => ih q))

def PT.get {α : Type} (p : Pos) : PT α → Option α := p.rec (fun t => t.rec none (fun _ v _ _ _ => v))
  (fun _ ih t => t.rec none (fun l _ _ _ _ => ih l)) (fun _ ih t => t.rec none (fun _ _ r _ _ => ih r))
def PT.put {α : Type} (p : Pos) : Option α → PT α → PT α := p.rec (fun x t => t.rec (.node .leaf x .leaf) (fun l _ r _ _ => .node l x r))
  (fun _ ih x t => t.rec (.node (ih x .leaf) none .leaf) (fun l v r _ _ => .node (ih x l) v r))
  (fun _ ih x t => t.rec (.node .leaf none (ih x .leaf)) (fun l v r _ _ => .node l v (ih x r)))

/-- the same trie, keyed by numbers -/
def nget {α : Type} (f : Nat) : Nat → PT α → Option α := f.rec (fun _ _ => none) (fun _ ih n t => t.rec none (fun l v r _ _ =>
  n.rec v (fun m _ => Bool.rec (ih (m / 2) r) (ih (m / 2) l) (Nat.beq (m % 2) 0))))
def nput {α : Type} (f : Nat) : Nat → α → PT α → PT α := f.rec (fun _ _ t => t) (fun _ ih n x t =>
  n.rec (t.rec (.node .leaf (some x) .leaf) (fun l _ r _ _ => .node l (some x) r))
    (fun m _ => Bool.rec
      (t.rec (.node .leaf none (ih (m / 2) x .leaf)) (fun l v r _ _ => .node l v (ih (m / 2) x r)))
      (t.rec (.node (ih (m / 2) x .leaf) none .leaf) (fun l v r _ _ => .node (ih (m / 2) x l) v r)) (Nat.beq (m % 2) 0)))

/-! ### values -/
end
inductive DV where
  | undef
  | bool (b : Bool)
  | int (k : IntKind) (n : Int)
  | str (n x : Nat)
  | ptr (b : Pos) (o : Nat)
  | nilptr
  | slice (b : Pos) (o n c : Nat) (ex : Bool) (sz : Nat)
  | nilslice
  | map (b : Pos)
  | nilmap
  | func (f : Nat) (first cap : List DV)
  | nilfunc
  | iface (t : Nat) (v : DV)
  | nilif
  | agg (cs : List DV)
  | tup (vs : List DV)
  /-- an i64 number of which the remainder by m is known, that it is below b, and (if so told) not below 0 -/
  | res (m r b : Nat) (nn : Bool)
  /-- a slice of whose length the remainder by m is known -/
  | sres (m r : Nat)
  deriving Inhabited

/-- may a block be written? not at all; all of it (what stands behind its end may be frozen); from a place on -/
inductive Fz where
  | ro
  | free
  | marked
  | upto (f : Nat)
inductive Ob where
  | cells (ty lo hi : Nat) (own : Fz) (t : PT DV)
  | mapo (es : List (DV × DV))

structure Hp where
  next : Pos
  m : PT Ob

abbrev Tm := PT DV

inductive Opd where
  | tmp (p : Pos)
  | con (v : DV)

inductive DBin where
  | add | sub | mul | quo | rem | and | or | xor | shl | shr | andNot
  | eql | neq | lss | leq | gtr | geq

/-- how a comparison by == is made: of scalars; of structs (offsets of the cells that count, in order); against nil -/
inductive DLeaf where
  | b
  | i
  | s
inductive DEq where
  | no
  | bool
  | ptr
  | slice
  | map
  | func
  | iface
  | cells (n : Nat) (offs : List (DLeaf × Nat))

inductive DOp where
  | move (x : Opd)
  | pick (c a b : Opd)
  | stop
  | alloc (ty : Nat) (zs : List DV)
  | box (ty n : Nat) (x : Opd)
  | build (zs : List DV) (parts : List (Nat × Nat × Opd))
  | buildSlice (ty : Nat) (zs : List DV) (len sz : Nat) (parts : List (Nat × Nat × Opd))
  | load (agg : Bool) (size : Nat) (a : Opd)
  | store (size : Nat) (a v : Opd)
  | nilCheck (x : Opd)
  | bin (op : DBin) (e : DEq) (x y : Opd)
  | notb (x : Opd)
  | neg (x : Opd)
  | compl (x : Opd)
  | toInt (k : IntKind) (x : Opd)
  | same (x : Opd)
  | toBytes (ty : Nat) (x : Opd)
  | toStr (x : Opd)
  | mkIface (t : Nat) (x : Opd)
  | mkFunc (f : Nat) (first cap : List Opd)
  | mkMap
  | mkSlice (ty : Nat) (zs : List DV) (sz bytes : Nat) (len cap : Opd)
  | sliceS (x : Opd) (lo hi : Option Opd)
  | sliceX (sz : Nat) (x : Opd) (lo hi mx : Option Opd)
  | sliceA (n sz : Nat) (x : Opd) (lo hi : Option Opd)
  | fieldAddr (off : Nat) (x : Opd)
  | field (agg : Bool) (off size : Nat) (x : Opd)
  | indexAddr (sz : Nat) (x i : Opd)
  | indexArr (len sz : Nat) (x i : Opd)
  | indexStr (x i : Opd)
  | indexAgg (len : Nat) (agg : Bool) (sz : Nat) (x i : Opd)
  | lookup (lf : DLeaf) (zero : DV) (x k : Opd) (ok : Bool)
  | mapUpdate (lf : DLeaf) (m k v : Opd)
  | extract (x : Opd) (i : Nat)
  | lenS (x : Opd)
  | lenX (x : Opd)
  | lenM (x : Opd)
  | cap (x : Opd)
  | append (ty sz bytes : Nat) (mk : Bool) (zs : List DV) (x y : Opd)
  | copy (sz : Nat) (x y : Opd)
  | clear (zs : List DV) (x : Opd)
  | minmax (mx : Bool) (args : List Opd)
  | sdata (x : Opd)
  | ustr (u : Nat) (x n : Opd)
  | toUnsafe (x : Opd)
  | ofUnsafe (u n : Nat) (x : Opd)
  | mark (x : Opd)

inductive DOper where
  | plain (dst : Option Pos) (guard : Option (Pos × Bool)) (op : DOp)
  | callF (dst : Option Pos) (guard : Option (Pos × Bool)) (f : Nat) (args : List Opd)
  | callV (dst : Option Pos) (guard : Option (Pos × Bool)) (f : Opd) (args : List Opd)

/-- an operation that reads, whose order against some that act isn't laid down: where its answer must be the same -/
structure DRival where
  op : DOp
  dst : Option Pos
  guard : Option (Pos × Bool)
  places : List Nat

inductive DCode where
  | skip
  | stop
  | region (ops : List DOper)
  | drawn (ops : List DOper) (rivals : List DRival)
  | seq (a b : DCode)
  | cond (c : Opd) (thn els : DCode)
  | block (id : Nat) (body : DCode)
  | loop (body : DCode)
  | exit (id : Nat)
  | scope (body : DCode)
  | label (l : Nat)
  | goto (l : Nat)
  | ret

inductive DRes where
  | tmp (p : Pos)
  | cell (a : Pos) (agg : Bool) (size : Nat)

structure DFunc where
  nargs : Nat
  results : List DRes
  body : DCode

/-- what a run comes to; 'bad' bears where and why -/
inductive R where
  | norm (t : Tm) (h : Hp)
  | exit (id : Nat) (t : Tm) (h : Hp)
  | ret (t : Tm) (h : Hp)
  | goto (l : Nat) (t : Tm) (h : Hp)
  | bad (why : List Nat)

inductive RV where
  | ok (v : DV) (h : Hp)
  | bad (why : List Nat)
  deriving Inhabited
end Go.Dm

namespace Go.Dm
noncomputable section

/-! ### small words -/
def kc (k : IntKind) : Nat := k.rec 0 1 2 3 4 5 6 7
def kSigned (k : IntKind) : Bool := k.rec true true true true false false false false
/-- the greatest number of a kind -/
def kTop (k : IntKind) : Nat := k.rec 127 32767 2147483647 9223372036854775807 255 65535 4294967295 18446744073709551615
/-- wrapped; at once where it fits -/
def wrapF (k : IntKind) (n : Int) : Int :=
  n.rec (fun m => Bool.rec (k.wrap (Int.ofNat m)) (Int.ofNat m) (Nat.ble m (kTop k)))
    (fun m => Bool.rec (k.wrap (Int.negSucc m)) (Int.negSucc m) (and (kSigned k) (Nat.ble m (kTop k))))
/-- a < b, a ≤ b, a = b of whole numbers, by numbers alone -/
def ilt (a b : Int) : Bool := a.rec (fun m => b.rec (fun n => Nat.blt m n) (fun _ => false)) (fun m => b.rec (fun _ => true) (fun n => Nat.blt n m))
def ile (a b : Int) : Bool := not (ilt b a)
def ieq (a b : Int) : Bool := a.rec (fun m => b.rec (fun n => Nat.beq m n) (fun _ => false)) (fun m => b.rec (fun _ => false) (fun n => Nat.beq m n))

/-- a whole number as a bound: 0 ≤ i ≤ n -/
def upto (i : Int) (n : Nat) : Option Nat := i.rec (fun m => Bool.rec none (some m) (Nat.ble m n)) (fun _ => none)
/-- 0 ≤ i < n -/
def below (i : Int) (n : Nat) : Option Nat := i.rec (fun m => Bool.rec none (some m) (Nat.blt m n)) (fun _ => none)

/-! ### strings: how long, and the bytes as one number, the first one lowest -/
def p256 (n : Nat) : Nat := Nat.pow 2 (Nat.mul 8 n)
def scat (n x m y : Nat) : DV := .str (n + m) (x + y * p256 n)
def ssub (x lo hi : Nat) : DV := .str (hi - lo) (x / p256 lo % p256 (hi - lo))
def sbyte (x i : Nat) : Nat := x / p256 i % 256
def slt (f : Nat) : Nat → Nat → Nat → Nat → Bool := f.rec (fun _ _ _ _ => false) (fun _ ih n x m y =>
  m.rec false (fun m' _ => n.rec true (fun n' _ => Bool.rec (Bool.rec (Nat.blt (x % 256) (y % 256)) (ih n' (x / 256) m' (y / 256)) (Nat.beq (x % 256) (y % 256))) true (Nat.blt (x % 256) (y % 256)))))
def sless (n x m y : Nat) : Bool := slt (m + 1) n x m y
/-- the bytes as cells -/
def scells (n : Nat) : Nat → List DV := n.rec (fun _ => []) (fun _ ih x => .int .u8 (Int.ofNat (x % 256)) :: ih (x / 256))

/-! ### memory -/
def rdn (n : Nat) : Nat → PT DV → List DV := n.rec (fun _ _ => []) (fun _ ih o t => (nget 24 o t).getD .undef :: ih (o + 1) t)
def wrn (l : List DV) : Nat → PT DV → PT DV := l.rec (fun _ t => t) (fun x _ ih o t => ih (o + 1) (nput 24 o x t))
def len (l : List DV) : Nat := l.rec 0 (fun _ _ n => n + 1)
def app (l : List DV) (m : List DV) : List DV := l.rec m (fun x _ ih => x :: ih)

def Hp.new (h : Hp) (o : Ob) : Hp := { next := h.next.succ, m := h.m.put h.next (some o) }
def Hp.set (h : Hp) (b : Pos) (o : Option Ob) : Hp := { h with m := h.m.put b o }

/-- how many cells a block has at most -/
def big (n : Nat) : Bool := Nat.ble n 8388608
/-- n cells from o on -/
def Hp.read (h : Hp) (b : Pos) (o n : Nat) : Option (List DV) :=
  match h.m.get b with
  | some (.cells _ lo hi _ t) => Bool.rec none (some (rdn n o t)) (and (Nat.ble lo o) (Nat.ble (o + n) hi))
  | _ => none
def Hp.read1 (h : Hp) (b : Pos) (o : Nat) : Option DV :=
  match h.m.get b with
  | some (.cells _ lo hi _ t) => Bool.rec none (some ((nget 24 o t).getD .undef)) (and (Nat.ble lo o) (Nat.blt o hi))
  | _ => none
def Fz.ok (f : Fz) (o : Nat) : Bool := f.rec false true true (fun f => Nat.ble f o)
def Fz.from (f : Fz) (o : Nat) : Fz := f.rec .ro .free .marked (fun f => .upto (Nat.max f o))
def Hp.write (h : Hp) (b : Pos) (o : Nat) (l : List DV) : Option Hp :=
  match h.m.get b with
  | some (.cells ty lo hi own t) => Bool.rec none (some (h.set b (some (.cells ty lo hi own (wrn l o t))))) (and (own.ok o) (and (Nat.ble lo o) (Nat.ble (o + len l) hi)))
  | _ => none
def newRow (h : Hp) (ty : Nat) (l : List DV) (v : DV) : Option (DV × Hp) := Bool.rec none (some (v, h.new (.cells ty 0 (len l) .free (wrn l 0 .leaf)))) (big (len l))

/-- the cells of a value that is stored -/
def vcells (v : DV) : Option (List DV) :=
  match v with
  | .undef | .tup _ => none
  | .agg cs => some cs
  | v => some [v]
def fits (n : Nat) (l : List DV) : Option (List DV) := Bool.rec none (some l) (Nat.beq (len l) n)

/-! ### comparisons -/
/-- of two cells: none where they can't be told -/
def eqv (x y : DV) : Option Bool :=
  match x, y with
  | .int k a, .int k' b => Bool.rec none (some (ieq a b)) (Nat.beq (kc k) (kc k'))
  | .str n x, .str m y => some (and (Nat.beq n m) (Nat.beq x y))
  | .bool a, .bool b => some (a.rec (not b) b)
  | _, _ => none
/-- of two values, where one may be nil -/
def eqB (x y : DV) : Option Bool := match x, y with
  | .bool a, .bool b => some (a.rec (not b) b)
  | _, _ => none
def eqP (x y : DV) : Option Bool := match x, y with
  | .nilptr, .nilptr => some true
  | .nilptr, .ptr _ _ => some false
  | .ptr _ _, .nilptr => some false
  | .ptr b o, .ptr c p => Bool.rec none (some (Nat.beq o p)) (b.beq c)
  | _, _ => none
def eqS (x y : DV) : Option Bool := match x, y with
  | .nilslice, .nilslice => some true
  | .nilslice, .slice .. => some false
  | .slice .., .nilslice => some false
  | _, _ => none
def eqM (x y : DV) : Option Bool := match x, y with
  | .nilmap, .nilmap => some true
  | .nilmap, .map _ => some false
  | .map _, .nilmap => some false
  | _, _ => none
def eqF (x y : DV) : Option Bool := match x, y with
  | .nilfunc, .nilfunc => some true
  | .nilfunc, .func .. => some false
  | .func .., .nilfunc => some false
  | _, _ => none
def eqI (x y : DV) : Option Bool := match x, y with
  | .nilif, .nilif => some true
  | .nilif, .iface .. => some false
  | .iface .., .nilif => some false
  | _, _ => none
def lget (l : List DV) : Nat → DV := l.rec (fun _ => .undef) (fun x _ ih n => n.rec x (fun n _ => ih n))
def eqInt (x y : DV) : Option Bool := match x, y with
  | .int k a, .int k' b => Bool.rec none (some (ieq a b)) (Nat.beq (kc k) (kc k'))
  | _, _ => none
def eqStr (x y : DV) : Option Bool := match x, y with
  | .str n x, .str m y => some (and (Nat.beq n m) (Nat.beq x y))
  | _, _ => none
def eqL (k : DLeaf) : DV → DV → Option Bool := k.rec eqB eqInt eqStr
def eqc (offs : List (DLeaf × Nat)) (xs ys : List DV) : Option Bool :=
  offs.rec (some true) (fun o _ ih => match eqL o.1 (lget xs o.2) (lget ys o.2) with
    | some true => ih
    | r => r)
def eqA (n : Nat) (offs : List (DLeaf × Nat)) (x y : DV) : Option Bool := match x, y with
  | .agg xs, .agg ys => Bool.rec none (eqc offs xs ys) (and (Nat.beq (len xs) n) (Nat.beq (len ys) n))
  | _, _ => none
def eqd (e : DEq) : DV → DV → Option Bool := e.rec (fun _ _ => none) eqB eqP eqS eqM eqF eqI eqA

/-! ### arithmetic -/
def ibits (f : Nat → Nat → Nat) (k : IntKind) (a b : Int) : DV := .int k (wrapF k (Int.ofNat (f (a.emod (Int.ofNat (kTop k * (kSigned k).rec 1 2 + 1 + (kSigned k).rec 0 1))).toNat (b.emod (Int.ofNat (kTop k * (kSigned k).rec 1 2 + 1 + (kSigned k).rec 0 1))).toNat)))
def dbinI (op : DBin) (k : IntKind) (a b : Int) : Option DV :=
  match op with
  | .add => some (.int k (wrapF k (a + b)))
  | .sub => some (.int k (wrapF k (a - b)))
  | .mul => some (.int k (wrapF k (a * b)))
  | .quo => Bool.rec (some (.int k (wrapF k (a.tdiv b)))) none (ieq b 0)
  | .rem => Bool.rec (some (.int k (a.tmod b))) none (ieq b 0)
  | .and => some (ibits Nat.land k a b)
  | .or => some (ibits Nat.lor k a b)
  | .xor => some (ibits Nat.xor k a b)
  | .eql => some (.bool (ieq a b))
  | .neq => some (.bool (not (ieq a b)))
  | .lss => some (.bool (ilt a b))
  | .leq => some (.bool (ile a b))
  | .gtr => some (.bool (ilt b a))
  | .geq => some (.bool (ile b a))
  | _ => none
def dshiftW (op : DBin) (k : IntKind) (a : Int) (b : Int) : Option DV :=
  match b with
  | .ofNat n => match op with
      | .shl => some (.int k (wrapF k (a * Int.ofNat (2 ^ (min n (k.bits))))))
      | .shr => some (.int k (a.fdiv (Int.ofNat (2 ^ (min n (k.bits))))))
      | _ => none
  | .negSucc _ => none
def dbinS (op : DBin) (n x m y : Nat) : Option DV :=
  match op with
  | .add => Bool.rec none (some (scat n x m y)) (Nat.ble (n + m) 1099511627776)
  | .eql => some (.bool (and (Nat.beq n m) (Nat.beq x y)))
  | .neq => some (.bool (not (and (Nat.beq n m) (Nat.beq x y))))
  | .lss => some (.bool (sless n x m y))
  | .gtr => some (.bool (not (or (sless n x m y) (and (Nat.beq n m) (Nat.beq x y)))))
  | .leq => some (.bool (or (sless n x m y) (and (Nat.beq n m) (Nat.beq x y))))
  | .geq => some (.bool (not (sless n x m y)))
  | _ => none
def isShift (op : DBin) : Bool := match op with | .shl | .shr => true | _ => false
def deq (op : DBin) (r : Option Bool) : Option DV := match op, r with
  | .eql, some b => some (.bool b)
  | .neq, some b => some (.bool (not b))
  | _, _ => none
/-- a known number added to one that is known by its remainder; and the other way round, what is told of its remainder -/
def resAdd (op : DBin) (k : IntKind) (a m r b : Nat) (nn : Bool) : Option DV := match op, k with
  | .add, .i64 => Bool.rec none (some (.res m ((r + a) % m) (b + a) nn)) (Nat.ble (b + a) 4611686018427387904)
  | _, _ => none
def resOp (op : DBin) (k : IntKind) (m r b : Nat) (nn : Bool) (c : Nat) : Option DV := match op, k with
  | .add, .i64 => Bool.rec none (some (.res m ((r + c) % m) (b + c) nn)) (Nat.ble (b + c) 4611686018427387904)
  | .rem, .i64 => Bool.rec none (some (.int .i64 (Int.ofNat r))) (and (Nat.beq c m) nn)
  | .and, .i64 => Bool.rec none (some (.int .i64 (Int.ofNat r))) (and (Nat.beq m 4) (Nat.beq c 3))
  | _, _ => none
def dbin (op : DBin) (e : DEq) (x y : DV) : Option DV :=
  match x, y with
  | .int k a, .int k' b => Bool.rec (Bool.rec none (dbinI op k a b) (Nat.beq (kc k) (kc k'))) (dshiftW op k a b) (isShift op)
  | .str n x, .str m y => dbinS op n x m y
  | .int k (.ofNat a), .res m r b nn => resAdd op k a m r b nn
  | .res m r b nn, .int k (.ofNat c) => resOp op k m r b nn c
  | x, y => deq op (eqd e x y)

/-! ### operands -/
def ev (t : Tm) (x : Opd) : DV := match x with
  | .tmp p => (t.get p).getD .undef
  | .con v => v
def evs (t : Tm) (l : List Opd) : List DV := l.rec [] (fun x _ ih => ev t x :: ih)
/-- parts laid over zero cells -/
def fill (n : Nat) (l : List (Nat × Nat × Opd)) (t : Tm) : PT DV → Option (PT DV) := l.rec (fun z => some z) (fun p _ ih z =>
  match vcells (ev t p.2.2) with
  | some cs => Bool.rec none (ih (wrn cs p.1 z)) (and (Nat.beq (len cs) p.2.1) (Nat.ble (p.1 + p.2.1) n))
  | none => none)

def find (lf : DLeaf) (es : List (DV × DV)) (k : DV) : Option (Option DV) := es.rec (some none) (fun e _ ih => match eqL lf k e.1 with
  | some true => some (some e.2)
  | some false => ih
  | none => none)
def update (lf : DLeaf) (es : List (DV × DV)) (k v : DV) : List (DV × DV) := es.rec [(k, v)] (fun e es ih => match eqL lf k e.1 with
  | some true => (k, v) :: es
  | _ => e :: ih)
def optI (x : Option Opd) (t : Tm) (n : Nat) (top : Nat) : Option Nat := match x with
  | none => some n
  | some o => match ev t o with | .int _ i => upto i top | _ => none

def bytesOk (l : List DV) : Option Nat := l.rec (some 0) (fun c _ ih => match c, ih with
  | .int .u8 (.ofNat n), some x => Bool.rec none (some (n + 256 * x)) (Nat.blt n 256)
  | _, _ => none)
def minmax1 (mx : Bool) (x y : DV) : Option DV := match x, y with
  | .int k a, .int k' b => Bool.rec none (some (.int k (mx.rec (Bool.rec a b (ilt b a)) (Bool.rec a b (ilt a b))))) (Nat.beq (kc k) (kc k'))
  | _, _ => none
def minmaxL (mx : Bool) (l : List DV) : DV → Option DV := l.rec (fun x => some x) (fun y _ ih x => match minmax1 mx x y with
  | some z => ih z
  | none => none)

/-- what is appended: how many elements, their cells -/
def reps (n : Nat) (zs : List DV) : List DV := n.rec [] (fun _ ih => app zs ih)
def source (sz : Nat) (mk : Bool) (zs : List DV) (y : DV) (h : Hp) : Option (Nat × List DV) := match y with
  | .nilslice => mk.rec (some (0, [])) none
  | .slice b o n _ _ sz' => mk.rec (match n with
    | 0 => some (0, [])
    | n + 1 => Bool.rec none (match h.read b o ((n + 1) * sz) with | some l => some (n + 1, l) | none => none) (Nat.beq sz sz')) none
  | .str n x => mk.rec (Bool.rec none (some (n, scells n x)) (Nat.beq sz 1)) none
  | .int _ (.ofNat n) => mk.rec none (Bool.rec none (some (n, reps n zs)) (big n))
  | _ => none

def dappend (ty sz bytes : Nat) (mk : Bool) (zs : List DV) (x y : DV) (h : Hp) : Option (DV × Hp) :=
  match source sz mk zs y h with
  | none => none
  | some (m, l) => match m with
    | 0 => match x with
      | .nilslice => some (x, h)
      | .slice .. => some (x, h)
      | _ => none
    | m' + 1 => match x with
      | .nilslice => Bool.rec none (newRow h ty l (.slice h.next 0 (m' + 1) (m' + 1) false sz)) (Nat.ble ((m' + 1) * (bytes + 1)) 1099511627776)
      | .slice b o n c ex sz' => Bool.rec none
          (Bool.rec
            (ex.rec
              -- it may grow, or not: the elder block is gone
              (match h.m.get b with
              | some (.cells ty' lo hi own t) => Bool.rec none
                  (some (.slice h.next o (n + m' + 1) (n + m' + 1) false sz, (h.set b none).new (.cells ty o (o + (n + m' + 1) * sz) (own.from o) (wrn l (o + n * sz) t))))
                  (and (and (Nat.blt 0 (n + c)) (and (own.ok (o + n * sz)) (big (o + (n + m' + 1) * sz)))) (and (Nat.beq ty ty') (and (Nat.ble lo o) (Nat.ble (o + n * sz) hi))))
              | _ => none)
              -- it grows: the elder block stays
              (match (Nat.rec (some []) (fun n' _ => h.read b o ((n' + 1) * sz)) n : Option (List DV)) with
              | some old => newRow h ty (app old l) (.slice h.next 0 (n + m' + 1) (n + m' + 1) false sz)
              | none => none))
            -- within what there is
            (match h.write b (o + n * sz) l with
            | some h => some (.slice b o (n + m' + 1) c ex sz, h)
            | none => none)
            (Nat.ble (n + m' + 1) c))
          (and (Nat.ble ((n + m' + 1) * (bytes + 1)) 1099511627776) (Nat.beq sz sz'))
      | _ => none

def dcopy (sz : Nat) (x y : DV) (h : Hp) : Option (DV × Hp) :=
  match source sz false [] y h, x with
  | some (m, l), .slice b o n _ _ sz' => Bool.rec none
      (match (Nat.min m n) with
      | 0 => some (.int .i64 0, h)
      | k + 1 => match h.write b o ((l.take ((k + 1) * sz))) with
        | some h => some (.int .i64 (Int.ofNat (k + 1)), h)
        | none => none) (Nat.beq sz sz')
  | some _, .nilslice => some (.int .i64 0, h)
  | _, _ => none

/-! ### operations that call nothing, one by one -/
def dMove (x : Opd) (t : Tm) (h : Hp) : Option (DV × Hp) := some (ev t x, h)
def dPick (c : Opd) (a : Opd) (b : Opd) (t : Tm) (h : Hp) : Option (DV × Hp) := match ev t c with | .bool true => some (ev t a, h) | .bool false => some (ev t b, h) | _ => none
def dStop  (_t : Tm) (_h : Hp) : Option (DV × Hp) := none
def dAlloc (ty : Nat) (zs : List DV) (_t : Tm) (h : Hp) : Option (DV × Hp) := newRow h ty zs (.ptr h.next 0)
def dBox (ty : Nat) (n : Nat) (x : Opd) (t : Tm) (h : Hp) : Option (DV × Hp) :=
  match vcells (ev t x) with
    | some cs => Bool.rec none (newRow h ty cs (.ptr h.next 0)) (Nat.beq (len cs) n)
    | none => none
def dBuild (zs : List DV) (parts : List (Nat × Nat × Opd)) (t : Tm) (h : Hp) : Option (DV × Hp) :=
  match fill (len zs) parts t (wrn zs 0 .leaf) with
    | some z => Bool.rec none (some (.agg (rdn (len zs) 0 z), h)) (big (len zs))
    | none => none
def dBuildSlice (ty : Nat) (zs : List DV) (n : Nat) (sz : Nat) (parts : List (Nat × Nat × Opd)) (t : Tm) (h : Hp) : Option (DV × Hp) :=
  match fill (len zs) parts t (wrn zs 0 .leaf) with
    | some z => Bool.rec none (some (.slice h.next 0 n n true sz, h.new (.cells ty 0 (len zs) .free z))) (big (len zs))
    | none => none
def dLoad (agg : Bool) (size : Nat) (a : Opd) (t : Tm) (h : Hp) : Option (DV × Hp) :=
  match ev t a with
    | .ptr b o => agg.rec (match h.read1 b o with | some v => some (v, h) | none => none) (match h.read b o size with | some l => some (.agg l, h) | none => none)
    | _ => none
def dStore (size : Nat) (a : Opd) (v : Opd) (t : Tm) (h : Hp) : Option (DV × Hp) :=
  match ev t a, vcells (ev t v) with
    | .ptr b o, some cs => match fits size cs with
      | some cs => match h.write b o cs with | some h => some (.undef, h) | none => none
      | none => none
    | _, _ => none
def dNilCheck (x : Opd) (t : Tm) (h : Hp) : Option (DV × Hp) := match ev t x with | .ptr b o => some (.ptr b o, h) | _ => none
def dBin (op : DBin) (e : DEq) (x : Opd) (y : Opd) (t : Tm) (h : Hp) : Option (DV × Hp) := match dbin op e (ev t x) (ev t y) with | some v => some (v, h) | none => none
def dNotb (x : Opd) (t : Tm) (h : Hp) : Option (DV × Hp) := match ev t x with | .bool b => some (.bool (not b), h) | _ => none
def dNeg (x : Opd) (t : Tm) (h : Hp) : Option (DV × Hp) := match ev t x with | .int k n => some (.int k (wrapF k (0 - n)), h) | _ => none
def dCompl (x : Opd) (t : Tm) (h : Hp) : Option (DV × Hp) := match ev t x with | .int k n => some (ibits Nat.xor k ((kSigned k).rec (Int.ofNat (kTop k)) (Int.negSucc 0)) n, h) | _ => none
def dToInt (k : IntKind) (x : Opd) (t : Tm) (h : Hp) : Option (DV × Hp) := match ev t x with | .int _ n => some (.int k (wrapF k n), h) | _ => none
def dSame (x : Opd) (t : Tm) (h : Hp) : Option (DV × Hp) := match ev t x with | .str n s => some (.str n s, h) | _ => none
def dToBytes (ty : Nat) (x : Opd) (t : Tm) (h : Hp) : Option (DV × Hp) := match ev t x with | .str n s => Bool.rec none (some (.slice h.next 0 n n false 1, h.new (.cells ty 0 n .marked (wrn (scells n s) 0 .leaf)))) (big n) | _ => none
def dToStr (x : Opd) (t : Tm) (h : Hp) : Option (DV × Hp) :=
  match ev t x with
    | .nilslice => some (.str 0 0, h)
    | .slice b o n _ _ _ => match n with
      | 0 => some (.str 0 0, h)
      | n + 1 => match h.read b o (n + 1) with
        | some l => match bytesOk l with | some s => some (.str (n + 1) s, h) | none => none
        | none => none
    | _ => none
def dMkIface (ty : Nat) (x : Opd) (t : Tm) (h : Hp) : Option (DV × Hp) := some (.iface ty (ev t x), h)
def dMkFunc (f : Nat) (a : List Opd) (b : List Opd) (t : Tm) (h : Hp) : Option (DV × Hp) := some (.func f (evs t a) (evs t b), h)
def dMkMap  (_t : Tm) (h : Hp) : Option (DV × Hp) := some (.map h.next, h.new (.mapo []))
def dMkSlice (ty : Nat) (zs : List DV) (sz : Nat) (bytes : Nat) (l : Opd) (c : Opd) (t : Tm) (h : Hp) : Option (DV × Hp) :=
  match ev t l, ev t c with
    | .int _ (.ofNat l), .int _ (.ofNat c) => Bool.rec none (newRow h ty (reps c zs) (.slice h.next 0 l c true sz)) (and (Nat.ble l c) (Nat.ble (c * (bytes + 1)) 1099511627776))
    | _, _ => none
def dSliceS (x : Opd) (lo : Option Opd) (hi : Option Opd) (t : Tm) (h : Hp) : Option (DV × Hp) :=
  match ev t x with
    | .str n s => match optI hi t n n with
      | some j => match optI lo t 0 j with | some i => some (ssub s i j, h) | none => none
      | none => none
    | _ => none
def dSliceX (sz : Nat) (x : Opd) (lo : Option Opd) (hi : Option Opd) (mx : Option Opd) (t : Tm) (h : Hp) : Option (DV × Hp) :=
  match ev t x with
    | .slice b o n c ex sz' => match optI mx t c c with
      | some m => match optI hi t n m with
        | some j => match optI lo t 0 j with
          | some i => Bool.rec none (some (.slice b (o + i * sz) (j - i) (m - i) (or ex mx.isSome) sz, h)) (Nat.beq sz sz')
          | none => none
        | none => none
      | none => none
    | .nilslice => match optI mx t 0 0 with
      | some _ => match optI hi t 0 0 with
        | some _ => match optI lo t 0 0 with | some _ => some (.nilslice, h) | none => none
        | none => none
      | none => none
    | _ => none
def dSliceA (n : Nat) (sz : Nat) (x : Opd) (lo : Option Opd) (hi : Option Opd) (t : Tm) (h : Hp) : Option (DV × Hp) :=
  match ev t x with
  | .ptr b o => match h.m.get b with
    | some (.cells _ l u _ _) => match optI hi t n n with
      | some j => match optI lo t 0 j with
        | some i => Bool.rec none (some (.slice b (o + i * sz) (j - i) (n - i) true sz, h)) (and (Nat.ble l o) (Nat.ble (o + n * sz) u))
        | none => none
      | none => none
    | _ => none
  | _ => none
def dFieldAddr (off : Nat) (x : Opd) (t : Tm) (h : Hp) : Option (DV × Hp) := match ev t x with | .ptr b o => some (.ptr b (o + off), h) | _ => none
def dField (agg : Bool) (off : Nat) (size : Nat) (x : Opd) (t : Tm) (h : Hp) : Option (DV × Hp) :=
  match ev t x with
  | .agg cs => Bool.rec none (agg.rec (some (lget cs off, h)) (some (.agg ((cs.drop off).take size), h))) (and (Nat.ble (off + size) (len cs)) (Nat.blt off (len cs)))
  | _ => none
def dIndexAddr (sz : Nat) (x : Opd) (i : Opd) (t : Tm) (h : Hp) : Option (DV × Hp) :=
  match ev t x, ev t i with
    | .slice b o n _ _ sz', .int _ i => match below i n with
      | some i => Bool.rec none (some (.ptr b (o + i * sz), h)) (Nat.beq sz sz')
      | none => none
    | _, _ => none
def dIndexArr (n : Nat) (sz : Nat) (x : Opd) (i : Opd) (t : Tm) (h : Hp) : Option (DV × Hp) :=
  match ev t x, ev t i with
    | .ptr b o, .int _ i => match below i n with | some i => some (.ptr b (o + i * sz), h) | none => none
    | _, _ => none
def dIndexStr (x : Opd) (i : Opd) (t : Tm) (h : Hp) : Option (DV × Hp) :=
  match ev t x, ev t i with
    | .str n s, .int _ i => match below i n with | some i => some (.int .u8 (Int.ofNat (sbyte s i)), h) | none => none
    | _, _ => none
def dIndexAgg (n : Nat) (agg : Bool) (sz : Nat) (x : Opd) (i : Opd) (t : Tm) (h : Hp) : Option (DV × Hp) :=
  match ev t x, ev t i with
    | .agg cs, .int _ i => match below i n with
      | some i => Bool.rec none (agg.rec (some (lget cs (i * sz), h)) (some (.agg ((cs.drop (i * sz)).take sz), h))) (and (Nat.ble (i * sz + sz) (len cs)) (Nat.blt (i * sz) (len cs)))
      | none => none
    | _, _ => none
def dLookup (lf : DLeaf) (zero : DV) (x : Opd) (k : Opd) (ok : Bool) (t : Tm) (h : Hp) : Option (DV × Hp) :=
  match (match ev t x with
      | .nilmap => some []
      | .map b => match h.m.get b with | some (.mapo es) => some es | _ => none
      | _ => none : Option (List (DV × DV))) with
    | some es => match find lf es (ev t k) with
      | some (some v) => some (ok.rec v (.tup [v, .bool true]), h)
      | some none => some (ok.rec zero (.tup [zero, .bool false]), h)
      | none => none
    | none => none
def dMapUpdate (lf : DLeaf) (m : Opd) (k : Opd) (v : Opd) (t : Tm) (h : Hp) : Option (DV × Hp) :=
  match ev t m with
    | .map b => match h.m.get b with
      | some (.mapo es) => match find lf es (ev t k) with
        | some _ => some (.undef, h.set b (some (.mapo (update lf es (ev t k) (ev t v)))))
        | none => none
      | _ => none
    | _ => none
def dExtract (x : Opd) (i : Nat) (t : Tm) (h : Hp) : Option (DV × Hp) := match ev t x with | .tup vs => Bool.rec none (some (lget vs i, h)) (Nat.blt i (len vs)) | _ => none
def dLenS (x : Opd) (t : Tm) (h : Hp) : Option (DV × Hp) := match ev t x with
  | .str n _ => some (.int .i64 (Int.ofNat n), h)
  | _ => none
def dLenX (x : Opd) (t : Tm) (h : Hp) : Option (DV × Hp) := match ev t x with
  | .slice _ _ n _ _ _ => some (.int .i64 (Int.ofNat n), h)
  | .nilslice => some (.int .i64 0, h)
  | .sres m r => some (.res m r 281474976710657 true, h)
  | _ => none
def dLenM (x : Opd) (t : Tm) (h : Hp) : Option (DV × Hp) := match ev t x with
  | .nilmap => some (.int .i64 0, h)
  | .map b => match h.m.get b with
    | some (.mapo es) => some (.int .i64 (Int.ofNat es.length), h)
    | _ => none
  | _ => none
def dCap (x : Opd) (t : Tm) (h : Hp) : Option (DV × Hp) :=
  match ev t x with
    | .slice _ _ _ c ex _ => ex.rec none (some (.int .i64 (Int.ofNat c), h))
    | .nilslice => some (.int .i64 0, h)
    | _ => none
def dAppend (ty : Nat) (sz : Nat) (bytes : Nat) (mk : Bool) (zs : List DV) (x : Opd) (y : Opd) (t : Tm) (h : Hp) : Option (DV × Hp) := dappend ty sz bytes mk zs (ev t x) (ev t y) h
def dCopy (sz : Nat) (x : Opd) (y : Opd) (t : Tm) (h : Hp) : Option (DV × Hp) := dcopy sz (ev t x) (ev t y) h
def dClear (zs : List DV) (x : Opd) (t : Tm) (h : Hp) : Option (DV × Hp) :=
  match ev t x with
    | .nilslice => some (.undef, h)
    | .slice b o n _ _ sz => match n with
      | 0 => some (.undef, h)
      | n + 1 => Bool.rec none (match h.write b o (reps (n + 1) zs) with | some h => some (.undef, h) | none => none) (Nat.beq (len zs) sz)
    | _ => none
def dMinmax (mx : Bool) (args : List Opd) (t : Tm) (h : Hp) : Option (DV × Hp) :=
  match evs t args with
    | [] => none
    | x :: rest => match minmaxL mx rest x with | some v => some (v, h) | none => none
def dSdata (x : Opd) (t : Tm) (h : Hp) : Option (DV × Hp) :=
  match ev t x with
    | .nilslice => some (.nilptr, h)
    | .slice b o _ c _ _ => Bool.rec none (some (.ptr b o, h)) (Nat.blt 0 c)
    | _ => none
def dUstr (u : Nat) (x : Opd) (n : Opd) (t : Tm) (h : Hp) : Option (DV × Hp) :=
  match ev t x, ev t n with
    | .nilptr, .int _ (.ofNat 0) => some (.str 0 0, h)
    | .ptr b o, .int _ (.ofNat n) => match n with
      | 0 => some (.str 0 0, h)
      | n + 1 => match h.m.get b with
        | some (.cells ty lo hi own cs) => (own.rec none (some (.upto (o + (n + 1)))) none (fun f => some (.upto (Nat.max f (o + (n + 1))))) : Option Fz).rec none fun f => Bool.rec none (match bytesOk (rdn (n + 1) o cs) with
            | some s => some (.str (n + 1) s, h.set b (some (.cells ty lo hi f cs)))
            | none => none) (and (Nat.beq ty u) (and (Nat.ble lo o) (Nat.ble (o + (n + 1)) hi)))
        | _ => none
    | _, _ => none
def dToUnsafe (x : Opd) (t : Tm) (h : Hp) : Option (DV × Hp) :=
  match ev t x with
    | .nilptr => some (.nilptr, h)
    | .ptr b o => match h.m.get b with
      | some (.cells _ lo hi _ _) => Bool.rec none (some (.ptr b o, h)) (and (Nat.ble lo o) (Nat.blt o hi))
      | _ => none
    | _ => none
def dOfUnsafe (u : Nat) (n : Nat) (x : Opd) (t : Tm) (h : Hp) : Option (DV × Hp) :=
  match ev t x with
    | .nilptr => some (.nilptr, h)
    | .ptr b o => match h.m.get b with
      | some (.cells ty lo hi own _) => Bool.rec none (some (.ptr b o, h)) (and (and (Nat.beq ty u) (Nat.beq o 0)) (and (own.rec false true true (fun _ => true)) (and (Nat.beq lo 0) (Nat.ble n hi))))
      | _ => none
    | _ => none
def dMark (x : Opd) (t : Tm) (h : Hp) : Option (DV × Hp) :=
  match ev t x with
    | .slice b o n c ex sz => match h.m.get b with
      | some (.cells ty lo hi own t) => (own.rec none (some ()) (some ()) (fun _ => none) : Option Unit).rec none fun _ => Bool.rec none (some (.slice b o n c ex sz, h.set b (some (.cells ty lo hi .marked t)))) (Nat.blt 0 c)
      | _ => none
    | _ => none
/-- an operation that calls nothing -/
def dop (op : DOp) : Tm → Hp → Option (DV × Hp) := op.rec dMove dPick dStop dAlloc dBox dBuild dBuildSlice dLoad dStore dNilCheck dBin dNotb dNeg dCompl dToInt dSame dToBytes dToStr dMkIface dMkFunc dMkMap dMkSlice dSliceS dSliceX dSliceA dFieldAddr dField dIndexAddr dIndexArr dIndexStr dIndexAgg dLookup dMapUpdate dExtract dLenS dLenX dLenM dCap dAppend dCopy dClear dMinmax dSdata dUstr dToUnsafe dOfUnsafe dMark

/-! ### the same value -/
def same00 (x y : DV) : Bool := match x, y with
  | .bool a, .bool b => a.rec (not b) b
  | .int k a, .int k' b => and (Nat.beq (kc k) (kc k')) (ieq a b)
  | .str n x, .str m y => and (Nat.beq n m) (Nat.beq x y)
  | .ptr b o, .ptr b' o' => and (Nat.beq o o') (b.beq b')
  | .nilptr, .nilptr => true
  | .slice b o n c ex sz, .slice b' o' n' c' ex' sz' => and (and (and (Nat.beq o o') (Nat.beq n n')) (and (Nat.beq c c') (Nat.beq sz sz'))) (and (ex.rec (not ex') ex') (b.beq b'))
  | .nilslice, .nilslice => true
  | .map b, .map b' => b.beq b'
  | .nilmap, .nilmap => true
  | .nilfunc, .nilfunc => true
  | .nilif, .nilif => true
  | _, _ => false
def sameL (f : DV → DV → Bool) (l : List DV) : List DV → Bool := l.rec (fun m => m.rec true (fun _ _ _ => false)) (fun x _ ih m => m.rec false (fun y m _ => and (f x y) (ih m)))
def same0 (x y : DV) : Bool := match x, y with
  | .func f l c, .func f' l' c' => and (Nat.beq f f') (and (sameL same00 l l') (sameL same00 c c'))
  | x, y => same00 x y
def same1 (x y : DV) : Bool := match x, y with
  | .iface t x, .iface t' y => and (Nat.beq t t') (same0 x y)
  | x, y => same0 x y
def sameV (x y : DV) : Bool := match x, y with
  | .agg l, .agg m => sameL same1 l m
  | .tup l, .tup m => sameL same1 l m
  | x, y => same1 x y

/-! ### the run -/
def setD (d : Option Pos) (v : DV) (t : Tm) : Tm := match d with | some p => t.put p (some v) | none => t
/-- is an operation wanted? none: it can't be told -/
def wanted (g : Option (Pos × Bool)) (t : Tm) : Option Bool := match g with
  | none => some true
  | some (p, w) => match t.get p with | some (.bool b) => some (b.rec (not w) w) | some (.tup _) => some false | _ => none
def DOper.dst (o : DOper) : Option Pos := o.rec (fun d _ _ => d) (fun d _ _ _ => d) (fun d _ _ _ => d)
def DOper.guard (o : DOper) : Option (Pos × Bool) := o.rec (fun _ g _ => g) (fun _ g _ _ => g) (fun _ g _ _ => g)
def posN (d : Option Pos) : Nat := match d with | some p => p.toN | none => 9999

section
variable (call : Nat → List DV → Hp → RV)
def lift (d : Option Pos) (r : Option (DV × Hp)) : RV := r.rec (.bad [posN d]) (fun p => .ok p.1 p.2)
def vcall (d : Option Pos) (args : List DV) (h : Hp) (f : DV) : RV := match f with
  | .func f first cap => call f (app first (app args cap)) h
  | _ => .bad [posN d]
def oper (o : DOper) (t : Tm) (h : Hp) : RV :=
  o.rec (fun d _ op => lift d (dop op t h)) (fun _ _ f args => call f (evs t args) h) (fun d _ f args => vcall call d (evs t args) h (ev t f))
def after (ih : Tm → Hp → R) (d : Option Pos) (t : Tm) (r : RV) : R := r.rec (fun v h => ih (setD d v t) h) (fun w => .bad w)
def opers (ops : List DOper) : Tm → Hp → R := ops.rec (fun t h => .norm t h) (fun o _ ih t h =>
  (wanted o.guard t).rec (.bad [7777, posN o.dst]) (fun w => w.rec (ih (setD o.dst (.tup []) t) h) (after ih o.dst t (oper call o t h))))
/-- the same, with what the memory was before each, the last one first -/
def afterT (ih : List Hp → Tm → Hp → R) (acc : List Hp) (d : Option Pos) (t : Tm) (r : RV) : R := r.rec (fun v h => ih acc (setD d v t) h) (fun w => .bad w)
def opersT (k : List Hp → Tm → Hp → R) (ops : List DOper) : List Hp → Tm → Hp → R := ops.rec (fun acc t h => k (h :: acc) t h) (fun o _ ih acc t h =>
  (wanted o.guard t).rec (.bad [7778, posN o.dst]) (fun w => w.rec (ih (h :: acc) (setD o.dst (.tup []) t) h) (afterT ih (h :: acc) o.dst t (oper call o t h))))
def hget (l : List Hp) : Nat → Option Hp := l.rec (fun _ => none) (fun x _ ih n => n.rec (some x) (fun n _ => ih n))
def rivalAt (r : DRival) (acc : List Hp) (t : Tm) (j : Nat) : Bool := match hget acc j with
  | some h => match dop r.op t h with
    | some (v, _) => match r.dst with | some d => sameV v ((t.get d).getD .undef) | none => true
    | none => false
  | none => false
def rivalOk (acc : List Hp) (t : Tm) (r : DRival) : Bool := (wanted r.guard t).rec false (fun w => w.rec true (r.places.rec true (fun j _ ih => and (rivalAt r acc t j) ih)))
def rivalsOk (rs : List DRival) (acc : List Hp) (t : Tm) : Bool := rs.rec true (fun r _ ih => and (rivalOk acc t r) ih)
def drawnRun (ops : List DOper) (rs : List DRival) (t : Tm) (h : Hp) : R := opersT call (fun acc t h => Bool.rec (.bad [7779]) (.norm t h) (rivalsOk rs acc t)) ops [] t h
/-- where a code runs from its begin, and from a label in it -/
def thenN (g : Tm → Hp → R) (r : R) : R := r.rec g (fun i t h => .exit i t h) (fun t h => .ret t h) (fun l t h => .goto l t h) (fun w => .bad w)
def branch (x : DV) (a b : R) : R := match x with | .bool c => c.rec b a | _ => .bad [8888]
def unblock (id : Nat) (r : R) : R := r.rec (fun t h => .norm t h) (fun i t h => Bool.rec (.exit i t h) (.norm t h) (Nat.beq i id)) (fun t h => .ret t h) (fun l t h => .goto l t h) (fun w => .bad w)
def rounds (n : Nat) (body : Tm → Hp → R) : Tm → Hp → R := n.rec (fun _ _ => .bad [6666]) (fun _ ih t h => thenN ih (body t h))
def jumps (n : Nat) (find : Nat → Option (Tm → Hp → R)) : R → R := n.rec (fun _ => .bad [6667]) (fun _ ih r =>
  r.rec (fun t h => .norm t h) (fun i t h => .exit i t h) (fun t h => .ret t h) (fun l t h => (find l).rec (.goto l t h) (fun g => ih (g t h))) (fun w => .bad w))
/-- the run of a code, and the run from a label in it on -/
def nol (_ : Nat) : Option (Tm → Hp → R) := none
def seqL (ia ib : Nat → Option (Tm → Hp → R)) (gb : Tm → Hp → R) (l : Nat) : Option (Tm → Hp → R) := (ia l).rec (ib l) (fun g => some fun t h => thenN gb (g t h))
def labL (l l' : Nat) : Option (Tm → Hp → R) := Bool.rec none (some fun t h => .norm t h) (Nat.beq l l')
def runL (n : Nat) (c : DCode) : (Tm → Hp → R) × (Nat → Option (Tm → Hp → R)) := c.rec
  (fun t h => .norm t h, nol)
  (fun _ _ => .bad [9998], nol)
  (fun ops => (opers call ops, nol))
  (fun ops rs => (drawnRun call ops rs, nol))
  (fun _ _ ia ib => (fun t h => thenN ib.1 (ia.1 t h), seqL ia.2 ib.2 ib.1))
  (fun c _ _ ia ib => (fun t h => branch (ev t c) (ia.1 t h) (ib.1 t h), nol))
  (fun id _ ib => (fun t h => unblock id (ib.1 t h), nol))
  (fun _ ib => (rounds n ib.1, nol))
  (fun id => (fun t h => .exit id t h, nol))
  (fun _ ib => (fun t h => jumps n ib.2 (ib.1 t h), nol))
  (fun l => (fun t h => .norm t h, labL l))
  (fun l => (fun t h => .goto l t h, nol))
  (fun t h => .ret t h, nol)
def run (n : Nat) (c : DCode) : Tm → Hp → R := (runL call n c).1
end

def results (l : List DRes) (t : Tm) (h : Hp) : Option (List DV) := l.rec (some []) (fun r _ ih => match ih with
  | none => none
  | some vs => match r with
    | .tmp p => some ((t.get p).getD .undef :: vs)
    | .cell a agg size => match t.get a with
      | some (.ptr b o) => agg.rec (match h.read1 b o with | some v => some (v :: vs) | none => none) (match h.read b o size with | some l => some (.agg l :: vs) | none => none)
      | _ => none)
def leave (f : DFunc) (t : Tm) (h : Hp) : RV := match results f.results t h with
  | some [v] => .ok v h
  | some vs => .ok (.tup vs) h
  | none => .bad [5555]
def argsT (l : List DV) : Pos → Tm → Tm := l.rec (fun _ t => t) (fun v _ ih p t => ih p.succ (t.put p (some v)))

/-- functions without a body in Go -/
inductive DPrim where
  | noEscape | makeNoZero (ty : Nat) | indexByte | count | index
inductive DFn where
  | code (f : DFunc)
  | prim (p : DPrim)

def firstB (f : Nat) : Nat → Nat → Nat → Nat → Option Nat := f.rec (fun _ _ _ _ => none) (fun _ ih n x c i =>
  n.rec none (fun n _ => Bool.rec (ih n (x / 256) c (i + 1)) (some i) (Nat.beq (x % 256) c)))
def countB (n : Nat) : Nat → Nat → Nat := n.rec (fun _ _ => 0) (fun _ ih x c => Bool.rec (ih (x / 256) c) (ih (x / 256) c + 1) (Nat.beq (x % 256) c))
def firstS (f : Nat) : Nat → Nat → Nat → Nat → Option Nat := f.rec (fun _ _ _ _ => none) (fun _ ih x m y i =>
  Bool.rec (ih (x / 256) m y (i + 1)) (some i) (Nat.beq (x % p256 m) y))
def idx (r : Option Nat) : DV := match r with | some i => .int .i64 (Int.ofNat i) | none => .int .i64 (-1)
def prim (p : DPrim) (args : List DV) (h : Hp) : RV :=
  match p with
  | .noEscape => match args with | [x] => .ok x h | _ => .bad [4444]
  | .makeNoZero ty => match args with
    | [.int .i64 (.ofNat n)] => Bool.rec (.bad [4445]) (.ok (.slice h.next 0 n n false 1) (h.new (.cells ty 0 n .free .leaf))) (big n)
    | _ => .bad [4446]
  | .indexByte => match args with
    | [.str n x, .int .u8 (.ofNat c)] => Bool.rec (.bad [4450]) (.ok (idx (firstB (n + 1) n x c 0)) h) (Nat.blt c 256)
    | _ => .bad [4447]
  | .count => match args with
    | [.str n x, .int .u8 (.ofNat c)] => Bool.rec (.bad [4451]) (.ok (.int .i64 (Int.ofNat (countB n x c))) h) (Nat.blt c 256)
    | _ => .bad [4448]
  | .index => .bad [4449]

section
variable (fns : Nat → Option DFn) (n : Nat)
def enter (call : Nat → List DV → Hp → RV) (f : Nat) (args : List DV) (h : Hp) : RV :=
  match fns f with
  | some (.code fn) => (run call n fn.body (argsT args .xH .leaf) h).rec (leave fn) (fun _ _ _ => .bad [f, 3333]) (leave fn) (fun _ _ _ => .bad [f, 3334]) (fun w => .bad (f :: w))
  | some (.prim p) => prim p args h
  | none => .bad [f, 2222]
/-- a call, so many calls deep at most, each loop so many rounds at most -/
def calls (k : Nat) : Nat → List DV → Hp → RV := k.rec (fun f _ _ => .bad [f, 1111]) (fun _ ih f args h => enter fns n ih f args h)
end
end
end Go.Dm

namespace Go.Dm
noncomputable section

def enc (l : List UInt8) : Nat := l.rec 0 (fun b _ n => b.toNat + 256 * n)
def trS (v : Value) : DV := match v with
  | .bool b => .bool b
  | .int k n => .int k n
  | .string s => .str s.data.toList.length (enc s.data.toList)
  | .pointer none => .nilptr
  | .slice none 0 0 => .nilslice
  | .map none => .nilmap
  | .nilFunc => .nilfunc
  | .func (.func f) ⟨[]⟩ ⟨[]⟩ => .func f [] []
  | .nilIface => .nilif
  | _ => .undef
def oneC (v : Value) : Bool := match v with | .agg _ | .tuple _ => false | _ => true
def trV (v : Value) : DV := match v with
  | .agg cs => Bool.rec .undef (.agg (cs.toList.map trS)) (cs.toList.all oneC)
  | v => trS v
def trCells (v : Value) : List DV := v.cells.toList.map trS
def trP (n : Nat) : Option Pos := Bool.rec none (some (posOf n)) (Nat.blt n 65536)
def trX (x : Operand) : Opd := match x with
  | .tmp t => match trP t with | some p => .tmp p | none => .con .undef
  | .const v => .con (trV v)
  | .global g => match trP g with | some p => .con (.ptr p 0) | none => .con .undef
  | .func f => .con (.func f [] [])

section
variable (P : Program)
def under (t : TypeId) : TypeDesc := (P.underlying t).getD .invalid
def cells (t : TypeId) : Nat := P.cellsOf t
def isAg (t : TypeId) : Bool := match under P t with | .struct _ | .array _ _ => true | _ => false
def zero (t : TypeId) : Option Value := match ((P.info? t).map (·.zero)).getD none with | some v => Bool.rec none (some v) (and (v.cells.toList.all oneC) (Nat.beq v.cells.toList.length (P.cellsOf t))) | none => none
def zeros (t : TypeId) : List DV := match zero P t with | some v => trCells v | none => []
/-- is a type known? -/
def kn (t : TypeId) : Bool := (P.underlying t).isSome
def need (c : Bool) (d : DOp) : DOp := Bool.rec .stop d c
def simple (t : TypeId) : Bool := match under P t with | .bool | .int _ | .string => true | _ => false
def eqFs (ih : TypeId → Nat → Option (List (DLeaf × Nat))) (n off : Nat) (l : List Field) : Option (List (DLeaf × Nat)) := l.rec (some []) (fun f _ r =>
  if f.name ≠ "_" then match ih f.type (off + f.offset), r with
    | some a, some b => Bool.rec none (some (a ++ b)) (Nat.ble (f.offset + cells P f.type) n)
    | _, _ => none
  else r)
/-- the cells of a type that '==' looks at: none where it isn't of scalars -/
def eqOffs (d : Nat) : TypeId → Nat → Option (List (DLeaf × Nat)) := d.rec (fun _ _ => none) (fun _ ih t off =>
  match under P t with
  | .bool => Bool.rec none (some [(.b, off)]) (Nat.beq (cells P t) 1)
  | .int _ => Bool.rec none (some [(.i, off)]) (Nat.beq (cells P t) 1)
  | .string => Bool.rec none (some [(.s, off)]) (Nat.beq (cells P t) 1)
  | .struct fs => Bool.rec (eqFs P ih (cells P t) off fs.toList) none (P.stoodInHeld t)
  | _ => none)
def isC (x : Operand) : Bool := match x with | .const _ => true | _ => false
def trB (op : BinOp) : DBin := match op with
  | .add => .add | .sub => .sub | .mul => .mul | .quo => .quo | .rem => .rem | .and => .and | .or => .or | .xor => .xor | .shl => .shl | .shr => .shr | .andNot => .andNot
  | .eql => .eql | .neq => .neq | .lss => .lss | .leq => .leq | .gtr => .gtr | .geq => .geq
def isEq (op : BinOp) : Bool := match op with | .eql | .neq => true | _ => false
/-- what a '==' on a type is; none: it isn't taken -/
def eqOf (t : TypeId) (x y : Operand) : DEq := match under P t with
  | .bool => .bool
  | .slice _ => .slice
  | .map _ _ => .map
  | .func _ _ _ => .func
  | .pointer e => if cells P e = 0 then .no else .ptr
  | .interface _ => Bool.rec .no .iface (or (isC x) (isC y))
  | .struct _ => if P.eqGuardType P.depth t = false then (match eqOffs P 8 t 0 with | some l => .cells (cells P t) l | none => .no) else .no
  | _ => .no
def trBin (op : BinOp) (t : TypeId) (x y : Operand) : DOp :=
  .bin (trB op) (Bool.rec .no (eqOf P t x y) (isEq op)) (trX x) (trX y)
def trConv (src dst : TypeId) (x : Operand) : DOp := match under P src, under P dst with
  | .int _, .int k => .toInt k (trX x)
  | .string, .string => .same (trX x)
  | .pointer e, .unsafePointer => Bool.rec (.toUnsafe (trX x)) .stop (Nat.beq (cells P e) 0)
  | .unsafePointer, .pointer u => Bool.rec .stop (.ofUnsafe u (cells P u) (trX x)) (and (not (Nat.beq (cells P u) 0)) (sameLayout P P.depth u u))
  | .slice _, .slice e => match under P e with | .int .u8 => Bool.rec .stop (.mark (trX x)) (Nat.beq src dst) | _ => .stop
  | .string, .slice e => match under P e with | .int .u8 => .toBytes e (trX x) | _ => .stop
  | .slice e, .string => match under P e with | .int .u8 => .toStr (trX x) | _ => .stop
  | _, _ => .stop
def trSlice (t : TypeId) (x : Operand) (lo hi mx : Option Operand) : DOp := match under P t with
  | .string => match mx with | none => .sliceS (trX x) (lo.map trX) (hi.map trX) | some _ => .stop
  | .slice e => match mx, hi with
    | some _, none => .stop
    | _, _ => need (kn P e) (.sliceX (cells P e) (trX x) (lo.map trX) (hi.map trX) (mx.map trX))
  | .array n e => match mx with | none => need (kn P e) (.sliceA n (cells P e) (trX x) (lo.map trX) (hi.map trX)) | some _ => .stop
  | _ => .stop
def trField (t : TypeId) (i : Nat) : Option Field := match under P t with | .struct fs => fs[i]? | _ => none
def trParts (t : TypeId) (ps : List (Nat × Operand)) : Option (List (Nat × Nat × Opd)) := match under P t with
  | .struct fs => Bool.rec none (ps.mapM fun p => (fs[p.1]?).map fun f => (f.offset, cells P f.type, trX p.2)) (fs.toList.all fun f => kn P f.type)
  | .array _ e => Bool.rec none (some (ps.map fun p => (p.1 * cells P e, cells P e, trX p.2))) (kn P e)
  | _ => none
def bytesOf (t : TypeId) : Nat := P.bytesOf t
def trBuiltin (b : Builtin) (tys : List TypeId) (args : List Operand) : DOp := match b, tys, args with
  | .len, [t], [x] => match under P t with
    | .string => .lenS (trX x)
    | .slice _ => .lenX (trX x)
    | .map _ _ => .lenM (trX x)
    | .array n _ => .move (.con (.int .i64 n))
    | .pointer a => match under P a with | .array n _ => .move (.con (.int .i64 n)) | _ => .stop
    | _ => .stop
  | .cap, [t], [x] => match under P t with | .slice _ => .cap (trX x) | _ => .stop
  | .append, [t, u], [x, y] => match under P t with
    | .slice e => match under P u with
      | .int _ => (match zero P e with | some v => .append e (cells P e) (bytesOf P e) true (trCells v) (trX x) (trX y) | none => .stop)
      | .invalid => .stop
      | _ => (match zero P e with | some v => .append e (cells P e) (bytesOf P e) false (trCells v) (trX x) (trX y) | none => .stop)
    | _ => .stop
  | .copy, [t, _], [x, y] => match under P t with | .slice e => need (kn P e) (.copy (cells P e) (trX x) (trX y)) | _ => .stop
  | .clear, [t], [x] => match under P t with | .slice e => (match zero P e with | some v => .clear (trCells v) (trX x) | none => .stop) | _ => .stop
  | .max, _, args => .minmax true (args.map trX)
  | .min, _, args => .minmax false (args.map trX)
  | .unsafeSliceData, _, [x] => .sdata (trX x)
  | .unsafeString, [t, _], [x, y] => match under P t with
    | .pointer u => Bool.rec .stop (.ustr u (trX x) (trX y)) (and (Nat.beq (cells P u) 1) (sameLayout P P.depth u u))
    | _ => .stop
  | _, _, _ => .stop
def keyOf (t : TypeId) : Option DLeaf := match under P t with | .int _ => some .i | .string => some .s | .bool => some .b | _ => none
def trOp (op : Op) : DOp := match op with
  | .move x | .assign x => .move (trX x)
  | .pick c a b => .pick (trX c) (trX a) (trX b)
  | .alloc e => match zero P e with | some v => .alloc e (trCells v) | none => .stop
  | .box e x => .box e (cells P e) (trX x)
  | .build t ps => match zero P t, trParts P t ps.toList with | some v, some l => .build (trCells v) l | _, _ => .stop
  | .buildSlice t n ps => match under P t with
    | .slice e => (match zero P e with | some v => need (Nat.ble (n * cells P e) 16777216) (.buildSlice e (reps n (trCells v)) n (cells P e) (ps.toList.map fun p => (p.1 * cells P e, cells P e, trX p.2))) | none => .stop)
    | _ => .stop
  | .load t a => need (kn P t) (.load (isAg P t) (cells P t) (trX a))
  | .store t a v => need (kn P t) (.store (cells P t) (trX a) (trX v))
  | .nilCheck x => .nilCheck (trX x)
  | .binOp op t x y _ => trBin P op t x y
  | .unOp op _ x => match op with | .not => .notb (trX x) | .neg => .neg (trX x) | .xor => .compl (trX x) | _ => .stop
  | .convert s d x => trConv P s d x
  | .makeInterface t x => match under P t with | .interface _ => .stop | .invalid => .stop | _ => .mkIface t (trX x)
  | .makeFunc (.func f) a b => .mkFunc f (a.toList.map trX) (b.toList.map trX)
  | .makeMap _ none => .mkMap
  | .makeSlice t l c => match under P t with | .slice e => (match zero P e with | some v => .mkSlice e (trCells v) (cells P e) (bytesOf P e) (trX l) (trX c) | none => .stop) | _ => .stop
  | .slice t x lo hi mx => trSlice P t x lo hi mx
  | .fieldAddr t x i => match trField P t i with | some f => if cells P f.type = 0 then .stop else .fieldAddr f.offset (trX x) | none => .stop
  | .field t x i => match trField P t i with | some f => need (kn P f.type) (.field (isAg P f.type) f.offset (cells P f.type) (trX x)) | none => .stop
  | .indexAddr t x i => match under P t with
    | .array n e => need (kn P e) (.indexArr n (cells P e) (trX x) (trX i))
    | .slice e => need (kn P e) (.indexAddr (cells P e) (trX x) (trX i))
    | _ => .stop
  | .index t x i => match under P t with
    | .array n e => need (kn P e) (.indexAgg n (isAg P e) (cells P e) (trX x) (trX i))
    | .string => .indexStr (trX x) (trX i)
    | _ => .stop
  | .lookup t x k ok => match under P t with
    | .map key e => match keyOf P key, zero P e with | some lf, some v => .lookup lf (trV v) (trX x) (trX k) ok | _, _ => .stop
    | _ => .stop
  | .mapUpdate t m k v => match under P t with
    | .map key _ => match keyOf P key with | some lf => .mapUpdate lf (trX m) (trX k) (trX v) | none => .stop
    | _ => .stop
  | .extract x i => .extract (trX x) i
  | _ => .stop
def trGuard (ops : Array Oper) (g : Option (Nat × Bool)) : Option (Pos × Bool) := match g with
  | none => none
  | some (j, w) => match (ops[j]?).bind (·.dst) with
    | some d => some (posOf d, w)
    | none => some (posOf 65535, w)
def dstOk (N : Nat) (d : Option Nat) : Bool := match d with | none => true | some d => and (Nat.blt d N) (Nat.blt d 65535)
def guardOk (ops : Array Oper) (g : Option (Nat × Bool)) : Bool := match g with
  | none => true
  | some (j, _) => match (ops[j]?).bind (·.dst) with | some d => Nat.blt d 65535 | none => false
def trOper (N : Nat) (ops : Array Oper) (o : Oper) : DOper :=
  Bool.rec (.plain none none .stop) (match o.op with
    | .call c => match c.callee with
      | .value (.func f) => .callF (o.dst.map posOf) (trGuard ops o.guard) f (c.args.toList.map trX)
      | .value (.tmp t) => .callV (o.dst.map posOf) (trGuard ops o.guard) (trX (.tmp t)) (c.args.toList.map trX)
      | .builtin b => .plain (o.dst.map posOf) (trGuard ops o.guard) (trBuiltin P b c.argTypes.toList c.args.toList)
      | _ => .plain none none .stop
    | op => .plain (o.dst.map posOf) (trGuard ops o.guard) (trOp P op)) (and (dstOk N o.dst) (guardOk ops o.guard))
/-! ### a region whose order is drawn -/
/-- 0 sees no memory, 1 reads, 2 makes a block, 3 acts -/
def kindD (op : DOp) : Nat := match op with
  | .alloc _ _ | .box _ _ _ | .buildSlice _ _ _ _ _ | .mkMap | .mkSlice _ _ _ _ _ _ | .toBytes _ _ => 2
  | .load _ _ _ | .sliceA _ _ _ _ _ | .toUnsafe _ | .ofUnsafe _ _ _ | .toStr _ | .lookup _ _ _ _ _ | .lenM _ => 1
  | .store _ _ _ | .append _ _ _ _ _ _ _ | .copy _ _ _ | .clear _ _ | .mapUpdate _ _ _ _ | .ustr _ _ _ | .mark _ => 3
  | _ => 0
def kindO (o : DOper) : Nat := match o with | .plain _ _ op => kindD op | _ => 3
def optR (x : Option Opd) : List Opd := match x with | some x => [x] | none => []
/-- what an operation looks at -/
def dreads (op : DOp) : List Opd := match op with
  | .move x | .box _ _ x | .load _ _ x | .nilCheck x | .notb x | .neg x | .compl x | .toInt _ x | .same x | .toBytes _ x | .toStr x | .mkIface _ x | .fieldAddr _ x | .field _ _ _ x | .extract x _
  | .lenS x | .lenX x | .lenM x | .cap x | .clear _ x | .sdata x | .toUnsafe x | .ofUnsafe _ _ x | .mark x => [x]
  | .pick c a b => [c, a, b]
  | .stop | .alloc _ _ | .mkMap => []
  | .build _ ps | .buildSlice _ _ _ _ ps => ps.map (·.2.2)
  | .store _ a x => [a, x]
  | .bin _ _ x y => [x, y]
  | .mkFunc _ a b => a ++ b
  | .mkSlice _ _ _ _ l c => [l, c]
  | .sliceS x lo hi => x :: (optR lo ++ optR hi)
  | .sliceX _ x lo hi mx => x :: (optR lo ++ optR hi ++ optR mx)
  | .sliceA _ _ x lo hi => x :: (optR lo ++ optR hi)
  | .indexAddr _ x i | .indexArr _ _ x i | .indexStr x i | .indexAgg _ _ _ x i => [x, i]
  | .lookup _ _ x k _ => [x, k]
  | .mapUpdate _ m k x => [m, k, x]
  | .append _ _ _ _ _ x y | .copy _ x y | .ustr _ x y => [x, y]
  | .minmax _ l => l
def oreads (o : DOper) : List Opd := match o with | .plain _ _ op => dreads op | .callF _ _ _ l => l | .callV _ _ f l => f :: l
def isTmp (p : Pos) (x : Opd) : Bool := match x with | .tmp q => p.beq q | .con _ => false
def guardAt (p : Pos) (g : Option (Pos × Bool)) : Bool := match g with | some (q, _) => p.beq q | none => false
/-- does an operation look at a temporary? -/
def looks (o : DOper) (d : Option Pos) : Bool := match d with | none => false | some p => or (guardAt p o.guard) ((oreads o).any (isTmp p))
/-- the operations that lie before, in whatever order, as bits -/
def bit (m k : Nat) : Bool := Nat.testBit m k
def mask1 (ms : List Nat) (es : List Nat) : Nat := es.rec 0 (fun e _ m => Nat.lor (Nat.lor m (Nat.shiftLeft 1 e)) (ms.getD e 0))
def masks (ess : List (List Nat)) : List Nat → List Nat := ess.rec (fun ms => ms) (fun es _ ih ms => ih (ms ++ [mask1 ms es]))
def edgesOf (o : Oper) : List Nat := (o.after.toList.filter (Region.binds .any)).map (·.on)
structure DSt where
  i : Nat
  o : DOper
  m : Nat
def stages (i : Nat) : List DOper → List Nat → List DSt
  | o :: l, m :: ms => ⟨i, o, m⟩ :: stages (i + 1) l ms
  | _, _ => []
def samePos (p q : Option Pos) : Bool := match p, q with | some p, some q => p.beq q | _, _ => false
/-- of two of them, the first one ahead in the text -/
def pairOk (x y : DSt) : Bool := and (not (samePos x.o.dst y.o.dst)) (and (or (not (looks y.o x.o.dst)) (bit y.m x.i)) (and (or (not (looks x.o y.o.dst)) (bit y.m x.i)) (or (not (and (Nat.beq (kindO x.o) 3) (Nat.beq (kindO y.o) 3))) (bit y.m x.i))))
def pairsOk (l : List DSt) : Bool := l.rec true (fun x l ih => and (l.all (pairOk x)) ih)
def edgesOk (i : Nat) (ess : List (List Nat)) : Bool := ess.rec (fun _ => true) (fun es _ ih i => and (es.all fun e => Nat.blt e i) (ih (i + 1))) i
/-- of one that reads: where it must be the same, counted from the end -/
def places (n : Nat) (all : List DSt) (x : DSt) : List Nat := all.filterMap fun y => if kindO y.o = 3 then
    (if x.i < y.i then (if bit y.m x.i then none else some (n - (y.i + 1))) else (if bit x.m y.i then none else some (n - y.i))) else none
def laterOk (all : List DSt) (x : DSt) : Bool := all.all fun y => or (Nat.blt y.i x.i) (not (looks x.o y.o.dst))
def rivalOf (n : Nat) (all : List DSt) (x : DSt) : Option DRival := match x.o with
  | .plain d g op => if kindD op = 1 then (match places n all x with | [] => none | l => some ⟨op, d, g, l⟩) else none
  | _ => none
def trDrawn (ds : List DOper) (ess : List (List Nat)) : DCode :=
  let all := stages 0 ds (masks ess [])
  let rs := all.filter fun x => (rivalOf ds.length all x).isSome
  Bool.rec .stop (.drawn ds (rs.filterMap (rivalOf ds.length all))) (and (edgesOk 0 ess) (and (pairsOk all) (rs.all (laterOk all))))
def trCode (N : Nat) (c : Code) : DCode := c.rec
  .skip
  (fun _ ops draw => Bool.rec (.region (ops.toList.map (trOper P N ops))) (trDrawn (ops.toList.map (trOper P N ops)) (ops.toList.map edgesOf)) draw)
  (fun _ _ a b => .seq a b)
  (fun c _ _ a b => .cond (trX c) a b)
  (fun id _ b => .block id b)
  (fun _ b => .loop b)
  (fun _ _ _ _ _ _ => .stop)
  (fun id => .exit id)
  (fun _ b => .scope b)
  (fun l => .label l)
  (fun l => .goto l)
  .ret
  (fun _ => .stop)
def trRes (r : ResultVar) : DRes := match r with
  | .tmp t => .tmp (posOf t)
  | .cell a t => .cell (posOf a) (isAg P t) (cells P t)
def primOf (f : Func) : Option DPrim :=
  if f.origin ≠ "" then none
  else if f.name = "internal/abi.NoEscape" then some .noEscape
  else if f.name = "internal/bytealg.IndexByteString" then some .indexByte
  else if f.name = "internal/bytealg.CountString" then some .count
  else if f.name = "internal/bytealg.IndexString" then some .index
  else if f.name = "internal/bytealg.MakeNoZero" then match f.resultTypes.toList with
    | [t] => match under P t with | .slice e => some (.makeNoZero e) | _ => none
    | _ => none
  else none
def resOk (r : ResultVar) : Bool := match r with | .tmp t => Nat.blt t 65536 | .cell a t => and (Nat.blt a 65536) (kn P t)
def trFn (f : Func) : Option DFn := match f.body with
  | some c => Bool.rec none (some (.code { nargs := 0, results := f.results.toList.map (trRes P), body := trCode P f.ntmps c })) (f.results.toList.all (resOk P))
  | none => match primOf P f with | some p => some (.prim p) | none => none
def fnsOf (f : Nat) : Option DFn := match P.funcs[f]? with | some fn => trFn P fn | none => none
end
end
end Go.Dm
