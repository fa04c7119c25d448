/- An interpreter of the model's code, deterministic, and its soundness, part 11: A second run of the interpreter's code, laid out anew: what a stretch of operations makes stands in a list, moves are gone, and only what is read elsewhere stands in a small trie. The second run does what the first does. The second run does what the first does: drawn regions, code, functions. No condition. -/
import Derived.Test.YtlgfdnaddchlhaaGreatDoorDm1
import Derived.Test.YtlgfdnaddchlhaaGreatDoorDm8
namespace Go.Dm

inductive At where
  | loc (i : Nat)
  | tmp (q : Pos)
  | con (v : DV)
/-- what an operation looks at, and what it does then -/
inductive Sm where
  | n0 (g : Hp → Option (DV × Hp))
  | n1 (x : Opd) (g : DV → Hp → Option (DV × Hp))
  | n2 (x y : Opd) (g : DV → DV → Hp → Option (DV × Hp))
  | nl (l : List Opd) (g : List DV → Hp → Option (DV × Hp))
abbrev Cal := Nat → List DV → Hp → RV
abbrev CT := Cal → List DV → List Hp → Tm → Hp → R
/-- shut, so that it is laid out once -/
structure Bx where
  run : CT
abbrev Kn := PT At → Nat → List Pos → Bx

noncomputable section

def cons3 (l : List Opd) (g : List Opd → DOp) : Sm := .nl l fun vs h => dop (g (vs.map .con)) .leaf h
def opdN (l : List Opd) : Nat → Opd := l.rec (fun _ => .con .undef) (fun x _ ih n => n.rec x (fun n _ => ih n))
def takeO (x : Option Opd) (l : List Opd) : Option Opd × List Opd := match x with
  | none => (none, l)
  | some _ => match l with | [] => (none, []) | y :: l => (some y, l)
def zipP (ps : List (Nat × Nat × Opd)) (l : List Opd) : List (Nat × Nat × Opd) := ps.rec (fun _ => []) (fun p _ ih l => match l with
  | [] => []
  | x :: l => (p.1, p.2.1, x) :: ih l) l
def smO (op : DOp) : Sm := match op with
  | .move x => .n1 x fun v h => some (v, h)
  | .pick c a b => .nl [c, a, b] fun vs h => dPick (.con (lget vs 0)) (.con (lget vs 1)) (.con (lget vs 2)) .leaf h
  | .stop => .n0 fun _ => none
  | .alloc ty zs => .n0 fun h => dAlloc ty zs .leaf h
  | .box ty n x => .n1 x fun v h => dBox ty n (.con v) .leaf h
  | .build zs ps => .nl (ps.map (·.2.2)) fun vs h => dBuild zs (zipP ps (vs.map .con)) .leaf h
  | .buildSlice ty zs n sz ps => .nl (ps.map (·.2.2)) fun vs h => dBuildSlice ty zs n sz (zipP ps (vs.map .con)) .leaf h
  | .load ag n a => .n1 a fun v h => dLoad ag n (.con v) .leaf h
  | .store n a x => .n2 a x fun v w h => dStore n (.con v) (.con w) .leaf h
  | .nilCheck x => .n1 x fun v h => dNilCheck (.con v) .leaf h
  | .bin op e x y => .n2 x y fun v w h => dBin op e (.con v) (.con w) .leaf h
  | .notb x => .n1 x fun v h => dNotb (.con v) .leaf h
  | .neg x => .n1 x fun v h => dNeg (.con v) .leaf h
  | .compl x => .n1 x fun v h => dCompl (.con v) .leaf h
  | .toInt k x => .n1 x fun v h => dToInt k (.con v) .leaf h
  | .same x => .n1 x fun v h => dSame (.con v) .leaf h
  | .toBytes ty x => .n1 x fun v h => dToBytes ty (.con v) .leaf h
  | .toStr x => .n1 x fun v h => dToStr (.con v) .leaf h
  | .mkIface t x => .n1 x fun v h => dMkIface t (.con v) .leaf h
  | .mkFunc f a b => .nl (a ++ b) fun vs h => dMkFunc f ((vs.take a.length).map .con) ((vs.drop a.length).map .con) .leaf h
  | .mkMap => .n0 fun h => dMkMap .leaf h
  | .mkSlice ty zs sz bytes l c => .n2 l c fun v w h => dMkSlice ty zs sz bytes (.con v) (.con w) .leaf h
  | .sliceS x lo hi => .nl (x :: (optR lo ++ optR hi)) fun vs h => match vs.map .con with
    | [] => none
    | x :: l => dSliceS x (takeO lo l).1 (takeO hi (takeO lo l).2).1 .leaf h
  | .sliceX sz x lo hi mx => .nl (x :: (optR lo ++ optR hi ++ optR mx)) fun vs h => match vs.map .con with
    | [] => none
    | x :: l => dSliceX sz x (takeO lo l).1 (takeO hi (takeO lo l).2).1 (takeO mx (takeO hi (takeO lo l).2).2).1 .leaf h
  | .sliceA n sz x lo hi => .nl (x :: (optR lo ++ optR hi)) fun vs h => match vs.map .con with
    | [] => none
    | x :: l => dSliceA n sz x (takeO lo l).1 (takeO hi (takeO lo l).2).1 .leaf h
  | .fieldAddr off x => .n1 x fun v h => dFieldAddr off (.con v) .leaf h
  | .field ag off n x => .n1 x fun v h => dField ag off n (.con v) .leaf h
  | .indexAddr sz x i => .n2 x i fun v w h => dIndexAddr sz (.con v) (.con w) .leaf h
  | .indexArr n sz x i => .n2 x i fun v w h => dIndexArr n sz (.con v) (.con w) .leaf h
  | .indexStr x i => .n2 x i fun v w h => dIndexStr (.con v) (.con w) .leaf h
  | .indexAgg n ag sz x i => .n2 x i fun v w h => dIndexAgg n ag sz (.con v) (.con w) .leaf h
  | .lookup lf z x k ok => .n2 x k fun v w h => dLookup lf z (.con v) (.con w) ok .leaf h
  | .mapUpdate lf m k x => .nl [m, k, x] fun vs h => dMapUpdate lf (.con (lget vs 0)) (.con (lget vs 1)) (.con (lget vs 2)) .leaf h
  | .extract x i => .n1 x fun v h => dExtract (.con v) i .leaf h
  | .lenS x => .n1 x fun v h => dLenS (.con v) .leaf h
  | .lenX x => .n1 x fun v h => dLenX (.con v) .leaf h
  | .lenM x => .n1 x fun v h => dLenM (.con v) .leaf h
  | .cap x => .n1 x fun v h => dCap (.con v) .leaf h
  | .append ty sz bytes mk zs x y => .n2 x y fun v w h => dappend ty sz bytes mk zs v w h
  | .copy sz x y => .n2 x y fun v w h => dcopy sz v w h
  | .clear zs x => .n1 x fun v h => dClear zs (.con v) .leaf h
  | .minmax mx l => .nl l fun vs h => dMinmax mx (vs.map .con) .leaf h
  | .sdata x => .n1 x fun v h => dSdata (.con v) .leaf h
  | .ustr u x n => .n2 x n fun v w h => dUstr u (.con v) (.con w) .leaf h
  | .toUnsafe x => .n1 x fun v h => dToUnsafe (.con v) .leaf h
  | .ofUnsafe u n x => .n1 x fun v h => dOfUnsafe u n (.con v) .leaf h
  | .mark x => .n1 x fun v h => dMark (.con v) .leaf h

/-! ### operands -/
def lgetK (l : List DV) : Nat → (DV → R) → R := l.rec (fun _ _ => .bad [1]) (fun x _ ih n k => n.rec (k x) (fun m _ => ih m k))
def fetch (a : At) (env : List DV) (t : Tm) (k : DV → R) : R := a.rec (fun i => lgetK env i k) (fun q => (t.get q).rec (.bad [2]) k) k
def fetchL (l : List At) (env : List DV) (t : Tm) : (List DV → R) → R := l.rec (fun k => k []) (fun a _ ih k => fetch a env t fun v => ih fun vs => k (v :: vs))
def lgetO (l : List DV) : Nat → Option DV := l.rec (fun _ => none) (fun x _ ih n => n.rec (some x) (fun m _ => ih m))
def fetchO (a : At) (env : List DV) (t : Tm) : Option DV := a.rec (fun i => lgetO env i) (fun q => t.get q) (fun v => some v)
def fetchOL (l : List At) (env : List DV) (t : Tm) : Option (List DV) := l.rec (some []) (fun a _ ih => match fetchO a env t with
  | some v => match ih with | some vs => some (v :: vs) | none => none
  | none => none)

/-! ### what is done, step by step -/
def step (r : Option (DV × Hp)) (k : DV → Hp → R) : R := r.rec (.bad [3]) (fun p => k p.1 p.2)
def stepR (r : RV) (k : DV → Hp → R) : R := r.rec k (fun w => .bad w)
def badC : Bx := ⟨fun _ _ _ _ _ => .bad [4]⟩
def c0 (g : Hp → Option (DV × Hp)) (k : Bx) : CT := fun cl env acc t h => step (g h) fun w h' => k.run cl (w :: env) (h :: acc) t h'
def c1 (x : At) (g : DV → Hp → Option (DV × Hp)) (k : Bx) : CT := fun cl env acc t h => fetch x env t fun v => step (g v h) fun w h' => k.run cl (w :: env) (h :: acc) t h'
def c2 (x y : At) (g : DV → DV → Hp → Option (DV × Hp)) (k : Bx) : CT := fun cl env acc t h => fetch x env t fun v => fetch y env t fun u => step (g v u h) fun w h' => k.run cl (w :: env) (h :: acc) t h'
def cl' (l : List At) (g : List DV → Hp → Option (DV × Hp)) (k : Bx) : CT := fun cl env acc t h => fetchL l env t fun vs => step (g vs h) fun w h' => k.run cl (w :: env) (h :: acc) t h'
def cF (f : Nat) (l : List At) (k : Bx) : CT := fun cl env acc t h => fetchL l env t fun vs => stepR (cl f vs h) fun w h' => k.run cl (w :: env) (h :: acc) t h'
def cV (x : At) (l : List At) (k : Bx) : CT := fun cl env acc t h => fetch x env t fun f => fetchL l env t fun vs => stepR (vcall cl none vs h f) fun w h' => k.run cl (w :: env) (h :: acc) t h'
def cAcc (k : Bx) : CT := fun cl env acc t h => k.run cl env (h :: acc) t h
def guardE (v : DV) (w : Bool) (a b : R) : R := match v with | .bool b' => (b'.rec (not w) w : Bool).rec b a | .tup _ => b | _ => .bad [5]
def cG (g : At) (w : Bool) (run : Bx) (k : Bx) : CT := fun cl env acc t h => fetch g env t fun v => guardE v w (run.run cl env acc t h) (k.run cl (.tup [] :: env) (h :: acc) t h)

/-! ### layout -/
/-- where a temporary stands, by its height in the list -/
def atL (M : PT At) (rk : PT Pos) (x : Opd) : Option At := match x with
  | .con v => some (.con v)
  | .tmp p => match M.get p with
    | some a => some a
    | none => match rk.get p with | some q => some (.tmp q) | none => none
def low (d : Nat) (a : At) : At := match a with | .loc l => .loc (d - 1 - l) | a => a
def toAt (M : PT At) (rk : PT Pos) (d : Nat) (x : Opd) : Option At := match atL M rk x with | some a => some (low d a) | none => none
def toAts (M : PT At) (rk : PT Pos) (d : Nat) (l : List Opd) : Option (List At) := l.rec (some []) (fun x _ ih => match toAt M rk d x with
  | some a => match ih with | some as => some (a :: as) | none => none
  | none => none)
def emit (M : PT At) (rk : PT Pos) (d : Nat) (s : Sm) (k : Bx) : Bx := match s with
  | .n0 g => ⟨c0 g k⟩
  | .n1 x g => match toAt M rk d x with | some a => ⟨c1 a g k⟩ | none => badC
  | .n2 x y g => match toAt M rk d x, toAt M rk d y with | some a, some b => ⟨c2 a b g k⟩ | _, _ => badC
  | .nl l g => match toAts M rk d l with | some as => ⟨cl' as g k⟩ | none => badC
def emitO (M : PT At) (rk : PT Pos) (d : Nat) (o : DOper) (k : Bx) : Bx := match o with
  | .plain _ _ op => emit M rk d (smO op) k
  | .callF _ _ f l => match toAts M rk d l with | some as => ⟨cF f as k⟩ | none => badC
  | .callV _ _ f l => match toAt M rk d f, toAts M rk d l with | some x, some as => ⟨cV x as k⟩ | _, _ => badC
def setM (dst : Option Pos) (a : At) (M : PT At) : PT At := match dst with | some p => M.put p (some a) | none => M
def addW (dst : Option Pos) (W : List Pos) : List Pos := match dst with | some p => p :: W | none => W
def cops (rk : PT Pos) (dr : Bool) (ops : List DOper) (κ : Kn) : Kn := ops.rec κ (fun o _ ih M d W =>
  match o.guard with
  | some (g, w) => match toAt M rk d (.tmp g) with
    | some ga => ⟨cG ga w (emitO M rk d o (ih (setM o.dst (.loc d) M) (d + 1) (addW o.dst W))) (ih (setM o.dst (.loc d) M) (d + 1) (addW o.dst W))⟩
    | none => badC
  | none => match o with
    | .plain (some p) _ (.move x) => match atL M rk x with
      | some a => dr.rec (ih (M.put p (some a)) d (p :: W)) ⟨cAcc (ih (M.put p (some a)) d (p :: W))⟩
      | none => badC
    | o => emitO M rk d o (ih (setM o.dst (.loc d) M) (d + 1) (addW o.dst W)))
/-- what is read elsewhere is put down -/
def endR (L : List (Pos × At)) (env : List DV) (t : Tm) : Tm → (Tm → R) → R := L.rec (fun t' k => k t') (fun p _ ih t' k => fetch p.2 env t fun v => ih (t'.put p.1 (some v)) k)
def puts (M : PT At) (rk : PT Pos) (d : Nat) (W : List Pos) : Option (List (Pos × At)) := W.rec (some []) (fun p _ ih => match rk.get p with
  | none => ih
  | some q => match toAt M rk d (.tmp p) with
    | some a => match ih with | some L => some ((q, a) :: L) | none => none
    | none => none)
/-- put down, and go on from there -/
def flush (rk : PT Pos) (f : Cal → Tm → Hp → R) : Kn := fun M d W => match puts M rk d W with
  | some L => ⟨fun cl env _ t h => endR L env t t fun t' => f cl t' h⟩
  | none => badC
/-- an operation that must have read the same -/
def smE (M : PT At) (rk : PT Pos) (d : Nat) (s : Sm) (env : List DV) (t : Tm) (h : Hp) : Option (DV × Hp) := match s with
  | .n0 g => g h
  | .n1 x g => match toAt M rk d x with | some a => (match fetchO a env t with | some v => g v h | none => none) | none => none
  | .n2 x y g => match toAt M rk d x, toAt M rk d y with
    | some a, some b => (match fetchO a env t, fetchO b env t with | some v, some w => g v w h | _, _ => none)
    | _, _ => none
  | .nl l g => match toAts M rk d l with | some as => (match fetchOL as env t with | some vs => g vs h | none => none) | none => none
def wantE (M : PT At) (rk : PT Pos) (d : Nat) (g : Option (Pos × Bool)) (env : List DV) (t : Tm) : Option Bool := match g with
  | none => some true
  | some (p, w) => match toAt M rk d (.tmp p) with
    | some a => match fetchO a env t with | some (.bool b) => some (b.rec (not w) w) | some (.tup _) => some false | _ => none
    | none => none
def rivalAtE (M : PT At) (rk : PT Pos) (d : Nat) (r : DRival) (acc : List Hp) (env : List DV) (t : Tm) (j : Nat) : Bool := match hget acc j with
  | none => false
  | some h => match smE M rk d (smO r.op) env t h with
    | some (v, _) => match r.dst with
      | some p => match toAt M rk d (.tmp p) with
        | some a => (match fetchO a env t with | some u => sameV v u | none => false)
        | none => false
      | none => true
    | none => false
def rivalB (M : PT At) (rk : PT Pos) (d : Nat) (r : DRival) (acc : List Hp) (env : List DV) (t : Tm) : Bool :=
  (wantE M rk d r.guard env t).rec false (fun w => w.rec true (r.places.rec true (fun j _ ih => and (rivalAtE M rk d r acc env t j) ih)))
def rivalsB (M : PT At) (rk : PT Pos) (d : Nat) (rs : List DRival) (acc : List Hp) (env : List DV) (t : Tm) : Bool := rs.rec true (fun r _ ih => and (rivalB M rk d r acc env t) ih)
def rivalK (rk : PT Pos) (rs : List DRival) (κ : Kn) : Kn := match rs with
  | [] => κ
  | r :: rs => fun M d W => ⟨fun cl env acc t h => Bool.rec (.bad [7780]) ((κ M d W).run cl env (h :: acc) t h) (rivalsB M rk d (r :: rs) (h :: acc) env t)⟩

/-! ### code -/
def normK (rk : PT Pos) : Kn := flush rk fun _ t h => .norm t h
abbrev Co := PT At → Nat → List Pos → Kn → Bx
def then0 (κ : Kn) (cl : Cal) (r : R) : R := thenN (fun t h => (κ .leaf 0 []).run cl [] [] t h) r
def enter0 (rk : PT Pos) (f : Co) (cl : Cal) : Tm → Hp → R := fun t h => (f .leaf 0 [] (normK rk)).run cl [] [] t h
abbrev Lab := Nat → Option (Cal → Tm → Hp → R)
def nolE : Lab := fun _ => none
def seqLE (ia ib : Lab) (gb : Cal → Tm → Hp → R) : Lab := fun l => (ia l).rec (ib l) (fun g => some fun cl t h => thenN (gb cl) (g cl t h))
def labLE (l : Nat) : Lab := fun l' => Bool.rec none (some fun _ t h => .norm t h) (Nat.beq l l')
def labE (f : Lab) (cl : Cal) (l : Nat) : Option (Tm → Hp → R) := (f l).rec none (fun g => some (g cl))
/-- does it never come to its end? -/
def never (c : DCode) : Bool := c.rec false true (fun _ => false) (fun _ _ => false) (fun _ _ a b => or a b) (fun _ _ _ a b => and a b) (fun _ _ _ => false) (fun _ _ => false) (fun _ => true) (fun _ _ => false) (fun _ => false) (fun _ => true) true
def condE (x : At) (a b : Bx) : CT := fun cl env acc t h => fetch x env t fun v => branch v (a.run cl env acc t h) (b.run cl env acc t h)
def after0 (κ : Kn) (a : Bx) : CT := fun cl env acc t h => then0 κ cl (a.run cl env acc t h)
def blockE (id : Nat) (κ : Kn) (a : Bx) : CT := fun cl env acc t h => then0 κ cl (unblock id (a.run cl env acc t h))
def loopE (rk : PT Pos) (n : Nat) (κ : Kn) (f : Co) : Cal → Tm → Hp → R := fun cl t h => then0 κ cl (rounds n (enter0 rk f cl) t h)
def scopeE (n : Nat) (κ : Kn) (l : Lab) (a : Bx) : CT := fun cl env acc t h => then0 κ cl (jumps n (labE l cl) (a.run cl env acc t h))
def cond2 (rk : PT Pos) (x : At) (once : Bool) (κ : Kn) (a b : Kn → Bx) : Bx := once.rec
  ⟨after0 κ ⟨condE x (a (normK rk)) (b (normK rk))⟩⟩
  ⟨condE x (a κ) (b κ)⟩
def drawnE (a : Bx) : CT := fun cl env _ t h => a.run cl env [] t h
def compL (rk : PT Pos) (n : Nat) (c : DCode) : Co × Lab := c.rec
  (fun M d W κ => κ M d W, nolE)
  (fun _ _ _ _ => badC, nolE)
  (fun ops => (fun M d W κ => cops rk false ops κ M d W, nolE))
  (fun ops rs => (fun M d W κ => ⟨drawnE (cops rk true ops (rivalK rk rs κ) M d W)⟩, nolE))
  (fun _ _ ia ib => (fun M d W κ => ia.1 M d W (fun M d W => ib.1 M d W κ), seqLE ia.2 ib.2 (enter0 rk ib.1)))
  (fun c a b ia ib => (fun M d W κ => match toAt M rk d c with
    | some x => cond2 rk x (or (never a) (never b)) κ (ia.1 M d W) (ib.1 M d W)
    | none => badC, nolE))
  (fun id _ ib => (fun M d W κ => ⟨blockE id κ (ib.1 M d W (normK rk))⟩, nolE))
  (fun _ ib => (fun M d W κ => flush rk (loopE rk n κ ib.1) M d W, nolE))
  (fun id => (fun M d W _ => flush rk (fun _ t h => .exit id t h) M d W, nolE))
  (fun _ ib => (fun M d W κ => ⟨scopeE n κ ib.2 (ib.1 M d W (normK rk))⟩, nolE))
  (fun l => (fun M d W κ => κ M d W, labLE l))
  (fun l => (fun M d W _ => flush rk (fun _ t h => .goto l t h) M d W, nolE))
  (fun M d W _ => flush rk (fun _ t h => .ret t h) M d W, nolE)

/-! ### what must stand in the trie: by bits -/
def pbit (p : Pos) (m : Nat) : Nat := Nat.lor m (Nat.shiftLeft 1 p.toN)
def missing (D : Nat) (x : Opd) (m : Nat) : Nat := match x with | .con _ => m | .tmp p => Bool.rec (pbit p m) m (Nat.testBit D p.toN)
def anaO (o : DOper) (D m : Nat) : Nat := (oreads o).rec ((match o.guard with | some (p, _) => missing D (.tmp p) m | none => m)) (fun x _ ih => missing D x ih)
def dbitO (o : DOper) (D : Nat) : Nat := match o.dst with | some p => pbit p D | none => D
/-- D: what is known in place -/
def anaOps (ops : List DOper) : Nat → (Nat → Nat) → Nat := ops.rec (fun D k => k D) (fun o _ ih D k => anaO o D (ih (dbitO o D) k))
def ana (c : DCode) : Nat → (Nat → Nat) → Nat := c.rec
  (fun D k => k D)
  (fun _ _ => 0)
  (fun ops D k => anaOps ops D k)
  (fun ops _rs D k => anaOps ops D k)
  (fun _ _ ia ib D k => ia D (fun D => ib D k))
  (fun c a b ia ib D k => missing D c (Bool.rec (Nat.lor (Nat.lor (ia D (fun _ => 0)) (ib D (fun _ => 0))) (k 0)) (Nat.lor (ia D k) (ib D k)) (or (never a) (never b))))
  (fun _ _ ib D k => Nat.lor (ib D (fun _ => 0)) (k 0))
  (fun _ ib _D k => Nat.lor (ib 0 (fun _ => 0)) (k 0))
  (fun _ _ _ => 0)
  (fun _ ib _D k => Nat.lor (ib 0 (fun _ => 0)) (k 0))
  (fun _ _D k => k 0)
  (fun _ _ _ => 0)
  (fun _ _ => 0)
def resBits (l : List DRes) : Nat := l.rec 0 (fun r _ ih => match r with | .tmp p => pbit p ih | .cell p _ _ => pbit p ih)
/-- the places of a number's bits -/
def bitsOf (f : Nat) : Nat → Nat → List Pos := f.rec (fun _ _ => []) (fun _ ih m i => m.rec [] (fun _ _ => Bool.rec (ih (m / 2) (i + 1)) (posOf i :: ih (m / 2) (i + 1)) (Nat.beq (m % 2) 1)))
def ranks (l : List Pos) : Nat → PT Pos → PT Pos := l.rec (fun _ r => r) (fun p _ ih i r => ih (i + 1) (r.put p (some (posOf i))))
def rankOf (m : Nat) : PT Pos := ranks (bitsOf 2048 m 0) 0 .leaf

/-! ### functions -/
inductive EFn where
  | code (nargs : Nat) (res : List DRes) (body : Bx)
  | prim (p : DPrim)
def argM (n : Nat) : PT At := n.rec .leaf (fun i m => m.put (posOf i) (some (.loc i)))
def argW (n : Nat) : List Pos := n.rec [] (fun i l => posOf i :: l)
def resE (rk : PT Pos) (l : List DRes) : Option (List DRes) := l.rec (some []) (fun r _ ih => match ih with
  | none => none
  | some l => match r with
    | .tmp p => match rk.get p with | some q => some (.tmp q :: l) | none => none
    | .cell p ag n => match rk.get p with | some q => some (.cell q ag n :: l) | none => none)
def resultsE (l : List DRes) (t : Tm) (h : Hp) : Option (List DV) := l.rec (some []) (fun r _ ih => match ih with
  | none => none
  | some vs => match r with
    | .tmp q => match t.get q with | some v => some (v :: vs) | none => none
    | .cell q agg size => match t.get q with
      | some (.ptr b o) => agg.rec (match h.read1 b o with | some v => some (v :: vs) | none => none) (match h.read b o size with | some l => some (.agg l :: vs) | none => none)
      | _ => none)
def leaveE (l : List DRes) (t : Tm) (h : Hp) : RV := match resultsE l t h with
  | some [v] => .ok v h
  | some vs => .ok (.tup vs) h
  | none => .bad [5556]
def compF (n nargs : Nat) (f : DFunc) : Option EFn :=
  if nargs < 65536 then
  let rk := rankOf (Nat.lor (resBits f.results) (ana f.body 0 (fun _ => 0)))
  match resE rk f.results with
  | some res => some (.code nargs res ((compL rk n f.body).1 (argM nargs) nargs (argW nargs) (normK rk)))
  | none => none
  else none
def rev (l : List DV) : List DV → List DV := l.rec (fun acc => acc) (fun x _ ih acc => ih (x :: acc))
def fnE (P : Program) (n : Nat) (f : Nat) : Option EFn := match P.funcs[f]? with
  | some fn => match trFn P fn with
    | some (.code d) => compF n (fn.params.size + fn.nfree) d
    | some (.prim p) => some (.prim p)
    | none => none
  | none => none
def enterE (fns : Nat → Option EFn) (cl : Cal) (f : Nat) (args : List DV) (h : Hp) : RV :=
  match fns f with
  | some (.code nargs res body) => Bool.rec (.bad [f, 3335]) ((body.run cl (rev args []) [] .leaf h).rec (leaveE res) (fun _ _ _ => .bad [f, 3333]) (leaveE res) (fun _ _ _ => .bad [f, 3334]) (fun w => .bad (f :: w))) (Nat.beq (len args) nargs)
  | some (.prim p) => prim p args h
  | none => .bad [f, 2222]
def callsE (fns : Nat → Option EFn) (k : Nat) : Cal := k.rec (fun f _ _ => .bad [f, 1111]) (fun _ ih f args h => enterE fns ih f args h)
end
end Go.Dm

namespace Go.Dm

/-! ### operations, by what they look at -/
noncomputable def runSm (s : Sm) (t : Tm) (h : Hp) : Option (DV × Hp) := match s with
  | .n0 g => g h
  | .n1 x g => g (ev t x) h
  | .n2 x y g => g (ev t x) (ev t y) h
  | .nl l g => g (evs t l) h
theorem evs_map (t : Tm) : ∀ l : List Opd, evs t l = l.map (ev t)
  | [] => rfl
  | x :: l => by show ev t x :: evs t l = _; rw [evs_map t l]; rfl
theorem evs_con (t : Tm) : ∀ l : List DV, evs t (l.map .con) = l
  | [] => rfl
  | x :: l => by show x :: evs t (l.map .con) = _; rw [evs_con t l]
theorem fill_zip (n : Nat) (t : Tm) : ∀ (ps : List (Nat × Nat × Opd)) (z : PT DV), fill n (zipP ps ((evs t (ps.map (·.2.2))).map .con)) .leaf z = fill n ps t z
  | [], z => rfl
  | p :: ps, z => by
    show (match vcells (ev t p.2.2) with
      | some cs => (Bool.rec none (fill n (zipP ps ((evs t (ps.map (fun (x : Nat × Nat × Opd) => x.2.2))).map Opd.con)) .leaf (wrn cs p.1 z)) (and (Nat.beq (len cs) p.2.1) (Nat.ble (p.1 + p.2.1) n)) : Option (PT DV))
      | none => none) = (match vcells (ev t p.2.2) with
      | some cs => (Bool.rec none (fill n ps t (wrn cs p.1 z)) (and (Nat.beq (len cs) p.2.1) (Nat.ble (p.1 + p.2.1) n)) : Option (PT DV))
      | none => none)
    cases vcells (ev t p.2.2) with
    | none => rfl
    | some cs => simp only []; rw [fill_zip n t ps]
theorem smO_run (op : DOp) (t : Tm) (h : Hp) : runSm (smO op) t h = dop op t h := by
  cases op <;> try rfl
  case build zs ps => show dBuild zs (zipP ps ((evs t (ps.map (·.2.2))).map .con)) .leaf h = dBuild zs ps t h; unfold dBuild; rw [fill_zip]
  case buildSlice ty zs n sz ps => show dBuildSlice ty zs n sz (zipP ps ((evs t (ps.map (·.2.2))).map .con)) .leaf h = dBuildSlice ty zs n sz ps t h; unfold dBuildSlice; rw [fill_zip]
  case mkFunc f a b =>
    show dMkFunc f (((evs t (a ++ b)).take a.length).map .con) (((evs t (a ++ b)).drop a.length).map .con) .leaf h = dMkFunc f a b t h
    unfold dMkFunc
    rw [evs_con, evs_con, evs_map, evs_map, evs_map, List.map_append, List.take_left' (by simp), List.drop_left' (by simp)]
  case sliceS x lo hi => cases lo <;> cases hi <;> rfl
  case sliceX sz x lo hi mx => cases lo <;> cases hi <;> cases mx <;> rfl
  case sliceA n sz x lo hi => cases lo <;> cases hi <;> rfl
  case minmax mx l => show dMinmax mx ((evs t l).map .con) .leaf h = dMinmax mx l t h; unfold dMinmax; rw [evs_con]

/-! ### results of a run, one behind the other -/
section
variable (rk : PT Pos)
def Rl (t s : Tm) : Prop := ∀ p q v, rk.get p = some q → t.get q = some v → s.get p = some v
def Ref (r r' : R) : Prop := match r with
  | .norm t h => ∃ s, r' = .norm s h ∧ Rl rk t s
  | .exit i t h => ∃ s, r' = .exit i s h ∧ Rl rk t s
  | .ret t h => ∃ s, r' = .ret s h ∧ Rl rk t s
  | .goto l t h => ∃ s, r' = .goto l s h ∧ Rl rk t s
  | .bad _ => True
end
section
variable {rk : PT Pos}
theorem lgetK_ref {r' : R} : ∀ {l : List DV} {n : Nat} {k : DV → R}, (∀ v, lgetO l n = some v → Ref rk (k v) r') → Ref rk (lgetK l n k) r'
  | [], _n, _k, _h => trivial
  | x :: _l, 0, _k, h => h x rfl
  | _x :: l, n + 1, k, h => lgetK_ref (l := l) (n := n) (k := k) h
theorem fetch_ref {r' : R} {a : At} {env : List DV} {t : Tm} {k : DV → R} (h : ∀ v, fetchO a env t = some v → Ref rk (k v) r') : Ref rk (fetch a env t k) r' := by
  cases a with
  | loc i => exact lgetK_ref h
  | con v => exact h v rfl
  | tmp q =>
    show Ref rk ((t.get q).rec (.bad [2]) k) r'
    cases hq : t.get q with
    | none => trivial
    | some v => exact h v hq
theorem fetchL_ref {r' : R} {env : List DV} {t : Tm} : ∀ {l : List At} {k : List DV → R}, (∀ vs, fetchOL l env t = some vs → Ref rk (k vs) r') → Ref rk (fetchL l env t k) r'
  | [], k, h => h [] rfl
  | a :: l, k, h => by
    show Ref rk (fetch a env t fun v => fetchL l env t fun vs => k (v :: vs)) r'
    refine fetch_ref fun v hv => fetchL_ref fun vs hvs => h _ ?_
    show (match fetchO a env t with | some v => (match fetchOL l env t with | some vs => some (v :: vs) | none => none) | none => none) = _
    rw [hv, hvs]
theorem step_ref {r' : R} {r : Option (DV × Hp)} {k : DV → Hp → R} (h : ∀ v h', r = some (v, h') → Ref rk (k v h') r') : Ref rk (step r k) r' := by
  cases r with
  | none => trivial
  | some p => exact h p.1 p.2 rfl
theorem stepR_ref {r' : R} {r : RV} {k : DV → Hp → R} (h : ∀ v h', r = .ok v h' → Ref rk (k v h') r') : Ref rk (stepR r k) r' := by
  cases r with
  | bad => trivial
  | ok v h' => exact h v h' rfl
theorem thenN_ref {g g' : Tm → Hp → R} {r r' : R} (h : Ref rk r r') (hg : ∀ t h s, Rl rk t s → Ref rk (g t h) (g' s h)) : Ref rk (thenN g r) (thenN g' r') := by
  cases r with
  | norm t h0 => obtain ⟨s, rfl, hs⟩ := h; exact hg t h0 s hs
  | exit i t h0 => obtain ⟨s, rfl, hs⟩ := h; exact ⟨s, rfl, hs⟩
  | ret t h0 => obtain ⟨s, rfl, hs⟩ := h; exact ⟨s, rfl, hs⟩
  | goto i t h0 => obtain ⟨s, rfl, hs⟩ := h; exact ⟨s, rfl, hs⟩
  | bad => trivial
theorem thenN_norm (r : R) : thenN (fun t h => .norm t h) r = r := by cases r <;> rfl
theorem thenN_thenN (g g' : Tm → Hp → R) (r : R) : thenN g (thenN g' r) = thenN (fun t h => thenN g (g' t h)) r := by cases r <;> rfl
theorem thenN_branch (g : Tm → Hp → R) (v : DV) (a b : R) : thenN g (branch v a b) = branch v (thenN g a) (thenN g b) := by
  cases v <;> try rfl
  rename_i b; cases b <;> rfl
theorem branch_ref {v : DV} {a a' b b' : R} (ha : Ref rk a a') (hb : Ref rk b b') : Ref rk (branch v a b) (branch v a' b') := by
  cases v <;> try trivial
  rename_i c; cases c
  · exact hb
  · exact ha
theorem unblock_ref {id : Nat} {r r' : R} (h : Ref rk r r') : Ref rk (unblock id r) (unblock id r') := by
  cases r with
  | exit i t h0 =>
    obtain ⟨s, rfl, hs⟩ := h
    show Ref rk (Bool.rec (.exit i t h0) (.norm t h0) (Nat.beq i id)) (Bool.rec (.exit i s h0) (.norm s h0) (Nat.beq i id))
    cases Nat.beq i id <;> exact ⟨s, rfl, hs⟩
  | norm t h0 => obtain ⟨s, rfl, hs⟩ := h; exact ⟨s, rfl, hs⟩
  | ret t h0 => obtain ⟨s, rfl, hs⟩ := h; exact ⟨s, rfl, hs⟩
  | goto i t h0 => obtain ⟨s, rfl, hs⟩ := h; exact ⟨s, rfl, hs⟩
  | bad => trivial
theorem rounds_ref {g g' : Tm → Hp → R} (hg : ∀ t h s, Rl rk t s → Ref rk (g t h) (g' s h)) : ∀ n t h s, Rl rk t s → Ref rk (rounds n g t h) (rounds n g' s h)
  | 0, _t, _h, _s, _hs => trivial
  | n + 1, t, h, s, hs => thenN_ref (hg t h s hs) (rounds_ref hg n)
theorem jumps_ref {f f' : Nat → Option (Tm → Hp → R)} (hf : ∀ l, match f l, f' l with | none, none => True | some g, some g' => ∀ t h s, Rl rk t s → Ref rk (g t h) (g' s h) | _, _ => False) : ∀ n r r', Ref rk r r' → Ref rk (jumps n f r) (jumps n f' r')
  | 0, r, r', h => trivial
  | n + 1, .norm t h0, r', h => by obtain ⟨s, rfl, hs⟩ := h; exact ⟨s, rfl, hs⟩
  | n + 1, .exit i t h0, r', h => by obtain ⟨s, rfl, hs⟩ := h; exact ⟨s, rfl, hs⟩
  | n + 1, .ret t h0, r', h => by obtain ⟨s, rfl, hs⟩ := h; exact ⟨s, rfl, hs⟩
  | n + 1, .bad _, r', h => trivial
  | n + 1, .goto l t h0, r', h => by
    obtain ⟨s, rfl, hs⟩ := h
    have := hf l
    show Ref rk ((f l).rec (.goto l t h0) (fun g => jumps n f (g t h0))) ((f' l).rec (.goto l s h0) (fun g => jumps n f' (g s h0)))
    cases h1 : f l with
    | none =>
      cases h2 : f' l with
      | none => exact ⟨s, rfl, hs⟩
      | some g' => rw [h1, h2] at this; cases this
    | some g =>
      cases h2 : f' l with
      | none => rw [h1, h2] at this; cases this
      | some g' => rw [h1, h2] at this; exact jumps_ref hf n _ _ (this t h0 s hs)

/-! ### where things stand -/
structure Vnv (rk : PT Pos) (M : PT At) (d : Nat) (W : List Pos) (env : List DV) (t s : Tm) : Prop where
  len : env.length = d
  high : ∀ p l, M.get p = some (.loc l) → l < d
  val : ∀ p a v, M.get p = some a → fetchO (low d a) env t = some v → s.get p = some v
  wrote : ∀ p ∈ W, (M.get p).isSome
  old : ∀ p q v, p ∉ W → rk.get p = some q → t.get q = some v → s.get p = some v

variable {M : PT At} {d : Nat} {W : List Pos} {env : List DV} {t s : Tm}
theorem Vnv.atL (I : Vnv rk M d W env t s) {x : Opd} {a : At} {v : DV} (ha : atL M rk x = some a) (hv : fetchO (low d a) env t = some v) : ev s x = v ∧ ∀ p, x = .tmp p → s.get p = some v := by
  cases x with
  | con c =>
    cases ha
    cases hv
    exact ⟨rfl, fun p h => by cases h⟩
  | tmp p =>
    have key : s.get p = some v := by
      unfold Dm.atL at ha
      simp only at ha
      split at ha
      · rename_i a' hm
        cases ha
        exact I.val p _ v hm hv
      · rename_i hm
        split at ha
        · rename_i q hq
          cases ha
          exact I.old p q v (fun hw => by have := I.wrote p hw; rw [hm] at this; cases this) hq hv
        · cases ha
    exact ⟨by show (s.get p).getD .undef = v; rw [key]; rfl, fun p' h => by cases h; exact key⟩
theorem Vnv.toAt (I : Vnv rk M d W env t s) {x : Opd} {a : At} {v : DV} (ha : toAt M rk d x = some a) (hv : fetchO a env t = some v) : ev s x = v ∧ ∀ p, x = .tmp p → s.get p = some v := by
  unfold Dm.toAt at ha
  split at ha
  · rename_i a' h1
    cases ha
    exact I.atL h1 hv
  · cases ha
theorem Vnv.toAts (I : Vnv rk M d W env t s) : ∀ {l : List Opd} {as : List At} {vs : List DV}, toAts M rk d l = some as → fetchOL as env t = some vs → evs s l = vs
  | [], as, vs, ha, hv => by cases ha; cases hv; rfl
  | x :: l, as, vs, ha, hv => by
    change (match Dm.toAt M rk d x with | some a => (match Dm.toAts M rk d l with | some as => some (a :: as) | none => none) | none => none) = some as at ha
    split at ha
    · rename_i a h1
      split at ha
      · rename_i as' h2
        cases ha
        change (match fetchO a env t with | some v => (match fetchOL as' env t with | some vs => some (v :: vs) | none => none) | none => none) = some vs at hv
        split at hv
        · rename_i v h3
          split at hv
          · rename_i vs' h4
            cases hv
            show ev s x :: evs s l = _
            rw [(I.toAt h1 h3).1, I.toAts h2 h4]
          · cases hv
        · cases hv
      · cases ha
    · cases ha

theorem fetchO_low_cons {a : At} {x : DV} (hl : ∀ l, a = .loc l → l < d) : fetchO (low (d + 1) a) (x :: env) t = fetchO (low d a) env t := by
  cases a with
  | loc l =>
    have := hl l rfl
    show lgetO (x :: env) (d + 1 - 1 - l) = lgetO env (d - 1 - l)
    rw [show d + 1 - 1 - l = (d - 1 - l) + 1 by omega]
    rfl
  | tmp q => rfl
  | con v => rfl
theorem Vnv.put (I : Vnv rk M d W env t s) (dst : Option Pos) (v : DV) : Vnv rk (setM dst (.loc d) M) (d + 1) (addW dst W) (v :: env) t (setD dst v s) := by
  cases dst with
  | none =>
    refine ⟨by simp [I.len], fun p l h => Nat.lt_succ_of_lt (I.high p l h), fun p a u hm hu => ?_, I.wrote, I.old⟩
    change M.get p = some a at hm
    rw [fetchO_low_cons (fun l e => I.high p l (by rw [hm, e]))] at hu
    exact I.val p a u hm hu
  | some p0 =>
    refine ⟨by simp [I.len], fun p l h => ?_, fun p a u hm hu => ?_, fun p hp => ?_, fun p q u hp hq hu => ?_⟩
    · change (M.put p0 (some (.loc d))).get p = _ at h
      by_cases e : p0 = p
      · subst e; rw [PT.get_put_same] at h; cases h; exact Nat.lt_succ_self _
      · rw [PT.get_put_ne _ _ _ _ e] at h; exact Nat.lt_succ_of_lt (I.high p l h)
    · change (M.put p0 (some (.loc d))).get p = _ at hm
      show (s.put p0 (some v)).get p = _
      by_cases e : p0 = p
      · subst e; rw [PT.get_put_same] at hm; cases hm
        rw [PT.get_put_same]
        change lgetO (v :: env) (d + 1 - 1 - d) = some u at hu
        rw [show d + 1 - 1 - d = 0 by omega] at hu
        exact hu
      · rw [PT.get_put_ne _ _ _ _ e] at hm
        rw [PT.get_put_ne _ _ _ _ e]
        rw [fetchO_low_cons (fun l e => I.high p l (by rw [hm, e]))] at hu
        exact I.val p a u hm hu
    · show ((M.put p0 (some (.loc d))).get p).isSome
      by_cases e : p0 = p
      · subst e; rw [PT.get_put_same]; rfl
      · rw [PT.get_put_ne _ _ _ _ e]
        rcases List.mem_cons.1 hp with h | h
        · exact absurd h.symm e
        · exact I.wrote p h
    · show (s.put p0 (some v)).get p = _
      have e : p0 ≠ p := fun e => hp (by rw [e]; exact List.mem_cons_self ..)
      rw [PT.get_put_ne _ _ _ _ e]
      exact I.old p q u (fun h => hp (List.mem_cons_of_mem _ h)) hq hu
theorem Vnv.move (I : Vnv rk M d W env t s) {p0 : Pos} {x : Opd} {a : At} (ha : Dm.atL M rk x = some a) : Vnv rk (M.put p0 (some a)) d (p0 :: W) env t (s.put p0 (some (ev s x))) := by
  refine ⟨I.len, fun p l h => ?_, fun p b u hm hu => ?_, fun p hp => ?_, fun p q u hp hq hu => ?_⟩
  · by_cases e : p0 = p
    · subst e; rw [PT.get_put_same] at h; cases h
      cases x with
      | con c => cases ha
      | tmp p' =>
        unfold Dm.atL at ha
        simp only at ha
        split at ha
        · rename_i a' hm; cases ha; exact I.high _ _ hm
        · split at ha <;> cases ha
    · rw [PT.get_put_ne _ _ _ _ e] at h; exact I.high p l h
  · by_cases e : p0 = p
    · subst e; rw [PT.get_put_same] at hm; cases hm
      rw [PT.get_put_same, (I.atL ha hu).1]
    · rw [PT.get_put_ne _ _ _ _ e] at hm
      rw [PT.get_put_ne _ _ _ _ e]
      exact I.val p b u hm hu
  · by_cases e : p0 = p
    · subst e; rw [PT.get_put_same]; rfl
    · rw [PT.get_put_ne _ _ _ _ e]
      rcases List.mem_cons.1 hp with h | h
      · exact absurd h.symm e
      · exact I.wrote p h
  · have e : p0 ≠ p := fun e => hp (by rw [e]; exact List.mem_cons_self ..)
    rw [PT.get_put_ne _ _ _ _ e]
    exact I.old p q u (fun h => hp (List.mem_cons_of_mem _ h)) hq hu

/-! ### what is put down at an end -/
def Puts (env : List DV) (t : Tm) : List (Pos × At) → Tm → Tm → Prop
  | [], t1, t2 => t2 = t1
  | p :: L, t1, t2 => ∃ v, fetchO p.2 env t = some v ∧ Puts env t L (t1.put p.1 (some v)) t2
theorem endR_ref {r' : R} : ∀ {L : List (Pos × At)} {t1 : Tm} {k : Tm → R}, (∀ t2, Puts env t L t1 t2 → Ref rk (k t2) r') → Ref rk (endR L env t t1 k) r'
  | [], t1, _k, h => h t1 rfl
  | _p :: L, _t1, _k, h => fetch_ref fun v hv => endR_ref (L := L) fun t2 h2 => h t2 ⟨v, hv, h2⟩
theorem puts_good (hinj : ∀ p p' q, rk.get p = some q → rk.get p' = some q → p = p') (hv : ∀ p a v, toAt M rk d (.tmp p) = some a → fetchO a env t = some v → s.get p = some v) :
    ∀ {W : List Pos} {L : List (Pos × At)} {t1 t2 : Tm}, puts M rk d W = some L → Puts env t L t1 t2 → (∀ p q v, p ∉ W → rk.get p = some q → t1.get q = some v → s.get p = some v) → Rl rk t2 s
  | [], L, t1, t2, hp, ht, hg => by cases hp; cases ht; exact fun p q v => hg p q v (by simp)
  | p0 :: W, L, t1, t2, hp, ht, hg => by
    change (match rk.get p0 with
      | none => puts M rk d W
      | some q => match toAt M rk d (.tmp p0) with
        | some a => match puts M rk d W with | some L => some ((q, a) :: L) | none => none
        | none => none) = some L at hp
    split at hp
    · rename_i hn
      refine puts_good hinj hv hp ht fun p q v h1 h2 h3 => hg p q v (fun hc => ?_) h2 h3
      rcases List.mem_cons.1 hc with e | e
      · rw [e, hn] at h2; cases h2
      · exact h1 e
    · rename_i q0 hq0
      split at hp
      · rename_i a ha
        split at hp
        · rename_i L' hL
          cases hp
          obtain ⟨v0, e1, e2⟩ := ht
          refine puts_good hinj hv hL e2 fun p q v h1 h2 h3 => ?_
          by_cases hq : q0 = q
          · subst hq
            have := hinj p p0 _ h2 hq0
            subst this
            rw [PT.get_put_same] at h3
            cases h3
            exact hv _ _ _ ha e1
          · rw [PT.get_put_ne _ _ _ _ hq] at h3
            refine hg p q v (fun hc => ?_) h2 h3
            rcases List.mem_cons.1 hc with e | e
            · rw [e, hq0] at h2; cases h2; exact hq rfl
            · exact h1 e
        · cases hp
      · cases hp

def KOK (rk : PT Pos) (cl : Cal) (κ : Kn) (κD : Tm → Hp → R) : Prop := ∀ M d W env acc t h s, Vnv rk M d W env t s → Ref rk ((κ M d W).run cl env acc t h) (κD s h)
theorem Vnv.fresh (h : Rl rk t s) : Vnv rk .leaf 0 [] [] t s :=
  { len := rfl, high := fun p l h => by (rw [PT.get_leaf] at h; cases h), val := fun p a v h => by (rw [PT.get_leaf] at h; cases h), wrote := fun p h => by simp at h, old := fun p q v _ => h p q v }
theorem flush_ref (hinj : ∀ p p' q, rk.get p = some q → rk.get p' = some q → p = p') {cl : Cal} {f : Cal → Tm → Hp → R} {g : Tm → Hp → R} (hf : ∀ t h s, Rl rk t s → Ref rk (f cl t h) (g s h)) : KOK rk cl (flush rk f) g := fun M d W env acc t h s I => by
  unfold flush
  split
  · rename_i L hL
    exact endR_ref fun t2 h2 => hf t2 h s (puts_good hinj (fun p a v h1 h2 => (I.toAt h1 h2).2 p rfl) hL h2 I.old)
  · trivial

/-! ### one operation -/
variable {call cl : Cal}
def Under (cl call : Cal) : Prop := ∀ f args h v h', cl f args h = .ok v h' → call f args h = .ok v h'
theorem emit_ref (I : Vnv rk M d W env t s) {op : DOp} {k : Bx} {acc : List Hp} {h : Hp} {r' : R} (hk : ∀ v h', dop op s h = some (v, h') → Ref rk (k.run cl (v :: env) (h :: acc) t h') r') :
    Ref rk ((emit M rk d (smO op) k).run cl env acc t h) r' := by
  have hr := smO_run op s h
  unfold emit
  split
  · rename_i g hg
    rw [hg] at hr
    exact step_ref fun v h' e => hk v h' (hr ▸ e)
  · rename_i x g hg
    rw [hg] at hr
    split
    · rename_i a ha
      refine fetch_ref fun v hv => step_ref fun w h' e => hk w h' ?_
      rw [← (I.toAt ha hv).1] at e
      rw [← hr]; exact e
    · trivial
  · rename_i x y g hg
    rw [hg] at hr
    split
    · rename_i a b ha hb
      refine fetch_ref fun v hv => fetch_ref fun u hu => step_ref fun w h' e => hk w h' ?_
      rw [← (I.toAt ha hv).1, ← (I.toAt hb hu).1] at e
      rw [← hr]; exact e
    · trivial
  · rename_i l g hg
    rw [hg] at hr
    split
    · rename_i as ha
      refine fetchL_ref fun vs hv => step_ref fun w h' e => hk w h' ?_
      rw [← I.toAts ha hv] at e
      rw [← hr]; exact e
    · trivial
theorem emitO_ref (hu : Under cl call) (I : Vnv rk M d W env t s) {o : DOper} {k : Bx} {acc : List Hp} {h : Hp} {r' : R} (hk : ∀ v h', oper call o s h = .ok v h' → Ref rk (k.run cl (v :: env) (h :: acc) t h') r') :
    Ref rk ((emitO M rk d o k).run cl env acc t h) r' := by
  cases o with
  | plain dst g op => exact emit_ref I fun v h' e => hk v h' (by show lift dst (dop op s h) = _; rw [e]; rfl)
  | callF dst g f l =>
    show Ref rk ((match toAts M rk d l with | some as => (⟨cF f as k⟩ : Bx) | none => badC).run cl env acc t h) r'
    split
    · rename_i as ha
      refine fetchL_ref fun vs hv => stepR_ref fun w h' e => hk w h' ?_
      show call f (evs s l) h = _
      rw [I.toAts ha hv]
      exact hu _ _ _ _ _ e
    · trivial
  | callV dst g f l =>
    show Ref rk ((match toAt M rk d f, toAts M rk d l with | some x, some as => (⟨cV x as k⟩ : Bx) | _, _ => badC).run cl env acc t h) r'
    split
    · rename_i a as hf ha
      refine fetch_ref fun v hv => fetchL_ref fun vs hvs => stepR_ref fun w h' e => hk w h' ?_
      show vcall call dst (evs s l) h (ev s f) = _
      rw [I.toAts ha hvs, (I.toAt hf hv).1]
      cases v <;> first | (cases e; done) | skip
      exact hu _ _ _ _ _ e
    · trivial

/-! ### rows of operations -/
theorem wanted_some {g : Pos} {w : Bool} {v : DV} (h : s.get g = some v) {a b : R} {r' : R} (ha : wanted (some (g, w)) s = some true → Ref rk a r') (hb : wanted (some (g, w)) s = some false → Ref rk b r') : Ref rk (guardE v w a b) r' := by
  cases v <;> try trivial
  · rename_i c
    have e : wanted (some (g, w)) s = some (c.rec (not w) w) := by unfold wanted; simp only []; rw [h]
    show Ref rk ((c.rec (not w) w : Bool).rec b a) r'
    cases hc : (c.rec (not w) w : Bool) with
    | true => exact ha (by rw [e, hc])
    | false => exact hb (by rw [e, hc])
  · exact hb (by unfold wanted; simp only []; rw [h])
theorem cops_cons (dr : Bool) (o : DOper) (ops : List DOper) (κ : Kn) (W : List Pos) (M : PT At) (d : Nat) : cops rk dr (o :: ops) κ M d W = (match o.guard with
      | some (g, w) => match toAt M rk d (.tmp g) with
        | some ga => ⟨cG ga w (emitO M rk d o (cops rk dr ops κ (setM o.dst (.loc d) M) (d + 1) (addW o.dst W))) (cops rk dr ops κ (setM o.dst (.loc d) M) (d + 1) (addW o.dst W))⟩
        | none => badC
      | none => match o with
        | .plain (some p) _ (.move x) => match atL M rk x with
          | some a => dr.rec (cops rk dr ops κ (M.put p (some a)) d (p :: W)) ⟨cAcc (cops rk dr ops κ (M.put p (some a)) d (p :: W))⟩
          | none => badC
        | o => emitO M rk d o (cops rk dr ops κ (setM o.dst (.loc d) M) (d + 1) (addW o.dst W))) := rfl
theorem cops_ref (hu : Under cl call) {κ : Kn} {κD : Tm → Hp → R} (hκ : KOK rk cl κ κD) :
    ∀ (ops : List DOper) {W : List Pos} {M : PT At} {d : Nat} {env : List DV} {acc : List Hp} {t s : Tm} {h : Hp}, Vnv rk M d W env t s → Ref rk ((cops rk false ops κ M d W).run cl env acc t h) (thenN κD (opers call ops s h))
  | [], W, M, d, env, acc, t, s, h, I => hκ _ _ _ _ _ _ _ _ I
  | o :: ops, W, M, d, env, acc, t, s, h, I => by
    have hD : opers call (o :: ops) s h = (wanted o.guard s).rec (.bad [7777, posN o.dst]) (fun w => w.rec (opers call ops (setD o.dst (.tup []) s) h) (after (opers call ops) o.dst s (oper call o s h))) := rfl
    have go : ∀ {r' : R}, r' = thenN κD (after (opers call ops) o.dst s (oper call o s h)) → Ref rk ((emitO M rk d o (cops rk false ops κ (setM o.dst (.loc d) M) (d + 1) (addW o.dst W))).run cl env acc t h) r' := fun e => by
      subst e
      refine emitO_ref hu I fun v h' ho => ?_
      rw [ho]
      exact cops_ref hu hκ ops (I.put o.dst v)
    rw [hD]
    rw [cops_cons]
    cases hg : o.guard with
    | some gw =>
      obtain ⟨g, w⟩ := gw
      simp only []
      split
      · rename_i ga ha
        refine fetch_ref fun v hv => wanted_some ((I.toAt ha hv).2 g rfl) (fun e => ?_) (fun e => ?_)
        · rw [e]; exact go rfl
        · rw [e]; exact cops_ref hu hκ ops (I.put o.dst (.tup []))
      · trivial
    | none =>
      simp only []
      show Ref rk _ (thenN κD (after (opers call ops) o.dst s (oper call o s h)))
      split
      · rename_i p gg x
        split
        · rename_i a ha
          exact cops_ref hu hκ ops (I.move ha)
        · trivial
      · exact go rfl
end
end Go.Dm

namespace Go.Dm

section
variable {rk : PT Pos} {M : PT At} {d : Nat} {W : List Pos} {env : List DV} {t s : Tm} {call cl : Cal}

/-! ### drawn regions -/
theorem cops_refT (hu : Under cl call) {κ : Kn} {κD : Tm → Hp → R} {kD : List Hp → Tm → Hp → R} (hκ : ∀ M d W env acc t h s, Vnv rk M d W env t s → Ref rk ((κ M d W).run cl env acc t h) (thenN κD (kD (h :: acc) s h))) :
    ∀ (ops : List DOper) {W : List Pos} {M : PT At} {d : Nat} {env : List DV} {acc : List Hp} {t s : Tm} {h : Hp}, Vnv rk M d W env t s → Ref rk ((cops rk true ops κ M d W).run cl env acc t h) (thenN κD (opersT call kD ops acc s h))
  | [], W, M, d, env, acc, t, s, h, I => hκ _ _ _ _ _ _ _ _ I
  | o :: ops, W, M, d, env, acc, t, s, h, I => by
    have hD : opersT call kD (o :: ops) acc s h = (wanted o.guard s).rec (.bad [7778, posN o.dst]) (fun w => w.rec (opersT call kD ops (h :: acc) (setD o.dst (.tup []) s) h) (afterT (opersT call kD ops) (h :: acc) o.dst s (oper call o s h))) := rfl
    have go : ∀ {r' : R}, r' = thenN κD (afterT (opersT call kD ops) (h :: acc) o.dst s (oper call o s h)) → Ref rk ((emitO M rk d o (cops rk true ops κ (setM o.dst (.loc d) M) (d + 1) (addW o.dst W))).run cl env acc t h) r' := fun e => by
      subst e
      refine emitO_ref hu I fun v h' ho => ?_
      rw [ho]
      exact cops_refT hu hκ ops (I.put o.dst v)
    rw [hD]
    rw [cops_cons]
    cases hg : o.guard with
    | some gw =>
      obtain ⟨g, w⟩ := gw
      simp only []
      split
      · rename_i ga ha
        refine fetch_ref fun v hv => wanted_some ((I.toAt ha hv).2 g rfl) (fun e => ?_) (fun e => ?_)
        · rw [e]; exact go rfl
        · rw [e]; exact cops_refT hu hκ ops (I.put o.dst (.tup []))
      · trivial
    | none =>
      simp only []
      show Ref rk _ (thenN κD (afterT (opersT call kD ops) (h :: acc) o.dst s (oper call o s h)))
      split
      · rename_i p gg x
        split
        · rename_i a ha
          exact cops_refT hu hκ ops (I.move ha)
        · trivial
      · exact go rfl

theorem smE_ok (I : Vnv rk M d W env t s) {op : DOp} {h : Hp} {x : DV × Hp} (he : smE M rk d (smO op) env t h = some x) : dop op s h = some x := by
  rw [← smO_run op s h]
  unfold smE at he
  split at he
  · rename_i g hg
    rw [hg]; exact he
  · rename_i y g hg
    rw [hg]
    split at he
    · rename_i a ha
      split at he
      · rename_i v hv
        show g (ev s y) h = _
        rw [(I.toAt ha hv).1]; exact he
      · cases he
    · cases he
  · rename_i y z g hg
    rw [hg]
    split at he
    · rename_i a b ha hb
      split at he
      · rename_i v u hv hu
        show g (ev s y) (ev s z) h = _
        rw [(I.toAt ha hv).1, (I.toAt hb hu).1]; exact he
      · cases he
    · cases he
  · rename_i l g hg
    rw [hg]
    split at he
    · rename_i as ha
      split at he
      · rename_i vs hv
        show g (evs s l) h = _
        rw [I.toAts ha hv]; exact he
      · cases he
    · cases he
theorem wantE_ok (I : Vnv rk M d W env t s) {g : Option (Pos × Bool)} {b : Bool} (he : wantE M rk d g env t = some b) : wanted g s = some b := by
  cases g with
  | none => exact he
  | some g =>
    obtain ⟨p, w⟩ := g
    unfold wantE at he
    simp only at he
    split at he
    · rename_i a ha
      split at he
      · rename_i c hv
        unfold wanted; simp only []; rw [(I.toAt ha hv).2 p rfl]; exact he
      · rename_i l hv
        unfold wanted; simp only []; rw [(I.toAt ha hv).2 p rfl]; exact he
      · cases he
    · cases he
theorem rivalAtE_ok (I : Vnv rk M d W env t s) {r : DRival} {acc : List Hp} {j : Nat} (he : rivalAtE M rk d r acc env t j = true) : rivalAt r acc s j = true := by
  unfold rivalAtE at he
  unfold rivalAt
  split at he
  · cases he
  · rename_i h hh
    rw [hh]
    simp only []
    split at he
    · rename_i v h' hs
      rw [smE_ok I hs]
      simp only []
      split at he
      · rename_i p hp
        rw [hp]
        simp only []
        split at he
        · rename_i a ha
          split at he
          · rename_i u hu
            rw [(I.toAt ha hu).2 p rfl]; exact he
          · cases he
        · cases he
      · rename_i hp
        rw [hp]
    · cases he
theorem rivalB_ok (I : Vnv rk M d W env t s) {r : DRival} {acc : List Hp} (he : rivalB M rk d r acc env t = true) : rivalOk acc s r = true := by
  unfold rivalB at he
  unfold rivalOk
  cases hw : wantE M rk d r.guard env t with
  | none => rw [hw] at he; cases he
  | some b =>
    rw [hw] at he
    rw [wantE_ok I hw]
    cases b with
    | false => rfl
    | true =>
      change (r.places.rec true (fun j _ ih => and (rivalAtE M rk d r acc env t j) ih) : Bool) = true at he
      show (r.places.rec true (fun j _ ih => and (rivalAt r acc s j) ih) : Bool) = true
      generalize r.places = pl at he ⊢
      induction pl with
      | nil => rfl
      | cons j l ih =>
        change (and (rivalAtE M rk d r acc env t j) (l.rec true (fun j _ ih => and (rivalAtE M rk d r acc env t j) ih))) = true at he
        simp only [Bool.and_eq_true] at he
        show (and (rivalAt r acc s j) (l.rec true (fun j _ ih => and (rivalAt r acc s j) ih))) = true
        rw [rivalAtE_ok I he.1, ih he.2]; rfl
theorem rivalsB_ok (I : Vnv rk M d W env t s) {acc : List Hp} : ∀ {rs : List DRival}, rivalsB M rk d rs acc env t = true → rivalsOk rs acc s = true
  | [], _ => rfl
  | r :: rs, he => by
    change (and (rivalB M rk d r acc env t) (rivalsB M rk d rs acc env t)) = true at he
    simp only [Bool.and_eq_true] at he
    show (and (rivalOk acc s r) (rivalsOk rs acc s)) = true
    rw [rivalB_ok I he.1, rivalsB_ok I he.2]; rfl
theorem rivalK_ref {rs : List DRival} {κ : Kn} {κD : Tm → Hp → R} (hκ : KOK rk cl κ κD) (I : Vnv rk M d W env t s) (acc : List Hp) (h : Hp) :
    Ref rk ((rivalK rk rs κ M d W).run cl env acc t h) (thenN κD (Bool.rec (.bad [7779]) (.norm s h) (rivalsOk rs (h :: acc) s))) := by
  cases rs with
  | nil => exact hκ _ _ _ _ _ _ _ _ I
  | cons r rs =>
    show Ref rk (Bool.rec (.bad [7780]) ((κ M d W).run cl env (h :: acc) t h) (rivalsB M rk d (r :: rs) (h :: acc) env t)) _
    cases hb : rivalsB M rk d (r :: rs) (h :: acc) env t with
    | false => trivial
    | true =>
      rw [rivalsB_ok I hb]
      exact hκ _ _ _ _ _ _ _ _ I

/-! ### code -/
theorem then0_ref {κ : Kn} {κD : Tm → Hp → R} (hκ : KOK rk cl κ κD) {r r' : R} (h : Ref rk r r') : Ref rk (then0 κ cl r) (thenN κD r') :=
  thenN_ref h fun _t _h _s hs => hκ _ _ _ _ _ _ _ _ (Vnv.fresh hs)
theorem normK_ok (hinj : ∀ p p' q, rk.get p = some q → rk.get p' = some q → p = p') : KOK rk cl (normK rk) (fun t h => .norm t h) := flush_ref hinj fun _t _h s hs => ⟨s, rfl, hs⟩

def LabOK (rk : PT Pos) (cl : Cal) (f : Lab) (f' : Nat → Option (Tm → Hp → R)) : Prop := ∀ l, match f l, f' l with
  | none, none => True
  | some g, some g' => ∀ t h s, Rl rk t s → Ref rk (g cl t h) (g' s h)
  | _, _ => False
def CodeOK (rk : PT Pos) (cl : Cal) (f : Co) (g : Tm → Hp → R) : Prop := ∀ M d W κ κD env acc t h s, KOK rk cl κ κD → Vnv rk M d W env t s → Ref rk ((f M d W κ).run cl env acc t h) (thenN κD (g s h))
theorem CodeOK.enter (hinj : ∀ p p' q, rk.get p = some q → rk.get p' = some q → p = p') {f : Co} {g : Tm → Hp → R} (h : CodeOK rk cl f g) : ∀ t k s, Rl rk t s → Ref rk (enter0 rk f cl t k) (g s k) := fun t k s hs => by
  have := h .leaf 0 [] (normK rk) _ [] [] t k s (normK_ok hinj) (Vnv.fresh hs)
  rw [thenN_norm] at this
  exact this
theorem CodeOK.norm (hinj : ∀ p p' q, rk.get p = some q → rk.get p' = some q → p = p') {f : Co} {g : Tm → Hp → R} (h : CodeOK rk cl f g) (I : Vnv rk M d W env t s) (acc : List Hp) (k : Hp) : Ref rk ((f M d W (normK rk)).run cl env acc t k) (g s k) := by
  have := h M d W (normK rk) _ env acc t k s (normK_ok hinj) I
  rw [thenN_norm] at this
  exact this

theorem comp_ref (hinj : ∀ p p' q, rk.get p = some q → rk.get p' = some q → p = p') (hu : Under cl call) (n : Nat) (c : DCode) : CodeOK rk cl (compL rk n c).1 (run call n c) ∧ LabOK rk cl (compL rk n c).2 (runL call n c).2 := by
  induction c with
  | skip => exact ⟨fun M d W κ κD env acc t h s hκ I => hκ _ _ _ _ _ _ _ _ I, fun l => trivial⟩
  | stop => exact ⟨fun M d W κ κD env acc t h s hκ I => trivial, fun l => trivial⟩
  | region ops => exact ⟨fun M d W κ κD env acc t h s hκ I => cops_ref hu hκ ops I, fun l => trivial⟩
  | drawn ops rs =>
    refine ⟨fun M d W κ κD env acc t h s hκ I => ?_, fun l => trivial⟩
    show Ref rk ((cops rk true ops (rivalK rk rs κ) M d W).run cl env [] t h) (thenN κD (opersT call (fun acc t h => Bool.rec (.bad [7779]) (.norm t h) (rivalsOk rs acc t)) ops [] s h))
    exact cops_refT hu (fun M d W env acc t h s I => rivalK_ref hκ I acc h) ops I
  | seq a b iha ihb =>
    refine ⟨fun M d W κ κD env acc t h s hκ I => ?_, fun l => ?_⟩
    · show Ref rk _ (thenN κD (thenN (run call n b) (run call n a s h)))
      rw [thenN_thenN]
      exact iha.1 M d W _ _ env acc t h s (fun M d W env acc t h s I => ihb.1 M d W κ κD env acc t h s hκ I) I
    · have h1 := iha.2 l
      have h2 := ihb.2 l
      show (match seqLE (compL rk n a).2 (compL rk n b).2 (enter0 rk (compL rk n b).1) l, seqL (runL call n a).2 (runL call n b).2 (runL call n b).1 l with
        | none, none => True
        | some g, some g' => ∀ t h s, Rl rk t s → Ref rk (g cl t h) (g' s h)
        | _, _ => False)
      unfold seqLE seqL
      cases e1 : (compL rk n a).2 l with
      | none =>
        cases e2 : (runL call n a).2 l with
        | none => exact h2
        | some g' => rw [e1, e2] at h1; cases h1
      | some g =>
        cases e2 : (runL call n a).2 l with
        | none => rw [e1, e2] at h1; cases h1
        | some g' =>
          rw [e1, e2] at h1
          exact fun t h s hs => thenN_ref (h1 t h s hs) (ihb.1.enter hinj)
  | cond c a b iha ihb =>
    refine ⟨fun M d W κ κD env acc t h s hκ I => ?_, fun l => trivial⟩
    show Ref rk ((match toAt M rk d c with
      | some x => cond2 rk x (or (never a) (never b)) κ ((compL rk n a).1 M d W) ((compL rk n b).1 M d W)
      | none => badC).run cl env acc t h) (thenN κD (branch (ev s c) (run call n a s h) (run call n b s h)))
    split
    · rename_i x hx
      cases or (never a) (never b) with
      | true =>
        rw [thenN_branch]
        refine fetch_ref fun v hv => ?_
        rw [(I.toAt hx hv).1]
        exact branch_ref (iha.1 M d W κ κD env acc t h s hκ I) (ihb.1 M d W κ κD env acc t h s hκ I)
      | false =>
        refine then0_ref hκ (fetch_ref fun v hv => ?_)
        rw [(I.toAt hx hv).1]
        exact branch_ref (iha.1.norm hinj I acc h) (ihb.1.norm hinj I acc h)
    · trivial
  | block id b ih => exact ⟨fun M d W κ κD env acc t h s hκ I => then0_ref hκ (unblock_ref (ih.1.norm hinj I acc h)), fun l => trivial⟩
  | loop b ih => exact ⟨fun M d W κ κD env acc t h s hκ I => flush_ref hinj (g := fun s h => thenN κD (rounds n (run call n b) s h)) (fun t h s hs => then0_ref hκ (rounds_ref (ih.1.enter hinj) n t h s hs)) M d W env acc t h s I, fun l => trivial⟩
  | exit id => exact ⟨fun M d W κ κD env acc t h s hκ I => flush_ref hinj (f := fun _ t h => .exit id t h) (g := fun s h => .exit id s h) (fun t h s hs => ⟨s, rfl, hs⟩) M d W env acc t h s I, fun l => trivial⟩
  | scope b ih =>
    refine ⟨fun M d W κ κD env acc t h s hκ I => then0_ref hκ (jumps_ref (fun l => ?_) n _ _ (ih.1.norm hinj I acc h)), fun l => trivial⟩
    have h1 := ih.2 l
    show (match (((compL rk n b).2 l).rec none (fun g => some (g cl)) : Option (Tm → Hp → R)), (runL call n b).2 l with
      | none, none => True
      | some g, some g' => ∀ t h s, Rl rk t s → Ref rk (g t h) (g' s h)
      | _, _ => False)
    cases e1 : (compL rk n b).2 l with
    | none =>
      cases e2 : (runL call n b).2 l with
      | none => trivial
      | some g' => rw [e1, e2] at h1; cases h1
    | some g =>
      cases e2 : (runL call n b).2 l with
      | none => rw [e1, e2] at h1; cases h1
      | some g' => rw [e1, e2] at h1; exact h1
  | label l0 =>
    refine ⟨fun M d W κ κD env acc t h s hκ I => hκ _ _ _ _ _ _ _ _ I, fun l => ?_⟩
    show (match (Bool.rec none (some fun _ t h => .norm t h) (Nat.beq l0 l) : Option (Cal → Tm → Hp → R)), (labL l0 l : Option (Tm → Hp → R)) with
      | none, none => True
      | some g, some g' => ∀ t h s, Rl rk t s → Ref rk (g cl t h) (g' s h)
      | _, _ => False)
    unfold labL
    cases hb : Nat.beq l0 l with
    | false =>
      have : Nat.beq l l0 = false := by
        cases h2 : Nat.beq l l0 with
        | false => rfl
        | true => rw [Nat.eq_of_beq_eq_true h2, Nat.beq_refl] at hb; cases hb
      first | (rw [hb]; trivial) | (rw [this]; trivial) | trivial
    | true =>
      have e := Nat.eq_of_beq_eq_true hb
      subst e
      first | exact fun t h s hs => ⟨s, rfl, hs⟩ | (rw [hb]; exact fun t h s hs => ⟨s, rfl, hs⟩)
  | goto l0 => exact ⟨fun M d W κ κD env acc t h s hκ I => flush_ref hinj (f := fun _ t h => .goto l0 t h) (g := fun s h => .goto l0 s h) (fun t h s hs => ⟨s, rfl, hs⟩) M d W env acc t h s I, fun l => trivial⟩
  | ret => exact ⟨fun M d W κ κD env acc t h s hκ I => flush_ref hinj (f := fun _ t h => .ret t h) (g := fun s h => .ret s h) (fun t h s hs => ⟨s, rfl, hs⟩) M d W env acc t h s I, fun l => trivial⟩

/-! ### functions -/
theorem bitsOf_len : ∀ (f m i : Nat), (bitsOf f m i).length ≤ f
  | 0, m, i => Nat.le_refl _
  | f + 1, 0, i => Nat.zero_le _
  | f + 1, m + 1, i => by
    show (Bool.rec (bitsOf f ((m + 1) / 2) (i + 1)) (posOf i :: bitsOf f ((m + 1) / 2) (i + 1)) (Nat.beq ((m + 1) % 2) 1) : List Pos).length ≤ f + 1
    have := bitsOf_len f ((m + 1) / 2) (i + 1)
    cases Nat.beq ((m + 1) % 2) 1
    · exact Nat.le_succ_of_le this
    · simpa using this
theorem ranks_get (full : List Pos) : ∀ (l pre : List Pos) (r : PT Pos), full = pre ++ l → (∀ p q, r.get p = some q → ∃ j, q = posOf j ∧ full[j]? = some p) → ∀ p q, (ranks l pre.length r).get p = some q → ∃ j, q = posOf j ∧ full[j]? = some p
  | [], pre, r, hf, hr => hr
  | p0 :: l, pre, r, hf, hr => by
    show ∀ p q, (ranks l (pre.length + 1) (r.put p0 (some (posOf pre.length)))).get p = some q → _
    have := ranks_get full l (pre ++ [p0]) (r.put p0 (some (posOf pre.length))) (by rw [hf]; simp) fun p q h => by
      by_cases e : p0 = p
      · subst e
        rw [PT.get_put_same] at h
        cases h
        exact ⟨pre.length, rfl, by rw [hf]; simp⟩
      · rw [PT.get_put_ne _ _ _ _ e] at h
        exact hr p q h
    simpa using this
theorem rankOf_inj (m : Nat) : ∀ p p' q, (rankOf m).get p = some q → (rankOf m).get p' = some q → p = p' := by
  intro p p' q h h'
  have key := ranks_get (bitsOf 2048 m 0) (bitsOf 2048 m 0) [] .leaf (by simp) fun p q h => by rw [PT.get_leaf] at h; cases h
  obtain ⟨j, e1, e2⟩ := key p q h
  obtain ⟨j', e1', e2'⟩ := key p' q h'
  have hl := bitsOf_len 2048 m 0
  have hj := (List.getElem?_eq_some_iff.1 e2).1
  have hj' := (List.getElem?_eq_some_iff.1 e2').1
  have : j = j' := posOf_inj (by omega) (by omega) (e1.symm.trans e1')
  subst this
  exact Option.some.inj (e2.symm.trans e2')
theorem rev_eq : ∀ (l acc : List DV), rev l acc = l.reverse ++ acc
  | [], acc => rfl
  | x :: l, acc => by show rev l (x :: acc) = _; rw [rev_eq l]; simp
theorem lgetO_eq : ∀ (l : List DV) (n : Nat), lgetO l n = l[n]?
  | [], _n => rfl
  | _x :: _l, 0 => rfl
  | _x :: l, n + 1 => lgetO_eq l n
theorem argM_get : ∀ (n : Nat), n ≤ 65536 → ∀ p a, (argM n).get p = some a → ∃ i, i < n ∧ p = posOf i ∧ a = .loc i
  | 0, _, p, a, h => by rw [show argM 0 = .leaf from rfl, PT.get_leaf] at h; cases h
  | n + 1, hn, p, a, h => by
    change ((argM n).put (posOf n) (some (.loc n))).get p = some a at h
    by_cases e : posOf n = p
    · subst e; rw [PT.get_put_same] at h; cases h; exact ⟨n, by omega, rfl, rfl⟩
    · rw [PT.get_put_ne _ _ _ _ e] at h
      obtain ⟨i, h1, h2, h3⟩ := argM_get n (by omega) p a h
      exact ⟨i, by omega, h2, h3⟩
theorem argM_has : ∀ (n i : Nat), i < n → ((argM n).get (posOf i)).isSome
  | n + 1, i, hi => by
    show (((argM n).put (posOf n) (some (.loc n))).get (posOf i)).isSome
    by_cases e : posOf n = posOf i
    · rw [e, PT.get_put_same]; rfl
    · rw [PT.get_put_ne _ _ _ _ e]
      exact argM_has n i (by
        rcases Nat.lt_or_ge i n with h | h
        · exact h
        · exact absurd (by rw [show i = n by omega]) e)
theorem argW_mem : ∀ (n : Nat) (p : Pos), p ∈ argW n → ∃ i, i < n ∧ p = posOf i
  | n + 1, p, h => by
    rcases List.mem_cons.1 (show p ∈ posOf n :: argW n from h) with h | h
    · exact ⟨n, by omega, h⟩
    · obtain ⟨i, h1, h2⟩ := argW_mem n p h; exact ⟨i, by omega, h2⟩
theorem arg_inv {args : List DV} {n : Nat} (hn : n < 65536) (hl : args.length = n) : Vnv rk (argM n) n (argW n) (rev args []) .leaf (argsT args .xH .leaf) where
  len := by rw [rev_eq]; simp [hl]
  high p l h := by
    obtain ⟨i, h1, _, h3⟩ := argM_get n (by omega) p _ h
    cases h3; exact h1
  val p a v h hv := by
    obtain ⟨i, h1, rfl, rfl⟩ := argM_get n (by omega) p _ h
    change lgetO (rev args []) (n - 1 - i) = some v at hv
    rw [lgetO_eq, rev_eq, List.append_nil, List.getElem?_reverse (by omega), hl, show n - 1 - (n - 1 - i) = i by omega] at hv
    rw [argsT_get, posOf_toN (by omega), if_pos ⟨Nat.zero_le _, by show i < 0 + args.length; omega⟩]
    show some (args.getD (i - 0) .undef) = some v
    rw [List.getD_eq_getElem?_getD, Nat.sub_zero, hv]; rfl
  wrote p hp := by
    obtain ⟨i, h1, rfl⟩ := argW_mem n p hp
    exact argM_has n i h1
  old p q v _ _ h := by rw [PT.get_leaf] at h; cases h

theorem resE_cons (r : DRes) (l : List DRes) : resE rk (r :: l) = (match resE rk l with
      | none => none
      | some l => match r with
        | .tmp p => match rk.get p with | some q => some (.tmp q :: l) | none => none
        | .cell p ag n => match rk.get p with | some q => some (.cell q ag n :: l) | none => none) := rfl
theorem resultsE_cons (r : DRes) (l : List DRes) (t : Tm) (h : Hp) : resultsE (r :: l) t h = (match resultsE l t h with
      | none => none
      | some vs => match r with
        | .tmp q => match t.get q with | some v => some (v :: vs) | none => none
        | .cell q agg size => match t.get q with
          | some (.ptr b o) => agg.rec (match h.read1 b o with | some v => some (v :: vs) | none => none) (match h.read b o size with | some l => some (.agg l :: vs) | none => none)
          | _ => none) := rfl
theorem results_cons (r : DRes) (l : List DRes) (t : Tm) (h : Hp) : results (r :: l) t h = (match results l t h with
      | none => none
      | some vs => match r with
        | .tmp p => some ((t.get p).getD .undef :: vs)
        | .cell a agg size => match t.get a with
          | some (.ptr b o) => agg.rec (match h.read1 b o with | some v => some (v :: vs) | none => none) (match h.read b o size with | some l => some (.agg l :: vs) | none => none)
          | _ => none) := rfl
theorem results_ref (hr : Rl rk t s) {h : Hp} : ∀ {l res : List DRes} {vs : List DV}, resE rk l = some res → resultsE res t h = some vs → results l s h = some vs
  | [], res, vs, he, hv => by cases he; exact hv
  | r :: l, res, vs, he, hv => by
    rw [resE_cons] at he
    cases hres : resE rk l with
    | none => rw [hres] at he; cases he
    | some res' =>
      rw [hres] at he
      rw [results_cons]
      cases r with
      | tmp p =>
        simp only at he
        cases hq : rk.get p with
        | none => rw [hq] at he; cases he
        | some q =>
          rw [hq] at he
          cases he
          rw [resultsE_cons] at hv
          cases hv1 : resultsE res' t h with
          | none => rw [hv1] at hv; cases hv
          | some vs' =>
            rw [hv1] at hv
            rw [results_ref hr hres hv1]
            simp only at hv ⊢
            cases ht : t.get q with
            | none => rw [ht] at hv; cases hv
            | some v =>
              rw [ht] at hv
              rw [hr p q v hq ht]
              exact hv
      | cell p ag n =>
        simp only at he
        cases hq : rk.get p with
        | none => rw [hq] at he; cases he
        | some q =>
          rw [hq] at he
          cases he
          rw [resultsE_cons] at hv
          cases hv1 : resultsE res' t h with
          | none => rw [hv1] at hv; cases hv
          | some vs' =>
            rw [hv1] at hv
            rw [results_ref hr hres hv1]
            simp only at hv ⊢
            cases ht : t.get q with
            | none => rw [ht] at hv; cases hv
            | some v =>
              rw [ht] at hv
              rw [hr p q v hq ht]
              exact hv
theorem leave_ref (hr : Rl rk t s) {f : DFunc} {res : List DRes} (he : resE rk f.results = some res) {h h' : Hp} {v : DV} (hl : leaveE res t h = .ok v h') : leave f s h = .ok v h' := by
  unfold leaveE at hl
  unfold leave
  split at hl
  · rename_i x hx
    rw [results_ref hr he hx]; exact hl
  · rename_i vs hne hx
    rw [results_ref hr he hx]
    cases hl
    match vs, hne with
    | [], _ => rfl
    | [x], hne => exact absurd rfl (hne x)
    | _ :: _ :: _, _ => rfl
  · cases hl

theorem compF_ok {n na : Nat} {f : DFunc} {res : List DRes} {body : Bx} {nargs : Nat} (hc : compF n nargs f = some (.code na res body)) (hu : Under cl call) {args : List DV} (hl : args.length = na) {h : Hp} {k : Nat} {v : DV} {h' : Hp}
    (he : ((body.run cl (rev args []) [] .leaf h).rec (leaveE res) (fun _ _ _ => .bad [k, 3333]) (leaveE res) (fun _ _ _ => .bad [k, 3334]) (fun w => .bad (k :: w)) : RV) = .ok v h') :
    ((run call n f.body (argsT args .xH .leaf) h).rec (leave f) (fun _ _ _ => .bad [k, 3333]) (leave f) (fun _ _ _ => .bad [k, 3334]) (fun w => .bad (k :: w)) : RV) = .ok v h' := by
  unfold compF at hc
  split at hc
  · rename_i hlt
    simp only at hc
    split at hc
    · rename_i res' hres
      cases hc
      have hinj := rankOf_inj (Nat.lor (resBits f.results) (ana f.body 0 (fun _ => 0)))
      have key := (comp_ref hinj hu n f.body).1.norm hinj (arg_inv hlt hl) [] h
      cases hb : ((compL (rankOf (Nat.lor (resBits f.results) (ana f.body 0 (fun _ => 0)))) n f.body).1 (argM na) na (argW na) (normK (rankOf (Nat.lor (resBits f.results) (ana f.body 0 (fun _ => 0)))))).run cl (rev args []) [] .leaf h with
      | norm t h0 =>
        rw [hb] at key he
        obtain ⟨s, e, hs⟩ := key
        rw [e]
        exact leave_ref hs hres he
      | ret t h0 =>
        rw [hb] at key he
        obtain ⟨s, e, hs⟩ := key
        rw [e]
        exact leave_ref hs hres he
      | exit i t h0 => rw [hb] at he; cases he
      | goto i t h0 => rw [hb] at he; cases he
      | bad w => rw [hb] at he; cases he
    · cases hc
  · cases hc

theorem enterE_ok (P : Program) (n : Nat) {cl call : Cal} (hu : Under cl call) : Under (enterE (fnE P n) cl) (enter (fnsOf P) n call) := fun f args h v h' he => by
    unfold enterE fnE at he
    unfold enter fnsOf
    cases hf : P.funcs[f]? with
    | none => rw [hf] at he; cases he
    | some fn =>
      rw [hf] at he
      try simp only at he ⊢
      cases ht : trFn P fn with
      | none => rw [ht] at he; cases he
      | some x =>
        rw [ht] at he
        try simp only at he ⊢
        cases x with
        | prim p => exact he
        | code df =>
          try simp only at he ⊢
          cases hc : compF n (fn.params.size + fn.nfree) df with
          | none => rw [hc] at he; cases he
          | some y =>
            rw [hc] at he
            cases y with
            | prim p =>
              unfold compF at hc
              split at hc
              · try simp only at hc
                split at hc <;> cases hc
              · cases hc
            | code na res body =>
              try simp only at he
              cases hb : Nat.beq (len args) na with
              | false => rw [hb] at he; cases he
              | true =>
                rw [hb] at he
                have hl := Nat.eq_of_beq_eq_true hb
                rw [len_eq] at hl
                exact compF_ok hc hu hl he
theorem callsE_ok (P : Program) (n : Nat) : ∀ k, Under (callsE (fnE P n) k) (calls (fnsOf P) n k)
  | 0 => fun f args h v h' he => by cases he
  | k + 1 => enterE_ok P n (callsE_ok P n k)
end
end Go.Dm
