/- An interpreter of the model's code, deterministic, and its soundness, part 12: A law's call: from the interpreter's run to the machine's call. Calls whose outcome is known ahead: a table. Calls with a table; a law's call by them. From what a row lists of the package's variables to what a run knows of them. No condition. -/
import Derived.Test.YtlgfdnaddchlhaaGreatDoorDm10
import Derived.Below
import Derived.Test.YtlgfdnaddchlhaaGreatDoorDm11
import Derived.Test.YtlgfdnaddchlhaaGreatDoorDm8
import Derived.Lib.LaidTab
namespace Go.Dm
open Go.RowKit

theorem okWide_one {P : Program} {w : World} {r : Reach} {base : Nat} {u : TypeId} {v : Value} (h : Cell.okWide P w r base u v) : v.oneCell' = true := by
  cases v <;> first | rfl | skip
  all_goals
    exfalso
    unfold Cell.okWide at h
    split at h <;> first | (simp_all; done) | skip
    unfold Cell.ok at h
    split at h <;> first | (simp_all; done) | skip

/-- an argument of a struct type: its cells, one of which is a slice -/
theorem arg_slice {P : Program} {w : World} {r : Reach} {base : Nat} {t u e : TypeId} {v : Value} {k n : Nat} (hval : Value.okWide P w r base t v)
    (hst : (match P.underlying t with | some (.struct _) => true | _ => false) = true)
    (hts : (P.cellTypes P.depth t).map (fun ts => (ts.length, ts[k]?)) = some (n, some u)) (hc : P.cellsOf t = n) (hu : P.underlying u = some (.slice e)) :
    ∃ vs : Array Value, v = .agg vs ∧ vs.size = n ∧ (∀ x ∈ vs.toList, x.oneCell' = true) ∧
      (vs.getD k Go.undef = .slice none 0 0 ∨ ∃ (a : Addr) (len cap : Nat), vs.getD k Go.undef = .slice (some a) len cap ∧ len ≤ cap ∧ a.spot = none) := by
  unfold Value.okWide at hval
  split at hval
  · obtain ⟨cs, rfl, hs, ts, h1, h2, h3⟩ := hval
    rw [h1] at hts
    simp only [Option.map_some, Option.some.injEq, Prod.mk.injEq] at hts
    obtain ⟨hl, hk⟩ := hts
    have hkl := (List.getElem?_eq_some_iff.1 hk).1
    refine ⟨cs, rfl, by rw [hs, hc], fun x hx => ?_, ?_⟩
    · obtain ⟨i, hi⟩ := List.getElem?_of_mem hx
      obtain ⟨_, _, ho⟩ := h3 i x (by rw [← Array.getElem?_toList]; exact hi)
      exact okWide_one ho
    · have hks : k < cs.size := by rw [hs, hc, ← hl]; exact hkl
      obtain ⟨u', e1, e2⟩ := h3 k cs[k] (by rw [Array.getElem?_eq_getElem hks])
      rw [Nat.mod_eq_of_lt hkl, hk] at e1
      cases e1
      rw [show cs.getD k Go.undef = cs[k] by rw [Array.getD_eq_getD_getElem?, Array.getElem?_eq_getElem hks]; rfl]
      unfold Cell.okWide at e2
      rw [hu] at e2
      split at e2 <;> first | (simp_all; done) | skip
      unfold Cell.ok at e2
      rw [hu] at e2
      split at e2 <;> first | (simp_all; done) | skip
      exact .inr ⟨_, _, _, by assumption, e2.1, e2.2.2.2.1⟩
  · simp_all
  · simp_all

def okB (r : RV) : Bool := match r with | .ok (.bool b) _ => b | _ => false
theorem okB_some {r : RV} (h : okB r = true) : ∃ h1, r = .ok (.bool true) h1 := by
  unfold okB at h
  split at h
  · rename_i b h1; subst h; exact ⟨h1, rfl⟩
  · cases h

/-! ### where a run begins: the globals that are known -/
noncomputable def gMem (l : List (Nat × List DV)) (τ : Nat → Nat) : PT Ob := l.rec .leaf (fun p _ ih => ih.put (posOf p.1) (some (.cells (τ p.1) 0 (len p.2) .ro (wrn p.2 0 .leaf))))
noncomputable def start (l : List (Nat × List DV)) (τ : Nat → Nat) : Hp := { next := posOf 65537, m := gMem l τ }
theorem start_next (l : List (Nat × List DV)) (τ : Nat → Nat) : (start l τ).next.toN = 65537 := posOf_toN (n := 65537) (by omega)
theorem gMem_get {τ : Nat → Nat} : ∀ {l : List (Nat × List DV)} {b : Pos} {o : Ob}, (gMem l τ).get b = some o → ∃ p ∈ l, b = posOf p.1 ∧ o = .cells (τ p.1) 0 (len p.2) .ro (wrn p.2 0 .leaf)
  | [], b, o, h => by rw [show gMem [] τ = .leaf from rfl, PT.get_leaf] at h; cases h
  | p :: l, b, o, h => by
    change ((gMem l τ).put (posOf p.1) (some (.cells (τ p.1) 0 (len p.2) .ro (wrn p.2 0 .leaf)))).get b = some o at h
    by_cases e : posOf p.1 = b
    · subst e; rw [PT.get_put_same] at h; cases h; exact ⟨p, List.mem_cons_self .., rfl, rfl⟩
    · rw [PT.get_put_ne _ _ _ _ e] at h
      obtain ⟨q, hq, e1, e2⟩ := gMem_get h
      exact ⟨q, List.mem_cons_of_mem _ hq, e1, e2⟩
/-- what a world says of them -/
def GOK (l : List (Nat × List DV)) (τ : Nat → Nat) (w : World) : Prop := ∀ p ∈ l, p.1 < 65536 ∧ p.2.length ≤ 8388608 ∧ ∃ (cs : Array Value) (fz : Nat × Nat), w.heap[p.1]? = some (.cells cs (τ p.1) fz) ∧ p.2.length ≤ cs.size ∧ (∀ v ∈ cs.toList, v.oneCell' = true) ∧
  ∀ d, d < p.2.length → ∀ μ, VR μ (p.2.getD d .undef) (cs.getD d Go.undef)
/-- where the globals lie, and the block that an argument's slice shows -/
def rowSize (w : World) (g : Nat) : Nat := match w.heap[g]? with | some (.cells cs _ _) => cs.size | _ => 0
noncomputable def mu0 (w : World) (x : RB) : Mu := fun b => if b.toN < 65536 then some ⟨b.toN, 0, 0, rowSize w b.toN⟩ else if b.toN = 65536 then some x else none
theorem mu0_GL (w : World) (x : RB) : GL (mu0 w x) := fun g hg => ⟨rowSize w g, by unfold mu0; rw [posOf_toN (by omega), if_pos hg]⟩
theorem start_gap (w : World) (x : RB) (l : List (Nat × List DV)) (τ : Nat → Nat) : ∀ b : Pos, (start l τ).next.toN ≤ b.toN → mu0 w x b = none := fun b hb => by
  rw [start_next] at hb
  unfold mu0
  rw [if_neg (by omega), if_neg (by omega)]
theorem start_ro (l : List (Nat × List DV)) (τ : Nat → Nat) : ∀ b o, (start l τ).m.get b = some o → o.own = false := fun b o h => by
  obtain ⟨p, _, _, rfl⟩ := gMem_get h; rfl
theorem start_sim {l : List (Nat × List DV)} {τ : Nat → Nat} {w : World} (hg : GOK l τ w) (x : RB) : Sim w.heap.size (mu0 w x) (start l τ) w where
  base := Nat.le_refl _
  top b hb := by
    rw [start_next] at hb
    cases h : (start l τ).m.get b with
    | none => rfl
    | some o =>
      obtain ⟨p, hp, rfl, _⟩ := gMem_get h
      have := (hg p hp).1
      rw [posOf_toN (by omega)] at hb
      omega
  block b m o hm h := by
    obtain ⟨p, hp, rfl, rfl⟩ := gMem_get h
    obtain ⟨h1, h2, cs, fz, h3, h4, h5, h6⟩ := hg p hp
    unfold mu0 at hm
    rw [posOf_toN (by omega), if_pos h1] at hm
    cases hm
    have hsz : rowSize w p.1 = cs.size := by unfold rowSize; rw [h3]
    rw [len_eq]
    refine ⟨rfl, Nat.zero_le _, h2, by show 0 + (p.2.length - 0) ≤ rowSize w p.1; omega, cs, fz, h3, hsz.symm, fun d _ hd => ?_, h5, (fun (h : Fz.ro.own = true) => nomatch h), trivial⟩
    rw [at_wrn _ 0 .leaf d (by omega), if_pos (by omega), Nat.sub_zero]
    show VR _ _ (cs.getD (0 + d) Go.undef)
    rw [Nat.zero_add]
    exact h6 d hd _
  apart b b' m m' o o' _ _ h _ ho _ := by
    rw [start_ro l τ b o h] at ho; cases ho

def argS (n k : Nat) (c : DV) : DV := .agg ((List.range n).map fun i => if i = k then c else .undef)
/-- the argument's slice, as the interpreter has it: of whatever length -/
def anyS (c : DV) : Prop := c = .nilslice ∨ ∃ n cap, c = .slice (posOf 65536) 0 n cap false 0
end Go.Dm

namespace Go.Dm
open Go.RowKit

noncomputable section
/-- a block that a known call leaves: where it stood, its type, its cells -/
structure MOb where
  src : Pos
  ty : Nat
  cs : List DV
/-- a call with these arguments comes to this -/
structure Memo where
  f : Nat
  args : List DV
  v : DV
  obs : List MOb

def mvP (l : List MOb) : Pos → Pos → Pos := l.rec (fun _ b => b) (fun o _ ih nx b => Bool.rec (ih nx.succ b) nx (o.src.beq b))
def mv0 (g : Pos → Pos) (v : DV) : DV := match v with
  | .ptr b o => .ptr (g b) o
  | .slice b o n c ex sz => .slice (g b) o n c ex sz
  | v => v
def mvA (g : Pos → Pos) (v : DV) : DV := match v with
  | .agg l => .agg (l.map (mv0 g))
  | v => mv0 g v
def mv1 (g : Pos → Pos) (v : DV) : DV := match v with
  | .tup l => .tup (l.map (mvA g))
  | v => mvA g v
def addObs (l : List MOb) (g : Pos → Pos) : Hp → Hp := l.rec (fun h => h) (fun o _ ih h => ih (h.new (.cells o.ty 0 (len o.cs) .free (wrn (o.cs.map (mv0 g)) 0 .leaf))))
/-- does it lead nowhere else? -/
def shut0 (l : List MOb) (v : DV) : Bool := match v with
  | .ptr b _ => or (l.any fun o => o.src.beq b) (Nat.blt b.toN 65536)
  | .slice b _ _ _ _ _ => or (l.any fun o => o.src.beq b) (Nat.blt b.toN 65536)
  | .undef | .bool _ | .int _ _ | .str _ _ | .nilptr | .nilslice | .nilmap | .nilfunc | .nilif => true
  | _ => false
def shutA (l : List MOb) (v : DV) : Bool := match v with
  | .agg vs => vs.all (shut0 l)
  | v => shut0 l v
def shut1 (l : List MOb) (v : DV) : Bool := match v with
  | .tup vs => vs.all (shutA l)
  | v => shutA l v
def sameT (x y : DV) : Bool := match x, y with
  | .tup l, .tup m => sameL sameV l m
  | x, y => sameV x y
theorem sameT_eq {x y : DV} (h : sameT x y = true) : x = y := by
  unfold sameT at h
  split at h
  · rw [sameL_eq (fun _ _ => sameV_eq) h]
  · exact sameV_eq h
def flat (v : DV) : Bool := match v with | .bool _ | .int _ _ | .str _ _ | .nilptr | .nilslice | .nilmap | .nilfunc | .nilif => true | _ => false
def isFree (f : Fz) : Bool := match f with | .free => true | _ => false
def sameOb (h : Hp) (o : MOb) : Bool := match h.m.get o.src with
  | some (.cells ty lo hi own t) => and (and (Nat.beq ty o.ty) (Nat.beq lo 0)) (and (and (Nat.beq hi (len o.cs)) (isFree own)) (sameL same1 (rdn hi 0 t) o.cs))
  | _ => false
def apartO (l : List MOb) : Bool := l.rec true (fun o l ih => and (l.all fun p => not (o.src.beq p.src)) ih)
def isRo (f : Fz) : Bool := match f with | .ro => true | _ => false
/-- do the globals that are known lie there? -/
def hasG1 (h : Hp) (p : Nat × List DV) : Bool := match h.m.get (posOf p.1) with
  | some (.cells _ lo hi own t) => and (and (Nat.beq lo 0) (Nat.beq hi (len p.2))) (and (isRo own) (and (sameL same00 (rdn (len p.2) 0 t) p.2) (and (p.2.all flat) (Nat.blt p.1 65536))))
  | _ => false
def hasG (l : List (Nat × List DV)) (h : Hp) : Bool := l.rec true (fun p _ ih => and (hasG1 h p) ih)
def memoOk (gm : List (Nat × List DV)) (τ : Nat → Nat) (cl : Cal) (e : Memo) : Bool := match cl e.f e.args (start gm τ) with
  | .ok v h1 => and (and (sameT v e.v) (and (shut1 e.obs e.v) (e.args.all flat))) (and (apartO e.obs) (e.obs.all fun o => and (sameOb h1 o) (and (o.cs.all (shut0 e.obs)) (and (Nat.ble 65537 o.src.toN) (Nat.blt o.src.toN 16777216)))))
  | .bad _ => false
def sameArgs (l : List DV) : List DV → Bool := sameL same00 l
def findM (l : List Memo) (f : Nat) (args : List DV) : Option Memo := l.rec none (fun e _ ih => Bool.rec ih (some e) (and (Nat.beq e.f f) (sameArgs e.args args)))
def memo (gm : List (Nat × List DV)) (l : List Memo) (cl : Cal) : Cal := fun f args h => (findM l f args).rec (cl f args h) (fun e => Bool.rec (.bad [7781]) (.ok (mv1 (mvP e.obs h.next) e.v) (addObs e.obs (mvP e.obs h.next) h)) (hasG gm h))
def callsM (gm : List (Nat × List DV)) (l : List Memo) (fns : Nat → Option EFn) (k : Nat) : Cal := k.rec (memo gm l fun f _ _ => .bad [f, 1111]) (fun _ ih => memo gm l fun f args h => enterE fns ih f args h)
end

/-! ### where things come to stand -/
theorem mvP_spec : ∀ (l : List MOb) (nx b : Pos), (mvP l nx b = b ∧ ∀ o ∈ l, o.src ≠ b) ∨ ∃ (i : Nat) (o : MOb), l[i]? = some o ∧ o.src = b ∧ (mvP l nx b).toN = nx.toN + i
  | [], nx, b => .inl ⟨rfl, fun o h => by simp at h⟩
  | o :: l, nx, b => by
    have e : mvP (o :: l) nx b = Bool.rec (mvP l nx.succ b) nx (o.src.beq b) := rfl
    cases hb : o.src.beq b with
    | true => exact .inr ⟨0, o, rfl, Pos.beq_eq hb, by rw [e, hb]; rfl⟩
    | false =>
      have hne : o.src ≠ b := fun h => by
        subst h
        have : ∀ p : Pos, p.beq p = true := fun p => by
          induction p with
          | xH => rfl
          | xO p ih => exact ih
          | xI p ih => exact ih
        rw [this] at hb; cases hb
      rw [e, hb]
      rcases mvP_spec l nx.succ b with ⟨h1, h2⟩ | ⟨i, o', h1, h2, h3⟩
      · exact .inl ⟨h1, fun o' ho' => by
          rcases List.mem_cons.1 ho' with h | h
          · rw [h]; exact hne
          · exact h2 o' h⟩
      · exact .inr ⟨i + 1, o', h1, h2, by show (mvP l nx.succ b).toN = _; rw [h3, Pos.toN_succ]; omega⟩

def low1 (v : DV) : Bool := match v with | .undef | .bool _ | .int _ _ | .str _ _ | .nilptr | .nilslice | .nilmap | .nilfunc | .nilif | .ptr _ _ | .slice _ _ _ _ _ _ => true | _ => false
section
variable {ν ν' : Mu} {g : Pos → Pos} {ok : Pos → Prop}
theorem VR.mv0 (hg : ∀ b m, ok b → ν b = some m → ν' (g b) = some m) : ∀ {v : DV} {u : Value}, VR ν v u → (∀ b o, v = .ptr b o → ok b) → (∀ b o n c ex sz, v = .slice b o n c ex sz → ok b) →
    low1 v = true → VR ν' (mv0 g v) u := by
  intro v u h h1 h2 h3
  cases h with
  | undef => exact .undef _
  | bool b => exact .bool b
  | int k n => exact .int k n
  | str s hn hx => exact .str s hn hx
  | ptr a => obtain ⟨m, e, r⟩ := a; exact .ptr ⟨m, hg _ _ (h1 _ _ rfl) e, r⟩
  | nilptr => exact .nilptr
  | slice a hn hc he => exact .slice (a.imp id fun ⟨m, e, r⟩ => ⟨m, hg _ _ (h2 _ _ _ _ _ _ rfl) e, r⟩) hn hc he
  | nilslice => exact .nilslice
  | map => cases h3
  | nilmap => exact .nilmap
  | func => cases h3
  | nilfunc => exact .nilfunc
  | iface => cases h3
  | nilif => exact .nilif
  | agg => cases h3
  | tup => cases h3
  | res => cases h3
  | sres => cases h3
def okP (l : List MOb) (b : Pos) : Prop := (∃ o ∈ l, o.src = b) ∨ b.toN < 65536
theorem shut0_ok {l : List MOb} {v : DV} (h : shut0 l v = true) : (∀ b o, v = .ptr b o → okP l b) ∧ (∀ b o n c ex sz, v = .slice b o n c ex sz → okP l b) ∧ low1 v = true := by
  have key : ∀ b : Pos, or (l.any fun o => o.src.beq b) (Nat.blt b.toN 65536) = true → okP l b := fun b hb => by
    rcases Bool.or_eq_true _ _ ▸ hb with h | h
    · obtain ⟨o, ho, e⟩ := List.any_eq_true.1 h
      exact .inl ⟨o, ho, Pos.beq_eq e⟩
    · exact .inr (blt h)
  cases v <;> first | (cases h; done) | skip
  all_goals refine ⟨fun b o e => ?_, fun b o n c ex sz e => ?_, rfl⟩ <;> cases e
  · exact key _ h
  · exact key _ h
theorem VR.shut0 {l : List MOb} (hg : ∀ b m, okP l b → ν b = some m → ν' (g b) = some m) {v : DV} {u : Value} (h : VR ν v u) (hs : Dm.shut0 l v = true) : VR ν' (Dm.mv0 g v) u :=
  VR.mv0 hg h (shut0_ok hs).1 (shut0_ok hs).2.1 (shut0_ok hs).2.2
theorem LR.shut0 {l : List MOb} (hg : ∀ b m, okP l b → ν b = some m → ν' (g b) = some m) : ∀ {vs : List DV} {us : List Value}, LR ν vs us → vs.all (Dm.shut0 l) = true → LR ν' (vs.map (Dm.mv0 g)) us
  | _, _, .nil, _ => .nil
  | _, _, .cons h t, hs => by
    rw [List.all_cons, Bool.and_eq_true] at hs
    exact .cons (h.shut0 hg hs.1) (LR.shut0 hg t hs.2)
theorem VR.shutA {l : List MOb} (hg : ∀ b m, okP l b → ν b = some m → ν' (g b) = some m) {v : DV} {u : Value} (h : VR ν v u) (hs : Dm.shutA l v = true) : VR ν' (Dm.mvA g v) u := by
  have key : ∀ {v : DV}, VR ν v u → Dm.shut0 l v = true → Dm.mvA g v = Dm.mv0 g v → VR ν' (Dm.mvA g v) u := fun h hs e => by rw [e]; exact h.shut0 hg hs
  cases v with
  | agg vs => obtain ⟨us, rfl, hl, h1⟩ := h.inv_agg; exact .agg (hl.shut0 hg hs) h1
  | _ => exact key h hs rfl
theorem LR.shutA {l : List MOb} (hg : ∀ b m, okP l b → ν b = some m → ν' (g b) = some m) : ∀ {vs : List DV} {us : List Value}, LR ν vs us → vs.all (Dm.shutA l) = true → LR ν' (vs.map (Dm.mvA g)) us
  | _, _, .nil, _ => .nil
  | _, _, .cons h t, hs => by
    rw [List.all_cons, Bool.and_eq_true] at hs
    exact .cons (h.shutA hg hs.1) (LR.shutA hg t hs.2)
theorem VR.shut1 {l : List MOb} (hg : ∀ b m, okP l b → ν b = some m → ν' (g b) = some m) {v : DV} {u : Value} (h : VR ν v u) (hs : Dm.shut1 l v = true) : VR ν' (Dm.mv1 g v) u := by
  have key : ∀ {v : DV}, VR ν v u → Dm.shutA l v = true → Dm.mv1 g v = Dm.mvA g v → VR ν' (Dm.mv1 g v) u := fun h hs e => by rw [e]; exact h.shutA hg hs
  cases v with
  | tup vs => obtain ⟨us, rfl, hl⟩ := h.inv_tup; exact .tup (hl.shutA hg hs)
  | _ => exact key h hs rfl
theorem VR.flat {μ μ' : Mu} {v : DV} {u : Value} (h : VR μ v u) (hf : Dm.flat v = true) : VR μ' v u := by
  cases h <;> first | (cases hf; done) | skip
  · exact .bool _
  · exact .int _ _
  · exact .str _ (by assumption) (by assumption)
  · exact .nilptr
  · exact .nilslice
  · exact .nilmap
  · exact .nilfunc
  · exact .nilif
theorem LR.flat {μ μ' : Mu} : ∀ {l : List DV} {us : List Value}, LR μ l us → l.all Dm.flat = true → LR μ' l us
  | _, _, .nil, _ => .nil
  | _, _, .cons h t, hs => by
    rw [List.all_cons, Bool.and_eq_true] at hs
    exact .cons (h.flat hs.1) (LR.flat t hs.2)
end

theorem addObs_next (g : Pos → Pos) : ∀ (l : List MOb) (h : Hp), (addObs l g h).next.toN = h.next.toN + l.length
  | [], h => rfl
  | o :: l, h => by show (addObs l g (h.new _)).next.toN = _; rw [addObs_next g l, Hp.next_new]; simp; omega
theorem addObs_get (g : Pos → Pos) : ∀ (l : List MOb) (h : Hp) (b : Pos), (b.toN < h.next.toN → (addObs l g h).m.get b = h.m.get b) ∧
    (∀ i o, l[i]? = some o → b.toN = h.next.toN + i → (addObs l g h).m.get b = some (.cells o.ty 0 (len o.cs) .free (wrn (o.cs.map (mv0 g)) 0 .leaf))) ∧
    (h.next.toN + l.length ≤ b.toN → (addObs l g h).m.get b = h.m.get b)
  | [], h, b => ⟨fun _ => rfl, fun i o hi => by simp at hi, fun _ => rfl⟩
  | o :: l, h, b => by
    obtain ⟨a1, a2, a3⟩ := addObs_get g l (h.new (.cells o.ty 0 (len o.cs) .free (wrn (o.cs.map (mv0 g)) 0 .leaf))) b
    rw [Hp.next_new] at a1 a2 a3
    refine ⟨fun hb => ?_, fun i p hi hb => ?_, fun hb => ?_⟩
    · show (addObs l g _).m.get b = _
      rw [a1 (by omega), Hp.get_new, if_neg (fun e => by rw [e] at hb; omega)]
    · show (addObs l g _).m.get b = _
      cases i with
      | zero =>
        cases hi
        rw [a1 (by omega), Hp.get_new, if_pos (Pos.toN_inj (by omega))]
      | succ i => exact a2 i p hi (by omega)
    · show (addObs l g _).m.get b = _
      simp only [List.length_cons] at hb
      rw [a3 (by omega), Hp.get_new, if_neg (fun e => by rw [e] at hb; omega)]

theorem Pos.beq_self (q : Pos) : q.beq q = true := by
  induction q with
  | xH => rfl
  | xO q ih => exact ih
  | xI q ih => exact ih
theorem apartO_inj : ∀ {l : List MOb}, apartO l = true → ∀ {i i' : Nat} {p p' : MOb}, l[i]? = some p → l[i']? = some p' → p.src = p'.src → i = i'
  | [], _, i, i', p, p', h, _, _ => by simp at h
  | o :: l, ha, i, i', p, p', h1, h2, h3 => by
    have ha' : and (l.all fun p => not (o.src.beq p.src)) (apartO l) = true := ha
    obtain ⟨ha1, ha2⟩ := and_t ha'
    have no : ∀ (j : Nat) (p : MOb), l[j]? = some p → o.src = p.src → False := fun j p hj e => by
      have := List.all_eq_true.1 ha1 p (List.mem_of_getElem? hj)
      rw [← e, Pos.beq_self] at this; cases this
    cases i with
    | zero =>
      cases i' with
      | zero => rfl
      | succ i' => cases h1; exact (no i' p' h2 h3).elim
    | succ i =>
      cases i' with
      | zero => cases h2; exact (no i p h1 h3.symm).elim
      | succ i' => rw [apartO_inj ha2 (i := i) (i' := i') h1 h2 h3]
noncomputable def tyAt (h : Hp) (g : Nat) : Nat := match h.m.get (posOf g) with | some (.cells ty _ _ _ _) => ty | _ => 0
theorem hasG_ok {l : List (Nat × List DV)} {h : Hp} (hg : hasG l h = true) : ∀ p ∈ l, hasG1 h p = true := by
  induction l with
  | nil => intro p hp; simp at hp
  | cons q l ih =>
    obtain ⟨h1, h2⟩ := and_t (show and (hasG1 h q) (hasG l h) = true from hg)
    intro p hp
    rcases List.mem_cons.1 hp with rfl | hp
    · exact h1
    · exact ih h2 p hp
theorem start_sub {B : Nat} {gm : List (Nat × List DV)} {μ : Mu} {h : Hp} {w : World} (s : Sim B μ h w) (hg : hasG gm h = true) : Sim B (fun b => if b.toN < 65536 then μ b else none) (start gm (tyAt h)) w where
  base := s.base
  top b hb := by
    rw [start_next] at hb
    cases h1 : (start gm (tyAt h)).m.get b with
    | none => rfl
    | some o =>
      obtain ⟨p, hp, rfl, _⟩ := gMem_get h1
      have := hasG_ok hg p hp
      unfold hasG1 at this
      split at this
      · obtain ⟨_, z2⟩ := and_t this
        obtain ⟨_, z3⟩ := and_t z2
        obtain ⟨_, z4⟩ := and_t z3
        have := blt (and_t z4).2
        rw [posOf_toN (by omega)] at hb
        omega
      · cases this
  block b m o hm h1 := by
    obtain ⟨p, hp, rfl, rfl⟩ := gMem_get h1
    have := hasG_ok hg p hp
    unfold hasG1 at this
    split at this
    · rename_i ty lo hi own t hget
      obtain ⟨z1, z2⟩ := and_t this
      obtain ⟨z3, z4⟩ := and_t z2
      obtain ⟨z5, z6⟩ := and_t z4
      obtain ⟨z7, z8⟩ := and_t z6
      obtain ⟨z9, z10⟩ := and_t z1
      have := Nat.eq_of_beq_eq_true z9; subst this
      have := Nat.eq_of_beq_eq_true z10; subst this
      have hty : tyAt h p.1 = ty := by unfold tyAt; rw [hget]
      have hcs : rdn (len p.2) 0 t = p.2 := sameL_eq (fun _ _ => same00_eq) z5
      have hlt := blt z8
      simp only [posOf_toN (show p.1 < 16777216 by omega), if_pos hlt] at hm
      obtain ⟨b1, b2, b3, b4, cs, fz, b5, b6, b7, b8, b9, b10⟩ := s.block _ m _ hm hget
      rw [hty]
      refine ⟨b1, b2, b3, b4, cs, fz, b5, b6, fun d hd1 hd2 => ?_, b8, (fun (h : Fz.ro.own = true) => nomatch h), trivial⟩
      have hv := b7 d hd1 hd2
      rw [len_eq] at hd2 b3
      have e2 : at_ t d = p.2.getD d .undef := by
        have := rdn_get (len p.2) 0 t d (by rw [len_eq]; exact hd2)
        rw [hcs, Nat.zero_add] at this
        exact this.symm
      rw [at_wrn _ 0 .leaf d (by omega), if_pos (by omega), Nat.sub_zero, ← e2]
      refine hv.flat ?_
      rw [e2, List.getD_eq_getElem?_getD, List.getElem?_eq_getElem hd2]
      exact List.all_eq_true.1 z7 _ (List.getElem_mem hd2)
    · cases this
  apart b b' m m' o o' _ _ h1 _ ho _ := by
    rw [start_ro gm (tyAt h) b o h1] at ho; cases ho

theorem memo_sound {P : Program} {B : Nat} {base : Cal} (hbase : CallOK P B base) {gm : List (Nat × List DV)} {e : Memo} (he : ∀ τ, memoOk gm τ base e = true) (h : Hp) (hgm : hasG gm h = true) :
    h.next.toN ≤ (addObs e.obs (mvP e.obs h.next) h).next.toN ∧ ∀ μ w (vargs : Array Value), Sim B μ h w → GL μ → Gap μ h (addObs e.obs (mvP e.obs h.next) h) → LR μ e.args vargs.toList →
      Out P B μ h w (callFunc e.f vargs) (mv1 (mvP e.obs h.next) e.v) (addObs e.obs (mvP e.obs h.next) h) := by
  have hnx := addObs_next (mvP e.obs h.next) e.obs h
  refine ⟨by omega, fun μ w vargs s hG gap hl => ?_⟩
  replace he := he (tyAt h)
  unfold memoOk at he
  split at he
  · rename_i v1 h1 hrun
    obtain ⟨q1, q2⟩ := and_t he
    obtain ⟨q3, q4⟩ := and_t q1
    obtain ⟨q5, q6⟩ := and_t q4
    obtain ⟨q7, q8⟩ := and_t q2
    obtain rfl : v1 = e.v := sameT_eq q3
    -- the start, with the globals alone
    let μ0 : Mu := fun b => if b.toN < 65536 then μ b else none
    have hμ0 : ∀ b : Pos, 65536 ≤ b.toN → μ0 b = none := fun b hb => if_neg (by omega)
    have hs0 : Sim B μ0 (start gm (tyAt h)) w := start_sub s hgm
    have hG0 : GL μ0 := fun g hg => by
      obtain ⟨K, hK⟩ := hG g hg
      exact ⟨K, by show (if (posOf g).toN < 65536 then μ (posOf g) else none) = _; rw [posOf_toN (by omega), if_pos hg]; exact hK⟩
    obtain ⟨_, ho⟩ := hbase _ _ _ _ _ hrun
    have := ho μ0 w vargs hs0 hG0 (fun b hb _ => hμ0 b (by rw [start_next] at hb; omega)) (hl.flat q6)
    refine Goes.mono this fun u w' ⟨ν, st, sν, hv⟩ => ?_
    have hown : ∀ r, ¬ Owned μ0 (start gm (tyAt h)) r := fun r ⟨b, m, o, _, hg, ho, _⟩ => by rw [start_ro gm (tyAt h) b o hg] at ho; cases ho
    have hfr : ∀ r, r < w.heap.size → w'.heap[r]? = w.heap[r]? := fun r hr => st.frame r hr (hown r)
    have hnew : ∀ (b : Pos) m, 65536 ≤ b.toN → ν b = some m → w.heap.size ≤ m.r := fun b m hb hm => (st.fresh b m (hμ0 b hb) hm).resolve_right (hown _)
    have hold : ∀ b : Pos, b.toN < 65536 → ν b = μ b := fun b hb => by
      rw [st.out b (.inl (by rw [start_next]; omega))]
      exact if_pos hb
    -- where all stands behind
    let ν' : Mu := fun b => if b.toN < h.next.toN then μ b else match e.obs[b.toN - h.next.toN]? with | some o => ν o.src | none => μ b
    have hν1 : ∀ b : Pos, b.toN < h.next.toN → ν' b = μ b := fun b hb => if_pos hb
    have hν2 : ∀ (b : Pos) i o, e.obs[i]? = some o → b.toN = h.next.toN + i → ν' b = ν o.src := fun b i o hi hb => by
      show (if b.toN < h.next.toN then μ b else match e.obs[b.toN - h.next.toN]? with | some o => ν o.src | none => μ b) = _
      rw [if_neg (by omega), show b.toN - h.next.toN = i by omega, hi]
    have hν3 : ∀ b : Pos, h.next.toN + e.obs.length ≤ b.toN → ν' b = μ b := fun b hb => by
      show (if b.toN < h.next.toN then μ b else match e.obs[b.toN - h.next.toN]? with | some o => ν o.src | none => μ b) = _
      rw [if_neg (by omega), List.getElem?_eq_none (by omega)]
    have split : ∀ b : Pos, b.toN < h.next.toN ∨ (∃ (i : Nat) (o : MOb), e.obs[i]? = some o ∧ b.toN = h.next.toN + i) ∨ h.next.toN + e.obs.length ≤ b.toN := fun b => by
      rcases Nat.lt_or_ge b.toN h.next.toN with h1 | h1
      · exact .inl h1
      · rcases Nat.lt_or_ge b.toN (h.next.toN + e.obs.length) with h2 | h2
        · exact .inr (.inl ⟨b.toN - h.next.toN, e.obs[b.toN - h.next.toN], List.getElem?_eq_getElem (by omega), by omega⟩)
        · exact .inr (.inr h2)
    have hob : ∀ o ∈ e.obs, sameOb h1 o = true ∧ o.cs.all (shut0 e.obs) = true ∧ 65537 ≤ o.src.toN := fun o ho => by
      have := List.all_eq_true.1 q8 o ho
      obtain ⟨z1, z2⟩ := and_t this
      obtain ⟨z3, z4⟩ := and_t z2
      exact ⟨z1, z3, ble (and_t z4).1⟩
    have hg : ∀ b m, okP e.obs b → ν b = some m → ν' (mvP e.obs h.next b) = some m := fun b m hok hm => by
      rcases mvP_spec e.obs h.next b with ⟨e1, e2⟩ | ⟨i, o, i1, i2, i3⟩
      · rcases hok with ⟨o, ho, e3⟩ | hlt
        · exact absurd e3 (e2 o ho)
        · rw [e1]
          have hm' : μ b = some m := by rw [← hold b hlt]; exact hm
          rcases split b with hb | ⟨i, o, i1, i2⟩ | hb
          · rw [hν1 b hb]; exact hm'
          · have := gap b (by omega) (by rw [hnx]; have := (List.getElem?_eq_some_iff.1 i1).1; omega)
            rw [this] at hm'; cases hm'
          · rw [hν3 b hb]; exact hm'
      · rw [hν2 _ i o i1 i3, i2]; exact hm
    have hget := addObs_get (mvP e.obs h.next) e.obs h
    have hold' : ∀ b m o, μ b = some m → h.m.get b = some o → m.r < w.heap.size := fun b m o hm ho => (s.block b m o hm ho).lt
    have hlow : ∀ (b : Pos) o, h.m.get b = some o → b.toN < h.next.toN := fun b o ho => by
      rcases Nat.lt_or_ge b.toN h.next.toN with hb | hb
      · exact hb
      · rw [s.top b hb] at ho; cases ho
    have kind : ∀ b o', (addObs e.obs (mvP e.obs h.next) h).m.get b = some o' → (b.toN < h.next.toN ∧ h.m.get b = some o') ∨
        ∃ (i : Nat) (o : MOb), e.obs[i]? = some o ∧ b.toN = h.next.toN + i ∧ o' = .cells o.ty 0 (len o.cs) .free (wrn (o.cs.map (mv0 (mvP e.obs h.next))) 0 .leaf) := fun b o' hb => by
      rcases split b with hlt | ⟨i, o, i1, i2⟩ | hge
      · exact .inl ⟨hlt, by rw [← (hget b).1 hlt]; exact hb⟩
      · rw [(hget b).2.1 i o i1 i2] at hb
        cases hb
        exact .inr ⟨i, o, i1, i2, rfl⟩
      · rw [(hget b).2.2 hge] at hb
        exact absurd (hlow b o' hb) (by omega)
    have obr : ∀ (i : Nat) (o : MOb), e.obs[i]? = some o → ∃ own t, h1.m.get o.src = some (.cells o.ty 0 (len o.cs) own t) ∧ own = .free ∧ rdn (len o.cs) 0 t = o.cs := fun i o hi => by
      have hsm := (hob o (List.mem_of_getElem? hi)).1
      unfold sameOb at hsm
      split at hsm
      · rename_i ty lo hi' own t hgt
        obtain ⟨z1, z2⟩ := and_t hsm
        obtain ⟨z3, z4⟩ := and_t z1
        obtain ⟨z5, z6⟩ := and_t z2
        obtain ⟨z7, z8⟩ := and_t z5
        have := Nat.eq_of_beq_eq_true z3; subst this
        have := Nat.eq_of_beq_eq_true z4; subst this
        have := Nat.eq_of_beq_eq_true z7; subst this
        refine ⟨own, t, hgt, ?_, ?_⟩
        · cases own <;> first | rfl | cases z8
        · exact sameL_eq (fun _ _ => same1_eq) z6
      · cases hsm
    refine ⟨ν', ⟨fun b m hm => ?_, by omega, fun b hb => ?_, fun b hb hn => ?_, fun b o' hb hgt => ?_, st.os, st.tape, st.output, st.size, fun r hr _ => hfr r hr, fun b m h0 hm => ?_, gap⟩, ⟨Nat.le_trans s.base st.size, fun b hb => ?_, fun b m o' hm hgt => ?_, fun b b' m m' o o' hm hm' hgt hgt' hown' hr => ?_⟩, hv.shut1 hg q5⟩
    · rcases split b with hb | ⟨i, o, i1, i2⟩ | hb
      · rw [hν1 b hb]; exact hm
      · rw [gap b (by omega) (by rw [hnx]; have := (List.getElem?_eq_some_iff.1 i1).1; omega)] at hm; cases hm
      · rw [hν3 b hb]; exact hm
    · rcases hb with hb | hb
      · exact hν1 b hb
      · exact hν3 b (by omega)
    · exact (hget b).1 hb
    · rw [(hget b).1 hb] at hgt
      exact ⟨o', hgt, id⟩
    · rcases split b with hb | ⟨i, o, i1, i2⟩ | hb
      · rw [hν1 b hb, h0] at hm; cases hm
      · rw [hν2 b i o i1 i2] at hm
        exact .inl (hnew _ m (by have := (hob o (List.mem_of_getElem? i1)).2.2; omega) hm)
      · rw [hν3 b hb, h0] at hm; cases hm
    · rw [(hget b).2.2 (by omega)]
      exact s.top b (by omega)
    · rcases kind b o' hgt with ⟨hb, hgt'⟩ | ⟨i, o, i1, i2, rfl⟩
      · rw [hν1 b hb] at hm
        have hbr := s.block b m o' hm hgt'
        refine hbr.mono (fun c n hc => ?_) (hfr _ hbr.lt)
        rcases split c with hb | ⟨i, o, i1, i2⟩ | hb
        · rw [hν1 c hb]; exact hc
        · rw [gap c (by omega) (by rw [hnx]; have := (List.getElem?_eq_some_iff.1 i1).1; omega)] at hc; cases hc
        · rw [hν3 c hb]; exact hc
      · rw [hν2 b i o i1 i2] at hm
        obtain ⟨own, t, g1, rfl, g3⟩ := obr i o i1
        obtain ⟨b1, b2, b3, b4, cs, fz, b5, b6, b7, b8, b9, b10⟩ := sν.block _ m _ hm g1
        refine ⟨b1, b2, b3, b4, cs, fz, b5, b6, fun d hd1 hd2 => ?_, b8, b9, b10⟩
        have := b7 d hd1 hd2
        rw [len_eq] at hd2 b3
        rw [at_wrn _ 0 .leaf d (by simpa using b3), if_pos ⟨Nat.zero_le _, by simpa using hd2⟩, Nat.sub_zero]
        have e1 : (o.cs.map (mv0 (mvP e.obs h.next))).getD d .undef = mv0 (mvP e.obs h.next) (at_ t d) := by
          have e2 : at_ t d = o.cs.getD d .undef := by
            have := rdn_get (len o.cs) 0 t d (by rw [len_eq]; exact hd2)
            rw [g3, Nat.zero_add] at this
            exact this.symm
          rw [e2, List.getD_eq_getElem?_getD, List.getD_eq_getElem?_getD, List.getElem?_map, List.getElem?_eq_getElem hd2]; rfl
        rw [e1]
        refine this.shut0 hg ?_
        have e2 : at_ t d = o.cs.getD d .undef := by
          have := rdn_get (len o.cs) 0 t d (by rw [len_eq]; exact hd2)
          rw [g3, Nat.zero_add] at this
          exact this.symm
        rw [e2, List.getD_eq_getElem?_getD, List.getElem?_eq_getElem hd2]
        exact List.all_eq_true.1 (hob o (List.mem_of_getElem? i1)).2.1 _ (List.getElem_mem hd2)
    · rcases kind b o hgt with ⟨hb, hgt1⟩ | ⟨i, p, i1, i2, rfl⟩
      · rw [hν1 b hb] at hm
        rcases kind b' o' hgt' with ⟨hb', hgt1'⟩ | ⟨i', p', i1', i2', rfl⟩
        · rw [hν1 b' hb'] at hm'
          exact s.apart b b' m m' o o' hm hm' hgt1 hgt1' hown' hr
        · rw [hν2 b' i' p' i1' i2'] at hm'
          have := hold' b m o hm hgt1
          have := hnew _ m' (by have := (hob p' (List.mem_of_getElem? i1')).2.2; omega) hm'
          omega
      · rw [hν2 b i p i1 i2] at hm
        rcases kind b' o' hgt' with ⟨hb', hgt1'⟩ | ⟨i', p', i1', i2', rfl⟩
        · rw [hν1 b' hb'] at hm'
          have := hold' b' m' o' hm' hgt1'
          have := hnew _ m (by have := (hob p (List.mem_of_getElem? i1)).2.2; omega) hm
          omega
        · rw [hν2 b' i' p' i1' i2'] at hm'
          obtain ⟨own, t, g1, rfl, _⟩ := obr i p i1
          obtain ⟨own', t', g1', rfl, _⟩ := obr i' p' i1'
          have hsrc := sν.apart _ _ m m' _ _ hm hm' g1 g1' rfl hr
          have : i = i' := by
            exact apartO_inj q7 i1 i1' hsrc
          exact Pos.toN_inj (by omega)
  · cases he
end Go.Dm

namespace Go.Dm
open Go.RowKit

section
variable {P : Program}
/-- every call of the table comes to what it says -/
def Known (P : Program) (gm : List (Nat × List DV)) (l : List Memo) : Prop := ∀ e ∈ l, ∀ B, ∃ base, CallOK P B base ∧ ∀ τ, memoOk gm τ base e = true
theorem known_nil {gm : List (Nat × List DV)} : Known P gm [] := fun e h => by simp at h
theorem findM_some : ∀ {l : List Memo} {f : Nat} {args : List DV} {e : Memo}, findM l f args = some e → e ∈ l ∧ e.f = f ∧ e.args = args
  | [], f, args, e, h => by cases h
  | x :: l, f, args, e, h => by
    change (Bool.rec (findM l f args) (some x) (and (Nat.beq x.f f) (sameArgs x.args args)) : Option Memo) = some e at h
    cases hb : and (Nat.beq x.f f) (sameArgs x.args args) with
    | false =>
      rw [hb] at h
      obtain ⟨h1, h2⟩ := findM_some h
      exact ⟨List.mem_cons_of_mem _ h1, h2⟩
    | true =>
      rw [hb] at h
      cases h
      obtain ⟨h1, h2⟩ := and_t hb
      exact ⟨List.mem_cons_self .., Nat.eq_of_beq_eq_true h1, sameL_eq (fun _ _ => same00_eq) h2⟩
theorem memo_ok {B : Nat} {gm : List (Nat × List DV)} {l : List Memo} (hl : Known P gm l) {cl : Cal} (hc : CallOK P B cl) : CallOK P B (memo gm l cl) := by
  intro f args h v h' hr
  change ((findM l f args).rec (cl f args h) (fun e => Bool.rec (.bad [7781]) (.ok (mv1 (mvP e.obs h.next) e.v) (addObs e.obs (mvP e.obs h.next) h)) (hasG gm h)) : RV) = .ok v h' at hr
  cases hf : findM l f args with
  | none => rw [hf] at hr; exact hc f args h v h' hr
  | some e =>
    rw [hf] at hr
    obtain ⟨h1, rfl, rfl⟩ := findM_some hf
    change (Bool.rec (.bad [7781]) (.ok (mv1 (mvP e.obs h.next) e.v) (addObs e.obs (mvP e.obs h.next) h)) (hasG gm h) : RV) = .ok v h' at hr
    cases hg : hasG gm h with
    | false => rw [hg] at hr; cases hr
    | true =>
      rw [hg] at hr
      cases hr
      obtain ⟨base, hb, he⟩ := hl e h1 B
      exact memo_sound hb he h hg
theorem enterE_call (hm : P.follows .mixedOrders = true) (hng : ∀ fn ∈ P.funcs.toList, fn.name ≠ "runtime.NumGoroutine") {B : Nat} (n : Nat) {cl : Cal} (hc : CallOK P B cl) : CallOK P B (enterE (fnE P n) cl) := fun f args h v h' hr =>
  enter_sound hc n (fun _N id ops => drawn_sound hm hc n id ops) prim_ok hng f args h v h' (enterE_ok P n (fun _ _ _ _ _ x => x) f args h v h' hr)
theorem callsM_ok (hm : P.follows .mixedOrders = true) (hng : ∀ fn ∈ P.funcs.toList, fn.name ≠ "runtime.NumGoroutine") {B : Nat} {gm : List (Nat × List DV)} {l : List Memo} (hl : Known P gm l) (n : Nat) : ∀ k, CallOK P B (callsM gm l (fnE P n) k)
  | 0 => memo_ok hl fun f args h v h' hr => by cases hr
  | k + 1 => memo_ok hl (enterE_call hm hng n (callsM_ok hm hng hl n k))
theorem Known.cons (hm : P.follows .mixedOrders = true) (hng : (P.funcs.toList.all fun fn => fn.name != "runtime.NumGoroutine") = true) {gm : List (Nat × List DV)} {l : List Memo} (hl : Known P gm l) {e : Memo} {n k : Nat} (he : ∀ τ, memoOk gm τ (callsM gm l (fnE P n) k) e = true) : Known P gm (e :: l) := fun x hx B => by
  rcases List.mem_cons.1 hx with rfl | hx
  · exact ⟨_, callsM_ok hm (fun fn h => by have := List.all_eq_true.1 hng fn h; simpa using this) hl n k, he⟩
  · exact hl x hx B
theorem Known.all (hm : P.follows .mixedOrders = true) (hng : (P.funcs.toList.all fun fn => fn.name != "runtime.NumGoroutine") = true) {gm : List (Nat × List DV)} {l m : List Memo} (hl : Known P gm l) {n k : Nat} (he : ∀ τ, (m.all fun e => memoOk gm τ (callsM gm l (fnE P n) k) e) = true) : Known P gm (m ++ l) := fun x hx B => by
  rcases List.mem_append.1 hx with hx | hx
  · exact ⟨_, callsM_ok hm (fun fn h => by have := List.all_eq_true.1 hng fn h; simpa using this) hl n k, fun τ => List.all_eq_true.1 (he τ) x hx⟩
  · exact hl x hx B
theorem Known.sub {gm : List (Nat × List DV)} {l m : List Memo} (hl : Known P gm l) (h : ∀ e ∈ m, e ∈ l) : Known P gm m := fun e he => hl e (h e he)
theorem Known.app {gm : List (Nat × List DV)} {l m : List Memo} (hl : Known P gm l) (hm : Known P gm m) : Known P gm (l ++ m) := fun e he => by
  rcases List.mem_append.1 he with h | h
  · exact hl e h
  · exact hm e h

/-- from a run of a law that is true to the machine's call of it -/
theorem law_any (hng : ∀ fn ∈ P.funcs.toList, fn.name ≠ "runtime.NumGoroutine") {f : Nat} {fn : Func} {c : Code} (hf : P.funcs[f]? = some fn) (hb : fn.body = some c) {cl : Cal}
    {args : List DV} {h0 h1 : Hp} (hrun : cl f args h0 = .ok (.bool true) h1) {w : World} (hcl : CallOK P w.heap.size cl) {vs : Array Value} {μ : Mu} (hsim : Sim w.heap.size μ h0 w) (hG : GL μ)
    (gap : ∀ b : Pos, h0.next.toN ≤ b.toN → μ b = none) (hro : ∀ b o, h0.m.get b = some o → o.own = false) (hv : LR μ args vs.toList) :
    Calls P f vs w fun e w' => e = .returned (.bool true) ∧ Below w.heap.size w w' := by
  obtain ⟨_, hs⟩ := hcl f args h0 _ h1 hrun
  have := hs μ w vs hsim hG (fun b h1 _ => gap b h1) hv
  unfold Out Goes at this
  rw [run_callFunc hf hb (hng fn (Array.mem_of_getElem? hf |> Array.mem_toList_iff.2))] at this
  refine this.mono fun e w' ⟨u, he, ν, st, _, hu⟩ => ?_
  rw [hu.inv_bool] at he
  refine ⟨he, ⟨st.os, st.tape, st.output, st.size, fun r hr => st.frame r hr fun ⟨b, m, o, _, hg, ho, _⟩ => ?_⟩⟩
  rw [hro b o hg] at ho
  cases ho
theorem law_sliceM (hm : P.follows .mixedOrders = true) (hng : (P.funcs.toList.all fun fn => fn.name != "runtime.NumGoroutine") = true) {f : Nat} {fn : Func} (hf : P.funcs[f]? = some fn) (hb : fn.body.isSome = true) {gm gl : List (Nat × List DV)} {l : List Memo} (hl : Known P gm l)
    {K N n k : Nat} (hrun : ∀ c τ, anyS c → okB (callsM gm l (fnE P N) K f [argS n k c] (start gl τ)) = true) {w : World} {τ : Nat → Nat} (hgl : GOK gl τ w) {r : Reach} {base : Nat} {t u e : TypeId} {v : Value} (hval : Value.okWide P w r base t v)
    (hst : (match P.underlying t with | some (.struct _) => true | _ => false) = true)
    (hts : (P.cellTypes P.depth t).map (fun ts => (ts.length, ts[k]?)) = some (n, some u)) (hc : P.cellsOf t = n) (hu : P.underlying u = some (.slice e)) :
    Calls P f #[v] w fun e w' => e = .returned (.bool true) ∧ Below w.heap.size w w' := by
  obtain ⟨c, hb⟩ := Option.isSome_iff_exists.1 hb
  have hng : ∀ fn ∈ P.funcs.toList, fn.name ≠ "runtime.NumGoroutine" := fun fn h => by have := List.all_eq_true.1 hng fn h; simpa using this
  obtain ⟨vs, rfl, hs, h1, hsl⟩ := arg_slice hval hst hts hc hu
  have fin : ∀ (x : RB) (d : DV), anyS d → VR (mu0 w x) d (vs.getD k Go.undef) → Calls P f #[.agg vs] w fun e w' => e = .returned (.bool true) ∧ Below w.heap.size w w' := by
    intro x d hd hv
    obtain ⟨h1', hr⟩ := okB_some (hrun d τ hd)
    refine law_any hng hf hb hr (callsM_ok hm hng hl N K) (start_sim hgl x) (mu0_GL w x) (start_gap w x gl τ) (start_ro gl τ) ?_
    refine .cons (.agg (LR.of_get _ _ (by simp [hs]) fun i hi => ?_) h1) .nil
    have hi : i < n := by simpa using hi
    have e1 : ((List.range n).map fun i => if i = k then d else DV.undef).getD i .undef = if i = k then d else .undef := by
      rw [List.getD_eq_getElem?_getD, List.getElem?_map, List.getElem?_range hi]; rfl
    rw [e1]
    by_cases hk : i = k
    · subst hk
      rw [if_pos rfl, List.getD_eq_getElem?_getD, Array.getElem?_toList, ← Array.getD_eq_getD_getElem?]
      exact hv
    · rw [if_neg hk]; exact .undef _
  rcases hsl with hn | ⟨a, len, cap, hn, hle, hsp⟩
  · refine fin ⟨0, 0, 0, 0⟩ .nilslice (.inl rfl) ?_
    rw [hn]; exact .nilslice
  · refine fin ⟨a.block, a.off, 0, a.off + cap * 0⟩ (.slice (posOf 65536) 0 len cap false 0) (.inr ⟨_, _, rfl⟩) ?_
    rw [hn]
    refine .slice (.inr ⟨_, by unfold mu0; rw [posOf_toN (by omega), if_neg (by omega), if_pos rfl], ?_, by simp, by simp⟩) hle (Nat.le_refl _) (by simp)
    cases a
    simp_all
end
end Go.Dm

namespace Go.Dm

def tyOf (w : World) (g : Nat) : Nat := match w.heap[g]? with | some (.cells _ ty _) => ty | _ => 0
/-- one listed variable's reading -/
def Reads1 (P : Program) (w : World) (n : String) (d : DataW Unit) : Prop :=
  ∃ g t cs fuel p, P.globalNamed n = some g ∧ (P.globals[g]?).map (·.type) = some t ∧ w.var? P n = some cs ∧ DataW.trod (fun _ => ()) P w 0 (fun _ => true) false fuel t cs.toList = some (d, p)
theorem reads_mem {P : Program} {w : World} : ∀ {l : List (String × DataW Unit)} {ps : List MemPlace}, DataW.LaidVars P w l ps → ∀ n d, (n, d) ∈ l → Reads1 P w n d
  | [], _, _, _, _, hm => by cases hm
  | (n', d') :: r, ps, h, n, d, hm => by
    obtain ⟨g, t, cs, fuel, p, q, h1, h2, h3, h4, h5, _⟩ := h
    rcases List.mem_cons.1 hm with e | e
    · cases e
      exact ⟨g, t, cs, fuel, p, h1, h2, h3, h4⟩
    · exact reads_mem h5 n d e
theorem reads_at {P : Program} {w : World} {l : List (String × DataW Unit)} (h : laidMet P l w) {i : Nat} {n : String} {d : DataW Unit} (hi : l[i]? = some (n, d)) : Reads1 P w n d :=
  let ⟨_, hv, _⟩ := h
  reads_mem hv n d (List.mem_of_getElem? hi)

def GOK1 (τ : Nat → Nat) (w : World) (p : Nat × List DV) : Prop := p.1 < 65536 ∧ p.2.length ≤ 8388608 ∧ ∃ (cs : Array Value) (fz : Nat × Nat), w.heap[p.1]? = some (.cells cs (τ p.1) fz) ∧ p.2.length ≤ cs.size ∧ (∀ v ∈ cs.toList, v.oneCell' = true) ∧
  ∀ d, d < p.2.length → ∀ μ, VR μ (p.2.getD d .undef) (cs.getD d Go.undef)
theorem gok_nil (τ : Nat → Nat) (w : World) : GOK [] τ w := fun p h => by simp at h
theorem gok_cons {τ : Nat → Nat} {w : World} {p : Nat × List DV} {l : List (Nat × List DV)} (h : GOK1 τ w p) (hl : GOK l τ w) : GOK (p :: l) τ w := fun q hq => by
  rcases List.mem_cons.1 hq with rfl | hq
  · exact h
  · exact hl q hq
theorem heap_of_var {P : Program} {w : World} {n : String} {g : Nat} {cs : Array Value} (hg : P.globalNamed n = some g) (hv : w.var? P n = some cs) : ∃ fz, w.heap[g]? = some (.cells cs (tyOf w g) fz) := by
  unfold World.var? at hv
  rw [hg] at hv
  simp only [Option.bind_some] at hv
  split at hv
  · rename_i cs' ty fz h
    cases hv
    exact ⟨fz, by unfold tyOf; rw [h]⟩
  · cases hv
/-- a table of integers -/
theorem gok_tab {P : Program} {w : World} {n : String} {g t e N : Nat} {k : IntKind} {zs : List Int} (hr : Reads1 P w n (Lib.tabData k zs)) (hg : P.globalNamed n = some g) (ht : (P.globals[g]?).map (·.type) = some t)
    (hu : P.underlying t = some (.array N e)) (he : P.underlying e = some (.int k)) (hce : P.cellsOf e = 1) (hct : P.cellsOf t = N) (hlt : (Nat.blt g 65536 && Nat.ble zs.length 8388608) = true) : GOK1 (tyOf w) w (g, zs.map fun z => .int k z) := by
  obtain ⟨g', t', cs, fuel, p, h1, h2, h3, h4⟩ := hr
  obtain rfl := Option.some.inj (hg.symm.trans h1)
  obtain rfl := Option.some.inj (ht.symm.trans h2)
  have hcs := Lib.cells_of_tab hu he hce hct h4
  obtain ⟨fz, hh⟩ := heap_of_var hg h3
  obtain ⟨q1, q2⟩ := and_t hlt
  refine ⟨blt q1, by simpa using ble q2, cs, fz, hh, ?_, fun v hv => ?_, fun d hd μ => ?_⟩
  · have := congrArg List.length hcs
    simp at this
    simp [this]
  · rw [hcs] at hv
    obtain ⟨z, _, rfl⟩ := List.mem_map.1 hv
    rfl
  · have hd' : d < zs.length := by simpa using hd
    have e1 : cs.getD d Go.undef = .int k zs[d] := by
      rw [Array.getD_eq_getD_getElem?, ← Array.getElem?_toList, hcs, List.getElem?_map, List.getElem?_eq_getElem hd']; rfl
    have e2 : (zs.map fun z => DV.int k z).getD d .undef = .int k zs[d] := by
      rw [List.getD_eq_getElem?_getD, List.getElem?_map, List.getElem?_eq_getElem hd']; rfl
    rw [e1, e2]
    exact .int _ _
/-- an interface value of which nothing is known -/
theorem gok_iface {P : Program} {w : World} {n : String} {g t : Nat} {s : String} {d : DataW Unit} (hr : Reads1 P w n (.iface s d)) (hg : P.globalNamed n = some g) (ht : (P.globals[g]?).map (·.type) = some t)
    (hu : (match P.underlying t with | some (.interface _) => true | _ => false) = true) (hlt : Nat.blt g 65536 = true) : GOK1 (tyOf w) w (g, [.undef]) := by
  obtain ⟨g', t', cs, fuel, p, h1, h2, h3, h4⟩ := hr
  obtain rfl := Option.some.inj (hg.symm.trans h1)
  obtain rfl := Option.some.inj (ht.symm.trans h2)
  obtain ⟨fz, hh⟩ := heap_of_var hg h3
  have key : ∃ v, cs.toList = [v] ∧ v.oneCell' = true := by
    cases fuel with
    | zero => simp [DataW.trod] at h4
    | succ fuel =>
      simp only [DataW.trod] at h4
      split at hu
      · rename_i x hx
        rw [hx] at h4
        split at h4 <;> first | (simp_all; done) | skip
        all_goals first
          | exact ⟨_, by assumption, rfl⟩
          | (rename_i hcs; exact ⟨_, hcs, rfl⟩)
      · cases hu
  obtain ⟨v, hcs, h1c⟩ := key
  refine ⟨blt hlt, by simp, cs, fz, hh, ?_, fun u hu => ?_, fun d hd μ => ?_⟩
  · have := congrArg List.length hcs
    simp at this
    simp [this]
  · rw [hcs] at hu
    rw [List.mem_singleton.1 hu]; exact h1c
  · have hd : d < 1 := hd
    rw [show d = 0 by omega]
    exact .undef _
end Go.Dm
