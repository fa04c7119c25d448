/- An interpreter of the model's code, deterministic, and its soundness, part 3: Operations on memory: new variables, loads, stores, addresses. Arithmetic, comparisons, conversions. Binary and unary operations, conversions, slicing, indexing of values. Unary operations, conversions, slicing, indexing of values, and what lies beside. No condition. -/
import Derived.Test.YtlgfdnaddchlhaaGreatDoorDm2
import Derived.Laws.StructEq
import Derived.Laws.BytesString
import Derived.Lib.UnsafeStr
namespace Go.Dm

section
variable {P : Program} {B : Nat} {μ : Mu} {h h' : Hp} {w : World} {t : Tm} {ρ : Operand → Value} {v : DV} {o : Oper}

def Gap (μ : Mu) (h h' : Hp) : Prop := ∀ b : Pos, h.next.toN ≤ b.toN → b.toN < h'.next.toN → μ b = none

theorem run_newRow (P : Program) (w : World) (e : TypeId) (cs : Array Value) : (Go.newRow e cs).run P w = .ok ⟨w.heap.size, 0, none⟩ (w.alloc (.cells cs e)) := by
  rfl
theorem big_le {n : Nat} (h : big n = true) : n ≤ 8388608 := ble h

theorem newRow_sound (s : Sim B μ h w) {ty : Nat} {l : List DV} {us : List Value} {v v' : DV} (hl : LR μ l us) (h1 : ∀ u ∈ us, u.oneCell' = true) (hr : newRow h ty l v = some (v', h')) (gap : Gap μ h h') :
    v' = v ∧ h'.next = h.next.succ ∧ Sim B (μ.set h.next ⟨w.heap.size, 0, 0, us.length⟩) h' (w.alloc (.cells us.toArray ty)) ∧
      Step μ h w (μ.set h.next ⟨w.heap.size, 0, 0, us.length⟩) h' (w.alloc (.cells us.toArray ty)) := by
  unfold Dm.newRow at hr
  obtain ⟨hc, he⟩ := brec_some hr
  cases he
  have hb := big_le hc
  have hlen := hl.length
  have hf : μ h.next = none := gap h.next (Nat.le_refl _) (by rw [Hp.next_new]; omega)
  refine ⟨rfl, rfl, new_block s hf _ _ 0 us.length ?_⟩
  rw [len_eq] at hb ⊢
  refine ⟨rfl, Nat.zero_le _, hb, by simp; omega, us.toArray, (0, 0), heap_alloc_new _ _, by simp, fun d _ hd => ?_, by simpa using h1, fun _ => ⟨s.base, fun _ => rfl⟩, rfl⟩
  have hle : μ.le μ := .refl μ
  rw [at_wrn l 0 _ d (by omega), if_pos (by omega)]
  have := hl.get d Go.undef
  simpa using this

theorem vcells_rel {x : DV} {cs : List DV} {u : Value} (hx : VR μ x u) (hc : vcells x = some cs) : LR μ cs u.cells.toList ∧ ∀ y ∈ u.cells.toList, y.oneCell' = true := by
  unfold vcells at hc
  split at hc
  · cases hc
  · cases hc
  · cases hc
    obtain ⟨vs, rfl, hl, h1⟩ := hx.inv_agg
    exact ⟨hl, h1⟩
  · rename_i n1 n2 n3
    cases hc
    cases hx <;> first | exact absurd rfl n1 | exact absurd rfl (n2 _) | exact absurd rfl (n3 _) | skip
    all_goals refine ⟨?_, by simp [Value.cells, Value.oneCell']⟩
    all_goals simp only [Value.cells]
    all_goals refine .cons ?_ .nil
    all_goals constructor <;> assumption
theorem fits_eq {n : Nat} {l l' : List DV} (hf : fits n l = some l') : l' = l ∧ l.length = n := by
  unfold fits at hf
  obtain ⟨hc, rfl⟩ := brec_some hf
  rw [len_eq] at hc
  exact ⟨rfl, Nat.eq_of_beq_eq_true hc⟩

theorem do_move (hO : OR μ t ρ) (s : Sim B μ h w) {x : Operand} (ho : o.op = .move x ∨ o.op = .assign x) (hd : dMove (trX x) t h = some (v, h')) : Does P B μ h w (execOp ρ o) v h' := by
  cases hd
  refine does_pure s (u := ρ x) ?_ (hO.rel x)
  rcases ho with ho | ho <;> simp [execOp, ho]

theorem do_pick (hO : OR μ t ρ) (s : Sim B μ h w) {c a b : Operand} (ho : o.op = .pick c a b) (hd : dPick (trX c) (trX a) (trX b) t h = some (v, h')) : Does P B μ h w (execOp ρ o) v h' := by
  have hc := hO.rel c
  unfold dPick at hd
  split at hd
  · rename_i e; rw [e] at hc; cases hd
    refine does_pure s (u := ρ a) ?_ (hO.rel a)
    simp [execOp, ho, hc.inv_bool, asBool]
  · rename_i e; rw [e] at hc; cases hd
    refine does_pure s (u := ρ b) ?_ (hO.rel b)
    simp [execOp, ho, hc.inv_bool, asBool]
  · cases hd

theorem AR_new (b : Pos) (r K : Nat) : AR (μ.set b ⟨r, 0, 0, K⟩) b 0 ⟨r, 0, none⟩ := ⟨_, Mu.set_same _ _ _, rfl, rfl⟩

theorem do_alloc (s : Sim B μ h w) {e : TypeId} {z : Value} (hz : zero P e = some z) (ho : o.op = .alloc e) (hd : dAlloc e (trCells z) t h = some (v, h')) (gap : Gap μ h h') : Does P B μ h w (execOp ρ o) v h' := by
  obtain ⟨i, hi, _, h1⟩ := zero_some hz
  unfold dAlloc at hd
  obtain ⟨rfl, hn, hs, hst⟩ := newRow_sound s (trL_rel μ z.cells.toList) h1 hd gap
  refine ⟨_, _, _, .inl ?_, hst, hs, .ptr (AR_new _ _ _)⟩
  simp only [execOp, ho, Instr.alloc]
  refine run_v ?_
  simp [run_zero hz, newVar, run_newRow]

theorem do_box (hO : OR μ t ρ) (s : Sim B μ h w) {e n : TypeId} {x : Operand} (ho : o.op = .box e x) (hd : dBox e n (trX x) t h = some (v, h')) (gap : Gap μ h h') : Does P B μ h w (execOp ρ o) v h' := by
  have hx := hO.rel x
  unfold dBox at hd
  split at hd
  · rename_i cs hc
    obtain ⟨_, hd⟩ := brec_some' hd
    obtain ⟨hl, h1⟩ := vcells_rel hx hc
    obtain ⟨rfl, hn, hs, hst⟩ := newRow_sound s hl h1 hd gap
    refine ⟨_, _, _, .inl ?_, hst, hs, .ptr (AR_new _ _ _)⟩
    simp only [execOp, ho, Instr.box]
    refine run_v ?_
    simp [newVar, run_newRow]
  · cases hd

theorem do_nilCheck (hO : OR μ t ρ) (s : Sim B μ h w) {x : Operand} (ho : o.op = .nilCheck x) (hd : dNilCheck (trX x) t h = some (v, h')) : Does P B μ h w (execOp ρ o) v h' := by
  have hx := hO.rel x
  unfold dNilCheck at hd
  split at hd
  · rename_i b p e; rw [e] at hx; cases hd
    obtain ⟨a, ea, ha⟩ := hx.inv_ptr
    refine does_pure s (u := ρ x) ?_ (by rw [ea]; exact .ptr ha)
    simp [execOp, ho, ea]
  · cases hd

theorem run_load1 (P : Program) {w : World} {a : Addr} {u : Value} (hc : w.cell? a = some u) : (load a).run P w = .ok u w := by
  simp [load, Sem.run, hc]

theorem run_loads (P : Program) (w : World) (a : Addr) (us : List Value) (n : Nat) (hn : us.length = n) (hc : ∀ j u, us[j]? = some u → w.cell? (a.add j) = some u) : (loadCells a n).run P w = .ok us.toArray w := by
  subst hn
  exact run_loadCells_list w a us hc

theorem run_loadVar (P : Program) (s : Sim B μ h w) {ty : TypeId} (hk : kn P ty = true) {b : Pos} {p : Nat} {a : Addr} {v : DV} (ha : AR μ b p a)
    (hr : (isAg P ty = false ∧ h.read1 b p = some v) ∨ (isAg P ty = true ∧ ∃ l, h.read b p (cells P ty) = some l ∧ v = .agg l)) :
    ∃ u, (loadVar ty a).run P w = .ok u w ∧ VR μ v u := by
  obtain ⟨d, hu⟩ := kn_some hk
  rcases hr with ⟨hg, hr⟩ | ⟨hg, l, hr, rfl⟩
  · obtain ⟨u, hc, hv, _⟩ := read1_sound s ha hr
    exact ⟨u, by simp [loadVar, run_agg hu, hg, hc], hv⟩
  · obtain ⟨us, hn, hl, hc, h1⟩ := read_sound s ha hr
    refine ⟨.agg us.toArray, ?_, .agg (by simpa using hl) (by simpa using h1)⟩
    simp [loadVar, run_agg hu, hg, run_size hu, run_loads P w a us _ hn hc]

theorem do_load (hO : OR μ t ρ) (s : Sim B μ h w) {ty : TypeId} {x : Operand} (hk : kn P ty = true) (ho : o.op = .load ty x) (hd : dLoad (isAg P ty) (cells P ty) (trX x) t h = some (v, h')) : Does P B μ h w (execOp ρ o) v h' := by
  have hx := hO.rel x
  unfold dLoad at hd
  split at hd
  · rename_i b p e; rw [e] at hx
    obtain ⟨a, ea, ha⟩ := hx.inv_ptr
    have key : h' = h ∧ ((isAg P ty = false ∧ h.read1 b p = some v) ∨ (isAg P ty = true ∧ ∃ l, h.read b p (cells P ty) = some l ∧ v = .agg l)) := by
      cases hg : isAg P ty with
      | false =>
        rw [hg] at hd
        change (match h.read1 b p with | some v => some (v, h) | none => none) = some (v, h') at hd
        split at hd
        · rename_i y hy; cases hd; exact ⟨rfl, .inl ⟨rfl, hy⟩⟩
        · cases hd
      | true =>
        rw [hg] at hd
        change (match h.read b p (cells P ty) with | some l => some (DV.agg l, h) | none => none) = some (v, h') at hd
        split at hd
        · rename_i y hy; cases hd; exact ⟨rfl, .inr ⟨rfl, _, hy, rfl⟩⟩
        · cases hd
    obtain ⟨rfl, key⟩ := key
    obtain ⟨u, hr, hv⟩ := run_loadVar P s hk ha key
    refine does_pure s (u := u) ?_ hv
    simp only [execOp, ho, Instr.loadAt]
    refine run_v ?_
    simp [ea, Instr.sureAddr, hr]
  · cases hd

theorem do_store (hO : OR μ t ρ) (s : Sim B μ h w) {ty : TypeId} {x y : Operand} (hk : kn P ty = true) (ho : o.op = .store ty x y) (hd : dStore (cells P ty) (trX x) (trX y) t h = some (v, h')) : Does P B μ h w (execOp ρ o) v h' := by
  have hx := hO.rel x
  have hy := hO.rel y
  obtain ⟨d, hu⟩ := kn_some hk
  unfold dStore at hd
  split at hd
  · rename_i b p cs e ec; rw [e] at hx
    obtain ⟨a, ea, ha⟩ := hx.inv_ptr
    split at hd
    · rename_i cs' hf
      obtain ⟨rfl, hlen⟩ := fits_eq hf
      split at hd
      · rename_i h1 hw
        cases hd
        obtain ⟨hl, hone⟩ := vcells_rel hy ec
        obtain ⟨w', hr, hs, hst⟩ := write_sound P s ha hl hone hw
        refine ⟨Go.undef, w', μ, .inr ⟨?_, rfl⟩, hst, hs, .undef _⟩
        simp only [execOp, ho, Instr.storeAt]
        refine run_u ?_
        have hsz : (ρ y).cells.size = cells P ty := by rw [← hlen, hl.length]; simp
        simp [ea, Instr.sureAddr, storeVar, run_size hu, hsz, hr]
      · cases hd
    · cases hd
  · cases hd

theorem AR.add {b : Pos} {p : Nat} {a : Addr} (ha : AR μ b p a) (n : Nat) : AR μ b (p + n) (a.add n) := by
  obtain ⟨m, hm, ea, eo⟩ := ha
  refine ⟨m, hm, ?_, ?_⟩
  · rw [ea, add_eq]
  · rw [ea, add_eq]
    show a.off + n + m.lo = m.base + (p + n)
    omega

theorem do_fieldAddr (hO : OR μ t ρ) (s : Sim B μ h w) {ty : TypeId} {x : Operand} {i : Nat} {f : Field} (hf : trField P ty i = some f) (hz : ¬ cells P f.type = 0) (ho : o.op = .fieldAddr ty x i)
    (hd : dFieldAddr f.offset (trX x) t h = some (v, h')) : Does P B μ h w (execOp ρ o) v h' := by
  have hx := hO.rel x
  unfold trField at hf
  split at hf
  · rename_i fs hu
    have hu := under_some hu (by simp)
    unfold dFieldAddr at hd
    split at hd
    · rename_i b p e; rw [e] at hx; cases hd
      obtain ⟨a, ea, ha⟩ := hx.inv_ptr
      refine does_pure s (u := .pointer (some (a.add f.offset))) ?_ (.ptr (ha.add _))
      have hi : ∃ i, P.info? f.type = some i := by
        cases hi : P.info? f.type with
        | some i => exact ⟨i, rfl⟩
        | none => exact absurd (by simp [cells, Program.cellsOf, hi]) hz
      obtain ⟨fi, hi⟩ := hi
      have hsz : (sizeOf f.type).run P w = .ok (cells P f.type) w := by simp [sizeOf, typeInfo, hi, cells, Program.cellsOf]
      simp only [execOp, ho, Instr.fieldAt]
      refine run_v ?_
      simp [run_underlying hu, hf, ea, Instr.sureAddr, fieldPlace, hsz, hz]
    · cases hd
  · cases hf

theorem do_indexArr (hO : OR μ t ρ) (s : Sim B μ h w) {ty n e : TypeId} {x i : Operand} (hu : under P ty = .array n e) (hk : kn P e = true) (ho : o.op = .indexAddr ty x i)
    (hd : dIndexArr n (cells P e) (trX x) (trX i) t h = some (v, h')) : Does P B μ h w (execOp ρ o) v h' := by
  have hx := hO.rel x
  have hi := hO.rel i
  have hu := under_some hu (by simp)
  obtain ⟨de, hue⟩ := kn_some hk
  unfold dIndexArr at hd
  split at hd
  · rename_i b p k j e1 e2; rw [e1] at hx; rw [e2] at hi
    split at hd
    · rename_i m hb; cases hd
      obtain ⟨rfl, hlt⟩ := below_some hb
      obtain ⟨a, ea, ha⟩ := hx.inv_ptr
      refine does_pure s (u := .pointer (some (a.add (m * cells P e)))) ?_ (.ptr (ha.add _))
      simp only [execOp, ho, Instr.indexAt]
      refine run_v ?_
      have : (m : Int) < n := by omega
      simp [hi.inv_int, asIntOf, run_underlying hu, ea, Instr.sureAddr, run_size hue]
      intro hh; exact absurd hh (by omega)
    · cases hd
  · cases hd

theorem SR.AR {b : Pos} {p c z : Nat} {a : Addr} (h : SR μ b p c z a) : Dm.AR μ b p a := by
  obtain ⟨m, h1, h2, h3, _⟩ := h; exact ⟨m, h1, h2, h3⟩

theorem do_indexAddr (hO : OR μ t ρ) (s : Sim B μ h w) {ty e : TypeId} {x i : Operand} (hu : under P ty = .slice e) (hk : kn P e = true) (ho : o.op = .indexAddr ty x i)
    (hd : dIndexAddr (cells P e) (trX x) (trX i) t h = some (v, h')) : Does P B μ h w (execOp ρ o) v h' := by
  have hx := hO.rel x
  have hi := hO.rel i
  have hu := under_some hu (by simp)
  obtain ⟨de, hue⟩ := kn_some hk
  unfold dIndexAddr at hd
  split at hd
  · rename_i b p n c ex sz k j e1 e2; rw [e1] at hx; rw [e2] at hi
    split at hd
    · rename_i m hb
      obtain ⟨hz, hd⟩ := brec_some hd
      cases hd
      obtain ⟨rfl, hlt⟩ := below_some hb
      obtain ⟨a, cap, ea, ha, hn, _, _⟩ := hx.inv_slice
      have ha := (ha.resolve_left (by omega)).AR
      refine does_pure s (u := .pointer (some (a.add (m * cells P e)))) ?_ (.ptr (ha.add _))
      simp only [execOp, ho, Instr.indexAt]
      refine run_v ?_
      have : (m : Int) < n := by omega
      simp [hi.inv_int, asIntOf, run_underlying hu, ea, run_size hue]
      intro hh; exact absurd hh (by omega)
    · cases hd
  · cases hd
end
end Go.Dm

namespace Go.Dm

section
variable {P : Program} {B : Nat} {μ : Mu} {h h' : Hp} {w : World} {t : Tm} {ρ : Operand → Value} {v : DV} {o : Oper}

/-! ### two whole numbers -/
theorem kmod (k : IntKind) : (kTop k * (kSigned k).rec 1 2 + 1 + (kSigned k).rec 0 1 : Nat) = 2 ^ k.bits := by cases k <;> rfl
theorem ibits_eq (k : IntKind) (f : Nat → Nat → Nat) (g : BitVec k.bits → BitVec k.bits → BitVec k.bits) (hfg : ∀ a b : BitVec k.bits, (g a b).toNat = f a.toNat b.toNat) (a b : Int) :
    ibits f k a b = .int k (k.wrap (g (BitVec.ofInt k.bits a) (BitVec.ofInt k.bits b)).toNat) := by
  unfold ibits
  rw [wrapF_eq, hfg, kmod, BitVec.toNat_ofInt, BitVec.toNat_ofInt]
  rfl
theorem dbinI_sound {op : BinOp} {k : IntKind} {a b : Int} (hs : isShift (trB op) = false) (hd : dbinI (trB op) k a b = some v) (ty : TypeId) (w : World) :
    ∃ u, (binOp op ty (.int k a) (.int k b)).run P w = .ok u w ∧ VR μ v u := by
  cases op <;> simp only [trB, dbinI, isShift] at hd hs
  case add => cases hd; exact ⟨_, by first | (simp [binOp, Op.intArith]; done) | (simp [binOp, Op.intArith]; rfl), by rw [wrapF_eq]; exact .int _ _⟩
  case sub => cases hd; exact ⟨_, by first | (simp [binOp, Op.intArith]; done) | (simp [binOp, Op.intArith]; rfl), by rw [wrapF_eq]; exact .int _ _⟩
  case mul => cases hd; exact ⟨_, by first | (simp [binOp, Op.intArith]; done) | (simp [binOp, Op.intArith]; rfl), by rw [wrapF_eq]; exact .int _ _⟩
  case quo =>
    rw [ieq_eq] at hd
    cases hb : (b == 0) with
    | true => rw [hb] at hd; cases hd
    | false =>
      rw [hb] at hd; cases hd
      have : ¬ b = 0 := by simpa using hb
      exact ⟨_, by first | (simp [binOp, Op.intDiv, this]; done) | (simp [binOp, Op.intDiv, this]; rfl), by rw [wrapF_eq]; exact .int _ _⟩
  case rem =>
    rw [ieq_eq] at hd
    cases hb : (b == 0) with
    | true => rw [hb] at hd; cases hd
    | false =>
      rw [hb] at hd; cases hd
      have : ¬ b = 0 := by simpa using hb
      exact ⟨_, by first | (simp [binOp, Op.intDiv, this]; done) | (simp [binOp, Op.intDiv, this]; rfl), .int _ _⟩
  case and => cases hd; rw [ibits_eq k Nat.land (· &&& ·) (fun a b => by first | (simp; done) | (simp; rfl))]; exact ⟨_, by first | (simp [binOp, Op.intBits]; done) | (simp [binOp, Op.intBits]; rfl), .int _ _⟩
  case or => cases hd; rw [ibits_eq k Nat.lor (· ||| ·) (fun a b => by first | (simp; done) | (simp; rfl))]; exact ⟨_, by first | (simp [binOp, Op.intBits]; done) | (simp [binOp, Op.intBits]; rfl), .int _ _⟩
  case xor => cases hd; rw [ibits_eq k Nat.xor (· ^^^ ·) (fun a b => by first | (simp; done) | (simp; rfl))]; exact ⟨_, by first | (simp [binOp, Op.intBits]; done) | (simp [binOp, Op.intBits]; rfl), .int _ _⟩
  case shl => cases hs
  case shr => cases hs
  case andNot => cases hd
  case eql => cases hd; exact ⟨_, by first | (simp [binOp, Op.intCmp]; done) | (simp [binOp, Op.intCmp]; rfl), by rw [ieq_eq]; exact .bool _⟩
  case neq => cases hd; exact ⟨_, by first | (simp [binOp, Op.intCmp]; done) | (simp [binOp, Op.intCmp]; rfl), by rw [ieq_eq]; exact .bool _⟩
  case lss => cases hd; exact ⟨_, by first | (simp [binOp, Op.intCmp]; done) | (simp [binOp, Op.intCmp]; rfl), by rw [ilt_eq]; exact .bool _⟩
  case leq => cases hd; exact ⟨_, by first | (simp [binOp, Op.intCmp]; done) | (simp [binOp, Op.intCmp]; rfl), by rw [ile_eq]; exact .bool _⟩
  case gtr => cases hd; exact ⟨_, by first | (simp [binOp, Op.intCmp]; done) | (simp [binOp, Op.intCmp]; rfl), by rw [ilt_eq]; exact .bool _⟩
  case geq => cases hd; exact ⟨_, by first | (simp [binOp, Op.intCmp]; done) | (simp [binOp, Op.intCmp]; rfl), by rw [ile_eq]; exact .bool _⟩

theorem dshiftW_sound {op : BinOp} {k k' : IntKind} {a b : Int} (hd : dshiftW (trB op) k a b = some v) (ty : TypeId) (w : World) :
    ∃ u, (binOp op ty (.int k a) (.int k' b)).run P w = .ok u w ∧ VR μ v u := by
  unfold dshiftW at hd
  split at hd
  · rename_i n
    have hn : ¬ (n : Int) < 0 := by omega
    cases op <;> simp only [trB] at hd <;> first | (cases hd; done) | skip
    · cases hd
      refine ⟨_, by first | (simp [binOp, Op.shift, hn]; done) | (simp [binOp, Op.shift, hn]; rfl), ?_⟩
      rw [wrapF_eq]
      simpa using VR.int k _
    · cases hd
      refine ⟨_, by first | (simp [binOp, Op.shift, hn]; done) | (simp [binOp, Op.shift, hn]; rfl), ?_⟩
      simpa using VR.int k _
  · cases hd

theorem dbinS_sound {op : BinOp} {a b : ByteArray} (hd : dbinS (trB op) a.data.toList.length (enc a.data.toList) b.data.toList.length (enc b.data.toList) = some v) (ty : TypeId) (w : World) :
    ∃ u, (binOp op ty (.string a) (.string b)).run P w = .ok u w ∧ VR μ v u := by
  have heq := str_eq_iff (a := a) (b := b)
  have hlt := sless_eq a b
  cases op <;> simp only [trB, dbinS] at hd
  case add =>
    obtain ⟨hc, rfl⟩ := brec_some hd
    have hc := ble hc
    refine ⟨.string (a ++ b), ?_, scat_rel μ a b⟩
    have : ¬ (((a.size + b.size : Nat) : Int) > IntKind.i64.max) := by
      simp at hc
      simp only [IntKind.max, IntKind.bits, IntKind.signed]
      have : (a.size : Int) + b.size ≤ 1099511627776 := by
        have ha : a.data.size = a.size := rfl
        have hb : b.data.size = b.size := rfl
        omega
      simp; omega
    simp only [binOp, Op.stringOp, if_neg this]
    rfl
  case eql => cases hd; rw [heq]; exact ⟨_, by first | (simp [binOp, Op.stringOp]; done) | (simp [binOp, Op.stringOp]; rfl), .bool _⟩
  case neq => cases hd; rw [heq]; exact ⟨_, by first | (simp [binOp, Op.stringOp]; done) | (simp [binOp, Op.stringOp]; rfl), .bool _⟩
  case lss => cases hd; rw [hlt]; exact ⟨_, by first | (simp [binOp, Op.stringOp]; done) | (simp [binOp, Op.stringOp]; rfl), .bool _⟩
  case leq => cases hd; rw [hlt, heq]; exact ⟨_, by first | (simp [binOp, Op.stringOp]; done) | (simp [binOp, Op.stringOp]; rfl), .bool _⟩
  case gtr => cases hd; rw [hlt, heq]; exact ⟨_, by first | (simp [binOp, Op.stringOp]; done) | (simp [binOp, Op.stringOp]; rfl), .bool _⟩
  case geq => cases hd; rw [hlt]; exact ⟨_, by first | (simp [binOp, Op.stringOp]; done) | (simp [binOp, Op.stringOp]; rfl), .bool _⟩
  all_goals cases hd

/-! ### '==' -/
theorem at_ok {a b : Bool} : (a.rec (not b) b : Bool) = (a == b) := by cases a <;> cases b <;> rfl
theorem leaf_b {x y : DV} {a b : Value} {r : Bool} (hx : VR μ x a) (hy : VR μ y b) (he : eqB x y = some r) (d : Nat) {ty : TypeId} (hu : P.underlying ty = some .bool) (w : World) : (Op.equalIn (d + 1) ty a b).run P w = .ok r w := by
  unfold eqB at he
  split at he
  · cases he; rw [hx.inv_bool, hy.inv_bool, at_ok]; exact run_equalIn_bool' w d ty _ _ hu
  · cases he
theorem leaf_i {x y : DV} {a b : Value} {r : Bool} (hx : VR μ x a) (hy : VR μ y b) (he : eqInt x y = some r) (d : Nat) {ty : TypeId} {k : IntKind} (hu : P.underlying ty = some (.int k)) (w : World) : (Op.equalIn (d + 1) ty a b).run P w = .ok r w := by
  unfold eqInt at he
  split at he
  · obtain ⟨hc, rfl⟩ := brec_some he
    obtain rfl := kc_inj hc
    rw [hx.inv_int, hy.inv_int, ieq_eq]
    exact run_equalIn_int w d ty _ k _ _ hu
  · cases he
theorem leaf_s {x y : DV} {a b : Value} {r : Bool} (hx : VR μ x a) (hy : VR μ y b) (he : eqStr x y = some r) (d : Nat) {ty : TypeId} (hu : P.underlying ty = some .string) (w : World) : (Op.equalIn (d + 1) ty a b).run P w = .ok r w := by
  unfold eqStr at he
  split at he
  · cases he
    obtain ⟨s, rfl, rfl, rfl⟩ := hx.inv_str
    obtain ⟨s', rfl, rfl, rfl⟩ := hy.inv_str
    rw [str_eq_iff]
    exact run_equalIn_string w d ty _ _ hu
  · cases he

/-- a value of a type as it stands in a row of cells -/
def partOf (P : Program) (ty : TypeId) (xs : List Value) (off : Nat) : Value := if isAg P ty = true then .agg ((xs.drop off).take (cells P ty)).toArray else xs.getD off Go.undef
theorem run_part {ty : TypeId} {d : TypeDesc} (hu : P.underlying ty = some d) (xs : List Value) (off n k : Nat) (ho : off + cells P ty ≤ n) (h1 : isAg P ty = false → off < n) (hn : k + n ≤ xs.length) (w : World) :
    (part ty ((xs.drop k).take n).toArray off).run P w = .ok (partOf P ty xs (k + off)) w := by
  unfold part partOf
  cases hg : isAg P ty with
  | true =>
    simp only [Sem.run_bind, run_agg hu, hg, Result.andThen_ok, if_true, run_size hu]
    refine congrArg (fun z => Result.ok (Value.agg z) w) ?_
    apply Array.ext'
    simp only [Array.toList_extract, List.extract_eq_take_drop]
    rw [List.drop_take, List.drop_drop, List.take_take, Nat.add_comm k off]
    congr 1
    omega
  | false =>
    have := h1 hg
    simp only [Sem.run_bind, run_agg hu, hg, Result.andThen_ok, Bool.false_eq_true, if_false]
    have e : ((xs.drop k).take n).toArray[off]? = some (xs.getD (k + off) Go.undef) := by
      rw [List.getElem?_toArray, List.getElem?_take, if_pos this, List.getElem?_drop, List.getD_eq_getElem?_getD, List.getElem?_eq_getElem (by omega)]
      rfl
    rw [e]
    rfl
theorem eqc_append (a b : List (DLeaf × Nat)) (xs ys : List DV) : eqc (a ++ b) xs ys = (match eqc a xs ys with | some true => eqc b xs ys | r => r) := by
  induction a with
  | nil => rfl
  | cons o a ih =>
    show (match eqL o.1 (lget xs o.2) (lget ys o.2) with | some true => eqc (a ++ b) xs ys | r => r) = (match (match eqL o.1 (lget xs o.2) (lget ys o.2) with | some true => eqc a xs ys | r => r) with | some true => eqc b xs ys | r => r)
    cases eqL o.1 (lget xs o.2) (lget ys o.2) with
    | none => rfl
    | some c => cases c with
      | false => rfl
      | true => exact ih
theorem eqc_one (k : DLeaf) (off : Nat) (xs ys : List DV) : eqc [(k, off)] xs ys = eqL k (lget xs off) (lget ys off) := by
  show (match eqL k (lget xs off) (lget ys off) with | some true => some true | r => r) = _
  cases eqL k (lget xs off) (lget ys off) with
  | none => rfl
  | some c => cases c <;> rfl

theorem eqOffs_known (d : Nat) (ty : TypeId) (off : Nat) (l : List (DLeaf × Nat)) (h : eqOffs P d ty off = some l) : (∃ dd, P.underlying ty = some dd) ∧ (isAg P ty = false → cells P ty = 1) := by
  cases d with
  | zero => cases h
  | succ d =>
    change (match under P ty with
      | .bool => Bool.rec none (some [(DLeaf.b, off)]) (Nat.beq (cells P ty) 1)
      | .int _ => Bool.rec none (some [(DLeaf.i, off)]) (Nat.beq (cells P ty) 1)
      | .string => Bool.rec none (some [(DLeaf.s, off)]) (Nat.beq (cells P ty) 1)
      | .struct fs => Bool.rec (eqFs P (eqOffs P d) (cells P ty) off fs.toList) none (P.stoodInHeld ty)
      | _ => none) = some l at h
    split at h
    · rename_i hu; exact ⟨⟨_, under_some hu (by simp)⟩, fun _ => Nat.eq_of_beq_eq_true (brec_some h).1⟩
    · rename_i hu; exact ⟨⟨_, under_some hu (by simp)⟩, fun _ => Nat.eq_of_beq_eq_true (brec_some h).1⟩
    · rename_i hu; exact ⟨⟨_, under_some hu (by simp)⟩, fun _ => Nat.eq_of_beq_eq_true (brec_some h).1⟩
    · rename_i hu; exact ⟨⟨_, under_some hu (by simp)⟩, fun hg => by simp [isAg, hu] at hg⟩
    · cases h
theorem eqOffs_sound : ∀ (d : Nat) (ty : TypeId) (off : Nat) (l : List (DLeaf × Nat)), eqOffs P d ty off = some l → ∀ (n : Nat) (X Y : List DV) (xs ys : List Value) (r : Bool) (w : World), LR μ X xs → LR μ Y ys →
    off + cells P ty ≤ xs.length → xs.length = ys.length → eqc l X Y = some r → (Op.equalIn (d + n) ty (partOf P ty xs off) (partOf P ty ys off)).run P w = .ok r w := by
  intro d
  induction d with
  | zero => intro ty off l h; cases h
  | succ d ih =>
    intro ty off l h n X Y xs ys r w hX hY hlen hxy he
    rw [show d + 1 + n = d + n + 1 by omega]
    change (match under P ty with
      | .bool => Bool.rec none (some [(DLeaf.b, off)]) (Nat.beq (cells P ty) 1)
      | .int _ => Bool.rec none (some [(DLeaf.i, off)]) (Nat.beq (cells P ty) 1)
      | .string => Bool.rec none (some [(DLeaf.s, off)]) (Nat.beq (cells P ty) 1)
      | .struct fs => Bool.rec (eqFs P (eqOffs P d) (cells P ty) off fs.toList) none (P.stoodInHeld ty)
      | _ => none) = some l at h
    have leafx : ∀ u, VR μ (lget X off) (xs.getD off u) := fun u => by rw [lget_eq]; exact hX.get off u
    have leafy : ∀ u, VR μ (lget Y off) (ys.getD off u) := fun u => by rw [lget_eq]; exact hY.get off u
    have plain : isAg P ty = false → ∀ zs, partOf P ty zs off = zs.getD off Go.undef := by
      intro hdd zs
      unfold partOf
      rw [hdd]; rfl
    split at h
    · rename_i hu; obtain ⟨_, rfl⟩ := brec_some h
      rw [eqc_one] at he
      rw [plain (by simp [isAg, hu]), plain (by simp [isAg, hu])]
      exact leaf_b (leafx _) (leafy _) he _ (under_some hu (by simp)) w
    · rename_i k hu; obtain ⟨_, rfl⟩ := brec_some h
      rw [eqc_one] at he
      rw [plain (by simp [isAg, hu]), plain (by simp [isAg, hu])]
      exact leaf_i (leafx _) (leafy _) he _ (under_some hu (by simp)) w
    · rename_i hu; obtain ⟨_, rfl⟩ := brec_some h
      rw [eqc_one] at he
      rw [plain (by simp [isAg, hu]), plain (by simp [isAg, hu])]
      exact leaf_s (leafx _) (leafy _) he _ (under_some hu (by simp)) w
    · rename_i fs hu
      have hg : isAg P ty = true := by unfold isAg; rw [hu]
      have hus := under_some hu (by simp)
      cases hp : P.stoodInHeld ty with
      | true => rw [hp] at h; cases h
      | false =>
        rw [hp] at h
        replace h : eqFs P (eqOffs P d) (cells P ty) off fs.toList = some l := h
        unfold partOf
        rw [if_pos hg, if_pos hg]
        have hfo : P.fieldsOf ty = fs := by unfold Program.fieldsOf; rw [hus]
        rw [run_equalIn_struct w (d + n) ty _ _ (by rw [hfo]; exact hus) hp, hfo]
        clear hu hfo hus
        generalize fs.toList = fl at h
        induction fl generalizing l r with
        | nil =>
          cases h
          cases he
          rfl
        | cons f fl ihf =>
          change (if f.name ≠ "_" then match eqOffs P d f.type (off + f.offset), eqFs P (eqOffs P d) (cells P ty) off fl with
            | some a, some b => Bool.rec none (some (a ++ b)) (Nat.ble (f.offset + cells P f.type) (cells P ty))
            | _, _ => none
            else eqFs P (eqOffs P d) (cells P ty) off fl) = some l at h
          unfold Op.eqFields
          by_cases hn : f.name ≠ "_"
          · rw [if_pos hn] at h
            rw [if_pos hn]
            split at h
            · rename_i a b ea eb
              obtain ⟨hc, rfl⟩ := brec_some h
              have hc := ble hc
              rw [eqc_append] at he
              obtain ⟨⟨dd, hdd⟩, hleaf⟩ := eqOffs_known d f.type _ a ea
              have p1 := run_part hdd xs f.offset (cells P ty) off hc (fun hg => by have := hleaf hg; omega) (by omega) w
              have p2 := run_part hdd ys f.offset (cells P ty) off hc (fun hg => by have := hleaf hg; omega) (by omega) w
              have key : ∀ r', eqc a X Y = some r' → (Op.equalIn (d + n) f.type (partOf P f.type xs (off + f.offset)) (partOf P f.type ys (off + f.offset))).run P w = .ok r' w :=
                fun r' e => ih f.type (off + f.offset) a ea n X Y xs ys r' w hX hY (by omega) hxy e
              simp only [Sem.run_bind, p1, p2, Result.andThen_ok]
              cases hq : eqc a X Y with
              | none => rw [hq] at he; cases he
              | some c =>
                rw [hq] at he
                rw [key c hq]
                cases c with
                | false => cases he; rfl
                | true => first | exact ihf b r he eb | exact ihf b eb r he
            · cases h
          · rw [if_neg hn] at h
            rw [if_neg hn]
            first | exact ihf l r he h | exact ihf l h r he
    · cases h
end
end Go.Dm

namespace Go.Dm

section
variable {P : Program} {B : Nat} {μ : Mu} {h h' : Hp} {w : World} {t : Tm} {ρ : Operand → Value} {v : DV} {o : Oper}

theorem guard_int (op : BinOp) (ty : TypeId) (x y : Operand) (k k' : IntKind) (a b : Int) (w : World) : (eqGuard op ty x y (.int k a) (.int k' b)).run P w = .ok () w := by
  cases op <;> rfl
theorem guard_str (op : BinOp) (ty : TypeId) (x y : Operand) (a b : ByteArray) (w : World) : (eqGuard op ty x y (.string a) (.string b)).run P w = .ok () w := by
  cases op <;> rfl
theorem equal_run {ty : TypeId} {a b : Value} {r : Bool} (he : ∀ n, (Op.equalIn (n + 1) ty a b).run P w = .ok r w) : (Op.equal ty a b).run P w = .ok r w := he 9999
theorem binOp_eql {ty : TypeId} {a b : Value} {r : Bool} (h1 : ∀ k n, a ≠ .int k n) (h2 : ∀ k n, a ≠ .float k n) (h3 : ∀ k n m, a ≠ .complex k n m) (h4 : ∀ s, a ≠ .string s)
    (he : (Op.equal ty a b).run P w = .ok r w) : (binOp .eql ty a b).run P w = .ok (.bool r) w ∧ (binOp .neq ty a b).run P w = .ok (.bool (!r)) w := by
  cases a <;> first
    | exact absurd rfl (h1 _ _)
    | exact absurd rfl (h2 _ _)
    | exact absurd rfl (h3 _ _ _)
    | exact absurd rfl (h4 _)
    | (refine ⟨?_, ?_⟩ <;> simp only [binOp] <;> simp [he])

theorem wrap_mid {v : Int} (h1 : -9223372036854775808 ≤ v) (h2 : v ≤ 4611686018427387904) : IntKind.i64.wrap v = v := by
  unfold IntKind.wrap
  simp only [IntKind.signed, IntKind.bits]
  first | omega | (split <;> omega) | (simp; omega)
theorem mod_add {m r a : Nat} {v : Int} (h : v % (m : Int) = r) : (v + (a : Int)) % (m : Int) = ((r + a) % m : Nat) := by
  rw [Int.add_emod, h, ← Int.emod_emod_of_dvd (a : Int) (Int.dvd_refl (m : Int))]
  have e : ((r : Int) + (a : Int) % (m : Int) % (m : Int)) % (m : Int) = ((r : Int) + (a : Int)) % (m : Int) := by
    rw [Int.emod_emod_of_dvd _ (Int.dvd_refl _), Int.add_emod_emod]
  rw [e]; push_cast; rfl
theorem resAdd_sound {op : BinOp} {k : IntKind} {a m r b : Nat} {nn : Bool} {v : Int} {x : DV} (hd : resAdd (trB op) k a m r b nn = some x) (h1 : 0 < m) (h2 : v % (m : Int) = r) (h3 : v < b) (h4 : -9223372036854775808 ≤ v) (h5 : nn = true → 0 ≤ v) (ty : TypeId) (w : World) :
    ∃ u, (binOp op ty (.int k (Int.ofNat a)) (.int .i64 v)).run P w = .ok u w ∧ VR μ x u := by
  unfold resAdd at hd
  split at hd
  · rename_i ho
    obtain ⟨hb, hx⟩ := brec_some hd
    have hb := ble hb
    cases hx
    have : op = .add := by cases op <;> first | rfl | cases ho
    subst this
    refine ⟨.int .i64 ((a : Int) + v), ?_, .res h1 (by rw [Int.add_comm]; exact mod_add h2) (by omega) (by omega) (fun h => by have := h5 h; omega)⟩
    have e := wrap_mid (v := (a : Int) + v) (by omega) (by omega)
    first | (simp [binOp, Op.intArith, e]; done) | (simp [binOp, Op.intArith]; exact e)
  · cases hd
theorem resOp_sound {op : BinOp} {k : IntKind} {c m r b : Nat} {nn : Bool} {v : Int} {x : DV} (hd : resOp (trB op) k m r b nn c = some x) (h1 : 0 < m) (h2 : v % (m : Int) = r) (h3 : v < b) (h4 : -9223372036854775808 ≤ v) (h5 : nn = true → 0 ≤ v) (ty : TypeId) (w : World) :
    ∃ u, (binOp op ty (.int .i64 v) (.int k (Int.ofNat c))).run P w = .ok u w ∧ VR μ x u := by
  unfold resOp at hd
  split at hd
  · rename_i ho
    obtain ⟨hb, hx⟩ := brec_some hd
    have hb := ble hb
    cases hx
    have : op = .add := by cases op <;> first | rfl | cases ho
    subst this
    refine ⟨.int .i64 (v + (c : Int)), ?_, .res h1 (mod_add h2) (by omega) (by omega) (fun h => by have := h5 h; omega)⟩
    have e := wrap_mid (v := v + (c : Int)) (by omega) (by omega)
    first | (simp [binOp, Op.intArith, e]; done) | (simp [binOp, Op.intArith]; exact e)
  · rename_i ho
    obtain ⟨hb, hx⟩ := brec_some hd
    obtain ⟨q1, q2⟩ := and_t hb
    have := Nat.eq_of_beq_eq_true q1; subst this
    cases hx
    have : op = .rem := by cases op <;> first | rfl | cases ho
    subst this
    have hv := h5 q2
    have e : v.tmod (c : Int) = r := by rw [Int.tmod_eq_emod_of_nonneg hv]; exact h2
    obtain ⟨u, hr, hu⟩ := dbinI_sound (P := P) (μ := μ) (op := .rem) (k := .i64) (a := v) (b := Int.ofNat c) (v := .int .i64 (v.tmod (Int.ofNat c))) rfl (by
      show (Bool.rec (some (.int .i64 (v.tmod (Int.ofNat c)))) none (ieq (Int.ofNat c) 0) : Option DV) = _
      rw [ieq_eq, show ((Int.ofNat c) == (0 : Int)) = false by simp; omega]) ty w
    refine ⟨u, hr, ?_⟩
    rw [show Int.ofNat r = v.tmod (Int.ofNat c) from e.symm]
    exact hu
  · rename_i ho
    obtain ⟨hb, hx⟩ := brec_some hd
    obtain ⟨q1, q2⟩ := and_t hb
    have := Nat.eq_of_beq_eq_true q1; subst this
    have := Nat.eq_of_beq_eq_true q2; subst this
    cases hx
    have : op = .and := by cases op <;> first | rfl | cases ho
    subst this
    obtain ⟨u, hr, hu⟩ := dbinI_sound (P := P) (μ := μ) (op := .and) (k := .i64) (a := v) (b := 3) (v := ibits Nat.land .i64 v 3) rfl rfl ty w
    refine ⟨u, hr, ?_⟩
    have e : ibits Nat.land .i64 v 3 = .int .i64 (Int.ofNat r) := by
      show DV.int .i64 (wrapF .i64 (Int.ofNat (Nat.land (v.emod 18446744073709551616).toNat ((3 : Int).emod 18446744073709551616).toNat))) = _
      rw [show ((3 : Int).emod 18446744073709551616).toNat = 3 from rfl]
      have e1 : Nat.land (v.emod 18446744073709551616).toNat 3 = r := by
        show (v.emod 18446744073709551616).toNat &&& (2 ^ 2 - 1) = r
        rw [Nat.and_two_pow_sub_one_eq_mod]
        have : (v.emod 18446744073709551616) % 4 = v % 4 := Int.emod_emod_of_dvd v (by decide)
        have h0 : 0 ≤ v.emod 18446744073709551616 := Int.emod_nonneg v (by decide)
        have : v % 4 = (r : Int) := h2
        omega
      rw [e1, wrapF_eq, show IntKind.i64.wrap (Int.ofNat r) = Int.ofNat r from wrap_mid (v := (r : Int)) (by omega) (by have : v % 4 = (r : Int) := h2; omega)]
    rw [← e]; exact hu
  · cases hd

/-- what the operation comes to, once the guard is by and the comparison is known -/
theorem do_eq (s : Sim B μ h w) {op : BinOp} {ty yt : TypeId} {x y : Operand} (ho : o.op = .binOp op ty x y yt) {r : Bool} (hv : deq (trB op) (some r) = some v)
    (hg : (eqGuard op ty x y (ρ x) (ρ y)).run P w = .ok () w) (h1 : ∀ k n, ρ x ≠ .int k n) (h2 : ∀ k n, ρ x ≠ .float k n) (h3 : ∀ k n m, ρ x ≠ .complex k n m) (h4 : ∀ s, ρ x ≠ .string s)
    (he : (Op.equal ty (ρ x) (ρ y)).run P w = .ok r w) : Does P B μ h w (execOp ρ o) v h := by
  obtain ⟨e1, e2⟩ := binOp_eql h1 h2 h3 h4 he
  cases op <;> simp only [trB, deq] at hv <;> first | (cases hv; done) | skip
  · cases hv
    refine does_pure s (u := .bool r) ?_ (.bool _)
    simp only [execOp, ho]
    exact run_v (by simp [hg, e1])
  · cases hv
    refine does_pure s (u := .bool (!r)) ?_ (.bool _)
    simp only [execOp, ho]
    exact run_v (by simp [hg, e2])

theorem do_bin (hO : OR μ t ρ) (s : Sim B μ h w) {op : BinOp} {ty yt : TypeId} {x y : Operand} (ho : o.op = .binOp op ty x y yt)
    (hd : dBin (trB op) (Bool.rec .no (eqOf P ty x y) (isEq op)) (trX x) (trX y) t h = some (v, h')) : Does P B μ h w (execOp ρ o) v h' := by
  have hx := hO.rel x
  have hy := hO.rel y
  unfold dBin at hd
  split at hd
  · rename_i v' hb
    cases hd
    unfold dbin at hb
    split at hb
    · rename_i k a k' b e1 e2; rw [e1] at hx; rw [e2] at hy
      have hx := hx.inv_int
      have hy := hy.inv_int
      cases hs : isShift (trB op) with
      | true =>
        rw [hs] at hb
        obtain ⟨u, hr, hv⟩ := dshiftW_sound (P := P) (μ := μ) (k' := k') hb ty w
        refine does_pure s (u := u) ?_ hv
        simp only [execOp, ho]
        exact run_v (by rw [hx, hy]; simp [guard_int, hr])
      | false =>
        rw [hs] at hb
        obtain ⟨hc, hb2⟩ := brec_some' hb
        obtain rfl := kc_inj hc
        obtain ⟨u, hr, hv⟩ := dbinI_sound (P := P) (μ := μ) hs hb2 ty w
        refine does_pure s (u := u) ?_ hv
        simp only [execOp, ho]
        exact run_v (by rw [hx, hy]; simp [guard_int, hr])
    · rename_i n a m b e1 e2; rw [e1] at hx; rw [e2] at hy
      obtain ⟨sa, ex, rfl, rfl⟩ := hx.inv_str
      obtain ⟨sb, ey, rfl, rfl⟩ := hy.inv_str
      obtain ⟨u, hr, hv⟩ := dbinS_sound (P := P) (μ := μ) hb ty w
      refine does_pure s (u := u) ?_ hv
      simp only [execOp, ho]
      exact run_v (by rw [ex, ey]; simp [guard_str, hr])
    · rename_i k a m r b nn e1 e2; rw [e1] at hx; rw [e2] at hy
      have hx := hx.inv_int
      obtain ⟨vy, hy, h1, h2, h3, h4, h5⟩ := hy.inv_res
      obtain ⟨u, hr, hv⟩ := resAdd_sound (P := P) (μ := μ) hb h1 h2 h3 h4 h5 ty w
      refine does_pure s (u := u) ?_ hv
      simp only [execOp, ho]
      exact run_v (by rw [hx, hy]; simpa [guard_int] using hr)
    · rename_i m r b nn k c e1 e2; rw [e1] at hx; rw [e2] at hy
      have hy := hy.inv_int
      obtain ⟨vx, hx, h1, h2, h3, h4, h5⟩ := hx.inv_res
      obtain ⟨u, hr, hv⟩ := resOp_sound (P := P) (μ := μ) hb h1 h2 h3 h4 h5 ty w
      refine does_pure s (u := u) ?_ hv
      simp only [execOp, ho]
      exact run_v (by rw [hx, hy]; simpa [guard_int] using hr)
    · -- '==' and '!='
      cases hq : eqd (Bool.rec .no (eqOf P ty x y) (isEq op)) (ev t (trX x)) (ev t (trX y)) with
      | none =>
        rw [hq] at hb
        exfalso
        revert hb
        unfold deq
        cases trB op <;> simp
      | some r =>
        rw [hq] at hb
        have hop : isEq op = true := by
          cases op <;> first | rfl | cases hb
        rw [hop] at hq
        change eqd (eqOf P ty x y) _ _ = some r at hq
        unfold eqOf at hq
        split at hq
        · -- bool
          rename_i hu
          change eqB _ _ = some r at hq
          have hu := under_some hu (by simp)
          have hle := fun n => leaf_b hx hy hq n hu w
          unfold eqB at hq
          split at hq
          · rename_i a b e1 e2; rw [e1] at hx; rw [e2] at hy
            have hx := hx.inv_bool; have hy := hy.inv_bool
            exact do_eq s ho hb (by rw [hx, hy]; cases op <;> rfl) (by rw [hx]; simp) (by rw [hx]; simp) (by rw [hx]; simp) (by rw [hx]; simp) (equal_run hle)
          · cases hq
        · -- slice
          rename_i e hu
          change eqS _ _ = some r at hq
          have hu := under_some hu (by simp)
          unfold eqS at hq
          split at hq
          · rename_i e1 e2; rw [e1] at hx; rw [e2] at hy; cases hq
            have hx := hx.inv_nilslice; have hy := hy.inv_nilslice
            exact do_eq s ho hb (by rw [hx, hy]; cases op <;> rfl) (by rw [hx]; simp) (by rw [hx]; simp) (by rw [hx]; simp) (by rw [hx]; simp) (by rw [hx, hy]; exact equal_run fun n => by simp [Op.equalIn, run_underlying hu])
          · rename_i e1 e2; rw [e1] at hx; rw [e2] at hy; cases hq
            have hx := hx.inv_nilslice
            obtain ⟨a, cap, hy, _⟩ := hy.inv_slice
            exact do_eq s ho hb (by rw [hx, hy]; cases op <;> rfl) (by rw [hx]; simp) (by rw [hx]; simp) (by rw [hx]; simp) (by rw [hx]; simp) (by rw [hx, hy]; exact equal_run fun n => by simp [Op.equalIn, run_underlying hu])
          · rename_i e1 e2; rw [e1] at hx; rw [e2] at hy; cases hq
            have hy := hy.inv_nilslice
            obtain ⟨a, cap, hx, _⟩ := hx.inv_slice
            exact do_eq s ho hb (by rw [hx, hy]; cases op <;> rfl) (by rw [hx]; simp) (by rw [hx]; simp) (by rw [hx]; simp) (by rw [hx]; simp) (by rw [hx, hy]; exact equal_run fun n => by simp [Op.equalIn, run_underlying hu])
          · cases hq
        · -- map
          rename_i e e' hu
          change eqM _ _ = some r at hq
          have hu := under_some hu (by simp)
          unfold eqM at hq
          split at hq
          · rename_i e1 e2; rw [e1] at hx; rw [e2] at hy; cases hq
            have hx := hx.inv_nilmap; have hy := hy.inv_nilmap
            exact do_eq s ho hb (by rw [hx, hy]; cases op <;> rfl) (by rw [hx]; simp) (by rw [hx]; simp) (by rw [hx]; simp) (by rw [hx]; simp) (by rw [hx, hy]; exact equal_run fun n => by simp [Op.equalIn, run_underlying hu])
          · rename_i e1 e2; rw [e1] at hx; rw [e2] at hy; cases hq
            have hx := hx.inv_nilmap
            obtain ⟨a, hy, _⟩ := hy.inv_map
            exact do_eq s ho hb (by rw [hx, hy]; cases op <;> rfl) (by rw [hx]; simp) (by rw [hx]; simp) (by rw [hx]; simp) (by rw [hx]; simp) (by rw [hx, hy]; exact equal_run fun n => by simp [Op.equalIn, run_underlying hu])
          · rename_i e1 e2; rw [e1] at hx; rw [e2] at hy; cases hq
            have hy := hy.inv_nilmap
            obtain ⟨a, hx, _⟩ := hx.inv_map
            exact do_eq s ho hb (by rw [hx, hy]; cases op <;> rfl) (by rw [hx]; simp) (by rw [hx]; simp) (by rw [hx]; simp) (by rw [hx]; simp) (by rw [hx, hy]; exact equal_run fun n => by simp [Op.equalIn, run_underlying hu])
          · cases hq
        · -- func
          rename_i hu
          change eqF _ _ = some r at hq
          have hu := under_some hu (by simp)
          unfold eqF at hq
          split at hq
          · rename_i e1 e2; rw [e1] at hx; rw [e2] at hy; cases hq
            have hx := hx.inv_nilfunc; have hy := hy.inv_nilfunc
            exact do_eq s ho hb (by rw [hx, hy]; cases op <;> rfl) (by rw [hx]; simp) (by rw [hx]; simp) (by rw [hx]; simp) (by rw [hx]; simp) (by rw [hx, hy]; exact equal_run fun n => by simp [Op.equalIn, run_underlying hu])
          · rename_i e1 e2; rw [e1] at hx; rw [e2] at hy; cases hq
            have hx := hx.inv_nilfunc
            obtain ⟨a, b, hy, _⟩ := hy.inv_func
            exact do_eq s ho hb (by rw [hx, hy]; cases op <;> rfl) (by rw [hx]; simp) (by rw [hx]; simp) (by rw [hx]; simp) (by rw [hx]; simp) (by rw [hx, hy]; exact equal_run fun n => by simp [Op.equalIn, run_underlying hu])
          · rename_i e1 e2; rw [e1] at hx; rw [e2] at hy; cases hq
            have hy := hy.inv_nilfunc
            obtain ⟨a, b, hx, _⟩ := hx.inv_func
            exact do_eq s ho hb (by rw [hx, hy]; cases op <;> rfl) (by rw [hx]; simp) (by rw [hx]; simp) (by rw [hx]; simp) (by rw [hx]; simp) (by rw [hx, hy]; exact equal_run fun n => by simp [Op.equalIn, run_underlying hu])
          · cases hq
        · -- pointer
          rename_i e hu
          have hu := under_some hu (by simp)
          split at hq
          · cases hq
          · rename_i hz
            change eqP _ _ = some r at hq
            unfold eqP at hq
            split at hq
            · rename_i e1 e2; rw [e1] at hx; rw [e2] at hy; cases hq
              have hx := hx.inv_nilptr; have hy := hy.inv_nilptr
              exact do_eq s ho hb (by rw [hx, hy]; cases op <;> rfl) (by rw [hx]; simp) (by rw [hx]; simp) (by rw [hx]; simp) (by rw [hx]; simp) (by rw [hx, hy]; exact equal_run fun n => by simp [Op.equalIn, run_underlying hu])
            · rename_i e1 e2; rw [e1] at hx; rw [e2] at hy; cases hq
              have hx := hx.inv_nilptr
              obtain ⟨a, hy, _⟩ := hy.inv_ptr
              exact do_eq s ho hb (by rw [hx, hy]; cases op <;> rfl) (by rw [hx]; simp) (by rw [hx]; simp) (by rw [hx]; simp) (by rw [hx]; simp) (by rw [hx, hy]; exact equal_run fun n => by simp [Op.equalIn, run_underlying hu])
            · rename_i e1 e2; rw [e1] at hx; rw [e2] at hy; cases hq
              have hy := hy.inv_nilptr
              obtain ⟨a, hx, _⟩ := hx.inv_ptr
              exact do_eq s ho hb (by rw [hx, hy]; cases op <;> rfl) (by rw [hx]; simp) (by rw [hx]; simp) (by rw [hx]; simp) (by rw [hx]; simp) (by rw [hx, hy]; exact equal_run fun n => by simp [Op.equalIn, run_underlying hu])
            · rename_i b1 o1 b2 o2 e1 e2; rw [e1] at hx; rw [e2] at hy
              obtain ⟨hbb, rfl⟩ := brec_some hq
              obtain rfl := Pos.beq_eq hbb
              obtain ⟨a, hx, ha⟩ := hx.inv_ptr
              obtain ⟨a', hy, ha'⟩ := hy.inv_ptr
              obtain ⟨m, hm, ea, eo⟩ := ha
              obtain ⟨m', hm', ea', eo'⟩ := ha'
              rw [hm] at hm'; cases hm'
              have hsz : ∀ w, (sizeOf e).run P w = .ok (cells P e) w := fun w => by
                cases hi : P.info? e with
                | some i => simp [sizeOf, typeInfo, hi, cells, Program.cellsOf]
                | none => exact absurd (by simp [cells, Program.cellsOf, hi]) hz
              have heq : (a == a') = Nat.beq o1 o2 := by
                rw [Bool.eq_iff_iff]
                constructor
                · intro hh
                  have : a = a' := by simpa using hh
                  subst this
                  have : o1 = o2 := by omega
                  simp [this]
                · intro hh
                  have : o1 = o2 := by simpa using hh
                  subst this
                  have : a.off = a'.off := by omega
                  rw [ea, ea', this]; simp
              exact do_eq s ho hb (by rw [hx, hy]; cases op <;> rfl) (by rw [hx]; simp) (by rw [hx]; simp) (by rw [hx]; simp) (by rw [hx]; simp) (by
                rw [hx, hy]
                refine equal_run fun n => ?_
                have hblk : a.block = a'.block := by rw [ea, ea']
                rw [← heq]
                simp [Op.equalIn, run_underlying hu, hsz, hz, sameAddr]
                intro hh
                exact absurd hblk hh)
            · cases hq
        · -- interface
          rename_i ms hu
          have hu := under_some hu (by simp)
          cases hc : or (isC x) (isC y) with
          | false => rw [hc] at hq; cases hq
          | true =>
            rw [hc] at hq
            change eqI _ _ = some r at hq
            unfold eqI at hq
            split at hq
            · rename_i e1 e2; rw [e1] at hx; rw [e2] at hy; cases hq
              have hx := hx.inv_nilif; have hy := hy.inv_nilif
              refine do_eq s ho hb ?_ (by rw [hx]; simp) (by rw [hx]; simp) (by rw [hx]; simp) (by rw [hx]; simp) (by rw [hx, hy]; exact equal_run fun n => by simp [Op.equalIn, run_underlying hu])
              rw [hx, hy]
              cases x <;> cases y <;> first | (cases op <;> rfl) | cases hc
            · rename_i e1 e2; rw [e1] at hx; rw [e2] at hy; cases hq
              have hx := hx.inv_nilif
              obtain ⟨a, hy, _⟩ := hy.inv_iface
              exact do_eq s ho hb (by rw [hx, hy]; cases op <;> rfl) (by rw [hx]; simp) (by rw [hx]; simp) (by rw [hx]; simp) (by rw [hx]; simp) (by rw [hx, hy]; exact equal_run fun n => by simp [Op.equalIn, run_underlying hu])
            · rename_i e1 e2; rw [e1] at hx; rw [e2] at hy; cases hq
              have hy := hy.inv_nilif
              obtain ⟨a, hx, _⟩ := hx.inv_iface
              exact do_eq s ho hb (by rw [hx, hy]; cases op <;> rfl) (by rw [hx]; simp) (by rw [hx]; simp) (by rw [hx]; simp) (by rw [hx]; simp) (by rw [hx, hy]; exact equal_run fun n => by simp [Op.equalIn, run_underlying hu])
            · cases hq
        · -- struct
          rename_i fs hu
          split at hq
          · rename_i hgt
            split at hq
            · rename_i l hl
              change eqA (cells P ty) l _ _ = some r at hq
              unfold eqA at hq
              split at hq
              · rename_i xs ys e1 e2; rw [e1] at hx; rw [e2] at hy
                obtain ⟨vx, hx, lx, _⟩ := hx.inv_agg
                obtain ⟨vy, hy, ly, _⟩ := hy.inv_agg
                obtain ⟨hc, hq⟩ := brec_some' hq
                obtain ⟨c1, c2⟩ := and_t hc
                have c1 : xs.length = cells P ty := by rw [← len_eq]; exact Nat.eq_of_beq_eq_true c1
                have c2 : ys.length = cells P ty := by rw [← len_eq]; exact Nat.eq_of_beq_eq_true c2
                have d1 := lx.length
                have d2 := ly.length
                have hg : isAg P ty = true := by simp [isAg, hu]
                have p1 : partOf P ty vx.toList 0 = .agg vx := by
                  unfold partOf; rw [if_pos hg, List.drop_zero, List.take_of_length_le (by omega)]
                have p2 : partOf P ty vy.toList 0 = .agg vy := by
                  unfold partOf; rw [if_pos hg, List.drop_zero, List.take_of_length_le (by omega)]
                have key := eqOffs_sound (P := P) 8 ty 0 l hl 9992 xs ys vx.toList vy.toList r w lx ly (by omega) (by omega) hq
                rw [p1, p2] at key
                refine do_eq s ho hb (by rw [hx, hy]; exact run_eqGuard_agg w op ty x y vx vy hgt) (by rw [hx]; simp) (by rw [hx]; simp) (by rw [hx]; simp) (by rw [hx]; simp) ?_
                rw [hx, hy]
                exact key
              · cases hq
            · cases hq
          · cases hq
        · cases hq
  · cases hd
end
end Go.Dm

namespace Go.Dm

section
variable {P : Program} {B : Nat} {μ : Mu} {h h' : Hp} {w : World} {t : Tm} {ρ : Operand → Value} {v : DV} {o : Oper}

theorem do_notb (hO : OR μ t ρ) (s : Sim B μ h w) {ty : TypeId} {x : Operand} (ho : o.op = .unOp .not ty x) (hd : dNotb (trX x) t h = some (v, h')) : Does P B μ h w (execOp ρ o) v h' := by
  have hx := hO.rel x
  unfold dNotb at hd
  split at hd
  · rename_i b e; rw [e] at hx; cases hd
    refine does_pure s (u := .bool !b) ?_ (.bool _)
    simp only [execOp, ho]
    exact run_v (by rw [hx.inv_bool]; rfl)
  · cases hd
theorem do_neg (hO : OR μ t ρ) (s : Sim B μ h w) {ty : TypeId} {x : Operand} (ho : o.op = .unOp .neg ty x) (hd : dNeg (trX x) t h = some (v, h')) : Does P B μ h w (execOp ρ o) v h' := by
  have hx := hO.rel x
  unfold dNeg at hd
  split at hd
  · rename_i k n e; rw [e] at hx; cases hd
    rw [wrapF_eq]
    refine does_pure s (u := .int k (k.wrap (0 - n))) ?_ (.int _ _)
    simp only [execOp, ho]
    exact run_v (by rw [hx.inv_int]; rfl)
  · cases hd
theorem do_compl (hO : OR μ t ρ) (s : Sim B μ h w) {ty : TypeId} {x : Operand} (ho : o.op = .unOp .xor ty x) (hd : dCompl (trX x) t h = some (v, h')) : Does P B μ h w (execOp ρ o) v h' := by
  have hx := hO.rel x
  unfold dCompl at hd
  split at hd
  · rename_i k n e; rw [e] at hx; cases hd
    rw [ibits_eq k Nat.xor (· ^^^ ·) (fun a b => by first | (simp; done) | (simp; rfl))]
    have hk : ((kSigned k).rec (Int.ofNat (kTop k)) (Int.negSucc 0) : Int) = if k.signed then -1 else k.max := by cases k <;> rfl
    rw [hk]
    refine does_pure s ?_ (.int _ _)
    simp only [execOp, ho]
    exact run_v (by rw [hx.inv_int]; first | rfl | simp [Op.unary, Op.intBits])
  · cases hd
theorem do_toInt (hO : OR μ t ρ) (s : Sim B μ h w) {src dst : TypeId} {k k' : IntKind} {x : Operand} (hs : under P src = .int k') (hdst : under P dst = .int k) (ho : o.op = .convert src dst x)
    (hd : dToInt k (trX x) t h = some (v, h')) : Does P B μ h w (execOp ρ o) v h' := by
  have hx := hO.rel x
  unfold dToInt at hd
  split at hd
  · rename_i k2 n e; rw [e] at hx; cases hd
    rw [wrapF_eq]
    refine does_pure s (u := .int k (k.wrap n)) ?_ (.int _ _)
    simp only [execOp, ho]
    exact run_v (by rw [hx.inv_int]; simp [convert, run_underlying (under_some hs (by simp)), run_underlying (under_some hdst (by simp)), Conv.intToInt])
  · cases hd
theorem do_same (hO : OR μ t ρ) (s : Sim B μ h w) {src dst : TypeId} {x : Operand} (hs : under P src = .string) (hdst : under P dst = .string) (ho : o.op = .convert src dst x)
    (hd : dSame (trX x) t h = some (v, h')) : Does P B μ h w (execOp ρ o) v h' := by
  have hx := hO.rel x
  unfold dSame at hd
  split at hd
  · rename_i n z e; rw [e] at hx; cases hd
    obtain ⟨b, eb, _⟩ := hx.inv_str
    refine does_pure s (u := ρ x) ?_ hx
    simp only [execOp, ho]
    exact run_v (by rw [eb]; simp [convert, run_underlying (under_some hs (by simp)), run_underlying (under_some hdst (by simp))])
  · cases hd

/-! ### []byte and string -/
theorem run_cap (P : Program) (w : World) (need old : Nat) (e : TypeId) : ∃ cap, need ≤ cap ∧ (choose (.appendCap need old e)).run P w = .ok cap { w with drawn := w.drawn + 1 } :=
  ⟨need + w.tape w.drawn (.appendCap need old e) % (2 ^ 63 - need), Nat.le_add_right _ _, rfl⟩
theorem mark_heap (P : Program) {w : World} {g p : Nat} {cs : Array Value} {ty : Nat} {fz : Nat × Nat} (hg : w.heap[g]? = some (.cells cs ty fz)) :
    (markStringish ⟨g, p, none⟩).run P w = .ok () (w.freeze ⟨g, cs.size, none⟩ 1) := by
  have hsh : w.shape? g = some (ty, cs.size) := by simp [World.shape?, hg]
  simp [markStringish, shape, Sem.run, hsh, freeze]
theorem freeze_heap {w : World} {g p n : Nat} {cs : Array Value} {ty : Nat} {fz : Nat × Nat} (hn : n ≠ 0) (hg : w.heap[g]? = some (.cells cs ty fz)) :
    (w.freeze ⟨g, p, none⟩ n).heap[g]? = some (.cells cs ty (if fz.1 == fz.2 then (p, p + n) else (min fz.1 p, max fz.2 (p + n)))) := by
  unfold World.freeze
  rw [if_neg hn]
  have hlt : g < w.heap.size := (Array.getElem?_eq_some_iff.1 hg).1
  have hv : w.heap[g] = .cells cs ty fz := (Array.getElem?_eq_some_iff.1 hg).2
  simp only [Array.getElem?_modify, if_true]
  rw [Array.getElem?_eq_getElem hlt, hv]
  obtain ⟨a, b⟩ := fz
  simp
theorem freeze_ne {w : World} {g p n r : Nat} (h : r ≠ g) : (w.freeze ⟨g, p, none⟩ n).heap[r]? = w.heap[r]? := by
  unfold World.freeze
  split
  · rfl
  · simp only [Array.getElem?_modify]
    rw [if_neg (Ne.symm h)]
theorem freeze_size (w : World) (a : Addr) (n : Nat) : (w.freeze a n).heap.size = w.heap.size := by
  unfold World.freeze; split <;> simp
theorem freeze_os (w : World) (a : Addr) (n : Nat) : (w.freeze a n).os = w.os ∧ (w.freeze a n).tape = w.tape ∧ (w.freeze a n).output = w.output := by
  unfold World.freeze; split <;> exact ⟨rfl, rfl, rfl⟩

theorem do_toStr (hO : OR μ t ρ) (s : Sim B μ h w) {src dst e : TypeId} {x : Operand} (hs : under P src = .slice e) (he : under P e = .int .u8) (hdst : under P dst = .string) (ho : o.op = .convert src dst x)
    (hd : dToStr (trX x) t h = some (v, h')) : Does P B μ h w (execOp ρ o) v h' := by
  have hx := hO.rel x
  have hs := under_some hs (by simp)
  have he := under_some he (by simp)
  have hdst := under_some hdst (by simp)
  have conv : ∀ a l c, (convert src dst (.slice a l c)).run P w = (Conv.bytesToString (.slice a l c)).run P w := fun a l c => run_convert_bytes_string w src dst e a l c hs he hdst
  unfold dToStr at hd
  split at hd
  · rename_i e1; rw [e1] at hx; cases hd
    refine does_pure s (u := .string .empty) ?_ (.str .empty rfl rfl)
    simp only [execOp, ho]
    exact run_v (by rw [hx.inv_nilslice, conv]; rfl)
  · rename_i b p n c ex sz e1; rw [e1] at hx
    obtain ⟨a, cap, ea, ha, hn, _, _⟩ := hx.inv_slice
    split at hd
    · cases hd
      refine does_pure s (u := .string .empty) ?_ (.str .empty rfl rfl)
      simp only [execOp, ho]
      exact run_v (by rw [ea, conv]; simp [Conv.bytesToString, loadCells, loadCellsFrom])
    · rename_i n
      split at hd
      · rename_i l hl
        split at hd
        · rename_i z hz
          cases hd
          obtain ⟨us, hlen, hr, hc, _⟩ := read_sound s (ha.resolve_left (by omega)).AR hl
          obtain ⟨bs, rfl, rfl, hbl⟩ := bytesOk_rel hr hz
          have hbl' : bs.length = n + 1 := by rw [← hlen]; simp [byteCells]
          have hload := run_loads P w a (byteCells bs) (n + 1) hlen hc
          have e2 : byteCells bs = (bs.map fun b => (b.toNat : Int)).map (Value.int .u8) := by simp [byteCells]
          rw [e2] at hload
          have hrun := run_bytesToString w a (n + 1) cap _ hload
          have fold : ∀ (l : List UInt8) (z : ByteArray), ((l.map fun b => (b.toNat : Int)).foldl (fun r n => r.push (UInt8.ofNat n.toNat)) z).data.toList = z.data.toList ++ l := by
            intro l
            induction l with
            | nil => intro z; simp
            | cons b l ih => intro z; simp only [List.map_cons, List.foldl_cons]; rw [ih]; simp
          refine does_pure s ?_ (VR.str' (l := bs) (fold bs .empty) hbl'.symm rfl)
          simp only [execOp, ho]
          exact run_v (by rw [ea, conv]; exact hrun)
        · cases hd
      · cases hd
  · cases hd

theorem do_toBytes (hO : OR μ t ρ) (s : Sim B μ h w) {src dst e : TypeId} {x : Operand} (hs : under P src = .string) (hdst : under P dst = .slice e) (he : under P e = .int .u8) (ho : o.op = .convert src dst x)
    (hd : dToBytes e (trX x) t h = some (v, h')) (gap : Gap μ h h') : Does P B μ h w (execOp ρ o) v h' := by
  have hx := hO.rel x
  have hs := under_some hs (by simp)
  have he := under_some he (by simp)
  have hdst := under_some hdst (by simp)
  unfold dToBytes at hd
  split at hd
  · rename_i n z e1; rw [e1] at hx
    obtain ⟨hb, hd⟩ := brec_some hd
    cases hd
    have hb := big_le hb
    obtain ⟨sb, ea, rfl, rfl⟩ := hx.inv_str
    obtain ⟨cap, hcap, hch⟩ := run_cap P w sb.size 0 e
    have hsz : sb.data.toList.length = sb.size := by simp
    let w1 : World := { w with drawn := w.drawn + 1 }
    let cs : Array Value := (sb.data.map fun b => Value.int .u8 b.toNat) ++ Array.replicate (cap - sb.size) (.int .u8 0)
    have hcs : cs.size = cap := by
      have : sb.data.size = sb.size := rfl
      simp [cs]; omega
    have s1 : Sim B μ h w1 := s.same rfl
    let w2 := w1.alloc (.cells cs e)
    have hg : w2.heap[w.heap.size]? = some (.cells cs e) := heap_alloc_new w1 _
    let w3 := w2.freeze ⟨w.heap.size, cs.size, none⟩ 1
    have hg3 : w3.heap[w.heap.size]? = some (.cells cs e (cs.size, cs.size + 1)) := freeze_heap (by decide) hg
    have hf : μ h.next = none := gap h.next (Nat.le_refl _) (by rw [Hp.next_new]; omega)
    have hone : ∀ v ∈ cs.toList, v.oneCell' = true := by
      intro v hv
      simp only [cs, Array.toList_append, List.mem_append, Array.toList_map, List.mem_map, Array.toList_replicate, List.mem_replicate] at hv
      rcases hv with ⟨b, _, rfl⟩ | ⟨_, rfl⟩ <;> rfl
    have hrel := scells_rel μ sb.data.toList
    have hcells : ∀ d, d < sb.data.toList.length → VR μ (at_ (wrn (scells sb.data.toList.length (enc sb.data.toList)) 0 .leaf) d) (cs.getD (0 + (d - 0)) Go.undef) := by
      intro d hd
      have hl := hrel.length
      have hl2 : (byteCells sb.data.toList).length = sb.data.toList.length := by simp [byteCells]
      rw [at_wrn _ 0 _ d (by rw [hl, hl2]; omega), if_pos (by rw [hl, hl2]; omega)]
      have := hrel.get (d - 0) Go.undef
      rw [show cs.getD (0 + (d - 0)) Go.undef = (byteCells sb.data.toList).getD (d - 0) Go.undef from ?_]
      · exact this
      · simp only [Nat.zero_add, Nat.sub_zero, cs, byteCells, Array.getD_eq_getD_getElem?, List.getD_eq_getElem?_getD]
        congr 1
        rw [Array.getElem?_append_left (by simpa using hd)]
        simp
    -- the block as it stands behind the mark
    have hlen : sb.data.toList.length ≤ cs.size := by rw [hcs, hsz]; exact hcap
    obtain ⟨q1, q2, q3⟩ := freeze_os w2 ⟨w.heap.size, cs.size, none⟩ 1
    obtain ⟨hs3, hst3⟩ := new_block' (u := w3) s1 hf (.cells e 0 sb.data.toList.length .marked (wrn (scells sb.data.toList.length (enc sb.data.toList)) 0 .leaf)) 0 cs.size q1 q2 q3
      (by rw [freeze_size]; show (w.heap.push _).size = _; simp; rfl) (fun r hr => by rw [freeze_ne (fun e => by rw [e] at hr; exact Nat.lt_irrefl _ hr)]; exact heap_alloc_old w1 _ hr)
      ⟨rfl, Nat.zero_le _, hb, by simpa using hlen, cs, _, hg3, rfl, fun d _ hd => hcells d hd, hone, fun _ => ⟨s.base, fun _ => rfl⟩, .inr rfl⟩
    have hm := Mu.set_same μ h.next ⟨w.heap.size, 0, 0, cs.size⟩
    have st0 : Step μ h w μ h w1 := Step.same μ h rfl rfl rfl rfl
    refine ⟨.slice (some ⟨w.heap.size, 0, none⟩) sb.size cap, w3, _, .inl ?_, st0.trans s1.top hst3, hs3, ?_⟩
    · simp only [execOp, ho]
      refine run_v ?_
      have hmark := mark_heap P (p := 0) hg
      rw [ea]
      have hrun : (Conv.stringToBytes e sb).run P w = .ok (.slice (some ⟨w.heap.size, 0, none⟩) sb.size cap) w3 := by
        unfold Conv.stringToBytes
        simp only [Sem.run_bind, hch, Result.andThen_ok, run_newRow]
        change ((markStringish ⟨w.heap.size, 0, none⟩).run P w2).andThen _ = _
        rw [hmark]
        rfl
      simp only [convert, Sem.run_bind, run_underlying hs, run_underlying hdst, Result.andThen_ok, run_underlying he]
      exact hrun
    · rw [hsz]
      exact .slice (.inr ⟨_, hm, rfl, rfl, by show 0 + cap * 1 ≤ cs.size; omega⟩) hcap hcap (fun e => by cases e)
  · cases hd
end
end Go.Dm
