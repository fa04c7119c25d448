/- An interpreter of the model's code, deterministic, and its soundness, part 7: copy, clear, and maps. copy, clear. Every operation that calls nothing. What kinds of operations there are: those that see no memory; those that read it; those that make a block; those that act. No condition. -/
import Derived.Test.YtlgfdnaddchlhaaGreatDoorDm6
namespace Go.Dm

section
variable {P : Program} {B : Nat} {μ : Mu} {h h' : Hp} {w : World} {t : Tm} {ρ : Operand → Value} {v : DV} {o : Oper}

theorem VR_trV (μ : Mu) (z : Value) : VR μ (trV z) z := by
  have h := trS_rel μ z
  cases z <;> first
    | (rename_i cs
       show VR μ (Bool.rec .undef (.agg (cs.toList.map trS)) (cs.toList.all oneC)) _
       cases hc : cs.toList.all oneC
       · exact .undef _
       · exact .agg (trL_rel μ _) fun v hv => by rw [← oneC_eq]; exact List.all_eq_true.1 hc v hv)
    | exact h

def keyD : DLeaf → TypeDesc → Prop
  | .i, .int _ | .s, .string | .b, .bool => True
  | _, _ => False
theorem keyOf_spec {key : TypeId} {lf : DLeaf} (h : keyOf P key = some lf) : ∃ d, P.underlying key = some d ∧ keyD lf d := by
  unfold keyOf at h
  cases hu : P.underlying key with
  | none => simp [under, hu] at h
  | some d =>
    simp only [under, hu, Option.getD_some] at h
    refine ⟨d, rfl, ?_⟩
    cases d <;> simp at h <;> subst h <;> trivial

theorem bbeq (a b : ByteArray) : (a == b) = (a.data == b.data) := by cases a; cases b; rfl
theorem toList_beq (a b : ByteArray) : (a.toList == b.toList) = (a == b) := by
  rw [bbeq, Bool.eq_iff_iff, ByteArray.toList_eq, ByteArray.toList_eq]
  simp
theorem bbeq_eq {a b : ByteArray} (h : (a == b) = true) : a = b := by
  rw [bbeq] at h
  cases a; cases b; simp at h; rw [h]
theorem bbeq_refl (a : ByteArray) : (a == a) = true := by rw [bbeq]; simp
theorem sameNow_sound {lf : DLeaf} {d : TypeDesc} (hd : keyD lf d) {x y : DV} {u v : Value} (hx : VR μ x u) (hy : VR μ y v) {r : Bool} (he : eqL lf x y = some r) :
    Instr.sameNow d u v = some r ∧ (r = true → Instr.sameBits 10000 v u = true) := by
  cases lf with
  | b =>
    cases d <;> simp [keyD] at hd
    change eqB x y = some r at he
    unfold eqB at he
    split at he
    · rename_i a b
      rw [hx.inv_bool, hy.inv_bool]
      cases he
      cases a <;> cases b <;> exact ⟨rfl, by simp [Instr.sameBits]⟩
    · cases he
  | i =>
    cases d <;> simp [keyD] at hd
    change eqInt x y = some r at he
    unfold eqInt at he
    split at he
    · rename_i k a k' b
      rw [hx.inv_int, hy.inv_int]
      replace he := brec_some he
      obtain ⟨hk, he⟩ := he
      obtain rfl := kc_inj hk
      have e : ieq a b = (a == b) := by rw [ieq_eq]
      subst he
      refine ⟨by simp [Instr.sameNow, e], fun h => ?_⟩
      rw [e] at h
      have : a = b := by simpa using h
      subst this
      simp [Instr.sameBits]
    · cases he
  | s =>
    cases d <;> simp [keyD] at hd
    change eqStr x y = some r at he
    unfold eqStr at he
    split at he
    · rename_i n a m b
      obtain ⟨s1, rfl, e1, e2⟩ := hx.inv_str
      obtain ⟨s2, rfl, e3, e4⟩ := hy.inv_str
      cases he
      have key : (and (Nat.beq n m) (Nat.beq a b)) = (s1 == s2) := by rw [e1, e2, e3, e4]; show (Nat.beq _ _ && Nat.beq _ _) = _; rw [str_eq_iff]; exact toList_beq s1 s2
      refine ⟨by simp [Instr.sameNow, key], fun h => ?_⟩
      rw [key] at h
      have := bbeq_eq h
      subst this
      simp [Instr.sameBits, bbeq_refl]
    · cases he

theorem find_sound {lf : DLeaf} {d : TypeDesc} (hd : keyD lf d) {x : DV} {u : Value} (hx : VR μ x u) {es : List (DV × DV)} {ents : List MapEntry} (he : ER μ es ents) : ∀ (i : Nat) {r : Option DV}, find lf es x = some r →
    match r with
    | none => Instr.findNow d u ents i = some none ∧ ∀ y yv c, VR μ y yv → ER μ (update lf es x y) (ents ++ [{ key := u, val := yv, born := c }])
    | some z => ∃ j e, Instr.findNow d u ents i = some (some (i + j, e.val)) ∧ ents[j]? = some e ∧ VR μ z e.val ∧ Instr.sameBits 10000 e.key u = true ∧
        ∀ y yv, VR μ y yv → ER μ (update lf es x y) (ents.modify j fun e => { e with key := u, val := yv }) := by
  induction he with
  | nil =>
    intro i r hr
    cases hr
    exact ⟨rfl, fun y yv c hy => .cons hx hy .nil⟩
  | @cons k z e l ents hk hv t ih =>
    intro i r hr
    change (match eqL lf x k with
      | some true => some (some z)
      | some false => find lf l x
      | none => none) = some r at hr
    have hup : ∀ y, update lf ((k, z) :: l) x y = match eqL lf x k with
      | some true => (x, y) :: l
      | _ => (k, z) :: update lf l x y := fun y => rfl
    cases hq : eqL lf x k with
    | none => rw [hq] at hr; cases hr
    | some b =>
      obtain ⟨h1, h2⟩ := sameNow_sound hd hx hk hq
      rw [hq] at hr
      cases b with
      | true =>
        cases hr
        refine ⟨0, e, by simp [Instr.findNow, h1], rfl, hv, h2 rfl, fun y yv hy => ?_⟩
        rw [hup, hq]
        exact .cons hx hy t
      | false =>
        have := ih (i + 1) hr
        cases r with
        | none =>
          refine ⟨by simp [Instr.findNow, h1, this.1], fun y yv c hy => ?_⟩
          rw [hup, hq]
          exact .cons hk hv (this.2 y yv c hy)
        | some z' =>
          obtain ⟨j, e', g1, g2, g3, g4, g5⟩ := this
          refine ⟨j + 1, e', by simp only [Instr.findNow, h1, g1]; rw [show i + (j + 1) = i + 1 + j by omega], by simpa using g2, g3, g4, fun y yv hy => ?_⟩
          rw [hup, hq]
          exact .cons hk hv (g5 y yv hy)

theorem run_checkKey' {lf : DLeaf} {d : TypeDesc} (hd : keyD lf d) {key : TypeId} (hk : P.underlying key = some d) (b : Bool) (n : Nat) (u : Value) (w : World) : (Instr.checkKey b (n + 1) key u).run P w = .ok () w := by
  cases lf <;> cases d <;> simp [keyD] at hd <;> simp [Instr.checkKey, run_underlying hk]
theorem run_checkKey {lf : DLeaf} {d : TypeDesc} (hd : keyD lf d) {key : TypeId} (hk : P.underlying key = some d) (b : Bool) (u : Value) (w : World) : (Instr.checkKey b 10000 key u).run P w = .ok () w :=
  run_checkKey' hd hk b 9999 u w
theorem run_findKey {d : TypeDesc} {key : TypeId} (hk : P.underlying key = some d) {u : Value} {ents : List MapEntry} {q : Option (Nat × Value)} (hq : Instr.findNow d u ents 0 = some q) (w : World) : (Instr.findKey key u ents).run P w = .ok q w := by
  simp [Instr.findKey, run_underlying hk, hq]

theorem do_lookup (hO : OR μ t ρ) (s : Sim B μ h w) {ty key e : TypeId} {lf : DLeaf} {z : Value} {x k : Operand} {ok : Bool} (hu : under P ty = .map key e) (hlf : keyOf P key = some lf) (hz : zero P e = some z) (ho : o.op = .lookup ty x k ok)
    (hd : dLookup lf (trV z) (trX x) (trX k) ok t h = some (v, h')) : Does P B μ h w (execOp ρ o) v h' := by
  have hx := hO.rel x
  have hk := hO.rel k
  have hun := under_some hu (by simp)
  obtain ⟨d, hkd, hdd⟩ := keyOf_spec hlf
  obtain ⟨i, hi, hiz, hz1⟩ := zero_some hz
  have hzv : ∀ w, (zeroValue e).run P w = .ok z w := fun w => run_zero hz w
  have hck : ∀ b w, (Instr.checkKey b 10000 key (ρ k)).run P w = .ok () w := fun b w => run_checkKey hdd hkd b _ w
  have hex : ∀ w, (execOp ρ o).run P w = (do pure (.value (← Instr.lookup ty (ρ x) (ρ k) ok)) : Sem Next).run P w := fun w => by simp only [execOp, ho]
  have fin : ∀ {ents : Array MapEntry} {es : List (DV × DV)} {r : Option DV}, ER μ es ents.toList → find lf es (ev t (trX k)) = some r → ((ρ x = .map none ∧ ents = #[]) ∨ ∃ b clock, ρ x = .map (some b) ∧ w.heap[b]? = some (.map ents clock)) →
      ∃ u, (Instr.lookup ty (ρ x) (ρ k) ok).run P w = .ok (if ok then .tuple #[u, .bool r.isSome] else u) w ∧ VR μ (r.getD (trV z)) u := by
    intro ents es r her hr hes
    have := find_sound hdd hk her 0 hr
    cases r with
    | none =>
      refine ⟨z, ?_, VR_trV μ z⟩
      rcases hes with ⟨hes, rfl⟩ | ⟨b, clock, hes, hb⟩
      · have h1 : Instr.findNow d (ρ k) [] 0 = some none := this.1
        simp only [Instr.lookup, Sem.run_bind, run_underlying hun, Result.andThen_ok, hes, hck, run_findKey hkd h1, hzv, Sem.run_pure, Option.isSome_none]
      · simp only [Instr.lookup, Sem.run_bind, run_underlying hun, Result.andThen_ok, hes, run_getMap hb, hck, run_findKey hkd this.1, hzv, Sem.run_pure, Option.isSome_none]
    | some y =>
      obtain ⟨j, e', g1, g2, g3, _⟩ := this
      refine ⟨e'.val, ?_, g3⟩
      rcases hes with ⟨hes, rfl⟩ | ⟨b, clock, hes, hb⟩
      · cases g1
      · simp only [Instr.lookup, Sem.run_bind, run_underlying hun, Result.andThen_ok, hes, run_getMap hb, hck, run_findKey hkd g1, Sem.run_pure, Option.isSome_some]
  have out : ∀ {r : Option DV} {u : Value}, (Instr.lookup ty (ρ x) (ρ k) ok).run P w = .ok (if ok then .tuple #[u, .bool r.isSome] else u) w → VR μ (r.getD (trV z)) u →
      (match r with | some v => some ((ok.rec v (.tup [v, .bool true]) : DV), h) | none => some ((ok.rec (trV z) (.tup [trV z, .bool false]) : DV), h)) = some (v, h') → Does P B μ h w (execOp ρ o) v h' := by
    intro r u hr hv hd
    have : ∀ y, VR μ y u → (r.isSome = true → (ok.rec y (.tup [y, .bool true]) : DV) = v) → (r.isSome = false → (ok.rec y (.tup [y, .bool false]) : DV) = v) → h' = h → Does P B μ h w (execOp ρ o) v h' := by
      intro y hy e1 e2 e3
      subst e3
      refine does_pure s (u := if ok then .tuple #[u, .bool r.isSome] else u) (by rw [hex]; exact run_v hr) ?_
      cases ok with
      | false =>
        cases hrs : r.isSome with
        | true => rw [← e1 hrs]; exact hy
        | false => rw [← e2 hrs]; exact hy
      | true =>
        cases hrs : r.isSome with
        | true => rw [← e1 hrs]; exact .tup (.cons hy (.cons (.bool true) .nil))
        | false => rw [← e2 hrs]; exact .tup (.cons hy (.cons (.bool false) .nil))
    cases r with
    | none => cases hd; exact this _ hv (fun e => by cases e) (fun _ => rfl) rfl
    | some y => cases hd; exact this _ hv (fun _ => rfl) (fun e => by cases e) rfl
  unfold dLookup at hd
  cases hm : ev t (trX x) <;> rw [hm] at hx hd <;> try (cases hd; done)
  case nilmap =>
    cases hf : find lf [] (ev t (trX k)) with
    | none => cases hf
    | some r =>
      obtain ⟨u, hr, hv⟩ := fin (ents := #[]) .nil hf (.inl ⟨hx.inv_nilmap, rfl⟩)
      refine out hr hv ?_
      change (match find lf [] (ev t (trX k)) with
        | some (some v) => some ((ok.rec v (.tup [v, .bool true]) : DV), h)
        | some none => some ((ok.rec (trV z) (.tup [trV z, .bool false]) : DV), h)
        | none => none) = some (v, h') at hd
      rw [hf] at hd
      cases r <;> exact hd
  case map b =>
    obtain ⟨m, ea, hmm⟩ := hx.inv_map
    cases hg : h.m.get b with
    | none => simp only [hg] at hd; cases hd
    | some ob =>
      cases ob with
      | cells ty lo hi own ct => simp only [hg] at hd; cases hd
      | mapo es =>
        simp only [hg] at hd
        obtain ⟨ents, clock, h1, _, h3⟩ := s.mapAt hmm hg
        cases hf : find lf es (ev t (trX k)) with
        | none => rw [hf] at hd; cases hd
        | some r =>
          obtain ⟨u, hr, hv⟩ := fin h3 hf (.inr ⟨_, _, ea, h1⟩)
          refine out hr hv ?_
          rw [hf] at hd
          cases r <;> exact hd

theorem do_mapUpdate (hO : OR μ t ρ) (s : Sim B μ h w) {ty key e : TypeId} {lf : DLeaf} {m k x : Operand} (hu : under P ty = .map key e) (hlf : keyOf P key = some lf) (ho : o.op = .mapUpdate ty m k x)
    (hd : dMapUpdate lf (trX m) (trX k) (trX x) t h = some (v, h')) : Does P B μ h w (execOp ρ o) v h' := by
  have hm := hO.rel m
  have hk := hO.rel k
  have hx := hO.rel x
  have hun := under_some hu (by simp)
  obtain ⟨d, hkd, hdd⟩ := keyOf_spec hlf
  have hck : ∀ b w, (Instr.checkKey b 10000 key (ρ k)).run P w = .ok () w := fun b w => run_checkKey hdd hkd b _ w
  have hex : ∀ w, (execOp ρ o).run P w = (do Instr.mapUpdate ty (ρ m) (ρ k) (ρ x); pure .skip : Sem Next).run P w := fun w => by simp only [execOp, ho]
  unfold dMapUpdate at hd
  cases hme : ev t (trX m) <;> rw [hme] at hm hd <;> try (cases hd; done)
  case map b =>
    obtain ⟨mb, ea, hmm⟩ := hm.inv_map
    cases hg : h.m.get b with
    | none => simp only [hg] at hd; cases hd
    | some ob =>
      cases ob with
      | cells ty lo hi own ct => simp only [hg] at hd; cases hd
      | mapo es =>
        simp only [hg] at hd
        obtain ⟨ents, clock, h1, hB, h3⟩ := s.mapAt hmm hg
        have hlt := (Array.getElem?_eq_some_iff.1 h1).1
        have setRun : ∀ o', (setObj mb.r o').run P w = .ok () { w with heap := w.heap.setIfInBounds mb.r o' } := fun o' => by simp [setObj, Sem.run, h1]
        have fin : ∀ {ents' : Array MapEntry} {clock' : Nat} {es' : List (DV × DV)}, (Instr.mapUpdate ty (ρ m) (ρ k) (ρ x)).run P w = .ok () { w with heap := w.heap.setIfInBounds mb.r (.map ents' clock') } → ER μ es' ents'.toList →
            Does P B μ h w (execOp ρ o) .undef (h.set b (some (.mapo es'))) := by
          intro ents' clock' es' hr her
          obtain ⟨hs, hst⟩ := turn_block (u := { w with heap := w.heap.setIfInBounds mb.r (.map ents' clock') }) (o' := .mapo es') s hmm hg rfl rfl rfl rfl (by simp)
            (fun r hr => by simp [Array.getElem?_setIfInBounds_ne (Ne.symm hr)]) ⟨ents', clock', by simp [hlt], hB, her⟩
          exact ⟨_, _, _, .inr ⟨by rw [hex]; exact run_u hr, rfl⟩, hst, hs, .undef _⟩
        cases hf : find lf es (ev t (trX k)) with
        | none => rw [hf] at hd; cases hd
        | some r =>
          rw [hf] at hd
          cases hd
          have := find_sound hdd hk h3 0 hf
          cases r with
          | none =>
            refine fin (ents' := ents.push { key := ρ k, val := ρ x, born := clock }) (clock' := clock + 1) ?_ (by simpa using this.2 _ _ clock hx)
            simp only [Instr.mapUpdate, Sem.run_bind, run_underlying hun, Result.andThen_ok, ea, run_getMap h1, hck, run_findKey hkd this.1, setRun]
          | some y =>
            obtain ⟨j, e', g1, g2, g3, g4, g5⟩ := this
            rw [Nat.zero_add] at g1
            have g2' : ents[j]? = some e' := by simpa using g2
            refine fin (ents' := ents.modify j fun e => { e with key := ρ k, val := ρ x }) (clock' := clock) ?_ (by simpa [Array.toList_modify] using g5 _ _ hx)
            simp only [Instr.mapUpdate, Sem.run_bind, run_underlying hun, Result.andThen_ok, ea, run_getMap h1, hck, run_findKey hkd g1, Instr.keyThatStays, g2', Option.map_some, Option.getD_some, g4, if_true, Sem.run_pure, setRun]
end
end Go.Dm

namespace Go.Dm

section
variable {P : Program} {B : Nat} {μ : Mu} {h h' : Hp} {w : World} {t : Tm} {ρ : Operand → Value} {v : DV} {o : Oper}

theorem copy_src (s : Sim B μ h w) {size : Nat} {y : DV} {x : Value} (hy : VR μ y x) {m : Nat} {l : List DV} (he : source size false [] y h = some (m, l)) :
    ∃ us, LR μ l us ∧ us.length = m * size ∧ (∀ u ∈ us, u.oneCell' = true) ∧ (∀ w, (Builtin.lenOf x).run P w = .ok m w) ∧ ∀ k, k ≤ m → (Builtin.firstCells size k x).run P w = .ok (us.take (k * size)).toArray w := by
  have le : ∀ k, k ≤ m → k * size ≤ m * size := fun k hk => Nat.mul_le_mul_right _ hk
  unfold source at he
  split at he
  · cases he
    rw [hy.inv_nilslice]
    refine ⟨[], .nil, by simp, by simp, fun w => rfl, fun k hk => ?_⟩
    simp [Builtin.firstCells]
  · rename_i b p n' c ex sz'
    obtain ⟨a, cap, rfl, ha, hn, _, _⟩ := hy.inv_slice
    cases n' with
    | zero =>
      cases he
      refine ⟨[], .nil, by simp, by simp, fun w => rfl, fun k hk => ?_⟩
      obtain rfl : k = 0 := by omega
      simp [Builtin.firstCells, loadCells, loadCellsFrom]
    | succ n' =>
      obtain ⟨hb, he⟩ := brec_some' he
      cases hr : h.read b p ((n' + 1) * size) with
      | none => rw [hr] at he; cases he
      | some l' =>
        rw [hr] at he
        cases he
        obtain ⟨us, hlen, hl, hc, h1⟩ := read_sound s (ha.resolve_left (by omega)).AR hr
        refine ⟨us, hl, hlen, h1, fun w => rfl, fun k hk => ?_⟩
        refine run_loads P w a _ _ (by rw [List.length_take, hlen]; exact Nat.min_eq_left (le k hk)) fun j u hj => ?_
        rw [List.getElem?_take] at hj
        split at hj
        · exact hc j u hj
        · cases hj
  · rename_i n' x'
    obtain ⟨hb, he⟩ := brec_some he
    cases he
    have hb := Nat.eq_of_beq_eq_true hb
    obtain ⟨sb, rfl, rfl, rfl⟩ := hy.inv_str
    have hsz : sb.data.toList.length = sb.size := by simp
    refine ⟨byteCells sb.data.toList, scells_rel μ _, by rw [hb, Nat.mul_one]; simp [byteCells], byteCells_one _, fun w => by rw [hsz]; rfl, fun k hk => ?_⟩
    simp only [Builtin.firstCells, Sem.run_pure]
    congr 1
    apply Array.ext'
    subst hb
    simp [byteCells]
  · cases he
  · cases he

theorem take_eq (l : List DV) (n : Nat) : l.take n = l.take n := rfl

theorem do_copy (hO : OR μ t ρ) (s : Sim B μ h w) {c : Call} {ty u e : TypeId} {x y : Operand} (hu : under P ty = .slice e) (hk : kn P e = true) (ho : o.op = .call c) (hc : c.callee = .builtin .copy)
    (ht : c.argTypes.toList = [ty, u]) (ha : c.args.toList = [x, y]) (hd : dCopy (cells P e) (trX x) (trX y) t h = some (v, h')) : Does P B μ h w (execOp ρ o) v h' := by
  refine does_builtin ho hc fun cs => ?_
  have hx := hO.rel x
  have hy := hO.rel y
  rw [arr2 ht, arr2 ha]
  have hun := under_some hu (by simp)
  obtain ⟨d, hkd⟩ := kn_some hk
  have hsz := fun w => run_size hkd w
  unfold dCopy dcopy at hd
  cases hsrc : source (cells P e) false [] (ev t (trX y)) h with
  | none => rw [hsrc] at hd; cases hd
  | some ml =>
    obtain ⟨m, l⟩ := ml
    rw [hsrc] at hd
    obtain ⟨us, hl, hlen, h1, hlo, hfc⟩ := copy_src (P := P) s hy hsrc
    have hl0 := hlo w
    cases hxe : ev t (trX x) <;> rw [hxe] at hx hd <;> try (cases hd; done)
    case nilslice =>
      cases hd
      have hf0 := hfc 0 (Nat.zero_le _)
      refine does_pure s (u := .int .i64 0) (run_v ?_) (.int .i64 _)
      have e0 : Nat.min m 0 = 0 := Nat.min_zero m
      simp [Builtin.copy_, run_underlying hun, hx.inv_nilslice, hl0, hsz, hf0, goInt]
    case slice b p n q ex sz' =>
      obtain ⟨a, cap, ea, hsr, hn, _, _⟩ := hx.inv_slice
      replace hd := brec_some' hd
      obtain ⟨hb, hd⟩ := hd
      have hb := Nat.eq_of_beq_eq_true hb
      have hf := hfc (Nat.min m n) (Nat.min_le_left m n)
      cases hmin : Nat.min m n with
      | zero =>
        rw [hmin] at hd hf
        cases hd
        refine does_pure s (u := .int .i64 0) (run_v ?_) (.int .i64 _)
        simp [Builtin.copy_, run_underlying hun, ea, hl0, hsz, hmin, hf, goInt, storeCells]
      | succ k =>
        rw [hmin] at hd hf
        simp only at hd
        cases hw : h.write b p (l.take ((k + 1) * cells P e)) with
        | none => rw [hw] at hd; cases hd
        | some h1' =>
          rw [hw] at hd; cases hd
          have hn0 : k + 1 ≤ n := by rw [← hmin]; exact Nat.min_le_right m n
          subst hb
          have hsr := hsr.resolve_left (by omega)
          obtain ⟨w', hr, hs, hst⟩ := write_sound P s hsr.AR (hl.take ((k + 1) * cells P e)) (fun u hu => h1 u (List.mem_of_mem_take hu)) hw
          refine ⟨.int .i64 ((k + 1 : Nat) : Int), w', μ, .inl (run_v ?_), hst, hs, .int .i64 _⟩
          simp [Builtin.copy_, run_underlying hun, ea, hl0, hsz, hmin, hf, goInt, hr]

theorem do_clear (hO : OR μ t ρ) (s : Sim B μ h w) {c : Call} {ty e : TypeId} {z : Value} {x : Operand} (hu : under P ty = .slice e) (hz : zero P e = some z) (ho : o.op = .call c) (hc : c.callee = .builtin .clear)
    (ht : c.argTypes.toList = [ty]) (ha : c.args.toList = [x]) (hd : dClear (trCells z) (trX x) t h = some (v, h')) : Does P B μ h w (execOp ρ o) v h' := by
  refine does_builtin ho hc fun cs => ?_
  have hx := hO.rel x
  rw [arr1 ht, arr1 ha]
  have hun := under_some hu (by simp)
  obtain ⟨i, hi, hiz, hz1⟩ := zero_some hz
  have hzs := zero_size hz
  have hzv := fun w => run_zero hz w
  unfold dClear at hd
  cases hxe : ev t (trX x) <;> rw [hxe] at hx hd <;> try (cases hd; done)
  case nilslice =>
    cases hd
    refine does_pure s (u := .tuple #[]) (run_v ?_) (.undef _)
    simp [Builtin.clear_, run_underlying hun, hx.inv_nilslice]
  case slice b p n q ex sz' =>
    obtain ⟨a, cap, ea, hsr, hn, _, _⟩ := hx.inv_slice
    cases n with
    | zero =>
      cases hd
      refine does_pure s (u := .tuple #[]) (run_v ?_) (.undef _)
      simp [Builtin.clear_, run_underlying hun, ea]
    | succ n =>
      replace hd := brec_some' hd
      obtain ⟨hb, hd⟩ := hd
      have hb := Nat.eq_of_beq_eq_true hb
      rw [len_eq] at hb
      have hb : z.cells.size = sz' := by rw [← hb]; simp [trCells]
      cases hw : h.write b p (reps (n + 1) (trCells z)) with
      | none => simp only [hw] at hd; cases hd
      | some h1' =>
        simp only [hw] at hd; cases hd
        have hsr := hsr.resolve_left (by omega)
        obtain ⟨w', hr, hs, hst⟩ := write_sound P s hsr.AR (reps_rel μ (trL_rel μ z.cells.toList) (n + 1)) (flat_one hz1 (n + 1)) hw
        refine ⟨.tuple #[], w', μ, .inl (run_v ?_), hst, hs, .undef _⟩
        have e1 : Builtin.zeroCells z.cells (n + 1) = ((List.replicate (n + 1) z.cells.toList).flatten).toArray := range_flat z.cells (n + 1) 
        simp [Builtin.clear_, run_underlying hun, ea, hzv, e1, hr]
end
end Go.Dm

namespace Go.Dm

section
variable {P : Program} {B : Nat} {μ : Mu} {h h' : Hp} {w : World} {t : Tm} {ρ : Operand → Value} {v : DV} {o : Oper}

theorem brec_op {c : Bool} {x : DOp} {r : DV × Hp} (h0 : dop (Bool.rec .stop x c) t h = some r) : c = true ∧ dop x t h = some r := by
  cases c
  · cases h0
  · exact ⟨rfl, h0⟩
theorem brec_op' {c : Bool} {x : DOp} {r : DV × Hp} (h0 : dop (Bool.rec x .stop c) t h = some r) : c = false ∧ dop x t h = some r := by
  cases c
  · exact ⟨rfl, h0⟩
  · cases h0
theorem not_beq {a b : Nat} (h : Nat.beq a b = false) : a ≠ b := fun e => by subst e; simp at h

theorem conv_sound (hO : OR μ t ρ) (s : Sim B μ h w) {src dst : TypeId} {x : Operand} (ho : o.op = .convert src dst x) (hd : dop (trConv P src dst x) t h = some (v, h')) (gap : Gap μ h h') : Does P B μ h w (execOp ρ o) v h' := by
  unfold trConv at hd
  split at hd
  · exact do_toInt hO s (by assumption) (by assumption) ho hd
  · exact do_same hO s (by assumption) (by assumption) ho hd
  · obtain ⟨hz, hd⟩ := brec_op' hd
    exact do_toUnsafe hO s (by assumption) (not_beq hz) (by assumption) ho hd
  · obtain ⟨hz, hd⟩ := brec_op hd
    exact do_ofUnsafe hO s (by assumption) (by assumption) (not_beq (by simpa using (and_t hz).1)) ho hd
  · split at hd
    · rename_i _ _ e1 e2 h1 h2 _ h3
      replace hd := brec_op hd
      have hz : src = dst := Nat.eq_of_beq_eq_true hd.1
      subst hz
      rw [h1] at h2
      cases h2
      exact do_mark hO s h1 h3 ho hd.2
    · cases hd
  · split at hd
    · exact do_toBytes hO s (by assumption) (by assumption) (by assumption) ho hd gap
    · cases hd
  · split at hd
    · exact do_toStr hO s (by assumption) (by assumption) (by assumption) ho hd
    · cases hd
  · cases hd

theorem slice_sound (hO : OR μ t ρ) (s : Sim B μ h w) {ty : TypeId} {x : Operand} {lo hi mx : Option Operand} (ho : o.op = .slice ty x lo hi mx) (hd : dop (trSlice P ty x lo hi mx) t h = some (v, h')) : Does P B μ h w (execOp ρ o) v h' := by
  unfold trSlice at hd
  split at hd
  · split at hd
    · exact do_sliceS hO s (by assumption) ho hd
    · cases hd
  · split at hd
    · cases hd
    · rename_i hne
      obtain ⟨hk, hd⟩ := need_some hd
      refine do_sliceX hO s (by assumption) hk (fun hm => ?_) ho hd
      cases mx with
      | none => cases hm
      | some m => cases hi with
        | none => exact absurd rfl (hne m rfl)
        | some _ => rfl
  · split at hd
    · obtain ⟨hk, hd⟩ := need_some hd
      exact do_sliceA hO s (by assumption) hk ho hd
    · cases hd
  · cases hd

theorem op_sound (hO : OR μ t ρ) (s : Sim B μ h w) (hd : dop (trOp P o.op) t h = some (v, h')) (gap : Gap μ h h') : Does P B μ h w (execOp ρ o) v h' := by
  cases ho : o.op <;> rw [ho] at hd <;> try (cases hd; done)
  case move x => exact do_move hO s (.inl ho) hd
  case assign x => exact do_move hO s (.inr ho) hd
  case pick c a b => exact do_pick hO s ho hd
  case alloc e =>
    simp only [trOp] at hd
    split at hd
    · exact do_alloc (t := t) s (by assumption) ho hd gap
    · cases hd
  case box e x => exact do_box hO s ho hd gap
  case build ty ps =>
    simp only [trOp] at hd
    split at hd
    · exact do_build hO s (by assumption) (by assumption) ho hd
    · cases hd
  case buildSlice ty n ps =>
    simp only [trOp] at hd
    split at hd
    · split at hd
      · obtain ⟨hk, hd⟩ := need_some hd
        exact do_buildSlice hO s (by assumption) (by assumption) (ble hk) ho hd gap
      · cases hd
    · cases hd
  case load ty x => obtain ⟨hk, hd⟩ := need_some hd; exact do_load hO s hk ho hd
  case store ty x y => obtain ⟨hk, hd⟩ := need_some hd; exact do_store hO s hk ho hd
  case nilCheck x => exact do_nilCheck hO s ho hd
  case binOp op ty x y yt => exact do_bin hO s ho hd
  case unOp op ty x =>
    simp only [trOp] at hd
    cases op with
    | not => exact do_notb hO s ho hd
    | neg => exact do_neg hO s ho hd
    | xor => exact do_compl hO s ho hd
    | _ => cases hd
  case convert src dst x => exact conv_sound hO s ho hd gap
  case makeInterface ty x =>
    simp only [trOp] at hd
    split at hd
    · cases hd
    · cases hd
    · rename_i h1 h2
      exact do_mkIface hO s (fun ms e => h1 ms e) h2 ho hd
  case makeFunc fn a b =>
    cases fn with
    | func f => exact do_mkFunc hO s ho hd
    | _ => cases hd
  case makeMap ty r =>
    cases r with
    | none => exact do_mkMap (t := t) s ho hd gap
    | some _ => cases hd
  case makeSlice ty l c =>
    simp only [trOp] at hd
    split at hd
    · split at hd
      · exact do_mkSlice hO s (by assumption) (by assumption) ho hd gap
      · cases hd
    · cases hd
  case slice ty x lo hi mx => exact slice_sound hO s ho hd
  case fieldAddr ty x i =>
    simp only [trOp] at hd
    split at hd
    · split at hd
      · cases hd
      · exact do_fieldAddr hO s (by assumption) (by assumption) ho hd
    · cases hd
  case field ty x i =>
    simp only [trOp] at hd
    split at hd
    · obtain ⟨hk, hd⟩ := need_some hd
      exact do_field hO s (by assumption) hk ho hd
    · cases hd
  case indexAddr ty x i =>
    simp only [trOp] at hd
    split at hd
    · obtain ⟨hk, hd⟩ := need_some hd
      exact do_indexArr hO s (by assumption) hk ho hd
    · obtain ⟨hk, hd⟩ := need_some hd
      exact do_indexAddr hO s (by assumption) hk ho hd
    · cases hd
  case index ty x i =>
    simp only [trOp] at hd
    split at hd
    · obtain ⟨hk, hd⟩ := need_some hd
      exact do_indexAgg hO s (by assumption) hk ho hd
    · exact do_indexStr hO s (by assumption) ho hd
    · cases hd
  case lookup ty x k ok =>
    simp only [trOp] at hd
    split at hd
    · split at hd
      · exact do_lookup hO s (by assumption) (by assumption) (by assumption) ho hd
      · cases hd
    · cases hd
  case mapUpdate ty m k x =>
    simp only [trOp] at hd
    split at hd
    · split at hd
      · exact do_mapUpdate hO s (by assumption) (by assumption) ho hd
      · cases hd
    · cases hd
  case extract x i => exact do_extract hO s ho hd

theorem builtin_sound (hO : OR μ t ρ) (s : Sim B μ h w) {c : Call} {b : Builtin} (ho : o.op = .call c) (hc : c.callee = .builtin b) (hd : dop (trBuiltin P b c.argTypes.toList c.args.toList) t h = some (v, h')) (gap : Gap μ h h') :
    Does P B μ h w (execOp ρ o) v h' := by
  unfold trBuiltin at hd
  split at hd
  · rename_i ty x ht ha
    split at hd
    · exact do_lenS hO s (by assumption) ho hc ht ha hd
    · exact do_lenX hO s (by assumption) ho hc ht ha hd
    · exact do_lenM hO s (by assumption) ho hc ht ha hd
    · cases hd
      exact do_lenA s (.inl ⟨_, by assumption⟩) ho hc ht ha
    · split at hd
      · cases hd
        exact do_lenA s (.inr ⟨_, _, by assumption, by assumption⟩) ho hc ht ha
      · cases hd
    · cases hd
  · rename_i ty x ht ha
    split at hd
    · exact do_cap hO s (by assumption) ho hc ht ha hd
    · cases hd
  · rename_i ty u x y ht ha
    split at hd
    · split at hd
      · rename_i k hk
        split at hd
        · exact do_append hO s (by assumption) (by assumption) (by rw [hk]; simp) (.inl ⟨rfl, k, hk⟩) ho hc ht ha hd gap
        · cases hd
      · cases hd
      · rename_i hn1 hn2
        split at hd
        · exact do_append hO s (by assumption) (by assumption) hn2 (.inr ⟨rfl, hn1⟩) ho hc ht ha hd gap
        · cases hd
    · cases hd
  · rename_i ty u x y ht ha
    split at hd
    · obtain ⟨hk, hd⟩ := need_some hd
      exact do_copy hO s (by assumption) hk ho hc ht ha hd
    · cases hd
  · rename_i ty x ht ha
    split at hd
    · split at hd
      · exact do_clear hO s (by assumption) (by assumption) ho hc ht ha hd
      · cases hd
    · cases hd
  · exact do_minmax hO s true ho hc hd
  · exact do_minmax hO s false ho hc hd
  · exact do_sdata hO s ho hc (by assumption) hd
  · rename_i ty it x y ht ha
    split at hd
    · obtain ⟨hk, hd⟩ := brec_op hd
      exact do_ustr hO s (by assumption) (Nat.eq_of_beq_eq_true (and_t hk).1) ho hc ht ha hd
    · cases hd
  · cases hd
end
end Go.Dm

namespace Go.Dm

theorem brec_ite {α : Sort _} (a b : α) (c : Bool) : (Bool.rec (motive := fun _ => α) a b c) = if c = true then b else a := by cases c <;> rfl

section
variable {t : Tm} {h h' : Hp} {v : DV}

theorem pure_gen {op : DOp} (hk : kindD op = 0) (h k : Hp) : dop op t k = (dop op t h).map fun p => (p.1, k) := by
  cases op <;> try (cases hk; done)
  case move x => rfl
  case pick c a b => show dPick _ _ _ _ _ = (dPick _ _ _ _ _).map _; unfold dPick; split <;> rfl
  case stop => rfl
  case build zs parts => show dBuild _ _ _ _ = (dBuild _ _ _ _).map _; simp only [dBuild, brec_ite]; split <;> (try split) <;> rfl
  case nilCheck x => show dNilCheck _ _ _ = (dNilCheck _ _ _).map _; unfold dNilCheck; split <;> rfl
  case bin op e x y => show dBin _ _ _ _ _ _ = (dBin _ _ _ _ _ _).map _; unfold dBin; split <;> rfl
  case notb x => show dNotb _ _ _ = (dNotb _ _ _).map _; unfold dNotb; split <;> rfl
  case neg x => show dNeg _ _ _ = (dNeg _ _ _).map _; unfold dNeg; split <;> rfl
  case compl x => show dCompl _ _ _ = (dCompl _ _ _).map _; unfold dCompl; split <;> rfl
  case toInt k x => show dToInt _ _ _ _ = (dToInt _ _ _ _).map _; unfold dToInt; split <;> rfl
  case same x => show dSame _ _ _ = (dSame _ _ _).map _; unfold dSame; split <;> rfl
  case mkIface ty x => show dMkIface _ _ _ _ = (dMkIface _ _ _ _).map _; rfl
  case mkFunc f a b => rfl
  case sliceS x lo hi => show dSliceS _ _ _ _ _ = (dSliceS _ _ _ _ _).map _; unfold dSliceS; split <;> (try split) <;> (try split) <;> rfl
  case sliceX sz x lo hi mx => show dSliceX _ _ _ _ _ _ _ = (dSliceX _ _ _ _ _ _ _).map _; simp only [dSliceX, brec_ite]; split <;> (try split) <;> (try split) <;> (try split) <;> (try split) <;> rfl
  case fieldAddr off x => show dFieldAddr _ _ _ _ = (dFieldAddr _ _ _ _).map _; unfold dFieldAddr; split <;> rfl
  case field ag off sz x => show dField _ _ _ _ _ _ = (dField _ _ _ _ _ _).map _; simp only [dField, brec_ite]; split <;> (try split) <;> (try split) <;> rfl
  case indexAddr sz x i => show dIndexAddr _ _ _ _ _ = (dIndexAddr _ _ _ _ _).map _; simp only [dIndexAddr, brec_ite]; split <;> (try split) <;> (try split) <;> rfl
  case indexArr n sz x i => show dIndexArr _ _ _ _ _ _ = (dIndexArr _ _ _ _ _ _).map _; simp only [dIndexArr]; split <;> (try split) <;> (try split) <;> rfl
  case indexStr x i => show dIndexStr _ _ _ _ = (dIndexStr _ _ _ _).map _; simp only [dIndexStr]; split <;> (try split) <;> (try split) <;> rfl
  case indexAgg n ag sz x i => show dIndexAgg _ _ _ _ _ _ _ = (dIndexAgg _ _ _ _ _ _ _).map _; simp only [dIndexAgg, brec_ite]; split <;> (try split) <;> (try split) <;> (try split) <;> rfl
  case extract x i => show dExtract _ _ _ _ = (dExtract _ _ _ _).map _; simp only [dExtract, brec_ite]; split <;> (try split) <;> rfl
  case lenS x => show dLenS _ _ _ = (dLenS _ _ _).map _; unfold dLenS; split <;> rfl
  case lenX x => show dLenX _ _ _ = (dLenX _ _ _).map _; unfold dLenX; split <;> rfl
  case cap x => show dCap _ _ _ = (dCap _ _ _).map _; simp only [dCap, brec_ite]; split <;> (try split) <;> rfl
  case minmax mx l => show dMinmax _ _ _ _ = (dMinmax _ _ _ _).map _; unfold dMinmax; split <;> (try split) <;> rfl
  case sdata x => show dSdata _ _ _ = (dSdata _ _ _).map _; simp only [dSdata, brec_ite]; split <;> (try split) <;> rfl
theorem pure_spec {op : DOp} (hk : kindD op = 0) (hd : dop op t h = some (v, h')) : h' = h ∧ ∀ k, dop op t k = some (v, k) := by
  have h1 := pure_gen hk (t := t) h h
  rw [hd] at h1
  cases h1
  exact ⟨rfl, fun k => by rw [pure_gen hk h k, hd]; rfl⟩

theorem read_spec {op : DOp} (hk : kindD op = 1) (hd : dop op t h = some (v, h')) : h' = h := by
  cases op <;> try (cases hk; done)
  case load ag n a =>
    change dLoad _ _ _ _ _ = _ at hd
    simp only [dLoad, brec_ite] at hd
    split at hd
    · split at hd <;> split at hd <;> cases hd <;> rfl
    · cases hd
  case toStr x =>
    change dToStr _ _ _ = _ at hd
    unfold dToStr at hd
    repeat' (split at hd)
    all_goals (cases hd <;> rfl)
  case sliceA n sz x lo hi =>
    change dSliceA _ _ _ _ _ _ _ = _ at hd
    simp only [dSliceA, brec_ite] at hd
    repeat' (split at hd)
    all_goals (cases hd <;> rfl)
  case lookup lf z x k ok =>
    change dLookup _ _ _ _ _ _ _ = _ at hd
    unfold dLookup at hd
    split at hd
    · split at hd <;> cases hd <;> rfl
    · cases hd
  case lenM x =>
    change dLenM _ _ _ = _ at hd
    unfold dLenM at hd
    repeat' (split at hd)
    all_goals (cases hd <;> rfl)
  case toUnsafe x =>
    change dToUnsafe _ _ _ = _ at hd
    simp only [dToUnsafe, brec_ite] at hd
    repeat' (split at hd)
    all_goals (cases hd <;> rfl)
  case ofUnsafe u n x =>
    change dOfUnsafe _ _ _ _ _ = _ at hd
    simp only [dOfUnsafe, brec_ite] at hd
    repeat' (split at hd)
    all_goals (cases hd <;> rfl)

theorem newRow_spec {ty : Nat} {l : List DV} {x : DV} (hd : newRow h ty l x = some (v, h')) : ∃ o, h' = h.new o ∧ v = x ∧ o.own = true ∧ ∀ m, newRow ⟨h.next, m⟩ ty l x = some (x, Hp.new ⟨h.next, m⟩ o) := by
  unfold newRow at hd
  obtain ⟨hb, hd⟩ := brec_some hd
  cases hd
  exact ⟨_, rfl, rfl, rfl, fun m => by unfold newRow; rw [hb]⟩
theorem make_spec {op : DOp} (hk : kindD op = 2) (hd : dop op t h = some (v, h')) : ∃ o, h' = h.new o ∧ o.own = true ∧ ∀ m, dop op t ⟨h.next, m⟩ = some (v, Hp.new ⟨h.next, m⟩ o) := by
  cases op <;> try (cases hk; done)
  case alloc ty zs =>
    obtain ⟨o, h1, rfl, h2⟩ := newRow_spec (show newRow h ty zs (.ptr h.next 0) = _ from hd)
    exact ⟨o, h1, h2⟩
  case box ty n x =>
    change dBox _ _ _ _ _ = _ at hd
    unfold dBox at hd
    split at hd
    · rename_i cs hcs
      obtain ⟨hb, hd⟩ := brec_some' hd
      obtain ⟨o, h1, rfl, h2⟩ := newRow_spec hd
      refine ⟨o, h1, h2.1, fun m => ?_⟩
      show dBox _ _ _ _ _ = _
      unfold dBox
      rw [hcs]
      show (Bool.rec none _ (Nat.beq (len cs) n) : Option (DV × Hp)) = _
      rw [hb]; exact h2.2 m
    · cases hd
  case buildSlice ty zs n sz parts =>
    change dBuildSlice _ _ _ _ _ _ _ = _ at hd
    unfold dBuildSlice at hd
    split at hd
    · rename_i z hz
      obtain ⟨hb, hd⟩ := brec_some hd
      cases hd
      refine ⟨_, rfl, rfl, fun m => ?_⟩
      show dBuildSlice _ _ _ _ _ _ _ = _
      unfold dBuildSlice
      rw [hz]
      show (Bool.rec none (some _) (big (len zs)) : Option (DV × Hp)) = _
      rw [hb]
    · cases hd
  case toBytes ty x =>
    change dToBytes _ _ _ _ = _ at hd
    unfold dToBytes at hd
    split at hd
    · rename_i n s hx
      obtain ⟨hb, hd⟩ := brec_some hd
      cases hd
      refine ⟨_, rfl, rfl, fun m => ?_⟩
      show dToBytes _ _ _ _ = _
      unfold dToBytes
      rw [hx]
      show (Bool.rec none (some _) (big n) : Option (DV × Hp)) = _
      rw [hb]
    · cases hd
  case mkMap =>
    cases hd
    exact ⟨_, rfl, rfl, fun m => rfl⟩
  case mkSlice ty zs sz bytes l c =>
    change dMkSlice _ _ _ _ _ _ _ _ = _ at hd
    unfold dMkSlice at hd
    split at hd
    · rename_i k l' k' c' hl hc
      obtain ⟨hb, hd⟩ := brec_some' hd
      obtain ⟨o, h1, rfl, h2⟩ := newRow_spec hd
      refine ⟨o, h1, h2.1, fun m => ?_⟩
      show dMkSlice _ _ _ _ _ _ _ _ = _
      unfold dMkSlice
      rw [hl, hc]
      show (Bool.rec none _ (and (Nat.ble l' c') (Nat.ble (c' * (bytes + 1)) 1099511627776)) : Option (DV × Hp)) = _
      rw [hb]; exact h2.2 m
    · cases hd

theorem write_next {b : Pos} {o : Nat} {l : List DV} {h1 : Hp} (hw : h.write b o l = some h1) : h1.next = h.next := by
  unfold Hp.write at hw
  split at hw
  · obtain ⟨_, rfl⟩ := brec_some hw; rfl
  · cases hw
theorem append_next {ty sz bytes : Nat} {mk : Bool} {zs : List DV} {x y : DV} (hd : dappend ty sz bytes mk zs x y h = some (v, h')) : h.next.toN ≤ h'.next.toN := by
  unfold dappend at hd
  split at hd
  · cases hd
  · split at hd
    · split at hd <;> cases hd <;> exact Nat.le_refl _
    · split at hd
      · obtain ⟨hb, hd⟩ := brec_some' hd
        obtain ⟨o, rfl, _⟩ := newRow_spec hd
        rw [Hp.next_new]; omega
      · rename_i b p n q ex sz' 
        obtain ⟨hb, hd⟩ := brec_some' hd
        rw [brec_ite] at hd
        split at hd
        · split at hd
          · rename_i hw; cases hd; rw [write_next hw]; exact Nat.le_refl _
          · cases hd
        · cases ex
          · change (match h.m.get b with
              | some (.cells ty' lo hi own t) => _
              | _ => none) = some (v, h') at hd
            split at hd
            · obtain ⟨_, hd⟩ := brec_some hd
              cases hd
              rw [Hp.next_new]; show h.next.toN ≤ h.next.toN + 1; omega
            · cases hd
          · simp only at hd
            split at hd
            · obtain ⟨o, rfl, _⟩ := newRow_spec hd
              rw [Hp.next_new]; omega
            · cases hd
      · cases hd
theorem dop_next {op : DOp} (hd : dop op t h = some (v, h')) : h.next.toN ≤ h'.next.toN := by
  have hk : kindD op = 0 ∨ kindD op = 1 ∨ kindD op = 2 ∨ kindD op = 3 := by cases op <;> simp [kindD]
  rcases hk with hk | hk | hk | hk
  · rw [(pure_spec hk hd).1]; exact Nat.le_refl _
  · rw [read_spec hk hd]; exact Nat.le_refl _
  · obtain ⟨o, rfl, _⟩ := make_spec hk hd
    rw [Hp.next_new]; omega
  · cases op <;> try (cases hk; done)
    case store n a x =>
      change dStore _ _ _ _ _ = _ at hd
      unfold dStore at hd
      repeat' (split at hd)
      all_goals first | (cases hd; done) | (cases hd; rename_i hw; rw [write_next hw]; exact Nat.le_refl _)
    case append ty sz bytes mk zs x y => exact append_next hd
    case copy sz x y =>
      change dcopy _ _ _ _ = _ at hd
      simp only [dcopy, brec_ite] at hd
      repeat' (split at hd)
      all_goals first | (cases hd; done) | (cases hd; exact Nat.le_refl _) | (cases hd; rename_i hw; rw [write_next hw]; exact Nat.le_refl _)
    case clear zs x =>
      change dClear _ _ _ _ = _ at hd
      simp only [dClear, brec_ite] at hd
      repeat' (split at hd)
      all_goals first | (cases hd; done) | (cases hd; exact Nat.le_refl _) | (cases hd; rename_i hw; rw [write_next hw]; exact Nat.le_refl _)
    case mapUpdate lf m k x =>
      change dMapUpdate _ _ _ _ _ _ = _ at hd
      unfold dMapUpdate at hd
      repeat' (split at hd)
      all_goals first | (cases hd; done) | (cases hd; exact Nat.le_refl _)
    case ustr u x n =>
      change dUstr _ _ _ _ _ = _ at hd
      unfold dUstr at hd
      split at hd
      · cases hd; exact Nat.le_refl _
      · split at hd
        · cases hd; exact Nat.le_refl _
        · split at hd
          · rename_i own cs hg
            cases own <;> simp only [brec_ite] at hd <;> (repeat' (split at hd)) <;> first | (cases hd; done) | (cases hd; exact Nat.le_refl _)
          · cases hd
      · cases hd
    case mark x =>
      change dMark _ _ _ = _ at hd
      unfold dMark at hd
      split at hd
      · split at hd
        · rename_i own cs hg
          cases own <;> simp only [brec_ite] at hd <;> (repeat' (split at hd)) <;> first | (cases hd; done) | (cases hd; exact Nat.le_refl _)
        · cases hd
      · cases hd
end
end Go.Dm
