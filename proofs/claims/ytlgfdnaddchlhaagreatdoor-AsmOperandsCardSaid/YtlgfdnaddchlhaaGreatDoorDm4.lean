/- An interpreter of the model's code, deterministic, and its soundness, part 4: Slicing, indexing of values, and small operations. The builtin functions but append; aggregates that are built; maps. unsafe's few operations, []byte of constants; slices that are made; aggregates that are built; parts of aggregates. unsafe.Pointer, []byte of constants; slices that are made; aggregates that are built; parts of aggregates. Aggregates that are built, parts of aggregates, maps. No condition. -/
import Derived.Test.YtlgfdnaddchlhaaGreatDoorDm3
namespace Go.Dm

section
variable {P : Program} {B : Nat} {μ : Mu} {h h' : Hp} {w : World} {t : Tm} {ρ : Operand → Value} {v : DV} {o : Oper}

/-- a bound that is told, or not -/
theorem optI_rel (hO : OR μ t ρ) {x : Option Operand} {n top m : Nat} (he : optI (x.map trX) t n top = some m) :
    (x = none ∧ m = n) ∨ (∃ y k, x = some y ∧ ρ y = .int k (m : Int) ∧ m ≤ top) := by
  cases x with
  | none => exact .inl ⟨rfl, by cases he; rfl⟩
  | some y =>
    right
    have hy := hO.rel y
    change (match ev t (trX y) with | .int _ i => upto i top | _ => none) = some m at he
    split at he
    · rename_i k i e; rw [e] at hy
      obtain ⟨rfl, hle⟩ := upto_some he
      exact ⟨y, k, rfl, hy.inv_int, hle⟩
    · cases he
theorem run_bound (k : IntKind) (m y : Nat) (h : m ≤ y) (c : BoundsCode) (w : World) : (Instr.sliceBound (.int k (m : Int)) y c).run P w = .ok m w := by
  have : (m : Int) ≤ y := by omega
  simp [Instr.sliceBound, asIntOf]
  intro hh; exact absurd hh (by omega)

/-- the three bounds -/
theorem run_bounds (hO : OR μ t ρ) (isS : Bool) {n c cap m j i : Nat} {lo hi mx : Option Operand} (hmx : mx.isSome = true → hi.isSome = true) (hc : c ≤ cap)
    (h1 : optI (mx.map trX) t c c = some m) (h2 : optI (hi.map trX) t n m = some j) (h3 : optI (lo.map trX) t 0 j = some i) (w : World) :
    ∃ M, (Instr.sliceBounds isS n cap (lo.map ρ) (hi.map ρ) (mx.map ρ)).run P w = .ok (i, j, M) w ∧ m ≤ M ∧ M ≤ cap ∧ (mx = none → M = cap ∧ m = c) ∧ (mx.isSome = true → M = m ∧ j ≤ m) ∧ i ≤ j ∧ (hi = none → j = n) ∧ (hi.isSome = true → j ≤ m) := by
  have b1 := optI_rel hO h1
  have b2 := optI_rel hO h2
  have b3 := optI_rel hO h3
  have hij : i ≤ j := by rcases b3 with ⟨_, rfl⟩ | ⟨_, _, _, _, h⟩ <;> omega
  rcases b1 with ⟨rfl, rfl⟩ | ⟨y, k, rfl, hy, hm⟩
  · refine ⟨cap, ?_, hc, Nat.le_refl _, fun _ => ⟨rfl, rfl⟩, (fun e => by cases e), hij, fun e => ?_, fun e => ?_⟩
    · rcases b2 with ⟨rfl, rfl⟩ | ⟨y2, k2, rfl, hy2, hm2⟩
      · rcases b3 with ⟨rfl, rfl⟩ | ⟨y3, k3, rfl, hy3, hm3⟩
        · rfl
        · simp [Instr.sliceBounds, hy3, run_bound k3 i j hm3]
      · have hj : j ≤ cap := by omega
        rcases b3 with ⟨rfl, rfl⟩ | ⟨y3, k3, rfl, hy3, hm3⟩
        · cases isS <;> simp [Instr.sliceBounds, hy2, run_bound k2 j cap hj]
        · cases isS <;> simp [Instr.sliceBounds, hy2, run_bound k2 j cap hj, hy3, run_bound k3 i j hm3]
    · rcases b2 with ⟨_, rfl⟩ | ⟨y2, k2, rfl, hy2, hm2⟩
      · rfl
      · cases e
    · rcases b2 with ⟨rfl, _⟩ | ⟨y2, k2, _, hy2, hm2⟩
      · cases e
      · exact hm2
  · have hm' : m ≤ cap := by omega
    obtain ⟨y2, k2, rfl, hy2, hm2⟩ : ∃ y2 k2, hi = some y2 ∧ ρ y2 = .int k2 (j : Int) ∧ j ≤ m := by
      rcases b2 with ⟨rfl, _⟩ | hb
      · exact absurd (hmx rfl) (by simp)
      · exact hb
    refine ⟨m, ?_, Nat.le_refl _, hm', (fun e => by cases e), fun _ => ⟨rfl, hm2⟩, hij, (fun e => by cases e), fun _ => hm2⟩
    rcases b3 with ⟨rfl, rfl⟩ | ⟨y3, k3, rfl, hy3, hm3⟩
    · cases isS <;> simp [Instr.sliceBounds, hy, run_bound k m cap hm', hy2, run_bound k2 j m hm2]
    · cases isS <;> simp [Instr.sliceBounds, hy, run_bound k m cap hm', hy2, run_bound k2 j m hm2, hy3, run_bound k3 i j hm3]

theorem do_sliceS (hO : OR μ t ρ) (s : Sim B μ h w) {ty : TypeId} {x : Operand} {lo hi : Option Operand} (hu : under P ty = .string) (ho : o.op = .slice ty x lo hi none)
    (hd : dSliceS (trX x) (lo.map trX) (hi.map trX) t h = some (v, h')) : Does P B μ h w (execOp ρ o) v h' := by
  have hx := hO.rel x
  have hu := under_some hu (by simp)
  unfold dSliceS at hd
  split at hd
  · rename_i n z e; rw [e] at hx
    obtain ⟨sb, ea, rfl, rfl⟩ := hx.inv_str
    have hsz : sb.data.toList.length = sb.size := by simp
    split at hd
    · rename_i j hj
      split at hd
      · rename_i i hi'
        cases hd
        obtain ⟨M, hr, _, _, _, _, hij, hn, hs⟩ := run_bounds (P := P) hO false (mx := none) (c := sb.size) (cap := sb.size) (by simp) (Nat.le_refl _) rfl (by rw [← hsz]; exact hj) hi' w
        have hjn : j ≤ sb.data.toList.length := by
          cases hi with
          | none => rw [hn rfl]; exact Nat.le_refl _
          | some y => rw [hsz]; exact hs rfl
        refine does_pure s (u := .string (sb.extract i j)) ?_ (ssub_rel μ sb hij hjn)
        simp only [execOp, ho]
        refine run_v ?_
        rw [hsz] at hr
        simp only [Option.map_none] at hr ⊢
        simp [Instr.sliceAt, run_underlying hu, Instr.slice, ea, hr]
      · cases hd
    · cases hd
  · cases hd

theorem do_sliceX (hO : OR μ t ρ) (s : Sim B μ h w) {ty e : TypeId} {x : Operand} {lo hi mx : Option Operand} (hu : under P ty = .slice e) (hk : kn P e = true) (hmx : mx.isSome = true → hi.isSome = true) (ho : o.op = .slice ty x lo hi mx)
    (hd : dSliceX (cells P e) (trX x) (lo.map trX) (hi.map trX) (mx.map trX) t h = some (v, h')) : Does P B μ h w (execOp ρ o) v h' := by
  have hx := hO.rel x
  have hu := under_some hu (by simp)
  obtain ⟨de, hue⟩ := kn_some hk
  unfold dSliceX at hd
  split at hd
  · rename_i b p n c ex sz e1; rw [e1] at hx
    obtain ⟨a, cap, ea, ha, hn, hc, hex⟩ := hx.inv_slice
    split at hd
    · rename_i m hm
      split at hd
      · rename_i j hj
        split at hd
        · rename_i i hi'
          obtain ⟨hz, hd⟩ := brec_some hd
          have hz : cells P e = sz := Nat.eq_of_beq_eq_true hz
          cases hd
          obtain ⟨M, hr, r1, r2, r3, r4, r5, r6, r7⟩ := run_bounds (P := P) hO true hmx hc hm hj hi' w
          have hjM : j ≤ M := by
            cases hi with
            | none =>
              rw [r6 rfl]
              cases mx with
              | none => rw [(r3 rfl).1]; exact hn
              | some y => exact absurd (hmx rfl) (by simp)
            | some y => have := r7 rfl; omega
          refine does_pure s (u := .slice (some (if M = i then a else a.add (i * cells P e))) (j - i) (M - i)) ?_ ?_
          · simp only [execOp, ho]
            refine run_v ?_
            simp only [Instr.sliceAt, Sem.run_bind, run_underlying hu, Result.andThen_ok, Instr.slice, ea, hr, run_size hue]
            by_cases hMi : M = i <;> simp [hMi]
          · refine .slice ?_ (by omega) (by omega) (fun e => ?_)
            · by_cases hMi : M = i
              · left; omega
              · right
                rw [if_neg hMi]
                obtain ⟨q, q1, q2, q3, q4⟩ := ha.resolve_left (by omega)
                refine ⟨q, q1, ?_, ?_, ?_⟩
                · rw [q2, add_eq]
                · rw [q2, add_eq]; show a.off + i * cells P e + q.lo = q.base + (p + i * cells P e); omega
                · rw [q2, add_eq]
                  show a.off + i * cells P e + (M - i) * cells P e ≤ q.K
                  have h1 : i * cells P e + (M - i) * cells P e = M * cells P e := by
                    rw [← Nat.add_mul]; congr 1; omega
                  have h2 : M * cells P e ≤ cap * cells P e := Nat.mul_le_mul_right _ r2
                  rw [hz] at h1 h2 ⊢
                  omega
            · cases mx with
              | none =>
                obtain ⟨rfl, rfl⟩ := r3 rfl
                have : ex = true := by simpa using e
                rw [hex this]
              | some y => rw [(r4 rfl).1]
        · cases hd
      · cases hd
    · cases hd
  · rename_i e1; rw [e1] at hx
    have hx := hx.inv_nilslice
    split at hd
    · rename_i m hm
      split at hd
      · rename_i j hj
        split at hd
        · rename_i i hi'
          cases hd
          have hj' : optI (hi.map trX) t 0 m = some j := by
            have : m = 0 := by
              rcases optI_rel hO hm with ⟨_, rfl⟩ | ⟨_, _, _, _, h⟩ <;> omega
            rw [this]; exact hj
          obtain ⟨M, hr, r1, r2, r3, r4, r5, r6, r7⟩ := run_bounds (P := P) hO true hmx (Nat.le_refl 0) hm hj' (by
            have : j = 0 := by
              rcases optI_rel hO hj with ⟨_, rfl⟩ | ⟨_, _, _, _, h⟩ <;> omega
            rw [this]; exact hi') w
          have hM : M = 0 := by omega
          have hj0 : j = 0 := by
            rcases optI_rel hO hj with ⟨_, rfl⟩ | ⟨_, _, _, _, h⟩ <;> omega
          have hi0 : i = 0 := by omega
          subst hM hj0 hi0
          refine does_pure s (u := .slice none 0 0) ?_ .nilslice
          simp only [execOp, ho]
          refine run_v ?_
          simp [Instr.sliceAt, run_underlying hu, Instr.slice, hx, hr, run_size hue]
        · cases hd
      · cases hd
    · cases hd
  · cases hd

theorem do_sliceA (hO : OR μ t ρ) (s : Sim B μ h w) {ty e n : TypeId} {x : Operand} {lo hi : Option Operand} (hu : under P ty = .array n e) (hk : kn P e = true) (ho : o.op = .slice ty x lo hi none)
    (hd : dSliceA n (cells P e) (trX x) (lo.map trX) (hi.map trX) t h = some (v, h')) : Does P B μ h w (execOp ρ o) v h' := by
  have hx := hO.rel x
  have hu := under_some hu (by simp)
  obtain ⟨de, hue⟩ := kn_some hk
  unfold dSliceA at hd
  split at hd
  · rename_i b p e1; rw [e1] at hx
    obtain ⟨a, ea, ha⟩ := hx.inv_ptr
    split at hd
    · rename_i bty l u own bt hg
      split at hd
      · rename_i j hj
        split at hd
        · rename_i i hi'
          obtain ⟨hc, hd⟩ := brec_some hd
          cases hd
          obtain ⟨c1, c2⟩ := and_t hc
          have c1 := ble c1; have c2 := ble c2
          obtain ⟨M, hr, r1, r2, r3, r4, r5, r6, r7⟩ := run_bounds (P := P) hO false (mx := none) (c := n) (cap := n) (by simp) (Nat.le_refl _) rfl hj hi' w
          obtain ⟨hM, _⟩ := r3 rfl
          have hjn : j ≤ n := by
            cases hi with
            | none => rw [r6 rfl]; exact Nat.le_refl _
            | some y => exact r7 rfl
          obtain ⟨q, q1, q2, q3⟩ := ha
          obtain ⟨b1, b2, _, b3, _⟩ := s.cellsAt q1 hg
          refine does_pure s (u := .slice (some (if M = i then a else a.add (i * cells P e))) (j - i) (M - i)) ?_ ?_
          · simp only [execOp, ho]
            refine run_v ?_
            simp only [Option.map_none] at hr ⊢
            simp [Instr.sliceAt, run_underlying hu, ea, Instr.sureAddr, hr, run_size hue]
          · refine .slice ?_ (by omega) (by omega) (fun _ => by omega)
            by_cases hMi : M = i
            · left; omega
            · right
              rw [if_neg hMi]
              have h1 : i * cells P e + (M - i) * cells P e = n * cells P e := by
                rw [← Nat.add_mul]; congr 1; omega
              refine ⟨q, q1, ?_, ?_, ?_⟩
              · rw [q2, add_eq]
              · rw [q2, add_eq]; show a.off + i * cells P e + q.lo = q.base + (p + i * cells P e); omega
              · rw [q2, add_eq]
                show a.off + i * cells P e + (M - i) * cells P e ≤ q.K
                omega
        · cases hd
      · cases hd
    · cases hd
  · cases hd

theorem do_indexStr (hO : OR μ t ρ) (s : Sim B μ h w) {ty : TypeId} {x i : Operand} (hu : under P ty = .string) (ho : o.op = .index ty x i)
    (hd : dIndexStr (trX x) (trX i) t h = some (v, h')) : Does P B μ h w (execOp ρ o) v h' := by
  have hx := hO.rel x
  have hi := hO.rel i
  have hu := under_some hu (by simp)
  unfold dIndexStr at hd
  split at hd
  · rename_i n z k j e1 e2; rw [e1] at hx; rw [e2] at hi
    split at hd
    · rename_i m hb; cases hd
      obtain ⟨rfl, hlt⟩ := below_some hb
      obtain ⟨sb, ea, rfl, rfl⟩ := hx.inv_str
      have hlt' : m < sb.size := by simpa using hlt
      have hg : sb[m]? = some (sb.data.toList[m]) := by
        rw [getElem?_pos sb m hlt']
        rfl
      have hv : sbyte (enc sb.data.toList) m = (sb.data.toList[m]).toNat := by
        unfold sbyte
        rw [p256_eq]
        exact enc_get _ _ hlt
      rw [hv]
      refine does_pure s (u := .int .u8 ((sb.data.toList[m]).toNat : Int)) ?_ (.int _ _)
      simp only [execOp, ho]
      refine run_v ?_
      simp only [Instr.index, Sem.run_bind, hi.inv_int, asIntOf, Sem.run_pure, Result.andThen_ok, run_underlying hu, ea]
      have h0 : (0 : Int) ≤ (m : Int) := by omega
      simp [h0, hg]
    · cases hd
  · cases hd

theorem do_extract (hO : OR μ t ρ) (s : Sim B μ h w) {x : Operand} {i : Nat} (ho : o.op = .extract x i) (hd : dExtract (trX x) i t h = some (v, h')) : Does P B μ h w (execOp ρ o) v h' := by
  have hx := hO.rel x
  unfold dExtract at hd
  split at hd
  · rename_i vs e; rw [e] at hx
    obtain ⟨us, ea, hl⟩ := hx.inv_tup
    obtain ⟨hc, hd⟩ := brec_some hd
    cases hd
    have hlt := blt hc
    rw [len_eq, hl.length] at hlt
    have hlt : i < us.size := by simpa using hlt
    refine does_pure s (u := us[i]) ?_ ?_
    · simp only [execOp, ho]
      refine run_v ?_
      simp [Instr.extract, ea, hlt]
    · rw [lget_eq]
      have := hl.get i Go.undef
      simpa [List.getD_eq_getElem?_getD, hlt] using this
  · cases hd

theorem do_mkIface (hO : OR μ t ρ) (s : Sim B μ h w) {ty : TypeId} {x : Operand} (h1 : ∀ ms, under P ty ≠ .interface ms) (h2 : under P ty ≠ .invalid) (ho : o.op = .makeInterface ty x) (hd : dMkIface ty (trX x) t h = some (v, h')) : Does P B μ h w (execOp ρ o) v h' := by
  cases hd
  have hu := under_some rfl h2
  refine does_pure s (u := .iface ty (ρ x)) ?_ (.iface (hO.rel x))
  simp only [execOp, ho]
  refine run_v ?_
  simp only [Instr.makeInterface, Sem.run_bind, run_underlying hu, Result.andThen_ok]
  cases hq : under P ty <;> first | rfl | exact absurd hq (h1 _)

theorem evs_rel (hO : OR μ t ρ) : ∀ l : List Operand, LR μ (evs t (l.map trX)) (l.map ρ)
  | [] => .nil
  | x :: l => .cons (hO.rel x) (evs_rel hO l)
theorem do_mkFunc (hO : OR μ t ρ) (s : Sim B μ h w) {f : Nat} {a b : Array Operand} (ho : o.op = .makeFunc (.func f) a b) (hd : dMkFunc f (a.toList.map trX) (b.toList.map trX) t h = some (v, h')) : Does P B μ h w (execOp ρ o) v h' := by
  cases hd
  refine does_pure s (u := .func (.func f) (a.map ρ) (b.map ρ)) ?_ (.func (by simpa using evs_rel hO a.toList) (by simpa using evs_rel hO b.toList))
  simp only [execOp, ho]
  exact run_v rfl

theorem do_mkMap (s : Sim B μ h w) {ty : TypeId} (ho : o.op = .makeMap ty none) (hd : dMkMap t h = some (v, h')) (gap : Gap μ h h') : Does P B μ h w (execOp ρ o) v h' := by
  cases hd
  have hf : μ h.next = none := gap h.next (Nat.le_refl _) (by rw [Hp.next_new]; omega)
  obtain ⟨hs, hst⟩ := new_block s hf (.mapo []) (.map #[] 0) 0 0 ⟨#[], 0, heap_alloc_new _ _, s.base, .nil⟩
  refine ⟨.map (some w.heap.size), _, _, .inl ?_, hst, hs, ?_⟩
  · simp only [execOp, ho]
    exact run_v rfl
  · exact VR.map (m := ⟨w.heap.size, 0, 0, 0⟩) (Mu.set_same _ _ _)
end
end Go.Dm

namespace Go.Dm

section
variable {P : Program} {B : Nat} {μ : Mu} {h h' : Hp} {w : World} {t : Tm} {ρ : Operand → Value} {v : DV} {o : Oper}

/-- a call of a builtin function -/
theorem run_builtin {c : Call} {b : Builtin} (ho : o.op = .call c) (hc : c.callee = .builtin b) : ∃ cs, ∀ w, (execOp ρ o).run P w = (builtin b c.argTypes o.type cs (c.args.map ρ)).run P w :=
  ⟨_, fun w => by simp only [execOp, ho, resolve, hc, Sem.run_bind, Sem.run_pure, Result.andThen_ok, invoke]; rfl⟩
theorem does_builtin {c : Call} {b : Builtin} (ho : o.op = .call c) (hc : c.callee = .builtin b) (hd : ∀ cs, Does P B μ h w (builtin b c.argTypes o.type cs (c.args.map ρ)) v h') : Does P B μ h w (execOp ρ o) v h' := by
  obtain ⟨cs, hcs⟩ := run_builtin (P := P) (ρ := ρ) ho hc
  obtain ⟨u, w', ν, hr, r⟩ := hd cs
  exact ⟨u, w', ν, by rw [hcs]; exact hr, r⟩
theorem arr1 {α : Type} {a : Array α} {x : α} (h : a.toList = [x]) : a = #[x] := by cases a; simp_all
theorem arr2 {α : Type} {a : Array α} {x y : α} (h : a.toList = [x, y]) : a = #[x, y] := by cases a; simp_all

theorem do_lenS (hO : OR μ t ρ) (s : Sim B μ h w) {c : Call} {ty : TypeId} {x : Operand} (hu : under P ty = .string) (ho : o.op = .call c) (hc : c.callee = .builtin .len)
    (ht : c.argTypes.toList = [ty]) (ha : c.args.toList = [x]) (hd : dLenS (trX x) t h = some (v, h')) : Does P B μ h w (execOp ρ o) v h' := by
  refine does_builtin ho hc fun cs => ?_
  have hx := hO.rel x
  rw [arr1 ht, arr1 ha]
  have hun := under_some hu (by simp)
  unfold dLenS at hd
  split at hd
  · rename_i n z e; rw [e] at hx; cases hd
    obtain ⟨sb, ea, rfl, rfl⟩ := hx.inv_str
    refine does_pure s (u := .int .i64 sb.size) ?_ (by simpa using VR.int .i64 _)
    exact run_v (by simp [Builtin.len_, run_underlying hun, ea, goInt])
  · cases hd
theorem do_lenX (hO : OR μ t ρ) (s : Sim B μ h w) {c : Call} {ty e : TypeId} {x : Operand} (hu : under P ty = .slice e) (ho : o.op = .call c) (hc : c.callee = .builtin .len)
    (ht : c.argTypes.toList = [ty]) (ha : c.args.toList = [x]) (hd : dLenX (trX x) t h = some (v, h')) : Does P B μ h w (execOp ρ o) v h' := by
  refine does_builtin ho hc fun cs => ?_
  have hx := hO.rel x
  rw [arr1 ht, arr1 ha]
  have hun := under_some hu (by simp)
  unfold dLenX at hd
  split at hd
  · rename_i b p n q ex sz e1; rw [e1] at hx; cases hd
    obtain ⟨a, cap, ea, _⟩ := hx.inv_slice
    refine does_pure s (u := .int .i64 n) ?_ (.int .i64 _)
    exact run_v (by simp [Builtin.len_, run_underlying hun, ea, goInt])
  · rename_i e1; rw [e1] at hx; cases hd
    refine does_pure s (u := .int .i64 0) ?_ (.int .i64 _)
    exact run_v (by simp [Builtin.len_, run_underlying hun, hx.inv_nilslice, goInt])
  · rename_i m r e1; rw [e1] at hx; cases hd
    obtain ⟨n, cap, a, ea, hm, hr, hn⟩ := hx.inv_sres
    refine does_pure s (u := .int .i64 n) ?_ (.res hm (by omega) (by omega) (by omega) (fun _ => by omega))
    exact run_v (by simp [Builtin.len_, run_underlying hun, ea, goInt])
  · cases hd
theorem ER.length {l : List (DV × DV)} {es : List MapEntry} (h : ER μ l es) : l.length = es.length := by
  induction h with
  | nil => rfl
  | cons _ _ _ ih => simp [ih]
theorem Sim.mapAt (s : Sim B μ h w) {b : Pos} {es : List (DV × DV)} {m : RB} (hm : μ b = some m) (hg : h.m.get b = some (.mapo es)) :
    ∃ ents clock, w.heap[m.r]? = some (.map ents clock) ∧ B ≤ m.r ∧ ER μ es ents.toList := s.block b m _ hm hg
theorem run_getMap {r : Nat} {ents : Array MapEntry} {clock : Nat} (hg : w.heap[r]? = some (.map ents clock)) : (getObj r).run P w = .ok (.map ents clock) w := by
  simp [getObj, Sem.run, hg]
theorem do_lenM (hO : OR μ t ρ) (s : Sim B μ h w) {c : Call} {ty k e : TypeId} {x : Operand} (hu : under P ty = .map k e) (ho : o.op = .call c) (hc : c.callee = .builtin .len)
    (ht : c.argTypes.toList = [ty]) (ha : c.args.toList = [x]) (hd : dLenM (trX x) t h = some (v, h')) : Does P B μ h w (execOp ρ o) v h' := by
  refine does_builtin ho hc fun cs => ?_
  have hx := hO.rel x
  rw [arr1 ht, arr1 ha]
  have hun := under_some hu (by simp)
  unfold dLenM at hd
  split at hd
  · rename_i e1; rw [e1] at hx; cases hd
    refine does_pure s (u := .int .i64 0) ?_ (.int .i64 _)
    exact run_v (by simp [Builtin.len_, run_underlying hun, hx.inv_nilmap, goInt])
  · rename_i b e1; rw [e1] at hx
    split at hd
    · rename_i es hg; cases hd
      obtain ⟨m, ea, hm⟩ := hx.inv_map
      obtain ⟨ents, clock, h1, _, h3⟩ := s.mapAt hm hg
      rw [h3.length]
      refine does_pure s (u := .int .i64 ents.size) ?_ (by simpa using VR.int .i64 _)
      exact run_v (by simp [Builtin.len_, run_underlying hun, ea, goInt, run_getMap h1])
    · cases hd
  · cases hd
theorem do_cap (hO : OR μ t ρ) (s : Sim B μ h w) {c : Call} {ty e : TypeId} {x : Operand} (hu : under P ty = .slice e) (ho : o.op = .call c) (hc : c.callee = .builtin .cap)
    (ht : c.argTypes.toList = [ty]) (ha : c.args.toList = [x]) (hd : dCap (trX x) t h = some (v, h')) : Does P B μ h w (execOp ρ o) v h' := by
  refine does_builtin ho hc fun cs => ?_
  have hx := hO.rel x
  rw [arr1 ht, arr1 ha]
  have hun := under_some hu (by simp)
  unfold dCap at hd
  split at hd
  · rename_i b p n q ex sz e1; rw [e1] at hx
    obtain ⟨a, cap, ea, _, _, _, hex⟩ := hx.inv_slice
    cases ex with
    | false => cases hd
    | true =>
      cases hd
      obtain rfl := hex rfl
      refine does_pure s (u := .int .i64 cap) ?_ (.int .i64 _)
      exact run_v (by simp [Builtin.cap_, run_underlying hun, ea, goInt])
  · rename_i e1; rw [e1] at hx; cases hd
    refine does_pure s (u := .int .i64 0) ?_ (.int .i64 _)
    exact run_v (by simp [Builtin.cap_, run_underlying hun, hx.inv_nilslice, goInt])
  · cases hd
theorem do_lenA (s : Sim B μ h w) {c : Call} {ty : TypeId} {x : Operand} {n : Nat} (hu : (∃ e, under P ty = .array n e) ∨ (∃ a e, under P ty = .pointer a ∧ under P a = .array n e)) (ho : o.op = .call c) (hc : c.callee = .builtin .len)
    (ht : c.argTypes.toList = [ty]) (ha : c.args.toList = [x]) : Does P B μ h w (execOp ρ o) (.int .i64 n) h := by
  refine does_builtin ho hc fun cs => ?_
  rw [arr1 ht, arr1 ha]
  refine does_pure s (u := .int .i64 n) ?_ (.int .i64 _)
  refine run_v ?_
  rcases hu with ⟨e, hu⟩ | ⟨a, e, hu, hu2⟩
  · have hun := under_some hu (by simp)
    cases hq : ρ x <;> simp [Builtin.len_, run_underlying hun, hq, goInt]
  · have hun := under_some hu (by simp)
    have hun2 := under_some hu2 (by simp)
    cases hq : ρ x <;> simp [Builtin.len_, run_underlying hun, run_underlying hun2, hq, goInt]

/-! ### max and min -/
theorem minmax1_sound (mx : Bool) {x y z : DV} {a b : Value} (hx : VR μ x a) (hy : VR μ y b) (he : minmax1 mx x y = some z) (w : World) :
    ∃ u, ((if mx then Builtin.max2 else Builtin.min2) a b).run P w = .ok u w ∧ VR μ z u := by
  unfold minmax1 at he
  split at he
  · rename_i k a k' b
    obtain ⟨hk, rfl⟩ := brec_some he
    obtain rfl := kc_inj hk
    rw [hx.inv_int, hy.inv_int]
    cases mx with
    | false =>
      refine ⟨.int k (if b < a then b else a), by simp [Builtin.min2], ?_⟩
      show VR μ (.int k (Bool.rec a b (ilt b a))) _
      rw [ilt_eq]
      by_cases hh : b < a
      · simp [hh]; exact .int _ _
      · simp [hh]; exact .int _ _
    | true =>
      refine ⟨.int k (if b > a then b else a), by simp [Builtin.max2], ?_⟩
      show VR μ (.int k (Bool.rec a b (ilt a b))) _
      rw [ilt_eq]
      by_cases hh : a < b
      · simp [hh]; exact .int _ _
      · simp [hh]; exact .int _ _
  · cases he
theorem minmaxL_sound (mx : Bool) : ∀ {l : List DV} {vs : List Value}, LR μ l vs → ∀ {x z : DV} {a : Value}, VR μ x a → minmaxL mx l x = some z → ∀ w : World,
    ∃ u, (vs.foldlM (if mx then Builtin.max2 else Builtin.min2) a).run P w = .ok u w ∧ VR μ z u
  | _, _, .nil, x, z, a, hx, he, w => by cases he; exact ⟨a, rfl, hx⟩
  | _, _, .cons (x := y) (l := l) hy ht, x, z, a, hx, he, w => by
    change (match minmax1 mx x y with | some z => minmaxL mx l z | none => none) = some z at he
    cases hq : minmax1 mx x y with
    | none => rw [hq] at he; cases he
    | some q =>
      rw [hq] at he
      obtain ⟨u, hr, hv⟩ := minmax1_sound (P := P) mx hx hy hq w
      obtain ⟨u2, hr2, hv2⟩ := minmaxL_sound mx ht hv he w
      exact ⟨u2, by simp [hr, hr2], hv2⟩
theorem do_minmax (hO : OR μ t ρ) (s : Sim B μ h w) {c : Call} (mx : Bool) (ho : o.op = .call c) (hc : c.callee = .builtin (if mx then .max else .min))
    (hd : dMinmax mx (c.args.toList.map trX) t h = some (v, h')) : Does P B μ h w (execOp ρ o) v h' := by
  refine does_builtin ho hc fun cs => ?_
  have hl := evs_rel hO c.args.toList
  unfold dMinmax at hd
  split at hd
  · cases hd
  · rename_i x rest hq
    rw [hq] at hl
    split at hd
    · rename_i z hz; cases hd
      cases he : c.args.toList.map ρ with
      | nil => rw [he] at hl; cases hl
      | cons a as =>
        rw [he] at hl
        cases hl with
        | cons hx ht =>
          obtain ⟨u, hr, hv⟩ := minmaxL_sound (P := P) mx ht hx hz w
          refine does_pure s (u := u) ?_ hv
          have e2 : (c.args.map ρ).toList = a :: as := by simpa using he
          cases mx with
          | false => exact run_v (by show (Builtin.min_ c.argTypes o.type (c.args.map ρ)).run P w = _; unfold Builtin.min_; rw [e2]; exact hr)
          | true => exact run_v (by show (Builtin.max_ c.argTypes o.type (c.args.map ρ)).run P w = _; unfold Builtin.max_; rw [e2]; exact hr)
    · cases hd
end
end Go.Dm

namespace Go.Dm

section
variable {P : Program} {B : Nat} {μ : Mu} {h h' : Hp} {w : World} {t : Tm} {ρ : Operand → Value} {v : DV} {o : Oper}

theorem do_sdata (hO : OR μ t ρ) (s : Sim B μ h w) {c : Call} {x : Operand} (ho : o.op = .call c) (hc : c.callee = .builtin .unsafeSliceData)
    (ha : c.args.toList = [x]) (hd : dSdata (trX x) t h = some (v, h')) : Does P B μ h w (execOp ρ o) v h' := by
  refine does_builtin ho hc fun cs => ?_
  have hx := hO.rel x
  rw [arr1 ha]
  unfold dSdata at hd
  split at hd
  · rename_i e1; rw [e1] at hx; cases hd
    refine does_pure s (u := .pointer none) ?_ .nilptr
    exact run_v (by simpa [hx.inv_nilslice] using Lib.run_unsafeSliceData_nil w c.argTypes o.type 0 0)
  · rename_i b p n q ex sz e1; rw [e1] at hx
    obtain ⟨hq, hd⟩ := brec_some hd
    cases hd
    have hq := blt hq
    obtain ⟨a, cap, ea, hsr, _, hcap, _⟩ := hx.inv_slice
    refine does_pure s (u := .pointer (some a)) ?_ (.ptr (hsr.resolve_left (by omega)).AR)
    have := Lib.run_unsafeSliceData_row (P := P) w c.argTypes o.type a n cap (by omega)
    exact run_v (by simpa [ea] using this)
  · cases hd

theorem shape_of {g : Nat} {cs : Array Value} {ty : Nat} {fz : Nat × Nat} (hg : w.heap[g]? = some (.cells cs ty fz)) : w.shape? g = some (ty, cs.size) := by
  simp [World.shape?, hg]
theorem lies_one {u count off n : Nat} (hc : cells P u = 1) (hn : off + n ≤ count) : liesAt P P.depth u count off u n = true := by
  have hd : P.depth = (2 * (P.types.size + Made.depth) + 1) + 1 := rfl
  have hc : P.cellsOf u = 1 := hc
  rw [hd]
  simp only [liesAt, Bool.or_eq_true]
  left
  rw [hd]
  simp [rowAt, hc, hn, sameLayout, Nat.mod_one]
theorem lies_head {u count : Nat} (hc : cells P u ≠ 0) (hn : 1 ≤ count) : liesAt P P.depth u count 0 u 1 = true := by
  have hd : P.depth = (2 * (P.types.size + Made.depth) + 1) + 1 := rfl
  have hc : P.cellsOf u ≠ 0 := hc
  rw [hd]
  simp only [liesAt, Bool.or_eq_true]
  left
  rw [hd]
  simp [rowAt, hc, hn, sameLayout]

theorem do_ustr (hO : OR μ t ρ) (s : Sim B μ h w) {c : Call} {ty it u : TypeId} {x y : Operand} (hu : under P ty = .pointer u) (h1 : cells P u = 1) (ho : o.op = .call c) (hc : c.callee = .builtin .unsafeString)
    (ht : c.argTypes.toList = [ty, it]) (ha : c.args.toList = [x, y]) (hd : dUstr u (trX x) (trX y) t h = some (v, h')) : Does P B μ h w (execOp ρ o) v h' := by
  refine does_builtin ho hc fun cs => ?_
  have hx := hO.rel x
  have hy := hO.rel y
  have hun := under_some hu (by simp)
  rw [arr2 ht, arr2 ha]
  have zero : ∀ (p : Option Addr) (k : IntKind), (Builtin.unsafeString_ #[ty, it] o.type #[.pointer p, .int k 0]).run P w = .ok (.string .empty) w := by
    intro p k
    have m3 : ∀ (f : Option Addr → Value → Sem Value) (g : Array Value → Sem Value) p l, Builtin.unsafeString_.match_3 (fun _ => Sem Value) #[.pointer p, l] f g = f p l := fun _ _ _ _ => rfl
    unfold Builtin.unsafeString_
    rw [m3]
    have hmax : ¬ (0 : Int) > IntKind.i64.max := by decide
    cases p <;> simp [asInt, asIntOf]
  unfold dUstr at hd
  split at hd
  · rename_i k e1 e2; rw [e1] at hx; rw [e2] at hy; cases hd
    refine does_pure s (u := .string .empty) ?_ (.str .empty rfl rfl)
    have := zero none k
    have hy : ρ y = .int k 0 := hy.inv_int
    exact run_v (by simpa [hx.inv_nilptr, hy] using this)
  · rename_i b p k n e1 e2; rw [e1] at hx; rw [e2] at hy
    obtain ⟨a, ea, har⟩ := hx.inv_ptr
    replace hy := hy.inv_int
    split at hd
    · cases hd
      refine does_pure s (u := .string .empty) ?_ (.str .empty rfl rfl)
      have hy : ρ y = .int k 0 := hy
      exact run_v (by simpa [ea, hy] using zero (some a) k)
    · rename_i n
      split at hd
      · rename_i bty lo hi own ct hg
        obtain ⟨m, hm, ea2, eo⟩ := har
        have key : ∃ f z, (own = .free ∧ f = p + (n + 1) ∨ ∃ g, own = .upto g ∧ f = Nat.max g (p + (n + 1))) ∧ bytesOk (rdn (n + 1) p ct) = some z ∧ (bty = u ∧ lo ≤ p ∧ p + (n + 1) ≤ hi) ∧
            v = .str (n + 1) z ∧ h' = h.set b (some (.cells bty lo hi (.upto f) ct)) := by
          have fin : ∀ f, (Bool.rec none (match bytesOk (rdn (n + 1) p ct) with | some s => some (DV.str (n + 1) s, h.set b (some (.cells bty lo hi (.upto f) ct))) | none => none) (and (Nat.beq bty u) (and (Nat.ble lo p) (Nat.ble (p + (n + 1)) hi))) : Option (DV × Hp)) = some (v, h') →
              ∃ z, bytesOk (rdn (n + 1) p ct) = some z ∧ (bty = u ∧ lo ≤ p ∧ p + (n + 1) ≤ hi) ∧ v = .str (n + 1) z ∧ h' = h.set b (some (.cells bty lo hi (.upto f) ct)) := by
            intro f hf
            obtain ⟨hb, hf⟩ := brec_some' hf
            obtain ⟨b1, b2⟩ := and_t hb
            obtain ⟨b2, b3⟩ := and_t b2
            split at hf
            · rename_i z hz; cases hf
              exact ⟨z, hz, ⟨Nat.eq_of_beq_eq_true b1, ble b2, ble b3⟩, rfl, rfl⟩
            · cases hf
          cases own with
          | ro => cases hd
          | free => obtain ⟨z, r⟩ := fin _ hd; exact ⟨_, z, .inl ⟨rfl, rfl⟩, r⟩
          | marked => cases hd
          | upto g => obtain ⟨z, r⟩ := fin _ hd; exact ⟨_, z, .inr ⟨g, rfl, rfl⟩, r⟩
        obtain ⟨f, z, hown, hz, ⟨rfl, hlo, hhi⟩, rfl, rfl⟩ := key
        obtain ⟨rfl, g2, g2', g3, cells', fz, g4, g5, g6, g7, g8, g9⟩ := s.cellsAt hm hg
        have hrel := rdn_rel m.lo hi m.base g6 (n + 1) p hlo hhi
        obtain ⟨bs, hbs, rfl, hbl⟩ := bytesOk_rel hrel hz
        have hbl : bs.length = n + 1 := by rw [hbl, rdn_length]
        have hoff : a.off = m.base + (p - m.lo) := by omega
        have hcell : ∀ j q, bs[j]? = some q → w.cell? (a.add j) = some (.int .u8 q.toNat) := by
          intro j q hj
          have hjl : j < n + 1 := by
            rw [← hbl]; exact (List.getElem?_eq_some_iff.1 hj).1
          have e1 : (byteCells bs)[j]? = some (.int .u8 q.toNat) := by simp [byteCells, hj]
          rw [← hbs, List.getElem?_map, List.getElem?_range hjl] at e1
          have e1 : cells'.getD (m.base + (p + j - m.lo)) Go.undef = .int .u8 q.toNat := by simpa using e1
          rw [ea2, add_eq, ← e1, show a.off + j = m.base + (p + j - m.lo) by omega]
          exact cell_of g4 (by omega)
        have hload := Lib.run_loadBytes (P := P) w bs a .empty hcell
        have hsh := shape_of g4
        have hlies := lies_one (P := P) (u := bty) (count := cells'.size / P.cellsOf bty) (off := a.off) (n := n + 1) h1 (by
          have : P.cellsOf bty = 1 := h1
          rw [this, Nat.div_one]; omega)
        have hblk : a.block = m.r := by rw [ea2]
        have hmax : IntKind.i64.max = 9223372036854775807 := rfl
        have hrun : (Builtin.unsafeString_ #[ty, it] o.type #[.pointer (some a), .int k ((n + 1 : Nat) : Int)]).run P w = .ok (.string ⟨bs.toArray⟩) (w.freeze a (n + 1)) := by
          have m3 : ∀ (f : Option Addr → Value → Sem Value) (g : Array Value → Sem Value) p l, Builtin.unsafeString_.match_3 (fun _ => Sem Value) #[.pointer p, l] f g = f p l := fun _ _ _ _ => rfl
          have m2 : ∀ (f : TypeId → Sem Value) (g : Option TypeId → Sem Value), Builtin.unsafeString_.match_2 (fun _ => Sem Value) #[ty, it][0]? f g = f ty := fun _ _ => rfl
          unfold Builtin.unsafeString_
          rw [m3]
          have n1 : ¬ ((n + 1 : Nat) : Int) < 0 := by omega
          have n2 : ¬ ((n + 1 : Nat) : Int) > 9223372036854775807 := by omega
          have n3 : ¬ ((n + 1 : Nat) : Int) = 0 := by omega
          have hload' : (loadBytes a .empty (n + 1)).run P w = .ok (.mk bs.toArray) w := by
            rw [← hbl, hload]; simp
          simp only [asInt, asIntOf, m2, Sem.run_bind, Sem.run_pure, Result.andThen_ok, hmax, Sem.run_ite, if_neg n1, if_neg n2, if_neg n3, elemOf, run_underlying hun, Int.toNat_natCast, variablesAt, hblk]
          simp [shape, Sem.run, hsh, hlies, hload', freeze]
        have hself : h.m.get b = some (.cells bty m.lo hi own ct) := hg
        have hown' : (Ob.cells bty m.lo hi own ct).own = true := by rcases hown with ⟨rfl, _⟩ | ⟨g, rfl, _⟩ <;> rfl
        obtain ⟨q1, q2, q3⟩ := freeze_os w a (n + 1)
        have hfr := freeze_heap (p := a.off) (n := n + 1) (by omega) g4
        have hfa : w.freeze a (n + 1) = w.freeze ⟨m.r, a.off, none⟩ (n + 1) := by rw [← ea2]
        obtain ⟨hs, hst⟩ := turn_block (u := w.freeze a (n + 1)) (o' := .cells bty m.lo hi (.upto f) ct) s hm hself hown' q1 q2 q3 (freeze_size _ _ _) (fun r hr => by rw [hfa]; exact freeze_ne hr)
          ⟨rfl, g2, g2', g3, cells', _, by rw [hfa]; exact hfr, g5, g6, g7, fun _ => g8 (by rcases hown with ⟨rfl, _⟩ | ⟨g, rfl, _⟩ <;> rfl), by
            show (if fz.1 == fz.2 then (a.off, a.off + (n + 1)) else (min fz.1 a.off, max fz.2 (a.off + (n + 1)))).2 ≤ m.base + (f - m.lo)
            rcases hown with ⟨rfl, rfl⟩ | ⟨g, rfl, rfl⟩
            · rw [show fz = (0, 0) from g9]; simp; omega
            · have g9 : fz.2 ≤ m.base + (g - m.lo) := g9
              have hmx : Nat.max g (p + (n + 1)) = max g (p + (n + 1)) := rfl
              rw [hmx]
              split
              · show a.off + (n + 1) ≤ _; omega
              · show max fz.2 (a.off + (n + 1)) ≤ _; omega⟩
        refine ⟨.string ⟨bs.toArray⟩, w.freeze a (n + 1), μ, .inl ?_, hst, hs, VR.str' (l := bs) (by simp) hbl.symm rfl⟩
        have hy : ρ y = .int k ((n + 1 : Nat) : Int) := hy
        exact run_v (by simpa [ea, hy] using hrun)
      · cases hd
  · cases hd
end
end Go.Dm

namespace Go.Dm

section
variable {P : Program} {B : Nat} {μ : Mu} {h h' : Hp} {w : World} {t : Tm} {ρ : Operand → Value} {v : DV} {o : Oper}

theorem seen_cells {a : Addr} {cs : Array Value} {ty : Nat} {fz : Nat × Nat} (hg : w.heap[a.block]? = some (.cells cs ty fz)) : (Conv.seenAt a).run P w = .ok a w := by
  have hsh := shape_of hg
  simp [Conv.seenAt, viewAt, shape, Sem.run, hsh]
theorem conv_unsafe {src dst : TypeId} {x : Value} (hs : P.underlying src = some .unsafePointer ∨ P.underlying dst = some .unsafePointer) (h1 : ∃ d, P.underlying src = some d ∧ (d = .unsafePointer ∨ ∃ e, d = .pointer e))
    (h2 : ∃ d, P.underlying dst = some d ∧ (d = .unsafePointer ∨ ∃ e, d = .pointer e)) (hx : ∃ p, x = .pointer p) (w : World) : (convert src dst x).run P w = (Conv.unsafePointer src dst x).run P w := by
  obtain ⟨p, rfl⟩ := hx
  obtain ⟨d1, e1, k1⟩ := h1
  obtain ⟨d2, e2, k2⟩ := h2
  rcases k1 with rfl | ⟨e, rfl⟩ <;> rcases k2 with rfl | ⟨e', rfl⟩
  · simp [convert, run_underlying e1, run_underlying e2]
  · simp [convert, run_underlying e1, run_underlying e2]
  · simp [convert, run_underlying e1, run_underlying e2]
  · rcases hs with hs | hs
    · rw [e1] at hs; cases hs
    · rw [e2] at hs; cases hs

theorem do_toUnsafe (hO : OR μ t ρ) (s : Sim B μ h w) {src dst e : TypeId} {x : Operand} (hs : under P src = .pointer e) (hz : cells P e ≠ 0) (hdst : under P dst = .unsafePointer) (ho : o.op = .convert src dst x)
    (hd : dToUnsafe (trX x) t h = some (v, h')) : Does P B μ h w (execOp ρ o) v h' := by
  have hx := hO.rel x
  have hs := under_some hs (by simp)
  have hdst := under_some hdst (by simp)
  have conv := fun p => conv_unsafe (P := P) (src := src) (dst := dst) (x := .pointer p) (.inr hdst) ⟨_, hs, .inr ⟨_, rfl⟩⟩ ⟨_, hdst, .inl rfl⟩ ⟨p, rfl⟩ w
  unfold dToUnsafe at hd
  split at hd
  · rename_i e1; rw [e1] at hx; cases hd
    refine does_pure s (u := .pointer none) ?_ .nilptr
    simp only [execOp, ho]
    exact run_v (by rw [hx.inv_nilptr, conv]; simp [Conv.unsafePointer, run_underlying hs, run_underlying hdst])
  · rename_i b p e1; rw [e1] at hx
    obtain ⟨a, ea, ha⟩ := hx.inv_ptr
    split at hd
    · rename_i ty lo hi own ct hg
      obtain ⟨hb, hd⟩ := brec_some hd
      cases hd
      obtain ⟨b1, b2⟩ := and_t hb
      have b1 := ble b1; have b2 := blt b2
      obtain ⟨m, hm, ea2, eo⟩ := ha
      obtain ⟨rfl, g2, _, g3, cs, fz, g4, g5, _⟩ := s.cellsAt hm hg
      have g4' : w.heap[a.block]? = some (.cells cs ty fz) := by rw [ea2]; exact g4
      have hsz : ∀ w, (sizeOf e).run P w = .ok (cells P e) w := fun w => by
        cases hi : P.info? e with
        | some i => simp [sizeOf, typeInfo, hi, cells, Program.cellsOf]
        | none => exact absurd (by simp [cells, Program.cellsOf, hi]) hz
      refine does_pure s (u := .pointer (some a)) ?_ (.ptr ⟨m, hm, ea2, eo⟩)
      simp only [execOp, ho]
      refine run_v ?_
      rw [ea, conv]
      have hsh := shape_of g4'
      have hlt : ¬ cs.size ≤ a.off := by omega
      simp [Conv.unsafePointer, run_underlying hs, run_underlying hdst, seen_cells g4', cellsIn, shape, Sem.run, hsh, hsz, hz, hlt]
    · cases hd
  · cases hd

theorem do_ofUnsafe (hO : OR μ t ρ) (s : Sim B μ h w) {src dst u : TypeId} {x : Operand} (hs : under P src = .unsafePointer) (hdst : under P dst = .pointer u) (hz : cells P u ≠ 0) (ho : o.op = .convert src dst x)
    (hd : dOfUnsafe u (cells P u) (trX x) t h = some (v, h')) : Does P B μ h w (execOp ρ o) v h' := by
  have hx := hO.rel x
  have hs := under_some hs (by simp)
  have hdst := under_some hdst (by simp)
  have conv := fun p => conv_unsafe (P := P) (src := src) (dst := dst) (x := .pointer p) (.inl hs) ⟨_, hs, .inl rfl⟩ ⟨_, hdst, .inr ⟨_, rfl⟩⟩ ⟨p, rfl⟩ w
  unfold dOfUnsafe at hd
  split at hd
  · rename_i e1; rw [e1] at hx; cases hd
    refine does_pure s (u := .pointer none) ?_ .nilptr
    simp only [execOp, ho]
    exact run_v (by rw [hx.inv_nilptr, conv]; simp [Conv.unsafePointer, run_underlying hs, run_underlying hdst])
  · rename_i b p e1; rw [e1] at hx
    obtain ⟨a, ea, ha⟩ := hx.inv_ptr
    split at hd
    · rename_i ty lo hi own ct hg
      obtain ⟨hb, hd⟩ := brec_some hd
      cases hd
      obtain ⟨b1, b2⟩ := and_t hb
      obtain ⟨b11, b12⟩ := and_t b1
      obtain ⟨b20, b2⟩ := and_t b2
      obtain ⟨b21, b22⟩ := and_t b2
      have hown : own.own = true := by cases own <;> first | rfl | cases b20
      have b11 : ty = u := Nat.eq_of_beq_eq_true b11
      have b12 : p = 0 := Nat.eq_of_beq_eq_true b12
      have b21 : lo = 0 := Nat.eq_of_beq_eq_true b21
      have b22 := ble b22
      subst b11 b12
      obtain ⟨m, hm, ea2, eo⟩ := ha
      obtain ⟨hl, g2, _, g3, cs, fz, g4, g5, _, _, g8, _⟩ := s.cellsAt hm hg
      have hb0 := (g8 hown).2 b21
      have g4' : w.heap[a.block]? = some (.cells cs ty fz) := by rw [ea2]; exact g4
      have hsz : ∀ w, (sizeOf ty).run P w = .ok (cells P ty) w := fun w => by
        cases hi : P.info? ty with
        | some i => simp [sizeOf, typeInfo, hi, cells, Program.cellsOf]
        | none => exact absurd (by simp [cells, Program.cellsOf, hi]) hz
      have ha0 : a.off = 0 := by omega
      have hsh := shape_of g4'
      have hcnt : 1 ≤ cs.size / P.cellsOf ty := by
        have hz' : P.cellsOf ty ≠ 0 := hz
        have : P.cellsOf ty ≤ cs.size := by
          show cells P ty ≤ _; omega
        exact (Nat.le_div_iff_mul_le (Nat.pos_of_ne_zero hz')).2 (by omega)
      have hlies := lies_head (P := P) hz hcnt
      refine does_pure s (u := .pointer (some a)) ?_ (.ptr ⟨m, hm, ea2, eo⟩)
      simp only [execOp, ho]
      refine run_v ?_
      rw [ea, conv]
      simp [Conv.unsafePointer, run_underlying hs, run_underlying hdst, seen_cells g4', shape, Sem.run, hsh, hsz, hz, variablesAt, ha0, hlies]
    · cases hd
  · cases hd

theorem do_mark (hO : OR μ t ρ) (s : Sim B μ h w) {src e : TypeId} {x : Operand} (hs : under P src = .slice e) (he : under P e = .int .u8) (ho : o.op = .convert src src x)
    (hd : dMark (trX x) t h = some (v, h')) : Does P B μ h w (execOp ρ o) v h' := by
  have hx := hO.rel x
  have hs := under_some hs (by simp)
  have he := under_some he (by simp)
  unfold dMark at hd
  split at hd
  · rename_i b p n c ex sz e1; rw [e1] at hx
    obtain ⟨a, cap, ea, ha, hn, hc, hex⟩ := hx.inv_slice
    split at hd
    · rename_i ty lo hi own ct hg
      have key : (own = .free ∨ own = .marked) ∧ 0 < c ∧ v = .slice b p n c ex sz ∧ h' = h.set b (some (.cells ty lo hi .marked ct)) := by
        have fin : (Bool.rec none (some (DV.slice b p n c ex sz, h.set b (some (.cells ty lo hi .marked ct)))) (Nat.blt 0 c) : Option (DV × Hp)) = some (v, h') → 0 < c ∧ v = .slice b p n c ex sz ∧ h' = h.set b (some (.cells ty lo hi .marked ct)) := fun hf => by
          obtain ⟨hb, hf⟩ := brec_some hf
          cases hf
          exact ⟨blt hb, rfl, rfl⟩
        cases own with
        | ro => cases hd
        | free => exact ⟨.inl rfl, fin hd⟩
        | marked => exact ⟨.inr rfl, fin hd⟩
        | upto f => cases hd
      obtain ⟨hown, hcpos, rfl, rfl⟩ := key
      obtain ⟨m, hm, ea2, eo, hK⟩ := ha.resolve_left (by omega)
      obtain ⟨rfl, g2, g2', g3, cs, fz, g4, g5, g6, g7, g8, g9⟩ := s.cellsAt hm hg
      have hown' : (Ob.cells ty m.lo hi own ct).own = true := by rcases hown with rfl | rfl <;> rfl
      have hmark := mark_heap P (p := a.off) g4
      obtain ⟨q1, q2, q3⟩ := freeze_os w ⟨m.r, cs.size, none⟩ 1
      have hfr := freeze_heap (p := cs.size) (n := 1) (by decide) g4
      obtain ⟨hs', hst⟩ := turn_block (u := w.freeze ⟨m.r, cs.size, none⟩ 1) (o' := .cells ty m.lo hi .marked ct) s hm hg hown' q1 q2 q3 (freeze_size _ _ _) (fun r hr => freeze_ne hr)
        ⟨rfl, g2, g2', g3, cs, _, hfr, g5, g6, g7, fun _ => g8 (by rcases hown with rfl | rfl <;> rfl), by
          right
          rcases hown with rfl | rfl
          · rw [show fz = (0, 0) from g9, g5]; rfl
          · rcases g9 with rfl | rfl
            · rw [g5]; rfl
            · rw [g5]; simp⟩
      refine ⟨.slice (some a) n cap, _, μ, .inl ?_, hst, hs', .slice (.inr ⟨m, hm, ea2, eo, hK⟩) hn hc hex⟩
      simp only [execOp, ho]
      refine run_v ?_
      rw [ea]
      have hmark' : (markStringish a).run P w = .ok () (w.freeze ⟨m.r, cs.size, none⟩ 1) := by rw [ea2]; exact hmark
      simp [convert, run_underlying hs, run_underlying he, hmark']
    · cases hd
  · cases hd

theorem reps_rel (μ : Mu) {zs : List DV} {us : List Value} (hz : LR μ zs us) : ∀ n, LR μ (reps n zs) ((List.replicate n us).flatten)
  | 0 => .nil
  | n + 1 => by
    show LR μ (app zs (reps n zs)) _
    rw [app_eq, List.replicate_succ, List.flatten_cons]
    exact hz.append (reps_rel μ hz n)
theorem flat_one {us : List Value} (h1 : ∀ u ∈ us, u.oneCell' = true) (n : Nat) : ∀ u ∈ (List.replicate n us).flatten, u.oneCell' = true := by
  intro u hu
  obtain ⟨l, hl, hul⟩ := List.mem_flatten.1 hu
  rw [(List.mem_replicate.1 hl).2] at hul
  exact h1 u hul
theorem flat_length (us : List Value) (n : Nat) : ((List.replicate n us).flatten).length = n * us.length := by
  induction n with
  | zero => simp
  | succ n ih => rw [List.replicate_succ, List.flatten_cons, List.length_append, ih]; rw [Nat.succ_mul]; omega
/-- zero cells, again and again, as the machine lays them -/
theorem range_flat (z : Array Value) (n : Nat) : (Array.range (n * z.size)).map (fun i => z[i % z.size]!) = ((List.replicate n z.toList).flatten).toArray := by
  apply Array.ext'
  simp only [Array.toList_map, Array.toList_range]
  apply List.ext_getElem?
  intro i
  by_cases hi : i < n * z.size
  · have hpos : 0 < z.size := by
      rcases Nat.eq_zero_or_pos z.size with h0 | h0
      · rw [h0] at hi; omega
      · exact h0
    rw [List.getElem?_map, List.getElem?_range hi]
    induction n generalizing i with
    | zero => omega
    | succ n ih =>
      rw [List.replicate_succ, List.flatten_cons]
      by_cases h1 : i < z.size
      · rw [List.getElem?_append_left (by simpa using h1)]
        simp [Nat.mod_eq_of_lt h1, h1, getElem!_pos]
      · rw [List.getElem?_append_right (by simpa using h1)]
        have := ih (i - z.toList.length) (by rw [Nat.succ_mul] at hi; simp; omega)
        rw [← this]
        simp only [Array.length_toList, Option.map_some]
        congr 2
        rw [Nat.mod_eq_sub_mod (by omega)]
  · rw [List.getElem?_eq_none (by simpa using hi), List.getElem?_eq_none (by rw [List.toList_toArray, flat_length]; simpa using hi)]

theorem run_info {t : TypeId} {i : TypeInfo} (hi : P.info? t = some i) (w : World) : (typeInfo t).run P w = .ok i w := by simp [typeInfo, hi]
theorem wrap_small {n : Nat} (h : n ≤ 1099511627776) : IntKind.i64.wrap (n : Int) = n := by
  rw [← wrapF_eq]
  show (Bool.rec (motive := fun _ => Int) (IntKind.i64.wrap (Int.ofNat n)) (Int.ofNat n) (Nat.ble n 9223372036854775807)) = n
  rw [Nat.ble_eq_true_of_le (by omega)]
  rfl
theorem do_mkSlice (hO : OR μ t ρ) (s : Sim B μ h w) {ty e : TypeId} {z : Value} {l c : Operand} (hu : under P ty = .slice e) (hz : zero P e = some z) (ho : o.op = .makeSlice ty l c)
    (hd : dMkSlice e (trCells z) (cells P e) (bytesOf P e) (trX l) (trX c) t h = some (v, h')) (gap : Gap μ h h') : Does P B μ h w (execOp ρ o) v h' := by
  have hl := hO.rel l
  have hc := hO.rel c
  have hu := under_some hu (by simp)
  obtain ⟨i, hi, hiz, h1⟩ := zero_some hz
  have hsize := zero_size hz
  unfold dMkSlice at hd
  split at hd
  · rename_i k1 n k2 m e1 e2; rw [e1] at hl; rw [e2] at hc
    obtain ⟨hb, hd⟩ := brec_some' hd
    obtain ⟨b1, b2⟩ := and_t hb
    have b1 := ble b1; have b2 := ble b2
    have b3 : m ≤ 1099511627776 := by
      have : m * 1 ≤ m * (bytesOf P e + 1) := Nat.mul_le_mul_left _ (by omega)
      omega
    have b4 : m * bytesOf P e ≤ 1099511627776 := by
      have : m * bytesOf P e ≤ m * (bytesOf P e + 1) := Nat.mul_le_mul_left _ (by omega)
      omega
    have hrel := reps_rel μ (trL_rel μ z.cells.toList) m
    have hone := flat_one h1 m
    obtain ⟨rfl, hn, hs, hst⟩ := newRow_sound s hrel hone hd gap
    have hbytes : i.bytes = bytesOf P e := by simp [bytesOf, Program.bytesOf, hi]
    have hisz : i.size = cells P e := by simp [cells, Program.cellsOf, hi]
    have hrow : (Array.range (m * cells P e)).map (fun j => (if m * cells P e = 0 then (#[] : Array Value) else z.cells)[j % (if m * cells P e = 0 then (#[] : Array Value) else z.cells).size]!) = ((List.replicate m z.cells.toList).flatten).toArray := by
      by_cases h0 : m * cells P e = 0
      · rw [if_pos h0, h0]
        have : ((List.replicate m z.cells.toList).flatten).length = 0 := by rw [flat_length]; simpa [hsize] using h0
        rw [List.length_eq_zero_iff.1 this]; simp
      · rw [if_neg h0, ← hsize]
        exact range_flat z.cells m 
    refine ⟨.slice (some ⟨w.heap.size, 0, none⟩) n m, _, _, .inl ?_, hst, hs, ?_⟩
    · simp only [execOp, ho]
      refine run_v ?_
      have hl : ρ l = .int k1 (n : Int) := hl.inv_int
      have hc : ρ c = .int k2 (m : Int) := hc.inv_int
      have w1 := wrap_small (n := n) (by omega)
      have w2 := wrap_small (n := m) b3
      have c1 : ((bytesOf P e : Int) * (m : Int)) ≤ 1099511627776 := by
        have : (bytesOf P e : Int) * (m : Int) = ((m * bytesOf P e : Nat) : Int) := by push_cast; exact Int.mul_comm _ _
        omega
      have t1 : (decide ((m : Int) < 0) || decide ((i.bytes : Int) * (m : Int) > 2 ^ 48)) = false := by
        rw [hbytes]; simp; omega
      have t2 : (((decide ((m : Int) < 0) || decide ((i.bytes : Int) * (m : Int) > 2 ^ 48)) || decide ((n : Int) < 0)) || decide ((n : Int) > (m : Int))) = false := by
        rw [t1]; simp; omega
      have room : ¬ (m * i.bytes > roomBytes) := by rw [hbytes]; show ¬ (m * bytesOf P e > 2 ^ 47); omega
      unfold Instr.makeSlice
      simp only [Sem.run_bind, run_underlying hu, Result.andThen_ok, asInt, asIntOf, hl, hc, Sem.run_pure, run_info hi, w1, w2]
      rw [if_neg (by rw [t2]; simp)]
      simp only [Sem.run_bind, Int.toNat_natCast]
      have hask : (askRoom (m * i.bytes)).run P w = .ok () w := by unfold askRoom; rw [if_neg room]; rfl
      have hsz : (sizeOf e).run P w = .ok (cells P e) w := by simp [sizeOf, typeInfo, hi, cells, Program.cellsOf]
      simp only [hask, Result.andThen_ok, hsz]
      by_cases h0 : m * cells P e = 0
      · rw [if_pos h0] at hrow
        rw [if_pos h0]
        simp only [Sem.run_bind, Sem.run_pure, Result.andThen_ok, run_newRow, hrow]
      · rw [if_neg h0] at hrow
        rw [if_neg h0]
        simp only [Sem.run_bind, Sem.run_pure, Result.andThen_ok, run_newRow, run_zero hz, hrow]
    · refine .slice (.inr ⟨_, Mu.set_same _ _ _, rfl, rfl, ?_⟩) b1 (Nat.le_refl _) (fun _ => rfl)
      show 0 + m * cells P e ≤ ((List.replicate m z.cells.toList).flatten).length
      rw [flat_length]; simp [hsize]
  · cases hd
end
end Go.Dm

namespace Go.Dm

section
variable {P : Program} {B : Nat} {μ : Mu} {h h' : Hp} {w : World} {t : Tm} {ρ : Operand → Value} {v : DV} {o : Oper}

theorem foldl_put : ∀ (l : List Value) (k off : Nat) (cs : Array Value), off + k + l.length ≤ cs.size →
    (l.zipIdx k).foldl (fun cs (cj : Value × Nat) => cs.setIfInBounds (off + cj.2) cj.1) cs = put cs (off + k) l
  | [], k, off, cs, h => by simp [put]
  | x :: l, k, off, cs, h => by
    rw [List.zipIdx_cons, List.foldl_cons, foldl_put l (k + 1) off _ (by simp at h ⊢; omega)]
    unfold put
    congr 1
    have e := list_seg_step cs.toList (off + k) x l (by simp at h ⊢; omega)
    simpa [Array.toList_setIfInBounds, Nat.add_assoc] using e

/-- the parts of a literal, as the machine and as the interpreter have them -/
inductive PL (place : Nat → Option (Nat × Nat)) : List (Nat × Operand) → List (Nat × Nat × Opd) → Prop
  | nil : PL place [] []
  | cons {i off size : Nat} {x : Operand} {ps : List (Nat × Operand)} {L : List (Nat × Nat × Opd)} (h : place i = some (off, size)) (t : PL place ps L) : PL place ((i, x) :: ps) ((off, size, trX x) :: L)

/-- cells that lie as the interpreter has them -/
structure CR (μ : Mu) (n : Nat) (z : PT DV) (cs : Array Value) : Prop where
  size : cs.size = n
  rel : ∀ d, d < n → VR μ (at_ z d) (cs.getD d Go.undef)
  one : ∀ u ∈ cs.toList, u.oneCell' = true

theorem fill_sound (hO : OR μ t ρ) {place : Nat → Option (Nat × Nat)} {n : Nat} (hn : n ≤ 8388608) : ∀ {ps : List (Nat × Operand)} {L : List (Nat × Nat × Opd)}, PL place ps L → ∀ {z z' : PT DV} {cs : Array Value}, CR μ n z cs →
    fill n L t z = some z' → ∃ cs', Instr.fill place cs (ps.map fun p => (p.1, ρ p.2)) = some cs' ∧ CR μ n z' cs'
  | _, _, .nil, z, z', cs, hc, he => by cases he; exact ⟨cs, rfl, hc⟩
  | _, _, .cons (i := i) (off := off) (size := size) (x := x) (L := L) hp ht, z, z', cs, hc, he => by
    change (match vcells (ev t (trX x)) with
      | some cs => Bool.rec none (fill n L t (wrn cs off z)) (and (Nat.beq (len cs) size) (Nat.ble (off + size) n))
      | none => none) = some z' at he
    cases hv : vcells (ev t (trX x)) with
    | none => rw [hv] at he; cases he
    | some l =>
      rw [hv] at he
      obtain ⟨hb, he⟩ := brec_some' he
      obtain ⟨b1, b2⟩ := and_t hb
      have b1 := Nat.eq_of_beq_eq_true b1
      have b2 := ble b2
      rw [len_eq] at b1
      obtain ⟨hl, h1⟩ := vcells_rel (hO.rel x) hv
      have hlen := hl.length
      have hsz : (ρ x).cells.size = size := by rw [← b1, hlen]; simp
      have hfit : off + (ρ x).cells.toList.length ≤ cs.size := by rw [hc.size]; simp; omega
      have hput : ((ρ x).cells.zipIdx.foldl (fun cs (c, j) => cs.setIfInBounds (off + j) c) cs) = put cs off (ρ x).cells.toList := by
        have := foldl_put (ρ x).cells.toList 0 off cs (by simpa using hfit)
        rw [← Array.foldl_toList]
        simpa [Array.toList_zipIdx] using this
      have hcr : CR μ n (wrn l off z) (put cs off (ρ x).cells.toList) := by
        refine ⟨by rw [put_size hfit]; exact hc.size, fun d hd => ?_, put_one hc.one h1⟩
        have := put_rel (lo := 0) (hi := n) (base := 0) (o := off) (t := z) (cs := cs) (fun d _ hd => by simpa using hc.rel d hd) hl (Nat.zero_le _) (by omega) (by simpa using hfit) d (Nat.zero_le _) (.inl hd)
        simpa using this
      obtain ⟨cs', hr, hcr'⟩ := fill_sound hO hn ht hcr he
      refine ⟨cs', ?_, hcr'⟩
      simp only [List.map_cons, Instr.fill, hp]
      have hno : ¬ ((ρ x).cells.size ≠ size ∨ off + (ρ x).cells.size > cs.size) := by
        rw [hsz, hc.size]; omega
      simp only [hput]
      simpa [hsz, hc.size, show ¬ n < off + size by omega] using hr

theorem zero_CR {e : TypeId} {z : Value} (hz : zero P e = some z) (hb : z.cells.toList.length ≤ 8388608) : CR μ z.cells.size (wrn (trCells z) 0 .leaf) z.cells := by
  obtain ⟨i, hi, _, h1⟩ := zero_some hz
  have hrel := trL_rel μ z.cells.toList
  refine ⟨rfl, fun d hd => ?_, h1⟩
  have hlen : (trCells z).length = z.cells.size := by simp [trCells]
  rw [at_wrn _ 0 _ d (by rw [hlen]; simpa using hb), if_pos (by omega)]
  have := hrel.get d Go.undef
  simpa [trCells] using this

theorem rdn_CR {n : Nat} {z : PT DV} {cs : Array Value} (hc : CR μ n z cs) : LR μ (rdn n 0 z) cs.toList := by
  refine LR.of_get _ _ (by rw [rdn_length, Array.length_toList, hc.size]) fun i hi => ?_
  rw [rdn_length] at hi
  rw [rdn_get n 0 z i hi, Nat.zero_add]
  have := hc.rel i hi
  rw [Array.getD_eq_getD_getElem?] at this
  rw [List.getD_eq_getElem?_getD, Array.getElem?_toList]
  exact this

theorem PL_struct {fs : Array Field} : ∀ {ps : List (Nat × Operand)} {L : List (Nat × Nat × Opd)}, (ps.mapM fun p => (fs[p.1]?).map fun f => (f.offset, cells P f.type, trX p.2)) = some L →
    PL (fun i => ((fs.toList.map fun f => (f.offset, cells P f.type)).toArray)[i]?) ps L
  | [], L, he => by cases he; exact .nil
  | (i, x) :: ps, L, he => by
    simp only [List.mapM_cons] at he
    cases hf : fs[i]? with
    | none => rw [hf] at he; cases he
    | some f =>
      rw [hf] at he
      cases hr : (ps.mapM fun p => (fs[p.1]?).map fun f => (f.offset, cells P f.type, trX p.2)) with
      | none => rw [hr] at he; cases he
      | some L' =>
        rw [hr] at he
        cases he
        refine .cons ?_ (PL_struct hr)
        simp [hf]
theorem PL_array {e : TypeId} : ∀ (ps : List (Nat × Operand)), PL (fun i => some (i * cells P e, cells P e)) ps (ps.map fun p => (p.1 * cells P e, cells P e, trX p.2))
  | [] => .nil
  | (_i, _x) :: ps => .cons rfl (PL_array ps)

theorem run_places : ∀ (fs : List Field), (∀ f ∈ fs, kn P f.type = true) → ∀ w : World, (fs.mapM fun f => (do pure (f.offset, ← sizeOf f.type) : Sem (Nat × Nat))).run P w = .ok (fs.map fun f => (f.offset, cells P f.type)) w
  | [], _, w => rfl
  | f :: fs, h, w => by
    obtain ⟨d, hd⟩ := kn_some (h f (by simp))
    have ih := run_places fs (fun g hg => h g (by simp [hg])) w
    simp only [List.mapM_cons, Sem.run_bind, run_size hd, Result.andThen_ok, Sem.run_pure, ih, List.map_cons]

theorem do_build (hO : OR μ t ρ) (s : Sim B μ h w) {ty : TypeId} {ps : Array (Nat × Operand)} {z : Value} {L : List (Nat × Nat × Opd)} (hz : zero P ty = some z) (hL : trParts P ty ps.toList = some L) (ho : o.op = .build ty ps)
    (hd : dBuild (trCells z) L t h = some (v, h')) : Does P B μ h w (execOp ρ o) v h' := by
  unfold dBuild at hd
  have hlen : (trCells z).length = z.cells.size := by simp [trCells]
  split at hd
  · rename_i z' hf
    obtain ⟨hb, hd⟩ := brec_some hd
    cases hd
    have hb := big_le hb
    rw [len_eq, hlen] at hb
    rw [len_eq, hlen] at hf ⊢
    have hcr := zero_CR (μ := μ) hz (by simpa using hb)
    have fin : ∀ place, PL place ps.toList L → (∀ cs', Instr.fill place z.cells (ps.toList.map fun p => (p.1, ρ p.2)) = some cs' → (Instr.build ty (ps.map fun (i, x) => (i, ρ x))).run P w = .ok (.agg cs') w) → Does P B μ h w (execOp ρ o) (.agg (rdn z.cells.size 0 z')) h := by
      intro place hpl hrun
      obtain ⟨cs', hfill, hcr'⟩ := fill_sound hO hb hpl hcr hf
      refine does_pure s (u := .agg cs') ?_ (.agg (rdn_CR hcr') hcr'.one)
      simp only [execOp, ho]
      exact run_v (hrun cs' hfill)
    have hmap : (ps.map fun (i, x) => (i, ρ x)).toList = ps.toList.map fun p => (p.1, ρ p.2) := by simp
    unfold trParts at hL
    split at hL
    · rename_i fs hu
      have hu := under_some hu (by simp)
      obtain ⟨hk, hL⟩ := brec_some' hL
      have hk := List.all_eq_true.1 hk
      refine fin _ (PL_struct hL) fun cs' hfill => ?_
      have hpl := run_places (P := P) fs.toList hk w
      unfold Instr.build
      simp only [Sem.run_bind, run_zero hz, Result.andThen_ok, run_underlying hu]
      have hpl' : (fs.mapM fun f => (do pure (f.offset, ← sizeOf f.type) : Sem (Nat × Nat))).run P w = .ok (fs.toList.map fun f => (f.offset, cells P f.type)).toArray w := by
        rw [Array.mapM_eq_mapM_toList]
        simp only [Functor.map]
        rw [Sem.run_bind', hpl]
        rfl
      rw [hpl']
      simp only [Result.andThen_ok, hmap, hfill]
      rfl
    · rename_i n e hu
      have hu := under_some hu (by simp)
      obtain ⟨hk, hL⟩ := brec_some hL
      obtain ⟨de, hde⟩ := kn_some hk
      subst hL
      refine fin _ (PL_array ps.toList) fun cs' hfill => ?_
      unfold Instr.build
      simp only [Sem.run_bind, run_zero hz, Result.andThen_ok, run_underlying hu, run_size hde, hmap, hfill]
      rfl
    · cases hL
  · cases hd

theorem do_buildSlice (hO : OR μ t ρ) (s : Sim B μ h w) {ty e n : TypeId} {ps : Array (Nat × Operand)} {z : Value} (hu : under P ty = .slice e) (hz : zero P e = some z) (hbig : n * cells P e ≤ 16777216) (ho : o.op = .buildSlice ty n ps)
    (hd : dBuildSlice e (reps n (trCells z)) n (cells P e) (ps.toList.map fun p => (p.1 * cells P e, cells P e, trX p.2)) t h = some (v, h')) (gap : Gap μ h h') : Does P B μ h w (execOp ρ o) v h' := by
  have hu := under_some hu (by simp)
  obtain ⟨i, hi, _, h1⟩ := zero_some hz
  have hsize := zero_size hz
  have hsz : (sizeOf e).run P w = .ok (cells P e) w := by simp [sizeOf, typeInfo, hi, cells, Program.cellsOf]
  have hrel := reps_rel μ (trL_rel μ z.cells.toList) n
  have hone := flat_one h1 n
  have hflen : (reps n (trCells z)).length = n * cells P e := by
    have := hrel.length
    rw [flat_length] at this
    simpa [hsize, trCells] using this
  unfold dBuildSlice at hd
  split at hd
  · rename_i z' hf
    obtain ⟨hb, hd⟩ := brec_some hd
    cases hd
    have hb := big_le hb
    rw [len_eq, hflen] at hb
    rw [len_eq, hflen] at hf
    let cs : Array Value := ((List.replicate n z.cells.toList).flatten).toArray
    have hcsz : cs.size = n * cells P e := by
      show ((List.replicate n z.cells.toList).flatten).length = _
      rw [flat_length]; simp [hsize]
    have hcr : CR μ (n * cells P e) (wrn (reps n (trCells z)) 0 .leaf) cs := by
      refine ⟨hcsz, fun d hd => ?_, by simpa [cs] using hone⟩
      rw [at_wrn _ 0 _ d (by rw [hflen]; omega), if_pos (by rw [hflen]; omega)]
      have := hrel.get d Go.undef
      simpa [trCells, cs] using this
    obtain ⟨cs', hfill, hcr'⟩ := fill_sound hO hb (PL_array (P := P) (e := e) ps.toList) hcr hf
    have hrow : (Array.range (n * cells P e)).map (fun j => (if n * cells P e = 0 then (#[] : Array Value) else z.cells)[j % (if n * cells P e = 0 then (#[] : Array Value) else z.cells).size]!) = cs := by
      by_cases h0 : n * cells P e = 0
      · rw [if_pos h0, h0]
        have : cs.size = 0 := by rw [hcsz, h0]
        rw [Array.size_eq_zero_iff.1 this]; simp
      · rw [if_neg h0, ← hsize]
        exact range_flat z.cells n 
    have hf0 : μ h.next = none := gap h.next (Nat.le_refl _) (by rw [Hp.next_new]; omega)
    rw [len_eq, hflen]
    obtain ⟨hs, hst⟩ := new_block s hf0 (.cells e 0 (n * cells P e) .free z') (.cells cs' e) 0 (n * cells P e)
      ⟨rfl, Nat.zero_le _, hb, by simp, cs', (0, 0), heap_alloc_new _ _, hcr'.size, fun d _ hd => by simpa using hcr'.rel d hd, hcr'.one, fun _ => ⟨s.base, fun _ => rfl⟩, rfl⟩
    have hmap : (ps.map fun (i, x) => (i, ρ x)).toList = ps.toList.map fun p => (p.1, ρ p.2) := by simp
    refine ⟨.slice (some ⟨w.heap.size, 0, none⟩) n n, _, _, .inl ?_, hst, hs, .slice (.inr ⟨_, Mu.set_same _ _ _, rfl, rfl, by show 0 + n * cells P e ≤ n * cells P e; rw [Nat.zero_add]; exact Nat.le_refl _⟩) (Nat.le_refl _) (Nat.le_refl _) (fun _ => rfl)⟩
    simp only [execOp, ho]
    refine run_v ?_
    unfold Instr.buildSlice
    have hno : ¬ (n * cells P e > 2 ^ 24) := Nat.not_lt.2 hbig
    simp only [Sem.run_bind, run_underlying hu, Result.andThen_ok, hsz, Sem.run_ite, if_neg hno]
    by_cases h0 : n * cells P e = 0
    · rw [if_pos h0] at hrow
      simp only [if_pos h0, Sem.run_pure, Result.andThen_ok, hrow, hmap, hfill, Sem.run_bind, run_newRow]
    · rw [if_neg h0] at hrow
      simp only [if_neg h0, Sem.run_bind, run_zero hz, Sem.run_pure, Result.andThen_ok, hrow, hmap, hfill, run_newRow]
  · cases hd

/-- a part of an aggregate, as it stands there -/
theorem part_rel {ty : TypeId} (hk : kn P ty = true) {cs : List DV} {vs : Array Value} (hl : LR μ cs vs.toList) (h1 : ∀ u ∈ vs.toList, u.oneCell' = true) {off : Nat} (_hin : off + cells P ty ≤ vs.size) (hlt : isAg P ty = false → off < vs.size) (w : World) :
    ∃ u, (part ty vs off).run P w = .ok u w ∧ VR μ (if isAg P ty = true then .agg ((cs.drop off).take (cells P ty)) else lget cs off) u := by
  obtain ⟨d, hu⟩ := kn_some hk
  unfold part
  cases hg : isAg P ty with
  | true =>
    refine ⟨.agg (vs.extract off (off + cells P ty)), ?_, ?_⟩
    · simp only [Sem.run_bind, run_agg hu, hg, Result.andThen_ok, if_true, run_size hu]; rfl
    · rw [if_pos rfl]
      have e : (vs.extract off (off + cells P ty)).toList = (vs.toList.drop off).take (cells P ty) := by simp
      refine .agg (by rw [e]; exact (hl.drop off).take _) (fun u hu => h1 u ?_)
      rw [e] at hu
      exact List.mem_of_mem_drop (List.mem_of_mem_take hu)
  | false =>
    have := hlt hg
    refine ⟨vs[off], ?_, ?_⟩
    · simp only [Sem.run_bind, run_agg hu, hg, Result.andThen_ok, Bool.false_eq_true, if_false, Array.getElem?_eq_getElem this]; rfl
    · simp only [Bool.false_eq_true, if_false]
      rw [lget_eq]
      have := hl.get off Go.undef
      simpa [List.getD_eq_getElem?_getD, *] using this

theorem do_field (hO : OR μ t ρ) (s : Sim B μ h w) {ty : TypeId} {x : Operand} {i : Nat} {f : Field} (hf : trField P ty i = some f) (hk : kn P f.type = true) (ho : o.op = .field ty x i)
    (hd : dField (isAg P f.type) f.offset (cells P f.type) (trX x) t h = some (v, h')) : Does P B μ h w (execOp ρ o) v h' := by
  have hx := hO.rel x
  unfold trField at hf
  split at hf
  · rename_i fs hu
    have hu := under_some hu (by simp)
    unfold dField at hd
    split at hd
    · rename_i cs e; rw [e] at hx
      obtain ⟨hb, hd⟩ := brec_some' hd
      obtain ⟨b1, b2⟩ := and_t hb
      have b1 := ble b1; have b2 := blt b2
      rw [len_eq] at b1 b2
      obtain ⟨vs, ea, hl, h1⟩ := hx.inv_agg
      rw [hl.length, Array.length_toList] at b1 b2
      obtain ⟨u, hr, hv⟩ := part_rel hk hl h1 b1 (fun _ => b2) w
      have key : h' = h ∧ v = (if isAg P f.type = true then .agg ((cs.drop f.offset).take (cells P f.type)) else lget cs f.offset) := by
        cases hg : isAg P f.type with
        | true => rw [hg] at hd; cases hd; exact ⟨rfl, rfl⟩
        | false => rw [hg] at hd; cases hd; exact ⟨rfl, rfl⟩
      obtain ⟨rfl, rfl⟩ := key
      refine does_pure s (u := u) ?_ hv
      simp only [execOp, ho]
      exact run_v (by simp [Instr.field, run_underlying hu, hf, ea, asAgg, hr])
    · cases hd
  · cases hf

theorem do_indexAgg (hO : OR μ t ρ) (s : Sim B μ h w) {ty e n : TypeId} {x i : Operand} (hu : under P ty = .array n e) (hk : kn P e = true) (ho : o.op = .index ty x i)
    (hd : dIndexAgg n (isAg P e) (cells P e) (trX x) (trX i) t h = some (v, h')) : Does P B μ h w (execOp ρ o) v h' := by
  have hx := hO.rel x
  have hi := hO.rel i
  have hu := under_some hu (by simp)
  obtain ⟨de, hue⟩ := kn_some hk
  unfold dIndexAgg at hd
  split at hd
  · rename_i cs k j e1 e2; rw [e1] at hx; rw [e2] at hi
    split at hd
    · rename_i m hb
      obtain ⟨hbb, hd⟩ := brec_some' hd
      obtain ⟨b1, b2⟩ := and_t hbb
      have b1 := ble b1; have b2 := blt b2
      rw [len_eq] at b1 b2
      obtain ⟨rfl, hlt⟩ := below_some hb
      obtain ⟨vs, ea, hl, h1⟩ := hx.inv_agg
      rw [hl.length, Array.length_toList] at b1 b2
      obtain ⟨u, hr, hv⟩ := part_rel hk hl h1 b1 (fun _ => b2) w
      have key : h' = h ∧ v = (if isAg P e = true then .agg ((cs.drop (m * cells P e)).take (cells P e)) else lget cs (m * cells P e)) := by
        cases hg : isAg P e with
        | true => rw [hg] at hd; cases hd; exact ⟨rfl, rfl⟩
        | false => rw [hg] at hd; cases hd; exact ⟨rfl, rfl⟩
      obtain ⟨rfl, rfl⟩ := key
      refine does_pure s (u := u) ?_ hv
      simp only [execOp, ho]
      refine run_v ?_
      have h0 : (0 : Int) ≤ (m : Int) ∧ (m : Int) < n := by omega
      simp only [Instr.index, Sem.run_bind, hi.inv_int, asIntOf, Sem.run_pure, Result.andThen_ok, run_underlying hu, ea]
      rw [if_pos h0]
      simp [run_size hue, hr]
    · cases hd
  · cases hd
end
end Go.Dm
