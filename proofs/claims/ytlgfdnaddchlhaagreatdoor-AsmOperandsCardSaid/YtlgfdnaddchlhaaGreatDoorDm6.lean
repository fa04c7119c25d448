/- An interpreter of the model's code, deterministic, and its soundness, part 6: append, copy, clear. No condition. -/
import Derived.Test.YtlgfdnaddchlhaaGreatDoorDm5
namespace Go.Dm

section
variable {P : Program} {B : Nat} {μ : Mu} {h h' : Hp} {w : World} {t : Tm} {ρ : Operand → Value} {v : DV} {o : Oper}

set_option maxHeartbeats 4000000 in
/-- append, within what there is -/
theorem run_room {ts : Array TypeId} {ty e u rt : TypeId} {i : TypeInfo} {z : Value} {base : Option Addr} {n cap m : Nat} {x : Value} {us : List Value} {w' : World}
    (ht : ts = #[ty, u]) (hu : P.underlying ty = some (.slice e)) (hun : under P u ≠ .invalid) (hi : P.info? e = some i) (hz : i.zero = some z) (_hzs : z.cells.size = i.size)
    (hsrc : Src P u z.cells i.size w.heap x m us) (hroom : n + m ≤ cap) (hsmall : m * i.bytes ≤ 1099511627776)
    (hst : ∀ a, base = some a → (storeCells (a.add (n * i.size)) us).run P w = .ok () w') (hnil : base = none → w' = w) :
      (Builtin.append_ ts rt #[.slice base n cap, x]).run P w = .ok (.slice base (n + m) cap) w' := by
  have hus := under_some rfl hun
  have hsz : ∀ w, (sizeOf e).run P w = .ok i.size w := fun w => by simp [sizeOf, typeInfo, hi]
  have hinf : ∀ w, (typeInfo e).run P w = .ok i w := fun w => run_info hi w
  have hzv : ∀ w, (zeroValue e).run P w = .ok z w := fun w => by simp [zeroValue, typeInfo, hi, hz]
  subst ht
  rcases hsrc.told with ⟨k, hk, k', rfl, hsm, hflat⟩ | ⟨hk, hlo, hfc⟩
  · have hus' : P.underlying u = some (.int k) := by rw [hus, hk]
    have w1 := wrap_small (n := m) (by omega)
    have hmb : ¬ (281474976710656 < ((m : Int) * (i.bytes : Int))) := by
      have : (m : Int) * (i.bytes : Int) = ((m * i.bytes : Nat) : Int) := by push_cast; rfl
      omega
    have hmn : ¬ ((m : Int) < 0) := by omega
    by_cases h0 : m * i.size = 0
    · have hnil' : us = [] := by
        apply List.length_eq_zero_iff.1; rw [hsrc.len]; exact h0
      subst hnil'
      cases base with
      | none => rw [hnil rfl]; simp [Builtin.append_, run_underlying hu, hsz, run_underlying hus', asInt, asIntOf, w1, hinf, hmn, hmb, hroom, h0]
      | some a => simp [Builtin.append_, run_underlying hu, hsz, run_underlying hus', asInt, asIntOf, w1, hinf, hmn, hmb, hroom, h0, hst a rfl]
    · have e1 : Builtin.zeroCells z.cells m = us.toArray := by rw [hflat]; exact range_flat z.cells m 
      cases base with
      | none => rw [hnil rfl]; simp [Builtin.append_, run_underlying hu, hsz, run_underlying hus', asInt, asIntOf, w1, hinf, hmn, hmb, hroom, hzv, e1]
      | some a => simp [Builtin.append_, run_underlying hu, hsz, run_underlying hus', asInt, asIntOf, w1, hinf, hmn, hmb, hroom, h0, hzv, e1, hst a rfl]
  · have hfc1 := hfc w rfl
    have hlo1 := hlo w
    cases base with
    | none =>
      rw [hnil rfl]
      cases hq : under P u <;> first
        | exact absurd hq (hk _)
        | exact absurd hq hun
        | (rw [hq] at hus
           simp [Builtin.append_, run_underlying hu, hsz, run_underlying hus, hinf, hlo1, hroom, hfc1])
    | some a =>
      cases hq : under P u <;> first
        | exact absurd hq (hk _)
        | exact absurd hq hun
        | (rw [hq] at hus
           simp [Builtin.append_, run_underlying hu, hsz, run_underlying hus, hinf, hlo1, hroom, hfc1, hst a rfl])

theorem getD_app_l {α : Type} {l m : List α} {i : Nat} {d : α} (h : i < l.length) : (l ++ m).getD i d = l.getD i d := by
  rw [List.getD_eq_getElem?_getD, List.getElem?_append_left h, ← List.getD_eq_getElem?_getD]
theorem getD_app_r {α : Type} {l m : List α} {i : Nat} {d : α} (h : l.length ≤ i) : (l ++ m).getD i d = m.getD (i - l.length) d := by
  rw [List.getD_eq_getElem?_getD, List.getElem?_append_right h, ← List.getD_eq_getElem?_getD]
theorem slice_new (μ : Mu) (b : Pos) (r sz : Nat) {n k : Nat} (hk : n ≤ k) : VR (μ.set b ⟨r, 0, 0, k * sz⟩) (.slice b 0 n n false sz) (.slice (some ⟨r, 0, none⟩) n k) :=
  .slice (.inr ⟨_, Mu.set_same _ _ _, rfl, rfl, by show 0 + k * sz ≤ k * sz; rw [Nat.zero_add]; exact Nat.le_refl _⟩) hk hk (fun e => by cases e)
theorem AR_slice {b : Pos} {p n cap sz : Nat} {a : Addr} (ha : SR μ b p cap sz a) : AR μ b (p + n * sz) (a.add (n * sz)) := ha.AR.add _

/-- what lies in a row of old, new and zero cells -/
theorem rows_rel {μ : Mu} {ol l : List DV} {old us rest : List Value} (h1 : LR μ ol old) (h2 : LR μ l us) : ∀ d, d < ol.length + l.length → VR μ ((ol ++ l).getD d .undef) ((old ++ us ++ rest).toArray.getD d Go.undef) := by
  intro d hd
  have hl := (h1.append h2)
  have e1 := h1.length
  have e2 := h2.length
  have := hl.get d Go.undef
  rw [Array.getD_eq_getD_getElem?, List.getElem?_toArray, List.getElem?_append_left (by simp; omega)]
  rw [List.getD_eq_getElem?_getD (l := old ++ us)] at this
  exact this

theorem do_append (hO : OR μ t ρ) (s : Sim B μ h w) {c : Call} {ty e u : TypeId} {x y : Operand} {mk : Bool} {z : Value} (hu : under P ty = .slice e) (hz : zero P e = some z) (hun : under P u ≠ .invalid)
    (hmk : (mk = true ∧ ∃ k, under P u = .int k) ∨ (mk = false ∧ ∀ k, under P u ≠ .int k)) (ho : o.op = .call c) (hc : c.callee = .builtin .append)
    (ht : c.argTypes.toList = [ty, u]) (ha : c.args.toList = [x, y]) (hd : dAppend e (cells P e) (bytesOf P e) mk (trCells z) (trX x) (trX y) t h = some (v, h')) (gap : Gap μ h h') : Does P B μ h w (execOp ρ o) v h' := by
  refine does_builtin ho hc fun cs => ?_
  have hx := hO.rel x
  have hy := hO.rel y
  have hu := under_some hu (by simp)
  obtain ⟨i, hi, hiz, hz1⟩ := zero_some hz
  have hzs := zero_size hz
  have hisz : i.size = cells P e := by simp [cells, Program.cellsOf, hi]
  have hiby : i.bytes = bytesOf P e := by simp [bytesOf, Program.bytesOf, hi]
  have hzs' : z.cells.size = i.size := by rw [hzs, hisz]
  have hts := arr2 ht
  rw [arr2 ha]
  unfold dAppend dappend at hd
  cases hsrc0 : source (cells P e) mk (trCells z) (ev t (trX y)) h with
  | none => rw [hsrc0] at hd; cases hd
  | some ml =>
    obtain ⟨m, l⟩ := ml
    rw [hsrc0] at hd
    obtain ⟨us, hl, hsrc⟩ := source_sound s hzs hz1 hmk hy hsrc0
    rw [← hisz] at hsrc hd
    rw [← hiby] at hd
    have hlen := hl.length
    have fin : ∀ {r : Value} {w' : World} {ν : Mu} {v : DV} {k : Hp}, (Builtin.append_ c.argTypes o.type #[ρ x, ρ y]).run P w = .ok r w' → Step μ h w ν k w' → Sim B ν k w' → VR ν v r →
        Does P B μ h w (builtin .append c.argTypes o.type cs (#[x, y].map ρ)) v k := fun hr st s v => ⟨_, _, _, .inl (run_v (by simpa using hr)), st, s, v⟩
    cases m with
    | zero =>
      have hus : us = [] := by apply List.length_eq_zero_iff.1; rw [hsrc.len]; simp
      subst hus
      have same : ∀ {n cap : Nat} {base : Option Addr}, n ≤ cap → ρ x = .slice base n cap → (Builtin.append_ c.argTypes o.type #[ρ x, ρ y]).run P w = .ok (ρ x) w := by
        intro n cap base hn hxe
        rw [hxe]
        exact run_room (n := n) (m := 0) hts hu hun hi hiz hzs' hsrc (by omega) (by simp) (fun a _ => rfl) (fun _ => rfl)
      change (match ev t (trX x) with
        | .nilslice => some (ev t (trX x), h)
        | .slice .. => some (ev t (trX x), h)
        | _ => none) = some (v, h') at hd
      split at hd
      · rename_i e1; rw [e1] at hx hd; cases hd
        have := hx.inv_nilslice
        exact fin (same (Nat.le_refl 0) this) (.refl _ _ _) s hx
      · rename_i b p n q ex sz e1; rw [e1] at hx hd; cases hd
        obtain ⟨a, cap, ea, _, hn, _⟩ := hx.inv_slice
        exact fin (same hn ea) (.refl _ _ _) s hx
      · cases hd
    | succ m' =>
      -- the new block of a growth, whatever the elder cells are
      have grown : ∀ {base : Option Addr} {n cap : Nat} {ol : List DV} {old : List Value}, ρ x = .slice base n cap → LR μ ol old → (∀ u ∈ old, u.oneCell' = true) → old.length = n * i.size → cap < n + (m' + 1) → (n + m' + 1) * (i.bytes + 1) ≤ 1099511627776 →
          (∀ w1 : World, w1.heap = w.heap → (Builtin.firstCells i.size n (.slice base n cap)).run P w1 = .ok old.toArray w1) →
          ∃ k cells', n + m' + 1 ≤ k ∧ cells'.size = k * i.size ∧ (∀ d, d < ol.length + l.length → VR μ ((ol ++ l).getD d .undef) (cells'.getD d Go.undef)) ∧ (∀ u ∈ cells'.toList, u.oneCell' = true) ∧
            (Builtin.append_ c.argTypes o.type #[ρ x, ρ y]).run P w = .ok (.slice (some ⟨w.heap.size, 0, none⟩) (n + m' + 1) k) (w.drew.alloc (.cells cells' e)) := by
        intro base n cap ol old hxe hol h1 hlen' hgrow hby hold
        have hby' : (n + (m' + 1)) * i.bytes ≤ 1099511627776 := by
          have : (n + m' + 1) * i.bytes ≤ (n + m' + 1) * (i.bytes + 1) := Nat.mul_le_mul_left _ (by omega)
          have e : n + (m' + 1) = n + m' + 1 := by omega
          rw [e]; omega
        have hsm : n + (m' + 1) ≤ 1099511627776 := by
          have : (n + m' + 1) * 1 ≤ (n + m' + 1) * (i.bytes + 1) := Nat.mul_le_mul_left _ (by omega)
          omega
        obtain ⟨k, rest, hk, hrl, hrz, hrun⟩ := run_grow (rt := o.type) hts hu hun hi hiz hzs' hsrc (Nat.succ_pos _) hgrow hby' hsm hlen' hold
        refine ⟨k, (old ++ us ++ rest).toArray, by omega, ?_, rows_rel hol hl, ?_, by rw [hxe]; exact hrun⟩
        · simp only [List.size_toArray, List.length_append, hlen', hsrc.len, hrl]
          rw [← Nat.add_mul, ← Nat.add_mul]; congr 1; omega
        · intro y hy
          simp only [List.mem_append] at hy
          rcases hy with (hy | hy) | hy
          · exact h1 y hy
          · exact hsrc.one y hy
          · exact hz1 y (by simpa using hrz y hy)
      have hf : ∀ k : Hp, h'= k → k.next = h.next.succ → μ h.next = none := fun k e1 e2 => gap h.next (Nat.le_refl _) (by rw [e1, e2, Pos.toN_succ]; omega)
      have s1 : Sim B μ h w.drew := s.same rfl
      have st0 : Step μ h w μ h w.drew := Step.same μ h rfl rfl rfl rfl
      -- a new row of the interpreter's: the elder cells and the new ones
      have fresh : ∀ {ol : List DV} {n k : Nat} {cells' : Array Value} {v' : DV}, newRow h e (ol ++ l) v' = some (v, h') → ol.length = n * i.size → n + m' + 1 ≤ k → cells'.size = k * i.size → (∀ d, d < ol.length + l.length → VR μ ((ol ++ l).getD d .undef) (cells'.getD d Go.undef)) → (∀ u ∈ cells'.toList, u.oneCell' = true) →
          v' = v ∧ Sim B (μ.set h.next ⟨w.heap.size, 0, 0, k * i.size⟩) h' (w.drew.alloc (.cells cells' e)) ∧ Step μ h w (μ.set h.next ⟨w.heap.size, 0, 0, k * i.size⟩) h' (w.drew.alloc (.cells cells' e)) := by
        intro ol n k cells' v' hnr hol hk hcs hrel hone
        unfold Dm.newRow at hnr
        obtain ⟨hb, hnr⟩ := brec_some hnr
        cases hnr
        have hb := big_le hb
        rw [len_eq] at hb
        have hll : (ol ++ l).length = (n + m' + 1) * i.size := by
          rw [List.length_append, hol, hlen, hsrc.len, ← Nat.add_mul]; congr 1
        have hkk : (n + m' + 1) * i.size ≤ k * i.size := Nat.mul_le_mul_right _ hk
        obtain ⟨hs, hst⟩ := new_block (w := w.drew) s1 (hf _ rfl rfl) (.cells e 0 (len (ol ++ l)) .free (wrn (ol ++ l) 0 .leaf)) (.cells cells' e) 0 (k * i.size)
          ⟨rfl, Nat.zero_le _, by rw [len_eq]; exact hb, by rw [len_eq, hll]; show 0 + (_ - 0) ≤ k * i.size; omega, cells', (0, 0), heap_alloc_new _ _, hcs, fun d _ hd => by
            rw [len_eq] at hd
            rw [at_wrn _ 0 _ d (by omega), if_pos (by omega), Nat.zero_add]
            exact hrel (d - 0) (by rw [List.length_append] at hd; omega), hone, fun _ => ⟨s.base, fun _ => rfl⟩, rfl⟩
        exact ⟨rfl, hs, st0.trans s1.top hst⟩
      change (match ev t (trX x) with
        | .nilslice => Bool.rec none (newRow h e l (.slice h.next 0 (m' + 1) (m' + 1) false i.size)) (Nat.ble ((m' + 1) * (i.bytes + 1)) 1099511627776)
        | .slice b o n c ex sz' => Bool.rec none
          (Bool.rec
            (ex.rec
              (match h.m.get b with
              | some (.cells ty' lo hi own t) => Bool.rec none
                  (some (.slice h.next o (n + m' + 1) (n + m' + 1) false i.size, (h.set b none).new (.cells e o (o + (n + m' + 1) * i.size) (own.from o) (wrn l (o + n * i.size) t))))
                  (and (and (Nat.blt 0 (n + c)) (and (own.ok (o + n * i.size)) (big (o + (n + m' + 1) * i.size)))) (and (Nat.beq e ty') (and (Nat.ble lo o) (Nat.ble (o + n * i.size) hi))))
              | _ => none)
              (match (Nat.rec (some []) (fun n' _ => h.read b o ((n' + 1) * i.size)) n : Option (List DV)) with
              | some old => newRow h e (app old l) (.slice h.next 0 (n + m' + 1) (n + m' + 1) false i.size)
              | none => none))
            (match h.write b (o + n * i.size) l with
            | some h => some (.slice b o (n + m' + 1) c ex i.size, h)
            | none => none)
            (Nat.ble (n + m' + 1) c))
          (and (Nat.ble ((n + m' + 1) * (i.bytes + 1)) 1099511627776) (Nat.beq i.size sz'))
        | _ => none) = some (v, h') at hd
      split at hd
      · -- nil
        rename_i e1; rw [e1] at hx
        have hxe := hx.inv_nilslice
        obtain ⟨hb, hd⟩ := brec_some' hd
        have hb := ble hb
        obtain ⟨k, cells', hk, hcs, hrel, hone, hrun⟩ := grown (ol := []) (old := []) hxe .nil (by simp) (by simp) (by omega) (by simpa using hb) (fun w1 _ => by simp [Builtin.firstCells])
        obtain ⟨rfl, hs, hst⟩ := fresh (ol := []) (n := 0) (by simpa using hd) (by simp) hk hcs hrel hone
        refine fin hrun hst hs (by simpa using slice_new μ h.next w.heap.size i.size (n := 0 + m' + 1) (k := k) hk)
      · rename_i b p n q ex sz e1; rw [e1] at hx
        obtain ⟨a, cap, hxe, hsr, hn, hq, hex⟩ := hx.inv_slice
        replace hd := brec_some' hd
        obtain ⟨hb, hd⟩ := hd
        obtain ⟨b1, b2⟩ := and_t hb
        have b1 := ble b1
        have b2 : i.size = sz := Nat.eq_of_beq_eq_true b2
        subst b2
        have hbym : (m' + 1) * i.bytes ≤ 1099511627776 := by
          have h1 : (m' + 1) * i.bytes ≤ (n + m' + 1) * i.bytes := Nat.mul_le_mul_right _ (by omega)
          have h2 : (n + m' + 1) * i.bytes ≤ (n + m' + 1) * (i.bytes + 1) := Nat.mul_le_mul_left _ (by omega)
          omega
        cases hle : Nat.ble (n + m' + 1) q with
        | true =>
          have hle' := ble hle
          rw [hle] at hd
          change (match h.write b (p + n * i.size) l with | some h => some (DV.slice b p (n + m' + 1) q ex i.size, h) | none => none) = some (v, h') at hd
          cases hw : h.write b (p + n * i.size) l with
          | none => rw [hw] at hd; cases hd
          | some h1 =>
            rw [hw] at hd; cases hd
            have hsr := hsr.resolve_left (by omega)
            obtain ⟨w', hr, hs, hst⟩ := write_sound P s (AR_slice (n := n) hsr) hl hsrc.one hw
            have hrun := run_room (rt := o.type) (base := some a) (n := n) (cap := cap) hts hu hun hi hiz hzs' hsrc (by omega) hbym (fun a' e => by cases e; exact hr) (fun e => by cases e)
            exact fin (by rw [hxe]; exact hrun) hst hs (.slice (.inr (hsr.mono hst.le)) (by omega) hq hex)
        | false =>
          rw [hle] at hd
          have hgt : q < n + m' + 1 := by
            rcases Nat.lt_or_ge q (n + m' + 1) with h | h
            · exact h
            · rw [Nat.ble_eq_true_of_le h] at hle; cases hle
          cases ex with
          | true =>
            obtain rfl := hex rfl
            change (match (Nat.rec (some []) (fun n' _ => h.read b p ((n' + 1) * i.size)) n : Option (List DV)) with
              | some old => newRow h e (app old l) (DV.slice h.next 0 (n + m' + 1) (n + m' + 1) false i.size)
              | none => none) = some (v, h') at hd
            have old : ∃ ol os, (Nat.rec (some []) (fun n' _ => h.read b p ((n' + 1) * i.size)) n : Option (List DV)) = some ol ∧ LR μ ol os ∧ (∀ u ∈ os, u.oneCell' = true) ∧ os.length = n * i.size ∧
                (∀ w1 : World, w1.heap = w.heap → (Builtin.firstCells i.size n (.slice (some a) n cap)).run P w1 = .ok os.toArray w1) := by
              cases n with
              | zero => exact ⟨[], [], rfl, .nil, by simp, by simp, fun w1 _ => by simp [Builtin.firstCells, loadCells, loadCellsFrom]⟩
              | succ n' =>
                change (match h.read b p ((n' + 1) * i.size) with
                  | some old => newRow h e (app old l) (DV.slice h.next 0 (n' + 1 + m' + 1) (n' + 1 + m' + 1) false i.size)
                  | none => none) = some (v, h') at hd
                cases hr : h.read b p ((n' + 1) * i.size) with
                | none => rw [hr] at hd; cases hd
                | some ol =>
                  obtain ⟨os, h1, h2, h3, h4⟩ := read_sound s (hsr.resolve_left (by omega)).AR hr
                  exact ⟨ol, os, hr, h2, h4, h1, fun w1 hw1 => run_loads P w1 a os _ h1 fun j u hj => by rw [cell_heap hw1]; exact h3 j u hj⟩
            obtain ⟨ol, os, hol, hlo, h1, hol', hfc⟩ := old
            rw [hol] at hd
            change newRow h e (app ol l) (DV.slice h.next 0 (n + m' + 1) (n + m' + 1) false i.size) = some (v, h') at hd
            rw [app_eq] at hd
            obtain ⟨k, cells', hk, hcs, hrel, hone, hrun⟩ := grown hxe hlo h1 hol' (by omega) b1 hfc
            obtain ⟨rfl, hs, hst⟩ := fresh (n := n) hd (by rw [hlo.length, hol']) hk hcs hrel hone
            refine fin hrun hst hs (slice_new μ h.next w.heap.size i.size hk)
          | false =>
            change (match h.m.get b with
              | some (.cells ty' lo hi own t) => Bool.rec none
                  (some (DV.slice h.next p (n + m' + 1) (n + m' + 1) false i.size, (h.set b none).new (.cells e p (p + (n + m' + 1) * i.size) (own.from p) (wrn l (p + n * i.size) t))))
                  (and (and (Nat.blt 0 (n + q)) (and (own.ok (p + n * i.size)) (big (p + (n + m' + 1) * i.size)))) (and (Nat.beq e ty') (and (Nat.ble lo p) (Nat.ble (p + n * i.size) hi))))
              | _ => none) = some (v, h') at hd
            split at hd
            · rename_i ty' lo hj own ct hg
              replace hd := brec_some hd
              obtain ⟨hcnd, hd⟩ := hd
              cases hd
              obtain ⟨c1, c2⟩ := and_t hcnd
              obtain ⟨c0, c1⟩ := and_t c1
              obtain ⟨c1, c1'⟩ := and_t c1
              obtain ⟨c2, c3⟩ := and_t c2
              obtain ⟨c3, c4⟩ := and_t c3
              have c0 := blt c0
              have c1' := big_le c1'
              have c2 : e = ty' := Nat.eq_of_beq_eq_true c2
              have c3 := ble c3
              have c4 := ble c4
              subst c2
              have hsr := hsr.resolve_left (by omega)
              obtain ⟨mb, hm, ea, eo, eK⟩ := hsr
              obtain ⟨rfl, h2, h2', h3, cs', fz, h4, h5, h6, h7, h8, h9⟩ := s.cellsAt hm hg
              have hown : own.own = true := by cases own <;> first | rfl | cases c1
              have hrows : p + n * i.size + l.length = p + (n + m' + 1) * i.size := by
                rw [hlen, hsrc.len, Nat.add_assoc p, ← Nat.add_mul]; rfl
              have hfrom : (own.from p).own = true → own.own = true := fun _ => hown
              have eoff : a.off = mb.base + (p - mb.lo) := by omega
              rcases Nat.lt_or_ge cap (n + m' + 1) with hgr | hgr
              · -- it grows in fact
                have hrd : h.read b p (n * i.size) = some (rdn (n * i.size) p ct) := by
                  unfold Hp.read
                  rw [hg]
                  show (Bool.rec none (some _) (and (Nat.ble mb.lo p) (Nat.ble (p + n * i.size) hj)) : Option (List DV)) = _
                  rw [Nat.ble_eq_true_of_le c3, Nat.ble_eq_true_of_le c4]; rfl
                obtain ⟨os, g1, g2, g3, g4⟩ := read_sound s ⟨mb, hm, ea, eo⟩ hrd
                obtain ⟨k, cells', hk, hcs, hrel, hone, hrun⟩ := grown hxe g2 g4 g1 (by omega) b1 (fun w1 hw1 => by
                  cases n with
                  | zero =>
                    have : os = [] := by apply List.length_eq_zero_iff.1; rw [g1]; simp
                    subst this
                    simp [Builtin.firstCells, loadCells, loadCellsFrom]
                  | succ n' => exact run_loads P w1 a os _ g1 fun j u hj => by rw [cell_heap hw1]; exact g3 j u hj)
                have hkk : (n + m' + 1) * i.size ≤ k * i.size := Nat.mul_le_mul_right _ hk
                obtain ⟨hs, hst⟩ := move_block (n := ⟨w.heap.size, 0, p, k * i.size⟩) (u := w.drew.alloc (.cells cells' e)) (o' := .cells e p (p + (n + m' + 1) * i.size) (own.from p) (wrn l (p + n * i.size) ct)) s hm hg hown (hf _ rfl rfl) rfl rfl rfl
                  (by show w.heap.size ≤ (w.heap.push _).size; simp) (fun r hr _ => heap_alloc_old w.drew _ hr) (.inr (Nat.le_refl _))
                  ⟨rfl, by omega, c1', by show 0 + _ ≤ k * i.size; omega, cells', (0, 0), heap_alloc_new _ _, hcs, fun d hd1 hd2 => by
                      rw [at_wrn l _ ct d (by omega)]
                      show VR μ _ (cells'.getD (0 + (d - p)) Go.undef)
                      rw [Nat.zero_add]
                      have := hrel (d - p) (by rw [rdn_length]; omega)
                      by_cases hdd : p + n * i.size ≤ d
                      · rw [if_pos ⟨hdd, by omega⟩]
                        rw [getD_app_r (by rw [rdn_length]; omega), rdn_length] at this
                        rwa [show d - (p + n * i.size) = d - p - n * i.size by omega]
                      · rw [if_neg (fun e => hdd e.1)]
                        rw [getD_app_l (by rw [rdn_length]; omega), rdn_get _ _ _ _ (by omega), show p + (d - p) = d by omega] at this
                        exact this, hone, fun _ => ⟨s.base, fun _ => rfl⟩, by cases own <;> first | rfl | exact .inl rfl | exact Nat.zero_le _ | cases c1⟩
                refine fin hrun hst hs (.slice (.inr ⟨_, Mu.set_same _ _ _, rfl, by show 0 + p = 0 + p; rfl, by show 0 + k * i.size ≤ k * i.size; omega⟩) (by omega) (by omega) (fun e => by cases e))
              · -- it stays where it is
                have hK : (n + m' + 1) * i.size ≤ cap * i.size := Nat.mul_le_mul_right _ hgr
                have hin : a.off + n * i.size + us.length ≤ cs'.size := by omega
                have hst' := run_storeCells_own P mb.r (a.off + n * i.size) e fz us 0 cs' w h4 (fun j x y => fz_free h9 c1 (by omega) (by omega) (by omega)) (by omega) hsrc.one
                rw [Nat.add_zero] at hst'
                have hrun := run_room (rt := o.type) (base := some a) (n := n) (cap := cap) (m := m' + 1) (w' := w.setRow mb.r (put cs' (a.off + n * i.size) us)) hts hu hun hi hiz hzs' hsrc (by omega) hbym
                  (fun a' e => by cases e; rw [ea, add_eq]; exact hst') (fun e => by cases e)
                obtain ⟨hs, hst⟩ := move_block (n := ⟨mb.r, a.off, p, mb.K⟩) (u := w.setRow mb.r (put cs' (a.off + n * i.size) us)) (o' := .cells e p (p + (n + m' + 1) * i.size) (own.from p) (wrn l (p + n * i.size) ct)) s hm hg hown (hf _ rfl rfl) rfl rfl rfl
                  (by rw [setRow_size]; exact Nat.le_refl _) (fun r _ hr => setRow_ne _ _ _ hr) (.inl rfl)
                  ⟨rfl, by omega, c1', by show a.off + _ ≤ mb.K; omega, put cs' (a.off + n * i.size) us, fz, setRow_heap w mb.r cs' _ e fz h4, by rw [put_size hin]; exact h5, fun d hd1 hd2 => by
                      have := put_rel (o := p + n * i.size) h6 hl (by omega) (by omega) (by omega) d (by omega) (by omega)
                      rw [show a.off + n * i.size = mb.base + (p + n * i.size - mb.lo) by omega]
                      show VR μ _ (Array.getD _ (a.off + (d - p)) _)
                      rw [show a.off + (d - p) = mb.base + (d - mb.lo) by omega]
                      exact this, put_one h7 hsrc.one, fun _ => ⟨(h8 hown).1, fun e0 => by have := (h8 hown).2 (by omega); show a.off = 0; omega⟩, by
                      cases own with
                      | ro => cases c1
                      | free => exact h9
                      | marked => exact h9
                      | upto f =>
                        have h9 : fz.2 ≤ mb.base + (f - mb.lo) := h9
                        show fz.2 ≤ a.off + (Nat.max f p - p)
                        have : Nat.max f p = max f p := rfl
                        omega⟩
                refine fin (by rw [hxe]; exact hrun) hst hs (.slice (.inr ⟨_, Mu.set_same _ _ _, ea, by show a.off + p = a.off + p; rfl, eK⟩) (by omega) (by omega) (fun e => by cases e))
            · cases hd
      · cases hd
end
end Go.Dm
