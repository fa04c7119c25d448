/- An interpreter of the model's code, deterministic, and its soundness, part 5: append. No condition. -/
import Derived.Test.YtlgfdnaddchlhaaGreatDoorDm4
namespace Go.Dm

section
variable {P : Program} {B : Nat} {μ : Mu} {h h' : Hp} {w : World} {t : Tm} {ρ : Operand → Value} {v : DV} {o : Oper}

/-- what append's second argument comes to: how many elements, and their cells, in whatever world of this heap -/
structure Src (P : Program) (u : TypeId) (zc : Array Value) (size : Nat) (heap : Array Obj) (x : Value) (n : Nat) (us : List Value) : Prop where
  len : us.length = n * size
  one : ∀ y ∈ us, y.oneCell' = true
  told : (∃ k, under P u = .int k ∧ ∃ k', x = .int k' (n : Int) ∧ n ≤ 8388608 ∧ us = (List.replicate n zc.toList).flatten) ∨
    ((∀ k, under P u ≠ .int k) ∧ (∀ w : World, (Builtin.lenOf x).run P w = .ok n w) ∧ ∀ w : World, w.heap = heap → (Builtin.firstCells size n x).run P w = .ok us.toArray w)

theorem cell_heap {w w1 : World} (he : w1.heap = w.heap) (a : Addr) : w1.cell? a = w.cell? a := by simp [World.cell?, he]

theorem source_sound (s : Sim B μ h w) {u : TypeId} {z : Value} {size : Nat} (hzs : z.cells.size = size) (hz1 : ∀ y ∈ z.cells.toList, y.oneCell' = true) {mk : Bool} (hmk : (mk = true ∧ ∃ k, under P u = .int k) ∨ (mk = false ∧ ∀ k, under P u ≠ .int k)) {y : DV} {x : Value} (hy : VR μ y x) {n : Nat} {l : List DV}
    (he : source size mk (trCells z) y h = some (n, l)) : ∃ us, LR μ l us ∧ Src P u z.cells size w.heap x n us := by
  unfold source at he
  split at he
  · rcases hmk with ⟨rfl, k, hk⟩ | ⟨rfl, hk⟩
    · cases he
    · cases he
      rw [hy.inv_nilslice]
      exact ⟨[], .nil, by simp, by simp, .inr ⟨hk, fun w => rfl, fun w _ => rfl⟩⟩
  · rename_i b p n' c ex sz'
    rcases hmk with ⟨rfl, k, hk⟩ | ⟨rfl, hk⟩
    · cases he
    · obtain ⟨a, cap, rfl, ha, hn, _, _⟩ := hy.inv_slice
      cases n' with
      | zero =>
        cases he
        exact ⟨[], .nil, by simp, by simp, .inr ⟨hk, fun w => rfl, fun w _ => by simp [Builtin.firstCells, loadCells, loadCellsFrom]⟩⟩
      | succ n' =>
        obtain ⟨hb, he⟩ := brec_some' he
        cases hr : h.read b p ((n' + 1) * size) with
        | none => rw [hr] at he; cases he
        | some l' =>
          rw [hr] at he
          cases he
          obtain ⟨us, hlen, hl, hc, h1⟩ := read_sound s (ha.resolve_left (by omega)).AR hr
          refine ⟨us, hl, hlen, h1, .inr ⟨hk, fun w => rfl, fun w1 hw => ?_⟩⟩
          exact run_loads P w1 a us _ hlen fun j u hj => by rw [cell_heap hw]; exact hc j u hj
  · rename_i n' x'
    rcases hmk with ⟨rfl, k, hk⟩ | ⟨rfl, hk⟩
    · cases he
    · obtain ⟨hb, he⟩ := brec_some he
      cases he
      have hb := Nat.eq_of_beq_eq_true hb
      obtain ⟨sb, rfl, rfl, rfl⟩ := hy.inv_str
      have hsz : sb.data.toList.length = sb.size := by simp
      refine ⟨byteCells sb.data.toList, scells_rel μ _, ?_, byteCells_one _, .inr ⟨hk, fun w => by rw [hsz]; rfl, fun w _ => ?_⟩⟩
      · rw [hb, Nat.mul_one]; simp [byteCells]
      · rw [hsz]
        simp only [Builtin.firstCells, Sem.run_pure]
        congr 1
        apply Array.ext'
        simp [byteCells]
  · rename_i k' n'
    rcases hmk with ⟨rfl, k, hk⟩ | ⟨rfl, hk⟩
    · obtain ⟨hb, he⟩ := brec_some he
      cases he
      refine ⟨_, reps_rel μ (trL_rel μ z.cells.toList) n, ?_, flat_one hz1 n, .inl ⟨k, hk, k', hy.inv_int, big_le hb, rfl⟩⟩
      rw [flat_length]; simp [hzs]
    · cases he
  · cases he

theorem next_le (need cap : Nat) (h : cap < need) : Builtin.nextslicecap need cap ≤ 2 * need + 192 := by
  unfold Builtin.nextslicecap
  split
  · omega
  · split
    · omega
    · have key : ∀ r c, c < need → Builtin.growBy need r c ≤ 2 * need + 192 := by
        intro r
        induction r with
        | zero => intro c hc; show c ≤ _; omega
        | succ r ih =>
          intro c hc
          show (if c ≥ need then c else Builtin.growBy need r (c + (c + 768) / 4)) ≤ _
          rw [if_neg (by omega)]
          by_cases h2 : c + (c + 768) / 4 < need
          · exact ih _ h2
          · cases r with
            | zero => show c + (c + 768) / 4 ≤ _; omega
            | succ r =>
              show (if c + (c + 768) / 4 ≥ need then c + (c + 768) / 4 else _) ≤ _
              rw [if_pos (by omega)]; omega
      exact key 4 cap h
theorem run_askRoom (n : Nat) (w : World) : (askRoom n).run P w = .ok () w := by
  unfold askRoom; split <;> rfl

set_option maxHeartbeats 4000000 in
/-- append, where it grows -/
theorem run_grow {ts : Array TypeId} {ty e u rt : TypeId} {i : TypeInfo} {z : Value} {base : Option Addr} {n cap m : Nat} {x : Value} {us old : List Value}
    (ht : ts = #[ty, u]) (hu : P.underlying ty = some (.slice e)) (hun : under P u ≠ .invalid) (hi : P.info? e = some i) (hz : i.zero = some z) (hzs : z.cells.size = i.size)
    (hsrc : Src P u z.cells i.size w.heap x m us) (hm : 0 < m) (hgrow : cap < n + m) (hbytes : (n + m) * i.bytes ≤ 1099511627776) (hsmall : n + m ≤ 1099511627776) (_hlen : old.length = n * i.size)
    (hold : ∀ w1 : World, w1.heap = w.heap → (Builtin.firstCells i.size n (.slice base n cap)).run P w1 = .ok old.toArray w1) :
    ∃ c rest, n + m ≤ c ∧ rest.length = (c - (n + m)) * i.size ∧ (∀ y ∈ rest, y ∈ z.cells.toList) ∧
      (Builtin.append_ ts rt #[.slice base n cap, x]).run P w = .ok (.slice (some ⟨w.heap.size, 0, none⟩) (n + m) c) (w.drew.alloc (.cells (old ++ us ++ rest).toArray e)) := by
  have hforced : (Question.appendCap (n + m) cap e).forced = false := rfl
  have hc : n + m ≤ (Question.appendCap (n + m) cap e).cut (w.tape w.drawn (Question.appendCap (n + m) cap e)) := Nat.le_add_right _ _
  generalize hcut : (Question.appendCap (n + m) cap e).cut (w.tape w.drawn (Question.appendCap (n + m) cap e)) = c at hc
  refine ⟨c, (List.replicate (c - (n + m)) z.cells.toList).flatten, hc, by rw [flat_length]; simp [hzs], ?_, ?_⟩
  · intro y hy
    obtain ⟨l, hl, hul⟩ := List.mem_flatten.1 hy
    rw [(List.mem_replicate.1 hl).2] at hul
    exact hul
  · have hus := under_some rfl hun
    have hsz : ∀ w, (sizeOf e).run P w = .ok i.size w := fun w => by simp [sizeOf, typeInfo, hi]
    have hinf : ∀ w, (typeInfo e).run P w = .ok i w := fun w => run_info hi w
    have hzv : ∀ w, (zeroValue e).run P w = .ok z w := fun w => by simp [zeroValue, typeInfo, hi, hz]
    have hno : ¬ (n + m ≤ cap) := by omega
    have hmax : ¬ (9223372036854775807 : Int) < (n : Int) + (m : Int) := by omega
    have hmaxi : IntKind.i64.max = 9223372036854775807 := rfl
    have hbnd : ¬ (281474976710656 < Builtin.nextslicecap (n + m) cap * i.bytes) := by
      have h1 := next_le (n + m) cap hgrow
      have h2 : Builtin.nextslicecap (n + m) cap * i.bytes ≤ (2 * (n + m) + 192) * i.bytes := Nat.mul_le_mul_right _ h1
      have h3 : (2 * (n + m) + 192) * i.bytes = 2 * ((n + m) * i.bytes) + 192 * i.bytes := by rw [Nat.add_mul, Nat.mul_assoc]
      have h4 : 1 * i.bytes ≤ (n + m) * i.bytes := Nat.mul_le_mul_right _ (by omega)
      have : (2 : Nat) ^ 48 = 281474976710656 := rfl
      omega
    have hrest : Builtin.zeroCells z.cells (c - (n + m)) = ((List.replicate (c - (n + m)) z.cells.toList).flatten).toArray := range_flat z.cells _ 
    have hcat : old.toArray ++ us.toArray ++ ((List.replicate (c - (n + m)) z.cells.toList).flatten).toArray = (old ++ us ++ (List.replicate (c - (n + m)) z.cells.toList).flatten).toArray := by simp
    subst ht
    have hh : ∀ k, ({ w with drawn := k } : World).heap = w.heap := fun _ => rfl
    rcases hsrc.told with ⟨k, hk, k', rfl, hsm, rfl⟩ | ⟨hk, hlo, hfc⟩
    · have hus' : P.underlying u = some (.int k) := by rw [hus, hk]
      have w1 := wrap_small (n := m) (by omega)
      have hmb : ¬ (281474976710656 < ((m : Int) * (i.bytes : Int))) := by
        have h4 : m * i.bytes ≤ (n + m) * i.bytes := Nat.mul_le_mul_right _ (by omega)
        have : (m : Int) * (i.bytes : Int) = ((m * i.bytes : Nat) : Int) := by push_cast; rfl
        omega
      have hmn : ¬ ((m : Int) < 0) := by omega
      have happ : ∀ w1 : World, (if m * i.size = 0 then (pure #[] : Sem (Array Value)) else do pure (Builtin.zeroCells (← zeroValue e).cells m)).run P w1 = .ok ((List.replicate m z.cells.toList).flatten).toArray w1 := by
        intro w1
        by_cases h0 : m * i.size = 0
        · rw [if_pos h0]
          have : ((List.replicate m z.cells.toList).flatten).length = 0 := by rw [flat_length]; simpa [hzs] using h0
          rw [List.length_eq_zero_iff.1 this]; rfl
        · rw [if_neg h0]
          simp only [Sem.run_bind, hzv, Result.andThen_ok, Sem.run_pure]
          rw [show Builtin.zeroCells z.cells m = _ from range_flat z.cells m ]
      have hold1 := hold w.drew rfl
      have e1 : Builtin.zeroCells z.cells m = ((List.replicate m z.cells.toList).flatten).toArray := range_flat z.cells m 
      have hmn' : ¬ ((m : Int) < 0) := hmn
      by_cases h0 : m * i.size = 0
      · have hnil : (List.replicate m z.cells.toList).flatten = [] := by
          apply List.length_eq_zero_iff.1; rw [flat_length]; simpa [hzs] using h0
        rw [hnil] at hcat ⊢
        simp [Builtin.append_, run_underlying hu, hsz, run_underlying hus', asInt, asIntOf, w1, hinf, hmn, hmb, hno, hmaxi, hmax, hbnd, hforced, hcut, hold1, h0, hzv, hrest, run_newRow]
      · simp [Builtin.append_, run_underlying hu, hsz, run_underlying hus', asInt, asIntOf, w1, hinf, hmn, hmb, hno, hmaxi, hmax, hbnd, hforced, hcut, hold1, h0, hzv, e1, hrest, run_newRow]
    · have hold1 := hold w.drew rfl
      have hfc1 := hfc w.drew rfl
      have hlo1 := hlo w
      cases hq : under P u <;> first
        | exact absurd hq (hk _)
        | exact absurd hq hun
        | (rw [hq] at hus
           simp [Builtin.append_, run_underlying hu, hsz, run_underlying hus, hinf, hlo1, hno, hmaxi, hmax, hbnd, hforced, hcut, hold1, hfc1, hzv, hrest, run_newRow])
end
end Go.Dm
