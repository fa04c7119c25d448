/- An interpreter of the model's code, deterministic, and its soundness, part 9: A drawn region's run in the order of its text, and what its checks say. What the checks of a drawn region say, by places. A drawn region: what stands still, whatever order is drawn. A drawn region: memory, whatever order is drawn. A drawn region: what an operation that comes up does to memory. A drawn region comes to what its text comes to, whatever order is drawn. No condition. -/
import Derived.Test.YtlgfdnaddchlhaaGreatDoorDm8
namespace Go.Dm

section
variable {P : Program} {B N : Nat} {call : Nat → List DV → Hp → RV} {ops : Array Oper}

/-- one operation of the row -/
structure Stp (P : Program) (N : Nat) (call : Nat → List DV → Hp → RV) (ops : Array Oper) (o : Oper) (t : Tm) (h : Hp) (v : DV) (t' : Tm) (h' : Hp) : Prop where
  ok : (and (dstOk N o.dst) (guardOk ops o.guard)) = true
  dst : (trOper P N ops o).dst = o.dst.map posOf
  guard : (trOper P N ops o).guard = trGuard ops o.guard
  put : t' = setD (o.dst.map posOf) v t
  run : (wanted (trGuard ops o.guard) t = some false ∧ v = .tup [] ∧ h' = h) ∨ (wanted (trGuard ops o.guard) t = some true ∧ oper call (trOper P N ops o) t h = .ok v h')

theorem opersT_step {kf : List Hp → Tm → Hp → R} {o : Oper} {l : List DOper} {acc : List Hp} {t : Tm} {h : Hp} {r : R} {k : Hp} (hr : opersT call kf (trOper P N ops o :: l) acc t h = r) (hk : r.hp = some k) :
    ∃ v h1, Stp P N call ops o t h v (setD (o.dst.map posOf) v t) h1 ∧ opersT call kf l (h :: acc) (setD (o.dst.map posOf) v t) h1 = r := by
  change (wanted (trOper P N ops o).guard t).rec (.bad [7778, posN (trOper P N ops o).dst]) (fun w => w.rec (opersT call kf l (h :: acc) (setD (trOper P N ops o).dst (.tup []) t) h) (afterT (opersT call kf l) (h :: acc) (trOper P N ops o).dst t (oper call (trOper P N ops o) t h))) = r at hr
  cases hd : (and (dstOk N o.dst) (guardOk ops o.guard)) with
  | false =>
    rw [trOper_no hd] at hr
    subst hr
    cases hk
  | true =>
    have e := trOper_spec (P := P) hd
    have hdst : (trOper P N ops o).dst = o.dst.map posOf ∨ trOper P N ops o = .plain none none .stop := by
      rw [e]; split
      · split <;> first | exact .inl rfl | exact .inr rfl
      · exact .inl rfl
    have hgd : (trOper P N ops o).guard = trGuard ops o.guard ∨ trOper P N ops o = .plain none none .stop := by
      rw [e]; split
      · split <;> first | exact .inl rfl | exact .inr rfl
      · exact .inl rfl
    by_cases hs : trOper P N ops o = .plain none none .stop
    · rw [hs] at hr; subst hr; cases hk
    · have hdst := hdst.resolve_right hs
      have hgd := hgd.resolve_right hs
      rw [hdst, hgd] at hr
      cases hw : wanted (trGuard ops o.guard) t with
      | none => rw [hw] at hr; subst hr; cases hk
      | some b =>
        rw [hw] at hr
        cases b with
        | false => exact ⟨.tup [], h, ⟨hd, hdst, hgd, rfl, .inl ⟨hw, rfl, rfl⟩⟩, hr⟩
        | true =>
          change afterT (opersT call kf l) (h :: acc) (o.dst.map posOf) t (oper call (trOper P N ops o) t h) = r at hr
          cases hop : oper call (trOper P N ops o) t h with
          | bad w => rw [hop] at hr; subst hr; cases hk
          | ok v h1 => rw [hop] at hr; exact ⟨v, h1, ⟨hd, hdst, hgd, rfl, .inr ⟨hw, hop⟩⟩, hr⟩

theorem opersT_trail {kf : List Hp → Tm → Hp → R} {r : R} {k : Hp} (hk : r.hp = some k) : ∀ (l : List Oper) (i : Nat) (acc : List Hp) (t : Tm) (h : Hp), opersT call kf (l.map (trOper P N ops)) acc t h = r →
    ∃ (T : Nat → Tm) (H : Nat → Hp) (V : Nat → DV), T i = t ∧ H i = h ∧ (∀ j o, l[j]? = some o → Stp P N call ops o (T (i + j)) (H (i + j)) (V (i + j)) (T (i + j + 1)) (H (i + j + 1))) ∧
      kf ((List.range (l.length + 1)).reverse.map (fun j => H (i + j)) ++ acc) (T (i + l.length)) (H (i + l.length)) = r
  | [], i, acc, t, h, hr => ⟨fun _ => t, fun _ => h, fun _ => .undef, rfl, rfl, fun j o hj => by simp at hj, hr⟩
  | o :: l, i, acc, t, h, hr => by
    obtain ⟨v, h1, hst, hr'⟩ := opersT_step hr hk
    obtain ⟨T, H, V, e1, e2, e3, e4⟩ := opersT_trail hk l (i + 1) (h :: acc) _ h1 hr'
    refine ⟨fun j => if j = i then t else T j, fun j => if j = i then h else H j, fun j => if j = i then v else V j, by simp, by simp, fun j o' hj => ?_, ?_⟩
    · cases j with
      | zero =>
        simp only [List.getElem?_cons_zero, Option.some.injEq] at hj
        subst hj
        simp only [Nat.add_zero, if_true]
        rw [if_neg (by omega), if_neg (by omega), e1, e2]
        exact hst
      | succ j =>
        have := e3 j o' (by simpa using hj)
        show Stp P N call ops o' (if i + (j + 1) = i then t else T (i + (j + 1))) (if i + (j + 1) = i then h else H (i + (j + 1))) (if i + (j + 1) = i then v else V (i + (j + 1)))
          (if i + (j + 1) + 1 = i then t else T (i + (j + 1) + 1)) (if i + (j + 1) + 1 = i then h else H (i + (j + 1) + 1))
        rw [if_neg (by omega), if_neg (by omega), if_neg (by omega), if_neg (by omega), if_neg (by omega)]
        rw [show i + (j + 1) = i + 1 + j by omega]
        exact this
    · rw [← e4]
      have hlen : (o :: l).length = l.length + 1 := rfl
      rw [hlen, List.range_succ_eq_map, List.reverse_cons, List.map_append, List.append_assoc]
      simp only [List.map_cons, List.map_nil, Nat.add_zero, if_true, List.cons_append, List.nil_append]
      rw [if_neg (by omega), if_neg (by omega), show i + (l.length + 1) = i + 1 + l.length by omega]
      congr 2
      rw [← List.map_reverse, List.map_map]
      apply List.map_congr_left
      intro j _
      simp only [Function.comp]
      rw [if_neg (by omega), show i + (j + 1) = i + 1 + j by omega]
end

/-! ### the bits -/
theorem bit_mask1 {ms es : List Nat} {k : Nat} (h : bit (mask1 ms es) k = true) : ∃ e ∈ es, k = e ∨ bit (ms.getD e 0) k = true := by
  induction es with
  | nil => exact absurd h (by simp [bit, mask1])
  | cons e es ih =>
    change Nat.testBit ((mask1 ms es ||| (1 <<< e)) ||| ms.getD e 0) k = true at h
    rw [Nat.testBit_or, Nat.testBit_or, Bool.or_eq_true, Bool.or_eq_true] at h
    rcases h with (h | h) | h
    · obtain ⟨e', he, hk⟩ := ih h
      exact ⟨e', by simp [he], hk⟩
    · refine ⟨e, by simp, .inl ?_⟩
      rw [Nat.one_shiftLeft, Nat.testBit_two_pow] at h
      exact (of_decide_eq_true h).symm
    · exact ⟨e, by simp, .inr h⟩

theorem masks_good {L : Nat → Prop} : ∀ (ess : List (List Nat)) (ms : List Nat), (∀ j es, ess[j]? = some es → L (ms.length + j) → ∀ e ∈ es, L e) → (∀ j, j < ms.length → L j → ∀ k, bit (ms.getD j 0) k = true → L k) →
    (masks ess ms).length = ms.length + ess.length ∧ ∀ j, j < (masks ess ms).length → L j → ∀ k, bit ((masks ess ms).getD j 0) k = true → L k
  | [], ms, _, h2 => ⟨rfl, h2⟩
  | es :: ess, ms, h1, h2 => by
    show (masks ess (ms ++ [mask1 ms es])).length = _ ∧ ∀ j, j < (masks ess (ms ++ [mask1 ms es])).length → L j → ∀ k, bit ((masks ess (ms ++ [mask1 ms es])).getD j 0) k = true → L k
    have hlen : (ms ++ [mask1 ms es]).length = ms.length + 1 := by simp
    obtain ⟨q1, q2⟩ := masks_good ess (ms ++ [mask1 ms es]) (fun j es' hj hL => by
        rw [hlen] at hL
        exact h1 (j + 1) es' (by simpa using hj) (by rw [show ms.length + (j + 1) = ms.length + 1 + j by omega]; exact hL)) (fun j hj hL k hk => by
        rw [hlen] at hj
        by_cases e : j = ms.length
        · subst e
          rw [List.getD_eq_getElem?_getD, List.getElem?_append_right (Nat.le_refl _), Nat.sub_self] at hk
          have hk : bit (mask1 ms es) k = true := hk
          obtain ⟨e, he, hk⟩ := bit_mask1 hk
          have hLe := h1 0 es rfl hL e he
          rcases hk with rfl | hk
          · exact hLe
          · by_cases hlt : e < ms.length
            · exact h2 e hlt hLe k hk
            · rw [List.getD_eq_getElem?_getD, List.getElem?_eq_none (by omega)] at hk
              exact absurd hk (by simp [bit])
        · rw [List.getD_eq_getElem?_getD, List.getElem?_append_left (by omega), ← List.getD_eq_getElem?_getD] at hk
          exact h2 j (by omega) hL k hk)
    exact ⟨by rw [q1, hlen]; simp; omega, q2⟩

theorem stages_get : ∀ (ds : List DOper) (ms : List Nat) (i j : Nat) (o : DOper) (m : Nat), ds[j]? = some o → ms[j]? = some m → (stages i ds ms)[j]? = some ⟨i + j, o, m⟩
  | [], _, _, _, _, _, h, _ => by simp at h
  | _ :: _, [], _, _, _, _, _, h => by simp at h
  | d :: ds, m' :: ms, i, 0, o, m, h1, h2 => by simp at h1 h2; subst h1; subst h2; rfl
  | d :: ds, m' :: ms, i, j + 1, o, m, h1, h2 => by
    have := stages_get ds ms (i + 1) j o m (by simpa using h1) (by simpa using h2)
    show (stages (i + 1) ds ms)[j]? = _
    rw [this, show i + 1 + j = i + (j + 1) by omega]
theorem stages_mem : ∀ (ds : List DOper) (ms : List Nat) (i : Nat) (x : DSt), x ∈ stages i ds ms → ∃ j, x.i = i + j ∧ ds[j]? = some x.o ∧ ms[j]? = some x.m
  | [], _, _, _, h => by simp [stages] at h
  | _ :: _, [], _, _, h => by simp [stages] at h
  | d :: ds, m' :: ms, i, x, h => by
    rcases List.mem_cons.1 (show x ∈ ⟨i, d, m'⟩ :: stages (i + 1) ds ms from h) with rfl | h
    · exact ⟨0, rfl, rfl, rfl⟩
    · obtain ⟨j, e1, e2, e3⟩ := stages_mem ds ms (i + 1) x h
      exact ⟨j + 1, by omega, by simpa using e2, by simpa using e3⟩
theorem pairs_get : ∀ {l : List DSt}, pairsOk l = true → ∀ {i j : Nat} {x y : DSt}, i < j → l[i]? = some x → l[j]? = some y → pairOk x y = true
  | [], _, _, _, _, _, _, h, _ => by simp at h
  | z :: l, h, i, j, x, y, hij, hx, hy => by
    obtain ⟨h1, h2⟩ := and_t (show (and (l.all (pairOk z)) (pairsOk l)) = true from h)
    cases j with
    | zero => omega
    | succ j =>
      have hy : l[j]? = some y := by simpa using hy
      cases i with
      | zero =>
        have : z = x := by simpa using hx
        subst this
        exact List.all_eq_true.1 h1 y (List.mem_of_getElem? hy)
      | succ i => exact pairs_get (i := i) (j := j) h2 (by omega) (by simpa using hx) hy
theorem edges_get : ∀ {ess : List (List Nat)} {i : Nat}, edgesOk i ess = true → ∀ {j : Nat} {es : List Nat}, ess[j]? = some es → ∀ e ∈ es, e < i + j
  | [], _, _, _, _, h => by simp at h
  | es :: ess, i, h, j, es', hj => by
    obtain ⟨h1, h2⟩ := and_t (show (and (es.all fun e => Nat.blt e i) (edgesOk (i + 1) ess)) = true from h)
    cases j with
    | zero =>
      have : es = es' := by simpa using hj
      subst this
      intro e he
      exact blt (List.all_eq_true.1 h1 e he)
    | succ j =>
      intro e he
      have := edges_get h2 (j := j) (by simpa using hj) e he
      omega
end Go.Dm

namespace Go.Dm

section
variable {P : Program} {B N : Nat} {call : Nat → List DV → Hp → RV} {ops : Array Oper}

/-- an operation that reads, again, in another memory -/
def Again (op : DOp) (d : Option Pos) (t : Tm) (h : Hp) : Prop := ∃ v h', dop op t h = some (v, h') ∧ ∀ p, d = some p → v = (t.get p).getD .undef
structure Ctx (P : Program) (N : Nat) (call : Nat → List DV → Hp → RV) (ops : Array Oper) (M : Nat → Nat) (T : Nat → Tm) (H : Nat → Hp) (V : Nat → DV) : Prop where
  stp : ∀ i o, ops[i]? = some o → Stp P N call ops o (T i) (H i) (V i) (T (i + 1)) (H (i + 1))
  edge : ∀ i o, ops[i]? = some o → ∀ e ∈ edgesOf o, e < i
  clos : ∀ L : Nat → Prop, (∀ i o, ops[i]? = some o → L i → ∀ e ∈ edgesOf o, L e) → ∀ i, i < ops.size → L i → ∀ k, bit (M i) k = true → L k
  pair : ∀ i j oi oj, i < j → ops[i]? = some oi → ops[j]? = some oj → pairOk ⟨i, trOper P N ops oi, M i⟩ ⟨j, trOper P N ops oj, M j⟩ = true
  rival : ∀ i o d g op, ops[i]? = some o → trOper P N ops o = .plain d g op → kindD op = 1 → ∀ a oa, ops[a]? = some oa → kindO (trOper P N ops oa) = 3 → (i < a ∧ bit (M a) i = false) ∨ (a < i ∧ bit (M i) a = false) →
    (∀ j oj, i ≤ j → ops[j]? = some oj → looks (trOper P N ops o) (trOper P N ops oj).dst = false) ∧ (wanted g (T ops.size) = some true → Again op d (T ops.size) (if i < a then H (a + 1) else H a))

theorem hget_eq : ∀ (l : List Hp) (j : Nat), hget l j = l[j]?
  | [], j => by simp; rfl
  | x :: l, 0 => rfl
  | x :: l, j + 1 => by show hget l j = _; rw [hget_eq l j]; simp
theorem rivals_all : ∀ {rs : List DRival} {acc : List Hp} {t : Tm}, rivalsOk rs acc t = true → ∀ r ∈ rs, rivalOk acc t r = true
  | [], _, _, _, r, h => by simp at h
  | x :: rs, acc, t, h, r, hr => by
    obtain ⟨h1, h2⟩ := and_t (show (and (rivalOk acc t x) (rivalsOk rs acc t)) = true from h)
    rcases List.mem_cons.1 hr with rfl | hr
    · exact h1
    · exact rivals_all h2 r hr
theorem rival_at {r : DRival} {acc : List Hp} {t : Tm} (h : rivalOk acc t r = true) (hw : wanted r.guard t = some true) : ∀ j ∈ r.places, rivalAt r acc t j = true := by
  unfold rivalOk at h
  rw [hw] at h
  change (r.places.rec true (fun j _ ih => and (rivalAt r acc t j) ih) : Bool) = true at h
  generalize r.places = l at h
  induction l with
  | nil => intro j hj; simp at hj
  | cons x l ih =>
    obtain ⟨h1, h2⟩ := and_t (show (and (rivalAt r acc t x) (l.rec true (fun j _ ih => and (rivalAt r acc t j) ih))) = true from h)
    intro j hj
    rcases List.mem_cons.1 hj with rfl | hj
    · exact h1
    · exact ih h2 j hj
theorem rivalAt_again {r : DRival} {acc : List Hp} {t : Tm} {j : Nat} {h : Hp} (hr : rivalAt r acc t j = true) (hh : acc[j]? = some h) : Again r.op r.dst t h := by
  unfold rivalAt at hr
  rw [hget_eq, hh] at hr
  simp only at hr
  split at hr
  · rename_i v h' hd
    refine ⟨v, h', hd, fun p hp => ?_⟩
    rw [hp] at hr
    exact sameV_eq hr
  · cases hr

theorem drawn_ctx {t : Tm} {h : Hp} {n : Nat} {r : R} {k : Hp} (hr : (runL call n (trDrawn (ops.toList.map (trOper P N ops)) (ops.toList.map edgesOf))).1 t h = r) (hk : r.hp = some k) :
    ∃ M T H V, Ctx P N call ops M T H V ∧ T 0 = t ∧ H 0 = h ∧ r = .norm (T ops.size) (H ops.size) := by
  generalize hds : ops.toList.map (trOper P N ops) = ds at hr
  generalize hess : ops.toList.map edgesOf = ess at hr
  have hdl : ds.length = ops.size := by rw [← hds]; simp
  have hel : ess.length = ops.size := by rw [← hess]; simp
  unfold trDrawn at hr
  simp only [] at hr
  generalize hall : stages 0 ds (masks ess []) = all at hr
  generalize hrs : (all.filter fun x => (rivalOf ds.length all x).isSome) = rs at hr
  cases hchk : (and (edgesOk 0 ess) (and (pairsOk all) (rs.all (laterOk all)))) with
  | false => rw [hchk] at hr; subst hr; cases hk
  | true =>
    rw [hchk] at hr
    change drawnRun call ds (rs.filterMap (rivalOf ds.length all)) t h = r at hr
    obtain ⟨c1, c2⟩ := and_t hchk
    obtain ⟨c2, c3⟩ := and_t c2
    have hgood := fun (L : Nat → Prop) (hL : ∀ j es, ess[j]? = some es → L j → ∀ e ∈ es, L e) => masks_good (L := L) ess [] (fun j es hj hl => hL j es hj (by rw [show ([] : List Nat).length + j = j from Nat.zero_add j] at hl; exact hl)) (fun j hj => absurd hj (Nat.not_lt_zero j))
    have hml : (masks ess []).length = ops.size := by have := (hgood (fun _ => True) (fun _ _ _ _ _ _ => trivial)).1; rw [this, hel]; simp
    have hdget : ∀ i o, ops[i]? = some o → ds[i]? = some (trOper P N ops o) := fun i o ho => by rw [← hds, List.getElem?_map, Array.getElem?_toList, ho]; rfl
    have heget : ∀ i o, ops[i]? = some o → ess[i]? = some (edgesOf o) := fun i o ho => by rw [← hess, List.getElem?_map, Array.getElem?_toList, ho]; rfl
    have hlt : ∀ i o, ops[i]? = some o → i < ops.size := fun i o ho => (Array.getElem?_eq_some_iff.1 ho).1
    have hmget : ∀ i, i < ops.size → (masks ess [])[i]? = some ((masks ess []).getD i 0) := fun i hi => by rw [List.getD_eq_getElem?_getD, List.getElem?_eq_getElem (by omega)]; rfl
    have hsget : ∀ i o, ops[i]? = some o → all[i]? = some (⟨i, trOper P N ops o, (masks ess []).getD i 0⟩ : DSt) := fun i o ho => by
      have := stages_get ds (masks ess []) 0 i _ _ (hdget i o ho) (hmget i (hlt i o ho))
      rw [hall, Nat.zero_add] at this
      exact this
    unfold drawnRun at hr
    have hr' : opersT call (fun acc t h => Bool.rec (.bad [7779]) (.norm t h) (rivalsOk (rs.filterMap (rivalOf ds.length all)) acc t)) (ops.toList.map (trOper P N ops)) [] t h = r := by rw [hds]; exact hr
    obtain ⟨T, H, V, e1, e2, e3, e4⟩ := opersT_trail hk ops.toList 0 [] t h hr'
    have hlen : ops.toList.length = ops.size := by simp
    rw [List.append_nil, hlen, Nat.zero_add] at e4
    cases hro : rivalsOk (rs.filterMap (rivalOf ds.length all)) ((List.range (ops.size + 1)).reverse.map fun j => H (0 + j)) (T ops.size) with
    | false => rw [hro] at e4; subst e4; cases hk
    | true =>
      rw [hro] at e4
      have hacc : ∀ q, q ≤ ops.size → ((List.range (ops.size + 1)).reverse.map fun j => H (0 + j))[ops.size - q]? = some (H q) := fun q hq => by
        rw [List.getElem?_map, List.getElem?_reverse (by simp; omega)]
        simp only [List.length_range]
        rw [show ops.size + 1 - 1 - (ops.size - q) = q by omega, List.getElem?_range (by omega)]
        simp
      refine ⟨fun i => (masks ess []).getD i 0, T, H, V, ⟨fun i o ho => ?_, fun i o ho e he => ?_, fun L hL i hi hLi k hkb => ?_, fun i j oi oj hij hi hj => ?_, fun i o d g op ho hop hkd a oa hoa hka hcase => ?_⟩, e1, e2, e4.symm⟩
      · have := e3 i o (by simpa using ho)
        simpa using this
      · have := edges_get c1 (heget i o ho) e he
        simpa using this
      · have := (hgood L (fun j es hj hl e he => by
          have hjlt : j < ops.size := by
            have := (List.getElem?_eq_some_iff.1 hj).1
            omega
          have ho : ops[j]? = some ops[j] := by simp [hjlt]
          have := heget j _ ho
          rw [hj] at this
          cases this
          exact hL j _ ho hl e he)).2 i (by omega) hLi k hkb
        exact this
      · exact pairs_get c2 hij (hsget i oi hi) (hsget j oj hj)
      · have hx := hsget i o ho
        have hy := hsget a oa hoa
        have hpl : ∀ q, ((i < a ∧ q = a + 1) ∨ (a < i ∧ q = a)) → ops.size - q ∈ places ds.length all ⟨i, trOper P N ops o, (masks ess []).getD i 0⟩ := by
          intro q hq
          unfold places
          rw [List.mem_filterMap]
          refine ⟨_, List.mem_of_getElem? hy, ?_⟩
          show (if kindO (trOper P N ops oa) = 3 then (if i < a then (if bit ((masks ess []).getD a 0) i then none else some (ds.length - (a + 1))) else (if bit ((masks ess []).getD i 0) a then none else some (ds.length - a))) else none) = some (ops.size - q)
          rw [if_pos hka, hdl]
          rcases hq with ⟨h1, rfl⟩ | ⟨h1, rfl⟩
          · rw [if_pos h1, (hcase.resolve_right (fun h => by omega)).2]; rfl
          · rw [if_neg (by omega), (hcase.resolve_left (fun h => by omega)).2]; rfl
        have hne : ∃ l, rivalOf ds.length all ⟨i, trOper P N ops o, (masks ess []).getD i 0⟩ = some ⟨op, d, g, l⟩ ∧ l = places ds.length all ⟨i, trOper P N ops o, (masks ess []).getD i 0⟩ := by
          have hin : ∃ q, q ∈ places ds.length all ⟨i, trOper P N ops o, (masks ess []).getD i 0⟩ := by
            rcases hcase with ⟨h1, _⟩ | ⟨h1, _⟩
            · exact ⟨_, hpl (a + 1) (.inl ⟨h1, rfl⟩)⟩
            · exact ⟨_, hpl a (.inr ⟨h1, rfl⟩)⟩
          unfold rivalOf
          simp only [hop, hkd, if_true]
          rw [hop] at hin
          obtain ⟨q, hq⟩ := hin
          cases hp : places ds.length all ⟨i, .plain d g op, (masks ess []).getD i 0⟩ with
          | nil => rw [hp] at hq; cases hq
          | cons y l => exact ⟨_, rfl, rfl⟩
        obtain ⟨l, hl1, hl2⟩ := hne
        have hmem : (⟨i, trOper P N ops o, (masks ess []).getD i 0⟩ : DSt) ∈ rs := by
          rw [← hrs, List.mem_filter]
          exact ⟨List.mem_of_getElem? hx, by rw [hl1]; rfl⟩
        refine ⟨fun j oj hij hj => ?_, fun hw => ?_⟩
        · have h1 := List.all_eq_true.1 c3 _ hmem
          have h2 := List.all_eq_true.1 (show all.all _ = true from h1) _ (List.mem_of_getElem? (hsget j oj hj))
          rcases Bool.or_eq_true_iff.1 h2 with h3 | h3
          · have := blt h3; simp at this; omega
          · simpa using h3
        · have hrm : (⟨op, d, g, l⟩ : DRival) ∈ rs.filterMap (rivalOf ds.length all) := List.mem_filterMap.2 ⟨_, hmem, hl1⟩
          have h1 := rival_at (rivals_all hro _ hrm) hw
          rcases hcase with ⟨q1, q2⟩ | ⟨q1, q2⟩
          · rw [if_pos q1]
            have := h1 (ops.size - (a + 1)) (by rw [hl2]; exact hpl (a + 1) (.inl ⟨q1, rfl⟩))
            exact rivalAt_again this (hacc (a + 1) (hlt a oa hoa))
          · rw [if_neg (by omega)]
            have := h1 (ops.size - a) (by rw [hl2]; exact hpl a (.inr ⟨q1, rfl⟩))
            exact rivalAt_again this (hacc a (Nat.le_of_lt (hlt a oa hoa)))
end
end Go.Dm

namespace Go.Dm

theorem Pos.beq_refl : ∀ p : Pos, p.beq p = true
  | .xH => rfl
  | .xO p => Pos.beq_refl p
  | .xI p => Pos.beq_refl p

section
variable {P : Program} {B N : Nat} {call : Nat → List DV → Hp → RV} {ops : Array Oper} {M : Nat → Nat} {T : Nat → Tm} {H : Nat → Hp} {V : Nat → DV}

theorem Ctx.next1 (C : Ctx P N call ops M T H V) (hc : CallOK P B call) {i : Nat} {o : Oper} (ho : ops[i]? = some o) : (H i).next.toN ≤ (H (i + 1)).next.toN := by
  rcases (C.stp i o ho).run with ⟨_, _, e⟩ | ⟨_, hr⟩
  · rw [e]; exact Nat.le_refl _
  · exact oper_next hc hr
theorem Ctx.next (C : Ctx P N call ops M T H V) (hc : CallOK P B call) {i : Nat} : ∀ {j : Nat}, i ≤ j → j ≤ ops.size → (H i).next.toN ≤ (H j).next.toN
  | 0, hij, hj => by have : i = 0 := by omega
                     subst this; exact Nat.le_refl _
  | j + 1, hij, hj => by
    by_cases e : i = j + 1
    · subst e; exact Nat.le_refl _
    · have h1 := C.next hc (i := i) (j := j) (by omega) (by omega)
      have h2 := C.next1 hc (i := j) (o := ops[j]) (by simp [show j < ops.size by omega])
      omega

theorem Ctx.dst (C : Ctx P N call ops M T H V) {i : Nat} {o : Oper} (ho : ops[i]? = some o) : T (i + 1) = setD (trOper P N ops o).dst (V i) (T i) := by
  rw [(C.stp i o ho).dst]; exact (C.stp i o ho).put
theorem setD_get {d : Option Pos} {v : DV} {t : Tm} {p : Pos} : (setD d v t).get p = if d = some p then some v else t.get p := by
  cases d with
  | none => rfl
  | some q =>
    show (t.put q (some v)).get p = _
    by_cases e : q = p
    · subst e; rw [PT.get_put_same, if_pos rfl]
    · rw [PT.get_put_ne _ _ _ _ e, if_neg (fun h => e (by cases h; rfl))]
/-- no two write the same -/
theorem Ctx.apart (C : Ctx P N call ops M T H V) {i j : Nat} {oi oj : Oper} {p : Pos} (hi : ops[i]? = some oi) (hj : ops[j]? = some oj) (h1 : (trOper P N ops oi).dst = some p) (h2 : (trOper P N ops oj).dst = some p) : i = j := by
  have key : ∀ (i j : Nat) (oi oj : Oper), i < j → ops[i]? = some oi → ops[j]? = some oj → (trOper P N ops oi).dst = some p → (trOper P N ops oj).dst = some p → False := by
    intro i j oi oj hij hi hj h1 h2
    have := (and_t (C.pair i j oi oj hij hi hj)).1
    simp only [h1, h2] at this
    simp [samePos, Pos.beq_refl] at this
  rcases Nat.lt_trichotomy i j with h | h | h
  · exact (key i j oi oj h hi hj h1 h2).elim
  · exact h
  · exact (key j i oj oi h hj hi h2 h1).elim
/-- what a temporary holds in the run in the text's order -/
theorem Ctx.left (C : Ctx P N call ops M T H V) {p : Pos} : ∀ {j : Nat}, j ≤ ops.size → (∀ k o, k < j → ops[k]? = some o → (trOper P N ops o).dst ≠ some p) → (T j).get p = (T 0).get p
  | 0, _, _ => rfl
  | j + 1, hj, h => by
    have ho : ops[j]? = some ops[j] := by simp [show j < ops.size by omega]
    rw [C.dst ho, setD_get, if_neg (h j _ (by omega) ho)]
    exact C.left (by omega) fun k o hk => h k o (by omega)
theorem Ctx.put (C : Ctx P N call ops M T H V) {p : Pos} {k : Nat} {ok : Oper} (hk : ops[k]? = some ok) (hp : (trOper P N ops ok).dst = some p) : ∀ {j : Nat}, j ≤ ops.size → k < j → (T j).get p = some (V k)
  | 0, _, h => by omega
  | j + 1, hj, h => by
    have ho : ops[j]? = some ops[j] := by simp [show j < ops.size by omega]
    rw [C.dst ho, setD_get]
    by_cases e : k = j
    · subst e
      rw [hk] at ho; cases ho
      rw [if_pos hp]
    · rw [if_neg (fun hd => e (C.apart hk ho hp hd))]
      exact C.put hk hp (by omega) (by omega)

/-- the temporaries when 'L' have come up -/
structure Mid (P : Program) (N : Nat) (ops : Array Oper) (T : Nat → Tm) (V : Nat → DV) (L : Nat → Prop) (t : Tm) : Prop where
  done : ∀ k o p, ops[k]? = some o → L k → (trOper P N ops o).dst = some p → t.get p = some (V k)
  else_ : ∀ p, (∀ k o, ops[k]? = some o → L k → (trOper P N ops o).dst ≠ some p) → t.get p = (T 0).get p
def Closed (ops : Array Oper) (L : Nat → Prop) : Prop := ∀ i o, ops[i]? = some o → L i → ∀ e ∈ edgesOf o, L e
def Ready (ops : Array Oper) (L : Nat → Prop) (i : Nat) : Prop := ¬ L i ∧ ∃ o, ops[i]? = some o ∧ ∀ e ∈ edgesOf o, L e

/-- who lies before one that may come up has come up -/
theorem Ctx.before (C : Ctx P N call ops M T H V) {L : Nat → Prop} (hL : Closed ops L) {i : Nat} (hi : Ready ops L i) {k : Nat} (hb : bit (M i) k = true) (hk : k ≠ i) : L k := by
  obtain ⟨hn, o, ho, he⟩ := hi
  have hlt := (Array.getElem?_eq_some_iff.1 ho).1
  have := C.clos (fun j => L j ∨ j = i) (fun j oj hj hLj e hee => by
    rcases hLj with h | rfl
    · exact .inl (hL j oj hj h e hee)
    · rw [ho] at hj; cases hj; exact .inl (he e hee)) i hlt (.inr rfl) k hb
  exact this.resolve_right hk
theorem Ctx.before' (C : Ctx P N call ops M T H V) {L : Nat → Prop} (hL : Closed ops L) {j : Nat} (hj : j < ops.size) (hLj : L j) {k : Nat} (hb : bit (M j) k = true) : L k := C.clos L hL j hj hLj k hb

theorem Ctx.agree (C : Ctx P N call ops M T H V) {L : Nat → Prop} (hL : Closed ops L) {t : Tm} (ht : Mid P N ops T V L t) {i : Nat} {oi : Oper} (hoi : ops[i]? = some oi) (hi : Ready ops L i) {p : Pos} (hp : looks (trOper P N ops oi) (some p) = true) : t.get p = (T i).get p := by
  have hlt := (Array.getElem?_eq_some_iff.1 hoi).1
  by_cases hw : ∃ (k : Nat) (o : Oper), ops[k]? = some o ∧ (trOper P N ops o).dst = some p
  · obtain ⟨k, o, hk, hd⟩ := hw
    have hklt := (Array.getElem?_eq_some_iff.1 hk).1
    have uniq : ∀ (k' : Nat) (o' : Oper), ops[k']? = some o' → (trOper P N ops o').dst = some p → k' = k := fun k' o' h1 h2 => C.apart h1 hk h2 hd
    rcases Nat.lt_trichotomy k i with h | h | h
    · have h2 := (and_t (and_t (C.pair k i o oi h hk hoi)).2).1
      have hb : bit (M i) k = true := by
        rcases Bool.or_eq_true_iff.1 h2 with h3 | h3
        · rw [show (⟨k, trOper P N ops o, M k⟩ : DSt).o.dst = some p from hd] at h3; simp [hp] at h3
        · exact h3
      rw [ht.done k o p hk (C.before hL hi hb (by omega)) hd, C.put hk hd (by omega) h]
    · subst h
      rw [ht.else_ p fun k' o' h1 h2 h3 => hi.1 (by rw [uniq k' o' h1 h3] at h2; exact h2), C.left (j := k) (by omega) fun k' o' hlt' h1 h2 => by have := uniq k' o' h1 h2; omega]
    · have h2 := (and_t (and_t (and_t (C.pair i k oi o h hoi hk)).2).2).1
      have hb : bit (M k) i = true := by
        rcases Bool.or_eq_true_iff.1 h2 with h3 | h3
        · rw [show (⟨k, trOper P N ops o, M k⟩ : DSt).o.dst = some p from hd] at h3; simp [hp] at h3
        · exact h3
      rw [ht.else_ p fun k' o' h1 h2 h3 => hi.1 (by rw [uniq k' o' h1 h3] at h2; exact C.before' hL hklt h2 hb), C.left (j := i) (by omega) fun k' o' hlt' h1 h2 => by have := uniq k' o' h1 h2; omega]
  · have hw : ∀ (k : Nat) (o : Oper), ops[k]? = some o → (trOper P N ops o).dst ≠ some p := fun k o h1 h2 => hw ⟨k, o, h1, h2⟩
    rw [ht.else_ p fun k o h1 _ => hw k o h1, C.left (j := i) (by omega) fun k o _ h1 => hw k o h1]

theorem looks_read {o : DOper} {p : Pos} (h : (Opd.tmp p) ∈ oreads o) : looks o (some p) = true := by
  show (or (guardAt p o.guard) ((oreads o).any (isTmp p))) = true
  rw [Bool.or_eq_true]
  exact .inr (List.any_eq_true.2 ⟨_, h, Pos.beq_refl p⟩)
theorem looks_guard {o : DOper} {p : Pos} {w : Bool} (h : o.guard = some (p, w)) : looks o (some p) = true := by
  show (or (guardAt p o.guard) ((oreads o).any (isTmp p))) = true
  rw [Bool.or_eq_true, h]
  exact .inl (Pos.beq_refl p)
theorem ev_agree {o : DOper} {t t' : Tm} (h : ∀ p, looks o (some p) = true → t.get p = t'.get p) : ∀ x ∈ oreads o, ev t x = ev t' x := fun x hx => by
  cases x with
  | tmp p => show (t.get p).getD .undef = (t'.get p).getD .undef; rw [h p (looks_read hx)]
  | con v => rfl
theorem wanted_agree {o : DOper} {t t' : Tm} (h : ∀ p, looks o (some p) = true → t.get p = t'.get p) : wanted o.guard t = wanted o.guard t' := by
  cases hg : o.guard with
  | none => rfl
  | some pw =>
    obtain ⟨p, w⟩ := pw
    unfold wanted
    simp only []
    rw [h p (looks_guard hg)]
end
end Go.Dm

namespace Go.Dm

section
variable {P : Program} {B N : Nat} {call : Nat → List DV → Hp → RV} {ops : Array Oper} {M : Nat → Nat} {T : Nat → Tm} {H : Nat → Hp} {V : Nat → DV}

theorem plain_of {o : Oper} {k : Nat} (hk : kindO (trOper P N ops o) = k) (h3 : k ≠ 3) : ∃ d g op, trOper P N ops o = .plain d g op ∧ kindD op = k := by
  cases h : trOper P N ops o with
  | plain d g op => rw [h] at hk; exact ⟨d, g, op, rfl, hk⟩
  | callF => rw [h] at hk; exact absurd hk.symm h3
  | callV => rw [h] at hk; exact absurd hk.symm h3
theorem Ctx.still (C : Ctx P N call ops M T H V) {i : Nat} {o : Oper} (ho : ops[i]? = some o) (hk : kindO (trOper P N ops o) = 0 ∨ kindO (trOper P N ops o) = 1) : H (i + 1) = H i := by
  rcases (C.stp i o ho).run with ⟨_, _, e⟩ | ⟨_, hr⟩
  · exact e
  · rcases hk with hk | hk
    · obtain ⟨d, g, op, e, hk'⟩ := plain_of hk (by omega)
      rw [e] at hr
      exact (pure_spec hk' (lift_ok hr)).1
    · obtain ⟨d, g, op, e, hk'⟩ := plain_of hk (by omega)
      rw [e] at hr
      exact read_spec hk' (lift_ok hr)
theorem Ctx.made (C : Ctx P N call ops M T H V) {i : Nat} {o : Oper} (ho : ops[i]? = some o) (hk : kindO (trOper P N ops o) = 2) : H (i + 1) = H i ∨ ∃ ob, ob.own = true ∧ H (i + 1) = (H i).new ob := by
  rcases (C.stp i o ho).run with ⟨_, _, e⟩ | ⟨_, hr⟩
  · exact .inl e
  · obtain ⟨d, g, op, e, hk'⟩ := plain_of hk (by omega)
    rw [e] at hr
    obtain ⟨ob, h1, h2, _⟩ := make_spec hk' (lift_ok hr)
    exact .inr ⟨ob, h2, h1⟩

/-- memory at a place of the text, when 'L' have come up and those that act have come up till there -/
structure Lay (P : Program) (B N : Nat) (ops : Array Oper) (H : Nat → Hp) (L : Nat → Prop) (μ : Mu) (w : World) (p : Nat) : Prop where
  sim : Sim B μ (H p) w
  late : ∀ i oi o, i < p → ops[i]? = some oi → kindO (trOper P N ops oi) = 2 → ¬ L i → H (i + 1) = (H i).new o → (H p).m.get (H i).next = some o
  early : ∀ i oi o m, p ≤ i → ops[i]? = some oi → kindO (trOper P N ops oi) = 2 → L i → H (i + 1) = (H i).new o → μ (H i).next = some m → BR B μ m w o
  apart : ∀ i oi o m, p ≤ i → ops[i]? = some oi → kindO (trOper P N ops oi) = 2 → L i → H (i + 1) = (H i).new o → μ (H i).next = some m → ∀ c m' o', μ c = some m' → (H p).m.get c = some o' → m'.r ≠ m.r
  apart' : ∀ i oi o m, p ≤ i → ops[i]? = some oi → kindO (trOper P N ops oi) = 2 → L i → H (i + 1) = (H i).new o → μ (H i).next = some m →
    ∀ j oj o' m', p ≤ j → j ≠ i → ops[j]? = some oj → kindO (trOper P N ops oj) = 2 → L j → H (j + 1) = (H j).new o' → μ (H j).next = some m' → m'.r ≠ m.r
/-- the blocks that there are belong to what has come up -/
def Ids (ops : Array Oper) (H : Nat → Hp) (L : Nat → Prop) (μ : Mu) : Prop := ∀ b : Pos, (H 0).next.toN ≤ b.toN → b.toN < (H ops.size).next.toN → μ b ≠ none → ∃ i, i < ops.size ∧ L i ∧ (H i).next.toN ≤ b.toN ∧ b.toN < (H (i + 1)).next.toN

theorem Ids.no (C : Ctx P N call ops M T H V) (hc : CallOK P B call) {L : Nat → Prop} {μ : Mu} (hI : Ids ops H L μ) {i : Nat} (hi : i < ops.size) (hn : ¬ L i) {b : Pos} (h1 : (H i).next.toN ≤ b.toN) (h2 : b.toN < (H (i + 1)).next.toN) : μ b = none := by
  cases hb : μ b with
  | none => rfl
  | some m =>
    have a1 := C.next hc (i := 0) (j := i) (by omega) (by omega)
    have a2 := C.next hc (i := i + 1) (j := ops.size) (by omega) (by omega)
    obtain ⟨j, hj, hL, h3, h4⟩ := hI b (by omega) (by omega) (by rw [hb]; simp)
    have : j ≠ i := fun e => hn (e ▸ hL)
    rcases Nat.lt_or_gt_of_ne this with h | h
    · have := C.next hc (i := j + 1) (j := i) (by omega) (by omega)
      omega
    · have := C.next hc (i := i + 1) (j := j) (by omega) (by omega)
      omega

theorem Lay.pass (C : Ctx P N call ops M T H V) (hc : CallOK P B call) {L : Nat → Prop} {μ : Mu} {w : World} (hI : Ids ops H L μ) {p : Nat} {op : Oper} (hl : Lay P B N ops H L μ w p) (hp : ops[p]? = some op) (hk : kindO (trOper P N ops op) ≠ 3) : Lay P B N ops H L μ w (p + 1) := by
  have hlt := (Array.getElem?_eq_some_iff.1 hp).1
  have hkk : kindO (trOper P N ops op) = 0 ∨ kindO (trOper P N ops op) = 1 ∨ kindO (trOper P N ops op) = 2 := by
    cases h : trOper P N ops op with
    | plain d g o => rw [h] at hk; show kindD o = 0 ∨ kindD o = 1 ∨ kindD o = 2; change kindD o ≠ 3 at hk; cases o <;> simp_all [kindD]
    | callF => rw [h] at hk; exact absurd rfl hk
    | callV => rw [h] at hk; exact absurd rfl hk
  have same : H (p + 1) = H p → Lay P B N ops H L μ w (p + 1) := fun e => by
    have ne : ∀ o, H (p + 1) = (H p).new o → False := fun o h => by
      rw [e] at h
      have := congrArg (fun x => x.next.toN) h
      simp only [Hp.next_new] at this
      omega
    refine ⟨by rw [e]; exact hl.sim, fun i oi o h1 h2 h3 h4 h5 => ?_, fun i oi o m h1 h2 h3 h4 h5 h6 => hl.early i oi o m (by omega) h2 h3 h4 h5 h6, fun i oi o m h1 h2 h3 h4 h5 h6 => by rw [e]; exact hl.apart i oi o m (by omega) h2 h3 h4 h5 h6,
      fun i oi o m h1 h2 h3 h4 h5 h6 j oj o' m' q1 q2 q3 q4 q5 q6 q7 => hl.apart' i oi o m (by omega) h2 h3 h4 h5 h6 j oj o' m' (by omega) q2 q3 q4 q5 q6 q7⟩
    rw [e]
    by_cases hip : i = p
    · subst hip; exact (ne o h5).elim
    · exact hl.late i oi o (by omega) h2 h3 h4 h5
  rcases hkk with hkk | hkk | hkk
  · exact same (C.still hp (.inl hkk))
  · exact same (C.still hp (.inr hkk))
  · rcases C.made hp hkk with e | ⟨ob, hown, e⟩
    · exact same e
    · have idlt : ∀ i oi o, i < p → ops[i]? = some oi → H (i + 1) = (H i).new o → (H i).next.toN < (H p).next.toN := fun i oi o h1 h2 h3 => by
        have := C.next hc (i := i + 1) (j := p) (by omega) (by omega)
        rw [h3, Hp.next_new] at this
        omega
      have hnone : ¬ L p → μ (H p).next = none := fun hn => hI.no C hc hlt hn (Nat.le_refl _) (by rw [e, Hp.next_new]; omega)
      refine ⟨⟨hl.sim.base, fun b hb => ?_, fun b m o h1 h2 => ?_, fun b b' m m' o o' h1 h2 h3 h4 h5 h6 => ?_⟩, fun i oi o h1 h2 h3 h4 h5 => ?_, fun i oi o m h1 h2 h3 h4 h5 h6 => hl.early i oi o m (by omega) h2 h3 h4 h5 h6, fun i oi o m h1 h2 h3 h4 h5 h6 c m' o' q1 q2 => ?_,
        fun i oi o m h1 h2 h3 h4 h5 h6 j oj o' m' q1 q2 q3 q4 q5 q6 q7 => hl.apart' i oi o m (by omega) h2 h3 h4 h5 h6 j oj o' m' (by omega) q2 q3 q4 q5 q6 q7⟩
      · rw [e, Hp.next_new] at hb
        rw [e, Hp.get_new, if_neg (fun h => by rw [h] at hb; omega)]
        exact hl.sim.top b (by omega)
      · rw [e, Hp.get_new] at h2
        by_cases hb : b = (H p).next
        · subst hb
          rw [if_pos rfl] at h2; cases h2
          by_cases hL : L p
          · exact hl.early p op ob m (Nat.le_refl _) hp hkk hL e h1
          · rw [hnone hL] at h1; cases h1
        · rw [if_neg hb] at h2; exact hl.sim.block b m o h1 h2
      · rw [e, Hp.get_new] at h3 h4
        by_cases hb : b = (H p).next
        · by_cases hb' : b' = (H p).next
          · rw [hb, hb']
          · subst hb
            rw [if_neg hb'] at h4
            by_cases hL : L p
            · exact absurd h6.symm (hl.apart p op ob m (Nat.le_refl _) hp hkk hL e h1 b' m' o' h2 h4)
            · rw [hnone hL] at h1; cases h1
        · rw [if_neg hb] at h3
          by_cases hb' : b' = (H p).next
          · subst hb'
            by_cases hL : L p
            · exact absurd h6 (hl.apart p op ob m' (Nat.le_refl _) hp hkk hL e h2 b m o h1 h3)
            · rw [hnone hL] at h2; cases h2
          · rw [if_neg hb'] at h4
            exact hl.sim.apart b b' m m' o o' h1 h2 h3 h4 h5 h6
      · rw [e, Hp.get_new]
        by_cases hip : i = p
        · subst hip
          rw [e] at h5
          have := congrArg (fun x => x.m.get (H i).next) h5
          simp only [Hp.get_new, if_true] at this
          rw [if_pos rfl]; exact this
        · rw [if_neg (fun h => by have := idlt i oi o (by omega) h2 h5; rw [h] at this; omega)]
          exact hl.late i oi o (by omega) h2 h3 h4 h5
      · rw [e, Hp.get_new] at q2
        by_cases hcn : c = (H p).next
        · subst hcn
          by_cases hL : L p
          · exact fun h => hl.apart' i oi o m (by omega) h2 h3 h4 h5 h6 p op ob m' (Nat.le_refl _) (by omega) hp hkk hL e q1 h
          · rw [hnone hL] at q1; cases q1
        · rw [if_neg hcn] at q2
          exact hl.apart i oi o m (by omega) h2 h3 h4 h5 h6 c m' o' q1 q2
end
end Go.Dm

namespace Go.Dm

/-- a step behind a step to a memory with a later number -/
theorem Step.onto {μ0 μ ν : Mu} {h0 h1 h2 : Hp} {w0 w w' : World} {nx : Pos} (A : Step μ0 h0 w0 μ ⟨nx, h1.m⟩ w) (top : ∀ b : Pos, nx.toN ≤ b.toN → h1.m.get b = none) (S : Step μ h1 w ν h2 w') (n0 : h0.next.toN ≤ h1.next.toN) (n2 : h2.next.toN ≤ nx.toN) :
    Step μ0 h0 w0 ν ⟨nx, h2.m⟩ w' where
  le := A.le.trans S.le
  next := A.next
  out b hb := by
    have h1' := A.next
    have h2' : (⟨nx, h1.m⟩ : Hp).next = nx := rfl
    have hb : b.toN < h0.next.toN ∨ nx.toN ≤ b.toN := hb
    rw [S.out b (by omega), A.out b hb]
  late b hb h0' := by
    have := (A.out b (.inl hb)).trans h0'
    show h2.m.get b = _
    rw [S.late b (by omega) this]
    exact A.late b hb h0'
  own b o' hb hg := by
    obtain ⟨o1, g1, w1⟩ := S.own b o' (by omega) hg
    obtain ⟨o2, g2, w2⟩ := A.own b o1 hb g1
    exact ⟨o2, g2, fun h => w2 (w1 h)⟩
  os := S.os.trans A.os
  tape := S.tape.trans A.tape
  output := S.output.trans A.output
  size := Nat.le_trans A.size S.size
  frame r hr hn := by
    have h3 : ¬ Owned μ h1 r := fun ho => hn (A.owned top r hr ho)
    rw [S.frame r (Nat.lt_of_lt_of_le hr A.size) h3, A.frame r hr hn]
  fresh b m h0' h1' := by
    cases hm : μ b with
    | some m0 =>
      have := S.le b m0 hm
      rw [h1'] at this
      obtain rfl : m = m0 := by simpa using this
      exact A.fresh b m h0' hm
    | none =>
      rcases S.fresh b m hm h1' with h2 | h2
      · exact .inl (Nat.le_trans A.size h2)
      · by_cases hr : m.r < w0.heap.size
        · exact .inr (A.owned top _ hr h2)
        · exact .inl (by omega)
  gap := A.gap

section
variable {P : Program} {B N : Nat} {call : Nat → List DV → Hp → RV} {ops : Array Oper} {M : Nat → Nat} {T : Nat → Tm} {H : Nat → Hp} {V : Nat → DV}

theorem Lay.event (C : Ctx P N call ops M T H V) (hc : CallOK P B call) {L : Nat → Prop} {μ ν : Mu} {w w' : World} (hI : Ids ops H L μ) {q q' : Nat} (hl : Lay P B N ops H L μ w q) (hqn : q ≤ ops.size)
    (hq : q' = q ∨ (q' = q + 1 ∧ ∃ o, ops[q]? = some o ∧ kindO (trOper P N ops o) = 3)) (st : Step μ (H q) w ν (H q') w') (s : Sim B ν (H q') w') : Lay P B N ops H L ν w' q' := by
  have idge : ∀ i oi, q' ≤ i → ops[i]? = some oi → (H q').next.toN ≤ (H i).next.toN := fun i oi h1 h2 => C.next hc h1 (Nat.le_of_lt (Array.getElem?_eq_some_iff.1 h2).1)
  have hle : q ≤ q' := by rcases hq with h | h <;> omega
  have back : ∀ i oi m, q' ≤ i → ops[i]? = some oi → ν (H i).next = some m → μ (H i).next = some m := fun i oi m h1 h2 h3 => by
    rw [← st.out _ (.inr (idge i oi h1 h2))]; exact h3
  refine ⟨s, fun i oi o h1 h2 h3 h4 h5 => ?_, fun i oi o m h1 h2 h3 h4 h5 h6 => ?_, fun i oi o m h1 h2 h3 h4 h5 h6 c m' o' q1 q2 => ?_, fun i oi o m h1 h2 h3 h4 h5 h6 j oj o' m' q1 q2 q3 q4 q5 q6 q7 => ?_⟩
  · have hiq : i < q := by
      rcases hq with h | ⟨h, o', ho', hk'⟩
      · omega
      · by_cases e : i = q
        · subst e; rw [h2] at ho'; cases ho'; rw [h3] at hk'; cases hk'
        · omega
    have hlt := (Array.getElem?_eq_some_iff.1 h2).1
    have a1 := C.next hc (i := i + 1) (j := q) (by omega) hqn
    rw [h5, Hp.next_new] at a1
    rw [st.late _ (by omega) (hI.no C hc hlt h4 (Nat.le_refl _) (by rw [h5, Hp.next_new]; omega))]
    exact hl.late i oi o hiq h2 h3 h4 h5
  · have h6 := back i oi m h1 h2 h6
    have hb := hl.early i oi o m (by omega) h2 h3 h4 h5 h6
    refine hb.mono st.le (st.frame _ hb.lt fun ⟨c, m', o', g1, g2, g3, g4⟩ => hl.apart i oi o m (by omega) h2 h3 h4 h5 h6 c m' o' g1 g2 g4)
  · have h6 := back i oi m h1 h2 h6
    have hb := hl.early i oi o m (by omega) h2 h3 h4 h5 h6
    have hap := hl.apart i oi o m (by omega) h2 h3 h4 h5 h6
    cases hm : μ c with
    | some m'' =>
      have := st.le c m'' hm
      rw [q1] at this
      obtain rfl : m' = m'' := by simpa using this
      by_cases h7 : c.toN < (H q).next.toN
      · obtain ⟨o2, g2, _⟩ := st.own c o' h7 q2
        exact hap c m' o2 hm g2
      · by_cases h8 : c.toN < (H q').next.toN
        · rw [st.gap c (by omega) h8] at hm; cases hm
        · rw [s.top c (by omega)] at q2; cases q2
    | none =>
      rcases st.fresh c m' hm q1 with h7 | ⟨c', m2, o2, g1, g2, g3, g4⟩
      · have := hb.lt; omega
      · rw [← g4]; exact hap c' m2 o2 g1 g2
  · exact hl.apart' i oi o m (by omega) h2 h3 h4 h5 (back i oi m h1 h2 h6) j oj o' m' (by omega) q2 q3 q4 q5 q6 (back j oj m' q1 q3 q7)

theorem Lay.back (C : Ctx P N call ops M T H V) (_hc : CallOK P B call) {L : Nat → Prop} {μ ν : Mu} {w w' : World} (_hI : Ids ops H L μ) {p : Nat} {op : Oper} (h0 : Lay P B N ops H L μ w p) (hl : Lay P B N ops H L ν w' (p + 1)) (_hμ : ∀ b, ν b = μ b) (hp : ops[p]? = some op) (hk : kindO (trOper P N ops op) ≠ 3) :
    Lay P B N ops H L ν w' p := by
  have hlt := (Array.getElem?_eq_some_iff.1 hp).1
  have hkk : kindO (trOper P N ops op) = 0 ∨ kindO (trOper P N ops op) = 1 ∨ kindO (trOper P N ops op) = 2 := by
    cases h : trOper P N ops op with
    | plain d g o => rw [h] at hk; show kindD o = 0 ∨ kindD o = 1 ∨ kindD o = 2; change kindD o ≠ 3 at hk; cases o <;> simp_all [kindD]
    | callF => rw [h] at hk; exact absurd rfl hk
    | callV => rw [h] at hk; exact absurd rfl hk
  have same : H (p + 1) = H p → Lay P B N ops H L ν w' p := fun e => by
    have ne : ∀ o, H (p + 1) = (H p).new o → False := fun o h => by
      rw [e] at h
      have := congrArg (fun x => x.next.toN) h
      simp only [Hp.next_new] at this
      omega
    have up : ∀ i o, p ≤ i → H (i + 1) = (H i).new o → p + 1 ≤ i := fun i o h1 h2 => by
      by_cases e' : i = p
      · subst e'; exact (ne o h2).elim
      · omega
    have hsim := hl.sim
    rw [e] at hsim
    exact ⟨hsim, fun i oi o h1 h2 h3 h4 h5 => h0.late i oi o h1 h2 h3 h4 h5, fun i oi o m h1 h2 h3 h4 h5 h6 => hl.early i oi o m (up i o h1 h5) h2 h3 h4 h5 h6, fun i oi o m h1 h2 h3 h4 h5 h6 c m' o' q1 q2 => hl.apart i oi o m (up i o h1 h5) h2 h3 h4 h5 h6 c m' o' q1 (by rw [e]; exact q2),
      fun i oi o m h1 h2 h3 h4 h5 h6 j oj o' m' q1 q2 q3 q4 q5 q6 q7 => hl.apart' i oi o m (up i o h1 h5) h2 h3 h4 h5 h6 j oj o' m' (up j o' q1 q6) q2 q3 q4 q5 q6 q7⟩
  rcases hkk with hkk | hkk | hkk
  · exact same (C.still hp (.inl hkk))
  · exact same (C.still hp (.inr hkk))
  · rcases C.made hp hkk with e | ⟨ob, hown, e⟩
    · exact same e
    · have hget : ∀ b, (H (p + 1)).m.get b = if b = (H p).next then some ob else (H p).m.get b := fun b => by rw [e, Hp.get_new]
      have ne : ∀ c o', (H p).m.get c = some o' → c ≠ (H p).next := fun c o' h1 h2 => by
        rw [h2, h0.sim.top _ (Nat.le_refl _)] at h1; cases h1
      have up : ∀ c o', (H p).m.get c = some o' → (H (p + 1)).m.get c = some o' := fun c o' h1 => by rw [hget, if_neg (ne c o' h1)]; exact h1
      have hnew : (H (p + 1)).m.get (H p).next = some ob := by rw [hget, if_pos rfl]
      have hob : ∀ i o, i = p → H (i + 1) = (H i).new o → o = ob := fun i o h1 h2 => by
        subst h1
        have := hnew
        rw [h2, Hp.get_new, if_pos rfl] at this
        cases this; rfl
      refine ⟨⟨hl.sim.base, h0.sim.top, fun b m o h1 h2 => hl.sim.block b m o h1 (up b o h2), fun b b' m m' o o' h1 h2 h3 h4 h5 h6 => hl.sim.apart b b' m m' o o' h1 h2 (up b o h3) (up b' o' h4) h5 h6⟩, fun i oi o h1 h2 h3 h4 h5 => h0.late i oi o h1 h2 h3 h4 h5,
        fun i oi o m h1 h2 h3 h4 h5 h6 => ?_, fun i oi o m h1 h2 h3 h4 h5 h6 c m' o' q1 q2 => ?_, fun i oi o m h1 h2 h3 h4 h5 h6 j oj o' m' q1 q2 q3 q4 q5 q6 q7 => ?_⟩
      · by_cases hip : i = p
        · have := hob i o hip h5
          subst this; subst hip
          exact hl.sim.block _ m o h6 hnew
        · exact hl.early i oi o m (by omega) h2 h3 h4 h5 h6
      · by_cases hip : i = p
        · have := hob i o hip h5
          subst this; subst hip
          intro hr
          exact ne c o' q2 (hl.sim.apart _ _ m m' o o' h6 q1 hnew (up c o' q2) hown hr.symm).symm
        · exact hl.apart i oi o m (by omega) h2 h3 h4 h5 h6 c m' o' q1 (up c o' q2)
      · by_cases hip : i = p
        · have := hob i o hip h5
          subst this; subst hip
          intro hr
          exact hl.apart j oj o' m' (by omega) q3 q4 q5 q6 q7 _ m o h6 hnew hr.symm
        · by_cases hjp : j = p
          · have := hob j o' hjp q6
            subst this; subst hjp
            exact hl.apart i oi o m (by omega) h2 h3 h4 h5 h6 _ m' o' q7 hnew
          · exact hl.apart' i oi o m (by omega) h2 h3 h4 h5 h6 j oj o' m' (by omega) q2 q3 q4 q5 q6 q7
end
end Go.Dm

namespace Go.Dm

section
variable {P : Program} {B N : Nat} {call : Nat → List DV → Hp → RV} {ops : Array Oper} {M : Nat → Nat} {T : Nat → Tm} {H : Nat → Hp} {V : Nat → DV}

/-- one more -/
def With (L : Nat → Prop) (i : Nat) : Nat → Prop := fun j => L j ∨ j = i
theorem Lay.list {L : Nat → Prop} {μ : Mu} {w : World} {p i : Nat} (hl : Lay P B N ops H L μ w p) (h : ∀ oi o, ops[i]? = some oi → kindO (trOper P N ops oi) = 2 → H (i + 1) = (H i).new o → False) : Lay P B N ops H (With L i) μ w p := by
  have old : ∀ j oj o, ops[j]? = some oj → kindO (trOper P N ops oj) = 2 → With L i j → H (j + 1) = (H j).new o → L j := fun j oj o h1 h2 h3 h4 => by
    rcases h3 with h3 | rfl
    · exact h3
    · exact (h oj o h1 h2 h4).elim
  exact ⟨hl.sim, fun j oj o h1 h2 h3 h4 h5 => hl.late j oj o h1 h2 h3 (fun h => h4 (.inl h)) h5, fun j oj o m h1 h2 h3 h4 h5 h6 => hl.early j oj o m h1 h2 h3 (old j oj o h2 h3 h4 h5) h5 h6,
    fun j oj o m h1 h2 h3 h4 h5 h6 => hl.apart j oj o m h1 h2 h3 (old j oj o h2 h3 h4 h5) h5 h6,
    fun j oj o m h1 h2 h3 h4 h5 h6 k ok o' m' q1 q2 q3 q4 q5 q6 q7 => hl.apart' j oj o m h1 h2 h3 (old j oj o h2 h3 h4 h5) h5 h6 k ok o' m' q1 q2 q3 q4 (old k ok o' q3 q4 q5 q6) q6 q7⟩

/-- a block is made -/
theorem Lay.make (C : Ctx P N call ops M T H V) (hc : CallOK P B call) {L : Nat → Prop} {μ ν : Mu} {w w' : World} (hI : Ids ops H L μ) {p i : Nat} {oi : Oper} {ob : Ob} (hl : Lay P B N ops H L μ w p) (_hpn : p ≤ ops.size) (hi : ops[i]? = some oi) (hk : kindO (trOper P N ops oi) = 2)
    (hn : ¬ L i) (hm : H (i + 1) = (H i).new ob) (st : Step μ ⟨(H i).next, .leaf⟩ w ν (Hp.new ⟨(H i).next, .leaf⟩ ob) w') (s : Sim B ν (Hp.new ⟨(H i).next, .leaf⟩ ob) w') :
    Lay P B N ops H (With L i) ν w' p ∧ (∀ b, b ≠ (H i).next → ν b = μ b) ∧ (∀ r, r < w.heap.size → w'.heap[r]? = w.heap[r]?) ∧ (∀ m, ν (H i).next = some m → w.heap.size ≤ m.r) := by
  have hlt := (Array.getElem?_eq_some_iff.1 hi).1
  have hun : ∀ r, ¬ Owned μ ⟨(H i).next, .leaf⟩ r := fun r ⟨b, m, o, g1, g2, _⟩ => by
    rw [show (⟨(H i).next, .leaf⟩ : Hp).m.get b = none from PT.get_leaf b] at g2; cases g2
  have hfr : ∀ r, r < w.heap.size → w'.heap[r]? = w.heap[r]? := fun r hr => st.frame r hr (hun r)
  have hout : ∀ b, b ≠ (H i).next → ν b = μ b := fun b hb => st.out b (by
    have e : (Hp.new ⟨(H i).next, .leaf⟩ ob).next.toN = (H i).next.toN + 1 := Hp.next_new _ _
    have e2 : (⟨(H i).next, .leaf⟩ : Hp).next = (H i).next := rfl
    have : b.toN ≠ (H i).next.toN := fun h => hb (Pos.toN_inj h)
    rw [e, e2]; omega)
  have hnone : μ (H i).next = none := hI.no C hc hlt hn (Nat.le_refl _) (by rw [hm, Hp.next_new]; omega)
  have hfresh : ∀ m, ν (H i).next = some m → w.heap.size ≤ m.r := fun m h => (st.fresh _ m hnone h).resolve_right (hun _)
  have hbr : ∀ m, ν (H i).next = some m → BR B ν m w' ob := fun m h => s.block _ m ob h (by rw [Hp.get_new, if_pos rfl])
  have oldbr : ∀ {m : RB} {o : Ob}, BR B μ m w o → BR B ν m w' o := fun h => h.mono st.le (hfr _ h.lt)
  have idne : ∀ j oj, j ≠ i → ops[j]? = some oj → ∀ o, H (j + 1) = (H j).new o → (H j).next ≠ (H i).next := fun j oj hj h1 o h2 h3 => by
    have hjlt := (Array.getElem?_eq_some_iff.1 h1).1
    rcases Nat.lt_or_gt_of_ne hj with h | h
    · have := C.next hc (i := j + 1) (j := i) (by omega) (by omega)
      rw [h2, Hp.next_new, h3] at this; omega
    · have := C.next hc (i := i + 1) (j := j) (by omega) (by omega)
      rw [hm, Hp.next_new, ← h3] at this; omega
  have alive : ∀ b o, (H p).m.get b = some o → b = (H i).next → i < p := fun b o h1 h2 => by
    rcases Nat.lt_or_ge i p with h | h
    · exact h
    · have := C.next hc (i := p) (j := i) h (by omega)
      rw [hl.sim.top b (by rw [h2]; exact this)] at h1; cases h1
  have isob : ∀ b o, (H p).m.get b = some o → b = (H i).next → o = ob := fun b o h1 h2 => by
    have := hl.late i oi ob (alive b o h1 h2) hi hk hn hm
    rw [h2, this] at h1; cases h1; rfl
  refine ⟨⟨⟨Nat.le_trans hl.sim.base st.size, hl.sim.top, fun b m o h1 h2 => ?_, fun b b' m m' o o' h1 h2 h3 h4 h5 h6 => ?_⟩, fun j oj o h1 h2 h3 h4 h5 => hl.late j oj o h1 h2 h3 (fun h => h4 (.inl h)) h5,
    fun j oj o m h1 h2 h3 h4 h5 h6 => ?_, fun j oj o m h1 h2 h3 h4 h5 h6 c m' o' q1 q2 => ?_, fun j oj o m h1 h2 h3 h4 h5 h6 k ok o' m' q1 q2 q3 q4 q5 q6 q7 => ?_⟩, hout, hfr, hfresh⟩
  · by_cases hb : b = (H i).next
    · have := isob b o h2 hb
      subst this; subst hb
      exact hbr m h1
    · rw [hout b hb] at h1; exact oldbr (hl.sim.block b m o h1 h2)
  · by_cases hb : b = (H i).next
    · by_cases hb' : b' = (H i).next
      · rw [hb, hb']
      · rw [hout b' hb'] at h2
        subst hb
        have a1 := hfresh m h1
        have a2 := (hl.sim.block b' m' o' h2 h4).lt
        omega
    · rw [hout b hb] at h1
      by_cases hb' : b' = (H i).next
      · subst hb'
        have a1 := hfresh m' h2
        have a2 := (hl.sim.block b m o h1 h3).lt
        omega
      · rw [hout b' hb'] at h2
        exact hl.sim.apart b b' m m' o o' h1 h2 h3 h4 h5 h6
  · rcases h4 with h4 | rfl
    · have hji : j ≠ i := fun e => hn (e ▸ h4)
      rw [hout _ (idne j oj hji h2 o h5)] at h6
      exact oldbr (hl.early j oj o m h1 h2 h3 h4 h5 h6)
    · have : o = ob := by
        have h7 := congrArg (fun x => x.m.get (H j).next) (hm.symm.trans h5)
        simp only [Hp.get_new, if_true] at h7
        exact (Option.some.inj h7).symm
      subst this
      exact hbr m h6
  · rcases h4 with h4 | rfl
    · have hji : j ≠ i := fun e => hn (e ▸ h4)
      rw [hout _ (idne j oj hji h2 o h5)] at h6
      by_cases hcb : c = (H i).next
      · subst hcb
        have a1 := hfresh m' q1
        have a2 := (hl.early j oj o m h1 h2 h3 h4 h5 h6).lt
        omega
      · rw [hout c hcb] at q1
        exact hl.apart j oj o m h1 h2 h3 h4 h5 h6 c m' o' q1 q2
    · by_cases hcb : c = (H j).next
      · have := alive c o' q2 hcb; omega
      · rw [hout c hcb] at q1
        have a1 := hfresh m h6
        have a2 := (hl.sim.block c m' o' q1 q2).lt
        omega
  · rcases h4 with h4 | rfl
    · have hji : j ≠ i := fun e => hn (e ▸ h4)
      rw [hout _ (idne j oj hji h2 o h5)] at h6
      rcases q5 with q5 | rfl
      · have hki : k ≠ i := fun e => hn (e ▸ q5)
        rw [hout _ (idne k ok hki q3 o' q6)] at q7
        exact hl.apart' j oj o m h1 h2 h3 h4 h5 h6 k ok o' m' q1 q2 q3 q4 q5 q6 q7
      · have a1 := hfresh m' q7
        have a2 := (hl.early j oj o m h1 h2 h3 h4 h5 h6).lt
        omega
    · rcases q5 with q5 | rfl
      · rw [hout _ (idne k ok q2 q3 o' q6)] at q7
        have a1 := hfresh m h6
        have a2 := (hl.early k ok o' m' q1 q3 q4 q5 q6 q7).lt
        omega
      · exact absurd rfl q2
end
end Go.Dm
