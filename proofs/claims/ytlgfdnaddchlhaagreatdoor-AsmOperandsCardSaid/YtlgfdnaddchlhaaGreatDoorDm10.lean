/- An interpreter of the model's code, deterministic, and its soundness, part 10: A drawn region: one operation comes up. A drawn region: one operation comes up; all of them. A drawn region, whatever order is drawn. Drawn regions, and so calls. The functions that have no text. No condition. -/
import Derived.Test.YtlgfdnaddchlhaaGreatDoorDm9
import Derived.Lib.Bytealg
import Derived.Lib.MakeNoZero
namespace Go.Dm

section
variable {P : Program} {B N : Nat} {call : Nat → List DV → Hp → RV} {ops : Array Oper} {M : Nat → Nat} {T : Nat → Tm} {H : Nat → Hp} {V : Nat → DV} {μ0 : Mu} {w0 : World}

structure Inv (P : Program) (B N : Nat) (ops : Array Oper) (T : Nat → Tm) (H : Nat → Hp) (V : Nat → DV) (μ0 : Mu) (w0 : World) (L : Nat → Prop) (a : Act) (w : World) (p : Nat) (μ : Mu) (t : Tm) : Prop where
  le : p ≤ ops.size
  below : ∀ i oi, i < p → ops[i]? = some oi → kindO (trOper P N ops oi) = 3 → L i
  above : ∀ i oi, p ≤ i → ops[i]? = some oi → kindO (trOper P N ops oi) = 3 → ¬ L i
  last : p = 0 ∨ ∃ o, ops[p - 1]? = some o ∧ kindO (trOper P N ops o) = 3
  closed : Closed ops L
  mid : Mid P N ops T V L t
  tr : TR N μ t a
  gl : GL μ
  ids : Ids ops H L μ
  lay : Lay P B N ops H L μ w p
  step : Step μ0 (H 0) w0 μ ⟨(H ops.size).next, (H p).m⟩ w

theorem Mid.with (C : Ctx P N call ops M T H V) {L : Nat → Prop} {t : Tm} (ht : Mid P N ops T V L t) {i : Nat} {oi : Oper} (hi : ops[i]? = some oi) {v : DV} (hv : (trOper P N ops oi).dst = none ∨ v = V i) : Mid P N ops T V (With L i) (setD (oi.dst.map posOf) v t) := by
  have hd := (C.stp i oi hi).dst
  refine ⟨fun k o p hk hL hp => ?_, fun p h => ?_⟩
  · rw [setD_get, ← hd]
    by_cases e : (trOper P N ops oi).dst = some p
    · have := C.apart hk hi hp e
      subst this
      rw [if_pos e, hv.resolve_left (fun h => by rw [h] at e; cases e)]
    · rw [if_neg e]
      rcases hL with hL | rfl
      · exact ht.done k o p hk hL hp
      · rw [hi] at hk; cases hk; exact absurd hp e
  · rw [setD_get, ← hd, if_neg (h i oi hi (.inr rfl))]
    exact ht.else_ p fun k o hk hL => h k o hk (.inl hL)
theorem Closed.with {L : Nat → Prop} (hL : Closed ops L) {i : Nat} (hi : Ready ops L i) : Closed ops (With L i) := fun j o hj hLj e he => by
  rcases hLj with h | rfl
  · exact .inl (hL j o hj h e he)
  · obtain ⟨_, o', ho', h⟩ := hi
    rw [hj] at ho'; cases ho'; exact .inl (h e he)
theorem Ids.with {L : Nat → Prop} {μ : Mu} (h : Ids ops H L μ) (i : Nat) : Ids ops H (With L i) μ := fun b h1 h2 h3 => let ⟨j, a1, a2, a3⟩ := h b h1 h2 h3; ⟨j, a1, .inl a2, a3⟩

/-- nothing acts between -/
def Calm (P : Program) (N : Nat) (ops : Array Oper) (p q : Nat) : Prop := ∀ j oj, p ≤ j → j < q → ops[j]? = some oj → kindO (trOper P N ops oj) ≠ 3
theorem next_get (C : Ctx P N call ops M T H V) (hc : CallOK P B call) {p : Nat} {op : Oper} (hp : ops[p]? = some op) (hk : kindO (trOper P N ops op) ≠ 3) {b : Pos} (hb : b.toN < (H 0).next.toN) : (H (p + 1)).m.get b = (H p).m.get b := by
  have hlt := (Array.getElem?_eq_some_iff.1 hp).1
  have hkk : kindO (trOper P N ops op) = 0 ∨ kindO (trOper P N ops op) = 1 ∨ kindO (trOper P N ops op) = 2 := by
    cases h : trOper P N ops op with
    | plain d g o => rw [h] at hk; show kindD o = 0 ∨ kindD o = 1 ∨ kindD o = 2; change kindD o ≠ 3 at hk; cases o <;> simp_all [kindD]
    | callF => rw [h] at hk; exact absurd rfl hk
    | callV => rw [h] at hk; exact absurd rfl hk
  have a := C.next hc (i := 0) (j := p) (by omega) (by omega)
  rcases hkk with h | h | h
  · rw [C.still hp (.inl h)]
  · rw [C.still hp (.inr h)]
  · rcases C.made hp h with e | ⟨ob, _, e⟩
    · rw [e]
    · rw [e, Hp.get_new, if_neg (fun h => by rw [h] at hb; omega)]
theorem calm_get (C : Ctx P N call ops M T H V) (hc : CallOK P B call) {p : Nat} {b : Pos} (hb : b.toN < (H 0).next.toN) : ∀ {q : Nat}, p ≤ q → q ≤ ops.size → Calm P N ops p q → (H q).m.get b = (H p).m.get b
  | 0, h1, _, _ => by obtain rfl : p = 0 := by omega
                      rfl
  | q + 1, h1, h2, h3 => by
    by_cases e : p = q + 1
    · subst e; rfl
    · have ho : ops[q]? = some ops[q] := by simp [show q < ops.size by omega]
      rw [next_get C hc ho (h3 q _ (by omega) (by omega) ho) hb]
      exact calm_get C hc hb (by omega) (by omega) fun j oj a1 a2 => h3 j oj a1 (by omega)
theorem Step.calm {μ : Mu} {w : World} {nx : Pos} {h0 k l : Hp} (h : Step μ0 h0 w0 μ ⟨nx, k.m⟩ w) (he : ∀ b : Pos, b.toN < h0.next.toN → l.m.get b = k.m.get b) : Step μ0 h0 w0 μ ⟨nx, l.m⟩ w :=
  ⟨h.le, h.next, h.out, fun b h1 h2 => by show l.m.get b = _; rw [he b h1]; exact h.late b h1 h2, fun b o' h1 h2 => by
    have h2 : l.m.get b = some o' := h2
    rw [he b h1] at h2; exact h.own b o' h1 h2, h.os, h.tape, h.output, h.size, h.frame, h.fresh, h.gap⟩
theorem Lay.calm (C : Ctx P N call ops M T H V) (hc : CallOK P B call) {L : Nat → Prop} {μ : Mu} {w : World} (hI : Ids ops H L μ) {p : Nat} (hl : Lay P B N ops H L μ w p) : ∀ {q : Nat}, p ≤ q → q ≤ ops.size → Calm P N ops p q → Lay P B N ops H L μ w q
  | 0, h1, _, _ => by obtain rfl : p = 0 := by omega
                      exact hl
  | q + 1, h1, h2, h3 => by
    by_cases e : p = q + 1
    · subst e; exact hl
    · have ho : ops[q]? = some ops[q] := by simp [show q < ops.size by omega]
      exact (Lay.calm C hc hI hl (q := q) (by omega) (by omega) fun j oj a1 a2 => h3 j oj a1 (by omega)).pass C hc hI ho (h3 q _ (by omega) (by omega) ho)
theorem Lay.calm_back (C : Ctx P N call ops M T H V) (hc : CallOK P B call) {L : Nat → Prop} {μ ν : Mu} {w w' : World} (hI : Ids ops H L μ) {p : Nat} (h0 : Lay P B N ops H L μ w p) (hμ : ∀ b, ν b = μ b) : ∀ {q : Nat}, p ≤ q → q ≤ ops.size → Calm P N ops p q → Lay P B N ops H L ν w' q → Lay P B N ops H L ν w' p
  | 0, h1, _, _, hl => by obtain rfl : p = 0 := by omega
                          exact hl
  | q + 1, h1, h2, h3, hl => by
    by_cases e : p = q + 1
    · subst e; exact hl
    · have ho : ops[q]? = some ops[q] := by simp [show q < ops.size by omega]
      have hc' : Calm P N ops p q := fun j oj a1 a2 => h3 j oj a1 (by omega)
      exact Lay.calm_back C hc hI h0 hμ (q := q) (by omega) (by omega) hc' (Lay.back C hc hI (h0.calm C hc hI (by omega) (by omega) hc') hl hμ ho (h3 q _ (by omega) (by omega) ho))
end
end Go.Dm

namespace Go.Dm

section
variable {P : Program} {B N : Nat} {call : Nat → List DV → Hp → RV} {ops : Array Oper} {M : Nat → Nat} {T : Nat → Tm} {H : Nat → Hp} {V : Nat → DV} {μ0 : Mu} {w0 : World}

theorem acts_calm (C : Ctx P N call ops M T H V) {L : Nat → Prop} {a : Act} {w : World} {p : Nat} {μ : Mu} {t : Tm} (I : Inv P B N ops T H V μ0 w0 L a w p μ t) {i : Nat} {oi : Oper} (hoi : ops[i]? = some oi) (hi : Ready ops L i) (hk : kindO (trOper P N ops oi) = 3) : p ≤ i ∧ Calm P N ops p i := by
  have hpi : p ≤ i := by
    rcases Nat.lt_or_ge i p with h | h
    · exact absurd (I.below i oi h hoi hk) hi.1
    · exact h
  refine ⟨hpi, fun j oj h1 h2 h3 h4 => ?_⟩
  have h5 := (and_t (and_t (and_t (C.pair j i oj oi h2 h3 hoi)).2).2).2
  have hb : bit (M i) j = true := by
    rcases Bool.or_eq_true_iff.1 h5 with h6 | h6
    · simp [hk, h4] at h6
    · exact h6
  exact I.above j oj h1 h3 h4 (C.before I.closed hi hb (by omega))

theorem inv_step (C : Ctx P N call ops M T H V) (hc : CallOK P B call) {Q : Exit → Act → World → Prop} {L : Nat → Prop} {a : Act} {w : World} {p : Nat} {μ : Mu} {t : Tm} (I : Inv P B N ops T H V μ0 w0 L a w p μ t) {i : Nat} (hi : Ready ops L i) {K : Act → World → Prop}
    (hK : ∀ a' w' p' μ' t', Inv P B N ops T H V μ0 w0 (With L i) a' w' p' μ' t' → K a' w') : Go.wpOp P ops Q i K a w := by
  obtain ⟨hn, oi, hoi, hed⟩ := hi
  have hi : Ready ops L i := ⟨hn, oi, hoi, hed⟩
  have hlt := (Array.getElem?_eq_some_iff.1 hoi).1
  have S := C.stp i oi hoi
  obtain ⟨hd, hg⟩ := and_t S.ok
  have hag := fun q hq => C.agree I.closed I.mid hoi hi (p := q) hq
  have hw : wanted (trGuard ops oi.guard) t = wanted (trGuard ops oi.guard) (T i) := by rw [← S.guard]; exact wanted_agree hag
  have hev : ∀ h, oper call (trOper P N ops oi) t h = oper call (trOper P N ops oi) (T i) h := fun h => oper_congr (ev_agree hag)
  have hn0 := C.next hc (i := 0) (j := i) (by omega) (by omega)
  have hn1 := C.next hc (i := i + 1) (j := ops.size) (by omega) (by omega)
  have below : ∀ q, p ≤ q → q ≤ i → Calm P N ops p q → ∀ j oj, j < q → ops[j]? = some oj → kindO (trOper P N ops oj) = 3 → L j := fun q h1 h2 h3 j oj h4 h5 h6 => by
    rcases Nat.lt_or_ge j p with h | h
    · exact I.below j oj h h5 h6
    · exact absurd h6 (h3 j oj h h4 h5)
  -- the same place stays
  have stay : ∀ {ν : Mu} {w' : World} {v : DV} {u : Value}, kindO (trOper P N ops oi) ≠ 3 → ((trOper P N ops oi).dst = none ∨ v = V i) → VR ν v u → μ.le ν → Ids ops H (With L i) ν → Lay P B N ops H (With L i) ν w' p → Step μ0 (H 0) w0 ν ⟨(H ops.size).next, (H p).m⟩ w' → K (a.put oi.dst u) w' := by
    intro ν w' v u h1 h2 h3 h4 h5 h6 h7
    refine hK _ _ p ν _ ⟨I.le, fun j oj q1 q2 q3 => .inl (I.below j oj q1 q2 q3), fun j oj q1 q2 q3 q4 => ?_, I.last, I.closed.with hi, I.mid.with C hoi h2, (I.tr.mono h4).put hd h3, I.gl.mono h4, h5, h6, h7⟩
    rcases q4 with q4 | rfl
    · exact I.above j oj q1 q2 q3 q4
    · rw [hoi] at q2; cases q2; exact h1 q3
  -- one that acts
  have act : ∀ {ν : Mu} {w' : World} {u : Value}, kindO (trOper P N ops oi) = 3 → VR ν (V i) u → Step μ (H i) w ν (H (i + 1)) w' → Sim B ν (H (i + 1)) w' → K (a.put oi.dst u) w' := by
    intro ν w' u h1 h2 h3 h4
    obtain ⟨hpi, calm⟩ := acts_calm C I hoi hi h1
    have hl := I.lay.calm C hc I.ids hpi (by omega) calm
    have hl' := (hl.event C hc I.ids (by omega) (.inr ⟨rfl, oi, hoi, h1⟩) h3 h4).list (i := i) (fun oi' o q1 q2 _ => by rw [hoi] at q1; cases q1; rw [h1] at q2; cases q2)
    have hst := I.step.calm (l := H i) fun b hb => calm_get C hc hb hpi (by omega) calm
    refine hK _ _ (i + 1) ν _ ⟨by omega, fun j oj q1 q2 q3 => ?_, fun j oj q1 q2 q3 q4 => ?_, .inr ⟨oi, by simpa using hoi, h1⟩, I.closed.with hi, I.mid.with C hoi (.inr rfl), (I.tr.mono h3.le).put hd h2, I.gl.mono h3.le, fun b q1 q2 q3 => ?_, hl', ?_⟩
    · by_cases e : j = i
      · exact .inr e
      · exact .inl (below i hpi (Nat.le_refl _) calm j oj (by omega) q2 q3)
    · rcases q4 with q4 | rfl
      · exact I.above j oj (by omega) q2 q3 q4
      · omega
    · by_cases hb : μ b = none
      · refine ⟨i, hlt, .inr rfl, ?_⟩
        by_cases h7 : b.toN < (H i).next.toN ∨ (H (i + 1)).next.toN ≤ b.toN
        · rw [h3.out b h7] at q3; exact absurd hb q3
        · omega
      · exact (I.ids.with i) b q1 q2 hb
    · have a1 := C.next hc (i := i) (j := ops.size) (by omega) (by omega)
      exact hst.onto (fun b hb => hl.sim.top b (by omega)) h3 hn0 hn1
  unfold Go.wpOp
  simp only [hoi]
  rcases S.run with ⟨hwn, hv, hH⟩ | ⟨hwn, hrun⟩
  · rw [wanted_spec I.tr hg (hw.trans hwn)]
    simp only [Bool.false_eq_true, if_false]
    by_cases hk : kindO (trOper P N ops oi) = 3
    · have hpc := acts_calm C I hoi hi hk
      refine act (ν := μ) (w' := w) hk (by rw [hv]; exact .tup .nil) (by rw [hH]; exact .refl _ _ _) ?_
      rw [hH]
      exact (I.lay.calm C hc I.ids hpc.1 (by omega) hpc.2).sim
    · exact stay hk (.inr rfl) (by rw [hv]; exact .tup .nil) (.refl μ) (I.ids.with i) (I.lay.list fun oi' o _ _ q => by
        rw [hH] at q
        have := congrArg (fun x => x.next.toN) q
        simp only [Hp.next_new] at this
        omega) I.step
  · rw [wanted_spec I.tr hg (hw.trans hwn)]
    simp only [if_true]
    left
    by_cases hk : kindO (trOper P N ops oi) = 3
    · have hpc := acts_calm C I hoi hi hk
      have hl := I.lay.calm C hc I.ids hpc.1 (by omega) hpc.2
      have hgap : Gap μ (H i) (H (i + 1)) := fun b h1 h2 => I.ids.no C hc hlt hn h1 h2
      refine (oper_out hc (I.tr.or I.gl) hl.sim I.gl ((hev (H i)).trans hrun) hgap).wp fun u w' ⟨ν, h1, h2, h3⟩ => act hk h3 h1 h2
    · have hkk : kindO (trOper P N ops oi) = 0 ∨ kindO (trOper P N ops oi) = 1 ∨ kindO (trOper P N ops oi) = 2 := by
        cases h : trOper P N ops oi with
        | plain d g o => rw [h] at hk; show kindD o = 0 ∨ kindD o = 1 ∨ kindD o = 2; change kindD o ≠ 3 at hk; cases o <;> simp_all [kindD]
        | callF => rw [h] at hk; exact absurd rfl hk
        | callV => rw [h] at hk; exact absurd rfl hk
      have quiet : ∀ (q : Nat) (v : DV), p ≤ q → q ≤ ops.size → Calm P N ops p q → H (i + 1) = H i → oper call (trOper P N ops oi) t (H q) = .ok v (H q) → ((trOper P N ops oi).dst = none ∨ v = V i) →
          Oper.wp P oi a w K Q := by
        intro q v h1 h2 h3 h4 h5 h6
        have hl := I.lay.calm C hc I.ids h1 h2 h3
        refine (oper_out hc (I.tr.or I.gl) hl.sim I.gl h5 (fun b q1 q2 => by omega)).wp fun u w' ⟨ν, st, s, hv⟩ => ?_
        have hμ : ∀ b, ν b = μ b := fun b => st.out b (by omega)
        have hl1 := hl.event C hc I.ids h2 (.inl rfl) st s
        have hl2 := Lay.calm_back C hc I.ids I.lay hμ h1 h2 h3 hl1
        have hcg := fun b hb => calm_get C hc (b := b) hb h1 h2 h3
        have a0 := C.next hc (i := 0) (j := q) (by omega) h2
        have a1 := C.next hc (i := q) (j := ops.size) (by omega) (by omega)
        have hst := ((I.step.calm (l := H q) hcg).onto (fun b hb => hl.sim.top b (by omega)) st a0 a1).calm (l := H p) fun b hb => (hcg b hb).symm
        exact stay hk h6 hv st.le (fun b q1 q2 q3 => (I.ids.with i) b q1 q2 (by rw [← hμ b]; exact q3)) (hl2.list fun oi' o _ _ q => by
          rw [h4] at q
          have := congrArg (fun x => x.next.toN) q
          simp only [Hp.next_new] at this
          omega) hst
      rcases hkk with hkk | hkk | hkk
      · obtain ⟨d, g, op, e, hk'⟩ := plain_of hkk (by omega)
        have hr := hev (H i) |>.trans hrun
        rw [e] at hr
        have hsp := pure_spec hk' (lift_ok hr)
        refine quiet p (V i) (Nat.le_refl _) I.le (fun j oj h1 h2 => by omega) hsp.1 ?_ (.inr rfl)
        rw [e]
        show lift d (dop op t (H p)) = _
        rw [hsp.2]; rfl
      · obtain ⟨d, g, op, e, hk'⟩ := plain_of hkk (by omega)
        have hr := hev (H i) |>.trans hrun
        rw [e] at hr
        have hH := read_spec hk' (lift_ok hr)
        have again : ∀ (c : Nat) (oc : Oper), ops[c]? = some oc → kindO (trOper P N ops oc) = 3 → (i < c ∧ bit (M c) i = false) ∨ (c < i ∧ bit (M i) c = false) → ∀ q, p ≤ q → q ≤ ops.size → Calm P N ops p q → H q = (if i < c then H (c + 1) else H c) → Oper.wp P oi a w K Q := by
          intro c oc h1 h2 h3 q h4 h5 h6 h7
          obtain ⟨r1, r2⟩ := C.rival i oi d g op hoi e hk' c oc h1 h2 h3
          have hfin : ∀ x, looks (trOper P N ops oi) (some x) = true → (T ops.size).get x = (T i).get x := fun x hx => by
            by_cases hw : ∃ (k : Nat) (o : Oper), ops[k]? = some o ∧ (trOper P N ops o).dst = some x
            · obtain ⟨k, o, k1, k2⟩ := hw
              have klt := (Array.getElem?_eq_some_iff.1 k1).1
              have hki : k < i := by
                rcases Nat.lt_or_ge k i with h | h
                · exact h
                · have := r1 k o h k1; rw [k2, hx] at this; cases this
              rw [C.put k1 k2 (j := ops.size) (Nat.le_refl _) klt, C.put k1 k2 (j := i) (by omega) hki]
            · have hw : ∀ (k : Nat) (o : Oper), ops[k]? = some o → (trOper P N ops o).dst ≠ some x := fun k o h1 h2 => hw ⟨k, o, h1, h2⟩
              rw [C.left (j := ops.size) (Nat.le_refl _) fun k o _ h1 => hw k o h1, C.left (j := i) (by omega) fun k o _ h1 => hw k o h1]
          have hgd : g = (trOper P N ops oi).guard := by rw [e]; rfl
          obtain ⟨v', h', d1, d2⟩ := r2 (by rw [hgd, wanted_agree hfin, S.guard]; exact hwn)
          have d3 : dop op t (H q) = some (v', h') := by
            rw [h7, ← d1]
            have e1 := ev_agree hag
            have e2 := ev_agree hfin
            rw [e] at e1 e2
            exact dop_congr fun x hx => (e1 x hx).trans (e2 x hx).symm
          have d4 := read_spec hk' d3
          rw [d4] at d3
          refine quiet q v' h4 h5 h6 hH (by rw [e]; show lift d (dop op t (H q)) = _; rw [d3]; rfl) ?_
          have hdd : d = (trOper P N ops oi).dst := by rw [e]; rfl
          cases hdx : (trOper P N ops oi).dst with
          | none => exact .inl rfl
          | some x =>
            right
            rw [d2 x (hdd.trans hdx), C.put hoi hdx (j := ops.size) (Nat.le_refl _) hlt]
            rfl
        rcases Nat.lt_or_ge i p with hip | hip
        · obtain ⟨oc, h1, h2⟩ := I.last.resolve_left (by omega)
          have hL := I.below (p - 1) oc (by omega) h1 h2
          have hne : p - 1 ≠ i := fun h => hn (h ▸ hL)
          have hbit : bit (M (p - 1)) i = false := by
            cases hb : bit (M (p - 1)) i with
            | false => rfl
            | true => exact absurd (C.before' I.closed (by have := I.le; omega) hL hb) hn
          exact again (p - 1) oc h1 h2 (.inl ⟨by omega, hbit⟩) p (Nat.le_refl _) I.le (fun j oj q1 q2 => by omega) (by rw [if_pos (by omega), show p - 1 + 1 = p by omega])
        · have find : ∀ m, p + m ≤ i → ∃ q, p ≤ q ∧ q ≤ p + m ∧ Calm P N ops p q ∧ (q = p + m ∨ ∃ o, ops[q]? = some o ∧ kindO (trOper P N ops o) = 3) := by
            intro m
            induction m with
            | zero => intro _; exact ⟨p, Nat.le_refl _, Nat.le_refl _, fun j oj q1 q2 => by omega, .inl rfl⟩
            | succ m ih =>
              intro h
              obtain ⟨q, q1, q2, q3, q4⟩ := ih (by omega)
              rcases q4 with rfl | q4
              · have ho : ops[p + m]? = some ops[p + m] := by simp [show p + m < ops.size by omega]
                by_cases hk3 : kindO (trOper P N ops ops[p + m]) = 3
                · exact ⟨p + m, q1, by omega, q3, .inr ⟨_, ho, hk3⟩⟩
                · refine ⟨p + m + 1, by omega, Nat.le_refl _, fun j oj a1 a2 a3 => ?_, .inl rfl⟩
                  by_cases hj : j = p + m
                  · subst hj; rw [ho] at a3; cases a3; exact hk3
                  · exact q3 j oj a1 (by omega) a3
              · exact ⟨q, q1, by omega, q3, .inr q4⟩
          have hpe : p + (i - p) = i := Nat.add_sub_cancel' hip
          obtain ⟨q, q1, q2, q3, q4⟩ := find (i - p) (Nat.le_of_eq hpe)
          rw [hpe] at q2 q4
          by_cases hqi : q = i
          · subst hqi
            refine quiet q (V q) q1 (by omega) q3 hH ?_ (.inr rfl)
            rw [e]
            rw [hH] at hr
            exact hr
          · obtain ⟨oc, h1, h2⟩ := q4.resolve_left hqi
            have hbit : bit (M i) q = false := by
              cases hb : bit (M i) q with
              | false => rfl
              | true => exact absurd (C.before I.closed hi hb hqi) (I.above q oc q1 h1 h2)
            exact again q oc h1 h2 (.inr ⟨by omega, hbit⟩) q q1 (by omega) q3 (by rw [if_neg (by omega)])
      · obtain ⟨d, g, op, e, hk'⟩ := plain_of hkk (by omega)
        have hr := hev (H i) |>.trans hrun
        rw [e] at hr
        obtain ⟨ob, hH, hown, hmk⟩ := make_spec hk' (lift_ok hr)
        have hF : oper call (trOper P N ops oi) t ⟨(H i).next, .leaf⟩ = .ok (V i) (Hp.new ⟨(H i).next, .leaf⟩ ob) := by
          rw [e]
          show lift d (dop op t _) = _
          rw [hmk]; rfl
        have hsim : Sim B μ ⟨(H i).next, .leaf⟩ w := ⟨I.lay.sim.base, fun b _ => PT.get_leaf b, fun b m o _ h => (by rw [show (⟨(H i).next, .leaf⟩ : Hp).m.get b = none from PT.get_leaf b] at h; cases h),
          fun b b' m m' o o' _ _ h => (by rw [show (⟨(H i).next, .leaf⟩ : Hp).m.get b = none from PT.get_leaf b] at h; cases h)⟩
        have hgap : Gap μ ⟨(H i).next, .leaf⟩ (Hp.new ⟨(H i).next, .leaf⟩ ob) := fun b h1 h2 => I.ids.no C hc hlt hn h1 (by rw [hH, Hp.next_new]; rw [Hp.next_new] at h2; exact h2)
        refine (oper_out hc (I.tr.or I.gl) hsim I.gl hF hgap).wp fun u w' ⟨ν, st, s, hv⟩ => ?_
        obtain ⟨hl, hout, hfr, hfresh⟩ := I.lay.make C hc I.ids I.le hoi hkk hn hH st s
        have hrange : (H i).next.toN < (H (i + 1)).next.toN := by rw [hH, Hp.next_new]; omega
        refine stay hk (.inr rfl) hv st.le (fun b q1 q2 q3 => ?_) hl ?_
        · by_cases hb : b = (H i).next
          · exact ⟨i, hlt, .inr rfl, by rw [hb]; exact Nat.le_refl _, by rw [hb]; exact hrange⟩
          · rw [hout b hb] at q3; exact (I.ids.with i) b q1 q2 q3
        · have A := I.step
          refine ⟨A.le.trans st.le, A.next, fun b hb => ?_, A.late, A.own, st.os.trans A.os, st.tape.trans A.tape, st.output.trans A.output, Nat.le_trans A.size st.size, fun r h1 h2 => ?_, fun b m h1 h2 => ?_, A.gap⟩
          · have hb' : b.toN < (H 0).next.toN ∨ (H ops.size).next.toN ≤ b.toN := hb
            rw [hout b (fun h => by rw [h] at hb'; omega)]; exact A.out b hb
          · rw [hfr r (Nat.lt_of_lt_of_le h1 A.size)]; exact A.frame r h1 h2
          · by_cases hb : b = (H i).next
            · subst hb
              exact .inl (Nat.le_trans A.size (hfresh m h2))
            · rw [hout b hb] at h2; exact A.fresh b m h1 h2
end
end Go.Dm

namespace Go.Dm

section
variable {P : Program} {B N : Nat} {call : Nat → List DV → Hp → RV} {ops : Array Oper} {M : Nat → Nat} {T : Nat → Tm} {H : Nat → Hp} {V : Nat → DV} {μ0 : Mu} {w0 : World}

def Lst (listed : Array Bool) (j : Nat) : Prop := listed.getD j false = true
theorem Inv.congr {L L' : Nat → Prop} {a : Act} {w : World} {p : Nat} {μ : Mu} {t : Tm} (h : ∀ j, j < ops.size → (L j ↔ L' j)) (hL : ∀ j, L' j → j < ops.size) (hL0 : ∀ j, L j → j < ops.size) (I : Inv P B N ops T H V μ0 w0 L a w p μ t) : Inv P B N ops T H V μ0 w0 L' a w p μ t := by
  have : L = L' := funext fun j => propext ⟨fun x => (h j (hL0 j x)).1 x, fun x => (h j (hL j x)).2 x⟩
  exact this ▸ I
theorem mem_edges {o : Oper} {e : Nat} : e ∈ edgesOf o ↔ ∃ x ∈ o.after, Region.binds .any x = true ∧ x.on = e := by
  unfold edgesOf
  simp only [List.mem_map, List.mem_filter, Array.mem_toList_iff]
  constructor
  · rintro ⟨x, ⟨h1, h2⟩, h3⟩; exact ⟨x, h1, h2, h3⟩
  · rintro ⟨x, h1, h2, h3⟩; exact ⟨x, ⟨h1, h2⟩, h3⟩
def todo (ops : Array Oper) (listed : Array Bool) : Nat := ((List.range ops.size).filter fun j => !listed.getD j false).length

theorem ready_iff {listed : Array Bool} (hs : listed.size = ops.size) {i : Nat} (h : i ∈ Region.ready .any ops listed) : Ready ops (Lst listed) i := by
  obtain ⟨h1, o, h2, h3⟩ := mem_ready.1 h
  have hlt := (Array.getElem?_eq_some_iff.1 h2).1
  refine ⟨fun h => ?_, o, h2, fun e he => ?_⟩
  · unfold Lst at h
    rw [Array.getD_eq_getD_getElem?, Array.getElem?_eq_getElem (by omega)] at h h1
    simp at h h1
    rw [h1] at h; cases h
  · obtain ⟨x, x1, x2, x3⟩ := mem_edges.1 he
    rw [← x3]; exact h3 x x1 x2
theorem none_ready (C : Ctx P N call ops M T H V) {listed : Array Bool} (hs : listed.size = ops.size) (h : Region.ready .any ops listed = []) : ∀ j, j < ops.size → Lst listed j := by
  intro j
  induction j using Nat.strongRecOn with
  | _ j ih =>
    intro hj
    cases hb : listed.getD j false with
    | true => exact hb
    | false =>
      exfalso
      have ho : ops[j]? = some ops[j] := by simp [hj]
      have : j ∈ Region.ready .any ops listed := by
        rw [mem_ready]
        refine ⟨?_, _, ho, fun e he hbd => ?_⟩
        · rw [Array.getD_eq_getD_getElem?, Array.getElem?_eq_getElem (by omega)] at hb ⊢
          simpa using hb
        · have h1 := mem_edges.2 ⟨e, he, hbd, rfl⟩
          have h2 := C.edge j _ ho _ h1
          exact ih _ h2 (by omega)
      rw [h] at this; cases this

theorem filter_le {f g : Nat → Bool} (h : ∀ j, g j = true → f j = true) : ∀ l : List Nat, (l.filter g).length ≤ (l.filter f).length
  | [] => Nat.le_refl _
  | x :: l => by
    have ih := filter_le h l
    cases hg : g x with
    | true => rw [List.filter_cons_of_pos hg, List.filter_cons_of_pos (h x hg)]; simpa using ih
    | false =>
      rw [List.filter_cons_of_neg (by simp [hg])]
      cases hf : f x with
      | true => rw [List.filter_cons_of_pos hf]; simp; omega
      | false => rw [List.filter_cons_of_neg (by simp [hf])]; exact ih
theorem filter_lt {f g : Nat → Bool} (h : ∀ j, g j = true → f j = true) {i : Nat} (hf : f i = true) (hg : g i = false) : ∀ l : List Nat, i ∈ l → (l.filter g).length + 1 ≤ (l.filter f).length
  | [], hi => by cases hi
  | x :: l, hi => by
    by_cases e : x = i
    · subst e
      rw [List.filter_cons_of_neg (by simp [hg]), List.filter_cons_of_pos hf]
      have := filter_le h l
      simp; omega
    · have ih := filter_lt h hf hg l (by rcases List.mem_cons.1 hi with h | h; exact absurd h.symm e; exact h)
      cases hgx : g x with
      | true => rw [List.filter_cons_of_pos hgx, List.filter_cons_of_pos (h x hgx)]; simp; omega
      | false =>
        rw [List.filter_cons_of_neg (by simp [hgx])]
        cases hfx : f x with
        | true => rw [List.filter_cons_of_pos hfx]; simp; omega
        | false => rw [List.filter_cons_of_neg (by simp [hfx])]; exact ih

theorem lst_set {listed : Array Bool} {i : Nat} (hi : i < listed.size) (j : Nat) : Lst (listed.setIfInBounds i true) j ↔ Lst listed j ∨ j = i := by
  unfold Lst
  by_cases e : j = i
  · subst e; simp [hi]
  · rw [getD_set_ne false (Ne.symm e)]; simp [e]

theorem any_sound (C : Ctx P N call ops M T H V) (hc : CallOK P B call) {Q : Exit → Act → World → Prop} (hQ : ∀ a w p μ t, Inv P B N ops T H V μ0 w0 (fun j => j < ops.size) a w p μ t → Q .normal a w) :
    ∀ (fuel : Nat) (listed : Array Bool) (a : Act) (w : World) (p : Nat) (μ : Mu) (t : Tm), listed.size = ops.size → todo ops listed ≤ fuel → Inv P B N ops T H V μ0 w0 (Lst listed) a w p μ t → wpAny P .any ops Q fuel listed a w := by
  have lt : ∀ {listed : Array Bool}, listed.size = ops.size → ∀ j, Lst listed j → j < ops.size := fun {listed} hs j h => by
    rcases Nat.lt_or_ge j ops.size with h' | h'
    · exact h'
    · unfold Lst at h; simp [Array.getElem?_eq_none (show listed.size ≤ j by omega)] at h
  have done : ∀ {listed : Array Bool} {a w p μ t}, listed.size = ops.size → Inv P B N ops T H V μ0 w0 (Lst listed) a w p μ t → Region.ready .any ops listed = [] → Q .normal a w := fun hs I h =>
    hQ _ _ _ _ _ (I.congr (fun j hj => ⟨fun _ => hj, fun _ => none_ready C hs h j hj⟩) (fun j h => h) (lt hs))
  intro fuel
  induction fuel with
  | zero =>
    intro listed a w p μ t hs hf I
    have hr : Region.ready .any ops listed = [] := by
      cases hr : Region.ready .any ops listed with
      | nil => rfl
      | cons i l =>
        exfalso
        have hi : Ready ops (Lst listed) i := ready_iff hs (by rw [hr]; simp)
        obtain ⟨hn, o, ho, _⟩ := hi
        have hlt := (Array.getElem?_eq_some_iff.1 ho).1
        have h0 : ((List.range ops.size).filter fun j => !listed.getD j false).length = 0 := Nat.le_zero.1 hf
        have : i ∈ ((List.range ops.size).filter fun j => !listed.getD j false) := by
          rw [List.mem_filter]
          refine ⟨List.mem_range.2 hlt, ?_⟩
          cases hb : listed.getD i false with
          | true => exact absurd hb hn
          | false => rfl
        rw [List.length_eq_zero_iff.1 h0] at this; cases this
    exact ⟨hr, done hs I hr⟩
  | succ fuel ih =>
    intro listed a w p μ t hs hf I
    refine ⟨done hs I, fun i hi => ?_⟩
    have hri := ready_iff hs hi
    have hlt : i < ops.size := by obtain ⟨_, o, ho, _⟩ := hri; exact (Array.getElem?_eq_some_iff.1 ho).1
    refine inv_step C hc I hri fun a' w' p' μ' t' I' => ih _ a' w' p' μ' t' (by simpa using hs) ?_ ?_
    · have : todo ops (listed.setIfInBounds i true) + 1 ≤ todo ops listed := by
        refine filter_lt (fun j hj => ?_) (i := i) ?_ ?_ _ (List.mem_range.2 hlt)
        · cases hb : listed.getD j false with
          | false => rfl
          | true =>
            have := (lst_set (listed := listed) (i := i) (by omega) j).2 (.inl hb)
            unfold Lst at this; rw [this] at hj; cases hj
        · cases hb : listed.getD i false with
          | false => rfl
          | true => exact absurd hb hri.1
        · have := (lst_set (listed := listed) (i := i) (by omega) i).2 (.inr rfl)
          unfold Lst at this; rw [this]; rfl
      omega
    · refine I'.congr (fun j hj => (lst_set (by omega) j).symm) (lt (by simpa using hs)) fun j hj => ?_
      rcases hj with h | rfl
      · exact lt hs j h
      · exact hlt
end
end Go.Dm

namespace Go.Dm

section
variable {P : Program} {B N : Nat} {call : Nat → List DV → Hp → RV}

theorem drawn_sound (hm : P.follows .mixedOrders = true) (hc : CallOK P B call) (n id : Nat) (ops : Array Oper) : SoundAs P B N (runL call n (trDrawn (ops.toList.map (trOper P N ops)) (ops.toList.map edgesOf))).1 ((Code.region id ops true).wp P) := by
  intro t h r k hr hk
  obtain ⟨M, T, H, V, C, rfl, rfl, rfl⟩ := drawn_ctx hr hk
  cases hk
  have hmono := C.next hc (i := 0) (j := ops.size) (Nat.zero_le _) (Nat.le_refl _)
  refine ⟨hmono, fun μ w a s hG gap ht => wp_region_any hm ?_⟩
  have hno : ∀ j, ¬ Lst (Array.replicate ops.size false) j := fun j h => by
    unfold Lst at h
    rw [Array.getD_eq_getD_getElem?] at h
    by_cases hj : j < ops.size
    · rw [Array.getElem?_eq_getElem (by simpa using hj)] at h; simp at h
    · rw [Array.getElem?_eq_none (by simp; omega)] at h; cases h
  refine any_sound (T := T) (V := V) (μ0 := μ) (w0 := w) (M := M) C hc (fun a' w' p ν t' I => ?_) ops.size _ a _ 0 μ (T 0) (by simp) ?_ ⟨Nat.zero_le _, fun i oi h => by omega, fun i oi _ _ _ => hno i, .inl rfl, fun i o _ h => absurd h (hno i), ⟨fun k o p _ h => absurd h (hno k), fun p _ => rfl⟩, ht, hG, fun b h1 h2 h3 => absurd (gap b h1 h2) h3,
    ⟨s.same rfl, fun i oi o h => by omega, fun i oi o m _ _ _ h => absurd h (hno i), fun i oi o m _ _ _ h => absurd h (hno i), fun i oi o m _ _ _ h => absurd h (hno i)⟩,
    ⟨.refl μ, hmono, fun _ _ => rfl, fun _ _ _ => rfl, fun b o' _ h => ⟨o', h, fun x => x⟩, rfl, rfl, rfl, Nat.le_refl _, fun _ _ _ => rfl, fun b m h0 h1 => by (rw [h0] at h1; cases h1), gap⟩⟩
  · have calm : Calm P N ops p ops.size := fun j oj h1 h2 h3 h4 => I.above j oj h1 h3 h4 h2
    have hl := I.lay.calm C hc I.ids I.le (Nat.le_refl _) calm
    have hst := I.step.calm (l := H ops.size) fun b hb => calm_get C hc hb I.le (Nat.le_refl _) calm
    refine ⟨T ops.size, H ops.size, ν, rfl, hst, hl.sim, ⟨I.tr.size, I.tr.defers, fun i hi => ?_⟩⟩
    have : t'.get (posOf i) = (T ops.size).get (posOf i) := by
      by_cases hw : ∃ (k : Nat) (o : Oper), ops[k]? = some o ∧ (trOper P N ops o).dst = some (posOf i)
      · obtain ⟨k, o, k1, k2⟩ := hw
        have klt := (Array.getElem?_eq_some_iff.1 k1).1
        rw [I.mid.done k o _ k1 klt k2, C.put k1 k2 (j := ops.size) (Nat.le_refl _) klt]
      · have hw : ∀ (k : Nat) (o : Oper), ops[k]? = some o → (trOper P N ops o).dst ≠ some (posOf i) := fun k o h1 h2 => hw ⟨k, o, h1, h2⟩
        rw [I.mid.else_ _ fun k o h1 _ => hw k o h1, C.left (j := ops.size) (Nat.le_refl _) fun k o _ h1 => hw k o h1]
    rw [← this]; exact I.tr.rel i hi
  · exact Nat.le_trans (List.length_filter_le _ _) (by simp)
theorem all_sound (hm : P.follows .mixedOrders = true) (n : Nat) (hp : PrimOK P B) (hng : ∀ fn ∈ P.funcs.toList, fn.name ≠ "runtime.NumGoroutine") (k : Nat) : CallOK P B (calls (fnsOf P) n k) :=
  calls_sound n (fun _call hc _N id ops => drawn_sound hm hc n id ops) hp hng k
end
end Go.Dm

namespace Go.Dm

section
variable {P : Program} {B : Nat}

theorem find_noEscape {fn : Func} (hn : fn.name = "internal/abi.NoEscape") (ho : fn.origin = "") : Extern.findNext fn = none ∧ Extern.find fn = some Extern.AbiNoEscape.same := by
  unfold Extern.findNext Extern.find
  rw [hn, ho]
  exact ⟨by rfl, by rfl⟩
theorem find_indexByte {fn : Func} (hn : fn.name = "internal/bytealg.IndexByteString") (ho : fn.origin = "") : Extern.findNext fn = none ∧ Extern.find fn = some Extern.BytealgIndexByte.indexByte := by
  unfold Extern.findNext Extern.find
  rw [hn, ho]
  exact ⟨by rfl, by rfl⟩
theorem find_count {fn : Func} (hn : fn.name = "internal/bytealg.CountString") (ho : fn.origin = "") : Extern.findNext fn = none ∧ Extern.find fn = some Extern.BytealgCount.count := by
  unfold Extern.findNext Extern.find
  rw [hn, ho]
  exact ⟨by rfl, by rfl⟩
theorem find_noZero {fn : Func} (hn : fn.name = "internal/bytealg.MakeNoZero") (ho : fn.origin = "") : Extern.findNext fn = none ∧ Extern.find fn = some (Extern.BytealgMakeNoZero.makeNoZero fn.params fn.resultTypes) := by
  unfold Extern.findNext Extern.find
  rw [hn, ho]
  exact ⟨by rfl, by rfl⟩
theorem run_row {f : Nat} {fn : Func} (hf : P.funcs[f]? = some fn) (hb : fn.body = none) (hng : fn.name ≠ "runtime.NumGoroutine") (h1 : Extern.findNext fn = none) {e : Array Value → Sem Value} (h2 : Extern.find fn = some e) {args : Array Value} {w w' : World} {u : Value} (hr : (e args).run P w = .ok u w') :
    (callFunc f args).run P w = .ok (.value u) w' := by
  rw [run_callFunc_extern hf (by simpa using hng) (by rw [hb]; rfl) h1 h2, hr]; rfl

theorem lr1 {μ : Mu} {x : DV} {vs : Array Value} (h : LR μ [x] vs.toList) : ∃ a, vs = #[a] ∧ VR μ x a := by
  obtain ⟨l⟩ := vs
  cases h with
  | cons hx ht => cases ht; exact ⟨_, rfl, hx⟩
theorem lr2 {μ : Mu} {x y : DV} {vs : Array Value} (h : LR μ [x, y] vs.toList) : ∃ a b, vs = #[a, b] ∧ VR μ x a ∧ VR μ y b := by
  obtain ⟨l⟩ := vs
  cases h with
  | cons hx ht => cases ht with
    | cons hy hz => cases hz; exact ⟨_, _, rfl, hx, hy⟩

theorem firstB_eq (c : UInt8) : ∀ (l : List UInt8) (f i : Nat), l.length < f → idx (firstB f l.length (enc l) c.toNat i) = .int .i64 (if Lib.indexByte l c = -1 then -1 else Lib.indexByte l c + i)
  | [], f + 1, i, _ => rfl
  | b :: l, f + 1, i, h => by
    have hb := b.toNat_lt
    have e : firstB (f + 1) (b :: l).length (enc (b :: l)) c.toNat i = Bool.rec (motive := fun _ => Option Nat) (firstB f l.length (enc (b :: l) / 256) c.toNat (i + 1)) (some i) (Nat.beq (enc (b :: l) % 256) c.toNat) := rfl
    rw [e, enc_cons, show (b.toNat + 256 * enc l) % 256 = b.toNat by omega, show (b.toNat + 256 * enc l) / 256 = enc l by omega]
    unfold Lib.indexByte
    by_cases hc : b = c
    · subst hc
      rw [show Nat.beq b.toNat b.toNat = true from Nat.beq_refl _]
      simp [idx]
    · have hne : Nat.beq b.toNat c.toNat = false := by
        cases hq : Nat.beq b.toNat c.toNat with
        | false => rfl
        | true => exact absurd (UInt8.toNat_inj.1 (Nat.eq_of_beq_eq_true hq)) hc
      rw [hne]
      have := firstB_eq c l f (i + 1) (by simp at h; omega)
      rw [this]
      have hbc : (b == c) = false := by simpa using hc
      have hge := Lib.indexByte_ge l c
      simp only [hbc, Bool.false_eq_true, if_false, beq_iff_eq]
      by_cases hm : Lib.indexByte l c = -1
      · simp [hm]
      · rw [if_neg hm, if_neg hm, if_neg (by omega)]
        congr 1
        push_cast
        omega
theorem countB_eq (c : UInt8) : ∀ l : List UInt8, countB l.length (enc l) c.toNat = Lib.countByte l c
  | [] => rfl
  | b :: l => by
    have hb := b.toNat_lt
    have e : countB (b :: l).length (enc (b :: l)) c.toNat = Bool.rec (motive := fun _ => Nat) (countB l.length (enc (b :: l) / 256) c.toNat) (countB l.length (enc (b :: l) / 256) c.toNat + 1) (Nat.beq (enc (b :: l) % 256) c.toNat) := rfl
    rw [e, enc_cons, show (b.toNat + 256 * enc l) % 256 = b.toNat by omega, show (b.toNat + 256 * enc l) / 256 = enc l by omega, countB_eq c l]
    unfold Lib.countByte
    rw [List.count_cons]
    by_cases hc : b = c
    · subst hc
      rw [show Nat.beq b.toNat b.toNat = true from Nat.beq_refl _]
      simp
    · have hne : Nat.beq b.toNat c.toNat = false := by
        cases hq : Nat.beq b.toNat c.toNat with
        | false => rfl
        | true => exact absurd (UInt8.toNat_inj.1 (Nat.eq_of_beq_eq_true hq)) hc
      rw [hne]
      have hbc : (b == c) = false := by simpa using hc
      simp [hbc]
theorem byte_of {c : Nat} (h : c < 256) : ((Int.ofNat c).toNat.toUInt8).toNat = c := by
  show (c.toUInt8).toNat = c
  simp [Nat.mod_eq_of_lt h]

theorem digits_one : ∀ (n t : Nat) (acc : Array Value), (∀ v ∈ acc.toList, v.oneCell' = true) → ∀ v ∈ (Extern.BytealgMakeNoZero.digits n t acc).toList, v.oneCell' = true
  | 0, _, _, h => h
  | n + 1, t, acc, h => by
    unfold Extern.BytealgMakeNoZero.digits
    refine digits_one n _ _ fun v hv => ?_
    rw [Array.toList_push, List.mem_append] at hv
    rcases hv with hv | hv
    · exact h v hv
    · rw [List.mem_singleton.1 hv]; rfl
theorem run_mnz (ps : Array TypeId) (t e : TypeId) (ht : P.underlying t = some (.slice e)) (n : Nat) (hn : n ≤ 281474976710656) (w : World) :
    ∃ cs : Array Value, (Extern.BytealgMakeNoZero.makeNoZero ps #[t] #[.int .i64 n]).run P w = .ok (.slice (some ⟨w.heap.size, 0, none⟩) n cs.size) (w.drew.drew.alloc (.cells cs e)) ∧ n ≤ cs.size ∧ ∀ v ∈ cs.toList, v.oneCell' = true := by
  refine ⟨Extern.BytealgMakeNoZero.digits (grownCap w n 0 e) ((Question.extern "internal/bytealg.MakeNoZero.bytes" 0).cut (w.tape (w.drawn + 1) (.extern "internal/bytealg.MakeNoZero.bytes" 0))) #[], ?_, ?_, digits_one _ _ _ (by simp)⟩
  · have h1 : ¬ (n : Int) < 0 := by omega
    have h2 : ¬ (281474976710656 : Int) < (n : Int) := by omega
    have m3 : ∀ (f : Int → Sem Value) (g : Array Value → Sem Value) i, Extern.BytealgMakeNoZero.makeNoZero.match_3 (fun _ => Sem Value) #[.int .i64 i] f g = f i := fun _ _ _ => rfl
    have m2 : ∀ (f : TypeId → Sem Value) (g : Option TypeId → Sem Value), Extern.BytealgMakeNoZero.makeNoZero.match_2 (fun _ => Sem Value) #[t][0]? f g = f t := fun _ _ => rfl
    unfold Extern.BytealgMakeNoZero.makeNoZero
    rw [m3, m2]
    simp [run_underlying ht, h1, h2, Question.forced, Go.newRow, Lib.size_digits, grownCap]
  · rw [Lib.size_digits]
    simpa using grownCap_ge w n 0 e

theorem prim_ok : PrimOK P B := by
  intro f fn p hf hb hp args h v h' hr
  unfold primOf at hp
  split at hp
  · cases hp
  rename_i ho
  have ho : fn.origin = "" := by simpa using ho
  split at hp
  · rename_i hn; cases hp
    unfold prim at hr
    simp only at hr
    split at hr
    · rename_i x
      cases hr
      refine ⟨Nat.le_refl _, fun μ w vargs s _ _ hl => ?_⟩
      obtain ⟨a, rfl, ha⟩ := lr1 hl
      obtain ⟨q1, q2⟩ := find_noEscape hn ho
      exact (does_pure s (run_row hf hb (by rw [hn]; decide) q1 q2 (u := a) (w' := w) rfl) ha).out
    · cases hr
  split at hp
  · rename_i hn; cases hp
    unfold prim at hr
    simp only at hr
    split at hr
    · rename_i n x c
      cases hc : Nat.blt c 256 with
      | false => rw [hc] at hr; cases hr
      | true =>
        rw [hc] at hr; cases hr
        have hc := blt hc
        refine ⟨Nat.le_refl _, fun μ w vargs s _ _ hl => ?_⟩
        obtain ⟨a, b, rfl, ha, hb'⟩ := lr2 hl
        obtain ⟨q1, q2⟩ := find_indexByte hn ho
        obtain ⟨s', rfl, rfl, rfl⟩ := ha.inv_str
        rw [hb'.inv_int]
        refine (does_pure s (run_row hf hb (by rw [hn]; decide) q1 q2 (Lib.run_indexByteString s' _ w)) ?_).out
        have := firstB_eq (Int.ofNat c).toNat.toUInt8 s'.data.toList (s'.data.toList.length + 1) 0 (by omega)
        rw [byte_of hc] at this
        rw [this]
        have e : ∀ z : Int, (if z = -1 then (-1 : Int) else z + (0 : Nat)) = z := fun z => by split <;> simp_all
        rw [e]
        exact .int _ _
    · cases hr
  split at hp
  · rename_i hn; cases hp
    unfold prim at hr
    simp only at hr
    split at hr
    · rename_i n x c
      cases hc : Nat.blt c 256 with
      | false => rw [hc] at hr; cases hr
      | true =>
        rw [hc] at hr; cases hr
        have hc := blt hc
        refine ⟨Nat.le_refl _, fun μ w vargs s _ _ hl => ?_⟩
        obtain ⟨a, b, rfl, ha, hb'⟩ := lr2 hl
        obtain ⟨q1, q2⟩ := find_count hn ho
        obtain ⟨s', rfl, rfl, rfl⟩ := ha.inv_str
        rw [hb'.inv_int]
        refine (does_pure s (run_row hf hb (by rw [hn]; decide) q1 q2 (Lib.run_countString s' _ w)) ?_).out
        have := countB_eq (Int.ofNat c).toNat.toUInt8 s'.data.toList
        rw [byte_of hc] at this
        rw [this]
        exact .int _ _
    · cases hr
  split at hp
  · cases hp
    unfold prim at hr
    cases hr
  split at hp
  · rename_i hn
    split at hp
    · rename_i t ht
      split at hp
      · rename_i e he
        cases hp
        unfold prim at hr
        simp only at hr
        split at hr
        · rename_i n
          cases hc : big n with
          | false => rw [hc] at hr; cases hr
          | true =>
            rw [hc] at hr; cases hr
            have hc := big_le hc
            refine ⟨by rw [Hp.next_new]; omega, fun μ w vargs s _ gap hl => ?_⟩
            obtain ⟨a, rfl, ha⟩ := lr1 hl
            obtain ⟨q1, q2⟩ := find_noZero hn ho
            have hu := under_some he (by simp)
            obtain ⟨cs, h1, h2, h3⟩ := run_mnz fn.params t e hu n (by omega) w
            have ht' : fn.resultTypes = #[t] := arr1 ht
            rw [ha.inv_int]
            have hf' : μ h.next = none := gap h.next (Nat.le_refl _) (by rw [Hp.next_new]; omega)
            obtain ⟨ns, nst⟩ := new_block' s hf' (.cells e 0 n .free .leaf) 0 cs.size (u := w.drew.drew.alloc (.cells cs e)) rfl rfl rfl (by show (w.heap.push _).size = _; simp)
              (fun r hr => heap_alloc_old w _ hr)
              ⟨rfl, Nat.zero_le _, hc, by simp; omega, cs, (0, 0), heap_alloc_new w _, rfl, fun d _ _ => by rw [show at_ .leaf d = .undef by unfold at_; rw [nget_leaf]; rfl]; exact .undef _, h3, fun _ => ⟨s.base, fun _ => rfl⟩, rfl⟩
            refine Does.out ⟨_, _, _, .inl (run_row hf hb (by rw [hn]; decide) q1 q2 (by rw [ht']; exact h1)), nst, ns, ?_⟩
            exact .slice (.inr ⟨_, Mu.set_same _ _ _, rfl, by simp, by simp⟩) h2 h2 (by simp)
        · cases hr
      · cases hp
    · cases hp
  · cases hp
theorem all_ok (hm : P.follows .mixedOrders = true) (n : Nat) (hng : ∀ fn ∈ P.funcs.toList, fn.name ≠ "runtime.NumGoroutine") (k : Nat) : CallOK P B (calls (fnsOf P) n k) :=
  all_sound hm n prim_ok hng k
end
end Go.Dm
