/- An interpreter of the model's code, deterministic, and its soundness, part 8: Frames; operations in a row; calls. Operations one behind the other; control. Loops, jumps, whole codes; calls so many deep. Calls, so many deep. What an operation looks at decides what it does; rows of operations with their states; what the checks of a drawn region say. No condition. -/
import Derived.Test.YtlgfdnaddchlhaaGreatDoorDm7
import Derived.Scope
import Derived.Orders
namespace Go.Dm

/-! ### what a step comes to, calls and all -/
def Goes (P : Program) (s : Sem Next) (w : World) (Φ : Value → World → Prop) : Prop :=
  match s.run P w with
  | .ok (.value u) w' => Φ u w'
  | .ok .skip w' => Φ Go.undef w'
  | .ok (.enter f args) w' => Calls P f args w' fun e w'' => ∃ u, e = .returned u ∧ Φ u w''
  | _ => False
def Out (P : Program) (B : Nat) (μ : Mu) (h : Hp) (w : World) (s : Sem Next) (v : DV) (h' : Hp) : Prop :=
  Goes P s w fun u w' => ∃ ν, Step μ h w ν h' w' ∧ Sim B ν h' w' ∧ VR ν v u
theorem Goes.mono {P : Program} {s : Sem Next} {w : World} {Φ Ψ : Value → World → Prop} (h : Goes P s w Φ) (hm : ∀ u w', Φ u w' → Ψ u w') : Goes P s w Ψ := by
  unfold Goes at *
  split at h
  · exact hm _ _ h
  · exact hm _ _ h
  · exact h.mono fun e w'' ⟨u, he, hu⟩ => ⟨u, he, hm _ _ hu⟩
  · cases h
theorem Goes.wp {P : Program} {o : Oper} {a : Act} {w : World} {Φ : Value → World → Prop} {K : Act → World → Prop} {Q : Exit → Act → World → Prop} (h : Goes P (execOp a.eval o) w Φ) (hk : ∀ u w', Φ u w' → K (a.put o.dst u) w') : o.wp P a w K Q := by
  unfold Goes at h
  unfold Oper.wp
  split at h
  · rename_i u w' hr; rw [hr]; exact hk _ _ h
  · rename_i w' hr; rw [hr]; exact hk _ _ h
  · rename_i f args w' hr; rw [hr]
    exact h.mono fun e w'' ⟨u, he, hu⟩ => by subst he; exact hk _ _ hu
  · cases h
theorem Does.out {P : Program} {B : Nat} {μ : Mu} {h h' : Hp} {w : World} {s : Sem Next} {v : DV} (hd : Does P B μ h w s v h') : Out P B μ h w s v h' := by
  obtain ⟨u, w', ν, hr, r⟩ := hd
  unfold Out Goes
  rcases hr with hr | ⟨hr, rfl⟩ <;> rw [hr] <;> exact ⟨ν, r⟩

/-! ### temporaries -/
def GL (μ : Mu) : Prop := ∀ g, g < 65536 → ∃ K, μ (posOf g) = some ⟨g, 0, 0, K⟩
theorem GL.mono {μ ν : Mu} (h : GL μ) (hl : μ.le ν) : GL ν := fun g hg => let ⟨K, e⟩ := h g hg; ⟨K, hl _ _ e⟩
structure TR (N : Nat) (μ : Mu) (t : Tm) (a : Act) : Prop where
  size : N ≤ a.tmps.size
  defers : a.defers = []
  rel : ∀ i, i < 65536 → VR μ ((t.get (posOf i)).getD .undef) (a.tmps.getD i Go.undef)
theorem TR.mono {N : Nat} {μ ν : Mu} {t : Tm} {a : Act} (h : TR N μ t a) (hl : μ.le ν) : TR N ν t a := ⟨h.size, h.defers, fun i hi => (h.rel i hi).mono hl⟩
theorem trP_some {n : Nat} {p : Pos} (h : trP n = some p) : n < 65536 ∧ p = posOf n := by
  unfold trP at h
  obtain ⟨hb, e⟩ := brec_some h
  exact ⟨blt hb, e.symm⟩
theorem TR.or {N : Nat} {μ : Mu} {t : Tm} {a : Act} (h : TR N μ t a) (hG : GL μ) : OR μ t a.eval := ⟨fun x => by
  cases x with
  | tmp i =>
    show VR μ (ev t (match trP i with | some p => .tmp p | none => .con .undef)) _
    split
    · rename_i p hp
      obtain ⟨h1, rfl⟩ := trP_some hp
      exact h.rel i h1
    · exact .undef _
  | const v => exact VR_trV μ v
  | global g =>
    show VR μ (ev t (match trP g with | some p => .con (.ptr p 0) | none => .con .undef)) _
    split
    · rename_i p hp
      obtain ⟨h1, rfl⟩ := trP_some hp
      obtain ⟨K, hK⟩ := hG g h1
      exact .ptr ⟨_, hK, rfl, rfl⟩
    · exact .undef _
  | func f => exact .func .nil .nil⟩
theorem dstOk_some {N d : Nat} (h : dstOk N (some d) = true) : d < N ∧ d < 65535 := ⟨blt (and_t h).1, blt (and_t h).2⟩
theorem TR.put {N : Nat} {μ : Mu} {t : Tm} {a : Act} (h : TR N μ t a) {d : Option Nat} (hd : dstOk N d = true) {v : DV} {u : Value} (hv : VR μ v u) : TR N μ (setD (d.map posOf) v t) (a.put d u) := by
  cases d with
  | none => exact h
  | some d =>
    obtain ⟨h1, h2⟩ := dstOk_some hd
    refine ⟨by show N ≤ (a.tmps.setIfInBounds d u).size; simpa using h.size, h.defers, fun i hi => ?_⟩
    show VR μ (((t.put (posOf d) (some v)).get (posOf i)).getD .undef) ((a.tmps.setIfInBounds d u).getD i Go.undef)
    have hs := h.size
    by_cases e : i = d
    · subst e
      rw [PT.get_put_same]
      have : (a.tmps.setIfInBounds i u).getD i Go.undef = u := by
        rw [Array.getD_eq_getD_getElem?, Array.getElem?_setIfInBounds_self_of_lt (by omega)]; rfl
      rw [this]; exact hv
    · rw [PT.get_put_ne _ _ _ _ (fun hp => e (posOf_inj (by omega) (by omega) hp).symm)]
      have : (a.tmps.setIfInBounds d u).getD i Go.undef = a.tmps.getD i Go.undef := by
        rw [Array.getD_eq_getD_getElem?, Array.getElem?_setIfInBounds_ne (Ne.symm e), ← Array.getD_eq_getD_getElem?]
      rw [this]; exact h.rel i hi
theorem getD_of_some {α : Type} {x : Option α} {d v : α} (h : x = some v) : x.getD d = v := by rw [h]; rfl
theorem wanted_spec {N : Nat} {μ : Mu} {t : Tm} {a : Act} {ops : Array Oper} {o : Oper} (h : TR N μ t a) (hg : guardOk ops o.guard = true) {b : Bool} (hw : wanted (trGuard ops o.guard) t = some b) : Region.wanted o (yielded ops a.tmps) = b := by
  unfold Region.wanted
  cases hgd : o.guard with
  | none => rw [hgd] at hw; cases hw; rfl
  | some jw =>
    obtain ⟨j, w⟩ := jw
    rw [hgd] at hw hg
    change (match (ops[j]?).bind (·.dst) with | some d => Nat.blt d 65535 | none => false) = true at hg
    change wanted (match (ops[j]?).bind (·.dst) with | some d => some (posOf d, w) | none => some (posOf 65535, w)) t = some b at hw
    show (yielded ops a.tmps j == some w) = b
    unfold yielded
    cases hd : (ops[j]?).bind (·.dst) with
    | none => rw [hd] at hg; cases hg
    | some d =>
      rw [hd] at hg hw
      have hlt := blt hg
      have hr := h.rel d (by omega)
      change (match t.get (posOf d) with | some (.bool b) => some (b.rec (not w) w : Bool) | some (.tup _) => some false | _ => none) = some b at hw
      have hget : a.tmps.getD d Go.undef = (a.tmps[d]?).getD Go.undef := Array.getD_eq_getD_getElem? ..
      rw [hget] at hr
      split at hw
      · rename_i c hc
        rw [hc] at hr
        have hv := VR.inv_bool (b := c) hr
        cases hw
        cases ht : a.tmps[d]? with
        | none => rw [ht] at hv; cases hv
        | some u =>
          rw [ht] at hv
          have hv : u = .bool c := hv
          subst hv
          simp only [Option.bind_some, ht]
          cases c <;> cases w <;> rfl
      · rename_i l hc
        rw [hc] at hr
        obtain ⟨vs, hv, _⟩ := VR.inv_tup (l := l) hr
        cases hw
        cases ht : a.tmps[d]? with
        | none => simp [ht]
        | some u =>
          rw [ht] at hv
          have hv : u = .tuple vs := hv
          subst hv
          simp [ht]
      · cases hw

/-! ### calls -/
def CallOK (P : Program) (B : Nat) (call : Nat → List DV → Hp → RV) : Prop := ∀ f args h v h', call f args h = .ok v h' →
  h.next.toN ≤ h'.next.toN ∧ ∀ μ w (vargs : Array Value), Sim B μ h w → GL μ → Gap μ h h' → LR μ args vargs.toList → Out P B μ h w (callFunc f vargs) v h'

section
variable {P : Program} {B N : Nat} {μ : Mu} {h h' : Hp} {w : World} {t : Tm} {ρ : Operand → Value} {v : DV} {o : Oper} {ops : Array Oper} {call : Nat → List DV → Hp → RV}

theorem lift_ok {d : Option Pos} {r : Option (DV × Hp)} (h0 : lift d r = .ok v h') : r = some (v, h') := by
  cases r with
  | none => cases h0
  | some p => cases h0; rfl
theorem trOper_spec {P : Program} {N : Nat} {ops : Array Oper} {o : Oper} (hd : (and (dstOk N o.dst) (guardOk ops o.guard)) = true) : trOper P N ops o = (match o.op with
    | .call c => match c.callee with
      | .value (.func f) => .callF (o.dst.map posOf) (trGuard ops o.guard) f (c.args.toList.map trX)
      | .value (.tmp t) => .callV (o.dst.map posOf) (trGuard ops o.guard) (trX (.tmp t)) (c.args.toList.map trX)
      | .builtin b => .plain (o.dst.map posOf) (trGuard ops o.guard) (trBuiltin P b c.argTypes.toList c.args.toList)
      | _ => .plain none none .stop
    | op => .plain (o.dst.map posOf) (trGuard ops o.guard) (trOp P op)) := by
  unfold trOper; rw [hd]; rfl
theorem trOper_no {P : Program} {N : Nat} {ops : Array Oper} {o : Oper} (hd : (and (dstOk N o.dst) (guardOk ops o.guard)) = false) : trOper P N ops o = .plain none none .stop := by
  unfold trOper; rw [hd]

theorem oper_cases (hw : oper call (trOper P N ops o) t h = .ok v h') : (and (dstOk N o.dst) (guardOk ops o.guard)) = true ∧ (trOper P N ops o).dst = o.dst.map posOf ∧ (trOper P N ops o).guard = trGuard ops o.guard ∧
    ((∃ op, trOper P N ops o = .plain (o.dst.map posOf) (trGuard ops o.guard) op ∧ dop op t h = some (v, h') ∧ ((op = trOp P o.op) ∨ ∃ c b, o.op = .call c ∧ c.callee = .builtin b ∧ op = trBuiltin P b c.argTypes.toList c.args.toList)) ∨
     (∃ c f, o.op = .call c ∧ c.callee = .value (.func f) ∧ call f (evs t (c.args.toList.map trX)) h = .ok v h' ∧ trOper P N ops o = .callF (o.dst.map posOf) (trGuard ops o.guard) f (c.args.toList.map trX)) ∨
     (∃ c i f first cap, o.op = .call c ∧ c.callee = .value (.tmp i) ∧ ev t (trX (.tmp i)) = .func f first cap ∧ call f (app first (app (evs t (c.args.toList.map trX)) cap)) h = .ok v h' ∧ trOper P N ops o = .callV (o.dst.map posOf) (trGuard ops o.guard) (trX (.tmp i)) (c.args.toList.map trX))) := by
  cases hd : (and (dstOk N o.dst) (guardOk ops o.guard)) with
  | false => rw [trOper_no hd] at hw; cases hw
  | true =>
    refine ⟨rfl, ?_⟩
    have e := trOper_spec (P := P) hd
    rw [e] at hw ⊢
    split at hw
    · rename_i c hop
      split at hw
      · rename_i f hcal
        exact ⟨rfl, rfl, .inr (.inl ⟨c, f, hop, hcal, hw, rfl⟩)⟩
      · rename_i i hcal
        change vcall call (o.dst.map posOf) (evs t (c.args.toList.map trX)) h (ev t (trX (.tmp i))) = _ at hw
        unfold vcall at hw
        split at hw
        · rename_i f first cap he
          exact ⟨rfl, rfl, .inr (.inr ⟨c, i, f, first, cap, hop, hcal, he, hw, rfl⟩)⟩
        · cases hw
      · rename_i b hcal
        exact ⟨rfl, rfl, .inl ⟨_, rfl, lift_ok hw, .inr ⟨c, b, hop, hcal, rfl⟩⟩⟩
      · cases hw
    · rename_i op hne
      refine ⟨rfl, rfl, .inl ⟨_, rfl, lift_ok hw, .inl rfl⟩⟩

theorem oper_next (hc : CallOK P B call) (hw : oper call (trOper P N ops o) t h = .ok v h') : h.next.toN ≤ h'.next.toN := by
  obtain ⟨_, _, _, hcs⟩ := oper_cases hw
  rcases hcs with ⟨op, _, hd, _⟩ | ⟨c, f, _, _, hcl, _⟩ | ⟨c, i, f, first, cap, _, _, _, hcl, _⟩
  · exact dop_next hd
  · exact (hc _ _ _ _ _ hcl).1
  · exact (hc _ _ _ _ _ hcl).1

theorem oper_out {a : Act} (hc : CallOK P B call) (hO : OR μ t a.eval) (s : Sim B μ h w) (hG : GL μ) (hw : oper call (trOper P N ops o) t h = .ok v h') (gap : Gap μ h h') : Out P B μ h w (execOp a.eval o) v h' := by
  obtain ⟨_, _, _, hcs⟩ := oper_cases hw
  have args : ∀ l : Array Operand, LR μ (evs t (l.toList.map trX)) (l.map a.eval).toList := fun l => by
    rw [Array.toList_map]; exact evs_rel hO l.toList
  rcases hcs with ⟨op, _, hd, hop | ⟨c, b, hcall, hcal, hop⟩⟩ | ⟨c, f, hcall, hcal, hcl, _⟩ | ⟨c, i, f, first, cap, hcall, hcal, he, hcl, _⟩
  · subst hop; exact (op_sound hO s hd gap).out
  · subst hop; exact (builtin_sound hO s hcall hcal hd gap).out
  · have e : ∀ w, (execOp a.eval o).run P w = (callFunc f (c.args.map a.eval)).run P w := fun w => by
      simp [execOp, hcall, resolve, hcal, Deferred.ofValue, invoke, show a.eval (.func f) = .func (.func f) #[] #[] from rfl]
    have := (hc _ _ _ _ _ hcl).2 μ w _ s hG gap (args c.args)
    unfold Out Goes at *
    rw [e]; exact this
  · have hf := hO.rel (.tmp i)
    rw [he] at hf
    obtain ⟨vl, vc, hv, hl, hcp⟩ := hf.inv_func
    have e : ∀ w, (execOp a.eval o).run P w = (callFunc f (vl ++ c.args.map a.eval ++ vc)).run P w := fun w => by
      simp [execOp, hcall, resolve, hcal, Deferred.ofValue, invoke, hv]
    rw [app_eq, app_eq] at hcl
    have := (hc _ _ _ _ _ hcl).2 μ w (vl ++ c.args.map a.eval ++ vc) s hG gap (by
      simp only [Array.toList_append, List.append_assoc]
      exact hl.append ((args c.args).append hcp))
    unfold Out Goes at *
    rw [e]; exact this
end
end Go.Dm

namespace Go.Dm

theorem Gap.left {μ : Mu} {h k l : Hp} (g : Gap μ h l) (hl : k.next.toN ≤ l.next.toN) : Gap μ h k := fun b h1 h2 => g b h1 (by omega)
theorem Gap.right {μ ν : Mu} {h k l : Hp} {w u : World} (g : Gap μ h l) (s : Step μ h w ν k u) : Gap ν k l := fun b h1 h2 => by
  have := s.next
  rw [s.out b (.inr h1)]; exact g b (by omega) h2

section
variable {P : Program} {B N : Nat} {call : Nat → List DV → Hp → RV} {ops : Array Oper}

def R.hp (r : R) : Option Hp := match r with | .norm _ h => some h | .exit _ _ h => some h | .ret _ h => some h | .goto _ _ h => some h | .bad _ => none

theorem opers_cons (o : DOper) (l : List DOper) (t : Tm) (h : Hp) : opers call (o :: l) t h =
    (wanted o.guard t).rec (.bad [7777, posN o.dst]) (fun w => w.rec (opers call l (setD o.dst (.tup []) t) h) (after (opers call l) o.dst t (oper call o t h))) := rfl

/-- one operation of a row: it is wanted, and comes to something; or it is not -/
theorem opers_step {o : Oper} {l : List DOper} {t : Tm} {h : Hp} {r : R} {k : Hp} (hr : opers call (trOper P N ops o :: l) t h = r) (hk : r.hp = some k) :
    (and (dstOk N o.dst) (guardOk ops o.guard)) = true ∧
    ((wanted (trGuard ops o.guard) t = some false ∧ opers call l (setD (o.dst.map posOf) (.tup []) t) h = r) ∨
     (wanted (trGuard ops o.guard) t = some true ∧ ∃ v h1, oper call (trOper P N ops o) t h = .ok v h1 ∧ opers call l (setD (o.dst.map posOf) v t) h1 = r)) := by
  rw [opers_cons] at hr
  cases hd : (and (dstOk N o.dst) (guardOk ops o.guard)) with
  | false =>
    rw [trOper_no hd] at hr
    subst hr
    cases hk
  | true =>
    refine ⟨rfl, ?_⟩
    have e := trOper_spec (P := P) hd
    have hdst : (trOper P N ops o).dst = o.dst.map posOf ∨ trOper P N ops o = .plain none none .stop := by
      rw [e]; split
      · split <;> first | exact .inl rfl | exact .inr rfl
      · exact .inl rfl
    have hgd : (trOper P N ops o).guard = trGuard ops o.guard ∨ trOper P N ops o = .plain none none .stop := by
      rw [e]; split
      · split <;> first | exact .inl rfl | exact .inr rfl
      · exact .inl rfl
    by_cases hs : trOper P N ops o = .plain none none .stop
    · rw [hs] at hr; subst hr; cases hk
    · have hdst := hdst.resolve_right hs
      have hgd := hgd.resolve_right hs
      rw [hdst, hgd] at hr
      cases hw : wanted (trGuard ops o.guard) t with
      | none => rw [hw] at hr; subst hr; cases hk
      | some b =>
        rw [hw] at hr
        cases b with
        | false => exact .inl ⟨rfl, hr⟩
        | true =>
          refine .inr ⟨rfl, ?_⟩
          change after (opers call l) (o.dst.map posOf) t (oper call (trOper P N ops o) t h) = r at hr
          cases hop : oper call (trOper P N ops o) t h with
          | bad w => rw [hop] at hr; subst hr; cases hk
          | ok v h1 => rw [hop] at hr; exact ⟨v, h1, rfl, hr⟩

theorem opers_shape (hc : CallOK P B call) : ∀ (l : List Oper) {t : Tm} {h : Hp} {r : R} {k : Hp}, opers call (l.map (trOper P N ops)) t h = r → r.hp = some k → h.next.toN ≤ k.next.toN ∧ ∃ t', r = .norm t' k
  | [], t, h, r, k, hr, hk => by
    cases hr; cases hk; exact ⟨Nat.le_refl _, _, rfl⟩
  | o :: l, t, h, r, k, hr, hk => by
    rcases (opers_step hr hk).2 with ⟨_, h1⟩ | ⟨_, v, h1, ho, h2⟩
    · exact opers_shape hc l h1 hk
    · have a := oper_next hc ho
      have b := opers_shape hc l h2 hk
      exact ⟨by omega, b.2⟩

theorem opers_sound (hc : CallOK P B call) {Q : Exit → Act → World → Prop} : ∀ (l : List Oper) (i : Nat), (∀ j, l[j]? = ops[i + j]?) → ∀ {t t' : Tm} {h k : Hp} {μ : Mu} {w : World} {a : Act},
    opers call (l.map (trOper P N ops)) t h = .norm t' k → TR N μ t a → Sim B μ h w → GL μ → Gap μ h k →
    (∀ ν a' w', Step μ h w ν k w' → Sim B ν k w' → TR N ν t' a' → Q .normal a' w') → wpOps P ops Q (List.range' i l.length) a w
  | [], i, hl, t, t', h, k, μ, w, a, hr, ht, s, hG, gap, hQ => by
    cases hr
    exact hQ μ a w (.refl _ _ _) s ht
  | o :: l, i, hl, t, t', h, k, μ, w, a, hr, ht, s, hG, gap, hQ => by
    have h0 : ops[i]? = some o := by simpa using (hl 0).symm
    have hl' : ∀ j, l[j]? = ops[i + 1 + j]? := fun j => by have := hl (j + 1); simpa [Nat.add_assoc, Nat.add_comm 1 j] using this
    obtain ⟨hdg, hst⟩ := opers_step hr rfl
    obtain ⟨hd, hg⟩ := and_t hdg
    rw [List.length_cons, List.range'_succ, wpOps_cons]
    unfold wpOp
    simp only [h0]
    rcases hst with ⟨hw, h1⟩ | ⟨hw, v, h1, ho, h2⟩
    · rw [wanted_spec ht hg hw]
      simp only [Bool.false_eq_true, if_false]
      exact opers_sound hc l (i + 1) hl' h1 (ht.put hd (.tup .nil)) s hG gap hQ
    · rw [wanted_spec ht hg hw]
      simp only [if_true]
      left
      have n1 := oper_next hc ho
      have n2 := (opers_shape hc l h2 rfl).1
      refine (oper_out hc (ht.or hG) s hG ho (gap.left n2)).wp fun u w' ⟨ν, hst, hs, hv⟩ => ?_
      exact opers_sound hc l (i + 1) hl' h2 ((ht.mono hst.le).put hd hv) hs (hG.mono hst.le) (gap.right hst) fun ν' a' w'' q1 q2 q3 => hQ ν' a' w'' (hst.trans hs.top q1) q2 q3

/-! ### control -/
def toR : Exit → Tm → Hp → Option R
  | .normal, t, h => some (.norm t h)
  | .exit i, t, h => some (.exit i t h)
  | .ret, t, h => some (.ret t h)
  | .goto l, t, h => some (.goto l t h)
  | _, _, _ => none
def Post (B N : Nat) (μ : Mu) (h : Hp) (w : World) (r : R) (e : Exit) (a : Act) (w' : World) : Prop := ∃ t k ν, toR e t k = some r ∧ Step μ h w ν k w' ∧ Sim B ν k w' ∧ TR N ν t a
theorem Post.trans {μ ν : Mu} {h k : Hp} {w u : World} {r : R} {e : Exit} {a : Act} {w' : World} (st : Step μ h w ν k u) (s : Sim B ν k u) (p : Post B N ν k u r e a w') : Post B N μ h w r e a w' :=
  let ⟨t, k', ν', h1, h2, h3, h4⟩ := p
  ⟨t, k', ν', h1, st.trans s.top h2, h3, h4⟩
def SoundAs (_P : Program) (B N : Nat) (g : Tm → Hp → R) (W : (Exit → Act → World → Prop) → Act → World → Prop) : Prop := ∀ t h r k, g t h = r → r.hp = some k →
  h.next.toN ≤ k.next.toN ∧ ∀ μ w a, Sim B μ h w → GL μ → Gap μ h k → TR N μ t a → W (Post B N μ h w r) a w

theorem SoundAs.bad {g : Tm → Hp → R} {W : (Exit → Act → World → Prop) → Act → World → Prop} {x : Tm → Hp → List Nat} (hg : ∀ t h, g t h = .bad (x t h)) : SoundAs P B N g W := fun t h r k hr hk => by
  rw [hg] at hr; subst hr; cases hk

theorem seq_sound {ga gb : Tm → Hp → R} {x y : Code} (ha : SoundAs P B N ga (x.wp P)) (hb : SoundAs P B N gb (y.wp P)) : SoundAs P B N (fun t h => thenN gb (ga t h)) ((Code.seq x y).wp P) := by
  intro t h r k hr hk
  have hr : thenN gb (ga t h) = r := hr
  cases hga : ga t h with
  | norm t1 h1 =>
    rw [hga] at hr
    obtain ⟨n1, c1⟩ := ha t h _ _ hga rfl
    obtain ⟨n2, c2⟩ := hb t1 h1 r k hr hk
    refine ⟨by omega, fun μ w a s hG gap ht => wp_seq (wp_mono (c1 μ w a s hG (gap.left n2) ht) fun e a1 w1 hp => ?_)⟩
    obtain ⟨t', k', ν, hR, st, s1, ht1⟩ := hp
    cases e <;> cases hR
    exact wp_mono (c2 ν w1 a1 s1 (hG.mono st.le) (gap.right st) ht1) fun e a2 w2 hp => hp.trans st s1
  | bad z => rw [hga] at hr; subst hr; cases hk
  | exit i t1 h1 =>
    rw [hga] at hr; subst hr; cases hk
    obtain ⟨n1, c1⟩ := ha t h _ _ hga rfl
    refine ⟨n1, fun μ w a s hG gap ht => wp_seq (wp_mono (c1 μ w a s hG gap ht) fun e a1 w1 hp => ?_)⟩
    obtain ⟨t', k', ν, hR, st, s1, ht1⟩ := hp
    cases e <;> cases hR
    exact ⟨_, _, ν, rfl, st, s1, ht1⟩
  | ret t1 h1 =>
    rw [hga] at hr; subst hr; cases hk
    obtain ⟨n1, c1⟩ := ha t h _ _ hga rfl
    refine ⟨n1, fun μ w a s hG gap ht => wp_seq (wp_mono (c1 μ w a s hG gap ht) fun e a1 w1 hp => ?_)⟩
    obtain ⟨t', k', ν, hR, st, s1, ht1⟩ := hp
    cases e <;> cases hR
    exact ⟨_, _, ν, rfl, st, s1, ht1⟩
  | goto l t1 h1 =>
    rw [hga] at hr; subst hr; cases hk
    obtain ⟨n1, c1⟩ := ha t h _ _ hga rfl
    refine ⟨n1, fun μ w a s hG gap ht => wp_seq (wp_mono (c1 μ w a s hG gap ht) fun e a1 w1 hp => ?_)⟩
    obtain ⟨t', k', ν, hR, st, s1, ht1⟩ := hp
    cases e <;> cases hR
    exact ⟨_, _, ν, rfl, st, s1, ht1⟩

theorem cond_sound {ga gb : Tm → Hp → R} {c : Operand} {x y : Code} (ha : SoundAs P B N ga (x.wp P)) (hb : SoundAs P B N gb (y.wp P)) : SoundAs P B N (fun t h => branch (ev t (trX c)) (ga t h) (gb t h)) ((Code.cond c x y).wp P) := by
  intro t h r k hr hk
  have hr : branch (ev t (trX c)) (ga t h) (gb t h) = r := hr
  unfold branch at hr
  split at hr
  · rename_i b hb1
    cases b with
    | true =>
      obtain ⟨n1, c1⟩ := ha t h r k hr hk
      refine ⟨n1, fun μ w a s hG gap ht => ?_⟩
      have hv := (ht.or hG).rel c
      rw [hb1] at hv
      exact wp_cond_true hv.inv_bool (c1 μ w a s hG gap ht)
    | false =>
      obtain ⟨n1, c1⟩ := hb t h r k hr hk
      refine ⟨n1, fun μ w a s hG gap ht => ?_⟩
      have hv := (ht.or hG).rel c
      rw [hb1] at hv
      exact wp_cond_false hv.inv_bool (c1 μ w a s hG gap ht)
  · subst hr; cases hk

theorem block_sound {g : Tm → Hp → R} {id : Nat} {x : Code} (ha : SoundAs P B N g (x.wp P)) : SoundAs P B N (fun t h => unblock id (g t h)) ((Code.block id x).wp P) := by
  intro t h r k hr hk
  have hr : unblock id (g t h) = r := hr
  have go : ∀ r0 k0, g t h = r0 → r0.hp = some k0 → k0 = k → (∀ e t' , toR e t' k = some r0 → ∃ e', toR e' t' k = some r ∧ ∀ Q a w, Q e' a w → Exit.inBlock id Q e a w) →
      h.next.toN ≤ k.next.toN ∧ ∀ μ w a, Sim B μ h w → GL μ → Gap μ h k → TR N μ t a → (Code.block id x).wp P (Post B N μ h w r) a w := by
    intro r0 k0 h0 h1 h2 h3
    subst h2
    obtain ⟨n1, c1⟩ := ha t h r0 k0 h0 h1
    refine ⟨n1, fun μ w a s hG gap ht => wp_block (wp_mono (c1 μ w a s hG gap ht) fun e a1 w1 hp => ?_)⟩
    obtain ⟨t', k', ν, hR, st, s1, ht1⟩ := hp
    have : k' = k0 := by cases e <;> cases hR <;> cases h1 <;> rfl
    subst this
    obtain ⟨e', q1, q2⟩ := h3 e t' hR
    exact q2 _ _ _ ⟨t', k', ν, q1, st, s1, ht1⟩
  cases hg : g t h with
  | norm t1 h1 =>
    rw [hg] at hr; cases hr; cases hk
    exact go _ _ hg rfl rfl fun e t' hR => by cases e <;> cases hR; exact ⟨.normal, rfl, fun Q a w h => h⟩
  | exit i t1 h1 =>
    rw [hg] at hr
    change (Bool.rec (.exit i t1 h1) (.norm t1 h1) (Nat.beq i id) : R) = r at hr
    cases hb : Nat.beq i id with
    | true =>
      rw [hb] at hr; cases hr; cases hk
      have hb := Nat.eq_of_beq_eq_true hb
      subst hb
      exact go _ _ hg rfl rfl fun e t' hR => by cases e <;> cases hR; exact ⟨.normal, rfl, fun Q a w h => by simpa [Exit.inBlock] using h⟩
    | false =>
      rw [hb] at hr; cases hr; cases hk
      exact go _ _ hg rfl rfl fun e t' hR => by cases e <;> cases hR; exact ⟨.exit i, rfl, fun Q a w h => by simpa [Exit.inBlock, not_beq hb] using h⟩
  | ret t1 h1 =>
    rw [hg] at hr; cases hr; cases hk
    exact go _ _ hg rfl rfl fun e t' hR => by cases e <;> cases hR; exact ⟨.ret, rfl, fun Q a w h => h⟩
  | goto l t1 h1 =>
    rw [hg] at hr; cases hr; cases hk
    exact go _ _ hg rfl rfl fun e t' hR => by cases e <;> cases hR; exact ⟨.goto l, rfl, fun Q a w h => h⟩
  | bad z => rw [hg] at hr; subst hr; cases hk
end
end Go.Dm

namespace Go.Dm

section
variable {P : Program} {B N : Nat} {call : Nat → List DV → Hp → RV}

/-- a round of a loop, with the loop's rest behind it -/
def LoopWp (P : Program) (c : Code) (Q : Exit → Act → World → Prop) (a : Act) (w : World) : Prop := ∀ (b : Frame) (k : List Item) (cs : List Frame),
  ∃ e a' w', Q e a' w' ∧ Arrives P (lone (b.at a (.code c :: .inLoop c :: k)) cs w) b k cs e a' w'
theorem LoopWp.loop {c : Code} {Q : Exit → Act → World → Prop} {a : Act} {w : World} (h : LoopWp P c Q a w) : (Code.loop c).wp P Q a w := fun b k cs =>
  let ⟨e, a', w', q, r⟩ := h b k cs
  ⟨e, a', w', q, .of_steps (.one step_loop) r⟩
theorem LoopWp.of {c : Code} {Q : Exit → Act → World → Prop} {a : Act} {w : World} (h : c.wp P (Exit.then (LoopWp P c Q) Q) a w) : LoopWp P c Q a w := by
  intro b k cs
  obtain ⟨e, a₁, w₁, hq, harr⟩ := h b (.inLoop c :: k) cs
  cases e with
  | normal =>
    obtain ⟨e₂, a₂, w₂, hq₂, harr₂⟩ := hq b k cs
    exact ⟨e₂, a₂, w₂, hq₂, .of_steps (Steps.trans harr (.one step_inLoop)) harr₂⟩
  | exit id => exact ⟨_, a₁, w₁, hq, .pass (x := .inLoop c) rfl (fun _ _ => .inl (by simp)) harr⟩
  | goto l => exact ⟨_, a₁, w₁, hq, .pass (x := .inLoop c) rfl (fun _ _ => .inl (by simp)) harr⟩
  | ret => exact ⟨_, a₁, w₁, hq, .pass (x := .inLoop c) rfl (fun _ _ => .inl (by simp)) harr⟩
  | panic ch => exact ⟨_, a₁, w₁, hq, .pass (x := .inLoop c) rfl (fun _ _ => .inl (by simp)) harr⟩
  | outgrown => exact ⟨_, a₁, w₁, hq, .pass (x := .inLoop c) rfl (fun _ _ => .inl (by simp)) harr⟩
theorem LoopWp.mono {c : Code} {Q Q' : Exit → Act → World → Prop} {a : Act} {w : World} (h : LoopWp P c Q a w) (hq : ∀ e a w, Q e a w → Q' e a w) : LoopWp P c Q' a w :=
  fun b k cs => let ⟨e, a', w', q, r⟩ := h b k cs; ⟨e, a', w', hq _ _ _ q, r⟩

theorem rounds_sound {g : Tm → Hp → R} {c : Code} (ha : SoundAs P B N g (c.wp P)) : ∀ n, SoundAs P B N (rounds n g) (LoopWp P c)
  | 0 => SoundAs.bad (x := fun _ _ => [6666]) fun t h => rfl
  | n + 1 => by
    intro t h r k hr hk
    have hr : thenN (rounds n g) (g t h) = r := hr
    have leave : ∀ r0, g t h = r0 → thenN (rounds n g) r0 = r0 → (∀ t' k', r0 ≠ .norm t' k') → r0 = r → h.next.toN ≤ k.next.toN ∧ ∀ μ w a, Sim B μ h w → GL μ → Gap μ h k → TR N μ t a → LoopWp P c (Post B N μ h w r) a w := by
      intro r0 hg _ hne e
      subst e
      obtain ⟨n1, c1⟩ := ha t h r0 k hg hk
      refine ⟨n1, fun μ w a s hG gap ht => LoopWp.of (wp_mono (c1 μ w a s hG gap ht) fun e a1 w1 hp => ?_)⟩
      obtain ⟨t', k', ν, hR, st, s1, ht1⟩ := hp
      cases e with
      | normal => cases hR; exact absurd rfl (hne _ _)
      | exit i => exact ⟨_, _, ν, hR, st, s1, ht1⟩
      | ret => exact ⟨_, _, ν, hR, st, s1, ht1⟩
      | goto l => exact ⟨_, _, ν, hR, st, s1, ht1⟩
      | _ => cases hR
    cases hga : g t h with
    | norm t1 h1 =>
      rw [hga] at hr
      obtain ⟨n1, c1⟩ := ha t h _ _ hga rfl
      obtain ⟨n2, c2⟩ := rounds_sound ha n t1 h1 r k hr hk
      refine ⟨by omega, fun μ w a s hG gap ht => LoopWp.of (wp_mono (c1 μ w a s hG (gap.left n2) ht) fun e a1 w1 hp => ?_)⟩
      obtain ⟨t', k', ν, hR, st, s1, ht1⟩ := hp
      cases e <;> cases hR
      exact (c2 ν w1 a1 s1 (hG.mono st.le) (gap.right st) ht1).mono fun e a2 w2 hp => hp.trans st s1
    | bad z => rw [hga] at hr; subst hr; cases hk
    | exit i t1 h1 => exact leave _ hga rfl (fun _ _ h => by cases h) (by rw [hga] at hr; exact hr)
    | ret t1 h1 => exact leave _ hga rfl (fun _ _ h => by cases h) (by rw [hga] at hr; exact hr)
    | goto l t1 h1 => exact leave _ hga rfl (fun _ _ h => by cases h) (by rw [hga] at hr; exact hr)

theorem loop_sound {g : Tm → Hp → R} {c : Code} (ha : SoundAs P B N g (c.wp P)) (n : Nat) : SoundAs P B N (rounds n g) ((Code.loop c).wp P) := fun t h r k hr hk =>
  let ⟨n1, c1⟩ := rounds_sound ha n t h r k hr hk
  ⟨n1, fun μ w a s hG gap ht => (c1 μ w a s hG gap ht).loop⟩

/-! ### jumps -/
def ScopeWp (P : Program) (body x : Code) (Q : Exit → Act → World → Prop) (a : Act) (w : World) : Prop := ∀ (b : Frame) (k : List Item) (cs : List Frame),
  ∃ e a' w', Q e a' w' ∧ Arrives P (lone (b.at a (.code x :: .inScope body :: k)) cs w) b k cs e a' w'
/-- from each label of a code on -/
def Labels (P : Program) (B N : Nat) (find : Nat → Option (Tm → Hp → R)) (c : Code) : Prop := ∀ l, match find l with
  | none => findLabel c l = none
  | some g => ∃ rest, findLabel c l = some rest ∧ SoundAs P B N g (rest.wp P)

theorem jumps_sound {find : Nat → Option (Tm → Hp → R)} {body : Code} (hl : Labels P B N find body) : ∀ n {x : Code} {g : Tm → Hp → R}, SoundAs P B N g (x.wp P) → SoundAs P B N (fun t h => jumps n find (g t h)) (ScopeWp P body x)
  | 0, x, g, _ => SoundAs.bad (x := fun _ _ => [6667]) fun t h => rfl
  | n + 1, x, g, ha => by
    intro t h r k hr hk
    have hr : jumps (n + 1) find (g t h) = r := hr
    cases hga : g t h with
    | norm t1 h1 =>
      rw [hga] at hr
      cases hr; cases hk
      obtain ⟨n1, c1⟩ := ha t h _ _ hga rfl
      refine ⟨n1, fun μ w a s hG gap ht b kk cs => ?_⟩
      obtain ⟨e, a1, w1, hp, harr⟩ := c1 μ w a s hG gap ht b (.inScope body :: kk) cs
      obtain ⟨t', k', ν, hR, st, s1, ht1⟩ := hp
      cases e <;> cases hR
      exact ⟨.normal, a1, w1, ⟨_, _, ν, rfl, st, s1, ht1⟩, Steps.trans harr (.one step_inScope)⟩
    | exit i t1 h1 =>
      rw [hga] at hr
      cases hr; cases hk
      obtain ⟨n1, c1⟩ := ha t h _ _ hga rfl
      refine ⟨n1, fun μ w a s hG gap ht b kk cs => ?_⟩
      obtain ⟨e, a1, w1, hp, harr⟩ := c1 μ w a s hG gap ht b (.inScope body :: kk) cs
      obtain ⟨t', k', ν, hR, st, s1, ht1⟩ := hp
      cases e <;> cases hR
      exact ⟨.exit i, a1, w1, ⟨_, _, ν, rfl, st, s1, ht1⟩, fun k' hk => harr k' (by simp [exitTo, hk])⟩
    | ret t1 h1 =>
      rw [hga] at hr
      cases hr; cases hk
      obtain ⟨n1, c1⟩ := ha t h _ _ hga rfl
      refine ⟨n1, fun μ w a s hG gap ht b kk cs => ?_⟩
      obtain ⟨e, a1, w1, hp, harr⟩ := c1 μ w a s hG gap ht b (.inScope body :: kk) cs
      obtain ⟨t', k', ν, hR, st, s1, ht1⟩ := hp
      cases e <;> cases hR
      exact ⟨.ret, a1, w1, ⟨_, _, ν, rfl, st, s1, ht1⟩, harr⟩
    | goto l t1 h1 =>
      rw [hga] at hr
      change ((find l).rec (.goto l t1 h1) (fun g => jumps n find (g t1 h1)) : R) = r at hr
      obtain ⟨n1, c1⟩ := ha t h _ _ hga rfl
      have hl1 := hl l
      cases hf : find l with
      | none =>
        rw [hf] at hr hl1
        cases hr; cases hk
        refine ⟨n1, fun μ w a s hG gap ht b kk cs => ?_⟩
        obtain ⟨e, a1, w1, hp, harr⟩ := c1 μ w a s hG gap ht b (.inScope body :: kk) cs
        obtain ⟨t', k', ν, hR, st, s1, ht1⟩ := hp
        cases e <;> cases hR
        exact ⟨.goto l, a1, w1, ⟨_, _, ν, rfl, st, s1, ht1⟩, fun k' hk => harr k' (by simp only [gotoIn]; rw [show findLabel body l = none from hl1]; exact hk)⟩
      | some g' =>
        rw [hf] at hr hl1
        obtain ⟨rest, hfl, hg'⟩ := hl1
        obtain ⟨n2, c2⟩ := jumps_sound hl n hg' t1 h1 r k hr hk
        refine ⟨by omega, fun μ w a s hG gap ht b kk cs => ?_⟩
        obtain ⟨e, a1, w1, hp, harr⟩ := c1 μ w a s hG (gap.left n2) ht b (.inScope body :: kk) cs
        obtain ⟨t', k', ν, hR, st, s1, ht1⟩ := hp
        cases e <;> cases hR
        obtain ⟨e2, a2, w2, hp2, harr2⟩ := c2 ν w1 a1 s1 (hG.mono st.le) (gap.right st) ht1 b kk cs
        exact ⟨e2, a2, w2, hp2.trans st s1, .of_steps (harr _ (by simp only [gotoIn]; rw [hfl])) harr2⟩
    | bad z => rw [hga] at hr; cases hr; cases hk

theorem scope_sound {find : Nat → Option (Tm → Hp → R)} {body : Code} {g : Tm → Hp → R} (hl : Labels P B N find body) (ha : SoundAs P B N g (body.wp P)) (n : Nat) : SoundAs P B N (fun t h => jumps n find (g t h)) ((Code.scope body).wp P) := fun t h r k hr hk =>
  let ⟨n1, c1⟩ := jumps_sound hl n ha t h r k hr hk
  ⟨n1, fun μ w a s hG gap ht b kk cs =>
    let ⟨e, a', w', q, r⟩ := c1 μ w a s hG gap ht b kk cs
    ⟨e, a', w', q, .of_steps (.one step_scope) r⟩⟩

theorem nol_labels {c : Code} (h : ∀ l, findLabel c l = none) : Labels P B N nol c := fun l => h l
theorem region_sound (hc : CallOK P B call) (id : Nat) (ops : Array Oper) : SoundAs P B N (opers call (ops.toList.map (trOper P N ops))) ((Code.region id ops false).wp P) := by
  intro t h r k hr hk
  obtain ⟨n1, t', rfl⟩ := opers_shape hc ops.toList hr hk
  refine ⟨n1, fun μ w a s hG gap ht => wp_region ?_⟩
  have := opers_sound (Q := Post B N μ h w (.norm t' k)) hc ops.toList 0 (fun j => by simp) hr ht s hG gap fun ν a' w' q1 q2 q3 => ⟨t', k, ν, rfl, q1, q2, q3⟩
  rw [List.range_eq_range']
  simpa using this

/-- a region whose order is drawn: shown elsewhere -/
def DrawnOK (P : Program) (B N : Nat) (call : Nat → List DV → Hp → RV) : Prop := ∀ id (ops : Array Oper), SoundAs P B N (runL call N (trDrawn (ops.toList.map (trOper P N ops)) (ops.toList.map edgesOf))).1 ((Code.region id ops true).wp P)
theorem trDrawn_nol (n : Nat) (ds : List DOper) (ess : List (List Nat)) : (runL call n (trDrawn ds ess)).2 = nol := by
  unfold trDrawn
  simp only [brec_ite]
  split <;> rfl

theorem code_sound (hc : CallOK P B call) (n : Nat) (hd : ∀ id (ops : Array Oper), SoundAs P B N (runL call n (trDrawn (ops.toList.map (trOper P N ops)) (ops.toList.map edgesOf))).1 ((Code.region id ops true).wp P)) (c : Code) :
    SoundAs P B N (runL call n (trCode P N c)).1 (c.wp P) ∧ Labels P B N (runL call n (trCode P N c)).2 c := by
  induction c with
  | skip => exact ⟨fun t h r k hr hk => by cases hr; cases hk; exact ⟨Nat.le_refl _, fun μ w a s hG gap ht => wp_skip ⟨_, _, μ, rfl, .refl _ _ _, s, ht⟩⟩, nol_labels fun l => rfl⟩
  | region id ops draw =>
    cases draw with
    | false => exact ⟨region_sound hc id ops, nol_labels fun l => rfl⟩
    | true =>
      refine ⟨hd id ops, ?_⟩
      show Labels P B N (runL call n (trDrawn (ops.toList.map (trOper P N ops)) (ops.toList.map edgesOf))).2 _
      rw [trDrawn_nol]
      exact nol_labels fun l => rfl
  | seq x y ihx ihy =>
    refine ⟨seq_sound ihx.1 ihy.1, fun l => ?_⟩
    show (match seqL (runL call n (trCode P N x)).2 (runL call n (trCode P N y)).2 (runL call n (trCode P N y)).1 l with
      | none => findLabel (.seq x y) l = none
      | some g => ∃ rest, findLabel (.seq x y) l = some rest ∧ SoundAs P B N g (rest.wp P))
    have h1 := ihx.2 l
    have h2 := ihy.2 l
    unfold seqL
    cases hx : (runL call n (trCode P N x)).2 l with
    | none =>
      rw [hx] at h1
      simp only [findLabel, h1]
      exact h2
    | some g =>
      rw [hx] at h1
      obtain ⟨rest, hf, hg⟩ := h1
      exact ⟨.seq rest y, by simp only [findLabel, hf], seq_sound hg ihy.1⟩
  | cond c x y ihx ihy => exact ⟨cond_sound ihx.1 ihy.1, nol_labels fun l => rfl⟩
  | block id x ih => exact ⟨block_sound ih.1, nol_labels fun l => rfl⟩
  | loop x ih => exact ⟨loop_sound ih.1 n, nol_labels fun l => rfl⟩
  | rangeFunc f ps x y ihx ihy => exact ⟨SoundAs.bad (x := fun _ _ => [9998]) fun t h => rfl, nol_labels fun l => rfl⟩
  | exit id => exact ⟨fun t h r k hr hk => by cases hr; cases hk; exact ⟨Nat.le_refl _, fun μ w a s hG gap ht => wp_exit ⟨_, _, μ, rfl, .refl _ _ _, s, ht⟩⟩, nol_labels fun l => rfl⟩
  | scope x ih => exact ⟨scope_sound ih.2 ih.1 n, nol_labels fun l => rfl⟩
  | label l' =>
    refine ⟨fun t h r k hr hk => by cases hr; cases hk; exact ⟨Nat.le_refl _, fun μ w a s hG gap ht => wp_label ⟨_, _, μ, rfl, .refl _ _ _, s, ht⟩⟩, fun l => ?_⟩
    show (match labL l' l with
      | none => findLabel (.label l') l = none
      | some g => ∃ rest, findLabel (.label l') l = some rest ∧ SoundAs P B N g (rest.wp P))
    unfold labL
    cases hb : Nat.beq l' l with
    | false =>
      have := not_beq hb
      simp [findLabel, this]
    | true =>
      have := Nat.eq_of_beq_eq_true hb
      exact ⟨.skip, by simp [findLabel, this], fun t h r k hr hk => by cases hr; cases hk; exact ⟨Nat.le_refl _, fun μ w a s hG gap ht => wp_skip ⟨_, _, μ, rfl, .refl _ _ _, s, ht⟩⟩⟩
  | goto l => exact ⟨fun t h r k hr hk => by cases hr; cases hk; exact ⟨Nat.le_refl _, fun μ w a s hG gap ht => wp_goto ⟨_, _, μ, rfl, .refl _ _ _, s, ht⟩⟩, nol_labels fun l => rfl⟩
  | ret => exact ⟨fun t h r k hr hk => by cases hr; cases hk; exact ⟨Nat.le_refl _, fun μ w a s hG gap ht => wp_ret ⟨_, _, μ, rfl, .refl _ _ _, s, ht⟩⟩, nol_labels fun l => rfl⟩
  | refuse why => exact ⟨SoundAs.bad (x := fun _ _ => [9998]) fun t h => rfl, nol_labels fun l => rfl⟩
end
end Go.Dm

namespace Go.Dm

section
variable {P : Program} {B N : Nat} {call : Nat → List DV → Hp → RV}

theorem argsT_get : ∀ (l : List DV) (p : Pos) (t : Tm) (q : Pos), (argsT l p t).get q = if p.toN ≤ q.toN ∧ q.toN < p.toN + l.length then some (l.getD (q.toN - p.toN) .undef) else t.get q
  | [], p, t, q => by rw [if_neg (by simp)]; rfl
  | v :: l, p, t, q => by
    show (argsT l p.succ (t.put p (some v))).get q = _
    rw [argsT_get l]
    have e := Pos.toN_succ p
    by_cases h1 : p.succ.toN ≤ q.toN ∧ q.toN < p.succ.toN + l.length
    · rw [if_pos h1, if_pos (by simp; omega)]
      obtain ⟨k, hk⟩ : ∃ k, q.toN = p.toN + 1 + k := ⟨q.toN - (p.toN + 1), by omega⟩
      rw [show q.toN - p.succ.toN = k by omega, show q.toN - p.toN = k + 1 by omega]
      rfl
    · rw [if_neg h1]
      by_cases h2 : q = p
      · subst h2
        rw [if_pos (by simp), Nat.sub_self, PT.get_put_same]
        rfl
      · rw [PT.get_put_ne _ _ _ _ (Ne.symm h2)]
        rw [if_neg (fun hc => h2 (Pos.toN_inj (by simp at hc; omega)))]

theorem enter_TR {μ : Mu} {args : List DV} {vargs : Array Value} (hl : LR μ args vargs.toList) (n : Nat) : TR n μ (argsT args .xH .leaf) { tmps := vargs ++ Array.replicate (n - vargs.size) Go.undef, defers := [] } := by
  refine ⟨by simp; omega, rfl, fun i hi => ?_⟩
  have hlen : args.length = vargs.size := by simpa using hl.length
  rw [argsT_get]
  have hx : (Pos.xH).toN = 0 := rfl
  rw [hx, posOf_toN (by omega)]
  by_cases h : i < args.length
  · rw [if_pos (by omega)]
    have e : (vargs ++ Array.replicate (n - vargs.size) Go.undef).getD i Go.undef = vargs.toList.getD i Go.undef := by
      rw [Array.getD_eq_getD_getElem?, Array.getElem?_append_left (by omega), List.getD_eq_getElem?_getD, Array.getElem?_toList]
    rw [e]
    exact hl.get _ _
  · rw [if_neg (by omega), PT.get_leaf]
    exact .undef _

def getRes (tmps : Array Value) (r : ResultVar) : Sem Value := match r with
  | .tmp t => pure (tmps.getD t Go.undef)
  | .cell a t => do loadVar t (← asAddr (tmps.getD a Go.undef))
theorem results_eq (f : Func) (tmps : Array Value) : Go.results f tmps = (do
    let vs ← f.results.mapM (getRes tmps)
    pure (if h : vs.size = 1 then vs[0] else .tuple vs)) := rfl
theorem res_sound {t : Tm} {h : Hp} {n : Nat} {μ : Mu} {w : World} {a : Act} (s : Sim B μ h w) (ht : TR n μ t a) : ∀ (l : List ResultVar), l.all (resOk P) = true → ∀ {vs : List DV}, results (l.map (trRes P)) t h = some vs →
    ∃ us, (l.mapM (getRes a.tmps)).run P w = .ok us w ∧ LR μ vs us
  | [], _, vs, hr => by cases hr; exact ⟨[], rfl, .nil⟩
  | r :: l, ho, vs, hr => by
    simp only [List.all_cons, Bool.and_eq_true] at ho
    change (match results (l.map (trRes P)) t h with
      | none => none
      | some vs => match trRes P r with
        | .tmp p => some ((t.get p).getD .undef :: vs)
        | .cell a agg size => match t.get a with
          | some (.ptr b o) => agg.rec (match h.read1 b o with | some v => some (v :: vs) | none => none) (match h.read b o size with | some l => some (.agg l :: vs) | none => none)
          | _ => none : Option (List DV)) = some vs at hr
    cases hl : results (l.map (trRes P)) t h with
    | none => rw [hl] at hr; cases hr
    | some vs' =>
      rw [hl] at hr
      obtain ⟨us, hu, hlr⟩ := res_sound s ht l ho.2 hl
      have fin : ∀ {v : DV} {u : Value}, (getRes a.tmps r).run P w = .ok u w → VR μ v u → v :: vs' = vs → ∃ us, ((r :: l).mapM (getRes a.tmps)).run P w = .ok us w ∧ LR μ vs us := by
        intro v u h1 h2 h3
        subst h3
        refine ⟨u :: us, ?_, .cons h2 hlr⟩
        simp only [List.mapM_cons, Sem.run_bind, h1, Result.andThen_ok, hu, Sem.run_pure]
      cases r with
      | tmp i =>
        simp only [trRes] at hr
        cases hr
        exact fin (u := a.tmps.getD i Go.undef) rfl (ht.rel i (blt ho.1)) rfl
      | cell i ty =>
        simp only [trRes] at hr
        obtain ⟨o1, o2⟩ := and_t ho.1
        have hri := ht.rel i (blt o1)
        split at hr
        · rename_i b o hb
          rw [hb] at hri
          obtain ⟨ad, hv, har⟩ := VR.inv_ptr (b := b) (o := o) hri
          have hrun : ∀ u, (loadVar ty ad).run P w = .ok u w → (getRes a.tmps (.cell i ty)).run P w = .ok u w := fun u hu => by
            simp [getRes, hv, asAddr, hu]
          cases hg : isAg P ty with
          | false =>
            rw [hg] at hr
            simp only at hr
            split at hr
            · rename_i v' hv'
              cases hr
              obtain ⟨u, h1, h2⟩ := run_loadVar P s o2 har (.inl ⟨hg, hv'⟩)
              exact fin (hrun u h1) h2 rfl
            · cases hr
          | true =>
            rw [hg] at hr
            simp only at hr
            split at hr
            · rename_i l' hv'
              cases hr
              obtain ⟨u, h1, h2⟩ := run_loadVar (v := .agg l') P s o2 har (.inr ⟨hg, _, hv', rfl⟩)
              exact fin (hrun u h1) h2 rfl
            · cases hr
        · cases hr

theorem leave_hp {f : DFunc} {t : Tm} {h h' : Hp} {v : DV} (hl : leave f t h = .ok v h') : h' = h := by
  unfold leave at hl
  split at hl <;> cases hl <;> rfl
theorem leave_sound {f : Func} {t : Tm} {h h' : Hp} {v : DV} {n : Nat} {c : DCode} {μ : Mu} {w : World} {a : Act} (hl : leave { nargs := 0, results := f.results.toList.map (trRes P), body := c } t h = .ok v h') (ho : f.results.toList.all (resOk P) = true)
    (s : Sim B μ h w) (ht : TR n μ t a) : ∃ u, (Go.results f a.tmps).run P w = .ok u w ∧ VR μ v u := by
  have key : ∀ vs, results (f.results.toList.map (trRes P)) t h = some vs → ∃ us : List Value, (f.results.mapM (getRes a.tmps)).run P w = .ok us.toArray w ∧ LR μ vs us := by
    intro vs hvs
    obtain ⟨us, h1, h2⟩ := res_sound s ht _ ho hvs
    refine ⟨us, ?_, h2⟩
    rw [Array.mapM_eq_mapM_toList]
    simp [h1]
  unfold leave at hl
  change (match results (f.results.toList.map (trRes P)) t h with
    | some [v] => .ok v h
    | some vs => .ok (.tup vs) h
    | none => .bad [5555] : RV) = .ok v h' at hl
  rw [results_eq]
  split at hl
  · rename_i x hvs
    cases hl
    obtain ⟨us, h1, h2⟩ := key _ hvs
    cases h2 with
    | cons hv ht' =>
      cases ht'
      rename_i u
      exact ⟨u, by simp [h1], hv⟩
  · rename_i vs hne hvs
    cases hl
    obtain ⟨us, h1, h2⟩ := key _ hvs
    have hlen := h2.length
    have : us.length ≠ 1 := fun e => by
      match vs, hlen with
      | [x], _ => exact hne x rfl
      | [], hlen => rw [← hlen] at e; cases e
      | _ :: _ :: _, hlen => rw [← hlen] at e; simp at e
    exact ⟨.tuple us.toArray, by simp [h1, this], .tup (by simpa using h2)⟩
  · cases hl

/-- the functions that have no text, as the machine has them -/
def PrimOK (P : Program) (B : Nat) : Prop := ∀ (f : Nat) (fn : Func) (p : DPrim), P.funcs[f]? = some fn → fn.body = none → primOf P fn = some p → ∀ args h v h', prim p args h = .ok v h' →
  h.next.toN ≤ h'.next.toN ∧ ∀ μ w (vargs : Array Value), Sim B μ h w → GL μ → Gap μ h h' → LR μ args vargs.toList → Out P B μ h w (callFunc f vargs) v h'

theorem run_callFunc {f : Nat} {fn : Func} {c : Code} (hf : P.funcs[f]? = some fn) (hb : fn.body = some c) (hn : fn.name ≠ "runtime.NumGoroutine") (args : Array Value) (w : World) : (callFunc f args).run P w = .ok (.enter f args) w := by
  simp [callFunc, program, Sem.run, hf, hb, hn]

theorem enter_sound (hc : CallOK P B call) (n : Nat) (hd : ∀ N id (ops : Array Oper), SoundAs P B N (runL call n (trDrawn (ops.toList.map (trOper P N ops)) (ops.toList.map edgesOf))).1 ((Code.region id ops true).wp P))
    (hp : PrimOK P B) (hng : ∀ fn ∈ P.funcs.toList, fn.name ≠ "runtime.NumGoroutine") : CallOK P B (enter (fnsOf P) n call) := by
  intro f args h v h' hr
  unfold enter at hr
  split at hr
  · rename_i fd hfd
    unfold fnsOf at hfd
    split at hfd
    · rename_i fn hfn
      unfold trFn at hfd
      split at hfd
      · rename_i c hb
        replace hfd := brec_some hfd
        obtain ⟨hro, hfd⟩ := hfd
        cases hfd
        have hname := hng fn (Array.mem_of_getElem? hfn |> Array.mem_toList_iff.2)
        change ((run call n (trCode P fn.ntmps c) (argsT args .xH .leaf) h).rec (leave _) (fun _ _ _ => .bad [f, 3333]) (leave _) (fun _ _ _ => .bad [f, 3334]) (fun w => .bad (f :: w)) : RV) = .ok v h' at hr
        obtain ⟨cs, _⟩ := code_sound (N := fn.ntmps) hc n (hd fn.ntmps) c
        have fin : ∀ {r : R} {t1 : Tm} {h1 : Hp}, run call n (trCode P fn.ntmps c) (argsT args .xH .leaf) h = r → (r = .norm t1 h1 ∨ r = .ret t1 h1) → leave { nargs := 0, results := fn.results.toList.map (trRes P), body := trCode P fn.ntmps c } t1 h1 = .ok v h' →
            h.next.toN ≤ h'.next.toN ∧ ∀ μ w (vargs : Array Value), Sim B μ h w → GL μ → Gap μ h h' → LR μ args vargs.toList → Out P B μ h w (callFunc f vargs) v h' := by
          intro r t1 h1 hrun hor hlv
          have hhp : r.hp = some h1 := by rcases hor with rfl | rfl <;> rfl
          obtain ⟨n1, c1⟩ := cs (argsT args .xH .leaf) h r h1 hrun hhp
          have hh : h' = h1 := leave_hp hlv
          subst hh
          refine ⟨n1, fun μ w vargs s hG gap hl => ?_⟩
          unfold Out Goes
          rw [run_callFunc hfn hb hname]
          refine calls_of_wp hfn hb (wp_mono (c1 μ w _ s hG gap (enter_TR hl fn.ntmps)) fun e a' w' hp => ?_)
          obtain ⟨t2, k2, ν, hR, st, s2, ht2⟩ := hp
          have : (e = .normal ∨ e = .ret) ∧ t2 = t1 ∧ k2 = h' := by rcases hor with rfl | rfl <;> cases e <;> cases hR <;> simp
          obtain ⟨he, rfl, rfl⟩ := this
          obtain ⟨u, hu, hv⟩ := leave_sound hlv hro s2 ht2
          rcases he with rfl | rfl
          · exact ⟨ht2.defers, u, hu, u, rfl, ν, st, s2, hv⟩
          · exact ⟨ht2.defers, u, hu, u, rfl, ν, st, s2, hv⟩
        cases hrun : run call n (trCode P fn.ntmps c) (argsT args .xH .leaf) h with
        | norm t1 h1 => rw [hrun] at hr; exact fin hrun (.inl rfl) hr
        | ret t1 h1 => rw [hrun] at hr; exact fin hrun (.inr rfl) hr
        | exit i t1 h1 => rw [hrun] at hr; cases hr
        | goto i t1 h1 => rw [hrun] at hr; cases hr
        | bad z => rw [hrun] at hr; cases hr
      · split at hfd <;> cases hfd
    · cases hfd
  · rename_i p hfd
    unfold fnsOf at hfd
    split at hfd
    · rename_i fn hfn
      unfold trFn at hfd
      split at hfd
      · obtain ⟨_, hh⟩ := brec_some hfd
        cases hh
      · rename_i hb
        split at hfd
        · rename_i p' hp'
          cases hfd
          exact hp f fn _ hfn hb hp' args h v h' hr
        · cases hfd
    · cases hfd
  · cases hr

theorem calls_sound (n : Nat) (hd : ∀ call, CallOK P B call → ∀ N id (ops : Array Oper), SoundAs P B N (runL call n (trDrawn (ops.toList.map (trOper P N ops)) (ops.toList.map edgesOf))).1 ((Code.region id ops true).wp P))
    (hp : PrimOK P B) (hng : ∀ fn ∈ P.funcs.toList, fn.name ≠ "runtime.NumGoroutine") : ∀ k, CallOK P B (calls (fnsOf P) n k)
  | 0 => fun f args h v h' hr => by cases hr
  | k + 1 => enter_sound (calls_sound n hd hp hng k) n (hd _ (calls_sound n hd hp hng k)) hp hng
end
end Go.Dm

namespace Go.Dm

section
variable {t t' : Tm} {h : Hp}

theorem evs_congr : ∀ {l : List Opd}, (∀ x ∈ l, ev t x = ev t' x) → evs t l = evs t' l
  | [], _ => rfl
  | x :: l, hl => by
    show ev t x :: evs t l = ev t' x :: evs t' l
    rw [hl x (by simp), evs_congr (fun y hy => hl y (by simp [hy]))]
theorem fill_congr (n : Nat) : ∀ {l : List (Nat × Nat × Opd)}, (∀ x ∈ l.map (·.2.2), ev t x = ev t' x) → ∀ z, fill n l t z = fill n l t' z
  | [], _, z => rfl
  | p :: l, hl, z => by
    show (match vcells (ev t p.2.2) with
      | some cs => (Bool.rec none (fill n l t (wrn cs p.1 z)) (and (Nat.beq (len cs) p.2.1) (Nat.ble (p.1 + p.2.1) n)) : Option (PT DV))
      | none => none) = (match vcells (ev t' p.2.2) with
      | some cs => (Bool.rec none (fill n l t' (wrn cs p.1 z)) (and (Nat.beq (len cs) p.2.1) (Nat.ble (p.1 + p.2.1) n)) : Option (PT DV))
      | none => none)
    rw [hl p.2.2 (by simp)]
    cases vcells (ev t' p.2.2) with
    | none => rfl
    | some cs => simp only []; rw [fill_congr n (fun x hx => hl x (by simp at hx ⊢; exact .inr hx))]
theorem optI_congr {x : Option Opd} (hx : ∀ y ∈ optR x, ev t y = ev t' y) (n top : Nat) : optI x t n top = optI x t' n top := by
  cases x with
  | none => rfl
  | some o => unfold optI; simp only []; rw [hx o (by simp [optR])]

theorem dop_congr {op : DOp} (hl : ∀ x ∈ dreads op, ev t x = ev t' x) : dop op t h = dop op t' h := by
  cases op
  case move x => show dMove _ _ _ = dMove _ _ _; unfold dMove; rw [hl x (by simp [dreads])]
  case pick c a b => show dPick _ _ _ _ _ = dPick _ _ _ _ _; unfold dPick; rw [hl c (by simp [dreads]), hl a (by simp [dreads]), hl b (by simp [dreads])]
  case stop => rfl
  case alloc => rfl
  case box ty n x => show dBox _ _ _ _ _ = dBox _ _ _ _ _; unfold dBox; rw [hl x (by simp [dreads])]
  case build zs ps => show dBuild _ _ _ _ = dBuild _ _ _ _; unfold dBuild; rw [fill_congr _ hl]
  case buildSlice ty zs n sz ps => show dBuildSlice _ _ _ _ _ _ _ = dBuildSlice _ _ _ _ _ _ _; unfold dBuildSlice; rw [fill_congr _ hl]
  case load ag n x => show dLoad _ _ _ _ _ = dLoad _ _ _ _ _; unfold dLoad; rw [hl x (by simp [dreads])]
  case store n x y => show dStore _ _ _ _ _ = dStore _ _ _ _ _; unfold dStore; rw [hl x (by simp [dreads]), hl y (by simp [dreads])]
  case nilCheck x => show dNilCheck _ _ _ = dNilCheck _ _ _; unfold dNilCheck; rw [hl x (by simp [dreads])]
  case bin op e x y => show dBin _ _ _ _ _ _ = dBin _ _ _ _ _ _; unfold dBin; rw [hl x (by simp [dreads]), hl y (by simp [dreads])]
  case notb x => show dNotb _ _ _ = dNotb _ _ _; unfold dNotb; rw [hl x (by simp [dreads])]
  case neg x => show dNeg _ _ _ = dNeg _ _ _; unfold dNeg; rw [hl x (by simp [dreads])]
  case compl x => show dCompl _ _ _ = dCompl _ _ _; unfold dCompl; rw [hl x (by simp [dreads])]
  case toInt k x => show dToInt _ _ _ _ = dToInt _ _ _ _; unfold dToInt; rw [hl x (by simp [dreads])]
  case same x => show dSame _ _ _ = dSame _ _ _; unfold dSame; rw [hl x (by simp [dreads])]
  case toBytes ty x => show dToBytes _ _ _ _ = dToBytes _ _ _ _; unfold dToBytes; rw [hl x (by simp [dreads])]
  case toStr x => show dToStr _ _ _ = dToStr _ _ _; unfold dToStr; rw [hl x (by simp [dreads])]
  case mkIface ty x => show dMkIface _ _ _ _ = dMkIface _ _ _ _; unfold dMkIface; rw [hl x (by simp [dreads])]
  case mkFunc f a b => show dMkFunc _ _ _ _ _ = dMkFunc _ _ _ _ _; unfold dMkFunc; rw [evs_congr (fun x hx => hl x (by simp [dreads, hx])), evs_congr (l := b) (fun x hx => hl x (by simp [dreads, hx]))]
  case mkMap => rfl
  case mkSlice ty zs sz bytes l c => show dMkSlice _ _ _ _ _ _ _ _ = dMkSlice _ _ _ _ _ _ _ _; unfold dMkSlice; rw [hl l (by simp [dreads]), hl c (by simp [dreads])]
  case sliceS x lo hi =>
    show dSliceS _ _ _ _ _ = dSliceS _ _ _ _ _; unfold dSliceS
    have e1 := fun n top => optI_congr (x := lo) (fun y hy => hl y (by simp [dreads, hy])) n top
    have e2 := fun n top => optI_congr (x := hi) (fun y hy => hl y (by simp [dreads, hy])) n top
    rw [hl x (by simp [dreads])]; simp only [e1, e2]
  case sliceX sz x lo hi mx =>
    show dSliceX _ _ _ _ _ _ _ = dSliceX _ _ _ _ _ _ _; unfold dSliceX
    have e1 := fun n top => optI_congr (x := lo) (fun y hy => hl y (by simp [dreads, hy])) n top
    have e2 := fun n top => optI_congr (x := hi) (fun y hy => hl y (by simp [dreads, hy])) n top
    have e3 := fun n top => optI_congr (x := mx) (fun y hy => hl y (by simp [dreads, hy])) n top
    rw [hl x (by simp [dreads])]; simp only [e1, e2, e3]
  case sliceA n sz x lo hi =>
    show dSliceA _ _ _ _ _ _ _ = dSliceA _ _ _ _ _ _ _; unfold dSliceA
    have e1 := fun n top => optI_congr (x := lo) (fun y hy => hl y (by simp [dreads, hy])) n top
    have e2 := fun n top => optI_congr (x := hi) (fun y hy => hl y (by simp [dreads, hy])) n top
    rw [hl x (by simp [dreads])]; simp only [e1, e2]
  case fieldAddr off x => show dFieldAddr _ _ _ _ = dFieldAddr _ _ _ _; unfold dFieldAddr; rw [hl x (by simp [dreads])]
  case field ag off n x => show dField _ _ _ _ _ _ = dField _ _ _ _ _ _; unfold dField; rw [hl x (by simp [dreads])]
  case indexAddr sz x i => show dIndexAddr _ _ _ _ _ = dIndexAddr _ _ _ _ _; unfold dIndexAddr; rw [hl x (by simp [dreads]), hl i (by simp [dreads])]
  case indexArr n sz x i => show dIndexArr _ _ _ _ _ _ = dIndexArr _ _ _ _ _ _; unfold dIndexArr; rw [hl x (by simp [dreads]), hl i (by simp [dreads])]
  case indexStr x i => show dIndexStr _ _ _ _ = dIndexStr _ _ _ _; unfold dIndexStr; rw [hl x (by simp [dreads]), hl i (by simp [dreads])]
  case indexAgg n ag sz x i => show dIndexAgg _ _ _ _ _ _ _ = dIndexAgg _ _ _ _ _ _ _; unfold dIndexAgg; rw [hl x (by simp [dreads]), hl i (by simp [dreads])]
  case lookup lf z x k ok => show dLookup _ _ _ _ _ _ _ = dLookup _ _ _ _ _ _ _; unfold dLookup; rw [hl x (by simp [dreads]), hl k (by simp [dreads])]
  case mapUpdate lf m k x => show dMapUpdate _ _ _ _ _ _ = dMapUpdate _ _ _ _ _ _; unfold dMapUpdate; rw [hl m (by simp [dreads]), hl k (by simp [dreads]), hl x (by simp [dreads])]
  case extract x i => show dExtract _ _ _ _ = dExtract _ _ _ _; unfold dExtract; rw [hl x (by simp [dreads])]
  case lenS x => show dLenS _ _ _ = dLenS _ _ _; unfold dLenS; rw [hl x (by simp [dreads])]
  case lenX x => show dLenX _ _ _ = dLenX _ _ _; unfold dLenX; rw [hl x (by simp [dreads])]
  case lenM x => show dLenM _ _ _ = dLenM _ _ _; unfold dLenM; rw [hl x (by simp [dreads])]
  case cap x => show dCap _ _ _ = dCap _ _ _; unfold dCap; rw [hl x (by simp [dreads])]
  case append ty sz bytes mk zs x y => show dAppend _ _ _ _ _ _ _ _ _ = dAppend _ _ _ _ _ _ _ _ _; unfold dAppend; rw [hl x (by simp [dreads]), hl y (by simp [dreads])]
  case copy sz x y => show dCopy _ _ _ _ _ = dCopy _ _ _ _ _; unfold dCopy; rw [hl x (by simp [dreads]), hl y (by simp [dreads])]
  case clear zs x => show dClear _ _ _ _ = dClear _ _ _ _; unfold dClear; rw [hl x (by simp [dreads])]
  case minmax mx l => show dMinmax _ _ _ _ = dMinmax _ _ _ _; unfold dMinmax; rw [evs_congr (l := l) hl]
  case sdata x => show dSdata _ _ _ = dSdata _ _ _; unfold dSdata; rw [hl x (by simp [dreads])]
  case ustr u x n => show dUstr _ _ _ _ _ = dUstr _ _ _ _ _; unfold dUstr; rw [hl x (by simp [dreads]), hl n (by simp [dreads])]
  case toUnsafe x => show dToUnsafe _ _ _ = dToUnsafe _ _ _; unfold dToUnsafe; rw [hl x (by simp [dreads])]
  case ofUnsafe u n x => show dOfUnsafe _ _ _ _ _ = dOfUnsafe _ _ _ _ _; unfold dOfUnsafe; rw [hl x (by simp [dreads])]
  case mark x => show dMark _ _ _ = dMark _ _ _; unfold dMark; rw [hl x (by simp [dreads])]
theorem oper_congr {call : Nat → List DV → Hp → RV} {o : DOper} (hl : ∀ x ∈ oreads o, ev t x = ev t' x) : oper call o t h = oper call o t' h := by
  cases o with
  | plain d g op => show lift d (dop op t h) = lift d (dop op t' h); rw [dop_congr hl]
  | callF d g f l => show call f (evs t l) h = call f (evs t' l) h; rw [evs_congr (l := l) hl]
  | callV d g f l =>
    show vcall call d (evs t l) h (ev t f) = vcall call d (evs t' l) h (ev t' f)
    rw [hl f (by simp [oreads]), evs_congr (fun x hx => hl x (by simp [oreads, hx]))]
end

/-! ### the same value -/
theorem ieq_t {a b : Int} (h : ieq a b = true) : a = b := by rw [ieq_eq] at h; simpa using h
theorem beq_t {a b : Nat} (h : Nat.beq a b = true) : a = b := Nat.eq_of_beq_eq_true h
theorem same00_eq {x y : DV} (h : same00 x y = true) : x = y := by
  unfold same00 at h
  split at h
  · rename_i a b; cases a <;> cases b <;> first | rfl | cases h
  · obtain ⟨h1, h2⟩ := and_t h; rw [kc_inj h1, ieq_t h2]
  · obtain ⟨h1, h2⟩ := and_t h; rw [beq_t h1, beq_t h2]
  · obtain ⟨h1, h2⟩ := and_t h; rw [beq_t h1, Pos.beq_eq h2]
  · rfl
  · rename_i b o n c ex sz b' o' n' c' ex' sz'
    obtain ⟨h1, h2⟩ := and_t h
    obtain ⟨h3, h4⟩ := and_t h1
    obtain ⟨h5, h6⟩ := and_t h2
    obtain ⟨a1, a2⟩ := and_t h3
    obtain ⟨a3, a4⟩ := and_t h4
    rw [beq_t a1, beq_t a2, beq_t a3, beq_t a4, Pos.beq_eq h6]
    cases ex <;> cases ex' <;> first | rfl | cases h5
  · rfl
  · rw [Pos.beq_eq h]
  · rfl
  · rfl
  · rfl
  · cases h
theorem sameL_eq {f : DV → DV → Bool} (hf : ∀ x y, f x y = true → x = y) : ∀ {l m : List DV}, sameL f l m = true → l = m
  | [], [], _ => rfl
  | [], _ :: _, h => by cases h
  | _ :: _, [], h => by cases h
  | x :: l, y :: m, h => by
    obtain ⟨h1, h2⟩ := and_t (show (and (f x y) (sameL f l m)) = true from h)
    rw [hf x y h1, sameL_eq hf h2]
theorem same0_eq {x y : DV} (h : same0 x y = true) : x = y := by
  unfold same0 at h
  split at h
  · obtain ⟨h1, h2⟩ := and_t h
    obtain ⟨h3, h4⟩ := and_t h2
    rw [beq_t h1, sameL_eq (fun _ _ => same00_eq) h3, sameL_eq (fun _ _ => same00_eq) h4]
  · exact same00_eq h
theorem same1_eq {x y : DV} (h : same1 x y = true) : x = y := by
  unfold same1 at h
  split at h
  · obtain ⟨h1, h2⟩ := and_t h
    rw [beq_t h1, same0_eq h2]
  · exact same0_eq h
theorem sameV_eq {x y : DV} (h : sameV x y = true) : x = y := by
  unfold sameV at h
  split at h
  · rw [sameL_eq (fun _ _ => same1_eq) h]
  · rw [sameL_eq (fun _ _ => same1_eq) h]
  · exact same1_eq h
end Go.Dm
