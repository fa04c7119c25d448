/- The law sledge/sledgelaw12.AsmOperands returns true at every argument and leaves it as it was. No condition but the row's own. -/
import Derived.Test.YtlgfdnaddchlhaaGreatDoorFactAsmOperands
import Derived.Test.YtlgfdnaddchlhaaGreatDoorRunAsmOperands
import Derived.Test.YtlgfdnaddchlhaaGreatDoorRows
import Derived.WalkKit
import Derived.ProofKit
import Derived.OpenShut
import Derived.ChangeOld
import Derived.Below
import Derived.Carry
import Derived.SizedLaws
import Derived.LaidMore
import Derived.Lay
import Derived.Lib.LaidTab
import Derived.Stop.Joined
namespace Go.Proofs.YtlgfdnaddchlhaaGreatDoor.asmOperands
open Go.ChangeShapes Go.WideShapes Go.ChangeAt Go.RowKit Go.Dm Go.Proofs.YtlgfdnaddchlhaaGreatDoor.Table Go.Proofs.YtlgfdnaddchlhaaGreatDoor.TableAsmOperands
theorem own : ownKnob Tryz.prog.godebug = none := by kernel_rfl
theorem laidOut : laidOutB Tryz.prog = true := by kernel_rfl
def laid : List (String × DataW Unit) := Rows.asmOperandsRow.laid
theorem globals_ok {W : World} (h : laidMetH Tryz.prog laid W) : GOK gl (tyOf W) W := by
  rw [MakeChecks.laidMetH_plain _ _ _ (by kernel_rfl)] at h
  have h0 : Reads1 Tryz.prog W "strings.asciiSpace" (Lib.tabData .u8 spaces) := reads_at h (i := 7) (by kernel_rfl)
  have h1 := reads_at h (i := 5) (n := "strconv.ErrSyntax") (d := Rows.laid_strconv_ErrSyntax) (by kernel_rfl)
  have h2 := reads_at h (i := 4) (n := "strconv.ErrRange") (d := Rows.laid_strconv_ErrRange) (by kernel_rfl)
  refine gok_cons (gok_tab h0 (g := 2) (by kernel_rfl) (t := 266) (by kernel_rfl) (e := 5) (N := 256) (by kernel_rfl) (by kernel_rfl) (by kernel_rfl) (by kernel_rfl) (by kernel_rfl)) ?_
  refine gok_cons (gok_iface h1 (g := 8) (by kernel_rfl) (t := 188) (by kernel_rfl) (by kernel_rfl) (by kernel_rfl)) ?_
  exact gok_cons (gok_iface h2 (g := 9) (by kernel_rfl) (t := 188) (by kernel_rfl) (by kernel_rfl) (by kernel_rfl)) (gok_nil _ _)
set_option maxRecDepth 100000 in
theorem lifted (os : Os) (started : os.Started) (H : Type) (enc : TypeId × Value → H) :
    ReturnsInHanded {} Tryz.checked os 3 .any (fun w args => (Rows.asmOperandsSpec.pre enc Tryz.prog Tryz.f3 [] false w args ∧ laidMetH Tryz.prog laid w) ∧ sizedMet enc Tryz.prog Tryz.f3 (OpenSpec.ofChange Rows.asmOperandsSpec) false w args) (Rows.asmOperandsSpec.post enc Tryz.prog Tryz.f3 false true false false) := by
  refine returnsInHanded_of_change_and (C := Tryz.checked) (X := fun w _ => laidMetH Tryz.prog laid w) (fun _ _ _ hh h => h.of_heap hh) own started (by kernel_rfl) Tryz.func3
    (ChangeSpec.witness_shaped (enc := enc) (C := Tryz.checked) (os := os) (X := fun w _ => laidMetH Tryz.prog laid w) false (World.laidAll Tryz.prog os laid) #[.agg #[.slice none 0 0, .slice none 0 0]] 8 (World.laidAll_os _ _ _)
      (World.shaped_of_ZipB (by kernel_rfl) (by kernel_rfl)) (by kernel_rfl) (by kernel_rfl) (by kernel_rfl)
      (by rw [MakeChecks.laidMetH_plain _ _ _ (by kernel_rfl)]; exact laidMet_laidAll _ (by kernel_rfl) (by kernel_rfl))) ?_
  intro W base args ds gs before hval0 hW _ _ hL _
  have hval : ∀ (j : Nat) t v, Tryz.f3.params[j]? = some t → args[j]? = some v → Value.okWide Tryz.prog W .any base t v := hval0
  have hW' := hW
  obtain ⟨p, q, hA0, hV, rfl, _, _⟩ := hW
  have hA : DataW.TrodAll enc Tryz.prog W 0 (fun _ => true) true Tryz.f3.params.toList args.toList ds p := hA0
  rw [Tryz.params3] at hA hval
  obtain ⟨v0, d0, rfl, rfl, h0⟩ := trodAll_one hA
  obtain ⟨rfl, rfl⟩ := trodVars_none hV
  simp only [List.append_nil] at hW'
  have lt0 : ∀ x ∈ p, x.block < W.heap.size := by obtain ⟨m, hm⟩ := h0; exact DataW.trod_lt m _ _ _ hm
  refine (called W base v0 (globals_ok hL) (hval 0 25 v0 rfl rfl)).mono fun e W' ⟨he, bel⟩ => ?_
  subst he
  exact ⟨_, rfl, _, _, _, [], _, [], hW', trodAll_mk1 (shut_bool Tryz.underlying4 _), trodAll_mk1 (Below.trod laidOut (by kernel_rfl) (of_decide_eq_true (by kernel_rfl)) h0 bel lt0), rfl, bel.frame _, fun h => by cases h⟩
theorem over : Rows.asmOperandsRow.holds Tryz.pinned (OpenSpec.ofChange Rows.asmOperandsSpec) :=
  OpenClaim.holds_of_wide 3 Tryz.f3 rfl rfl rfl rfl rfl rfl rfl ⟨rfl, rfl, rfl, rfl, rfl⟩ rfl rfl rfl rfl rfl (by kernel_rfl) Tryz.func3 closed
    (of_decide_eq_true (by kernel_rfl)) (by unfold Func.isWrapper; first | (rw [if_pos (by decide +kernel)]; kernel_rfl) | (rw [if_neg (by decide +kernel)]; exact ⟨rfl, rfl⟩))
    (fun os started H enc _ => lifted os started H enc)
end Go.Proofs.YtlgfdnaddchlhaaGreatDoor.asmOperands
