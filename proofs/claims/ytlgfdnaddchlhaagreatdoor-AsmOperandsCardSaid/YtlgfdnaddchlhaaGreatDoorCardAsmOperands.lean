/- The card of the law sledge/sledgelaw12.AsmOperands: its listed variables tied to the program's text. No condition. -/
import Derived.Test.YtlgfdnaddchlhaaGreatDoorLawAsmOperands
import Derived.Test.YtlgfdnaddchlhaaGreatDoorCards
import Derived.Test.YtlgfdnaddchlhaaGreatDoorTie
import Derived.SevenTiedAt
namespace Go.Proofs.YtlgfdnaddchlhaaGreatDoor.asmOperands
theorem proved : Rows.AsmOperandsCardSaid :=
  Claim7.holds_tied_plain_at .later [] [.data, .data, .data, .data, .sentinel, .sentinel, .listed, .data, .pinned] true (true, "fad5c90bfb197f08d4300e96b0c954b7dc01fcca28426177ceb5600d5fd10929") true over (fun _ h => by cases h) (by kernel_rfl) (fun _ h => by cases h) asmOperands_row_tie rfl ⟨rfl, rfl⟩ (by kernel_rfl) rfl
    (fun f fn hf hfn => by
      obtain rfl : f = 3 := Option.some.inj ((show Tryz.prog.funcNamed "sledge/sledgelaw12.AsmOperands" = some 3 by kernel_rfl).symm.trans hf) |>.symm
      obtain rfl : fn = Tryz.f3 := (Option.some.inj (Tryz.func3.symm.trans hfn)).symm
      exact ⟨by kernel_rfl, fun j t ht => by
        rw [Tryz.params3] at ht
        have hm : t ∈ [25] := by simpa using Array.mem_of_getElem? ht
        have hall : ([25].all fun u => !Tryz.prog.wantsStandIn u) = true := by kernel_rfl
        exact (show Tryz.prog.wantsStandIn t = false by simpa using List.all_eq_true.1 hall t hm)⟩)
    (by kernel_rfl)
end Go.Proofs.YtlgfdnaddchlhaaGreatDoor.asmOperands
namespace Go.Proofs.YtlgfdnaddchlhaaGreatDoor
theorem asmOperands_holds : Rows.AsmOperandsCardSaid := asmOperands.proved
end Go.Proofs.YtlgfdnaddchlhaaGreatDoor
