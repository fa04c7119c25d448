/- The card of the law sledge/sledgelaw12.AsmDatas: its listed variables tied to the program's text. No condition. -/
import Derived.Test.YtlgfdnaddchlhaaGreatDoorLawAsmDatas
import Derived.Test.YtlgfdnaddchlhaaGreatDoorCards
import Derived.Test.YtlgfdnaddchlhaaGreatDoorTie
import Derived.SevenTiedAt
namespace Go.Proofs.YtlgfdnaddchlhaaGreatDoor.asmDatas
theorem proved : Rows.AsmDatasCardSaid :=
  Claim7.holds_tied_plain_at .later [] [.data, .data, .data, .data, .sentinel, .sentinel, .listed, .data, .pinned] true (true, "fad5c90bfb197f08d4300e96b0c954b7dc01fcca28426177ceb5600d5fd10929") true over (fun _ h => by cases h) (by kernel_rfl) (fun _ h => by cases h) asmDatas_row_tie rfl ⟨rfl, rfl⟩ (by kernel_rfl) rfl
    (fun f fn hf hfn => by
      obtain rfl : f = 4 := Option.some.inj ((show Tryz.prog.funcNamed "sledge/sledgelaw12.AsmDatas" = some 4 by kernel_rfl).symm.trans hf) |>.symm
      obtain rfl : fn = Tryz.f4 := (Option.some.inj (Tryz.func4.symm.trans hfn)).symm
      exact ⟨by kernel_rfl, fun j t ht => by
        rw [Tryz.params4] at ht
        have hm : t ∈ [25] := by simpa using Array.mem_of_getElem? ht
        have hall : ([25].all fun u => !Tryz.prog.wantsStandIn u) = true := by kernel_rfl
        exact (show Tryz.prog.wantsStandIn t = false by simpa using List.all_eq_true.1 hall t hm)⟩)
    (by kernel_rfl)
end Go.Proofs.YtlgfdnaddchlhaaGreatDoor.asmDatas
namespace Go.Proofs.YtlgfdnaddchlhaaGreatDoor
theorem asmDatas_holds : Rows.AsmDatasCardSaid := asmDatas.proved
end Go.Proofs.YtlgfdnaddchlhaaGreatDoor
