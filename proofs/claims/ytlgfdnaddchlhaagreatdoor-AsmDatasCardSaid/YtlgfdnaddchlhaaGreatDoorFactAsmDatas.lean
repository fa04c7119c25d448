/- Closed facts of the row of sledge/sledgelaw12.AsmDatas. No condition. -/
import Derived.Test.YtlgfdnaddchlhaaGreatDoorRows
import Derived.JoinedOf
namespace Go.Proofs.YtlgfdnaddchlhaaGreatDoor.asmDatas
theorem f_in : (Rows.asmDatasRow.inPlace == Tryz.pinned.checked.prog.inPlace 4) = true := by kernel_rfl
theorem f_un : (Rows.asmDatasRow.unfollowed == Tryz.pinned.checked.prog.unfollowed 4) = true := by kernel_rfl
theorem f_rec : (Rows.asmDatasRow.recurses == Tryz.pinned.checked.prog.recurses 4) = true := by kernel_rfl
theorem f_named : (Rows.asmDatasRow.named == Tryz.pinned.checked.prog.varsNamed 4) = true := by kernel_rfl
theorem closed : joinedFacts Tryz.pinned.checked.prog 4 Tryz.f4 Rows.asmDatasSpec Rows.asmDatasRow = true := by
  unfold joinedFacts
  rw [f_in, f_un, f_rec, f_named]
  kernel_rfl
end Go.Proofs.YtlgfdnaddchlhaaGreatDoor.asmDatas
