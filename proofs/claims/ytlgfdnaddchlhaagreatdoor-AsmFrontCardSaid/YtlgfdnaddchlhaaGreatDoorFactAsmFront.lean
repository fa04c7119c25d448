/- Closed facts of the row of sledge/sledgelaw12.AsmFront. No condition. -/
import Derived.Test.YtlgfdnaddchlhaaGreatDoorRows
import Derived.JoinedOf
namespace Go.Proofs.YtlgfdnaddchlhaaGreatDoor.asmFront
theorem f_in : (Rows.asmFrontRow.inPlace == Tryz.pinned.checked.prog.inPlace 7) = true := by kernel_rfl
theorem f_un : (Rows.asmFrontRow.unfollowed == Tryz.pinned.checked.prog.unfollowed 7) = true := by kernel_rfl
theorem f_rec : (Rows.asmFrontRow.recurses == Tryz.pinned.checked.prog.recurses 7) = true := by kernel_rfl
theorem f_named : (Rows.asmFrontRow.named == Tryz.pinned.checked.prog.varsNamed 7) = true := by kernel_rfl
theorem closed : joinedFacts Tryz.pinned.checked.prog 7 Tryz.f7 Rows.asmFrontSpec Rows.asmFrontRow = true := by
  unfold joinedFacts
  rw [f_in, f_un, f_rec, f_named]
  kernel_rfl
end Go.Proofs.YtlgfdnaddchlhaaGreatDoor.asmFront
