/- Closed facts of the row of sledge/sledgelaw12.AsmOperands. No condition. -/
import Derived.Test.YtlgfdnaddchlhaaGreatDoorRows
import Derived.JoinedOf
namespace Go.Proofs.YtlgfdnaddchlhaaGreatDoor.asmOperands
theorem f_in : (Rows.asmOperandsRow.inPlace == Tryz.pinned.checked.prog.inPlace 3) = true := by kernel_rfl
theorem f_un : (Rows.asmOperandsRow.unfollowed == Tryz.pinned.checked.prog.unfollowed 3) = true := by kernel_rfl
theorem f_rec : (Rows.asmOperandsRow.recurses == Tryz.pinned.checked.prog.recurses 3) = true := by kernel_rfl
theorem f_named : (Rows.asmOperandsRow.named == Tryz.pinned.checked.prog.varsNamed 3) = true := by kernel_rfl
theorem closed : joinedFacts Tryz.pinned.checked.prog 3 Tryz.f3 Rows.asmOperandsSpec Rows.asmOperandsRow = true := by
  unfold joinedFacts
  rw [f_in, f_un, f_rec, f_named]
  kernel_rfl
end Go.Proofs.YtlgfdnaddchlhaaGreatDoor.asmOperands
