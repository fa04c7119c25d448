/- Closed facts of the row of sledge/sledgelaw12.AsmGlobals. No condition. -/
import Derived.Test.YtlgfdnaddchlhaaGreatDoorRows
import Derived.JoinedOf
namespace Go.Proofs.YtlgfdnaddchlhaaGreatDoor.asmGlobals
theorem f_in : (Rows.asmGlobalsRow.inPlace == Tryz.pinned.checked.prog.inPlace 5) = true := by kernel_rfl
theorem f_un : (Rows.asmGlobalsRow.unfollowed == Tryz.pinned.checked.prog.unfollowed 5) = true := by kernel_rfl
theorem f_rec : (Rows.asmGlobalsRow.recurses == Tryz.pinned.checked.prog.recurses 5) = true := by kernel_rfl
theorem f_named : (Rows.asmGlobalsRow.named == Tryz.pinned.checked.prog.varsNamed 5) = true := by kernel_rfl
theorem closed : joinedFacts Tryz.pinned.checked.prog 5 Tryz.f5 Rows.asmGlobalsSpec Rows.asmGlobalsRow = true := by
  unfold joinedFacts
  rw [f_in, f_un, f_rec, f_named]
  kernel_rfl
end Go.Proofs.YtlgfdnaddchlhaaGreatDoor.asmGlobals
