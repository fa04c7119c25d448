/- The run of the law sledge/sledgelaw12.AsmOperands: it comes to true, whatever its argument. No condition. -/
import Derived.Test.YtlgfdnaddchlhaaGreatDoorRows
import Derived.Test.YtlgfdnaddchlhaaGreatDoorMemoAsmOperands0
import Derived.Test.YtlgfdnaddchlhaaGreatDoorMemoAsmOperands1
import Derived.Test.YtlgfdnaddchlhaaGreatDoorMemoAsmOperands2
import Derived.Test.YtlgfdnaddchlhaaGreatDoorMemoAsmOperands3
import Derived.Test.YtlgfdnaddchlhaaGreatDoorMemoAsmOperands4
import Derived.Test.YtlgfdnaddchlhaaGreatDoorMemoAsmOperands5
import Derived.Test.YtlgfdnaddchlhaaGreatDoorMemoAsmOperands6
import Derived.Test.YtlgfdnaddchlhaaGreatDoorMemoAsmOperands7
import Derived.Below
namespace Go.Proofs.YtlgfdnaddchlhaaGreatDoor.asmOperands
open Go.RowKit Go.Dm Go.Proofs.YtlgfdnaddchlhaaGreatDoor.Table Go.Proofs.YtlgfdnaddchlhaaGreatDoor.TableAsmOperands
noncomputable def tbl : List Memo := (t0 ++ [mNames]) ++ (t1 ++ [mNames]) ++ (t2 ++ [mNames]) ++ (t3 ++ [mNames]) ++ (t4 ++ [mNames]) ++ (t5 ++ [mNames]) ++ (t6 ++ [mNames]) ++ (t7 ++ [mNames]) ++ [mWakes, mNames]
theorem known : Known Tryz.prog gm tbl := by
  unfold tbl
  exact (((((((known0.app known1).app known2).app known3).app known4).app known5).app known6).app known7).app base_known
theorem hasBody : Tryz.f3.body.isSome = true := by kernel_rfl
set_option maxRecDepth 100000 in
theorem ran0 (τ : Nat → Nat) : okB (callsM gm tbl (fnE Tryz.prog 2000) 60 3 [argS 2 0 .nilslice] (Go.Dm.start gl τ)) = true := by kernel_rfl
set_option maxRecDepth 100000 in
theorem ran1 (τ : Nat → Nat) (n cap : Nat) : okB (callsM gm tbl (fnE Tryz.prog 2000) 60 3 [argS 2 0 (.slice (posOf 65536) 0 n cap false 0)] (Go.Dm.start gl τ)) = true := by kernel_rfl
theorem ran : ∀ c τ, anyS c → okB (callsM gm tbl (fnE Tryz.prog 2000) 60 3 [argS 2 0 c] (Go.Dm.start gl τ)) = true := by
  rintro c τ (rfl | ⟨n, cap, rfl⟩)
  · exact ran0 τ
  · exact ran1 τ n cap
set_option maxRecDepth 100000 in
theorem called (W : World) (base : Nat) (v : Value) (hgl : GOK gl (tyOf W) W) (hval : Value.okWide Tryz.prog W .any base 25 v) : Calls Tryz.prog 3 #[v] W fun e W' => e = .returned (.bool true) ∧ Below W.heap.size W W' :=
  law_sliceM mixed noGor Tryz.func3 hasBody known ran hgl hval (t := 25) (u := 22) (e := 9) (by kernel_rfl) (by kernel_rfl) (by kernel_rfl) (by kernel_rfl)
end Go.Proofs.YtlgfdnaddchlhaaGreatDoor.asmOperands
