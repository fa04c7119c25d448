/- What is known of every run of this seat's laws: the globals, and the list of names. No condition. -/
import Derived.Test.YtlgfdnaddchlhaaGreatDoorProg
import Derived.Test.YtlgfdnaddchlhaaGreatDoorDm12
namespace Go.Proofs.YtlgfdnaddchlhaaGreatDoor.Table
open Go.Dm
noncomputable def spaces : List Int := [0, 0, 0, 0, 0, 0, 0, 0, 0, 1, 1, 1, 1, 1, 0, 0, 0, 0, 0, 0, 0, 0, 0, 0, 0, 0, 0, 0, 0, 0, 0, 0, 1, 0, 0, 0, 0, 0, 0, 0, 0, 0, 0, 0, 0, 0, 0, 0, 0, 0, 0, 0, 0, 0, 0, 0, 0, 0, 0, 0, 0, 0, 0, 0, 0, 0, 0, 0, 0, 0, 0, 0, 0, 0, 0, 0, 0, 0, 0, 0, 0, 0, 0, 0, 0, 0, 0, 0, 0, 0, 0, 0, 0, 0, 0, 0, 0, 0, 0, 0, 0, 0, 0, 0, 0, 0, 0, 0, 0, 0, 0, 0, 0, 0, 0, 0, 0, 0, 0, 0, 0, 0, 0, 0, 0, 0, 0, 0, 0, 0, 0, 0, 0, 0, 0, 0, 0, 0, 0, 0, 0, 0, 0, 0, 0, 0, 0, 0, 0, 0, 0, 0, 0, 0, 0, 0, 0, 0, 0, 0, 0, 0, 0, 0, 0, 0, 0, 0, 0, 0, 0, 0, 0, 0, 0, 0, 0, 0, 0, 0, 0, 0, 0, 0, 0, 0, 0, 0, 0, 0, 0, 0, 0, 0, 0, 0, 0, 0, 0, 0, 0, 0, 0, 0, 0, 0, 0, 0, 0, 0, 0, 0, 0, 0, 0, 0, 0, 0, 0, 0, 0, 0, 0, 0, 0, 0, 0, 0, 0, 0, 0, 0, 0, 0, 0, 0, 0, 0, 0, 0, 0, 0, 0, 0, 0, 0, 0, 0, 0, 0, 0, 0, 0, 0, 0, 0]
noncomputable def gm : List (Nat × List DV) := [(2, spaces.map fun z => .int .u8 z)]
noncomputable def mWakes : Memo := { f := 19, args := [], v := (.bool .true), obs := [] }
noncomputable def gl : List (Nat × List DV) := [(2, spaces.map fun z => .int .u8 z), (8, [.undef]), (9, [.undef])]
noncomputable def mNames : Memo := { f := 165, args := [], v := (.slice (posOf 65537) 0 34 34 .true 1), obs := [⟨posOf 65537, 9, [(.str 3 7368558), (.str 3 6579297), (.str 3 6452595), (.str 3 6581857), (.str 2 29295), (.str 3 7499640), (.str 3 7104627), (.str 3 7497843), (.str 3 7496051), (.str 3 7629939), (.str 4 1970564211), (.str 2 29029), (.str 3 7235949), (.str 3 7889261), (.str 3 7107949), (.str 4 1751938413), (.str 3 7760228), (.str 3 7169394), (.str 4 1684300131), (.str 4 1651864419), (.str 4 1819635043), (.str 4 1785622371), (.str 4 1768186977), (.str 2 26988), (.str 2 25708), (.str 2 29811), (.str 2 28265), (.str 3 7632239), (.str 3 7368042), (.str 2 31330), (.str 3 8023650), (.str 4 1819042147), (.str 3 7628146), (.str 4 1953259880)]⟩] }
theorem mixed : Tryz.prog.follows .mixedOrders = true := by kernel_rfl
theorem noGor : (Tryz.prog.funcs.toList.all fun fn => fn.name != "runtime.NumGoroutine") = true := by kernel_rfl
set_option maxRecDepth 100000 in
theorem names_ok (τ : Nat → Nat) : ([mNames].all fun e => memoOk gm τ (callsM gm [] (fnE Tryz.prog 2000) 60) e) = true := by kernel_rfl
theorem names_known : Known Tryz.prog gm [mNames] := by
  have := Known.all mixed noGor (known_nil (P := Tryz.prog) (gm := gm)) names_ok
  simpa using this
set_option maxRecDepth 100000 in
theorem wakes_ok (τ : Nat → Nat) : ([mWakes].all fun e => memoOk gm τ (callsM gm [mNames] (fnE Tryz.prog 2000) 60) e) = true := by kernel_rfl
theorem base_known : Known Tryz.prog gm [mWakes, mNames] := by
  have := Known.all mixed noGor names_known wakes_ok
  simpa using this
end Go.Proofs.YtlgfdnaddchlhaaGreatDoor.Table
