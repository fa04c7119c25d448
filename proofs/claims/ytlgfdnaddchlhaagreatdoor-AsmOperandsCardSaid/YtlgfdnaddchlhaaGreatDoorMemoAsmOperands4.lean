/- What some calls of the law AsmOperands come to, part 4. No condition. -/
import Derived.Test.YtlgfdnaddchlhaaGreatDoorMemo
namespace Go.Proofs.YtlgfdnaddchlhaaGreatDoor.TableAsmOperands
open Go.Dm Go.Proofs.YtlgfdnaddchlhaaGreatDoor.Table
noncomputable def e4_0 : Memo := { f := 16, args := [(.str 10 238223571250159578014817)], v := (.tup [(.agg [.nilslice, .nilslice, .nilslice, .nilslice]), (.int .i64 (Int.ofNat 1)), (.int .i64 (Int.ofNat 3))]), obs := [] }
noncomputable def e4_1 : Memo := { f := 16, args := [(.str 13 3917500148641052875437113631841)], v := (.tup [(.agg [.nilslice, .nilslice, .nilslice, .nilslice]), (.int .i64 (Int.ofNat 1)), (.int .i64 (Int.ofNat 3))]), obs := [] }
noncomputable def e4_2 : Memo := { f := 16, args := [(.str 18 4462188101289941021913798718611020390360161)], v := (.tup [(.agg [.nilslice, .nilslice, .nilslice, .nilslice]), (.int .i64 (Int.ofNat 1)), (.int .i64 (Int.ofNat 7))]), obs := [] }
noncomputable def e4_3 : Memo := { f := 16, args := [(.str 13 3978488062033013846927241931116)], v := (.tup [(.agg [.nilslice, .nilslice, .nilslice, .nilslice]), (.int .i64 (Int.ofNat 1)), (.int .i64 (Int.ofNat 7))]), obs := [] }
noncomputable def e4_4 : Memo := { f := 16, args := [(.str 15 265926490491930666722617698503649644)], v := (.tup [(.agg [.nilslice, .nilslice, .nilslice, .nilslice]), (.int .i64 (Int.ofNat 1)), (.int .i64 (Int.ofNat 7))]), obs := [] }
noncomputable def e4_5 : Memo := { f := 16, args := [(.str 5 212368125545)], v := (.tup [(.agg [(.slice (posOf 65593) 0 1 1 .false 7), .nilslice, .nilslice, .nilslice]), (.int .i64 (Int.ofNat 0)), (.int .i64 (Int.ofNat 0))]), obs := [⟨posOf 65593, 45, [(.str 0 0), (.int .i64 (Int.ofNat 26)), (.int .i64 (Int.ofNat 1)), (.int .i64 (Int.ofNat 0)), (.int .i64 (Int.ofNat 0)), (.int .i64 (Int.ofNat 0)), (.str 0 0)]⟩] }
noncomputable def e4_6 : Memo := { f := 16, args := [(.str 11 60985234240040852073115491)], v := (.tup [(.agg [(.slice (posOf 65623) 0 1 1 .false 7), .nilslice, .nilslice, .nilslice]), (.int .i64 (Int.ofNat 0)), (.int .i64 (Int.ofNat 0))]), obs := [⟨posOf 65623, 45, [(.str 0 0), (.int .i64 (Int.ofNat 21)), (.int .i64 (Int.ofNat 1)), (.int .i64 (Int.ofNat 2)), (.int .i64 (Int.ofNat 0)), (.int .i64 (Int.ofNat 0)), (.str 0 0)]⟩] }
noncomputable def e4_7 : Memo := { f := 16, args := [(.str 7 13839970014883178)], v := (.tup [(.agg [.nilslice, .nilslice, .nilslice, .nilslice]), (.int .i64 (Int.ofNat 1)), (.int .i64 (Int.ofNat 6))]), obs := [] }
noncomputable def e4_8 : Memo := { f := 16, args := [(.str 9 1016889206328455229026)], v := (.tup [(.agg [.nilslice, .nilslice, .nilslice, .nilslice]), (.int .i64 (Int.ofNat 1)), (.int .i64 (Int.ofNat 6))]), obs := [] }
noncomputable def e4_9 : Memo := { f := 16, args := [(.str 4 1953259880)], v := (.tup [(.agg [(.slice (posOf 65573) 0 1 1 .false 7), .nilslice, .nilslice, .nilslice]), (.int .i64 (Int.ofNat 0)), (.int .i64 (Int.ofNat 0))]), obs := [⟨posOf 65573, 45, [(.str 0 0), (.int .i64 (Int.ofNat 33)), (.int .i64 (Int.ofNat 0)), (.int .i64 (Int.ofNat 0)), (.int .i64 (Int.ofNat 0)), (.int .i64 (Int.ofNat 0)), (.str 0 0)]⟩] }
noncomputable def e4_10 : Memo := { f := 16, args := [(.str 12 15921761759014121166286386541)], v := (.tup [(.agg [(.slice (posOf 65653) 0 1 1 .false 7), .nilslice, .nilslice, .nilslice]), (.int .i64 (Int.ofNat 0)), (.int .i64 (Int.ofNat 0))]), obs := [⟨posOf 65653, 45, [(.str 0 0), (.int .i64 (Int.ofNat 14)), (.int .i64 (Int.ofNat 1)), (.int .i64 (Int.ofNat 2)), (.int .i64 (Int.ofNat 3)), (.int .i64 (Int.ofNat 0)), (.str 0 0)]⟩] }
noncomputable def e4_11 : Memo := { f := 16, args := [(.str 1 43)], v := (.tup [(.agg [.nilslice, .nilslice, .nilslice, .nilslice]), (.int .i64 (Int.ofNat 1)), (.int .i64 (Int.ofNat 3))]), obs := [] }
noncomputable def e4_12 : Memo := { f := 16, args := [(.str 3 6579297)], v := (.tup [(.agg [.nilslice, .nilslice, .nilslice, .nilslice]), (.int .i64 (Int.ofNat 1)), (.int .i64 (Int.ofNat 3))]), obs := [] }
noncomputable def t4 : List Memo := [e4_0, e4_1, e4_2, e4_3, e4_4, e4_5, e4_6, e4_7, e4_8, e4_9, e4_10, e4_11, e4_12]
set_option maxRecDepth 100000 in
theorem ok4 (τ : Nat → Nat) : (t4.all fun e => memoOk gm τ (callsM gm [mNames] (fnE Tryz.prog 2000) 60) e) = true := by kernel_rfl
theorem known4 : Known Tryz.prog gm (t4 ++ [mNames]) := Known.all mixed noGor names_known ok4
end Go.Proofs.YtlgfdnaddchlhaaGreatDoor.TableAsmOperands
