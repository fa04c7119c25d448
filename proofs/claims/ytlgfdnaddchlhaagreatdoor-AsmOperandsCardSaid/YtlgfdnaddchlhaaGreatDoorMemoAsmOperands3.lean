/- What some calls of the law AsmOperands come to, part 3. No condition. -/
import Derived.Test.YtlgfdnaddchlhaaGreatDoorMemo
namespace Go.Proofs.YtlgfdnaddchlhaaGreatDoor.TableAsmOperands
open Go.Dm Go.Proofs.YtlgfdnaddchlhaaGreatDoor.Table
noncomputable def e3_0 : Memo := { f := 20, args := [(.str 12 15921705090612949030822765665)], v := (.tup [(.agg [.nilslice, .nilslice, .nilslice, .nilslice]), (.int .i64 (Int.ofNat 1)), (.int .i64 (Int.ofNat 3))]), obs := [] }
noncomputable def e3_1 : Memo := { f := 20, args := [(.str 15 256737289741340041244664330151289953)], v := (.tup [(.agg [.nilslice, .nilslice, .nilslice, .nilslice]), (.int .i64 (Int.ofNat 1)), (.int .i64 (Int.ofNat 3))]), obs := [] }
noncomputable def e3_2 : Memo := { f := 20, args := [(.str 18 4375075815358180775267174819108487728227425)], v := (.tup [(.agg [(.slice (posOf 65641) 0 1 1 .false 7), .nilslice, .nilslice, .nilslice]), (.int .i64 (Int.ofNat 0)), (.int .i64 (Int.ofNat 0))]), obs := [⟨posOf 65641, 45, [(.str 0 0), (.int .i64 (Int.ofNat 22)), (.int .i64 (Int.ofNat 1)), (.int .i64 (Int.ofNat 2)), (.int .i64 (Int.ofNat 0)), (.int .i64 (Int.negSucc 8191)), (.str 0 0)]⟩] }
noncomputable def e3_3 : Memo := { f := 20, args := [(.str 13 3899259899518749509333697980780)], v := (.tup [(.agg [(.slice (posOf 65610) 0 1 1 .false 7), .nilslice, .nilslice, .nilslice]), (.int .i64 (Int.ofNat 0)), (.int .i64 (Int.ofNat 0))]), obs := [⟨posOf 65610, 45, [(.str 0 0), (.int .i64 (Int.ofNat 23)), (.int .i64 (Int.ofNat 1)), (.int .i64 (Int.ofNat 0)), (.int .i64 (Int.ofNat 0)), (.int .i64 (Int.ofNat 131071)), (.str 0 0)]⟩] }
noncomputable def e3_4 : Memo := { f := 20, args := [(.str 15 260734193633395802200599054755326316)], v := (.tup [(.agg [.nilslice, .nilslice, .nilslice, .nilslice]), (.int .i64 (Int.ofNat 1)), (.int .i64 (Int.ofNat 7))]), obs := [] }
noncomputable def e3_5 : Memo := { f := 20, args := [(.str 13 3896145682981826809770184569971)], v := (.tup [(.agg [(.slice (posOf 65641) 0 1 1 .false 7), .nilslice, .nilslice, .nilslice]), (.int .i64 (Int.ofNat 0)), (.int .i64 (Int.ofNat 0))]), obs := [⟨posOf 65641, 45, [(.str 0 0), (.int .i64 (Int.ofNat 25)), (.int .i64 (Int.ofNat 0)), (.int .i64 (Int.ofNat 2)), (.int .i64 (Int.ofNat 1)), (.int .i64 (Int.negSucc 0)), (.str 0 0)]⟩] }
noncomputable def e3_6 : Memo := { f := 20, args := [(.str 10 238223571250159579067759)], v := (.tup [(.agg [.nilslice, .nilslice, .nilslice, .nilslice]), (.int .i64 (Int.ofNat 1)), (.int .i64 (Int.ofNat 3))]), obs := [] }
noncomputable def e3_7 : Memo := { f := 20, args := [(.str 5 228177505642)], v := (.tup [(.agg [.nilslice, .nilslice, .nilslice, .nilslice]), (.int .i64 (Int.ofNat 1)), (.int .i64 (Int.ofNat 6))]), obs := [] }
noncomputable def e3_8 : Memo := { f := 20, args := [(.str 8 3562945630183651938)], v := (.tup [(.agg [.nilslice, .nilslice, .nilslice, .nilslice]), (.int .i64 (Int.ofNat 1)), (.int .i64 (Int.ofNat 3))]), obs := [] }
noncomputable def e3_9 : Memo := { f := 20, args := [(.str 6 54366240531826)], v := (.tup [(.agg [.nilslice, .nilslice, .nilslice, .nilslice]), (.int .i64 (Int.ofNat 1)), (.int .i64 (Int.ofNat 3))]), obs := [] }
noncomputable def e3_10 : Memo := { f := 20, args := [(.str 5 189522800494)], v := (.tup [(.agg [.nilslice, .nilslice, .nilslice, .nilslice]), (.int .i64 (Int.ofNat 1)), (.int .i64 (Int.ofNat 3))]), obs := [] }
noncomputable def e3_11 : Memo := { f := 20, args := [(.str 1 53)], v := (.tup [(.agg [.nilslice, .nilslice, .nilslice, .nilslice]), (.int .i64 (Int.ofNat 1)), (.int .i64 (Int.ofNat 3))]), obs := [] }
noncomputable def e3_12 : Memo := { f := 20, args := [(.str 3 7303014)], v := (.tup [(.agg [.nilslice, .nilslice, .nilslice, .nilslice]), (.int .i64 (Int.ofNat 1)), (.int .i64 (Int.ofNat 4))]), obs := [] }
noncomputable def t3 : List Memo := [e3_0, e3_1, e3_2, e3_3, e3_4, e3_5, e3_6, e3_7, e3_8, e3_9, e3_10, e3_11, e3_12]
set_option maxRecDepth 100000 in
theorem ok3 (τ : Nat → Nat) : (t3.all fun e => memoOk gm τ (callsM gm [mNames] (fnE Tryz.prog 2000) 60) e) = true := by kernel_rfl
theorem known3 : Known Tryz.prog gm (t3 ++ [mNames]) := Known.all mixed noGor names_known ok3
end Go.Proofs.YtlgfdnaddchlhaaGreatDoor.TableAsmOperands
