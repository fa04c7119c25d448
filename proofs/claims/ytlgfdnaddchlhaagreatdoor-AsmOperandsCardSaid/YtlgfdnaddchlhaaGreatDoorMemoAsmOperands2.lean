/- What some calls of the law AsmOperands come to, part 2. No condition. -/
import Derived.Test.YtlgfdnaddchlhaaGreatDoorMemo
namespace Go.Proofs.YtlgfdnaddchlhaaGreatDoor.TableAsmOperands
open Go.Dm Go.Proofs.YtlgfdnaddchlhaaGreatDoor.Table
noncomputable def e2_0 : Memo := { f := 16, args := [(.str 12 15921705090612949030822765665)], v := (.tup [(.agg [.nilslice, .nilslice, .nilslice, .nilslice]), (.int .i64 (Int.ofNat 1)), (.int .i64 (Int.ofNat 3))]), obs := [] }
noncomputable def e2_1 : Memo := { f := 16, args := [(.str 15 256737289741340041244664330151289953)], v := (.tup [(.agg [.nilslice, .nilslice, .nilslice, .nilslice]), (.int .i64 (Int.ofNat 1)), (.int .i64 (Int.ofNat 3))]), obs := [] }
noncomputable def e2_2 : Memo := { f := 16, args := [(.str 18 4375075815358180775267174819108487728227425)], v := (.tup [(.agg [(.slice (posOf 65692) 0 1 1 .false 7), .nilslice, .nilslice, .nilslice]), (.int .i64 (Int.ofNat 0)), (.int .i64 (Int.ofNat 0))]), obs := [⟨posOf 65692, 45, [(.str 0 0), (.int .i64 (Int.ofNat 22)), (.int .i64 (Int.ofNat 1)), (.int .i64 (Int.ofNat 2)), (.int .i64 (Int.ofNat 0)), (.int .i64 (Int.negSucc 8191)), (.str 0 0)]⟩] }
noncomputable def e2_3 : Memo := { f := 16, args := [(.str 13 3899259899518749509333697980780)], v := (.tup [(.agg [(.slice (posOf 65639) 0 1 1 .false 7), .nilslice, .nilslice, .nilslice]), (.int .i64 (Int.ofNat 0)), (.int .i64 (Int.ofNat 0))]), obs := [⟨posOf 65639, 45, [(.str 0 0), (.int .i64 (Int.ofNat 23)), (.int .i64 (Int.ofNat 1)), (.int .i64 (Int.ofNat 0)), (.int .i64 (Int.ofNat 0)), (.int .i64 (Int.ofNat 131071)), (.str 0 0)]⟩] }
noncomputable def e2_4 : Memo := { f := 16, args := [(.str 15 260734193633395802200599054755326316)], v := (.tup [(.agg [.nilslice, .nilslice, .nilslice, .nilslice]), (.int .i64 (Int.ofNat 1)), (.int .i64 (Int.ofNat 7))]), obs := [] }
noncomputable def e2_5 : Memo := { f := 16, args := [(.str 13 3896145682981826809770184569971)], v := (.tup [(.agg [(.slice (posOf 65689) 0 1 1 .false 7), .nilslice, .nilslice, .nilslice]), (.int .i64 (Int.ofNat 0)), (.int .i64 (Int.ofNat 0))]), obs := [⟨posOf 65689, 45, [(.str 0 0), (.int .i64 (Int.ofNat 25)), (.int .i64 (Int.ofNat 0)), (.int .i64 (Int.ofNat 2)), (.int .i64 (Int.ofNat 1)), (.int .i64 (Int.negSucc 0)), (.str 0 0)]⟩] }
noncomputable def e2_6 : Memo := { f := 16, args := [(.str 10 238223571250159579067759)], v := (.tup [(.agg [.nilslice, .nilslice, .nilslice, .nilslice]), (.int .i64 (Int.ofNat 1)), (.int .i64 (Int.ofNat 3))]), obs := [] }
noncomputable def e2_7 : Memo := { f := 16, args := [(.str 5 228177505642)], v := (.tup [(.agg [.nilslice, .nilslice, .nilslice, .nilslice]), (.int .i64 (Int.ofNat 1)), (.int .i64 (Int.ofNat 6))]), obs := [] }
noncomputable def e2_8 : Memo := { f := 16, args := [(.str 8 3562945630183651938)], v := (.tup [(.agg [.nilslice, .nilslice, .nilslice, .nilslice]), (.int .i64 (Int.ofNat 1)), (.int .i64 (Int.ofNat 3))]), obs := [] }
noncomputable def e2_9 : Memo := { f := 16, args := [(.str 6 54366240531826)], v := (.tup [(.agg [.nilslice, .nilslice, .nilslice, .nilslice]), (.int .i64 (Int.ofNat 1)), (.int .i64 (Int.ofNat 3))]), obs := [] }
noncomputable def e2_10 : Memo := { f := 16, args := [(.str 5 189522800494)], v := (.tup [(.agg [.nilslice, .nilslice, .nilslice, .nilslice]), (.int .i64 (Int.ofNat 1)), (.int .i64 (Int.ofNat 3))]), obs := [] }
noncomputable def e2_11 : Memo := { f := 16, args := [(.str 1 53)], v := (.tup [(.agg [.nilslice, .nilslice, .nilslice, .nilslice]), (.int .i64 (Int.ofNat 1)), (.int .i64 (Int.ofNat 3))]), obs := [] }
noncomputable def e2_12 : Memo := { f := 16, args := [(.str 3 7303014)], v := (.tup [(.agg [.nilslice, .nilslice, .nilslice, .nilslice]), (.int .i64 (Int.ofNat 1)), (.int .i64 (Int.ofNat 4))]), obs := [] }
noncomputable def t2 : List Memo := [e2_0, e2_1, e2_2, e2_3, e2_4, e2_5, e2_6, e2_7, e2_8, e2_9, e2_10, e2_11, e2_12]
set_option maxRecDepth 100000 in
theorem ok2 (τ : Nat → Nat) : (t2.all fun e => memoOk gm τ (callsM gm [mNames] (fnE Tryz.prog 2000) 60) e) = true := by kernel_rfl
theorem known2 : Known Tryz.prog gm (t2 ++ [mNames]) := Known.all mixed noGor names_known ok2
end Go.Proofs.YtlgfdnaddchlhaaGreatDoor.TableAsmOperands
