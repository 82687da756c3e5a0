/-
  What must hold ahead of each function and each piece, written out.
-/
import Derived.Test.YtbihokcagceoaaaMg3
import Derived.Test.YtbihokcagceoaaaMg4
import Derived.Test.YtbihokcagceoaaaMg1
set_option maxRecDepth 100000
set_option maxHeartbeats 8000000
set_option linter.unusedVariables false
namespace Go.AM
theorem detentref7_Timers_Insert_call {a0 a1 a2 : AV} {H : AH} {K : AV → AH → Prop} (h : andThen (nilCheckA a0) fun v1 => andThen (fieldAddrA 0 v1) fun v2 => andThen (loadA none v2 (AH.bump (AH.bump H 2) 6)) fun v3 => andThen (lenA v3) fun v4 => andThen (binA .geq v4 (AV.s (SV.int .i64 256))) fun v5 => condP v5 (andThen ((partsA [(AV.s (SV.int .i64 0)), (AV.s (SV.int .i64 (-33)))]).map AV.tup) fun v => K v (AH.bump (AH.bump (AH.bump H 2) 6) 2)) (andThen (nilCheckA a0) fun v6 => andThen (fieldAddrA 1 v6) fun v7 => andThen (loadA none v7 (AH.bump (AH.bump (AH.bump H 2) 6) 8)) fun v8 => andThen (binA .add v8 (AV.s (SV.int .i64 1))) fun v9 => andThen (nilCheckA a0) fun v10 => andThen (fieldAddrA 1 v10) fun v11 => andThen (storeA 1 v11 v9 (AH.bump (AH.bump (AH.bump H 2) 6) 8)) fun H12 => andThen (nilCheckA a0) fun v13 => andThen (fieldAddrA 0 v13) fun v14 => andThen (loadA none v14 (AH.bump H12 19)) fun v15 => andThen (nilCheckA a0) fun v16 => andThen (fieldAddrA 1 v16) fun v17 => andThen (loadA none v17 (AH.bump H12 19)) fun v18 => andThen (buildA [.int .i64 0, .int .u64 0, .int .i64 0] [(0, 1, v18), (1, 1, a1), (2, 1, a2)]) fun v19 => andThen (fillA [] []) fun l20 => andThen (AH.new (AH.bump H12 19) (AH.next H12 + 1) (Blk.cells false l20)) fun H21 => andThen (appendA 3 24 (AH.next H12 + 6) (AV.s (SV.slice (some (AH.next H12 + 1, 0)) 0 0 3)) v15 H21) fun r22 => (loadA none v17 r22.2 = some v18) ∧ (andThen (fillA [.int .i64 0, .int .u64 0, .int .i64 0] [(0, 3, v19)]) fun l23 => andThen (AH.new r22.2 (AH.next H12 + 14) (Blk.cells false l23)) fun H24 => andThen (appendA 3 24 (AH.next H12 + 15) r22.1 (AV.s (SV.slice (some (AH.next H12 + 14, 0)) 1 1 3)) H24) fun r25 => andThen (nilCheckA a0) fun v26 => andThen (fieldAddrA 0 v26) fun v27 => andThen (storeA 1 v27 r25.1 r25.2) fun H28 => andThen (nilCheckA a0) fun v29 => andThen (fieldAddrA 1 v29) fun v30 => andThen (loadA none v30 (AH.bump H28 6)) fun v31 => andThen ((partsA [v31, (AV.s (SV.int .i64 0))]).map AV.tup) fun v => K v (AH.bump H28 6)))) : CallP tab noExt F.detentref7_Timers_Insert [a0, a1, a2] H K :=
  CallP_of tab_detentref7_Timers_Insert (cast (by kernel_rfl : (andThen (nilCheckA a0) fun v1 => andThen (fieldAddrA 0 v1) fun v2 => andThen (loadA none v2 (AH.bump (AH.bump H 2) 6)) fun v3 => andThen (lenA v3) fun v4 => andThen (binA .geq v4 (AV.s (SV.int .i64 256))) fun v5 => condP v5 (andThen ((partsA [(AV.s (SV.int .i64 0)), (AV.s (SV.int .i64 (-33)))]).map AV.tup) fun v => K v (AH.bump (AH.bump (AH.bump H 2) 6) 2)) (andThen (nilCheckA a0) fun v6 => andThen (fieldAddrA 1 v6) fun v7 => andThen (loadA none v7 (AH.bump (AH.bump (AH.bump H 2) 6) 8)) fun v8 => andThen (binA .add v8 (AV.s (SV.int .i64 1))) fun v9 => andThen (nilCheckA a0) fun v10 => andThen (fieldAddrA 1 v10) fun v11 => andThen (storeA 1 v11 v9 (AH.bump (AH.bump (AH.bump H 2) 6) 8)) fun H12 => andThen (nilCheckA a0) fun v13 => andThen (fieldAddrA 0 v13) fun v14 => andThen (loadA none v14 (AH.bump H12 19)) fun v15 => andThen (nilCheckA a0) fun v16 => andThen (fieldAddrA 1 v16) fun v17 => andThen (loadA none v17 (AH.bump H12 19)) fun v18 => andThen (buildA [.int .i64 0, .int .u64 0, .int .i64 0] [(0, 1, v18), (1, 1, a1), (2, 1, a2)]) fun v19 => andThen (fillA [] []) fun l20 => andThen (AH.new (AH.bump H12 19) (AH.next H12 + 1) (Blk.cells false l20)) fun H21 => andThen (appendA 3 24 (AH.next H12 + 6) (AV.s (SV.slice (some (AH.next H12 + 1, 0)) 0 0 3)) v15 H21) fun r22 => (loadA none v17 r22.2 = some v18) ∧ (andThen (fillA [.int .i64 0, .int .u64 0, .int .i64 0] [(0, 3, v19)]) fun l23 => andThen (AH.new r22.2 (AH.next H12 + 14) (Blk.cells false l23)) fun H24 => andThen (appendA 3 24 (AH.next H12 + 15) r22.1 (AV.s (SV.slice (some (AH.next H12 + 14, 0)) 1 1 3)) H24) fun r25 => andThen (nilCheckA a0) fun v26 => andThen (fieldAddrA 0 v26) fun v27 => andThen (storeA 1 v27 r25.1 r25.2) fun H28 => andThen (nilCheckA a0) fun v29 => andThen (fieldAddrA 1 v29) fun v30 => andThen (loadA none v30 (AH.bump H28 6)) fun v31 => andThen ((partsA [v31, (AV.s (SV.int .i64 0))]).map AV.tup) fun v => K v (AH.bump H28 6)))) = wpC tab noExt R.detentref7_Timers_Insert.body (([a0, a1, a2] : List AV) ++ List.replicate (R.detentref7_Timers_Insert.ntmps - ([a0, a1, a2] : List AV).length) undef) H (retK R.detentref7_Timers_Insert.results K)) h)
theorem detentref7_Timers_Due_l0_at {T : List AV} (hT : T.length = 45) (H : AH) (K : Ex → List AV → AH → Prop) :
  wpC tab noExt R.detentref7_Timers_Due_l0 T H K = (CallP tab noExt F.detentref7_Timers_least [(sl T 0)] (AH.bump H 3) fun v1 H2 => andThen (binA .lss v1 (AV.s (SV.int .i64 0))) fun v3 => gP (gd v3 false) (AH.bump H2 14) (fun k4 => k4 (sl T 0) (AH.bump H2 14)) fun v5 H6 => gP (gd v3 false) H6 (fun k7 => andThen (nilCheckA v5) fun v10 => k7 v10 H6) fun v8 H9 => gP (gd v3 false) H9 (fun k11 => andThen (fieldAddrA 0 v8) fun v14 => k11 v14 H9) fun v12 H13 => gP (gd v3 false) H13 (fun k15 => andThen (loadA none v12 H13) fun v18 => k15 v18 H13) fun v16 H17 => gP (gd v3 false) H17 (fun k19 => k19 v1 H17) fun v20 H21 => gP (gd v3 false) H21 (fun k22 => andThen (indexSlA 3 v16 v20) fun v25 => k22 v25 H21) fun v23 H24 => gP (gd v3 false) H24 (fun k26 => andThen (fieldAddrA 1 v23) fun v29 => k26 v29 H24) fun v27 H28 => gP (gd v3 false) H28 (fun k30 => andThen (loadA none v27 H28) fun v33 => k30 v33 H28) fun v31 H32 => gP (gd v3 false) H32 (fun k34 => k34 (sl T 1) H32) fun v35 H36 => gP (gd v3 false) H36 (fun k37 => andThen (binA .gtr v31 v35) fun v40 => k37 v40 H36) fun v38 H39 => andThen (pickA v3 (AV.s (SV.bool true)) v38) fun v41 => condP v41 (K Ex.ret [(sl T 0), (sl T 1), (sl T 2), (sl T 3), (sl T 5), (sl T 5), v1, (sl T 0), v1, v1, v3, v3, v5, v8, v12, v16, v20, v23, v27, v31, v35, v38, v41, (sl T 5), (sl T 24), (sl T 25), (sl T 26), (sl T 27), (sl T 28), (sl T 29), (sl T 30), (sl T 31), (sl T 32), (sl T 33), (sl T 34), (sl T 35), (sl T 36), (sl T 37), (sl T 38), (sl T 39), (sl T 40), (sl T 41), (sl T 42), (sl T 43), (sl T 44)] (AH.bump H39 2)) (andThen (nilCheckA (sl T 0)) fun v42 => andThen (fieldAddrA 0 v42) fun v43 => andThen (loadA none v43 (AH.bump H39 12)) fun v44 => andThen (indexSlA 3 v44 v1) fun v45 => andThen (fieldAddrA 2 v45) fun v46 => andThen (loadA none v46 (AH.bump H39 12)) fun v47 => andThen (fillA [.int .i64 0] [(0, 1, v47)]) fun l48 => andThen (AH.new (AH.bump H39 12) (AH.next H39 + 9) (Blk.cells false l48)) fun H49 => andThen (appendA 1 8 (AH.next H39 + 10) (sl T 5) (AV.s (SV.slice (some (AH.next H39 + 9, 0)) 1 1 1)) H49) fun r50 => andThen (nilCheckA (sl T 0)) fun v51 => andThen (fieldAddrA 0 v51) fun v52 => andThen (loadA none v52 (AH.bump r50.2 10)) fun v53 => andThen (indexSlA 3 v53 v1) fun v54 => andThen (fieldAddrA 0 v54) fun v55 => andThen (loadA none v55 (AH.bump r50.2 10)) fun v56 => CallP tab noExt F.detentref7_Timers_Cancel [(sl T 0), v56] (AH.bump r50.2 10) fun v57 H58 => K Ex.norm [(sl T 0), (sl T 1), (sl T 2), (sl T 3), (sl T 4), r50.1, v1, (sl T 0), v1, v1, v3, v3, v5, v8, v12, v16, v20, v23, v27, v31, v35, v38, v41, (sl T 23), (sl T 5), (sl T 0), v42, v43, v44, v1, v45, v46, v47, (AV.s (SV.slice (some (AH.next H39 + 9, 0)) 1 1 1)), r50.1, (sl T 0), (sl T 0), v51, v52, v53, v1, v54, v55, v56, v57] H58)) :=
  (congrArg (fun T => wpC tab noExt R.detentref7_Timers_Due_l0 T H K) (sl_eta hT)).trans (by kernel_rfl)
theorem detentref7_Timers_Due_call {a0 a1 : AV} {H : AH} {K : AV → AH → Prop} (h : loopP tab noExt R.detentref7_Timers_Due_l0 [a0, a1, undef, undef, (AV.s (SV.slice none 0 0 1)), (AV.s (SV.slice none 0 0 1)), undef, undef, undef, undef, undef, undef, undef, undef, undef, undef, undef, undef, undef, undef, undef, undef, undef, undef, undef, undef, undef, undef, undef, undef, undef, undef, undef, undef, undef, undef, undef, undef, undef, undef, undef, undef, undef, undef, undef] (AH.bump (AH.bump H 1) 1) (blockK 0 (retK [.tmp 4] K))) : CallP tab noExt F.detentref7_Timers_Due [a0, a1] H K :=
  CallP_of tab_detentref7_Timers_Due (cast (by kernel_rfl : (loopP tab noExt R.detentref7_Timers_Due_l0 [a0, a1, undef, undef, (AV.s (SV.slice none 0 0 1)), (AV.s (SV.slice none 0 0 1)), undef, undef, undef, undef, undef, undef, undef, undef, undef, undef, undef, undef, undef, undef, undef, undef, undef, undef, undef, undef, undef, undef, undef, undef, undef, undef, undef, undef, undef, undef, undef, undef, undef, undef, undef, undef, undef, undef, undef] (AH.bump (AH.bump H 1) 1) (blockK 0 (retK [.tmp 4] K))) = wpC tab noExt R.detentref7_Timers_Due.body (([a0, a1] : List AV) ++ List.replicate (R.detentref7_Timers_Due.ntmps - ([a0, a1] : List AV).length) undef) H (retK R.detentref7_Timers_Due.results K)) h)
theorem slices_IndexFunc_heap_row_heap_entry_l0_at {T : List AV} (hT : T.length = 19) (H : AH) (K : Ex → List AV → AH → Prop) :
  wpC tab noExt R.slices_IndexFunc_heap_row_heap_entry_l0 T H K = (andThen (binA .lss (sl T 8) (sl T 7)) fun v1 => condP v1 (andThen (indexSlA 3 (sl T 0) (sl T 8)) fun v2 => andThen (loadA (some 3) v2 (AH.bump (AH.bump (AH.bump H 1) 2) 6)) fun v3 => callvP tab noExt (sl T 1) [v3] (AH.bump (AH.bump (AH.bump H 1) 2) 6) fun v4 H5 => condP v4 (K Ex.ret [(sl T 0), (sl T 1), (sl T 2), (sl T 3), (sl T 8), (sl T 8), (sl T 6), (sl T 7), (sl T 8), v1, (sl T 8), (sl T 1), (sl T 0), (sl T 8), v2, v3, v4, (sl T 8), (sl T 18)] (AH.bump H5 2)) (andThen (binA .add (sl T 8) (AV.s (SV.int .i64 1))) fun v6 => K Ex.norm [(sl T 0), (sl T 1), (sl T 2), (sl T 3), (sl T 4), (sl T 8), (sl T 6), (sl T 7), v6, v1, (sl T 8), (sl T 1), (sl T 0), (sl T 8), v2, v3, v4, (sl T 17), v6] (AH.bump H5 2))) (K (Ex.out 0) [(sl T 0), (sl T 1), (sl T 2), (sl T 3), (sl T 4), (sl T 5), (sl T 6), (sl T 7), (sl T 8), v1, (sl T 10), (sl T 11), (sl T 12), (sl T 13), (sl T 14), (sl T 15), (sl T 16), (sl T 17), (sl T 18)] (AH.bump H 1))) :=
  (congrArg (fun T => wpC tab noExt R.slices_IndexFunc_heap_row_heap_entry_l0 T H K) (sl_eta hT)).trans (by kernel_rfl)
theorem slices_IndexFunc_heap_row_heap_entry_s1_at {T : List AV} (hT : T.length = 19) (H : AH) (K : Ex → List AV → AH → Prop) :
  wpC tab noExt R.slices_IndexFunc_heap_row_heap_entry_s1 T H K = (K Ex.ret [(sl T 0), (sl T 1), (sl T 2), (sl T 3), (AV.s (SV.int .i64 (-1))), (sl T 5), (sl T 6), (sl T 7), (sl T 8), (sl T 9), (sl T 10), (sl T 11), (sl T 12), (sl T 13), (sl T 14), (sl T 15), (sl T 16), (sl T 17), (sl T 18)] (AH.bump H 1)) :=
  (congrArg (fun T => wpC tab noExt R.slices_IndexFunc_heap_row_heap_entry_s1 T H K) (sl_eta hT)).trans (by kernel_rfl)
theorem slices_IndexFunc_heap_row_heap_entry_call {a0 a1 : AV} {H : AH} {K : AV → AH → Prop} (h : andThen (lenA a0) fun v1 => loopP tab noExt R.slices_IndexFunc_heap_row_heap_entry_l0 [a0, a1, undef, undef, (AV.s (SV.int .i64 0)), undef, a0, v1, (AV.s (SV.int .i64 0)), undef, undef, undef, undef, undef, undef, undef, undef, undef, undef] (AH.bump (AH.bump H 1) 3) (blockK 0 (seqK (fun T H => wpC tab noExt R.slices_IndexFunc_heap_row_heap_entry_s1 T H (retK [.tmp 4] K)) (retK [.tmp 4] K)))) : CallP tab noExt F.slices_IndexFunc_heap_row_heap_entry [a0, a1] H K :=
  CallP_of tab_slices_IndexFunc_heap_row_heap_entry (cast (by kernel_rfl : (andThen (lenA a0) fun v1 => loopP tab noExt R.slices_IndexFunc_heap_row_heap_entry_l0 [a0, a1, undef, undef, (AV.s (SV.int .i64 0)), undef, a0, v1, (AV.s (SV.int .i64 0)), undef, undef, undef, undef, undef, undef, undef, undef, undef, undef] (AH.bump (AH.bump H 1) 3) (blockK 0 (seqK (fun T H => wpC tab noExt R.slices_IndexFunc_heap_row_heap_entry_s1 T H (retK [.tmp 4] K)) (retK [.tmp 4] K)))) = wpC tab noExt R.slices_IndexFunc_heap_row_heap_entry.body (([a0, a1] : List AV) ++ List.replicate (R.slices_IndexFunc_heap_row_heap_entry.ntmps - ([a0, a1] : List AV).length) undef) H (retK R.slices_IndexFunc_heap_row_heap_entry.results K)) h)
theorem heap_Timers_find_1_call {a0 a1 : AV} {H : AH} {K : AV → AH → Prop} (h : andThen (AV.cells? a0) fun l1 => andThen (AH.new (AH.bump H 2) (AH.next H + 0) (Blk.cells false l1)) fun H2 => andThen (fieldAddrA 1 (AV.s (SV.ptr (some (AH.next H + 0, 0))))) fun v3 => andThen (loadA none v3 (AH.bump H2 5)) fun v4 => andThen (loadA none a1 (AH.bump H2 5)) fun v5 => andThen (binA .eql v4 v5) fun v6 => andThen (some v6) fun v => K v (AH.bump H2 5)) : CallP tab noExt F.heap_Timers_find_1 [a0, a1] H K :=
  CallP_of tab_heap_Timers_find_1 (cast (by kernel_rfl : (andThen (AV.cells? a0) fun l1 => andThen (AH.new (AH.bump H 2) (AH.next H + 0) (Blk.cells false l1)) fun H2 => andThen (fieldAddrA 1 (AV.s (SV.ptr (some (AH.next H + 0, 0))))) fun v3 => andThen (loadA none v3 (AH.bump H2 5)) fun v4 => andThen (loadA none a1 (AH.bump H2 5)) fun v5 => andThen (binA .eql v4 v5) fun v6 => andThen (some v6) fun v => K v (AH.bump H2 5)) = wpC tab noExt R.heap_Timers_find_1.body (([a0, a1] : List AV) ++ List.replicate (R.heap_Timers_find_1.ntmps - ([a0, a1] : List AV).length) undef) H (retK R.heap_Timers_find_1.results K)) h)
theorem heap_row_up_l0_at {T : List AV} (hT : T.length = 35) (H : AH) (K : Ex → List AV → AH → Prop) :
  wpC tab noExt R.heap_row_up_l0 T H K = (andThen (binA .gtr (sl T 1) (AV.s (SV.int .i64 0))) fun v1 => gP (gd v1 true) (AH.bump H 10) (fun k2 => k2 (sl T 0) (AH.bump H 10)) fun v3 H4 => gP (gd v1 true) H4 (fun k5 => k5 (sl T 1) H4) fun v6 H7 => gP (gd v1 true) H7 (fun k8 => k8 (sl T 1) H7) fun v9 H10 => gP (gd v1 true) H10 (fun k11 => andThen (binA .sub v9 (AV.s (SV.int .i64 1))) fun v14 => k11 v14 H10) fun v12 H13 => gP (gd v1 true) H13 (fun k15 => andThen (binA .quo v12 (AV.s (SV.int .i64 2))) fun v18 => k15 v18 H13) fun v16 H17 => gP (gd v1 true) H17 (fun k19 => CallP tab noExt F.heap_row_ahead [v3, v6, v16] H17 fun v22 H23 => k19 v22 H23) fun v20 H21 => andThen (pickA v1 v20 (AV.s (SV.bool false))) fun v24 => condP v24 (andThen (binA .sub (sl T 1) (AV.s (SV.int .i64 1))) fun v25 => andThen (binA .quo v25 (AV.s (SV.int .i64 2))) fun v26 => andThen (binA .sub (sl T 1) (AV.s (SV.int .i64 1))) fun v27 => andThen (binA .quo v27 (AV.s (SV.int .i64 2))) fun v28 => andThen (indexSlA 3 (sl T 0) v28) fun v29 => andThen (loadA (some 3) v29 (AH.bump H21 20)) fun v30 => andThen (indexSlA 3 (sl T 0) (sl T 1)) fun v31 => andThen (loadA (some 3) v31 (AH.bump H21 20)) fun v32 => andThen (indexSlA 3 (sl T 0) (sl T 1)) fun v33 => andThen (storeA 3 v33 v30 (AH.bump H21 20)) fun H34 => andThen (indexSlA 3 (sl T 0) v26) fun v35 => andThen (storeA 3 v35 v32 H34) fun H36 => andThen (binA .sub (sl T 1) (AV.s (SV.int .i64 1))) fun v37 => andThen (binA .quo v37 (AV.s (SV.int .i64 2))) fun v38 => K Ex.norm [(sl T 0), v38, (sl T 2), (sl T 3), (sl T 1), v1, v1, v3, v6, v9, v12, v16, v20, v24, (sl T 0), (sl T 1), (sl T 0), (sl T 1), v25, v26, (sl T 0), (sl T 1), v27, v28, v29, v30, (sl T 0), (sl T 1), v31, v32, v33, v35, (sl T 1), v37, v38] (AH.bump H36 4)) (K (Ex.out 0) [(sl T 0), (sl T 1), (sl T 2), (sl T 3), (sl T 1), v1, v1, v3, v6, v9, v12, v16, v20, v24, (sl T 14), (sl T 15), (sl T 16), (sl T 17), (sl T 18), (sl T 19), (sl T 20), (sl T 21), (sl T 22), (sl T 23), (sl T 24), (sl T 25), (sl T 26), (sl T 27), (sl T 28), (sl T 29), (sl T 30), (sl T 31), (sl T 32), (sl T 33), (sl T 34)] H21)) :=
  (congrArg (fun T => wpC tab noExt R.heap_row_up_l0 T H K) (sl_eta hT)).trans (by kernel_rfl)
theorem heap_row_up_call {a0 a1 : AV} {H : AH} {K : AV → AH → Prop} (h : loopP tab noExt R.heap_row_up_l0 [a0, a1, undef, undef, undef, undef, undef, undef, undef, undef, undef, undef, undef, undef, undef, undef, undef, undef, undef, undef, undef, undef, undef, undef, undef, undef, undef, undef, undef, undef, undef, undef, undef, undef, undef] H (blockK 0 (retK [] K))) : CallP tab noExt F.heap_row_up [a0, a1] H K :=
  CallP_of tab_heap_row_up (cast (by kernel_rfl : (loopP tab noExt R.heap_row_up_l0 [a0, a1, undef, undef, undef, undef, undef, undef, undef, undef, undef, undef, undef, undef, undef, undef, undef, undef, undef, undef, undef, undef, undef, undef, undef, undef, undef, undef, undef, undef, undef, undef, undef, undef, undef] H (blockK 0 (retK [] K))) = wpC tab noExt R.heap_row_up.body (([a0, a1] : List AV) ++ List.replicate (R.heap_row_up.ntmps - ([a0, a1] : List AV).length) undef) H (retK R.heap_row_up.results K)) h)
theorem heap_row_down_s0_at {T : List AV} (hT : T.length = 48) (H : AH) (K : Ex → List AV → AH → Prop) :
  wpC tab noExt R.heap_row_down_s0 T H K = (andThen (lenA (sl T 0)) fun v1 => andThen (binA .geq (sl T 4) v1) fun v2 => gP (gd v2 false) (AH.bump H 11) (fun k3 => k3 (sl T 0) (AH.bump H 11)) fun v4 H5 => gP (gd v2 false) H5 (fun k6 => k6 (sl T 4) H5) fun v7 H8 => gP (gd v2 false) H8 (fun k9 => k9 (sl T 1) H8) fun v10 H11 => gP (gd v2 false) H11 (fun k12 => CallP tab noExt F.heap_row_ahead [v4, v7, v10] H11 fun v15 H16 => k12 v15 H16) fun v13 H14 => gP (gd v2 false) H14 (fun k17 => andThen (unA .not v13) fun v20 => k17 v20 H14) fun v18 H19 => andThen (pickA v2 (AV.s (SV.bool true)) v18) fun v21 => condP v21 (K Ex.ret [(sl T 0), (sl T 1), (sl T 2), (sl T 3), (sl T 4), (sl T 5), (sl T 6), (sl T 7), (sl T 8), (sl T 9), (sl T 10), (sl T 11), (sl T 12), (sl T 13), (sl T 14), (sl T 15), (sl T 16), (sl T 17), (sl T 18), (sl T 19), (sl T 20), (sl T 21), (sl T 4), (sl T 0), v1, v2, v2, v4, v7, v10, v13, v18, v21, (sl T 33), (sl T 34), (sl T 35), (sl T 36), (sl T 37), (sl T 38), (sl T 39), (sl T 40), (sl T 41), (sl T 42), (sl T 43), (sl T 44), (sl T 45), (sl T 46), (sl T 47)] H19) (andThen (indexSlA 3 (sl T 0) (sl T 4)) fun v22 => andThen (loadA (some 3) v22 (AH.bump H19 16)) fun v23 => andThen (indexSlA 3 (sl T 0) (sl T 1)) fun v24 => andThen (loadA (some 3) v24 (AH.bump H19 16)) fun v25 => andThen (indexSlA 3 (sl T 0) (sl T 1)) fun v26 => andThen (storeA 3 v26 v23 (AH.bump H19 16)) fun H27 => andThen (indexSlA 3 (sl T 0) (sl T 4)) fun v28 => andThen (storeA 3 v28 v25 H27) fun H29 => K Ex.norm [(sl T 0), (sl T 4), (sl T 2), (sl T 3), (sl T 4), (sl T 5), (sl T 6), (sl T 7), (sl T 8), (sl T 9), (sl T 10), (sl T 11), (sl T 12), (sl T 13), (sl T 14), (sl T 15), (sl T 16), (sl T 17), (sl T 18), (sl T 19), (sl T 20), (sl T 21), (sl T 4), (sl T 0), v1, v2, v2, v4, v7, v10, v13, v18, v21, (sl T 0), (sl T 1), (sl T 0), (sl T 4), (sl T 0), (sl T 4), v22, v23, (sl T 0), (sl T 1), v24, v25, v26, v28, (sl T 4)] (AH.bump H29 2))) :=
  (congrArg (fun T => wpC tab noExt R.heap_row_down_s0 T H K) (sl_eta hT)).trans (by kernel_rfl)
theorem heap_row_down_l1_gen (c_heap_row_down_s0 : RC) {T : List AV} (hT : T.length = 48) (H : AH) (K : Ex → List AV → AH → Prop) :
  wpC tab noExt (RC.block 1 (RC.seq (RC.region 4 [
    ⟨(some 5), .move (.t 1), none, 0, []⟩,
    ⟨(some 6), .bin .mul (.c (.s (.int .i64 2))) (.t 5), none, 1, []⟩,
    ⟨(some 7), .bin .add (.t 6) (.c (.s (.int .i64 1))), none, 2, []⟩,
    ⟨(some 4), .move (.t 7), none, 3, []⟩]) (RC.seq (RC.seq (RC.region 12 [
    ⟨(some 8), .move (.t 4), none, 0, []⟩,
    ⟨(some 9), .bin .add (.t 8) (.c (.s (.int .i64 1))), none, 1, []⟩,
    ⟨(some 10), .move (.t 0), none, 2, []⟩,
    ⟨(some 11), .len (.t 10), none, 3, []⟩,
    ⟨(some 12), .bin .lss (.t 9) (.t 11), none, 4, []⟩,
    ⟨(some 13), .move (.t 12), none, 5, []⟩,
    ⟨(some 14), .move (.t 0), (some (13, true)), 6, []⟩,
    ⟨(some 15), .move (.t 4), (some (13, true)), 7, []⟩,
    ⟨(some 16), .bin .add (.t 15) (.c (.s (.int .i64 1))), (some (13, true)), 8, []⟩,
    ⟨(some 17), .move (.t 4), (some (13, true)), 9, []⟩,
    ⟨(some 18), .call F.heap_row_ahead [(.t 14), (.t 16), (.t 17)], (some (13, true)), 10, []⟩,
    ⟨(some 19), .pick (.t 13) (.t 18) (.c (.s (.bool false))), none, 11, []⟩]) (RC.cond (.t 19) (RC.region 3 [
    ⟨(some 20), .move (.t 4), none, 0, []⟩,
    ⟨(some 21), .bin .add (.t 20) (.c (.s (.int .i64 1))), none, 1, []⟩,
    ⟨(some 4), .move (.t 21), none, 2, []⟩]) (RC.skip))) c_heap_row_down_s0))) T H K = (andThen (binA .mul (AV.s (SV.int .i64 2)) (sl T 1)) fun v1 => andThen (binA .add v1 (AV.s (SV.int .i64 1))) fun v2 => andThen (binA .add v2 (AV.s (SV.int .i64 1))) fun v3 => andThen (lenA (sl T 0)) fun v4 => andThen (binA .lss v3 v4) fun v5 => gP (gd v5 true) (AH.bump (AH.bump H 4) 12) (fun k6 => k6 (sl T 0) (AH.bump (AH.bump H 4) 12)) fun v7 H8 => gP (gd v5 true) H8 (fun k9 => k9 v2 H8) fun v10 H11 => gP (gd v5 true) H11 (fun k12 => andThen (binA .add v10 (AV.s (SV.int .i64 1))) fun v15 => k12 v15 H11) fun v13 H14 => gP (gd v5 true) H14 (fun k16 => k16 v2 H14) fun v17 H18 => gP (gd v5 true) H18 (fun k19 => CallP tab noExt F.heap_row_ahead [v7, v13, v17] H18 fun v22 H23 => k19 v22 H23) fun v20 H21 => andThen (pickA v5 v20 (AV.s (SV.bool false))) fun v24 => condP v24 (andThen (binA .add v2 (AV.s (SV.int .i64 1))) fun v25 => wpC tab noExt c_heap_row_down_s0 [(sl T 0), (sl T 1), (sl T 2), (sl T 3), v25, (sl T 1), v1, v2, v2, v3, (sl T 0), v4, v5, v5, v7, v10, v13, v17, v20, v24, v2, v25, (sl T 22), (sl T 23), (sl T 24), (sl T 25), (sl T 26), (sl T 27), (sl T 28), (sl T 29), (sl T 30), (sl T 31), (sl T 32), (sl T 33), (sl T 34), (sl T 35), (sl T 36), (sl T 37), (sl T 38), (sl T 39), (sl T 40), (sl T 41), (sl T 42), (sl T 43), (sl T 44), (sl T 45), (sl T 46), (sl T 47)] (AH.bump H21 3) (blockK 1 K)) (wpC tab noExt c_heap_row_down_s0 [(sl T 0), (sl T 1), (sl T 2), (sl T 3), v2, (sl T 1), v1, v2, v2, v3, (sl T 0), v4, v5, v5, v7, v10, v13, v17, v20, v24, (sl T 20), (sl T 21), (sl T 22), (sl T 23), (sl T 24), (sl T 25), (sl T 26), (sl T 27), (sl T 28), (sl T 29), (sl T 30), (sl T 31), (sl T 32), (sl T 33), (sl T 34), (sl T 35), (sl T 36), (sl T 37), (sl T 38), (sl T 39), (sl T 40), (sl T 41), (sl T 42), (sl T 43), (sl T 44), (sl T 45), (sl T 46), (sl T 47)] H21 (blockK 1 K))) :=
  (congrArg (fun T => wpC tab noExt (RC.block 1 (RC.seq (RC.region 4 [
    ⟨(some 5), .move (.t 1), none, 0, []⟩,
    ⟨(some 6), .bin .mul (.c (.s (.int .i64 2))) (.t 5), none, 1, []⟩,
    ⟨(some 7), .bin .add (.t 6) (.c (.s (.int .i64 1))), none, 2, []⟩,
    ⟨(some 4), .move (.t 7), none, 3, []⟩]) (RC.seq (RC.seq (RC.region 12 [
    ⟨(some 8), .move (.t 4), none, 0, []⟩,
    ⟨(some 9), .bin .add (.t 8) (.c (.s (.int .i64 1))), none, 1, []⟩,
    ⟨(some 10), .move (.t 0), none, 2, []⟩,
    ⟨(some 11), .len (.t 10), none, 3, []⟩,
    ⟨(some 12), .bin .lss (.t 9) (.t 11), none, 4, []⟩,
    ⟨(some 13), .move (.t 12), none, 5, []⟩,
    ⟨(some 14), .move (.t 0), (some (13, true)), 6, []⟩,
    ⟨(some 15), .move (.t 4), (some (13, true)), 7, []⟩,
    ⟨(some 16), .bin .add (.t 15) (.c (.s (.int .i64 1))), (some (13, true)), 8, []⟩,
    ⟨(some 17), .move (.t 4), (some (13, true)), 9, []⟩,
    ⟨(some 18), .call F.heap_row_ahead [(.t 14), (.t 16), (.t 17)], (some (13, true)), 10, []⟩,
    ⟨(some 19), .pick (.t 13) (.t 18) (.c (.s (.bool false))), none, 11, []⟩]) (RC.cond (.t 19) (RC.region 3 [
    ⟨(some 20), .move (.t 4), none, 0, []⟩,
    ⟨(some 21), .bin .add (.t 20) (.c (.s (.int .i64 1))), none, 1, []⟩,
    ⟨(some 4), .move (.t 21), none, 2, []⟩]) (RC.skip))) c_heap_row_down_s0))) T H K) (sl_eta hT)).trans (by kernel_rfl)
theorem heap_row_down_l1_at {T : List AV} (hT : T.length = 48) (H : AH) (K : Ex → List AV → AH → Prop) :
  wpC tab noExt R.heap_row_down_l1 T H K = (andThen (binA .mul (AV.s (SV.int .i64 2)) (sl T 1)) fun v1 => andThen (binA .add v1 (AV.s (SV.int .i64 1))) fun v2 => andThen (binA .add v2 (AV.s (SV.int .i64 1))) fun v3 => andThen (lenA (sl T 0)) fun v4 => andThen (binA .lss v3 v4) fun v5 => gP (gd v5 true) (AH.bump (AH.bump H 4) 12) (fun k6 => k6 (sl T 0) (AH.bump (AH.bump H 4) 12)) fun v7 H8 => gP (gd v5 true) H8 (fun k9 => k9 v2 H8) fun v10 H11 => gP (gd v5 true) H11 (fun k12 => andThen (binA .add v10 (AV.s (SV.int .i64 1))) fun v15 => k12 v15 H11) fun v13 H14 => gP (gd v5 true) H14 (fun k16 => k16 v2 H14) fun v17 H18 => gP (gd v5 true) H18 (fun k19 => CallP tab noExt F.heap_row_ahead [v7, v13, v17] H18 fun v22 H23 => k19 v22 H23) fun v20 H21 => andThen (pickA v5 v20 (AV.s (SV.bool false))) fun v24 => condP v24 (andThen (binA .add v2 (AV.s (SV.int .i64 1))) fun v25 => wpC tab noExt R.heap_row_down_s0 [(sl T 0), (sl T 1), (sl T 2), (sl T 3), v25, (sl T 1), v1, v2, v2, v3, (sl T 0), v4, v5, v5, v7, v10, v13, v17, v20, v24, v2, v25, (sl T 22), (sl T 23), (sl T 24), (sl T 25), (sl T 26), (sl T 27), (sl T 28), (sl T 29), (sl T 30), (sl T 31), (sl T 32), (sl T 33), (sl T 34), (sl T 35), (sl T 36), (sl T 37), (sl T 38), (sl T 39), (sl T 40), (sl T 41), (sl T 42), (sl T 43), (sl T 44), (sl T 45), (sl T 46), (sl T 47)] (AH.bump H21 3) (blockK 1 K)) (wpC tab noExt R.heap_row_down_s0 [(sl T 0), (sl T 1), (sl T 2), (sl T 3), v2, (sl T 1), v1, v2, v2, v3, (sl T 0), v4, v5, v5, v7, v10, v13, v17, v20, v24, (sl T 20), (sl T 21), (sl T 22), (sl T 23), (sl T 24), (sl T 25), (sl T 26), (sl T 27), (sl T 28), (sl T 29), (sl T 30), (sl T 31), (sl T 32), (sl T 33), (sl T 34), (sl T 35), (sl T 36), (sl T 37), (sl T 38), (sl T 39), (sl T 40), (sl T 41), (sl T 42), (sl T 43), (sl T 44), (sl T 45), (sl T 46), (sl T 47)] H21 (blockK 1 K))) := heap_row_down_l1_gen R.heap_row_down_s0 hT H K
theorem heap_row_down_call {a0 a1 : AV} {H : AH} {K : AV → AH → Prop} (h : loopP tab noExt R.heap_row_down_l1 [a0, a1, undef, undef, undef, undef, undef, undef, undef, undef, undef, undef, undef, undef, undef, undef, undef, undef, undef, undef, undef, undef, undef, undef, undef, undef, undef, undef, undef, undef, undef, undef, undef, undef, undef, undef, undef, undef, undef, undef, undef, undef, undef, undef, undef, undef, undef, undef] H (blockK 0 (retK [] K))) : CallP tab noExt F.heap_row_down [a0, a1] H K :=
  CallP_of tab_heap_row_down (cast (by kernel_rfl : (loopP tab noExt R.heap_row_down_l1 [a0, a1, undef, undef, undef, undef, undef, undef, undef, undef, undef, undef, undef, undef, undef, undef, undef, undef, undef, undef, undef, undef, undef, undef, undef, undef, undef, undef, undef, undef, undef, undef, undef, undef, undef, undef, undef, undef, undef, undef, undef, undef, undef, undef, undef, undef, undef, undef] H (blockK 0 (retK [] K))) = wpC tab noExt R.heap_row_down.body (([a0, a1] : List AV) ++ List.replicate (R.heap_row_down.ntmps - ([a0, a1] : List AV).length) undef) H (retK R.heap_row_down.results K)) h)
theorem slices_insertionSortCmpFunc_cyc_Fired_l0_at {T : List AV} (hT : T.length = 53) (H : AH) (K : Ex → List AV → AH → Prop) :
  wpC tab noExt R.slices_insertionSortCmpFunc_cyc_Fired_l0 T H K = (andThen (binA .gtr (sl T 9) (sl T 1)) fun v1 => gP (gd v1 true) (AH.bump H 17) (fun k2 => k2 (sl T 3) (AH.bump H 17)) fun v3 H4 => gP (gd v1 true) H4 (fun k5 => k5 (sl T 0) H4) fun v6 H7 => gP (gd v1 true) H7 (fun k8 => k8 (sl T 9) H7) fun v9 H10 => gP (gd v1 true) H10 (fun k11 => andThen (indexSlA 3 v6 v9) fun v14 => k11 v14 H10) fun v12 H13 => gP (gd v1 true) H13 (fun k15 => andThen (loadA (some 3) v12 H13) fun v18 => k15 v18 H13) fun v16 H17 => gP (gd v1 true) H17 (fun k19 => k19 (sl T 0) H17) fun v20 H21 => gP (gd v1 true) H21 (fun k22 => k22 (sl T 9) H21) fun v23 H24 => gP (gd v1 true) H24 (fun k25 => andThen (binA .sub v23 (AV.s (SV.int .i64 1))) fun v28 => k25 v28 H24) fun v26 H27 => gP (gd v1 true) H27 (fun k29 => andThen (indexSlA 3 v20 v26) fun v32 => k29 v32 H27) fun v30 H31 => gP (gd v1 true) H31 (fun k33 => andThen (loadA (some 3) v30 H31) fun v36 => k33 v36 H31) fun v34 H35 => gP (gd v1 true) H35 (fun k37 => callvP tab noExt v3 [v16, v34] H35 fun v40 H41 => k37 v40 H41) fun v38 H39 => gP (gd v1 true) H39 (fun k42 => andThen (binA .lss v38 (AV.s (SV.int .i64 0))) fun v45 => k42 v45 H39) fun v43 H44 => andThen (pickA v1 v43 (AV.s (SV.bool false))) fun v46 => condP v46 (andThen (binA .sub (sl T 9) (AV.s (SV.int .i64 1))) fun v47 => andThen (binA .sub (sl T 9) (AV.s (SV.int .i64 1))) fun v48 => andThen (indexSlA 3 (sl T 0) v48) fun v49 => andThen (loadA (some 3) v49 (AH.bump H44 18)) fun v50 => andThen (indexSlA 3 (sl T 0) (sl T 9)) fun v51 => andThen (loadA (some 3) v51 (AH.bump H44 18)) fun v52 => andThen (indexSlA 3 (sl T 0) (sl T 9)) fun v53 => andThen (storeA 3 v53 v50 (AH.bump H44 18)) fun H54 => andThen (indexSlA 3 (sl T 0) v47) fun v55 => andThen (storeA 3 v55 v52 H54) fun H56 => andThen (binA .sub (sl T 9) (AV.s (SV.int .i64 1))) fun v57 => K Ex.norm [(sl T 0), (sl T 1), (sl T 2), (sl T 3), (sl T 4), (sl T 5), (sl T 6), (sl T 7), (sl T 8), v57, (sl T 10), (sl T 11), (sl T 12), (sl T 13), (sl T 14), (sl T 15), (sl T 16), (sl T 17), (sl T 9), (sl T 1), v1, v1, v3, v6, v9, v12, v16, v20, v23, v26, v30, v34, v38, v43, v46, (sl T 9), v57, (sl T 0), (sl T 9), (sl T 0), (sl T 9), v47, (sl T 0), (sl T 9), v48, v49, v50, (sl T 0), (sl T 9), v51, v52, v53, v55] (AH.bump H56 3)) (K (Ex.out 2) [(sl T 0), (sl T 1), (sl T 2), (sl T 3), (sl T 4), (sl T 5), (sl T 6), (sl T 7), (sl T 8), (sl T 9), (sl T 10), (sl T 11), (sl T 12), (sl T 13), (sl T 14), (sl T 15), (sl T 16), (sl T 17), (sl T 9), (sl T 1), v1, v1, v3, v6, v9, v12, v16, v20, v23, v26, v30, v34, v38, v43, v46, (sl T 35), (sl T 36), (sl T 37), (sl T 38), (sl T 39), (sl T 40), (sl T 41), (sl T 42), (sl T 43), (sl T 44), (sl T 45), (sl T 46), (sl T 47), (sl T 48), (sl T 49), (sl T 50), (sl T 51), (sl T 52)] H44)) :=
  (congrArg (fun T => wpC tab noExt R.slices_insertionSortCmpFunc_cyc_Fired_l0 T H K) (sl_eta hT)).trans (by kernel_rfl)
theorem slices_insertionSortCmpFunc_cyc_Fired_s1_at {T : List AV} (hT : T.length = 53) (H : AH) (K : Ex → List AV → AH → Prop) :
  wpC tab noExt R.slices_insertionSortCmpFunc_cyc_Fired_s1 T H K = (andThen (binA .add (sl T 8) (AV.s (SV.int .i64 1))) fun v1 => K Ex.norm [(sl T 0), (sl T 1), (sl T 2), (sl T 3), (sl T 4), (sl T 5), (sl T 6), (sl T 7), v1, (sl T 9), (sl T 10), (sl T 11), (sl T 12), (sl T 13), (sl T 14), (sl T 8), v1, (sl T 17), (sl T 18), (sl T 19), (sl T 20), (sl T 21), (sl T 22), (sl T 23), (sl T 24), (sl T 25), (sl T 26), (sl T 27), (sl T 28), (sl T 29), (sl T 30), (sl T 31), (sl T 32), (sl T 33), (sl T 34), (sl T 35), (sl T 36), (sl T 37), (sl T 38), (sl T 39), (sl T 40), (sl T 41), (sl T 42), (sl T 43), (sl T 44), (sl T 45), (sl T 46), (sl T 47), (sl T 48), (sl T 49), (sl T 50), (sl T 51), (sl T 52)] (AH.bump H 3)) :=
  (congrArg (fun T => wpC tab noExt R.slices_insertionSortCmpFunc_cyc_Fired_s1 T H K) (sl_eta hT)).trans (by kernel_rfl)
theorem slices_insertionSortCmpFunc_cyc_Fired_l2_at {T : List AV} (hT : T.length = 53) (H : AH) (K : Ex → List AV → AH → Prop) :
  wpC tab noExt R.slices_insertionSortCmpFunc_cyc_Fired_l2 T H K = (andThen (binA .lss (sl T 8) (sl T 2)) fun v1 => condP v1 (loopP tab noExt R.slices_insertionSortCmpFunc_cyc_Fired_l0 [(sl T 0), (sl T 1), (sl T 2), (sl T 3), (sl T 4), (sl T 5), (sl T 6), (sl T 7), (sl T 8), (sl T 8), (sl T 10), (sl T 11), (sl T 8), (sl T 2), v1, (sl T 15), (sl T 16), (sl T 8), (sl T 18), (sl T 19), (sl T 20), (sl T 21), (sl T 22), (sl T 23), (sl T 24), (sl T 25), (sl T 26), (sl T 27), (sl T 28), (sl T 29), (sl T 30), (sl T 31), (sl T 32), (sl T 33), (sl T 34), (sl T 35), (sl T 36), (sl T 37), (sl T 38), (sl T 39), (sl T 40), (sl T 41), (sl T 42), (sl T 43), (sl T 44), (sl T 45), (sl T 46), (sl T 47), (sl T 48), (sl T 49), (sl T 50), (sl T 51), (sl T 52)] (AH.bump (AH.bump H 3) 2) (blockK 2 (blockK 1 (seqK (fun T H => wpC tab noExt R.slices_insertionSortCmpFunc_cyc_Fired_s1 T H K) K)))) (K (Ex.out 0) [(sl T 0), (sl T 1), (sl T 2), (sl T 3), (sl T 4), (sl T 5), (sl T 6), (sl T 7), (sl T 8), (sl T 9), (sl T 10), (sl T 11), (sl T 8), (sl T 2), v1, (sl T 15), (sl T 16), (sl T 17), (sl T 18), (sl T 19), (sl T 20), (sl T 21), (sl T 22), (sl T 23), (sl T 24), (sl T 25), (sl T 26), (sl T 27), (sl T 28), (sl T 29), (sl T 30), (sl T 31), (sl T 32), (sl T 33), (sl T 34), (sl T 35), (sl T 36), (sl T 37), (sl T 38), (sl T 39), (sl T 40), (sl T 41), (sl T 42), (sl T 43), (sl T 44), (sl T 45), (sl T 46), (sl T 47), (sl T 48), (sl T 49), (sl T 50), (sl T 51), (sl T 52)] (AH.bump H 3))) :=
  (congrArg (fun T => wpC tab noExt R.slices_insertionSortCmpFunc_cyc_Fired_l2 T H K) (sl_eta hT)).trans (by kernel_rfl)
theorem slices_insertionSortCmpFunc_cyc_Fired_call {a0 a1 a2 a3 : AV} {H : AH} {K : AV → AH → Prop} (h : andThen (binA .add a1 (AV.s (SV.int .i64 1))) fun v1 => loopP tab noExt R.slices_insertionSortCmpFunc_cyc_Fired_l2 [a0, a1, a2, a3, undef, undef, undef, undef, v1, undef, a1, v1, undef, undef, undef, undef, undef, undef, undef, undef, undef, undef, undef, undef, undef, undef, undef, undef, undef, undef, undef, undef, undef, undef, undef, undef, undef, undef, undef, undef, undef, undef, undef, undef, undef, undef, undef, undef, undef, undef, undef, undef, undef] (AH.bump H 3) (blockK 0 (retK [] K))) : CallP tab noExt F.slices_insertionSortCmpFunc_cyc_Fired [a0, a1, a2, a3] H K :=
  CallP_of tab_slices_insertionSortCmpFunc_cyc_Fired (cast (by kernel_rfl : (andThen (binA .add a1 (AV.s (SV.int .i64 1))) fun v1 => loopP tab noExt R.slices_insertionSortCmpFunc_cyc_Fired_l2 [a0, a1, a2, a3, undef, undef, undef, undef, v1, undef, a1, v1, undef, undef, undef, undef, undef, undef, undef, undef, undef, undef, undef, undef, undef, undef, undef, undef, undef, undef, undef, undef, undef, undef, undef, undef, undef, undef, undef, undef, undef, undef, undef, undef, undef, undef, undef, undef, undef, undef, undef, undef, undef] (AH.bump H 3) (blockK 0 (retK [] K))) = wpC tab noExt R.slices_insertionSortCmpFunc_cyc_Fired.body (([a0, a1, a2, a3] : List AV) ++ List.replicate (R.slices_insertionSortCmpFunc_cyc_Fired.ntmps - ([a0, a1, a2, a3] : List AV).length) undef) H (retK R.slices_insertionSortCmpFunc_cyc_Fired.results K)) h)
theorem slices_symMergeCmpFunc_cyc_Fired_l0_at {T : List AV} (hT : T.length = 220) (H : AH) (K : Ex → List AV → AH → Prop) :
  wpC tab noExt R.slices_symMergeCmpFunc_cyc_Fired_l0 T H K = (andThen (binA .lss (sl T 10) (sl T 11)) fun v1 => condP v1 (andThen (binA .add (sl T 10) (sl T 11)) fun v2 => andThen (convA .u64 v2) fun v3 => andThen (binA .shr v3 (AV.s (SV.int .u64 1))) fun v4 => andThen (convA .i64 v4) fun v5 => andThen (indexSlA 3 (sl T 0) v5) fun v6 => andThen (loadA (some 3) v6 (AH.bump (AH.bump (AH.bump H 3) 7) 11)) fun v7 => andThen (indexSlA 3 (sl T 0) (sl T 1)) fun v8 => andThen (loadA (some 3) v8 (AH.bump (AH.bump (AH.bump H 3) 7) 11)) fun v9 => callvP tab noExt (sl T 4) [v7, v9] (AH.bump (AH.bump (AH.bump H 3) 7) 11) fun v10 H11 => andThen (binA .lss v10 (AV.s (SV.int .i64 0))) fun v12 => condP v12 (andThen (binA .add v5 (AV.s (SV.int .i64 1))) fun v13 => K Ex.norm [(sl T 0), (sl T 1), (sl T 2), (sl T 3), (sl T 4), (sl T 5), (sl T 6), (sl T 7), (sl T 8), (sl T 9), v13, (sl T 11), v5, (sl T 13), (sl T 14), (sl T 15), (sl T 16), (sl T 17), (sl T 18), (sl T 19), (sl T 20), (sl T 21), (sl T 22), (sl T 23), (sl T 24), (sl T 25), (sl T 26), (sl T 27), (sl T 28), (sl T 29), (sl T 30), (sl T 10), (sl T 11), v1, (sl T 10), (sl T 11), v2, v3, v4, v5, (sl T 4), (sl T 0), v5, v6, v7, (sl T 0), (sl T 1), v8, v9, v10, v12, v5, v13, (sl T 53), (sl T 54), (sl T 55), (sl T 56), (sl T 57), (sl T 58), (sl T 59), (sl T 60), (sl T 61), (sl T 62), (sl T 63), (sl T 64), (sl T 65), (sl T 66), (sl T 67), (sl T 68), (sl T 69), (sl T 70), (sl T 71), (sl T 72), (sl T 73), (sl T 74), (sl T 75), (sl T 76), (sl T 77), (sl T 78), (sl T 79), (sl T 80), (sl T 81), (sl T 82), (sl T 83), (sl T 84), (sl T 85), (sl T 86), (sl T 87), (sl T 88), (sl T 89), (sl T 90), (sl T 91), (sl T 92), (sl T 93), (sl T 94), (sl T 95), (sl T 96), (sl T 97), (sl T 98), (sl T 99), (sl T 100), (sl T 101), (sl T 102), (sl T 103), (sl T 104), (sl T 105), (sl T 106), (sl T 107), (sl T 108), (sl T 109), (sl T 110), (sl T 111), (sl T 112), (sl T 113), (sl T 114), (sl T 115), (sl T 116), (sl T 117), (sl T 118), (sl T 119), (sl T 120), (sl T 121), (sl T 122), (sl T 123), (sl T 124), (sl T 125), (sl T 126), (sl T 127), (sl T 128), (sl T 129), (sl T 130), (sl T 131), (sl T 132), (sl T 133), (sl T 134), (sl T 135), (sl T 136), (sl T 137), (sl T 138), (sl T 139), (sl T 140), (sl T 141), (sl T 142), (sl T 143), (sl T 144), (sl T 145), (sl T 146), (sl T 147), (sl T 148), (sl T 149), (sl T 150), (sl T 151), (sl T 152), (sl T 153), (sl T 154), (sl T 155), (sl T 156), (sl T 157), (sl T 158), (sl T 159), (sl T 160), (sl T 161), (sl T 162), (sl T 163), (sl T 164), (sl T 165), (sl T 166), (sl T 167), (sl T 168), (sl T 169), (sl T 170), (sl T 171), (sl T 172), (sl T 173), (sl T 174), (sl T 175), (sl T 176), (sl T 177), (sl T 178), (sl T 179), (sl T 180), (sl T 181), (sl T 182), (sl T 183), (sl T 184), (sl T 185), (sl T 186), (sl T 187), (sl T 188), (sl T 189), (sl T 190), (sl T 191), (sl T 192), (sl T 193), (sl T 194), (sl T 195), (sl T 196), (sl T 197), (sl T 198), (sl T 199), (sl T 200), (sl T 201), (sl T 202), (sl T 203), (sl T 204), (sl T 205), (sl T 206), (sl T 207), (sl T 208), (sl T 209), (sl T 210), (sl T 211), (sl T 212), (sl T 213), (sl T 214), (sl T 215), (sl T 216), (sl T 217), (sl T 218), (sl T 219)] (AH.bump H11 3)) (K Ex.norm [(sl T 0), (sl T 1), (sl T 2), (sl T 3), (sl T 4), (sl T 5), (sl T 6), (sl T 7), (sl T 8), (sl T 9), (sl T 10), v5, v5, (sl T 13), (sl T 14), (sl T 15), (sl T 16), (sl T 17), (sl T 18), (sl T 19), (sl T 20), (sl T 21), (sl T 22), (sl T 23), (sl T 24), (sl T 25), (sl T 26), (sl T 27), (sl T 28), (sl T 29), (sl T 30), (sl T 10), (sl T 11), v1, (sl T 10), (sl T 11), v2, v3, v4, v5, (sl T 4), (sl T 0), v5, v6, v7, (sl T 0), (sl T 1), v8, v9, v10, v12, (sl T 51), (sl T 52), v5, (sl T 54), (sl T 55), (sl T 56), (sl T 57), (sl T 58), (sl T 59), (sl T 60), (sl T 61), (sl T 62), (sl T 63), (sl T 64), (sl T 65), (sl T 66), (sl T 67), (sl T 68), (sl T 69), (sl T 70), (sl T 71), (sl T 72), (sl T 73), (sl T 74), (sl T 75), (sl T 76), (sl T 77), (sl T 78), (sl T 79), (sl T 80), (sl T 81), (sl T 82), (sl T 83), (sl T 84), (sl T 85), (sl T 86), (sl T 87), (sl T 88), (sl T 89), (sl T 90), (sl T 91), (sl T 92), (sl T 93), (sl T 94), (sl T 95), (sl T 96), (sl T 97), (sl T 98), (sl T 99), (sl T 100), (sl T 101), (sl T 102), (sl T 103), (sl T 104), (sl T 105), (sl T 106), (sl T 107), (sl T 108), (sl T 109), (sl T 110), (sl T 111), (sl T 112), (sl T 113), (sl T 114), (sl T 115), (sl T 116), (sl T 117), (sl T 118), (sl T 119), (sl T 120), (sl T 121), (sl T 122), (sl T 123), (sl T 124), (sl T 125), (sl T 126), (sl T 127), (sl T 128), (sl T 129), (sl T 130), (sl T 131), (sl T 132), (sl T 133), (sl T 134), (sl T 135), (sl T 136), (sl T 137), (sl T 138), (sl T 139), (sl T 140), (sl T 141), (sl T 142), (sl T 143), (sl T 144), (sl T 145), (sl T 146), (sl T 147), (sl T 148), (sl T 149), (sl T 150), (sl T 151), (sl T 152), (sl T 153), (sl T 154), (sl T 155), (sl T 156), (sl T 157), (sl T 158), (sl T 159), (sl T 160), (sl T 161), (sl T 162), (sl T 163), (sl T 164), (sl T 165), (sl T 166), (sl T 167), (sl T 168), (sl T 169), (sl T 170), (sl T 171), (sl T 172), (sl T 173), (sl T 174), (sl T 175), (sl T 176), (sl T 177), (sl T 178), (sl T 179), (sl T 180), (sl T 181), (sl T 182), (sl T 183), (sl T 184), (sl T 185), (sl T 186), (sl T 187), (sl T 188), (sl T 189), (sl T 190), (sl T 191), (sl T 192), (sl T 193), (sl T 194), (sl T 195), (sl T 196), (sl T 197), (sl T 198), (sl T 199), (sl T 200), (sl T 201), (sl T 202), (sl T 203), (sl T 204), (sl T 205), (sl T 206), (sl T 207), (sl T 208), (sl T 209), (sl T 210), (sl T 211), (sl T 212), (sl T 213), (sl T 214), (sl T 215), (sl T 216), (sl T 217), (sl T 218), (sl T 219)] (AH.bump H11 2))) (K (Ex.out 0) [(sl T 0), (sl T 1), (sl T 2), (sl T 3), (sl T 4), (sl T 5), (sl T 6), (sl T 7), (sl T 8), (sl T 9), (sl T 10), (sl T 11), (sl T 12), (sl T 13), (sl T 14), (sl T 15), (sl T 16), (sl T 17), (sl T 18), (sl T 19), (sl T 20), (sl T 21), (sl T 22), (sl T 23), (sl T 24), (sl T 25), (sl T 26), (sl T 27), (sl T 28), (sl T 29), (sl T 30), (sl T 10), (sl T 11), v1, (sl T 34), (sl T 35), (sl T 36), (sl T 37), (sl T 38), (sl T 39), (sl T 40), (sl T 41), (sl T 42), (sl T 43), (sl T 44), (sl T 45), (sl T 46), (sl T 47), (sl T 48), (sl T 49), (sl T 50), (sl T 51), (sl T 52), (sl T 53), (sl T 54), (sl T 55), (sl T 56), (sl T 57), (sl T 58), (sl T 59), (sl T 60), (sl T 61), (sl T 62), (sl T 63), (sl T 64), (sl T 65), (sl T 66), (sl T 67), (sl T 68), (sl T 69), (sl T 70), (sl T 71), (sl T 72), (sl T 73), (sl T 74), (sl T 75), (sl T 76), (sl T 77), (sl T 78), (sl T 79), (sl T 80), (sl T 81), (sl T 82), (sl T 83), (sl T 84), (sl T 85), (sl T 86), (sl T 87), (sl T 88), (sl T 89), (sl T 90), (sl T 91), (sl T 92), (sl T 93), (sl T 94), (sl T 95), (sl T 96), (sl T 97), (sl T 98), (sl T 99), (sl T 100), (sl T 101), (sl T 102), (sl T 103), (sl T 104), (sl T 105), (sl T 106), (sl T 107), (sl T 108), (sl T 109), (sl T 110), (sl T 111), (sl T 112), (sl T 113), (sl T 114), (sl T 115), (sl T 116), (sl T 117), (sl T 118), (sl T 119), (sl T 120), (sl T 121), (sl T 122), (sl T 123), (sl T 124), (sl T 125), (sl T 126), (sl T 127), (sl T 128), (sl T 129), (sl T 130), (sl T 131), (sl T 132), (sl T 133), (sl T 134), (sl T 135), (sl T 136), (sl T 137), (sl T 138), (sl T 139), (sl T 140), (sl T 141), (sl T 142), (sl T 143), (sl T 144), (sl T 145), (sl T 146), (sl T 147), (sl T 148), (sl T 149), (sl T 150), (sl T 151), (sl T 152), (sl T 153), (sl T 154), (sl T 155), (sl T 156), (sl T 157), (sl T 158), (sl T 159), (sl T 160), (sl T 161), (sl T 162), (sl T 163), (sl T 164), (sl T 165), (sl T 166), (sl T 167), (sl T 168), (sl T 169), (sl T 170), (sl T 171), (sl T 172), (sl T 173), (sl T 174), (sl T 175), (sl T 176), (sl T 177), (sl T 178), (sl T 179), (sl T 180), (sl T 181), (sl T 182), (sl T 183), (sl T 184), (sl T 185), (sl T 186), (sl T 187), (sl T 188), (sl T 189), (sl T 190), (sl T 191), (sl T 192), (sl T 193), (sl T 194), (sl T 195), (sl T 196), (sl T 197), (sl T 198), (sl T 199), (sl T 200), (sl T 201), (sl T 202), (sl T 203), (sl T 204), (sl T 205), (sl T 206), (sl T 207), (sl T 208), (sl T 209), (sl T 210), (sl T 211), (sl T 212), (sl T 213), (sl T 214), (sl T 215), (sl T 216), (sl T 217), (sl T 218), (sl T 219)] (AH.bump H 3))) :=
  (congrArg (fun T => wpC tab noExt R.slices_symMergeCmpFunc_cyc_Fired_l0 T H K) (sl_eta hT)).trans (by kernel_rfl)
theorem slices_symMergeCmpFunc_cyc_Fired_l1_at {T : List AV} (hT : T.length = 220) (H : AH) (K : Ex → List AV → AH → Prop) :
  wpC tab noExt R.slices_symMergeCmpFunc_cyc_Fired_l1 T H K = (andThen (binA .sub (sl T 10) (AV.s (SV.int .i64 1))) fun v1 => andThen (binA .lss (sl T 13) v1) fun v2 => condP v2 (andThen (binA .add (sl T 13) (AV.s (SV.int .i64 1))) fun v3 => andThen (binA .add (sl T 13) (AV.s (SV.int .i64 1))) fun v4 => andThen (indexSlA 3 (sl T 0) v4) fun v5 => andThen (loadA (some 3) v5 (AH.bump (AH.bump H 4) 18)) fun v6 => andThen (indexSlA 3 (sl T 0) (sl T 13)) fun v7 => andThen (loadA (some 3) v7 (AH.bump (AH.bump H 4) 18)) fun v8 => andThen (indexSlA 3 (sl T 0) (sl T 13)) fun v9 => andThen (storeA 3 v9 v6 (AH.bump (AH.bump H 4) 18)) fun H10 => andThen (indexSlA 3 (sl T 0) v3) fun v11 => andThen (storeA 3 v11 v8 H10) fun H12 => andThen (binA .add (sl T 13) (AV.s (SV.int .i64 1))) fun v13 => K Ex.norm [(sl T 0), (sl T 1), (sl T 2), (sl T 3), (sl T 4), (sl T 5), (sl T 6), (sl T 7), (sl T 8), (sl T 9), (sl T 10), (sl T 11), (sl T 12), v13, (sl T 14), (sl T 15), (sl T 16), (sl T 17), (sl T 18), (sl T 19), (sl T 20), (sl T 21), (sl T 22), (sl T 23), (sl T 24), (sl T 25), (sl T 26), (sl T 27), (sl T 28), (sl T 29), (sl T 30), (sl T 31), (sl T 32), (sl T 33), (sl T 34), (sl T 35), (sl T 36), (sl T 37), (sl T 38), (sl T 39), (sl T 40), (sl T 41), (sl T 42), (sl T 43), (sl T 44), (sl T 45), (sl T 46), (sl T 47), (sl T 48), (sl T 49), (sl T 50), (sl T 51), (sl T 52), (sl T 53), (sl T 54), (sl T 13), (sl T 10), v1, v2, (sl T 13), v13, (sl T 0), (sl T 13), (sl T 0), (sl T 13), v3, (sl T 0), (sl T 13), v4, v5, v6, (sl T 0), (sl T 13), v7, v8, v9, v11, (sl T 77), (sl T 78), (sl T 79), (sl T 80), (sl T 81), (sl T 82), (sl T 83), (sl T 84), (sl T 85), (sl T 86), (sl T 87), (sl T 88), (sl T 89), (sl T 90), (sl T 91), (sl T 92), (sl T 93), (sl T 94), (sl T 95), (sl T 96), (sl T 97), (sl T 98), (sl T 99), (sl T 100), (sl T 101), (sl T 102), (sl T 103), (sl T 104), (sl T 105), (sl T 106), (sl T 107), (sl T 108), (sl T 109), (sl T 110), (sl T 111), (sl T 112), (sl T 113), (sl T 114), (sl T 115), (sl T 116), (sl T 117), (sl T 118), (sl T 119), (sl T 120), (sl T 121), (sl T 122), (sl T 123), (sl T 124), (sl T 125), (sl T 126), (sl T 127), (sl T 128), (sl T 129), (sl T 130), (sl T 131), (sl T 132), (sl T 133), (sl T 134), (sl T 135), (sl T 136), (sl T 137), (sl T 138), (sl T 139), (sl T 140), (sl T 141), (sl T 142), (sl T 143), (sl T 144), (sl T 145), (sl T 146), (sl T 147), (sl T 148), (sl T 149), (sl T 150), (sl T 151), (sl T 152), (sl T 153), (sl T 154), (sl T 155), (sl T 156), (sl T 157), (sl T 158), (sl T 159), (sl T 160), (sl T 161), (sl T 162), (sl T 163), (sl T 164), (sl T 165), (sl T 166), (sl T 167), (sl T 168), (sl T 169), (sl T 170), (sl T 171), (sl T 172), (sl T 173), (sl T 174), (sl T 175), (sl T 176), (sl T 177), (sl T 178), (sl T 179), (sl T 180), (sl T 181), (sl T 182), (sl T 183), (sl T 184), (sl T 185), (sl T 186), (sl T 187), (sl T 188), (sl T 189), (sl T 190), (sl T 191), (sl T 192), (sl T 193), (sl T 194), (sl T 195), (sl T 196), (sl T 197), (sl T 198), (sl T 199), (sl T 200), (sl T 201), (sl T 202), (sl T 203), (sl T 204), (sl T 205), (sl T 206), (sl T 207), (sl T 208), (sl T 209), (sl T 210), (sl T 211), (sl T 212), (sl T 213), (sl T 214), (sl T 215), (sl T 216), (sl T 217), (sl T 218), (sl T 219)] (AH.bump H12 3)) (K (Ex.out 2) [(sl T 0), (sl T 1), (sl T 2), (sl T 3), (sl T 4), (sl T 5), (sl T 6), (sl T 7), (sl T 8), (sl T 9), (sl T 10), (sl T 11), (sl T 12), (sl T 13), (sl T 14), (sl T 15), (sl T 16), (sl T 17), (sl T 18), (sl T 19), (sl T 20), (sl T 21), (sl T 22), (sl T 23), (sl T 24), (sl T 25), (sl T 26), (sl T 27), (sl T 28), (sl T 29), (sl T 30), (sl T 31), (sl T 32), (sl T 33), (sl T 34), (sl T 35), (sl T 36), (sl T 37), (sl T 38), (sl T 39), (sl T 40), (sl T 41), (sl T 42), (sl T 43), (sl T 44), (sl T 45), (sl T 46), (sl T 47), (sl T 48), (sl T 49), (sl T 50), (sl T 51), (sl T 52), (sl T 53), (sl T 54), (sl T 13), (sl T 10), v1, v2, (sl T 59), (sl T 60), (sl T 61), (sl T 62), (sl T 63), (sl T 64), (sl T 65), (sl T 66), (sl T 67), (sl T 68), (sl T 69), (sl T 70), (sl T 71), (sl T 72), (sl T 73), (sl T 74), (sl T 75), (sl T 76), (sl T 77), (sl T 78), (sl T 79), (sl T 80), (sl T 81), (sl T 82), (sl T 83), (sl T 84), (sl T 85), (sl T 86), (sl T 87), (sl T 88), (sl T 89), (sl T 90), (sl T 91), (sl T 92), (sl T 93), (sl T 94), (sl T 95), (sl T 96), (sl T 97), (sl T 98), (sl T 99), (sl T 100), (sl T 101), (sl T 102), (sl T 103), (sl T 104), (sl T 105), (sl T 106), (sl T 107), (sl T 108), (sl T 109), (sl T 110), (sl T 111), (sl T 112), (sl T 113), (sl T 114), (sl T 115), (sl T 116), (sl T 117), (sl T 118), (sl T 119), (sl T 120), (sl T 121), (sl T 122), (sl T 123), (sl T 124), (sl T 125), (sl T 126), (sl T 127), (sl T 128), (sl T 129), (sl T 130), (sl T 131), (sl T 132), (sl T 133), (sl T 134), (sl T 135), (sl T 136), (sl T 137), (sl T 138), (sl T 139), (sl T 140), (sl T 141), (sl T 142), (sl T 143), (sl T 144), (sl T 145), (sl T 146), (sl T 147), (sl T 148), (sl T 149), (sl T 150), (sl T 151), (sl T 152), (sl T 153), (sl T 154), (sl T 155), (sl T 156), (sl T 157), (sl T 158), (sl T 159), (sl T 160), (sl T 161), (sl T 162), (sl T 163), (sl T 164), (sl T 165), (sl T 166), (sl T 167), (sl T 168), (sl T 169), (sl T 170), (sl T 171), (sl T 172), (sl T 173), (sl T 174), (sl T 175), (sl T 176), (sl T 177), (sl T 178), (sl T 179), (sl T 180), (sl T 181), (sl T 182), (sl T 183), (sl T 184), (sl T 185), (sl T 186), (sl T 187), (sl T 188), (sl T 189), (sl T 190), (sl T 191), (sl T 192), (sl T 193), (sl T 194), (sl T 195), (sl T 196), (sl T 197), (sl T 198), (sl T 199), (sl T 200), (sl T 201), (sl T 202), (sl T 203), (sl T 204), (sl T 205), (sl T 206), (sl T 207), (sl T 208), (sl T 209), (sl T 210), (sl T 211), (sl T 212), (sl T 213), (sl T 214), (sl T 215), (sl T 216), (sl T 217), (sl T 218), (sl T 219)] (AH.bump H 4))) :=
  (congrArg (fun T => wpC tab noExt R.slices_symMergeCmpFunc_cyc_Fired_l1 T H K) (sl_eta hT)).trans (by kernel_rfl)
theorem slices_symMergeCmpFunc_cyc_Fired_s2_at {T : List AV} (hT : T.length = 220) (H : AH) (K : Ex → List AV → AH → Prop) :
  wpC tab noExt R.slices_symMergeCmpFunc_cyc_Fired_s2 T H K = (K Ex.ret [(sl T 0), (sl T 1), (sl T 2), (sl T 3), (sl T 4), (sl T 5), (sl T 6), (sl T 7), (sl T 8), (sl T 9), (sl T 10), (sl T 11), (sl T 12), (sl T 13), (sl T 14), (sl T 15), (sl T 16), (sl T 17), (sl T 18), (sl T 19), (sl T 20), (sl T 21), (sl T 22), (sl T 23), (sl T 24), (sl T 25), (sl T 26), (sl T 27), (sl T 28), (sl T 29), (sl T 30), (sl T 31), (sl T 32), (sl T 33), (sl T 34), (sl T 35), (sl T 36), (sl T 37), (sl T 38), (sl T 39), (sl T 40), (sl T 41), (sl T 42), (sl T 43), (sl T 44), (sl T 45), (sl T 46), (sl T 47), (sl T 48), (sl T 49), (sl T 50), (sl T 51), (sl T 52), (sl T 53), (sl T 54), (sl T 55), (sl T 56), (sl T 57), (sl T 58), (sl T 59), (sl T 60), (sl T 61), (sl T 62), (sl T 63), (sl T 64), (sl T 65), (sl T 66), (sl T 67), (sl T 68), (sl T 69), (sl T 70), (sl T 71), (sl T 72), (sl T 73), (sl T 74), (sl T 75), (sl T 76), (sl T 77), (sl T 78), (sl T 79), (sl T 80), (sl T 81), (sl T 82), (sl T 83), (sl T 84), (sl T 85), (sl T 86), (sl T 87), (sl T 88), (sl T 89), (sl T 90), (sl T 91), (sl T 92), (sl T 93), (sl T 94), (sl T 95), (sl T 96), (sl T 97), (sl T 98), (sl T 99), (sl T 100), (sl T 101), (sl T 102), (sl T 103), (sl T 104), (sl T 105), (sl T 106), (sl T 107), (sl T 108), (sl T 109), (sl T 110), (sl T 111), (sl T 112), (sl T 113), (sl T 114), (sl T 115), (sl T 116), (sl T 117), (sl T 118), (sl T 119), (sl T 120), (sl T 121), (sl T 122), (sl T 123), (sl T 124), (sl T 125), (sl T 126), (sl T 127), (sl T 128), (sl T 129), (sl T 130), (sl T 131), (sl T 132), (sl T 133), (sl T 134), (sl T 135), (sl T 136), (sl T 137), (sl T 138), (sl T 139), (sl T 140), (sl T 141), (sl T 142), (sl T 143), (sl T 144), (sl T 145), (sl T 146), (sl T 147), (sl T 148), (sl T 149), (sl T 150), (sl T 151), (sl T 152), (sl T 153), (sl T 154), (sl T 155), (sl T 156), (sl T 157), (sl T 158), (sl T 159), (sl T 160), (sl T 161), (sl T 162), (sl T 163), (sl T 164), (sl T 165), (sl T 166), (sl T 167), (sl T 168), (sl T 169), (sl T 170), (sl T 171), (sl T 172), (sl T 173), (sl T 174), (sl T 175), (sl T 176), (sl T 177), (sl T 178), (sl T 179), (sl T 180), (sl T 181), (sl T 182), (sl T 183), (sl T 184), (sl T 185), (sl T 186), (sl T 187), (sl T 188), (sl T 189), (sl T 190), (sl T 191), (sl T 192), (sl T 193), (sl T 194), (sl T 195), (sl T 196), (sl T 197), (sl T 198), (sl T 199), (sl T 200), (sl T 201), (sl T 202), (sl T 203), (sl T 204), (sl T 205), (sl T 206), (sl T 207), (sl T 208), (sl T 209), (sl T 210), (sl T 211), (sl T 212), (sl T 213), (sl T 214), (sl T 215), (sl T 216), (sl T 217), (sl T 218), (sl T 219)] H) :=
  (congrArg (fun T => wpC tab noExt R.slices_symMergeCmpFunc_cyc_Fired_s2 T H K) (sl_eta hT)).trans (by kernel_rfl)
theorem slices_symMergeCmpFunc_cyc_Fired_s3_at {T : List AV} (hT : T.length = 220) (H : AH) (K : Ex → List AV → AH → Prop) :
  wpC tab noExt R.slices_symMergeCmpFunc_cyc_Fired_s3 T H K = (loopP tab noExt R.slices_symMergeCmpFunc_cyc_Fired_l1 [(sl T 0), (sl T 1), (sl T 2), (sl T 3), (sl T 4), (sl T 5), (sl T 6), (sl T 7), (sl T 8), (sl T 9), (sl T 10), (sl T 11), (sl T 12), (sl T 1), (sl T 14), (sl T 15), (sl T 16), (sl T 17), (sl T 18), (sl T 19), (sl T 20), (sl T 21), (sl T 22), (sl T 23), (sl T 24), (sl T 25), (sl T 26), (sl T 27), (sl T 28), (sl T 29), (sl T 30), (sl T 31), (sl T 32), (sl T 33), (sl T 34), (sl T 35), (sl T 36), (sl T 37), (sl T 38), (sl T 39), (sl T 40), (sl T 41), (sl T 42), (sl T 43), (sl T 44), (sl T 45), (sl T 46), (sl T 47), (sl T 48), (sl T 49), (sl T 50), (sl T 51), (sl T 52), (sl T 53), (sl T 1), (sl T 55), (sl T 56), (sl T 57), (sl T 58), (sl T 59), (sl T 60), (sl T 61), (sl T 62), (sl T 63), (sl T 64), (sl T 65), (sl T 66), (sl T 67), (sl T 68), (sl T 69), (sl T 70), (sl T 71), (sl T 72), (sl T 73), (sl T 74), (sl T 75), (sl T 76), (sl T 77), (sl T 78), (sl T 79), (sl T 80), (sl T 81), (sl T 82), (sl T 83), (sl T 84), (sl T 85), (sl T 86), (sl T 87), (sl T 88), (sl T 89), (sl T 90), (sl T 91), (sl T 92), (sl T 93), (sl T 94), (sl T 95), (sl T 96), (sl T 97), (sl T 98), (sl T 99), (sl T 100), (sl T 101), (sl T 102), (sl T 103), (sl T 104), (sl T 105), (sl T 106), (sl T 107), (sl T 108), (sl T 109), (sl T 110), (sl T 111), (sl T 112), (sl T 113), (sl T 114), (sl T 115), (sl T 116), (sl T 117), (sl T 118), (sl T 119), (sl T 120), (sl T 121), (sl T 122), (sl T 123), (sl T 124), (sl T 125), (sl T 126), (sl T 127), (sl T 128), (sl T 129), (sl T 130), (sl T 131), (sl T 132), (sl T 133), (sl T 134), (sl T 135), (sl T 136), (sl T 137), (sl T 138), (sl T 139), (sl T 140), (sl T 141), (sl T 142), (sl T 143), (sl T 144), (sl T 145), (sl T 146), (sl T 147), (sl T 148), (sl T 149), (sl T 150), (sl T 151), (sl T 152), (sl T 153), (sl T 154), (sl T 155), (sl T 156), (sl T 157), (sl T 158), (sl T 159), (sl T 160), (sl T 161), (sl T 162), (sl T 163), (sl T 164), (sl T 165), (sl T 166), (sl T 167), (sl T 168), (sl T 169), (sl T 170), (sl T 171), (sl T 172), (sl T 173), (sl T 174), (sl T 175), (sl T 176), (sl T 177), (sl T 178), (sl T 179), (sl T 180), (sl T 181), (sl T 182), (sl T 183), (sl T 184), (sl T 185), (sl T 186), (sl T 187), (sl T 188), (sl T 189), (sl T 190), (sl T 191), (sl T 192), (sl T 193), (sl T 194), (sl T 195), (sl T 196), (sl T 197), (sl T 198), (sl T 199), (sl T 200), (sl T 201), (sl T 202), (sl T 203), (sl T 204), (sl T 205), (sl T 206), (sl T 207), (sl T 208), (sl T 209), (sl T 210), (sl T 211), (sl T 212), (sl T 213), (sl T 214), (sl T 215), (sl T 216), (sl T 217), (sl T 218), (sl T 219)] (AH.bump H 2) (blockK 2 (seqK (fun T H => wpC tab noExt R.slices_symMergeCmpFunc_cyc_Fired_s2 T H K) K))) :=
  (congrArg (fun T => wpC tab noExt R.slices_symMergeCmpFunc_cyc_Fired_s3 T H K) (sl_eta hT)).trans (by kernel_rfl)
theorem slices_symMergeCmpFunc_cyc_Fired_l4_at {T : List AV} (hT : T.length = 220) (H : AH) (K : Ex → List AV → AH → Prop) :
  wpC tab noExt R.slices_symMergeCmpFunc_cyc_Fired_l4 T H K = (andThen (binA .lss (sl T 14) (sl T 15)) fun v1 => condP v1 (andThen (binA .add (sl T 14) (sl T 15)) fun v2 => andThen (convA .u64 v2) fun v3 => andThen (binA .shr v3 (AV.s (SV.int .u64 1))) fun v4 => andThen (convA .i64 v4) fun v5 => andThen (indexSlA 3 (sl T 0) (sl T 2)) fun v6 => andThen (loadA (some 3) v6 (AH.bump (AH.bump (AH.bump H 3) 7) 12)) fun v7 => andThen (indexSlA 3 (sl T 0) v5) fun v8 => andThen (loadA (some 3) v8 (AH.bump (AH.bump (AH.bump H 3) 7) 12)) fun v9 => callvP tab noExt (sl T 4) [v7, v9] (AH.bump (AH.bump (AH.bump H 3) 7) 12) fun v10 H11 => andThen (binA .lss v10 (AV.s (SV.int .i64 0))) fun v12 => andThen (unA .not v12) fun v13 => condP v13 (andThen (binA .add v5 (AV.s (SV.int .i64 1))) fun v14 => K Ex.norm [(sl T 0), (sl T 1), (sl T 2), (sl T 3), (sl T 4), (sl T 5), (sl T 6), (sl T 7), (sl T 8), (sl T 9), (sl T 10), (sl T 11), (sl T 12), (sl T 13), v14, (sl T 15), v5, (sl T 17), (sl T 18), (sl T 19), (sl T 20), (sl T 21), (sl T 22), (sl T 23), (sl T 24), (sl T 25), (sl T 26), (sl T 27), (sl T 28), (sl T 29), (sl T 30), (sl T 31), (sl T 32), (sl T 33), (sl T 34), (sl T 35), (sl T 36), (sl T 37), (sl T 38), (sl T 39), (sl T 40), (sl T 41), (sl T 42), (sl T 43), (sl T 44), (sl T 45), (sl T 46), (sl T 47), (sl T 48), (sl T 49), (sl T 50), (sl T 51), (sl T 52), (sl T 53), (sl T 54), (sl T 55), (sl T 56), (sl T 57), (sl T 58), (sl T 59), (sl T 60), (sl T 61), (sl T 62), (sl T 63), (sl T 64), (sl T 65), (sl T 66), (sl T 67), (sl T 68), (sl T 69), (sl T 70), (sl T 71), (sl T 72), (sl T 73), (sl T 74), (sl T 75), (sl T 76), (sl T 77), (sl T 78), (sl T 79), (sl T 80), (sl T 81), (sl T 82), (sl T 14), (sl T 15), v1, (sl T 14), (sl T 15), v2, v3, v4, v5, (sl T 4), (sl T 0), (sl T 2), v6, v7, (sl T 0), v5, v8, v9, v10, v12, v13, v5, v14, (sl T 106), (sl T 107), (sl T 108), (sl T 109), (sl T 110), (sl T 111), (sl T 112), (sl T 113), (sl T 114), (sl T 115), (sl T 116), (sl T 117), (sl T 118), (sl T 119), (sl T 120), (sl T 121), (sl T 122), (sl T 123), (sl T 124), (sl T 125), (sl T 126), (sl T 127), (sl T 128), (sl T 129), (sl T 130), (sl T 131), (sl T 132), (sl T 133), (sl T 134), (sl T 135), (sl T 136), (sl T 137), (sl T 138), (sl T 139), (sl T 140), (sl T 141), (sl T 142), (sl T 143), (sl T 144), (sl T 145), (sl T 146), (sl T 147), (sl T 148), (sl T 149), (sl T 150), (sl T 151), (sl T 152), (sl T 153), (sl T 154), (sl T 155), (sl T 156), (sl T 157), (sl T 158), (sl T 159), (sl T 160), (sl T 161), (sl T 162), (sl T 163), (sl T 164), (sl T 165), (sl T 166), (sl T 167), (sl T 168), (sl T 169), (sl T 170), (sl T 171), (sl T 172), (sl T 173), (sl T 174), (sl T 175), (sl T 176), (sl T 177), (sl T 178), (sl T 179), (sl T 180), (sl T 181), (sl T 182), (sl T 183), (sl T 184), (sl T 185), (sl T 186), (sl T 187), (sl T 188), (sl T 189), (sl T 190), (sl T 191), (sl T 192), (sl T 193), (sl T 194), (sl T 195), (sl T 196), (sl T 197), (sl T 198), (sl T 199), (sl T 200), (sl T 201), (sl T 202), (sl T 203), (sl T 204), (sl T 205), (sl T 206), (sl T 207), (sl T 208), (sl T 209), (sl T 210), (sl T 211), (sl T 212), (sl T 213), (sl T 214), (sl T 215), (sl T 216), (sl T 217), (sl T 218), (sl T 219)] (AH.bump H11 3)) (K Ex.norm [(sl T 0), (sl T 1), (sl T 2), (sl T 3), (sl T 4), (sl T 5), (sl T 6), (sl T 7), (sl T 8), (sl T 9), (sl T 10), (sl T 11), (sl T 12), (sl T 13), (sl T 14), v5, v5, (sl T 17), (sl T 18), (sl T 19), (sl T 20), (sl T 21), (sl T 22), (sl T 23), (sl T 24), (sl T 25), (sl T 26), (sl T 27), (sl T 28), (sl T 29), (sl T 30), (sl T 31), (sl T 32), (sl T 33), (sl T 34), (sl T 35), (sl T 36), (sl T 37), (sl T 38), (sl T 39), (sl T 40), (sl T 41), (sl T 42), (sl T 43), (sl T 44), (sl T 45), (sl T 46), (sl T 47), (sl T 48), (sl T 49), (sl T 50), (sl T 51), (sl T 52), (sl T 53), (sl T 54), (sl T 55), (sl T 56), (sl T 57), (sl T 58), (sl T 59), (sl T 60), (sl T 61), (sl T 62), (sl T 63), (sl T 64), (sl T 65), (sl T 66), (sl T 67), (sl T 68), (sl T 69), (sl T 70), (sl T 71), (sl T 72), (sl T 73), (sl T 74), (sl T 75), (sl T 76), (sl T 77), (sl T 78), (sl T 79), (sl T 80), (sl T 81), (sl T 82), (sl T 14), (sl T 15), v1, (sl T 14), (sl T 15), v2, v3, v4, v5, (sl T 4), (sl T 0), (sl T 2), v6, v7, (sl T 0), v5, v8, v9, v10, v12, v13, (sl T 104), (sl T 105), v5, (sl T 107), (sl T 108), (sl T 109), (sl T 110), (sl T 111), (sl T 112), (sl T 113), (sl T 114), (sl T 115), (sl T 116), (sl T 117), (sl T 118), (sl T 119), (sl T 120), (sl T 121), (sl T 122), (sl T 123), (sl T 124), (sl T 125), (sl T 126), (sl T 127), (sl T 128), (sl T 129), (sl T 130), (sl T 131), (sl T 132), (sl T 133), (sl T 134), (sl T 135), (sl T 136), (sl T 137), (sl T 138), (sl T 139), (sl T 140), (sl T 141), (sl T 142), (sl T 143), (sl T 144), (sl T 145), (sl T 146), (sl T 147), (sl T 148), (sl T 149), (sl T 150), (sl T 151), (sl T 152), (sl T 153), (sl T 154), (sl T 155), (sl T 156), (sl T 157), (sl T 158), (sl T 159), (sl T 160), (sl T 161), (sl T 162), (sl T 163), (sl T 164), (sl T 165), (sl T 166), (sl T 167), (sl T 168), (sl T 169), (sl T 170), (sl T 171), (sl T 172), (sl T 173), (sl T 174), (sl T 175), (sl T 176), (sl T 177), (sl T 178), (sl T 179), (sl T 180), (sl T 181), (sl T 182), (sl T 183), (sl T 184), (sl T 185), (sl T 186), (sl T 187), (sl T 188), (sl T 189), (sl T 190), (sl T 191), (sl T 192), (sl T 193), (sl T 194), (sl T 195), (sl T 196), (sl T 197), (sl T 198), (sl T 199), (sl T 200), (sl T 201), (sl T 202), (sl T 203), (sl T 204), (sl T 205), (sl T 206), (sl T 207), (sl T 208), (sl T 209), (sl T 210), (sl T 211), (sl T 212), (sl T 213), (sl T 214), (sl T 215), (sl T 216), (sl T 217), (sl T 218), (sl T 219)] (AH.bump H11 2))) (K (Ex.out 4) [(sl T 0), (sl T 1), (sl T 2), (sl T 3), (sl T 4), (sl T 5), (sl T 6), (sl T 7), (sl T 8), (sl T 9), (sl T 10), (sl T 11), (sl T 12), (sl T 13), (sl T 14), (sl T 15), (sl T 16), (sl T 17), (sl T 18), (sl T 19), (sl T 20), (sl T 21), (sl T 22), (sl T 23), (sl T 24), (sl T 25), (sl T 26), (sl T 27), (sl T 28), (sl T 29), (sl T 30), (sl T 31), (sl T 32), (sl T 33), (sl T 34), (sl T 35), (sl T 36), (sl T 37), (sl T 38), (sl T 39), (sl T 40), (sl T 41), (sl T 42), (sl T 43), (sl T 44), (sl T 45), (sl T 46), (sl T 47), (sl T 48), (sl T 49), (sl T 50), (sl T 51), (sl T 52), (sl T 53), (sl T 54), (sl T 55), (sl T 56), (sl T 57), (sl T 58), (sl T 59), (sl T 60), (sl T 61), (sl T 62), (sl T 63), (sl T 64), (sl T 65), (sl T 66), (sl T 67), (sl T 68), (sl T 69), (sl T 70), (sl T 71), (sl T 72), (sl T 73), (sl T 74), (sl T 75), (sl T 76), (sl T 77), (sl T 78), (sl T 79), (sl T 80), (sl T 81), (sl T 82), (sl T 14), (sl T 15), v1, (sl T 86), (sl T 87), (sl T 88), (sl T 89), (sl T 90), (sl T 91), (sl T 92), (sl T 93), (sl T 94), (sl T 95), (sl T 96), (sl T 97), (sl T 98), (sl T 99), (sl T 100), (sl T 101), (sl T 102), (sl T 103), (sl T 104), (sl T 105), (sl T 106), (sl T 107), (sl T 108), (sl T 109), (sl T 110), (sl T 111), (sl T 112), (sl T 113), (sl T 114), (sl T 115), (sl T 116), (sl T 117), (sl T 118), (sl T 119), (sl T 120), (sl T 121), (sl T 122), (sl T 123), (sl T 124), (sl T 125), (sl T 126), (sl T 127), (sl T 128), (sl T 129), (sl T 130), (sl T 131), (sl T 132), (sl T 133), (sl T 134), (sl T 135), (sl T 136), (sl T 137), (sl T 138), (sl T 139), (sl T 140), (sl T 141), (sl T 142), (sl T 143), (sl T 144), (sl T 145), (sl T 146), (sl T 147), (sl T 148), (sl T 149), (sl T 150), (sl T 151), (sl T 152), (sl T 153), (sl T 154), (sl T 155), (sl T 156), (sl T 157), (sl T 158), (sl T 159), (sl T 160), (sl T 161), (sl T 162), (sl T 163), (sl T 164), (sl T 165), (sl T 166), (sl T 167), (sl T 168), (sl T 169), (sl T 170), (sl T 171), (sl T 172), (sl T 173), (sl T 174), (sl T 175), (sl T 176), (sl T 177), (sl T 178), (sl T 179), (sl T 180), (sl T 181), (sl T 182), (sl T 183), (sl T 184), (sl T 185), (sl T 186), (sl T 187), (sl T 188), (sl T 189), (sl T 190), (sl T 191), (sl T 192), (sl T 193), (sl T 194), (sl T 195), (sl T 196), (sl T 197), (sl T 198), (sl T 199), (sl T 200), (sl T 201), (sl T 202), (sl T 203), (sl T 204), (sl T 205), (sl T 206), (sl T 207), (sl T 208), (sl T 209), (sl T 210), (sl T 211), (sl T 212), (sl T 213), (sl T 214), (sl T 215), (sl T 216), (sl T 217), (sl T 218), (sl T 219)] (AH.bump H 3))) :=
  (congrArg (fun T => wpC tab noExt R.slices_symMergeCmpFunc_cyc_Fired_l4 T H K) (sl_eta hT)).trans (by kernel_rfl)
theorem slices_symMergeCmpFunc_cyc_Fired_l5_at {T : List AV} (hT : T.length = 220) (H : AH) (K : Ex → List AV → AH → Prop) :
  wpC tab noExt R.slices_symMergeCmpFunc_cyc_Fired_l5 T H K = (andThen (binA .gtr (sl T 17) (sl T 14)) fun v1 => condP v1 (andThen (binA .sub (sl T 17) (AV.s (SV.int .i64 1))) fun v2 => andThen (binA .sub (sl T 17) (AV.s (SV.int .i64 1))) fun v3 => andThen (indexSlA 3 (sl T 0) v3) fun v4 => andThen (loadA (some 3) v4 (AH.bump (AH.bump H 3) 18)) fun v5 => andThen (indexSlA 3 (sl T 0) (sl T 17)) fun v6 => andThen (loadA (some 3) v6 (AH.bump (AH.bump H 3) 18)) fun v7 => andThen (indexSlA 3 (sl T 0) (sl T 17)) fun v8 => andThen (storeA 3 v8 v5 (AH.bump (AH.bump H 3) 18)) fun H9 => andThen (indexSlA 3 (sl T 0) v2) fun v10 => andThen (storeA 3 v10 v7 H9) fun H11 => andThen (binA .sub (sl T 17) (AV.s (SV.int .i64 1))) fun v12 => K Ex.norm [(sl T 0), (sl T 1), (sl T 2), (sl T 3), (sl T 4), (sl T 5), (sl T 6), (sl T 7), (sl T 8), (sl T 9), (sl T 10), (sl T 11), (sl T 12), (sl T 13), (sl T 14), (sl T 15), (sl T 16), v12, (sl T 18), (sl T 19), (sl T 20), (sl T 21), (sl T 22), (sl T 23), (sl T 24), (sl T 25), (sl T 26), (sl T 27), (sl T 28), (sl T 29), (sl T 30), (sl T 31), (sl T 32), (sl T 33), (sl T 34), (sl T 35), (sl T 36), (sl T 37), (sl T 38), (sl T 39), (sl T 40), (sl T 41), (sl T 42), (sl T 43), (sl T 44), (sl T 45), (sl T 46), (sl T 47), (sl T 48), (sl T 49), (sl T 50), (sl T 51), (sl T 52), (sl T 53), (sl T 54), (sl T 55), (sl T 56), (sl T 57), (sl T 58), (sl T 59), (sl T 60), (sl T 61), (sl T 62), (sl T 63), (sl T 64), (sl T 65), (sl T 66), (sl T 67), (sl T 68), (sl T 69), (sl T 70), (sl T 71), (sl T 72), (sl T 73), (sl T 74), (sl T 75), (sl T 76), (sl T 77), (sl T 78), (sl T 79), (sl T 80), (sl T 81), (sl T 82), (sl T 83), (sl T 84), (sl T 85), (sl T 86), (sl T 87), (sl T 88), (sl T 89), (sl T 90), (sl T 91), (sl T 92), (sl T 93), (sl T 94), (sl T 95), (sl T 96), (sl T 97), (sl T 98), (sl T 99), (sl T 100), (sl T 101), (sl T 102), (sl T 103), (sl T 104), (sl T 105), (sl T 106), (sl T 107), (sl T 17), (sl T 14), v1, (sl T 17), v12, (sl T 0), (sl T 17), (sl T 0), (sl T 17), v2, (sl T 0), (sl T 17), v3, v4, v5, (sl T 0), (sl T 17), v6, v7, v8, v10, (sl T 129), (sl T 130), (sl T 131), (sl T 132), (sl T 133), (sl T 134), (sl T 135), (sl T 136), (sl T 137), (sl T 138), (sl T 139), (sl T 140), (sl T 141), (sl T 142), (sl T 143), (sl T 144), (sl T 145), (sl T 146), (sl T 147), (sl T 148), (sl T 149), (sl T 150), (sl T 151), (sl T 152), (sl T 153), (sl T 154), (sl T 155), (sl T 156), (sl T 157), (sl T 158), (sl T 159), (sl T 160), (sl T 161), (sl T 162), (sl T 163), (sl T 164), (sl T 165), (sl T 166), (sl T 167), (sl T 168), (sl T 169), (sl T 170), (sl T 171), (sl T 172), (sl T 173), (sl T 174), (sl T 175), (sl T 176), (sl T 177), (sl T 178), (sl T 179), (sl T 180), (sl T 181), (sl T 182), (sl T 183), (sl T 184), (sl T 185), (sl T 186), (sl T 187), (sl T 188), (sl T 189), (sl T 190), (sl T 191), (sl T 192), (sl T 193), (sl T 194), (sl T 195), (sl T 196), (sl T 197), (sl T 198), (sl T 199), (sl T 200), (sl T 201), (sl T 202), (sl T 203), (sl T 204), (sl T 205), (sl T 206), (sl T 207), (sl T 208), (sl T 209), (sl T 210), (sl T 211), (sl T 212), (sl T 213), (sl T 214), (sl T 215), (sl T 216), (sl T 217), (sl T 218), (sl T 219)] (AH.bump H11 3)) (K (Ex.out 6) [(sl T 0), (sl T 1), (sl T 2), (sl T 3), (sl T 4), (sl T 5), (sl T 6), (sl T 7), (sl T 8), (sl T 9), (sl T 10), (sl T 11), (sl T 12), (sl T 13), (sl T 14), (sl T 15), (sl T 16), (sl T 17), (sl T 18), (sl T 19), (sl T 20), (sl T 21), (sl T 22), (sl T 23), (sl T 24), (sl T 25), (sl T 26), (sl T 27), (sl T 28), (sl T 29), (sl T 30), (sl T 31), (sl T 32), (sl T 33), (sl T 34), (sl T 35), (sl T 36), (sl T 37), (sl T 38), (sl T 39), (sl T 40), (sl T 41), (sl T 42), (sl T 43), (sl T 44), (sl T 45), (sl T 46), (sl T 47), (sl T 48), (sl T 49), (sl T 50), (sl T 51), (sl T 52), (sl T 53), (sl T 54), (sl T 55), (sl T 56), (sl T 57), (sl T 58), (sl T 59), (sl T 60), (sl T 61), (sl T 62), (sl T 63), (sl T 64), (sl T 65), (sl T 66), (sl T 67), (sl T 68), (sl T 69), (sl T 70), (sl T 71), (sl T 72), (sl T 73), (sl T 74), (sl T 75), (sl T 76), (sl T 77), (sl T 78), (sl T 79), (sl T 80), (sl T 81), (sl T 82), (sl T 83), (sl T 84), (sl T 85), (sl T 86), (sl T 87), (sl T 88), (sl T 89), (sl T 90), (sl T 91), (sl T 92), (sl T 93), (sl T 94), (sl T 95), (sl T 96), (sl T 97), (sl T 98), (sl T 99), (sl T 100), (sl T 101), (sl T 102), (sl T 103), (sl T 104), (sl T 105), (sl T 106), (sl T 107), (sl T 17), (sl T 14), v1, (sl T 111), (sl T 112), (sl T 113), (sl T 114), (sl T 115), (sl T 116), (sl T 117), (sl T 118), (sl T 119), (sl T 120), (sl T 121), (sl T 122), (sl T 123), (sl T 124), (sl T 125), (sl T 126), (sl T 127), (sl T 128), (sl T 129), (sl T 130), (sl T 131), (sl T 132), (sl T 133), (sl T 134), (sl T 135), (sl T 136), (sl T 137), (sl T 138), (sl T 139), (sl T 140), (sl T 141), (sl T 142), (sl T 143), (sl T 144), (sl T 145), (sl T 146), (sl T 147), (sl T 148), (sl T 149), (sl T 150), (sl T 151), (sl T 152), (sl T 153), (sl T 154), (sl T 155), (sl T 156), (sl T 157), (sl T 158), (sl T 159), (sl T 160), (sl T 161), (sl T 162), (sl T 163), (sl T 164), (sl T 165), (sl T 166), (sl T 167), (sl T 168), (sl T 169), (sl T 170), (sl T 171), (sl T 172), (sl T 173), (sl T 174), (sl T 175), (sl T 176), (sl T 177), (sl T 178), (sl T 179), (sl T 180), (sl T 181), (sl T 182), (sl T 183), (sl T 184), (sl T 185), (sl T 186), (sl T 187), (sl T 188), (sl T 189), (sl T 190), (sl T 191), (sl T 192), (sl T 193), (sl T 194), (sl T 195), (sl T 196), (sl T 197), (sl T 198), (sl T 199), (sl T 200), (sl T 201), (sl T 202), (sl T 203), (sl T 204), (sl T 205), (sl T 206), (sl T 207), (sl T 208), (sl T 209), (sl T 210), (sl T 211), (sl T 212), (sl T 213), (sl T 214), (sl T 215), (sl T 216), (sl T 217), (sl T 218), (sl T 219)] (AH.bump H 3))) :=
  (congrArg (fun T => wpC tab noExt R.slices_symMergeCmpFunc_cyc_Fired_l5 T H K) (sl_eta hT)).trans (by kernel_rfl)
theorem slices_symMergeCmpFunc_cyc_Fired_s6_at {T : List AV} (hT : T.length = 220) (H : AH) (K : Ex → List AV → AH → Prop) :
  wpC tab noExt R.slices_symMergeCmpFunc_cyc_Fired_s6 T H K = (K Ex.ret [(sl T 0), (sl T 1), (sl T 2), (sl T 3), (sl T 4), (sl T 5), (sl T 6), (sl T 7), (sl T 8), (sl T 9), (sl T 10), (sl T 11), (sl T 12), (sl T 13), (sl T 14), (sl T 15), (sl T 16), (sl T 17), (sl T 18), (sl T 19), (sl T 20), (sl T 21), (sl T 22), (sl T 23), (sl T 24), (sl T 25), (sl T 26), (sl T 27), (sl T 28), (sl T 29), (sl T 30), (sl T 31), (sl T 32), (sl T 33), (sl T 34), (sl T 35), (sl T 36), (sl T 37), (sl T 38), (sl T 39), (sl T 40), (sl T 41), (sl T 42), (sl T 43), (sl T 44), (sl T 45), (sl T 46), (sl T 47), (sl T 48), (sl T 49), (sl T 50), (sl T 51), (sl T 52), (sl T 53), (sl T 54), (sl T 55), (sl T 56), (sl T 57), (sl T 58), (sl T 59), (sl T 60), (sl T 61), (sl T 62), (sl T 63), (sl T 64), (sl T 65), (sl T 66), (sl T 67), (sl T 68), (sl T 69), (sl T 70), (sl T 71), (sl T 72), (sl T 73), (sl T 74), (sl T 75), (sl T 76), (sl T 77), (sl T 78), (sl T 79), (sl T 80), (sl T 81), (sl T 82), (sl T 83), (sl T 84), (sl T 85), (sl T 86), (sl T 87), (sl T 88), (sl T 89), (sl T 90), (sl T 91), (sl T 92), (sl T 93), (sl T 94), (sl T 95), (sl T 96), (sl T 97), (sl T 98), (sl T 99), (sl T 100), (sl T 101), (sl T 102), (sl T 103), (sl T 104), (sl T 105), (sl T 106), (sl T 107), (sl T 108), (sl T 109), (sl T 110), (sl T 111), (sl T 112), (sl T 113), (sl T 114), (sl T 115), (sl T 116), (sl T 117), (sl T 118), (sl T 119), (sl T 120), (sl T 121), (sl T 122), (sl T 123), (sl T 124), (sl T 125), (sl T 126), (sl T 127), (sl T 128), (sl T 129), (sl T 130), (sl T 131), (sl T 132), (sl T 133), (sl T 134), (sl T 135), (sl T 136), (sl T 137), (sl T 138), (sl T 139), (sl T 140), (sl T 141), (sl T 142), (sl T 143), (sl T 144), (sl T 145), (sl T 146), (sl T 147), (sl T 148), (sl T 149), (sl T 150), (sl T 151), (sl T 152), (sl T 153), (sl T 154), (sl T 155), (sl T 156), (sl T 157), (sl T 158), (sl T 159), (sl T 160), (sl T 161), (sl T 162), (sl T 163), (sl T 164), (sl T 165), (sl T 166), (sl T 167), (sl T 168), (sl T 169), (sl T 170), (sl T 171), (sl T 172), (sl T 173), (sl T 174), (sl T 175), (sl T 176), (sl T 177), (sl T 178), (sl T 179), (sl T 180), (sl T 181), (sl T 182), (sl T 183), (sl T 184), (sl T 185), (sl T 186), (sl T 187), (sl T 188), (sl T 189), (sl T 190), (sl T 191), (sl T 192), (sl T 193), (sl T 194), (sl T 195), (sl T 196), (sl T 197), (sl T 198), (sl T 199), (sl T 200), (sl T 201), (sl T 202), (sl T 203), (sl T 204), (sl T 205), (sl T 206), (sl T 207), (sl T 208), (sl T 209), (sl T 210), (sl T 211), (sl T 212), (sl T 213), (sl T 214), (sl T 215), (sl T 216), (sl T 217), (sl T 218), (sl T 219)] H) :=
  (congrArg (fun T => wpC tab noExt R.slices_symMergeCmpFunc_cyc_Fired_s6 T H K) (sl_eta hT)).trans (by kernel_rfl)
theorem slices_symMergeCmpFunc_cyc_Fired_s7_at {T : List AV} (hT : T.length = 220) (H : AH) (K : Ex → List AV → AH → Prop) :
  wpC tab noExt R.slices_symMergeCmpFunc_cyc_Fired_s7 T H K = (loopP tab noExt R.slices_symMergeCmpFunc_cyc_Fired_l5 [(sl T 0), (sl T 1), (sl T 2), (sl T 3), (sl T 4), (sl T 5), (sl T 6), (sl T 7), (sl T 8), (sl T 9), (sl T 10), (sl T 11), (sl T 12), (sl T 13), (sl T 14), (sl T 15), (sl T 16), (sl T 2), (sl T 18), (sl T 19), (sl T 20), (sl T 21), (sl T 22), (sl T 23), (sl T 24), (sl T 25), (sl T 26), (sl T 27), (sl T 28), (sl T 29), (sl T 30), (sl T 31), (sl T 32), (sl T 33), (sl T 34), (sl T 35), (sl T 36), (sl T 37), (sl T 38), (sl T 39), (sl T 40), (sl T 41), (sl T 42), (sl T 43), (sl T 44), (sl T 45), (sl T 46), (sl T 47), (sl T 48), (sl T 49), (sl T 50), (sl T 51), (sl T 52), (sl T 53), (sl T 54), (sl T 55), (sl T 56), (sl T 57), (sl T 58), (sl T 59), (sl T 60), (sl T 61), (sl T 62), (sl T 63), (sl T 64), (sl T 65), (sl T 66), (sl T 67), (sl T 68), (sl T 69), (sl T 70), (sl T 71), (sl T 72), (sl T 73), (sl T 74), (sl T 75), (sl T 76), (sl T 77), (sl T 78), (sl T 79), (sl T 80), (sl T 81), (sl T 82), (sl T 83), (sl T 84), (sl T 85), (sl T 86), (sl T 87), (sl T 88), (sl T 89), (sl T 90), (sl T 91), (sl T 92), (sl T 93), (sl T 94), (sl T 95), (sl T 96), (sl T 97), (sl T 98), (sl T 99), (sl T 100), (sl T 101), (sl T 102), (sl T 103), (sl T 104), (sl T 105), (sl T 106), (sl T 2), (sl T 108), (sl T 109), (sl T 110), (sl T 111), (sl T 112), (sl T 113), (sl T 114), (sl T 115), (sl T 116), (sl T 117), (sl T 118), (sl T 119), (sl T 120), (sl T 121), (sl T 122), (sl T 123), (sl T 124), (sl T 125), (sl T 126), (sl T 127), (sl T 128), (sl T 129), (sl T 130), (sl T 131), (sl T 132), (sl T 133), (sl T 134), (sl T 135), (sl T 136), (sl T 137), (sl T 138), (sl T 139), (sl T 140), (sl T 141), (sl T 142), (sl T 143), (sl T 144), (sl T 145), (sl T 146), (sl T 147), (sl T 148), (sl T 149), (sl T 150), (sl T 151), (sl T 152), (sl T 153), (sl T 154), (sl T 155), (sl T 156), (sl T 157), (sl T 158), (sl T 159), (sl T 160), (sl T 161), (sl T 162), (sl T 163), (sl T 164), (sl T 165), (sl T 166), (sl T 167), (sl T 168), (sl T 169), (sl T 170), (sl T 171), (sl T 172), (sl T 173), (sl T 174), (sl T 175), (sl T 176), (sl T 177), (sl T 178), (sl T 179), (sl T 180), (sl T 181), (sl T 182), (sl T 183), (sl T 184), (sl T 185), (sl T 186), (sl T 187), (sl T 188), (sl T 189), (sl T 190), (sl T 191), (sl T 192), (sl T 193), (sl T 194), (sl T 195), (sl T 196), (sl T 197), (sl T 198), (sl T 199), (sl T 200), (sl T 201), (sl T 202), (sl T 203), (sl T 204), (sl T 205), (sl T 206), (sl T 207), (sl T 208), (sl T 209), (sl T 210), (sl T 211), (sl T 212), (sl T 213), (sl T 214), (sl T 215), (sl T 216), (sl T 217), (sl T 218), (sl T 219)] (AH.bump H 2) (blockK 6 (seqK (fun T H => wpC tab noExt R.slices_symMergeCmpFunc_cyc_Fired_s6 T H K) K))) :=
  (congrArg (fun T => wpC tab noExt R.slices_symMergeCmpFunc_cyc_Fired_s7 T H K) (sl_eta hT)).trans (by kernel_rfl)
theorem slices_symMergeCmpFunc_cyc_Fired_l8_at {T : List AV} (hT : T.length = 220) (H : AH) (K : Ex → List AV → AH → Prop) :
  wpC tab noExt R.slices_symMergeCmpFunc_cyc_Fired_l8 T H K = (andThen (binA .lss (sl T 20) (sl T 21)) fun v1 => condP v1 (andThen (binA .add (sl T 20) (sl T 21)) fun v2 => andThen (convA .u64 v2) fun v3 => andThen (binA .shr v3 (AV.s (SV.int .u64 1))) fun v4 => andThen (convA .i64 v4) fun v5 => andThen (binA .sub (sl T 22) v5) fun v6 => andThen (indexSlA 3 (sl T 0) v6) fun v7 => andThen (loadA (some 3) v7 (AH.bump (AH.bump (AH.bump H 3) 7) 14)) fun v8 => andThen (indexSlA 3 (sl T 0) v5) fun v9 => andThen (loadA (some 3) v9 (AH.bump (AH.bump (AH.bump H 3) 7) 14)) fun v10 => callvP tab noExt (sl T 4) [v8, v10] (AH.bump (AH.bump (AH.bump H 3) 7) 14) fun v11 H12 => andThen (binA .lss v11 (AV.s (SV.int .i64 0))) fun v13 => andThen (unA .not v13) fun v14 => condP v14 (andThen (binA .add v5 (AV.s (SV.int .i64 1))) fun v15 => K Ex.norm [(sl T 0), (sl T 1), (sl T 2), (sl T 3), (sl T 4), (sl T 5), (sl T 6), (sl T 7), (sl T 8), (sl T 9), (sl T 10), (sl T 11), (sl T 12), (sl T 13), (sl T 14), (sl T 15), (sl T 16), (sl T 17), (sl T 18), (sl T 19), v15, (sl T 21), (sl T 22), v5, (sl T 24), (sl T 25), (sl T 26), (sl T 27), (sl T 28), (sl T 29), (sl T 30), (sl T 31), (sl T 32), (sl T 33), (sl T 34), (sl T 35), (sl T 36), (sl T 37), (sl T 38), (sl T 39), (sl T 40), (sl T 41), (sl T 42), (sl T 43), (sl T 44), (sl T 45), (sl T 46), (sl T 47), (sl T 48), (sl T 49), (sl T 50), (sl T 51), (sl T 52), (sl T 53), (sl T 54), (sl T 55), (sl T 56), (sl T 57), (sl T 58), (sl T 59), (sl T 60), (sl T 61), (sl T 62), (sl T 63), (sl T 64), (sl T 65), (sl T 66), (sl T 67), (sl T 68), (sl T 69), (sl T 70), (sl T 71), (sl T 72), (sl T 73), (sl T 74), (sl T 75), (sl T 76), (sl T 77), (sl T 78), (sl T 79), (sl T 80), (sl T 81), (sl T 82), (sl T 83), (sl T 84), (sl T 85), (sl T 86), (sl T 87), (sl T 88), (sl T 89), (sl T 90), (sl T 91), (sl T 92), (sl T 93), (sl T 94), (sl T 95), (sl T 96), (sl T 97), (sl T 98), (sl T 99), (sl T 100), (sl T 101), (sl T 102), (sl T 103), (sl T 104), (sl T 105), (sl T 106), (sl T 107), (sl T 108), (sl T 109), (sl T 110), (sl T 111), (sl T 112), (sl T 113), (sl T 114), (sl T 115), (sl T 116), (sl T 117), (sl T 118), (sl T 119), (sl T 120), (sl T 121), (sl T 122), (sl T 123), (sl T 124), (sl T 125), (sl T 126), (sl T 127), (sl T 128), (sl T 129), (sl T 130), (sl T 131), (sl T 132), (sl T 133), (sl T 134), (sl T 135), (sl T 136), (sl T 137), (sl T 138), (sl T 139), (sl T 140), (sl T 141), (sl T 142), (sl T 143), (sl T 144), (sl T 145), (sl T 146), (sl T 147), (sl T 148), (sl T 20), (sl T 21), v1, (sl T 20), (sl T 21), v2, v3, v4, v5, (sl T 4), (sl T 0), (sl T 22), v5, v6, v7, v8, (sl T 0), v5, v9, v10, v11, v13, v14, v5, v15, (sl T 174), (sl T 175), (sl T 176), (sl T 177), (sl T 178), (sl T 179), (sl T 180), (sl T 181), (sl T 182), (sl T 183), (sl T 184), (sl T 185), (sl T 186), (sl T 187), (sl T 188), (sl T 189), (sl T 190), (sl T 191), (sl T 192), (sl T 193), (sl T 194), (sl T 195), (sl T 196), (sl T 197), (sl T 198), (sl T 199), (sl T 200), (sl T 201), (sl T 202), (sl T 203), (sl T 204), (sl T 205), (sl T 206), (sl T 207), (sl T 208), (sl T 209), (sl T 210), (sl T 211), (sl T 212), (sl T 213), (sl T 214), (sl T 215), (sl T 216), (sl T 217), (sl T 218), (sl T 219)] (AH.bump H12 3)) (K Ex.norm [(sl T 0), (sl T 1), (sl T 2), (sl T 3), (sl T 4), (sl T 5), (sl T 6), (sl T 7), (sl T 8), (sl T 9), (sl T 10), (sl T 11), (sl T 12), (sl T 13), (sl T 14), (sl T 15), (sl T 16), (sl T 17), (sl T 18), (sl T 19), (sl T 20), v5, (sl T 22), v5, (sl T 24), (sl T 25), (sl T 26), (sl T 27), (sl T 28), (sl T 29), (sl T 30), (sl T 31), (sl T 32), (sl T 33), (sl T 34), (sl T 35), (sl T 36), (sl T 37), (sl T 38), (sl T 39), (sl T 40), (sl T 41), (sl T 42), (sl T 43), (sl T 44), (sl T 45), (sl T 46), (sl T 47), (sl T 48), (sl T 49), (sl T 50), (sl T 51), (sl T 52), (sl T 53), (sl T 54), (sl T 55), (sl T 56), (sl T 57), (sl T 58), (sl T 59), (sl T 60), (sl T 61), (sl T 62), (sl T 63), (sl T 64), (sl T 65), (sl T 66), (sl T 67), (sl T 68), (sl T 69), (sl T 70), (sl T 71), (sl T 72), (sl T 73), (sl T 74), (sl T 75), (sl T 76), (sl T 77), (sl T 78), (sl T 79), (sl T 80), (sl T 81), (sl T 82), (sl T 83), (sl T 84), (sl T 85), (sl T 86), (sl T 87), (sl T 88), (sl T 89), (sl T 90), (sl T 91), (sl T 92), (sl T 93), (sl T 94), (sl T 95), (sl T 96), (sl T 97), (sl T 98), (sl T 99), (sl T 100), (sl T 101), (sl T 102), (sl T 103), (sl T 104), (sl T 105), (sl T 106), (sl T 107), (sl T 108), (sl T 109), (sl T 110), (sl T 111), (sl T 112), (sl T 113), (sl T 114), (sl T 115), (sl T 116), (sl T 117), (sl T 118), (sl T 119), (sl T 120), (sl T 121), (sl T 122), (sl T 123), (sl T 124), (sl T 125), (sl T 126), (sl T 127), (sl T 128), (sl T 129), (sl T 130), (sl T 131), (sl T 132), (sl T 133), (sl T 134), (sl T 135), (sl T 136), (sl T 137), (sl T 138), (sl T 139), (sl T 140), (sl T 141), (sl T 142), (sl T 143), (sl T 144), (sl T 145), (sl T 146), (sl T 147), (sl T 148), (sl T 20), (sl T 21), v1, (sl T 20), (sl T 21), v2, v3, v4, v5, (sl T 4), (sl T 0), (sl T 22), v5, v6, v7, v8, (sl T 0), v5, v9, v10, v11, v13, v14, (sl T 172), (sl T 173), v5, (sl T 175), (sl T 176), (sl T 177), (sl T 178), (sl T 179), (sl T 180), (sl T 181), (sl T 182), (sl T 183), (sl T 184), (sl T 185), (sl T 186), (sl T 187), (sl T 188), (sl T 189), (sl T 190), (sl T 191), (sl T 192), (sl T 193), (sl T 194), (sl T 195), (sl T 196), (sl T 197), (sl T 198), (sl T 199), (sl T 200), (sl T 201), (sl T 202), (sl T 203), (sl T 204), (sl T 205), (sl T 206), (sl T 207), (sl T 208), (sl T 209), (sl T 210), (sl T 211), (sl T 212), (sl T 213), (sl T 214), (sl T 215), (sl T 216), (sl T 217), (sl T 218), (sl T 219)] (AH.bump H12 2))) (K (Ex.out 8) [(sl T 0), (sl T 1), (sl T 2), (sl T 3), (sl T 4), (sl T 5), (sl T 6), (sl T 7), (sl T 8), (sl T 9), (sl T 10), (sl T 11), (sl T 12), (sl T 13), (sl T 14), (sl T 15), (sl T 16), (sl T 17), (sl T 18), (sl T 19), (sl T 20), (sl T 21), (sl T 22), (sl T 23), (sl T 24), (sl T 25), (sl T 26), (sl T 27), (sl T 28), (sl T 29), (sl T 30), (sl T 31), (sl T 32), (sl T 33), (sl T 34), (sl T 35), (sl T 36), (sl T 37), (sl T 38), (sl T 39), (sl T 40), (sl T 41), (sl T 42), (sl T 43), (sl T 44), (sl T 45), (sl T 46), (sl T 47), (sl T 48), (sl T 49), (sl T 50), (sl T 51), (sl T 52), (sl T 53), (sl T 54), (sl T 55), (sl T 56), (sl T 57), (sl T 58), (sl T 59), (sl T 60), (sl T 61), (sl T 62), (sl T 63), (sl T 64), (sl T 65), (sl T 66), (sl T 67), (sl T 68), (sl T 69), (sl T 70), (sl T 71), (sl T 72), (sl T 73), (sl T 74), (sl T 75), (sl T 76), (sl T 77), (sl T 78), (sl T 79), (sl T 80), (sl T 81), (sl T 82), (sl T 83), (sl T 84), (sl T 85), (sl T 86), (sl T 87), (sl T 88), (sl T 89), (sl T 90), (sl T 91), (sl T 92), (sl T 93), (sl T 94), (sl T 95), (sl T 96), (sl T 97), (sl T 98), (sl T 99), (sl T 100), (sl T 101), (sl T 102), (sl T 103), (sl T 104), (sl T 105), (sl T 106), (sl T 107), (sl T 108), (sl T 109), (sl T 110), (sl T 111), (sl T 112), (sl T 113), (sl T 114), (sl T 115), (sl T 116), (sl T 117), (sl T 118), (sl T 119), (sl T 120), (sl T 121), (sl T 122), (sl T 123), (sl T 124), (sl T 125), (sl T 126), (sl T 127), (sl T 128), (sl T 129), (sl T 130), (sl T 131), (sl T 132), (sl T 133), (sl T 134), (sl T 135), (sl T 136), (sl T 137), (sl T 138), (sl T 139), (sl T 140), (sl T 141), (sl T 142), (sl T 143), (sl T 144), (sl T 145), (sl T 146), (sl T 147), (sl T 148), (sl T 20), (sl T 21), v1, (sl T 152), (sl T 153), (sl T 154), (sl T 155), (sl T 156), (sl T 157), (sl T 158), (sl T 159), (sl T 160), (sl T 161), (sl T 162), (sl T 163), (sl T 164), (sl T 165), (sl T 166), (sl T 167), (sl T 168), (sl T 169), (sl T 170), (sl T 171), (sl T 172), (sl T 173), (sl T 174), (sl T 175), (sl T 176), (sl T 177), (sl T 178), (sl T 179), (sl T 180), (sl T 181), (sl T 182), (sl T 183), (sl T 184), (sl T 185), (sl T 186), (sl T 187), (sl T 188), (sl T 189), (sl T 190), (sl T 191), (sl T 192), (sl T 193), (sl T 194), (sl T 195), (sl T 196), (sl T 197), (sl T 198), (sl T 199), (sl T 200), (sl T 201), (sl T 202), (sl T 203), (sl T 204), (sl T 205), (sl T 206), (sl T 207), (sl T 208), (sl T 209), (sl T 210), (sl T 211), (sl T 212), (sl T 213), (sl T 214), (sl T 215), (sl T 216), (sl T 217), (sl T 218), (sl T 219)] (AH.bump H 3))) :=
  (congrArg (fun T => wpC tab noExt R.slices_symMergeCmpFunc_cyc_Fired_l8 T H K) (sl_eta hT)).trans (by kernel_rfl)
theorem slices_symMergeCmpFunc_cyc_Fired_s9_at {T : List AV} (hT : T.length = 220) (H : AH) (K : Ex → List AV → AH → Prop) :
  wpC tab noExt R.slices_symMergeCmpFunc_cyc_Fired_s9 T H K = (andThen (binA .lss (sl T 18) (sl T 24)) fun v1 => gP (gd v1 true) (AH.bump H 8) (fun k2 => k2 (sl T 24) (AH.bump H 8)) fun v3 H4 => gP (gd v1 true) H4 (fun k5 => k5 (sl T 3) H4) fun v6 H7 => gP (gd v1 true) H7 (fun k8 => andThen (binA .lss v3 v6) fun v11 => k8 v11 H7) fun v9 H10 => andThen (pickA v1 v9 (AV.s (SV.bool false))) fun v12 => condP v12 (CallP tab noExt F.slices_symMergeCmpFunc_cyc_Fired [(sl T 0), (sl T 18), (sl T 24), (sl T 3), (sl T 4)] (AH.bump H10 6) fun v13 H14 => K Ex.norm [(sl T 0), (sl T 1), (sl T 2), (sl T 3), (sl T 4), (sl T 5), (sl T 6), (sl T 7), (sl T 8), (sl T 9), (sl T 10), (sl T 11), (sl T 12), (sl T 13), (sl T 14), (sl T 15), (sl T 16), (sl T 17), (sl T 18), (sl T 19), (sl T 20), (sl T 21), (sl T 22), (sl T 23), (sl T 24), (sl T 25), (sl T 26), (sl T 27), (sl T 28), (sl T 29), (sl T 30), (sl T 31), (sl T 32), (sl T 33), (sl T 34), (sl T 35), (sl T 36), (sl T 37), (sl T 38), (sl T 39), (sl T 40), (sl T 41), (sl T 42), (sl T 43), (sl T 44), (sl T 45), (sl T 46), (sl T 47), (sl T 48), (sl T 49), (sl T 50), (sl T 51), (sl T 52), (sl T 53), (sl T 54), (sl T 55), (sl T 56), (sl T 57), (sl T 58), (sl T 59), (sl T 60), (sl T 61), (sl T 62), (sl T 63), (sl T 64), (sl T 65), (sl T 66), (sl T 67), (sl T 68), (sl T 69), (sl T 70), (sl T 71), (sl T 72), (sl T 73), (sl T 74), (sl T 75), (sl T 76), (sl T 77), (sl T 78), (sl T 79), (sl T 80), (sl T 81), (sl T 82), (sl T 83), (sl T 84), (sl T 85), (sl T 86), (sl T 87), (sl T 88), (sl T 89), (sl T 90), (sl T 91), (sl T 92), (sl T 93), (sl T 94), (sl T 95), (sl T 96), (sl T 97), (sl T 98), (sl T 99), (sl T 100), (sl T 101), (sl T 102), (sl T 103), (sl T 104), (sl T 105), (sl T 106), (sl T 107), (sl T 108), (sl T 109), (sl T 110), (sl T 111), (sl T 112), (sl T 113), (sl T 114), (sl T 115), (sl T 116), (sl T 117), (sl T 118), (sl T 119), (sl T 120), (sl T 121), (sl T 122), (sl T 123), (sl T 124), (sl T 125), (sl T 126), (sl T 127), (sl T 128), (sl T 129), (sl T 130), (sl T 131), (sl T 132), (sl T 133), (sl T 134), (sl T 135), (sl T 136), (sl T 137), (sl T 138), (sl T 139), (sl T 140), (sl T 141), (sl T 142), (sl T 143), (sl T 144), (sl T 145), (sl T 146), (sl T 147), (sl T 148), (sl T 149), (sl T 150), (sl T 151), (sl T 152), (sl T 153), (sl T 154), (sl T 155), (sl T 156), (sl T 157), (sl T 158), (sl T 159), (sl T 160), (sl T 161), (sl T 162), (sl T 163), (sl T 164), (sl T 165), (sl T 166), (sl T 167), (sl T 168), (sl T 169), (sl T 170), (sl T 171), (sl T 172), (sl T 173), (sl T 174), (sl T 175), (sl T 176), (sl T 177), (sl T 178), (sl T 179), (sl T 180), (sl T 181), (sl T 182), (sl T 183), (sl T 184), (sl T 185), (sl T 186), (sl T 187), (sl T 188), (sl T 189), (sl T 190), (sl T 191), (sl T 192), (sl T 193), (sl T 194), (sl T 195), (sl T 196), (sl T 197), (sl T 198), (sl T 199), (sl T 200), (sl T 201), (sl T 202), (sl T 203), (sl T 204), (sl T 205), (sl T 18), (sl T 24), v1, v1, v3, v6, v9, v12, (sl T 0), (sl T 18), (sl T 24), (sl T 3), (sl T 4), v13] H14) (K Ex.norm [(sl T 0), (sl T 1), (sl T 2), (sl T 3), (sl T 4), (sl T 5), (sl T 6), (sl T 7), (sl T 8), (sl T 9), (sl T 10), (sl T 11), (sl T 12), (sl T 13), (sl T 14), (sl T 15), (sl T 16), (sl T 17), (sl T 18), (sl T 19), (sl T 20), (sl T 21), (sl T 22), (sl T 23), (sl T 24), (sl T 25), (sl T 26), (sl T 27), (sl T 28), (sl T 29), (sl T 30), (sl T 31), (sl T 32), (sl T 33), (sl T 34), (sl T 35), (sl T 36), (sl T 37), (sl T 38), (sl T 39), (sl T 40), (sl T 41), (sl T 42), (sl T 43), (sl T 44), (sl T 45), (sl T 46), (sl T 47), (sl T 48), (sl T 49), (sl T 50), (sl T 51), (sl T 52), (sl T 53), (sl T 54), (sl T 55), (sl T 56), (sl T 57), (sl T 58), (sl T 59), (sl T 60), (sl T 61), (sl T 62), (sl T 63), (sl T 64), (sl T 65), (sl T 66), (sl T 67), (sl T 68), (sl T 69), (sl T 70), (sl T 71), (sl T 72), (sl T 73), (sl T 74), (sl T 75), (sl T 76), (sl T 77), (sl T 78), (sl T 79), (sl T 80), (sl T 81), (sl T 82), (sl T 83), (sl T 84), (sl T 85), (sl T 86), (sl T 87), (sl T 88), (sl T 89), (sl T 90), (sl T 91), (sl T 92), (sl T 93), (sl T 94), (sl T 95), (sl T 96), (sl T 97), (sl T 98), (sl T 99), (sl T 100), (sl T 101), (sl T 102), (sl T 103), (sl T 104), (sl T 105), (sl T 106), (sl T 107), (sl T 108), (sl T 109), (sl T 110), (sl T 111), (sl T 112), (sl T 113), (sl T 114), (sl T 115), (sl T 116), (sl T 117), (sl T 118), (sl T 119), (sl T 120), (sl T 121), (sl T 122), (sl T 123), (sl T 124), (sl T 125), (sl T 126), (sl T 127), (sl T 128), (sl T 129), (sl T 130), (sl T 131), (sl T 132), (sl T 133), (sl T 134), (sl T 135), (sl T 136), (sl T 137), (sl T 138), (sl T 139), (sl T 140), (sl T 141), (sl T 142), (sl T 143), (sl T 144), (sl T 145), (sl T 146), (sl T 147), (sl T 148), (sl T 149), (sl T 150), (sl T 151), (sl T 152), (sl T 153), (sl T 154), (sl T 155), (sl T 156), (sl T 157), (sl T 158), (sl T 159), (sl T 160), (sl T 161), (sl T 162), (sl T 163), (sl T 164), (sl T 165), (sl T 166), (sl T 167), (sl T 168), (sl T 169), (sl T 170), (sl T 171), (sl T 172), (sl T 173), (sl T 174), (sl T 175), (sl T 176), (sl T 177), (sl T 178), (sl T 179), (sl T 180), (sl T 181), (sl T 182), (sl T 183), (sl T 184), (sl T 185), (sl T 186), (sl T 187), (sl T 188), (sl T 189), (sl T 190), (sl T 191), (sl T 192), (sl T 193), (sl T 194), (sl T 195), (sl T 196), (sl T 197), (sl T 198), (sl T 199), (sl T 200), (sl T 201), (sl T 202), (sl T 203), (sl T 204), (sl T 205), (sl T 18), (sl T 24), v1, v1, v3, v6, v9, v12, (sl T 214), (sl T 215), (sl T 216), (sl T 217), (sl T 218), (sl T 219)] H10)) :=
  (congrArg (fun T => wpC tab noExt R.slices_symMergeCmpFunc_cyc_Fired_s9 T H K) (sl_eta hT)).trans (by kernel_rfl)
theorem slices_symMergeCmpFunc_cyc_Fired_s10_gen (c_slices_symMergeCmpFunc_cyc_Fired_s9 : RC) {T : List AV} (hT : T.length = 220) (H : AH) (K : Ex → List AV → AH → Prop) :
  wpC tab noExt (RC.seq (RC.seq (RC.region 8 [
    ⟨(some 192), .move (.t 1), none, 0, []⟩,
    ⟨(some 193), .move (.t 20), none, 1, []⟩,
    ⟨(some 194), .bin .lss (.t 192) (.t 193), none, 2, []⟩,
    ⟨(some 195), .move (.t 194), none, 3, []⟩,
    ⟨(some 196), .move (.t 20), (some (195, true)), 4, []⟩,
    ⟨(some 197), .move (.t 18), (some (195, true)), 5, []⟩,
    ⟨(some 198), .bin .lss (.t 196) (.t 197), (some (195, true)), 6, []⟩,
    ⟨(some 199), .pick (.t 195) (.t 198) (.c (.s (.bool false))), none, 7, []⟩]) (RC.cond (.t 199) (RC.region 6 [
    ⟨(some 200), .move (.t 0), none, 0, []⟩,
    ⟨(some 201), .move (.t 1), none, 1, []⟩,
    ⟨(some 202), .move (.t 20), none, 2, []⟩,
    ⟨(some 203), .move (.t 18), none, 3, []⟩,
    ⟨(some 204), .move (.t 4), none, 4, []⟩,
    ⟨(some 205), .call F.slices_symMergeCmpFunc_cyc_Fired [(.t 200), (.t 201), (.t 202), (.t 203), (.t 204)], none, 5, []⟩]) (RC.skip))) c_slices_symMergeCmpFunc_cyc_Fired_s9) T H K = (andThen (binA .lss (sl T 1) (sl T 20)) fun v1 => gP (gd v1 true) (AH.bump H 8) (fun k2 => k2 (sl T 20) (AH.bump H 8)) fun v3 H4 => gP (gd v1 true) H4 (fun k5 => k5 (sl T 18) H4) fun v6 H7 => gP (gd v1 true) H7 (fun k8 => andThen (binA .lss v3 v6) fun v11 => k8 v11 H7) fun v9 H10 => andThen (pickA v1 v9 (AV.s (SV.bool false))) fun v12 => condP v12 (CallP tab noExt F.slices_symMergeCmpFunc_cyc_Fired [(sl T 0), (sl T 1), (sl T 20), (sl T 18), (sl T 4)] (AH.bump H10 6) fun v13 H14 => wpC tab noExt c_slices_symMergeCmpFunc_cyc_Fired_s9 [(sl T 0), (sl T 1), (sl T 2), (sl T 3), (sl T 4), (sl T 5), (sl T 6), (sl T 7), (sl T 8), (sl T 9), (sl T 10), (sl T 11), (sl T 12), (sl T 13), (sl T 14), (sl T 15), (sl T 16), (sl T 17), (sl T 18), (sl T 19), (sl T 20), (sl T 21), (sl T 22), (sl T 23), (sl T 24), (sl T 25), (sl T 26), (sl T 27), (sl T 28), (sl T 29), (sl T 30), (sl T 31), (sl T 32), (sl T 33), (sl T 34), (sl T 35), (sl T 36), (sl T 37), (sl T 38), (sl T 39), (sl T 40), (sl T 41), (sl T 42), (sl T 43), (sl T 44), (sl T 45), (sl T 46), (sl T 47), (sl T 48), (sl T 49), (sl T 50), (sl T 51), (sl T 52), (sl T 53), (sl T 54), (sl T 55), (sl T 56), (sl T 57), (sl T 58), (sl T 59), (sl T 60), (sl T 61), (sl T 62), (sl T 63), (sl T 64), (sl T 65), (sl T 66), (sl T 67), (sl T 68), (sl T 69), (sl T 70), (sl T 71), (sl T 72), (sl T 73), (sl T 74), (sl T 75), (sl T 76), (sl T 77), (sl T 78), (sl T 79), (sl T 80), (sl T 81), (sl T 82), (sl T 83), (sl T 84), (sl T 85), (sl T 86), (sl T 87), (sl T 88), (sl T 89), (sl T 90), (sl T 91), (sl T 92), (sl T 93), (sl T 94), (sl T 95), (sl T 96), (sl T 97), (sl T 98), (sl T 99), (sl T 100), (sl T 101), (sl T 102), (sl T 103), (sl T 104), (sl T 105), (sl T 106), (sl T 107), (sl T 108), (sl T 109), (sl T 110), (sl T 111), (sl T 112), (sl T 113), (sl T 114), (sl T 115), (sl T 116), (sl T 117), (sl T 118), (sl T 119), (sl T 120), (sl T 121), (sl T 122), (sl T 123), (sl T 124), (sl T 125), (sl T 126), (sl T 127), (sl T 128), (sl T 129), (sl T 130), (sl T 131), (sl T 132), (sl T 133), (sl T 134), (sl T 135), (sl T 136), (sl T 137), (sl T 138), (sl T 139), (sl T 140), (sl T 141), (sl T 142), (sl T 143), (sl T 144), (sl T 145), (sl T 146), (sl T 147), (sl T 148), (sl T 149), (sl T 150), (sl T 151), (sl T 152), (sl T 153), (sl T 154), (sl T 155), (sl T 156), (sl T 157), (sl T 158), (sl T 159), (sl T 160), (sl T 161), (sl T 162), (sl T 163), (sl T 164), (sl T 165), (sl T 166), (sl T 167), (sl T 168), (sl T 169), (sl T 170), (sl T 171), (sl T 172), (sl T 173), (sl T 174), (sl T 175), (sl T 176), (sl T 177), (sl T 178), (sl T 179), (sl T 180), (sl T 181), (sl T 182), (sl T 183), (sl T 184), (sl T 185), (sl T 186), (sl T 187), (sl T 188), (sl T 189), (sl T 190), (sl T 191), (sl T 1), (sl T 20), v1, v1, v3, v6, v9, v12, (sl T 0), (sl T 1), (sl T 20), (sl T 18), (sl T 4), v13, (sl T 206), (sl T 207), (sl T 208), (sl T 209), (sl T 210), (sl T 211), (sl T 212), (sl T 213), (sl T 214), (sl T 215), (sl T 216), (sl T 217), (sl T 218), (sl T 219)] H14 K) (wpC tab noExt c_slices_symMergeCmpFunc_cyc_Fired_s9 [(sl T 0), (sl T 1), (sl T 2), (sl T 3), (sl T 4), (sl T 5), (sl T 6), (sl T 7), (sl T 8), (sl T 9), (sl T 10), (sl T 11), (sl T 12), (sl T 13), (sl T 14), (sl T 15), (sl T 16), (sl T 17), (sl T 18), (sl T 19), (sl T 20), (sl T 21), (sl T 22), (sl T 23), (sl T 24), (sl T 25), (sl T 26), (sl T 27), (sl T 28), (sl T 29), (sl T 30), (sl T 31), (sl T 32), (sl T 33), (sl T 34), (sl T 35), (sl T 36), (sl T 37), (sl T 38), (sl T 39), (sl T 40), (sl T 41), (sl T 42), (sl T 43), (sl T 44), (sl T 45), (sl T 46), (sl T 47), (sl T 48), (sl T 49), (sl T 50), (sl T 51), (sl T 52), (sl T 53), (sl T 54), (sl T 55), (sl T 56), (sl T 57), (sl T 58), (sl T 59), (sl T 60), (sl T 61), (sl T 62), (sl T 63), (sl T 64), (sl T 65), (sl T 66), (sl T 67), (sl T 68), (sl T 69), (sl T 70), (sl T 71), (sl T 72), (sl T 73), (sl T 74), (sl T 75), (sl T 76), (sl T 77), (sl T 78), (sl T 79), (sl T 80), (sl T 81), (sl T 82), (sl T 83), (sl T 84), (sl T 85), (sl T 86), (sl T 87), (sl T 88), (sl T 89), (sl T 90), (sl T 91), (sl T 92), (sl T 93), (sl T 94), (sl T 95), (sl T 96), (sl T 97), (sl T 98), (sl T 99), (sl T 100), (sl T 101), (sl T 102), (sl T 103), (sl T 104), (sl T 105), (sl T 106), (sl T 107), (sl T 108), (sl T 109), (sl T 110), (sl T 111), (sl T 112), (sl T 113), (sl T 114), (sl T 115), (sl T 116), (sl T 117), (sl T 118), (sl T 119), (sl T 120), (sl T 121), (sl T 122), (sl T 123), (sl T 124), (sl T 125), (sl T 126), (sl T 127), (sl T 128), (sl T 129), (sl T 130), (sl T 131), (sl T 132), (sl T 133), (sl T 134), (sl T 135), (sl T 136), (sl T 137), (sl T 138), (sl T 139), (sl T 140), (sl T 141), (sl T 142), (sl T 143), (sl T 144), (sl T 145), (sl T 146), (sl T 147), (sl T 148), (sl T 149), (sl T 150), (sl T 151), (sl T 152), (sl T 153), (sl T 154), (sl T 155), (sl T 156), (sl T 157), (sl T 158), (sl T 159), (sl T 160), (sl T 161), (sl T 162), (sl T 163), (sl T 164), (sl T 165), (sl T 166), (sl T 167), (sl T 168), (sl T 169), (sl T 170), (sl T 171), (sl T 172), (sl T 173), (sl T 174), (sl T 175), (sl T 176), (sl T 177), (sl T 178), (sl T 179), (sl T 180), (sl T 181), (sl T 182), (sl T 183), (sl T 184), (sl T 185), (sl T 186), (sl T 187), (sl T 188), (sl T 189), (sl T 190), (sl T 191), (sl T 1), (sl T 20), v1, v1, v3, v6, v9, v12, (sl T 200), (sl T 201), (sl T 202), (sl T 203), (sl T 204), (sl T 205), (sl T 206), (sl T 207), (sl T 208), (sl T 209), (sl T 210), (sl T 211), (sl T 212), (sl T 213), (sl T 214), (sl T 215), (sl T 216), (sl T 217), (sl T 218), (sl T 219)] H10 K)) :=
  (congrArg (fun T => wpC tab noExt (RC.seq (RC.seq (RC.region 8 [
    ⟨(some 192), .move (.t 1), none, 0, []⟩,
    ⟨(some 193), .move (.t 20), none, 1, []⟩,
    ⟨(some 194), .bin .lss (.t 192) (.t 193), none, 2, []⟩,
    ⟨(some 195), .move (.t 194), none, 3, []⟩,
    ⟨(some 196), .move (.t 20), (some (195, true)), 4, []⟩,
    ⟨(some 197), .move (.t 18), (some (195, true)), 5, []⟩,
    ⟨(some 198), .bin .lss (.t 196) (.t 197), (some (195, true)), 6, []⟩,
    ⟨(some 199), .pick (.t 195) (.t 198) (.c (.s (.bool false))), none, 7, []⟩]) (RC.cond (.t 199) (RC.region 6 [
    ⟨(some 200), .move (.t 0), none, 0, []⟩,
    ⟨(some 201), .move (.t 1), none, 1, []⟩,
    ⟨(some 202), .move (.t 20), none, 2, []⟩,
    ⟨(some 203), .move (.t 18), none, 3, []⟩,
    ⟨(some 204), .move (.t 4), none, 4, []⟩,
    ⟨(some 205), .call F.slices_symMergeCmpFunc_cyc_Fired [(.t 200), (.t 201), (.t 202), (.t 203), (.t 204)], none, 5, []⟩]) (RC.skip))) c_slices_symMergeCmpFunc_cyc_Fired_s9) T H K) (sl_eta hT)).trans (by kernel_rfl)
theorem slices_symMergeCmpFunc_cyc_Fired_s10_at {T : List AV} (hT : T.length = 220) (H : AH) (K : Ex → List AV → AH → Prop) :
  wpC tab noExt R.slices_symMergeCmpFunc_cyc_Fired_s10 T H K = (andThen (binA .lss (sl T 1) (sl T 20)) fun v1 => gP (gd v1 true) (AH.bump H 8) (fun k2 => k2 (sl T 20) (AH.bump H 8)) fun v3 H4 => gP (gd v1 true) H4 (fun k5 => k5 (sl T 18) H4) fun v6 H7 => gP (gd v1 true) H7 (fun k8 => andThen (binA .lss v3 v6) fun v11 => k8 v11 H7) fun v9 H10 => andThen (pickA v1 v9 (AV.s (SV.bool false))) fun v12 => condP v12 (CallP tab noExt F.slices_symMergeCmpFunc_cyc_Fired [(sl T 0), (sl T 1), (sl T 20), (sl T 18), (sl T 4)] (AH.bump H10 6) fun v13 H14 => wpC tab noExt R.slices_symMergeCmpFunc_cyc_Fired_s9 [(sl T 0), (sl T 1), (sl T 2), (sl T 3), (sl T 4), (sl T 5), (sl T 6), (sl T 7), (sl T 8), (sl T 9), (sl T 10), (sl T 11), (sl T 12), (sl T 13), (sl T 14), (sl T 15), (sl T 16), (sl T 17), (sl T 18), (sl T 19), (sl T 20), (sl T 21), (sl T 22), (sl T 23), (sl T 24), (sl T 25), (sl T 26), (sl T 27), (sl T 28), (sl T 29), (sl T 30), (sl T 31), (sl T 32), (sl T 33), (sl T 34), (sl T 35), (sl T 36), (sl T 37), (sl T 38), (sl T 39), (sl T 40), (sl T 41), (sl T 42), (sl T 43), (sl T 44), (sl T 45), (sl T 46), (sl T 47), (sl T 48), (sl T 49), (sl T 50), (sl T 51), (sl T 52), (sl T 53), (sl T 54), (sl T 55), (sl T 56), (sl T 57), (sl T 58), (sl T 59), (sl T 60), (sl T 61), (sl T 62), (sl T 63), (sl T 64), (sl T 65), (sl T 66), (sl T 67), (sl T 68), (sl T 69), (sl T 70), (sl T 71), (sl T 72), (sl T 73), (sl T 74), (sl T 75), (sl T 76), (sl T 77), (sl T 78), (sl T 79), (sl T 80), (sl T 81), (sl T 82), (sl T 83), (sl T 84), (sl T 85), (sl T 86), (sl T 87), (sl T 88), (sl T 89), (sl T 90), (sl T 91), (sl T 92), (sl T 93), (sl T 94), (sl T 95), (sl T 96), (sl T 97), (sl T 98), (sl T 99), (sl T 100), (sl T 101), (sl T 102), (sl T 103), (sl T 104), (sl T 105), (sl T 106), (sl T 107), (sl T 108), (sl T 109), (sl T 110), (sl T 111), (sl T 112), (sl T 113), (sl T 114), (sl T 115), (sl T 116), (sl T 117), (sl T 118), (sl T 119), (sl T 120), (sl T 121), (sl T 122), (sl T 123), (sl T 124), (sl T 125), (sl T 126), (sl T 127), (sl T 128), (sl T 129), (sl T 130), (sl T 131), (sl T 132), (sl T 133), (sl T 134), (sl T 135), (sl T 136), (sl T 137), (sl T 138), (sl T 139), (sl T 140), (sl T 141), (sl T 142), (sl T 143), (sl T 144), (sl T 145), (sl T 146), (sl T 147), (sl T 148), (sl T 149), (sl T 150), (sl T 151), (sl T 152), (sl T 153), (sl T 154), (sl T 155), (sl T 156), (sl T 157), (sl T 158), (sl T 159), (sl T 160), (sl T 161), (sl T 162), (sl T 163), (sl T 164), (sl T 165), (sl T 166), (sl T 167), (sl T 168), (sl T 169), (sl T 170), (sl T 171), (sl T 172), (sl T 173), (sl T 174), (sl T 175), (sl T 176), (sl T 177), (sl T 178), (sl T 179), (sl T 180), (sl T 181), (sl T 182), (sl T 183), (sl T 184), (sl T 185), (sl T 186), (sl T 187), (sl T 188), (sl T 189), (sl T 190), (sl T 191), (sl T 1), (sl T 20), v1, v1, v3, v6, v9, v12, (sl T 0), (sl T 1), (sl T 20), (sl T 18), (sl T 4), v13, (sl T 206), (sl T 207), (sl T 208), (sl T 209), (sl T 210), (sl T 211), (sl T 212), (sl T 213), (sl T 214), (sl T 215), (sl T 216), (sl T 217), (sl T 218), (sl T 219)] H14 K) (wpC tab noExt R.slices_symMergeCmpFunc_cyc_Fired_s9 [(sl T 0), (sl T 1), (sl T 2), (sl T 3), (sl T 4), (sl T 5), (sl T 6), (sl T 7), (sl T 8), (sl T 9), (sl T 10), (sl T 11), (sl T 12), (sl T 13), (sl T 14), (sl T 15), (sl T 16), (sl T 17), (sl T 18), (sl T 19), (sl T 20), (sl T 21), (sl T 22), (sl T 23), (sl T 24), (sl T 25), (sl T 26), (sl T 27), (sl T 28), (sl T 29), (sl T 30), (sl T 31), (sl T 32), (sl T 33), (sl T 34), (sl T 35), (sl T 36), (sl T 37), (sl T 38), (sl T 39), (sl T 40), (sl T 41), (sl T 42), (sl T 43), (sl T 44), (sl T 45), (sl T 46), (sl T 47), (sl T 48), (sl T 49), (sl T 50), (sl T 51), (sl T 52), (sl T 53), (sl T 54), (sl T 55), (sl T 56), (sl T 57), (sl T 58), (sl T 59), (sl T 60), (sl T 61), (sl T 62), (sl T 63), (sl T 64), (sl T 65), (sl T 66), (sl T 67), (sl T 68), (sl T 69), (sl T 70), (sl T 71), (sl T 72), (sl T 73), (sl T 74), (sl T 75), (sl T 76), (sl T 77), (sl T 78), (sl T 79), (sl T 80), (sl T 81), (sl T 82), (sl T 83), (sl T 84), (sl T 85), (sl T 86), (sl T 87), (sl T 88), (sl T 89), (sl T 90), (sl T 91), (sl T 92), (sl T 93), (sl T 94), (sl T 95), (sl T 96), (sl T 97), (sl T 98), (sl T 99), (sl T 100), (sl T 101), (sl T 102), (sl T 103), (sl T 104), (sl T 105), (sl T 106), (sl T 107), (sl T 108), (sl T 109), (sl T 110), (sl T 111), (sl T 112), (sl T 113), (sl T 114), (sl T 115), (sl T 116), (sl T 117), (sl T 118), (sl T 119), (sl T 120), (sl T 121), (sl T 122), (sl T 123), (sl T 124), (sl T 125), (sl T 126), (sl T 127), (sl T 128), (sl T 129), (sl T 130), (sl T 131), (sl T 132), (sl T 133), (sl T 134), (sl T 135), (sl T 136), (sl T 137), (sl T 138), (sl T 139), (sl T 140), (sl T 141), (sl T 142), (sl T 143), (sl T 144), (sl T 145), (sl T 146), (sl T 147), (sl T 148), (sl T 149), (sl T 150), (sl T 151), (sl T 152), (sl T 153), (sl T 154), (sl T 155), (sl T 156), (sl T 157), (sl T 158), (sl T 159), (sl T 160), (sl T 161), (sl T 162), (sl T 163), (sl T 164), (sl T 165), (sl T 166), (sl T 167), (sl T 168), (sl T 169), (sl T 170), (sl T 171), (sl T 172), (sl T 173), (sl T 174), (sl T 175), (sl T 176), (sl T 177), (sl T 178), (sl T 179), (sl T 180), (sl T 181), (sl T 182), (sl T 183), (sl T 184), (sl T 185), (sl T 186), (sl T 187), (sl T 188), (sl T 189), (sl T 190), (sl T 191), (sl T 1), (sl T 20), v1, v1, v3, v6, v9, v12, (sl T 200), (sl T 201), (sl T 202), (sl T 203), (sl T 204), (sl T 205), (sl T 206), (sl T 207), (sl T 208), (sl T 209), (sl T 210), (sl T 211), (sl T 212), (sl T 213), (sl T 214), (sl T 215), (sl T 216), (sl T 217), (sl T 218), (sl T 219)] H10 K)) := slices_symMergeCmpFunc_cyc_Fired_s10_gen R.slices_symMergeCmpFunc_cyc_Fired_s9 hT H K
theorem slices_symMergeCmpFunc_cyc_Fired_s11_gen (c_slices_symMergeCmpFunc_cyc_Fired_s10 : RC) {T : List AV} (hT : T.length = 220) (H : AH) (K : Ex → List AV → AH → Prop) :
  wpC tab noExt (RC.seq (RC.region 4 [
    ⟨(some 175), .move (.t 19), none, 0, []⟩,
    ⟨(some 176), .move (.t 20), none, 1, []⟩,
    ⟨(some 177), .bin .sub (.t 175) (.t 176), none, 2, []⟩,
    ⟨(some 24), .move (.t 177), none, 3, []⟩]) (RC.seq (RC.seq (RC.region 8 [
    ⟨(some 178), .move (.t 20), none, 0, []⟩,
    ⟨(some 179), .move (.t 2), none, 1, []⟩,
    ⟨(some 180), .bin .lss (.t 178) (.t 179), none, 2, []⟩,
    ⟨(some 181), .move (.t 180), none, 3, []⟩,
    ⟨(some 182), .move (.t 2), (some (181, true)), 4, []⟩,
    ⟨(some 183), .move (.t 24), (some (181, true)), 5, []⟩,
    ⟨(some 184), .bin .lss (.t 182) (.t 183), (some (181, true)), 6, []⟩,
    ⟨(some 185), .pick (.t 181) (.t 184) (.c (.s (.bool false))), none, 7, []⟩]) (RC.cond (.t 185) (RC.region 6 [
    ⟨(some 186), .move (.t 0), none, 0, []⟩,
    ⟨(some 187), .move (.t 20), none, 1, []⟩,
    ⟨(some 188), .move (.t 2), none, 2, []⟩,
    ⟨(some 189), .move (.t 24), none, 3, []⟩,
    ⟨(some 190), .move (.t 4), none, 4, []⟩,
    ⟨(some 191), .call F.slices_rotateCmpFunc_cyc_Fired [(.t 186), (.t 187), (.t 188), (.t 189), (.t 190)], none, 5, []⟩]) (RC.skip))) c_slices_symMergeCmpFunc_cyc_Fired_s10)) T H K = (andThen (binA .sub (sl T 19) (sl T 20)) fun v1 => andThen (binA .lss (sl T 20) (sl T 2)) fun v2 => gP (gd v2 true) (AH.bump (AH.bump H 4) 8) (fun k3 => k3 (sl T 2) (AH.bump (AH.bump H 4) 8)) fun v4 H5 => gP (gd v2 true) H5 (fun k6 => k6 v1 H5) fun v7 H8 => gP (gd v2 true) H8 (fun k9 => andThen (binA .lss v4 v7) fun v12 => k9 v12 H8) fun v10 H11 => andThen (pickA v2 v10 (AV.s (SV.bool false))) fun v13 => condP v13 (CallP tab noExt F.slices_rotateCmpFunc_cyc_Fired [(sl T 0), (sl T 20), (sl T 2), v1, (sl T 4)] (AH.bump H11 6) fun v14 H15 => wpC tab noExt c_slices_symMergeCmpFunc_cyc_Fired_s10 [(sl T 0), (sl T 1), (sl T 2), (sl T 3), (sl T 4), (sl T 5), (sl T 6), (sl T 7), (sl T 8), (sl T 9), (sl T 10), (sl T 11), (sl T 12), (sl T 13), (sl T 14), (sl T 15), (sl T 16), (sl T 17), (sl T 18), (sl T 19), (sl T 20), (sl T 21), (sl T 22), (sl T 23), v1, (sl T 25), (sl T 26), (sl T 27), (sl T 28), (sl T 29), (sl T 30), (sl T 31), (sl T 32), (sl T 33), (sl T 34), (sl T 35), (sl T 36), (sl T 37), (sl T 38), (sl T 39), (sl T 40), (sl T 41), (sl T 42), (sl T 43), (sl T 44), (sl T 45), (sl T 46), (sl T 47), (sl T 48), (sl T 49), (sl T 50), (sl T 51), (sl T 52), (sl T 53), (sl T 54), (sl T 55), (sl T 56), (sl T 57), (sl T 58), (sl T 59), (sl T 60), (sl T 61), (sl T 62), (sl T 63), (sl T 64), (sl T 65), (sl T 66), (sl T 67), (sl T 68), (sl T 69), (sl T 70), (sl T 71), (sl T 72), (sl T 73), (sl T 74), (sl T 75), (sl T 76), (sl T 77), (sl T 78), (sl T 79), (sl T 80), (sl T 81), (sl T 82), (sl T 83), (sl T 84), (sl T 85), (sl T 86), (sl T 87), (sl T 88), (sl T 89), (sl T 90), (sl T 91), (sl T 92), (sl T 93), (sl T 94), (sl T 95), (sl T 96), (sl T 97), (sl T 98), (sl T 99), (sl T 100), (sl T 101), (sl T 102), (sl T 103), (sl T 104), (sl T 105), (sl T 106), (sl T 107), (sl T 108), (sl T 109), (sl T 110), (sl T 111), (sl T 112), (sl T 113), (sl T 114), (sl T 115), (sl T 116), (sl T 117), (sl T 118), (sl T 119), (sl T 120), (sl T 121), (sl T 122), (sl T 123), (sl T 124), (sl T 125), (sl T 126), (sl T 127), (sl T 128), (sl T 129), (sl T 130), (sl T 131), (sl T 132), (sl T 133), (sl T 134), (sl T 135), (sl T 136), (sl T 137), (sl T 138), (sl T 139), (sl T 140), (sl T 141), (sl T 142), (sl T 143), (sl T 144), (sl T 145), (sl T 146), (sl T 147), (sl T 148), (sl T 149), (sl T 150), (sl T 151), (sl T 152), (sl T 153), (sl T 154), (sl T 155), (sl T 156), (sl T 157), (sl T 158), (sl T 159), (sl T 160), (sl T 161), (sl T 162), (sl T 163), (sl T 164), (sl T 165), (sl T 166), (sl T 167), (sl T 168), (sl T 169), (sl T 170), (sl T 171), (sl T 172), (sl T 173), (sl T 174), (sl T 19), (sl T 20), v1, (sl T 20), (sl T 2), v2, v2, v4, v7, v10, v13, (sl T 0), (sl T 20), (sl T 2), v1, (sl T 4), v14, (sl T 192), (sl T 193), (sl T 194), (sl T 195), (sl T 196), (sl T 197), (sl T 198), (sl T 199), (sl T 200), (sl T 201), (sl T 202), (sl T 203), (sl T 204), (sl T 205), (sl T 206), (sl T 207), (sl T 208), (sl T 209), (sl T 210), (sl T 211), (sl T 212), (sl T 213), (sl T 214), (sl T 215), (sl T 216), (sl T 217), (sl T 218), (sl T 219)] H15 K) (wpC tab noExt c_slices_symMergeCmpFunc_cyc_Fired_s10 [(sl T 0), (sl T 1), (sl T 2), (sl T 3), (sl T 4), (sl T 5), (sl T 6), (sl T 7), (sl T 8), (sl T 9), (sl T 10), (sl T 11), (sl T 12), (sl T 13), (sl T 14), (sl T 15), (sl T 16), (sl T 17), (sl T 18), (sl T 19), (sl T 20), (sl T 21), (sl T 22), (sl T 23), v1, (sl T 25), (sl T 26), (sl T 27), (sl T 28), (sl T 29), (sl T 30), (sl T 31), (sl T 32), (sl T 33), (sl T 34), (sl T 35), (sl T 36), (sl T 37), (sl T 38), (sl T 39), (sl T 40), (sl T 41), (sl T 42), (sl T 43), (sl T 44), (sl T 45), (sl T 46), (sl T 47), (sl T 48), (sl T 49), (sl T 50), (sl T 51), (sl T 52), (sl T 53), (sl T 54), (sl T 55), (sl T 56), (sl T 57), (sl T 58), (sl T 59), (sl T 60), (sl T 61), (sl T 62), (sl T 63), (sl T 64), (sl T 65), (sl T 66), (sl T 67), (sl T 68), (sl T 69), (sl T 70), (sl T 71), (sl T 72), (sl T 73), (sl T 74), (sl T 75), (sl T 76), (sl T 77), (sl T 78), (sl T 79), (sl T 80), (sl T 81), (sl T 82), (sl T 83), (sl T 84), (sl T 85), (sl T 86), (sl T 87), (sl T 88), (sl T 89), (sl T 90), (sl T 91), (sl T 92), (sl T 93), (sl T 94), (sl T 95), (sl T 96), (sl T 97), (sl T 98), (sl T 99), (sl T 100), (sl T 101), (sl T 102), (sl T 103), (sl T 104), (sl T 105), (sl T 106), (sl T 107), (sl T 108), (sl T 109), (sl T 110), (sl T 111), (sl T 112), (sl T 113), (sl T 114), (sl T 115), (sl T 116), (sl T 117), (sl T 118), (sl T 119), (sl T 120), (sl T 121), (sl T 122), (sl T 123), (sl T 124), (sl T 125), (sl T 126), (sl T 127), (sl T 128), (sl T 129), (sl T 130), (sl T 131), (sl T 132), (sl T 133), (sl T 134), (sl T 135), (sl T 136), (sl T 137), (sl T 138), (sl T 139), (sl T 140), (sl T 141), (sl T 142), (sl T 143), (sl T 144), (sl T 145), (sl T 146), (sl T 147), (sl T 148), (sl T 149), (sl T 150), (sl T 151), (sl T 152), (sl T 153), (sl T 154), (sl T 155), (sl T 156), (sl T 157), (sl T 158), (sl T 159), (sl T 160), (sl T 161), (sl T 162), (sl T 163), (sl T 164), (sl T 165), (sl T 166), (sl T 167), (sl T 168), (sl T 169), (sl T 170), (sl T 171), (sl T 172), (sl T 173), (sl T 174), (sl T 19), (sl T 20), v1, (sl T 20), (sl T 2), v2, v2, v4, v7, v10, v13, (sl T 186), (sl T 187), (sl T 188), (sl T 189), (sl T 190), (sl T 191), (sl T 192), (sl T 193), (sl T 194), (sl T 195), (sl T 196), (sl T 197), (sl T 198), (sl T 199), (sl T 200), (sl T 201), (sl T 202), (sl T 203), (sl T 204), (sl T 205), (sl T 206), (sl T 207), (sl T 208), (sl T 209), (sl T 210), (sl T 211), (sl T 212), (sl T 213), (sl T 214), (sl T 215), (sl T 216), (sl T 217), (sl T 218), (sl T 219)] H11 K)) :=
  (congrArg (fun T => wpC tab noExt (RC.seq (RC.region 4 [
    ⟨(some 175), .move (.t 19), none, 0, []⟩,
    ⟨(some 176), .move (.t 20), none, 1, []⟩,
    ⟨(some 177), .bin .sub (.t 175) (.t 176), none, 2, []⟩,
    ⟨(some 24), .move (.t 177), none, 3, []⟩]) (RC.seq (RC.seq (RC.region 8 [
    ⟨(some 178), .move (.t 20), none, 0, []⟩,
    ⟨(some 179), .move (.t 2), none, 1, []⟩,
    ⟨(some 180), .bin .lss (.t 178) (.t 179), none, 2, []⟩,
    ⟨(some 181), .move (.t 180), none, 3, []⟩,
    ⟨(some 182), .move (.t 2), (some (181, true)), 4, []⟩,
    ⟨(some 183), .move (.t 24), (some (181, true)), 5, []⟩,
    ⟨(some 184), .bin .lss (.t 182) (.t 183), (some (181, true)), 6, []⟩,
    ⟨(some 185), .pick (.t 181) (.t 184) (.c (.s (.bool false))), none, 7, []⟩]) (RC.cond (.t 185) (RC.region 6 [
    ⟨(some 186), .move (.t 0), none, 0, []⟩,
    ⟨(some 187), .move (.t 20), none, 1, []⟩,
    ⟨(some 188), .move (.t 2), none, 2, []⟩,
    ⟨(some 189), .move (.t 24), none, 3, []⟩,
    ⟨(some 190), .move (.t 4), none, 4, []⟩,
    ⟨(some 191), .call F.slices_rotateCmpFunc_cyc_Fired [(.t 186), (.t 187), (.t 188), (.t 189), (.t 190)], none, 5, []⟩]) (RC.skip))) c_slices_symMergeCmpFunc_cyc_Fired_s10)) T H K) (sl_eta hT)).trans (by kernel_rfl)
theorem slices_symMergeCmpFunc_cyc_Fired_s11_at {T : List AV} (hT : T.length = 220) (H : AH) (K : Ex → List AV → AH → Prop) :
  wpC tab noExt R.slices_symMergeCmpFunc_cyc_Fired_s11 T H K = (andThen (binA .sub (sl T 19) (sl T 20)) fun v1 => andThen (binA .lss (sl T 20) (sl T 2)) fun v2 => gP (gd v2 true) (AH.bump (AH.bump H 4) 8) (fun k3 => k3 (sl T 2) (AH.bump (AH.bump H 4) 8)) fun v4 H5 => gP (gd v2 true) H5 (fun k6 => k6 v1 H5) fun v7 H8 => gP (gd v2 true) H8 (fun k9 => andThen (binA .lss v4 v7) fun v12 => k9 v12 H8) fun v10 H11 => andThen (pickA v2 v10 (AV.s (SV.bool false))) fun v13 => condP v13 (CallP tab noExt F.slices_rotateCmpFunc_cyc_Fired [(sl T 0), (sl T 20), (sl T 2), v1, (sl T 4)] (AH.bump H11 6) fun v14 H15 => wpC tab noExt R.slices_symMergeCmpFunc_cyc_Fired_s10 [(sl T 0), (sl T 1), (sl T 2), (sl T 3), (sl T 4), (sl T 5), (sl T 6), (sl T 7), (sl T 8), (sl T 9), (sl T 10), (sl T 11), (sl T 12), (sl T 13), (sl T 14), (sl T 15), (sl T 16), (sl T 17), (sl T 18), (sl T 19), (sl T 20), (sl T 21), (sl T 22), (sl T 23), v1, (sl T 25), (sl T 26), (sl T 27), (sl T 28), (sl T 29), (sl T 30), (sl T 31), (sl T 32), (sl T 33), (sl T 34), (sl T 35), (sl T 36), (sl T 37), (sl T 38), (sl T 39), (sl T 40), (sl T 41), (sl T 42), (sl T 43), (sl T 44), (sl T 45), (sl T 46), (sl T 47), (sl T 48), (sl T 49), (sl T 50), (sl T 51), (sl T 52), (sl T 53), (sl T 54), (sl T 55), (sl T 56), (sl T 57), (sl T 58), (sl T 59), (sl T 60), (sl T 61), (sl T 62), (sl T 63), (sl T 64), (sl T 65), (sl T 66), (sl T 67), (sl T 68), (sl T 69), (sl T 70), (sl T 71), (sl T 72), (sl T 73), (sl T 74), (sl T 75), (sl T 76), (sl T 77), (sl T 78), (sl T 79), (sl T 80), (sl T 81), (sl T 82), (sl T 83), (sl T 84), (sl T 85), (sl T 86), (sl T 87), (sl T 88), (sl T 89), (sl T 90), (sl T 91), (sl T 92), (sl T 93), (sl T 94), (sl T 95), (sl T 96), (sl T 97), (sl T 98), (sl T 99), (sl T 100), (sl T 101), (sl T 102), (sl T 103), (sl T 104), (sl T 105), (sl T 106), (sl T 107), (sl T 108), (sl T 109), (sl T 110), (sl T 111), (sl T 112), (sl T 113), (sl T 114), (sl T 115), (sl T 116), (sl T 117), (sl T 118), (sl T 119), (sl T 120), (sl T 121), (sl T 122), (sl T 123), (sl T 124), (sl T 125), (sl T 126), (sl T 127), (sl T 128), (sl T 129), (sl T 130), (sl T 131), (sl T 132), (sl T 133), (sl T 134), (sl T 135), (sl T 136), (sl T 137), (sl T 138), (sl T 139), (sl T 140), (sl T 141), (sl T 142), (sl T 143), (sl T 144), (sl T 145), (sl T 146), (sl T 147), (sl T 148), (sl T 149), (sl T 150), (sl T 151), (sl T 152), (sl T 153), (sl T 154), (sl T 155), (sl T 156), (sl T 157), (sl T 158), (sl T 159), (sl T 160), (sl T 161), (sl T 162), (sl T 163), (sl T 164), (sl T 165), (sl T 166), (sl T 167), (sl T 168), (sl T 169), (sl T 170), (sl T 171), (sl T 172), (sl T 173), (sl T 174), (sl T 19), (sl T 20), v1, (sl T 20), (sl T 2), v2, v2, v4, v7, v10, v13, (sl T 0), (sl T 20), (sl T 2), v1, (sl T 4), v14, (sl T 192), (sl T 193), (sl T 194), (sl T 195), (sl T 196), (sl T 197), (sl T 198), (sl T 199), (sl T 200), (sl T 201), (sl T 202), (sl T 203), (sl T 204), (sl T 205), (sl T 206), (sl T 207), (sl T 208), (sl T 209), (sl T 210), (sl T 211), (sl T 212), (sl T 213), (sl T 214), (sl T 215), (sl T 216), (sl T 217), (sl T 218), (sl T 219)] H15 K) (wpC tab noExt R.slices_symMergeCmpFunc_cyc_Fired_s10 [(sl T 0), (sl T 1), (sl T 2), (sl T 3), (sl T 4), (sl T 5), (sl T 6), (sl T 7), (sl T 8), (sl T 9), (sl T 10), (sl T 11), (sl T 12), (sl T 13), (sl T 14), (sl T 15), (sl T 16), (sl T 17), (sl T 18), (sl T 19), (sl T 20), (sl T 21), (sl T 22), (sl T 23), v1, (sl T 25), (sl T 26), (sl T 27), (sl T 28), (sl T 29), (sl T 30), (sl T 31), (sl T 32), (sl T 33), (sl T 34), (sl T 35), (sl T 36), (sl T 37), (sl T 38), (sl T 39), (sl T 40), (sl T 41), (sl T 42), (sl T 43), (sl T 44), (sl T 45), (sl T 46), (sl T 47), (sl T 48), (sl T 49), (sl T 50), (sl T 51), (sl T 52), (sl T 53), (sl T 54), (sl T 55), (sl T 56), (sl T 57), (sl T 58), (sl T 59), (sl T 60), (sl T 61), (sl T 62), (sl T 63), (sl T 64), (sl T 65), (sl T 66), (sl T 67), (sl T 68), (sl T 69), (sl T 70), (sl T 71), (sl T 72), (sl T 73), (sl T 74), (sl T 75), (sl T 76), (sl T 77), (sl T 78), (sl T 79), (sl T 80), (sl T 81), (sl T 82), (sl T 83), (sl T 84), (sl T 85), (sl T 86), (sl T 87), (sl T 88), (sl T 89), (sl T 90), (sl T 91), (sl T 92), (sl T 93), (sl T 94), (sl T 95), (sl T 96), (sl T 97), (sl T 98), (sl T 99), (sl T 100), (sl T 101), (sl T 102), (sl T 103), (sl T 104), (sl T 105), (sl T 106), (sl T 107), (sl T 108), (sl T 109), (sl T 110), (sl T 111), (sl T 112), (sl T 113), (sl T 114), (sl T 115), (sl T 116), (sl T 117), (sl T 118), (sl T 119), (sl T 120), (sl T 121), (sl T 122), (sl T 123), (sl T 124), (sl T 125), (sl T 126), (sl T 127), (sl T 128), (sl T 129), (sl T 130), (sl T 131), (sl T 132), (sl T 133), (sl T 134), (sl T 135), (sl T 136), (sl T 137), (sl T 138), (sl T 139), (sl T 140), (sl T 141), (sl T 142), (sl T 143), (sl T 144), (sl T 145), (sl T 146), (sl T 147), (sl T 148), (sl T 149), (sl T 150), (sl T 151), (sl T 152), (sl T 153), (sl T 154), (sl T 155), (sl T 156), (sl T 157), (sl T 158), (sl T 159), (sl T 160), (sl T 161), (sl T 162), (sl T 163), (sl T 164), (sl T 165), (sl T 166), (sl T 167), (sl T 168), (sl T 169), (sl T 170), (sl T 171), (sl T 172), (sl T 173), (sl T 174), (sl T 19), (sl T 20), v1, (sl T 20), (sl T 2), v2, v2, v4, v7, v10, v13, (sl T 186), (sl T 187), (sl T 188), (sl T 189), (sl T 190), (sl T 191), (sl T 192), (sl T 193), (sl T 194), (sl T 195), (sl T 196), (sl T 197), (sl T 198), (sl T 199), (sl T 200), (sl T 201), (sl T 202), (sl T 203), (sl T 204), (sl T 205), (sl T 206), (sl T 207), (sl T 208), (sl T 209), (sl T 210), (sl T 211), (sl T 212), (sl T 213), (sl T 214), (sl T 215), (sl T 216), (sl T 217), (sl T 218), (sl T 219)] H11 K)) := slices_symMergeCmpFunc_cyc_Fired_s11_gen R.slices_symMergeCmpFunc_cyc_Fired_s10 hT H K
theorem slices_symMergeCmpFunc_cyc_Fired_s12_at {T : List AV} (hT : T.length = 220) (H : AH) (K : Ex → List AV → AH → Prop) :
  wpC tab noExt R.slices_symMergeCmpFunc_cyc_Fired_s12 T H K = (andThen (binA .sub (sl T 19) (AV.s (SV.int .i64 1))) fun v1 => loopP tab noExt R.slices_symMergeCmpFunc_cyc_Fired_l8 [(sl T 0), (sl T 1), (sl T 2), (sl T 3), (sl T 4), (sl T 5), (sl T 6), (sl T 7), (sl T 8), (sl T 9), (sl T 10), (sl T 11), (sl T 12), (sl T 13), (sl T 14), (sl T 15), (sl T 16), (sl T 17), (sl T 18), (sl T 19), (sl T 20), (sl T 21), v1, (sl T 23), (sl T 24), (sl T 25), (sl T 26), (sl T 27), (sl T 28), (sl T 29), (sl T 30), (sl T 31), (sl T 32), (sl T 33), (sl T 34), (sl T 35), (sl T 36), (sl T 37), (sl T 38), (sl T 39), (sl T 40), (sl T 41), (sl T 42), (sl T 43), (sl T 44), (sl T 45), (sl T 46), (sl T 47), (sl T 48), (sl T 49), (sl T 50), (sl T 51), (sl T 52), (sl T 53), (sl T 54), (sl T 55), (sl T 56), (sl T 57), (sl T 58), (sl T 59), (sl T 60), (sl T 61), (sl T 62), (sl T 63), (sl T 64), (sl T 65), (sl T 66), (sl T 67), (sl T 68), (sl T 69), (sl T 70), (sl T 71), (sl T 72), (sl T 73), (sl T 74), (sl T 75), (sl T 76), (sl T 77), (sl T 78), (sl T 79), (sl T 80), (sl T 81), (sl T 82), (sl T 83), (sl T 84), (sl T 85), (sl T 86), (sl T 87), (sl T 88), (sl T 89), (sl T 90), (sl T 91), (sl T 92), (sl T 93), (sl T 94), (sl T 95), (sl T 96), (sl T 97), (sl T 98), (sl T 99), (sl T 100), (sl T 101), (sl T 102), (sl T 103), (sl T 104), (sl T 105), (sl T 106), (sl T 107), (sl T 108), (sl T 109), (sl T 110), (sl T 111), (sl T 112), (sl T 113), (sl T 114), (sl T 115), (sl T 116), (sl T 117), (sl T 118), (sl T 119), (sl T 120), (sl T 121), (sl T 122), (sl T 123), (sl T 124), (sl T 125), (sl T 126), (sl T 127), (sl T 128), (sl T 129), (sl T 130), (sl T 131), (sl T 132), (sl T 133), (sl T 134), (sl T 135), (sl T 136), (sl T 137), (sl T 138), (sl T 139), (sl T 140), (sl T 141), (sl T 142), (sl T 143), (sl T 144), (sl T 145), (sl T 146), (sl T 19), v1, (sl T 149), (sl T 150), (sl T 151), (sl T 152), (sl T 153), (sl T 154), (sl T 155), (sl T 156), (sl T 157), (sl T 158), (sl T 159), (sl T 160), (sl T 161), (sl T 162), (sl T 163), (sl T 164), (sl T 165), (sl T 166), (sl T 167), (sl T 168), (sl T 169), (sl T 170), (sl T 171), (sl T 172), (sl T 173), (sl T 174), (sl T 175), (sl T 176), (sl T 177), (sl T 178), (sl T 179), (sl T 180), (sl T 181), (sl T 182), (sl T 183), (sl T 184), (sl T 185), (sl T 186), (sl T 187), (sl T 188), (sl T 189), (sl T 190), (sl T 191), (sl T 192), (sl T 193), (sl T 194), (sl T 195), (sl T 196), (sl T 197), (sl T 198), (sl T 199), (sl T 200), (sl T 201), (sl T 202), (sl T 203), (sl T 204), (sl T 205), (sl T 206), (sl T 207), (sl T 208), (sl T 209), (sl T 210), (sl T 211), (sl T 212), (sl T 213), (sl T 214), (sl T 215), (sl T 216), (sl T 217), (sl T 218), (sl T 219)] (AH.bump H 3) (blockK 8 (seqK (fun T H => wpC tab noExt R.slices_symMergeCmpFunc_cyc_Fired_s11 T H K) K))) :=
  (congrArg (fun T => wpC tab noExt R.slices_symMergeCmpFunc_cyc_Fired_s12 T H K) (sl_eta hT)).trans (by kernel_rfl)
theorem slices_symMergeCmpFunc_cyc_Fired_s13_gen (c_slices_symMergeCmpFunc_cyc_Fired_s12 : RC) {T : List AV} (hT : T.length = 220) (H : AH) (K : Ex → List AV → AH → Prop) :
  wpC tab noExt (RC.seq (RC.region 7 [
    ⟨(some 129), .move (.t 1), none, 0, []⟩,
    ⟨(some 130), .move (.t 3), none, 1, []⟩,
    ⟨(some 131), .bin .add (.t 129) (.t 130), none, 2, []⟩,
    ⟨(some 132), .conv .u64 (.t 131), none, 3, []⟩,
    ⟨(some 133), .bin .shr (.t 132) (.c (.s (.int .u64 1))), none, 4, []⟩,
    ⟨(some 134), .conv .i64 (.t 133), none, 5, []⟩,
    ⟨(some 18), .move (.t 134), none, 6, []⟩]) (RC.seq (RC.region 4 [
    ⟨(some 135), .move (.t 18), none, 0, []⟩,
    ⟨(some 136), .move (.t 2), none, 1, []⟩,
    ⟨(some 137), .bin .add (.t 135) (.t 136), none, 2, []⟩,
    ⟨(some 19), .move (.t 137), none, 3, []⟩]) (RC.seq (RC.region 2 [
    ⟨(some 20), .move (.c (.s (.int .i64 0))), none, 0, []⟩,
    ⟨(some 21), .move (.c (.s (.int .i64 0))), none, 1, []⟩]) (RC.seq (RC.seq (RC.region 3 [
    ⟨(some 138), .move (.t 2), none, 0, []⟩,
    ⟨(some 139), .move (.t 18), none, 1, []⟩,
    ⟨(some 140), .bin .gtr (.t 138) (.t 139), none, 2, []⟩]) (RC.cond (.t 140) (RC.seq (RC.region 4 [
    ⟨(some 141), .move (.t 19), none, 0, []⟩,
    ⟨(some 142), .move (.t 3), none, 1, []⟩,
    ⟨(some 143), .bin .sub (.t 141) (.t 142), none, 2, []⟩,
    ⟨(some 20), .move (.t 143), none, 3, []⟩]) (RC.region 2 [
    ⟨(some 144), .move (.t 18), none, 0, []⟩,
    ⟨(some 21), .move (.t 144), none, 1, []⟩])) (RC.seq (RC.region 2 [
    ⟨(some 145), .move (.t 1), none, 0, []⟩,
    ⟨(some 20), .move (.t 145), none, 1, []⟩]) (RC.region 2 [
    ⟨(some 146), .move (.t 2), none, 0, []⟩,
    ⟨(some 21), .move (.t 146), none, 1, []⟩])))) c_slices_symMergeCmpFunc_cyc_Fired_s12)))) T H K = (andThen (binA .add (sl T 1) (sl T 3)) fun v1 => andThen (convA .u64 v1) fun v2 => andThen (binA .shr v2 (AV.s (SV.int .u64 1))) fun v3 => andThen (convA .i64 v3) fun v4 => andThen (binA .add v4 (sl T 2)) fun v5 => andThen (binA .gtr (sl T 2) v4) fun v6 => condP v6 (andThen (binA .sub v5 (sl T 3)) fun v7 => wpC tab noExt c_slices_symMergeCmpFunc_cyc_Fired_s12 [(sl T 0), (sl T 1), (sl T 2), (sl T 3), (sl T 4), (sl T 5), (sl T 6), (sl T 7), (sl T 8), (sl T 9), (sl T 10), (sl T 11), (sl T 12), (sl T 13), (sl T 14), (sl T 15), (sl T 16), (sl T 17), v4, v5, v7, v4, (sl T 22), (sl T 23), (sl T 24), (sl T 25), (sl T 26), (sl T 27), (sl T 28), (sl T 29), (sl T 30), (sl T 31), (sl T 32), (sl T 33), (sl T 34), (sl T 35), (sl T 36), (sl T 37), (sl T 38), (sl T 39), (sl T 40), (sl T 41), (sl T 42), (sl T 43), (sl T 44), (sl T 45), (sl T 46), (sl T 47), (sl T 48), (sl T 49), (sl T 50), (sl T 51), (sl T 52), (sl T 53), (sl T 54), (sl T 55), (sl T 56), (sl T 57), (sl T 58), (sl T 59), (sl T 60), (sl T 61), (sl T 62), (sl T 63), (sl T 64), (sl T 65), (sl T 66), (sl T 67), (sl T 68), (sl T 69), (sl T 70), (sl T 71), (sl T 72), (sl T 73), (sl T 74), (sl T 75), (sl T 76), (sl T 77), (sl T 78), (sl T 79), (sl T 80), (sl T 81), (sl T 82), (sl T 83), (sl T 84), (sl T 85), (sl T 86), (sl T 87), (sl T 88), (sl T 89), (sl T 90), (sl T 91), (sl T 92), (sl T 93), (sl T 94), (sl T 95), (sl T 96), (sl T 97), (sl T 98), (sl T 99), (sl T 100), (sl T 101), (sl T 102), (sl T 103), (sl T 104), (sl T 105), (sl T 106), (sl T 107), (sl T 108), (sl T 109), (sl T 110), (sl T 111), (sl T 112), (sl T 113), (sl T 114), (sl T 115), (sl T 116), (sl T 117), (sl T 118), (sl T 119), (sl T 120), (sl T 121), (sl T 122), (sl T 123), (sl T 124), (sl T 125), (sl T 126), (sl T 127), (sl T 128), (sl T 1), (sl T 3), v1, v2, v3, v4, v4, (sl T 2), v5, (sl T 2), v4, v6, v5, (sl T 3), v7, v4, (sl T 145), (sl T 146), (sl T 147), (sl T 148), (sl T 149), (sl T 150), (sl T 151), (sl T 152), (sl T 153), (sl T 154), (sl T 155), (sl T 156), (sl T 157), (sl T 158), (sl T 159), (sl T 160), (sl T 161), (sl T 162), (sl T 163), (sl T 164), (sl T 165), (sl T 166), (sl T 167), (sl T 168), (sl T 169), (sl T 170), (sl T 171), (sl T 172), (sl T 173), (sl T 174), (sl T 175), (sl T 176), (sl T 177), (sl T 178), (sl T 179), (sl T 180), (sl T 181), (sl T 182), (sl T 183), (sl T 184), (sl T 185), (sl T 186), (sl T 187), (sl T 188), (sl T 189), (sl T 190), (sl T 191), (sl T 192), (sl T 193), (sl T 194), (sl T 195), (sl T 196), (sl T 197), (sl T 198), (sl T 199), (sl T 200), (sl T 201), (sl T 202), (sl T 203), (sl T 204), (sl T 205), (sl T 206), (sl T 207), (sl T 208), (sl T 209), (sl T 210), (sl T 211), (sl T 212), (sl T 213), (sl T 214), (sl T 215), (sl T 216), (sl T 217), (sl T 218), (sl T 219)] (AH.bump (AH.bump (AH.bump (AH.bump (AH.bump (AH.bump H 7) 4) 2) 3) 4) 2) K) (wpC tab noExt c_slices_symMergeCmpFunc_cyc_Fired_s12 [(sl T 0), (sl T 1), (sl T 2), (sl T 3), (sl T 4), (sl T 5), (sl T 6), (sl T 7), (sl T 8), (sl T 9), (sl T 10), (sl T 11), (sl T 12), (sl T 13), (sl T 14), (sl T 15), (sl T 16), (sl T 17), v4, v5, (sl T 1), (sl T 2), (sl T 22), (sl T 23), (sl T 24), (sl T 25), (sl T 26), (sl T 27), (sl T 28), (sl T 29), (sl T 30), (sl T 31), (sl T 32), (sl T 33), (sl T 34), (sl T 35), (sl T 36), (sl T 37), (sl T 38), (sl T 39), (sl T 40), (sl T 41), (sl T 42), (sl T 43), (sl T 44), (sl T 45), (sl T 46), (sl T 47), (sl T 48), (sl T 49), (sl T 50), (sl T 51), (sl T 52), (sl T 53), (sl T 54), (sl T 55), (sl T 56), (sl T 57), (sl T 58), (sl T 59), (sl T 60), (sl T 61), (sl T 62), (sl T 63), (sl T 64), (sl T 65), (sl T 66), (sl T 67), (sl T 68), (sl T 69), (sl T 70), (sl T 71), (sl T 72), (sl T 73), (sl T 74), (sl T 75), (sl T 76), (sl T 77), (sl T 78), (sl T 79), (sl T 80), (sl T 81), (sl T 82), (sl T 83), (sl T 84), (sl T 85), (sl T 86), (sl T 87), (sl T 88), (sl T 89), (sl T 90), (sl T 91), (sl T 92), (sl T 93), (sl T 94), (sl T 95), (sl T 96), (sl T 97), (sl T 98), (sl T 99), (sl T 100), (sl T 101), (sl T 102), (sl T 103), (sl T 104), (sl T 105), (sl T 106), (sl T 107), (sl T 108), (sl T 109), (sl T 110), (sl T 111), (sl T 112), (sl T 113), (sl T 114), (sl T 115), (sl T 116), (sl T 117), (sl T 118), (sl T 119), (sl T 120), (sl T 121), (sl T 122), (sl T 123), (sl T 124), (sl T 125), (sl T 126), (sl T 127), (sl T 128), (sl T 1), (sl T 3), v1, v2, v3, v4, v4, (sl T 2), v5, (sl T 2), v4, v6, (sl T 141), (sl T 142), (sl T 143), (sl T 144), (sl T 1), (sl T 2), (sl T 147), (sl T 148), (sl T 149), (sl T 150), (sl T 151), (sl T 152), (sl T 153), (sl T 154), (sl T 155), (sl T 156), (sl T 157), (sl T 158), (sl T 159), (sl T 160), (sl T 161), (sl T 162), (sl T 163), (sl T 164), (sl T 165), (sl T 166), (sl T 167), (sl T 168), (sl T 169), (sl T 170), (sl T 171), (sl T 172), (sl T 173), (sl T 174), (sl T 175), (sl T 176), (sl T 177), (sl T 178), (sl T 179), (sl T 180), (sl T 181), (sl T 182), (sl T 183), (sl T 184), (sl T 185), (sl T 186), (sl T 187), (sl T 188), (sl T 189), (sl T 190), (sl T 191), (sl T 192), (sl T 193), (sl T 194), (sl T 195), (sl T 196), (sl T 197), (sl T 198), (sl T 199), (sl T 200), (sl T 201), (sl T 202), (sl T 203), (sl T 204), (sl T 205), (sl T 206), (sl T 207), (sl T 208), (sl T 209), (sl T 210), (sl T 211), (sl T 212), (sl T 213), (sl T 214), (sl T 215), (sl T 216), (sl T 217), (sl T 218), (sl T 219)] (AH.bump (AH.bump (AH.bump (AH.bump (AH.bump (AH.bump H 7) 4) 2) 3) 2) 2) K)) :=
  (congrArg (fun T => wpC tab noExt (RC.seq (RC.region 7 [
    ⟨(some 129), .move (.t 1), none, 0, []⟩,
    ⟨(some 130), .move (.t 3), none, 1, []⟩,
    ⟨(some 131), .bin .add (.t 129) (.t 130), none, 2, []⟩,
    ⟨(some 132), .conv .u64 (.t 131), none, 3, []⟩,
    ⟨(some 133), .bin .shr (.t 132) (.c (.s (.int .u64 1))), none, 4, []⟩,
    ⟨(some 134), .conv .i64 (.t 133), none, 5, []⟩,
    ⟨(some 18), .move (.t 134), none, 6, []⟩]) (RC.seq (RC.region 4 [
    ⟨(some 135), .move (.t 18), none, 0, []⟩,
    ⟨(some 136), .move (.t 2), none, 1, []⟩,
    ⟨(some 137), .bin .add (.t 135) (.t 136), none, 2, []⟩,
    ⟨(some 19), .move (.t 137), none, 3, []⟩]) (RC.seq (RC.region 2 [
    ⟨(some 20), .move (.c (.s (.int .i64 0))), none, 0, []⟩,
    ⟨(some 21), .move (.c (.s (.int .i64 0))), none, 1, []⟩]) (RC.seq (RC.seq (RC.region 3 [
    ⟨(some 138), .move (.t 2), none, 0, []⟩,
    ⟨(some 139), .move (.t 18), none, 1, []⟩,
    ⟨(some 140), .bin .gtr (.t 138) (.t 139), none, 2, []⟩]) (RC.cond (.t 140) (RC.seq (RC.region 4 [
    ⟨(some 141), .move (.t 19), none, 0, []⟩,
    ⟨(some 142), .move (.t 3), none, 1, []⟩,
    ⟨(some 143), .bin .sub (.t 141) (.t 142), none, 2, []⟩,
    ⟨(some 20), .move (.t 143), none, 3, []⟩]) (RC.region 2 [
    ⟨(some 144), .move (.t 18), none, 0, []⟩,
    ⟨(some 21), .move (.t 144), none, 1, []⟩])) (RC.seq (RC.region 2 [
    ⟨(some 145), .move (.t 1), none, 0, []⟩,
    ⟨(some 20), .move (.t 145), none, 1, []⟩]) (RC.region 2 [
    ⟨(some 146), .move (.t 2), none, 0, []⟩,
    ⟨(some 21), .move (.t 146), none, 1, []⟩])))) c_slices_symMergeCmpFunc_cyc_Fired_s12)))) T H K) (sl_eta hT)).trans (by kernel_rfl)
theorem slices_symMergeCmpFunc_cyc_Fired_s13_at {T : List AV} (hT : T.length = 220) (H : AH) (K : Ex → List AV → AH → Prop) :
  wpC tab noExt R.slices_symMergeCmpFunc_cyc_Fired_s13 T H K = (andThen (binA .add (sl T 1) (sl T 3)) fun v1 => andThen (convA .u64 v1) fun v2 => andThen (binA .shr v2 (AV.s (SV.int .u64 1))) fun v3 => andThen (convA .i64 v3) fun v4 => andThen (binA .add v4 (sl T 2)) fun v5 => andThen (binA .gtr (sl T 2) v4) fun v6 => condP v6 (andThen (binA .sub v5 (sl T 3)) fun v7 => wpC tab noExt R.slices_symMergeCmpFunc_cyc_Fired_s12 [(sl T 0), (sl T 1), (sl T 2), (sl T 3), (sl T 4), (sl T 5), (sl T 6), (sl T 7), (sl T 8), (sl T 9), (sl T 10), (sl T 11), (sl T 12), (sl T 13), (sl T 14), (sl T 15), (sl T 16), (sl T 17), v4, v5, v7, v4, (sl T 22), (sl T 23), (sl T 24), (sl T 25), (sl T 26), (sl T 27), (sl T 28), (sl T 29), (sl T 30), (sl T 31), (sl T 32), (sl T 33), (sl T 34), (sl T 35), (sl T 36), (sl T 37), (sl T 38), (sl T 39), (sl T 40), (sl T 41), (sl T 42), (sl T 43), (sl T 44), (sl T 45), (sl T 46), (sl T 47), (sl T 48), (sl T 49), (sl T 50), (sl T 51), (sl T 52), (sl T 53), (sl T 54), (sl T 55), (sl T 56), (sl T 57), (sl T 58), (sl T 59), (sl T 60), (sl T 61), (sl T 62), (sl T 63), (sl T 64), (sl T 65), (sl T 66), (sl T 67), (sl T 68), (sl T 69), (sl T 70), (sl T 71), (sl T 72), (sl T 73), (sl T 74), (sl T 75), (sl T 76), (sl T 77), (sl T 78), (sl T 79), (sl T 80), (sl T 81), (sl T 82), (sl T 83), (sl T 84), (sl T 85), (sl T 86), (sl T 87), (sl T 88), (sl T 89), (sl T 90), (sl T 91), (sl T 92), (sl T 93), (sl T 94), (sl T 95), (sl T 96), (sl T 97), (sl T 98), (sl T 99), (sl T 100), (sl T 101), (sl T 102), (sl T 103), (sl T 104), (sl T 105), (sl T 106), (sl T 107), (sl T 108), (sl T 109), (sl T 110), (sl T 111), (sl T 112), (sl T 113), (sl T 114), (sl T 115), (sl T 116), (sl T 117), (sl T 118), (sl T 119), (sl T 120), (sl T 121), (sl T 122), (sl T 123), (sl T 124), (sl T 125), (sl T 126), (sl T 127), (sl T 128), (sl T 1), (sl T 3), v1, v2, v3, v4, v4, (sl T 2), v5, (sl T 2), v4, v6, v5, (sl T 3), v7, v4, (sl T 145), (sl T 146), (sl T 147), (sl T 148), (sl T 149), (sl T 150), (sl T 151), (sl T 152), (sl T 153), (sl T 154), (sl T 155), (sl T 156), (sl T 157), (sl T 158), (sl T 159), (sl T 160), (sl T 161), (sl T 162), (sl T 163), (sl T 164), (sl T 165), (sl T 166), (sl T 167), (sl T 168), (sl T 169), (sl T 170), (sl T 171), (sl T 172), (sl T 173), (sl T 174), (sl T 175), (sl T 176), (sl T 177), (sl T 178), (sl T 179), (sl T 180), (sl T 181), (sl T 182), (sl T 183), (sl T 184), (sl T 185), (sl T 186), (sl T 187), (sl T 188), (sl T 189), (sl T 190), (sl T 191), (sl T 192), (sl T 193), (sl T 194), (sl T 195), (sl T 196), (sl T 197), (sl T 198), (sl T 199), (sl T 200), (sl T 201), (sl T 202), (sl T 203), (sl T 204), (sl T 205), (sl T 206), (sl T 207), (sl T 208), (sl T 209), (sl T 210), (sl T 211), (sl T 212), (sl T 213), (sl T 214), (sl T 215), (sl T 216), (sl T 217), (sl T 218), (sl T 219)] (AH.bump (AH.bump (AH.bump (AH.bump (AH.bump (AH.bump H 7) 4) 2) 3) 4) 2) K) (wpC tab noExt R.slices_symMergeCmpFunc_cyc_Fired_s12 [(sl T 0), (sl T 1), (sl T 2), (sl T 3), (sl T 4), (sl T 5), (sl T 6), (sl T 7), (sl T 8), (sl T 9), (sl T 10), (sl T 11), (sl T 12), (sl T 13), (sl T 14), (sl T 15), (sl T 16), (sl T 17), v4, v5, (sl T 1), (sl T 2), (sl T 22), (sl T 23), (sl T 24), (sl T 25), (sl T 26), (sl T 27), (sl T 28), (sl T 29), (sl T 30), (sl T 31), (sl T 32), (sl T 33), (sl T 34), (sl T 35), (sl T 36), (sl T 37), (sl T 38), (sl T 39), (sl T 40), (sl T 41), (sl T 42), (sl T 43), (sl T 44), (sl T 45), (sl T 46), (sl T 47), (sl T 48), (sl T 49), (sl T 50), (sl T 51), (sl T 52), (sl T 53), (sl T 54), (sl T 55), (sl T 56), (sl T 57), (sl T 58), (sl T 59), (sl T 60), (sl T 61), (sl T 62), (sl T 63), (sl T 64), (sl T 65), (sl T 66), (sl T 67), (sl T 68), (sl T 69), (sl T 70), (sl T 71), (sl T 72), (sl T 73), (sl T 74), (sl T 75), (sl T 76), (sl T 77), (sl T 78), (sl T 79), (sl T 80), (sl T 81), (sl T 82), (sl T 83), (sl T 84), (sl T 85), (sl T 86), (sl T 87), (sl T 88), (sl T 89), (sl T 90), (sl T 91), (sl T 92), (sl T 93), (sl T 94), (sl T 95), (sl T 96), (sl T 97), (sl T 98), (sl T 99), (sl T 100), (sl T 101), (sl T 102), (sl T 103), (sl T 104), (sl T 105), (sl T 106), (sl T 107), (sl T 108), (sl T 109), (sl T 110), (sl T 111), (sl T 112), (sl T 113), (sl T 114), (sl T 115), (sl T 116), (sl T 117), (sl T 118), (sl T 119), (sl T 120), (sl T 121), (sl T 122), (sl T 123), (sl T 124), (sl T 125), (sl T 126), (sl T 127), (sl T 128), (sl T 1), (sl T 3), v1, v2, v3, v4, v4, (sl T 2), v5, (sl T 2), v4, v6, (sl T 141), (sl T 142), (sl T 143), (sl T 144), (sl T 1), (sl T 2), (sl T 147), (sl T 148), (sl T 149), (sl T 150), (sl T 151), (sl T 152), (sl T 153), (sl T 154), (sl T 155), (sl T 156), (sl T 157), (sl T 158), (sl T 159), (sl T 160), (sl T 161), (sl T 162), (sl T 163), (sl T 164), (sl T 165), (sl T 166), (sl T 167), (sl T 168), (sl T 169), (sl T 170), (sl T 171), (sl T 172), (sl T 173), (sl T 174), (sl T 175), (sl T 176), (sl T 177), (sl T 178), (sl T 179), (sl T 180), (sl T 181), (sl T 182), (sl T 183), (sl T 184), (sl T 185), (sl T 186), (sl T 187), (sl T 188), (sl T 189), (sl T 190), (sl T 191), (sl T 192), (sl T 193), (sl T 194), (sl T 195), (sl T 196), (sl T 197), (sl T 198), (sl T 199), (sl T 200), (sl T 201), (sl T 202), (sl T 203), (sl T 204), (sl T 205), (sl T 206), (sl T 207), (sl T 208), (sl T 209), (sl T 210), (sl T 211), (sl T 212), (sl T 213), (sl T 214), (sl T 215), (sl T 216), (sl T 217), (sl T 218), (sl T 219)] (AH.bump (AH.bump (AH.bump (AH.bump (AH.bump (AH.bump H 7) 4) 2) 3) 2) 2) K)) := slices_symMergeCmpFunc_cyc_Fired_s13_gen R.slices_symMergeCmpFunc_cyc_Fired_s12 hT H K
theorem slices_symMergeCmpFunc_cyc_Fired_s14_gen (c_slices_symMergeCmpFunc_cyc_Fired_l4 : RC) (c_slices_symMergeCmpFunc_cyc_Fired_s13 : RC) (c_slices_symMergeCmpFunc_cyc_Fired_s7 : RC) {T : List AV} (hT : T.length = 220) (H : AH) (K : Ex → List AV → AH → Prop) :
  wpC tab noExt (RC.seq (RC.seq (RC.region 4 [
    ⟨(some 77), .move (.t 3), none, 0, []⟩,
    ⟨(some 78), .move (.t 2), none, 1, []⟩,
    ⟨(some 79), .bin .sub (.t 77) (.t 78), none, 2, []⟩,
    ⟨(some 80), .bin .eql (.t 79) (.c (.s (.int .i64 1))), none, 3, []⟩]) (RC.cond (.t 80) (RC.seq (RC.region 2 [
    ⟨(some 81), .move (.t 1), none, 0, []⟩,
    ⟨(some 14), .move (.t 81), none, 1, []⟩]) (RC.seq (RC.region 2 [
    ⟨(some 82), .move (.t 2), none, 0, []⟩,
    ⟨(some 15), .move (.t 82), none, 1, []⟩]) (RC.seq (RC.block 4 (RC.loop c_slices_symMergeCmpFunc_cyc_Fired_l4)) c_slices_symMergeCmpFunc_cyc_Fired_s7))) (RC.skip))) c_slices_symMergeCmpFunc_cyc_Fired_s13) T H K = (andThen (binA .sub (sl T 3) (sl T 2)) fun v1 => andThen (binA .eql v1 (AV.s (SV.int .i64 1))) fun v2 => condP v2 (loopP tab noExt c_slices_symMergeCmpFunc_cyc_Fired_l4 [(sl T 0), (sl T 1), (sl T 2), (sl T 3), (sl T 4), (sl T 5), (sl T 6), (sl T 7), (sl T 8), (sl T 9), (sl T 10), (sl T 11), (sl T 12), (sl T 13), (sl T 1), (sl T 2), (sl T 16), (sl T 17), (sl T 18), (sl T 19), (sl T 20), (sl T 21), (sl T 22), (sl T 23), (sl T 24), (sl T 25), (sl T 26), (sl T 27), (sl T 28), (sl T 29), (sl T 30), (sl T 31), (sl T 32), (sl T 33), (sl T 34), (sl T 35), (sl T 36), (sl T 37), (sl T 38), (sl T 39), (sl T 40), (sl T 41), (sl T 42), (sl T 43), (sl T 44), (sl T 45), (sl T 46), (sl T 47), (sl T 48), (sl T 49), (sl T 50), (sl T 51), (sl T 52), (sl T 53), (sl T 54), (sl T 55), (sl T 56), (sl T 57), (sl T 58), (sl T 59), (sl T 60), (sl T 61), (sl T 62), (sl T 63), (sl T 64), (sl T 65), (sl T 66), (sl T 67), (sl T 68), (sl T 69), (sl T 70), (sl T 71), (sl T 72), (sl T 73), (sl T 74), (sl T 75), (sl T 76), (sl T 3), (sl T 2), v1, v2, (sl T 1), (sl T 2), (sl T 83), (sl T 84), (sl T 85), (sl T 86), (sl T 87), (sl T 88), (sl T 89), (sl T 90), (sl T 91), (sl T 92), (sl T 93), (sl T 94), (sl T 95), (sl T 96), (sl T 97), (sl T 98), (sl T 99), (sl T 100), (sl T 101), (sl T 102), (sl T 103), (sl T 104), (sl T 105), (sl T 106), (sl T 107), (sl T 108), (sl T 109), (sl T 110), (sl T 111), (sl T 112), (sl T 113), (sl T 114), (sl T 115), (sl T 116), (sl T 117), (sl T 118), (sl T 119), (sl T 120), (sl T 121), (sl T 122), (sl T 123), (sl T 124), (sl T 125), (sl T 126), (sl T 127), (sl T 128), (sl T 129), (sl T 130), (sl T 131), (sl T 132), (sl T 133), (sl T 134), (sl T 135), (sl T 136), (sl T 137), (sl T 138), (sl T 139), (sl T 140), (sl T 141), (sl T 142), (sl T 143), (sl T 144), (sl T 145), (sl T 146), (sl T 147), (sl T 148), (sl T 149), (sl T 150), (sl T 151), (sl T 152), (sl T 153), (sl T 154), (sl T 155), (sl T 156), (sl T 157), (sl T 158), (sl T 159), (sl T 160), (sl T 161), (sl T 162), (sl T 163), (sl T 164), (sl T 165), (sl T 166), (sl T 167), (sl T 168), (sl T 169), (sl T 170), (sl T 171), (sl T 172), (sl T 173), (sl T 174), (sl T 175), (sl T 176), (sl T 177), (sl T 178), (sl T 179), (sl T 180), (sl T 181), (sl T 182), (sl T 183), (sl T 184), (sl T 185), (sl T 186), (sl T 187), (sl T 188), (sl T 189), (sl T 190), (sl T 191), (sl T 192), (sl T 193), (sl T 194), (sl T 195), (sl T 196), (sl T 197), (sl T 198), (sl T 199), (sl T 200), (sl T 201), (sl T 202), (sl T 203), (sl T 204), (sl T 205), (sl T 206), (sl T 207), (sl T 208), (sl T 209), (sl T 210), (sl T 211), (sl T 212), (sl T 213), (sl T 214), (sl T 215), (sl T 216), (sl T 217), (sl T 218), (sl T 219)] (AH.bump (AH.bump (AH.bump H 4) 2) 2) (blockK 4 (seqK (fun T H => wpC tab noExt c_slices_symMergeCmpFunc_cyc_Fired_s7 T H (seqK (fun T H => wpC tab noExt c_slices_symMergeCmpFunc_cyc_Fired_s13 T H K) K)) (seqK (fun T H => wpC tab noExt c_slices_symMergeCmpFunc_cyc_Fired_s13 T H K) K)))) (wpC tab noExt c_slices_symMergeCmpFunc_cyc_Fired_s13 [(sl T 0), (sl T 1), (sl T 2), (sl T 3), (sl T 4), (sl T 5), (sl T 6), (sl T 7), (sl T 8), (sl T 9), (sl T 10), (sl T 11), (sl T 12), (sl T 13), (sl T 14), (sl T 15), (sl T 16), (sl T 17), (sl T 18), (sl T 19), (sl T 20), (sl T 21), (sl T 22), (sl T 23), (sl T 24), (sl T 25), (sl T 26), (sl T 27), (sl T 28), (sl T 29), (sl T 30), (sl T 31), (sl T 32), (sl T 33), (sl T 34), (sl T 35), (sl T 36), (sl T 37), (sl T 38), (sl T 39), (sl T 40), (sl T 41), (sl T 42), (sl T 43), (sl T 44), (sl T 45), (sl T 46), (sl T 47), (sl T 48), (sl T 49), (sl T 50), (sl T 51), (sl T 52), (sl T 53), (sl T 54), (sl T 55), (sl T 56), (sl T 57), (sl T 58), (sl T 59), (sl T 60), (sl T 61), (sl T 62), (sl T 63), (sl T 64), (sl T 65), (sl T 66), (sl T 67), (sl T 68), (sl T 69), (sl T 70), (sl T 71), (sl T 72), (sl T 73), (sl T 74), (sl T 75), (sl T 76), (sl T 3), (sl T 2), v1, v2, (sl T 81), (sl T 82), (sl T 83), (sl T 84), (sl T 85), (sl T 86), (sl T 87), (sl T 88), (sl T 89), (sl T 90), (sl T 91), (sl T 92), (sl T 93), (sl T 94), (sl T 95), (sl T 96), (sl T 97), (sl T 98), (sl T 99), (sl T 100), (sl T 101), (sl T 102), (sl T 103), (sl T 104), (sl T 105), (sl T 106), (sl T 107), (sl T 108), (sl T 109), (sl T 110), (sl T 111), (sl T 112), (sl T 113), (sl T 114), (sl T 115), (sl T 116), (sl T 117), (sl T 118), (sl T 119), (sl T 120), (sl T 121), (sl T 122), (sl T 123), (sl T 124), (sl T 125), (sl T 126), (sl T 127), (sl T 128), (sl T 129), (sl T 130), (sl T 131), (sl T 132), (sl T 133), (sl T 134), (sl T 135), (sl T 136), (sl T 137), (sl T 138), (sl T 139), (sl T 140), (sl T 141), (sl T 142), (sl T 143), (sl T 144), (sl T 145), (sl T 146), (sl T 147), (sl T 148), (sl T 149), (sl T 150), (sl T 151), (sl T 152), (sl T 153), (sl T 154), (sl T 155), (sl T 156), (sl T 157), (sl T 158), (sl T 159), (sl T 160), (sl T 161), (sl T 162), (sl T 163), (sl T 164), (sl T 165), (sl T 166), (sl T 167), (sl T 168), (sl T 169), (sl T 170), (sl T 171), (sl T 172), (sl T 173), (sl T 174), (sl T 175), (sl T 176), (sl T 177), (sl T 178), (sl T 179), (sl T 180), (sl T 181), (sl T 182), (sl T 183), (sl T 184), (sl T 185), (sl T 186), (sl T 187), (sl T 188), (sl T 189), (sl T 190), (sl T 191), (sl T 192), (sl T 193), (sl T 194), (sl T 195), (sl T 196), (sl T 197), (sl T 198), (sl T 199), (sl T 200), (sl T 201), (sl T 202), (sl T 203), (sl T 204), (sl T 205), (sl T 206), (sl T 207), (sl T 208), (sl T 209), (sl T 210), (sl T 211), (sl T 212), (sl T 213), (sl T 214), (sl T 215), (sl T 216), (sl T 217), (sl T 218), (sl T 219)] (AH.bump H 4) K)) :=
  (congrArg (fun T => wpC tab noExt (RC.seq (RC.seq (RC.region 4 [
    ⟨(some 77), .move (.t 3), none, 0, []⟩,
    ⟨(some 78), .move (.t 2), none, 1, []⟩,
    ⟨(some 79), .bin .sub (.t 77) (.t 78), none, 2, []⟩,
    ⟨(some 80), .bin .eql (.t 79) (.c (.s (.int .i64 1))), none, 3, []⟩]) (RC.cond (.t 80) (RC.seq (RC.region 2 [
    ⟨(some 81), .move (.t 1), none, 0, []⟩,
    ⟨(some 14), .move (.t 81), none, 1, []⟩]) (RC.seq (RC.region 2 [
    ⟨(some 82), .move (.t 2), none, 0, []⟩,
    ⟨(some 15), .move (.t 82), none, 1, []⟩]) (RC.seq (RC.block 4 (RC.loop c_slices_symMergeCmpFunc_cyc_Fired_l4)) c_slices_symMergeCmpFunc_cyc_Fired_s7))) (RC.skip))) c_slices_symMergeCmpFunc_cyc_Fired_s13) T H K) (sl_eta hT)).trans (by kernel_rfl)
theorem slices_symMergeCmpFunc_cyc_Fired_s14_at {T : List AV} (hT : T.length = 220) (H : AH) (K : Ex → List AV → AH → Prop) :
  wpC tab noExt R.slices_symMergeCmpFunc_cyc_Fired_s14 T H K = (andThen (binA .sub (sl T 3) (sl T 2)) fun v1 => andThen (binA .eql v1 (AV.s (SV.int .i64 1))) fun v2 => condP v2 (loopP tab noExt R.slices_symMergeCmpFunc_cyc_Fired_l4 [(sl T 0), (sl T 1), (sl T 2), (sl T 3), (sl T 4), (sl T 5), (sl T 6), (sl T 7), (sl T 8), (sl T 9), (sl T 10), (sl T 11), (sl T 12), (sl T 13), (sl T 1), (sl T 2), (sl T 16), (sl T 17), (sl T 18), (sl T 19), (sl T 20), (sl T 21), (sl T 22), (sl T 23), (sl T 24), (sl T 25), (sl T 26), (sl T 27), (sl T 28), (sl T 29), (sl T 30), (sl T 31), (sl T 32), (sl T 33), (sl T 34), (sl T 35), (sl T 36), (sl T 37), (sl T 38), (sl T 39), (sl T 40), (sl T 41), (sl T 42), (sl T 43), (sl T 44), (sl T 45), (sl T 46), (sl T 47), (sl T 48), (sl T 49), (sl T 50), (sl T 51), (sl T 52), (sl T 53), (sl T 54), (sl T 55), (sl T 56), (sl T 57), (sl T 58), (sl T 59), (sl T 60), (sl T 61), (sl T 62), (sl T 63), (sl T 64), (sl T 65), (sl T 66), (sl T 67), (sl T 68), (sl T 69), (sl T 70), (sl T 71), (sl T 72), (sl T 73), (sl T 74), (sl T 75), (sl T 76), (sl T 3), (sl T 2), v1, v2, (sl T 1), (sl T 2), (sl T 83), (sl T 84), (sl T 85), (sl T 86), (sl T 87), (sl T 88), (sl T 89), (sl T 90), (sl T 91), (sl T 92), (sl T 93), (sl T 94), (sl T 95), (sl T 96), (sl T 97), (sl T 98), (sl T 99), (sl T 100), (sl T 101), (sl T 102), (sl T 103), (sl T 104), (sl T 105), (sl T 106), (sl T 107), (sl T 108), (sl T 109), (sl T 110), (sl T 111), (sl T 112), (sl T 113), (sl T 114), (sl T 115), (sl T 116), (sl T 117), (sl T 118), (sl T 119), (sl T 120), (sl T 121), (sl T 122), (sl T 123), (sl T 124), (sl T 125), (sl T 126), (sl T 127), (sl T 128), (sl T 129), (sl T 130), (sl T 131), (sl T 132), (sl T 133), (sl T 134), (sl T 135), (sl T 136), (sl T 137), (sl T 138), (sl T 139), (sl T 140), (sl T 141), (sl T 142), (sl T 143), (sl T 144), (sl T 145), (sl T 146), (sl T 147), (sl T 148), (sl T 149), (sl T 150), (sl T 151), (sl T 152), (sl T 153), (sl T 154), (sl T 155), (sl T 156), (sl T 157), (sl T 158), (sl T 159), (sl T 160), (sl T 161), (sl T 162), (sl T 163), (sl T 164), (sl T 165), (sl T 166), (sl T 167), (sl T 168), (sl T 169), (sl T 170), (sl T 171), (sl T 172), (sl T 173), (sl T 174), (sl T 175), (sl T 176), (sl T 177), (sl T 178), (sl T 179), (sl T 180), (sl T 181), (sl T 182), (sl T 183), (sl T 184), (sl T 185), (sl T 186), (sl T 187), (sl T 188), (sl T 189), (sl T 190), (sl T 191), (sl T 192), (sl T 193), (sl T 194), (sl T 195), (sl T 196), (sl T 197), (sl T 198), (sl T 199), (sl T 200), (sl T 201), (sl T 202), (sl T 203), (sl T 204), (sl T 205), (sl T 206), (sl T 207), (sl T 208), (sl T 209), (sl T 210), (sl T 211), (sl T 212), (sl T 213), (sl T 214), (sl T 215), (sl T 216), (sl T 217), (sl T 218), (sl T 219)] (AH.bump (AH.bump (AH.bump H 4) 2) 2) (blockK 4 (seqK (fun T H => wpC tab noExt R.slices_symMergeCmpFunc_cyc_Fired_s7 T H (seqK (fun T H => wpC tab noExt R.slices_symMergeCmpFunc_cyc_Fired_s13 T H K) K)) (seqK (fun T H => wpC tab noExt R.slices_symMergeCmpFunc_cyc_Fired_s13 T H K) K)))) (wpC tab noExt R.slices_symMergeCmpFunc_cyc_Fired_s13 [(sl T 0), (sl T 1), (sl T 2), (sl T 3), (sl T 4), (sl T 5), (sl T 6), (sl T 7), (sl T 8), (sl T 9), (sl T 10), (sl T 11), (sl T 12), (sl T 13), (sl T 14), (sl T 15), (sl T 16), (sl T 17), (sl T 18), (sl T 19), (sl T 20), (sl T 21), (sl T 22), (sl T 23), (sl T 24), (sl T 25), (sl T 26), (sl T 27), (sl T 28), (sl T 29), (sl T 30), (sl T 31), (sl T 32), (sl T 33), (sl T 34), (sl T 35), (sl T 36), (sl T 37), (sl T 38), (sl T 39), (sl T 40), (sl T 41), (sl T 42), (sl T 43), (sl T 44), (sl T 45), (sl T 46), (sl T 47), (sl T 48), (sl T 49), (sl T 50), (sl T 51), (sl T 52), (sl T 53), (sl T 54), (sl T 55), (sl T 56), (sl T 57), (sl T 58), (sl T 59), (sl T 60), (sl T 61), (sl T 62), (sl T 63), (sl T 64), (sl T 65), (sl T 66), (sl T 67), (sl T 68), (sl T 69), (sl T 70), (sl T 71), (sl T 72), (sl T 73), (sl T 74), (sl T 75), (sl T 76), (sl T 3), (sl T 2), v1, v2, (sl T 81), (sl T 82), (sl T 83), (sl T 84), (sl T 85), (sl T 86), (sl T 87), (sl T 88), (sl T 89), (sl T 90), (sl T 91), (sl T 92), (sl T 93), (sl T 94), (sl T 95), (sl T 96), (sl T 97), (sl T 98), (sl T 99), (sl T 100), (sl T 101), (sl T 102), (sl T 103), (sl T 104), (sl T 105), (sl T 106), (sl T 107), (sl T 108), (sl T 109), (sl T 110), (sl T 111), (sl T 112), (sl T 113), (sl T 114), (sl T 115), (sl T 116), (sl T 117), (sl T 118), (sl T 119), (sl T 120), (sl T 121), (sl T 122), (sl T 123), (sl T 124), (sl T 125), (sl T 126), (sl T 127), (sl T 128), (sl T 129), (sl T 130), (sl T 131), (sl T 132), (sl T 133), (sl T 134), (sl T 135), (sl T 136), (sl T 137), (sl T 138), (sl T 139), (sl T 140), (sl T 141), (sl T 142), (sl T 143), (sl T 144), (sl T 145), (sl T 146), (sl T 147), (sl T 148), (sl T 149), (sl T 150), (sl T 151), (sl T 152), (sl T 153), (sl T 154), (sl T 155), (sl T 156), (sl T 157), (sl T 158), (sl T 159), (sl T 160), (sl T 161), (sl T 162), (sl T 163), (sl T 164), (sl T 165), (sl T 166), (sl T 167), (sl T 168), (sl T 169), (sl T 170), (sl T 171), (sl T 172), (sl T 173), (sl T 174), (sl T 175), (sl T 176), (sl T 177), (sl T 178), (sl T 179), (sl T 180), (sl T 181), (sl T 182), (sl T 183), (sl T 184), (sl T 185), (sl T 186), (sl T 187), (sl T 188), (sl T 189), (sl T 190), (sl T 191), (sl T 192), (sl T 193), (sl T 194), (sl T 195), (sl T 196), (sl T 197), (sl T 198), (sl T 199), (sl T 200), (sl T 201), (sl T 202), (sl T 203), (sl T 204), (sl T 205), (sl T 206), (sl T 207), (sl T 208), (sl T 209), (sl T 210), (sl T 211), (sl T 212), (sl T 213), (sl T 214), (sl T 215), (sl T 216), (sl T 217), (sl T 218), (sl T 219)] (AH.bump H 4) K)) := slices_symMergeCmpFunc_cyc_Fired_s14_gen R.slices_symMergeCmpFunc_cyc_Fired_l4 R.slices_symMergeCmpFunc_cyc_Fired_s13 R.slices_symMergeCmpFunc_cyc_Fired_s7 hT H K
theorem slices_symMergeCmpFunc_cyc_Fired_gen (c_slices_symMergeCmpFunc_cyc_Fired_l0 : RC) (c_slices_symMergeCmpFunc_cyc_Fired_s14 : RC) (c_slices_symMergeCmpFunc_cyc_Fired_s3 : RC) {a0 a1 a2 a3 a4 : AV} {H : AH} {K : AV → AH → Prop} : (andThen (binA .sub a2 a1) fun v1 => andThen (binA .eql v1 (AV.s (SV.int .i64 1))) fun v2 => condP v2 (loopP tab noExt c_slices_symMergeCmpFunc_cyc_Fired_l0 [a0, a1, a2, a3, a4, undef, undef, undef, undef, undef, a2, a3, undef, undef, undef, undef, undef, undef, undef, undef, undef, undef, undef, undef, undef, a2, a1, v1, v2, a2, a3, undef, undef, undef, undef, undef, undef, undef, undef, undef, undef, undef, undef, undef, undef, undef, undef, undef, undef, undef, undef, undef, undef, undef, undef, undef, undef, undef, undef, undef, undef, undef, undef, undef, undef, undef, undef, undef, undef, undef, undef, undef, undef, undef, undef, undef, undef, undef, undef, undef, undef, undef, undef, undef, undef, undef, undef, undef, undef, undef, undef, undef, undef, undef, undef, undef, undef, undef, undef, undef, undef, undef, undef, undef, undef, undef, undef, undef, undef, undef, undef, undef, undef, undef, undef, undef, undef, undef, undef, undef, undef, undef, undef, undef, undef, undef, undef, undef, undef, undef, undef, undef, undef, undef, undef, undef, undef, undef, undef, undef, undef, undef, undef, undef, undef, undef, undef, undef, undef, undef, undef, undef, undef, undef, undef, undef, undef, undef, undef, undef, undef, undef, undef, undef, undef, undef, undef, undef, undef, undef, undef, undef, undef, undef, undef, undef, undef, undef, undef, undef, undef, undef, undef, undef, undef, undef, undef, undef, undef, undef, undef, undef, undef, undef, undef, undef, undef, undef, undef, undef, undef, undef, undef, undef, undef, undef, undef, undef, undef, undef, undef, undef, undef, undef, undef, undef, undef, undef, undef, undef] (AH.bump (AH.bump (AH.bump H 4) 2) 2) (blockK 0 (seqK (fun T H => wpC tab noExt c_slices_symMergeCmpFunc_cyc_Fired_s3 T H (seqK (fun T H => wpC tab noExt c_slices_symMergeCmpFunc_cyc_Fired_s14 T H (retK [] K)) (retK [] K))) (seqK (fun T H => wpC tab noExt c_slices_symMergeCmpFunc_cyc_Fired_s14 T H (retK [] K)) (retK [] K))))) (wpC tab noExt c_slices_symMergeCmpFunc_cyc_Fired_s14 [a0, a1, a2, a3, a4, undef, undef, undef, undef, undef, undef, undef, undef, undef, undef, undef, undef, undef, undef, undef, undef, undef, undef, undef, undef, a2, a1, v1, v2, undef, undef, undef, undef, undef, undef, undef, undef, undef, undef, undef, undef, undef, undef, undef, undef, undef, undef, undef, undef, undef, undef, undef, undef, undef, undef, undef, undef, undef, undef, undef, undef, undef, undef, undef, undef, undef, undef, undef, undef, undef, undef, undef, undef, undef, undef, undef, undef, undef, undef, undef, undef, undef, undef, undef, undef, undef, undef, undef, undef, undef, undef, undef, undef, undef, undef, undef, undef, undef, undef, undef, undef, undef, undef, undef, undef, undef, undef, undef, undef, undef, undef, undef, undef, undef, undef, undef, undef, undef, undef, undef, undef, undef, undef, undef, undef, undef, undef, undef, undef, undef, undef, undef, undef, undef, undef, undef, undef, undef, undef, undef, undef, undef, undef, undef, undef, undef, undef, undef, undef, undef, undef, undef, undef, undef, undef, undef, undef, undef, undef, undef, undef, undef, undef, undef, undef, undef, undef, undef, undef, undef, undef, undef, undef, undef, undef, undef, undef, undef, undef, undef, undef, undef, undef, undef, undef, undef, undef, undef, undef, undef, undef, undef, undef, undef, undef, undef, undef, undef, undef, undef, undef, undef, undef, undef, undef, undef, undef, undef, undef, undef, undef, undef, undef, undef, undef, undef, undef, undef, undef, undef] (AH.bump H 4) (retK [] K))) = wpC tab noExt (RFunc.mk 220 [] (RC.seq (RC.seq (RC.region 4 [
    ⟨(some 25), .move (.t 2), none, 0, []⟩,
    ⟨(some 26), .move (.t 1), none, 1, []⟩,
    ⟨(some 27), .bin .sub (.t 25) (.t 26), none, 2, []⟩,
    ⟨(some 28), .bin .eql (.t 27) (.c (.s (.int .i64 1))), none, 3, []⟩]) (RC.cond (.t 28) (RC.seq (RC.region 2 [
    ⟨(some 29), .move (.t 2), none, 0, []⟩,
    ⟨(some 10), .move (.t 29), none, 1, []⟩]) (RC.seq (RC.region 2 [
    ⟨(some 30), .move (.t 3), none, 0, []⟩,
    ⟨(some 11), .move (.t 30), none, 1, []⟩]) (RC.seq (RC.block 0 (RC.loop c_slices_symMergeCmpFunc_cyc_Fired_l0)) c_slices_symMergeCmpFunc_cyc_Fired_s3))) (RC.skip))) c_slices_symMergeCmpFunc_cyc_Fired_s14)).body (([a0, a1, a2, a3, a4] : List AV) ++ List.replicate ((RFunc.mk 220 [] (RC.seq (RC.seq (RC.region 4 [
    ⟨(some 25), .move (.t 2), none, 0, []⟩,
    ⟨(some 26), .move (.t 1), none, 1, []⟩,
    ⟨(some 27), .bin .sub (.t 25) (.t 26), none, 2, []⟩,
    ⟨(some 28), .bin .eql (.t 27) (.c (.s (.int .i64 1))), none, 3, []⟩]) (RC.cond (.t 28) (RC.seq (RC.region 2 [
    ⟨(some 29), .move (.t 2), none, 0, []⟩,
    ⟨(some 10), .move (.t 29), none, 1, []⟩]) (RC.seq (RC.region 2 [
    ⟨(some 30), .move (.t 3), none, 0, []⟩,
    ⟨(some 11), .move (.t 30), none, 1, []⟩]) (RC.seq (RC.block 0 (RC.loop c_slices_symMergeCmpFunc_cyc_Fired_l0)) c_slices_symMergeCmpFunc_cyc_Fired_s3))) (RC.skip))) c_slices_symMergeCmpFunc_cyc_Fired_s14)).ntmps - ([a0, a1, a2, a3, a4] : List AV).length) undef) H (retK (RFunc.mk 220 [] (RC.seq (RC.seq (RC.region 4 [
    ⟨(some 25), .move (.t 2), none, 0, []⟩,
    ⟨(some 26), .move (.t 1), none, 1, []⟩,
    ⟨(some 27), .bin .sub (.t 25) (.t 26), none, 2, []⟩,
    ⟨(some 28), .bin .eql (.t 27) (.c (.s (.int .i64 1))), none, 3, []⟩]) (RC.cond (.t 28) (RC.seq (RC.region 2 [
    ⟨(some 29), .move (.t 2), none, 0, []⟩,
    ⟨(some 10), .move (.t 29), none, 1, []⟩]) (RC.seq (RC.region 2 [
    ⟨(some 30), .move (.t 3), none, 0, []⟩,
    ⟨(some 11), .move (.t 30), none, 1, []⟩]) (RC.seq (RC.block 0 (RC.loop c_slices_symMergeCmpFunc_cyc_Fired_l0)) c_slices_symMergeCmpFunc_cyc_Fired_s3))) (RC.skip))) c_slices_symMergeCmpFunc_cyc_Fired_s14)).results K) := by kernel_rfl
theorem slices_symMergeCmpFunc_cyc_Fired_call {a0 a1 a2 a3 a4 : AV} {H : AH} {K : AV → AH → Prop} (h : andThen (binA .sub a2 a1) fun v1 => andThen (binA .eql v1 (AV.s (SV.int .i64 1))) fun v2 => condP v2 (loopP tab noExt R.slices_symMergeCmpFunc_cyc_Fired_l0 [a0, a1, a2, a3, a4, undef, undef, undef, undef, undef, a2, a3, undef, undef, undef, undef, undef, undef, undef, undef, undef, undef, undef, undef, undef, a2, a1, v1, v2, a2, a3, undef, undef, undef, undef, undef, undef, undef, undef, undef, undef, undef, undef, undef, undef, undef, undef, undef, undef, undef, undef, undef, undef, undef, undef, undef, undef, undef, undef, undef, undef, undef, undef, undef, undef, undef, undef, undef, undef, undef, undef, undef, undef, undef, undef, undef, undef, undef, undef, undef, undef, undef, undef, undef, undef, undef, undef, undef, undef, undef, undef, undef, undef, undef, undef, undef, undef, undef, undef, undef, undef, undef, undef, undef, undef, undef, undef, undef, undef, undef, undef, undef, undef, undef, undef, undef, undef, undef, undef, undef, undef, undef, undef, undef, undef, undef, undef, undef, undef, undef, undef, undef, undef, undef, undef, undef, undef, undef, undef, undef, undef, undef, undef, undef, undef, undef, undef, undef, undef, undef, undef, undef, undef, undef, undef, undef, undef, undef, undef, undef, undef, undef, undef, undef, undef, undef, undef, undef, undef, undef, undef, undef, undef, undef, undef, undef, undef, undef, undef, undef, undef, undef, undef, undef, undef, undef, undef, undef, undef, undef, undef, undef, undef, undef, undef, undef, undef, undef, undef, undef, undef, undef, undef, undef, undef, undef, undef, undef, undef, undef, undef, undef, undef, undef, undef, undef, undef, undef, undef, undef] (AH.bump (AH.bump (AH.bump H 4) 2) 2) (blockK 0 (seqK (fun T H => wpC tab noExt R.slices_symMergeCmpFunc_cyc_Fired_s3 T H (seqK (fun T H => wpC tab noExt R.slices_symMergeCmpFunc_cyc_Fired_s14 T H (retK [] K)) (retK [] K))) (seqK (fun T H => wpC tab noExt R.slices_symMergeCmpFunc_cyc_Fired_s14 T H (retK [] K)) (retK [] K))))) (wpC tab noExt R.slices_symMergeCmpFunc_cyc_Fired_s14 [a0, a1, a2, a3, a4, undef, undef, undef, undef, undef, undef, undef, undef, undef, undef, undef, undef, undef, undef, undef, undef, undef, undef, undef, undef, a2, a1, v1, v2, undef, undef, undef, undef, undef, undef, undef, undef, undef, undef, undef, undef, undef, undef, undef, undef, undef, undef, undef, undef, undef, undef, undef, undef, undef, undef, undef, undef, undef, undef, undef, undef, undef, undef, undef, undef, undef, undef, undef, undef, undef, undef, undef, undef, undef, undef, undef, undef, undef, undef, undef, undef, undef, undef, undef, undef, undef, undef, undef, undef, undef, undef, undef, undef, undef, undef, undef, undef, undef, undef, undef, undef, undef, undef, undef, undef, undef, undef, undef, undef, undef, undef, undef, undef, undef, undef, undef, undef, undef, undef, undef, undef, undef, undef, undef, undef, undef, undef, undef, undef, undef, undef, undef, undef, undef, undef, undef, undef, undef, undef, undef, undef, undef, undef, undef, undef, undef, undef, undef, undef, undef, undef, undef, undef, undef, undef, undef, undef, undef, undef, undef, undef, undef, undef, undef, undef, undef, undef, undef, undef, undef, undef, undef, undef, undef, undef, undef, undef, undef, undef, undef, undef, undef, undef, undef, undef, undef, undef, undef, undef, undef, undef, undef, undef, undef, undef, undef, undef, undef, undef, undef, undef, undef, undef, undef, undef, undef, undef, undef, undef, undef, undef, undef, undef, undef, undef, undef, undef, undef, undef, undef] (AH.bump H 4) (retK [] K))) : CallP tab noExt F.slices_symMergeCmpFunc_cyc_Fired [a0, a1, a2, a3, a4] H K :=
  CallP_of tab_slices_symMergeCmpFunc_cyc_Fired (cast (slices_symMergeCmpFunc_cyc_Fired_gen R.slices_symMergeCmpFunc_cyc_Fired_l0 R.slices_symMergeCmpFunc_cyc_Fired_s14 R.slices_symMergeCmpFunc_cyc_Fired_s3 : (andThen (binA .sub a2 a1) fun v1 => andThen (binA .eql v1 (AV.s (SV.int .i64 1))) fun v2 => condP v2 (loopP tab noExt R.slices_symMergeCmpFunc_cyc_Fired_l0 [a0, a1, a2, a3, a4, undef, undef, undef, undef, undef, a2, a3, undef, undef, undef, undef, undef, undef, undef, undef, undef, undef, undef, undef, undef, a2, a1, v1, v2, a2, a3, undef, undef, undef, undef, undef, undef, undef, undef, undef, undef, undef, undef, undef, undef, undef, undef, undef, undef, undef, undef, undef, undef, undef, undef, undef, undef, undef, undef, undef, undef, undef, undef, undef, undef, undef, undef, undef, undef, undef, undef, undef, undef, undef, undef, undef, undef, undef, undef, undef, undef, undef, undef, undef, undef, undef, undef, undef, undef, undef, undef, undef, undef, undef, undef, undef, undef, undef, undef, undef, undef, undef, undef, undef, undef, undef, undef, undef, undef, undef, undef, undef, undef, undef, undef, undef, undef, undef, undef, undef, undef, undef, undef, undef, undef, undef, undef, undef, undef, undef, undef, undef, undef, undef, undef, undef, undef, undef, undef, undef, undef, undef, undef, undef, undef, undef, undef, undef, undef, undef, undef, undef, undef, undef, undef, undef, undef, undef, undef, undef, undef, undef, undef, undef, undef, undef, undef, undef, undef, undef, undef, undef, undef, undef, undef, undef, undef, undef, undef, undef, undef, undef, undef, undef, undef, undef, undef, undef, undef, undef, undef, undef, undef, undef, undef, undef, undef, undef, undef, undef, undef, undef, undef, undef, undef, undef, undef, undef, undef, undef, undef, undef, undef, undef, undef, undef, undef, undef, undef, undef] (AH.bump (AH.bump (AH.bump H 4) 2) 2) (blockK 0 (seqK (fun T H => wpC tab noExt R.slices_symMergeCmpFunc_cyc_Fired_s3 T H (seqK (fun T H => wpC tab noExt R.slices_symMergeCmpFunc_cyc_Fired_s14 T H (retK [] K)) (retK [] K))) (seqK (fun T H => wpC tab noExt R.slices_symMergeCmpFunc_cyc_Fired_s14 T H (retK [] K)) (retK [] K))))) (wpC tab noExt R.slices_symMergeCmpFunc_cyc_Fired_s14 [a0, a1, a2, a3, a4, undef, undef, undef, undef, undef, undef, undef, undef, undef, undef, undef, undef, undef, undef, undef, undef, undef, undef, undef, undef, a2, a1, v1, v2, undef, undef, undef, undef, undef, undef, undef, undef, undef, undef, undef, undef, undef, undef, undef, undef, undef, undef, undef, undef, undef, undef, undef, undef, undef, undef, undef, undef, undef, undef, undef, undef, undef, undef, undef, undef, undef, undef, undef, undef, undef, undef, undef, undef, undef, undef, undef, undef, undef, undef, undef, undef, undef, undef, undef, undef, undef, undef, undef, undef, undef, undef, undef, undef, undef, undef, undef, undef, undef, undef, undef, undef, undef, undef, undef, undef, undef, undef, undef, undef, undef, undef, undef, undef, undef, undef, undef, undef, undef, undef, undef, undef, undef, undef, undef, undef, undef, undef, undef, undef, undef, undef, undef, undef, undef, undef, undef, undef, undef, undef, undef, undef, undef, undef, undef, undef, undef, undef, undef, undef, undef, undef, undef, undef, undef, undef, undef, undef, undef, undef, undef, undef, undef, undef, undef, undef, undef, undef, undef, undef, undef, undef, undef, undef, undef, undef, undef, undef, undef, undef, undef, undef, undef, undef, undef, undef, undef, undef, undef, undef, undef, undef, undef, undef, undef, undef, undef, undef, undef, undef, undef, undef, undef, undef, undef, undef, undef, undef, undef, undef, undef, undef, undef, undef, undef, undef, undef, undef, undef, undef, undef] (AH.bump H 4) (retK [] K))) = wpC tab noExt R.slices_symMergeCmpFunc_cyc_Fired.body (([a0, a1, a2, a3, a4] : List AV) ++ List.replicate (R.slices_symMergeCmpFunc_cyc_Fired.ntmps - ([a0, a1, a2, a3, a4] : List AV).length) undef) H (retK R.slices_symMergeCmpFunc_cyc_Fired.results K)) h)
theorem cmp_isNaN_uint64_call {a0 : AV} {H : AH} {K : AV → AH → Prop} (h : andThen (binA .neq a0 a0) fun v1 => andThen (some v1) fun v => K v (AH.bump (AH.bump H 1) 4)) : CallP tab noExt F.cmp_isNaN_uint64 [a0] H K :=
  CallP_of tab_cmp_isNaN_uint64 (cast (by kernel_rfl : (andThen (binA .neq a0 a0) fun v1 => andThen (some v1) fun v => K v (AH.bump (AH.bump H 1) 4)) = wpC tab noExt R.cmp_isNaN_uint64.body (([a0] : List AV) ++ List.replicate (R.cmp_isNaN_uint64.ntmps - ([a0] : List AV).length) undef) H (retK R.cmp_isNaN_uint64.results K)) h)
theorem cmp_isNaN_int_call {a0 : AV} {H : AH} {K : AV → AH → Prop} (h : andThen (binA .neq a0 a0) fun v1 => andThen (some v1) fun v => K v (AH.bump (AH.bump H 1) 4)) : CallP tab noExt F.cmp_isNaN_int [a0] H K :=
  CallP_of tab_cmp_isNaN_int (cast (by kernel_rfl : (andThen (binA .neq a0 a0) fun v1 => andThen (some v1) fun v => K v (AH.bump (AH.bump H 1) 4)) = wpC tab noExt R.cmp_isNaN_int.body (([a0] : List AV) ++ List.replicate (R.cmp_isNaN_int.ntmps - ([a0] : List AV).length) undef) H (retK R.cmp_isNaN_int.results K)) h)
theorem detentref7_Timers_least_l0_at {T : List AV} (hT : T.length = 37) (H : AH) (K : Ex → List AV → AH → Prop) :
  wpC tab noExt R.detentref7_Timers_least_l0 T H K = (andThen (nilCheckA (sl T 0)) fun v1 => andThen (fieldAddrA 0 v1) fun v2 => andThen (loadA none v2 (AH.bump H 7)) fun v3 => andThen (lenA v3) fun v4 => andThen (binA .lss (sl T 4) v4) fun v5 => condP v5 (andThen (binA .lss (sl T 3) (AV.s (SV.int .i64 0))) fun v6 => gP (gd v6 false) (AH.bump (AH.bump H 7) 21) (fun k7 => k7 (sl T 0) (AH.bump (AH.bump H 7) 21)) fun v8 H9 => gP (gd v6 false) H9 (fun k10 => andThen (nilCheckA v8) fun v13 => k10 v13 H9) fun v11 H12 => gP (gd v6 false) H12 (fun k14 => andThen (fieldAddrA 0 v11) fun v17 => k14 v17 H12) fun v15 H16 => gP (gd v6 false) H16 (fun k18 => andThen (loadA none v15 H16) fun v21 => k18 v21 H16) fun v19 H20 => gP (gd v6 false) H20 (fun k22 => k22 (sl T 4) H20) fun v23 H24 => gP (gd v6 false) H24 (fun k25 => andThen (indexSlA 3 v19 v23) fun v28 => k25 v28 H24) fun v26 H27 => gP (gd v6 false) H27 (fun k29 => andThen (fieldAddrA 1 v26) fun v32 => k29 v32 H27) fun v30 H31 => gP (gd v6 false) H31 (fun k33 => andThen (loadA none v30 H31) fun v36 => k33 v36 H31) fun v34 H35 => gP (gd v6 false) H35 (fun k37 => k37 (sl T 0) H35) fun v38 H39 => gP (gd v6 false) H39 (fun k40 => andThen (nilCheckA v38) fun v43 => k40 v43 H39) fun v41 H42 => gP (gd v6 false) H42 (fun k44 => andThen (fieldAddrA 0 v41) fun v47 => k44 v47 H42) fun v45 H46 => gP (gd v6 false) H46 (fun k48 => andThen (loadA none v45 H46) fun v51 => k48 v51 H46) fun v49 H50 => gP (gd v6 false) H50 (fun k52 => k52 (sl T 3) H50) fun v53 H54 => gP (gd v6 false) H54 (fun k55 => andThen (indexSlA 3 v49 v53) fun v58 => k55 v58 H54) fun v56 H57 => gP (gd v6 false) H57 (fun k59 => andThen (fieldAddrA 1 v56) fun v62 => k59 v62 H57) fun v60 H61 => gP (gd v6 false) H61 (fun k63 => andThen (loadA none v60 H61) fun v66 => k63 v66 H61) fun v64 H65 => gP (gd v6 false) H65 (fun k67 => andThen (binA .lss v34 v64) fun v70 => k67 v70 H65) fun v68 H69 => andThen (pickA v6 (AV.s (SV.bool true)) v68) fun v71 => condP v71 (andThen (binA .add (sl T 4) (AV.s (SV.int .i64 1))) fun v72 => K Ex.norm [(sl T 0), (sl T 1), (sl T 2), (sl T 4), v72, (sl T 4), (sl T 0), v1, v2, v3, v4, v5, (sl T 4), v72, (sl T 3), v6, v6, v8, v11, v15, v19, v23, v26, v30, v34, v38, v41, v45, v49, v53, v56, v60, v64, v68, v71, (sl T 4), (sl T 36)] (AH.bump (AH.bump H69 2) 3)) (andThen (binA .add (sl T 4) (AV.s (SV.int .i64 1))) fun v73 => K Ex.norm [(sl T 0), (sl T 1), (sl T 2), (sl T 3), v73, (sl T 4), (sl T 0), v1, v2, v3, v4, v5, (sl T 4), v73, (sl T 3), v6, v6, v8, v11, v15, v19, v23, v26, v30, v34, v38, v41, v45, v49, v53, v56, v60, v64, v68, v71, (sl T 35), (sl T 36)] (AH.bump H69 3))) (K (Ex.out 0) [(sl T 0), (sl T 1), (sl T 2), (sl T 3), (sl T 4), (sl T 4), (sl T 0), v1, v2, v3, v4, v5, (sl T 12), (sl T 13), (sl T 14), (sl T 15), (sl T 16), (sl T 17), (sl T 18), (sl T 19), (sl T 20), (sl T 21), (sl T 22), (sl T 23), (sl T 24), (sl T 25), (sl T 26), (sl T 27), (sl T 28), (sl T 29), (sl T 30), (sl T 31), (sl T 32), (sl T 33), (sl T 34), (sl T 35), (sl T 36)] (AH.bump H 7))) :=
  (congrArg (fun T => wpC tab noExt R.detentref7_Timers_least_l0 T H K) (sl_eta hT)).trans (by kernel_rfl)
theorem detentref7_Timers_least_s1_at {T : List AV} (hT : T.length = 37) (H : AH) (K : Ex → List AV → AH → Prop) :
  wpC tab noExt R.detentref7_Timers_least_s1 T H K = (K Ex.ret [(sl T 0), (sl T 1), (sl T 3), (sl T 3), (sl T 4), (sl T 5), (sl T 6), (sl T 7), (sl T 8), (sl T 9), (sl T 10), (sl T 11), (sl T 12), (sl T 13), (sl T 14), (sl T 15), (sl T 16), (sl T 17), (sl T 18), (sl T 19), (sl T 20), (sl T 21), (sl T 22), (sl T 23), (sl T 24), (sl T 25), (sl T 26), (sl T 27), (sl T 28), (sl T 29), (sl T 30), (sl T 31), (sl T 32), (sl T 33), (sl T 34), (sl T 35), (sl T 3)] (AH.bump H 2)) :=
  (congrArg (fun T => wpC tab noExt R.detentref7_Timers_least_s1 T H K) (sl_eta hT)).trans (by kernel_rfl)
theorem detentref7_Timers_least_call {a0 : AV} {H : AH} {K : AV → AH → Prop} (h : loopP tab noExt R.detentref7_Timers_least_l0 [a0, undef, (AV.s (SV.int .i64 0)), (AV.s (SV.int .i64 (-1))), (AV.s (SV.int .i64 0)), undef, undef, undef, undef, undef, undef, undef, undef, undef, undef, undef, undef, undef, undef, undef, undef, undef, undef, undef, undef, undef, undef, undef, undef, undef, undef, undef, undef, undef, undef, undef, undef] (AH.bump (AH.bump (AH.bump H 1) 1) 1) (blockK 0 (seqK (fun T H => wpC tab noExt R.detentref7_Timers_least_s1 T H (retK [.tmp 2] K)) (retK [.tmp 2] K)))) : CallP tab noExt F.detentref7_Timers_least [a0] H K :=
  CallP_of tab_detentref7_Timers_least (cast (by kernel_rfl : (loopP tab noExt R.detentref7_Timers_least_l0 [a0, undef, (AV.s (SV.int .i64 0)), (AV.s (SV.int .i64 (-1))), (AV.s (SV.int .i64 0)), undef, undef, undef, undef, undef, undef, undef, undef, undef, undef, undef, undef, undef, undef, undef, undef, undef, undef, undef, undef, undef, undef, undef, undef, undef, undef, undef, undef, undef, undef, undef, undef] (AH.bump (AH.bump (AH.bump H 1) 1) 1) (blockK 0 (seqK (fun T H => wpC tab noExt R.detentref7_Timers_least_s1 T H (retK [.tmp 2] K)) (retK [.tmp 2] K)))) = wpC tab noExt R.detentref7_Timers_least.body (([a0] : List AV) ++ List.replicate (R.detentref7_Timers_least.ntmps - ([a0] : List AV).length) undef) H (retK R.detentref7_Timers_least.results K)) h)
theorem heap_row_ahead_call {a0 a1 a2 : AV} {H : AH} {K : AV → AH → Prop} (h : andThen (indexSlA 3 a0 a1) fun v1 => andThen (loadA (some 3) v1 (AH.bump (AH.bump H 1) 12)) fun v2 => andThen (indexSlA 3 a0 a2) fun v3 => andThen (loadA (some 3) v3 (AH.bump (AH.bump H 1) 12)) fun v4 => andThen (AH.new (AH.bump (AH.bump H 1) 12) (AH.next (AH.bump H 1) + 8) (Blk.cells false [.int .u64 0, .int .i64 0, .int .i64 0])) fun H5 => andThen (AH.new H5 (AH.next (AH.bump H 1) + 9) (Blk.cells false [.int .u64 0, .int .i64 0, .int .i64 0])) fun H6 => andThen (storeA 3 (AV.s (SV.ptr (some (AH.next (AH.bump H 1) + 8, 0)))) v2 H6) fun H7 => (loadA (some 3) v3 H7 = some v4) ∧ (andThen (storeA 3 (AV.s (SV.ptr (some (AH.next (AH.bump H 1) + 9, 0)))) v4 H7) fun H8 => andThen (fieldAddrA 0 (AV.s (SV.ptr (some (AH.next (AH.bump H 1) + 8, 0))))) fun v9 => andThen (loadA none v9 (AH.bump H8 20)) fun v10 => andThen (fieldAddrA 0 (AV.s (SV.ptr (some (AH.next (AH.bump H 1) + 9, 0))))) fun v11 => andThen (loadA none v11 (AH.bump H8 20)) fun v12 => andThen (binA .lss v10 v12) fun v13 => gP (gd v13 false) (AH.bump H8 20) (fun k14 => andThen (fieldAddrA 0 (AV.s (SV.ptr (some (AH.next (AH.bump H 1) + 8, 0))))) fun v17 => k14 v17 (AH.bump H8 20)) fun v15 H16 => gP (gd v13 false) H16 (fun k18 => andThen (loadA none v15 H16) fun v21 => k18 v21 H16) fun v19 H20 => gP (gd v13 false) H20 (fun k22 => andThen (fieldAddrA 0 (AV.s (SV.ptr (some (AH.next (AH.bump H 1) + 9, 0))))) fun v25 => k22 v25 H20) fun v23 H24 => gP (gd v13 false) H24 (fun k26 => andThen (loadA none v23 H24) fun v29 => k26 v29 H24) fun v27 H28 => gP (gd v13 false) H28 (fun k30 => andThen (binA .eql v19 v27) fun v33 => k30 v33 H28) fun v31 H32 => gP (gd v13 false) H32 (fun k34 => k34 v31 H32) fun v35 H36 => gP (gd v35 true) H36 (fun k37 => andThen (fieldAddrA 1 (AV.s (SV.ptr (some (AH.next (AH.bump H 1) + 8, 0))))) fun v40 => k37 v40 H36) fun v38 H39 => gP (gd v35 true) H39 (fun k41 => andThen (loadA none v38 H39) fun v44 => k41 v44 H39) fun v42 H43 => gP (gd v35 true) H43 (fun k45 => andThen (fieldAddrA 1 (AV.s (SV.ptr (some (AH.next (AH.bump H 1) + 9, 0))))) fun v48 => k45 v48 H43) fun v46 H47 => gP (gd v35 true) H47 (fun k49 => andThen (loadA none v46 H47) fun v52 => k49 v52 H47) fun v50 H51 => gP (gd v35 true) H51 (fun k53 => andThen (binA .lss v42 v50) fun v56 => k53 v56 H51) fun v54 H55 => gP (gd v13 false) H55 (fun k57 => andThen (pickA v35 v54 (AV.s (SV.bool false))) fun v60 => k57 v60 H55) fun v58 H59 => andThen (pickA v13 (AV.s (SV.bool true)) v58) fun v61 => andThen (some v61) fun v => K v H59)) : CallP tab noExt F.heap_row_ahead [a0, a1, a2] H K :=
  CallP_of tab_heap_row_ahead (cast (by kernel_rfl : (andThen (indexSlA 3 a0 a1) fun v1 => andThen (loadA (some 3) v1 (AH.bump (AH.bump H 1) 12)) fun v2 => andThen (indexSlA 3 a0 a2) fun v3 => andThen (loadA (some 3) v3 (AH.bump (AH.bump H 1) 12)) fun v4 => andThen (AH.new (AH.bump (AH.bump H 1) 12) (AH.next (AH.bump H 1) + 8) (Blk.cells false [.int .u64 0, .int .i64 0, .int .i64 0])) fun H5 => andThen (AH.new H5 (AH.next (AH.bump H 1) + 9) (Blk.cells false [.int .u64 0, .int .i64 0, .int .i64 0])) fun H6 => andThen (storeA 3 (AV.s (SV.ptr (some (AH.next (AH.bump H 1) + 8, 0)))) v2 H6) fun H7 => (loadA (some 3) v3 H7 = some v4) ∧ (andThen (storeA 3 (AV.s (SV.ptr (some (AH.next (AH.bump H 1) + 9, 0)))) v4 H7) fun H8 => andThen (fieldAddrA 0 (AV.s (SV.ptr (some (AH.next (AH.bump H 1) + 8, 0))))) fun v9 => andThen (loadA none v9 (AH.bump H8 20)) fun v10 => andThen (fieldAddrA 0 (AV.s (SV.ptr (some (AH.next (AH.bump H 1) + 9, 0))))) fun v11 => andThen (loadA none v11 (AH.bump H8 20)) fun v12 => andThen (binA .lss v10 v12) fun v13 => gP (gd v13 false) (AH.bump H8 20) (fun k14 => andThen (fieldAddrA 0 (AV.s (SV.ptr (some (AH.next (AH.bump H 1) + 8, 0))))) fun v17 => k14 v17 (AH.bump H8 20)) fun v15 H16 => gP (gd v13 false) H16 (fun k18 => andThen (loadA none v15 H16) fun v21 => k18 v21 H16) fun v19 H20 => gP (gd v13 false) H20 (fun k22 => andThen (fieldAddrA 0 (AV.s (SV.ptr (some (AH.next (AH.bump H 1) + 9, 0))))) fun v25 => k22 v25 H20) fun v23 H24 => gP (gd v13 false) H24 (fun k26 => andThen (loadA none v23 H24) fun v29 => k26 v29 H24) fun v27 H28 => gP (gd v13 false) H28 (fun k30 => andThen (binA .eql v19 v27) fun v33 => k30 v33 H28) fun v31 H32 => gP (gd v13 false) H32 (fun k34 => k34 v31 H32) fun v35 H36 => gP (gd v35 true) H36 (fun k37 => andThen (fieldAddrA 1 (AV.s (SV.ptr (some (AH.next (AH.bump H 1) + 8, 0))))) fun v40 => k37 v40 H36) fun v38 H39 => gP (gd v35 true) H39 (fun k41 => andThen (loadA none v38 H39) fun v44 => k41 v44 H39) fun v42 H43 => gP (gd v35 true) H43 (fun k45 => andThen (fieldAddrA 1 (AV.s (SV.ptr (some (AH.next (AH.bump H 1) + 9, 0))))) fun v48 => k45 v48 H43) fun v46 H47 => gP (gd v35 true) H47 (fun k49 => andThen (loadA none v46 H47) fun v52 => k49 v52 H47) fun v50 H51 => gP (gd v35 true) H51 (fun k53 => andThen (binA .lss v42 v50) fun v56 => k53 v56 H51) fun v54 H55 => gP (gd v13 false) H55 (fun k57 => andThen (pickA v35 v54 (AV.s (SV.bool false))) fun v60 => k57 v60 H55) fun v58 H59 => andThen (pickA v13 (AV.s (SV.bool true)) v58) fun v61 => andThen (some v61) fun v => K v H59)) = wpC tab noExt R.heap_row_ahead.body (([a0, a1, a2] : List AV) ++ List.replicate (R.heap_row_ahead.ntmps - ([a0, a1, a2] : List AV).length) undef) H (retK R.heap_row_ahead.results K)) h)
theorem slices_rotateCmpFunc_cyc_Fired_l0_at {T : List AV} (hT : T.length = 58) (H : AH) (K : Ex → List AV → AH → Prop) :
  wpC tab noExt R.slices_rotateCmpFunc_cyc_Fired_l0 T H K = (andThen (binA .neq (sl T 10) (sl T 11)) fun v1 => condP v1 (andThen (binA .gtr (sl T 10) (sl T 11)) fun v2 => condP v2 (andThen (binA .sub (sl T 2) (sl T 10)) fun v3 => CallP tab noExt F.slices_swapRangeCmpFunc_cyc_Fired [(sl T 0), v3, (sl T 2), (sl T 11), (sl T 4)] (AH.bump (AH.bump (AH.bump H 3) 3) 8) fun v4 H5 => andThen (binA .sub (sl T 10) (sl T 11)) fun v6 => K Ex.norm [(sl T 0), (sl T 1), (sl T 2), (sl T 3), (sl T 4), (sl T 5), (sl T 6), (sl T 7), (sl T 8), (sl T 9), v6, (sl T 11), (sl T 12), (sl T 13), (sl T 14), (sl T 15), (sl T 16), (sl T 17), (sl T 10), (sl T 11), v1, (sl T 10), (sl T 11), v2, (sl T 0), (sl T 2), (sl T 10), v3, (sl T 2), (sl T 11), (sl T 4), v4, (sl T 10), (sl T 11), v6, (sl T 35), (sl T 36), (sl T 37), (sl T 38), (sl T 39), (sl T 40), (sl T 41), (sl T 42), (sl T 43), (sl T 44), (sl T 45), (sl T 46), (sl T 47), (sl T 48), (sl T 49), (sl T 50), (sl T 51), (sl T 52), (sl T 53), (sl T 54), (sl T 55), (sl T 56), (sl T 57)] (AH.bump H5 4)) (andThen (binA .sub (sl T 2) (sl T 10)) fun v7 => andThen (binA .add (sl T 2) (sl T 11)) fun v8 => andThen (binA .sub v8 (sl T 10)) fun v9 => CallP tab noExt F.slices_swapRangeCmpFunc_cyc_Fired [(sl T 0), v7, v9, (sl T 10), (sl T 4)] (AH.bump (AH.bump (AH.bump H 3) 3) 12) fun v10 H11 => andThen (binA .sub (sl T 11) (sl T 10)) fun v12 => K Ex.norm [(sl T 0), (sl T 1), (sl T 2), (sl T 3), (sl T 4), (sl T 5), (sl T 6), (sl T 7), (sl T 8), (sl T 9), (sl T 10), v12, (sl T 12), (sl T 13), (sl T 14), (sl T 15), (sl T 16), (sl T 17), (sl T 10), (sl T 11), v1, (sl T 10), (sl T 11), v2, (sl T 24), (sl T 25), (sl T 26), (sl T 27), (sl T 28), (sl T 29), (sl T 30), (sl T 31), (sl T 32), (sl T 33), (sl T 34), (sl T 0), (sl T 2), (sl T 10), v7, (sl T 2), (sl T 11), v8, (sl T 10), v9, (sl T 10), (sl T 4), v10, (sl T 11), (sl T 10), v12, (sl T 50), (sl T 51), (sl T 52), (sl T 53), (sl T 54), (sl T 55), (sl T 56), (sl T 57)] (AH.bump H11 4))) (K (Ex.out 0) [(sl T 0), (sl T 1), (sl T 2), (sl T 3), (sl T 4), (sl T 5), (sl T 6), (sl T 7), (sl T 8), (sl T 9), (sl T 10), (sl T 11), (sl T 12), (sl T 13), (sl T 14), (sl T 15), (sl T 16), (sl T 17), (sl T 10), (sl T 11), v1, (sl T 21), (sl T 22), (sl T 23), (sl T 24), (sl T 25), (sl T 26), (sl T 27), (sl T 28), (sl T 29), (sl T 30), (sl T 31), (sl T 32), (sl T 33), (sl T 34), (sl T 35), (sl T 36), (sl T 37), (sl T 38), (sl T 39), (sl T 40), (sl T 41), (sl T 42), (sl T 43), (sl T 44), (sl T 45), (sl T 46), (sl T 47), (sl T 48), (sl T 49), (sl T 50), (sl T 51), (sl T 52), (sl T 53), (sl T 54), (sl T 55), (sl T 56), (sl T 57)] (AH.bump H 3))) :=
  (congrArg (fun T => wpC tab noExt R.slices_rotateCmpFunc_cyc_Fired_l0 T H K) (sl_eta hT)).trans (by kernel_rfl)
theorem slices_rotateCmpFunc_cyc_Fired_s1_at {T : List AV} (hT : T.length = 58) (H : AH) (K : Ex → List AV → AH → Prop) :
  wpC tab noExt R.slices_rotateCmpFunc_cyc_Fired_s1 T H K = (andThen (binA .sub (sl T 2) (sl T 10)) fun v1 => CallP tab noExt F.slices_swapRangeCmpFunc_cyc_Fired [(sl T 0), v1, (sl T 2), (sl T 10), (sl T 4)] (AH.bump H 8) fun v2 H3 => K Ex.norm [(sl T 0), (sl T 1), (sl T 2), (sl T 3), (sl T 4), (sl T 5), (sl T 6), (sl T 7), (sl T 8), (sl T 9), (sl T 10), (sl T 11), (sl T 12), (sl T 13), (sl T 14), (sl T 15), (sl T 16), (sl T 17), (sl T 18), (sl T 19), (sl T 20), (sl T 21), (sl T 22), (sl T 23), (sl T 24), (sl T 25), (sl T 26), (sl T 27), (sl T 28), (sl T 29), (sl T 30), (sl T 31), (sl T 32), (sl T 33), (sl T 34), (sl T 35), (sl T 36), (sl T 37), (sl T 38), (sl T 39), (sl T 40), (sl T 41), (sl T 42), (sl T 43), (sl T 44), (sl T 45), (sl T 46), (sl T 47), (sl T 48), (sl T 49), (sl T 0), (sl T 2), (sl T 10), v1, (sl T 2), (sl T 10), (sl T 4), v2] H3) :=
  (congrArg (fun T => wpC tab noExt R.slices_rotateCmpFunc_cyc_Fired_s1 T H K) (sl_eta hT)).trans (by kernel_rfl)
theorem slices_rotateCmpFunc_cyc_Fired_call {a0 a1 a2 a3 a4 : AV} {H : AH} {K : AV → AH → Prop} (h : andThen (binA .sub a2 a1) fun v1 => andThen (binA .sub a3 a2) fun v2 => loopP tab noExt R.slices_rotateCmpFunc_cyc_Fired_l0 [a0, a1, a2, a3, a4, undef, undef, undef, undef, undef, v1, v2, a2, a1, v1, a3, a2, v2, undef, undef, undef, undef, undef, undef, undef, undef, undef, undef, undef, undef, undef, undef, undef, undef, undef, undef, undef, undef, undef, undef, undef, undef, undef, undef, undef, undef, undef, undef, undef, undef, undef, undef, undef, undef, undef, undef, undef, undef] (AH.bump (AH.bump H 4) 4) (blockK 0 (seqK (fun T H => wpC tab noExt R.slices_rotateCmpFunc_cyc_Fired_s1 T H (retK [] K)) (retK [] K)))) : CallP tab noExt F.slices_rotateCmpFunc_cyc_Fired [a0, a1, a2, a3, a4] H K :=
  CallP_of tab_slices_rotateCmpFunc_cyc_Fired (cast (by kernel_rfl : (andThen (binA .sub a2 a1) fun v1 => andThen (binA .sub a3 a2) fun v2 => loopP tab noExt R.slices_rotateCmpFunc_cyc_Fired_l0 [a0, a1, a2, a3, a4, undef, undef, undef, undef, undef, v1, v2, a2, a1, v1, a3, a2, v2, undef, undef, undef, undef, undef, undef, undef, undef, undef, undef, undef, undef, undef, undef, undef, undef, undef, undef, undef, undef, undef, undef, undef, undef, undef, undef, undef, undef, undef, undef, undef, undef, undef, undef, undef, undef, undef, undef, undef, undef] (AH.bump (AH.bump H 4) 4) (blockK 0 (seqK (fun T H => wpC tab noExt R.slices_rotateCmpFunc_cyc_Fired_s1 T H (retK [] K)) (retK [] K)))) = wpC tab noExt R.slices_rotateCmpFunc_cyc_Fired.body (([a0, a1, a2, a3, a4] : List AV) ++ List.replicate (R.slices_rotateCmpFunc_cyc_Fired.ntmps - ([a0, a1, a2, a3, a4] : List AV).length) undef) H (retK R.slices_rotateCmpFunc_cyc_Fired.results K)) h)
theorem slices_swapRangeCmpFunc_cyc_Fired_l0_at {T : List AV} (hT : T.length = 38) (H : AH) (K : Ex → List AV → AH → Prop) :
  wpC tab noExt R.slices_swapRangeCmpFunc_cyc_Fired_l0 T H K = (andThen (binA .lss (sl T 10) (sl T 3)) fun v1 => condP v1 (andThen (binA .add (sl T 1) (sl T 10)) fun v2 => andThen (binA .add (sl T 2) (sl T 10)) fun v3 => andThen (binA .add (sl T 2) (sl T 10)) fun v4 => andThen (indexSlA 3 (sl T 0) v4) fun v5 => andThen (loadA (some 3) v5 (AH.bump (AH.bump H 3) 24)) fun v6 => andThen (binA .add (sl T 1) (sl T 10)) fun v7 => andThen (indexSlA 3 (sl T 0) v7) fun v8 => andThen (loadA (some 3) v8 (AH.bump (AH.bump H 3) 24)) fun v9 => andThen (indexSlA 3 (sl T 0) v2) fun v10 => andThen (storeA 3 v10 v6 (AH.bump (AH.bump H 3) 24)) fun H11 => andThen (indexSlA 3 (sl T 0) v3) fun v12 => andThen (storeA 3 v12 v9 H11) fun H13 => andThen (binA .add (sl T 10) (AV.s (SV.int .i64 1))) fun v14 => K Ex.norm [(sl T 0), (sl T 1), (sl T 2), (sl T 3), (sl T 4), (sl T 5), (sl T 6), (sl T 7), (sl T 8), (sl T 9), v14, (sl T 10), (sl T 3), v1, (sl T 10), v14, (sl T 0), (sl T 1), (sl T 10), v2, (sl T 0), (sl T 2), (sl T 10), v3, (sl T 0), (sl T 2), (sl T 10), v4, v5, v6, (sl T 0), (sl T 1), (sl T 10), v7, v8, v9, v10, v12] (AH.bump H13 3)) (K (Ex.out 0) [(sl T 0), (sl T 1), (sl T 2), (sl T 3), (sl T 4), (sl T 5), (sl T 6), (sl T 7), (sl T 8), (sl T 9), (sl T 10), (sl T 10), (sl T 3), v1, (sl T 14), (sl T 15), (sl T 16), (sl T 17), (sl T 18), (sl T 19), (sl T 20), (sl T 21), (sl T 22), (sl T 23), (sl T 24), (sl T 25), (sl T 26), (sl T 27), (sl T 28), (sl T 29), (sl T 30), (sl T 31), (sl T 32), (sl T 33), (sl T 34), (sl T 35), (sl T 36), (sl T 37)] (AH.bump H 3))) :=
  (congrArg (fun T => wpC tab noExt R.slices_swapRangeCmpFunc_cyc_Fired_l0 T H K) (sl_eta hT)).trans (by kernel_rfl)
theorem slices_swapRangeCmpFunc_cyc_Fired_call {a0 a1 a2 a3 a4 : AV} {H : AH} {K : AV → AH → Prop} (h : loopP tab noExt R.slices_swapRangeCmpFunc_cyc_Fired_l0 [a0, a1, a2, a3, a4, undef, undef, undef, undef, undef, (AV.s (SV.int .i64 0)), undef, undef, undef, undef, undef, undef, undef, undef, undef, undef, undef, undef, undef, undef, undef, undef, undef, undef, undef, undef, undef, undef, undef, undef, undef, undef, undef] (AH.bump H 1) (blockK 0 (retK [] K))) : CallP tab noExt F.slices_swapRangeCmpFunc_cyc_Fired [a0, a1, a2, a3, a4] H K :=
  CallP_of tab_slices_swapRangeCmpFunc_cyc_Fired (cast (by kernel_rfl : (loopP tab noExt R.slices_swapRangeCmpFunc_cyc_Fired_l0 [a0, a1, a2, a3, a4, undef, undef, undef, undef, undef, (AV.s (SV.int .i64 0)), undef, undef, undef, undef, undef, undef, undef, undef, undef, undef, undef, undef, undef, undef, undef, undef, undef, undef, undef, undef, undef, undef, undef, undef, undef, undef, undef] (AH.bump H 1) (blockK 0 (retK [] K))) = wpC tab noExt R.slices_swapRangeCmpFunc_cyc_Fired.body (([a0, a1, a2, a3, a4] : List AV) ++ List.replicate (R.slices_swapRangeCmpFunc_cyc_Fired.ntmps - ([a0, a1, a2, a3, a4] : List AV).length) undef) H (retK R.slices_swapRangeCmpFunc_cyc_Fired.results K)) h)
end Go.AM

/-
  All that is written out.
-/


/-
  What is fired: which of two comes first; parts of a row changed round.
-/
namespace Go.AM
attribute [local simp] Nat.add_assoc resA callvP

def encF (x : Fir) : List SV := [.bool x.cyc, .int .i64 x.no, .int .u64 x.at_]
theorem encF_len (x : Fir) : (encF x).length = 3 := rfl

abbrev sF (b n c : Nat) : AV := .s (.slice (some (b, 0)) n c 3)
abbrev fO : AV := .s (.fn F.cyc_order [])

/-- What a comparison tells. -/
def cmpI (a b : Int) : Int := if a < b then -1 else if b < a then 1 else 0

theorem cmpU_tri (a b : Int) : Tri tab noExt F.cmp_Compare_uint64 [u64 a, u64 b] [] fun v P' => v = i64 (cmpI a b) ∧ P' = [] := by
  refine Tri.intro fun ρ H Rs K hs hk => ?_
  apply cmp_Compare_uint64_call
  apply cmp_isNaN_uint64_call
  simp
  apply cmp_isNaN_uint64_call
  simp
  by_cases h : a < b
  · simp [h]
    exact hk _ _ _ ⟨by simp [cmpI, h], rfl⟩ (by (repeat refine Sat.bump ?_ _); exact hs)
  · by_cases h2 : b < a
    · simp [h, h2]
      exact hk _ _ _ ⟨by simp [cmpI, h, h2], rfl⟩ (by (repeat refine Sat.bump ?_ _); exact hs)
    · simp [h, h2]
      exact hk _ _ _ ⟨by simp [cmpI, h, h2], rfl⟩ (by (repeat refine Sat.bump ?_ _); exact hs)

theorem cmpS_tri (a b : Int) : Tri tab noExt F.cmp_Compare_int [i64 a, i64 b] [] fun v P' => v = i64 (cmpI a b) ∧ P' = [] := by
  refine Tri.intro fun ρ H Rs K hs hk => ?_
  apply cmp_Compare_int_call
  apply cmp_isNaN_int_call
  simp
  apply cmp_isNaN_int_call
  simp
  by_cases h : a < b
  · simp [h]
    exact hk _ _ _ ⟨by simp [cmpI, h], rfl⟩ (by (repeat refine Sat.bump ?_ _); exact hs)
  · by_cases h2 : b < a
    · simp [h, h2]
      exact hk _ _ _ ⟨by simp [cmpI, h, h2], rfl⟩ (by (repeat refine Sat.bump ?_ _); exact hs)
    · simp [h, h2]
      exact hk _ _ _ ⟨by simp [cmpI, h, h2], rfl⟩ (by (repeat refine Sat.bump ?_ _); exact hs)

def ordI (a b : Fir) : Int := if cmpI a.at_ b.at_ ≠ 0 then cmpI a.at_ b.at_ else if a.cyc ≠ b.cyc then (if a.cyc then -1 else 1) else cmpI a.no b.no

theorem ordI_neg (a b : Fir) : decide (ordI a b < 0) = ltF a b := by
  obtain ⟨ac, an, aa⟩ := a; obtain ⟨bc, bn, ba⟩ := b
  unfold ordI cmpI ltF
  rcases Int.lt_trichotomy aa ba with h | h | h
  · have h1 : ¬ ba < aa := by omega
    simp [h]
  · subst h
    rcases Int.lt_trichotomy an bn with h | h | h
    · cases ac <;> cases bc <;> simp [h]
    · cases ac <;> cases bc <;> simp [h]
    · have h1 : ¬ an < bn := by omega
      cases ac <;> cases bc <;> simp [h, h1]
  · have h1 : ¬ aa < ba := by omega
    have h2 : ¬ aa = ba := by omega
    simp [h, h1, h2]

theorem order_tri (a b : Fir) : Tri tab noExt F.cyc_order [.agg (encF a), .agg (encF b)] [] fun v P' => v = i64 (ordI a b) ∧ P' = [] := by
  refine Tri.intro fun ρ H Rs K hs hk => ?_
  apply cyc_order_call
  have hs1 := Sat.frees hs 3 [0, 1] (by decide) (by decide)
  simp only [List.map_cons, List.map_nil, List.cons_append, List.nil_append, Nat.add_zero] at hs1
  simp
  refine ⟨_, new_of _ hs1.fre, ?_⟩
  have hs2 := Sat.mk hs1 (encF a)
  have hs3 := Sat.mk hs2.swap (encF b)
  refine ⟨_, new_of _ hs2.swap.fre, ?_⟩
  have b1 := (hs3.swap).cel
  have b2 := hs3.cel
  generalize ((H.bump 3).set H.next (Blk.cells false (encF a))).set (H.next + 1) (Blk.cells false (encF b)) = H4 at *
  simp [AH.ld, b1, b2, encF]
  refine (cmpU_tri a.at_ b.at_).use (R := _) (hs3.bump _) ?_
  rintro v H5 P' ⟨rfl, rfl⟩ hs5
  have b1 := (Sat.swap hs5).cel
  have b2 := Sat.cel hs5
  by_cases h : cmpI a.at_ b.at_ = 0
  · by_cases h2 : a.cyc = b.cyc
    · simp [AH.ld, b1, b2, encF, h, h2]
      refine (cmpS_tri a.no b.no).use (R := _) (((hs5.bump _).bump _).bump _) ?_
      rintro v H6 P' ⟨rfl, rfl⟩ hs6
      exact hk _ _ _ ⟨by simp [ordI, h, h2], rfl⟩ hs6.drop.drop
    · have hs6 : Sat ρ H5 Rs := hs5.drop.drop
      cases hc : a.cyc <;> cases hc2 : b.cyc
      · exact (h2 (by rw [hc, hc2])).elim
      · simp [AH.ld, b1, b2, encF, h, hc, hc2]
        exact hk _ _ _ ⟨by simp [ordI, h, hc, hc2], rfl⟩ (by (repeat refine Sat.bump ?_ _); exact hs6)
      · simp [AH.ld, b1, b2, encF, h, hc, hc2]
        exact hk _ _ _ ⟨by simp [ordI, h, hc, hc2], rfl⟩ (by (repeat refine Sat.bump ?_ _); exact hs6)
      · exact (h2 (by rw [hc, hc2])).elim
  · simp [h]
    exact hk _ _ _ ⟨by simp [ordI, h], rfl⟩ (by (repeat refine Sat.bump ?_ _); exact hs5.drop.drop)

/-- Two parts of one length changed round. -/
theorem swapRange_tri (b c : Nat) (j : List SV) (f : AV) (p u w v q : List Fir) (huv : u.length = v.length) (n a a2 m : Nat) (hn : n = (p ++ (u ++ (w ++ (v ++ q)))).length) (ha : a = p.length) (ha2 : a2 = a + u.length + w.length) (hm : m = u.length) (hc : n < 4611686018427387904) :
    Tri tab noExt F.slices_swapRangeCmpFunc_cyc_Fired [sF b n c, i64 a, i64 a2, i64 m, f] [Cel b (flat encF (p ++ (u ++ (w ++ (v ++ q)))) ++ j)] fun x P' => x = unit ∧ P' = [Cel b (flat encF (p ++ (v ++ (w ++ (u ++ q)))) ++ j)] := by
  refine Tri.intro fun ρ H Rs K hs hk => ?_
  apply slices_swapRangeCmpFunc_cyc_Fired_call
  simp only [List.length_append] at hn
  refine loopP_invK (I := fun k T H' => T.length = 38 ∧ sl T 0 = sF b n c ∧ sl T 1 = i64 a ∧ sl T 2 = i64 a2 ∧ sl T 3 = i64 m ∧ ∃ i : Nat, sl T 10 = i64 i ∧ i ≤ m ∧ k = m - i ∧ Sat ρ H' (Cel b (flat encF (p ++ ((v.take i ++ u.drop i) ++ (w ++ ((u.take i ++ v.drop i) ++ q)))) ++ j) :: Rs)) ?_ m _ _ ⟨rfl, rfl, rfl, rfl, rfl, 0, rfl, Nat.zero_le _, rfl, by simpa using hs.bump _⟩
  rintro k T H' ⟨hT, s0, s1, s2, s3, i, s10, hi, hk', hs⟩ K' kn kr ko
  rw [slices_swapRangeCmpFunc_cyc_Fired_l0_at hT]
  by_cases hlt : i < m
  · have hlt' : (i : Int) < m := by omega
    have hu : i < u.length := by omega
    have hv : i < v.length := by omega
    have w1 := wrapP a i (by omega)
    have w2 := wrapP a2 i (by omega)
    have w3 := wrapP1 i (by omega)
    have i1 : a + i < n := by omega
    have i2 : a2 + i < n := by omega
    rw [List.drop_eq_getElem_cons hu, List.drop_eq_getElem_cons hv] at hs
    have e : p ++ ((v.take i ++ u[i] :: u.drop (i + 1)) ++ (w ++ ((u.take i ++ v[i] :: v.drop (i + 1)) ++ q))) = (p ++ v.take i) ++ u[i] :: ((u.drop (i + 1) ++ (w ++ u.take i)) ++ v[i] :: (v.drop (i + 1) ++ q)) := by simp only [List.append_assoc, List.cons_append, List.nil_append]
    rw [e] at hs
    obtain ⟨g1, g2, H1, H2, g3, g4, hs2⟩ := ((hs.bump 3).bump 24).sw encF_len (i := a + i) (m := a2 + i) (by simp; omega) (by simp; omega)
    have g1 : H'.ldn b ((a + i) * 3) 3 = some (encF u[i]) := g1
    have g2 : H'.ldn b ((a2 + i) * 3) 3 = some (encF v[i]) := g2
    generalize hp1 : a + i = p1 at *
    generalize hp2 : a2 + i = p2 at *
    simp [s0, s1, s2, s3, s10, hlt', hlt, w1, w2, w3, i1, i2, g1, g2, encF_len]
    refine ⟨_, g3, _, g4, kn (m - (i + 1)) _ _ (by omega) ⟨rfl, rfl, rfl, rfl, rfl, i + 1, rfl, hlt, rfl, ?_⟩⟩
    have e2 : (p ++ v.take i) ++ v[i] :: ((u.drop (i + 1) ++ (w ++ u.take i)) ++ u[i] :: (v.drop (i + 1) ++ q)) = p ++ ((v.take (i + 1) ++ u.drop (i + 1)) ++ (w ++ ((u.take (i + 1) ++ v.drop (i + 1)) ++ q))) := by
      rw [List.take_add_one, List.take_add_one, List.getElem?_eq_getElem hu, List.getElem?_eq_getElem hv]; simp only [Option.toList_some, List.append_assoc, List.cons_append, List.nil_append]
    rw [e2] at hs2
    exact hs2.bump _
  · have hie : i = m := by omega
    subst hie
    simp [s3, s10]
    refine ko _ _ _ ?_
    simp
    refine hk _ _ _ ⟨rfl, rfl⟩ ?_
    have e : p ++ ((v.take i ++ u.drop i) ++ (w ++ ((u.take i ++ v.drop i) ++ q))) = p ++ (v ++ (w ++ (u ++ q))) := by
      rw [hm, List.take_length, List.drop_length, huv, List.take_length, List.drop_length]; simp
    rw [e] at hs
    exact hs.bump _

theorem rot_s1 {ρ : HF} (b c : Nat) (j : List SV) (f : AV) (p X Y q : List Fir) (hXY : X.length = Y.length) (n m : Nat) (hn : n = (p ++ (X ++ (Y ++ q))).length) (hm : m = p.length + X.length) (hc : n < 4611686018427387904) (Rs : List Asr) (T : List AV) (H : AH) (hT : T.length = 58) (s0 : sl T 0 = sF b n c) (s2 : sl T 2 = i64 m) (s4 : sl T 4 = f) (s10 : sl T 10 = i64 Y.length)
    (hs : Sat ρ H (Cel b (flat encF (p ++ (X ++ (Y ++ q))) ++ j) :: Rs)) (K : Ex → List AV → AH → Prop) (hk : ∀ T' H', Sat ρ H' (Cel b (flat encF (p ++ (Y ++ (X ++ q))) ++ j) :: Rs) → K .norm T' H') :
    wpC tab noExt R.slices_rotateCmpFunc_cyc_Fired_s1 T H K := by
  rw [slices_rotateCmpFunc_cyc_Fired_s1_at hT]
  simp only [List.length_append] at hn
  have w3 := wrapM m Y.length (by omega) (by omega)
  simp [s0, s2, s4, s10, w3]
  refine (swapRange_tri b c j f p X [] Y q hXY n (m - Y.length) m Y.length (by simp; omega) (by omega) (by simp; omega) (by omega) hc).use (by simpa using hs.bump _) ?_
  rintro v H2 P' ⟨rfl, rfl⟩ hs2
  exact hk _ _ (by simpa using hs2)

/-- Two parts side by side changed round. -/
theorem rotate_tri (b c : Nat) (j : List SV) (f : AV) (p x y q : List Fir) (n a m e : Nat) (hn : n = (p ++ (x ++ (y ++ q))).length) (ha : a = p.length) (hm : m = a + x.length) (he : e = m + y.length) (hx : 0 < x.length) (hy : 0 < y.length) (hc : n < 4611686018427387904) :
    Tri tab noExt F.slices_rotateCmpFunc_cyc_Fired [sF b n c, i64 a, i64 m, i64 e, f] [Cel b (flat encF (p ++ (x ++ (y ++ q))) ++ j)] fun v P' => v = unit ∧ P' = [Cel b (flat encF (p ++ (y ++ (x ++ q))) ++ j)] := by
  refine Tri.intro fun ρ H Rs K hs hk => ?_
  apply slices_rotateCmpFunc_cyc_Fired_call
  simp only [List.length_append] at hn
  have w1 := wrapM m a (by omega) (by omega)
  have w2 := wrapM e m (by omega) (by omega)
  have w1' : m - a = x.length := by omega
  have w2' : e - m = y.length := by omega
  simp [w1, w2, w1', w2']
  refine loopP_invK (I := fun k T H' => T.length = 58 ∧ sl T 0 = sF b n c ∧ sl T 2 = i64 m ∧ sl T 4 = f ∧ ∃ X Y U V : List Fir, sl T 10 = i64 X.length ∧ sl T 11 = i64 Y.length ∧ 0 < X.length ∧ 0 < Y.length ∧ a + U.length + X.length = m ∧ k = X.length + Y.length ∧ X.length + Y.length + U.length + V.length = x.length + y.length ∧ U ++ (Y ++ (X ++ V)) = y ++ x ∧ Sat ρ H' (Cel b (flat encF (p ++ (U ++ (X ++ (Y ++ (V ++ q))))) ++ j) :: Rs)) ?_ (x.length + y.length) _ _ ⟨rfl, rfl, rfl, rfl, x, y, [], [], rfl, rfl, hx, hy, by simp; omega, rfl, by simp, by simp, by simpa using (hs.bump 4).bump 4⟩
  rintro k T H' ⟨hT, s0, s2, s4, X, Y, U, V, s10, s11, hX, hY, hU, hk', hlen, hg, hs⟩ K' kn kr ko
  rw [slices_rotateCmpFunc_cyc_Fired_l0_at hT]
  have w3 := wrapM m X.length (by omega) (by omega)
  rcases Nat.lt_trichotomy Y.length X.length with h | h | h
  · have h1 : ¬ (X.length : Int) = Y.length := by omega
    have h2 : (Y.length : Int) < X.length := by omega
    have w4 := wrapM X.length Y.length (by omega) (by omega)
    simp [s0, s2, s4, s10, s11, h1, h2, h, w3, w4, Nat.ne_of_gt h]
    obtain ⟨X1, X2, rfl, hX1⟩ : ∃ X1 X2, X = X1 ++ X2 ∧ X1.length = Y.length := ⟨X.take Y.length, X.drop Y.length, (List.take_append_drop _ _).symm, by simp; omega⟩
    have hX2 : (X1 ++ X2).length = X1.length + X2.length := List.length_append
    have e1 : p ++ (U ++ ((X1 ++ X2) ++ (Y ++ (V ++ q)))) = (p ++ U) ++ (X1 ++ (X2 ++ (Y ++ (V ++ q)))) := by simp only [List.append_assoc]
    rw [e1] at hs
    refine (swapRange_tri b c j f (p ++ U) X1 X2 Y (V ++ q) hX1 n (m - (X1 ++ X2).length) m Y.length (by simp; omega) (by simp; omega) (by simp; omega) (by omega) hc).use (((hs.bump _).bump _).bump _) ?_
    rintro v H2 P' ⟨rfl, rfl⟩ hs2
    have e2 : (p ++ U) ++ (Y ++ (X2 ++ (X1 ++ (V ++ q)))) = p ++ ((U ++ Y) ++ (X2 ++ (X1 ++ (V ++ q)))) := by simp only [List.append_assoc]
    rw [e2] at hs2
    refine kn (X2.length + Y.length) _ _ (by omega) ⟨rfl, rfl, rfl, rfl, X2, X1, U ++ Y, V, ?_, ?_, ?_, ?_, ?_, ?_, ?_, ?_, hs2.bump _⟩
    · rw [hX2]; show i64 _ = i64 _; congr 3; omega
    · show i64 _ = i64 _; rw [hX1]
    · omega
    · omega
    · simp; omega
    · omega
    · simp; omega
    · rw [← hg]
      simp only [List.append_assoc]
  · have h1 : (X.length : Int) = Y.length := by omega
    simp [s10, s11, h1]
    refine ko _ _ _ ?_
    simp
    have e1 : p ++ (U ++ (X ++ (Y ++ (V ++ q)))) = (p ++ U) ++ (X ++ (Y ++ (V ++ q))) := by simp only [List.append_assoc]
    rw [e1] at hs
    refine rot_s1 b c j f (p ++ U) X Y (V ++ q) h.symm n m (by simp; omega) (by simp; omega) hc Rs _ _ ?_ ?_ ?_ ?_ ?_ (hs.bump _) _ ?_
    · first | rfl | exact hT
    · first | rfl | exact s0
    · first | rfl | exact s2
    · first | rfl | exact s4
    · first | rfl | exact s10
    intro T' H2 hs2
    simp
    refine hk _ _ _ ⟨rfl, rfl⟩ ?_
    have e2 : (p ++ U) ++ (Y ++ (X ++ (V ++ q))) = p ++ ((U ++ (Y ++ (X ++ V))) ++ q) := by simp only [List.append_assoc]
    rw [e2, hg, List.append_assoc] at hs2
    exact hs2
  · have h1 : ¬ (X.length : Int) = Y.length := by omega
    have h2 : ¬ (Y.length : Int) < X.length := by omega
    have w4 := wrapM Y.length X.length (by omega) (by omega)
    have w5 := wrapP m Y.length (by omega)
    have w6 := wrapM (m + Y.length) X.length (by omega) (by omega)
    generalize hmy : m + Y.length = my at *
    simp [s0, s2, s4, s10, s11, h1, h2, w3, w4, w5, w6, Nat.ne_of_lt h, Nat.le_of_lt h]
    obtain ⟨Y1, Y2, rfl, hY2⟩ : ∃ Y1 Y2, Y = Y1 ++ Y2 ∧ Y2.length = X.length := ⟨Y.take (Y.length - X.length), Y.drop (Y.length - X.length), (List.take_append_drop _ _).symm, by simp; omega⟩
    have hY1 : (Y1 ++ Y2).length = Y1.length + Y2.length := List.length_append
    have e1 : p ++ (U ++ (X ++ ((Y1 ++ Y2) ++ (V ++ q)))) = (p ++ U) ++ (X ++ (Y1 ++ (Y2 ++ (V ++ q)))) := by simp only [List.append_assoc]
    rw [e1] at hs
    refine (swapRange_tri b c j f (p ++ U) X Y1 Y2 (V ++ q) hY2.symm n (m - X.length) (my - X.length) X.length (by simp; omega) (by simp; omega) (by simp; omega) rfl hc).use (((hs.bump _).bump _).bump _) ?_
    rintro v H2 P' ⟨rfl, rfl⟩ hs2
    have e2 : (p ++ U) ++ (Y2 ++ (Y1 ++ (X ++ (V ++ q)))) = p ++ (U ++ (Y2 ++ (Y1 ++ ((X ++ V) ++ q)))) := by simp only [List.append_assoc]
    rw [e2] at hs2
    refine kn (Y2.length + Y1.length) _ _ (by omega) ⟨rfl, rfl, rfl, rfl, Y2, Y1, U, X ++ V, ?_, ?_, ?_, ?_, ?_, ?_, ?_, ?_, hs2.bump _⟩
    · show i64 _ = i64 _; rw [hY2]
    · rw [hY1]; show i64 _ = i64 _; congr 3; omega
    · omega
    · omega
    · omega
    · omega
    · simp; omega
    · rw [← hg]
      simp only [List.append_assoc]

end Go.AM

/-
  What is fired: sorted by putting in; two sorted parts of which one is a single one.
-/
namespace Go.AM
attribute [local simp] Nat.add_assoc resA callvP

theorem ins_l0 {ρ : HF} (b c n : Nat) (jk : List SV) (p : List Fir) (a : Nat) (ha : a = p.length) (hc : n < 4611686018427387904) (s : List Fir) (e0 : Fir) (q : List Fir) (hn : n = (p ++ (s ++ e0 :: q)).length) (hsr : SrtL ltF s) (Rs : List Asr) (T : List AV) (H : AH) (hT : T.length = 53) (i e : AV) (s0 : sl T 0 = sF b n c) (s1 : sl T 1 = i64 a) (s2 : sl T 2 = e) (s3 : sl T 3 = fO) (s8 : sl T 8 = i) (s9 : sl T 9 = i64 (a + s.length : Nat))
    (hs : Sat ρ H (Cel b (flat encF (p ++ (s ++ e0 :: q)) ++ jk) :: Rs)) (K : Ex → List AV → AH → Prop)
    (hk : ∀ T' H' z, T'.length = 53 → sl T' 0 = sF b n c → sl T' 1 = i64 a → sl T' 2 = e → sl T' 3 = fO → sl T' 8 = i → SrtL ltF z → z.Perm (s ++ [e0]) → Sat ρ H' (Cel b (flat encF (p ++ (z ++ q)) ++ jk) :: Rs) → K (.out 2) T' H') :
    loopP tab noExt R.slices_insertionSortCmpFunc_cyc_Fired_l0 T H K := by
  simp only [List.length_append, List.length_cons] at hn
  refine loopP_invK (I := fun k T H' => T.length = 53 ∧ sl T 0 = sF b n c ∧ sl T 1 = i64 a ∧ sl T 2 = e ∧ sl T 3 = fO ∧ sl T 8 = i ∧ ∃ x y : List Fir, sl T 9 = i64 (a + x.length : Nat) ∧ k = x.length ∧ x ++ y = s ∧ (∀ w, y.head? = some w → ltF w e0 = false) ∧ Sat ρ H' (Cel b (flat encF (p ++ (x ++ e0 :: (y ++ q))) ++ jk) :: Rs)) ?_ s.length _ _ ⟨hT, s0, s1, s2, s3, s8, s, [], s9, rfl, by simp, by simp, by simpa using hs⟩
  rintro k T H' ⟨hT, s0, s1, s2, s3, s8, x, y, s9, hk', hxy, hy, hs⟩ K' kn kr ko
  rw [slices_insertionSortCmpFunc_cyc_Fired_l0_at hT]
  have hl : s.length = x.length + y.length := by rw [← hxy]; simp
  rcases List.eq_nil_or_concat x with rfl | ⟨x', w, rfl⟩
  · simp [s1, s9]
    refine ko _ _ _ (hk _ _ (e0 :: y) rfl s0 rfl s2 s3 s8 ?_ ?_ (hs.bump _))
    · exact srtL_cons ltF_ord (by simpa [← hxy] using hsr) hy
    · rw [← hxy]; simpa using (List.perm_append_singleton e0 y).symm
  · rw [List.concat_eq_append] at *
    simp only [List.length_append, List.length_singleton] at s9 hk' hl
    have h1 : (a : Int) < ((a + (x'.length + 1) : Nat) : Int) := by omega
    have h2 : ¬ ((a + (x'.length + 1) : Nat) : Int) ≤ a := by omega
    have e1 : p ++ ((x' ++ [w]) ++ e0 :: (y ++ q)) = (p ++ x') ++ w :: ([] ++ e0 :: (y ++ q)) := by simp
    rw [e1] at hs
    obtain ⟨g1, g2, _⟩ := hs.ws encF_len (i := a + x'.length) (m := a + (x'.length + 1)) (by simp; omega) (by simp; omega)
    have w1 := wrapM1 (a + (x'.length + 1)) (by omega) (by omega)
    have w2 : a + (x'.length + 1) - 1 = a + x'.length := by omega
    rw [w2] at w1
    have i1 : a + x'.length < n := by omega
    have i2 : a + (x'.length + 1) < n := by omega
    have hxs : a + (x'.length + 1) = (a + x'.length) + 1 := by omega
    have hq : a + x'.length = (p ++ x').length := by simp; omega
    generalize hp1 : a + x'.length = p1 at *
    generalize hp2 : a + (x'.length + 1) = p2 at *
    simp only [s0, s1, s3, s9, andThen_some, binA_gtr]
    simp [h1, h2, w1, i1, i2, g1, g2, encF_len]
    refine (order_tri e0 w).use (R := _) (hs.bump _) ?_
    rintro v H2 P' ⟨rfl, rfl⟩ hs2
    have ho := ordI_neg e0 w
    have hs2 : Sat ρ H2 (Cel b (flat encF ((p ++ x') ++ w :: ([] ++ e0 :: (y ++ q))) ++ jk) :: Rs) := hs2
    cases hlt : ltF e0 w
    · rw [hlt] at ho
      simp [ho]
      rw [List.nil_append] at hs2
      have e2 : (p ++ x') ++ w :: e0 :: (y ++ q) = p ++ ((x' ++ w :: e0 :: y) ++ q) := by simp
      rw [e2] at hs2
      refine ko _ _ _ (hk _ _ (x' ++ w :: e0 :: y) rfl rfl rfl s2 rfl s8 ?_ ?_ hs2)
      · have := srtL_ins (x := e0) ltF_ord (l := x' ++ [w]) (r := y) (by rw [hxy]; exact hsr) (by intro a ha; simp at ha; subst ha; exact hlt) hy
        simpa using this
      · rw [← hxy]
        have : (x' ++ w :: e0 :: y) = (x' ++ [w]) ++ (e0 :: y) := by simp
        rw [this, List.append_assoc (x' ++ [w]) y [e0]]
        exact List.Perm.append_left _ (List.perm_append_singleton e0 y).symm
    · rw [hlt] at ho
      obtain ⟨g1, g2, H3, H4, g3, g4, hs3⟩ := (hs2.bump 18).ws encF_len (i := p1) (m := p2) hq (by simp; omega)
      have g1 : H2.ldn b (p1 * 3) 3 = some (encF w) := g1
      have g2 : H2.ldn b (p2 * 3) 3 = some (encF e0) := g2
      simp [ho, w1, i1, i2, g1, g2, encF_len]
      refine ⟨_, g3, _, g4, kn x'.length _ _ (by omega) ⟨rfl, rfl, rfl, s2, rfl, s8, x', w :: y, by show i64 _ = i64 _; rw [hp1], rfl, by rw [← hxy]; simp, ?_, ?_⟩⟩
      · intro z hz
        simp at hz; subst hz
        exact lt_flip ltF_ord hlt
      · have e2 : (p ++ x') ++ e0 :: ([] ++ w :: (y ++ q)) = p ++ (x' ++ e0 :: (w :: y ++ q)) := by simp
        rw [e2] at hs3
        exact hs3.bump _

theorem insSort_tri (b c n : Nat) (jk : List SV) (p x q : List Fir) (a e : Nat) (ha : a = p.length) (he : e = a + x.length) (hn : n = (p ++ (x ++ q)).length) (hc : n < 4611686018427387904) :
    Tri tab noExt F.slices_insertionSortCmpFunc_cyc_Fired [sF b n c, i64 a, i64 e, fO] [Cel b (flat encF (p ++ (x ++ q)) ++ jk)] fun v P' => v = unit ∧ ∃ z, SrtL ltF z ∧ z.Perm x ∧ P' = [Cel b (flat encF (p ++ (z ++ q)) ++ jk)] := by
  refine Tri.intro fun ρ H Rs K hs hk => ?_
  apply slices_insertionSortCmpFunc_cyc_Fired_call
  simp only [List.length_append] at hn
  have w1 := wrapP1 a (by omega)
  simp [w1]
  refine loopP_invK (I := fun k T H' => T.length = 53 ∧ sl T 0 = sF b n c ∧ sl T 1 = i64 a ∧ sl T 2 = i64 e ∧ sl T 3 = fO ∧ ∃ (i : Nat) (s t : List Fir), sl T 8 = i64 i ∧ (i = a + s.length ∨ (x = [] ∧ i = a + 1)) ∧ k = t.length ∧ SrtL ltF s ∧ (s ++ t).Perm x ∧ Sat ρ H' (Cel b (flat encF (p ++ (s ++ (t ++ q))) ++ jk) :: Rs)) ?_ (x.length - 1) _ _ ⟨rfl, rfl, rfl, rfl, rfl, a + 1, x.take 1, x.drop 1, rfl, ?_, by simp, ?_, by rw [List.take_append_drop], ?_⟩
  · rintro k T H' ⟨hT, s0, s1, s2, s3, i, s, t, s8, hi, hk', hsr, hp, hs⟩ K' kn kr ko
    rw [slices_insertionSortCmpFunc_cyc_Fired_l2_at hT]
    have hl := hp.length_eq
    rw [List.length_append] at hl
    cases t with
    | nil =>
      have h1 : ¬ (i : Int) < e := by simp at hl; rcases hi with h | ⟨h, h'⟩ <;> (try subst h) <;> simp at * <;> omega
      simp only [s2, s8, andThen_some, binA_lss, condP_bool]
      rw [decide_eq_false h1]
      simp only [Bool.false_eq_true, if_false]
      refine ko _ _ _ ?_
      simp
      refine hk _ _ _ ⟨rfl, s, hsr, by simpa using hp, rfl⟩ ?_
      simpa using hs.bump _
    | cons e0 t =>
      have hi : i = a + s.length := by
        rcases hi with h | ⟨h, _⟩
        · exact h
        · subst h; simp at hl
      subst hi
      have h1 : (a + s.length : Nat) < e := by simp at hl; omega
      have h1' : ((a + s.length : Nat) : Int) < e := by omega
      simp only [s0, s1, s2, s3, s8, andThen_some, binA_lss, condP_bool]
      rw [decide_eq_true h1']
      simp only [if_true]
      refine ins_l0 b c n jk p a ha hc s e0 (t ++ q) (by simp at hl ⊢; omega) hsr Rs _ _ (by simp) (i64 (a + s.length : Nat)) (i64 e) rfl rfl rfl rfl rfl rfl ((hs.bump _).bump _) _ ?_
      intro T' H2 z hT' t0 t1 t2 t3 t8 hz hzp hs2
      simp
      rw [slices_insertionSortCmpFunc_cyc_Fired_s1_at hT']
      have w2 := wrapP1 (a + s.length) (by omega)
      simp only [t8, andThen_some, binA_add, w2]
      refine kn t.length _ _ (by rw [hk']; simp) ⟨by simp, t0, t1, t2, t3, a + s.length + 1, z, t, rfl, .inl ?_, rfl, hz, ?_, hs2.bump _⟩
      · have := hzp.length_eq; simp at this; omega
      · refine ((List.Perm.append_right t hzp).trans ?_).trans hp
        simp
  · cases x with
    | nil => exact .inr ⟨rfl, rfl⟩
    | cons y x => left; simp
  · cases x with
    | nil => exact .nil
    | cons y x => simpa using SrtL.one y
  · have : x.take 1 ++ (x.drop 1 ++ q) = x ++ q := by rw [← List.append_assoc, List.take_append_drop]
    rw [this]
    exact hs.bump _

end Go.AM

/-
  What is fired: two sorted parts side by side merged in place.
-/
set_option maxRecDepth 20000
namespace Go.AM
attribute [local simp] Nat.add_assoc resA callvP

theorem shr1 (n : Nat) (h : n < 18446744073709551616) : binA .shr (u64 n) (u64 1) = some (u64 ((n / 2 : Nat) : Int)) := by
  simp [binA, shiftA, IntKind.bits, Int.fdiv_eq_ediv]

theorem wrapU64N (n : Nat) (h : n < 18446744073709551616) : IntKind.u64.wrap (n : Int) = n := wrap_u64 (by omega) (by omega)

theorem at_mid {α : Type} (p x r : List α) (i k : Nat) (hk : k = p.length + i) (hi : i < x.length) : (p ++ (x ++ r))[k]? = x[i]? := by
  subst hk
  rw [List.getElem?_append_right (by omega), Nat.add_sub_cancel_left, List.getElem?_append_left hi]

theorem at_one {α : Type} (p r : List α) (x : α) (k : Nat) (hk : k = p.length) : (p ++ x :: r)[k]? = some x := by subst hk; simp

section
variable {ρ : HF} (b c n : Nat) (jk : List SV) (Rs : List Asr)

/-- Where one stands ahead of a sorted part. -/
theorem sm_l0 (p : List Fir) (e0 : Fir) (y q : List Fir) (a m e : Nat) (ha : a = p.length) (hm : m = a + 1) (he : e = m + y.length) (hn : n = (p ++ ([e0] ++ (y ++ q))).length) (hc : n < 4611686018427387904) (T : List AV) (H : AH) (hT : T.length = 220) (s0 : sl T 0 = sF b n c) (s1 : sl T 1 = i64 a) (s4 : sl T 4 = fO) (s10 : sl T 10 = i64 m) (s11 : sl T 11 = i64 e)
    (hs : Sat ρ H (Cel b (flat encF (p ++ ([e0] ++ (y ++ q))) ++ jk) :: Rs)) (K : Ex → List AV → AH → Prop)
    (hk : ∀ T' H' r, T'.length = 220 → sl T' 0 = sF b n c → sl T' 1 = i64 a → sl T' 10 = i64 (m + r : Nat) → r ≤ y.length → (∀ z, (y.take r).getLast? = some z → ltF z e0 = true) → (∀ z, (y.drop r).head? = some z → ltF z e0 = false) → Sat ρ H' (Cel b (flat encF (p ++ ([e0] ++ (y ++ q))) ++ jk) :: Rs) → K (.out 0) T' H') :
    loopP tab noExt R.slices_symMergeCmpFunc_cyc_Fired_l0 T H K := by
  simp only [List.length_append, List.length_singleton] at hn
  refine loopP_invK (I := fun k T H' => T.length = 220 ∧ sl T 0 = sF b n c ∧ sl T 1 = i64 a ∧ sl T 4 = fO ∧ ∃ I J : Nat, sl T 10 = i64 (m + I : Nat) ∧ sl T 11 = i64 (m + J : Nat) ∧ I ≤ J ∧ J ≤ y.length ∧ k = J - I ∧ (∀ z, (y.take I).getLast? = some z → ltF z e0 = true) ∧ (∀ z, (y.drop J).head? = some z → ltF z e0 = false) ∧ Sat ρ H' (Cel b (flat encF (p ++ ([e0] ++ (y ++ q))) ++ jk) :: Rs)) ?_ y.length _ _ ⟨hT, s0, s1, s4, 0, y.length, s10, by rw [s11, he], Nat.zero_le _, Nat.le_refl _, rfl, by simp, by simp, hs⟩
  rintro k T H' ⟨hT, s0, s1, s4, I, J, s10, s11, hIJ, hJ, hk', h1, h2, hs⟩ K' kn kr ko
  rw [slices_symMergeCmpFunc_cyc_Fired_l0_at hT]
  by_cases hlt : I < J
  · have hlt' : ((m + I : Nat) : Int) < (m + J : Nat) := by omega
    have w1 := wrapP (m + I) (m + J) (by omega)
    have w2 := wrapU64N (m + I + (m + J)) (by omega)
    have w3 := shr1 (m + I + (m + J)) (by omega)
    have w4 := wrapN ((m + I + (m + J)) / 2) (by omega)
    have hh : (m + I + (m + J)) / 2 = m + (I + J) / 2 := by omega
    rw [hh] at w3 w4
    have g1 := rdEl encF_len hs.cel (at_one p (y ++ q) e0 a ha)
    have hM : (I + J) / 2 < y.length := by omega
    obtain ⟨z, hz⟩ : ∃ z, y[(I + J) / 2]? = some z := ⟨_, List.getElem?_eq_getElem hM⟩
    have e1 : (p ++ ([e0] ++ (y ++ q)))[m + (I + J) / 2]? = some z := by
      have : p ++ ([e0] ++ (y ++ q)) = (p ++ [e0]) ++ (y ++ q) := by simp
      rw [this, at_mid (p ++ [e0]) y q ((I + J) / 2) _ (by simp; omega) hM]
      exact hz
    have g2 := rdEl encF_len hs.cel e1
    have i1 : a < n := by omega
    have i2 : m + (I + J) / 2 < n := by omega
    have hq1 : I ≤ (I + J) / 2 := by omega
    have hq2 : (I + J) / 2 < J := by omega
    generalize hM' : (I + J) / 2 = M at *
    have w5 := wrapP1 (m + M) (by omega)
    generalize hS : m + I + (m + J) = S at *
    obtain ⟨h, hMh⟩ : ∃ h, h = m + M := ⟨_, rfl⟩
    rw [← hMh] at w3 w4 g2 i2 w5
    simp only [s0, s1, s4, s10, s11, andThen_some, binA_lss, condP_bool]
    rw [decide_eq_true hlt']
    simp only [if_true, andThen_some, binA_add, w1, convA_int, w2, w3, w4]
    simp [i1, i2, g1, g2]
    refine (order_tri z e0).use (R := _) (((hs.bump 3).bump 7).bump 11) ?_
    rintro v H2 P' ⟨rfl, rfl⟩ hs2
    have ho := ordI_neg z e0
    have hs2 : Sat ρ H2 (Cel b (flat encF (p ++ ([e0] ++ (y ++ q))) ++ jk) :: Rs) := hs2
    cases hl : ltF z e0
    · rw [hl] at ho
      simp [ho]
      refine kn (M - I) _ _ (by omega) ⟨rfl, rfl, rfl, rfl, I, M, rfl, by show i64 _ = i64 _; rw [hMh], hq1, by omega, rfl, h1, ?_, hs2.bump _⟩
      intro w hw
      rw [List.head?_drop, hz] at hw
      cases hw; exact hl
    · rw [hl] at ho
      simp [ho, w5]
      refine kn (J - (M + 1)) _ _ (by omega) ⟨rfl, rfl, rfl, rfl, M + 1, J, by show AV.s (.int .i64 _) = AV.s (.int .i64 _); congr 2; omega, rfl, hq2, hJ, rfl, ?_, h2, hs2.bump _⟩
      intro w hw
      rw [List.take_add_one, hz] at hw
      simp at hw
      cases hw; exact hl
  · have hlt' : ¬ ((m + I : Nat) : Int) < (m + J : Nat) := by omega
    have hIJ' : I = J := by omega
    subst hIJ'
    simp only [s0, s1, s4, s10, s11, andThen_some, binA_lss, condP_bool]
    rw [decide_eq_false hlt']
    simp only [Bool.false_eq_true, if_false]
    exact ko _ _ _ (hk _ _ I rfl rfl rfl rfl hJ h1 h2 (hs.bump _))

/-- One moved back over others. -/
theorem sm_l1 (p : List Fir) (e0 : Fir) (y q : List Fir) (a m r : Nat) (ha : a = p.length) (hm : m = a + 1) (hr : r ≤ y.length) (hn : n = (p ++ ([e0] ++ (y ++ q))).length) (hc : n < 4611686018427387904) (T : List AV) (H : AH) (hT : T.length = 220) (s0 : sl T 0 = sF b n c) (s13 : sl T 13 = i64 a) (s10 : sl T 10 = i64 (m + r : Nat))
    (hs : Sat ρ H (Cel b (flat encF (p ++ ([e0] ++ (y ++ q))) ++ jk) :: Rs)) (K : Ex → List AV → AH → Prop)
    (hk : ∀ T' H', T'.length = 220 → Sat ρ H' (Cel b (flat encF (p ++ ((y.take r ++ e0 :: y.drop r) ++ q)) ++ jk) :: Rs) → K (.out 2) T' H') :
    loopP tab noExt R.slices_symMergeCmpFunc_cyc_Fired_l1 T H K := by
  simp only [List.length_append, List.length_singleton] at hn
  refine loopP_invK (I := fun k T H' => T.length = 220 ∧ sl T 0 = sF b n c ∧ sl T 10 = i64 (m + r : Nat) ∧ ∃ d : Nat, sl T 13 = i64 (a + d : Nat) ∧ d ≤ r ∧ k = r - d ∧ Sat ρ H' (Cel b (flat encF (p ++ ((y.take d ++ e0 :: y.drop d) ++ q)) ++ jk) :: Rs)) ?_ r _ _ ⟨hT, s0, s10, 0, s13, Nat.zero_le _, rfl, by simpa using hs⟩
  rintro k T H' ⟨hT, s0, s10, d, s13, hd, hk', hs⟩ K' kn kr ko
  rw [slices_symMergeCmpFunc_cyc_Fired_l1_at hT]
  have w0 := wrapM1 (m + r) (by omega) (by omega)
  have e0' : m + r - 1 = a + r := by omega
  rw [e0'] at w0
  by_cases hlt : d < r
  · have hlt' : ((a + d : Nat) : Int) < (a + r : Nat) := by omega
    have hy : d < y.length := by omega
    rw [List.drop_eq_getElem_cons hy] at hs
    have e1 : p ++ ((y.take d ++ e0 :: y[d] :: y.drop (d + 1)) ++ q) = (p ++ y.take d) ++ e0 :: ([] ++ y[d] :: (y.drop (d + 1) ++ q)) := by simp only [List.append_assoc, List.cons_append, List.nil_append]
    rw [e1] at hs
    obtain ⟨g1, g2, H1, H2, g3, g4, hs2⟩ := ((hs.bump 4).bump 18).sw encF_len (i := a + d) (m := a + d + 1) (by simp; omega) (by simp; omega)
    have g1 : H'.ldn b ((a + d) * 3) 3 = some (encF e0) := g1
    have g2 : H'.ldn b ((a + d + 1) * 3) 3 = some (encF y[d]) := g2
    have w1 := wrapP1 (a + d) (by omega)
    have i1 : a + d < n := by omega
    have i2 : a + d + 1 < n := by omega
    have e2 : (p ++ y.take d) ++ y[d] :: ([] ++ e0 :: (y.drop (d + 1) ++ q)) = p ++ ((y.take (d + 1) ++ e0 :: y.drop (d + 1)) ++ q) := by
      rw [List.take_add_one, List.getElem?_eq_getElem hy]; simp only [Option.toList_some, List.append_assoc, List.cons_append, List.nil_append]
    rw [e2] at hs2
    have hpd : a + (d + 1) = a + d + 1 := by omega
    have hkn := kn (r - (d + 1))
    generalize hp1 : a + d = p1 at *
    generalize hp2 : p1 + 1 = p2 at *
    simp only [s0, s10, s13, andThen_some, binA_sub, w0, binA_lss, condP_bool]
    rw [decide_eq_true hlt']
    simp only [if_true, andThen_some, binA_add, w1]
    simp [i1, i2, g1, g2, encF_len, w1]
    refine ⟨_, g3, _, g4, hkn _ _ (by omega) ⟨rfl, rfl, rfl, d + 1, by show i64 _ = i64 _; rw [hpd], hlt, rfl, hs2.bump _⟩⟩
  · have hlt' : ¬ ((a + d : Nat) : Int) < (a + r : Nat) := by omega
    have hdr : d = r := by omega
    subst hdr
    simp only [s0, s10, s13, andThen_some, binA_sub, w0, binA_lss, condP_bool]
    rw [decide_eq_false hlt']
    simp only [Bool.false_eq_true, if_false]
    exact ko _ _ _ (hk _ _ rfl (hs.bump _))

/-- Where one stands behind a sorted part. -/
theorem sm_l4 (p : List Fir) (e0 : Fir) (x q : List Fir) (a m : Nat) (ha : a = p.length) (hm : m = a + x.length) (hn : n = (p ++ (x ++ e0 :: q)).length) (hc : n < 4611686018427387904) (T : List AV) (H : AH) (hT : T.length = 220) (s0 : sl T 0 = sF b n c) (s2 : sl T 2 = i64 m) (s4 : sl T 4 = fO) (s14 : sl T 14 = i64 a) (s15 : sl T 15 = i64 m)
    (hs : Sat ρ H (Cel b (flat encF (p ++ (x ++ e0 :: q)) ++ jk) :: Rs)) (K : Ex → List AV → AH → Prop)
    (hk : ∀ T' H' r, T'.length = 220 → sl T' 0 = sF b n c → sl T' 2 = i64 m → sl T' 14 = i64 (a + r : Nat) → r ≤ x.length → (∀ z, (x.take r).getLast? = some z → ltF e0 z = false) → (∀ z, (x.drop r).head? = some z → ltF e0 z = true) → Sat ρ H' (Cel b (flat encF (p ++ (x ++ e0 :: q)) ++ jk) :: Rs) → K (.out 4) T' H') :
    loopP tab noExt R.slices_symMergeCmpFunc_cyc_Fired_l4 T H K := by
  simp only [List.length_append, List.length_cons] at hn
  refine loopP_invK (I := fun k T H' => T.length = 220 ∧ sl T 0 = sF b n c ∧ sl T 2 = i64 m ∧ sl T 4 = fO ∧ ∃ I J : Nat, sl T 14 = i64 (a + I : Nat) ∧ sl T 15 = i64 (a + J : Nat) ∧ I ≤ J ∧ J ≤ x.length ∧ k = J - I ∧ (∀ z, (x.take I).getLast? = some z → ltF e0 z = false) ∧ (∀ z, (x.drop J).head? = some z → ltF e0 z = true) ∧ Sat ρ H' (Cel b (flat encF (p ++ (x ++ e0 :: q)) ++ jk) :: Rs)) ?_ x.length _ _ ⟨hT, s0, s2, s4, 0, x.length, s14, by rw [s15, hm], Nat.zero_le _, Nat.le_refl _, rfl, by simp, by simp, hs⟩
  rintro k T H' ⟨hT, s0, s2, s4, I, J, s14, s15, hIJ, hJ, hk', h1, h2, hs⟩ K' kn kr ko
  rw [slices_symMergeCmpFunc_cyc_Fired_l4_at hT]
  by_cases hlt : I < J
  · have hlt' : ((a + I : Nat) : Int) < (a + J : Nat) := by omega
    have w1 := wrapP (a + I) (a + J) (by omega)
    have w2 := wrapU64N (a + I + (a + J)) (by omega)
    have w3 := shr1 (a + I + (a + J)) (by omega)
    have w4 := wrapN ((a + I + (a + J)) / 2) (by omega)
    have hh : (a + I + (a + J)) / 2 = a + (I + J) / 2 := by omega
    rw [hh] at w3 w4
    have e0' : (p ++ (x ++ e0 :: q))[m]? = some e0 := by rw [← List.append_assoc]; exact at_one (p ++ x) q e0 m (by simp; omega)
    have g1 := rdEl encF_len hs.cel e0'
    have hM : (I + J) / 2 < x.length := by omega
    obtain ⟨z, hz⟩ : ∃ z, x[(I + J) / 2]? = some z := ⟨_, List.getElem?_eq_getElem hM⟩
    have e1 : (p ++ (x ++ e0 :: q))[a + (I + J) / 2]? = some z := by
      rw [at_mid p x (e0 :: q) ((I + J) / 2) _ (by omega) hM]
      exact hz
    have g2 := rdEl encF_len hs.cel e1
    have i1 : m < n := by omega
    have i2 : a + (I + J) / 2 < n := by omega
    have hq1 : I ≤ (I + J) / 2 := by omega
    have hq2 : (I + J) / 2 < J := by omega
    generalize hM' : (I + J) / 2 = M at *
    have w5 := wrapP1 (a + M) (by omega)
    generalize hS : a + I + (a + J) = S at *
    obtain ⟨h, hMh⟩ : ∃ h, h = a + M := ⟨_, rfl⟩
    rw [← hMh] at w3 w4 g2 i2 w5
    simp only [s0, s2, s4, s14, s15, andThen_some, binA_lss, condP_bool]
    rw [decide_eq_true hlt']
    simp only [if_true, andThen_some, binA_add, w1, convA_int, w2, w3, w4]
    simp [i1, i2, g1, g2]
    refine (order_tri e0 z).use (R := _) (((hs.bump 3).bump 7).bump 12) ?_
    rintro v H2 P' ⟨rfl, rfl⟩ hs2
    have ho := ordI_neg e0 z
    have hs2 : Sat ρ H2 (Cel b (flat encF (p ++ (x ++ e0 :: q)) ++ jk) :: Rs) := hs2
    cases hl : ltF e0 z
    · rw [hl] at ho
      simp [ho, w5]
      refine kn (J - (M + 1)) _ _ (by omega) ⟨rfl, rfl, rfl, rfl, M + 1, J, by show AV.s (.int .i64 _) = AV.s (.int .i64 _); congr 2; omega, rfl, hq2, hJ, rfl, ?_, h2, hs2.bump _⟩
      intro w hw
      rw [List.take_add_one, hz] at hw
      simp at hw
      cases hw; exact hl
    · rw [hl] at ho
      simp [ho]
      refine kn (M - I) _ _ (by omega) ⟨rfl, rfl, rfl, rfl, I, M, rfl, by show i64 _ = i64 _; rw [hMh], hq1, by omega, rfl, h1, ?_, hs2.bump _⟩
      intro w hw
      rw [List.head?_drop, hz] at hw
      cases hw; exact hl
  · have hlt' : ¬ ((a + I : Nat) : Int) < (a + J : Nat) := by omega
    have hIJ' : I = J := by omega
    subst hIJ'
    simp only [s0, s2, s4, s14, s15, andThen_some, binA_lss, condP_bool]
    rw [decide_eq_false hlt']
    simp only [Bool.false_eq_true, if_false]
    exact ko _ _ _ (hk _ _ I rfl rfl rfl rfl hJ h1 h2 (hs.bump _))

/-- One moved ahead over others. -/
theorem sm_l5 (p : List Fir) (e0 : Fir) (x q : List Fir) (a m r : Nat) (ha : a = p.length) (hm : m = a + x.length) (hr : r ≤ x.length) (hn : n = (p ++ (x ++ e0 :: q)).length) (hc : n < 4611686018427387904) (T : List AV) (H : AH) (hT : T.length = 220) (s0 : sl T 0 = sF b n c) (s17 : sl T 17 = i64 m) (s14 : sl T 14 = i64 (a + r : Nat))
    (hs : Sat ρ H (Cel b (flat encF (p ++ (x ++ e0 :: q)) ++ jk) :: Rs)) (K : Ex → List AV → AH → Prop)
    (hk : ∀ T' H', T'.length = 220 → Sat ρ H' (Cel b (flat encF (p ++ ((x.take r ++ e0 :: x.drop r) ++ q)) ++ jk) :: Rs) → K (.out 6) T' H') :
    loopP tab noExt R.slices_symMergeCmpFunc_cyc_Fired_l5 T H K := by
  simp only [List.length_append, List.length_cons] at hn
  refine loopP_invK (I := fun k T H' => T.length = 220 ∧ sl T 0 = sF b n c ∧ sl T 14 = i64 (a + r : Nat) ∧ ∃ d : Nat, sl T 17 = i64 (a + d : Nat) ∧ d ≤ x.length ∧ r ≤ d ∧ k = d - r ∧ Sat ρ H' (Cel b (flat encF (p ++ ((x.take d ++ e0 :: x.drop d) ++ q)) ++ jk) :: Rs)) ?_ (x.length - r) _ _ ⟨hT, s0, s14, x.length, by rw [s17, hm], Nat.le_refl _, hr, rfl, by simpa using hs⟩
  rintro k T H' ⟨hT, s0, s14, d, s17, hd, hrd, hk', hs⟩ K' kn kr ko
  rw [slices_symMergeCmpFunc_cyc_Fired_l5_at hT]
  by_cases hlt : r < d
  · have hlt' : ((a + d : Nat) : Int) > (a + r : Nat) := by omega
    obtain ⟨d, rfl⟩ : ∃ d', d = d' + 1 := ⟨d - 1, by omega⟩
    have hy : d < x.length := by omega
    rw [List.take_add_one, List.getElem?_eq_getElem hy] at hs
    have e1 : p ++ (((x.take d ++ (some x[d]).toList) ++ e0 :: x.drop (d + 1)) ++ q) = (p ++ x.take d) ++ x[d] :: ([] ++ e0 :: (x.drop (d + 1) ++ q)) := by simp only [Option.toList_some, List.append_assoc, List.cons_append, List.nil_append]
    rw [e1] at hs
    obtain ⟨g1, g2, H1, H2, g3, g4, hs2⟩ := ((hs.bump 3).bump 18).ws encF_len (i := a + d) (m := a + (d + 1)) (by simp; omega) (by simp; omega)
    have g1 : H'.ldn b ((a + d) * 3) 3 = some (encF x[d]) := g1
    have g2 : H'.ldn b ((a + (d + 1)) * 3) 3 = some (encF e0) := g2
    have w1 := wrapM1 (a + (d + 1)) (by omega) (by omega)
    have w1' : a + (d + 1) - 1 = a + d := by omega
    rw [w1'] at w1
    have i1 : a + d < n := by omega
    have i2 : a + (d + 1) < n := by omega
    have e2 : (p ++ x.take d) ++ e0 :: ([] ++ x[d] :: (x.drop (d + 1) ++ q)) = p ++ ((x.take d ++ e0 :: x.drop d) ++ q) := by
      rw [List.drop_eq_getElem_cons hy]; simp only [List.append_assoc, List.cons_append, List.nil_append]
    rw [e2] at hs2
    have hkn := kn (d - r)
    generalize hp1 : a + d = p1 at *
    generalize hp2 : a + (d + 1) = p2 at *
    simp only [s0, s14, s17, andThen_some, binA_gtr, condP_bool]
    rw [decide_eq_true hlt']
    simp only [if_true, andThen_some, binA_sub, w1]
    simp [i1, i2, g1, g2, encF_len, w1]
    refine ⟨_, g3, _, g4, hkn _ _ (by omega) ⟨rfl, rfl, rfl, d, by show i64 _ = i64 _; rw [hp1], by omega, by omega, rfl, hs2.bump _⟩⟩
  · have hlt' : ¬ ((a + d : Nat) : Int) > (a + r : Nat) := by omega
    have hdr : d = r := by omega
    subst hdr
    simp only [s0, s14, s17, andThen_some, binA_gtr, condP_bool]
    rw [decide_eq_false hlt']
    simp only [Bool.false_eq_true, if_false]
    exact ko _ _ _ (hk _ _ rfl (hs.bump _))
end

end Go.AM

/-
  What is fired: two sorted parts merged in place: the whole.
-/
set_option maxRecDepth 20000
namespace Go.AM
attribute [local simp] Nat.add_assoc resA callvP

section
variable {ρ : HF} (b c n : Nat) (jk : List SV) (Rs : List Asr)

/-- Where two sorted parts are cut. -/
theorem sm_l8 (D : List Fir) (hn : n = D.length) (hc : n < 4611686018427387904) (f0 r0 P : Nat) (hb : ∀ k, f0 ≤ k → k < r0 → k < n ∧ k ≤ P ∧ P - k < n) (hsr : f0 ≤ r0) (hr : r0 < 4611686018427387904) (hP : P < 9223372036854775808) (T : List AV) (H : AH) (hT : T.length = 220) (A1 A2 A3 A18 A19 : AV) (s0 : sl T 0 = sF b n c) (s1 : sl T 1 = A1) (s2 : sl T 2 = A2) (s3 : sl T 3 = A3) (s4 : sl T 4 = fO) (s18 : sl T 18 = A18) (s19 : sl T 19 = A19) (s20 : sl T 20 = i64 f0) (s21 : sl T 21 = i64 r0) (s22 : sl T 22 = i64 P)
    (hs : Sat ρ H (Cel b (flat encF D ++ jk) :: Rs)) (K : Ex → List AV → AH → Prop)
    (hk : ∀ T' H' st, T'.length = 220 → sl T' 0 = sF b n c → sl T' 1 = A1 → sl T' 2 = A2 → sl T' 3 = A3 → sl T' 4 = fO → sl T' 18 = A18 → sl T' 19 = A19 → sl T' 20 = i64 (st : Nat) → f0 ≤ st → st ≤ r0 → (st = f0 ∨ ∃ u w, D[st - 1]? = some u ∧ D[P - (st - 1)]? = some w ∧ ltF w u = false) → (st = r0 ∨ ∃ u w, D[st]? = some u ∧ D[P - st]? = some w ∧ ltF w u = true) → Sat ρ H' (Cel b (flat encF D ++ jk) :: Rs) → K (.out 8) T' H') :
    loopP tab noExt R.slices_symMergeCmpFunc_cyc_Fired_l8 T H K := by
  refine loopP_invK (I := fun k T H' => T.length = 220 ∧ sl T 0 = sF b n c ∧ sl T 1 = A1 ∧ sl T 2 = A2 ∧ sl T 3 = A3 ∧ sl T 4 = fO ∧ sl T 18 = A18 ∧ sl T 19 = A19 ∧ sl T 22 = i64 P ∧ ∃ I J : Nat, sl T 20 = i64 I ∧ sl T 21 = i64 J ∧ f0 ≤ I ∧ I ≤ J ∧ J ≤ r0 ∧ k = J - I ∧ (I = f0 ∨ ∃ u w, D[I - 1]? = some u ∧ D[P - (I - 1)]? = some w ∧ ltF w u = false) ∧ (J = r0 ∨ ∃ u w, D[J]? = some u ∧ D[P - J]? = some w ∧ ltF w u = true) ∧ Sat ρ H' (Cel b (flat encF D ++ jk) :: Rs)) ?_ (r0 - f0) _ _ ⟨hT, s0, s1, s2, s3, s4, s18, s19, s22, f0, r0, s20, s21, Nat.le_refl _, hsr, Nat.le_refl _, rfl, .inl rfl, .inl rfl, hs⟩
  rintro k T H' ⟨hT, s0, s1, s2, s3, s4, s18, s19, s22, I, J, s20, s21, hI, hIJ, hJ, hk', h1, h2, hs⟩ K' kn kr ko
  rw [slices_symMergeCmpFunc_cyc_Fired_l8_at hT]
  by_cases hlt : I < J
  · have hlt' : (I : Int) < (J : Int) := by omega
    have w1 := wrapP I J (by omega)
    have w2 := wrapU64N (I + J) (by omega)
    have w3 := shr1 (I + J) (by omega)
    have w4 := wrapN ((I + J) / 2) (by omega)
    have hq1 : I ≤ (I + J) / 2 := by omega
    have hq2 : (I + J) / 2 < J := by omega
    generalize hM' : (I + J) / 2 = M at *
    obtain ⟨i1, i2, i3⟩ := hb M (by omega) (by omega)
    obtain ⟨u, hu⟩ : ∃ u, D[M]? = some u := ⟨_, List.getElem?_eq_getElem (by omega)⟩
    obtain ⟨w, hw⟩ : ∃ w, D[P - M]? = some w := ⟨_, List.getElem?_eq_getElem (by omega)⟩
    have g1 := rdEl encF_len hs.cel hu
    have g2 := rdEl encF_len hs.cel hw
    have w5 := wrapP1 M (by omega)
    have w6 := wrapM P M (by omega) i2
    generalize hS : I + J = S at *
    obtain ⟨Q, hQ⟩ : ∃ Q, Q = P - M := ⟨_, rfl⟩
    rw [← hQ] at w6 g2 i3
    simp only [s0, s1, s2, s3, s4, s18, s19, s20, s21, s22, andThen_some, binA_lss, condP_bool]
    rw [decide_eq_true hlt']
    simp only [if_true, andThen_some, binA_add, w1, convA_int, w2, w3, w4, binA_sub, w6]
    simp [i1, i3, g1, g2]
    refine (order_tri w u).use (R := _) (((hs.bump 3).bump 7).bump 14) ?_
    rintro v H2 P' ⟨rfl, rfl⟩ hs2
    have ho := ordI_neg w u
    have hs2 : Sat ρ H2 (Cel b (flat encF D ++ jk) :: Rs) := hs2
    cases hl : ltF w u
    · rw [hl] at ho
      simp [ho, w5]
      refine kn (J - (M + 1)) _ _ (by omega) ⟨rfl, rfl, rfl, rfl, rfl, rfl, rfl, rfl, rfl, M + 1, J, rfl, rfl, by omega, hq2, hJ, rfl, .inr ⟨u, w, by simpa using hu, by simpa using hw, hl⟩, h2, hs2.bump _⟩
    · rw [hl] at ho
      simp [ho]
      exact kn (M - I) _ _ (by omega) ⟨rfl, rfl, rfl, rfl, rfl, rfl, rfl, rfl, rfl, I, M, rfl, rfl, hI, hq1, by omega, rfl, h1, .inr ⟨u, w, hu, hw, hl⟩, hs2.bump _⟩
  · have hIJ' : I = J := by omega
    subst hIJ'
    simp only [s0, s1, s2, s3, s4, s18, s19, s20, s21, s22, andThen_some, binA_lss, condP_bool]
    rw [decide_eq_false (by omega)]
    simp only [Bool.false_eq_true, if_false]
    exact ko _ _ _ (hk _ _ I rfl rfl rfl rfl rfl rfl rfl rfl rfl hI hJ h1 h2 (hs.bump _))

/-- Two sorted parts of fewer than so many are merged. -/
def SmIH (N : Nat) : Prop := ∀ (p x y q : List Fir) (a m e : Nat), x.length + y.length < N → 0 < x.length → 0 < y.length → a = p.length → m = a + x.length → e = m + y.length → n = (p ++ (x ++ (y ++ q))).length → SrtL ltF x → SrtL ltF y →
  Tri tab noExt F.slices_symMergeCmpFunc_cyc_Fired [sF b n c, i64 a, i64 m, i64 e, fO] [Cel b (flat encF (p ++ (x ++ (y ++ q))) ++ jk)] fun v P' => v = unit ∧ ∃ z, SrtL ltF z ∧ z.Perm (x ++ y) ∧ P' = [Cel b (flat encF (p ++ (z ++ q)) ++ jk)]

theorem sm_s9 (N : Nat) (ih : SmIH b c n jk N) (p x y q : List Fir) (a m e : Nat) (ha : a = p.length) (hm : m = a + x.length) (he : e = m + y.length) (hn : n = (p ++ (x ++ (y ++ q))).length) (hN : x.length + y.length < N) (hx : SrtL ltF x) (hy : SrtL ltF y) (T : List AV) (H : AH) (hT : T.length = 220) (s0 : sl T 0 = sF b n c) (s3 : sl T 3 = i64 e) (s4 : sl T 4 = fO) (s18 : sl T 18 = i64 a) (s24 : sl T 24 = i64 m)
    (hs : Sat ρ H (Cel b (flat encF (p ++ (x ++ (y ++ q))) ++ jk) :: Rs)) (K : Ex → List AV → AH → Prop)
    (hk : ∀ T' H' z, SrtL ltF z → z.Perm (x ++ y) → Sat ρ H' (Cel b (flat encF (p ++ (z ++ q)) ++ jk) :: Rs) → K .norm T' H') :
    wpC tab noExt R.slices_symMergeCmpFunc_cyc_Fired_s9 T H K := by
  rw [slices_symMergeCmpFunc_cyc_Fired_s9_at hT]
  by_cases h1 : a < m
  · have h1' : (a : Int) < m := by omega
    by_cases h2 : m < e
    · have h2' : (m : Int) < e := by omega
      simp only [s0, s3, s4, s18, s24, andThen_some, binA_lss]
      rw [decide_eq_true h1']
      simp [h2]
      refine (ih p x y q a m e hN (by omega) (by omega) ha hm he hn hx hy).use ((hs.bump _).bump _) ?_
      rintro v H2 P' ⟨rfl, z, hz, hzp, rfl⟩ hs2
      try simp
      exact hk _ _ z hz hzp hs2
    · have hyn : y = [] := List.length_eq_zero_iff.1 (by omega)
      subst hyn
      simp only [s0, s3, s4, s18, s24, andThen_some, binA_lss]
      rw [decide_eq_true h1']
      simp [h2]
      exact hk _ _ x hx (by simp) (hs.bump _)
  · have hxn : x = [] := List.length_eq_zero_iff.1 (by omega)
    subst hxn
    have h1' : ¬ (a : Int) < m := by omega
    simp only [s0, s3, s4, s18, s24, andThen_some, binA_lss]
    rw [decide_eq_false h1']
    simp
    exact hk _ _ y hy (by simp) (hs.bump _)

theorem sm_s10 (N : Nat) (ih : SmIH b c n jk N) (p x1 y1 x2 y2 q : List Fir) (a st mid en e : Nat) (ha : a = p.length) (hst : st = a + x1.length) (hmid : mid = st + y1.length) (hen : en = mid + x2.length) (he : e = en + y2.length) (hn : n = (p ++ (x1 ++ (y1 ++ (x2 ++ (y2 ++ q))))).length) (hN1 : x1.length + y1.length < N) (hN2 : x2.length + y2.length < N)
    (hx1 : SrtL ltF x1) (hy1 : SrtL ltF y1) (hx2 : SrtL ltF x2) (hy2 : SrtL ltF y2) (T : List AV) (H : AH) (hT : T.length = 220) (s0 : sl T 0 = sF b n c) (s1 : sl T 1 = i64 a) (s3 : sl T 3 = i64 e) (s4 : sl T 4 = fO) (s18 : sl T 18 = i64 mid) (s20 : sl T 20 = i64 st) (s24 : sl T 24 = i64 en)
    (hs : Sat ρ H (Cel b (flat encF (p ++ (x1 ++ (y1 ++ (x2 ++ (y2 ++ q))))) ++ jk) :: Rs)) (K : Ex → List AV → AH → Prop)
    (hk : ∀ T' H' z1 z2, SrtL ltF z1 → SrtL ltF z2 → z1.Perm (x1 ++ y1) → z2.Perm (x2 ++ y2) → Sat ρ H' (Cel b (flat encF (p ++ ((z1 ++ z2) ++ q)) ++ jk) :: Rs) → K .norm T' H') :
    wpC tab noExt R.slices_symMergeCmpFunc_cyc_Fired_s10 T H K := by
  have hl : n = p.length + (x1.length + (y1.length + (x2.length + (y2.length + q.length)))) := by rw [hn]; simp only [List.length_append]
  have fin : ∀ (z1 : List Fir) (T' : List AV) (H' : AH), SrtL ltF z1 → z1.Perm (x1 ++ y1) → T'.length = 220 → sl T' 0 = sF b n c → sl T' 3 = i64 e → sl T' 4 = fO → sl T' 18 = i64 mid → sl T' 24 = i64 en → Sat ρ H' (Cel b (flat encF (p ++ (z1 ++ (x2 ++ (y2 ++ q)))) ++ jk) :: Rs) → wpC tab noExt R.slices_symMergeCmpFunc_cyc_Fired_s9 T' H' K := by
    intro z1 T' H' hz hzp hT' t0 t3 t4 t18 t24 hs'
    have hzl := hzp.length_eq
    rw [List.length_append] at hzl
    rw [← List.append_assoc p z1] at hs'
    refine sm_s9 b c n jk Rs N ih (p ++ z1) x2 y2 q mid en e (by simp; omega) (by omega) (by omega) (by simp; omega) hN2 hx2 hy2 T' H' hT' t0 t3 t4 t18 t24 hs' K ?_
    intro T2 H2 z2 hz2 hzp2 hs2
    refine hk T2 H2 z1 z2 hz hz2 hzp hzp2 ?_
    have e2 : (p ++ z1) ++ (z2 ++ q) = p ++ ((z1 ++ z2) ++ q) := by simp only [List.append_assoc]
    rw [e2] at hs2
    exact hs2
  rw [slices_symMergeCmpFunc_cyc_Fired_s10_at hT]
  by_cases h1 : a < st
  · have h1' : (a : Int) < st := by omega
    by_cases h2 : st < mid
    · have h2' : (st : Int) < mid := by omega
      simp only [s0, s1, s3, s4, s18, s20, s24, andThen_some, binA_lss]
      rw [decide_eq_true h1']
      simp [h2]
      refine (ih p x1 y1 (x2 ++ (y2 ++ q)) a st mid hN1 (by omega) (by omega) ha hst hmid hn hx1 hy1).use ((hs.bump _).bump _) ?_
      rintro v H2 P' ⟨rfl, z, hz, hzp, rfl⟩ hs2
      exact fin z _ _ hz hzp rfl rfl rfl rfl rfl rfl hs2
    · have hyn : y1 = [] := List.length_eq_zero_iff.1 (by omega)
      subst hyn
      simp only [s0, s1, s3, s4, s18, s20, s24, andThen_some, binA_lss]
      rw [decide_eq_true h1']
      simp [h2]
      exact fin x1 _ _ hx1 (by simp) rfl rfl rfl rfl rfl rfl (hs.bump _)
  · have hxn : x1 = [] := List.length_eq_zero_iff.1 (by omega)
    subst hxn
    have h1' : ¬ (a : Int) < st := by omega
    simp only [s0, s1, s3, s4, s18, s20, s24, andThen_some, binA_lss]
    rw [decide_eq_false h1']
    simp
    exact fin y1 _ _ hy1 (by simp) rfl rfl rfl rfl rfl rfl (hs.bump _)

theorem sm_s11 (N : Nat) (ih : SmIH b c n jk N) (p x1 x2 y1 y2 q : List Fir) (a m st mid en nn e : Nat) (ha : a = p.length) (hst : st = a + x1.length) (hm : m = st + x2.length) (hen : en = m + y1.length) (he : e = en + y2.length) (hmid : mid = st + y1.length) (hnn : nn = en + st) (hn : n = (p ++ (x1 ++ (x2 ++ (y1 ++ (y2 ++ q))))).length) (hc : n < 4611686018427387904) (hN1 : x1.length + y1.length < N) (hN2 : x2.length + y2.length < N)
    (hx1 : SrtL ltF x1) (hy1 : SrtL ltF y1) (hx2 : SrtL ltF x2) (hy2 : SrtL ltF y2) (T : List AV) (H : AH) (hT : T.length = 220) (s0 : sl T 0 = sF b n c) (s1 : sl T 1 = i64 a) (s2 : sl T 2 = i64 m) (s3 : sl T 3 = i64 e) (s4 : sl T 4 = fO) (s18 : sl T 18 = i64 mid) (s19 : sl T 19 = i64 nn) (s20 : sl T 20 = i64 st)
    (hs : Sat ρ H (Cel b (flat encF (p ++ (x1 ++ (x2 ++ (y1 ++ (y2 ++ q))))) ++ jk) :: Rs)) (K : Ex → List AV → AH → Prop)
    (hk : ∀ T' H' z1 z2, SrtL ltF z1 → SrtL ltF z2 → z1.Perm (x1 ++ y1) → z2.Perm (x2 ++ y2) → Sat ρ H' (Cel b (flat encF (p ++ ((z1 ++ z2) ++ q)) ++ jk) :: Rs) → K .norm T' H') :
    wpC tab noExt R.slices_symMergeCmpFunc_cyc_Fired_s11 T H K := by
  have hl : n = p.length + (x1.length + (x2.length + (y1.length + (y2.length + q.length)))) := by rw [hn]; simp only [List.length_append]
  have fin : ∀ (T' : List AV) (H' : AH), T'.length = 220 → sl T' 0 = sF b n c → sl T' 1 = i64 a → sl T' 3 = i64 e → sl T' 4 = fO → sl T' 18 = i64 mid → sl T' 20 = i64 st → sl T' 24 = i64 en → Sat ρ H' (Cel b (flat encF (p ++ (x1 ++ (y1 ++ (x2 ++ (y2 ++ q))))) ++ jk) :: Rs) → wpC tab noExt R.slices_symMergeCmpFunc_cyc_Fired_s10 T' H' K := by
    intro T' H' hT' t0 t1 t3 t4 t18 t20 t24 hs'
    exact sm_s10 b c n jk Rs N ih p x1 y1 x2 y2 q a st mid en e ha hst hmid (by omega) he (by simp; omega) hN1 hN2 hx1 hy1 hx2 hy2 T' H' hT' t0 t1 t3 t4 t18 t20 t24 hs' K hk
  rw [slices_symMergeCmpFunc_cyc_Fired_s11_at hT]
  have w1 := wrapM nn st (by omega) (by omega)
  have w1' : nn - st = en := by omega
  rw [w1'] at w1
  by_cases h1 : st < m
  · have h1' : (st : Int) < m := by omega
    by_cases h2 : m < en
    · simp only [s0, s1, s2, s3, s4, s18, s19, s20, andThen_some, binA_sub, w1, binA_lss]
      rw [decide_eq_true h1']
      simp [h2]
      rw [← List.append_assoc p x1] at hs
      refine (rotate_tri b c jk fO (p ++ x1) x2 y1 (y2 ++ q) n st m en (by simp; omega) (by simp; omega) (by omega) (by omega) (by omega) (by omega) hc).use (((hs.bump _).bump _).bump _) ?_
      rintro v H2 P' ⟨rfl, rfl⟩ hs2
      rw [List.append_assoc p x1] at hs2
      exact fin _ _ rfl rfl rfl rfl rfl rfl rfl rfl hs2
    · have hyn : y1 = [] := List.length_eq_zero_iff.1 (by omega)
      subst hyn
      simp only [s0, s1, s2, s3, s4, s18, s19, s20, andThen_some, binA_sub, w1, binA_lss]
      rw [decide_eq_true h1']
      simp [h2]
      exact fin _ _ rfl rfl rfl rfl rfl rfl rfl rfl ((hs.bump _).bump _)
  · have hxn : x2 = [] := List.length_eq_zero_iff.1 (by omega)
    subst hxn
    have h1' : ¬ (st : Int) < m := by omega
    simp only [s0, s1, s2, s3, s4, s18, s19, s20, andThen_some, binA_sub, w1, binA_lss]
    rw [decide_eq_false h1']
    simp
    exact fin _ _ rfl rfl rfl rfl rfl rfl rfl rfl ((hs.bump _).bump _)

theorem sm_s12 (N : Nat) (ih : SmIH b c n jk N) (p x y q : List Fir) (a m e mid nn f0 r0 : Nat) (ha : a = p.length) (hm : m = a + x.length) (he : e = m + y.length) (hmid : mid = (a + e) / 2) (hnn : nn = mid + m) (hn : n = (p ++ (x ++ (y ++ q))).length) (hc : n < 4611686018427387904) (hN : x.length + y.length ≤ N) (h2x : 2 ≤ x.length) (h2y : 2 ≤ y.length) (hf : (mid < m ∧ f0 = nn - e ∧ r0 = mid) ∨ (m ≤ mid ∧ f0 = a ∧ r0 = m)) (hx : SrtL ltF x) (hy : SrtL ltF y)
    (T : List AV) (H : AH) (hT : T.length = 220) (s0 : sl T 0 = sF b n c) (s1 : sl T 1 = i64 a) (s2 : sl T 2 = i64 m) (s3 : sl T 3 = i64 e) (s4 : sl T 4 = fO) (s18 : sl T 18 = i64 mid) (s19 : sl T 19 = i64 nn) (s20 : sl T 20 = i64 f0) (s21 : sl T 21 = i64 r0)
    (hs : Sat ρ H (Cel b (flat encF (p ++ (x ++ (y ++ q))) ++ jk) :: Rs)) (K : Ex → List AV → AH → Prop)
    (hk : ∀ T' H' z, SrtL ltF z → z.Perm (x ++ y) → Sat ρ H' (Cel b (flat encF (p ++ (z ++ q)) ++ jk) :: Rs) → K .norm T' H') :
    wpC tab noExt R.slices_symMergeCmpFunc_cyc_Fired_s12 T H K := by
  have hl : n = p.length + (x.length + (y.length + q.length)) := by rw [hn]; simp only [List.length_append]
  rw [slices_symMergeCmpFunc_cyc_Fired_s12_at hT]
  have w1 := wrapM1 nn (by omega) (by omega)
  simp only [s0, s1, s2, s3, s4, s18, s19, s20, s21, andThen_some, binA_sub, w1]
  refine sm_l8 b c n jk Rs (p ++ (x ++ (y ++ q))) hn hc f0 r0 (nn - 1) ?_ (by omega) (by omega) (by omega) _ _ rfl (i64 a) (i64 m) (i64 e) (i64 mid) (i64 nn) rfl rfl rfl rfl rfl rfl rfl rfl rfl rfl (hs.bump _) _ ?_
  · intro k h1 h2
    omega
  intro T' H' st hT' t0 t1 t2 t3 t4 t18 t19 t20 hst hst2 c1 c2 hs2
  simp
  have hsa : a ≤ st := by omega
  have hsm : st ≤ m := by omega
  have hsd : st ≤ mid := by omega
  have hen : mid + m - st ≤ e := by omega
  have gx : ∀ i, i < x.length → (p ++ (x ++ (y ++ q)))[a + i]? = x[i]? := fun i hi => at_mid p x _ i _ (by omega) hi
  have gy : ∀ i, i < y.length → (p ++ (x ++ (y ++ q)))[m + i]? = y[i]? := fun i hi => by
    rw [← List.append_assoc]; exact at_mid (p ++ x) y q i _ (by simp; omega) hi
  have hxs : x = x.take (st - a) ++ x.drop (st - a) := (List.take_append_drop _ _).symm
  have hys : y = y.take (mid - st) ++ y.drop (mid - st) := (List.take_append_drop _ _).symm
  have j1 : ∀ u w, (x.take (st - a)).getLast? = some u → (y.drop (mid - st)).head? = some w → ltF w u = false := by
    intro u w hu hw
    have hp : 0 < st - a := by
      rcases Nat.eq_zero_or_pos (st - a) with h | h
      · rw [h] at hu; simp at hu
      · exact h
    rw [List.head?_drop] at hw
    have hwl : mid - st < y.length := (List.getElem?_eq_some_iff.1 hw).1
    rw [List.getLast?_eq_getElem?, List.length_take, Nat.min_eq_left (by omega), List.getElem?_take, if_pos (by omega)] at hu
    rcases c1 with h | ⟨u', w', hu', hw', hlt⟩
    · omega
    · have e1 : st - 1 = a + (st - a - 1) := by omega
      have e2 : nn - 1 - (st - 1) = m + (mid - st) := by omega
      rw [e2, gy _ hwl, hw] at hw'
      rw [e1, gx _ (by omega), hu] at hu'
      cases hu'; cases hw'; exact hlt
  have j2 : ∀ u w, (y.take (mid - st)).getLast? = some u → (x.drop (st - a)).head? = some w → ltF w u = false := by
    intro u w hu hw
    have hp : 0 < mid - st := by
      rcases Nat.eq_zero_or_pos (mid - st) with h | h
      · rw [h] at hu; simp at hu
      · exact h
    rw [List.head?_drop] at hw
    have hwl : st - a < x.length := (List.getElem?_eq_some_iff.1 hw).1
    rw [List.getLast?_eq_getElem?, List.length_take, Nat.min_eq_left (by omega), List.getElem?_take, if_pos (by omega)] at hu
    rcases c2 with h | ⟨u', w', hu', hw', hlt⟩
    · omega
    · have e1 : st = a + (st - a) := by omega
      have e2 : nn - 1 - st = m + (mid - st - 1) := by omega
      rw [e2, gy _ (by omega), hu] at hw'
      rw [e1, gx _ (by omega), hw] at hu'
      cases hu'; cases hw'
      exact lt_flip ltF_ord hlt
  have hx' := hx; have hy' := hy
  rw [hxs] at hx'; rw [hys] at hy'
  obtain ⟨hx1, hx2, _⟩ := srtL_append.1 hx'
  obtain ⟨hy1, hy2, _⟩ := srtL_append.1 hy'
  have e1 : p ++ (x ++ (y ++ q)) = p ++ (x.take (st - a) ++ (x.drop (st - a) ++ (y.take (mid - st) ++ (y.drop (mid - st) ++ q)))) := by
    conv => lhs; rw [hxs, hys]
    simp only [List.append_assoc]
  rw [e1] at hs2
  have l1 : (x.take (st - a)).length = st - a := by rw [List.length_take]; omega
  have l2 : (x.drop (st - a)).length = m - st := by rw [List.length_drop]; omega
  have l3 : (y.take (mid - st)).length = mid - st := by rw [List.length_take]; omega
  have l4 : (y.drop (mid - st)).length = e - (mid + m - st) := by rw [List.length_drop]; omega
  refine sm_s11 b c n jk Rs N ih p _ _ _ _ q a m st mid (mid + m - st) nn e ha (by omega) (by omega) (by omega) (by omega) (by omega) (by omega) (by rw [← e1]; exact hn) hc (by omega) (by omega) hx1 hy1 hx2 hy2 T' H' hT' t0 t1 t2 t3 t4 t18 t19 t20 hs2 K ?_
  intro T2 H2 z1 z2 hz1 hz2 hp1 hp2 hs3
  refine hk T2 H2 (z1 ++ z2) (srtL_four ltF_ord hx' hy' j1 j2 hp1 hp2 hz1 hz2) ?_ hs3
  have := four_perm hp1 hp2
  rwa [← hxs, ← hys] at this

theorem sm_s13 (N : Nat) (ih : SmIH b c n jk N) (p x y q : List Fir) (a m e : Nat) (ha : a = p.length) (hm : m = a + x.length) (he : e = m + y.length) (hn : n = (p ++ (x ++ (y ++ q))).length) (hc : n < 4611686018427387904) (hN : x.length + y.length ≤ N) (h2x : 2 ≤ x.length) (h2y : 2 ≤ y.length) (hx : SrtL ltF x) (hy : SrtL ltF y)
    (T : List AV) (H : AH) (hT : T.length = 220) (s0 : sl T 0 = sF b n c) (s1 : sl T 1 = i64 a) (s2 : sl T 2 = i64 m) (s3 : sl T 3 = i64 e) (s4 : sl T 4 = fO)
    (hs : Sat ρ H (Cel b (flat encF (p ++ (x ++ (y ++ q))) ++ jk) :: Rs)) (K : Ex → List AV → AH → Prop)
    (hk : ∀ T' H' z, SrtL ltF z → z.Perm (x ++ y) → Sat ρ H' (Cel b (flat encF (p ++ (z ++ q)) ++ jk) :: Rs) → K .norm T' H') :
    wpC tab noExt R.slices_symMergeCmpFunc_cyc_Fired_s13 T H K := by
  have hl : n = p.length + (x.length + (y.length + q.length)) := by rw [hn]; simp only [List.length_append]
  rw [slices_symMergeCmpFunc_cyc_Fired_s13_at hT]
  have w1 := wrapP a e (by omega)
  have w2 := wrapU64N (a + e) (by omega)
  have w3 := shr1 (a + e) (by omega)
  have w4 := wrapN ((a + e) / 2) (by omega)
  generalize hmid : (a + e) / 2 = mid at *
  have w5 := wrapP mid m (by omega)
  generalize hnn : mid + m = nn at *
  generalize hae : a + e = ae at *
  simp only [s0, s1, s2, s3, s4, andThen_some, binA_add, w1, convA_int, w2, w3, w4, w5, binA_gtr, condP_bool]
  by_cases h : mid < m
  · rw [decide_eq_true (by omega)]
    have w6 := wrapM nn e (by omega) (by omega)
    simp only [if_true, binA_sub, w6, andThen_some]
    exact sm_s12 b c n jk Rs N ih p x y q a m e mid nn (nn - e) mid ha hm he (by omega) (by omega) hn hc hN h2x h2y (.inl ⟨h, rfl, rfl⟩) hx hy _ _ rfl rfl rfl rfl rfl rfl rfl rfl rfl rfl (by (repeat refine Sat.bump ?_ _); exact hs) K hk
  · rw [decide_eq_false (by omega)]
    simp only [Bool.false_eq_true, if_false]
    exact sm_s12 b c n jk Rs N ih p x y q a m e mid nn a m ha hm he (by omega) (by omega) hn hc hN h2x h2y (.inr ⟨by omega, rfl, rfl⟩) hx hy _ _ rfl rfl rfl rfl rfl rfl rfl rfl rfl rfl (by (repeat refine Sat.bump ?_ _); exact hs) K hk

theorem sm_s7 (p : List Fir) (e0 : Fir) (x q : List Fir) (a m r : Nat) (ha : a = p.length) (hm : m = a + x.length) (hr : r ≤ x.length) (hn : n = (p ++ (x ++ e0 :: q)).length) (hc : n < 4611686018427387904) (T : List AV) (H : AH) (hT : T.length = 220) (s0 : sl T 0 = sF b n c) (s2 : sl T 2 = i64 m) (s14 : sl T 14 = i64 (a + r : Nat))
    (hs : Sat ρ H (Cel b (flat encF (p ++ (x ++ e0 :: q)) ++ jk) :: Rs)) (K : Ex → List AV → AH → Prop)
    (hk : ∀ T' H', Sat ρ H' (Cel b (flat encF (p ++ ((x.take r ++ e0 :: x.drop r) ++ q)) ++ jk) :: Rs) → K .ret T' H') :
    wpC tab noExt R.slices_symMergeCmpFunc_cyc_Fired_s7 T H K := by
  rw [slices_symMergeCmpFunc_cyc_Fired_s7_at hT]
  simp only [s0, s2, s14]
  refine sm_l5 b c n jk Rs p e0 x q a m r ha hm hr hn hc _ _ rfl rfl rfl rfl (hs.bump _) _ ?_
  intro T' H' hT' hs2
  simp
  rw [slices_symMergeCmpFunc_cyc_Fired_s6_at hT']
  exact hk _ _ hs2

theorem sm_s3 (p : List Fir) (e0 : Fir) (y q : List Fir) (a m r : Nat) (ha : a = p.length) (hm : m = a + 1) (hr : r ≤ y.length) (hn : n = (p ++ ([e0] ++ (y ++ q))).length) (hc : n < 4611686018427387904) (T : List AV) (H : AH) (hT : T.length = 220) (s0 : sl T 0 = sF b n c) (s1 : sl T 1 = i64 a) (s10 : sl T 10 = i64 (m + r : Nat))
    (hs : Sat ρ H (Cel b (flat encF (p ++ ([e0] ++ (y ++ q))) ++ jk) :: Rs)) (K : Ex → List AV → AH → Prop)
    (hk : ∀ T' H', Sat ρ H' (Cel b (flat encF (p ++ ((y.take r ++ e0 :: y.drop r) ++ q)) ++ jk) :: Rs) → K .ret T' H') :
    wpC tab noExt R.slices_symMergeCmpFunc_cyc_Fired_s3 T H K := by
  rw [slices_symMergeCmpFunc_cyc_Fired_s3_at hT]
  simp only [s0, s1, s10]
  refine sm_l1 b c n jk Rs p e0 y q a m r ha hm hr hn hc _ _ rfl rfl rfl rfl (hs.bump _) _ ?_
  intro T' H' hT' hs2
  simp
  rw [slices_symMergeCmpFunc_cyc_Fired_s2_at hT']
  exact hk _ _ hs2

theorem sm_s14 (N : Nat) (ih : SmIH b c n jk N) (p x y q : List Fir) (a m e : Nat) (ha : a = p.length) (hm : m = a + x.length) (he : e = m + y.length) (hn : n = (p ++ (x ++ (y ++ q))).length) (hc : n < 4611686018427387904) (hN : x.length + y.length ≤ N) (h2x : 2 ≤ x.length) (hy1 : 0 < y.length) (hx : SrtL ltF x) (hy : SrtL ltF y)
    (T : List AV) (H : AH) (hT : T.length = 220) (s0 : sl T 0 = sF b n c) (s1 : sl T 1 = i64 a) (s2 : sl T 2 = i64 m) (s3 : sl T 3 = i64 e) (s4 : sl T 4 = fO)
    (hs : Sat ρ H (Cel b (flat encF (p ++ (x ++ (y ++ q))) ++ jk) :: Rs)) (K : Ex → List AV → AH → Prop)
    (hk : ∀ E T' H' z, (E = .norm ∨ E = .ret) → SrtL ltF z → z.Perm (x ++ y) → Sat ρ H' (Cel b (flat encF (p ++ (z ++ q)) ++ jk) :: Rs) → K E T' H') :
    wpC tab noExt R.slices_symMergeCmpFunc_cyc_Fired_s14 T H K := by
  have hl : n = p.length + (x.length + (y.length + q.length)) := by rw [hn]; simp only [List.length_append]
  rw [slices_symMergeCmpFunc_cyc_Fired_s14_at hT]
  have w1 := wrapM e m (by omega) (by omega)
  have w1' : e - m = y.length := by omega
  rw [w1'] at w1
  simp only [s0, s1, s2, s3, s4, andThen_some, binA_sub, w1, binA_eql, condP_bool]
  by_cases h : y.length = 1
  · rw [decide_eq_true (by omega)]
    obtain ⟨e0, rfl⟩ := List.length_eq_one_iff.1 h
    simp only [if_true]
    refine sm_l4 b c n jk Rs p e0 x q a m ha hm (by simpa using hn) hc _ _ rfl rfl rfl rfl rfl rfl (((hs.bump 4).bump 2).bump 2) _ ?_
    intro T' H' r hT' t0 t2 t14 hr c1 c2 hs2
    simp
    refine sm_s7 b c n jk Rs p e0 x q a m r ha hm hr (by simpa using hn) hc T' H' hT' t0 t2 t14 hs2 _ ?_
    intro T2 H2 hs3
    simp
    refine hk _ _ _ _ (.inr rfl) ?_ ?_ hs3
    · exact srtL_ins ltF_ord (by rw [List.take_append_drop]; exact hx) c1 fun z hz => lt_flip ltF_ord (c2 z hz)
    · refine List.Perm.trans List.perm_middle ?_
      rw [List.take_append_drop]
      exact (List.perm_append_singleton e0 x).symm
  · rw [decide_eq_false (by omega)]
    simp only [Bool.false_eq_true, if_false]
    exact sm_s13 b c n jk Rs N ih p x y q a m e ha hm he hn hc hN h2x (by omega) hx hy _ _ rfl rfl rfl rfl rfl rfl (hs.bump _) K fun T' H' z => hk _ T' H' z (.inl rfl)
end

theorem symMerge_all (b c n : Nat) (jk : List SV) (hc : n < 4611686018427387904) : ∀ N, SmIH b c n jk N
  | 0 => fun _ _ _ _ _ _ _ h => by omega
  | N + 1 => by
    intro p x y q a m e hN h1x h1y ha hm he hn hx hy
    have ih := symMerge_all b c n jk hc N
    refine Tri.intro fun ρ H Rs K hs hk => ?_
    have hl : n = p.length + (x.length + (y.length + q.length)) := by rw [hn]; simp only [List.length_append]
    apply slices_symMergeCmpFunc_cyc_Fired_call
    have w1 := wrapM m a (by omega) (by omega)
    have w1' : m - a = x.length := by omega
    rw [w1'] at w1
    simp only [andThen_some, binA_sub, w1, binA_eql, condP_bool]
    by_cases h : x.length = 1
    · rw [decide_eq_true (by omega)]
      obtain ⟨e0, rfl⟩ := List.length_eq_one_iff.1 h
      simp only [if_true]
      refine sm_l0 b c n jk Rs p e0 y q a m e ha hm he hn hc _ _ rfl rfl rfl rfl rfl rfl (((hs.bump 4).bump 2).bump 2) _ ?_
      intro T' H' r hT' t0 t1 t10 hr c1 c2 hs2
      simp
      refine sm_s3 b c n jk Rs p e0 y q a m r ha hm hr hn hc T' H' hT' t0 t1 t10 hs2 _ ?_
      intro T2 H2 hs3
      simp
      refine hk _ _ _ ⟨rfl, _, ?_, ?_, rfl⟩ hs3
      · exact srtL_ins ltF_ord (by rw [List.take_append_drop]; exact hy) (fun z hz => lt_flip ltF_ord (c1 z hz)) c2
      · refine List.Perm.trans List.perm_middle ?_
        rw [List.take_append_drop]
        exact List.Perm.refl _
    · rw [decide_eq_false (by omega)]
      simp only [Bool.false_eq_true, if_false]
      refine sm_s14 b c n jk Rs N ih p x y q a m e ha hm he hn hc (by omega) (by omega) h1y hx hy _ _ rfl rfl rfl rfl rfl rfl (hs.bump _) _ ?_
      intro E T' H' z hE hz hzp hs2
      rcases hE with rfl | rfl
      · simp
        exact hk _ _ _ ⟨rfl, z, hz, hzp, rfl⟩ hs2
      · simp
        exact hk _ _ _ ⟨rfl, z, hz, hzp, rfl⟩ hs2

theorem symMerge_tri (b c n : Nat) (jk : List SV) (p x y q : List Fir) (a m e : Nat) (h1x : 0 < x.length) (h1y : 0 < y.length) (ha : a = p.length) (hm : m = a + x.length) (he : e = m + y.length) (hn : n = (p ++ (x ++ (y ++ q))).length) (hc : n < 4611686018427387904) (hx : SrtL ltF x) (hy : SrtL ltF y) :
    Tri tab noExt F.slices_symMergeCmpFunc_cyc_Fired [sF b n c, i64 a, i64 m, i64 e, fO] [Cel b (flat encF (p ++ (x ++ (y ++ q))) ++ jk)] fun v P' => v = unit ∧ ∃ z, SrtL ltF z ∧ z.Perm (x ++ y) ∧ P' = [Cel b (flat encF (p ++ (z ++ q)) ++ jk)] :=
  symMerge_all b c n jk hc _ p x y q a m e (Nat.lt_succ_self _) h1x h1y ha hm he hn hx hy

end Go.AM
