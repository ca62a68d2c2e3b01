import Derived.Test.YtnkapponcbgbhaaDen
set_option linter.all false
set_option linter.unusedVariables false
namespace Go.Proofs.Ytnkapponcbgbhaa
open Go
def nFirst : List Int := []
def nMore : List Int := []
def gFirst : List PV := [.blob 8 (nFirst.map (.i .u32))]
def gMore : List PV := [.blob 64 (nMore.map (.i .u32))]
noncomputable def m3 : Body := fun Φ N as os =>
  let a0 := gS (zipN 0 as) 0
  let a1 := gS (zipN 0 as) 1
  let ob := zipN 0 os
  bndO (ca0 Φ ob 160 false 9 []) ob fun v1 ob =>
  bndO (ca0 Φ ob 176 true 10 [a0]) ob fun v2 ob =>
  bndO (ca0 Φ ob 192 true 11 [a1, (.i .i64 40)]) ob fun v3 ob =>
  bnd (uO .not v1) fun v4 =>
  bnd (gd v4 false (some v2)) fun v5 =>
  bnd (gd v4 false (uO .not v5)) fun v6 =>
  bnd (pk v4 (.b true) v6) fun v7 =>
  bnd (gd v7 false (some v3)) fun v8 =>
  bnd (gd v7 false (uO .not v8)) fun v9 =>
  bnd (pk v7 (.b true) v9) fun v10 =>
  br v10 (
 fin ob os.length [0] [v1]
  ) (
 bnd (bld [.e true, .e true, .i .i64 0, .i .i64 0] [(0, 1, a0)]) fun v11 =>
 bndO (al ob 128 [.e true, .e true, .i .i64 0, .i .i64 0]) ob fun v12 ob =>
 bndO (st ob 4 v12 v11) ob fun _ ob =>
 bnd (lN ob 4 v12) fun v13 =>
 bndO (ca0 Φ ob 320 true 13 [v13, a1]) ob fun v14 ob =>
 bnd (lN ob 4 v12) fun v15 =>
 bndO (ca0 Φ ob 344 true 14 [v15, a1]) ob fun v16 ob =>
 bndO (ca0 Φ ob 352 false 12 [v14, v16]) ob fun v17 ob =>
 bnd (lN ob 4 v12) fun v18 =>
 bndO (ca0 Φ ob 376 true 16 [v18, a1]) ob fun v19 ob =>
 bnd (lN ob 4 v12) fun v20 =>
 bndO (ca0 Φ ob 400 true 17 [v20, a1]) ob fun v21 ob =>
 bndO (ca0 Φ ob 408 true 15 [v19, v21]) ob fun v22 ob =>
 bndO (ca0 Φ ob 424 true 18 [a1]) ob fun v23 ob =>
 bnd (gd v17 true (some v22)) fun v24 =>
 bnd (pk v17 v24 (.b false)) fun v25 =>
 bnd (gd v25 true (some a1)) fun v26 =>
 bndO (gdO v25 true (ca0 Φ ob 480 true 19 [v26])) ob fun v27 ob =>
 bnd (gd v25 true (some v23)) fun v28 =>
 bnd (gd v25 true (biB .eql v27 v28)) fun v29 =>
 bnd (pk v25 v29 (.b false)) fun v30 =>
 fin ob os.length [0] [v30]
  )
def ann3 : Nat → Option Hd := fun _ => none
def lab3 : Nat → Option Hd := fun _ => none
noncomputable def m4 : Body := fun Φ N as os =>
  let a0 := gS (zipN 0 as) 0
  let a1 := gS (zipN 0 as) 1
  let a2 := gS (zipN 0 as) 2
  let ob := zipN 0 os
  bndO (ca0 Φ ob 184 false 9 []) ob fun v1 ob =>
  bndO (ca0 Φ ob 200 true 10 [a0]) ob fun v2 ob =>
  bndO (ca0 Φ ob 216 true 11 [a1, (.i .i64 40)]) ob fun v3 ob =>
  bnd (uO .not v1) fun v4 =>
  bnd (gd v4 false (some v2)) fun v5 =>
  bnd (gd v4 false (uO .not v5)) fun v6 =>
  bnd (pk v4 (.b true) v6) fun v7 =>
  bnd (gd v7 false (some v3)) fun v8 =>
  bnd (gd v7 false (uO .not v8)) fun v9 =>
  bnd (pk v7 (.b true) v9) fun v10 =>
  bnd (gd v10 false (some a2)) fun v11 =>
  bnd (gd v10 false (bi .lss v11 (.i .i64 0))) fun v12 =>
  bnd (pk v10 (.b true) v12) fun v13 =>
  bnd (gd v13 false (some a2)) fun v14 =>
  bnd (gd v13 false (some a1)) fun v15 =>
  bnd (gd v13 false (len v15)) fun v16 =>
  bnd (gd v13 false (bi .geq v14 v16)) fun v17 =>
  bnd (pk v13 (.b true) v17) fun v18 =>
  br v18 (
 fin ob os.length [0] [v1]
  ) (
 bnd (bld [.e true, .e true, .i .i64 0, .i .i64 0] [(0, 1, a0)]) fun v19 =>
 bndO (ca0 Φ ob 416 true 13 [v19, a1]) ob fun v20 ob =>
 bnd (len v20) fun v21 =>
 bnd (len a1) fun v22 =>
 bnd (bi .neq v21 v22) fun v23 =>
 br v23 (
  fin ob os.length [0] [(.b false)]
 ) (
  bnd (xS ob 5 a1 a2) fun v24 =>
  bnd (fA 1 v24) fun v25 =>
  bnd (l1 ob v25) fun v26 =>
  bndO (ca0 Φ ob 512 false 20 [v26]) ob fun v27 ob =>
  bnd (ext 0 v27) fun v28 =>
  bnd (ext 1 v27) fun v29 =>
  bndO (al ob 152 [.i .i64 0, .i .i64 0, .i .u64 0, .i .u64 0, .i .i64 0, .i .u64 0, .i .i64 0, .i .i64 0, .blob 32 (List.replicate 32 (.i .u8 0))]) ob fun v30 ob =>
  bndO (st ob 40 v30 v28) ob fun _ ob =>
  bnd (xS ob 5 a1 a2) fun v31 =>
  bnd (fA 0 v31) fun v32 =>
  bnd (l1 ob v32) fun v33 =>
  bnd (bi .eql v33 (.i .i64 0)) fun v34 =>
  bnd (gd v34 true (some v29)) fun v35 =>
  bnd (gd v34 true (bi .eql v35 (.i .i64 0))) fun v36 =>
  bnd (pk v34 v36 (.b false)) fun v37 =>
  bnd (gd v37 true (fA 0 v30)) fun v38 =>
  bnd (gd v37 true (l1 ob v38)) fun v39 =>
  bnd (gd v37 true (bi .eql v39 (.i .i64 0))) fun v40 =>
  bnd (pk v37 v40 (.b false)) fun v41 =>
  bnd (uO .not v37) fun v42 =>
  bnd (gd v42 true (some v20)) fun v43 =>
  bnd (gd v42 true (some a2)) fun v44 =>
  bnd (gd v42 true (xS ob 1 v43 v44)) fun v45 =>
  bnd (gd v42 true (l1 ob v45)) fun v46 =>
  bnd (gd v42 true (bi .neq v46 (.i .i64 0))) fun v47 =>
  bnd (pk v42 v47 (.b false)) fun v48 =>
  bnd (gd v48 false (some v20)) fun v49 =>
  bnd (gd v48 false (some a2)) fun v50 =>
  bnd (gd v48 false (xS ob 1 v49 v50)) fun v51 =>
  bnd (gd v48 false (l1 ob v51)) fun v52 =>
  bnd (gd v48 false (bi .neq v52 (.i .i64 0))) fun v53 =>
  bnd (gd v48 false (some v53)) fun v54 =>
  bnd (gd v54 true (some a0)) fun v55 =>
  bnd (gd v54 true (some v20)) fun v56 =>
  bnd (gd v54 true (some a2)) fun v57 =>
  bnd (gd v54 true (xS ob 1 v56 v57)) fun v58 =>
  bnd (gd v54 true (l1 ob v58)) fun v59 =>
  bndO (gdO v54 true (ca0 Φ ob 832 true 21 [v55, v59])) ob fun v60 ob =>
  bnd (gd v54 true (bi .lss v60 (.i .i64 0))) fun v61 =>
  bnd (gd v48 false (pk v54 v61 (.b false))) fun v62 =>
  bnd (pk v48 (.b true) v62) fun v63 =>
  br v63 (
   fin ob os.length [0] [(.b false)]
  ) (
   bnd (uO .not v41) fun v64 =>
   bnd (gd v64 false (some a0)) fun v65 =>
   bnd (gd v64 false (fA 1 v30)) fun v66 =>
   bnd (gd v64 false (l1 ob v66)) fun v67 =>
   bndO (gdO v64 false (ca0 Φ ob 912 true 21 [v65, v67])) ob fun v68 ob =>
   bnd (gd v64 false (bi .geq v68 (.i .i64 0))) fun v69 =>
   bnd (gd v64 false (some v69)) fun v70 =>
   bnd (gd v70 true (some v20)) fun v71 =>
   bnd (gd v70 true (some a2)) fun v72 =>
   bnd (gd v70 true (xS ob 1 v71 v72)) fun v73 =>
   bnd (gd v70 true (l1 ob v73)) fun v74 =>
   bnd (gd v70 true (fA 1 v30)) fun v75 =>
   bnd (gd v70 true (l1 ob v75)) fun v76 =>
   bnd (gd v70 true (bi .eql v74 v76)) fun v77 =>
   bnd (gd v64 false (pk v70 v77 (.b false))) fun v78 =>
   bnd (gd v64 false (some v78)) fun v79 =>
   bnd (gd v79 false (some a0)) fun v80 =>
   bnd (gd v79 false (fA 1 v30)) fun v81 =>
   bnd (gd v79 false (l1 ob v81)) fun v82 =>
   bndO (gdO v79 false (ca0 Φ ob 1032 true 21 [v80, v82])) ob fun v83 ob =>
   bnd (gd v79 false (bi .lss v83 (.i .i64 0))) fun v84 =>
   bnd (gd v79 false (some v84)) fun v85 =>
   bnd (gd v85 true (some v20)) fun v86 =>
   bnd (gd v85 true (some a2)) fun v87 =>
   bnd (gd v85 true (xS ob 1 v86 v87)) fun v88 =>
   bnd (gd v85 true (l1 ob v88)) fun v89 =>
   bnd (gd v85 true (bi .eql v89 (.i .i64 0))) fun v90 =>
   bnd (gd v79 false (pk v85 v90 (.b false))) fun v91 =>
   bnd (gd v64 false (pk v79 (.b true) v91)) fun v92 =>
   bnd (pk v64 (.b true) v92) fun v93 =>
   fin ob os.length [0] [v93]
  )
 )
  )
def ann4 : Nat → Option Hd := fun _ => none
def lab4 : Nat → Option Hd := fun _ => none
noncomputable def m5 : Body := fun Φ N as os =>
  let a0 := gS (zipN 0 as) 0
  let a1 := gS (zipN 0 as) 1
  let a2 := gS (zipN 0 as) 2
  let ob := zipN 0 os
  bndO (ca0 Φ ob 168 false 9 []) ob fun v1 ob =>
  bndO (ca0 Φ ob 184 true 10 [a0]) ob fun v2 ob =>
  bndO (ca0 Φ ob 200 true 11 [a1, (.i .i64 40)]) ob fun v3 ob =>
  bnd (uO .not v1) fun v4 =>
  bnd (gd v4 false (some v2)) fun v5 =>
  bnd (gd v4 false (uO .not v5)) fun v6 =>
  bnd (pk v4 (.b true) v6) fun v7 =>
  bnd (gd v7 false (some v3)) fun v8 =>
  bnd (gd v7 false (uO .not v8)) fun v9 =>
  bnd (pk v7 (.b true) v9) fun v10 =>
  bnd (gd v10 false (some a2)) fun v11 =>
  bnd (gd v10 false (bi .lss v11 (.i .i64 0))) fun v12 =>
  bnd (pk v10 (.b true) v12) fun v13 =>
  bnd (gd v13 false (some a2)) fun v14 =>
  bnd (gd v13 false (some a1)) fun v15 =>
  bnd (gd v13 false (len v15)) fun v16 =>
  bnd (gd v13 false (bi .gtr v14 v16)) fun v17 =>
  bnd (pk v13 (.b true) v17) fun v18 =>
  br v18 (
 fin ob os.length [0] [v1]
  ) (
 bnd (bld [.e true, .e true, .i .i64 0, .i .i64 0] [(0, 1, a0)]) fun v19 =>
 bndO (ca0 Φ ob 400 true 13 [v19, a1]) ob fun v20 ob =>
 bnd (bld [.e true, .e true, .i .i64 0, .i .i64 0] [(0, 1, a0)]) fun v21 =>
 bndO (slc ob (.slice 5) a1 none (some a2) none) ob fun v22 ob =>
 bndO (ca0 Φ ob 448 true 13 [v21, v22]) ob fun v23 ob =>
 bnd (len v20) fun v24 =>
 bnd (len a1) fun v25 =>
 bnd (bi .neq v24 v25) fun v26 =>
 br v26 (
  fin ob os.length [0] [(.b false)]
 ) (
  bndO (slc ob (.slice 1) v20 none (some a2) none) ob fun v27 ob =>
  bndO (ca0 Φ ob 528 false 12 [v23, v27]) ob fun v28 ob =>
  fin ob os.length [0] [v28]
 )
  )
def ann5 : Nat → Option Hd := fun _ => none
def lab5 : Nat → Option Hd := fun _ => none
noncomputable def m6b0 (Φ : Sem') (N : Nat) (os : List Obj') (g : SL → OB → Option R) (sl : SL) (ob : OB) : Option R :=
  bnd (len (gS sl 17)) fun v64 =>
  bnd (bi .lss (gS sl 18) v64) fun v65 =>
  br v65 (
 bnd (xS ob 1 (gS sl 17) (gS sl 18)) fun v66 =>
 bnd (l1 ob v66) fun v67 =>
 bndO (ca0 Φ ob 1040 true 22 [(gS sl 0), v67]) ob fun v68 ob =>
 bnd (bi .eql v68 (.i .i64 0)) fun v69 =>
 br v69 (
  fin ob os.length [0] [(.b false)]
 ) (
  bnd (bi .add (gS sl 18) (.i .i64 1)) fun v70 =>
  bnd (head [.row 17 207 1] [0, 16, 17, 18] [] [(0, (gS sl 0)), (16, (gS sl 16)), (17, (gS sl 17)), (18, v70)] ob) fun x => g x.1 x.2
 )
  ) (
 fin ob os.length [0] [(gS sl 16)]
  )
noncomputable def m6b1 (Φ : Sem') (N : Nat) (os : List Obj') (g : SL → OB → Option R) (sl : SL) (ob : OB) : Option R :=
  bnd (len (gS sl 1)) fun v26 =>
  bnd (bi .lss (gS sl 13) v26) fun v27 =>
  br v27 (
 bnd (xS ob 1 (gS sl 9) (gS sl 13)) fun v28 =>
 bnd (l1 ob v28) fun v29 =>
 bndO (ca0 Φ ob 608 true 22 [(gS sl 0), v29]) ob fun v30 ob =>
 bnd (bi .eql v30 (.i .i64 0)) fun v31 =>
 bnd (xS ob 5 (gS sl 1) (gS sl 13)) fun v32 =>
 bnd (fA 0 v32) fun v33 =>
 bnd (l1 ob v33) fun v34 =>
 bnd (bi .eql v34 (.i .i64 2)) fun v35 =>
 bnd (gd v35 false (some (gS sl 1))) fun v36 =>
 bnd (gd v35 false (some (gS sl 13))) fun v37 =>
 bnd (gd v35 false (xS ob 5 v36 v37)) fun v38 =>
 bnd (gd v35 false (fA 0 v38)) fun v39 =>
 bnd (gd v35 false (l1 ob v39)) fun v40 =>
 bnd (gd v35 false (bi .eql v40 (.i .i64 0))) fun v41 =>
 bnd (gd v35 false (some v41)) fun v42 =>
 bnd (gd v42 true (some (gS sl 1))) fun v43 =>
 bnd (gd v42 true (some (gS sl 13))) fun v44 =>
 bnd (gd v42 true (xS ob 5 v43 v44)) fun v45 =>
 bnd (gd v42 true (fA 3 v45)) fun v46 =>
 bnd (gd v42 true (l1 ob v46)) fun v47 =>
 bnd (gd v35 false (pk v42 v47 (.b false))) fun v48 =>
 bnd (pk v35 (.b true) v48) fun v49 =>
 bnd (uO .not v31) fun v50 =>
 br v50 (
  bnd (xS ob 5 (gS sl 1) (gS sl 13)) fun v51 =>
  bnd (lN ob 5 v51) fun v52 =>
  bndO (bldP ob 848 5 [v52]) ob fun v53 ob =>
  bndO (ap ob 856 5 (gS sl 12) v53) ob fun v54 ob =>
  bnd (bi .add (gS sl 13) (.i .i64 1)) fun v55 =>
  bnd (head [.row 9 143 1, .row 10 151 5, .row 12 167 5] [0, 1, 8, 9, 10, 12, 13] [128] [(0, (gS sl 0)), (1, (gS sl 1)), (8, (gS sl 8)), (9, (gS sl 9)), (10, (gS sl 10)), (12, v54), (13, v55)] ob) fun x => g x.1 x.2
 ) (
  br v49 (
   bnd (bld [.i .i64 0, .e true, .i .u64 0, .b false, .i .i64 0] [(0, 1, (.i .i64 2))]) fun v56 =>
   bndO (bldP ob 888 5 [v56]) ob fun v57 ob =>
   bndO (ap ob 896 5 (gS sl 12) v57) ob fun v58 ob =>
   bnd (bi .add (gS sl 13) (.i .i64 1)) fun v59 =>
   bnd (head [.row 9 143 1, .row 10 151 5, .row 12 167 5] [0, 1, 8, 9, 10, 12, 13] [128] [(0, (gS sl 0)), (1, (gS sl 1)), (8, (gS sl 8)), (9, (gS sl 9)), (10, (gS sl 10)), (12, v58), (13, v59)] ob) fun x => g x.1 x.2
  ) (
   bnd (bi .add (gS sl 13) (.i .i64 1)) fun v60 =>
   bnd (head [.row 9 143 1, .row 10 151 5, .row 12 167 5] [0, 1, 8, 9, 10, 12, 13] [128] [(0, (gS sl 0)), (1, (gS sl 1)), (8, (gS sl 8)), (9, (gS sl 9)), (10, (gS sl 10)), (12, (gS sl 12)), (13, v60)] ob) fun x => g x.1 x.2
  )
 )
  ) (
 bndO (ca0 Φ ob 920 true 15 [(gS sl 10), (gS sl 12)]) ob fun v61 ob =>
 bnd (lN ob 4 (gS sl 8)) fun v62 =>
 bndO (ca0 Φ ob 944 true 13 [v62, (gS sl 10)]) ob fun v63 ob =>
 bnd (head [.row 17 207 1] [0, 16, 17, 18] [] [(0, (gS sl 0)), (16, v61), (17, v63), (18, (.i .i64 0))] ob) fun x => loopC (m6b0 Φ N os) N x.1 x.2
  )
noncomputable def m6 : Body := fun Φ N as os =>
  let a0 := gS (zipN 0 as) 0
  let a1 := gS (zipN 0 as) 1
  let ob := zipN 0 os
  bndO (ca0 Φ ob 216 false 9 []) ob fun v1 ob =>
  bndO (ca0 Φ ob 232 true 10 [a0]) ob fun v2 ob =>
  bndO (ca0 Φ ob 248 true 11 [a1, (.i .i64 40)]) ob fun v3 ob =>
  bnd (uO .not v1) fun v4 =>
  bnd (gd v4 false (some v2)) fun v5 =>
  bnd (gd v4 false (uO .not v5)) fun v6 =>
  bnd (pk v4 (.b true) v6) fun v7 =>
  bnd (gd v7 false (some v3)) fun v8 =>
  bnd (gd v7 false (uO .not v8)) fun v9 =>
  bnd (pk v7 (.b true) v9) fun v10 =>
  br v10 (
 fin ob os.length [0] [v1]
  ) (
 bnd (bld [.e true, .e true, .i .i64 0, .i .i64 0] [(0, 1, a0)]) fun v11 =>
 bndO (al ob 128 [.e true, .e true, .i .i64 0, .i .i64 0]) ob fun v12 ob =>
 bndO (st ob 4 v12 v11) ob fun _ ob =>
 bnd (lN ob 4 v12) fun v13 =>
 bndO (ca0 Φ ob 376 true 13 [v13, a1]) ob fun v14 ob =>
 bnd (lN ob 4 v12) fun v15 =>
 bndO (ca0 Φ ob 400 true 16 [v15, a1]) ob fun v16 ob =>
 bnd (lN ob 4 v12) fun v17 =>
 bndO (ca0 Φ ob 424 true 16 [v17, v16]) ob fun v18 ob =>
 bndO (ca0 Φ ob 440 true 15 [v18, v16]) ob fun v19 ob =>
 bnd (len v14) fun v20 =>
 bnd (len a1) fun v21 =>
 bnd (bi .neq v20 v21) fun v22 =>
 bnd (gd v22 false (some v19)) fun v23 =>
 bnd (gd v22 false (uO .not v23)) fun v24 =>
 bnd (pk v22 (.b true) v24) fun v25 =>
 br v25 (
  fin ob os.length [0] [(.b false)]
 ) (
  bnd (head [.row 9 143 1, .row 10 151 5, .row 12 167 5] [0, 1, 8, 9, 10, 12, 13] [128] [(0, a0), (1, a1), (8, v12), (9, v14), (10, v16), (12, (.e true)), (13, (.i .i64 0))] ob) fun x => loopC (m6b1 Φ N os) N x.1 x.2
 )
  )
def ann6 : Nat → Option Hd
  | 14 => some ⟨[.row 9 143 1, .row 10 151 5, .row 12 167 5], [0, 1, 8, 9, 10, 12, 13], [128], []⟩ | 25 => some ⟨[.row 17 207 1], [0, 16, 17, 18], [], []⟩ | _ => none
def lab6 : Nat → Option Hd := fun _ => none
noncomputable def m7 : Body := fun Φ N as os =>
  let a0 := gS (zipN 0 as) 0
  let a1 := gS (zipN 0 as) 1
  let a2 := gS (zipN 0 as) 2
  let ob := zipN 0 os
  bndO (bx ob 104 a2) ob fun v1 ob =>
  bndO (ca0 Φ ob 176 false 9 []) ob fun v2 ob =>
  bndO (ca0 Φ ob 192 true 10 [a0]) ob fun v3 ob =>
  bndO (ca0 Φ ob 208 true 11 [a1, (.i .i64 40)]) ob fun v4 ob =>
  bnd (lN ob 40 v1) fun v5 =>
  bndO (ca0 Φ ob 232 false 23 [v5]) ob fun v6 ob =>
  bnd (ext 0 v6) fun v7 =>
  bnd (ext 1 v6) fun v8 =>
  bnd (uO .not v2) fun v9 =>
  bnd (gd v9 false (some v3)) fun v10 =>
  bnd (gd v9 false (uO .not v10)) fun v11 =>
  bnd (pk v9 (.b true) v11) fun v12 =>
  bnd (gd v12 false (some v4)) fun v13 =>
  bnd (gd v12 false (uO .not v13)) fun v14 =>
  bnd (pk v12 (.b true) v14) fun v15 =>
  bnd (gd v15 false (some v8)) fun v16 =>
  bnd (gd v15 false (uO .not v16)) fun v17 =>
  bnd (pk v15 (.b true) v17) fun v18 =>
  bnd (gd v18 false (fA 0 v1)) fun v19 =>
  bnd (gd v18 false (l1 ob v19)) fun v20 =>
  bnd (gd v18 false (bi .neq v20 (.i .i64 2))) fun v21 =>
  bnd (gd v18 false (some v21)) fun v22 =>
  bnd (gd v22 true (fA 0 v1)) fun v23 =>
  bnd (gd v22 true (l1 ob v23)) fun v24 =>
  bnd (gd v22 true (bi .neq v24 (.i .i64 4))) fun v25 =>
  bnd (gd v18 false (pk v22 v25 (.b false))) fun v26 =>
  bnd (pk v18 (.b true) v26) fun v27 =>
  br v27 (
 fin ob os.length [0] [v2]
  ) (
 bndO (ap ob 464 5 (.e true) a1) ob fun v28 ob =>
 bnd (bld [.i .i64 0, .e true, .i .u64 0, .b false, .i .i64 0] [(0, 1, (.i .i64 2))]) fun v29 =>
 bnd (bld [.i .i64 0, .e true, .i .u64 0, .b false, .i .i64 0] [(1, 1, v7)]) fun v30 =>
 bndO (bldP ob 496 5 [v29, v30]) ob fun v31 ob =>
 bndO (ap ob 504 5 v28 v31) ob fun v32 ob =>
 bnd (bld [.e true, .e true, .i .i64 0, .i .i64 0] [(0, 1, a0)]) fun v33 =>
 bndO (ca0 Φ ob 536 true 13 [v33, v32]) ob fun v34 ob =>
 bnd (len v34) fun v35 =>
 bnd (len v32) fun v36 =>
 bnd (bi .eql v35 v36) fun v37 =>
 bnd (gd v37 true (some v34)) fun v38 =>
 bnd (gd v37 true (some v32)) fun v39 =>
 bnd (gd v37 true (len v39)) fun v40 =>
 bnd (gd v37 true (bi .sub v40 (.i .i64 1))) fun v41 =>
 bnd (gd v37 true (xS ob 1 v38 v41)) fun v42 =>
 bnd (gd v37 true (l1 ob v42)) fun v43 =>
 bnd (gd v37 true (bi .eql v43 (.i .i64 0))) fun v44 =>
 bnd (pk v37 v44 (.b false)) fun v45 =>
 bnd (gd v45 true (some v34)) fun v46 =>
 bnd (gd v45 true (some v32)) fun v47 =>
 bnd (gd v45 true (len v47)) fun v48 =>
 bnd (gd v45 true (bi .sub v48 (.i .i64 2))) fun v49 =>
 bnd (gd v45 true (xS ob 1 v46 v49)) fun v50 =>
 bnd (gd v45 true (l1 ob v50)) fun v51 =>
 bnd (gd v45 true (bi .eql v51 (.i .i64 0))) fun v52 =>
 bnd (pk v45 v52 (.b false)) fun v53 =>
 fin ob os.length [0] [v53]
  )
def ann7 : Nat → Option Hd := fun _ => none
def lab7 : Nat → Option Hd := fun _ => none
noncomputable def m8b0 (Φ : Sem') (N : Nat) (os : List Obj') (g : SL → OB → Option R) (sl : SL) (ob : OB) : Option R :=
  bnd (len (gS sl 0)) fun v19 =>
  bnd (bi .lss (gS sl 10) v19) fun v20 =>
  br v20 (
 bnd (xS ob 5 (gS sl 0) (gS sl 10)) fun v21 =>
 bnd (fA 1 v21) fun v22 =>
 bnd (l1 ob v22) fun v23 =>
 bndO (ca0 Φ ob 448 false 20 [v23]) ob fun v24 ob =>
 bnd (ext 0 v24) fun v25 =>
 bnd (ext 1 v24) fun v26 =>
 bndO (al ob 152 [.i .i64 0, .i .i64 0, .i .u64 0, .i .u64 0, .i .i64 0, .i .u64 0, .i .i64 0, .i .i64 0, .blob 32 (List.replicate 32 (.i .u8 0))]) ob fun v27 ob =>
 bndO (st ob 40 v27 v25) ob fun _ ob =>
 bnd (gd (gS sl 9) false (some (gS sl 0))) fun v28 =>
 bnd (gd (gS sl 9) false (some (gS sl 10))) fun v29 =>
 bnd (gd (gS sl 9) false (xS ob 5 v28 v29)) fun v30 =>
 bnd (gd (gS sl 9) false (fA 0 v30)) fun v31 =>
 bnd (gd (gS sl 9) false (l1 ob v31)) fun v32 =>
 bnd (gd (gS sl 9) false (bi .eql v32 (.i .i64 0))) fun v33 =>
 bnd (gd (gS sl 9) false (some v33)) fun v34 =>
 bnd (gd v34 true (some v26)) fun v35 =>
 bnd (gd v34 true (bi .eql v35 (.i .i64 0))) fun v36 =>
 bnd (gd (gS sl 9) false (pk v34 v36 (.b false))) fun v37 =>
 bnd (gd (gS sl 9) false (some v37)) fun v38 =>
 bnd (gd v38 true (fA 0 v27)) fun v39 =>
 bnd (gd v38 true (l1 ob v39)) fun v40 =>
 bnd (gd v38 true (bi .eql v40 (.i .i64 0))) fun v41 =>
 bnd (gd (gS sl 9) false (pk v38 v41 (.b false))) fun v42 =>
 bnd (gd (gS sl 9) false (some v42)) fun v43 =>
 bnd (gd v43 true (some (gS sl 0))) fun v44 =>
 bnd (gd v43 true (some (gS sl 10))) fun v45 =>
 bnd (gd v43 true (xS ob 5 v44 v45)) fun v46 =>
 bnd (gd v43 true (fA 2 v46)) fun v47 =>
 bnd (gd v43 true (l1 ob v47)) fun v48 =>
 bnd (gd v43 true (fA 2 (gS sl 3))) fun v49 =>
 bnd (gd v43 true (l1 ob v49)) fun v50 =>
 bnd (gd v43 true (bi .eql v48 v50)) fun v51 =>
 bnd (gd (gS sl 9) false (pk v43 v51 (.b false))) fun v52 =>
 bnd (pk (gS sl 9) (.b true) v52) fun v53 =>
 bnd (bi .add (gS sl 10) (.i .i64 1)) fun v54 =>
 bnd (head [] [0, 3, 7, 8, 9, 10] [88, 120] [(0, (gS sl 0)), (3, (gS sl 3)), (7, (gS sl 7)), (8, (gS sl 8)), (9, v53), (10, v54)] ob) fun x => g x.1 x.2
  ) (
 bnd (fA 0 (gS sl 3)) fun v55 =>
 bnd (l1 ob v55) fun v56 =>
 bnd (bi .eql v56 (.i .i64 0)) fun v57 =>
 bnd (gd v57 true (some (gS sl 8))) fun v58 =>
 bnd (gd v57 true (bi .eql v58 (.i .i64 0))) fun v59 =>
 bnd (pk v57 v59 (.b false)) fun v60 =>
 bnd (gd v60 true (fA 0 (gS sl 7))) fun v61 =>
 bnd (gd v60 true (l1 ob v61)) fun v62 =>
 bnd (gd v60 true (bi .eql v62 (.i .i64 0))) fun v63 =>
 bnd (pk v60 v63 (.b false)) fun v64 =>
 bndO (ap ob 800 5 (.e true) (gS sl 0)) ob fun v65 ob =>
 bnd (dis [(.e true)] [(gS sl 3)]) fun _ =>
 bnd (lN ob 5 (gS sl 3)) fun v66 =>
 bndO (bldS ob 816 5 [v66]) ob fun v67 ob =>
 bndO (ap ob 824 5 v65 v67) ob fun v68 ob =>
 bndO (ca0 Φ ob 832 true 19 [v68]) ob fun v69 ob =>
 bndO (ca0 Φ ob 848 true 19 [(gS sl 0)]) ob fun v70 ob =>
 bnd (gd v70 true (some v64)) fun v71 =>
 bnd (gd v70 true (some v71)) fun v72 =>
 bnd (gd v72 true (some (gS sl 9))) fun v73 =>
 bnd (gd v70 true (pk v72 v73 (.b false))) fun v74 =>
 bnd (gd v70 true (uO .not v74)) fun v75 =>
 bnd (pk v70 v75 (.b false)) fun v76 =>
 bnd (biB .eql v69 v76) fun v77 =>
 fin ob os.length [0] [v77]
  )
noncomputable def m8 : Body := fun Φ N as os =>
  let a0 := gS (zipN 0 as) 0
  let a1 := gS (zipN 0 as) 1
  let ob := zipN 0 os
  bndO (bx ob 88 a1) ob fun v1 ob =>
  bndO (ca0 Φ ob 176 false 9 []) ob fun v2 ob =>
  bndO (ca0 Φ ob 192 true 11 [a0, (.i .i64 40)]) ob fun v3 ob =>
  bnd (uO .not v2) fun v4 =>
  bnd (gd v4 false (some v3)) fun v5 =>
  bnd (gd v4 false (uO .not v5)) fun v6 =>
  bnd (pk v4 (.b true) v6) fun v7 =>
  bnd (gd v7 false (fA 1 v1)) fun v8 =>
  bnd (gd v7 false (l1 ob v8)) fun v9 =>
  bnd (gd v7 false (len v9)) fun v10 =>
  bnd (gd v7 false (bi .gtr v10 (.i .i64 200))) fun v11 =>
  bnd (pk v7 (.b true) v11) fun v12 =>
  br v12 (
 fin ob os.length [0] [v2]
  ) (
 bnd (fA 1 v1) fun v13 =>
 bnd (l1 ob v13) fun v14 =>
 bndO (ca0 Φ ob 328 false 20 [v14]) ob fun v15 ob =>
 bnd (ext 0 v15) fun v16 =>
 bnd (ext 1 v15) fun v17 =>
 bndO (al ob 120 [.i .i64 0, .i .i64 0, .i .u64 0, .i .u64 0, .i .i64 0, .i .u64 0, .i .i64 0, .i .i64 0, .blob 32 (List.replicate 32 (.i .u8 0))]) ob fun v18 ob =>
 bndO (st ob 40 v18 v16) ob fun _ ob =>
 bnd (head [] [0, 3, 7, 8, 9, 10] [88, 120] [(0, a0), (3, v1), (7, v18), (8, v17), (9, (.b false)), (10, (.i .i64 0))] ob) fun x => loopC (m8b0 Φ N os) N x.1 x.2
  )
def ann8 : Nat → Option Hd
  | 8 => some ⟨[], [0, 3, 7, 8, 9, 10], [88, 120], []⟩ | _ => none
def lab8 : Nat → Option Hd := fun _ => none
noncomputable def m9 : Body := fun Φ N as os =>
  let ob := zipN 0 os
  bndO (ca0 Φ ob 136 false 24 [(.i .i64 900)]) ob fun v1 ob =>
  bndO (al ob 72 [.e true, .e true, .i .i64 0, .i .i64 0]) ob fun v2 ob =>
  bndO (st ob 4 v2 v1) ob fun _ ob =>
  bnd (bld [.i .i64 0, .i .i64 0, .i .u64 0, .i .u64 0, .i .i64 0, .i .u64 0, .i .i64 0, .i .i64 0, .blob 32 (List.replicate 32 (.i .u8 0))] [(1, 1, (.i .i64 7)), (3, 1, (.i .u64 5))]) fun v3 =>
  bndO (ca0 Φ ob 160 false 23 [v3]) ob fun v4 ob =>
  bnd (ext 0 v4) fun v5 =>
  bnd (ext 1 v4) fun v6 =>
  bnd (bld [.i .i64 0, .i .i64 0, .i .u64 0, .i .u64 0, .i .i64 0, .i .u64 0, .i .i64 0, .i .i64 0, .blob 32 (List.replicate 32 (.i .u8 0))] [(0, 1, (.i .i64 2)), (2, 1, (.i .u64 8))]) fun v7 =>
  bndO (ca0 Φ ob 200 false 23 [v7]) ob fun v8 ob =>
  bnd (ext 0 v8) fun v9 =>
  bnd (ext 1 v8) fun v10 =>
  bnd (bld [.i .i64 0, .e true, .i .u64 0, .b false, .i .i64 0] [(1, 1, v5), (2, 1, (.i .u64 8))]) fun v11 =>
  bnd (bld [.i .i64 0, .e true, .i .u64 0, .b false, .i .i64 0] [(1, 1, v9)]) fun v12 =>
  bnd (bld [.i .i64 0, .e true, .i .u64 0, .b false, .i .i64 0] [(0, 1, (.i .i64 1))]) fun v13 =>
  bndO (bldS ob 264 5 [v11, v12, v13]) ob fun v14 ob =>
  bnd (lN ob 4 v2) fun v15 =>
  bndO (ca0 Φ ob 288 true 13 [v15, v14]) ob fun v16 ob =>
  bnd (lN ob 4 v2) fun v17 =>
  bndO (ca0 Φ ob 312 true 16 [v17, v14]) ob fun v18 ob =>
  bnd (len v16) fun v19 =>
  bnd (bi .eql v19 (.i .i64 3)) fun v20 =>
  bnd (gd v20 true (some v16)) fun v21 =>
  bnd (gd v20 true (xS ob 1 v21 (.i .i64 0))) fun v22 =>
  bnd (gd v20 true (l1 ob v22)) fun v23 =>
  bnd (gd v20 true (bi .eql v23 (.i .i64 7))) fun v24 =>
  bnd (pk v20 v24 (.b false)) fun v25 =>
  bnd (gd v25 true (some v16)) fun v26 =>
  bnd (gd v25 true (xS ob 1 v26 (.i .i64 1))) fun v27 =>
  bnd (gd v25 true (l1 ob v27)) fun v28 =>
  bnd (gd v25 true (bi .eql v28 (.i .i64 7))) fun v29 =>
  bnd (pk v25 v29 (.b false)) fun v30 =>
  bnd (gd v30 true (some v16)) fun v31 =>
  bnd (gd v30 true (xS ob 1 v31 (.i .i64 2))) fun v32 =>
  bnd (gd v30 true (l1 ob v32)) fun v33 =>
  bnd (gd v30 true (bi .eql v33 (.i .i64 0))) fun v34 =>
  bnd (pk v30 v34 (.b false)) fun v35 =>
  bnd (gd v35 true (some v18)) fun v36 =>
  bnd (gd v35 true (len v36)) fun v37 =>
  bnd (gd v35 true (bi .eql v37 (.i .i64 1))) fun v38 =>
  bnd (pk v35 v38 (.b false)) fun v39 =>
  bnd (gd v39 true (some v18)) fun v40 =>
  bnd (gd v39 true (xS ob 5 v40 (.i .i64 0))) fun v41 =>
  bnd (gd v39 true (fA 0 v41)) fun v42 =>
  bnd (gd v39 true (l1 ob v42)) fun v43 =>
  bnd (gd v39 true (bi .eql v43 (.i .i64 1))) fun v44 =>
  bnd (pk v39 v44 (.b false)) fun v45 =>
  bnd (gd v45 true (some v14)) fun v46 =>
  bndO (gdO v45 true (ca0 Φ ob 600 true 19 [v46])) ob fun v47 ob =>
  bnd (pk v45 v47 (.b false)) fun v48 =>
  fin ob os.length [0] [v48]
def ann9 : Nat → Option Hd := fun _ => none
def lab9 : Nat → Option Hd := fun _ => none
noncomputable def m10b0 (Φ : Sem') (N : Nat) (os : List Obj') (g : SL → OB → Option R) (sl : SL) (ob : OB) : Option R :=
  bnd (len (gS sl 0)) fun v1 =>
  bnd (bi .lss (gS sl 3) v1) fun v2 =>
  bnd (gd v2 true (some (gS sl 3))) fun v3 =>
  bnd (gd v2 true (bi .leq v3 (.i .i64 10))) fun v4 =>
  bnd (pk v2 v4 (.b false)) fun v5 =>
  br v5 (
 bnd (xS ob 3 (gS sl 0) (gS sl 3)) fun v6 =>
 bnd (fA 2 v6) fun v7 =>
 bnd (l1 ob v7) fun v8 =>
 bnd (len v8) fun v9 =>
 bnd (bi .gtr v9 (.i .i64 100)) fun v10 =>
 br v10 (
  fin ob os.length [0] [(.b false)]
 ) (
  bnd (bi .add (gS sl 3) (.i .i64 1)) fun v11 =>
  bnd (head [] [0, 3] [] [(0, (gS sl 0)), (3, v11)] ob) fun x => g x.1 x.2
 )
  ) (
 bnd (len (gS sl 0)) fun v12 =>
 bnd (bi .leq v12 (.i .i64 10)) fun v13 =>
 fin ob os.length [0] [v13]
  )
noncomputable def m10 : Body := fun Φ N as os =>
  let a0 := gS (zipN 0 as) 0
  let ob := zipN 0 os
  bnd (head [] [0, 3] [] [(0, a0), (3, (.i .i64 0))] ob) fun x => loopC (m10b0 Φ N os) N x.1 x.2
def ann10 : Nat → Option Hd
  | 2 => some ⟨[], [0, 3], [], []⟩ | _ => none
def lab10 : Nat → Option Hd := fun _ => none
noncomputable def m11b0 (Φ : Sem') (N : Nat) (os : List Obj') (g : SL → OB → Option R) (sl : SL) (ob : OB) : Option R :=
  bnd (len (gS sl 0)) fun v1 =>
  bnd (bi .lss (gS sl 5) v1) fun v2 =>
  bnd (gd v2 true (some (gS sl 5))) fun v3 =>
  bnd (gd v2 true (some (gS sl 1))) fun v4 =>
  bnd (gd v2 true (bi .leq v3 v4)) fun v5 =>
  bnd (pk v2 v5 (.b false)) fun v6 =>
  br v6 (
 bnd (xS ob 5 (gS sl 0) (gS sl 5)) fun v7 =>
 bnd (fA 1 v7) fun v8 =>
 bnd (l1 ob v8) fun v9 =>
 bnd (len v9) fun v10 =>
 bnd (bi .gtr v10 (.i .i64 200)) fun v11 =>
 br v11 (
  fin ob os.length [0] [(.b false)]
 ) (
  bnd (bi .add (gS sl 5) (.i .i64 1)) fun v12 =>
  bnd (head [] [0, 1, 5] [] [(0, (gS sl 0)), (1, (gS sl 1)), (5, v12)] ob) fun x => g x.1 x.2
 )
  ) (
 bnd (len (gS sl 0)) fun v13 =>
 bnd (bi .leq v13 (gS sl 1)) fun v14 =>
 fin ob os.length [0] [v14]
  )
noncomputable def m11 : Body := fun Φ N as os =>
  let a0 := gS (zipN 0 as) 0
  let a1 := gS (zipN 0 as) 1
  let ob := zipN 0 os
  bnd (head [] [0, 1, 5] [] [(0, a0), (1, a1), (5, (.i .i64 0))] ob) fun x => loopC (m11b0 Φ N os) N x.1 x.2
def ann11 : Nat → Option Hd
  | 2 => some ⟨[], [0, 1, 5], [], []⟩ | _ => none
def lab11 : Nat → Option Hd := fun _ => none
noncomputable def m12b0 (Φ : Sem') (N : Nat) (os : List Obj') (g : SL → OB → Option R) (sl : SL) (ob : OB) : Option R :=
  bnd (len (gS sl 0)) fun v4 =>
  bnd (bi .lss (gS sl 5) v4) fun v5 =>
  br v5 (
 bnd (xS ob 1 (gS sl 0) (gS sl 5)) fun v6 =>
 bnd (l1 ob v6) fun v7 =>
 bnd (xS ob 1 (gS sl 1) (gS sl 5)) fun v8 =>
 bnd (l1 ob v8) fun v9 =>
 bnd (bi .neq v7 v9) fun v10 =>
 br v10 (
  fin ob os.length [0] [(.b false)]
 ) (
  bnd (bi .add (gS sl 5) (.i .i64 1)) fun v11 =>
  bnd (head [] [0, 1, 5] [] [(0, (gS sl 0)), (1, (gS sl 1)), (5, v11)] ob) fun x => g x.1 x.2
 )
  ) (
 fin ob os.length [0] [(.b true)]
  )
noncomputable def m12 : Body := fun Φ N as os =>
  let a0 := gS (zipN 0 as) 0
  let a1 := gS (zipN 0 as) 1
  let ob := zipN 0 os
  bnd (len a0) fun v1 =>
  bnd (len a1) fun v2 =>
  bnd (bi .neq v1 v2) fun v3 =>
  br v3 (
 fin ob os.length [0] [(.b false)]
  ) (
 bnd (head [] [0, 1, 5] [] [(0, a0), (1, a1), (5, (.i .i64 0))] ob) fun x => loopC (m12b0 Φ N os) N x.1 x.2
  )
def ann12 : Nat → Option Hd
  | 4 => some ⟨[], [0, 1, 5], [], []⟩ | _ => none
def lab12 : Nat → Option Hd := fun _ => none
noncomputable def m13b0 (Φ : Sem') (N : Nat) (os : List Obj') (g : SL → OB → Option R) (sl : SL) (ob : OB) : Option R :=
  bnd (bi .lss (gS sl 16) (gS sl 15)) fun v8 =>
  br v8 (
 bnd (xS ob 5 (gS sl 14) (gS sl 16)) fun v9 =>
 bnd (lN ob 5 v9) fun v10 =>
 bndO (al ob 128 [.i .i64 0, .e true, .i .u64 0, .b false, .i .i64 0]) ob fun v11 ob =>
 bndO (st ob 5 v11 v10) ob fun _ ob =>
 bnd (lN ob 5 v11) fun v12 =>
 bndO (ca Φ ob 248 false 25 [(gS sl 5), v12]) ob fun v13 ob =>
 bndO (bldS ob 256 1 [v13]) ob fun v14 ob =>
 bndO (ap ob 264 1 (gS sl 6) v14) ob fun v15 ob =>
 bnd (lN ob 5 v11) fun v16 =>
 bndO (ca0 Φ ob 280 false 26 [v16]) ob fun v17 ob =>
 br v17 (
  bnd (nc (gS sl 5)) fun v18 =>
  bnd (fA 1 v18) fun v19 =>
  bnd (l1 ob v19) fun v20 =>
  bndO (mpc ob v20) ob fun _ ob =>
  bnd (bi .add (gS sl 16) (.i .i64 1)) fun v21 =>
  bnd (head [.row 6 119 1] [5, 6, 14, 15, 16] [152, 168] [(5, (gS sl 5)), (6, v15), (14, (gS sl 14)), (15, (gS sl 15)), (16, v21)] ob) fun x => g x.1 x.2
 ) (
  bnd (bi .add (gS sl 16) (.i .i64 1)) fun v22 =>
  bnd (head [.row 6 119 1] [5, 6, 14, 15, 16] [152, 168] [(5, (gS sl 5)), (6, v15), (14, (gS sl 14)), (15, (gS sl 15)), (16, v22)] ob) fun x => g x.1 x.2
 )
  ) (
 fin ob os.length [1] [(gS sl 6)]
  )
noncomputable def m13 : Body := fun Φ N as os =>
  let a0 := gS (zipN 0 as) 0
  let a1 := gS (zipN 0 as) 1
  let ob := zipN 0 os
  bndO (bx ob 80 a0) ob fun v1 ob =>
  bnd (fA 0 v1) fun v2 =>
  bnd (l1 ob v2) fun v3 =>
  bndO (mkm ob 152 .u64) ob fun v4 ob =>
  bnd (bld [.e true, .nm] [(0, 1, v3), (1, 1, v4)]) fun v5 =>
  bndO (bx ob 168 v5) ob fun v6 ob =>
  bnd (len a1) fun v7 =>
  bnd (head [.row 6 119 1] [5, 6, 14, 15, 16] [152, 168] [(5, v6), (6, (.e true)), (14, a1), (15, v7), (16, (.i .i64 0))] ob) fun x => loopC (m13b0 Φ N os) N x.1 x.2
def ann13 : Nat → Option Hd
  | 4 => some ⟨[.row 6 119 1], [5, 6, 14, 15, 16], [152, 168], []⟩ | _ => none
def lab13 : Nat → Option Hd := fun _ => none
noncomputable def m14b0 (Φ : Sem') (N : Nat) (os : List Obj') (g : SL → OB → Option R) (sl : SL) (ob : OB) : Option R :=
  bnd (len (gS sl 1)) fun v2 =>
  bnd (bi .lss (gS sl 6) v2) fun v3 =>
  br v3 (
 bnd (lN ob 4 (gS sl 2)) fun v4 =>
 bndO (ca0 Φ ob 200 true 27 [v4, (gS sl 1), (gS sl 6)]) ob fun v5 ob =>
 bndO (bldS ob 208 1 [v5]) ob fun v6 ob =>
 bndO (ap ob 216 1 (gS sl 5) v6) ob fun v7 ob =>
 bnd (bi .add (gS sl 6) (.i .i64 1)) fun v8 =>
 bnd (head [.row 5 111 1] [1, 2, 5, 6] [80] [(1, (gS sl 1)), (2, (gS sl 2)), (5, v7), (6, v8)] ob) fun x => g x.1 x.2
  ) (
 fin ob os.length [1] [(gS sl 5)]
  )
noncomputable def m14 : Body := fun Φ N as os =>
  let a0 := gS (zipN 0 as) 0
  let a1 := gS (zipN 0 as) 1
  let ob := zipN 0 os
  bndO (bx ob 80 a0) ob fun v1 ob =>
  bnd (head [.row 5 111 1] [1, 2, 5, 6] [80] [(1, a1), (2, v1), (5, (.e true)), (6, (.i .i64 0))] ob) fun x => loopC (m14b0 Φ N os) N x.1 x.2
def ann14 : Nat → Option Hd
  | 3 => some ⟨[.row 5 111 1], [1, 2, 5, 6], [80], []⟩ | _ => none
def lab14 : Nat → Option Hd := fun _ => none
noncomputable def m15b0 (Φ : Sem') (N : Nat) (os : List Obj') (g : SL → OB → Option R) (sl : SL) (ob : OB) : Option R :=
  bnd (len (gS sl 0)) fun v4 =>
  bnd (bi .lss (gS sl 5) v4) fun v5 =>
  br v5 (
 bnd (xS ob 5 (gS sl 0) (gS sl 5)) fun v6 =>
 bnd (fA 0 v6) fun v7 =>
 bnd (l1 ob v7) fun v8 =>
 bnd (xS ob 5 (gS sl 1) (gS sl 5)) fun v9 =>
 bnd (fA 0 v9) fun v10 =>
 bnd (l1 ob v10) fun v11 =>
 bnd (bi .neq v8 v11) fun v12 =>
 bnd (gd v12 false (some (gS sl 0))) fun v13 =>
 bnd (gd v12 false (some (gS sl 5))) fun v14 =>
 bnd (gd v12 false (xS ob 5 v13 v14)) fun v15 =>
 bnd (gd v12 false (fA 1 v15)) fun v16 =>
 bnd (gd v12 false (l1 ob v16)) fun v17 =>
 bnd (gd v12 false (b2s ob v17)) fun v18 =>
 bnd (gd v12 false (some (gS sl 1))) fun v19 =>
 bnd (gd v12 false (some (gS sl 5))) fun v20 =>
 bnd (gd v12 false (xS ob 5 v19 v20)) fun v21 =>
 bnd (gd v12 false (fA 1 v21)) fun v22 =>
 bnd (gd v12 false (l1 ob v22)) fun v23 =>
 bnd (gd v12 false (b2s ob v23)) fun v24 =>
 bnd (gd v12 false (bi .neq v18 v24)) fun v25 =>
 bnd (pk v12 (.b true) v25) fun v26 =>
 bnd (gd v26 false (some (gS sl 0))) fun v27 =>
 bnd (gd v26 false (some (gS sl 5))) fun v28 =>
 bnd (gd v26 false (xS ob 5 v27 v28)) fun v29 =>
 bnd (gd v26 false (fA 2 v29)) fun v30 =>
 bnd (gd v26 false (l1 ob v30)) fun v31 =>
 bnd (gd v26 false (some (gS sl 1))) fun v32 =>
 bnd (gd v26 false (some (gS sl 5))) fun v33 =>
 bnd (gd v26 false (xS ob 5 v32 v33)) fun v34 =>
 bnd (gd v26 false (fA 2 v34)) fun v35 =>
 bnd (gd v26 false (l1 ob v35)) fun v36 =>
 bnd (gd v26 false (bi .neq v31 v36)) fun v37 =>
 bnd (pk v26 (.b true) v37) fun v38 =>
 bnd (gd v38 false (some (gS sl 0))) fun v39 =>
 bnd (gd v38 false (some (gS sl 5))) fun v40 =>
 bnd (gd v38 false (xS ob 5 v39 v40)) fun v41 =>
 bnd (gd v38 false (fA 3 v41)) fun v42 =>
 bnd (gd v38 false (l1 ob v42)) fun v43 =>
 bnd (gd v38 false (some (gS sl 1))) fun v44 =>
 bnd (gd v38 false (some (gS sl 5))) fun v45 =>
 bnd (gd v38 false (xS ob 5 v44 v45)) fun v46 =>
 bnd (gd v38 false (fA 3 v46)) fun v47 =>
 bnd (gd v38 false (l1 ob v47)) fun v48 =>
 bnd (gd v38 false (biB .neq v43 v48)) fun v49 =>
 bnd (pk v38 (.b true) v49) fun v50 =>
 bnd (gd v50 false (some (gS sl 0))) fun v51 =>
 bnd (gd v50 false (some (gS sl 5))) fun v52 =>
 bnd (gd v50 false (xS ob 5 v51 v52)) fun v53 =>
 bnd (gd v50 false (fA 4 v53)) fun v54 =>
 bnd (gd v50 false (l1 ob v54)) fun v55 =>
 bnd (gd v50 false (some (gS sl 1))) fun v56 =>
 bnd (gd v50 false (some (gS sl 5))) fun v57 =>
 bnd (gd v50 false (xS ob 5 v56 v57)) fun v58 =>
 bnd (gd v50 false (fA 4 v58)) fun v59 =>
 bnd (gd v50 false (l1 ob v59)) fun v60 =>
 bnd (gd v50 false (bi .neq v55 v60)) fun v61 =>
 bnd (pk v50 (.b true) v61) fun v62 =>
 br v62 (
  fin ob os.length [0] [(.b false)]
 ) (
  bnd (bi .add (gS sl 5) (.i .i64 1)) fun v63 =>
  bnd (head [] [0, 1, 5] [] [(0, (gS sl 0)), (1, (gS sl 1)), (5, v63)] ob) fun x => g x.1 x.2
 )
  ) (
 fin ob os.length [0] [(.b true)]
  )
noncomputable def m15 : Body := fun Φ N as os =>
  let a0 := gS (zipN 0 as) 0
  let a1 := gS (zipN 0 as) 1
  let ob := zipN 0 os
  bnd (len a0) fun v1 =>
  bnd (len a1) fun v2 =>
  bnd (bi .neq v1 v2) fun v3 =>
  br v3 (
 fin ob os.length [0] [(.b false)]
  ) (
 bnd (head [] [0, 1, 5] [] [(0, a0), (1, a1), (5, (.i .i64 0))] ob) fun x => loopC (m15b0 Φ N os) N x.1 x.2
  )
def ann15 : Nat → Option Hd
  | 4 => some ⟨[], [0, 1, 5], [], []⟩ | _ => none
def lab15 : Nat → Option Hd := fun _ => none
noncomputable def m16b0 (Φ : Sem') (N : Nat) (os : List Obj') (g : SL → OB → Option R) (sl : SL) (ob : OB) : Option R :=
  bnd (bi .lss (gS sl 14) (gS sl 13)) fun v5 =>
  br v5 (
 bnd (xS ob 5 (gS sl 12) (gS sl 14)) fun v6 =>
 bnd (lN ob 5 v6) fun v7 =>
 bndO (al ob 128 [.i .i64 0, .e true, .i .u64 0, .b false, .i .i64 0]) ob fun v8 ob =>
 bndO (st ob 5 v8 v7) ob fun _ ob =>
 bnd (fA 0 (gS sl 2)) fun v9 =>
 bnd (l1 ob v9) fun v10 =>
 bnd (xS ob 1 (gS sl 5) (gS sl 14)) fun v11 =>
 bnd (l1 ob v11) fun v12 =>
 bndO (ca0 Φ ob 272 true 22 [v10, v12]) ob fun v13 ob =>
 bnd (bi .neq v13 (.i .i64 0)) fun v14 =>
 br v14 (
  bnd (fA 1 v8) fun v15 =>
  bnd (l1 ob v15) fun v16 =>
  bndO (ca0 Φ ob 304 false 28 [v16]) ob fun v17 ob =>
  bnd (fA 1 v8) fun v18 =>
  bndO (st ob 1 v18 v17) ob fun _ ob =>
  bnd (lN ob 5 v8) fun v19 =>
  bndO (bldP ob 336 5 [v19]) ob fun v20 ob =>
  bndO (ap ob 344 5 (gS sl 6) v20) ob fun v21 ob =>
  bnd (bi .add (gS sl 14) (.i .i64 1)) fun v22 =>
  bnd (head [.row 6 119 5, .row 5 111 1] [2, 5, 6, 12, 13, 14] [80] [(2, (gS sl 2)), (5, (gS sl 5)), (6, v21), (12, (gS sl 12)), (13, (gS sl 13)), (14, v22)] ob) fun x => g x.1 x.2
 ) (
  bnd (lN ob 5 v8) fun v23 =>
  bndO (ca0 Φ ob 368 false 26 [v23]) ob fun v24 ob =>
  br v24 (
   bnd (bld [.i .i64 0, .e true, .i .u64 0, .b false, .i .i64 0] [(0, 1, (.i .i64 2))]) fun v25 =>
   bndO (bldP ob 392 5 [v25]) ob fun v26 ob =>
   bndO (ap ob 400 5 (gS sl 6) v26) ob fun v27 ob =>
   bnd (bi .add (gS sl 14) (.i .i64 1)) fun v28 =>
   bnd (head [.row 6 119 5, .row 5 111 1] [2, 5, 6, 12, 13, 14] [80] [(2, (gS sl 2)), (5, (gS sl 5)), (6, v27), (12, (gS sl 12)), (13, (gS sl 13)), (14, v28)] ob) fun x => g x.1 x.2
  ) (
   bnd (bi .add (gS sl 14) (.i .i64 1)) fun v29 =>
   bnd (head [.row 6 119 5, .row 5 111 1] [2, 5, 6, 12, 13, 14] [80] [(2, (gS sl 2)), (5, (gS sl 5)), (6, (gS sl 6)), (12, (gS sl 12)), (13, (gS sl 13)), (14, v29)] ob) fun x => g x.1 x.2
  )
 )
  ) (
 fin ob os.length [5] [(gS sl 6)]
  )
noncomputable def m16 : Body := fun Φ N as os =>
  let a0 := gS (zipN 0 as) 0
  let a1 := gS (zipN 0 as) 1
  let ob := zipN 0 os
  bndO (bx ob 80 a0) ob fun v1 ob =>
  bnd (lN ob 4 v1) fun v2 =>
  bndO (ca0 Φ ob 152 true 13 [v2, a1]) ob fun v3 ob =>
  bnd (len a1) fun v4 =>
  bnd (head [.row 6 119 5, .row 5 111 1] [2, 5, 6, 12, 13, 14] [80] [(2, v1), (5, v3), (6, (.e true)), (12, a1), (13, v4), (14, (.i .i64 0))] ob) fun x => loopC (m16b0 Φ N os) N x.1 x.2
def ann16 : Nat → Option Hd
  | 4 => some ⟨[.row 6 119 5, .row 5 111 1], [2, 5, 6, 12, 13, 14], [80], []⟩ | _ => none
def lab16 : Nat → Option Hd := fun _ => none
noncomputable def m17b0 (Φ : Sem') (N : Nat) (os : List Obj') (g : SL → OB → Option R) (sl : SL) (ob : OB) : Option R :=
  bnd (len (gS sl 1)) fun v2 =>
  bnd (bi .lss (gS sl 6) v2) fun v3 =>
  br v3 (
 bnd (xS ob 5 (gS sl 1) (gS sl 6)) fun v4 =>
 bnd (lN ob 5 v4) fun v5 =>
 bndO (ca0 Φ ob 208 false 29 [v5]) ob fun v6 ob =>
 bnd (fA 0 (gS sl 2)) fun v7 =>
 bnd (l1 ob v7) fun v8 =>
 bnd (lN ob 4 (gS sl 2)) fun v9 =>
 bndO (ca0 Φ ob 256 true 27 [v9, (gS sl 1), (gS sl 6)]) ob fun v10 ob =>
 bndO (ca0 Φ ob 264 true 30 [v8, v10]) ob fun v11 ob =>
 bnd (bi .neq v11 (.i .i64 0)) fun v12 =>
 br v12 (
  bnd (xS ob 5 (gS sl 1) (gS sl 6)) fun v13 =>
  bnd (lN ob 5 v13) fun v14 =>
  bndO (bldP ob 320 5 [v14]) ob fun v15 ob =>
  bndO (ap ob 328 5 (gS sl 5) v15) ob fun v16 ob =>
  bnd (bi .add (gS sl 6) (.i .i64 1)) fun v17 =>
  bnd (head [.row 5 111 5] [1, 2, 5, 6] [80] [(1, (gS sl 1)), (2, (gS sl 2)), (5, v16), (6, v17)] ob) fun x => g x.1 x.2
 ) (
  br v6 (
   bnd (bld [.i .i64 0, .e true, .i .u64 0, .b false, .i .i64 0] [(0, 1, (.i .i64 2))]) fun v18 =>
   bndO (bldP ob 360 5 [v18]) ob fun v19 ob =>
   bndO (ap ob 368 5 (gS sl 5) v19) ob fun v20 ob =>
   bnd (bi .add (gS sl 6) (.i .i64 1)) fun v21 =>
   bnd (head [.row 5 111 5] [1, 2, 5, 6] [80] [(1, (gS sl 1)), (2, (gS sl 2)), (5, v20), (6, v21)] ob) fun x => g x.1 x.2
  ) (
   bnd (bi .add (gS sl 6) (.i .i64 1)) fun v22 =>
   bnd (head [.row 5 111 5] [1, 2, 5, 6] [80] [(1, (gS sl 1)), (2, (gS sl 2)), (5, (gS sl 5)), (6, v22)] ob) fun x => g x.1 x.2
  )
 )
  ) (
 fin ob os.length [5] [(gS sl 5)]
  )
noncomputable def m17 : Body := fun Φ N as os =>
  let a0 := gS (zipN 0 as) 0
  let a1 := gS (zipN 0 as) 1
  let ob := zipN 0 os
  bndO (bx ob 80 a0) ob fun v1 ob =>
  bnd (head [.row 5 111 5] [1, 2, 5, 6] [80] [(1, a1), (2, v1), (5, (.e true)), (6, (.i .i64 0))] ob) fun x => loopC (m17b0 Φ N os) N x.1 x.2
def ann17 : Nat → Option Hd
  | 3 => some ⟨[.row 5 111 5], [1, 2, 5, 6], [80], []⟩ | _ => none
def lab17 : Nat → Option Hd := fun _ => none
noncomputable def m18b0 (Φ : Sem') (N : Nat) (os : List Obj') (g : SL → OB → Option R) (g1 : SL → OB → Option R) (sl : SL) (ob : OB) : Option R :=
  bnd (bi .lss (gS sl 6) (gS sl 3)) fun v9 =>
  br v9 (
 bnd (xS ob 5 (gS sl 0) (gS sl 6)) fun v10 =>
 bnd (lN ob 5 v10) fun v11 =>
 bndO (ca0 Φ ob 328 false 31 [v11]) ob fun v12 ob =>
 bnd (ext 0 v12) fun v13 =>
 bnd (ext 1 v12) fun v14 =>
 bndO (al ob 120 [.i .i64 0, .i .i64 0, .i .u64 0, .i .u64 0, .i .i64 0, .i .u64 0, .i .i64 0, .i .i64 0, .blob 32 (List.replicate 32 (.i .u8 0))]) ob fun v15 ob =>
 bndO (st ob 40 v15 v13) ob fun _ ob =>
 bnd (bi .eql (gS sl 5) (.i .i64 0)) fun v16 =>
 bnd (gd v16 true (some v14)) fun v17 =>
 bnd (gd v16 true (bi .eql v17 (.i .i64 0))) fun v18 =>
 bnd (pk v16 v18 (.b false)) fun v19 =>
 bnd (gd v19 true (some (gS sl 0))) fun v20 =>
 bnd (gd v19 true (some (gS sl 3))) fun v21 =>
 bnd (gd v19 true (xS ob 5 v20 v21)) fun v22 =>
 bnd (gd v19 true (fA 2 v22)) fun v23 =>
 bnd (gd v19 true (l1 ob v23)) fun v24 =>
 bnd (gd v19 true (some (gS sl 0))) fun v25 =>
 bnd (gd v19 true (some (gS sl 6))) fun v26 =>
 bnd (gd v19 true (xS ob 5 v25 v26)) fun v27 =>
 bnd (gd v19 true (fA 2 v27)) fun v28 =>
 bnd (gd v19 true (l1 ob v28)) fun v29 =>
 bnd (gd v19 true (bi .eql v24 v29)) fun v30 =>
 bnd (pk v19 v30 (.b false)) fun v31 =>
 br v31 (
  fin ob os.length [0] [(.b false)]
 ) (
  bnd (bi .add (gS sl 6) (.i .i64 1)) fun v32 =>
  bnd (head [] [0, 3, 5, 6] [] [(0, (gS sl 0)), (3, (gS sl 3)), (5, (gS sl 5)), (6, v32)] ob) fun x => g1 x.1 x.2
 )
  ) (
 bnd (bi .add (gS sl 3) (.i .i64 1)) fun v33 =>
 bnd (head [] [0, 3] [] [(0, (gS sl 0)), (3, v33)] ob) fun x => g x.1 x.2
  )
noncomputable def m18b1 (Φ : Sem') (N : Nat) (os : List Obj') (g : SL → OB → Option R) (sl : SL) (ob : OB) : Option R :=
  bnd (len (gS sl 0)) fun v1 =>
  bnd (bi .lss (gS sl 3) v1) fun v2 =>
  br v2 (
 bnd (xS ob 5 (gS sl 0) (gS sl 3)) fun v3 =>
 bnd (lN ob 5 v3) fun v4 =>
 bndO (ca0 Φ ob 224 false 31 [v4]) ob fun v5 ob =>
 bnd (ext 0 v5) fun v6 =>
 bnd (ext 1 v5) fun v7 =>
 bndO (al ob 96 [.i .i64 0, .i .i64 0, .i .u64 0, .i .u64 0, .i .i64 0, .i .u64 0, .i .i64 0, .i .i64 0, .blob 32 (List.replicate 32 (.i .u8 0))]) ob fun v8 ob =>
 bndO (st ob 40 v8 v6) ob fun _ ob =>
 bnd (head [] [0, 3, 5, 6] [] [(0, (gS sl 0)), (3, (gS sl 3)), (5, v7), (6, (.i .i64 0))] ob) fun x => loopC (m18b0 Φ N os g) N x.1 x.2
  ) (
 fin ob os.length [0] [(.b true)]
  )
noncomputable def m18 : Body := fun Φ N as os =>
  let a0 := gS (zipN 0 as) 0
  let ob := zipN 0 os
  bnd (head [] [0, 3] [] [(0, a0), (3, (.i .i64 0))] ob) fun x => loopC (m18b1 Φ N os) N x.1 x.2
def ann18 : Nat → Option Hd
  | 2 => some ⟨[], [0, 3], [], []⟩ | 6 => some ⟨[], [0, 3, 5, 6], [], []⟩ | _ => none
def lab18 : Nat → Option Hd := fun _ => none
noncomputable def m19b0 (Φ : Sem') (N : Nat) (os : List Obj') (g : SL → OB → Option R) (sl : SL) (ob : OB) : Option R :=
  bnd (bi .lss (gS sl 10) (gS sl 9)) fun v2 =>
  br v2 (
 bnd (xS ob 5 (gS sl 8) (gS sl 10)) fun v3 =>
 bnd (lN ob 5 v3) fun v4 =>
 bndO (al ob 104 [.i .i64 0, .e true, .i .u64 0, .b false, .i .i64 0]) ob fun v5 ob =>
 bndO (st ob 5 v5 v4) ob fun _ ob =>
 bnd (fA 1 v5) fun v6 =>
 bnd (l1 ob v6) fun v7 =>
 bndO (ca0 Φ ob 200 false 20 [v7]) ob fun v8 ob =>
 bnd (ext 0 v8) fun v9 =>
 bnd (ext 1 v8) fun v10 =>
 bndO (al ob 112 [.i .i64 0, .i .i64 0, .i .u64 0, .i .u64 0, .i .i64 0, .i .u64 0, .i .i64 0, .i .i64 0, .blob 32 (List.replicate 32 (.i .u8 0))]) ob fun v11 ob =>
 bndO (st ob 40 v11 v9) ob fun _ ob =>
 bnd (fA 0 v5) fun v12 =>
 bnd (l1 ob v12) fun v13 =>
 bnd (bi .neq v13 (.i .i64 0)) fun v14 =>
 bnd (gd v14 false (some v10)) fun v15 =>
 bnd (gd v14 false (bi .neq v15 (.i .i64 0))) fun v16 =>
 bnd (pk v14 (.b true) v16) fun v17 =>
 bnd (gd v17 false (fA 0 v11)) fun v18 =>
 bnd (gd v17 false (l1 ob v18)) fun v19 =>
 bnd (gd v17 false (bi .neq v19 (.i .i64 0))) fun v20 =>
 bnd (pk v17 (.b true) v20) fun v21 =>
 br v21 (
  bnd (bi .add (gS sl 10) (.i .i64 1)) fun v22 =>
  bnd (head [.row 3 95 1] [3, 8, 9, 10] [] [(3, (gS sl 3)), (8, (gS sl 8)), (9, (gS sl 9)), (10, v22)] ob) fun x => g x.1 x.2
 ) (
  bnd (fA 2 v5) fun v23 =>
  bnd (l1 ob v23) fun v24 =>
  bndO (ca0 Φ ob 344 false 32 [(gS sl 3), v24]) ob fun v25 ob =>
  br v25 (
   fin ob os.length [0] [(.b false)]
  ) (
   bnd (fA 2 v5) fun v26 =>
   bnd (l1 ob v26) fun v27 =>
   bndO (bldS ob 376 1 [v27]) ob fun v28 ob =>
   bndO (ap ob 384 1 (gS sl 3) v28) ob fun v29 ob =>
   bnd (bi .add (gS sl 10) (.i .i64 1)) fun v30 =>
   bnd (head [.row 3 95 1] [3, 8, 9, 10] [] [(3, v29), (8, (gS sl 8)), (9, (gS sl 9)), (10, v30)] ob) fun x => g x.1 x.2
  )
 )
  ) (
 fin ob os.length [0] [(.b true)]
  )
noncomputable def m19 : Body := fun Φ N as os =>
  let a0 := gS (zipN 0 as) 0
  let ob := zipN 0 os
  bnd (len a0) fun v1 =>
  bnd (head [.row 3 95 1] [3, 8, 9, 10] [] [(3, (.e true)), (8, a0), (9, v1), (10, (.i .i64 0))] ob) fun x => loopC (m19b0 Φ N os) N x.1 x.2
def ann19 : Nat → Option Hd
  | 3 => some ⟨[.row 3 95 1], [3, 8, 9, 10], [], []⟩ | _ => none
def lab19 : Nat → Option Hd := fun _ => none
noncomputable def m20b0 (Φ : Sem') (N : Nat) (os : List Obj') (g : SL → OB → Option R) (sl : SL) (ob : OB) : Option R :=
  bnd (bi .lss (gS sl 44) (gS sl 43)) fun v26 =>
  br v26 (
 bnd (xS ob 3 (gS sl 42) (gS sl 44)) fun v27 =>
 bnd (lN ob 3 v27) fun v28 =>
 bndO (al ob 144 [.np, .np, .i .i64 0]) ob fun v29 ob =>
 bndO (st ob 3 v29 v28) ob fun _ ob =>
 bnd (fA 2 v29) fun v30 =>
 bnd (l1 ob v30) fun v31 =>
 bndO (ca0 Φ ob 488 false 35 [(gS sl 0), (gS sl 8), v31]) ob fun v32 ob =>
 bnd (ext 0 v32) fun v33 =>
 bnd (ext 1 v32) fun v34 =>
 bnd (bi .eql v34 (.i .i64 (-1))) fun v35 =>
 br v35 (
  bnd (bld [.i .i64 0, .i .i64 0, .i .u64 0, .i .u64 0, .i .i64 0, .i .u64 0, .i .i64 0, .i .i64 0, .blob 32 (List.replicate 32 (.i .u8 0))] []) fun v36 =>
  bndO (st ob 40 (gS sl 2) v36) ob fun _ ob =>
  bnd (lN ob 40 (gS sl 2)) fun v37 =>
  fin ob os.length [0, 0] [v37, (.i .i64 3)]
 ) (
  bnd (fA 0 v29) fun v38 =>
  bnd (l1 ob v38) fun v39 =>
  bnd (eNp true v39) fun v40 =>
  br v40 (
   bnd (fA 0 v29) fun v41 =>
   bnd (l1 ob v41) fun v42 =>
   bnd (cv .i64 v33) fun v43 =>
   bnd (nc v42) fun v44 =>
   bndO (st ob 1 v44 v43) ob fun _ ob =>
   bnd (bi .add (gS sl 44) (.i .i64 1)) fun v45 =>
   bnd (head [] [0, 2, 5, 7, 8, 42, 43, 44] [80, 104, 376] [(0, (gS sl 0)), (2, (gS sl 2)), (5, (gS sl 5)), (7, (gS sl 7)), (8, v34), (42, (gS sl 42)), (43, (gS sl 43)), (44, v45)] ob) fun x => g x.1 x.2
  ) (
   bnd (fA 1 v29) fun v46 =>
   bnd (l1 ob v46) fun v47 =>
   bnd (nc v47) fun v48 =>
   bndO (st ob 1 v48 v33) ob fun _ ob =>
   bnd (bi .add (gS sl 44) (.i .i64 1)) fun v49 =>
   bnd (head [] [0, 2, 5, 7, 8, 42, 43, 44] [80, 104, 376] [(0, (gS sl 0)), (2, (gS sl 2)), (5, (gS sl 5)), (7, (gS sl 7)), (8, v34), (42, (gS sl 42)), (43, (gS sl 43)), (44, v49)] ob) fun x => g x.1 x.2
  )
 )
  ) (
 br (gS sl 7) (
  bnd (fA 8 (gS sl 5)) fun v50 =>
  bndO (slc ob (.arr 32) v50 none none none) ob fun v51 ob =>
  bndO (slc ob (.slice 1) (gS sl 0) (some (gS sl 8)) none none) ob fun v52 ob =>
  bndO (cpy ob 1 v51 v52) ob fun v53 ob =>
  bnd (bi .add (gS sl 8) v53) fun v54 =>
  bnd (lN ob 40 (gS sl 5)) fun v55 =>
  bndO (ca0 Φ ob 736 false 23 [v55]) ob fun v56 ob =>
  bnd (ext 0 v56) fun v57 =>
  bnd (ext 1 v56) fun v58 =>
  bnd (uO .not v58) fun v59 =>
  bnd (gd v59 false (some v54)) fun v60 =>
  bnd (gd v59 false (some (gS sl 0))) fun v61 =>
  bnd (gd v59 false (len v61)) fun v62 =>
  bnd (gd v59 false (bi .neq v60 v62)) fun v63 =>
  bnd (pk v59 (.b true) v63) fun v64 =>
  bnd (gd v64 false (some v57)) fun v65 =>
  bnd (gd v64 false (some (gS sl 0))) fun v66 =>
  bndO (gdO v64 false (ca0 Φ ob 848 false 36 [v65, v66])) ob fun v67 ob =>
  bnd (gd v64 false (uO .not v67)) fun v68 =>
  bnd (pk v64 (.b true) v68) fun v69 =>
  br v69 (
   bnd (bld [.i .i64 0, .i .i64 0, .i .u64 0, .i .u64 0, .i .i64 0, .i .u64 0, .i .i64 0, .i .i64 0, .blob 32 (List.replicate 32 (.i .u8 0))] []) fun v70 =>
   bndO (st ob 40 (gS sl 2) v70) ob fun _ ob =>
   bnd (lN ob 40 (gS sl 2)) fun v71 =>
   fin ob os.length [0, 0] [v71, (.i .i64 3)]
  ) (
   bnd (lN ob 40 (gS sl 5)) fun v72 =>
   bndO (st ob 40 (gS sl 2) v72) ob fun _ ob =>
   bnd (lN ob 40 (gS sl 2)) fun v73 =>
   fin ob os.length [0, 0] [v73, (.i .i64 0)]
  )
 ) (
  bnd (lN ob 40 (gS sl 5)) fun v74 =>
  bndO (ca0 Φ ob 736 false 23 [v74]) ob fun v75 ob =>
  bnd (ext 0 v75) fun v76 =>
  bnd (ext 1 v75) fun v77 =>
  bnd (uO .not v77) fun v78 =>
  bnd (gd v78 false (some (gS sl 8))) fun v79 =>
  bnd (gd v78 false (some (gS sl 0))) fun v80 =>
  bnd (gd v78 false (len v80)) fun v81 =>
  bnd (gd v78 false (bi .neq v79 v81)) fun v82 =>
  bnd (pk v78 (.b true) v82) fun v83 =>
  bnd (gd v83 false (some v76)) fun v84 =>
  bnd (gd v83 false (some (gS sl 0))) fun v85 =>
  bndO (gdO v83 false (ca0 Φ ob 848 false 36 [v84, v85])) ob fun v86 ob =>
  bnd (gd v83 false (uO .not v86)) fun v87 =>
  bnd (pk v83 (.b true) v87) fun v88 =>
  br v88 (
   bnd (bld [.i .i64 0, .i .i64 0, .i .u64 0, .i .u64 0, .i .i64 0, .i .u64 0, .i .i64 0, .i .i64 0, .blob 32 (List.replicate 32 (.i .u8 0))] []) fun v89 =>
   bndO (st ob 40 (gS sl 2) v89) ob fun _ ob =>
   bnd (lN ob 40 (gS sl 2)) fun v90 =>
   fin ob os.length [0, 0] [v90, (.i .i64 3)]
  ) (
   bnd (lN ob 40 (gS sl 5)) fun v91 =>
   bndO (st ob 40 (gS sl 2) v91) ob fun _ ob =>
   bnd (lN ob 40 (gS sl 2)) fun v92 =>
   fin ob os.length [0, 0] [v92, (.i .i64 0)]
  )
 )
  )
noncomputable def m20 : Body := fun Φ N as os =>
  let a0 := gS (zipN 0 as) 0
  let ob := zipN 0 os
  bndO (al ob 80 [.i .i64 0, .i .i64 0, .i .u64 0, .i .u64 0, .i .i64 0, .i .u64 0, .i .i64 0, .i .i64 0, .blob 32 (List.replicate 32 (.i .u8 0))]) ob fun v1 ob =>
  bnd (len a0) fun v2 =>
  bnd (bi .gtr v2 (.i .i64 64)) fun v3 =>
  br v3 (
 bnd (bld [.i .i64 0, .i .i64 0, .i .u64 0, .i .u64 0, .i .i64 0, .i .u64 0, .i .i64 0, .i .i64 0, .blob 32 (List.replicate 32 (.i .u8 0))] []) fun v4 =>
 bndO (st ob 40 v1 v4) ob fun _ ob =>
 bnd (lN ob 40 v1) fun v5 =>
 fin ob os.length [0, 0] [v5, (.i .i64 2)]
  ) (
 bndO (ca0 Φ ob 224 false 33 [a0]) ob fun v6 ob =>
 bnd (bi .eql v6 (.i .i64 (-1))) fun v7 =>
 br v7 (
  bnd (bld [.i .i64 0, .i .i64 0, .i .u64 0, .i .u64 0, .i .i64 0, .i .u64 0, .i .i64 0, .i .i64 0, .blob 32 (List.replicate 32 (.i .u8 0))] []) fun v8 =>
  bndO (st ob 40 v1 v8) ob fun _ ob =>
  bnd (lN ob 40 v1) fun v9 =>
  fin ob os.length [0, 0] [v9, (.i .i64 4)]
 ) (
  bnd (len a0) fun v10 =>
  bnd (bi .neq v6 v10) fun v11 =>
  bnd (gd v11 false (some v6)) fun v12 =>
  bnd (gd v11 false (bi .eql v12 (.i .i64 2))) fun v13 =>
  bnd (pk v11 (.b true) v13) fun v14 =>
  br v14 (
   bnd (bld [.i .i64 0, .i .i64 0, .i .u64 0, .i .u64 0, .i .i64 0, .i .u64 0, .i .i64 0, .i .i64 0, .blob 32 (List.replicate 32 (.i .u8 0))] []) fun v15 =>
   bndO (st ob 40 v1 v15) ob fun _ ob =>
   bnd (lN ob 40 v1) fun v16 =>
   fin ob os.length [0, 0] [v16, (.i .i64 3)]
  ) (
   bnd (xS ob 1 a0 (.i .i64 2)) fun v17 =>
   bnd (l1 ob v17) fun v18 =>
   bnd (cv .i64 v18) fun v19 =>
   bnd (bld [.i .i64 0, .i .i64 0, .i .u64 0, .i .u64 0, .i .i64 0, .i .u64 0, .i .i64 0, .i .i64 0, .blob 32 (List.replicate 32 (.i .u8 0))] [(0, 1, v19)]) fun v20 =>
   bndO (al ob 104 [.i .i64 0, .i .i64 0, .i .u64 0, .i .u64 0, .i .i64 0, .i .u64 0, .i .i64 0, .i .i64 0, .blob 32 (List.replicate 32 (.i .u8 0))]) ob fun v21 ob =>
   bndO (st ob 40 v21 v20) ob fun _ ob =>
   bndO (ca Φ ob 376 false 34 [v21]) ob fun v22 ob =>
   bnd (ext 0 v22) fun v23 =>
   bnd (ext 1 v22) fun v24 =>
   bnd (len v23) fun v25 =>
   bnd (head [] [0, 2, 5, 7, 8, 42, 43, 44] [80, 104, 376] [(0, a0), (2, v1), (5, v21), (7, v24), (8, (.i .i64 3)), (42, v23), (43, v25), (44, (.i .i64 0))] ob) fun x => loopC (m20b0 Φ N os) N x.1 x.2
  )
 )
  )
def ann20 : Nat → Option Hd
  | 12 => some ⟨[], [0, 2, 5, 7, 8, 42, 43, 44], [80, 104, 376], []⟩ | _ => none
def lab20 : Nat → Option Hd := fun _ => none
noncomputable def m21 : Body := fun Φ N as os =>
  let a0 := gS (zipN 0 as) 0
  let a1 := gS (zipN 0 as) 1
  let ob := zipN 0 os
  bndO (bx ob 80 a0) ob fun v1 ob =>
  bndO (bx ob 88 a1) ob fun v2 ob =>
  bnd (l1 ob v1) fun v3 =>
  bndO (ca0 Φ ob 120 true 37 [v3]) ob fun v4 ob =>
  bnd (uO .not v4) fun v5 =>
  br v5 (
 fin ob os.length [0] [(.i .i64 (-1))]
  ) (
 bnd (l1 ob v1) fun v6 =>
 bnd (len v6) fun v7 =>
 bndO (ca Φ ob 160 false 38 [v7, (.fn 39 [] [v1, v2])]) ob fun v8 ob =>
 bnd (l1 ob v1) fun v9 =>
 bnd (len v9) fun v10 =>
 bnd (bi .eql v8 v10) fun v11 =>
 bnd (gd v11 false (l1 ob v1)) fun v12 =>
 bnd (gd v11 false (some v8)) fun v13 =>
 bnd (gd v11 false (xS ob 3 v12 v13)) fun v14 =>
 bnd (gd v11 false (fA 0 v14)) fun v15 =>
 bnd (gd v11 false (l1 ob v15)) fun v16 =>
 bnd (gd v11 false (l1 ob v2)) fun v17 =>
 bnd (gd v11 false (bi .neq v16 v17)) fun v18 =>
 bnd (pk v11 (.b true) v18) fun v19 =>
 br v19 (
  fin ob os.length [0] [(.i .i64 (-1))]
 ) (
  fin ob os.length [0] [v8]
 )
  )
def ann21 : Nat → Option Hd := fun _ => none
def lab21 : Nat → Option Hd := fun _ => none
noncomputable def m22 : Body := fun Φ N as os =>
  let a0 := gS (zipN 0 as) 0
  let a1 := gS (zipN 0 as) 1
  let ob := zipN 0 os
  bndO (ca0 Φ ob 128 true 21 [a0, a1]) ob fun v1 ob =>
  bnd (bi .eql v1 (.i .i64 (-1))) fun v2 =>
  br v2 (
 fin ob os.length [0] [(.i .i64 (-1))]
  ) (
 bnd (xS ob 3 a0 v1) fun v3 =>
 bnd (fA 1 v3) fun v4 =>
 bnd (l1 ob v4) fun v5 =>
 fin ob os.length [0] [v5]
  )
def ann22 : Nat → Option Hd := fun _ => none
def lab22 : Nat → Option Hd := fun _ => none
noncomputable def m23 : Body := fun Φ N as os =>
  let a0 := gS (zipN 0 as) 0
  let ob := zipN 0 os
  bndO (bx ob 72 a0) ob fun v1 ob =>
  bnd (lN ob 40 v1) fun v2 =>
  bndO (ca0 Φ ob 120 false 40 [v2]) ob fun v3 ob =>
  bnd (uO .not v3) fun v4 =>
  br v4 (
 fin ob os.length [1, 0] [(.e true), (.b false)]
  ) (
 bnd (lN ob 40 v1) fun v5 =>
 bndO (ca0 Φ ob 152 false 41 [v5]) ob fun v6 ob =>
 bnd (ext 0 v6) fun v7 =>
 bnd (ext 1 v6) fun v8 =>
 br v8 (
  bnd (fA 8 v1) fun v9 =>
  bndO (slc ob (.arr 32) v9 none none none) ob fun v10 ob =>
  bndO (ap ob 208 1 v7 v10) ob fun v11 ob =>
  fin ob os.length [1, 0] [v11, (.b true)]
 ) (
  fin ob os.length [1, 0] [v7, (.b true)]
 )
  )
def ann23 : Nat → Option Hd := fun _ => none
def lab23 : Nat → Option Hd := fun _ => none
noncomputable def m24 : Body := fun Φ N as os =>
  let a0 := gS (zipN 0 as) 0
  let ob := zipN 0 os
  bndO (al ob 80 [.e true, .e true, .i .i64 0, .i .i64 0]) ob fun v1 ob =>
  bndO (ca0 Φ ob 88 false 42 [(.i .u8 1)]) ob fun v2 ob =>
  bnd (bld [.i .i64 0, .i .i64 0, .e true] [(0, 1, (.i .i64 3)), (1, 1, (.i .i64 2)), (2, 1, v2)]) fun v3 =>
  bndO (ca0 Φ ob 104 false 42 [(.i .u8 2)]) ob fun v4 ob =>
  bnd (bld [.i .i64 0, .i .i64 0, .e true] [(0, 1, (.i .i64 7)), (2, 1, v4)]) fun v5 =>
  bndO (bldP ob 120 3 [v3, v5]) ob fun v6 ob =>
  bndO (ca0 Φ ob 128 false 43 []) ob fun v7 ob =>
  bndO (bldP ob 136 5 [v7]) ob fun v8 ob =>
  bnd (bld [.e true, .e true, .i .i64 0, .i .i64 0] [(0, 1, v6), (1, 1, v8), (2, 1, (.i .i64 9)), (3, 1, a0)]) fun v9 =>
  bndO (st ob 4 v1 v9) ob fun _ ob =>
  bnd (lN ob 4 v1) fun v10 =>
  fin ob os.length [0] [v10]
def ann24 : Nat → Option Hd := fun _ => none
def lab24 : Nat → Option Hd := fun _ => none
noncomputable def m25 : Body := fun Φ N as os =>
  let a0 := gS (zipN 0 as) 0
  let a1 := gS (zipN 0 as) 1
  let ob := zipN 0 os
  bndO (bx ob 88 a1) ob fun v1 ob =>
  bnd (fA 0 v1) fun v2 =>
  bnd (l1 ob v2) fun v3 =>
  bnd (bi .neq v3 (.i .i64 0)) fun v4 =>
  br v4 (
 fin ob os.length [0] [(.i .i64 0)]
  ) (
 bnd (fA 1 v1) fun v5 =>
 bnd (l1 ob v5) fun v6 =>
 bndO (ca0 Φ ob 184 false 20 [v6]) ob fun v7 ob =>
 bnd (ext 0 v7) fun v8 =>
 bnd (ext 1 v7) fun v9 =>
 bndO (al ob 104 [.i .i64 0, .i .i64 0, .i .u64 0, .i .u64 0, .i .i64 0, .i .u64 0, .i .i64 0, .i .i64 0, .blob 32 (List.replicate 32 (.i .u8 0))]) ob fun v10 ob =>
 bndO (st ob 40 v10 v8) ob fun _ ob =>
 bnd (bi .neq v9 (.i .i64 0)) fun v11 =>
 br v11 (
  fin ob os.length [0] [(.i .i64 0)]
 ) (
  bndO (mkm ob 224 .i64) ob fun v12 ob =>
  bndO (mpu ob .i64 v12 (.i .i64 0) (.fn 44 [] [])) ob fun _ ob =>
  bndO (mpu ob .i64 v12 (.i .i64 2) (.fn 45 [] [])) ob fun _ ob =>
  bndO (mpu ob .i64 v12 (.i .i64 4) (.fn 45 [] [])) ob fun _ ob =>
  bnd (fA 0 v10) fun v13 =>
  bnd (l1 ob v13) fun v14 =>
  bnd (mpl ob .i64 [.nf] v12 v14) fun v15 =>
  bnd (eNf true v15) fun v16 =>
  br v16 (
   bnd (lN ob 40 v10) fun v17 =>
   bnd (fA 2 v1) fun v18 =>
   bnd (l1 ob v18) fun v19 =>
   bndO (cav Φ ob 328 false v15 [a0, v17, v19]) ob fun v20 ob =>
   fin ob os.length [0] [v20]
  ) (
   fin ob os.length [0] [(.i .i64 0)]
  )
 )
  )
def ann25 : Nat → Option Hd := fun _ => none
def lab25 : Nat → Option Hd := fun _ => none
noncomputable def m26 : Body := fun Φ N as os =>
  let a0 := gS (zipN 0 as) 0
  let ob := zipN 0 os
  bndO (bx ob 72 a0) ob fun v1 ob =>
  bnd (fA 0 v1) fun v2 =>
  bnd (l1 ob v2) fun v3 =>
  bnd (bi .eql v3 (.i .i64 2)) fun v4 =>
  bnd (gd v4 false (fA 0 v1)) fun v5 =>
  bnd (gd v4 false (l1 ob v5)) fun v6 =>
  bnd (gd v4 false (bi .eql v6 (.i .i64 0))) fun v7 =>
  bnd (gd v4 false (some v7)) fun v8 =>
  bnd (gd v8 true (fA 3 v1)) fun v9 =>
  bnd (gd v8 true (l1 ob v9)) fun v10 =>
  bnd (gd v4 false (pk v8 v10 (.b false))) fun v11 =>
  bnd (pk v4 (.b true) v11) fun v12 =>
  fin ob os.length [0] [v12]
def ann26 : Nat → Option Hd := fun _ => none
def lab26 : Nat → Option Hd := fun _ => none
noncomputable def m27b0 (Φ : Sem') (N : Nat) (os : List Obj') (g : SL → OB → Option R) (sl : SL) (ob : OB) : Option R :=
  bnd (bi .geq (gS sl 9) (.i .i64 0)) fun v23 =>
  br v23 (
 bnd (xS ob 5 (gS sl 1) (gS sl 9)) fun v24 =>
 bnd (lN ob 5 v24) fun v25 =>
 bndO (ca0 Φ ob 456 false 29 [v25]) ob fun v26 ob =>
 br v26 (
  fin ob os.length [0] [(.i .i64 0)]
 ) (
  bnd (xS ob 5 (gS sl 1) (gS sl 9)) fun v27 =>
  bnd (lN ob 5 v27) fun v28 =>
  bndO (ca0 Φ ob 512 false 31 [v28]) ob fun v29 ob =>
  bnd (ext 0 v29) fun v30 =>
  bnd (ext 1 v29) fun v31 =>
  bndO (al ob 152 [.i .i64 0, .i .i64 0, .i .u64 0, .i .u64 0, .i .i64 0, .i .u64 0, .i .i64 0, .i .i64 0, .blob 32 (List.replicate 32 (.i .u8 0))]) ob fun v32 ob =>
  bndO (st ob 40 v32 v30) ob fun _ ob =>
  bnd (bi .eql v31 (.i .i64 0)) fun v33 =>
  bnd (gd v33 true (some (gS sl 1))) fun v34 =>
  bnd (gd v33 true (some (gS sl 9))) fun v35 =>
  bnd (gd v33 true (xS ob 5 v34 v35)) fun v36 =>
  bnd (gd v33 true (fA 2 v36)) fun v37 =>
  bnd (gd v33 true (l1 ob v37)) fun v38 =>
  bnd (gd v33 true (fA 2 (gS sl 7))) fun v39 =>
  bnd (gd v33 true (l1 ob v39)) fun v40 =>
  bnd (gd v33 true (bi .eql v38 v40)) fun v41 =>
  bnd (pk v33 v41 (.b false)) fun v42 =>
  bnd (gd v42 true (fA 0 (gS sl 3))) fun v43 =>
  bnd (gd v42 true (l1 ob v43)) fun v44 =>
  bnd (gd v42 true (fA 1 v32)) fun v45 =>
  bnd (gd v42 true (l1 ob v45)) fun v46 =>
  bndO (gdO v42 true (ca0 Φ ob 672 true 46 [v44, v46])) ob fun v47 ob =>
  bnd (gd v42 true (bi .geq v47 (.i .i64 0))) fun v48 =>
  bnd (pk v42 v48 (.b false)) fun v49 =>
  br v49 (
   bnd (fA 1 v32) fun v50 =>
   bnd (l1 ob v50) fun v51 =>
   fin ob os.length [0] [v51]
  ) (
   bnd (bi .sub (gS sl 9) (.i .i64 1)) fun v52 =>
   bnd (head [] [1, 3, 7, 9] [88, 120] [(1, (gS sl 1)), (3, (gS sl 3)), (7, (gS sl 7)), (9, v52)] ob) fun x => g x.1 x.2
  )
 )
  ) (
 fin ob os.length [0] [(.i .i64 0)]
  )
noncomputable def m27 : Body := fun Φ N as os =>
  let a0 := gS (zipN 0 as) 0
  let a1 := gS (zipN 0 as) 1
  let a2 := gS (zipN 0 as) 2
  let ob := zipN 0 os
  bndO (bx ob 88 a0) ob fun v1 ob =>
  bnd (xS ob 5 a1 a2) fun v2 =>
  bnd (lN ob 5 v2) fun v3 =>
  bndO (ca0 Φ ob 208 false 31 [v3]) ob fun v4 ob =>
  bnd (ext 0 v4) fun v5 =>
  bnd (ext 1 v4) fun v6 =>
  bndO (al ob 120 [.i .i64 0, .i .i64 0, .i .u64 0, .i .u64 0, .i .i64 0, .i .u64 0, .i .i64 0, .i .i64 0, .blob 32 (List.replicate 32 (.i .u8 0))]) ob fun v7 ob =>
  bndO (st ob 40 v7 v5) ob fun _ ob =>
  bnd (bi .eql v6 (.i .i64 0)) fun v8 =>
  bnd (gd v8 true (fA 0 v1)) fun v9 =>
  bnd (gd v8 true (l1 ob v9)) fun v10 =>
  bnd (gd v8 true (fA 1 v7)) fun v11 =>
  bnd (gd v8 true (l1 ob v11)) fun v12 =>
  bndO (gdO v8 true (ca0 Φ ob 288 true 46 [v10, v12])) ob fun v13 ob =>
  bnd (gd v8 true (bi .geq v13 (.i .i64 0))) fun v14 =>
  bnd (pk v8 v14 (.b false)) fun v15 =>
  br v15 (
 bnd (fA 1 v7) fun v16 =>
 bnd (l1 ob v16) fun v17 =>
 fin ob os.length [0] [v17]
  ) (
 bnd (bi .neq v6 (.i .i64 2)) fun v18 =>
 bnd (gd v18 true (some v6)) fun v19 =>
 bnd (gd v18 true (bi .neq v19 (.i .i64 4))) fun v20 =>
 bnd (pk v18 v20 (.b false)) fun v21 =>
 br v21 (
  fin ob os.length [0] [(.i .i64 0)]
 ) (
  bnd (bi .sub a2 (.i .i64 1)) fun v22 =>
  bnd (head [] [1, 3, 7, 9] [88, 120] [(1, a1), (3, v1), (7, v7), (9, v22)] ob) fun x => loopC (m27b0 Φ N os) N x.1 x.2
 )
  )
def ann27 : Nat → Option Hd
  | 7 => some ⟨[], [1, 3, 7, 9], [88, 120], []⟩ | _ => none
def lab27 : Nat → Option Hd := fun _ => none
noncomputable def m28 : Body := fun Φ N as os =>
  let a0 := gS (zipN 0 as) 0
  let ob := zipN 0 os
  bnd (eNs false ob a0) fun v1 =>
  br v1 (
 fin ob os.length [1] [(.e true)]
  ) (
 bndO (bldS ob 104 1 []) ob fun v2 ob =>
 bndO (ap ob 120 1 v2 a0) ob fun v3 ob =>
 fin ob os.length [1] [v3]
  )
def ann28 : Nat → Option Hd := fun _ => none
def lab28 : Nat → Option Hd := fun _ => none
noncomputable def m29 : Body := fun Φ N as os =>
  let a0 := gS (zipN 0 as) 0
  let ob := zipN 0 os
  bndO (bx ob 72 a0) ob fun v1 ob =>
  bnd (fA 0 v1) fun v2 =>
  bnd (l1 ob v2) fun v3 =>
  bnd (bi .eql v3 (.i .i64 2)) fun v4 =>
  bnd (gd v4 false (fA 0 v1)) fun v5 =>
  bnd (gd v4 false (l1 ob v5)) fun v6 =>
  bnd (gd v4 false (bi .eql v6 (.i .i64 0))) fun v7 =>
  bnd (gd v4 false (some v7)) fun v8 =>
  bnd (gd v8 true (fA 3 v1)) fun v9 =>
  bnd (gd v8 true (l1 ob v9)) fun v10 =>
  bnd (gd v4 false (pk v8 v10 (.b false))) fun v11 =>
  bnd (pk v4 (.b true) v11) fun v12 =>
  fin ob os.length [0] [v12]
def ann29 : Nat → Option Hd := fun _ => none
def lab29 : Nat → Option Hd := fun _ => none
noncomputable def m30 : Body := fun Φ N as os =>
  let a0 := gS (zipN 0 as) 0
  let a1 := gS (zipN 0 as) 1
  let ob := zipN 0 os
  bndO (ca0 Φ ob 128 true 46 [a0, a1]) ob fun v1 ob =>
  bnd (bi .lss v1 (.i .i64 0)) fun v2 =>
  br v2 (
 fin ob os.length [0] [(.i .i64 (-1))]
  ) (
 bnd (xS ob 3 a0 v1) fun v3 =>
 bnd (fA 1 v3) fun v4 =>
 bnd (l1 ob v4) fun v5 =>
 fin ob os.length [0] [v5]
  )
def ann30 : Nat → Option Hd := fun _ => none
def lab30 : Nat → Option Hd := fun _ => none
noncomputable def m31 : Body := fun Φ N as os =>
  let a0 := gS (zipN 0 as) 0
  let ob := zipN 0 os
  bndO (bx ob 72 a0) ob fun v1 ob =>
  bndO (al ob 80 [.i .i64 0, .i .i64 0, .i .u64 0, .i .u64 0, .i .i64 0, .i .u64 0, .i .i64 0, .i .i64 0, .blob 32 (List.replicate 32 (.i .u8 0))]) ob fun v2 ob =>
  bnd (fA 1 v1) fun v3 =>
  bnd (l1 ob v3) fun v4 =>
  bndO (ca0 Φ ob 136 false 47 [v4]) ob fun v5 ob =>
  bnd (ext 0 v5) fun v6 =>
  bnd (ext 1 v5) fun v7 =>
  bndO (al ob 96 [.i .i64 0, .i .i64 0, .i .u64 0, .i .u64 0, .i .i64 0, .i .u64 0, .i .i64 0, .i .i64 0, .blob 32 (List.replicate 32 (.i .u8 0))]) ob fun v8 ob =>
  bndO (st ob 40 v8 v6) ob fun _ ob =>
  bnd (fA 0 v1) fun v9 =>
  bnd (l1 ob v9) fun v10 =>
  bnd (bi .neq v10 (.i .i64 0)) fun v11 =>
  bnd (gd v11 false (some v7)) fun v12 =>
  bnd (gd v11 false (bi .neq v12 (.i .i64 0))) fun v13 =>
  bnd (pk v11 (.b true) v13) fun v14 =>
  br v14 (
 bnd (bld [.i .i64 0, .i .i64 0, .i .u64 0, .i .u64 0, .i .i64 0, .i .u64 0, .i .i64 0, .i .i64 0, .blob 32 (List.replicate 32 (.i .u8 0))] []) fun v15 =>
 bndO (st ob 40 v2 v15) ob fun _ ob =>
 bnd (lN ob 40 v2) fun v16 =>
 fin ob os.length [0, 0] [v16, (.i .i64 (-1))]
  ) (
 bnd (lN ob 40 v8) fun v17 =>
 bnd (fA 0 v8) fun v18 =>
 bnd (l1 ob v18) fun v19 =>
 bnd (dis [v18] [v2, v17]) fun _ =>
 bndO (st ob 40 v2 v17) ob fun _ ob =>
 bnd (lN ob 40 v2) fun v20 =>
 fin ob os.length [0, 0] [v20, v19]
  )
def ann31 : Nat → Option Hd := fun _ => none
def lab31 : Nat → Option Hd := fun _ => none
noncomputable def m32 : Body := fun Φ N as os =>
  let a0 := gS (zipN 0 as) 0
  let a1 := gS (zipN 0 as) 1
  let ob := zipN 0 os
  bndO (ca0 Φ ob 120 false 48 [a0, a1]) ob fun v1 ob =>
  bnd (bi .geq v1 (.i .i64 0)) fun v2 =>
  fin ob os.length [0] [v2]
def ann32 : Nat → Option Hd := fun _ => none
def lab32 : Nat → Option Hd := fun _ => none
noncomputable def m33 : Body := fun Φ N as os =>
  let a0 := gS (zipN 0 as) 0
  let ob := zipN 0 os
  bndO (ca0 Φ ob 120 false 35 [a0, (.i .i64 0), (.i .i64 2)]) ob fun v1 ob =>
  bnd (ext 0 v1) fun v2 =>
  bnd (ext 1 v1) fun v3 =>
  bnd (bi .eql v3 (.i .i64 (-1))) fun v4 =>
  bnd (gd v4 false (some v2)) fun v5 =>
  bnd (gd v4 false (cv .i64 v5)) fun v6 =>
  bnd (gd v4 false (some a0)) fun v7 =>
  bnd (gd v4 false (len v7)) fun v8 =>
  bnd (gd v4 false (bi .sub v8 (.i .i64 2))) fun v9 =>
  bnd (gd v4 false (bi .gtr v6 v9)) fun v10 =>
  bnd (pk v4 (.b true) v10) fun v11 =>
  br v11 (
 fin ob os.length [0] [(.i .i64 (-1))]
  ) (
 bnd (cv .i64 v2) fun v12 =>
 bnd (bi .add (.i .i64 2) v12) fun v13 =>
 fin ob os.length [0] [v13]
  )
def ann33 : Nat → Option Hd := fun _ => none
def lab33 : Nat → Option Hd := fun _ => none
noncomputable def m34 : Body := fun Φ N as os =>
  let a0 := gS (zipN 0 as) 0
  let ob := zipN 0 os
  bnd (nc a0) fun v1 =>
  bnd (fA 0 v1) fun v2 =>
  bnd (l1 ob v2) fun v3 =>
  bnd (bi .eql v3 (.i .i64 0)) fun v4 =>
  br v4 (
 bnd (nc a0) fun v5 =>
 bnd (fA 1 v5) fun v6 =>
 bnd (bld [.np, .np, .i .i64 0] [(0, 1, v6), (2, 1, (.i .i64 1))]) fun v7 =>
 bnd (nc a0) fun v8 =>
 bnd (fA 3 v8) fun v9 =>
 bnd (bld [.np, .np, .i .i64 0] [(1, 1, v9), (2, 1, (.i .i64 8))]) fun v10 =>
 bndO (bldS ob 296 3 [v7, v10]) ob fun v11 ob =>
 finG ob os.length [v11, (.b false)]
  ) (
 bnd (bi .eql v3 (.i .i64 1)) fun v12 =>
 br v12 (
  bnd (nc a0) fun v13 =>
  bnd (fA 2 v13) fun v14 =>
  bnd (bld [.np, .np, .i .i64 0] [(1, 1, v14), (2, 1, (.i .i64 8))]) fun v15 =>
  bnd (nc a0) fun v16 =>
  bnd (fA 4 v16) fun v17 =>
  bnd (bld [.np, .np, .i .i64 0] [(0, 1, v17), (2, 1, (.i .i64 4))]) fun v18 =>
  bndO (bldS ob 368 3 [v15, v18]) ob fun v19 ob =>
  finG ob os.length [v19, (.b false)]
 ) (
  bnd (bi .eql v3 (.i .i64 6)) fun v20 =>
  br v20 (
   bnd (nc a0) fun v21 =>
   bnd (fA 6 v21) fun v22 =>
   bnd (bld [.np, .np, .i .i64 0] [(0, 1, v22), (2, 1, (.i .i64 1))]) fun v23 =>
   bndO (bldS ob 408 3 [v23]) ob fun v24 ob =>
   finG ob os.length [v24, (.b false)]
  ) (
   bnd (bi .eql v3 (.i .i64 4)) fun v25 =>
   br v25 (
    br v25 (
     bnd (nc a0) fun v26 =>
     bnd (fA 5 v26) fun v27 =>
     bnd (bld [.np, .np, .i .i64 0] [(1, 1, v27), (2, 1, (.i .i64 8))]) fun v28 =>
     bnd (nc a0) fun v29 =>
     bnd (fA 6 v29) fun v30 =>
     bnd (bld [.np, .np, .i .i64 0] [(0, 1, v30), (2, 1, (.i .i64 1))]) fun v31 =>
     bnd (nc a0) fun v32 =>
     bnd (fA 7 v32) fun v33 =>
     bnd (bld [.np, .np, .i .i64 0] [(0, 1, v33), (2, 1, (.i .i64 2))]) fun v34 =>
     bndO (bldS ob 512 3 [v28, v31, v34]) ob fun v35 ob =>
     bnd (nc a0) fun v36 =>
     bnd (fA 2 v36) fun v37 =>
     bnd (bld [.np, .np, .i .i64 0] [(1, 1, v37), (2, 1, (.i .i64 8))]) fun v38 =>
     bndO (bldS ob 560 3 [v38]) ob fun v39 ob =>
     bndO (ca Φ ob 568 true 49 [v35, (.i .i64 0), v39]) ob fun v40 ob =>
     bnd (eNs true ob v40) fun v41 =>
     finG ob os.length [v40, v41]
    ) (
     bnd (bi .eql v3 (.i .i64 2)) fun v42 =>
     br v42 (
      br v42 (
       bnd (nc a0) fun v43 =>
       bnd (fA 2 v43) fun v44 =>
       bnd (bld [.np, .np, .i .i64 0] [(1, 1, v44), (2, 1, (.i .i64 8))]) fun v45 =>
       bndO (bldS ob 560 3 [v45]) ob fun v46 ob =>
       bndO (ca Φ ob 568 true 49 [(.e true), (.i .i64 0), v46]) ob fun v47 ob =>
       bnd (eNs true ob v47) fun v48 =>
       finG ob os.length [v47, v48]
      ) (
       bnd (eNs true ob (.e true)) fun v49 =>
       finG ob os.length [(.e true), v49]
      )
     ) (
      bnd (bi .eql v3 (.i .i64 3)) fun v50 =>
      br v50 (
       bnd (nc a0) fun v51 =>
       bnd (fA 2 v51) fun v52 =>
       bnd (bld [.np, .np, .i .i64 0] [(1, 1, v52), (2, 1, (.i .i64 8))]) fun v53 =>
       bndO (bldS ob 560 3 [v53]) ob fun v54 ob =>
       bndO (ca Φ ob 568 true 49 [(.e true), (.i .i64 0), v54]) ob fun v55 ob =>
       bnd (eNs true ob v55) fun v56 =>
       finG ob os.length [v55, v56]
      ) (
       bnd (eNs true ob (.e true)) fun v57 =>
       finG ob os.length [(.e true), v57]
      )
     )
    )
   ) (
    bnd (bi .eql v3 (.i .i64 5)) fun v58 =>
    br v58 (
     bnd (nc a0) fun v59 =>
     bnd (fA 5 v59) fun v60 =>
     bnd (bld [.np, .np, .i .i64 0] [(1, 1, v60), (2, 1, (.i .i64 8))]) fun v61 =>
     bnd (nc a0) fun v62 =>
     bnd (fA 6 v62) fun v63 =>
     bnd (bld [.np, .np, .i .i64 0] [(0, 1, v63), (2, 1, (.i .i64 1))]) fun v64 =>
     bnd (nc a0) fun v65 =>
     bnd (fA 7 v65) fun v66 =>
     bnd (bld [.np, .np, .i .i64 0] [(0, 1, v66), (2, 1, (.i .i64 2))]) fun v67 =>
     bndO (bldS ob 512 3 [v61, v64, v67]) ob fun v68 ob =>
     bnd (nc a0) fun v69 =>
     bnd (fA 2 v69) fun v70 =>
     bnd (bld [.np, .np, .i .i64 0] [(1, 1, v70), (2, 1, (.i .i64 8))]) fun v71 =>
     bndO (bldS ob 560 3 [v71]) ob fun v72 ob =>
     bndO (ca Φ ob 568 true 49 [v68, (.i .i64 0), v72]) ob fun v73 ob =>
     bnd (eNs true ob v73) fun v74 =>
     finG ob os.length [v73, v74]
    ) (
     bnd (bi .eql v3 (.i .i64 2)) fun v75 =>
     br v75 (
      br v75 (
       bnd (nc a0) fun v76 =>
       bnd (fA 2 v76) fun v77 =>
       bnd (bld [.np, .np, .i .i64 0] [(1, 1, v77), (2, 1, (.i .i64 8))]) fun v78 =>
       bndO (bldS ob 560 3 [v78]) ob fun v79 ob =>
       bndO (ca Φ ob 568 true 49 [(.e true), (.i .i64 0), v79]) ob fun v80 ob =>
       bnd (eNs true ob v80) fun v81 =>
       finG ob os.length [v80, v81]
      ) (
       bnd (eNs true ob (.e true)) fun v82 =>
       finG ob os.length [(.e true), v82]
      )
     ) (
      bnd (bi .eql v3 (.i .i64 3)) fun v83 =>
      br v83 (
       bnd (nc a0) fun v84 =>
       bnd (fA 2 v84) fun v85 =>
       bnd (bld [.np, .np, .i .i64 0] [(1, 1, v85), (2, 1, (.i .i64 8))]) fun v86 =>
       bndO (bldS ob 560 3 [v86]) ob fun v87 ob =>
       bndO (ca Φ ob 568 true 49 [(.e true), (.i .i64 0), v87]) ob fun v88 ob =>
       bnd (eNs true ob v88) fun v89 =>
       finG ob os.length [v88, v89]
      ) (
       bnd (eNs true ob (.e true)) fun v90 =>
       finG ob os.length [(.e true), v90]
      )
     )
    )
   )
  )
 )
  )
def ann34 : Nat → Option Hd := fun _ => none
def lab34 : Nat → Option Hd := fun _ => none
noncomputable def m35b0 (Φ : Sem') (N : Nat) (os : List Obj') (g : SL → OB → Option R) (sl : SL) (ob : OB) : Option R :=
  bnd (bi .lss (gS sl 42) (gS sl 41)) fun v22 =>
  br v22 (
 bnd (xS ob 1 (gS sl 40) (gS sl 42)) fun v23 =>
 bnd (l1 ob v23) fun v24 =>
 bnd (bi .shl (gS sl 8) (.i .u64 8)) fun v25 =>
 bnd (cv .u64 v24) fun v26 =>
 bnd (bi .or v25 v26) fun v27 =>
 bnd (bi .add (gS sl 42) (.i .i64 1)) fun v28 =>
 bnd (head [] [1, 2, 8, 40, 41, 42] [] [(1, (gS sl 1)), (2, (gS sl 2)), (8, v27), (40, (gS sl 40)), (41, (gS sl 41)), (42, v28)] ob) fun x => g x.1 x.2
  ) (
 bnd (bi .add (gS sl 1) (gS sl 2)) fun v29 =>
 fin ob os.length [0, 0] [(gS sl 8), v29]
  )
noncomputable def m35 : Body := fun Φ N as os =>
  let a0 := gS (zipN 0 as) 0
  let a1 := gS (zipN 0 as) 1
  let a2 := gS (zipN 0 as) 2
  let ob := zipN 0 os
  bndO (ca0 Φ ob 160 false 50 [a2]) ob fun v1 ob =>
  bnd (uO .not v1) fun v2 =>
  bnd (gd v2 false (some a1)) fun v3 =>
  bnd (gd v2 false (bi .lss v3 (.i .i64 0))) fun v4 =>
  bnd (pk v2 (.b true) v4) fun v5 =>
  bnd (gd v5 false (some a1)) fun v6 =>
  bnd (gd v5 false (some a0)) fun v7 =>
  bnd (gd v5 false (len v7)) fun v8 =>
  bnd (gd v5 false (bi .gtr v6 v8)) fun v9 =>
  bnd (pk v5 (.b true) v9) fun v10 =>
  bnd (gd v10 false (some a0)) fun v11 =>
  bnd (gd v10 false (len v11)) fun v12 =>
  bnd (gd v10 false (some a1)) fun v13 =>
  bnd (gd v10 false (bi .sub v12 v13)) fun v14 =>
  bnd (gd v10 false (some a2)) fun v15 =>
  bnd (gd v10 false (bi .lss v14 v15)) fun v16 =>
  bnd (pk v10 (.b true) v16) fun v17 =>
  br v17 (
 fin ob os.length [0, 0] [(.i .u64 0), (.i .i64 (-1))]
  ) (
 bnd (bi .add a1 a2) fun v18 =>
 bnd (bi .add a1 a2) fun v19 =>
 bndO (slc ob (.slice 1) a0 (some a1) (some v18) (some v19)) ob fun v20 ob =>
 bnd (len v20) fun v21 =>
 bnd (head [] [1, 2, 8, 40, 41, 42] [] [(1, a1), (2, a2), (8, (.i .u64 0)), (40, v20), (41, v21), (42, (.i .i64 0))] ob) fun x => loopC (m35b0 Φ N os) N x.1 x.2
  )
def ann35 : Nat → Option Hd
  | 5 => some ⟨[], [1, 2, 8, 40, 41, 42], [], []⟩ | _ => none
def lab35 : Nat → Option Hd := fun _ => none
noncomputable def m36b0 (Φ : Sem') (N : Nat) (os : List Obj') (g : SL → OB → Option R) (sl : SL) (ob : OB) : Option R :=
  bnd (bi .lss (gS sl 13) (gS sl 12)) fun v5 =>
  br v5 (
 bnd (xS ob 1 (gS sl 0) (gS sl 13)) fun v6 =>
 bnd (l1 ob v6) fun v7 =>
 bnd (xS ob 1 (gS sl 1) (gS sl 13)) fun v8 =>
 bnd (l1 ob v8) fun v9 =>
 bnd (bi .neq v7 v9) fun v10 =>
 br v10 (
  fin ob os.length [0] [(.b false)]
 ) (
  bnd (bi .add (gS sl 13) (.i .i64 1)) fun v11 =>
  bnd (head [] [0, 1, 12, 13] [] [(0, (gS sl 0)), (1, (gS sl 1)), (12, (gS sl 12)), (13, v11)] ob) fun x => g x.1 x.2
 )
  ) (
 fin ob os.length [0] [(.b true)]
  )
noncomputable def m36 : Body := fun Φ N as os =>
  let a0 := gS (zipN 0 as) 0
  let a1 := gS (zipN 0 as) 1
  let ob := zipN 0 os
  bnd (len a0) fun v1 =>
  bnd (len a1) fun v2 =>
  bnd (bi .neq v1 v2) fun v3 =>
  br v3 (
 fin ob os.length [0] [(.b false)]
  ) (
 bnd (len a0) fun v4 =>
 bnd (head [] [0, 1, 12, 13] [] [(0, a0), (1, a1), (12, v4), (13, (.i .i64 0))] ob) fun x => loopC (m36b0 Φ N os) N x.1 x.2
  )
def ann36 : Nat → Option Hd
  | 4 => some ⟨[], [0, 1, 12, 13], [], []⟩ | _ => none
def lab36 : Nat → Option Hd := fun _ => none
noncomputable def m37b0 (Φ : Sem') (N : Nat) (os : List Obj') (g : SL → OB → Option R) (sl : SL) (ob : OB) : Option R :=
  bnd (bi .lss (gS sl 9) (gS sl 8)) fun v2 =>
  br v2 (
 bnd (xS ob 3 (gS sl 7) (gS sl 9)) fun v3 =>
 bnd (lN ob 3 v3) fun v4 =>
 bndO (al ob 112 [.i .i64 0, .i .i64 0, .e true]) ob fun v5 ob =>
 bndO (st ob 3 v5 v4) ob fun _ ob =>
 bnd (fA 0 v5) fun v6 =>
 bnd (l1 ob v6) fun v7 =>
 bnd (bi .add (gS sl 3) (.i .i64 1)) fun v8 =>
 bndO (ca0 Φ ob 200 false 51 [v7, v8, (.i .i64 255)]) ob fun v9 ob =>
 bnd (uO .not v9) fun v10 =>
 bnd (gd v10 false (fA 1 v5)) fun v11 =>
 bnd (gd v10 false (l1 ob v11)) fun v12 =>
 bndO (gdO v10 false (ca0 Φ ob 240 false 52 [v12])) ob fun v13 ob =>
 bnd (gd v10 false (uO .not v13)) fun v14 =>
 bnd (pk v10 (.b true) v14) fun v15 =>
 bnd (gd v15 false (fA 2 v5)) fun v16 =>
 bnd (gd v15 false (l1 ob v16)) fun v17 =>
 bnd (gd v15 false (len v17)) fun v18 =>
 bndO (gdO v15 false (ca0 Φ ob 296 false 51 [v18, (.i .i64 16), (.i .i64 64)])) ob fun v19 ob =>
 bnd (gd v15 false (uO .not v19)) fun v20 =>
 bnd (pk v15 (.b true) v20) fun v21 =>
 br v21 (
  bnd (uO .not v21) fun v22 =>
  bnd (gd v22 true (some (gS sl 0))) fun v23 =>
  bnd (gd v22 true (len v23)) fun v24 =>
  bnd (gd v22 true (bi .leq v24 (.i .i64 8))) fun v25 =>
  bnd (pk v22 v25 (.b false)) fun v26 =>
  fin ob os.length [0] [v26]
 ) (
  bnd (fA 0 v5) fun v27 =>
  bnd (l1 ob v27) fun v28 =>
  bnd (bi .add (gS sl 9) (.i .i64 1)) fun v29 =>
  bnd (head [] [0, 3, 4, 7, 8, 9] [] [(0, (gS sl 0)), (3, v28), (4, v21), (7, (gS sl 7)), (8, (gS sl 8)), (9, v29)] ob) fun x => g x.1 x.2
 )
  ) (
 bnd (uO .not (gS sl 4)) fun v30 =>
 bnd (gd v30 true (some (gS sl 0))) fun v31 =>
 bnd (gd v30 true (len v31)) fun v32 =>
 bnd (gd v30 true (bi .leq v32 (.i .i64 8))) fun v33 =>
 bnd (pk v30 v33 (.b false)) fun v34 =>
 fin ob os.length [0] [v34]
  )
noncomputable def m37j1 (Φ : Sem') (N : Nat) (os : List Obj') (g : SL → OB → Option R) (sl : SL) (ob : OB) : Option R :=
  bnd (len (gS sl 0)) fun v1 =>
  bnd (head [] [0, 3, 4, 7, 8, 9] [] [(0, (gS sl 0)), (3, (gS sl 3)), (4, (gS sl 4)), (7, (gS sl 0)), (8, v1), (9, (.i .i64 0))] ob) fun x => loopC (m37b0 Φ N os) N x.1 x.2
noncomputable def m37b2 (Φ : Sem') (N : Nat) (os : List Obj') (g : SL → OB → Option R) (sl : SL) (ob : OB) : Option R :=
  bnd (bi .lss (gS sl 9) (gS sl 8)) fun v36 =>
  br v36 (
 bnd (xS ob 3 (gS sl 7) (gS sl 9)) fun v37 =>
 bnd (lN ob 3 v37) fun v38 =>
 bndO (al ob 112 [.i .i64 0, .i .i64 0, .e true]) ob fun v39 ob =>
 bndO (st ob 3 v39 v38) ob fun _ ob =>
 bnd (fA 0 v39) fun v40 =>
 bnd (l1 ob v40) fun v41 =>
 bnd (bi .add (gS sl 3) (.i .i64 1)) fun v42 =>
 bndO (ca0 Φ ob 200 false 51 [v41, v42, (.i .i64 255)]) ob fun v43 ob =>
 bnd (uO .not v43) fun v44 =>
 bnd (gd v44 false (fA 1 v39)) fun v45 =>
 bnd (gd v44 false (l1 ob v45)) fun v46 =>
 bndO (gdO v44 false (ca0 Φ ob 240 false 52 [v46])) ob fun v47 ob =>
 bnd (gd v44 false (uO .not v47)) fun v48 =>
 bnd (pk v44 (.b true) v48) fun v49 =>
 bnd (gd v49 false (fA 2 v39)) fun v50 =>
 bnd (gd v49 false (l1 ob v50)) fun v51 =>
 bnd (gd v49 false (len v51)) fun v52 =>
 bndO (gdO v49 false (ca0 Φ ob 296 false 51 [v52, (.i .i64 16), (.i .i64 64)])) ob fun v53 ob =>
 bnd (gd v49 false (uO .not v53)) fun v54 =>
 bnd (pk v49 (.b true) v54) fun v55 =>
 br v55 (
  bnd (uO .not v55) fun v56 =>
  bnd (gd v56 true (some (gS sl 0))) fun v57 =>
  bnd (gd v56 true (len v57)) fun v58 =>
  bnd (gd v56 true (bi .leq v58 (.i .i64 8))) fun v59 =>
  bnd (pk v56 v59 (.b false)) fun v60 =>
  fin ob os.length [0] [v60]
 ) (
  bnd (fA 0 v39) fun v61 =>
  bnd (l1 ob v61) fun v62 =>
  bnd (bi .add (gS sl 9) (.i .i64 1)) fun v63 =>
  bnd (head [] [0, 3, 4, 7, 8, 9] [] [(0, (gS sl 0)), (3, v62), (4, v55), (7, (gS sl 7)), (8, (gS sl 8)), (9, v63)] ob) fun x => g x.1 x.2
 )
  ) (
 bnd (uO .not (gS sl 4)) fun v64 =>
 bnd (gd v64 true (some (gS sl 0))) fun v65 =>
 bnd (gd v64 true (len v65)) fun v66 =>
 bnd (gd v64 true (bi .leq v66 (.i .i64 8))) fun v67 =>
 bnd (pk v64 v67 (.b false)) fun v68 =>
 fin ob os.length [0] [v68]
  )
noncomputable def m37 : Body := fun Φ N as os =>
  let a0 := gS (zipN 0 as) 0
  let ob := zipN 0 os
  bnd (len a0) fun v35 =>
  bnd (head [] [0, 3, 4, 7, 8, 9] [] [(0, a0), (3, (.i .i64 0)), (4, (.b false)), (7, a0), (8, v35), (9, (.i .i64 0))] ob) fun x => loopC (m37b2 Φ N os) N x.1 x.2
def ann37 : Nat → Option Hd
  | 3 => some ⟨[], [0, 3, 4, 7, 8, 9], [], []⟩ | _ => none
def lab37 : Nat → Option Hd
  | 0 => some ⟨[], [0, 3, 4], [], []⟩ | _ => none
noncomputable def m38b0 (Φ : Sem') (N : Nat) (os : List Obj') (g : SL → OB → Option R) (sl : SL) (ob : OB) : Option R :=
  bnd (bi .lss (gS sl 5) (gS sl 6)) fun v1 =>
  br v1 (
 bnd (bi .add (gS sl 5) (gS sl 6)) fun v2 =>
 bnd (cv .u64 v2) fun v3 =>
 bnd (bi .shr v3 (.i .u64 1)) fun v4 =>
 bnd (cv .i64 v4) fun v5 =>
 bndO (cav Φ ob 224 false (gS sl 1) [v5]) ob fun v6 ob =>
 bnd (uO .not v6) fun v7 =>
 br v7 (
  bnd (bi .add v5 (.i .i64 1)) fun v8 =>
  bnd (head [] [1, 5, 6] [0, 1] [(1, (gS sl 1)), (5, v8), (6, (gS sl 6))] ob) fun x => g x.1 x.2
 ) (
  bnd (head [] [1, 5, 6] [0, 1] [(1, (gS sl 1)), (5, (gS sl 5)), (6, v5)] ob) fun x => g x.1 x.2
 )
  ) (
 fin ob os.length [0] [(gS sl 5)]
  )
noncomputable def m38 : Body := fun Φ N as os =>
  let a0 := gS (zipN 0 as) 0
  let a1 := gS (zipN 0 as) 1
  let ob := zipN 0 os
  bnd (head [] [1, 5, 6] [0, 1] [(1, a1), (5, (.i .i64 0)), (6, a0)] ob) fun x => loopC (m38b0 Φ N os) N x.1 x.2
def ann38 : Nat → Option Hd
  | 2 => some ⟨[], [1, 5, 6], [0, 1], []⟩ | _ => none
def lab38 : Nat → Option Hd := fun _ => none
noncomputable def m39 : Body := fun Φ N as os =>
  let a0 := gS (zipN 0 as) 0
  let a1 := gS (zipN 0 as) 1
  let a2 := gS (zipN 0 as) 2
  let ob := zipN 0 os
  bnd (l1 ob a1) fun v1 =>
  bnd (xS ob 3 v1 a0) fun v2 =>
  bnd (fA 0 v2) fun v3 =>
  bnd (l1 ob v3) fun v4 =>
  bnd (l1 ob a2) fun v5 =>
  bnd (bi .geq v4 v5) fun v6 =>
  fin ob os.length [0] [v6]
def ann39 : Nat → Option Hd := fun _ => none
def lab39 : Nat → Option Hd := fun _ => none
noncomputable def m40 : Body := fun Φ N as os =>
  let a0 := gS (zipN 0 as) 0
  let ob := zipN 0 os
  bndO (bx ob 72 a0) ob fun v1 ob =>
  bnd (fA 0 v1) fun v2 =>
  bnd (l1 ob v2) fun v3 =>
  bndO (ca0 Φ ob 112 false 54 [v3]) ob fun v4 ob =>
  bnd (gd v4 true (some (.fn 53 [] []))) fun v5 =>
  bnd (gd v4 true (fA 1 v1)) fun v6 =>
  bnd (gd v4 true (l1 ob v6)) fun v7 =>
  bndO (gdO v4 true (cav Φ ob 152 false v5 [v7, (.i .i64 255)])) ob fun v8 ob =>
  bnd (pk v4 v8 (.b false)) fun v9 =>
  bnd (gd v9 true (some (.fn 53 [] []))) fun v10 =>
  bnd (gd v9 true (fA 4 v1)) fun v11 =>
  bnd (gd v9 true (l1 ob v11)) fun v12 =>
  bndO (gdO v9 true (cav Φ ob 200 false v10 [v12, (.i .i64 1073741824)])) ob fun v13 ob =>
  bnd (pk v9 v13 (.b false)) fun v14 =>
  bnd (gd v14 true (some (.fn 53 [] []))) fun v15 =>
  bnd (gd v14 true (fA 6 v1)) fun v16 =>
  bnd (gd v14 true (l1 ob v16)) fun v17 =>
  bndO (gdO v14 true (cav Φ ob 248 false v15 [v17, (.i .i64 255)])) ob fun v18 ob =>
  bnd (pk v14 v18 (.b false)) fun v19 =>
  bnd (gd v19 true (some (.fn 53 [] []))) fun v20 =>
  bnd (gd v19 true (fA 7 v1)) fun v21 =>
  bnd (gd v19 true (l1 ob v21)) fun v22 =>
  bndO (gdO v19 true (cav Φ ob 296 false v20 [v22, (.i .i64 65535)])) ob fun v23 ob =>
  bnd (pk v19 v23 (.b false)) fun v24 =>
  bnd (gd v24 true (lN ob 40 v1)) fun v25 =>
  bndO (gdO v24 true (ca0 Φ ob 328 false 55 [v25])) ob fun v26 ob =>
  bnd (gd v24 true (lN ob 40 v1)) fun v27 =>
  bnd (gd v24 true (eSt false [.i, .i, .i, .i, .i, .i, .i, .i, .a 32] v26 v27)) fun v28 =>
  bnd (pk v24 v28 (.b false)) fun v29 =>
  fin ob os.length [0] [v29]
def ann40 : Nat → Option Hd := fun _ => none
def lab40 : Nat → Option Hd := fun _ => none
noncomputable def m41b0 (Φ : Sem') (N : Nat) (os : List Obj') (g : SL → OB → Option R) (sl : SL) (ob : OB) : Option R :=
  bnd (bi .lss (gS sl 25) (gS sl 24)) fun v12 =>
  br v12 (
 bnd (xS ob 3 (gS sl 23) (gS sl 25)) fun v13 =>
 bnd (lN ob 3 v13) fun v14 =>
 bndO (al ob 136 [.np, .np, .i .i64 0]) ob fun v15 ob =>
 bndO (st ob 3 v15 v14) ob fun _ ob =>
 bnd (fA 2 v15) fun v16 =>
 bnd (l1 ob v16) fun v17 =>
 bnd (bld [.i .u64 0, .i .i64 0] [(1, 1, v17)]) fun v18 =>
 bndO (al ob 144 [.i .u64 0, .i .i64 0]) ob fun v19 ob =>
 bndO (st ob 2 v19 v18) ob fun _ ob =>
 bnd (fA 0 v15) fun v20 =>
 bnd (l1 ob v20) fun v21 =>
 bnd (eNp true v21) fun v22 =>
 br v22 (
  bnd (fA 0 v15) fun v23 =>
  bnd (l1 ob v23) fun v24 =>
  bnd (nc v24) fun v25 =>
  bnd (l1 ob v25) fun v26 =>
  bnd (cv .u64 v26) fun v27 =>
  bnd (fA 0 v19) fun v28 =>
  bndO (st ob 1 v28 v27) ob fun _ ob =>
  bnd (lN ob 2 v19) fun v29 =>
  bndO (bldS ob 448 2 [v29]) ob fun v30 ob =>
  bndO (ap ob 456 2 (gS sl 7) v30) ob fun v31 ob =>
  bnd (fA 2 v15) fun v32 =>
  bnd (l1 ob v32) fun v33 =>
  bnd (bi .add (gS sl 6) v33) fun v34 =>
  bnd (bi .add (gS sl 25) (.i .i64 1)) fun v35 =>
  bnd (head [] [5, 6, 7, 23, 24, 25] [72, 176, 240] [(5, (gS sl 5)), (6, v34), (7, v31), (23, (gS sl 23)), (24, (gS sl 24)), (25, v35)] ob) fun x => g x.1 x.2
 ) (
  bnd (fA 1 v15) fun v36 =>
  bnd (l1 ob v36) fun v37 =>
  bnd (nc v37) fun v38 =>
  bnd (l1 ob v38) fun v39 =>
  bnd (fA 0 v19) fun v40 =>
  bndO (st ob 1 v40 v39) ob fun _ ob =>
  bnd (lN ob 2 v19) fun v41 =>
  bndO (bldS ob 448 2 [v41]) ob fun v42 ob =>
  bndO (ap ob 456 2 (gS sl 7) v42) ob fun v43 ob =>
  bnd (fA 2 v15) fun v44 =>
  bnd (l1 ob v44) fun v45 =>
  bnd (bi .add (gS sl 6) v45) fun v46 =>
  bnd (bi .add (gS sl 25) (.i .i64 1)) fun v47 =>
  bnd (head [] [5, 6, 7, 23, 24, 25] [72, 176, 240] [(5, (gS sl 5)), (6, v46), (7, v43), (23, (gS sl 23)), (24, (gS sl 24)), (25, v47)] ob) fun x => g x.1 x.2
 )
  ) (
 br (gS sl 5) (
  bnd (bi .add (gS sl 6) (.i .i64 32)) fun v48 =>
  bnd (cv .u64 v48) fun v49 =>
  bnd (bld [.i .u64 0, .i .i64 0] [(0, 1, v49), (1, 1, (.i .i64 2))]) fun v50 =>
  bnd (xS ob 2 (gS sl 7) (.i .i64 0)) fun v51 =>
  bndO (st ob 2 v51 v50) ob fun _ ob =>
  bndO (ca0 Φ ob 584 false 56 [(gS sl 7)]) ob fun v52 ob =>
  bnd (ext 0 v52) fun v53 =>
  bnd (ext 1 v52) fun v54 =>
  fin ob os.length [1, 0] [v53, (gS sl 5)]
 ) (
  bnd (cv .u64 (gS sl 6)) fun v55 =>
  bnd (bld [.i .u64 0, .i .i64 0] [(0, 1, v55), (1, 1, (.i .i64 2))]) fun v56 =>
  bnd (xS ob 2 (gS sl 7) (.i .i64 0)) fun v57 =>
  bndO (st ob 2 v57 v56) ob fun _ ob =>
  bndO (ca0 Φ ob 584 false 56 [(gS sl 7)]) ob fun v58 ob =>
  bnd (ext 0 v58) fun v59 =>
  bnd (ext 1 v58) fun v60 =>
  fin ob os.length [1, 0] [v59, (gS sl 5)]
 )
  )
noncomputable def m41 : Body := fun Φ N as os =>
  let a0 := gS (zipN 0 as) 0
  let ob := zipN 0 os
  bndO (bx ob 72 a0) ob fun v1 ob =>
  bndO (ca Φ ob 176 false 34 [v1]) ob fun v2 ob =>
  bnd (ext 0 v2) fun v3 =>
  bnd (ext 1 v2) fun v4 =>
  bnd (bld [.i .u64 0, .i .i64 0] []) fun v5 =>
  bnd (fA 0 v1) fun v6 =>
  bnd (l1 ob v6) fun v7 =>
  bnd (cv .u64 v7) fun v8 =>
  bnd (bld [.i .u64 0, .i .i64 0] [(0, 1, v8), (1, 1, (.i .i64 1))]) fun v9 =>
  bndO (bldS ob 240 2 [v5, v9]) ob fun v10 ob =>
  bnd (len v3) fun v11 =>
  bnd (head [] [5, 6, 7, 23, 24, 25] [72, 176, 240] [(5, v4), (6, (.i .i64 1)), (7, v10), (23, v3), (24, v11), (25, (.i .i64 0))] ob) fun x => loopC (m41b0 Φ N os) N x.1 x.2
def ann41 : Nat → Option Hd
  | 5 => some ⟨[], [5, 6, 7, 23, 24, 25], [72, 176, 240], []⟩ | _ => none
def lab41 : Nat → Option Hd := fun _ => none
noncomputable def m42b0 (Φ : Sem') (N : Nat) (os : List Obj') (g : SL → OB → Option R) (sl : SL) (ob : OB) : Option R :=
  bnd (bi .lss (gS sl 4) (.i .i64 16)) fun v1 =>
  br v1 (
 bndO (bldS ob 152 1 [(gS sl 0)]) ob fun v2 ob =>
 bndO (ap ob 160 1 (gS sl 3) v2) ob fun v3 ob =>
 bnd (bi .add (gS sl 4) (.i .i64 1)) fun v4 =>
 bnd (head [.row 3 95 1] [0, 3, 4] [] [(0, (gS sl 0)), (3, v3), (4, v4)] ob) fun x => g x.1 x.2
  ) (
 fin ob os.length [1] [(gS sl 3)]
  )
noncomputable def m42 : Body := fun Φ N as os =>
  let a0 := gS (zipN 0 as) 0
  let ob := zipN 0 os
  bnd (head [.row 3 95 1] [0, 3, 4] [] [(0, a0), (3, (.e true)), (4, (.i .i64 0))] ob) fun x => loopC (m42b0 Φ N os) N x.1 x.2
def ann42 : Nat → Option Hd
  | 3 => some ⟨[.row 3 95 1], [0, 3, 4], [], []⟩ | _ => none
def lab42 : Nat → Option Hd := fun _ => none
noncomputable def m43 : Body := fun Φ N as os =>
  let ob := zipN 0 os
  bndO (al ob 64 [.e true, .e true, .i .i64 0, .i .i64 0, .i .i64 0]) ob fun v1 ob =>
  bndO (bldS ob 72 1 [(.i .i64 2), (.i .i64 1)]) ob fun v2 ob =>
  bnd (bld [.i .i64 0, .i .i64 0, .i .i64 0] [(0, 1, (.i .i64 1)), (1, 1, (.i .i64 5)), (2, 1, (.i .i64 9))]) fun v3 =>
  bnd (bld [.i .i64 0, .i .i64 0, .i .i64 0] [(0, 1, (.i .i64 2)), (1, 1, (.i .i64 7)), (2, 1, (.i .i64 8))]) fun v4 =>
  bndO (bldS ob 96 3 [v3, v4]) ob fun v5 ob =>
  bnd (bld [.e true, .e true, .i .i64 0, .i .i64 0, .i .i64 0] [(0, 1, v2), (1, 1, v5), (2, 1, (.i .i64 3)), (3, 1, (.i .i64 2)), (4, 1, (.i .i64 4))]) fun v6 =>
  bndO (st ob 5 v1 v6) ob fun _ ob =>
  bnd (lN ob 5 v1) fun v7 =>
  fin ob os.length [0] [v7]
def ann43 : Nat → Option Hd := fun _ => none
def lab43 : Nat → Option Hd := fun _ => none
noncomputable def m44 : Body := fun Φ N as os =>
  let a0 := gS (zipN 0 as) 0
  let a1 := gS (zipN 0 as) 1
  let a2 := gS (zipN 0 as) 2
  let ob := zipN 0 os
  bndO (bx ob 96 a1) ob fun v1 ob =>
  bnd (nc a0) fun v2 =>
  bnd (fA 0 v2) fun v3 =>
  bnd (l1 ob v3) fun v4 =>
  bnd (fA 1 v1) fun v5 =>
  bnd (l1 ob v5) fun v6 =>
  bndO (ca0 Φ ob 168 true 21 [v4, v6]) ob fun v7 ob =>
  bnd (bi .lss v7 (.i .i64 0)) fun v8 =>
  br v8 (
 fin ob os.length [0] [(.i .i64 0)]
  ) (
 bnd (nc a0) fun v9 =>
 bnd (fA 1 v9) fun v10 =>
 bnd (l1 ob v10) fun v11 =>
 bnd (fA 1 v1) fun v12 =>
 bnd (l1 ob v12) fun v13 =>
 bndO (mpu ob .u64 v11 a2 v13) ob fun _ ob =>
 bnd (fA 1 v1) fun v14 =>
 bnd (l1 ob v14) fun v15 =>
 fin ob os.length [0] [v15]
  )
def ann44 : Nat → Option Hd := fun _ => none
def lab44 : Nat → Option Hd := fun _ => none
noncomputable def m45 : Body := fun Φ N as os =>
  let a0 := gS (zipN 0 as) 0
  let a1 := gS (zipN 0 as) 1
  let a2 := gS (zipN 0 as) 2
  let ob := zipN 0 os
  bndO (bx ob 96 a1) ob fun v1 ob =>
  bnd (nc a0) fun v2 =>
  bnd (fA 1 v2) fun v3 =>
  bnd (l1 ob v3) fun v4 =>
  bnd (fA 2 v1) fun v5 =>
  bnd (l1 ob v5) fun v6 =>
  bnd (mpl ob .u64 [.i .i64 0] v4 v6) fun v7 =>
  fin ob os.length [0] [v7]
def ann45 : Nat → Option Hd := fun _ => none
def lab45 : Nat → Option Hd := fun _ => none
noncomputable def m46b0 (Φ : Sem') (N : Nat) (os : List Obj') (g : SL → OB → Option R) (sl : SL) (ob : OB) : Option R :=
  bnd (len (gS sl 0)) fun v2 =>
  bnd (bi .lss (gS sl 6) v2) fun v3 =>
  bnd (gd v3 true (some (gS sl 5))) fun v4 =>
  bnd (pk v3 v4 (.b false)) fun v5 =>
  br v5 (
 bnd (xS ob 3 (gS sl 0) (gS sl 6)) fun v6 =>
 bnd (fA 0 v6) fun v7 =>
 bnd (l1 ob v7) fun v8 =>
 bnd (bi .eql v8 (gS sl 1)) fun v9 =>
 br v9 (
  fin ob os.length [0] [(gS sl 6)]
 ) (
  bnd (bi .add (gS sl 6) (.i .i64 1)) fun v10 =>
  bnd (head [] [0, 1, 5, 6] [] [(0, (gS sl 0)), (1, (gS sl 1)), (5, (gS sl 5)), (6, v10)] ob) fun x => g x.1 x.2
 )
  ) (
 fin ob os.length [0] [(.i .i64 (-1))]
  )
noncomputable def m46 : Body := fun Φ N as os =>
  let a0 := gS (zipN 0 as) 0
  let a1 := gS (zipN 0 as) 1
  let ob := zipN 0 os
  bndO (ca0 Φ ob 128 true 57 [a0]) ob fun v1 ob =>
  bnd (head [] [0, 1, 5, 6] [] [(0, a0), (1, a1), (5, v1), (6, (.i .i64 0))] ob) fun x => loopC (m46b0 Φ N os) N x.1 x.2
def ann46 : Nat → Option Hd
  | 3 => some ⟨[], [0, 1, 5, 6], [], []⟩ | _ => none
def lab46 : Nat → Option Hd := fun _ => none
noncomputable def m47b0 (Φ : Sem') (N : Nat) (os : List Obj') (g : SL → OB → Option R) (sl : SL) (ob : OB) : Option R :=
  bnd (len (gS sl 5)) fun v30 =>
  bnd (bi .lss (gS sl 8) v30) fun v31 =>
  br v31 (
 bnd (xS ob 2 (gS sl 5) (gS sl 8)) fun v32 =>
 bnd (fA 1 v32) fun v33 =>
 bnd (l1 ob v33) fun v34 =>
 bndO (bldS ob 552 1 [v34]) ob fun v35 ob =>
 bndO (ap ob 560 1 (gS sl 7) v35) ob fun v36 ob =>
 bnd (bi .add (gS sl 8) (.i .i64 1)) fun v37 =>
 bnd (head [.row 7 127 1] [0, 2, 5, 6, 7, 8] [80, 432] [(0, (gS sl 0)), (2, (gS sl 2)), (5, (gS sl 5)), (6, (gS sl 6)), (7, v36), (8, v37)] ob) fun x => g x.1 x.2
  ) (
 bndO (slc ob (.slice 1) (gS sl 0) (some (.i .i64 3)) none none) ob fun v38 ob =>
 bndO (al ob 144 [.blob 32 (List.replicate 32 (.i .u8 0))]) ob fun v39 ob =>
 bnd (gd (gS sl 6) true (some v38)) fun v40 =>
 bnd (gd (gS sl 6) true (len v40)) fun v41 =>
 bnd (gd (gS sl 6) true (bi .geq v41 (.i .i64 32))) fun v42 =>
 bnd (pk (gS sl 6) v42 (.b false)) fun v43 =>
 br v43 (
  bndO (slc ob (.arr 32) v39 none none none) ob fun v44 ob =>
  bnd (len v38) fun v45 =>
  bnd (bi .sub v45 (.i .i64 32)) fun v46 =>
  bndO (slc ob (.slice 1) v38 (some v46) none none) ob fun v47 ob =>
  bndO (cpy ob 1 v44 v47) ob fun v48 ob =>
  bnd (len v38) fun v49 =>
  bnd (bi .sub v49 (.i .i64 32)) fun v50 =>
  bndO (slc ob (.slice 1) v38 none (some v50) none) ob fun v51 ob =>
  bndO (ca0 Φ ob 752 false 60 [v51, (gS sl 7)]) ob fun v52 ob =>
  bnd (ext 0 v52) fun v53 =>
  bnd (ext 1 v52) fun v54 =>
  bnd (uO .not v54) fun v55 =>
  br v55 (
   bnd (bld [.i .i64 0, .i .i64 0, .i .u64 0, .i .u64 0, .i .i64 0, .i .u64 0, .i .i64 0, .i .i64 0, .blob 32 (List.replicate 32 (.i .u8 0))] []) fun v56 =>
   bndO (st ob 40 (gS sl 2) v56) ob fun _ ob =>
   bnd (lN ob 40 (gS sl 2)) fun v57 =>
   fin ob os.length [0, 0] [v57, (.i .i64 3)]
  ) (
   bnd (xS ob 1 (gS sl 0) (.i .i64 2)) fun v58 =>
   bnd (l1 ob v58) fun v59 =>
   bnd (cv .i64 v59) fun v60 =>
   bndO (ca0 Φ ob 840 false 61 [v60, v53]) ob fun v61 ob =>
   bndO (al ob 168 [.i .i64 0, .i .i64 0, .i .u64 0, .i .u64 0, .i .i64 0, .i .u64 0, .i .i64 0, .i .i64 0, .blob 32 (List.replicate 32 (.i .u8 0))]) ob fun v62 ob =>
   bndO (st ob 40 v62 v61) ob fun _ ob =>
   bnd (lN ob 32 v39) fun v63 =>
   bnd (fA 8 v62) fun v64 =>
   bndO (st ob 32 v64 v63) ob fun _ ob =>
   bnd (lN ob 40 v62) fun v65 =>
   bndO (ca0 Φ ob 880 false 62 [v65]) ob fun v66 ob =>
   bnd (ext 0 v66) fun v67 =>
   bnd (ext 1 v66) fun v68 =>
   bnd (uO .not v68) fun v69 =>
   bnd (gd v69 false (some v67)) fun v70 =>
   bnd (gd v69 false (b2s ob v70)) fun v71 =>
   bnd (gd v69 false (some (gS sl 0))) fun v72 =>
   bnd (gd v69 false (b2s ob v72)) fun v73 =>
   bnd (gd v69 false (bi .neq v71 v73)) fun v74 =>
   bnd (pk v69 (.b true) v74) fun v75 =>
   br v75 (
    bnd (bld [.i .i64 0, .i .i64 0, .i .u64 0, .i .u64 0, .i .i64 0, .i .u64 0, .i .i64 0, .i .i64 0, .blob 32 (List.replicate 32 (.i .u8 0))] []) fun v76 =>
    bndO (st ob 40 (gS sl 2) v76) ob fun _ ob =>
    bnd (lN ob 40 (gS sl 2)) fun v77 =>
    fin ob os.length [0, 0] [v77, (.i .i64 3)]
   ) (
    bnd (lN ob 40 v62) fun v78 =>
    bndO (st ob 40 (gS sl 2) v78) ob fun _ ob =>
    bnd (lN ob 40 (gS sl 2)) fun v79 =>
    fin ob os.length [0, 0] [v79, (.i .i64 0)]
   )
  )
 ) (
  bndO (ca0 Φ ob 752 false 60 [v38, (gS sl 7)]) ob fun v80 ob =>
  bnd (ext 0 v80) fun v81 =>
  bnd (ext 1 v80) fun v82 =>
  bnd (uO .not v82) fun v83 =>
  br v83 (
   bnd (bld [.i .i64 0, .i .i64 0, .i .u64 0, .i .u64 0, .i .i64 0, .i .u64 0, .i .i64 0, .i .i64 0, .blob 32 (List.replicate 32 (.i .u8 0))] []) fun v84 =>
   bndO (st ob 40 (gS sl 2) v84) ob fun _ ob =>
   bnd (lN ob 40 (gS sl 2)) fun v85 =>
   fin ob os.length [0, 0] [v85, (.i .i64 3)]
  ) (
   bnd (xS ob 1 (gS sl 0) (.i .i64 2)) fun v86 =>
   bnd (l1 ob v86) fun v87 =>
   bnd (cv .i64 v87) fun v88 =>
   bndO (ca0 Φ ob 840 false 61 [v88, v81]) ob fun v89 ob =>
   bndO (al ob 168 [.i .i64 0, .i .i64 0, .i .u64 0, .i .u64 0, .i .i64 0, .i .u64 0, .i .i64 0, .i .i64 0, .blob 32 (List.replicate 32 (.i .u8 0))]) ob fun v90 ob =>
   bndO (st ob 40 v90 v89) ob fun _ ob =>
   bnd (lN ob 32 v39) fun v91 =>
   bnd (fA 8 v90) fun v92 =>
   bndO (st ob 32 v92 v91) ob fun _ ob =>
   bnd (lN ob 40 v90) fun v93 =>
   bndO (ca0 Φ ob 880 false 62 [v93]) ob fun v94 ob =>
   bnd (ext 0 v94) fun v95 =>
   bnd (ext 1 v94) fun v96 =>
   bnd (uO .not v96) fun v97 =>
   bnd (gd v97 false (some v95)) fun v98 =>
   bnd (gd v97 false (b2s ob v98)) fun v99 =>
   bnd (gd v97 false (some (gS sl 0))) fun v100 =>
   bnd (gd v97 false (b2s ob v100)) fun v101 =>
   bnd (gd v97 false (bi .neq v99 v101)) fun v102 =>
   bnd (pk v97 (.b true) v102) fun v103 =>
   br v103 (
    bnd (bld [.i .i64 0, .i .i64 0, .i .u64 0, .i .u64 0, .i .i64 0, .i .u64 0, .i .i64 0, .i .i64 0, .blob 32 (List.replicate 32 (.i .u8 0))] []) fun v104 =>
    bndO (st ob 40 (gS sl 2) v104) ob fun _ ob =>
    bnd (lN ob 40 (gS sl 2)) fun v105 =>
    fin ob os.length [0, 0] [v105, (.i .i64 3)]
   ) (
    bnd (lN ob 40 v90) fun v106 =>
    bndO (st ob 40 (gS sl 2) v106) ob fun _ ob =>
    bnd (lN ob 40 (gS sl 2)) fun v107 =>
    fin ob os.length [0, 0] [v107, (.i .i64 0)]
   )
  )
 )
  )
noncomputable def m47 : Body := fun Φ N as os =>
  let a0 := gS (zipN 0 as) 0
  let ob := zipN 0 os
  bndO (al ob 80 [.i .i64 0, .i .i64 0, .i .u64 0, .i .u64 0, .i .i64 0, .i .u64 0, .i .i64 0, .i .i64 0, .blob 32 (List.replicate 32 (.i .u8 0))]) ob fun v1 ob =>
  bnd (len a0) fun v2 =>
  bnd (bi .gtr v2 (.i .i64 64)) fun v3 =>
  br v3 (
 bnd (bld [.i .i64 0, .i .i64 0, .i .u64 0, .i .u64 0, .i .i64 0, .i .u64 0, .i .i64 0, .i .i64 0, .blob 32 (List.replicate 32 (.i .u8 0))] []) fun v4 =>
 bndO (st ob 40 v1 v4) ob fun _ ob =>
 bnd (lN ob 40 v1) fun v5 =>
 fin ob os.length [0, 0] [v5, (.i .i64 2)]
  ) (
 bndO (ca0 Φ ob 232 false 58 [a0]) ob fun v6 ob =>
 bnd (bi .lss v6 (.i .i64 0)) fun v7 =>
 br v7 (
  bnd (bld [.i .i64 0, .i .i64 0, .i .u64 0, .i .u64 0, .i .i64 0, .i .u64 0, .i .i64 0, .i .i64 0, .blob 32 (List.replicate 32 (.i .u8 0))] []) fun v8 =>
  bndO (st ob 40 v1 v8) ob fun _ ob =>
  bnd (lN ob 40 v1) fun v9 =>
  fin ob os.length [0, 0] [v9, (.i .i64 4)]
 ) (
  bnd (bi .lss v6 (.i .i64 3)) fun v10 =>
  bnd (gd v10 false (some v6)) fun v11 =>
  bnd (gd v10 false (some a0)) fun v12 =>
  bnd (gd v10 false (len v12)) fun v13 =>
  bnd (gd v10 false (bi .neq v11 v13)) fun v14 =>
  bnd (pk v10 (.b true) v14) fun v15 =>
  bnd (gd v15 false (some a0)) fun v16 =>
  bnd (gd v15 false (xS ob 1 v16 (.i .i64 2))) fun v17 =>
  bnd (gd v15 false (l1 ob v17)) fun v18 =>
  bnd (gd v15 false (bi .geq v18 (.i .u8 7))) fun v19 =>
  bnd (pk v15 (.b true) v19) fun v20 =>
  br v20 (
   bnd (bld [.i .i64 0, .i .i64 0, .i .u64 0, .i .u64 0, .i .i64 0, .i .u64 0, .i .i64 0, .i .i64 0, .blob 32 (List.replicate 32 (.i .u8 0))] []) fun v21 =>
   bndO (st ob 40 v1 v21) ob fun _ ob =>
   bnd (lN ob 40 v1) fun v22 =>
   fin ob os.length [0, 0] [v22, (.i .i64 3)]
  ) (
   bnd (xS ob 1 a0 (.i .i64 2)) fun v23 =>
   bnd (l1 ob v23) fun v24 =>
   bnd (cv .i64 v24) fun v25 =>
   bnd (bld [.i .i64 0, .i .i64 0, .i .u64 0, .i .u64 0, .i .i64 0, .i .u64 0, .i .i64 0, .i .i64 0, .blob 32 (List.replicate 32 (.i .u8 0))] [(0, 1, v25)]) fun v26 =>
   bndO (ca0 Φ ob 432 false 59 [v26]) ob fun v27 ob =>
   bnd (ext 0 v27) fun v28 =>
   bnd (ext 1 v27) fun v29 =>
   bnd (head [.row 7 127 1] [0, 2, 5, 6, 7, 8] [80, 432] [(0, a0), (2, v1), (5, v28), (6, v29), (7, (.e true)), (8, (.i .i64 0))] ob) fun x => loopC (m47b0 Φ N os) N x.1 x.2
  )
 )
  )
def ann47 : Nat → Option Hd
  | 11 => some ⟨[.row 7 127 1], [0, 2, 5, 6, 7, 8], [80, 432], []⟩ | _ => none
def lab47 : Nat → Option Hd := fun _ => none
noncomputable def m48b0 (Φ : Sem') (N : Nat) (os : List Obj') (g : SL → OB → Option R) (sl : SL) (ob : OB) : Option R :=
  bnd (bi .lss (gS sl 8) (gS sl 7)) fun v2 =>
  br v2 (
 bnd (xS ob 1 (gS sl 0) (gS sl 8)) fun v3 =>
 bnd (l1 ob v3) fun v4 =>
 bnd (bi .eql (gS sl 1) v4) fun v5 =>
 br v5 (
  fin ob os.length [0] [(gS sl 8)]
 ) (
  bnd (bi .add (gS sl 8) (.i .i64 1)) fun v6 =>
  bnd (head [] [0, 1, 7, 8] [] [(0, (gS sl 0)), (1, (gS sl 1)), (7, (gS sl 7)), (8, v6)] ob) fun x => g x.1 x.2
 )
  ) (
 fin ob os.length [0] [(.i .i64 (-1))]
  )
noncomputable def m48 : Body := fun Φ N as os =>
  let a0 := gS (zipN 0 as) 0
  let a1 := gS (zipN 0 as) 1
  let ob := zipN 0 os
  bnd (len a0) fun v1 =>
  bnd (head [] [0, 1, 7, 8] [] [(0, a0), (1, a1), (7, v1), (8, (.i .i64 0))] ob) fun x => loopC (m48b0 Φ N os) N x.1 x.2
def ann48 : Nat → Option Hd
  | 2 => some ⟨[], [0, 1, 7, 8], [], []⟩ | _ => none
def lab48 : Nat → Option Hd := fun _ => none
noncomputable def m49 : Body := fun Φ N as os =>
  let a0 := gS (zipN 0 as) 0
  let a1 := gS (zipN 0 as) 1
  let a2 := gS (zipN 0 as) 2
  let ob := zipN 0 os
  bndO (slc ob (.slice 3) a0 (some a1) none none) ob fun v1 ob =>
  bnd (len a2) fun v2 =>
  bnd (bi .eql v2 (.i .i64 0)) fun v3 =>
  br v3 (
 finG ob os.length [a0]
  ) (
 bnd (len a0) fun v4 =>
 bnd (bi .eql a1 v4) fun v5 =>
 br v5 (
  bndO (apN ob 264 3 a0 a2) ob fun v6 ob =>
  finG ob os.length [v6]
 ) (
  bnd (bi .add v4 v2) fun v7 =>
  bnd (cp ob a0) fun v8 =>
  bnd (bi .gtr v7 v8) fun v9 =>
  br v9 (
   bndO (slc ob (.slice 3) a0 none (some a1) none) ob fun v10 ob =>
   bnd (bi .add v4 v2) fun v11 =>
   bnd (bi .sub v11 a1) fun v12 =>
   bndO (apzN ob 384 [.np, .np, .i .i64 0] v10 v12) ob fun v13 ob =>
   bndO (slc ob (.slice 3) v13 (some a1) none none) ob fun v14 ob =>
   bndO (cpN ob 3 v14 a2) ob fun v15 ob =>
   bnd (bi .add a1 v2) fun v16 =>
   bndO (slc ob (.slice 3) v13 (some v16) none none) ob fun v17 ob =>
   bndO (slc ob (.slice 3) a0 (some a1) none none) ob fun v18 ob =>
   bndO (cpN ob 3 v17 v18) ob fun v19 ob =>
   finG ob os.length [v13]
  ) (
   bnd (bi .add v4 v2) fun v20 =>
   bndO (slc ob (.slice 3) a0 none (some v20) none) ob fun v21 ob =>
   bnd (bi .add a1 v2) fun v22 =>
   bndO (slc ob (.slice 3) v21 (some v22) none none) ob fun v23 ob =>
   bndO (ca Φ ob 600 false 63 [a2, v23]) ob fun v24 ob =>
   bnd (uO .not v24) fun v25 =>
   br v25 (
    bnd (bi .add a1 v2) fun v26 =>
    bndO (slc ob (.slice 3) v21 (some v26) none none) ob fun v27 ob =>
    bndO (slc ob (.slice 3) v21 (some a1) none none) ob fun v28 ob =>
    bndO (cpN ob 3 v27 v28) ob fun v29 ob =>
    bndO (slc ob (.slice 3) v21 (some a1) none none) ob fun v30 ob =>
    bndO (cpN ob 3 v30 a2) ob fun v31 ob =>
    finG ob os.length [v21]
   ) (
    bndO (slc ob (.slice 3) v21 (some v4) none none) ob fun v32 ob =>
    bndO (cpN ob 3 v32 a2) ob fun v33 ob =>
    bndO (slc ob (.slice 3) v21 (some a1) none none) ob fun v34 ob =>
    bndO (ca Φ ob 808 false 64 [v34, v2]) ob fun v35 ob =>
    finG ob os.length [v21]
   )
  )
 )
  )
def ann49 : Nat → Option Hd := fun _ => none
def lab49 : Nat → Option Hd := fun _ => none
noncomputable def m50 : Body := fun Φ N as os =>
  let a0 := gS (zipN 0 as) 0
  let ob := zipN 0 os
  bnd (bi .geq a0 (.i .i64 1)) fun v1 =>
  bnd (gd v1 true (some a0)) fun v2 =>
  bnd (gd v1 true (bi .leq v2 (.i .i64 8))) fun v3 =>
  bnd (pk v1 v3 (.b false)) fun v4 =>
  fin ob os.length [0] [v4]
def ann50 : Nat → Option Hd := fun _ => none
def lab50 : Nat → Option Hd := fun _ => none
noncomputable def m51 : Body := fun Φ N as os =>
  let a0 := gS (zipN 0 as) 0
  let a1 := gS (zipN 0 as) 1
  let a2 := gS (zipN 0 as) 2
  let ob := zipN 0 os
  bnd (bi .geq a0 a1) fun v1 =>
  bnd (gd v1 true (some a0)) fun v2 =>
  bnd (gd v1 true (some a2)) fun v3 =>
  bnd (gd v1 true (bi .leq v2 v3)) fun v4 =>
  bnd (pk v1 v4 (.b false)) fun v5 =>
  fin ob os.length [0] [v5]
def ann51 : Nat → Option Hd := fun _ => none
def lab51 : Nat → Option Hd := fun _ => none
noncomputable def m52 : Body := fun Φ N as os =>
  let a0 := gS (zipN 0 as) 0
  let ob := zipN 0 os
  bnd (bi .geq a0 (.i .i64 0)) fun v1 =>
  bnd (gd v1 true (some a0)) fun v2 =>
  bnd (gd v1 true (bi .lss v2 (.i .i64 4))) fun v3 =>
  bnd (pk v1 v3 (.b false)) fun v4 =>
  fin ob os.length [0] [v4]
def ann52 : Nat → Option Hd := fun _ => none
def lab52 : Nat → Option Hd := fun _ => none
noncomputable def m53 : Body := fun Φ N as os =>
  let a0 := gS (zipN 0 as) 0
  let a1 := gS (zipN 0 as) 1
  let ob := zipN 0 os
  bnd (bi .geq a0 (.i .i64 0)) fun v1 =>
  bnd (gd v1 true (some a0)) fun v2 =>
  bnd (gd v1 true (some a1)) fun v3 =>
  bnd (gd v1 true (bi .leq v2 v3)) fun v4 =>
  bnd (pk v1 v4 (.b false)) fun v5 =>
  fin ob os.length [0] [v5]
def ann53 : Nat → Option Hd := fun _ => none
def lab53 : Nat → Option Hd := fun _ => none
noncomputable def m54 : Body := fun Φ N as os =>
  let a0 := gS (zipN 0 as) 0
  let ob := zipN 0 os
  bnd (bi .geq a0 (.i .i64 0)) fun v1 =>
  bnd (gd v1 true (some a0)) fun v2 =>
  bnd (gd v1 true (bi .lss v2 (.i .i64 7))) fun v3 =>
  bnd (pk v1 v3 (.b false)) fun v4 =>
  fin ob os.length [0] [v4]
def ann54 : Nat → Option Hd := fun _ => none
def lab54 : Nat → Option Hd := fun _ => none
noncomputable def m55b0 (Φ : Sem') (N : Nat) (os : List Obj') (g : SL → OB → Option R) (sl : SL) (ob : OB) : Option R :=
  bnd (bi .lss (gS sl 23) (gS sl 22)) fun v14 =>
  br v14 (
 bnd (xS ob 3 (gS sl 21) (gS sl 23)) fun v15 =>
 bnd (lN ob 3 v15) fun v16 =>
 bndO (al ob 136 [.np, .np, .i .i64 0]) ob fun v17 ob =>
 bndO (st ob 3 v17 v16) ob fun _ ob =>
 bnd (fA 0 v17) fun v18 =>
 bnd (l1 ob v18) fun v19 =>
 bnd (eNp true v19) fun v20 =>
 br v20 (
  bnd (fA 0 v17) fun v21 =>
  bnd (l1 ob v21) fun v22 =>
  bnd (xS ob 3 (gS sl 4) (gS sl 23)) fun v23 =>
  bnd (fA 0 v23) fun v24 =>
  bnd (l1 ob v24) fun v25 =>
  bnd (nc v25) fun v26 =>
  bnd (l1 ob v26) fun v27 =>
  bnd (nc v22) fun v28 =>
  bndO (st ob 1 v28 v27) ob fun _ ob =>
  bnd (bi .add (gS sl 23) (.i .i64 1)) fun v29 =>
  bnd (head [] [1, 2, 3, 4, 5, 21, 22, 23] [72, 80, 88, 176, 208] [(1, (gS sl 1)), (2, (gS sl 2)), (3, (gS sl 3)), (4, (gS sl 4)), (5, (gS sl 5)), (21, (gS sl 21)), (22, (gS sl 22)), (23, v29)] ob) fun x => g x.1 x.2
 ) (
  bnd (fA 1 v17) fun v30 =>
  bnd (l1 ob v30) fun v31 =>
  bnd (xS ob 3 (gS sl 4) (gS sl 23)) fun v32 =>
  bnd (fA 1 v32) fun v33 =>
  bnd (l1 ob v33) fun v34 =>
  bnd (nc v34) fun v35 =>
  bnd (l1 ob v35) fun v36 =>
  bnd (nc v31) fun v37 =>
  bndO (st ob 1 v37 v36) ob fun _ ob =>
  bnd (bi .add (gS sl 23) (.i .i64 1)) fun v38 =>
  bnd (head [] [1, 2, 3, 4, 5, 21, 22, 23] [72, 80, 88, 176, 208] [(1, (gS sl 1)), (2, (gS sl 2)), (3, (gS sl 3)), (4, (gS sl 4)), (5, (gS sl 5)), (21, (gS sl 21)), (22, (gS sl 22)), (23, v38)] ob) fun x => g x.1 x.2
 )
  ) (
 br (gS sl 5) (
  bnd (fA 8 (gS sl 1)) fun v39 =>
  bnd (lN ob 32 v39) fun v40 =>
  bnd (fA 8 (gS sl 3)) fun v41 =>
  bndO (st ob 32 v41 v40) ob fun _ ob =>
  bnd (lN ob 40 (gS sl 3)) fun v42 =>
  bndO (st ob 40 (gS sl 2) v42) ob fun _ ob =>
  bnd (lN ob 40 (gS sl 2)) fun v43 =>
  fin ob os.length [0] [v43]
 ) (
  bnd (lN ob 40 (gS sl 3)) fun v44 =>
  bndO (st ob 40 (gS sl 2) v44) ob fun _ ob =>
  bnd (lN ob 40 (gS sl 2)) fun v45 =>
  fin ob os.length [0] [v45]
 )
  )
noncomputable def m55 : Body := fun Φ N as os =>
  let a0 := gS (zipN 0 as) 0
  let ob := zipN 0 os
  bndO (bx ob 72 a0) ob fun v1 ob =>
  bndO (al ob 80 [.i .i64 0, .i .i64 0, .i .u64 0, .i .u64 0, .i .i64 0, .i .u64 0, .i .i64 0, .i .i64 0, .blob 32 (List.replicate 32 (.i .u8 0))]) ob fun v2 ob =>
  bnd (fA 0 v1) fun v3 =>
  bnd (l1 ob v3) fun v4 =>
  bnd (bld [.i .i64 0, .i .i64 0, .i .u64 0, .i .u64 0, .i .i64 0, .i .u64 0, .i .i64 0, .i .i64 0, .blob 32 (List.replicate 32 (.i .u8 0))] [(0, 1, v4)]) fun v5 =>
  bndO (al ob 88 [.i .i64 0, .i .i64 0, .i .u64 0, .i .u64 0, .i .i64 0, .i .u64 0, .i .i64 0, .i .i64 0, .blob 32 (List.replicate 32 (.i .u8 0))]) ob fun v6 ob =>
  bndO (st ob 40 v6 v5) ob fun _ ob =>
  bndO (ca Φ ob 176 false 34 [v1]) ob fun v7 ob =>
  bnd (ext 0 v7) fun v8 =>
  bnd (ext 1 v7) fun v9 =>
  bndO (ca Φ ob 208 false 34 [v6]) ob fun v10 ob =>
  bnd (ext 0 v10) fun v11 =>
  bnd (ext 1 v10) fun v12 =>
  bnd (len v11) fun v13 =>
  bnd (head [] [1, 2, 3, 4, 5, 21, 22, 23] [72, 80, 88, 176, 208] [(1, v1), (2, v2), (3, v6), (4, v8), (5, v9), (21, v11), (22, v13), (23, (.i .i64 0))] ob) fun x => loopC (m55b0 Φ N os) N x.1 x.2
def ann55 : Nat → Option Hd
  | 5 => some ⟨[], [1, 2, 3, 4, 5, 21, 22, 23], [72, 80, 88, 176, 208], []⟩ | _ => none
def lab55 : Nat → Option Hd := fun _ => none
noncomputable def m56b0 (Φ : Sem') (N : Nat) (os : List Obj') (g : SL → OB → Option R) (sl : SL) (ob : OB) : Option R :=
  bnd (bi .lss (gS sl 14) (gS sl 13)) fun v4 =>
  br v4 (
 bnd (xS ob 2 (gS sl 12) (gS sl 14)) fun v5 =>
 bnd (lN ob 2 v5) fun v6 =>
 bndO (al ob 112 [.i .u64 0, .i .i64 0]) ob fun v7 ob =>
 bndO (st ob 2 v7 v6) ob fun _ ob =>
 bnd (fA 0 v7) fun v8 =>
 bnd (l1 ob v8) fun v9 =>
 bnd (fA 1 v7) fun v10 =>
 bnd (l1 ob v10) fun v11 =>
 bndO (ca0 Φ ob 248 false 65 [v9, v11]) ob fun v12 ob =>
 bnd (ext 0 v12) fun v13 =>
 bnd (ext 1 v12) fun v14 =>
 bnd (uO .not v14) fun v15 =>
 br v15 (
  fin ob os.length [1, 0] [(.e true), (.b false)]
 ) (
  bndO (ap ob 304 1 (gS sl 4) v13) ob fun v16 ob =>
  bnd (bi .add (gS sl 14) (.i .i64 1)) fun v17 =>
  bnd (head [.row 4 103 1] [4, 12, 13, 14] [] [(4, v16), (12, (gS sl 12)), (13, (gS sl 13)), (14, v17)] ob) fun x => g x.1 x.2
 )
  ) (
 fin ob os.length [1, 0] [(gS sl 4), (.b true)]
  )
noncomputable def m56 : Body := fun Φ N as os =>
  let a0 := gS (zipN 0 as) 0
  let ob := zipN 0 os
  bnd (len a0) fun v1 =>
  bnd (bi .gtr v1 (.i .i64 40)) fun v2 =>
  br v2 (
 fin ob os.length [1, 0] [(.e true), (.b false)]
  ) (
 bnd (len a0) fun v3 =>
 bnd (head [.row 4 103 1] [4, 12, 13, 14] [] [(4, (.e true)), (12, a0), (13, v3), (14, (.i .i64 0))] ob) fun x => loopC (m56b0 Φ N os) N x.1 x.2
  )
def ann56 : Nat → Option Hd
  | 5 => some ⟨[.row 4 103 1], [4, 12, 13, 14], [], []⟩ | _ => none
def lab56 : Nat → Option Hd := fun _ => none
noncomputable def m57b0 (Φ : Sem') (N : Nat) (os : List Obj') (g : SL → OB → Option R) (sl : SL) (ob : OB) : Option R :=
  bnd (len (gS sl 0)) fun v1 =>
  bnd (bi .lss (gS sl 3) v1) fun v2 =>
  bnd (gd v2 true (some (gS sl 3))) fun v3 =>
  bnd (gd v2 true (bi .lss v3 (.i .i64 10))) fun v4 =>
  bnd (pk v2 v4 (.b false)) fun v5 =>
  br v5 (
 bnd (xS ob 3 (gS sl 0) (gS sl 3)) fun v6 =>
 bnd (fA 1 v6) fun v7 =>
 bnd (l1 ob v7) fun v8 =>
 bndO (ca0 Φ ob 224 false 66 [v8]) ob fun v9 ob =>
 bnd (uO .not v9) fun v10 =>
 bnd (gd v10 false (some (gS sl 0))) fun v11 =>
 bnd (gd v10 false (some (gS sl 3))) fun v12 =>
 bnd (gd v10 false (xS ob 3 v11 v12)) fun v13 =>
 bnd (gd v10 false (fA 0 v13)) fun v14 =>
 bnd (gd v10 false (l1 ob v14)) fun v15 =>
 bnd (gd v10 false (bi .lss v15 (.i .i64 1))) fun v16 =>
 bnd (pk v10 (.b true) v16) fun v17 =>
 bnd (gd v17 false (some (gS sl 0))) fun v18 =>
 bnd (gd v17 false (some (gS sl 3))) fun v19 =>
 bnd (gd v17 false (xS ob 3 v18 v19)) fun v20 =>
 bnd (gd v17 false (fA 0 v20)) fun v21 =>
 bnd (gd v17 false (l1 ob v21)) fun v22 =>
 bnd (gd v17 false (bi .gtr v22 (.i .i64 255))) fun v23 =>
 bnd (pk v17 (.b true) v23) fun v24 =>
 bnd (gd v24 false (some (gS sl 0))) fun v25 =>
 bnd (gd v24 false (some (gS sl 3))) fun v26 =>
 bnd (gd v24 false (xS ob 3 v25 v26)) fun v27 =>
 bnd (gd v24 false (fA 2 v27)) fun v28 =>
 bnd (gd v24 false (l1 ob v28)) fun v29 =>
 bnd (gd v24 false (len v29)) fun v30 =>
 bnd (gd v24 false (bi .lss v30 (.i .i64 16))) fun v31 =>
 bnd (pk v24 (.b true) v31) fun v32 =>
 bnd (gd v32 false (some (gS sl 0))) fun v33 =>
 bnd (gd v32 false (some (gS sl 3))) fun v34 =>
 bnd (gd v32 false (xS ob 3 v33 v34)) fun v35 =>
 bnd (gd v32 false (fA 2 v35)) fun v36 =>
 bnd (gd v32 false (l1 ob v36)) fun v37 =>
 bnd (gd v32 false (len v37)) fun v38 =>
 bnd (gd v32 false (bi .gtr v38 (.i .i64 64))) fun v39 =>
 bnd (pk v32 (.b true) v39) fun v40 =>
 bnd (gd v40 false (some (gS sl 3))) fun v41 =>
 bnd (gd v40 false (bi .gtr v41 (.i .i64 0))) fun v42 =>
 bnd (gd v40 false (some v42)) fun v43 =>
 bnd (gd v43 true (some (gS sl 0))) fun v44 =>
 bnd (gd v43 true (some (gS sl 3))) fun v45 =>
 bnd (gd v43 true (xS ob 3 v44 v45)) fun v46 =>
 bnd (gd v43 true (fA 0 v46)) fun v47 =>
 bnd (gd v43 true (l1 ob v47)) fun v48 =>
 bnd (gd v43 true (some (gS sl 0))) fun v49 =>
 bnd (gd v43 true (some (gS sl 3))) fun v50 =>
 bnd (gd v43 true (bi .sub v50 (.i .i64 1))) fun v51 =>
 bnd (gd v43 true (xS ob 3 v49 v51)) fun v52 =>
 bnd (gd v43 true (fA 0 v52)) fun v53 =>
 bnd (gd v43 true (l1 ob v53)) fun v54 =>
 bnd (gd v43 true (bi .leq v48 v54)) fun v55 =>
 bnd (gd v40 false (pk v43 v55 (.b false))) fun v56 =>
 bnd (pk v40 (.b true) v56) fun v57 =>
 br v57 (
  fin ob os.length [0] [(.b false)]
 ) (
  bnd (bi .add (gS sl 3) (.i .i64 1)) fun v58 =>
  bnd (head [] [0, 3] [] [(0, (gS sl 0)), (3, v58)] ob) fun x => g x.1 x.2
 )
  ) (
 bnd (len (gS sl 0)) fun v59 =>
 bnd (bi .leq v59 (.i .i64 8)) fun v60 =>
 fin ob os.length [0] [v60]
  )
noncomputable def m57 : Body := fun Φ N as os =>
  let a0 := gS (zipN 0 as) 0
  let ob := zipN 0 os
  bnd (head [] [0, 3] [] [(0, a0), (3, (.i .i64 0))] ob) fun x => loopC (m57b0 Φ N os) N x.1 x.2
def ann57 : Nat → Option Hd
  | 2 => some ⟨[], [0, 3], [], []⟩ | _ => none
def lab57 : Nat → Option Hd := fun _ => none
noncomputable def m58 : Body := fun Φ N as os =>
  let a0 := gS (zipN 0 as) 0
  let ob := zipN 0 os
  bnd (len a0) fun v1 =>
  bnd (bi .lss v1 (.i .i64 2)) fun v2 =>
  bnd (gd v2 false (some a0)) fun v3 =>
  bnd (gd v2 false (len v3)) fun v4 =>
  bnd (gd v2 false (bi .sub v4 (.i .i64 2))) fun v5 =>
  bnd (gd v2 false (some a0)) fun v6 =>
  bnd (gd v2 false (xS ob 1 v6 (.i .i64 0))) fun v7 =>
  bnd (gd v2 false (l1 ob v7)) fun v8 =>
  bnd (gd v2 false (cv .i64 v8)) fun v9 =>
  bnd (gd v2 false (bi .mul (.i .i64 256) v9)) fun v10 =>
  bnd (gd v2 false (some a0)) fun v11 =>
  bnd (gd v2 false (xS ob 1 v11 (.i .i64 1))) fun v12 =>
  bnd (gd v2 false (l1 ob v12)) fun v13 =>
  bnd (gd v2 false (cv .i64 v13)) fun v14 =>
  bnd (gd v2 false (bi .add v10 v14)) fun v15 =>
  bnd (gd v2 false (bi .lss v5 v15)) fun v16 =>
  bnd (pk v2 (.b true) v16) fun v17 =>
  br v17 (
 fin ob os.length [0] [(.i .i64 (-1))]
  ) (
 bnd (xS ob 1 a0 (.i .i64 0)) fun v18 =>
 bnd (l1 ob v18) fun v19 =>
 bnd (cv .i64 v19) fun v20 =>
 bnd (bi .mul (.i .i64 256) v20) fun v21 =>
 bnd (bi .add (.i .i64 2) v21) fun v22 =>
 bnd (xS ob 1 a0 (.i .i64 1)) fun v23 =>
 bnd (l1 ob v23) fun v24 =>
 bnd (cv .i64 v24) fun v25 =>
 bnd (bi .add v22 v25) fun v26 =>
 fin ob os.length [0] [v26]
  )
def ann58 : Nat → Option Hd := fun _ => none
def lab58 : Nat → Option Hd := fun _ => none
noncomputable def m59 : Body := fun Φ N as os =>
  let a0 := gS (zipN 0 as) 0
  let ob := zipN 0 os
  bndO (bx ob 72 a0) ob fun v1 ob =>
  bnd (fA 0 v1) fun v2 =>
  bnd (l1 ob v2) fun v3 =>
  bnd (bi .eql v3 (.i .i64 0)) fun v4 =>
  br v4 (
 bnd (fA 1 v1) fun v5 =>
 bnd (l1 ob v5) fun v6 =>
 bnd (cv .u64 v6) fun v7 =>
 bnd (bld [.i .u64 0, .i .i64 0] [(0, 1, v7), (1, 1, (.i .i64 1))]) fun v8 =>
 bnd (fA 3 v1) fun v9 =>
 bnd (l1 ob v9) fun v10 =>
 bnd (bld [.i .u64 0, .i .i64 0] [(0, 1, v10), (1, 1, (.i .i64 8))]) fun v11 =>
 bndO (bldS ob 184 2 [v8, v11]) ob fun v12 ob =>
 fin ob os.length [2, 0] [v12, (.b false)]
  ) (
 bnd (bi .eql v3 (.i .i64 1)) fun v13 =>
 br v13 (
  bnd (fA 2 v1) fun v14 =>
  bnd (l1 ob v14) fun v15 =>
  bnd (bld [.i .u64 0, .i .i64 0] [(0, 1, v15), (1, 1, (.i .i64 8))]) fun v16 =>
  bnd (fA 4 v1) fun v17 =>
  bnd (l1 ob v17) fun v18 =>
  bnd (cv .u64 v18) fun v19 =>
  bnd (bld [.i .u64 0, .i .i64 0] [(0, 1, v19), (1, 1, (.i .i64 4))]) fun v20 =>
  bndO (bldS ob 264 2 [v16, v20]) ob fun v21 ob =>
  fin ob os.length [2, 0] [v21, (.b false)]
 ) (
  bnd (bi .eql v3 (.i .i64 2)) fun v22 =>
  br v22 (
   br v22 (
    bnd (fA 2 v1) fun v23 =>
    bnd (l1 ob v23) fun v24 =>
    bnd (bld [.i .u64 0, .i .i64 0] [(0, 1, v24), (1, 1, (.i .i64 8))]) fun v25 =>
    bndO (bldS ob 320 2 [v25]) ob fun v26 ob =>
    fin ob os.length [2, 0] [v26, (.b true)]
   ) (
    bnd (bi .eql v3 (.i .i64 4)) fun v27 =>
    br v27 (
     br v27 (
      bnd (fA 2 v1) fun v28 =>
      bnd (l1 ob v28) fun v29 =>
      bnd (bld [.i .u64 0, .i .i64 0] [(0, 1, v29), (1, 1, (.i .i64 8))]) fun v30 =>
      bnd (fA 5 v1) fun v31 =>
      bnd (l1 ob v31) fun v32 =>
      bnd (bld [.i .u64 0, .i .i64 0] [(0, 1, v32), (1, 1, (.i .i64 8))]) fun v33 =>
      bnd (fA 6 v1) fun v34 =>
      bnd (l1 ob v34) fun v35 =>
      bnd (cv .u64 v35) fun v36 =>
      bnd (bld [.i .u64 0, .i .i64 0] [(0, 1, v36), (1, 1, (.i .i64 1))]) fun v37 =>
      bnd (fA 7 v1) fun v38 =>
      bnd (l1 ob v38) fun v39 =>
      bnd (cv .u64 v39) fun v40 =>
      bnd (bld [.i .u64 0, .i .i64 0] [(0, 1, v40), (1, 1, (.i .i64 2))]) fun v41 =>
      bndO (bldS ob 464 2 [v30, v33, v37, v41]) ob fun v42 ob =>
      fin ob os.length [2, 0] [v42, (.b true)]
     ) (
      bnd (fA 6 v1) fun v43 =>
      bnd (l1 ob v43) fun v44 =>
      bnd (cv .u64 v44) fun v45 =>
      bnd (bld [.i .u64 0, .i .i64 0] [(0, 1, v45), (1, 1, (.i .i64 1))]) fun v46 =>
      bndO (bldS ob 504 2 [v46]) ob fun v47 ob =>
      fin ob os.length [2, 0] [v47, (.b false)]
     )
    ) (
     bnd (bi .eql v3 (.i .i64 5)) fun v48 =>
     br v48 (
      bnd (fA 2 v1) fun v49 =>
      bnd (l1 ob v49) fun v50 =>
      bnd (bld [.i .u64 0, .i .i64 0] [(0, 1, v50), (1, 1, (.i .i64 8))]) fun v51 =>
      bnd (fA 5 v1) fun v52 =>
      bnd (l1 ob v52) fun v53 =>
      bnd (bld [.i .u64 0, .i .i64 0] [(0, 1, v53), (1, 1, (.i .i64 8))]) fun v54 =>
      bnd (fA 6 v1) fun v55 =>
      bnd (l1 ob v55) fun v56 =>
      bnd (cv .u64 v56) fun v57 =>
      bnd (bld [.i .u64 0, .i .i64 0] [(0, 1, v57), (1, 1, (.i .i64 1))]) fun v58 =>
      bnd (fA 7 v1) fun v59 =>
      bnd (l1 ob v59) fun v60 =>
      bnd (cv .u64 v60) fun v61 =>
      bnd (bld [.i .u64 0, .i .i64 0] [(0, 1, v61), (1, 1, (.i .i64 2))]) fun v62 =>
      bndO (bldS ob 464 2 [v51, v54, v58, v62]) ob fun v63 ob =>
      fin ob os.length [2, 0] [v63, (.b true)]
     ) (
      bnd (fA 6 v1) fun v64 =>
      bnd (l1 ob v64) fun v65 =>
      bnd (cv .u64 v65) fun v66 =>
      bnd (bld [.i .u64 0, .i .i64 0] [(0, 1, v66), (1, 1, (.i .i64 1))]) fun v67 =>
      bndO (bldS ob 504 2 [v67]) ob fun v68 ob =>
      fin ob os.length [2, 0] [v68, (.b false)]
     )
    )
   )
  ) (
   bnd (bi .eql v3 (.i .i64 3)) fun v69 =>
   br v69 (
    bnd (fA 2 v1) fun v70 =>
    bnd (l1 ob v70) fun v71 =>
    bnd (bld [.i .u64 0, .i .i64 0] [(0, 1, v71), (1, 1, (.i .i64 8))]) fun v72 =>
    bndO (bldS ob 320 2 [v72]) ob fun v73 ob =>
    fin ob os.length [2, 0] [v73, (.b true)]
   ) (
    bnd (bi .eql v3 (.i .i64 4)) fun v74 =>
    br v74 (
     br v74 (
      bnd (fA 2 v1) fun v75 =>
      bnd (l1 ob v75) fun v76 =>
      bnd (bld [.i .u64 0, .i .i64 0] [(0, 1, v76), (1, 1, (.i .i64 8))]) fun v77 =>
      bnd (fA 5 v1) fun v78 =>
      bnd (l1 ob v78) fun v79 =>
      bnd (bld [.i .u64 0, .i .i64 0] [(0, 1, v79), (1, 1, (.i .i64 8))]) fun v80 =>
      bnd (fA 6 v1) fun v81 =>
      bnd (l1 ob v81) fun v82 =>
      bnd (cv .u64 v82) fun v83 =>
      bnd (bld [.i .u64 0, .i .i64 0] [(0, 1, v83), (1, 1, (.i .i64 1))]) fun v84 =>
      bnd (fA 7 v1) fun v85 =>
      bnd (l1 ob v85) fun v86 =>
      bnd (cv .u64 v86) fun v87 =>
      bnd (bld [.i .u64 0, .i .i64 0] [(0, 1, v87), (1, 1, (.i .i64 2))]) fun v88 =>
      bndO (bldS ob 464 2 [v77, v80, v84, v88]) ob fun v89 ob =>
      fin ob os.length [2, 0] [v89, (.b true)]
     ) (
      bnd (fA 6 v1) fun v90 =>
      bnd (l1 ob v90) fun v91 =>
      bnd (cv .u64 v91) fun v92 =>
      bnd (bld [.i .u64 0, .i .i64 0] [(0, 1, v92), (1, 1, (.i .i64 1))]) fun v93 =>
      bndO (bldS ob 504 2 [v93]) ob fun v94 ob =>
      fin ob os.length [2, 0] [v94, (.b false)]
     )
    ) (
     bnd (bi .eql v3 (.i .i64 5)) fun v95 =>
     br v95 (
      bnd (fA 2 v1) fun v96 =>
      bnd (l1 ob v96) fun v97 =>
      bnd (bld [.i .u64 0, .i .i64 0] [(0, 1, v97), (1, 1, (.i .i64 8))]) fun v98 =>
      bnd (fA 5 v1) fun v99 =>
      bnd (l1 ob v99) fun v100 =>
      bnd (bld [.i .u64 0, .i .i64 0] [(0, 1, v100), (1, 1, (.i .i64 8))]) fun v101 =>
      bnd (fA 6 v1) fun v102 =>
      bnd (l1 ob v102) fun v103 =>
      bnd (cv .u64 v103) fun v104 =>
      bnd (bld [.i .u64 0, .i .i64 0] [(0, 1, v104), (1, 1, (.i .i64 1))]) fun v105 =>
      bnd (fA 7 v1) fun v106 =>
      bnd (l1 ob v106) fun v107 =>
      bnd (cv .u64 v107) fun v108 =>
      bnd (bld [.i .u64 0, .i .i64 0] [(0, 1, v108), (1, 1, (.i .i64 2))]) fun v109 =>
      bndO (bldS ob 464 2 [v98, v101, v105, v109]) ob fun v110 ob =>
      fin ob os.length [2, 0] [v110, (.b true)]
     ) (
      bnd (fA 6 v1) fun v111 =>
      bnd (l1 ob v111) fun v112 =>
      bnd (cv .u64 v112) fun v113 =>
      bnd (bld [.i .u64 0, .i .i64 0] [(0, 1, v113), (1, 1, (.i .i64 1))]) fun v114 =>
      bndO (bldS ob 504 2 [v114]) ob fun v115 ob =>
      fin ob os.length [2, 0] [v115, (.b false)]
     )
    )
   )
  )
 )
  )
def ann59 : Nat → Option Hd := fun _ => none
def lab59 : Nat → Option Hd := fun _ => none
noncomputable def m60b0 (Φ : Sem') (N : Nat) (os : List Obj') (g : SL → OB → Option R) (sl : SL) (ob : OB) : Option R :=
  bnd (len (gS sl 1)) fun v21 =>
  bnd (bi .lss (gS sl 10) v21) fun v22 =>
  br v22 (
 bnd (xS ob 1 (gS sl 1) (gS sl 10)) fun v23 =>
 bnd (l1 ob v23) fun v24 =>
 bndO (ca0 Φ ob 528 false 67 [(gS sl 0), (gS sl 9), v24]) ob fun v25 ob =>
 bnd (ext 0 v25) fun v26 =>
 bnd (ext 1 v25) fun v27 =>
 bndO (bldS ob 568 1 [v26]) ob fun v28 ob =>
 bndO (ap ob 576 1 (gS sl 8) v28) ob fun v29 ob =>
 bnd (bi .add (gS sl 10) (.i .i64 1)) fun v30 =>
 bnd (head [.row 8 135 1] [0, 1, 8, 9, 10] [] [(0, (gS sl 0)), (1, (gS sl 1)), (8, v29), (9, v27), (10, v30)] ob) fun x => g x.1 x.2
  ) (
 fin ob os.length [1, 0] [(gS sl 8), (.b true)]
  )
noncomputable def m60b1 (Φ : Sem') (N : Nat) (os : List Obj') (g : SL → OB → Option R) (sl : SL) (ob : OB) : Option R :=
  bnd (len (gS sl 1)) fun v1 =>
  bnd (bi .lss (gS sl 7) v1) fun v2 =>
  br v2 (
 bnd (xS ob 1 (gS sl 1) (gS sl 7)) fun v3 =>
 bnd (l1 ob v3) fun v4 =>
 bnd (bi .lss v4 (.i .i64 1)) fun v5 =>
 bnd (gd v5 false (some (gS sl 1))) fun v6 =>
 bnd (gd v5 false (some (gS sl 7))) fun v7 =>
 bnd (gd v5 false (xS ob 1 v6 v7)) fun v8 =>
 bnd (gd v5 false (l1 ob v8)) fun v9 =>
 bnd (gd v5 false (bi .gtr v9 (.i .i64 8))) fun v10 =>
 bnd (pk v5 (.b true) v10) fun v11 =>
 bnd (gd v11 false (some (gS sl 7))) fun v12 =>
 bnd (gd v11 false (bi .geq v12 (.i .i64 40))) fun v13 =>
 bnd (pk v11 (.b true) v13) fun v14 =>
 br v14 (
  fin ob os.length [1, 0] [(.e true), (.b false)]
 ) (
  bnd (xS ob 1 (gS sl 1) (gS sl 7)) fun v15 =>
  bnd (l1 ob v15) fun v16 =>
  bnd (bi .add (gS sl 6) v16) fun v17 =>
  bnd (bi .add (gS sl 7) (.i .i64 1)) fun v18 =>
  bnd (head [] [0, 1, 6, 7] [] [(0, (gS sl 0)), (1, (gS sl 1)), (6, v17), (7, v18)] ob) fun x => g x.1 x.2
 )
  ) (
 bnd (len (gS sl 0)) fun v19 =>
 bnd (bi .neq (gS sl 6) v19) fun v20 =>
 br v20 (
  fin ob os.length [1, 0] [(.e true), (.b false)]
 ) (
  bnd (head [.row 8 135 1] [0, 1, 8, 9, 10] [] [(0, (gS sl 0)), (1, (gS sl 1)), (8, (.e true)), (9, (.i .i64 0)), (10, (.i .i64 0))] ob) fun x => loopC (m60b0 Φ N os) N x.1 x.2
 )
  )
noncomputable def m60 : Body := fun Φ N as os =>
  let a0 := gS (zipN 0 as) 0
  let a1 := gS (zipN 0 as) 1
  let ob := zipN 0 os
  bnd (head [] [0, 1, 6, 7] [] [(0, a0), (1, a1), (6, (.i .i64 0)), (7, (.i .i64 0))] ob) fun x => loopC (m60b1 Φ N os) N x.1 x.2
def ann60 : Nat → Option Hd
  | 3 => some ⟨[], [0, 1, 6, 7], [], []⟩ | 13 => some ⟨[.row 8 135 1], [0, 1, 8, 9, 10], [], []⟩ | _ => none
def lab60 : Nat → Option Hd := fun _ => none
noncomputable def m61 : Body := fun Φ N as os =>
  let a0 := gS (zipN 0 as) 0
  let a1 := gS (zipN 0 as) 1
  let ob := zipN 0 os
  bndO (al ob 96 [.i .i64 0, .i .i64 0, .i .u64 0, .i .u64 0, .i .i64 0, .i .u64 0, .i .i64 0, .i .i64 0, .blob 32 (List.replicate 32 (.i .u8 0))]) ob fun v1 ob =>
  bnd (bld [.i .i64 0, .i .i64 0, .i .u64 0, .i .u64 0, .i .i64 0, .i .u64 0, .i .i64 0, .i .i64 0, .blob 32 (List.replicate 32 (.i .u8 0))] [(0, 1, a0)]) fun v2 =>
  bndO (al ob 104 [.i .i64 0, .i .i64 0, .i .u64 0, .i .u64 0, .i .i64 0, .i .u64 0, .i .i64 0, .i .i64 0, .blob 32 (List.replicate 32 (.i .u8 0))]) ob fun v3 ob =>
  bndO (st ob 40 v3 v2) ob fun _ ob =>
  bnd (bi .eql a0 (.i .i64 0)) fun v4 =>
  br v4 (
 bnd (xS ob 1 a1 (.i .i64 0)) fun v5 =>
 bnd (l1 ob v5) fun v6 =>
 bnd (cv .i64 v6) fun v7 =>
 bnd (fA 1 v3) fun v8 =>
 bndO (st ob 1 v8 v7) ob fun _ ob =>
 bnd (xS ob 1 a1 (.i .i64 1)) fun v9 =>
 bnd (l1 ob v9) fun v10 =>
 bnd (fA 3 v3) fun v11 =>
 bndO (st ob 1 v11 v10) ob fun _ ob =>
 bnd (lN ob 40 v3) fun v12 =>
 bndO (st ob 40 v1 v12) ob fun _ ob =>
 bnd (lN ob 40 v1) fun v13 =>
 fin ob os.length [0] [v13]
  ) (
 bnd (bi .eql a0 (.i .i64 1)) fun v14 =>
 br v14 (
  bnd (xS ob 1 a1 (.i .i64 0)) fun v15 =>
  bnd (l1 ob v15) fun v16 =>
  bnd (fA 2 v3) fun v17 =>
  bndO (st ob 1 v17 v16) ob fun _ ob =>
  bnd (xS ob 1 a1 (.i .i64 1)) fun v18 =>
  bnd (l1 ob v18) fun v19 =>
  bnd (cv .i64 v19) fun v20 =>
  bnd (fA 4 v3) fun v21 =>
  bndO (st ob 1 v21 v20) ob fun _ ob =>
  bnd (lN ob 40 v3) fun v22 =>
  bndO (st ob 40 v1 v22) ob fun _ ob =>
  bnd (lN ob 40 v1) fun v23 =>
  fin ob os.length [0] [v23]
 ) (
  bnd (bi .eql a0 (.i .i64 2)) fun v24 =>
  br v24 (
   br v24 (
    bnd (xS ob 1 a1 (.i .i64 0)) fun v25 =>
    bnd (l1 ob v25) fun v26 =>
    bnd (fA 2 v3) fun v27 =>
    bndO (st ob 1 v27 v26) ob fun _ ob =>
    bnd (lN ob 40 v3) fun v28 =>
    bndO (st ob 40 v1 v28) ob fun _ ob =>
    bnd (lN ob 40 v1) fun v29 =>
    fin ob os.length [0] [v29]
   ) (
    bnd (bi .eql a0 (.i .i64 4)) fun v30 =>
    br v30 (
     br v30 (
      bnd (xS ob 1 a1 (.i .i64 0)) fun v31 =>
      bnd (l1 ob v31) fun v32 =>
      bnd (fA 2 v3) fun v33 =>
      bndO (st ob 1 v33 v32) ob fun _ ob =>
      bnd (xS ob 1 a1 (.i .i64 1)) fun v34 =>
      bnd (l1 ob v34) fun v35 =>
      bnd (fA 5 v3) fun v36 =>
      bndO (st ob 1 v36 v35) ob fun _ ob =>
      bnd (xS ob 1 a1 (.i .i64 2)) fun v37 =>
      bnd (l1 ob v37) fun v38 =>
      bnd (cv .i64 v38) fun v39 =>
      bnd (fA 6 v3) fun v40 =>
      bndO (st ob 1 v40 v39) ob fun _ ob =>
      bnd (xS ob 1 a1 (.i .i64 3)) fun v41 =>
      bnd (l1 ob v41) fun v42 =>
      bnd (cv .i64 v42) fun v43 =>
      bnd (fA 7 v3) fun v44 =>
      bndO (st ob 1 v44 v43) ob fun _ ob =>
      bnd (lN ob 40 v3) fun v45 =>
      bndO (st ob 40 v1 v45) ob fun _ ob =>
      bnd (lN ob 40 v1) fun v46 =>
      fin ob os.length [0] [v46]
     ) (
      bnd (xS ob 1 a1 (.i .i64 0)) fun v47 =>
      bnd (l1 ob v47) fun v48 =>
      bnd (cv .i64 v48) fun v49 =>
      bnd (fA 6 v3) fun v50 =>
      bndO (st ob 1 v50 v49) ob fun _ ob =>
      bnd (lN ob 40 v3) fun v51 =>
      bndO (st ob 40 v1 v51) ob fun _ ob =>
      bnd (lN ob 40 v1) fun v52 =>
      fin ob os.length [0] [v52]
     )
    ) (
     bnd (bi .eql a0 (.i .i64 5)) fun v53 =>
     br v53 (
      bnd (xS ob 1 a1 (.i .i64 0)) fun v54 =>
      bnd (l1 ob v54) fun v55 =>
      bnd (fA 2 v3) fun v56 =>
      bndO (st ob 1 v56 v55) ob fun _ ob =>
      bnd (xS ob 1 a1 (.i .i64 1)) fun v57 =>
      bnd (l1 ob v57) fun v58 =>
      bnd (fA 5 v3) fun v59 =>
      bndO (st ob 1 v59 v58) ob fun _ ob =>
      bnd (xS ob 1 a1 (.i .i64 2)) fun v60 =>
      bnd (l1 ob v60) fun v61 =>
      bnd (cv .i64 v61) fun v62 =>
      bnd (fA 6 v3) fun v63 =>
      bndO (st ob 1 v63 v62) ob fun _ ob =>
      bnd (xS ob 1 a1 (.i .i64 3)) fun v64 =>
      bnd (l1 ob v64) fun v65 =>
      bnd (cv .i64 v65) fun v66 =>
      bnd (fA 7 v3) fun v67 =>
      bndO (st ob 1 v67 v66) ob fun _ ob =>
      bnd (lN ob 40 v3) fun v68 =>
      bndO (st ob 40 v1 v68) ob fun _ ob =>
      bnd (lN ob 40 v1) fun v69 =>
      fin ob os.length [0] [v69]
     ) (
      bnd (xS ob 1 a1 (.i .i64 0)) fun v70 =>
      bnd (l1 ob v70) fun v71 =>
      bnd (cv .i64 v71) fun v72 =>
      bnd (fA 6 v3) fun v73 =>
      bndO (st ob 1 v73 v72) ob fun _ ob =>
      bnd (lN ob 40 v3) fun v74 =>
      bndO (st ob 40 v1 v74) ob fun _ ob =>
      bnd (lN ob 40 v1) fun v75 =>
      fin ob os.length [0] [v75]
     )
    )
   )
  ) (
   bnd (bi .eql a0 (.i .i64 3)) fun v76 =>
   br v76 (
    bnd (xS ob 1 a1 (.i .i64 0)) fun v77 =>
    bnd (l1 ob v77) fun v78 =>
    bnd (fA 2 v3) fun v79 =>
    bndO (st ob 1 v79 v78) ob fun _ ob =>
    bnd (lN ob 40 v3) fun v80 =>
    bndO (st ob 40 v1 v80) ob fun _ ob =>
    bnd (lN ob 40 v1) fun v81 =>
    fin ob os.length [0] [v81]
   ) (
    bnd (bi .eql a0 (.i .i64 4)) fun v82 =>
    br v82 (
     br v82 (
      bnd (xS ob 1 a1 (.i .i64 0)) fun v83 =>
      bnd (l1 ob v83) fun v84 =>
      bnd (fA 2 v3) fun v85 =>
      bndO (st ob 1 v85 v84) ob fun _ ob =>
      bnd (xS ob 1 a1 (.i .i64 1)) fun v86 =>
      bnd (l1 ob v86) fun v87 =>
      bnd (fA 5 v3) fun v88 =>
      bndO (st ob 1 v88 v87) ob fun _ ob =>
      bnd (xS ob 1 a1 (.i .i64 2)) fun v89 =>
      bnd (l1 ob v89) fun v90 =>
      bnd (cv .i64 v90) fun v91 =>
      bnd (fA 6 v3) fun v92 =>
      bndO (st ob 1 v92 v91) ob fun _ ob =>
      bnd (xS ob 1 a1 (.i .i64 3)) fun v93 =>
      bnd (l1 ob v93) fun v94 =>
      bnd (cv .i64 v94) fun v95 =>
      bnd (fA 7 v3) fun v96 =>
      bndO (st ob 1 v96 v95) ob fun _ ob =>
      bnd (lN ob 40 v3) fun v97 =>
      bndO (st ob 40 v1 v97) ob fun _ ob =>
      bnd (lN ob 40 v1) fun v98 =>
      fin ob os.length [0] [v98]
     ) (
      bnd (xS ob 1 a1 (.i .i64 0)) fun v99 =>
      bnd (l1 ob v99) fun v100 =>
      bnd (cv .i64 v100) fun v101 =>
      bnd (fA 6 v3) fun v102 =>
      bndO (st ob 1 v102 v101) ob fun _ ob =>
      bnd (lN ob 40 v3) fun v103 =>
      bndO (st ob 40 v1 v103) ob fun _ ob =>
      bnd (lN ob 40 v1) fun v104 =>
      fin ob os.length [0] [v104]
     )
    ) (
     bnd (bi .eql a0 (.i .i64 5)) fun v105 =>
     br v105 (
      bnd (xS ob 1 a1 (.i .i64 0)) fun v106 =>
      bnd (l1 ob v106) fun v107 =>
      bnd (fA 2 v3) fun v108 =>
      bndO (st ob 1 v108 v107) ob fun _ ob =>
      bnd (xS ob 1 a1 (.i .i64 1)) fun v109 =>
      bnd (l1 ob v109) fun v110 =>
      bnd (fA 5 v3) fun v111 =>
      bndO (st ob 1 v111 v110) ob fun _ ob =>
      bnd (xS ob 1 a1 (.i .i64 2)) fun v112 =>
      bnd (l1 ob v112) fun v113 =>
      bnd (cv .i64 v113) fun v114 =>
      bnd (fA 6 v3) fun v115 =>
      bndO (st ob 1 v115 v114) ob fun _ ob =>
      bnd (xS ob 1 a1 (.i .i64 3)) fun v116 =>
      bnd (l1 ob v116) fun v117 =>
      bnd (cv .i64 v117) fun v118 =>
      bnd (fA 7 v3) fun v119 =>
      bndO (st ob 1 v119 v118) ob fun _ ob =>
      bnd (lN ob 40 v3) fun v120 =>
      bndO (st ob 40 v1 v120) ob fun _ ob =>
      bnd (lN ob 40 v1) fun v121 =>
      fin ob os.length [0] [v121]
     ) (
      bnd (xS ob 1 a1 (.i .i64 0)) fun v122 =>
      bnd (l1 ob v122) fun v123 =>
      bnd (cv .i64 v123) fun v124 =>
      bnd (fA 6 v3) fun v125 =>
      bndO (st ob 1 v125 v124) ob fun _ ob =>
      bnd (lN ob 40 v3) fun v126 =>
      bndO (st ob 40 v1 v126) ob fun _ ob =>
      bnd (lN ob 40 v1) fun v127 =>
      fin ob os.length [0] [v127]
     )
    )
   )
  )
 )
  )
def ann61 : Nat → Option Hd := fun _ => none
def lab61 : Nat → Option Hd := fun _ => none
noncomputable def m62 : Body := fun Φ N as os =>
  let a0 := gS (zipN 0 as) 0
  let ob := zipN 0 os
  bndO (bx ob 72 a0) ob fun v1 ob =>
  bnd (lN ob 40 v1) fun v2 =>
  bndO (ca0 Φ ob 128 false 68 [v2]) ob fun v3 ob =>
  bnd (uO .not v3) fun v4 =>
  br v4 (
 fin ob os.length [1, 0] [(.e true), (.b false)]
  ) (
 bnd (lN ob 40 v1) fun v5 =>
 bndO (ca0 Φ ob 168 false 69 [v5]) ob fun v6 ob =>
 bnd (ext 0 v6) fun v7 =>
 bnd (ext 1 v6) fun v8 =>
 br v8 (
  bnd (fA 8 v1) fun v9 =>
  bndO (slc ob (.arr 32) v9 none none none) ob fun v10 ob =>
  bndO (ap ob 224 1 v7 v10) ob fun v11 ob =>
  fin ob os.length [1, 0] [v11, (.b true)]
 ) (
  fin ob os.length [1, 0] [v7, (.b true)]
 )
  )
def ann62 : Nat → Option Hd := fun _ => none
def lab62 : Nat → Option Hd := fun _ => none
noncomputable def m64 : Body := fun Φ N as os =>
  let a0 := gS (zipN 0 as) 0
  let a1 := gS (zipN 0 as) 1
  let ob := zipN 0 os
  bnd (len a0) fun v1 =>
  bnd (bi .sub v1 a1) fun v2 =>
  bndO (ca Φ ob 136 false 70 [a0, v2]) ob fun v3 ob =>
  fin ob os.length [] []
def ann64 : Nat → Option Hd := fun _ => none
def lab64 : Nat → Option Hd := fun _ => none
noncomputable def m65j0 (Φ : Sem') (N : Nat) (os : List Obj') (g : SL → OB → Option R) (sl : SL) (ob : OB) : Option R :=
  bnd (cv .u8 (gS sl 0)) fun v1 =>
  bnd (xS ob 1 (gS sl 6) (gS sl 7)) fun v2 =>
  bndO (st ob 1 v2 v1) ob fun _ ob =>
  bnd (bi .shr (gS sl 0) (.i .u64 8)) fun v3 =>
  bnd (bi .sub (gS sl 7) (.i .i64 1)) fun v4 =>
  bnd (bi .geq v4 (.i .i64 0)) fun v5 =>
  br v5 (
 bnd (head [] [0, 6, 7] [248] [(0, v3), (6, (gS sl 6)), (7, v4)] ob) fun x => g x.1 x.2
  ) (
 fin ob os.length [1, 0] [(gS sl 6), (.b true)]
  )
noncomputable def m65 : Body := fun Φ N as os =>
  let a0 := gS (zipN 0 as) 0
  let a1 := gS (zipN 0 as) 1
  let ob := zipN 0 os
  bndO (ca0 Φ ob 136 false 50 [a1]) ob fun v6 ob =>
  bnd (uO .not v6) fun v7 =>
  bnd (gd v7 false (some a1)) fun v8 =>
  bnd (gd v7 false (bi .lss v8 (.i .i64 8))) fun v9 =>
  bnd (gd v7 false (some v9)) fun v10 =>
  bnd (gd v10 true (some a0)) fun v11 =>
  bnd (gd v10 true (some a1)) fun v12 =>
  bnd (gd v10 true (bi .mul (.i .i64 8) v12)) fun v13 =>
  bnd (gd v10 true (bi .shr v11 v13)) fun v14 =>
  bnd (gd v10 true (bi .neq v14 (.i .u64 0))) fun v15 =>
  bnd (gd v7 false (pk v10 v15 (.b false))) fun v16 =>
  bnd (pk v7 (.b true) v16) fun v17 =>
  br v17 (
 fin ob os.length [1, 0] [(.e true), (.b false)]
  ) (
 bndO (mks ob 248 [.i .u8 0] a1) ob fun v18 ob =>
 bnd (bi .sub a1 (.i .i64 1)) fun v19 =>
 bnd (cv .u8 a0) fun v20 =>
 bnd (xS ob 1 v18 v19) fun v21 =>
 bndO (st ob 1 v21 v20) ob fun _ ob =>
 bnd (bi .shr a0 (.i .u64 8)) fun v22 =>
 bnd (bi .sub v19 (.i .i64 1)) fun v23 =>
 bnd (bi .geq v23 (.i .i64 0)) fun v24 =>
 br v24 (
  bnd (head [] [0, 6, 7] [248] [(0, v22), (6, v18), (7, v23)] ob) fun x => loopC (m65j0 Φ N os) N x.1 x.2
 ) (
  fin ob os.length [1, 0] [v18, (.b true)]
 )
  )
def ann65 : Nat → Option Hd := fun _ => none
def lab65 : Nat → Option Hd
  | 0 => some ⟨[], [0, 6, 7], [248], []⟩ | _ => none
noncomputable def m66 : Body := fun Φ N as os =>
  let a0 := gS (zipN 0 as) 0
  let ob := zipN 0 os
  bnd (bi .geq a0 (.i .i64 0)) fun v1 =>
  bnd (gd v1 true (some a0)) fun v2 =>
  bnd (gd v1 true (bi .lss v2 (.i .i64 4))) fun v3 =>
  bnd (pk v1 v3 (.b false)) fun v4 =>
  fin ob os.length [0] [v4]
def ann66 : Nat → Option Hd := fun _ => none
def lab66 : Nat → Option Hd := fun _ => none
noncomputable def m67b0 (Φ : Sem') (N : Nat) (os : List Obj') (g : SL → OB → Option R) (sl : SL) (ob : OB) : Option R :=
  bnd (bi .add (gS sl 1) (gS sl 2)) fun v20 =>
  bnd (bi .lss (gS sl 9) v20) fun v21 =>
  br v21 (
 bnd (bi .mul (.i .u64 256) (gS sl 8)) fun v22 =>
 bnd (xS ob 1 (gS sl 0) (gS sl 9)) fun v23 =>
 bnd (l1 ob v23) fun v24 =>
 bnd (cv .u64 v24) fun v25 =>
 bnd (bi .add v22 v25) fun v26 =>
 bnd (bi .add (gS sl 9) (.i .i64 1)) fun v27 =>
 bnd (head [] [0, 1, 2, 8, 9] [] [(0, (gS sl 0)), (1, (gS sl 1)), (2, (gS sl 2)), (8, v26), (9, v27)] ob) fun x => g x.1 x.2
  ) (
 bnd (bi .add (gS sl 1) (gS sl 2)) fun v28 =>
 fin ob os.length [0, 0] [(gS sl 8), v28]
  )
noncomputable def m67 : Body := fun Φ N as os =>
  let a0 := gS (zipN 0 as) 0
  let a1 := gS (zipN 0 as) 1
  let a2 := gS (zipN 0 as) 2
  let ob := zipN 0 os
  bnd (bi .lss a2 (.i .i64 1)) fun v1 =>
  bnd (gd v1 false (some a2)) fun v2 =>
  bnd (gd v1 false (bi .gtr v2 (.i .i64 8))) fun v3 =>
  bnd (pk v1 (.b true) v3) fun v4 =>
  bnd (gd v4 false (some a1)) fun v5 =>
  bnd (gd v4 false (bi .lss v5 (.i .i64 0))) fun v6 =>
  bnd (pk v4 (.b true) v6) fun v7 =>
  bnd (gd v7 false (some a1)) fun v8 =>
  bnd (gd v7 false (some a0)) fun v9 =>
  bnd (gd v7 false (len v9)) fun v10 =>
  bnd (gd v7 false (bi .gtr v8 v10)) fun v11 =>
  bnd (pk v7 (.b true) v11) fun v12 =>
  bnd (gd v12 false (some a0)) fun v13 =>
  bnd (gd v12 false (len v13)) fun v14 =>
  bnd (gd v12 false (some a1)) fun v15 =>
  bnd (gd v12 false (bi .sub v14 v15)) fun v16 =>
  bnd (gd v12 false (some a2)) fun v17 =>
  bnd (gd v12 false (bi .lss v16 v17)) fun v18 =>
  bnd (pk v12 (.b true) v18) fun v19 =>
  br v19 (
 fin ob os.length [0, 0] [(.i .u64 0), (.i .i64 (-1))]
  ) (
 bnd (head [] [0, 1, 2, 8, 9] [] [(0, a0), (1, a1), (2, a2), (8, (.i .u64 0)), (9, a1)] ob) fun x => loopC (m67b0 Φ N os) N x.1 x.2
  )
def ann67 : Nat → Option Hd
  | 5 => some ⟨[], [0, 1, 2, 8, 9], [], []⟩ | _ => none
def lab67 : Nat → Option Hd := fun _ => none
noncomputable def m68b0 (Φ : Sem') (N : Nat) (os : List Obj') (g : SL → OB → Option R) (sl : SL) (ob : OB) : Option R :=
  bnd (len (gS sl 3)) fun v45 =>
  bnd (bi .lss (gS sl 6) v45) fun v46 =>
  br v46 (
 bnd (xS ob 2 (gS sl 3) (gS sl 6)) fun v47 =>
 bnd (fA 0 v47) fun v48 =>
 bnd (l1 ob v48) fun v49 =>
 bndO (bldS ob 648 1 [v49]) ob fun v50 ob =>
 bndO (ap ob 656 1 (gS sl 5) v50) ob fun v51 ob =>
 bnd (bi .add (gS sl 6) (.i .i64 1)) fun v52 =>
 bnd (head [.row 5 111 1] [1, 3, 4, 5, 6] [72, 528] [(1, (gS sl 1)), (3, (gS sl 3)), (4, (gS sl 4)), (5, v51), (6, v52)] ob) fun x => g x.1 x.2
  ) (
 bnd (fA 0 (gS sl 1)) fun v53 =>
 bnd (l1 ob v53) fun v54 =>
 bndO (ca0 Φ ob 688 false 61 [v54, (gS sl 5)]) ob fun v55 ob =>
 bndO (al ob 120 [.i .i64 0, .i .i64 0, .i .u64 0, .i .u64 0, .i .i64 0, .i .u64 0, .i .i64 0, .i .i64 0, .blob 32 (List.replicate 32 (.i .u8 0))]) ob fun v56 ob =>
 bndO (st ob 40 v56 v55) ob fun _ ob =>
 br (gS sl 4) (
  bnd (fA 8 (gS sl 1)) fun v57 =>
  bnd (lN ob 32 v57) fun v58 =>
  bnd (fA 8 v56) fun v59 =>
  bndO (st ob 32 v59 v58) ob fun _ ob =>
  bnd (lN ob 40 v56) fun v60 =>
  bnd (lN ob 40 (gS sl 1)) fun v61 =>
  bnd (eSt false [.i, .i, .i, .i, .i, .i, .i, .i, .a 32] v60 v61) fun v62 =>
  fin ob os.length [0] [v62]
 ) (
  bnd (lN ob 40 v56) fun v63 =>
  bnd (lN ob 40 (gS sl 1)) fun v64 =>
  bnd (eSt false [.i, .i, .i, .i, .i, .i, .i, .i, .a 32] v63 v64) fun v65 =>
  fin ob os.length [0] [v65]
 )
  )
noncomputable def m68 : Body := fun Φ N as os =>
  let a0 := gS (zipN 0 as) 0
  let ob := zipN 0 os
  bndO (bx ob 72 a0) ob fun v1 ob =>
  bnd (fA 0 v1) fun v2 =>
  bnd (l1 ob v2) fun v3 =>
  bnd (bi .lss v3 (.i .i64 0)) fun v4 =>
  bnd (gd v4 false (fA 0 v1)) fun v5 =>
  bnd (gd v4 false (l1 ob v5)) fun v6 =>
  bnd (gd v4 false (bi .geq v6 (.i .i64 7))) fun v7 =>
  bnd (pk v4 (.b true) v7) fun v8 =>
  bnd (gd v8 false (fA 1 v1)) fun v9 =>
  bnd (gd v8 false (l1 ob v9)) fun v10 =>
  bnd (gd v8 false (bi .lss v10 (.i .i64 0))) fun v11 =>
  bnd (pk v8 (.b true) v11) fun v12 =>
  bnd (gd v12 false (fA 1 v1)) fun v13 =>
  bnd (gd v12 false (l1 ob v13)) fun v14 =>
  bnd (gd v12 false (bi .gtr v14 (.i .i64 255))) fun v15 =>
  bnd (pk v12 (.b true) v15) fun v16 =>
  bnd (gd v16 false (fA 4 v1)) fun v17 =>
  bnd (gd v16 false (l1 ob v17)) fun v18 =>
  bnd (gd v16 false (bi .lss v18 (.i .i64 0))) fun v19 =>
  bnd (pk v16 (.b true) v19) fun v20 =>
  bnd (gd v20 false (fA 4 v1)) fun v21 =>
  bnd (gd v20 false (l1 ob v21)) fun v22 =>
  bnd (gd v20 false (bi .gtr v22 (.i .i64 1073741824))) fun v23 =>
  bnd (pk v20 (.b true) v23) fun v24 =>
  bnd (gd v24 false (fA 6 v1)) fun v25 =>
  bnd (gd v24 false (l1 ob v25)) fun v26 =>
  bnd (gd v24 false (bi .lss v26 (.i .i64 0))) fun v27 =>
  bnd (pk v24 (.b true) v27) fun v28 =>
  bnd (gd v28 false (fA 6 v1)) fun v29 =>
  bnd (gd v28 false (l1 ob v29)) fun v30 =>
  bnd (gd v28 false (bi .gtr v30 (.i .i64 255))) fun v31 =>
  bnd (pk v28 (.b true) v31) fun v32 =>
  bnd (gd v32 false (fA 7 v1)) fun v33 =>
  bnd (gd v32 false (l1 ob v33)) fun v34 =>
  bnd (gd v32 false (bi .lss v34 (.i .i64 0))) fun v35 =>
  bnd (pk v32 (.b true) v35) fun v36 =>
  bnd (gd v36 false (fA 7 v1)) fun v37 =>
  bnd (gd v36 false (l1 ob v37)) fun v38 =>
  bnd (gd v36 false (bi .gtr v38 (.i .i64 65535))) fun v39 =>
  bnd (pk v36 (.b true) v39) fun v40 =>
  br v40 (
 fin ob os.length [0] [(.b false)]
  ) (
 bnd (lN ob 40 v1) fun v41 =>
 bndO (ca0 Φ ob 528 false 59 [v41]) ob fun v42 ob =>
 bnd (ext 0 v42) fun v43 =>
 bnd (ext 1 v42) fun v44 =>
 bnd (head [.row 5 111 1] [1, 3, 4, 5, 6] [72, 528] [(1, v1), (3, v43), (4, v44), (5, (.e true)), (6, (.i .i64 0))] ob) fun x => loopC (m68b0 Φ N os) N x.1 x.2
  )
def ann68 : Nat → Option Hd
  | 6 => some ⟨[.row 5 111 1], [1, 3, 4, 5, 6], [72, 528], []⟩ | _ => none
def lab68 : Nat → Option Hd := fun _ => none
noncomputable def m69 : Body := fun Φ N as os =>
  let a0 := gS (zipN 0 as) 0
  let ob := zipN 0 os
  bndO (bx ob 72 a0) ob fun v1 ob =>
  bnd (lN ob 40 v1) fun v2 =>
  bndO (ca0 Φ ob 152 false 59 [v2]) ob fun v3 ob =>
  bnd (ext 0 v3) fun v4 =>
  bnd (ext 1 v3) fun v5 =>
  bndO (ca0 Φ ob 192 false 71 [v4]) ob fun v6 ob =>
  bnd (ext 0 v6) fun v7 =>
  bnd (ext 1 v6) fun v8 =>
  bnd (len v7) fun v9 =>
  bnd (bi .add (.i .i64 1) v9) fun v10 =>
  br v5 (
 bnd (bi .add v10 (.i .i64 32)) fun v11 =>
 bnd (cv .u8 v11) fun v12 =>
 bnd (fA 0 v1) fun v13 =>
 bnd (l1 ob v13) fun v14 =>
 bnd (cv .u8 v14) fun v15 =>
 bndO (bldS ob 304 1 [(.i .u8 0), v12, v15]) ob fun v16 ob =>
 bndO (ap ob 320 1 v16 v7) ob fun v17 ob =>
 fin ob os.length [1, 0] [v17, v5]
  ) (
 bnd (cv .u8 v10) fun v18 =>
 bnd (fA 0 v1) fun v19 =>
 bnd (l1 ob v19) fun v20 =>
 bnd (cv .u8 v20) fun v21 =>
 bndO (bldS ob 304 1 [(.i .u8 0), v18, v21]) ob fun v22 ob =>
 bndO (ap ob 320 1 v22 v7) ob fun v23 ob =>
 fin ob os.length [1, 0] [v23, v5]
  )
def ann69 : Nat → Option Hd := fun _ => none
def lab69 : Nat → Option Hd := fun _ => none
noncomputable def m70 : Body := fun Φ N as os =>
  let a0 := gS (zipN 0 as) 0
  let a1 := gS (zipN 0 as) 1
  let ob := zipN 0 os
  bndO (slc ob (.slice 3) a0 none (some a1) none) ob fun v1 ob =>
  bndO (ca Φ ob 120 false 72 [v1]) ob fun v2 ob =>
  bndO (slc ob (.slice 3) a0 (some a1) none none) ob fun v3 ob =>
  bndO (ca Φ ob 152 false 72 [v3]) ob fun v4 ob =>
  bndO (ca Φ ob 168 false 72 [a0]) ob fun v5 ob =>
  fin ob os.length [] []
def ann70 : Nat → Option Hd := fun _ => none
def lab70 : Nat → Option Hd := fun _ => none
noncomputable def m71b0 (Φ : Sem') (N : Nat) (os : List Obj') (g : SL → OB → Option R) (sl : SL) (ob : OB) : Option R :=
  bnd (len (gS sl 0)) fun v3 =>
  bnd (bi .lss (gS sl 5) v3) fun v4 =>
  br v4 (
 bnd (xS ob 2 (gS sl 0) (gS sl 5)) fun v5 =>
 bnd (fA 0 v5) fun v6 =>
 bnd (l1 ob v6) fun v7 =>
 bnd (xS ob 2 (gS sl 0) (gS sl 5)) fun v8 =>
 bnd (fA 1 v8) fun v9 =>
 bnd (l1 ob v9) fun v10 =>
 bndO (ca0 Φ ob 288 false 73 [v7, v10]) ob fun v11 ob =>
 bnd (ext 0 v11) fun v12 =>
 bnd (ext 1 v11) fun v13 =>
 bnd (uO .not v13) fun v14 =>
 br v14 (
  fin ob os.length [1, 0] [(.e true), (.b false)]
 ) (
  bndO (ap ob 344 1 (gS sl 4) v12) ob fun v15 ob =>
  bnd (bi .add (gS sl 5) (.i .i64 1)) fun v16 =>
  bnd (head [.row 4 103 1] [0, 4, 5] [] [(0, (gS sl 0)), (4, v15), (5, v16)] ob) fun x => g x.1 x.2
 )
  ) (
 fin ob os.length [1, 0] [(gS sl 4), (.b true)]
  )
noncomputable def m71 : Body := fun Φ N as os =>
  let a0 := gS (zipN 0 as) 0
  let ob := zipN 0 os
  bnd (len a0) fun v1 =>
  bnd (bi .gtr v1 (.i .i64 40)) fun v2 =>
  br v2 (
 fin ob os.length [1, 0] [(.e true), (.b false)]
  ) (
 bnd (head [.row 4 103 1] [0, 4, 5] [] [(0, a0), (4, (.e true)), (5, (.i .i64 0))] ob) fun x => loopC (m71b0 Φ N os) N x.1 x.2
  )
def ann71 : Nat → Option Hd
  | 5 => some ⟨[.row 4 103 1], [0, 4, 5], [], []⟩ | _ => none
def lab71 : Nat → Option Hd := fun _ => none
noncomputable def m72b0 (Φ : Sem') (N : Nat) (os : List Obj') (g : SL → OB → Option R) (sl : SL) (ob : OB) : Option R :=
  bnd (bi .lss (gS sl 2) (gS sl 3)) fun v3 =>
  br v3 (
 bnd (xS ob 3 (gS sl 0) (gS sl 3)) fun v4 =>
 bnd (lN ob 3 v4) fun v5 =>
 bnd (xS ob 3 (gS sl 0) (gS sl 2)) fun v6 =>
 bnd (lN ob 3 v6) fun v7 =>
 bnd (xS ob 3 (gS sl 0) (gS sl 2)) fun v8 =>
 bndO (st ob 3 v8 v5) ob fun _ ob =>
 bnd (xS ob 3 (gS sl 0) (gS sl 3)) fun v9 =>
 bndO (st ob 3 v9 v7) ob fun _ ob =>
 bnd (bi .add (gS sl 2) (.i .i64 1)) fun v10 =>
 bnd (bi .sub (gS sl 3) (.i .i64 1)) fun v11 =>
 bnd (head [] [0, 2, 3] [] [(0, (gS sl 0)), (2, v10), (3, v11)] ob) fun x => g x.1 x.2
  ) (
 fin ob os.length [] []
  )
noncomputable def m72 : Body := fun Φ N as os =>
  let a0 := gS (zipN 0 as) 0
  let ob := zipN 0 os
  bnd (len a0) fun v1 =>
  bnd (bi .sub v1 (.i .i64 1)) fun v2 =>
  bnd (head [] [0, 2, 3] [] [(0, a0), (2, (.i .i64 0)), (3, v2)] ob) fun x => loopC (m72b0 Φ N os) N x.1 x.2
def ann72 : Nat → Option Hd
  | 1 => some ⟨[], [0, 2, 3], [], []⟩ | _ => none
def lab72 : Nat → Option Hd := fun _ => none
noncomputable def m73b0 (Φ : Sem') (N : Nat) (os : List Obj') (g : SL → OB → Option R) (sl : SL) (ob : OB) : Option R :=
  bnd (bi .geq (gS sl 7) (.i .i64 0)) fun v7 =>
  br v7 (
 bnd (bi .rem (gS sl 0) (.i .u64 256)) fun v8 =>
 bnd (cv .u8 v8) fun v9 =>
 bnd (xS ob 1 (gS sl 6) (gS sl 7)) fun v10 =>
 bndO (st ob 1 v10 v9) ob fun _ ob =>
 bnd (bi .quo (gS sl 0) (.i .u64 256)) fun v11 =>
 bnd (bi .sub (gS sl 7) (.i .i64 1)) fun v12 =>
 bnd (head [] [0, 6, 7] [184] [(0, v11), (6, (gS sl 6)), (7, v12)] ob) fun x => g x.1 x.2
  ) (
 bnd (bi .neq (gS sl 0) (.i .u64 0)) fun v13 =>
 br v13 (
  fin ob os.length [1, 0] [(.e true), (.b false)]
 ) (
  fin ob os.length [1, 0] [(gS sl 6), (.b true)]
 )
  )
noncomputable def m73 : Body := fun Φ N as os =>
  let a0 := gS (zipN 0 as) 0
  let a1 := gS (zipN 0 as) 1
  let ob := zipN 0 os
  bnd (bi .lss a1 (.i .i64 1)) fun v1 =>
  bnd (gd v1 false (some a1)) fun v2 =>
  bnd (gd v1 false (bi .gtr v2 (.i .i64 8))) fun v3 =>
  bnd (pk v1 (.b true) v3) fun v4 =>
  br v4 (
 fin ob os.length [1, 0] [(.e true), (.b false)]
  ) (
 bndO (mks ob 184 [.i .u8 0] a1) ob fun v5 ob =>
 bnd (bi .sub a1 (.i .i64 1)) fun v6 =>
 bnd (head [] [0, 6, 7] [184] [(0, a0), (6, v5), (7, v6)] ob) fun x => loopC (m73b0 Φ N os) N x.1 x.2
  )
def ann73 : Nat → Option Hd
  | 5 => some ⟨[], [0, 6, 7], [184], []⟩ | _ => none
def lab73 : Nat → Option Hd := fun _ => none
noncomputable def tab : Nat → Option Body
  | 3 => some m3
  | 4 => some m4
  | 5 => some m5
  | 6 => some m6
  | 7 => some m7
  | 8 => some m8
  | 9 => some m9
  | 10 => some m10
  | 11 => some m11
  | 12 => some m12
  | 13 => some m13
  | 14 => some m14
  | 15 => some m15
  | 16 => some m16
  | 17 => some m17
  | 18 => some m18
  | 19 => some m19
  | 20 => some m20
  | 21 => some m21
  | 22 => some m22
  | 23 => some m23
  | 24 => some m24
  | 25 => some m25
  | 26 => some m26
  | 27 => some m27
  | 28 => some m28
  | 29 => some m29
  | 30 => some m30
  | 31 => some m31
  | 32 => some m32
  | 33 => some m33
  | 34 => some m34
  | 35 => some m35
  | 36 => some m36
  | 37 => some m37
  | 38 => some m38
  | 39 => some m39
  | 40 => some m40
  | 41 => some m41
  | 42 => some m42
  | 43 => some m43
  | 44 => some m44
  | 45 => some m45
  | 46 => some m46
  | 47 => some m47
  | 48 => some m48
  | 49 => some m49
  | 50 => some m50
  | 51 => some m51
  | 52 => some m52
  | 53 => some m53
  | 54 => some m54
  | 55 => some m55
  | 56 => some m56
  | 57 => some m57
  | 58 => some m58
  | 59 => some m59
  | 60 => some m60
  | 61 => some m61
  | 62 => some m62
  | 64 => some m64
  | 65 => some m65
  | 66 => some m66
  | 67 => some m67
  | 68 => some m68
  | 69 => some m69
  | 70 => some m70
  | 71 => some m71
  | 72 => some m72
  | 73 => some m73
  | _ => none
end Go.Proofs.Ytnkapponcbgbhaa
