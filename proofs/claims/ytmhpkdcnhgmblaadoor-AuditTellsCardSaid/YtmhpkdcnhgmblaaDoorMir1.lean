import Derived.Test.YtmhpkdcnhgmblaaDoorDen
set_option linter.all false
set_option linter.unusedVariables false
namespace Go.Proofs.YtmhpkdcnhgmblaaDoor
open Go
def nFirst : List Int := [1779033703, 3144134277, 1013904242, 2773480762, 1359893119, 2600822924, 528734635, 1541459225]
def nMore : List Int := [1116352408, 1899447441, 3049323471, 3921009573, 961987163, 1508970993, 2453635748, 2870763221, 3624381080, 310598401, 607225278, 1426881987, 1925078388, 2162078206, 2614888103, 3248222580, 3835390401, 4022224774, 264347078, 604807628, 770255983, 1249150122, 1555081692, 1996064986, 2554220882, 2821834349, 2952996808, 3210313671, 3336571891, 3584528711, 113926993, 338241895, 666307205, 773529912, 1294757372, 1396182291, 1695183700, 1986661051, 2177026350, 2456956037, 2730485921, 2820302411, 3259730800, 3345764771, 3516065817, 3600352804, 4094571909, 275423344, 430227734, 506948616, 659060556, 883997877, 958139571, 1322822218, 1537002063, 1747873779, 1955562222, 2024104815, 2227730452, 2361852424, 2428436474, 2756734187, 3204031479, 3329325298]
def gFirst : List PV := [.blob 8 (nFirst.map (.i .u32))]
def gMore : List PV := [.blob 64 (nMore.map (.i .u32))]
noncomputable def m3 : Body := fun Φ N as os =>
  let a0 := gS (zipN 0 as) 0
  let a1 := gS (zipN 0 as) 1
  let a2 := gS (zipN 0 as) 2
  let a3 := gS (zipN 0 as) 3
  let a4 := gS (zipN 0 as) 4
  let a5 := gS (zipN 0 as) 5
  let a6 := gS (zipN 0 as) 6
  let ob := zipN 0 os
  bndO (bx ob 120 a0) ob fun v1 ob =>
  bndO (bx ob 128 a1) ob fun v2 ob =>
  bndO (bx ob 136 a2) ob fun v3 ob =>
  bndO (bx ob 160 a5) ob fun v4 ob =>
  bndO (ca0 Φ ob 352 false 9 []) ob fun v5 ob =>
  bnd (lN ob 36 v1) fun v6 =>
  bndO (ca0 Φ ob 368 false 10 [v6]) ob fun v7 ob =>
  bnd (lN ob 36 v2) fun v8 =>
  bndO (ca0 Φ ob 384 false 10 [v8]) ob fun v9 ob =>
  bnd (uO .not v5) fun v10 =>
  bnd (gd v10 false (some v7)) fun v11 =>
  bnd (gd v10 false (uO .not v11)) fun v12 =>
  bnd (pk v10 (.b true) v12) fun v13 =>
  bnd (gd v13 false (some v9)) fun v14 =>
  bnd (gd v13 false (uO .not v14)) fun v15 =>
  bnd (pk v13 (.b true) v15) fun v16 =>
  bnd (gd v16 false (fA 1 v4)) fun v17 =>
  bnd (gd v16 false (l1 ob v17)) fun v18 =>
  bnd (gd v16 false (len v18)) fun v19 =>
  bnd (gd v16 false (bi .gtr v19 (.i .i64 2500))) fun v20 =>
  bnd (pk v16 (.b true) v20) fun v21 =>
  br v21 (
 fin ob os.length [0] [v5]
  ) (
 bnd (lN ob 36 v1) fun v22 =>
 bnd (lN ob 9 v3) fun v23 =>
 bndO (ca0 Φ ob 560 false 11 [v22, v23, a3]) ob fun v24 ob =>
 bnd (ext 0 v24) fun v25 =>
 bnd (ext 1 v24) fun v26 =>
 bndO (al ob 208 [.i .i64 0, .e true, .i .i64 0, .e true, .blob 32 (List.replicate 32 (.i .u8 0))]) ob fun v27 ob =>
 bndO (st ob 36 v27 v25) ob fun _ ob =>
 bnd (lN ob 36 v1) fun v28 =>
 bnd (lN ob 9 v3) fun v29 =>
 bndO (ca0 Φ ob 616 false 12 [v28, v29, a3]) ob fun v30 ob =>
 bnd (ext 0 v30) fun v31 =>
 bnd (ext 1 v30) fun v32 =>
 bndO (al ob 224 [.i .i64 0, .e true, .i .i64 0, .e true, .blob 32 (List.replicate 32 (.i .u8 0))]) ob fun v33 ob =>
 bndO (st ob 36 v33 v31) ob fun _ ob =>
 bnd (lN ob 3 v4) fun v34 =>
 bndO (ca0 Φ ob 656 false 13 [v34]) ob fun v35 ob =>
 bnd (ext 0 v35) fun v36 =>
 bnd (ext 1 v35) fun v37 =>
 bndO (al ob 240 [.i .i64 0, .e true, .i .i64 0, .e true, .blob 32 (List.replicate 32 (.i .u8 0))]) ob fun v38 ob =>
 bndO (st ob 36 v38 v36) ob fun _ ob =>
 bnd (lN ob 3 v4) fun v39 =>
 bndO (ca0 Φ ob 696 false 14 [v39]) ob fun v40 ob =>
 bnd (ext 0 v40) fun v41 =>
 bnd (ext 1 v40) fun v42 =>
 bndO (al ob 256 [.i .i64 0, .e true, .i .i64 0, .e true, .blob 32 (List.replicate 32 (.i .u8 0))]) ob fun v43 ob =>
 bndO (st ob 36 v43 v41) ob fun _ ob =>
 bndO (ca0 Φ ob 736 false 15 [a6]) ob fun v44 ob =>
 bnd (ext 0 v44) fun v45 =>
 bnd (ext 1 v44) fun v46 =>
 bndO (al ob 272 [.i .i64 0, .e true, .i .i64 0, .e true, .blob 32 (List.replicate 32 (.i .u8 0))]) ob fun v47 ob =>
 bndO (st ob 36 v47 v45) ob fun _ ob =>
 bndO (ca0 Φ ob 776 false 16 [a6]) ob fun v48 ob =>
 bnd (ext 0 v48) fun v49 =>
 bnd (ext 1 v48) fun v50 =>
 bndO (al ob 288 [.i .i64 0, .e true, .i .i64 0, .e true, .blob 32 (List.replicate 32 (.i .u8 0))]) ob fun v51 ob =>
 bndO (st ob 36 v51 v49) ob fun _ ob =>
 bnd (lN ob 36 v27) fun v52 =>
 bnd (lN ob 36 v33) fun v53 =>
 bndO (ca0 Φ ob 816 false 17 [v52, v53]) ob fun v54 ob =>
 bnd (lN ob 36 v38) fun v55 =>
 bnd (lN ob 36 v43) fun v56 =>
 bndO (ca0 Φ ob 840 false 17 [v55, v56]) ob fun v57 ob =>
 bnd (lN ob 36 v47) fun v58 =>
 bnd (lN ob 36 v51) fun v59 =>
 bndO (ca0 Φ ob 864 false 17 [v58, v59]) ob fun v60 ob =>
 bnd (lN ob 36 v1) fun v61 =>
 bnd (lN ob 9 v3) fun v62 =>
 bndO (ca0 Φ ob 896 false 19 [v61, v62, a4]) ob fun v63 ob =>
 bnd (lN ob 36 v1) fun v64 =>
 bnd (lN ob 9 v3) fun v65 =>
 bndO (ca0 Φ ob 928 false 20 [v64, v65, a4]) ob fun v66 ob =>
 bndO (ca0 Φ ob 936 false 18 [v63, v66]) ob fun v67 ob =>
 bnd (lN ob 36 v1) fun v68 =>
 bndO (ca0 Φ ob 952 false 21 [v68]) ob fun v69 ob =>
 bnd (lN ob 36 v1) fun v70 =>
 bnd (lN ob 36 v2) fun v71 =>
 bndO (ca0 Φ ob 976 false 17 [v70, v71]) ob fun v72 ob =>
 bnd (gd v54 true (some v26)) fun v73 =>
 bnd (gd v54 true (some v32)) fun v74 =>
 bnd (gd v54 true (bi .eql v73 v74)) fun v75 =>
 bnd (pk v54 v75 (.b false)) fun v76 =>
 bnd (gd v76 true (some v57)) fun v77 =>
 bnd (pk v76 v77 (.b false)) fun v78 =>
 bnd (gd v78 true (some v37)) fun v79 =>
 bnd (gd v78 true (some v42)) fun v80 =>
 bnd (gd v78 true (bi .eql v79 v80)) fun v81 =>
 bnd (pk v78 v81 (.b false)) fun v82 =>
 bnd (gd v82 true (some v60)) fun v83 =>
 bnd (pk v82 v83 (.b false)) fun v84 =>
 bnd (gd v84 true (some v46)) fun v85 =>
 bnd (gd v84 true (some v50)) fun v86 =>
 bnd (gd v84 true (biB .eql v85 v86)) fun v87 =>
 bnd (pk v84 v87 (.b false)) fun v88 =>
 bnd (gd v88 true (some v67)) fun v89 =>
 bnd (pk v88 v89 (.b false)) fun v90 =>
 bnd (gd v90 true (lN ob 36 v1)) fun v91 =>
 bndO (gdO v90 true (ca0 Φ ob 1200 false 22 [v91])) ob fun v92 ob =>
 bnd (gd v90 true (some v69)) fun v93 =>
 bnd (gd v90 true (biB .eql v92 v93)) fun v94 =>
 bnd (pk v90 v94 (.b false)) fun v95 =>
 bnd (gd v95 true (lN ob 36 v1)) fun v96 =>
 bnd (gd v95 true (lN ob 36 v2)) fun v97 =>
 bndO (gdO v95 true (ca0 Φ ob 1256 false 23 [v96, v97])) ob fun v98 ob =>
 bnd (gd v95 true (some v72)) fun v99 =>
 bnd (gd v95 true (biB .eql v98 v99)) fun v100 =>
 bnd (pk v95 v100 (.b false)) fun v101 =>
 bnd (gd v101 true (lN ob 36 v1)) fun v102 =>
 bndO (gdO v101 true (ca0 Φ ob 1304 false 24 [v102])) ob fun v103 ob =>
 bnd (gd v101 true (lN ob 36 v1)) fun v104 =>
 bndO (gdO v101 true (ca0 Φ ob 1320 false 25 [v104])) ob fun v105 ob =>
 bnd (gd v101 true (bi .eql v103 v105)) fun v106 =>
 bnd (pk v101 v106 (.b false)) fun v107 =>
 fin ob os.length [0] [v107]
  )
def ann3 : Nat → Option Hd := fun _ => none
def lab3 : Nat → Option Hd := fun _ => none
noncomputable def m9 : Body := fun Φ N as os =>
  let ob := zipN 0 os
  bndO (ca0 Φ ob 128 false 15 [(.i .i64 400)]) ob fun v1 ob =>
  bnd (ext 0 v1) fun v2 =>
  bnd (ext 1 v1) fun v3 =>
  bndO (al ob 72 [.i .i64 0, .e true, .i .i64 0, .e true, .blob 32 (List.replicate 32 (.i .u8 0))]) ob fun v4 ob =>
  bndO (st ob 36 v4 v2) ob fun _ ob =>
  bnd (lN ob 36 v4) fun v5 =>
  bnd (bld [.i .i64 0, .i .i64 0, .i .i64 0, .i .i64 0, .i .u64 0, .i .u64 0, .i .i64 0, .i .i64 0, .i .i64 0] [(2, 1, (.i .i64 1))]) fun v6 =>
  bndO (ca0 Φ ob 176 false 11 [v5, v6, (.b false)]) ob fun v7 ob =>
  bnd (ext 0 v7) fun v8 =>
  bnd (ext 1 v7) fun v9 =>
  bndO (al ob 88 [.i .i64 0, .e true, .i .i64 0, .e true, .blob 32 (List.replicate 32 (.i .u8 0))]) ob fun v10 ob =>
  bndO (st ob 36 v10 v8) ob fun _ ob =>
  bnd (fA 0 v10) fun v11 =>
  bnd (lN ob 3 v11) fun v12 =>
  bndO (ca0 Φ ob 224 false 13 [v12]) ob fun v13 ob =>
  bnd (ext 0 v13) fun v14 =>
  bnd (ext 1 v13) fun v15 =>
  bndO (al ob 104 [.i .i64 0, .e true, .i .i64 0, .e true, .blob 32 (List.replicate 32 (.i .u8 0))]) ob fun v16 ob =>
  bndO (st ob 36 v16 v14) ob fun _ ob =>
  bnd (gd v3 true (lN ob 36 v4)) fun v17 =>
  bndO (gdO v3 true (ca0 Φ ob 272 false 24 [v17])) ob fun v18 ob =>
  bnd (gd v3 true (bi .eql v18 (.i .i64 2))) fun v19 =>
  bnd (pk v3 v19 (.b false)) fun v20 =>
  bnd (gd v20 true (some v9)) fun v21 =>
  bnd (gd v20 true (bi .eql v21 (.i .i64 0))) fun v22 =>
  bnd (pk v20 v22 (.b false)) fun v23 =>
  bnd (gd v23 true (lN ob 36 v10)) fun v24 =>
  bndO (gdO v23 true (ca0 Φ ob 344 false 24 [v24])) ob fun v25 ob =>
  bnd (gd v23 true (bi .eql v25 (.i .i64 1))) fun v26 =>
  bnd (pk v23 v26 (.b false)) fun v27 =>
  bnd (gd v27 true (some v15)) fun v28 =>
  bnd (gd v27 true (bi .eql v28 (.i .i64 0))) fun v29 =>
  bnd (pk v27 v29 (.b false)) fun v30 =>
  bnd (gd v30 true (lN ob 36 v10)) fun v31 =>
  bnd (gd v30 true (lN ob 36 v16)) fun v32 =>
  bndO (gdO v30 true (ca0 Φ ob 424 false 23 [v31, v32])) ob fun v33 ob =>
  bnd (pk v30 v33 (.b false)) fun v34 =>
  bnd (gd v34 true (lN ob 36 v10)) fun v35 =>
  bndO (gdO v34 true (ca0 Φ ob 456 false 22 [v35])) ob fun v36 ob =>
  bnd (pk v34 v36 (.b false)) fun v37 =>
  bnd (gd v37 true (fA 3 v16)) fun v38 =>
  bnd (gd v37 true (l1 ob v38)) fun v39 =>
  bnd (gd v37 true (len v39)) fun v40 =>
  bnd (gd v37 true (bi .eql v40 (.i .i64 1))) fun v41 =>
  bnd (pk v37 v41 (.b false)) fun v42 =>
  bnd (gd v42 true (lN ob 36 v4)) fun v43 =>
  bnd (gd v42 true (bld [.i .i64 0, .i .i64 0, .i .i64 0, .i .i64 0, .i .u64 0, .i .u64 0, .i .i64 0, .i .i64 0, .i .i64 0] [])) fun v44 =>
  bndO (gdO v42 true (ca0 Φ ob 544 false 19 [v43, v44, (.i .i64 9)])) ob fun v45 ob =>
  bnd (gd v42 true (fV 1 1 false v45)) fun v46 =>
  bnd (gd v42 true (len v46)) fun v47 =>
  bnd (gd v42 true (bi .eql v47 (.i .i64 9))) fun v48 =>
  bnd (pk v42 v48 (.b false)) fun v49 =>
  fin ob os.length [0] [v49]
def ann9 : Nat → Option Hd := fun _ => none
def lab9 : Nat → Option Hd := fun _ => none
noncomputable def m10 : Body := fun Φ N as os =>
  let a0 := gS (zipN 0 as) 0
  let ob := zipN 0 os
  bndO (bx ob 72 a0) ob fun v1 ob =>
  bnd (fA 3 v1) fun v2 =>
  bnd (l1 ob v2) fun v3 =>
  bnd (len v3) fun v4 =>
  bnd (bi .leq v4 (.i .i64 30)) fun v5 =>
  bnd (gd v5 true (fA 0 v1)) fun v6 =>
  bnd (gd v5 true (fA 1 v6)) fun v7 =>
  bnd (gd v5 true (l1 ob v7)) fun v8 =>
  bnd (gd v5 true (len v8)) fun v9 =>
  bnd (gd v5 true (bi .leq v9 (.i .i64 2500))) fun v10 =>
  bnd (pk v5 v10 (.b false)) fun v11 =>
  fin ob os.length [0] [v11]
def ann10 : Nat → Option Hd := fun _ => none
def lab10 : Nat → Option Hd := fun _ => none
noncomputable def m11j0 (Φ : Sem') (N : Nat) (os : List Obj') (g : SL → OB → Option R) (sl : SL) (ob : OB) : Option R :=
  bnd (lN ob 36 (gS sl 3)) fun v4 =>
  bndO (ca0 Φ ob 832 false 30 [v4]) ob fun v5 ob =>
  bndO (st ob 36 (gS sl 6) v5) ob fun _ ob =>
  bnd (lN ob 36 (gS sl 6)) fun v6 =>
  fin ob os.length [0, 0] [v6, (gS sl 9)]
noncomputable def m11 : Body := fun Φ N as os =>
  let a0 := gS (zipN 0 as) 0
  let a1 := gS (zipN 0 as) 1
  let a2 := gS (zipN 0 as) 2
  let ob := zipN 0 os
  bndO (bx ob 88 a0) ob fun v1 ob =>
  bndO (bx ob 96 a1) ob fun v2 ob =>
  bndO (al ob 112 [.i .i64 0, .e true, .i .i64 0, .e true, .blob 32 (List.replicate 32 (.i .u8 0))]) ob fun v3 ob =>
  bnd (lN ob 36 v1) fun v7 =>
  bndO (ca0 Φ ob 184 false 30 [v7]) ob fun v8 ob =>
  bnd (bld [.i .i64 0, .e true, .i .i64 0, .e true, .blob 32 (List.replicate 32 (.i .u8 0))] [(0, 36, v8)]) fun v9 =>
  bndO (bx ob 200 v9) ob fun v10 ob =>
  bndO (al ob 152 [.blob 32 (List.replicate 32 (.i .u8 0))]) ob fun v11 ob =>
  bndO (ca Φ ob 224 false 31 [v10]) ob fun v12 ob =>
  bnd (ext 0 v12) fun v13 =>
  bnd (ext 1 v12) fun v14 =>
  bnd (lN ob 36 v1) fun v15 =>
  bndO (ca0 Φ ob 256 false 22 [v15]) ob fun v16 ob =>
  bnd (uO .not v16) fun v17 =>
  bnd (gd v17 false (lN ob 9 v2)) fun v18 =>
  bndO (gdO v17 false (ca0 Φ ob 288 false 29 [v18])) ob fun v19 ob =>
  bnd (gd v17 false (uO .not v19)) fun v20 =>
  bnd (pk v17 (.b true) v20) fun v21 =>
  br v21 (
 bnd (head [] [3, 6, 9] [88, 112] [(3, v1), (6, v3), (9, (.i .i64 1))] ob) fun x => loopC (m11j0 Φ N os) N x.1 x.2
  ) (
 bnd (uO .not v13) fun v22 =>
 bnd (gd v22 false (some v14)) fun v23 =>
 bnd (gd v22 false (bi .eql v23 (.i .i64 0))) fun v24 =>
 bnd (gd v22 false (some v24)) fun v25 =>
 bnd (gd v25 true (some a2)) fun v26 =>
 bnd (gd v25 true (uO .not v26)) fun v27 =>
 bnd (gd v22 false (pk v25 v27 (.b false))) fun v28 =>
 bnd (pk v22 (.b true) v28) fun v29 =>
 br v29 (
  bnd (head [] [3, 6, 9] [88, 112] [(3, v1), (6, v3), (9, (.i .i64 12))] ob) fun x => loopC (m11j0 Φ N os) N x.1 x.2
 ) (
  bnd (lN ob 9 v2) fun v30 =>
  bndO (ca Φ ob 416 false 32 [v10, v30]) ob fun v31 ob =>
  bnd (ext 0 v31) fun v32 =>
  bnd (ext 1 v31) fun v33 =>
  bndO (st ob 32 v11 v33) ob fun _ ob =>
  bnd (nc v10) fun v34 =>
  bnd (fA 0 v34) fun v35 =>
  bnd (fA 0 v35) fun v36 =>
  bnd (lN ob 3 v36) fun v37 =>
  bndO (ca0 Φ ob 504 false 33 [v37, v32]) ob fun v38 ob =>
  bnd (ext 0 v38) fun v39 =>
  bnd (ext 1 v38) fun v40 =>
  bnd (nc v10) fun v41 =>
  bnd (fA 0 v41) fun v42 =>
  bnd (fA 0 v42) fun v43 =>
  bndO (st ob 3 v43 v39) ob fun _ ob =>
  bnd (nc v10) fun v44 =>
  bnd (fA 0 v44) fun v45 =>
  bnd (fA 0 v45) fun v46 =>
  bnd (lN ob 3 v46) fun v47 =>
  bndO (ca0 Φ ob 608 false 34 [v47]) ob fun v48 ob =>
  bnd (ext 0 v48) fun v49 =>
  bnd (ext 1 v48) fun v50 =>
  bnd (nc v10) fun v51 =>
  bnd (fA 0 v51) fun v52 =>
  bnd (fA 0 v52) fun v53 =>
  bndO (st ob 3 v53 v49) ob fun _ ob =>
  bnd (nc v10) fun v54 =>
  bnd (fA 0 v54) fun v55 =>
  bnd (fA 3 v55) fun v56 =>
  bnd (l1 ob v56) fun v57 =>
  bnd (lN ob 9 v2) fun v58 =>
  bndO (bldS ob 720 9 [v58]) ob fun v59 ob =>
  bndO (ap ob 728 9 v57 v59) ob fun v60 ob =>
  bnd (dis [v57] [v11]) fun _ =>
  bnd (lN ob 32 v11) fun v61 =>
  bnd (nc v10) fun v62 =>
  bnd (fA 0 v62) fun v63 =>
  bnd (fA 3 v63) fun v64 =>
  bnd (dis [v11] [v64, v60]) fun _ =>
  bndO (st ob 1 v64 v60) ob fun _ ob =>
  bnd (nc v10) fun v65 =>
  bnd (fA 0 v65) fun v66 =>
  bnd (fA 4 v66) fun v67 =>
  bndO (st ob 32 v67 v61) ob fun _ ob =>
  bnd (nc v10) fun v68 =>
  bnd (fA 0 v68) fun v69 =>
  bnd (lN ob 36 v69) fun v70 =>
  bndO (st ob 36 v3 v70) ob fun _ ob =>
  bnd (lN ob 36 v3) fun v71 =>
  fin ob os.length [0, 0] [v71, (.i .i64 0)]
 )
  )
def ann11 : Nat → Option Hd := fun _ => none
def lab11 : Nat → Option Hd
  | 0 => some ⟨[], [3, 6, 9], [88, 112], []⟩ | _ => none
noncomputable def m12 : Body := fun Φ N as os =>
  let a0 := gS (zipN 0 as) 0
  let a1 := gS (zipN 0 as) 1
  let a2 := gS (zipN 0 as) 2
  let ob := zipN 0 os
  bndO (bx ob 88 a0) ob fun v1 ob =>
  bndO (bx ob 96 a1) ob fun v2 ob =>
  bndO (al ob 112 [.i .i64 0, .e true, .i .i64 0, .e true, .blob 32 (List.replicate 32 (.i .u8 0))]) ob fun v3 ob =>
  bnd (lN ob 36 v1) fun v4 =>
  bndO (ca0 Φ ob 208 false 21 [v4]) ob fun v5 ob =>
  bnd (lN ob 9 v2) fun v6 =>
  bndO (ca0 Φ ob 224 false 35 [v6]) ob fun v7 ob =>
  bnd (uO .not v5) fun v8 =>
  bnd (gd v8 false (some v7)) fun v9 =>
  bnd (gd v8 false (uO .not v9)) fun v10 =>
  bnd (pk v8 (.b true) v10) fun v11 =>
  br v11 (
 bnd (lN ob 36 v1) fun v12 =>
 bndO (st ob 36 v3 v12) ob fun _ ob =>
 bnd (lN ob 36 v3) fun v13 =>
 fin ob os.length [0, 0] [v13, (.i .i64 1)]
  ) (
 bnd (fA 3 v1) fun v14 =>
 bnd (l1 ob v14) fun v15 =>
 bnd (len v15) fun v16 =>
 bnd (lN ob 36 v1) fun v17 =>
 bndO (ca0 Φ ob 320 false 36 [v17]) ob fun v18 ob =>
 bnd (bi .geq v16 v18) fun v19 =>
 bnd (gd v19 false (some a2)) fun v20 =>
 bnd (gd v19 false (uO .not v20)) fun v21 =>
 bnd (gd v19 false (some v21)) fun v22 =>
 bnd (gd v22 true (lN ob 36 v1)) fun v23 =>
 bndO (gdO v22 true (ca0 Φ ob 376 false 25 [v23])) ob fun v24 ob =>
 bnd (gd v22 true (bi .eql v24 (.i .i64 0))) fun v25 =>
 bnd (gd v19 false (pk v22 v25 (.b false))) fun v26 =>
 bnd (pk v19 (.b true) v26) fun v27 =>
 br v27 (
  bnd (lN ob 36 v1) fun v28 =>
  bndO (st ob 36 v3 v28) ob fun _ ob =>
  bnd (lN ob 36 v3) fun v29 =>
  fin ob os.length [0, 0] [v29, (.i .i64 12)]
 ) (
  bnd (lN ob 36 v1) fun v30 =>
  bnd (lN ob 9 v2) fun v31 =>
  bndO (ca0 Φ ob 440 false 37 [v30, v31]) ob fun v32 ob =>
  bnd (ext 0 v32) fun v33 =>
  bnd (ext 1 v32) fun v34 =>
  bndO (al ob 152 [.blob 32 (List.replicate 32 (.i .u8 0))]) ob fun v35 ob =>
  bndO (st ob 32 v35 v34) ob fun _ ob =>
  bnd (fA 0 v1) fun v36 =>
  bnd (lN ob 3 v36) fun v37 =>
  bndO (ca0 Φ ob 496 false 38 [v37, v33]) ob fun v38 ob =>
  bnd (ext 0 v38) fun v39 =>
  bnd (ext 1 v38) fun v40 =>
  bndO (al ob 160 [.i .i64 0, .e true, .i .i64 0]) ob fun v41 ob =>
  bndO (st ob 3 v41 v39) ob fun _ ob =>
  bnd (lN ob 3 v41) fun v42 =>
  bndO (ca0 Φ ob 536 false 39 [v42]) ob fun v43 ob =>
  bnd (ext 0 v43) fun v44 =>
  bnd (ext 1 v43) fun v45 =>
  bndO (al ob 176 [.i .i64 0, .e true, .i .i64 0]) ob fun v46 ob =>
  bndO (st ob 3 v46 v44) ob fun _ ob =>
  bnd (fA 3 v1) fun v47 =>
  bnd (l1 ob v47) fun v48 =>
  bndO (ap ob 576 9 (.e true) v48) ob fun v49 ob =>
  bnd (lN ob 3 v46) fun v50 =>
  bnd (lN ob 9 v2) fun v51 =>
  bndO (bldS ob 608 9 [v51]) ob fun v52 ob =>
  bnd (dis [v46] [v49]) fun _ =>
  bndO (ap ob 616 9 v49 v52) ob fun v53 ob =>
  bnd (dis [v49] [v35]) fun _ =>
  bnd (lN ob 32 v35) fun v54 =>
  bnd (bld [.i .i64 0, .e true, .i .i64 0, .e true, .blob 32 (List.replicate 32 (.i .u8 0))] [(0, 3, v50), (3, 1, v53), (4, 32, v54)]) fun v55 =>
  bndO (st ob 36 v3 v55) ob fun _ ob =>
  bnd (lN ob 36 v3) fun v56 =>
  fin ob os.length [0, 0] [v56, (.i .i64 0)]
 )
  )
def ann12 : Nat → Option Hd := fun _ => none
def lab12 : Nat → Option Hd := fun _ => none
noncomputable def m13 : Body := fun Φ N as os =>
  let a0 := gS (zipN 0 as) 0
  let ob := zipN 0 os
  bndO (bx ob 72 a0) ob fun v1 ob =>
  bndO (al ob 80 [.i .i64 0, .e true, .i .i64 0, .e true, .blob 32 (List.replicate 32 (.i .u8 0))]) ob fun v2 ob =>
  bnd (lN ob 3 v1) fun v3 =>
  bndO (ca0 Φ ob 144 false 27 [v3]) ob fun v4 ob =>
  bnd (uO .not v4) fun v5 =>
  br v5 (
 bnd (bld [.i .i64 0, .e true, .i .i64 0, .e true, .blob 32 (List.replicate 32 (.i .u8 0))] []) fun v6 =>
 bndO (st ob 36 v2 v6) ob fun _ ob =>
 bnd (lN ob 36 v2) fun v7 =>
 fin ob os.length [0, 0] [v7, (.i .i64 1)]
  ) (
 bnd (fA 1 v1) fun v8 =>
 bnd (l1 ob v8) fun v9 =>
 bndO (ca0 Φ ob 192 false 28 [v9]) ob fun v10 ob =>
 bnd (ext 0 v10) fun v11 =>
 bnd (ext 1 v10) fun v12 =>
 bnd (ext 2 v10) fun v13 =>
 bndO (al ob 104 [.blob 32 (List.replicate 32 (.i .u8 0))]) ob fun v14 ob =>
 bndO (st ob 32 v14 v12) ob fun _ ob =>
 bnd (lN ob 3 v1) fun v15 =>
 bndO (ca0 Φ ob 248 false 40 [v15, v13]) ob fun v16 ob =>
 bnd (ext 0 v16) fun v17 =>
 bnd (ext 1 v16) fun v18 =>
 bndO (al ob 120 [.i .i64 0, .e true, .i .i64 0]) ob fun v19 ob =>
 bndO (st ob 3 v19 v17) ob fun _ ob =>
 bnd (lN ob 3 v19) fun v20 =>
 bnd (lN ob 32 v14) fun v21 =>
 bnd (bld [.i .i64 0, .e true, .i .i64 0, .e true, .blob 32 (List.replicate 32 (.i .u8 0))] [(0, 3, v20), (3, 1, v11), (4, 32, v21)]) fun v22 =>
 bndO (st ob 36 v2 v22) ob fun _ ob =>
 bnd (lN ob 36 v2) fun v23 =>
 fin ob os.length [0, 0] [v23, (.i .i64 0)]
  )
def ann13 : Nat → Option Hd := fun _ => none
def lab13 : Nat → Option Hd := fun _ => none
noncomputable def m14 : Body := fun Φ N as os =>
  let a0 := gS (zipN 0 as) 0
  let ob := zipN 0 os
  bndO (bx ob 72 a0) ob fun v1 ob =>
  bndO (al ob 80 [.i .i64 0, .e true, .i .i64 0, .e true, .blob 32 (List.replicate 32 (.i .u8 0))]) ob fun v2 ob =>
  bnd (lN ob 3 v1) fun v3 =>
  bndO (ca0 Φ ob 152 false 41 [v3]) ob fun v4 ob =>
  bnd (uO .not v4) fun v5 =>
  br v5 (
 bnd (bld [.i .i64 0, .e true, .i .i64 0, .e true, .blob 32 (List.replicate 32 (.i .u8 0))] []) fun v6 =>
 bndO (st ob 36 v2 v6) ob fun _ ob =>
 bnd (lN ob 36 v2) fun v7 =>
 fin ob os.length [0, 0] [v7, (.i .i64 1)]
  ) (
 bnd (fA 1 v1) fun v8 =>
 bnd (l1 ob v8) fun v9 =>
 bndO (ca0 Φ ob 208 false 42 [v9]) ob fun v10 ob =>
 bnd (ext 0 v10) fun v11 =>
 bnd (ext 1 v10) fun v12 =>
 bnd (ext 2 v10) fun v13 =>
 bndO (al ob 112 [.blob 32 (List.replicate 32 (.i .u8 0))]) ob fun v14 ob =>
 bndO (st ob 32 v14 v12) ob fun _ ob =>
 bnd (lN ob 3 v1) fun v15 =>
 bndO (ca0 Φ ob 264 false 43 [v15, v13]) ob fun v16 ob =>
 bnd (ext 0 v16) fun v17 =>
 bnd (ext 1 v16) fun v18 =>
 bndO (al ob 128 [.i .i64 0, .e true, .i .i64 0]) ob fun v19 ob =>
 bndO (st ob 3 v19 v17) ob fun _ ob =>
 bnd (lN ob 3 v19) fun v20 =>
 bnd (lN ob 32 v14) fun v21 =>
 bnd (bld [.i .i64 0, .e true, .i .i64 0, .e true, .blob 32 (List.replicate 32 (.i .u8 0))] [(0, 3, v20), (3, 1, v11), (4, 32, v21)]) fun v22 =>
 bndO (st ob 36 v2 v22) ob fun _ ob =>
 bnd (lN ob 36 v2) fun v23 =>
 fin ob os.length [0, 0] [v23, (.i .i64 0)]
  )
def ann14 : Nat → Option Hd := fun _ => none
def lab14 : Nat → Option Hd := fun _ => none
noncomputable def m15 : Body := fun Φ N as os =>
  let a0 := gS (zipN 0 as) 0
  let ob := zipN 0 os
  bndO (al ob 80 [.i .i64 0, .e true, .i .i64 0, .e true, .blob 32 (List.replicate 32 (.i .u8 0))]) ob fun v1 ob =>
  bndO (ca0 Φ ob 128 false 44 [a0]) ob fun v2 ob =>
  bnd (ext 0 v2) fun v3 =>
  bnd (ext 1 v2) fun v4 =>
  bndO (al ob 96 [.i .i64 0, .e true, .i .i64 0]) ob fun v5 ob =>
  bndO (st ob 3 v5 v3) ob fun _ ob =>
  bnd (uO .not v4) fun v6 =>
  br v6 (
 bnd (bld [.i .i64 0, .e true, .i .i64 0, .e true, .blob 32 (List.replicate 32 (.i .u8 0))] []) fun v7 =>
 bndO (st ob 36 v1 v7) ob fun _ ob =>
 bnd (lN ob 36 v1) fun v8 =>
 fin ob os.length [0, 0] [v8, (.b false)]
  ) (
 bnd (lN ob 3 v5) fun v9 =>
 bndO (ca0 Φ ob 184 false 45 []) ob fun v10 ob =>
 bnd (bld [.i .i64 0, .e true, .i .i64 0, .e true, .blob 32 (List.replicate 32 (.i .u8 0))] [(0, 3, v9), (4, 32, v10)]) fun v11 =>
 bndO (st ob 36 v1 v11) ob fun _ ob =>
 bnd (lN ob 36 v1) fun v12 =>
 fin ob os.length [0, 0] [v12, (.b true)]
  )
def ann15 : Nat → Option Hd := fun _ => none
def lab15 : Nat → Option Hd := fun _ => none
noncomputable def m16 : Body := fun Φ N as os =>
  let a0 := gS (zipN 0 as) 0
  let ob := zipN 0 os
  bndO (al ob 80 [.i .i64 0, .e true, .i .i64 0, .e true, .blob 32 (List.replicate 32 (.i .u8 0))]) ob fun v1 ob =>
  bndO (ca0 Φ ob 128 false 46 [a0]) ob fun v2 ob =>
  bnd (ext 0 v2) fun v3 =>
  bnd (ext 1 v2) fun v4 =>
  bndO (al ob 96 [.i .i64 0, .e true, .i .i64 0]) ob fun v5 ob =>
  bndO (st ob 3 v5 v3) ob fun _ ob =>
  bnd (uO .not v4) fun v6 =>
  br v6 (
 bnd (bld [.i .i64 0, .e true, .i .i64 0, .e true, .blob 32 (List.replicate 32 (.i .u8 0))] []) fun v7 =>
 bndO (st ob 36 v1 v7) ob fun _ ob =>
 bnd (lN ob 36 v1) fun v8 =>
 fin ob os.length [0, 0] [v8, (.b false)]
  ) (
 bnd (lN ob 3 v5) fun v9 =>
 bndO (ca0 Φ ob 184 false 47 [(.e true)]) ob fun v10 ob =>
 bnd (bld [.i .i64 0, .e true, .i .i64 0, .e true, .blob 32 (List.replicate 32 (.i .u8 0))] [(0, 3, v9), (4, 32, v10)]) fun v11 =>
 bndO (st ob 36 v1 v11) ob fun _ ob =>
 bnd (lN ob 36 v1) fun v12 =>
 fin ob os.length [0, 0] [v12, (.b true)]
  )
def ann16 : Nat → Option Hd := fun _ => none
def lab16 : Nat → Option Hd := fun _ => none
noncomputable def m17 : Body := fun Φ N as os =>
  let a0 := gS (zipN 0 as) 0
  let a1 := gS (zipN 0 as) 1
  let ob := zipN 0 os
  bndO (bx ob 80 a0) ob fun v1 ob =>
  bndO (bx ob 88 a1) ob fun v2 ob =>
  bnd (fA 0 v1) fun v3 =>
  bnd (lN ob 3 v3) fun v4 =>
  bnd (fA 0 v2) fun v5 =>
  bnd (lN ob 3 v5) fun v6 =>
  bndO (ca0 Φ ob 152 false 18 [v4, v6]) ob fun v7 ob =>
  bnd (fA 3 v1) fun v8 =>
  bnd (l1 ob v8) fun v9 =>
  bnd (fA 3 v2) fun v10 =>
  bnd (l1 ob v10) fun v11 =>
  bndO (ca0 Φ ob 192 false 48 [v9, v11]) ob fun v12 ob =>
  bnd (gd v7 true (some v12)) fun v13 =>
  bnd (pk v7 v13 (.b false)) fun v14 =>
  bnd (gd v14 true (fA 4 v1)) fun v15 =>
  bnd (gd v14 true (lN ob 32 v15)) fun v16 =>
  bnd (gd v14 true (fA 4 v2)) fun v17 =>
  bnd (gd v14 true (lN ob 32 v17)) fun v18 =>
  bnd (gd v14 true (eAr false 32 v16 v18)) fun v19 =>
  bnd (pk v14 v19 (.b false)) fun v20 =>
  fin ob os.length [0] [v20]
def ann17 : Nat → Option Hd := fun _ => none
def lab17 : Nat → Option Hd := fun _ => none
noncomputable def m18 : Body := fun Φ N as os =>
  let a0 := gS (zipN 0 as) 0
  let a1 := gS (zipN 0 as) 1
  let ob := zipN 0 os
  bndO (bx ob 80 a0) ob fun v1 ob =>
  bndO (bx ob 88 a1) ob fun v2 ob =>
  bnd (fA 0 v1) fun v3 =>
  bnd (l1 ob v3) fun v4 =>
  bnd (fA 0 v2) fun v5 =>
  bnd (l1 ob v5) fun v6 =>
  bnd (bi .eql v4 v6) fun v7 =>
  bnd (gd v7 true (fA 2 v1)) fun v8 =>
  bnd (gd v7 true (l1 ob v8)) fun v9 =>
  bnd (gd v7 true (fA 2 v2)) fun v10 =>
  bnd (gd v7 true (l1 ob v10)) fun v11 =>
  bnd (gd v7 true (bi .eql v9 v11)) fun v12 =>
  bnd (pk v7 v12 (.b false)) fun v13 =>
  bnd (gd v13 true (fA 1 v1)) fun v14 =>
  bnd (gd v13 true (l1 ob v14)) fun v15 =>
  bnd (gd v13 true (b2s ob v15)) fun v16 =>
  bnd (gd v13 true (fA 1 v2)) fun v17 =>
  bnd (gd v13 true (l1 ob v17)) fun v18 =>
  bnd (gd v13 true (b2s ob v18)) fun v19 =>
  bnd (gd v13 true (bi .eql v16 v19)) fun v20 =>
  bnd (pk v13 v20 (.b false)) fun v21 =>
  fin ob os.length [0] [v21]
def ann18 : Nat → Option Hd := fun _ => none
def lab18 : Nat → Option Hd := fun _ => none
noncomputable def m19 : Body := fun Φ N as os =>
  let a0 := gS (zipN 0 as) 0
  let a1 := gS (zipN 0 as) 1
  let a2 := gS (zipN 0 as) 2
  let ob := zipN 0 os
  bndO (bx ob 88 a0) ob fun v1 ob =>
  bndO (bx ob 96 a1) ob fun v2 ob =>
  bndO (al ob 112 [.i .i64 0, .e true, .i .i64 0]) ob fun v3 ob =>
  bnd (lN ob 36 v1) fun v4 =>
  bndO (ca0 Φ ob 184 false 30 [v4]) ob fun v5 ob =>
  bnd (bld [.i .i64 0, .e true, .i .i64 0, .e true, .blob 32 (List.replicate 32 (.i .u8 0))] [(0, 36, v5)]) fun v6 =>
  bndO (bx ob 200 v6) ob fun v7 ob =>
  bndO (ca Φ ob 224 false 31 [v7]) ob fun v8 ob =>
  bnd (ext 0 v8) fun v9 =>
  bnd (ext 1 v8) fun v10 =>
  bnd (lN ob 36 v1) fun v11 =>
  bndO (ca0 Φ ob 256 false 22 [v11]) ob fun v12 ob =>
  bnd (uO .not v12) fun v13 =>
  bnd (gd v13 false (lN ob 9 v2)) fun v14 =>
  bndO (gdO v13 false (ca0 Φ ob 288 false 29 [v14])) ob fun v15 ob =>
  bnd (gd v13 false (uO .not v15)) fun v16 =>
  bnd (pk v13 (.b true) v16) fun v17 =>
  bnd (gd v17 false (some v9)) fun v18 =>
  bnd (gd v17 false (uO .not v18)) fun v19 =>
  bnd (pk v17 (.b true) v19) fun v20 =>
  br v20 (
 bnd (nc v7) fun v21 =>
 bnd (fA 0 v21) fun v22 =>
 bnd (fA 0 v22) fun v23 =>
 bnd (lN ob 3 v23) fun v24 =>
 bndO (st ob 3 v3 v24) ob fun _ ob =>
 bnd (lN ob 3 v3) fun v25 =>
 fin ob os.length [0] [v25]
  ) (
 bnd (lN ob 9 v2) fun v26 =>
 bndO (ca Φ ob 408 false 32 [v7, v26]) ob fun v27 ob =>
 bnd (ext 0 v27) fun v28 =>
 bnd (ext 1 v27) fun v29 =>
 bndO (al ob 152 [.blob 32 (List.replicate 32 (.i .u8 0))]) ob fun v30 ob =>
 bndO (st ob 32 v30 v29) ob fun _ ob =>
 bnd (nc v7) fun v31 =>
 bnd (fA 0 v31) fun v32 =>
 bnd (fA 0 v32) fun v33 =>
 bnd (lN ob 3 v33) fun v34 =>
 bndO (ca0 Φ ob 488 false 33 [v34, v28]) ob fun v35 ob =>
 bnd (ext 0 v35) fun v36 =>
 bnd (ext 1 v35) fun v37 =>
 bndO (al ob 160 [.i .i64 0, .e true, .i .i64 0]) ob fun v38 ob =>
 bndO (st ob 3 v38 v36) ob fun _ ob =>
 bnd (lN ob 3 v38) fun v39 =>
 bndO (ca0 Φ ob 528 false 49 [v39, a2]) ob fun v40 ob =>
 bndO (st ob 3 v3 v40) ob fun _ ob =>
 bnd (lN ob 3 v3) fun v41 =>
 fin ob os.length [0] [v41]
  )
def ann19 : Nat → Option Hd := fun _ => none
def lab19 : Nat → Option Hd := fun _ => none
noncomputable def m20 : Body := fun Φ N as os =>
  let a0 := gS (zipN 0 as) 0
  let a1 := gS (zipN 0 as) 1
  let a2 := gS (zipN 0 as) 2
  let ob := zipN 0 os
  bndO (bx ob 88 a0) ob fun v1 ob =>
  bndO (bx ob 96 a1) ob fun v2 ob =>
  bndO (al ob 112 [.i .i64 0, .e true, .i .i64 0]) ob fun v3 ob =>
  bnd (lN ob 36 v1) fun v4 =>
  bndO (ca0 Φ ob 176 false 21 [v4]) ob fun v5 ob =>
  bnd (lN ob 9 v2) fun v6 =>
  bndO (ca0 Φ ob 192 false 35 [v6]) ob fun v7 ob =>
  bnd (uO .not v5) fun v8 =>
  bnd (gd v8 false (some v7)) fun v9 =>
  bnd (gd v8 false (uO .not v9)) fun v10 =>
  bnd (pk v8 (.b true) v10) fun v11 =>
  bnd (gd v11 false (fA 3 v1)) fun v12 =>
  bnd (gd v11 false (l1 ob v12)) fun v13 =>
  bnd (gd v11 false (len v13)) fun v14 =>
  bnd (gd v11 false (lN ob 36 v1)) fun v15 =>
  bndO (gdO v11 false (ca0 Φ ob 288 false 36 [v15])) ob fun v16 ob =>
  bnd (gd v11 false (bi .geq v14 v16)) fun v17 =>
  bnd (pk v11 (.b true) v17) fun v18 =>
  br v18 (
 bnd (fA 0 v1) fun v19 =>
 bnd (lN ob 3 v19) fun v20 =>
 bndO (st ob 3 v3 v20) ob fun _ ob =>
 bnd (lN ob 3 v3) fun v21 =>
 fin ob os.length [0] [v21]
  ) (
 bnd (lN ob 36 v1) fun v22 =>
 bnd (lN ob 9 v2) fun v23 =>
 bndO (ca0 Φ ob 352 false 37 [v22, v23]) ob fun v24 ob =>
 bnd (ext 0 v24) fun v25 =>
 bnd (ext 1 v24) fun v26 =>
 bndO (al ob 144 [.blob 32 (List.replicate 32 (.i .u8 0))]) ob fun v27 ob =>
 bndO (st ob 32 v27 v26) ob fun _ ob =>
 bnd (fA 0 v1) fun v28 =>
 bnd (lN ob 3 v28) fun v29 =>
 bndO (ca0 Φ ob 408 false 38 [v29, v25]) ob fun v30 ob =>
 bnd (ext 0 v30) fun v31 =>
 bnd (ext 1 v30) fun v32 =>
 bndO (al ob 152 [.i .i64 0, .e true, .i .i64 0]) ob fun v33 ob =>
 bndO (st ob 3 v33 v31) ob fun _ ob =>
 bnd (lN ob 3 v33) fun v34 =>
 bndO (ca0 Φ ob 448 false 50 [v34, a2]) ob fun v35 ob =>
 bndO (st ob 3 v3 v35) ob fun _ ob =>
 bnd (lN ob 3 v3) fun v36 =>
 fin ob os.length [0] [v36]
  )
def ann20 : Nat → Option Hd := fun _ => none
def lab20 : Nat → Option Hd := fun _ => none
noncomputable def m21 : Body := fun Φ N as os =>
  let a0 := gS (zipN 0 as) 0
  let ob := zipN 0 os
  bndO (bx ob 72 a0) ob fun v1 ob =>
  bnd (fA 0 v1) fun v2 =>
  bnd (lN ob 3 v2) fun v3 =>
  bndO (ca0 Φ ob 136 false 41 [v3]) ob fun v4 ob =>
  bnd (fA 3 v1) fun v5 =>
  bnd (l1 ob v5) fun v6 =>
  bndO (ca0 Φ ob 168 false 51 [v6]) ob fun v7 ob =>
  bnd (ext 0 v7) fun v8 =>
  bnd (ext 1 v7) fun v9 =>
  bnd (ext 2 v7) fun v10 =>
  bndO (al ob 104 [.blob 32 (List.replicate 32 (.i .u8 0))]) ob fun v11 ob =>
  bndO (st ob 32 v11 v9) ob fun _ ob =>
  bnd (gd v4 true (some v10)) fun v12 =>
  bnd (pk v4 v12 (.b false)) fun v13 =>
  bnd (gd v13 true (fA 0 v1)) fun v14 =>
  bnd (gd v13 true (fA 2 v14)) fun v15 =>
  bnd (gd v13 true (l1 ob v15)) fun v16 =>
  bnd (gd v13 true (fA 0 v1)) fun v17 =>
  bnd (gd v13 true (fA 1 v17)) fun v18 =>
  bnd (gd v13 true (l1 ob v18)) fun v19 =>
  bnd (gd v13 true (len v19)) fun v20 =>
  bnd (gd v13 true (bi .eql v16 v20)) fun v21 =>
  bnd (pk v13 v21 (.b false)) fun v22 =>
  bnd (gd v22 true (some v8)) fun v23 =>
  bnd (gd v22 true (b2s ob v23)) fun v24 =>
  bnd (gd v22 true (fA 0 v1)) fun v25 =>
  bnd (gd v22 true (fA 1 v25)) fun v26 =>
  bnd (gd v22 true (l1 ob v26)) fun v27 =>
  bnd (gd v22 true (b2s ob v27)) fun v28 =>
  bnd (gd v22 true (bi .eql v24 v28)) fun v29 =>
  bnd (pk v22 v29 (.b false)) fun v30 =>
  bnd (gd v30 true (lN ob 32 v11)) fun v31 =>
  bnd (gd v30 true (fA 4 v1)) fun v32 =>
  bnd (gd v30 true (lN ob 32 v32)) fun v33 =>
  bnd (gd v30 true (eAr false 32 v31 v33)) fun v34 =>
  bnd (pk v30 v34 (.b false)) fun v35 =>
  fin ob os.length [0] [v35]
def ann21 : Nat → Option Hd := fun _ => none
def lab21 : Nat → Option Hd := fun _ => none
noncomputable def m22 : Body := fun Φ N as os =>
  let a0 := gS (zipN 0 as) 0
  let ob := zipN 0 os
  bndO (bx ob 72 a0) ob fun v1 ob =>
  bnd (fA 3 v1) fun v2 =>
  bnd (l1 ob v2) fun v3 =>
  bndO (ca0 Φ ob 136 false 52 [v3]) ob fun v4 ob =>
  bnd (ext 0 v4) fun v5 =>
  bnd (ext 1 v4) fun v6 =>
  bnd (ext 2 v4) fun v7 =>
  bndO (al ob 96 [.blob 32 (List.replicate 32 (.i .u8 0))]) ob fun v8 ob =>
  bndO (st ob 32 v8 v6) ob fun _ ob =>
  bnd (gd v7 true (fA 0 v1)) fun v9 =>
  bnd (gd v7 true (lN ob 3 v9)) fun v10 =>
  bndO (gdO v7 true (ca0 Φ ob 200 false 27 [v10])) ob fun v11 ob =>
  bnd (pk v7 v11 (.b false)) fun v12 =>
  bnd (gd v12 true (fA 0 v1)) fun v13 =>
  bnd (gd v12 true (fA 2 v13)) fun v14 =>
  bnd (gd v12 true (l1 ob v14)) fun v15 =>
  bnd (gd v12 true (fA 0 v1)) fun v16 =>
  bnd (gd v12 true (fA 1 v16)) fun v17 =>
  bnd (gd v12 true (l1 ob v17)) fun v18 =>
  bnd (gd v12 true (len v18)) fun v19 =>
  bnd (gd v12 true (bi .eql v15 v19)) fun v20 =>
  bnd (pk v12 v20 (.b false)) fun v21 =>
  bnd (gd v21 true (some v5)) fun v22 =>
  bnd (gd v21 true (fA 0 v1)) fun v23 =>
  bnd (gd v21 true (fA 1 v23)) fun v24 =>
  bnd (gd v21 true (l1 ob v24)) fun v25 =>
  bndO (gdO v21 true (ca0 Φ ob 336 false 53 [v22, v25])) ob fun v26 ob =>
  bnd (pk v21 v26 (.b false)) fun v27 =>
  bnd (gd v27 true (lN ob 32 v8)) fun v28 =>
  bnd (gd v27 true (fA 4 v1)) fun v29 =>
  bnd (gd v27 true (lN ob 32 v29)) fun v30 =>
  bnd (gd v27 true (eAr false 32 v28 v30)) fun v31 =>
  bnd (pk v27 v31 (.b false)) fun v32 =>
  fin ob os.length [0] [v32]
def ann22 : Nat → Option Hd := fun _ => none
def lab22 : Nat → Option Hd := fun _ => none
noncomputable def m23 : Body := fun Φ N as os =>
  let a0 := gS (zipN 0 as) 0
  let a1 := gS (zipN 0 as) 1
  let ob := zipN 0 os
  bndO (bx ob 80 a0) ob fun v1 ob =>
  bndO (bx ob 88 a1) ob fun v2 ob =>
  bnd (fA 0 v1) fun v3 =>
  bnd (lN ob 3 v3) fun v4 =>
  bnd (fA 0 v2) fun v5 =>
  bnd (lN ob 3 v5) fun v6 =>
  bndO (ca0 Φ ob 136 false 54 [v4, v6]) ob fun v7 ob =>
  bnd (gd v7 true (fA 3 v1)) fun v8 =>
  bnd (gd v7 true (l1 ob v8)) fun v9 =>
  bnd (gd v7 true (fA 3 v2)) fun v10 =>
  bnd (gd v7 true (l1 ob v10)) fun v11 =>
  bndO (gdO v7 true (ca0 Φ ob 184 false 26 [v9, v11])) ob fun v12 ob =>
  bnd (pk v7 v12 (.b false)) fun v13 =>
  bnd (gd v13 true (fA 4 v1)) fun v14 =>
  bnd (gd v13 true (lN ob 32 v14)) fun v15 =>
  bnd (gd v13 true (fA 4 v2)) fun v16 =>
  bnd (gd v13 true (lN ob 32 v16)) fun v17 =>
  bnd (gd v13 true (eAr false 32 v15 v17)) fun v18 =>
  bnd (pk v13 v18 (.b false)) fun v19 =>
  fin ob os.length [0] [v19]
def ann23 : Nat → Option Hd := fun _ => none
def lab23 : Nat → Option Hd := fun _ => none
noncomputable def m24 : Body := fun Φ N as os =>
  let a0 := gS (zipN 0 as) 0
  let ob := zipN 0 os
  bndO (bx ob 72 a0) ob fun v1 ob =>
  bnd (lN ob 36 v1) fun v2 =>
  bndO (ca0 Φ ob 112 false 22 [v2]) ob fun v3 ob =>
  bnd (uO .not v3) fun v4 =>
  br v4 (
 fin ob os.length [0] [(.i .i64 0)]
  ) (
 bnd (lN ob 36 v1) fun v5 =>
 bnd (bld [.i .i64 0, .e true, .i .i64 0, .e true, .blob 32 (List.replicate 32 (.i .u8 0))] [(0, 36, v5)]) fun v6 =>
 bndO (bx ob 152 v6) ob fun v7 ob =>
 bndO (ca Φ ob 160 false 31 [v7]) ob fun v8 ob =>
 bnd (ext 0 v8) fun v9 =>
 bnd (ext 1 v8) fun v10 =>
 fin ob os.length [0] [v10]
  )
def ann24 : Nat → Option Hd := fun _ => none
def lab24 : Nat → Option Hd := fun _ => none
noncomputable def m25 : Body := fun Φ N as os =>
  let a0 := gS (zipN 0 as) 0
  let ob := zipN 0 os
  bndO (bx ob 72 a0) ob fun v1 ob =>
  bnd (lN ob 36 v1) fun v2 =>
  bndO (ca0 Φ ob 112 false 21 [v2]) ob fun v3 ob =>
  bnd (lN ob 36 v1) fun v4 =>
  bndO (ca0 Φ ob 128 false 36 [v4]) ob fun v5 ob =>
  bnd (bi .sub v5 (.i .i64 4)) fun v6 =>
  bnd (fA 3 v1) fun v7 =>
  bnd (l1 ob v7) fun v8 =>
  bnd (len v8) fun v9 =>
  bnd (bi .sub v6 v9) fun v10 =>
  bnd (uO .not v3) fun v11 =>
  bnd (gd v11 false (some v10)) fun v12 =>
  bnd (gd v11 false (bi .lss v12 (.i .i64 0))) fun v13 =>
  bnd (pk v11 (.b true) v13) fun v14 =>
  br v14 (
 fin ob os.length [0] [(.i .i64 0)]
  ) (
 fin ob os.length [0] [v10]
  )
def ann25 : Nat → Option Hd := fun _ => none
def lab25 : Nat → Option Hd := fun _ => none
noncomputable def m26 : Body := fun Φ N as os =>
  let a0 := gS (zipN 0 as) 0
  let a1 := gS (zipN 0 as) 1
  let ob := zipN 0 os
  bndO (ca0 Φ ob 120 false 55 [a0, a1]) ob fun v1 ob =>
  fin ob os.length [0] [v1]
def ann26 : Nat → Option Hd := fun _ => none
def lab26 : Nat → Option Hd := fun _ => none
noncomputable def m27 : Body := fun Φ N as os =>
  let a0 := gS (zipN 0 as) 0
  let ob := zipN 0 os
  bndO (bx ob 72 a0) ob fun v1 ob =>
  bnd (fA 0 v1) fun v2 =>
  bnd (l1 ob v2) fun v3 =>
  bnd (bi .geq v3 (.i .i64 0)) fun v4 =>
  bnd (gd v4 true (fA 0 v1)) fun v5 =>
  bnd (gd v4 true (l1 ob v5)) fun v6 =>
  bnd (gd v4 true (bi .leq v6 (.i .i64 16384))) fun v7 =>
  bnd (pk v4 v7 (.b false)) fun v8 =>
  bnd (gd v8 true (fA 1 v1)) fun v9 =>
  bnd (gd v8 true (l1 ob v9)) fun v10 =>
  bnd (gd v8 true (len v10)) fun v11 =>
  bnd (gd v8 true (fA 0 v1)) fun v12 =>
  bnd (gd v8 true (l1 ob v12)) fun v13 =>
  bnd (gd v8 true (bi .leq v11 v13)) fun v14 =>
  bnd (pk v8 v14 (.b false)) fun v15 =>
  bnd (gd v15 true (fA 2 v1)) fun v16 =>
  bnd (gd v15 true (l1 ob v16)) fun v17 =>
  bnd (gd v15 true (bi .geq v17 (.i .i64 0))) fun v18 =>
  bnd (pk v15 v18 (.b false)) fun v19 =>
  bnd (gd v19 true (fA 2 v1)) fun v20 =>
  bnd (gd v19 true (l1 ob v20)) fun v21 =>
  bnd (gd v19 true (fA 1 v1)) fun v22 =>
  bnd (gd v19 true (l1 ob v22)) fun v23 =>
  bnd (gd v19 true (len v23)) fun v24 =>
  bnd (gd v19 true (bi .leq v21 v24)) fun v25 =>
  bnd (pk v19 v25 (.b false)) fun v26 =>
  fin ob os.length [0] [v26]
def ann27 : Nat → Option Hd := fun _ => none
def lab27 : Nat → Option Hd := fun _ => none
noncomputable def m28r0 (Φ : Sem') (N : Nat) (os : List Obj') (g : OB → Option R) (sl0 sl : SL) (ob : OB) : Option R :=
  bndO (al ob 120 [.i .i64 0, .i .i64 0, .i .i64 0, .i .i64 0, .i .u64 0, .i .u64 0, .i .i64 0, .i .i64 0, .i .i64 0, .blob 32 (List.replicate 32 (.i .u8 0)), .i .i64 0]) ob fun v6 ob =>
  bndO (st ob 42 v6 (gS sl 11)) ob fun _ ob =>
  bnd (fA 41 v6) fun v7 =>
  bnd (l1 ob v7) fun v8 =>
  bnd (bi .neq v8 (.i .i64 0)) fun v9 =>
  br v9 (
 bnd (l1 ob (gS sl0 5)) fun v10 =>
 bnd (lN ob 32 (gS sl0 6)) fun v11 =>
 bnd (l1 ob (gS sl0 5)) fun v12 =>
 bnd (len v12) fun v13 =>
 bnd (bi .mul v13 (.i .i64 62)) fun v14 =>
 bnd (dis [(gS sl0 5)] [(gS sl0 3), v11]) fun _ =>
 bnd (dis [v13, (.i .i64 62)] [(gS sl0 3), v11]) fun _ =>
 bndO (st ob 32 (gS sl0 3) v11) ob fun _ ob =>
 bnd (lN ob 32 (gS sl0 3)) fun v15 =>
 fin ob os.length [9, 0, 0] [v10, v15, v14]
  ) (
 bnd (l1 ob (gS sl 5)) fun v16 =>
 bnd (fA 0 v6) fun v17 =>
 bnd (lN ob 9 v17) fun v18 =>
 bndO (bldS ob 208 9 [v18]) ob fun v19 ob =>
 bndO (ap ob 216 9 v16 v19) ob fun v20 ob =>
 bnd (fA 9 v6) fun v21 =>
 bnd (dis [v16] [v21]) fun _ =>
 bnd (lN ob 32 v21) fun v22 =>
 bnd (dis [v21] [(gS sl 5), v20]) fun _ =>
 bndO (st ob 1 (gS sl 5) v20) ob fun _ ob =>
 bndO (st ob 32 (gS sl 6) v22) ob fun _ ob =>
 g ob
  )
noncomputable def m28e1 (Φ : Sem') (N : Nat) (os : List Obj') (sl : SL) (ob : OB) : Option R :=
  bnd (l1 ob (gS sl 5)) fun v23 =>
  bnd (lN ob 32 (gS sl 6)) fun v24 =>
  bnd (l1 ob (gS sl 5)) fun v25 =>
  bnd (len v25) fun v26 =>
  bnd (bi .mul v26 (.i .i64 62)) fun v27 =>
  bnd (dis [(gS sl 5)] [(gS sl 3), v24]) fun _ =>
  bnd (dis [v26, (.i .i64 62)] [(gS sl 3), v24]) fun _ =>
  bndO (st ob 32 (gS sl 3) v24) ob fun _ ob =>
  bnd (lN ob 32 (gS sl 3)) fun v28 =>
  fin ob os.length [9, 0, 0] [v23, v28, v27]
noncomputable def m28 : Body := fun Φ N as os =>
  let a0 := gS (zipN 0 as) 0
  let ob := zipN 0 os
  bndO (al ob 88 [.blob 32 (List.replicate 32 (.i .u8 0))]) ob fun v1 ob =>
  bndO (al ob 104 [.e true]) ob fun v2 ob =>
  bndO (ca0 Φ ob 128 false 45 []) ob fun v3 ob =>
  bndO (al ob 112 [.blob 32 (List.replicate 32 (.i .u8 0))]) ob fun v4 ob =>
  bndO (st ob 32 v4 v3) ob fun _ ob =>
  bndO (ca0 Φ ob 144 false 56 [a0]) ob fun v5 ob =>
  rgO (m28r0 Φ N os) [11] ⟨[], [3, 5, 6], [88, 104, 112, 111], [.row 104 0 500000 9, .row 104 0 111 9]⟩ (m28e1 Φ N os) [(3, v1), (5, v2), (6, v4)] ob (rgF Φ ob v5)
def ann28 : Nat → Option Hd
  | 5 => some ⟨[], [3, 5, 6], [88, 104, 112, 111], [.row 104 0 500000 9, .row 104 0 111 9]⟩ | _ => none
def lab28 : Nat → Option Hd := fun _ => none
noncomputable def m29 : Body := fun Φ N as os =>
  let a0 := gS (zipN 0 as) 0
  let ob := zipN 0 os
  bndO (bx ob 72 a0) ob fun v1 ob =>
  bnd (fA 0 v1) fun v2 =>
  bnd (l1 ob v2) fun v3 =>
  bndO (cav Φ ob 120 false (.fn 57 [] []) [v3, (.i .i64 4)]) ob fun v4 ob =>
  bnd (gd v4 true (some (.fn 57 [] []))) fun v5 =>
  bnd (gd v4 true (fA 1 v1)) fun v6 =>
  bnd (gd v4 true (l1 ob v6)) fun v7 =>
  bndO (gdO v4 true (cav Φ ob 160 false v5 [v7, (.i .i64 1073741824)])) ob fun v8 ob =>
  bnd (pk v4 v8 (.b false)) fun v9 =>
  bnd (gd v9 true (some (.fn 57 [] []))) fun v10 =>
  bnd (gd v9 true (fA 2 v1)) fun v11 =>
  bnd (gd v9 true (l1 ob v11)) fun v12 =>
  bndO (gdO v9 true (cav Φ ob 208 false v10 [v12, (.i .i64 1073741824)])) ob fun v13 ob =>
  bnd (pk v9 v13 (.b false)) fun v14 =>
  bnd (gd v14 true (some (.fn 57 [] []))) fun v15 =>
  bnd (gd v14 true (fA 3 v1)) fun v16 =>
  bnd (gd v14 true (l1 ob v16)) fun v17 =>
  bndO (gdO v14 true (cav Φ ob 256 false v15 [v17, (.i .i64 255)])) ob fun v18 ob =>
  bnd (pk v14 v18 (.b false)) fun v19 =>
  bnd (gd v19 true (some (.fn 57 [] []))) fun v20 =>
  bnd (gd v19 true (fA 6 v1)) fun v21 =>
  bnd (gd v19 true (l1 ob v21)) fun v22 =>
  bndO (gdO v19 true (cav Φ ob 304 false v20 [v22, (.i .i64 255)])) ob fun v23 ob =>
  bnd (pk v19 v23 (.b false)) fun v24 =>
  bnd (gd v24 true (some (.fn 57 [] []))) fun v25 =>
  bnd (gd v24 true (fA 7 v1)) fun v26 =>
  bnd (gd v24 true (l1 ob v26)) fun v27 =>
  bndO (gdO v24 true (cav Φ ob 352 false v25 [v27, (.i .i64 65535)])) ob fun v28 ob =>
  bnd (pk v24 v28 (.b false)) fun v29 =>
  bnd (gd v29 true (some (.fn 57 [] []))) fun v30 =>
  bnd (gd v29 true (fA 8 v1)) fun v31 =>
  bnd (gd v29 true (l1 ob v31)) fun v32 =>
  bndO (gdO v29 true (cav Φ ob 400 false v30 [v32, (.i .i64 12)])) ob fun v33 ob =>
  bnd (pk v29 v33 (.b false)) fun v34 =>
  fin ob os.length [0] [v34]
def ann29 : Nat → Option Hd := fun _ => none
def lab29 : Nat → Option Hd := fun _ => none
noncomputable def m30 : Body := fun Φ N as os =>
  let a0 := gS (zipN 0 as) 0
  let ob := zipN 0 os
  bndO (bx ob 72 a0) ob fun v1 ob =>
  bndO (al ob 80 [.i .i64 0, .e true, .i .i64 0, .e true, .blob 32 (List.replicate 32 (.i .u8 0))]) ob fun v2 ob =>
  bnd (fA 0 v1) fun v3 =>
  bnd (fA 1 v3) fun v4 =>
  bnd (l1 ob v4) fun v5 =>
  bndO (ca0 Φ ob 112 false 58 [v5]) ob fun v6 ob =>
  bnd (fA 3 v1) fun v7 =>
  bnd (l1 ob v7) fun v8 =>
  bndO (ca0 Φ ob 136 false 59 [v8]) ob fun v9 ob =>
  bnd (fA 0 v1) fun v10 =>
  bnd (fA 1 v10) fun v11 =>
  bndO (st ob 1 v11 v6) ob fun _ ob =>
  bnd (fA 3 v1) fun v12 =>
  bndO (st ob 1 v12 v9) ob fun _ ob =>
  bnd (lN ob 36 v1) fun v13 =>
  bndO (st ob 36 v2 v13) ob fun _ ob =>
  bnd (lN ob 36 v2) fun v14 =>
  finG ob os.length [v14]
def ann30 : Nat → Option Hd := fun _ => none
def lab30 : Nat → Option Hd := fun _ => none
noncomputable def m31 : Body := fun Φ N as os =>
  let a0 := gS (zipN 0 as) 0
  let ob := zipN 0 os
  bnd (nc a0) fun v1 =>
  bnd (fA 0 v1) fun v2 =>
  bnd (fA 3 v2) fun v3 =>
  bnd (l1 ob v3) fun v4 =>
  bnd (len v4) fun v5 =>
  bndO (cr Φ ob 152 false 60 [a0]) ob fun v6 ob =>
  bnd (bi .lss v5 v6) fun v7 =>
  bndO (cr Φ ob 176 false 60 [a0]) ob fun v8 ob =>
  bnd (bi .sub v8 (.i .i64 4)) fun v9 =>
  bnd (nc a0) fun v10 =>
  bnd (fA 0 v10) fun v11 =>
  bnd (fA 3 v11) fun v12 =>
  bnd (l1 ob v12) fun v13 =>
  bnd (len v13) fun v14 =>
  bnd (bi .sub v9 v14) fun v15 =>
  bnd (mxI (.i .i64 0) v15) fun v16 =>
  fin ob os.length [0, 0] [v7, v16]
def ann31 : Nat → Option Hd := fun _ => none
def lab31 : Nat → Option Hd := fun _ => none
noncomputable def m32 : Body := fun Φ N as os =>
  let a0 := gS (zipN 0 as) 0
  let a1 := gS (zipN 0 as) 1
  let ob := zipN 0 os
  bndO (bx ob 88 a1) ob fun v1 ob =>
  bndO (al ob 104 [.blob 32 (List.replicate 32 (.i .u8 0))]) ob fun v2 ob =>
  bnd (lN ob 9 v1) fun v3 =>
  bndO (ca0 Φ ob 160 false 61 [v3]) ob fun v4 ob =>
  bnd (ext 0 v4) fun v5 =>
  bnd (ext 1 v4) fun v6 =>
  bnd (nc a0) fun v7 =>
  bnd (fA 0 v7) fun v8 =>
  bnd (fA 4 v8) fun v9 =>
  bnd (lN ob 32 v9) fun v10 =>
  bnd (lN ob 9 v1) fun v11 =>
  bndO (ca0 Φ ob 240 false 62 [v10, v11]) ob fun v12 ob =>
  bnd (ext 0 v12) fun v13 =>
  bnd (ext 1 v12) fun v14 =>
  bndO (al ob 128 [.blob 32 (List.replicate 32 (.i .u8 0))]) ob fun v15 ob =>
  bndO (st ob 32 v15 v13) ob fun _ ob =>
  bndO (slc ob (.arr 32) v15 none none none) ob fun v16 ob =>
  bndO (bldS ob 280 1 [v5, v16]) ob fun v17 ob =>
  bndO (ca0 Φ ob 288 true 63 [v17]) ob fun v18 ob =>
  bnd (lN ob 32 v15) fun v19 =>
  bndO (st ob 32 v2 v19) ob fun _ ob =>
  bnd (lN ob 32 v2) fun v20 =>
  fin ob os.length [1, 0] [v18, v20]
def ann32 : Nat → Option Hd := fun _ => none
def lab32 : Nat → Option Hd := fun _ => none
noncomputable def m33 : Body := fun Φ N as os =>
  let a0 := gS (zipN 0 as) 0
  let a1 := gS (zipN 0 as) 1
  let ob := zipN 0 os
  bndO (bx ob 80 a0) ob fun v1 ob =>
  bndO (al ob 96 [.i .i64 0, .e true, .i .i64 0]) ob fun v2 ob =>
  bnd (lN ob 3 v1) fun v3 =>
  bndO (ca Φ ob 128 false 64 [v3, (.fn 65 [] []), a1, (.i .i64 0)]) ob fun v4 ob =>
  bnd (ext 0 v4) fun v5 =>
  bnd (ext 1 v4) fun v6 =>
  bndO (st ob 3 v2 v5) ob fun _ ob =>
  bnd (lN ob 3 v2) fun v7 =>
  fin ob os.length [0, 0] [v7, v6]
def ann33 : Nat → Option Hd := fun _ => none
def lab33 : Nat → Option Hd := fun _ => none
noncomputable def m34 : Body := fun Φ N as os =>
  let a0 := gS (zipN 0 as) 0
  let ob := zipN 0 os
  bndO (bx ob 72 a0) ob fun v1 ob =>
  bndO (al ob 80 [.i .i64 0, .e true, .i .i64 0]) ob fun v2 ob =>
  bnd (lN ob 3 v1) fun v3 =>
  bndO (ca Φ ob 104 false 64 [v3, (.fn 66 [] []), (.e true), (.i .i64 0)]) ob fun v4 ob =>
  bnd (ext 0 v4) fun v5 =>
  bnd (ext 1 v4) fun v6 =>
  bndO (st ob 3 v2 v5) ob fun _ ob =>
  bnd (lN ob 3 v2) fun v7 =>
  fin ob os.length [0, 0] [v7, v6]
def ann34 : Nat → Option Hd := fun _ => none
def lab34 : Nat → Option Hd := fun _ => none
noncomputable def m35 : Body := fun Φ N as os =>
  let a0 := gS (zipN 0 as) 0
  let ob := zipN 0 os
  bndO (bx ob 72 a0) ob fun v1 ob =>
  bnd (fA 0 v1) fun v2 =>
  bnd (l1 ob v2) fun v3 =>
  bnd (bi .lss v3 (.i .i64 0)) fun v4 =>
  bnd (gd v4 false (fA 0 v1)) fun v5 =>
  bnd (gd v4 false (l1 ob v5)) fun v6 =>
  bnd (gd v4 false (bi .geq v6 (.i .i64 5))) fun v7 =>
  bnd (pk v4 (.b true) v7) fun v8 =>
  bnd (gd v8 false (fA 1 v1)) fun v9 =>
  bnd (gd v8 false (l1 ob v9)) fun v10 =>
  bnd (gd v8 false (bi .lss v10 (.i .i64 0))) fun v11 =>
  bnd (pk v8 (.b true) v11) fun v12 =>
  bnd (gd v12 false (fA 1 v1)) fun v13 =>
  bnd (gd v12 false (l1 ob v13)) fun v14 =>
  bnd (gd v12 false (bi .gtr v14 (.i .i64 1073741824))) fun v15 =>
  bnd (pk v12 (.b true) v15) fun v16 =>
  bnd (gd v16 false (fA 2 v1)) fun v17 =>
  bnd (gd v16 false (l1 ob v17)) fun v18 =>
  bnd (gd v16 false (bi .lss v18 (.i .i64 0))) fun v19 =>
  bnd (pk v16 (.b true) v19) fun v20 =>
  bnd (gd v20 false (fA 2 v1)) fun v21 =>
  bnd (gd v20 false (l1 ob v21)) fun v22 =>
  bnd (gd v20 false (bi .gtr v22 (.i .i64 1073741824))) fun v23 =>
  bnd (pk v20 (.b true) v23) fun v24 =>
  br v24 (
 fin ob os.length [0] [(.b false)]
  ) (
 bnd (fA 3 v1) fun v25 =>
 bnd (l1 ob v25) fun v26 =>
 bnd (bi .geq v26 (.i .i64 0)) fun v27 =>
 bnd (gd v27 true (fA 3 v1)) fun v28 =>
 bnd (gd v27 true (l1 ob v28)) fun v29 =>
 bnd (gd v27 true (bi .leq v29 (.i .i64 255))) fun v30 =>
 bnd (pk v27 v30 (.b false)) fun v31 =>
 bnd (gd v31 true (fA 6 v1)) fun v32 =>
 bnd (gd v31 true (l1 ob v32)) fun v33 =>
 bnd (gd v31 true (bi .geq v33 (.i .i64 0))) fun v34 =>
 bnd (pk v31 v34 (.b false)) fun v35 =>
 bnd (gd v35 true (fA 6 v1)) fun v36 =>
 bnd (gd v35 true (l1 ob v36)) fun v37 =>
 bnd (gd v35 true (bi .leq v37 (.i .i64 255))) fun v38 =>
 bnd (pk v35 v38 (.b false)) fun v39 =>
 bnd (gd v39 true (fA 7 v1)) fun v40 =>
 bnd (gd v39 true (l1 ob v40)) fun v41 =>
 bnd (gd v39 true (bi .geq v41 (.i .i64 0))) fun v42 =>
 bnd (pk v39 v42 (.b false)) fun v43 =>
 bnd (gd v43 true (fA 7 v1)) fun v44 =>
 bnd (gd v43 true (l1 ob v44)) fun v45 =>
 bnd (gd v43 true (bi .leq v45 (.i .i64 65535))) fun v46 =>
 bnd (pk v43 v46 (.b false)) fun v47 =>
 bnd (gd v47 true (fA 8 v1)) fun v48 =>
 bnd (gd v47 true (l1 ob v48)) fun v49 =>
 bnd (gd v47 true (bi .geq v49 (.i .i64 0))) fun v50 =>
 bnd (pk v47 v50 (.b false)) fun v51 =>
 bnd (gd v51 true (fA 8 v1)) fun v52 =>
 bnd (gd v51 true (l1 ob v52)) fun v53 =>
 bnd (gd v51 true (bi .leq v53 (.i .i64 12))) fun v54 =>
 bnd (pk v51 v54 (.b false)) fun v55 =>
 fin ob os.length [0] [v55]
  )
def ann35 : Nat → Option Hd := fun _ => none
def lab35 : Nat → Option Hd := fun _ => none
noncomputable def m36 : Body := fun Φ N as os =>
  let a0 := gS (zipN 0 as) 0
  let ob := zipN 0 os
  bndO (bx ob 72 a0) ob fun v1 ob =>
  bnd (fA 0 v1) fun v2 =>
  bnd (fA 0 v2) fun v3 =>
  bnd (l1 ob v3) fun v4 =>
  bnd (bi .quo v4 (.i .i64 62)) fun v5 =>
  fin ob os.length [0] [v5]
def ann36 : Nat → Option Hd := fun _ => none
def lab36 : Nat → Option Hd := fun _ => none
noncomputable def m37 : Body := fun Φ N as os =>
  let a0 := gS (zipN 0 as) 0
  let a1 := gS (zipN 0 as) 1
  let ob := zipN 0 os
  bndO (bx ob 80 a0) ob fun v1 ob =>
  bndO (bx ob 88 a1) ob fun v2 ob =>
  bndO (al ob 104 [.blob 32 (List.replicate 32 (.i .u8 0))]) ob fun v3 ob =>
  bnd (lN ob 9 v2) fun v4 =>
  bndO (ca0 Φ ob 160 false 67 [v4]) ob fun v5 ob =>
  bnd (ext 0 v5) fun v6 =>
  bnd (ext 1 v5) fun v7 =>
  bnd (fA 4 v1) fun v8 =>
  bnd (lN ob 32 v8) fun v9 =>
  bnd (lN ob 9 v2) fun v10 =>
  bndO (ca0 Φ ob 216 false 68 [v9, v10]) ob fun v11 ob =>
  bnd (ext 0 v11) fun v12 =>
  bnd (ext 1 v11) fun v13 =>
  bndO (al ob 128 [.blob 32 (List.replicate 32 (.i .u8 0))]) ob fun v14 ob =>
  bndO (st ob 32 v14 v12) ob fun _ ob =>
  bndO (slc ob (.arr 32) v14 none none none) ob fun v15 ob =>
  bndO (ap ob 256 1 v6 v15) ob fun v16 ob =>
  bnd (dis [v6] [v14]) fun _ =>
  bnd (lN ob 32 v14) fun v17 =>
  bndO (st ob 32 v3 v17) ob fun _ ob =>
  bnd (lN ob 32 v3) fun v18 =>
  fin ob os.length [1, 0] [v16, v18]
def ann37 : Nat → Option Hd := fun _ => none
def lab37 : Nat → Option Hd := fun _ => none
noncomputable def m38 : Body := fun Φ N as os =>
  let a0 := gS (zipN 0 as) 0
  let a1 := gS (zipN 0 as) 1
  let ob := zipN 0 os
  bndO (bx ob 80 a0) ob fun v1 ob =>
  bndO (al ob 96 [.i .i64 0, .e true, .i .i64 0]) ob fun v2 ob =>
  bnd (lN ob 3 v1) fun v3 =>
  bndO (ca0 Φ ob 136 false 41 [v3]) ob fun v4 ob =>
  bnd (uO .not v4) fun v5 =>
  br v5 (
 bnd (lN ob 3 v1) fun v6 =>
 bndO (st ob 3 v2 v6) ob fun _ ob =>
 bnd (lN ob 3 v2) fun v7 =>
 fin ob os.length [0, 0] [v7, (.i .i64 1)]
  ) (
 bnd (len a1) fun v8 =>
 bnd (fA 0 v1) fun v9 =>
 bnd (l1 ob v9) fun v10 =>
 bnd (fA 1 v1) fun v11 =>
 bnd (l1 ob v11) fun v12 =>
 bnd (len v12) fun v13 =>
 bnd (bi .sub v10 v13) fun v14 =>
 bnd (bi .gtr v8 v14) fun v15 =>
 br v15 (
  bnd (lN ob 3 v1) fun v16 =>
  bndO (st ob 3 v2 v16) ob fun _ ob =>
  bnd (lN ob 3 v2) fun v17 =>
  fin ob os.length [0, 0] [v17, (.i .i64 12)]
 ) (
  bnd (fA 1 v1) fun v18 =>
  bnd (l1 ob v18) fun v19 =>
  bndO (ap ob 264 1 (.e true) v19) ob fun v20 ob =>
  bnd (fA 0 v1) fun v21 =>
  bnd (l1 ob v21) fun v22 =>
  bnd (dis [v21] [v20]) fun _ =>
  bndO (ap ob 304 1 v20 a1) ob fun v23 ob =>
  bnd (fA 2 v1) fun v24 =>
  bnd (dis [v20] [v24]) fun _ =>
  bnd (l1 ob v24) fun v25 =>
  bnd (bld [.i .i64 0, .e true, .i .i64 0] [(0, 1, v22), (1, 1, v23), (2, 1, v25)]) fun v26 =>
  bndO (st ob 3 v2 v26) ob fun _ ob =>
  bnd (lN ob 3 v2) fun v27 =>
  fin ob os.length [0, 0] [v27, (.i .i64 0)]
 )
  )
def ann38 : Nat → Option Hd := fun _ => none
def lab38 : Nat → Option Hd := fun _ => none
noncomputable def m39 : Body := fun Φ N as os =>
  let a0 := gS (zipN 0 as) 0
  let ob := zipN 0 os
  bndO (bx ob 72 a0) ob fun v1 ob =>
  bndO (al ob 80 [.i .i64 0, .e true, .i .i64 0]) ob fun v2 ob =>
  bnd (lN ob 3 v1) fun v3 =>
  bndO (ca0 Φ ob 112 false 41 [v3]) ob fun v4 ob =>
  bnd (uO .not v4) fun v5 =>
  br v5 (
 bnd (lN ob 3 v1) fun v6 =>
 bndO (st ob 3 v2 v6) ob fun _ ob =>
 bnd (lN ob 3 v2) fun v7 =>
 fin ob os.length [0, 0] [v7, (.i .i64 1)]
  ) (
 bnd (fA 0 v1) fun v8 =>
 bnd (l1 ob v8) fun v9 =>
 bnd (fA 1 v1) fun v10 =>
 bnd (l1 ob v10) fun v11 =>
 bnd (fA 1 v1) fun v12 =>
 bnd (l1 ob v12) fun v13 =>
 bnd (len v13) fun v14 =>
 bnd (bld [.i .i64 0, .e true, .i .i64 0] [(0, 1, v9), (1, 1, v11), (2, 1, v14)]) fun v15 =>
 bndO (st ob 3 v2 v15) ob fun _ ob =>
 bnd (lN ob 3 v2) fun v16 =>
 fin ob os.length [0, 0] [v16, (.i .i64 0)]
  )
def ann39 : Nat → Option Hd := fun _ => none
def lab39 : Nat → Option Hd := fun _ => none
noncomputable def m40 : Body := fun Φ N as os =>
  let a0 := gS (zipN 0 as) 0
  let a1 := gS (zipN 0 as) 1
  let ob := zipN 0 os
  bndO (bx ob 80 a0) ob fun v1 ob =>
  bndO (al ob 96 [.i .i64 0, .e true, .i .i64 0]) ob fun v2 ob =>
  bnd (lN ob 3 v1) fun v3 =>
  bndO (ca Φ ob 128 false 64 [v3, (.fn 69 [] []), (.e true), a1]) ob fun v4 ob =>
  bnd (ext 0 v4) fun v5 =>
  bnd (ext 1 v4) fun v6 =>
  bndO (st ob 3 v2 v5) ob fun _ ob =>
  bnd (lN ob 3 v2) fun v7 =>
  fin ob os.length [0, 0] [v7, v6]
def ann40 : Nat → Option Hd := fun _ => none
def lab40 : Nat → Option Hd := fun _ => none
noncomputable def m41 : Body := fun Φ N as os =>
  let a0 := gS (zipN 0 as) 0
  let ob := zipN 0 os
  bndO (bx ob 72 a0) ob fun v1 ob =>
  bnd (fA 0 v1) fun v2 =>
  bnd (l1 ob v2) fun v3 =>
  bnd (bi .geq v3 (.i .i64 0)) fun v4 =>
  bnd (gd v4 true (fA 0 v1)) fun v5 =>
  bnd (gd v4 true (l1 ob v5)) fun v6 =>
  bnd (gd v4 true (bi .leq v6 (.i .i64 16384))) fun v7 =>
  bnd (pk v4 v7 (.b false)) fun v8 =>
  bnd (gd v8 true (fA 1 v1)) fun v9 =>
  bnd (gd v8 true (l1 ob v9)) fun v10 =>
  bnd (gd v8 true (len v10)) fun v11 =>
  bnd (gd v8 true (fA 0 v1)) fun v12 =>
  bnd (gd v8 true (l1 ob v12)) fun v13 =>
  bnd (gd v8 true (bi .leq v11 v13)) fun v14 =>
  bnd (pk v8 v14 (.b false)) fun v15 =>
  bnd (gd v15 true (fA 2 v1)) fun v16 =>
  bnd (gd v15 true (l1 ob v16)) fun v17 =>
  bnd (gd v15 true (bi .geq v17 (.i .i64 0))) fun v18 =>
  bnd (pk v15 v18 (.b false)) fun v19 =>
  bnd (gd v19 true (fA 2 v1)) fun v20 =>
  bnd (gd v19 true (l1 ob v20)) fun v21 =>
  bnd (gd v19 true (fA 1 v1)) fun v22 =>
  bnd (gd v19 true (l1 ob v22)) fun v23 =>
  bnd (gd v19 true (len v23)) fun v24 =>
  bnd (gd v19 true (bi .leq v21 v24)) fun v25 =>
  bnd (pk v19 v25 (.b false)) fun v26 =>
  fin ob os.length [0] [v26]
def ann41 : Nat → Option Hd := fun _ => none
def lab41 : Nat → Option Hd := fun _ => none
noncomputable def m42b0 (Φ : Sem') (N : Nat) (os : List Obj') (g : SL → OB → Option R) (sl : SL) (ob : OB) : Option R :=
  bnd (len (gS sl 5)) fun v4 =>
  bnd (bi .lss v4 (.i .i64 264)) fun v5 =>
  br v5 (
 bnd (len (gS sl 5)) fun v6 =>
 bnd (bi .mul (.i .i64 62) v6) fun v7 =>
 bnd (len (gS sl 0)) fun v8 =>
 bnd (bi .sub v8 v7) fun v9 =>
 bnd (bi .lss v9 (.i .i64 62)) fun v10 =>
 br v10 (
  bnd (lN ob 32 (gS sl 6)) fun v11 =>
  bnd (len (gS sl 5)) fun v12 =>
  bnd (bi .mul (.i .i64 62) v12) fun v13 =>
  bnd (dis [(.i .i64 62), v12] [(gS sl 3), v11]) fun _ =>
  bndO (st ob 32 (gS sl 3) v11) ob fun _ ob =>
  bnd (lN ob 32 (gS sl 3)) fun v14 =>
  fin ob os.length [9, 0, 0] [(gS sl 5), v14, v13]
 ) (
  bnd (bi .add v7 (.i .i64 30)) fun v15 =>
  bndO (slc ob (.slice 1) (gS sl 0) (some v7) (some v15) none) ob fun v16 ob =>
  bndO (ca0 Φ ob 304 false 70 [v16]) ob fun v17 ob =>
  bnd (ext 0 v17) fun v18 =>
  bnd (ext 1 v17) fun v19 =>
  bndO (al ob 128 [.i .i64 0, .i .i64 0, .i .i64 0, .i .i64 0, .i .u64 0, .i .u64 0, .i .i64 0, .i .i64 0, .i .i64 0]) ob fun v20 ob =>
  bndO (st ob 9 v20 v18) ob fun _ ob =>
  bnd (lN ob 32 (gS sl 6)) fun v21 =>
  bnd (lN ob 9 v20) fun v22 =>
  bndO (ca0 Φ ob 352 false 68 [v21, v22]) ob fun v23 ob =>
  bnd (ext 0 v23) fun v24 =>
  bnd (ext 1 v23) fun v25 =>
  bndO (al ob 144 [.blob 32 (List.replicate 32 (.i .u8 0))]) ob fun v26 ob =>
  bndO (st ob 32 v26 v24) ob fun _ ob =>
  bnd (uO .not v19) fun v27 =>
  bndO (gdO v27 false (slc ob (.arr 32) v26 none none none)) ob fun v28 ob =>
  bnd (gd v27 false (b2s ob v28)) fun v29 =>
  bnd (gd v27 false (some (gS sl 0))) fun v30 =>
  bnd (gd v27 false (some v7)) fun v31 =>
  bnd (gd v27 false (bi .add v31 (.i .i64 30))) fun v32 =>
  bnd (gd v27 false (some v7)) fun v33 =>
  bnd (gd v27 false (bi .add v33 (.i .i64 62))) fun v34 =>
  bndO (gdO v27 false (slc ob (.slice 1) v30 (some v32) (some v34) none)) ob fun v35 ob =>
  bnd (gd v27 false (b2s ob v35)) fun v36 =>
  bnd (gd v27 false (bi .neq v29 v36)) fun v37 =>
  bnd (pk v27 (.b true) v37) fun v38 =>
  br v38 (
   bnd (lN ob 32 (gS sl 6)) fun v39 =>
   bnd (len (gS sl 5)) fun v40 =>
   bnd (bi .mul (.i .i64 62) v40) fun v41 =>
   bnd (dis [(.i .i64 62), v40] [(gS sl 3), v39]) fun _ =>
   bndO (st ob 32 (gS sl 3) v39) ob fun _ ob =>
   bnd (lN ob 32 (gS sl 3)) fun v42 =>
   fin ob os.length [9, 0, 0] [(gS sl 5), v42, v41]
  ) (
   bnd (lN ob 9 v20) fun v43 =>
   bndO (bldS ob 504 9 [v43]) ob fun v44 ob =>
   bndO (ap ob 512 9 (gS sl 5) v44) ob fun v45 ob =>
   bnd (lN ob 32 v26) fun v46 =>
   bndO (st ob 32 (gS sl 6) v46) ob fun _ ob =>
   bnd (head [.row 5 111 9] [0, 3, 5, 6] [88, 112] [(0, (gS sl 0)), (3, (gS sl 3)), (5, v45), (6, (gS sl 6))] ob) fun x => g x.1 x.2
  )
 )
  ) (
 bnd (lN ob 32 (gS sl 6)) fun v47 =>
 bnd (len (gS sl 5)) fun v48 =>
 bnd (bi .mul (.i .i64 62) v48) fun v49 =>
 bnd (dis [(.i .i64 62), v48] [(gS sl 3), v47]) fun _ =>
 bndO (st ob 32 (gS sl 3) v47) ob fun _ ob =>
 bnd (lN ob 32 (gS sl 3)) fun v50 =>
 fin ob os.length [9, 0, 0] [(gS sl 5), v50, v49]
  )
noncomputable def m42 : Body := fun Φ N as os =>
  let a0 := gS (zipN 0 as) 0
  let ob := zipN 0 os
  bndO (al ob 88 [.blob 32 (List.replicate 32 (.i .u8 0))]) ob fun v1 ob =>
  bndO (ca0 Φ ob 160 false 47 [(.e true)]) ob fun v2 ob =>
  bndO (al ob 112 [.blob 32 (List.replicate 32 (.i .u8 0))]) ob fun v3 ob =>
  bndO (st ob 32 v3 v2) ob fun _ ob =>
  bnd (head [.row 5 111 9] [0, 3, 5, 6] [88, 112] [(0, a0), (3, v1), (5, (.e true)), (6, v3)] ob) fun x => loopC (m42b0 Φ N os) N x.1 x.2
def ann42 : Nat → Option Hd
  | 3 => some ⟨[.row 5 111 9], [0, 3, 5, 6], [88, 112], []⟩ | _ => none
def lab42 : Nat → Option Hd := fun _ => none
noncomputable def m43 : Body := fun Φ N as os =>
  let a0 := gS (zipN 0 as) 0
  let a1 := gS (zipN 0 as) 1
  let ob := zipN 0 os
  bndO (bx ob 80 a0) ob fun v1 ob =>
  bndO (al ob 96 [.i .i64 0, .e true, .i .i64 0]) ob fun v2 ob =>
  bnd (lN ob 3 v1) fun v3 =>
  bndO (ca0 Φ ob 128 false 41 [v3]) ob fun v4 ob =>
  bnd (uO .not v4) fun v5 =>
  bnd (gd v5 false (some a1)) fun v6 =>
  bnd (gd v5 false (bi .lss v6 (.i .i64 0))) fun v7 =>
  bnd (pk v5 (.b true) v7) fun v8 =>
  bnd (gd v8 false (some a1)) fun v9 =>
  bnd (gd v8 false (fA 1 v1)) fun v10 =>
  bnd (gd v8 false (l1 ob v10)) fun v11 =>
  bnd (gd v8 false (len v11)) fun v12 =>
  bnd (gd v8 false (bi .gtr v9 v12)) fun v13 =>
  bnd (pk v8 (.b true) v13) fun v14 =>
  br v14 (
 bnd (lN ob 3 v1) fun v15 =>
 bndO (st ob 3 v2 v15) ob fun _ ob =>
 bnd (lN ob 3 v2) fun v16 =>
 fin ob os.length [0, 0] [v16, (.i .i64 1)]
  ) (
 bnd (fA 0 v1) fun v17 =>
 bnd (l1 ob v17) fun v18 =>
 bnd (fA 1 v1) fun v19 =>
 bnd (l1 ob v19) fun v20 =>
 bndO (slc ob (.slice 1) v20 none (some a1) none) ob fun v21 ob =>
 bnd (bld [.i .i64 0, .e true, .i .i64 0] [(0, 1, v18), (1, 1, v21), (2, 1, a1)]) fun v22 =>
 bndO (st ob 3 v2 v22) ob fun _ ob =>
 bnd (lN ob 3 v2) fun v23 =>
 fin ob os.length [0, 0] [v23, (.i .i64 0)]
  )
def ann43 : Nat → Option Hd := fun _ => none
def lab43 : Nat → Option Hd := fun _ => none
noncomputable def m44 : Body := fun Φ N as os =>
  let a0 := gS (zipN 0 as) 0
  let ob := zipN 0 os
  bndO (al ob 80 [.i .i64 0, .e true, .i .i64 0]) ob fun v1 ob =>
  bnd (bld [.i .i64 0, .e true, .i .i64 0] [(0, 1, a0)]) fun v2 =>
  bndO (al ob 96 [.i .i64 0, .e true, .i .i64 0]) ob fun v3 ob =>
  bndO (st ob 3 v3 v2) ob fun _ ob =>
  bnd (lN ob 3 v3) fun v4 =>
  bndO (ca0 Φ ob 128 false 27 [v4]) ob fun v5 ob =>
  br v5 (
 bnd (lN ob 3 v3) fun v6 =>
 bndO (st ob 3 v1 v6) ob fun _ ob =>
 bnd (lN ob 3 v1) fun v7 =>
 fin ob os.length [0, 0] [v7, (.b true)]
  ) (
 bnd (bld [.i .i64 0, .e true, .i .i64 0] []) fun v8 =>
 bndO (st ob 3 v1 v8) ob fun _ ob =>
 bnd (lN ob 3 v1) fun v9 =>
 fin ob os.length [0, 0] [v9, (.b false)]
  )
def ann44 : Nat → Option Hd := fun _ => none
def lab44 : Nat → Option Hd := fun _ => none
noncomputable def m45 : Body := fun Φ N as os =>
  let ob := zipN 0 os
  bndO (al ob 64 [.blob 32 (List.replicate 32 (.i .u8 0))]) ob fun v1 ob =>
  bndO (ca0 Φ ob 72 false 72 []) ob fun v2 ob =>
  bndO (ca0 Φ ob 80 false 71 [v2]) ob fun v3 ob =>
  bndO (st ob 32 v1 v3) ob fun _ ob =>
  bnd (lN ob 32 v1) fun v4 =>
  fin ob os.length [0] [v4]
def ann45 : Nat → Option Hd := fun _ => none
def lab45 : Nat → Option Hd := fun _ => none
noncomputable def m46 : Body := fun Φ N as os =>
  let a0 := gS (zipN 0 as) 0
  let ob := zipN 0 os
  bndO (al ob 80 [.i .i64 0, .e true, .i .i64 0]) ob fun v1 ob =>
  bnd (bi .lss a0 (.i .i64 0)) fun v2 =>
  bnd (gd v2 false (some a0)) fun v3 =>
  bnd (gd v2 false (bi .gtr v3 (.i .i64 16384))) fun v4 =>
  bnd (pk v2 (.b true) v4) fun v5 =>
  br v5 (
 bnd (bld [.i .i64 0, .e true, .i .i64 0] []) fun v6 =>
 bndO (st ob 3 v1 v6) ob fun _ ob =>
 bnd (lN ob 3 v1) fun v7 =>
 fin ob os.length [0, 0] [v7, (.b false)]
  ) (
 bnd (bld [.i .i64 0, .e true, .i .i64 0] [(0, 1, a0)]) fun v8 =>
 bndO (st ob 3 v1 v8) ob fun _ ob =>
 bnd (lN ob 3 v1) fun v9 =>
 fin ob os.length [0, 0] [v9, (.b true)]
  )
def ann46 : Nat → Option Hd := fun _ => none
def lab46 : Nat → Option Hd := fun _ => none
noncomputable def m47b0 (Φ : Sem') (N : Nat) (os : List Obj') (g : SL → OB → Option R) (sl : SL) (ob : OB) : Option R :=
  bnd (len (gS sl 0)) fun v5 =>
  bnd (bi .lss (gS sl 4) v5) fun v6 =>
  br v6 (
 bnd (xS ob 9 (gS sl 0) (gS sl 4)) fun v7 =>
 bnd (lN ob 9 v7) fun v8 =>
 bndO (ca0 Φ ob 232 false 67 [v8]) ob fun v9 ob =>
 bnd (ext 0 v9) fun v10 =>
 bnd (ext 1 v9) fun v11 =>
 bndO (bldS ob 256 1 [(.i .u8 1)]) ob fun v12 ob =>
 bndO (slc ob (.arr 32) (gS sl 3) none none none) ob fun v13 ob =>
 bndO (ap ob 272 1 v12 v13) ob fun v14 ob =>
 bndO (ap ob 296 1 v14 v10) ob fun v15 ob =>
 bndO (ca0 Φ ob 304 false 73 [v15]) ob fun v16 ob =>
 bndO (st ob 32 (gS sl 3) v16) ob fun _ ob =>
 bnd (bi .add (gS sl 4) (.i .i64 1)) fun v17 =>
 bnd (head [] [0, 2, 3, 4] [80, 88] [(0, (gS sl 0)), (2, (gS sl 2)), (3, (gS sl 3)), (4, v17)] ob) fun x => g x.1 x.2
  ) (
 bnd (lN ob 32 (gS sl 3)) fun v18 =>
 bndO (st ob 32 (gS sl 2) v18) ob fun _ ob =>
 bnd (lN ob 32 (gS sl 2)) fun v19 =>
 fin ob os.length [0] [v19]
  )
noncomputable def m47 : Body := fun Φ N as os =>
  let a0 := gS (zipN 0 as) 0
  let ob := zipN 0 os
  bndO (al ob 80 [.blob 32 (List.replicate 32 (.i .u8 0))]) ob fun v1 ob =>
  bndO (bldS ob 128 1 [(.i .u8 0)]) ob fun v2 ob =>
  bndO (ca0 Φ ob 136 false 73 [v2]) ob fun v3 ob =>
  bndO (al ob 88 [.blob 32 (List.replicate 32 (.i .u8 0))]) ob fun v4 ob =>
  bndO (st ob 32 v4 v3) ob fun _ ob =>
  bnd (head [] [0, 2, 3, 4] [80, 88] [(0, a0), (2, v1), (3, v4), (4, (.i .i64 0))] ob) fun x => loopC (m47b0 Φ N os) N x.1 x.2
def ann47 : Nat → Option Hd
  | 3 => some ⟨[], [0, 2, 3, 4], [80, 88], []⟩ | _ => none
def lab47 : Nat → Option Hd := fun _ => none
noncomputable def m48b0 (Φ : Sem') (N : Nat) (os : List Obj') (g : SL → OB → Option R) (sl : SL) (ob : OB) : Option R :=
  bnd (len (gS sl 0)) fun v4 =>
  bnd (bi .lss (gS sl 5) v4) fun v5 =>
  br v5 (
 bnd (xS ob 9 (gS sl 0) (gS sl 5)) fun v6 =>
 bnd (lN ob 9 v6) fun v7 =>
 bnd (xS ob 9 (gS sl 1) (gS sl 5)) fun v8 =>
 bnd (lN ob 9 v8) fun v9 =>
 bnd (eSt true [.i, .i, .i, .i, .i, .i, .i, .i, .i] v7 v9) fun v10 =>
 br v10 (
  fin ob os.length [0] [(.b false)]
 ) (
  bnd (bi .add (gS sl 5) (.i .i64 1)) fun v11 =>
  bnd (head [] [0, 1, 5] [] [(0, (gS sl 0)), (1, (gS sl 1)), (5, v11)] ob) fun x => g x.1 x.2
 )
  ) (
 fin ob os.length [0] [(.b true)]
  )
noncomputable def m48 : Body := fun Φ N as os =>
  let a0 := gS (zipN 0 as) 0
  let a1 := gS (zipN 0 as) 1
  let ob := zipN 0 os
  bnd (len a0) fun v1 =>
  bnd (len a1) fun v2 =>
  bnd (bi .neq v1 v2) fun v3 =>
  br v3 (
 fin ob os.length [0] [(.b false)]
  ) (
 bnd (head [] [0, 1, 5] [] [(0, a0), (1, a1), (5, (.i .i64 0))] ob) fun x => loopC (m48b0 Φ N os) N x.1 x.2
  )
def ann48 : Nat → Option Hd
  | 4 => some ⟨[], [0, 1, 5], [], []⟩ | _ => none
def lab48 : Nat → Option Hd := fun _ => none
noncomputable def m49 : Body := fun Φ N as os =>
  let a0 := gS (zipN 0 as) 0
  let a1 := gS (zipN 0 as) 1
  let ob := zipN 0 os
  bndO (bx ob 80 a0) ob fun v1 ob =>
  bndO (al ob 96 [.i .i64 0, .e true, .i .i64 0]) ob fun v2 ob =>
  bnd (lN ob 3 v1) fun v3 =>
  bndO (ca0 Φ ob 128 false 27 [v3]) ob fun v4 ob =>
  bnd (uO .not v4) fun v5 =>
  br v5 (
 bnd (lN ob 3 v1) fun v6 =>
 bndO (ca0 Φ ob 152 false 74 [v6]) ob fun v7 ob =>
 bndO (st ob 3 v2 v7) ob fun _ ob =>
 bnd (lN ob 3 v2) fun v8 =>
 fin ob os.length [0] [v8]
  ) (
 bnd (lN ob 3 v1) fun v9 =>
 bnd (fA 2 v1) fun v10 =>
 bnd (l1 ob v10) fun v11 =>
 bnd (fA 1 v1) fun v12 =>
 bnd (l1 ob v12) fun v13 =>
 bnd (len v13) fun v14 =>
 bnd (fA 2 v1) fun v15 =>
 bnd (l1 ob v15) fun v16 =>
 bnd (bi .sub v14 v16) fun v17 =>
 bnd (mnI a1 v17) fun v18 =>
 bnd (mxI (.i .i64 0) v18) fun v19 =>
 bnd (bi .add v11 v19) fun v20 =>
 bndO (ca0 Φ ob 272 false 40 [v9, v20]) ob fun v21 ob =>
 bnd (ext 0 v21) fun v22 =>
 bnd (ext 1 v21) fun v23 =>
 bndO (al ob 104 [.i .i64 0, .e true, .i .i64 0]) ob fun v24 ob =>
 bndO (st ob 3 v24 v22) ob fun _ ob =>
 bnd (lN ob 3 v24) fun v25 =>
 bndO (st ob 3 v2 v25) ob fun _ ob =>
 bnd (lN ob 3 v2) fun v26 =>
 fin ob os.length [0] [v26]
  )
def ann49 : Nat → Option Hd := fun _ => none
def lab49 : Nat → Option Hd := fun _ => none
noncomputable def m50 : Body := fun Φ N as os =>
  let a0 := gS (zipN 0 as) 0
  let a1 := gS (zipN 0 as) 1
  let ob := zipN 0 os
  bndO (bx ob 80 a0) ob fun v1 ob =>
  bndO (al ob 96 [.i .i64 0, .e true, .i .i64 0]) ob fun v2 ob =>
  bnd (lN ob 3 v1) fun v3 =>
  bndO (ca0 Φ ob 128 false 41 [v3]) ob fun v4 ob =>
  bnd (uO .not v4) fun v5 =>
  br v5 (
 bnd (lN ob 3 v1) fun v6 =>
 bndO (st ob 3 v2 v6) ob fun _ ob =>
 bnd (lN ob 3 v2) fun v7 =>
 fin ob os.length [0] [v7]
  ) (
 bnd (fA 1 v1) fun v8 =>
 bnd (l1 ob v8) fun v9 =>
 bnd (len v9) fun v10 =>
 bnd (fA 2 v1) fun v11 =>
 bnd (l1 ob v11) fun v12 =>
 bnd (bi .sub v10 v12) fun v13 =>
 bnd (bi .lss a1 (.i .i64 0)) fun v14 =>
 br v14 (
  bnd (bi .gtr (.i .i64 0) v13) fun v15 =>
  br v15 (
   bnd (fA 0 v1) fun v16 =>
   bnd (l1 ob v16) fun v17 =>
   bnd (fA 1 v1) fun v18 =>
   bnd (l1 ob v18) fun v19 =>
   bnd (fA 2 v1) fun v20 =>
   bnd (l1 ob v20) fun v21 =>
   bnd (bi .add v21 v13) fun v22 =>
   bndO (slc ob (.slice 1) v19 none (some v22) none) ob fun v23 ob =>
   bnd (fA 2 v1) fun v24 =>
   bnd (l1 ob v24) fun v25 =>
   bnd (bi .add v25 v13) fun v26 =>
   bnd (bld [.i .i64 0, .e true, .i .i64 0] [(0, 1, v17), (1, 1, v23), (2, 1, v26)]) fun v27 =>
   bndO (st ob 3 v2 v27) ob fun _ ob =>
   bnd (lN ob 3 v2) fun v28 =>
   fin ob os.length [0] [v28]
  ) (
   bnd (fA 0 v1) fun v29 =>
   bnd (l1 ob v29) fun v30 =>
   bnd (fA 1 v1) fun v31 =>
   bnd (l1 ob v31) fun v32 =>
   bnd (fA 2 v1) fun v33 =>
   bnd (l1 ob v33) fun v34 =>
   bnd (bi .add v34 (.i .i64 0)) fun v35 =>
   bndO (slc ob (.slice 1) v32 none (some v35) none) ob fun v36 ob =>
   bnd (fA 2 v1) fun v37 =>
   bnd (l1 ob v37) fun v38 =>
   bnd (bi .add v38 (.i .i64 0)) fun v39 =>
   bnd (bld [.i .i64 0, .e true, .i .i64 0] [(0, 1, v30), (1, 1, v36), (2, 1, v39)]) fun v40 =>
   bndO (st ob 3 v2 v40) ob fun _ ob =>
   bnd (lN ob 3 v2) fun v41 =>
   fin ob os.length [0] [v41]
  )
 ) (
  bnd (bi .gtr a1 v13) fun v42 =>
  br v42 (
   bnd (fA 0 v1) fun v43 =>
   bnd (l1 ob v43) fun v44 =>
   bnd (fA 1 v1) fun v45 =>
   bnd (l1 ob v45) fun v46 =>
   bnd (fA 2 v1) fun v47 =>
   bnd (l1 ob v47) fun v48 =>
   bnd (bi .add v48 v13) fun v49 =>
   bndO (slc ob (.slice 1) v46 none (some v49) none) ob fun v50 ob =>
   bnd (fA 2 v1) fun v51 =>
   bnd (l1 ob v51) fun v52 =>
   bnd (bi .add v52 v13) fun v53 =>
   bnd (bld [.i .i64 0, .e true, .i .i64 0] [(0, 1, v44), (1, 1, v50), (2, 1, v53)]) fun v54 =>
   bndO (st ob 3 v2 v54) ob fun _ ob =>
   bnd (lN ob 3 v2) fun v55 =>
   fin ob os.length [0] [v55]
  ) (
   bnd (fA 0 v1) fun v56 =>
   bnd (l1 ob v56) fun v57 =>
   bnd (fA 1 v1) fun v58 =>
   bnd (l1 ob v58) fun v59 =>
   bnd (fA 2 v1) fun v60 =>
   bnd (l1 ob v60) fun v61 =>
   bnd (bi .add v61 a1) fun v62 =>
   bndO (slc ob (.slice 1) v59 none (some v62) none) ob fun v63 ob =>
   bnd (fA 2 v1) fun v64 =>
   bnd (l1 ob v64) fun v65 =>
   bnd (bi .add v65 a1) fun v66 =>
   bnd (bld [.i .i64 0, .e true, .i .i64 0] [(0, 1, v57), (1, 1, v63), (2, 1, v66)]) fun v67 =>
   bndO (st ob 3 v2 v67) ob fun _ ob =>
   bnd (lN ob 3 v2) fun v68 =>
   fin ob os.length [0] [v68]
  )
 )
  )
def ann50 : Nat → Option Hd := fun _ => none
def lab50 : Nat → Option Hd := fun _ => none
noncomputable def m51b0 (Φ : Sem') (N : Nat) (os : List Obj') (g : SL → OB → Option R) (sl : SL) (ob : OB) : Option R :=
  bnd (len (gS sl 0)) fun v8 =>
  bnd (bi .lss (gS sl 7) v8) fun v9 =>
  br v9 (
 bnd (xS ob 9 (gS sl 0) (gS sl 7)) fun v10 =>
 bnd (lN ob 9 v10) fun v11 =>
 bndO (ca0 Φ ob 288 false 67 [v11]) ob fun v12 ob =>
 bnd (ext 0 v12) fun v13 =>
 bnd (ext 1 v12) fun v14 =>
 bnd (lN ob 32 (gS sl 6)) fun v15 =>
 bnd (xS ob 9 (gS sl 0) (gS sl 7)) fun v16 =>
 bnd (lN ob 9 v16) fun v17 =>
 bndO (ca0 Φ ob 360 false 68 [v15, v17]) ob fun v18 ob =>
 bnd (ext 0 v18) fun v19 =>
 bnd (ext 1 v18) fun v20 =>
 bndO (al ob 144 [.blob 32 (List.replicate 32 (.i .u8 0))]) ob fun v21 ob =>
 bndO (st ob 32 v21 v19) ob fun _ ob =>
 bnd (uO .not v20) fun v22 =>
 br v22 (
  bnd (bld [.blob 32 (List.replicate 32 (.i .u8 0))] []) fun v23 =>
  bndO (st ob 32 (gS sl 3) v23) ob fun _ ob =>
  bnd (lN ob 32 (gS sl 3)) fun v24 =>
  fin ob os.length [1, 0, 0] [(.e true), v24, (.b false)]
 ) (
  bnd (lN ob 32 v21) fun v25 =>
  bndO (st ob 32 (gS sl 6) v25) ob fun _ ob =>
  bndO (ap ob 432 1 (gS sl 5) v13) ob fun v26 ob =>
  bndO (slc ob (.arr 32) (gS sl 6) none none none) ob fun v27 ob =>
  bndO (ap ob 456 1 v26 v27) ob fun v28 ob =>
  bnd (bi .add (gS sl 7) (.i .i64 1)) fun v29 =>
  bnd (head [.row 5 111 1] [0, 3, 5, 6, 7] [88, 112] [(0, (gS sl 0)), (3, (gS sl 3)), (5, v28), (6, (gS sl 6)), (7, v29)] ob) fun x => g x.1 x.2
 )
  ) (
 bnd (lN ob 32 (gS sl 6)) fun v30 =>
 bndO (st ob 32 (gS sl 3) v30) ob fun _ ob =>
 bnd (lN ob 32 (gS sl 3)) fun v31 =>
 fin ob os.length [1, 0, 0] [(gS sl 5), v31, (.b true)]
  )
noncomputable def m51 : Body := fun Φ N as os =>
  let a0 := gS (zipN 0 as) 0
  let ob := zipN 0 os
  bndO (al ob 88 [.blob 32 (List.replicate 32 (.i .u8 0))]) ob fun v1 ob =>
  bnd (len a0) fun v2 =>
  bnd (bi .gtr v2 (.i .i64 264)) fun v3 =>
  br v3 (
 bnd (bld [.blob 32 (List.replicate 32 (.i .u8 0))] []) fun v4 =>
 bndO (st ob 32 v1 v4) ob fun _ ob =>
 bnd (lN ob 32 v1) fun v5 =>
 fin ob os.length [1, 0, 0] [(.e true), v5, (.b false)]
  ) (
 bndO (ca0 Φ ob 192 false 47 [(.e true)]) ob fun v6 ob =>
 bndO (al ob 112 [.blob 32 (List.replicate 32 (.i .u8 0))]) ob fun v7 ob =>
 bndO (st ob 32 v7 v6) ob fun _ ob =>
 bnd (head [.row 5 111 1] [0, 3, 5, 6, 7] [88, 112] [(0, a0), (3, v1), (5, (.e true)), (6, v7), (7, (.i .i64 0))] ob) fun x => loopC (m51b0 Φ N os) N x.1 x.2
  )
def ann51 : Nat → Option Hd
  | 6 => some ⟨[.row 5 111 1], [0, 3, 5, 6, 7], [88, 112], []⟩ | _ => none
def lab51 : Nat → Option Hd := fun _ => none
noncomputable def m52b0 (Φ : Sem') (N : Nat) (os : List Obj') (g : SL → OB → Option R) (sl : SL) (ob : OB) : Option R :=
  bnd (bi .lss (gS sl 20) (gS sl 19)) fun v9 =>
  br v9 (
 bnd (xS ob 9 (gS sl 18) (gS sl 20)) fun v10 =>
 bnd (lN ob 9 v10) fun v11 =>
 bndO (al ob 128 [.i .i64 0, .i .i64 0, .i .i64 0, .i .i64 0, .i .u64 0, .i .u64 0, .i .i64 0, .i .i64 0, .i .i64 0]) ob fun v12 ob =>
 bndO (st ob 9 v12 v11) ob fun _ ob =>
 bnd (lN ob 32 (gS sl 6)) fun v13 =>
 bnd (lN ob 9 v12) fun v14 =>
 bndO (ca0 Φ ob 280 false 62 [v13, v14]) ob fun v15 ob =>
 bnd (ext 0 v15) fun v16 =>
 bnd (ext 1 v15) fun v17 =>
 bndO (al ob 136 [.blob 32 (List.replicate 32 (.i .u8 0))]) ob fun v18 ob =>
 bndO (st ob 32 v18 v16) ob fun _ ob =>
 bnd (uO .not v17) fun v19 =>
 br v19 (
  bnd (bld [.blob 32 (List.replicate 32 (.i .u8 0))] []) fun v20 =>
  bndO (st ob 32 (gS sl 3) v20) ob fun _ ob =>
  bnd (lN ob 32 (gS sl 3)) fun v21 =>
  fin ob os.length [1, 0, 0] [(.e true), v21, (.b false)]
 ) (
  bnd (lN ob 9 v12) fun v22 =>
  bndO (ca0 Φ ob 344 false 61 [v22]) ob fun v23 ob =>
  bnd (ext 0 v23) fun v24 =>
  bnd (ext 1 v23) fun v25 =>
  bnd (lN ob 32 v18) fun v26 =>
  bndO (st ob 32 (gS sl 6) v26) ob fun _ ob =>
  bndO (slc ob (.arr 32) (gS sl 6) none none none) ob fun v27 ob =>
  bndO (bldS ob 400 1 [(gS sl 5), v24, v27]) ob fun v28 ob =>
  bndO (ca0 Φ ob 408 true 63 [v28]) ob fun v29 ob =>
  bnd (bi .add (gS sl 20) (.i .i64 1)) fun v30 =>
  bnd (head [.row 5 111 1] [3, 5, 6, 18, 19, 20] [88, 112] [(3, (gS sl 3)), (5, v29), (6, (gS sl 6)), (18, (gS sl 18)), (19, (gS sl 19)), (20, v30)] ob) fun x => g x.1 x.2
 )
  ) (
 bnd (lN ob 32 (gS sl 6)) fun v31 =>
 bndO (st ob 32 (gS sl 3) v31) ob fun _ ob =>
 bnd (lN ob 32 (gS sl 3)) fun v32 =>
 fin ob os.length [1, 0, 0] [(gS sl 5), v32, (.b true)]
  )
noncomputable def m52 : Body := fun Φ N as os =>
  let a0 := gS (zipN 0 as) 0
  let ob := zipN 0 os
  bndO (al ob 88 [.blob 32 (List.replicate 32 (.i .u8 0))]) ob fun v1 ob =>
  bnd (len a0) fun v2 =>
  bnd (bi .gtr v2 (.i .i64 264)) fun v3 =>
  br v3 (
 bnd (bld [.blob 32 (List.replicate 32 (.i .u8 0))] []) fun v4 =>
 bndO (st ob 32 v1 v4) ob fun _ ob =>
 bnd (lN ob 32 v1) fun v5 =>
 fin ob os.length [1, 0, 0] [(.e true), v5, (.b false)]
  ) (
 bndO (ca0 Φ ob 200 false 45 []) ob fun v6 ob =>
 bndO (al ob 112 [.blob 32 (List.replicate 32 (.i .u8 0))]) ob fun v7 ob =>
 bndO (st ob 32 v7 v6) ob fun _ ob =>
 bnd (len a0) fun v8 =>
 bnd (head [.row 5 111 1] [3, 5, 6, 18, 19, 20] [88, 112] [(3, v1), (5, (.e true)), (6, v7), (18, a0), (19, v8), (20, (.i .i64 0))] ob) fun x => loopC (m52b0 Φ N os) N x.1 x.2
  )
def ann52 : Nat → Option Hd
  | 6 => some ⟨[.row 5 111 1], [3, 5, 6, 18, 19, 20], [88, 112], []⟩ | _ => none
def lab52 : Nat → Option Hd := fun _ => none
noncomputable def m53 : Body := fun Φ N as os =>
  let a0 := gS (zipN 0 as) 0
  let a1 := gS (zipN 0 as) 1
  let ob := zipN 0 os
  bnd (b2s ob a0) fun v1 =>
  bnd (b2s ob a1) fun v2 =>
  bnd (bi .eql v1 v2) fun v3 =>
  fin ob os.length [0] [v3]
def ann53 : Nat → Option Hd := fun _ => none
def lab53 : Nat → Option Hd := fun _ => none
noncomputable def m54 : Body := fun Φ N as os =>
  let a0 := gS (zipN 0 as) 0
  let a1 := gS (zipN 0 as) 1
  let ob := zipN 0 os
  bndO (bx ob 80 a0) ob fun v1 ob =>
  bndO (bx ob 88 a1) ob fun v2 ob =>
  bnd (fA 0 v1) fun v3 =>
  bnd (l1 ob v3) fun v4 =>
  bnd (fA 0 v2) fun v5 =>
  bnd (l1 ob v5) fun v6 =>
  bnd (bi .eql v4 v6) fun v7 =>
  bnd (gd v7 true (fA 2 v1)) fun v8 =>
  bnd (gd v7 true (l1 ob v8)) fun v9 =>
  bnd (gd v7 true (fA 2 v2)) fun v10 =>
  bnd (gd v7 true (l1 ob v10)) fun v11 =>
  bnd (gd v7 true (bi .eql v9 v11)) fun v12 =>
  bnd (pk v7 v12 (.b false)) fun v13 =>
  bnd (gd v13 true (fA 1 v1)) fun v14 =>
  bnd (gd v13 true (l1 ob v14)) fun v15 =>
  bnd (gd v13 true (fA 1 v2)) fun v16 =>
  bnd (gd v13 true (l1 ob v16)) fun v17 =>
  bndO (gdO v13 true (ca0 Φ ob 240 false 53 [v15, v17])) ob fun v18 ob =>
  bnd (pk v13 v18 (.b false)) fun v19 =>
  fin ob os.length [0] [v19]
def ann54 : Nat → Option Hd := fun _ => none
def lab54 : Nat → Option Hd := fun _ => none
noncomputable def m55b0 (Φ : Sem') (N : Nat) (os : List Obj') (g : SL → OB → Option R) (sl : SL) (ob : OB) : Option R :=
  bnd (bi .lss (gS sl 13) (gS sl 12)) fun v5 =>
  br v5 (
 bnd (xS ob 9 (gS sl 0) (gS sl 13)) fun v6 =>
 bnd (lN ob 9 v6) fun v7 =>
 bnd (xS ob 9 (gS sl 1) (gS sl 13)) fun v8 =>
 bnd (lN ob 9 v8) fun v9 =>
 bnd (eSt true [.i, .i, .i, .i, .i, .i, .i, .i, .i] v7 v9) fun v10 =>
 br v10 (
  fin ob os.length [0] [(.b false)]
 ) (
  bnd (bi .add (gS sl 13) (.i .i64 1)) fun v11 =>
  bnd (head [] [0, 1, 12, 13] [] [(0, (gS sl 0)), (1, (gS sl 1)), (12, (gS sl 12)), (13, v11)] ob) fun x => g x.1 x.2
 )
  ) (
 fin ob os.length [0] [(.b true)]
  )
noncomputable def m55 : Body := fun Φ N as os =>
  let a0 := gS (zipN 0 as) 0
  let a1 := gS (zipN 0 as) 1
  let ob := zipN 0 os
  bnd (len a0) fun v1 =>
  bnd (len a1) fun v2 =>
  bnd (bi .neq v1 v2) fun v3 =>
  br v3 (
 fin ob os.length [0] [(.b false)]
  ) (
 bnd (len a0) fun v4 =>
 bnd (head [] [0, 1, 12, 13] [] [(0, a0), (1, a1), (12, v4), (13, (.i .i64 0))] ob) fun x => loopC (m55b0 Φ N os) N x.1 x.2
  )
def ann55 : Nat → Option Hd
  | 4 => some ⟨[], [0, 1, 12, 13], [], []⟩ | _ => none
def lab55 : Nat → Option Hd := fun _ => none
noncomputable def m56 : Body := fun Φ N as os =>
  let a0 := gS (zipN 0 as) 0
  let ob := zipN 0 os
  bndO (bx ob 72 a0) ob fun v1 ob =>
  finG ob os.length [(.fn 75 [] [v1])]
def ann56 : Nat → Option Hd := fun _ => none
def lab56 : Nat → Option Hd := fun _ => none
noncomputable def m57 : Body := fun Φ N as os =>
  let a0 := gS (zipN 0 as) 0
  let a1 := gS (zipN 0 as) 1
  let ob := zipN 0 os
  bnd (bi .geq a0 (.i .i64 0)) fun v1 =>
  bnd (gd v1 true (some a0)) fun v2 =>
  bnd (gd v1 true (some a1)) fun v3 =>
  bnd (gd v1 true (bi .leq v2 v3)) fun v4 =>
  bnd (pk v1 v4 (.b false)) fun v5 =>
  fin ob os.length [0] [v5]
def ann57 : Nat → Option Hd := fun _ => none
def lab57 : Nat → Option Hd := fun _ => none
noncomputable def m58 : Body := fun Φ N as os =>
  let a0 := gS (zipN 0 as) 0
  let ob := zipN 0 os
  bnd (eNs false ob a0) fun v1 =>
  br v1 (
 fin ob os.length [1] [(.e true)]
  ) (
 bndO (bldS ob 104 1 []) ob fun v2 ob =>
 bndO (ap ob 120 1 v2 a0) ob fun v3 ob =>
 fin ob os.length [1] [v3]
  )
def ann58 : Nat → Option Hd := fun _ => none
def lab58 : Nat → Option Hd := fun _ => none
noncomputable def m59 : Body := fun Φ N as os =>
  let a0 := gS (zipN 0 as) 0
  let ob := zipN 0 os
  bnd (eNs false ob a0) fun v1 =>
  br v1 (
 fin ob os.length [9] [(.e true)]
  ) (
 bndO (bldS ob 104 9 []) ob fun v2 ob =>
 bndO (ap ob 120 9 v2 a0) ob fun v3 ob =>
 fin ob os.length [9] [v3]
  )
def ann59 : Nat → Option Hd := fun _ => none
def lab59 : Nat → Option Hd := fun _ => none
noncomputable def m60 : Body := fun Φ N as os =>
  let a0 := gS (zipN 0 as) 0
  let ob := zipN 0 os
  bnd (nc a0) fun v1 =>
  bnd (fA 0 v1) fun v2 =>
  bnd (fA 0 v2) fun v3 =>
  bnd (fA 0 v3) fun v4 =>
  bnd (l1 ob v4) fun v5 =>
  bnd (bi .quo v5 (.i .i64 62)) fun v6 =>
  fin ob os.length [0] [v6]
def ann60 : Nat → Option Hd := fun _ => none
def lab60 : Nat → Option Hd := fun _ => none
noncomputable def m61b0 (Φ : Sem') (N : Nat) (os : List Obj') (g : SL → OB → Option R) (sl : SL) (ob : OB) : Option R :=
  bnd (bi .lss (gS sl 39) (gS sl 38)) fun v34 =>
  br v34 (
 bnd (xS ob 1 (gS sl 37) (gS sl 39)) fun v35 =>
 bnd (l1 ob v35) fun v36 =>
 bnd (xA 9 (gS sl 4) (gS sl 39)) fun v37 =>
 bnd (l1 ob v37) fun v38 =>
 bnd (bld [.i .u64 0, .i .i64 0] [(0, 1, v38), (1, 1, v36)]) fun v39 =>
 bndO (bldS ob 464 2 [v39]) ob fun v40 ob =>
 bndO (ap ob 472 2 (gS sl 5) v40) ob fun v41 ob =>
 bnd (bi .add (gS sl 39) (.i .i64 1)) fun v42 =>
 bnd (head [.row 5 111 2] [4, 5, 37, 38, 39] [96, 360] [(4, (gS sl 4)), (5, v41), (37, (gS sl 37)), (38, (gS sl 38)), (39, v42)] ob) fun x => g x.1 x.2
  ) (
 bndO (ca0 Φ ob 496 false 78 [(gS sl 5)]) ob fun v43 ob =>
 bnd (ext 0 v43) fun v44 =>
 bnd (ext 1 v43) fun v45 =>
 fin ob os.length [1, 0] [v44, v45]
  )
noncomputable def m61 : Body := fun Φ N as os =>
  let a0 := gS (zipN 0 as) 0
  let ob := zipN 0 os
  bndO (bx ob 72 a0) ob fun v1 ob =>
  bnd (lN ob 9 v1) fun v2 =>
  bndO (ca0 Φ ob 136 false 29 [v2]) ob fun v3 ob =>
  bnd (uO .not v3) fun v4 =>
  br v4 (
 fin ob os.length [1, 0] [(.e true), (.b false)]
  ) (
 bnd (fA 0 v1) fun v5 =>
 bnd (l1 ob v5) fun v6 =>
 bnd (cv .u64 v6) fun v7 =>
 bnd (fA 1 v1) fun v8 =>
 bnd (l1 ob v8) fun v9 =>
 bnd (cv .u64 v9) fun v10 =>
 bnd (fA 2 v1) fun v11 =>
 bnd (l1 ob v11) fun v12 =>
 bnd (cv .u64 v12) fun v13 =>
 bnd (fA 3 v1) fun v14 =>
 bnd (l1 ob v14) fun v15 =>
 bnd (cv .u64 v15) fun v16 =>
 bnd (fA 4 v1) fun v17 =>
 bnd (l1 ob v17) fun v18 =>
 bnd (fA 5 v1) fun v19 =>
 bnd (l1 ob v19) fun v20 =>
 bnd (fA 6 v1) fun v21 =>
 bnd (l1 ob v21) fun v22 =>
 bnd (cv .u64 v22) fun v23 =>
 bnd (fA 7 v1) fun v24 =>
 bnd (l1 ob v24) fun v25 =>
 bnd (cv .u64 v25) fun v26 =>
 bnd (fA 8 v1) fun v27 =>
 bnd (l1 ob v27) fun v28 =>
 bnd (cv .u64 v28) fun v29 =>
 bnd (bld [.blob 9 (List.replicate 9 (.i .u64 0))] [(0, 1, v7), (1, 1, v10), (2, 1, v13), (3, 1, v16), (4, 1, v18), (5, 1, v20), (6, 1, v23), (7, 1, v26), (8, 1, v29)]) fun v30 =>
 bndO (al ob 96 [.blob 9 (List.replicate 9 (.i .u64 0))]) ob fun v31 ob =>
 bndO (st ob 9 v31 v30) ob fun _ ob =>
 bndO (ca0 Φ ob 360 false 77 []) ob fun v32 ob =>
 bnd (len v32) fun v33 =>
 bnd (head [.row 5 111 2] [4, 5, 37, 38, 39] [96, 360] [(4, v31), (5, (.e true)), (37, v32), (38, v33), (39, (.i .i64 0))] ob) fun x => loopC (m61b0 Φ N os) N x.1 x.2
  )
def ann61 : Nat → Option Hd
  | 6 => some ⟨[.row 5 111 2], [4, 5, 37, 38, 39], [96, 360], []⟩ | _ => none
def lab61 : Nat → Option Hd := fun _ => none
noncomputable def m62 : Body := fun Φ N as os =>
  let a0 := gS (zipN 0 as) 0
  let a1 := gS (zipN 0 as) 1
  let ob := zipN 0 os
  bndO (bx ob 80 a0) ob fun v1 ob =>
  bndO (bx ob 88 a1) ob fun v2 ob =>
  bndO (al ob 96 [.blob 32 (List.replicate 32 (.i .u8 0))]) ob fun v3 ob =>
  bnd (lN ob 9 v2) fun v4 =>
  bndO (ca0 Φ ob 144 false 61 [v4]) ob fun v5 ob =>
  bnd (ext 0 v5) fun v6 =>
  bnd (ext 1 v5) fun v7 =>
  bnd (uO .not v7) fun v8 =>
  br v8 (
 bnd (bld [.blob 32 (List.replicate 32 (.i .u8 0))] []) fun v9 =>
 bndO (st ob 32 v3 v9) ob fun _ ob =>
 bnd (lN ob 32 v3) fun v10 =>
 fin ob os.length [0, 0] [v10, (.b false)]
  ) (
 bnd (lN ob 32 v1) fun v11 =>
 bndO (ca0 Φ ob 208 false 79 [v11, v6]) ob fun v12 ob =>
 bndO (ca0 Φ ob 216 false 71 [v12]) ob fun v13 ob =>
 bndO (st ob 32 v3 v13) ob fun _ ob =>
 bnd (lN ob 32 v3) fun v14 =>
 fin ob os.length [0, 0] [v14, (.b true)]
  )
def ann62 : Nat → Option Hd := fun _ => none
def lab62 : Nat → Option Hd := fun _ => none
noncomputable def m63b0 (Φ : Sem') (N : Nat) (os : List Obj') (g : SL → OB → Option R) (sl : SL) (ob : OB) : Option R :=
  bnd (bi .lss (gS sl 27) (gS sl 26)) fun v11 =>
  br v11 (
 bnd (xS ob 1 (gS sl 25) (gS sl 27)) fun v12 =>
 bnd (l1 ob v12) fun v13 =>
 bndO (ap ob 328 1 (gS sl 6) v13) ob fun v14 ob =>
 bnd (bi .add (gS sl 27) (.i .i64 1)) fun v15 =>
 bnd (head [.row 6 119 1] [6, 25, 26, 27] [] [(6, v14), (25, (gS sl 25)), (26, (gS sl 26)), (27, v15)] ob) fun x => g x.1 x.2
  ) (
 fin ob os.length [1] [(gS sl 6)]
  )
noncomputable def m63b1 (Φ : Sem') (N : Nat) (os : List Obj') (g : SL → OB → Option R) (sl : SL) (ob : OB) : Option R :=
  bnd (bi .lss (gS sl 11) (gS sl 10)) fun v2 =>
  br v2 (
 bnd (xS ob 1 (gS sl 9) (gS sl 11)) fun v3 =>
 bnd (l1 ob v3) fun v4 =>
 bnd (len v4) fun v5 =>
 bnd (bi .add (gS sl 3) v5) fun v6 =>
 bnd (bi .lss v6 (.i .i64 0)) fun v7 =>
 br v7 (
  none
 ) (
  bnd (bi .add (gS sl 11) (.i .i64 1)) fun v8 =>
  bnd (head [] [0, 3, 9, 10, 11] [] [(0, (gS sl 0)), (3, v6), (9, (gS sl 9)), (10, (gS sl 10)), (11, v8)] ob) fun x => g x.1 x.2
 )
  ) (
 bndO (ca Φ ob 256 true 80 [(.e true), (gS sl 3)]) ob fun v9 ob =>
 bnd (len (gS sl 0)) fun v10 =>
 bnd (head [.row 6 119 1] [6, 25, 26, 27] [] [(6, v9), (25, (gS sl 0)), (26, v10), (27, (.i .i64 0))] ob) fun x => loopC (m63b0 Φ N os) N x.1 x.2
  )
noncomputable def m63 : Body := fun Φ N as os =>
  let a0 := gS (zipN 0 as) 0
  let ob := zipN 0 os
  bnd (len a0) fun v1 =>
  bnd (head [] [0, 3, 9, 10, 11] [] [(0, a0), (3, (.i .i64 0)), (9, a0), (10, v1), (11, (.i .i64 0))] ob) fun x => loopC (m63b1 Φ N os) N x.1 x.2
def ann63 : Nat → Option Hd
  | 3 => some ⟨[], [0, 3, 9, 10, 11], [], []⟩ | 11 => some ⟨[.row 6 119 1], [6, 25, 26, 27], [], []⟩ | _ => none
def lab63 : Nat → Option Hd := fun _ => none
noncomputable def m64 : Body := fun Φ N as os =>
  let a0 := gS (zipN 0 as) 0
  let a1 := gS (zipN 0 as) 1
  let a2 := gS (zipN 0 as) 2
  let a3 := gS (zipN 0 as) 3
  let ob := zipN 0 os
  bndO (bx ob 96 a0) ob fun v1 ob =>
  bndO (al ob 128 [.i .i64 0, .e true, .i .i64 0]) ob fun v2 ob =>
  bnd (lN ob 3 v1) fun v3 =>
  bndO (ca0 Φ ob 168 false 27 [v3]) ob fun v4 ob =>
  bnd (uO .not v4) fun v5 =>
  br v5 (
 bnd (lN ob 3 v1) fun v6 =>
 bndO (ca0 Φ ob 192 false 74 [v6]) ob fun v7 ob =>
 bndO (st ob 3 v2 v7) ob fun _ ob =>
 bnd (lN ob 3 v2) fun v8 =>
 fin ob os.length [0, 0] [v8, (.i .i64 1)]
  ) (
 bnd (lN ob 3 v1) fun v9 =>
 bndO (ca0 Φ ob 208 false 74 [v9]) ob fun v10 ob =>
 bnd (bld [.i .i64 0, .e true, .i .i64 0] [(0, 3, v10)]) fun v11 =>
 bndO (bx ob 224 v11) ob fun v12 ob =>
 bndO (cav Φ ob 264 false a1 [v12, a2, a3]) ob fun v13 ob =>
 bnd (bi .neq v13 (.i .i64 0)) fun v14 =>
 br v14 (
  bnd (lN ob 3 v1) fun v15 =>
  bndO (ca0 Φ ob 296 false 74 [v15]) ob fun v16 ob =>
  bndO (st ob 3 v2 v16) ob fun _ ob =>
  bnd (lN ob 3 v2) fun v17 =>
  fin ob os.length [0, 0] [v17, v13]
 ) (
  bnd (nc v12) fun v18 =>
  bnd (fA 0 v18) fun v19 =>
  bnd (lN ob 3 v19) fun v20 =>
  bndO (st ob 3 v2 v20) ob fun _ ob =>
  bnd (lN ob 3 v2) fun v21 =>
  fin ob os.length [0, 0] [v21, (.i .i64 0)]
 )
  )
def ann64 : Nat → Option Hd := fun _ => none
def lab64 : Nat → Option Hd := fun _ => none
noncomputable def m65 : Body := fun Φ N as os =>
  let a0 := gS (zipN 0 as) 0
  let a1 := gS (zipN 0 as) 1
  let a2 := gS (zipN 0 as) 2
  let ob := zipN 0 os
  bnd (len a1) fun v1 =>
  bnd (nc a0) fun v2 =>
  bnd (fA 0 v2) fun v3 =>
  bnd (lN ob 3 v3) fun v4 =>
  bndO (ca0 Φ ob 168 false 81 [v4]) ob fun v5 ob =>
  bnd (bi .gtr v1 v5) fun v6 =>
  br v6 (
 fin ob os.length [0] [(.i .i64 12)]
  ) (
 bnd (nc a0) fun v7 =>
 bnd (fA 0 v7) fun v8 =>
 bnd (fA 1 v8) fun v9 =>
 bnd (l1 ob v9) fun v10 =>
 bndO (bldS ob 240 1 [v10, a1]) ob fun v11 ob =>
 bndO (ca0 Φ ob 248 true 63 [v11]) ob fun v12 ob =>
 bnd (nc a0) fun v13 =>
 bnd (fA 0 v13) fun v14 =>
 bnd (fA 1 v14) fun v15 =>
 bndO (st ob 1 v15 v12) ob fun _ ob =>
 fin ob os.length [0] [(.i .i64 0)]
  )
def ann65 : Nat → Option Hd := fun _ => none
def lab65 : Nat → Option Hd := fun _ => none
noncomputable def m66 : Body := fun Φ N as os =>
  let a0 := gS (zipN 0 as) 0
  let a1 := gS (zipN 0 as) 1
  let a2 := gS (zipN 0 as) 2
  let ob := zipN 0 os
  bnd (nc a0) fun v1 =>
  bnd (fA 0 v1) fun v2 =>
  bnd (fA 1 v2) fun v3 =>
  bnd (l1 ob v3) fun v4 =>
  bnd (len v4) fun v5 =>
  bnd (nc a0) fun v6 =>
  bnd (fA 0 v6) fun v7 =>
  bnd (fA 2 v7) fun v8 =>
  bndO (st ob 1 v8 v5) ob fun _ ob =>
  fin ob os.length [0] [(.i .i64 0)]
def ann66 : Nat → Option Hd := fun _ => none
def lab66 : Nat → Option Hd := fun _ => none
noncomputable def m67 : Body := fun Φ N as os =>
  let a0 := gS (zipN 0 as) 0
  let ob := zipN 0 os
  bndO (bx ob 72 a0) ob fun v1 ob =>
  bnd (lN ob 9 v1) fun v2 =>
  bndO (ca0 Φ ob 128 false 35 [v2]) ob fun v3 ob =>
  bnd (uO .not v3) fun v4 =>
  br v4 (
 fin ob os.length [1, 0] [(.e true), (.b false)]
  ) (
 bnd (fA 0 v1) fun v5 =>
 bnd (l1 ob v5) fun v6 =>
 bnd (cv .u64 v6) fun v7 =>
 bnd (bld [.i .u64 0, .i .i64 0] [(0, 1, v7), (1, 1, (.i .i64 1))]) fun v8 =>
 bnd (fA 1 v1) fun v9 =>
 bnd (l1 ob v9) fun v10 =>
 bnd (cv .u64 v10) fun v11 =>
 bnd (bld [.i .u64 0, .i .i64 0] [(0, 1, v11), (1, 1, (.i .i64 4))]) fun v12 =>
 bnd (fA 2 v1) fun v13 =>
 bnd (l1 ob v13) fun v14 =>
 bnd (cv .u64 v14) fun v15 =>
 bnd (bld [.i .u64 0, .i .i64 0] [(0, 1, v15), (1, 1, (.i .i64 4))]) fun v16 =>
 bnd (fA 3 v1) fun v17 =>
 bnd (l1 ob v17) fun v18 =>
 bnd (cv .u64 v18) fun v19 =>
 bnd (bld [.i .u64 0, .i .i64 0] [(0, 1, v19), (1, 1, (.i .i64 1))]) fun v20 =>
 bnd (fA 4 v1) fun v21 =>
 bnd (l1 ob v21) fun v22 =>
 bnd (bld [.i .u64 0, .i .i64 0] [(0, 1, v22), (1, 1, (.i .i64 8))]) fun v23 =>
 bnd (fA 5 v1) fun v24 =>
 bnd (l1 ob v24) fun v25 =>
 bnd (bld [.i .u64 0, .i .i64 0] [(0, 1, v25), (1, 1, (.i .i64 8))]) fun v26 =>
 bnd (fA 6 v1) fun v27 =>
 bnd (l1 ob v27) fun v28 =>
 bnd (cv .u64 v28) fun v29 =>
 bnd (bld [.i .u64 0, .i .i64 0] [(0, 1, v29), (1, 1, (.i .i64 1))]) fun v30 =>
 bnd (fA 7 v1) fun v31 =>
 bnd (l1 ob v31) fun v32 =>
 bnd (cv .u64 v32) fun v33 =>
 bnd (bld [.i .u64 0, .i .i64 0] [(0, 1, v33), (1, 1, (.i .i64 2))]) fun v34 =>
 bnd (fA 8 v1) fun v35 =>
 bnd (l1 ob v35) fun v36 =>
 bnd (cv .u64 v36) fun v37 =>
 bnd (bld [.i .u64 0, .i .i64 0] [(0, 1, v37), (1, 1, (.i .i64 1))]) fun v38 =>
 bndO (bldS ob 432 2 [v8, v12, v16, v20, v23, v26, v30, v34, v38]) ob fun v39 ob =>
 bndO (ca0 Φ ob 440 false 82 [v39]) ob fun v40 ob =>
 bnd (ext 0 v40) fun v41 =>
 bnd (ext 1 v40) fun v42 =>
 fin ob os.length [1, 0] [v41, v42]
  )
def ann67 : Nat → Option Hd := fun _ => none
def lab67 : Nat → Option Hd := fun _ => none
noncomputable def m68 : Body := fun Φ N as os =>
  let a0 := gS (zipN 0 as) 0
  let a1 := gS (zipN 0 as) 1
  let ob := zipN 0 os
  bndO (bx ob 80 a0) ob fun v1 ob =>
  bndO (bx ob 88 a1) ob fun v2 ob =>
  bndO (al ob 96 [.blob 32 (List.replicate 32 (.i .u8 0))]) ob fun v3 ob =>
  bnd (lN ob 9 v2) fun v4 =>
  bndO (ca0 Φ ob 152 false 67 [v4]) ob fun v5 ob =>
  bnd (ext 0 v5) fun v6 =>
  bnd (ext 1 v5) fun v7 =>
  bnd (uO .not v7) fun v8 =>
  br v8 (
 bnd (bld [.blob 32 (List.replicate 32 (.i .u8 0))] []) fun v9 =>
 bndO (st ob 32 v3 v9) ob fun _ ob =>
 bnd (lN ob 32 v3) fun v10 =>
 fin ob os.length [0, 0] [v10, (.b false)]
  ) (
 bndO (bldS ob 200 1 [(.i .u8 1)]) ob fun v11 ob =>
 bndO (slc ob (.arr 32) v1 none none none) ob fun v12 ob =>
 bndO (ap ob 216 1 v11 v12) ob fun v13 ob =>
 bndO (ap ob 240 1 v13 v6) ob fun v14 ob =>
 bndO (ca0 Φ ob 248 false 73 [v14]) ob fun v15 ob =>
 bndO (st ob 32 v3 v15) ob fun _ ob =>
 bnd (lN ob 32 v3) fun v16 =>
 fin ob os.length [0, 0] [v16, (.b true)]
  )
def ann68 : Nat → Option Hd := fun _ => none
def lab68 : Nat → Option Hd := fun _ => none
noncomputable def m69 : Body := fun Φ N as os =>
  let a0 := gS (zipN 0 as) 0
  let a1 := gS (zipN 0 as) 1
  let a2 := gS (zipN 0 as) 2
  let ob := zipN 0 os
  bnd (bi .lss a2 (.i .i64 0)) fun v1 =>
  bnd (gd v1 false (some a2)) fun v2 =>
  bnd (gd v1 false (some a0)) fun v3 =>
  bnd (gd v1 false (nc v3)) fun v4 =>
  bnd (gd v1 false (fA 0 v4)) fun v5 =>
  bnd (gd v1 false (fA 1 v5)) fun v6 =>
  bnd (gd v1 false (l1 ob v6)) fun v7 =>
  bnd (gd v1 false (len v7)) fun v8 =>
  bnd (gd v1 false (bi .gtr v2 v8)) fun v9 =>
  bnd (pk v1 (.b true) v9) fun v10 =>
  br v10 (
 fin ob os.length [0] [(.i .i64 1)]
  ) (
 bnd (nc a0) fun v11 =>
 bnd (fA 0 v11) fun v12 =>
 bnd (fA 1 v12) fun v13 =>
 bnd (l1 ob v13) fun v14 =>
 bndO (slc ob (.slice 1) v14 none (some a2) (some a2)) ob fun v15 ob =>
 bnd (nc a0) fun v16 =>
 bnd (fA 0 v16) fun v17 =>
 bnd (fA 1 v17) fun v18 =>
 bndO (st ob 1 v18 v15) ob fun _ ob =>
 bnd (nc a0) fun v19 =>
 bnd (fA 0 v19) fun v20 =>
 bnd (fA 2 v20) fun v21 =>
 bndO (st ob 1 v21 a2) ob fun _ ob =>
 fin ob os.length [0] [(.i .i64 0)]
  )
def ann69 : Nat → Option Hd := fun _ => none
def lab69 : Nat → Option Hd := fun _ => none
noncomputable def m70 : Body := fun Φ N as os =>
  let a0 := gS (zipN 0 as) 0
  let ob := zipN 0 os
  bndO (al ob 80 [.i .i64 0, .i .i64 0, .i .i64 0, .i .i64 0, .i .u64 0, .i .u64 0, .i .i64 0, .i .i64 0, .i .i64 0]) ob fun v1 ob =>
  bndO (bldS ob 152 1 [(.i .i64 1), (.i .i64 4), (.i .i64 4), (.i .i64 1), (.i .i64 8), (.i .i64 8), (.i .i64 1), (.i .i64 2), (.i .i64 1)]) ob fun v2 ob =>
  bndO (ca0 Φ ob 160 false 83 [a0, v2]) ob fun v3 ob =>
  bnd (ext 0 v3) fun v4 =>
  bnd (ext 1 v3) fun v5 =>
  bnd (uO .not v5) fun v6 =>
  br v6 (
 bnd (bld [.i .i64 0, .i .i64 0, .i .i64 0, .i .i64 0, .i .u64 0, .i .u64 0, .i .i64 0, .i .i64 0, .i .i64 0] []) fun v7 =>
 bndO (st ob 9 v1 v7) ob fun _ ob =>
 bnd (lN ob 9 v1) fun v8 =>
 fin ob os.length [0, 0] [v8, (.b false)]
  ) (
 bnd (xS ob 1 v4 (.i .i64 0)) fun v9 =>
 bnd (l1 ob v9) fun v10 =>
 bnd (cv .i64 v10) fun v11 =>
 bnd (xS ob 1 v4 (.i .i64 1)) fun v12 =>
 bnd (l1 ob v12) fun v13 =>
 bnd (cv .i64 v13) fun v14 =>
 bnd (xS ob 1 v4 (.i .i64 2)) fun v15 =>
 bnd (l1 ob v15) fun v16 =>
 bnd (cv .i64 v16) fun v17 =>
 bnd (xS ob 1 v4 (.i .i64 3)) fun v18 =>
 bnd (l1 ob v18) fun v19 =>
 bnd (cv .i64 v19) fun v20 =>
 bnd (xS ob 1 v4 (.i .i64 4)) fun v21 =>
 bnd (l1 ob v21) fun v22 =>
 bnd (xS ob 1 v4 (.i .i64 5)) fun v23 =>
 bnd (l1 ob v23) fun v24 =>
 bnd (xS ob 1 v4 (.i .i64 6)) fun v25 =>
 bnd (l1 ob v25) fun v26 =>
 bnd (cv .i64 v26) fun v27 =>
 bnd (xS ob 1 v4 (.i .i64 7)) fun v28 =>
 bnd (l1 ob v28) fun v29 =>
 bnd (cv .i64 v29) fun v30 =>
 bnd (xS ob 1 v4 (.i .i64 8)) fun v31 =>
 bnd (l1 ob v31) fun v32 =>
 bnd (cv .i64 v32) fun v33 =>
 bnd (bld [.i .i64 0, .i .i64 0, .i .i64 0, .i .i64 0, .i .u64 0, .i .u64 0, .i .i64 0, .i .i64 0, .i .i64 0] [(0, 1, v11), (1, 1, v14), (2, 1, v17), (3, 1, v20), (4, 1, v22), (5, 1, v24), (6, 1, v27), (7, 1, v30), (8, 1, v33)]) fun v34 =>
 bndO (al ob 112 [.i .i64 0, .i .i64 0, .i .i64 0, .i .i64 0, .i .u64 0, .i .u64 0, .i .i64 0, .i .i64 0, .i .i64 0]) ob fun v35 ob =>
 bndO (st ob 9 v35 v34) ob fun _ ob =>
 bnd (lN ob 9 v35) fun v36 =>
 bndO (ca0 Φ ob 504 false 67 [v36]) ob fun v37 ob =>
 bnd (ext 0 v37) fun v38 =>
 bnd (ext 1 v37) fun v39 =>
 bnd (uO .not v39) fun v40 =>
 bnd (gd v40 false (some v38)) fun v41 =>
 bnd (gd v40 false (b2s ob v41)) fun v42 =>
 bnd (gd v40 false (some a0)) fun v43 =>
 bnd (gd v40 false (b2s ob v43)) fun v44 =>
 bnd (gd v40 false (bi .neq v42 v44)) fun v45 =>
 bnd (pk v40 (.b true) v45) fun v46 =>
 br v46 (
  bnd (bld [.i .i64 0, .i .i64 0, .i .i64 0, .i .i64 0, .i .u64 0, .i .u64 0, .i .i64 0, .i .i64 0, .i .i64 0] []) fun v47 =>
  bndO (st ob 9 v1 v47) ob fun _ ob =>
  bnd (lN ob 9 v1) fun v48 =>
  fin ob os.length [0, 0] [v48, (.b false)]
 ) (
  bnd (lN ob 9 v35) fun v49 =>
  bndO (st ob 9 v1 v49) ob fun _ ob =>
  bnd (lN ob 9 v1) fun v50 =>
  fin ob os.length [0, 0] [v50, (.b true)]
 )
  )
def ann70 : Nat → Option Hd := fun _ => none
def lab70 : Nat → Option Hd := fun _ => none
noncomputable def m71 : Body := fun Φ N as os =>
  let a0 := gS (zipN 0 as) 0
  let ob := zipN 0 os
  bndO (al ob 80 [.blob 32 (List.replicate 32 (.i .u8 0))]) ob fun v1 ob =>
  bnd (len a0) fun v2 =>
  bnd (bi .gtr v2 (.i .i64 1048576)) fun v3 =>
  br v3 (
 bnd (bld [.blob 32 (List.replicate 32 (.i .u8 0))] []) fun v4 =>
 bndO (st ob 32 v1 v4) ob fun _ ob =>
 bnd (lN ob 32 v1) fun v5 =>
 fin ob os.length [0] [v5]
  ) (
 bndO (ca0 Φ ob 120 false 86 []) ob fun v6 ob =>
 bndO (ca0 Φ ob 136 false 85 [v6, a0]) ob fun v7 ob =>
 bndO (ca0 Φ ob 144 false 84 [v7]) ob fun v8 ob =>
 bndO (st ob 32 v1 v8) ob fun _ ob =>
 bnd (lN ob 32 v1) fun v9 =>
 fin ob os.length [0] [v9]
  )
def ann71 : Nat → Option Hd := fun _ => none
def lab71 : Nat → Option Hd := fun _ => none
noncomputable def m72 : Body := fun Φ N as os =>
  let ob := zipN 0 os
  bndO (bldS ob 72 1 [(.i .u8 0)]) ob fun v1 ob =>
  fin ob os.length [1] [v1]
def ann72 : Nat → Option Hd := fun _ => none
def lab72 : Nat → Option Hd := fun _ => none
noncomputable def m73 : Body := fun Φ N as os =>
  let a0 := gS (zipN 0 as) 0
  let ob := zipN 0 os
  bndO (al ob 80 [.blob 32 (List.replicate 32 (.i .u8 0))]) ob fun v1 ob =>
  bnd (len a0) fun v2 =>
  bnd (bi .gtr v2 (.i .i64 1048576)) fun v3 =>
  br v3 (
 bnd (bld [.blob 32 (List.replicate 32 (.i .u8 0))] []) fun v4 =>
 bndO (st ob 32 v1 v4) ob fun _ ob =>
 bnd (lN ob 32 v1) fun v5 =>
 fin ob os.length [0] [v5]
  ) (
 bndO (ca0 Φ ob 120 false 89 []) ob fun v6 ob =>
 bndO (ca0 Φ ob 136 false 88 [v6, a0]) ob fun v7 ob =>
 bndO (ca0 Φ ob 144 false 87 [v7]) ob fun v8 ob =>
 bndO (st ob 32 v1 v8) ob fun _ ob =>
 bnd (lN ob 32 v1) fun v9 =>
 fin ob os.length [0] [v9]
  )
def ann73 : Nat → Option Hd := fun _ => none
def lab73 : Nat → Option Hd := fun _ => none
noncomputable def m74 : Body := fun Φ N as os =>
  let a0 := gS (zipN 0 as) 0
  let ob := zipN 0 os
  bndO (bx ob 72 a0) ob fun v1 ob =>
  bndO (al ob 80 [.i .i64 0, .e true, .i .i64 0]) ob fun v2 ob =>
  bnd (fA 1 v1) fun v3 =>
  bnd (l1 ob v3) fun v4 =>
  bndO (ca0 Φ ob 104 false 58 [v4]) ob fun v5 ob =>
  bnd (fA 1 v1) fun v6 =>
  bndO (st ob 1 v6 v5) ob fun _ ob =>
  bnd (lN ob 3 v1) fun v7 =>
  bndO (st ob 3 v2 v7) ob fun _ ob =>
  bnd (lN ob 3 v2) fun v8 =>
  fin ob os.length [0] [v8]
def ann74 : Nat → Option Hd := fun _ => none
def lab74 : Nat → Option Hd := fun _ => none
noncomputable def m75b0 (Φ : Sem') (N : Nat) (os : List Obj') (g : SL → OB → Option R) (sl : SL) (ob : OB) : Option R :=
  bnd (l1 ob (gS sl 1)) fun v3 =>
  bnd (len v3) fun v4 =>
  bnd (bi .geq v4 (.i .i64 62)) fun v5 =>
  bnd (gd v5 true (some (gS sl 4))) fun v6 =>
  bnd (gd v5 true (bi .lss v6 (.i .i64 264))) fun v7 =>
  bnd (pk v5 v7 (.b false)) fun v8 =>
  brY v8 (fun sl ob =>
 bndO (al ob 104 [.i .i64 0, .i .i64 0, .i .i64 0, .i .i64 0, .i .u64 0, .i .u64 0, .i .i64 0, .i .i64 0, .i .i64 0, .blob 32 (List.replicate 32 (.i .u8 0)), .i .i64 0]) ob fun v9 ob =>
 bnd (l1 ob (gS sl 1)) fun v10 =>
 bndO (slc ob (.slice 1) v10 none (some (.i .i64 30)) none) ob fun v11 ob =>
 bndO (ca0 Φ ob 232 false 76 [v11]) ob fun v12 ob =>
 bnd (ext 0 v12) fun v13 =>
 bnd (ext 1 v12) fun v14 =>
 bndO (al ob 112 [.i .i64 0, .i .i64 0, .i .i64 0, .i .i64 0, .i .u64 0, .i .u64 0, .i .i64 0, .i .i64 0, .i .i64 0]) ob fun v15 ob =>
 bndO (st ob 9 v15 v13) ob fun _ ob =>
 bnd (uO .not v14) fun v16 =>
 brY v16 (fun sl ob =>
  bnd (fA 41 (gS sl 5)) fun v17 =>
  bndO (st ob 1 v17 (.i .i64 3)) ob fun _ ob =>
  bnd (lN ob 42 (gS sl 5)) fun v18 =>
  yK ob ((28, v18) :: (27, (gS sl 0)) :: (26, v17) :: sl) (some 29) (gS sl 0) [v18] fun sl ob =>
  some (.tup [.un, .l false []], [])
 ) (fun sl ob =>
  bnd (lN ob 9 (gS sl 6)) fun v19 =>
  bnd (fA 0 (gS sl 5)) fun v20 =>
  bndO (st ob 9 v20 v19) ob fun _ ob =>
  bnd (lN ob 32 (gS sl 3)) fun v21 =>
  bnd (lN ob 9 (gS sl 6)) fun v22 =>
  bndO (ca0 Φ ob 344 false 62 [v21, v22]) ob fun v23 ob =>
  bnd (ext 0 v23) fun v24 =>
  bnd (ext 1 v23) fun v25 =>
  bnd (fA 9 (gS sl 5)) fun v26 =>
  bndO (st ob 32 v26 v24) ob fun _ ob =>
  bnd (fA 9 (gS sl 5)) fun v27 =>
  bndO (slc ob (.arr 32) v27 none none none) ob fun v28 ob =>
  bnd (l1 ob (gS sl 1)) fun v29 =>
  bndO (slc ob (.slice 1) v29 (some (.i .i64 30)) (some (.i .i64 62)) none) ob fun v30 ob =>
  bndO (ca0 Φ ob 408 false 53 [v28, v30]) ob fun v31 ob =>
  bnd (uO .not v31) fun v32 =>
  brY v32 (fun sl ob =>
   bnd (fA 41 (gS sl 5)) fun v33 =>
   bndO (st ob 1 v33 (.i .i64 7)) ob fun _ ob =>
   bnd (lN ob 42 (gS sl 5)) fun v34 =>
   yK ob ((47, v34) :: (46, (gS sl 0)) :: (45, v33) :: sl) (some 48) (gS sl 0) [v34] fun sl ob =>
   some (.tup [.un, .l false []], [])
  ) (fun sl ob =>
   bnd (lN ob 42 (gS sl 5)) fun v35 =>
   yK ob ((50, v35) :: (49, (gS sl 0)) :: sl) (some 51) (gS sl 0) [v35] fun sl ob =>
   bnd (uO .not (gS sl 51)) fun v36 =>
   brY v36 (fun sl ob =>
    some (.tup [.un, .l false []], [])
   ) (fun sl ob =>
    bnd (fA 9 (gS sl 5)) fun v37 =>
    bnd (lN ob 32 v37) fun v38 =>
    bnd (l1 ob (gS sl 1)) fun v39 =>
    bndO (slc ob (.slice 1) v39 (some (.i .i64 62)) none none) ob fun v40 ob =>
    bnd (dis [(gS sl 1)] [(gS sl 3), v38]) fun _ =>
    bnd (dis [v39] [(gS sl 3), v38]) fun _ =>
    bndO (st ob 32 (gS sl 3) v38) ob fun _ ob =>
    bndO (st ob 1 (gS sl 1) v40) ob fun _ ob =>
    bnd (bi .add (gS sl 4) (.i .i64 1)) fun v41 =>
    bnd (head [] [0, 1, 3, 4, 1000000] [88, 0, 1, 2] [(0, (gS sl 0)), (1, (gS sl 1)), (3, (gS sl 3)), (4, v41), (1000000, (gS sl 1000000))] ob) fun x => g x.1 x.2
   ) ((52, v36) :: sl) ob
  ) ((44, v32) :: (43, v31) :: (42, v30) :: (41, v29) :: (40, v28) :: (39, v27) :: (38, v26) :: (37, v25) :: (36, v24) :: (32, v23) :: (35, v23) :: (34, v22) :: (33, v21) :: (31, v20) :: (30, v19) :: sl) ob
 ) ((25, v16) :: (24, v14) :: (7, v14) :: (6, v15) :: (23, v14) :: (22, v13) :: (18, v12) :: (21, v12) :: (20, v11) :: (19, v10) :: (5, v9) :: sl) ob
  ) (fun sl ob =>
 some (.tup [.un, .l false []], [])
  ) ((15, v8) :: (14, v7) :: (13, v6) :: (12, v5) :: (11, v5) :: (10, v4) :: (9, v3) :: sl) ob
noncomputable def m75 : Body := fun Φ N as os =>
  let a0 := gS (zipN 0 as) 0
  let a1 := gS (zipN 0 as) 1
  let ob := zipN 0 os
  if 2 ≤ os.length then yOut (
  bndO (ca0 Φ ob 128 false 45 []) ob fun v1 ob =>
  bndO (al ob 88 [.blob 32 (List.replicate 32 (.i .u8 0))]) ob fun v2 ob =>
  bndO (st ob 32 v2 v1) ob fun _ ob =>
  bnd (head [] [0, 1, 3, 4, 1000000] [88, 0, 1, 2] [(0, a0), (1, a1), (3, v2), (4, (.i .i64 0)), (1000000, .y 1 0 0)] ob) fun x => loopC (m75b0 Φ N os) N x.1 x.2)
  else none
def ann75 : Nat → Option Hd
  | 2 => some ⟨[], [0, 1, 3, 4, 1000000], [88, 0, 1, 2], []⟩ | _ => none
def lab75 : Nat → Option Hd := fun _ => none
noncomputable def m76 : Body := fun Φ N as os =>
  let a0 := gS (zipN 0 as) 0
  let ob := zipN 0 os
  bndO (al ob 80 [.i .i64 0, .i .i64 0, .i .i64 0, .i .i64 0, .i .u64 0, .i .u64 0, .i .i64 0, .i .i64 0, .i .i64 0]) ob fun v1 ob =>
  bndO (ca0 Φ ob 136 false 77 []) ob fun v2 ob =>
  bndO (ca0 Φ ob 144 false 90 [a0, v2]) ob fun v3 ob =>
  bnd (ext 0 v3) fun v4 =>
  bnd (ext 1 v3) fun v5 =>
  bnd (uO .not v5) fun v6 =>
  br v6 (
 bnd (bld [.i .i64 0, .i .i64 0, .i .i64 0, .i .i64 0, .i .u64 0, .i .u64 0, .i .i64 0, .i .i64 0, .i .i64 0] []) fun v7 =>
 bndO (st ob 9 v1 v7) ob fun _ ob =>
 bnd (lN ob 9 v1) fun v8 =>
 fin ob os.length [0, 0] [v8, (.b false)]
  ) (
 bnd (xS ob 1 v4 (.i .i64 0)) fun v9 =>
 bnd (l1 ob v9) fun v10 =>
 bnd (cv .i64 v10) fun v11 =>
 bnd (xS ob 1 v4 (.i .i64 1)) fun v12 =>
 bnd (l1 ob v12) fun v13 =>
 bnd (cv .i64 v13) fun v14 =>
 bnd (xS ob 1 v4 (.i .i64 2)) fun v15 =>
 bnd (l1 ob v15) fun v16 =>
 bnd (cv .i64 v16) fun v17 =>
 bnd (xS ob 1 v4 (.i .i64 3)) fun v18 =>
 bnd (l1 ob v18) fun v19 =>
 bnd (cv .i64 v19) fun v20 =>
 bnd (xS ob 1 v4 (.i .i64 4)) fun v21 =>
 bnd (l1 ob v21) fun v22 =>
 bnd (xS ob 1 v4 (.i .i64 5)) fun v23 =>
 bnd (l1 ob v23) fun v24 =>
 bnd (xS ob 1 v4 (.i .i64 6)) fun v25 =>
 bnd (l1 ob v25) fun v26 =>
 bnd (cv .i64 v26) fun v27 =>
 bnd (xS ob 1 v4 (.i .i64 7)) fun v28 =>
 bnd (l1 ob v28) fun v29 =>
 bnd (cv .i64 v29) fun v30 =>
 bnd (xS ob 1 v4 (.i .i64 8)) fun v31 =>
 bnd (l1 ob v31) fun v32 =>
 bnd (cv .i64 v32) fun v33 =>
 bnd (bld [.i .i64 0, .i .i64 0, .i .i64 0, .i .i64 0, .i .u64 0, .i .u64 0, .i .i64 0, .i .i64 0, .i .i64 0] [(0, 1, v11), (1, 1, v14), (2, 1, v17), (3, 1, v20), (4, 1, v22), (5, 1, v24), (6, 1, v27), (7, 1, v30), (8, 1, v33)]) fun v34 =>
 bndO (al ob 112 [.i .i64 0, .i .i64 0, .i .i64 0, .i .i64 0, .i .u64 0, .i .u64 0, .i .i64 0, .i .i64 0, .i .i64 0]) ob fun v35 ob =>
 bndO (st ob 9 v35 v34) ob fun _ ob =>
 bnd (lN ob 9 v35) fun v36 =>
 bndO (ca0 Φ ob 480 false 29 [v36]) ob fun v37 ob =>
 bnd (uO .not v37) fun v38 =>
 br v38 (
  bnd (bld [.i .i64 0, .i .i64 0, .i .i64 0, .i .i64 0, .i .u64 0, .i .u64 0, .i .i64 0, .i .i64 0, .i .i64 0] []) fun v39 =>
  bndO (st ob 9 v1 v39) ob fun _ ob =>
  bnd (lN ob 9 v1) fun v40 =>
  fin ob os.length [0, 0] [v40, (.b false)]
 ) (
  bnd (lN ob 9 v35) fun v41 =>
  bndO (st ob 9 v1 v41) ob fun _ ob =>
  bnd (lN ob 9 v1) fun v42 =>
  fin ob os.length [0, 0] [v42, (.b true)]
 )
  )
def ann76 : Nat → Option Hd := fun _ => none
def lab76 : Nat → Option Hd := fun _ => none
noncomputable def m77 : Body := fun Φ N as os =>
  let ob := zipN 0 os
  bndO (bldS ob 72 1 [(.i .i64 1), (.i .i64 4), (.i .i64 4), (.i .i64 1), (.i .i64 8), (.i .i64 8), (.i .i64 1), (.i .i64 2), (.i .i64 1)]) ob fun v1 ob =>
  fin ob os.length [1] [v1]
def ann77 : Nat → Option Hd := fun _ => none
def lab77 : Nat → Option Hd := fun _ => none
noncomputable def m78b0 (Φ : Sem') (N : Nat) (os : List Obj') (g : SL → OB → Option R) (sl : SL) (ob : OB) : Option R :=
  bnd (bi .lss (gS sl 14) (gS sl 13)) fun v4 =>
  br v4 (
 bnd (xS ob 2 (gS sl 12) (gS sl 14)) fun v5 =>
 bnd (lN ob 2 v5) fun v6 =>
 bndO (al ob 112 [.i .u64 0, .i .i64 0]) ob fun v7 ob =>
 bndO (st ob 2 v7 v6) ob fun _ ob =>
 bnd (fA 0 v7) fun v8 =>
 bnd (l1 ob v8) fun v9 =>
 bnd (fA 1 v7) fun v10 =>
 bnd (l1 ob v10) fun v11 =>
 bndO (ca0 Φ ob 248 false 91 [v9, v11]) ob fun v12 ob =>
 bnd (ext 0 v12) fun v13 =>
 bnd (ext 1 v12) fun v14 =>
 bnd (uO .not v14) fun v15 =>
 br v15 (
  fin ob os.length [1, 0] [(.e true), (.b false)]
 ) (
  bndO (ap ob 304 1 (gS sl 4) v13) ob fun v16 ob =>
  bnd (bi .add (gS sl 14) (.i .i64 1)) fun v17 =>
  bnd (head [.row 4 103 1] [4, 12, 13, 14] [] [(4, v16), (12, (gS sl 12)), (13, (gS sl 13)), (14, v17)] ob) fun x => g x.1 x.2
 )
  ) (
 fin ob os.length [1, 0] [(gS sl 4), (.b true)]
  )
noncomputable def m78 : Body := fun Φ N as os =>
  let a0 := gS (zipN 0 as) 0
  let ob := zipN 0 os
  bnd (len a0) fun v1 =>
  bnd (bi .gtr v1 (.i .i64 40)) fun v2 =>
  br v2 (
 fin ob os.length [1, 0] [(.e true), (.b false)]
  ) (
 bnd (len a0) fun v3 =>
 bnd (head [.row 4 103 1] [4, 12, 13, 14] [] [(4, (.e true)), (12, a0), (13, v3), (14, (.i .i64 0))] ob) fun x => loopC (m78b0 Φ N os) N x.1 x.2
  )
def ann78 : Nat → Option Hd
  | 5 => some ⟨[.row 4 103 1], [4, 12, 13, 14], [], []⟩ | _ => none
def lab78 : Nat → Option Hd := fun _ => none
noncomputable def m79 : Body := fun Φ N as os =>
  let a0 := gS (zipN 0 as) 0
  let a1 := gS (zipN 0 as) 1
  let ob := zipN 0 os
  bndO (bx ob 80 a0) ob fun v1 ob =>
  bndO (bldS ob 104 1 [(.i .u8 1)]) ob fun v2 ob =>
  bndO (slc ob (.arr 32) v1 none none none) ob fun v3 ob =>
  bndO (bldS ob 128 1 [v2, v3, a1]) ob fun v4 ob =>
  bndO (ca0 Φ ob 136 true 63 [v4]) ob fun v5 ob =>
  fin ob os.length [1] [v5]
def ann79 : Nat → Option Hd := fun _ => none
def lab79 : Nat → Option Hd := fun _ => none
noncomputable def m80 : Body := fun Φ N as os =>
  let a0 := gS (zipN 0 as) 0
  let a1 := gS (zipN 0 as) 1
  let ob := zipN 0 os
  bnd (bi .lss a1 (.i .i64 0)) fun v1 =>
  br v1 (
 none
  ) (
 bnd (cp ob a0) fun v2 =>
 bnd (len a0) fun v3 =>
 bnd (bi .sub v2 v3) fun v4 =>
 bnd (bi .sub a1 v4) fun v5 =>
 bnd (bi .gtr v5 (.i .i64 0)) fun v6 =>
 br v6 (
  bnd (cp ob a0) fun v7 =>
  bndO (slc ob (.slice 1) a0 none (some v7) none) ob fun v8 ob =>
  bndO (apz ob 240 [.i .u8 0] v8 v5) ob fun v9 ob =>
  bnd (len a0) fun v10 =>
  bndO (slc ob (.slice 1) v9 none (some v10) none) ob fun v11 ob =>
  fin ob os.length [1] [v11]
 ) (
  fin ob os.length [1] [a0]
 )
  )
def ann80 : Nat → Option Hd := fun _ => none
def lab80 : Nat → Option Hd := fun _ => none
noncomputable def m81 : Body := fun Φ N as os =>
  let a0 := gS (zipN 0 as) 0
  let ob := zipN 0 os
  bndO (bx ob 72 a0) ob fun v1 ob =>
  bnd (lN ob 3 v1) fun v2 =>
  bndO (ca0 Φ ob 96 false 27 [v2]) ob fun v3 ob =>
  bnd (uO .not v3) fun v4 =>
  br v4 (
 fin ob os.length [0] [(.i .i64 0)]
  ) (
 bnd (fA 0 v1) fun v5 =>
 bnd (l1 ob v5) fun v6 =>
 bnd (fA 1 v1) fun v7 =>
 bnd (l1 ob v7) fun v8 =>
 bnd (len v8) fun v9 =>
 bnd (bi .sub v6 v9) fun v10 =>
 fin ob os.length [0] [v10]
  )
def ann81 : Nat → Option Hd := fun _ => none
def lab81 : Nat → Option Hd := fun _ => none
noncomputable def m82b0 (Φ : Sem') (N : Nat) (os : List Obj') (g : SL → OB → Option R) (sl : SL) (ob : OB) : Option R :=
  bnd (len (gS sl 0)) fun v3 =>
  bnd (bi .lss (gS sl 5) v3) fun v4 =>
  br v4 (
 bnd (xS ob 2 (gS sl 0) (gS sl 5)) fun v5 =>
 bnd (fA 0 v5) fun v6 =>
 bnd (l1 ob v6) fun v7 =>
 bnd (xS ob 2 (gS sl 0) (gS sl 5)) fun v8 =>
 bnd (fA 1 v8) fun v9 =>
 bnd (l1 ob v9) fun v10 =>
 bndO (ca0 Φ ob 288 false 92 [v7, v10]) ob fun v11 ob =>
 bnd (ext 0 v11) fun v12 =>
 bnd (ext 1 v11) fun v13 =>
 bnd (uO .not v13) fun v14 =>
 br v14 (
  fin ob os.length [1, 0] [(.e true), (.b false)]
 ) (
  bndO (ap ob 344 1 (gS sl 4) v12) ob fun v15 ob =>
  bnd (bi .add (gS sl 5) (.i .i64 1)) fun v16 =>
  bnd (head [.row 4 103 1] [0, 4, 5] [] [(0, (gS sl 0)), (4, v15), (5, v16)] ob) fun x => g x.1 x.2
 )
  ) (
 fin ob os.length [1, 0] [(gS sl 4), (.b true)]
  )
noncomputable def m82 : Body := fun Φ N as os =>
  let a0 := gS (zipN 0 as) 0
  let ob := zipN 0 os
  bnd (len a0) fun v1 =>
  bnd (bi .gtr v1 (.i .i64 40)) fun v2 =>
  br v2 (
 fin ob os.length [1, 0] [(.e true), (.b false)]
  ) (
 bnd (head [.row 4 103 1] [0, 4, 5] [] [(0, a0), (4, (.e true)), (5, (.i .i64 0))] ob) fun x => loopC (m82b0 Φ N os) N x.1 x.2
  )
def ann82 : Nat → Option Hd
  | 5 => some ⟨[.row 4 103 1], [0, 4, 5], [], []⟩ | _ => none
def lab82 : Nat → Option Hd := fun _ => none
noncomputable def m83b0 (Φ : Sem') (N : Nat) (os : List Obj') (g : SL → OB → Option R) (sl : SL) (ob : OB) : Option R :=
  bnd (len (gS sl 1)) fun v21 =>
  bnd (bi .lss (gS sl 10) v21) fun v22 =>
  br v22 (
 bnd (xS ob 1 (gS sl 1) (gS sl 10)) fun v23 =>
 bnd (l1 ob v23) fun v24 =>
 bndO (ca0 Φ ob 528 false 93 [(gS sl 0), (gS sl 9), v24]) ob fun v25 ob =>
 bnd (ext 0 v25) fun v26 =>
 bnd (ext 1 v25) fun v27 =>
 bndO (bldS ob 568 1 [v26]) ob fun v28 ob =>
 bndO (ap ob 576 1 (gS sl 8) v28) ob fun v29 ob =>
 bnd (bi .add (gS sl 10) (.i .i64 1)) fun v30 =>
 bnd (head [.row 8 135 1] [0, 1, 8, 9, 10] [] [(0, (gS sl 0)), (1, (gS sl 1)), (8, v29), (9, v27), (10, v30)] ob) fun x => g x.1 x.2
  ) (
 fin ob os.length [1, 0] [(gS sl 8), (.b true)]
  )
noncomputable def m83b1 (Φ : Sem') (N : Nat) (os : List Obj') (g : SL → OB → Option R) (sl : SL) (ob : OB) : Option R :=
  bnd (len (gS sl 1)) fun v1 =>
  bnd (bi .lss (gS sl 7) v1) fun v2 =>
  br v2 (
 bnd (xS ob 1 (gS sl 1) (gS sl 7)) fun v3 =>
 bnd (l1 ob v3) fun v4 =>
 bnd (bi .lss v4 (.i .i64 1)) fun v5 =>
 bnd (gd v5 false (some (gS sl 1))) fun v6 =>
 bnd (gd v5 false (some (gS sl 7))) fun v7 =>
 bnd (gd v5 false (xS ob 1 v6 v7)) fun v8 =>
 bnd (gd v5 false (l1 ob v8)) fun v9 =>
 bnd (gd v5 false (bi .gtr v9 (.i .i64 8))) fun v10 =>
 bnd (pk v5 (.b true) v10) fun v11 =>
 bnd (gd v11 false (some (gS sl 7))) fun v12 =>
 bnd (gd v11 false (bi .geq v12 (.i .i64 40))) fun v13 =>
 bnd (pk v11 (.b true) v13) fun v14 =>
 br v14 (
  fin ob os.length [1, 0] [(.e true), (.b false)]
 ) (
  bnd (xS ob 1 (gS sl 1) (gS sl 7)) fun v15 =>
  bnd (l1 ob v15) fun v16 =>
  bnd (bi .add (gS sl 6) v16) fun v17 =>
  bnd (bi .add (gS sl 7) (.i .i64 1)) fun v18 =>
  bnd (head [] [0, 1, 6, 7] [] [(0, (gS sl 0)), (1, (gS sl 1)), (6, v17), (7, v18)] ob) fun x => g x.1 x.2
 )
  ) (
 bnd (len (gS sl 0)) fun v19 =>
 bnd (bi .neq (gS sl 6) v19) fun v20 =>
 br v20 (
  fin ob os.length [1, 0] [(.e true), (.b false)]
 ) (
  bnd (head [.row 8 135 1] [0, 1, 8, 9, 10] [] [(0, (gS sl 0)), (1, (gS sl 1)), (8, (.e true)), (9, (.i .i64 0)), (10, (.i .i64 0))] ob) fun x => loopC (m83b0 Φ N os) N x.1 x.2
 )
  )
noncomputable def m83 : Body := fun Φ N as os =>
  let a0 := gS (zipN 0 as) 0
  let a1 := gS (zipN 0 as) 1
  let ob := zipN 0 os
  bnd (head [] [0, 1, 6, 7] [] [(0, a0), (1, a1), (6, (.i .i64 0)), (7, (.i .i64 0))] ob) fun x => loopC (m83b1 Φ N os) N x.1 x.2
def ann83 : Nat → Option Hd
  | 3 => some ⟨[], [0, 1, 6, 7], [], []⟩ | 13 => some ⟨[.row 8 135 1], [0, 1, 8, 9, 10], [], []⟩ | _ => none
def lab83 : Nat → Option Hd := fun _ => none
noncomputable def m84b0 (Φ : Sem') (N : Nat) (os : List Obj') (g : SL → OB → Option R) (sl : SL) (ob : OB) : Option R :=
  bnd (bi .lss (gS sl 52) (.i .i64 8)) fun v38 =>
  br v38 (
 bnd (xV 8 1 false (gS sl 51) (gS sl 52)) fun v39 =>
 bnd (bi .mul (.i .i64 4) (gS sl 52)) fun v40 =>
 bnd (bi .mul (.i .i64 4) (gS sl 52)) fun v41 =>
 bnd (bi .add v41 (.i .i64 1)) fun v42 =>
 bnd (bi .mul (.i .i64 4) (gS sl 52)) fun v43 =>
 bnd (bi .add v43 (.i .i64 2)) fun v44 =>
 bnd (bi .mul (.i .i64 4) (gS sl 52)) fun v45 =>
 bnd (bi .add v45 (.i .i64 3)) fun v46 =>
 bnd (bi .shr v39 (.i .u64 24)) fun v47 =>
 bnd (cv .u8 v47) fun v48 =>
 bnd (bi .shr v39 (.i .u64 16)) fun v49 =>
 bnd (cv .u8 v49) fun v50 =>
 bnd (bi .shr v39 (.i .u64 8)) fun v51 =>
 bnd (cv .u8 v51) fun v52 =>
 bnd (cv .u8 v39) fun v53 =>
 bnd (xA 32 (gS sl 8) v40) fun v54 =>
 bndO (st ob 1 v54 v48) ob fun _ ob =>
 bnd (xA 32 (gS sl 8) v42) fun v55 =>
 bndO (st ob 1 v55 v50) ob fun _ ob =>
 bnd (xA 32 (gS sl 8) v44) fun v56 =>
 bndO (st ob 1 v56 v52) ob fun _ ob =>
 bnd (xA 32 (gS sl 8) v46) fun v57 =>
 bndO (st ob 1 v57 v53) ob fun _ ob =>
 bnd (bi .add (gS sl 52) (.i .i64 1)) fun v58 =>
 bnd (head [] [2, 8, 51, 52] [80, 128] [(2, (gS sl 2)), (8, (gS sl 8)), (51, (gS sl 51)), (52, v58)] ob) fun x => g x.1 x.2
  ) (
 bnd (lN ob 32 (gS sl 8)) fun v59 =>
 bndO (st ob 32 (gS sl 2) v59) ob fun _ ob =>
 bnd (lN ob 32 (gS sl 2)) fun v60 =>
 fin ob os.length [0] [v60]
  )
noncomputable def m84b1 (Φ : Sem') (N : Nat) (os : List Obj') (g : SL → OB → Option R) (sl : SL) (ob : OB) : Option R :=
  bnd (bi .lss (gS sl 31) (.i .i64 8)) fun v22 =>
  br v22 (
 bnd (bi .mul (.i .i64 8) (gS sl 31)) fun v23 =>
 bnd (bi .sub (.i .i64 56) v23) fun v24 =>
 bnd (bi .shr (gS sl 4) v24) fun v25 =>
 bnd (cv .u8 v25) fun v26 =>
 bndO (bldS ob 392 1 [v26]) ob fun v27 ob =>
 bndO (ap ob 400 1 (gS sl 3) v27) ob fun v28 ob =>
 bnd (bi .add (gS sl 31) (.i .i64 1)) fun v29 =>
 bnd (head [.row 3 95 1] [1, 2, 3, 4, 31] [72, 80] [(1, (gS sl 1)), (2, (gS sl 2)), (3, v28), (4, (gS sl 4)), (31, v29)] ob) fun x => g x.1 x.2
  ) (
 bnd (fA 0 (gS sl 1)) fun v30 =>
 bnd (lN ob 8 v30) fun v31 =>
 bndO (ca0 Φ ob 448 false 95 [v31, (gS sl 3)]) ob fun v32 ob =>
 bnd (ext 0 v32) fun v33 =>
 bnd (ext 1 v32) fun v34 =>
 bndO (al ob 112 [.blob 8 (List.replicate 8 (.i .u32 0))]) ob fun v35 ob =>
 bndO (st ob 8 v35 v33) ob fun _ ob =>
 bndO (al ob 128 [.blob 32 (List.replicate 32 (.i .u8 0))]) ob fun v36 ob =>
 bnd (lN ob 8 v35) fun v37 =>
 bnd (head [] [2, 8, 51, 52] [80, 128] [(2, (gS sl 2)), (8, v36), (51, v37), (52, (.i .i64 0))] ob) fun x => loopC (m84b0 Φ N os) N x.1 x.2
  )
noncomputable def m84b2 (Φ : Sem') (N : Nat) (os : List Obj') (g : SL → OB → Option R) (sl : SL) (ob : OB) : Option R :=
  bnd (len (gS sl 3)) fun v13 =>
  bnd (bi .rem v13 (.i .i64 64)) fun v14 =>
  bnd (bi .neq v14 (.i .i64 56)) fun v15 =>
  br v15 (
 bndO (bldS ob 264 1 [(.i .u8 0)]) ob fun v16 ob =>
 bndO (ap ob 272 1 (gS sl 3) v16) ob fun v17 ob =>
 bnd (head [.row 3 95 1] [1, 2, 3] [72, 80] [(1, (gS sl 1)), (2, (gS sl 2)), (3, v17)] ob) fun x => g x.1 x.2
  ) (
 bnd (fA 9 (gS sl 1)) fun v18 =>
 bnd (l1 ob v18) fun v19 =>
 bnd (cv .u64 v19) fun v20 =>
 bnd (bi .mul v20 (.i .u64 8)) fun v21 =>
 bnd (head [.row 3 95 1] [1, 2, 3, 4, 31] [72, 80] [(1, (gS sl 1)), (2, (gS sl 2)), (3, (gS sl 3)), (4, v21), (31, (.i .i64 0))] ob) fun x => loopC (m84b1 Φ N os) N x.1 x.2
  )
noncomputable def m84 : Body := fun Φ N as os =>
  let a0 := gS (zipN 0 as) 0
  let ob := zipN 0 os
  bndO (bx ob 72 a0) ob fun v1 ob =>
  bndO (al ob 80 [.blob 32 (List.replicate 32 (.i .u8 0))]) ob fun v2 ob =>
  bnd (lN ob 10 v1) fun v3 =>
  bndO (ca0 Φ ob 160 false 94 [v3]) ob fun v4 ob =>
  bnd (uO .not v4) fun v5 =>
  br v5 (
 bnd (bld [.blob 32 (List.replicate 32 (.i .u8 0))] []) fun v6 =>
 bndO (st ob 32 v2 v6) ob fun _ ob =>
 bnd (lN ob 32 v2) fun v7 =>
 fin ob os.length [0] [v7]
  ) (
 bnd (fA 8 v1) fun v8 =>
 bnd (l1 ob v8) fun v9 =>
 bndO (ca0 Φ ob 200 false 58 [v9]) ob fun v10 ob =>
 bndO (bldS ob 208 1 [(.i .u8 128)]) ob fun v11 ob =>
 bndO (ap ob 216 1 v10 v11) ob fun v12 ob =>
 bnd (head [.row 3 95 1] [1, 2, 3] [72, 80] [(1, v1), (2, v2), (3, v12)] ob) fun x => loopC (m84b2 Φ N os) N x.1 x.2
  )
def ann84 : Nat → Option Hd
  | 4 => some ⟨[.row 3 95 1], [1, 2, 3], [72, 80], []⟩ | 8 => some ⟨[.row 3 95 1], [1, 2, 3, 4, 31], [72, 80], []⟩ | 15 => some ⟨[], [2, 8, 51, 52], [80, 128], []⟩ | _ => none
def lab84 : Nat → Option Hd := fun _ => none
noncomputable def m85 : Body := fun Φ N as os =>
  let a0 := gS (zipN 0 as) 0
  let a1 := gS (zipN 0 as) 1
  let ob := zipN 0 os
  bndO (bx ob 80 a0) ob fun v1 ob =>
  bndO (al ob 96 [.blob 8 (List.replicate 8 (.i .u32 0)), .e true, .i .i64 0]) ob fun v2 ob =>
  bnd (lN ob 10 v1) fun v3 =>
  bndO (ca0 Φ ob 128 false 94 [v3]) ob fun v4 ob =>
  bnd (uO .not v4) fun v5 =>
  bnd (gd v5 false (some a1)) fun v6 =>
  bnd (gd v5 false (len v6)) fun v7 =>
  bnd (gd v5 false (fA 9 v1)) fun v8 =>
  bnd (gd v5 false (l1 ob v8)) fun v9 =>
  bnd (gd v5 false (bi .sub (.i .i64 1048576) v9)) fun v10 =>
  bnd (gd v5 false (bi .gtr v7 v10)) fun v11 =>
  bnd (pk v5 (.b true) v11) fun v12 =>
  br v12 (
 bnd (bld [.blob 8 (List.replicate 8 (.i .u32 0)), .e true, .i .i64 0] []) fun v13 =>
 bndO (st ob 10 v2 v13) ob fun _ ob =>
 bnd (lN ob 10 v2) fun v14 =>
 fin ob os.length [0] [v14]
  ) (
 bnd (fA 0 v1) fun v15 =>
 bnd (lN ob 8 v15) fun v16 =>
 bnd (fA 8 v1) fun v17 =>
 bnd (l1 ob v17) fun v18 =>
 bndO (bldS ob 264 1 [v18, a1]) ob fun v19 ob =>
 bndO (ca0 Φ ob 272 true 63 [v19]) ob fun v20 ob =>
 bndO (ca0 Φ ob 280 false 95 [v16, v20]) ob fun v21 ob =>
 bnd (ext 0 v21) fun v22 =>
 bnd (ext 1 v21) fun v23 =>
 bndO (al ob 104 [.blob 8 (List.replicate 8 (.i .u32 0))]) ob fun v24 ob =>
 bndO (st ob 8 v24 v22) ob fun _ ob =>
 bnd (lN ob 8 v24) fun v25 =>
 bndO (ca0 Φ ob 320 false 58 [v23]) ob fun v26 ob =>
 bnd (fA 9 v1) fun v27 =>
 bnd (l1 ob v27) fun v28 =>
 bnd (len a1) fun v29 =>
 bnd (bi .add v28 v29) fun v30 =>
 bnd (bld [.blob 8 (List.replicate 8 (.i .u32 0)), .e true, .i .i64 0] [(0, 8, v25), (8, 1, v26), (9, 1, v30)]) fun v31 =>
 bndO (st ob 10 v2 v31) ob fun _ ob =>
 bnd (lN ob 10 v2) fun v32 =>
 fin ob os.length [0] [v32]
  )
def ann85 : Nat → Option Hd := fun _ => none
def lab85 : Nat → Option Hd := fun _ => none
noncomputable def m86 : Body := fun Φ N as os =>
  let ob := zipN 0 os
  bndO (al ob 64 [.blob 8 (List.replicate 8 (.i .u32 0)), .e true, .i .i64 0]) ob fun v1 ob =>
  bnd (lN ob 8 (.q true gFirst none)) fun v2 =>
  bnd (bld [.blob 8 (List.replicate 8 (.i .u32 0)), .e true, .i .i64 0] [(0, 8, v2)]) fun v3 =>
  bndO (st ob 10 v1 v3) ob fun _ ob =>
  bnd (lN ob 10 v1) fun v4 =>
  fin ob os.length [0] [v4]
def ann86 : Nat → Option Hd := fun _ => none
def lab86 : Nat → Option Hd := fun _ => none
noncomputable def m87b0 (Φ : Sem') (N : Nat) (os : List Obj') (g : SL → OB → Option R) (sl : SL) (ob : OB) : Option R :=
  bnd (bi .lss (gS sl 8) (.i .i64 8)) fun v43 =>
  br v43 (
 bnd (bi .mul (.i .i64 4) (gS sl 8)) fun v44 =>
 bnd (xA 8 (gS sl 6) (gS sl 8)) fun v45 =>
 bnd (l1 ob v45) fun v46 =>
 bnd (bi .quo v46 (.i .u32 16777216)) fun v47 =>
 bnd (cv .u8 v47) fun v48 =>
 bnd (xA 32 (gS sl 7) v44) fun v49 =>
 bndO (st ob 1 v49 v48) ob fun _ ob =>
 bnd (bi .mul (.i .i64 4) (gS sl 8)) fun v50 =>
 bnd (bi .add v50 (.i .i64 1)) fun v51 =>
 bnd (xA 8 (gS sl 6) (gS sl 8)) fun v52 =>
 bnd (l1 ob v52) fun v53 =>
 bnd (bi .quo v53 (.i .u32 65536)) fun v54 =>
 bnd (bi .rem v54 (.i .u32 256)) fun v55 =>
 bnd (cv .u8 v55) fun v56 =>
 bnd (xA 32 (gS sl 7) v51) fun v57 =>
 bndO (st ob 1 v57 v56) ob fun _ ob =>
 bnd (bi .mul (.i .i64 4) (gS sl 8)) fun v58 =>
 bnd (bi .add v58 (.i .i64 2)) fun v59 =>
 bnd (xA 8 (gS sl 6) (gS sl 8)) fun v60 =>
 bnd (l1 ob v60) fun v61 =>
 bnd (bi .quo v61 (.i .u32 256)) fun v62 =>
 bnd (bi .rem v62 (.i .u32 256)) fun v63 =>
 bnd (cv .u8 v63) fun v64 =>
 bnd (xA 32 (gS sl 7) v59) fun v65 =>
 bndO (st ob 1 v65 v64) ob fun _ ob =>
 bnd (bi .mul (.i .i64 4) (gS sl 8)) fun v66 =>
 bnd (bi .add v66 (.i .i64 3)) fun v67 =>
 bnd (xA 8 (gS sl 6) (gS sl 8)) fun v68 =>
 bnd (l1 ob v68) fun v69 =>
 bnd (bi .rem v69 (.i .u32 256)) fun v70 =>
 bnd (cv .u8 v70) fun v71 =>
 bnd (xA 32 (gS sl 7) v67) fun v72 =>
 bndO (st ob 1 v72 v71) ob fun _ ob =>
 bnd (bi .add (gS sl 8) (.i .i64 1)) fun v73 =>
 bnd (head [] [2, 6, 7, 8] [80, 112, 120] [(2, (gS sl 2)), (6, (gS sl 6)), (7, (gS sl 7)), (8, v73)] ob) fun x => g x.1 x.2
  ) (
 bnd (lN ob 32 (gS sl 7)) fun v74 =>
 bndO (st ob 32 (gS sl 2) v74) ob fun _ ob =>
 bnd (lN ob 32 (gS sl 2)) fun v75 =>
 fin ob os.length [0] [v75]
  )
noncomputable def m87b1 (Φ : Sem') (N : Nat) (os : List Obj') (g : SL → OB → Option R) (sl : SL) (ob : OB) : Option R :=
  bnd (len (gS sl 4)) fun v36 =>
  bnd (bi .gtr v36 (.i .i64 0)) fun v37 =>
  br v37 (
 bnd (lN ob 8 (gS sl 6)) fun v38 =>
 bndO (slc ob (.slice 1) (gS sl 4) none (some (.i .i64 64)) none) ob fun v39 ob =>
 bndO (ca0 Φ ob 504 false 97 [v38, v39]) ob fun v40 ob =>
 bndO (st ob 8 (gS sl 6) v40) ob fun _ ob =>
 bndO (slc ob (.slice 1) (gS sl 4) (some (.i .i64 64)) none none) ob fun v41 ob =>
 bnd (head [] [2, 4, 6] [80, 112, 103] [(2, (gS sl 2)), (4, v41), (6, (gS sl 6))] ob) fun x => g x.1 x.2
  ) (
 bndO (al ob 120 [.blob 32 (List.replicate 32 (.i .u8 0))]) ob fun v42 ob =>
 bnd (head [] [2, 6, 7, 8] [80, 112, 120] [(2, (gS sl 2)), (6, (gS sl 6)), (7, v42), (8, (.i .i64 0))] ob) fun x => loopC (m87b0 Φ N os) N x.1 x.2
  )
noncomputable def m87b2 (Φ : Sem') (N : Nat) (os : List Obj') (g : SL → OB → Option R) (sl : SL) (ob : OB) : Option R :=
  bnd (len (gS sl 4)) fun v13 =>
  bnd (bi .rem v13 (.i .i64 64)) fun v14 =>
  bnd (bi .neq v14 (.i .i64 56)) fun v15 =>
  br v15 (
 bndO (bldS ob 264 1 [(.i .u8 0)]) ob fun v16 ob =>
 bndO (ap ob 272 1 (gS sl 4) v16) ob fun v17 ob =>
 bnd (head [.row 4 103 1] [1, 2, 4] [72, 80] [(1, (gS sl 1)), (2, (gS sl 2)), (4, v17)] ob) fun x => g x.1 x.2
  ) (
 bnd (fA 9 (gS sl 1)) fun v18 =>
 bnd (l1 ob v18) fun v19 =>
 bnd (bi .mul (.i .i64 8) v19) fun v20 =>
 bnd (bi .quo v20 (.i .i64 16777216)) fun v21 =>
 bnd (cv .u8 v21) fun v22 =>
 bnd (bi .quo v20 (.i .i64 65536)) fun v23 =>
 bnd (bi .rem v23 (.i .i64 256)) fun v24 =>
 bnd (cv .u8 v24) fun v25 =>
 bnd (bi .quo v20 (.i .i64 256)) fun v26 =>
 bnd (bi .rem v26 (.i .i64 256)) fun v27 =>
 bnd (cv .u8 v27) fun v28 =>
 bnd (bi .rem v20 (.i .i64 256)) fun v29 =>
 bnd (cv .u8 v29) fun v30 =>
 bndO (bldS ob 424 1 [(.i .u8 0), (.i .u8 0), (.i .u8 0), (.i .u8 0), v22, v25, v28, v30]) ob fun v31 ob =>
 bndO (ap ob 432 1 (gS sl 4) v31) ob fun v32 ob =>
 bnd (fA 0 (gS sl 1)) fun v33 =>
 bnd (lN ob 8 v33) fun v34 =>
 bndO (al ob 112 [.blob 8 (List.replicate 8 (.i .u32 0))]) ob fun v35 ob =>
 bndO (st ob 8 v35 v34) ob fun _ ob =>
 bnd (head [] [2, 4, 6] [80, 112, 103] [(2, (gS sl 2)), (4, v32), (6, v35)] ob) fun x => loopC (m87b1 Φ N os) N x.1 x.2
  )
noncomputable def m87 : Body := fun Φ N as os =>
  let a0 := gS (zipN 0 as) 0
  let ob := zipN 0 os
  bndO (bx ob 72 a0) ob fun v1 ob =>
  bndO (al ob 80 [.blob 32 (List.replicate 32 (.i .u8 0))]) ob fun v2 ob =>
  bnd (lN ob 10 v1) fun v3 =>
  bndO (ca0 Φ ob 144 false 96 [v3]) ob fun v4 ob =>
  bnd (uO .not v4) fun v5 =>
  br v5 (
 bnd (bld [.blob 32 (List.replicate 32 (.i .u8 0))] []) fun v6 =>
 bndO (st ob 32 v2 v6) ob fun _ ob =>
 bnd (lN ob 32 v2) fun v7 =>
 fin ob os.length [0] [v7]
  ) (
 bnd (fA 8 v1) fun v8 =>
 bnd (l1 ob v8) fun v9 =>
 bndO (ap ob 192 1 (.e true) v9) ob fun v10 ob =>
 bndO (bldS ob 208 1 [(.i .u8 128)]) ob fun v11 ob =>
 bndO (ap ob 216 1 v10 v11) ob fun v12 ob =>
 bnd (head [.row 4 103 1] [1, 2, 4] [72, 80] [(1, v1), (2, v2), (4, v12)] ob) fun x => loopC (m87b2 Φ N os) N x.1 x.2
  )
def ann87 : Nat → Option Hd
  | 6 => some ⟨[.row 4 103 1], [1, 2, 4], [72, 80], []⟩ | 11 => some ⟨[], [2, 4, 6], [80, 112, 103], []⟩ | 16 => some ⟨[], [2, 6, 7, 8], [80, 112, 120], []⟩ | _ => none
def lab87 : Nat → Option Hd := fun _ => none
noncomputable def m88b0 (Φ : Sem') (N : Nat) (os : List Obj') (g : SL → OB → Option R) (sl : SL) (ob : OB) : Option R :=
  bnd (len (gS sl 6)) fun v27 =>
  bnd (bi .geq v27 (.i .i64 64)) fun v28 =>
  br v28 (
 bnd (fA 0 (gS sl 7)) fun v29 =>
 bnd (lN ob 8 v29) fun v30 =>
 bndO (slc ob (.slice 1) (gS sl 6) none (some (.i .i64 64)) none) ob fun v31 ob =>
 bndO (ca0 Φ ob 400 false 97 [v30, v31]) ob fun v32 ob =>
 bnd (fA 0 (gS sl 7)) fun v33 =>
 bndO (st ob 8 v33 v32) ob fun _ ob =>
 bndO (slc ob (.slice 1) (gS sl 6) (some (.i .i64 64)) none none) ob fun v34 ob =>
 bnd (head [] [4, 6, 7] [96, 120, 248] [(4, (gS sl 4)), (6, v34), (7, (gS sl 7))] ob) fun x => g x.1 x.2
  ) (
 bnd (fA 8 (gS sl 7)) fun v35 =>
 bndO (st ob 1 v35 (gS sl 6)) ob fun _ ob =>
 bnd (lN ob 10 (gS sl 7)) fun v36 =>
 bndO (st ob 10 (gS sl 4) v36) ob fun _ ob =>
 bnd (lN ob 10 (gS sl 4)) fun v37 =>
 fin ob os.length [0] [v37]
  )
noncomputable def m88 : Body := fun Φ N as os =>
  let a0 := gS (zipN 0 as) 0
  let a1 := gS (zipN 0 as) 1
  let ob := zipN 0 os
  bndO (bx ob 80 a0) ob fun v1 ob =>
  bndO (al ob 96 [.blob 8 (List.replicate 8 (.i .u32 0)), .e true, .i .i64 0]) ob fun v2 ob =>
  bnd (lN ob 10 v1) fun v3 =>
  bndO (ca0 Φ ob 136 false 96 [v3]) ob fun v4 ob =>
  bnd (uO .not v4) fun v5 =>
  bnd (gd v5 false (some a1)) fun v6 =>
  bnd (gd v5 false (len v6)) fun v7 =>
  bnd (gd v5 false (fA 9 v1)) fun v8 =>
  bnd (gd v5 false (l1 ob v8)) fun v9 =>
  bnd (gd v5 false (bi .sub (.i .i64 1048576) v9)) fun v10 =>
  bnd (gd v5 false (bi .gtr v7 v10)) fun v11 =>
  bnd (pk v5 (.b true) v11) fun v12 =>
  br v12 (
 bnd (bld [.blob 8 (List.replicate 8 (.i .u32 0)), .e true, .i .i64 0] []) fun v13 =>
 bndO (st ob 10 v2 v13) ob fun _ ob =>
 bnd (lN ob 10 v2) fun v14 =>
 fin ob os.length [0] [v14]
  ) (
 bnd (fA 8 v1) fun v15 =>
 bnd (l1 ob v15) fun v16 =>
 bndO (ap ob 248 1 (.e true) v16) ob fun v17 ob =>
 bndO (ap ob 272 1 v17 a1) ob fun v18 ob =>
 bnd (fA 0 v1) fun v19 =>
 bnd (lN ob 8 v19) fun v20 =>
 bnd (fA 9 v1) fun v21 =>
 bnd (l1 ob v21) fun v22 =>
 bnd (len a1) fun v23 =>
 bnd (bi .add v22 v23) fun v24 =>
 bnd (bld [.blob 8 (List.replicate 8 (.i .u32 0)), .e true, .i .i64 0] [(0, 8, v20), (9, 1, v24)]) fun v25 =>
 bndO (al ob 120 [.blob 8 (List.replicate 8 (.i .u32 0)), .e true, .i .i64 0]) ob fun v26 ob =>
 bndO (st ob 10 v26 v25) ob fun _ ob =>
 bnd (head [] [4, 6, 7] [96, 120, 248] [(4, v2), (6, v18), (7, v26)] ob) fun x => loopC (m88b0 Φ N os) N x.1 x.2
  )
def ann88 : Nat → Option Hd
  | 7 => some ⟨[], [4, 6, 7], [96, 120, 248], []⟩ | _ => none
def lab88 : Nat → Option Hd := fun _ => none
noncomputable def m89 : Body := fun Φ N as os =>
  let ob := zipN 0 os
  bndO (al ob 64 [.blob 8 (List.replicate 8 (.i .u32 0)), .e true, .i .i64 0]) ob fun v1 ob =>
  bnd (bld [.blob 8 (List.replicate 8 (.i .u32 0))] [(0, 1, (.i .u32 1779033703)), (1, 1, (.i .u32 3144134277)), (2, 1, (.i .u32 1013904242)), (3, 1, (.i .u32 2773480762)), (4, 1, (.i .u32 1359893119)), (5, 1, (.i .u32 2600822924)), (6, 1, (.i .u32 528734635)), (7, 1, (.i .u32 1541459225))]) fun v2 =>
  bnd (bld [.blob 8 (List.replicate 8 (.i .u32 0)), .e true, .i .i64 0] [(0, 8, v2)]) fun v3 =>
  bndO (st ob 10 v1 v3) ob fun _ ob =>
  bnd (lN ob 10 v1) fun v4 =>
  fin ob os.length [0] [v4]
def ann89 : Nat → Option Hd := fun _ => none
def lab89 : Nat → Option Hd := fun _ => none
noncomputable def m90b0 (Φ : Sem') (N : Nat) (os : List Obj') (g : SL → OB → Option R) (sl : SL) (ob : OB) : Option R :=
  bnd (bi .lss (gS sl 17) (gS sl 16)) fun v4 =>
  br v4 (
 bnd (xS ob 1 (gS sl 15) (gS sl 17)) fun v5 =>
 bnd (l1 ob v5) fun v6 =>
 bndO (ca0 Φ ob 264 false 98 [(gS sl 0), (gS sl 7), v6]) ob fun v7 ob =>
 bnd (ext 0 v7) fun v8 =>
 bnd (ext 1 v7) fun v9 =>
 bnd (bi .eql v9 (.i .i64 (-1))) fun v10 =>
 br v10 (
  fin ob os.length [1, 0] [(.e true), (.b false)]
 ) (
  bndO (bldS ob 320 1 [v8]) ob fun v11 ob =>
  bndO (ap ob 328 1 (gS sl 6) v11) ob fun v12 ob =>
  bnd (bi .add (gS sl 17) (.i .i64 1)) fun v13 =>
  bnd (head [.row 6 119 1] [0, 6, 7, 15, 16, 17] [] [(0, (gS sl 0)), (6, v12), (7, v9), (15, (gS sl 15)), (16, (gS sl 16)), (17, v13)] ob) fun x => g x.1 x.2
 )
  ) (
 bnd (len (gS sl 0)) fun v14 =>
 bnd (bi .neq (gS sl 7) v14) fun v15 =>
 br v15 (
  fin ob os.length [1, 0] [(.e true), (.b false)]
 ) (
  fin ob os.length [1, 0] [(gS sl 6), (.b true)]
 )
  )
noncomputable def m90 : Body := fun Φ N as os =>
  let a0 := gS (zipN 0 as) 0
  let a1 := gS (zipN 0 as) 1
  let ob := zipN 0 os
  bnd (len a1) fun v1 =>
  bnd (bi .gtr v1 (.i .i64 40)) fun v2 =>
  br v2 (
 fin ob os.length [1, 0] [(.e true), (.b false)]
  ) (
 bnd (len a1) fun v3 =>
 bnd (head [.row 6 119 1] [0, 6, 7, 15, 16, 17] [] [(0, a0), (6, (.e true)), (7, (.i .i64 0)), (15, a1), (16, v3), (17, (.i .i64 0))] ob) fun x => loopC (m90b0 Φ N os) N x.1 x.2
  )
def ann90 : Nat → Option Hd
  | 6 => some ⟨[.row 6 119 1], [0, 6, 7, 15, 16, 17], [], []⟩ | _ => none
def lab90 : Nat → Option Hd := fun _ => none
noncomputable def m91j0 (Φ : Sem') (N : Nat) (os : List Obj') (g : SL → OB → Option R) (sl : SL) (ob : OB) : Option R :=
  bnd (cv .u8 (gS sl 0)) fun v1 =>
  bnd (xS ob 1 (gS sl 6) (gS sl 7)) fun v2 =>
  bndO (st ob 1 v2 v1) ob fun _ ob =>
  bnd (bi .shr (gS sl 0) (.i .u64 8)) fun v3 =>
  bnd (bi .sub (gS sl 7) (.i .i64 1)) fun v4 =>
  bnd (bi .geq v4 (.i .i64 0)) fun v5 =>
  br v5 (
 bnd (head [] [0, 6, 7] [248] [(0, v3), (6, (gS sl 6)), (7, v4)] ob) fun x => g x.1 x.2
  ) (
 fin ob os.length [1, 0] [(gS sl 6), (.b true)]
  )
noncomputable def m91 : Body := fun Φ N as os =>
  let a0 := gS (zipN 0 as) 0
  let a1 := gS (zipN 0 as) 1
  let ob := zipN 0 os
  bndO (ca0 Φ ob 136 false 99 [a1]) ob fun v6 ob =>
  bnd (uO .not v6) fun v7 =>
  bnd (gd v7 false (some a1)) fun v8 =>
  bnd (gd v7 false (bi .lss v8 (.i .i64 8))) fun v9 =>
  bnd (gd v7 false (some v9)) fun v10 =>
  bnd (gd v10 true (some a0)) fun v11 =>
  bnd (gd v10 true (some a1)) fun v12 =>
  bnd (gd v10 true (bi .mul (.i .i64 8) v12)) fun v13 =>
  bnd (gd v10 true (bi .shr v11 v13)) fun v14 =>
  bnd (gd v10 true (bi .neq v14 (.i .u64 0))) fun v15 =>
  bnd (gd v7 false (pk v10 v15 (.b false))) fun v16 =>
  bnd (pk v7 (.b true) v16) fun v17 =>
  br v17 (
 fin ob os.length [1, 0] [(.e true), (.b false)]
  ) (
 bndO (mks ob 248 [.i .u8 0] a1) ob fun v18 ob =>
 bnd (bi .sub a1 (.i .i64 1)) fun v19 =>
 bnd (cv .u8 a0) fun v20 =>
 bnd (xS ob 1 v18 v19) fun v21 =>
 bndO (st ob 1 v21 v20) ob fun _ ob =>
 bnd (bi .shr a0 (.i .u64 8)) fun v22 =>
 bnd (bi .sub v19 (.i .i64 1)) fun v23 =>
 bnd (bi .geq v23 (.i .i64 0)) fun v24 =>
 br v24 (
  bnd (head [] [0, 6, 7] [248] [(0, v22), (6, v18), (7, v23)] ob) fun x => loopC (m91j0 Φ N os) N x.1 x.2
 ) (
  fin ob os.length [1, 0] [v18, (.b true)]
 )
  )
def ann91 : Nat → Option Hd := fun _ => none
def lab91 : Nat → Option Hd
  | 0 => some ⟨[], [0, 6, 7], [248], []⟩ | _ => none
noncomputable def m92b0 (Φ : Sem') (N : Nat) (os : List Obj') (g : SL → OB → Option R) (sl : SL) (ob : OB) : Option R :=
  bnd (bi .geq (gS sl 7) (.i .i64 0)) fun v7 =>
  br v7 (
 bnd (bi .rem (gS sl 0) (.i .u64 256)) fun v8 =>
 bnd (cv .u8 v8) fun v9 =>
 bnd (xS ob 1 (gS sl 6) (gS sl 7)) fun v10 =>
 bndO (st ob 1 v10 v9) ob fun _ ob =>
 bnd (bi .quo (gS sl 0) (.i .u64 256)) fun v11 =>
 bnd (bi .sub (gS sl 7) (.i .i64 1)) fun v12 =>
 bnd (head [] [0, 6, 7] [184] [(0, v11), (6, (gS sl 6)), (7, v12)] ob) fun x => g x.1 x.2
  ) (
 bnd (bi .neq (gS sl 0) (.i .u64 0)) fun v13 =>
 br v13 (
  fin ob os.length [1, 0] [(.e true), (.b false)]
 ) (
  fin ob os.length [1, 0] [(gS sl 6), (.b true)]
 )
  )
noncomputable def m92 : Body := fun Φ N as os =>
  let a0 := gS (zipN 0 as) 0
  let a1 := gS (zipN 0 as) 1
  let ob := zipN 0 os
  bnd (bi .lss a1 (.i .i64 1)) fun v1 =>
  bnd (gd v1 false (some a1)) fun v2 =>
  bnd (gd v1 false (bi .gtr v2 (.i .i64 8))) fun v3 =>
  bnd (pk v1 (.b true) v3) fun v4 =>
  br v4 (
 fin ob os.length [1, 0] [(.e true), (.b false)]
  ) (
 bndO (mks ob 184 [.i .u8 0] a1) ob fun v5 ob =>
 bnd (bi .sub a1 (.i .i64 1)) fun v6 =>
 bnd (head [] [0, 6, 7] [184] [(0, a0), (6, v5), (7, v6)] ob) fun x => loopC (m92b0 Φ N os) N x.1 x.2
  )
def ann92 : Nat → Option Hd
  | 5 => some ⟨[], [0, 6, 7], [184], []⟩ | _ => none
def lab92 : Nat → Option Hd := fun _ => none
noncomputable def m93b0 (Φ : Sem') (N : Nat) (os : List Obj') (g : SL → OB → Option R) (sl : SL) (ob : OB) : Option R :=
  bnd (bi .add (gS sl 1) (gS sl 2)) fun v20 =>
  bnd (bi .lss (gS sl 9) v20) fun v21 =>
  br v21 (
 bnd (bi .mul (.i .u64 256) (gS sl 8)) fun v22 =>
 bnd (xS ob 1 (gS sl 0) (gS sl 9)) fun v23 =>
 bnd (l1 ob v23) fun v24 =>
 bnd (cv .u64 v24) fun v25 =>
 bnd (bi .add v22 v25) fun v26 =>
 bnd (bi .add (gS sl 9) (.i .i64 1)) fun v27 =>
 bnd (head [] [0, 1, 2, 8, 9] [] [(0, (gS sl 0)), (1, (gS sl 1)), (2, (gS sl 2)), (8, v26), (9, v27)] ob) fun x => g x.1 x.2
  ) (
 bnd (bi .add (gS sl 1) (gS sl 2)) fun v28 =>
 fin ob os.length [0, 0] [(gS sl 8), v28]
  )
noncomputable def m93 : Body := fun Φ N as os =>
  let a0 := gS (zipN 0 as) 0
  let a1 := gS (zipN 0 as) 1
  let a2 := gS (zipN 0 as) 2
  let ob := zipN 0 os
  bnd (bi .lss a2 (.i .i64 1)) fun v1 =>
  bnd (gd v1 false (some a2)) fun v2 =>
  bnd (gd v1 false (bi .gtr v2 (.i .i64 8))) fun v3 =>
  bnd (pk v1 (.b true) v3) fun v4 =>
  bnd (gd v4 false (some a1)) fun v5 =>
  bnd (gd v4 false (bi .lss v5 (.i .i64 0))) fun v6 =>
  bnd (pk v4 (.b true) v6) fun v7 =>
  bnd (gd v7 false (some a1)) fun v8 =>
  bnd (gd v7 false (some a0)) fun v9 =>
  bnd (gd v7 false (len v9)) fun v10 =>
  bnd (gd v7 false (bi .gtr v8 v10)) fun v11 =>
  bnd (pk v7 (.b true) v11) fun v12 =>
  bnd (gd v12 false (some a0)) fun v13 =>
  bnd (gd v12 false (len v13)) fun v14 =>
  bnd (gd v12 false (some a1)) fun v15 =>
  bnd (gd v12 false (bi .sub v14 v15)) fun v16 =>
  bnd (gd v12 false (some a2)) fun v17 =>
  bnd (gd v12 false (bi .lss v16 v17)) fun v18 =>
  bnd (pk v12 (.b true) v18) fun v19 =>
  br v19 (
 fin ob os.length [0, 0] [(.i .u64 0), (.i .i64 (-1))]
  ) (
 bnd (head [] [0, 1, 2, 8, 9] [] [(0, a0), (1, a1), (2, a2), (8, (.i .u64 0)), (9, a1)] ob) fun x => loopC (m93b0 Φ N os) N x.1 x.2
  )
def ann93 : Nat → Option Hd
  | 5 => some ⟨[], [0, 1, 2, 8, 9], [], []⟩ | _ => none
def lab93 : Nat → Option Hd := fun _ => none
noncomputable def m94 : Body := fun Φ N as os =>
  let a0 := gS (zipN 0 as) 0
  let ob := zipN 0 os
  bndO (bx ob 72 a0) ob fun v1 ob =>
  bnd (fA 9 v1) fun v2 =>
  bnd (l1 ob v2) fun v3 =>
  bnd (bi .geq v3 (.i .i64 0)) fun v4 =>
  bnd (gd v4 true (fA 9 v1)) fun v5 =>
  bnd (gd v4 true (l1 ob v5)) fun v6 =>
  bnd (gd v4 true (bi .leq v6 (.i .i64 1048576))) fun v7 =>
  bnd (pk v4 v7 (.b false)) fun v8 =>
  bnd (gd v8 true (fA 8 v1)) fun v9 =>
  bnd (gd v8 true (l1 ob v9)) fun v10 =>
  bnd (gd v8 true (len v10)) fun v11 =>
  bnd (gd v8 true (fA 9 v1)) fun v12 =>
  bnd (gd v8 true (l1 ob v12)) fun v13 =>
  bnd (gd v8 true (bi .rem v13 (.i .i64 64))) fun v14 =>
  bnd (gd v8 true (bi .eql v11 v14)) fun v15 =>
  bnd (pk v8 v15 (.b false)) fun v16 =>
  fin ob os.length [0] [v16]
def ann94 : Nat → Option Hd := fun _ => none
def lab94 : Nat → Option Hd := fun _ => none
noncomputable def m95b0 (Φ : Sem') (N : Nat) (os : List Obj') (g : SL → OB → Option R) (sl : SL) (ob : OB) : Option R :=
  bnd (len (gS sl 1)) fun v3 =>
  bnd (bi .geq v3 (.i .i64 64)) fun v4 =>
  br v4 (
 bnd (lN ob 8 (gS sl 2)) fun v5 =>
 bndO (slc ob (.slice 1) (gS sl 1) none (some (.i .i64 64)) none) ob fun v6 ob =>
 bndO (ca0 Φ ob 160 false 100 [v5, v6]) ob fun v7 ob =>
 bndO (st ob 8 (gS sl 2) v7) ob fun _ ob =>
 bndO (slc ob (.slice 1) (gS sl 1) (some (.i .i64 64)) none none) ob fun v8 ob =>
 bnd (head [] [1, 2, 4] [80, 96] [(1, v8), (2, (gS sl 2)), (4, (gS sl 4))] ob) fun x => g x.1 x.2
  ) (
 bnd (lN ob 8 (gS sl 2)) fun v9 =>
 bndO (st ob 8 (gS sl 4) v9) ob fun _ ob =>
 bnd (lN ob 8 (gS sl 4)) fun v10 =>
 fin ob os.length [0, 1] [v10, (gS sl 1)]
  )
noncomputable def m95 : Body := fun Φ N as os =>
  let a0 := gS (zipN 0 as) 0
  let a1 := gS (zipN 0 as) 1
  let ob := zipN 0 os
  bndO (bx ob 80 a0) ob fun v1 ob =>
  bndO (al ob 96 [.blob 8 (List.replicate 8 (.i .u32 0))]) ob fun v2 ob =>
  bnd (head [] [1, 2, 4] [80, 96] [(1, a1), (2, v1), (4, v2)] ob) fun x => loopC (m95b0 Φ N os) N x.1 x.2
def ann95 : Nat → Option Hd
  | 1 => some ⟨[], [1, 2, 4], [80, 96], []⟩ | _ => none
def lab95 : Nat → Option Hd := fun _ => none
noncomputable def m96 : Body := fun Φ N as os =>
  let a0 := gS (zipN 0 as) 0
  let ob := zipN 0 os
  bndO (bx ob 72 a0) ob fun v1 ob =>
  bnd (fA 9 v1) fun v2 =>
  bnd (l1 ob v2) fun v3 =>
  bnd (bi .geq v3 (.i .i64 0)) fun v4 =>
  bnd (gd v4 true (fA 9 v1)) fun v5 =>
  bnd (gd v4 true (l1 ob v5)) fun v6 =>
  bnd (gd v4 true (bi .leq v6 (.i .i64 1048576))) fun v7 =>
  bnd (pk v4 v7 (.b false)) fun v8 =>
  bnd (gd v8 true (fA 8 v1)) fun v9 =>
  bnd (gd v8 true (l1 ob v9)) fun v10 =>
  bnd (gd v8 true (len v10)) fun v11 =>
  bnd (gd v8 true (fA 9 v1)) fun v12 =>
  bnd (gd v8 true (l1 ob v12)) fun v13 =>
  bnd (gd v8 true (bi .rem v13 (.i .i64 64))) fun v14 =>
  bnd (gd v8 true (bi .eql v11 v14)) fun v15 =>
  bnd (pk v8 v15 (.b false)) fun v16 =>
  fin ob os.length [0] [v16]
def ann96 : Nat → Option Hd := fun _ => none
def lab96 : Nat → Option Hd := fun _ => none
noncomputable def m97b0 (Φ : Sem') (N : Nat) (os : List Obj') (g : SL → OB → Option R) (sl : SL) (ob : OB) : Option R :=
  bnd (bi .lss (gS sl 14) (.i .i64 64)) fun v20 =>
  br v20 (
 bndO (ca0 Φ ob 392 false 102 [(gS sl 10), (.i .u32 6)]) ob fun v21 ob =>
 bndO (ca0 Φ ob 408 false 102 [(gS sl 10), (.i .u32 11)]) ob fun v22 ob =>
 bnd (bi .xor v21 v22) fun v23 =>
 bndO (ca0 Φ ob 432 false 102 [(gS sl 10), (.i .u32 25)]) ob fun v24 ob =>
 bnd (bi .xor v23 v24) fun v25 =>
 bnd (bi .add (gS sl 13) v25) fun v26 =>
 bnd (bi .and (gS sl 10) (gS sl 11)) fun v27 =>
 bnd (uO .xor (gS sl 10)) fun v28 =>
 bnd (bi .and v28 (gS sl 12)) fun v29 =>
 bnd (bi .xor v27 v29) fun v30 =>
 bnd (bi .add v26 v30) fun v31 =>
 bndO (ca0 Φ ob 536 false 103 [(gS sl 14)]) ob fun v32 ob =>
 bnd (bi .add v31 v32) fun v33 =>
 bnd (xS ob 1 (gS sl 5) (gS sl 14)) fun v34 =>
 bnd (l1 ob v34) fun v35 =>
 bnd (bi .add v33 v35) fun v36 =>
 bndO (ca0 Φ ob 600 false 102 [(gS sl 6), (.i .u32 2)]) ob fun v37 ob =>
 bndO (ca0 Φ ob 616 false 102 [(gS sl 6), (.i .u32 13)]) ob fun v38 ob =>
 bnd (bi .xor v37 v38) fun v39 =>
 bndO (ca0 Φ ob 640 false 102 [(gS sl 6), (.i .u32 22)]) ob fun v40 ob =>
 bnd (bi .xor v39 v40) fun v41 =>
 bnd (bi .and (gS sl 6) (gS sl 7)) fun v42 =>
 bnd (bi .and (gS sl 6) (gS sl 8)) fun v43 =>
 bnd (bi .xor v42 v43) fun v44 =>
 bnd (bi .and (gS sl 7) (gS sl 8)) fun v45 =>
 bnd (bi .xor v44 v45) fun v46 =>
 bnd (bi .add v41 v46) fun v47 =>
 bnd (bi .add (gS sl 9) v36) fun v48 =>
 bnd (bi .add v36 v47) fun v49 =>
 bnd (bi .add (gS sl 14) (.i .i64 1)) fun v50 =>
 bnd (head [] [2, 4, 5, 6, 7, 8, 9, 10, 11, 12, 13, 14] [80, 96, 208] [(2, (gS sl 2)), (4, (gS sl 4)), (5, (gS sl 5)), (6, v49), (7, (gS sl 6)), (8, (gS sl 7)), (9, (gS sl 8)), (10, v48), (11, (gS sl 10)), (12, (gS sl 11)), (13, (gS sl 12)), (14, v50)] ob) fun x => g x.1 x.2
  ) (
 bnd (xA 8 (gS sl 2) (.i .i64 0)) fun v51 =>
 bnd (l1 ob v51) fun v52 =>
 bnd (bi .add v52 (gS sl 6)) fun v53 =>
 bnd (xA 8 (gS sl 2) (.i .i64 1)) fun v54 =>
 bnd (l1 ob v54) fun v55 =>
 bnd (bi .add v55 (gS sl 7)) fun v56 =>
 bnd (xA 8 (gS sl 2) (.i .i64 2)) fun v57 =>
 bnd (l1 ob v57) fun v58 =>
 bnd (bi .add v58 (gS sl 8)) fun v59 =>
 bnd (xA 8 (gS sl 2) (.i .i64 3)) fun v60 =>
 bnd (l1 ob v60) fun v61 =>
 bnd (bi .add v61 (gS sl 9)) fun v62 =>
 bnd (xA 8 (gS sl 2) (.i .i64 4)) fun v63 =>
 bnd (l1 ob v63) fun v64 =>
 bnd (bi .add v64 (gS sl 10)) fun v65 =>
 bnd (xA 8 (gS sl 2) (.i .i64 5)) fun v66 =>
 bnd (l1 ob v66) fun v67 =>
 bnd (bi .add v67 (gS sl 11)) fun v68 =>
 bnd (xA 8 (gS sl 2) (.i .i64 6)) fun v69 =>
 bnd (l1 ob v69) fun v70 =>
 bnd (bi .add v70 (gS sl 12)) fun v71 =>
 bnd (xA 8 (gS sl 2) (.i .i64 7)) fun v72 =>
 bnd (l1 ob v72) fun v73 =>
 bnd (bi .add v73 (gS sl 13)) fun v74 =>
 bnd (bld [.blob 8 (List.replicate 8 (.i .u32 0))] [(0, 1, v53), (1, 1, v56), (2, 1, v59), (3, 1, v62), (4, 1, v65), (5, 1, v68), (6, 1, v71), (7, 1, v74)]) fun v75 =>
 bndO (st ob 8 (gS sl 4) v75) ob fun _ ob =>
 bnd (lN ob 8 (gS sl 4)) fun v76 =>
 fin ob os.length [0] [v76]
  )
noncomputable def m97 : Body := fun Φ N as os =>
  let a0 := gS (zipN 0 as) 0
  let a1 := gS (zipN 0 as) 1
  let ob := zipN 0 os
  bndO (bx ob 80 a0) ob fun v1 ob =>
  bndO (al ob 96 [.blob 8 (List.replicate 8 (.i .u32 0))]) ob fun v2 ob =>
  bndO (ca0 Φ ob 208 false 101 [a1]) ob fun v3 ob =>
  bnd (xA 8 v1 (.i .i64 0)) fun v4 =>
  bnd (l1 ob v4) fun v5 =>
  bnd (xA 8 v1 (.i .i64 1)) fun v6 =>
  bnd (l1 ob v6) fun v7 =>
  bnd (xA 8 v1 (.i .i64 2)) fun v8 =>
  bnd (l1 ob v8) fun v9 =>
  bnd (xA 8 v1 (.i .i64 3)) fun v10 =>
  bnd (l1 ob v10) fun v11 =>
  bnd (xA 8 v1 (.i .i64 4)) fun v12 =>
  bnd (l1 ob v12) fun v13 =>
  bnd (xA 8 v1 (.i .i64 5)) fun v14 =>
  bnd (l1 ob v14) fun v15 =>
  bnd (xA 8 v1 (.i .i64 6)) fun v16 =>
  bnd (l1 ob v16) fun v17 =>
  bnd (xA 8 v1 (.i .i64 7)) fun v18 =>
  bnd (l1 ob v18) fun v19 =>
  bnd (head [] [2, 4, 5, 6, 7, 8, 9, 10, 11, 12, 13, 14] [80, 96, 208] [(2, v1), (4, v2), (5, v3), (6, v5), (7, v7), (8, v9), (9, v11), (10, v13), (11, v15), (12, v17), (13, v19), (14, (.i .i64 0))] ob) fun x => loopC (m97b0 Φ N os) N x.1 x.2
def ann97 : Nat → Option Hd
  | 11 => some ⟨[], [2, 4, 5, 6, 7, 8, 9, 10, 11, 12, 13, 14], [80, 96, 208], []⟩ | _ => none
def lab97 : Nat → Option Hd := fun _ => none
noncomputable def m98b0 (Φ : Sem') (N : Nat) (os : List Obj') (g : SL → OB → Option R) (sl : SL) (ob : OB) : Option R :=
  bnd (bi .lss (gS sl 42) (gS sl 41)) fun v22 =>
  br v22 (
 bnd (xS ob 1 (gS sl 40) (gS sl 42)) fun v23 =>
 bnd (l1 ob v23) fun v24 =>
 bnd (bi .shl (gS sl 8) (.i .u64 8)) fun v25 =>
 bnd (cv .u64 v24) fun v26 =>
 bnd (bi .or v25 v26) fun v27 =>
 bnd (bi .add (gS sl 42) (.i .i64 1)) fun v28 =>
 bnd (head [] [1, 2, 8, 40, 41, 42] [] [(1, (gS sl 1)), (2, (gS sl 2)), (8, v27), (40, (gS sl 40)), (41, (gS sl 41)), (42, v28)] ob) fun x => g x.1 x.2
  ) (
 bnd (bi .add (gS sl 1) (gS sl 2)) fun v29 =>
 fin ob os.length [0, 0] [(gS sl 8), v29]
  )
noncomputable def m98 : Body := fun Φ N as os =>
  let a0 := gS (zipN 0 as) 0
  let a1 := gS (zipN 0 as) 1
  let a2 := gS (zipN 0 as) 2
  let ob := zipN 0 os
  bndO (ca0 Φ ob 160 false 99 [a2]) ob fun v1 ob =>
  bnd (uO .not v1) fun v2 =>
  bnd (gd v2 false (some a1)) fun v3 =>
  bnd (gd v2 false (bi .lss v3 (.i .i64 0))) fun v4 =>
  bnd (pk v2 (.b true) v4) fun v5 =>
  bnd (gd v5 false (some a1)) fun v6 =>
  bnd (gd v5 false (some a0)) fun v7 =>
  bnd (gd v5 false (len v7)) fun v8 =>
  bnd (gd v5 false (bi .gtr v6 v8)) fun v9 =>
  bnd (pk v5 (.b true) v9) fun v10 =>
  bnd (gd v10 false (some a0)) fun v11 =>
  bnd (gd v10 false (len v11)) fun v12 =>
  bnd (gd v10 false (some a1)) fun v13 =>
  bnd (gd v10 false (bi .sub v12 v13)) fun v14 =>
  bnd (gd v10 false (some a2)) fun v15 =>
  bnd (gd v10 false (bi .lss v14 v15)) fun v16 =>
  bnd (pk v10 (.b true) v16) fun v17 =>
  br v17 (
 fin ob os.length [0, 0] [(.i .u64 0), (.i .i64 (-1))]
  ) (
 bnd (bi .add a1 a2) fun v18 =>
 bnd (bi .add a1 a2) fun v19 =>
 bndO (slc ob (.slice 1) a0 (some a1) (some v18) (some v19)) ob fun v20 ob =>
 bnd (len v20) fun v21 =>
 bnd (head [] [1, 2, 8, 40, 41, 42] [] [(1, a1), (2, a2), (8, (.i .u64 0)), (40, v20), (41, v21), (42, (.i .i64 0))] ob) fun x => loopC (m98b0 Φ N os) N x.1 x.2
  )
def ann98 : Nat → Option Hd
  | 5 => some ⟨[], [1, 2, 8, 40, 41, 42], [], []⟩ | _ => none
def lab98 : Nat → Option Hd := fun _ => none
noncomputable def m99 : Body := fun Φ N as os =>
  let a0 := gS (zipN 0 as) 0
  let ob := zipN 0 os
  bnd (bi .geq a0 (.i .i64 1)) fun v1 =>
  bnd (gd v1 true (some a0)) fun v2 =>
  bnd (gd v1 true (bi .leq v2 (.i .i64 8))) fun v3 =>
  bnd (pk v1 v3 (.b false)) fun v4 =>
  fin ob os.length [0] [v4]
def ann99 : Nat → Option Hd := fun _ => none
def lab99 : Nat → Option Hd := fun _ => none
noncomputable def m100b0 (Φ : Sem') (N : Nat) (os : List Obj') (g : SL → OB → Option R) (sl : SL) (ob : OB) : Option R :=
  bnd (bi .lss (gS sl 98) (.i .i64 8)) fun v72 =>
  br v72 (
 bnd (xA 8 (gS sl 6) (gS sl 98)) fun v73 =>
 bnd (l1 ob v73) fun v74 =>
 bnd (xA 8 (gS sl 2) (gS sl 98)) fun v75 =>
 bnd (l1 ob v75) fun v76 =>
 bnd (bi .add v74 v76) fun v77 =>
 bnd (xA 8 (gS sl 6) (gS sl 98)) fun v78 =>
 bndO (st ob 1 v78 v77) ob fun _ ob =>
 bnd (bi .add (gS sl 98) (.i .i64 1)) fun v79 =>
 bnd (head [] [2, 4, 6, 98] [80, 96, 112] [(2, (gS sl 2)), (4, (gS sl 4)), (6, (gS sl 6)), (98, v79)] ob) fun x => g x.1 x.2
  ) (
 bnd (lN ob 8 (gS sl 6)) fun v80 =>
 bndO (st ob 8 (gS sl 4) v80) ob fun _ ob =>
 bnd (lN ob 8 (gS sl 4)) fun v81 =>
 fin ob os.length [0] [v81]
  )
noncomputable def m100b1 (Φ : Sem') (N : Nat) (os : List Obj') (g : SL → OB → Option R) (sl : SL) (ob : OB) : Option R :=
  bnd (bi .lss (gS sl 16) (.i .i64 64)) fun v7 =>
  br v7 (
 bnd (xA 8 (gS sl 6) (.i .i64 0)) fun v8 =>
 bnd (l1 ob v8) fun v9 =>
 bnd (xA 8 (gS sl 6) (.i .i64 4)) fun v10 =>
 bnd (l1 ob v10) fun v11 =>
 bnd (xA 8 (gS sl 6) (.i .i64 7)) fun v12 =>
 bnd (l1 ob v12) fun v13 =>
 bndO (ca0 Φ ob 272 false 105 [v11, (.i .i64 6)]) ob fun v14 ob =>
 bndO (ca0 Φ ob 288 false 105 [v11, (.i .i64 11)]) ob fun v15 ob =>
 bnd (bi .xor v14 v15) fun v16 =>
 bndO (ca0 Φ ob 312 false 105 [v11, (.i .i64 25)]) ob fun v17 ob =>
 bnd (bi .xor v16 v17) fun v18 =>
 bnd (bi .add v13 v18) fun v19 =>
 bnd (xA 8 (gS sl 6) (.i .i64 5)) fun v20 =>
 bnd (l1 ob v20) fun v21 =>
 bnd (bi .and v11 v21) fun v22 =>
 bnd (uO .xor v11) fun v23 =>
 bnd (xA 8 (gS sl 6) (.i .i64 6)) fun v24 =>
 bnd (l1 ob v24) fun v25 =>
 bnd (bi .and v23 v25) fun v26 =>
 bnd (bi .xor v22 v26) fun v27 =>
 bnd (bi .add v19 v27) fun v28 =>
 bnd (xA 64 (.q true gMore none) (gS sl 16)) fun v29 =>
 bnd (l1 ob v29) fun v30 =>
 bnd (bi .add v28 v30) fun v31 =>
 bnd (xA 64 (gS sl 5) (gS sl 16)) fun v32 =>
 bnd (l1 ob v32) fun v33 =>
 bnd (bi .add v31 v33) fun v34 =>
 bndO (ca0 Φ ob 496 false 105 [v9, (.i .i64 2)]) ob fun v35 ob =>
 bndO (ca0 Φ ob 512 false 105 [v9, (.i .i64 13)]) ob fun v36 ob =>
 bnd (bi .xor v35 v36) fun v37 =>
 bndO (ca0 Φ ob 536 false 105 [v9, (.i .i64 22)]) ob fun v38 ob =>
 bnd (bi .xor v37 v38) fun v39 =>
 bnd (xA 8 (gS sl 6) (.i .i64 1)) fun v40 =>
 bnd (l1 ob v40) fun v41 =>
 bnd (bi .and v9 v41) fun v42 =>
 bnd (xA 8 (gS sl 6) (.i .i64 2)) fun v43 =>
 bnd (l1 ob v43) fun v44 =>
 bnd (bi .and v9 v44) fun v45 =>
 bnd (bi .xor v42 v45) fun v46 =>
 bnd (xA 8 (gS sl 6) (.i .i64 1)) fun v47 =>
 bnd (l1 ob v47) fun v48 =>
 bnd (xA 8 (gS sl 6) (.i .i64 2)) fun v49 =>
 bnd (l1 ob v49) fun v50 =>
 bnd (bi .and v48 v50) fun v51 =>
 bnd (bi .xor v46 v51) fun v52 =>
 bnd (bi .add v39 v52) fun v53 =>
 bnd (bi .add v34 v53) fun v54 =>
 bnd (xA 8 (gS sl 6) (.i .i64 0)) fun v55 =>
 bnd (l1 ob v55) fun v56 =>
 bnd (xA 8 (gS sl 6) (.i .i64 1)) fun v57 =>
 bnd (l1 ob v57) fun v58 =>
 bnd (xA 8 (gS sl 6) (.i .i64 2)) fun v59 =>
 bnd (l1 ob v59) fun v60 =>
 bnd (xA 8 (gS sl 6) (.i .i64 3)) fun v61 =>
 bnd (l1 ob v61) fun v62 =>
 bnd (bi .add v62 v34) fun v63 =>
 bnd (xA 8 (gS sl 6) (.i .i64 4)) fun v64 =>
 bnd (l1 ob v64) fun v65 =>
 bnd (xA 8 (gS sl 6) (.i .i64 5)) fun v66 =>
 bnd (l1 ob v66) fun v67 =>
 bnd (xA 8 (gS sl 6) (.i .i64 6)) fun v68 =>
 bnd (l1 ob v68) fun v69 =>
 bnd (bld [.blob 8 (List.replicate 8 (.i .u32 0))] [(0, 1, v54), (1, 1, v56), (2, 1, v58), (3, 1, v60), (4, 1, v63), (5, 1, v65), (6, 1, v67), (7, 1, v69)]) fun v70 =>
 bndO (st ob 8 (gS sl 6) v70) ob fun _ ob =>
 bnd (bi .add (gS sl 16) (.i .i64 1)) fun v71 =>
 bnd (head [] [2, 4, 5, 6, 16] [80, 96, 104, 112] [(2, (gS sl 2)), (4, (gS sl 4)), (5, (gS sl 5)), (6, (gS sl 6)), (16, v71)] ob) fun x => g x.1 x.2
  ) (
 bnd (head [] [2, 4, 6, 98] [80, 96, 112] [(2, (gS sl 2)), (4, (gS sl 4)), (6, (gS sl 6)), (98, (.i .i64 0))] ob) fun x => loopC (m100b0 Φ N os) N x.1 x.2
  )
noncomputable def m100 : Body := fun Φ N as os =>
  let a0 := gS (zipN 0 as) 0
  let a1 := gS (zipN 0 as) 1
  let ob := zipN 0 os
  bndO (bx ob 80 a0) ob fun v1 ob =>
  bndO (al ob 96 [.blob 8 (List.replicate 8 (.i .u32 0))]) ob fun v2 ob =>
  bndO (ca0 Φ ob 176 false 104 [a1]) ob fun v3 ob =>
  bndO (al ob 104 [.blob 64 (List.replicate 64 (.i .u32 0))]) ob fun v4 ob =>
  bndO (st ob 64 v4 v3) ob fun _ ob =>
  bnd (lN ob 8 v1) fun v5 =>
  bndO (al ob 112 [.blob 8 (List.replicate 8 (.i .u32 0))]) ob fun v6 ob =>
  bndO (st ob 8 v6 v5) ob fun _ ob =>
  bnd (head [] [2, 4, 5, 6, 16] [80, 96, 104, 112] [(2, v1), (4, v2), (5, v4), (6, v6), (16, (.i .i64 0))] ob) fun x => loopC (m100b1 Φ N os) N x.1 x.2
def ann100 : Nat → Option Hd
  | 4 => some ⟨[], [2, 4, 5, 6, 16], [80, 96, 104, 112], []⟩ | 12 => some ⟨[], [2, 4, 6, 98], [80, 96, 112], []⟩ | _ => none
def lab100 : Nat → Option Hd := fun _ => none
noncomputable def m101b0 (Φ : Sem') (N : Nat) (os : List Obj') (g : SL → OB → Option R) (sl : SL) (ob : OB) : Option R :=
  bnd (bi .lss (gS sl 5) (.i .i64 64)) fun v30 =>
  br v30 (
 bnd (bi .sub (gS sl 5) (.i .i64 15)) fun v31 =>
 bnd (xS ob 1 (gS sl 3) v31) fun v32 =>
 bnd (l1 ob v32) fun v33 =>
 bndO (ca0 Φ ob 520 false 102 [v33, (.i .u32 7)]) ob fun v34 ob =>
 bnd (bi .sub (gS sl 5) (.i .i64 15)) fun v35 =>
 bnd (xS ob 1 (gS sl 3) v35) fun v36 =>
 bnd (l1 ob v36) fun v37 =>
 bndO (ca0 Φ ob 568 false 102 [v37, (.i .u32 18)]) ob fun v38 ob =>
 bnd (bi .xor v34 v38) fun v39 =>
 bnd (bi .sub (gS sl 5) (.i .i64 15)) fun v40 =>
 bnd (xS ob 1 (gS sl 3) v40) fun v41 =>
 bnd (l1 ob v41) fun v42 =>
 bnd (bi .shr v42 (.i .u64 3)) fun v43 =>
 bnd (bi .xor v39 v43) fun v44 =>
 bnd (bi .sub (gS sl 5) (.i .i64 2)) fun v45 =>
 bnd (xS ob 1 (gS sl 3) v45) fun v46 =>
 bnd (l1 ob v46) fun v47 =>
 bndO (ca0 Φ ob 680 false 102 [v47, (.i .u32 17)]) ob fun v48 ob =>
 bnd (bi .sub (gS sl 5) (.i .i64 2)) fun v49 =>
 bnd (xS ob 1 (gS sl 3) v49) fun v50 =>
 bnd (l1 ob v50) fun v51 =>
 bndO (ca0 Φ ob 728 false 102 [v51, (.i .u32 19)]) ob fun v52 ob =>
 bnd (bi .xor v48 v52) fun v53 =>
 bnd (bi .sub (gS sl 5) (.i .i64 2)) fun v54 =>
 bnd (xS ob 1 (gS sl 3) v54) fun v55 =>
 bnd (l1 ob v55) fun v56 =>
 bnd (bi .shr v56 (.i .u64 10)) fun v57 =>
 bnd (bi .xor v53 v57) fun v58 =>
 bnd (bi .sub (gS sl 5) (.i .i64 16)) fun v59 =>
 bnd (xS ob 1 (gS sl 3) v59) fun v60 =>
 bnd (l1 ob v60) fun v61 =>
 bnd (bi .sub (gS sl 5) (.i .i64 7)) fun v62 =>
 bnd (xS ob 1 (gS sl 3) v62) fun v63 =>
 bnd (l1 ob v63) fun v64 =>
 bnd (bi .add v61 v64) fun v65 =>
 bnd (bi .add v65 v44) fun v66 =>
 bnd (bi .add v66 v58) fun v67 =>
 bndO (bldS ob 928 1 [v67]) ob fun v68 ob =>
 bndO (ap ob 936 1 (gS sl 3) v68) ob fun v69 ob =>
 bnd (bi .add (gS sl 5) (.i .i64 1)) fun v70 =>
 bnd (head [.row 3 95 1] [3, 5] [] [(3, v69), (5, v70)] ob) fun x => g x.1 x.2
  ) (
 fin ob os.length [1] [(gS sl 3)]
  )
noncomputable def m101b1 (Φ : Sem') (N : Nat) (os : List Obj') (g : SL → OB → Option R) (sl : SL) (ob : OB) : Option R :=
  bnd (bi .lss (gS sl 4) (.i .i64 16)) fun v1 =>
  br v1 (
 bnd (bi .mul (.i .i64 4) (gS sl 4)) fun v2 =>
 bnd (xS ob 1 (gS sl 0) v2) fun v3 =>
 bnd (l1 ob v3) fun v4 =>
 bnd (cv .u32 v4) fun v5 =>
 bnd (bi .mul (.i .u32 16777216) v5) fun v6 =>
 bnd (bi .mul (.i .i64 4) (gS sl 4)) fun v7 =>
 bnd (bi .add v7 (.i .i64 1)) fun v8 =>
 bnd (xS ob 1 (gS sl 0) v8) fun v9 =>
 bnd (l1 ob v9) fun v10 =>
 bnd (cv .u32 v10) fun v11 =>
 bnd (bi .mul (.i .u32 65536) v11) fun v12 =>
 bnd (bi .add v6 v12) fun v13 =>
 bnd (bi .mul (.i .i64 4) (gS sl 4)) fun v14 =>
 bnd (bi .add v14 (.i .i64 2)) fun v15 =>
 bnd (xS ob 1 (gS sl 0) v15) fun v16 =>
 bnd (l1 ob v16) fun v17 =>
 bnd (cv .u32 v17) fun v18 =>
 bnd (bi .mul (.i .u32 256) v18) fun v19 =>
 bnd (bi .add v13 v19) fun v20 =>
 bnd (bi .mul (.i .i64 4) (gS sl 4)) fun v21 =>
 bnd (bi .add v21 (.i .i64 3)) fun v22 =>
 bnd (xS ob 1 (gS sl 0) v22) fun v23 =>
 bnd (l1 ob v23) fun v24 =>
 bnd (cv .u32 v24) fun v25 =>
 bnd (bi .add v20 v25) fun v26 =>
 bndO (bldS ob 432 1 [v26]) ob fun v27 ob =>
 bndO (ap ob 440 1 (gS sl 3) v27) ob fun v28 ob =>
 bnd (bi .add (gS sl 4) (.i .i64 1)) fun v29 =>
 bnd (head [.row 3 95 1] [0, 3, 4] [] [(0, (gS sl 0)), (3, v28), (4, v29)] ob) fun x => g x.1 x.2
  ) (
 bnd (head [.row 3 95 1] [3, 5] [] [(3, (gS sl 3)), (5, (.i .i64 16))] ob) fun x => loopC (m101b0 Φ N os) N x.1 x.2
  )
noncomputable def m101 : Body := fun Φ N as os =>
  let a0 := gS (zipN 0 as) 0
  let ob := zipN 0 os
  bnd (head [.row 3 95 1] [0, 3, 4] [] [(0, a0), (3, (.e true)), (4, (.i .i64 0))] ob) fun x => loopC (m101b1 Φ N os) N x.1 x.2
def ann101 : Nat → Option Hd
  | 3 => some ⟨[.row 3 95 1], [0, 3, 4], [], []⟩ | 7 => some ⟨[.row 3 95 1], [3, 5], [], []⟩ | _ => none
def lab101 : Nat → Option Hd := fun _ => none
noncomputable def m102 : Body := fun Φ N as os =>
  let a0 := gS (zipN 0 as) 0
  let a1 := gS (zipN 0 as) 1
  let ob := zipN 0 os
  bnd (bi .shr a0 a1) fun v1 =>
  bnd (bi .sub (.i .u32 32) a1) fun v2 =>
  bnd (bi .shl a0 v2) fun v3 =>
  bnd (bi .or v1 v3) fun v4 =>
  fin ob os.length [0] [v4]
def ann102 : Nat → Option Hd := fun _ => none
def lab102 : Nat → Option Hd := fun _ => none
noncomputable def m103 : Body := fun Φ N as os =>
  let a0 := gS (zipN 0 as) 0
  let ob := zipN 0 os
  bnd (bld [.blob 64 (List.replicate 64 (.i .u32 0))] [(0, 1, (.i .u32 1116352408)), (1, 1, (.i .u32 1899447441)), (2, 1, (.i .u32 3049323471)), (3, 1, (.i .u32 3921009573)), (4, 1, (.i .u32 961987163)), (5, 1, (.i .u32 1508970993)), (6, 1, (.i .u32 2453635748)), (7, 1, (.i .u32 2870763221)), (8, 1, (.i .u32 3624381080)), (9, 1, (.i .u32 310598401)), (10, 1, (.i .u32 607225278)), (11, 1, (.i .u32 1426881987)), (12, 1, (.i .u32 1925078388)), (13, 1, (.i .u32 2162078206)), (14, 1, (.i .u32 2614888103)), (15, 1, (.i .u32 3248222580)), (16, 1, (.i .u32 3835390401)), (17, 1, (.i .u32 4022224774)), (18, 1, (.i .u32 264347078)), (19, 1, (.i .u32 604807628)), (20, 1, (.i .u32 770255983)), (21, 1, (.i .u32 1249150122)), (22, 1, (.i .u32 1555081692)), (23, 1, (.i .u32 1996064986)), (24, 1, (.i .u32 2554220882)), (25, 1, (.i .u32 2821834349)), (26, 1, (.i .u32 2952996808)), (27, 1, (.i .u32 3210313671)), (28, 1, (.i .u32 3336571891)), (29, 1, (.i .u32 3584528711)), (30, 1, (.i .u32 113926993)), (31, 1, (.i .u32 338241895)), (32, 1, (.i .u32 666307205)), (33, 1, (.i .u32 773529912)), (34, 1, (.i .u32 1294757372)), (35, 1, (.i .u32 1396182291)), (36, 1, (.i .u32 1695183700)), (37, 1, (.i .u32 1986661051)), (38, 1, (.i .u32 2177026350)), (39, 1, (.i .u32 2456956037)), (40, 1, (.i .u32 2730485921)), (41, 1, (.i .u32 2820302411)), (42, 1, (.i .u32 3259730800)), (43, 1, (.i .u32 3345764771)), (44, 1, (.i .u32 3516065817)), (45, 1, (.i .u32 3600352804)), (46, 1, (.i .u32 4094571909)), (47, 1, (.i .u32 275423344)), (48, 1, (.i .u32 430227734)), (49, 1, (.i .u32 506948616)), (50, 1, (.i .u32 659060556)), (51, 1, (.i .u32 883997877)), (52, 1, (.i .u32 958139571)), (53, 1, (.i .u32 1322822218)), (54, 1, (.i .u32 1537002063)), (55, 1, (.i .u32 1747873779)), (56, 1, (.i .u32 1955562222)), (57, 1, (.i .u32 2024104815)), (58, 1, (.i .u32 2227730452)), (59, 1, (.i .u32 2361852424)), (60, 1, (.i .u32 2428436474)), (61, 1, (.i .u32 2756734187)), (62, 1, (.i .u32 3204031479)), (63, 1, (.i .u32 3329325298))]) fun v1 =>
  bndO (al ob 88 [.blob 64 (List.replicate 64 (.i .u32 0))]) ob fun v2 ob =>
  bndO (st ob 64 v2 v1) ob fun _ ob =>
  bnd (xA 64 v2 a0) fun v3 =>
  bnd (l1 ob v3) fun v4 =>
  fin ob os.length [0] [v4]
def ann103 : Nat → Option Hd := fun _ => none
def lab103 : Nat → Option Hd := fun _ => none
noncomputable def m104b0 (Φ : Sem') (N : Nat) (os : List Obj') (g : SL → OB → Option R) (sl : SL) (ob : OB) : Option R :=
  bnd (bi .lss (gS sl 7) (.i .i64 64)) fun v3 =>
  br v3 (
 bnd (bi .lss (gS sl 7) (.i .i64 16)) fun v4 =>
 br v4 (
  bnd (bi .mul (.i .i64 4) (gS sl 7)) fun v5 =>
  bnd (xS ob 1 (gS sl 0) v5) fun v6 =>
  bnd (l1 ob v6) fun v7 =>
  bnd (cv .u32 v7) fun v8 =>
  bnd (bi .shl v8 (.i .u64 24)) fun v9 =>
  bnd (bi .mul (.i .i64 4) (gS sl 7)) fun v10 =>
  bnd (bi .add v10 (.i .i64 1)) fun v11 =>
  bnd (xS ob 1 (gS sl 0) v11) fun v12 =>
  bnd (l1 ob v12) fun v13 =>
  bnd (cv .u32 v13) fun v14 =>
  bnd (bi .shl v14 (.i .u64 16)) fun v15 =>
  bnd (bi .or v9 v15) fun v16 =>
  bnd (bi .mul (.i .i64 4) (gS sl 7)) fun v17 =>
  bnd (bi .add v17 (.i .i64 2)) fun v18 =>
  bnd (xS ob 1 (gS sl 0) v18) fun v19 =>
  bnd (l1 ob v19) fun v20 =>
  bnd (cv .u32 v20) fun v21 =>
  bnd (bi .shl v21 (.i .u64 8)) fun v22 =>
  bnd (bi .or v16 v22) fun v23 =>
  bnd (bi .mul (.i .i64 4) (gS sl 7)) fun v24 =>
  bnd (bi .add v24 (.i .i64 3)) fun v25 =>
  bnd (xS ob 1 (gS sl 0) v25) fun v26 =>
  bnd (l1 ob v26) fun v27 =>
  bnd (cv .u32 v27) fun v28 =>
  bnd (bi .or v23 v28) fun v29 =>
  bnd (xA 64 (gS sl 3) (gS sl 7)) fun v30 =>
  bndO (st ob 1 v30 v29) ob fun _ ob =>
  bnd (bi .add (gS sl 7) (.i .i64 1)) fun v31 =>
  bnd (head [] [0, 2, 3, 7] [80, 88] [(0, (gS sl 0)), (2, (gS sl 2)), (3, (gS sl 3)), (7, v31)] ob) fun x => g x.1 x.2
 ) (
  bnd (bi .sub (gS sl 7) (.i .i64 15)) fun v32 =>
  bnd (xA 64 (gS sl 3) v32) fun v33 =>
  bnd (l1 ob v33) fun v34 =>
  bnd (bi .sub (gS sl 7) (.i .i64 2)) fun v35 =>
  bnd (xA 64 (gS sl 3) v35) fun v36 =>
  bnd (l1 ob v36) fun v37 =>
  bnd (bi .sub (gS sl 7) (.i .i64 16)) fun v38 =>
  bnd (xA 64 (gS sl 3) v38) fun v39 =>
  bnd (l1 ob v39) fun v40 =>
  bnd (bi .sub (gS sl 7) (.i .i64 7)) fun v41 =>
  bnd (xA 64 (gS sl 3) v41) fun v42 =>
  bnd (l1 ob v42) fun v43 =>
  bnd (bi .add v40 v43) fun v44 =>
  bndO (ca0 Φ ob 592 false 105 [v34, (.i .i64 7)]) ob fun v45 ob =>
  bndO (ca0 Φ ob 608 false 105 [v34, (.i .i64 18)]) ob fun v46 ob =>
  bnd (bi .xor v45 v46) fun v47 =>
  bnd (bi .shr v34 (.i .u64 3)) fun v48 =>
  bnd (bi .xor v47 v48) fun v49 =>
  bnd (bi .add v44 v49) fun v50 =>
  bndO (ca0 Φ ob 664 false 105 [v37, (.i .i64 17)]) ob fun v51 ob =>
  bndO (ca0 Φ ob 680 false 105 [v37, (.i .i64 19)]) ob fun v52 ob =>
  bnd (bi .xor v51 v52) fun v53 =>
  bnd (bi .shr v37 (.i .u64 10)) fun v54 =>
  bnd (bi .xor v53 v54) fun v55 =>
  bnd (bi .add v50 v55) fun v56 =>
  bnd (xA 64 (gS sl 3) (gS sl 7)) fun v57 =>
  bndO (st ob 1 v57 v56) ob fun _ ob =>
  bnd (bi .add (gS sl 7) (.i .i64 1)) fun v58 =>
  bnd (head [] [0, 2, 3, 7] [80, 88] [(0, (gS sl 0)), (2, (gS sl 2)), (3, (gS sl 3)), (7, v58)] ob) fun x => g x.1 x.2
 )
  ) (
 bnd (lN ob 64 (gS sl 3)) fun v59 =>
 bndO (st ob 64 (gS sl 2) v59) ob fun _ ob =>
 bnd (lN ob 64 (gS sl 2)) fun v60 =>
 fin ob os.length [0] [v60]
  )
noncomputable def m104 : Body := fun Φ N as os =>
  let a0 := gS (zipN 0 as) 0
  let ob := zipN 0 os
  bndO (al ob 80 [.blob 64 (List.replicate 64 (.i .u32 0))]) ob fun v1 ob =>
  bndO (al ob 88 [.blob 64 (List.replicate 64 (.i .u32 0))]) ob fun v2 ob =>
  bnd (head [] [0, 2, 3, 7] [80, 88] [(0, a0), (2, v1), (3, v2), (7, (.i .i64 0))] ob) fun x => loopC (m104b0 Φ N os) N x.1 x.2
def ann104 : Nat → Option Hd
  | 3 => some ⟨[], [0, 2, 3, 7], [80, 88], []⟩ | _ => none
def lab104 : Nat → Option Hd := fun _ => none
noncomputable def m105 : Body := fun Φ N as os =>
  let a0 := gS (zipN 0 as) 0
  let a1 := gS (zipN 0 as) 1
  let ob := zipN 0 os
  bnd (uO .neg a1) fun v1 =>
  bndO (ca0 Φ ob 128 false 106 [a0, v1]) ob fun v2 ob =>
  fin ob os.length [0] [v2]
def ann105 : Nat → Option Hd := fun _ => none
def lab105 : Nat → Option Hd := fun _ => none
noncomputable def m106 : Body := fun Φ N as os =>
  let a0 := gS (zipN 0 as) 0
  let a1 := gS (zipN 0 as) 1
  let ob := zipN 0 os
  bnd (cv .u64 a1) fun v1 =>
  bnd (bi .and v1 (.i .u64 31)) fun v2 =>
  bnd (bi .shl a0 v2) fun v3 =>
  bnd (bi .sub (.i .u64 32) v2) fun v4 =>
  bnd (bi .shr a0 v4) fun v5 =>
  bnd (bi .or v3 v5) fun v6 =>
  fin ob os.length [0] [v6]
def ann106 : Nat → Option Hd := fun _ => none
def lab106 : Nat → Option Hd := fun _ => none
noncomputable def tab : Nat → Option Body
  | 3 => some m3
  | 9 => some m9
  | 10 => some m10
  | 11 => some m11
  | 12 => some m12
  | 13 => some m13
  | 14 => some m14
  | 15 => some m15
  | 16 => some m16
  | 17 => some m17
  | 18 => some m18
  | 19 => some m19
  | 20 => some m20
  | 21 => some m21
  | 22 => some m22
  | 23 => some m23
  | 24 => some m24
  | 25 => some m25
  | 26 => some m26
  | 27 => some m27
  | 28 => some m28
  | 29 => some m29
  | 30 => some m30
  | 31 => some m31
  | 32 => some m32
  | 33 => some m33
  | 34 => some m34
  | 35 => some m35
  | 36 => some m36
  | 37 => some m37
  | 38 => some m38
  | 39 => some m39
  | 40 => some m40
  | 41 => some m41
  | 42 => some m42
  | 43 => some m43
  | 44 => some m44
  | 45 => some m45
  | 46 => some m46
  | 47 => some m47
  | 48 => some m48
  | 49 => some m49
  | 50 => some m50
  | 51 => some m51
  | 52 => some m52
  | 53 => some m53
  | 54 => some m54
  | 55 => some m55
  | 56 => some m56
  | 57 => some m57
  | 58 => some m58
  | 59 => some m59
  | 60 => some m60
  | 61 => some m61
  | 62 => some m62
  | 63 => some m63
  | 64 => some m64
  | 65 => some m65
  | 66 => some m66
  | 67 => some m67
  | 68 => some m68
  | 69 => some m69
  | 70 => some m70
  | 71 => some m71
  | 72 => some m72
  | 73 => some m73
  | 74 => some m74
  | 75 => some m75
  | 76 => some m76
  | 77 => some m77
  | 78 => some m78
  | 79 => some m79
  | 80 => some m80
  | 81 => some m81
  | 82 => some m82
  | 83 => some m83
  | 84 => some m84
  | 85 => some m85
  | 86 => some m86
  | 87 => some m87
  | 88 => some m88
  | 89 => some m89
  | 90 => some m90
  | 91 => some m91
  | 92 => some m92
  | 93 => some m93
  | 94 => some m94
  | 95 => some m95
  | 96 => some m96
  | 97 => some m97
  | 98 => some m98
  | 99 => some m99
  | 100 => some m100
  | 101 => some m101
  | 102 => some m102
  | 103 => some m103
  | 104 => some m104
  | 105 => some m105
  | 106 => some m106
  | _ => none
end Go.Proofs.YtmhpkdcnhgmblaaDoor
