/-
  The functions' code, as plain functions: printed by run4.py.
-/
import Derived.Test.YtcimkkcajkmfoaaDoorDen
set_option linter.all false
set_option linter.unusedVariables false
namespace Go.Proofs.YtcimkkcajkmfoaaDoor
open Go
def nFirst : List Int := [1779033703, 3144134277, 1013904242, 2773480762, 1359893119, 2600822924, 528734635, 1541459225]
def nMore : List Int := [1116352408, 1899447441, 3049323471, 3921009573, 961987163, 1508970993, 2453635748, 2870763221, 3624381080, 310598401, 607225278, 1426881987, 1925078388, 2162078206, 2614888103, 3248222580, 3835390401, 4022224774, 264347078, 604807628, 770255983, 1249150122, 1555081692, 1996064986, 2554220882, 2821834349, 2952996808, 3210313671, 3336571891, 3584528711, 113926993, 338241895, 666307205, 773529912, 1294757372, 1396182291, 1695183700, 1986661051, 2177026350, 2456956037, 2730485921, 2820302411, 3259730800, 3345764771, 3516065817, 3600352804, 4094571909, 275423344, 430227734, 506948616, 659060556, 883997877, 958139571, 1322822218, 1537002063, 1747873779, 1955562222, 2024104815, 2227730452, 2361852424, 2428436474, 2756734187, 3204031479, 3329325298]
def gFirst : List PV := [.blob 8 (nFirst.map (.i .u32))]
def gMore : List PV := [.blob 64 (nMore.map (.i .u32))]
/- pelican/pelicanlaw08.UserTells -/
noncomputable def m3 : Body := fun Φ N as os =>
  let a0 := gS (zipN 0 as) 0
  let a1 := gS (zipN 0 as) 1
  let a2 := gS (zipN 0 as) 2
  let a3 := gS (zipN 0 as) 3
  let a4 := gS (zipN 0 as) 4
  let a5 := gS (zipN 0 as) 5
  let a6 := gS (zipN 0 as) 6
  let ob := zipN 0 os
  bndO (bx ob 144 a3) ob fun v1 ob =>
  bndO (ca0 Φ ob 256 false 15 []) ob fun v2 ob =>
  bndO (ca0 Φ ob 272 true 16 [a0]) ob fun v3 ob =>
  bndO (ca0 Φ ob 288 true 16 [a1]) ob fun v4 ob =>
  bnd (uO .not v2) fun v5 =>
  bnd (gd v5 false (some v3)) fun v6 =>
  bnd (gd v5 false (uO .not v6)) fun v7 =>
  bnd (pk v5 (.b true) v7) fun v8 =>
  bnd (gd v8 false (some v4)) fun v9 =>
  bnd (gd v8 false (uO .not v9)) fun v10 =>
  bnd (pk v8 (.b true) v10) fun v11 =>
  bnd (gd v11 false (fA 2 v1)) fun v12 =>
  bnd (gd v11 false (l1 ob v12)) fun v13 =>
  bnd (gd v11 false (len v13)) fun v14 =>
  bnd (gd v11 false (bi .gtr v14 (.i .i64 100))) fun v15 =>
  bnd (pk v11 (.b true) v15) fun v16 =>
  br v16 (
   fin ob os.length [0] [v2]
  ) (
   bnd (lN ob 3 v1) fun v17 =>
   bndO (ca0 Φ ob 472 false 17 [v17, a4, a5, a6]) ob fun v18 ob =>
   bnd (ext 0 v18) fun v19 =>
   bnd (ext 1 v18) fun v20 =>
   bndO (al ob 208 [.blob 32 (List.replicate 32 (.i .u8 0))]) ob fun v21 ob =>
   bndO (st ob 32 v21 v19) ob fun _ ob =>
   bnd (lN ob 3 v1) fun v22 =>
   bndO (ca0 Φ ob 536 false 18 [v22, a4, a5, a6]) ob fun v23 ob =>
   bnd (ext 0 v23) fun v24 =>
   bnd (ext 1 v23) fun v25 =>
   bndO (al ob 224 [.blob 32 (List.replicate 32 (.i .u8 0))]) ob fun v26 ob =>
   bndO (st ob 32 v26 v24) ob fun _ ob =>
   bndO (ca0 Φ ob 568 true 19 [a0]) ob fun v27 ob =>
   bndO (ca0 Φ ob 592 true 20 [a0, a1]) ob fun v28 ob =>
   bnd (lN ob 32 v21) fun v29 =>
   bnd (lN ob 32 v26) fun v30 =>
   bnd (eAr false 32 v29 v30) fun v31 =>
   bnd (gd v31 true (some v20)) fun v32 =>
   bnd (gd v31 true (some v25)) fun v33 =>
   bnd (gd v31 true (biB .eql v32 v33)) fun v34 =>
   bnd (pk v31 v34 (.b false)) fun v35 =>
   bnd (gd v35 true (some a0)) fun v36 =>
   bndO (gdO v35 true (ca0 Φ ob 680 true 21 [v36])) ob fun v37 ob =>
   bnd (gd v35 true (some v27)) fun v38 =>
   bnd (gd v35 true (biB .eql v37 v38)) fun v39 =>
   bnd (pk v35 v39 (.b false)) fun v40 =>
   bnd (gd v40 true (some a0)) fun v41 =>
   bnd (gd v40 true (some a1)) fun v42 =>
   bndO (gdO v40 true (ca0 Φ ob 736 true 22 [v41, v42])) ob fun v43 ob =>
   bnd (gd v40 true (some v28)) fun v44 =>
   bnd (gd v40 true (biB .eql v43 v44)) fun v45 =>
   bnd (pk v40 v45 (.b false)) fun v46 =>
   bnd (gd v46 true (some a0)) fun v47 =>
   bnd (gd v46 true (some a2)) fun v48 =>
   bndO (gdO v46 true (ca0 Φ ob 792 true 23 [v47, v48])) ob fun v49 ob =>
   bnd (gd v46 true (some a0)) fun v50 =>
   bnd (gd v46 true (some a2)) fun v51 =>
   bndO (gdO v46 true (ca0 Φ ob 816 true 24 [v50, v51])) ob fun v52 ob =>
   bnd (gd v46 true (bi .eql v49 v52)) fun v53 =>
   bnd (pk v46 v53 (.b false)) fun v54 =>
   bnd (gd v54 true (some a0)) fun v55 =>
   bnd (gd v54 true (some a2)) fun v56 =>
   bndO (gdO v54 true (ca0 Φ ob 864 true 25 [v55, v56])) ob fun v57 ob =>
   bnd (gd v54 true (some a0)) fun v58 =>
   bnd (gd v54 true (some a2)) fun v59 =>
   bndO (gdO v54 true (ca0 Φ ob 888 true 26 [v58, v59])) ob fun v60 ob =>
   bnd (gd v54 true (bi .eql v57 v60)) fun v61 =>
   bnd (pk v54 v61 (.b false)) fun v62 =>
   fin ob os.length [0] [v62]
  )

def ann3 : Nat → Option Hd := fun _ => none
def lab3 : Nat → Option Hd := fun _ => none
/- pelican/pelicanlaw08.UserFind -/
noncomputable def m4 : Body := fun Φ N as os =>
  let a0 := gS (zipN 0 as) 0
  let a1 := gS (zipN 0 as) 1
  let a2 := gS (zipN 0 as) 2
  let ob := zipN 0 os
  bndO (ca0 Φ ob 144 false 15 []) ob fun v1 ob =>
  bndO (ca0 Φ ob 160 true 16 [a0]) ob fun v2 ob =>
  bnd (uO .not v1) fun v3 =>
  bnd (gd v3 false (some v2)) fun v4 =>
  bnd (gd v3 false (uO .not v4)) fun v5 =>
  bnd (pk v3 (.b true) v5) fun v6 =>
  bnd (gd v6 false (some a0)) fun v7 =>
  bndO (gdO v6 false (ca0 Φ ob 232 true 21 [v7])) ob fun v8 ob =>
  bnd (gd v6 false (uO .not v8)) fun v9 =>
  bnd (pk v6 (.b true) v9) fun v10 =>
  br v10 (
   fin ob os.length [0] [v1]
  ) (
   bndO (ca0 Φ ob 280 true 23 [a0, a1]) ob fun v11 ob =>
   bnd (bi .geq a2 (.i .i64 0)) fun v12 =>
   bnd (gd v12 true (some a2)) fun v13 =>
   bnd (gd v12 true (some a0)) fun v14 =>
   bnd (gd v12 true (len v14)) fun v15 =>
   bnd (gd v12 true (bi .lss v13 v15)) fun v16 =>
   bnd (pk v12 v16 (.b false)) fun v17 =>
   bnd (gd v17 true (some a0)) fun v18 =>
   bnd (gd v17 true (some a0)) fun v19 =>
   bnd (gd v17 true (some a2)) fun v20 =>
   bnd (gd v17 true (xS ob 3 v19 v20)) fun v21 =>
   bnd (gd v17 true (fA 0 v21)) fun v22 =>
   bnd (gd v17 true (l1 ob v22)) fun v23 =>
   bndO (gdO v17 true (ca0 Φ ob 408 true 23 [v18, v23])) ob fun v24 ob =>
   bnd (gd v17 true (some a2)) fun v25 =>
   bnd (gd v17 true (bi .neq v24 v25)) fun v26 =>
   bnd (gd v17 true (some v26)) fun v27 =>
   bnd (gd v27 false (some a0)) fun v28 =>
   bnd (gd v27 false (some a0)) fun v29 =>
   bnd (gd v27 false (some a2)) fun v30 =>
   bnd (gd v27 false (xS ob 3 v29 v30)) fun v31 =>
   bnd (gd v27 false (fA 0 v31)) fun v32 =>
   bnd (gd v27 false (l1 ob v32)) fun v33 =>
   bndO (gdO v27 false (ca0 Φ ob 488 true 25 [v28, v33])) ob fun v34 ob =>
   bnd (gd v27 false (some a0)) fun v35 =>
   bnd (gd v27 false (some a2)) fun v36 =>
   bnd (gd v27 false (xS ob 3 v35 v36)) fun v37 =>
   bnd (gd v27 false (fA 1 v37)) fun v38 =>
   bnd (gd v27 false (l1 ob v38)) fun v39 =>
   bnd (gd v27 false (bi .neq v34 v39)) fun v40 =>
   bnd (gd v17 true (pk v27 (.b true) v40)) fun v41 =>
   bnd (gd v17 true (some v41)) fun v42 =>
   bnd (gd v42 false (some a0)) fun v43 =>
   bnd (gd v42 false (some a2)) fun v44 =>
   bnd (gd v42 false (xS ob 3 v43 v44)) fun v45 =>
   bnd (gd v42 false (fA 0 v45)) fun v46 =>
   bnd (gd v42 false (l1 ob v46)) fun v47 =>
   bnd (gd v42 false (some a1)) fun v48 =>
   bnd (gd v42 false (bi .eql v47 v48)) fun v49 =>
   bnd (gd v42 false (some v49)) fun v50 =>
   bnd (gd v50 true (some v11)) fun v51 =>
   bnd (gd v50 true (some a2)) fun v52 =>
   bnd (gd v50 true (bi .neq v51 v52)) fun v53 =>
   bnd (gd v42 false (pk v50 v53 (.b false))) fun v54 =>
   bnd (gd v17 true (pk v42 (.b true) v54)) fun v55 =>
   bnd (pk v17 v55 (.b false)) fun v56 =>
   br v56 (
    fin ob os.length [0] [(.b false)]
   ) (
    bnd (bi .eql v11 (.i .i64 (-1))) fun v57 =>
    bnd (gd v57 true (some a0)) fun v58 =>
    bnd (gd v57 true (some a1)) fun v59 =>
    bndO (gdO v57 true (ca0 Φ ob 712 true 25 [v58, v59])) ob fun v60 ob =>
    bnd (gd v57 true (bi .eql v60 (.i .i64 (-1)))) fun v61 =>
    bnd (pk v57 v61 (.b false)) fun v62 =>
    bnd (gd v62 false (some v11)) fun v63 =>
    bnd (gd v62 false (bi .geq v63 (.i .i64 0))) fun v64 =>
    bnd (gd v62 false (some v64)) fun v65 =>
    bnd (gd v65 true (some v11)) fun v66 =>
    bnd (gd v65 true (some a0)) fun v67 =>
    bnd (gd v65 true (len v67)) fun v68 =>
    bnd (gd v65 true (bi .lss v66 v68)) fun v69 =>
    bnd (gd v62 false (pk v65 v69 (.b false))) fun v70 =>
    bnd (gd v62 false (some v70)) fun v71 =>
    bnd (gd v71 true (some a0)) fun v72 =>
    bnd (gd v71 true (some v11)) fun v73 =>
    bnd (gd v71 true (xS ob 3 v72 v73)) fun v74 =>
    bnd (gd v71 true (fA 0 v74)) fun v75 =>
    bnd (gd v71 true (l1 ob v75)) fun v76 =>
    bnd (gd v71 true (some a1)) fun v77 =>
    bnd (gd v71 true (bi .eql v76 v77)) fun v78 =>
    bnd (gd v62 false (pk v71 v78 (.b false))) fun v79 =>
    bnd (gd v62 false (some v79)) fun v80 =>
    bnd (gd v80 true (some a0)) fun v81 =>
    bnd (gd v80 true (some a1)) fun v82 =>
    bndO (gdO v80 true (ca0 Φ ob 904 true 25 [v81, v82])) ob fun v83 ob =>
    bndO (gdO v80 true (ca0 Φ ob 912 false 27 [v83])) ob fun v84 ob =>
    bnd (gd v62 false (pk v80 v84 (.b false))) fun v85 =>
    bnd (pk v62 (.b true) v85) fun v86 =>
    fin ob os.length [0] [v86]
   )
  )

def ann4 : Nat → Option Hd := fun _ => none
def lab4 : Nat → Option Hd := fun _ => none
/- pelican/pelicanlaw08.UserFewer -/
noncomputable def m5 : Body := fun Φ N as os =>
  let a0 := gS (zipN 0 as) 0
  let a1 := gS (zipN 0 as) 1
  let a2 := gS (zipN 0 as) 2
  let ob := zipN 0 os
  bndO (ca0 Φ ob 144 false 15 []) ob fun v1 ob =>
  bndO (ca0 Φ ob 160 true 16 [a0]) ob fun v2 ob =>
  bnd (uO .not v1) fun v3 =>
  bnd (gd v3 false (some v2)) fun v4 =>
  bnd (gd v3 false (uO .not v4)) fun v5 =>
  bnd (pk v3 (.b true) v5) fun v6 =>
  bnd (gd v6 false (some a0)) fun v7 =>
  bndO (gdO v6 false (ca0 Φ ob 232 true 21 [v7])) ob fun v8 ob =>
  bnd (gd v6 false (uO .not v8)) fun v9 =>
  bnd (pk v6 (.b true) v9) fun v10 =>
  bnd (gd v10 false (some a1)) fun v11 =>
  bnd (gd v10 false (bi .lss v11 (.i .i64 0))) fun v12 =>
  bnd (pk v10 (.b true) v12) fun v13 =>
  bnd (gd v13 false (some a1)) fun v14 =>
  bnd (gd v13 false (some a0)) fun v15 =>
  bnd (gd v13 false (len v15)) fun v16 =>
  bnd (gd v13 false (bi .geq v14 v16)) fun v17 =>
  bnd (pk v13 (.b true) v17) fun v18 =>
  br v18 (
   fin ob os.length [0] [v1]
  ) (
   bndO (slc ob (.slice 3) a0 none (some a1) none) ob fun v19 ob =>
   bndO (ap ob 368 3 (.e true) v19) ob fun v20 ob =>
   bnd (dis [(.e true), v19] [a1, (.i .i64 1)]) fun _ =>
   bnd (bi .add a1 (.i .i64 1)) fun v21 =>
   bnd (dis [(.e true), v19] [a0]) fun _ =>
   bndO (slc ob (.slice 3) a0 (some v21) none none) ob fun v22 ob =>
   bndO (ap ob 408 3 v20 v22) ob fun v23 ob =>
   bndO (ca0 Φ ob 424 true 21 [v23]) ob fun v24 ob =>
   bnd (uO .not v24) fun v25 =>
   bnd (gd v25 false (some v23)) fun v26 =>
   bnd (gd v25 false (some a0)) fun v27 =>
   bnd (gd v25 false (some a1)) fun v28 =>
   bnd (gd v25 false (xS ob 3 v27 v28)) fun v29 =>
   bnd (gd v25 false (fA 0 v29)) fun v30 =>
   bnd (gd v25 false (l1 ob v30)) fun v31 =>
   bndO (gdO v25 false (ca0 Φ ob 496 true 23 [v26, v31])) ob fun v32 ob =>
   bnd (gd v25 false (bi .neq v32 (.i .i64 (-1)))) fun v33 =>
   bnd (pk v25 (.b true) v33) fun v34 =>
   br v34 (
    fin ob os.length [0] [(.b false)]
   ) (
    bnd (xS ob 3 a0 a1) fun v35 =>
    bnd (fA 0 v35) fun v36 =>
    bnd (l1 ob v36) fun v37 =>
    bnd (bi .eql a2 v37) fun v38 =>
    bnd (gd v38 false (some v23)) fun v39 =>
    bnd (gd v38 false (some a2)) fun v40 =>
    bndO (gdO v38 false (ca0 Φ ob 600 true 25 [v39, v40])) ob fun v41 ob =>
    bnd (gd v38 false (some a0)) fun v42 =>
    bnd (gd v38 false (some a2)) fun v43 =>
    bndO (gdO v38 false (ca0 Φ ob 624 true 25 [v42, v43])) ob fun v44 ob =>
    bnd (gd v38 false (bi .eql v41 v44)) fun v45 =>
    bnd (pk v38 (.b true) v45) fun v46 =>
    fin ob os.length [0] [v46]
   )
  )

def ann5 : Nat → Option Hd := fun _ => none
def lab5 : Nat → Option Hd := fun _ => none
/- pelican/pelicanlaw08.UserSecret -/
noncomputable def m6 : Body := fun Φ N as os =>
  let a0 := gS (zipN 0 as) 0
  let a1 := gS (zipN 0 as) 1
  let a2 := gS (zipN 0 as) 2
  let a3 := gS (zipN 0 as) 3
  let ob := zipN 0 os
  bndO (bx ob 96 a0) ob fun v1 ob =>
  bndO (ca0 Φ ob 192 false 15 []) ob fun v2 ob =>
  bnd (uO .not v2) fun v3 =>
  bnd (gd v3 false (fA 2 v1)) fun v4 =>
  bnd (gd v3 false (l1 ob v4)) fun v5 =>
  bnd (gd v3 false (len v5)) fun v6 =>
  bnd (gd v3 false (bi .gtr v6 (.i .i64 100))) fun v7 =>
  bnd (pk v3 (.b true) v7) fun v8 =>
  br v8 (
   fin ob os.length [0] [v2]
  ) (
   bnd (lN ob 3 v1) fun v9 =>
   bndO (ca0 Φ ob 312 false 17 [v9, a1, a2, a3]) ob fun v10 ob =>
   bnd (ext 0 v10) fun v11 =>
   bnd (ext 1 v10) fun v12 =>
   bndO (al ob 144 [.blob 32 (List.replicate 32 (.i .u8 0))]) ob fun v13 ob =>
   bndO (st ob 32 v13 v11) ob fun _ ob =>
   bnd (lN ob 3 v1) fun v14 =>
   bndO (bldS ob 352 3 [v14]) ob fun v15 ob =>
   bndO (ca0 Φ ob 360 true 21 [v15]) ob fun v16 ob =>
   bnd (gd v16 true (some a1)) fun v17 =>
   bnd (gd v16 true (bi .geq v17 (.i .i64 0))) fun v18 =>
   bnd (pk v16 v18 (.b false)) fun v19 =>
   bnd (gd v19 true (some a1)) fun v20 =>
   bnd (gd v19 true (bi .leq v20 (.i .i64 1073741824))) fun v21 =>
   bnd (pk v19 v21 (.b false)) fun v22 =>
   bnd (biB .neq v12 v22) fun v23 =>
   br v23 (
    fin ob os.length [0] [(.b false)]
   ) (
    bnd (uO .not v12) fun v24 =>
    br v24 (
     bnd (lN ob 32 v13) fun v25 =>
     bnd (bld [.blob 32 (List.replicate 32 (.i .u8 0))] []) fun v26 =>
     bnd (eAr false 32 v25 v26) fun v27 =>
     fin ob os.length [0] [v27]
    ) (
     bnd (cv .u64 a1) fun v28 =>
     bnd (bld [.i .u64 0, .i .i64 0] [(0, 1, v28), (1, 1, (.i .i64 4))]) fun v29 =>
     bnd (bld [.i .u64 0, .i .i64 0] [(0, 1, a2), (1, 1, (.i .i64 8))]) fun v30 =>
     bnd (bld [.i .u64 0, .i .i64 0] [(0, 1, a3), (1, 1, (.i .i64 8))]) fun v31 =>
     bnd (fA 0 v1) fun v32 =>
     bnd (l1 ob v32) fun v33 =>
     bnd (cv .u64 v33) fun v34 =>
     bnd (bld [.i .u64 0, .i .i64 0] [(0, 1, v34), (1, 1, (.i .i64 1))]) fun v35 =>
     bndO (bldS ob 576 2 [v29, v30, v31, v35]) ob fun v36 ob =>
     bndO (ca0 Φ ob 584 false 28 [v36]) ob fun v37 ob =>
     bnd (ext 0 v37) fun v38 =>
     bnd (ext 1 v37) fun v39 =>
     bnd (fA 2 v1) fun v40 =>
     bnd (l1 ob v40) fun v41 =>
     bndO (ca0 Φ ob 640 false 29 [v41, (.s [115, 101, 115, 115, 105, 111, 110]), v38]) ob fun v42 ob =>
     bnd (ext 0 v42) fun v43 =>
     bnd (ext 1 v42) fun v44 =>
     bndO (al ob 176 [.blob 32 (List.replicate 32 (.i .u8 0))]) ob fun v45 ob =>
     bndO (st ob 32 v45 v43) ob fun _ ob =>
     bnd (gd v39 true (some v38)) fun v46 =>
     bnd (gd v39 true (len v46)) fun v47 =>
     bnd (gd v39 true (bi .eql v47 (.i .i64 21))) fun v48 =>
     bnd (pk v39 v48 (.b false)) fun v49 =>
     bnd (gd v49 true (some v44)) fun v50 =>
     bnd (pk v49 v50 (.b false)) fun v51 =>
     bnd (gd v51 true (lN ob 32 v13)) fun v52 =>
     bnd (gd v51 true (lN ob 32 v45)) fun v53 =>
     bnd (gd v51 true (eAr false 32 v52 v53)) fun v54 =>
     bnd (pk v51 v54 (.b false)) fun v55 =>
     fin ob os.length [0] [v55]
    )
   )
  )

def ann6 : Nat → Option Hd := fun _ => none
def lab6 : Nat → Option Hd := fun _ => none
/- pelican/pelicanlaw08.UserRole -/
noncomputable def m7 : Body := fun Φ N as os =>
  let a0 := gS (zipN 0 as) 0
  let a1 := gS (zipN 0 as) 1
  let a2 := gS (zipN 0 as) 2
  let a3 := gS (zipN 0 as) 3
  let a4 := gS (zipN 0 as) 4
  let ob := zipN 0 os
  bndO (bx ob 104 a0) ob fun v1 ob =>
  bndO (ca0 Φ ob 192 false 15 []) ob fun v2 ob =>
  bnd (uO .not v2) fun v3 =>
  bnd (gd v3 false (fA 2 v1)) fun v4 =>
  bnd (gd v3 false (l1 ob v4)) fun v5 =>
  bnd (gd v3 false (len v5)) fun v6 =>
  bnd (gd v3 false (bi .gtr v6 (.i .i64 100))) fun v7 =>
  bnd (pk v3 (.b true) v7) fun v8 =>
  bnd (gd v8 false (some a1)) fun v9 =>
  bndO (gdO v8 false (ca0 Φ ob 280 false 27 [v9])) ob fun v10 ob =>
  bnd (gd v8 false (uO .not v10)) fun v11 =>
  bnd (pk v8 (.b true) v11) fun v12 =>
  bnd (gd v12 false (fA 1 v1)) fun v13 =>
  bnd (gd v12 false (l1 ob v13)) fun v14 =>
  bndO (gdO v12 false (ca0 Φ ob 328 false 27 [v14])) ob fun v15 ob =>
  bnd (gd v12 false (uO .not v15)) fun v16 =>
  bnd (pk v12 (.b true) v16) fun v17 =>
  br v17 (
   fin ob os.length [0] [v2]
  ) (
   bnd (lN ob 3 v1) fun v18 =>
   bndO (ca0 Φ ob 400 false 17 [v18, a2, a3, a4]) ob fun v19 ob =>
   bnd (ext 0 v19) fun v20 =>
   bnd (ext 1 v19) fun v21 =>
   bndO (al ob 160 [.blob 32 (List.replicate 32 (.i .u8 0))]) ob fun v22 ob =>
   bndO (st ob 32 v22 v20) ob fun _ ob =>
   bnd (fA 1 v1) fun v23 =>
   bndO (st ob 1 v23 a1) ob fun _ ob =>
   bnd (lN ob 3 v1) fun v24 =>
   bndO (ca0 Φ ob 480 false 17 [v24, a2, a3, a4]) ob fun v25 ob =>
   bnd (ext 0 v25) fun v26 =>
   bnd (ext 1 v25) fun v27 =>
   bndO (al ob 176 [.blob 32 (List.replicate 32 (.i .u8 0))]) ob fun v28 ob =>
   bndO (st ob 32 v28 v26) ob fun _ ob =>
   bnd (lN ob 32 v22) fun v29 =>
   bnd (lN ob 32 v28) fun v30 =>
   bnd (eAr false 32 v29 v30) fun v31 =>
   bnd (gd v31 true (some v21)) fun v32 =>
   bnd (gd v31 true (some v27)) fun v33 =>
   bnd (gd v31 true (biB .eql v32 v33)) fun v34 =>
   bnd (pk v31 v34 (.b false)) fun v35 =>
   fin ob os.length [0] [v35]
  )

def ann7 : Nat → Option Hd := fun _ => none
def lab7 : Nat → Option Hd := fun _ => none
/- pelican/pelicanlaw08.UserMore -/
noncomputable def m8 : Body := fun Φ N as os =>
  let a0 := gS (zipN 0 as) 0
  let a1 := gS (zipN 0 as) 1
  let ob := zipN 0 os
  bndO (bx ob 88 a1) ob fun v1 ob =>
  bndO (ca0 Φ ob 136 false 15 []) ob fun v2 ob =>
  bndO (ca0 Φ ob 152 true 16 [a0]) ob fun v3 ob =>
  bnd (uO .not v2) fun v4 =>
  bnd (gd v4 false (some v3)) fun v5 =>
  bnd (gd v4 false (uO .not v5)) fun v6 =>
  bnd (pk v4 (.b true) v6) fun v7 =>
  bnd (gd v7 false (fA 2 v1)) fun v8 =>
  bnd (gd v7 false (l1 ob v8)) fun v9 =>
  bnd (gd v7 false (len v9)) fun v10 =>
  bnd (gd v7 false (bi .gtr v10 (.i .i64 100))) fun v11 =>
  bnd (pk v7 (.b true) v11) fun v12 =>
  bnd (gd v12 false (some a0)) fun v13 =>
  bndO (gdO v12 false (ca0 Φ ob 272 true 21 [v13])) ob fun v14 ob =>
  bnd (gd v12 false (uO .not v14)) fun v15 =>
  bnd (pk v12 (.b true) v15) fun v16 =>
  br v16 (
   fin ob os.length [0] [v2]
  ) (
   bndO (ap ob 312 3 (.e true) a0) ob fun v17 ob =>
   bnd (dis [(.e true), a0] [v1]) fun _ =>
   bnd (lN ob 3 v1) fun v18 =>
   bndO (bldS ob 328 3 [v18]) ob fun v19 ob =>
   bndO (ap ob 336 3 v17 v19) ob fun v20 ob =>
   bnd (len a0) fun v21 =>
   bnd (bi .eql v21 (.i .i64 0)) fun v22 =>
   bnd (gd v22 false (fA 0 v1)) fun v23 =>
   bnd (gd v22 false (l1 ob v23)) fun v24 =>
   bnd (gd v22 false (some a0)) fun v25 =>
   bnd (gd v22 false (some a0)) fun v26 =>
   bnd (gd v22 false (len v26)) fun v27 =>
   bnd (gd v22 false (bi .sub v27 (.i .i64 1))) fun v28 =>
   bnd (gd v22 false (xS ob 3 v25 v28)) fun v29 =>
   bnd (gd v22 false (fA 0 v29)) fun v30 =>
   bnd (gd v22 false (l1 ob v30)) fun v31 =>
   bnd (gd v22 false (bi .gtr v24 v31)) fun v32 =>
   bnd (pk v22 (.b true) v32) fun v33 =>
   bndO (ca0 Φ ob 472 true 21 [v20]) ob fun v34 ob =>
   bnd (len a0) fun v35 =>
   bnd (bi .lss v35 (.i .i64 8)) fun v36 =>
   bnd (gd v36 true (some v33)) fun v37 =>
   bnd (pk v36 v37 (.b false)) fun v38 =>
   bnd (gd v38 true (lN ob 3 v1)) fun v39 =>
   bndO (gdO v38 true (bldS ob 544 3 [v39])) ob fun v40 ob =>
   bndO (gdO v38 true (ca0 Φ ob 552 true 21 [v40])) ob fun v41 ob =>
   bnd (pk v38 v41 (.b false)) fun v42 =>
   bnd (biB .eql v34 v42) fun v43 =>
   fin ob os.length [0] [v43]
  )

def ann8 : Nat → Option Hd := fun _ => none
def lab8 : Nat → Option Hd := fun _ => none
/- pelican/pelicanlaw08.awake -/
noncomputable def m15 : Body := fun Φ N as os =>
  let ob := zipN 0 os
  bndO (ca0 Φ ob 96 false 47 [(.i .u8 1)]) ob fun v1 ob =>
  bnd (bld [.i .i64 0, .i .i64 0, .e true] [(0, 1, (.i .i64 3)), (2, 1, v1)]) fun v2 =>
  bndO (ca0 Φ ob 112 false 47 [(.i .u8 2)]) ob fun v3 ob =>
  bnd (bld [.i .i64 0, .i .i64 0, .e true] [(0, 1, (.i .i64 7)), (1, 1, (.i .i64 2)), (2, 1, v3)]) fun v4 =>
  bndO (bldS ob 128 3 [v2, v4]) ob fun v5 ob =>
  bnd (xS ob 3 v5 (.i .i64 0)) fun v6 =>
  bnd (lN ob 3 v6) fun v7 =>
  bndO (ca0 Φ ob 168 false 17 [v7, (.i .i64 1), (.i .u64 2), (.i .u64 3)]) ob fun v8 ob =>
  bnd (ext 0 v8) fun v9 =>
  bnd (ext 1 v8) fun v10 =>
  bndO (al ob 80 [.blob 32 (List.replicate 32 (.i .u8 0))]) ob fun v11 ob =>
  bndO (st ob 32 v11 v9) ob fun _ ob =>
  bndO (ca0 Φ ob 200 true 21 [v5]) ob fun v12 ob =>
  bnd (gd v12 true (some v5)) fun v13 =>
  bndO (gdO v12 true (ca0 Φ ob 224 true 23 [v13, (.i .i64 7)])) ob fun v14 ob =>
  bnd (gd v12 true (bi .eql v14 (.i .i64 1))) fun v15 =>
  bnd (pk v12 v15 (.b false)) fun v16 =>
  bnd (gd v16 true (some v5)) fun v17 =>
  bndO (gdO v16 true (ca0 Φ ob 264 true 23 [v17, (.i .i64 5)])) ob fun v18 ob =>
  bnd (gd v16 true (bi .eql v18 (.i .i64 (-1)))) fun v19 =>
  bnd (pk v16 v19 (.b false)) fun v20 =>
  bnd (gd v20 true (some v5)) fun v21 =>
  bndO (gdO v20 true (ca0 Φ ob 304 true 25 [v21, (.i .i64 7)])) ob fun v22 ob =>
  bnd (gd v20 true (bi .eql v22 (.i .i64 2))) fun v23 =>
  bnd (pk v20 v23 (.b false)) fun v24 =>
  bnd (gd v24 true (some v10)) fun v25 =>
  bnd (pk v24 v25 (.b false)) fun v26 =>
  bnd (gd v26 true (some v5)) fun v27 =>
  bnd (gd v26 true (some v5)) fun v28 =>
  bndO (gdO v26 true (ca0 Φ ob 376 true 22 [v27, v28])) ob fun v29 ob =>
  bnd (pk v26 v29 (.b false)) fun v30 =>
  fin ob os.length [0] [v30]

def ann15 : Nat → Option Hd := fun _ => none
def lab15 : Nat → Option Hd := fun _ => none
/- pelican/pelicanlaw08.Few -/
noncomputable def m16b0 (Φ : Sem') (N : Nat) (os : List Obj') (g : SL → OB → Option R) (sl : SL) (ob : OB) : Option R :=
  bnd (len (gS sl 0)) fun v1 =>
  bnd (bi .lss (gS sl 3) v1) fun v2 =>
  bnd (gd v2 true (some (gS sl 3))) fun v3 =>
  bnd (gd v2 true (bi .leq v3 (.i .i64 10))) fun v4 =>
  bnd (pk v2 v4 (.b false)) fun v5 =>
  br v5 (
   bnd (xS ob 3 (gS sl 0) (gS sl 3)) fun v6 =>
   bnd (fA 2 v6) fun v7 =>
   bnd (l1 ob v7) fun v8 =>
   bnd (len v8) fun v9 =>
   bnd (bi .gtr v9 (.i .i64 100)) fun v10 =>
   br v10 (
    fin ob os.length [0] [(.b false)]
   ) (
    bnd (bi .add (gS sl 3) (.i .i64 1)) fun v11 =>
    bnd (head [] [0, 3] [] [(0, (gS sl 0)), (3, v11)] ob) fun x => g x.1 x.2
   )
  ) (
   bnd (len (gS sl 0)) fun v12 =>
   bnd (bi .leq v12 (.i .i64 10)) fun v13 =>
   fin ob os.length [0] [v13]
  )
noncomputable def m16 : Body := fun Φ N as os =>
  let a0 := gS (zipN 0 as) 0
  let ob := zipN 0 os
  bnd (head [] [0, 3] [] [(0, a0), (3, (.i .i64 0))] ob) fun x => loopC (m16b0 Φ N os) N x.1 x.2

def ann16 : Nat → Option Hd
  | 2 => some ⟨[], [0, 3], []⟩ | _ => none
def lab16 : Nat → Option Hd := fun _ => none
/- pelican/user.Secret -/
noncomputable def m17 : Body := fun Φ N as os =>
  let a0 := gS (zipN 0 as) 0
  let a1 := gS (zipN 0 as) 1
  let a2 := gS (zipN 0 as) 2
  let a3 := gS (zipN 0 as) 3
  let ob := zipN 0 os
  bndO (bx ob 96 a0) ob fun v1 ob =>
  bndO (al ob 128 [.blob 32 (List.replicate 32 (.i .u8 0))]) ob fun v2 ob =>
  bnd (lN ob 3 v1) fun v3 =>
  bndO (bldS ob 168 3 [v3]) ob fun v4 ob =>
  bndO (ca0 Φ ob 176 true 21 [v4]) ob fun v5 ob =>
  bnd (uO .not v5) fun v6 =>
  bnd (gd v6 false (some a1)) fun v7 =>
  bndO (gdO v6 false (ca0 Φ ob 208 false 48 [v7, (.i .i64 0), (.i .i64 1073741824)])) ob fun v8 ob =>
  bnd (gd v6 false (uO .not v8)) fun v9 =>
  bnd (pk v6 (.b true) v9) fun v10 =>
  br v10 (
   bnd (bld [.blob 32 (List.replicate 32 (.i .u8 0))] []) fun v11 =>
   bndO (st ob 32 v2 v11) ob fun _ ob =>
   bnd (lN ob 32 v2) fun v12 =>
   fin ob os.length [0, 0] [v12, (.b false)]
  ) (
   bnd (cv .u64 a1) fun v13 =>
   bnd (bld [.i .u64 0, .i .i64 0] [(0, 1, v13), (1, 1, (.i .i64 4))]) fun v14 =>
   bnd (bld [.i .u64 0, .i .i64 0] [(0, 1, a2), (1, 1, (.i .i64 8))]) fun v15 =>
   bnd (bld [.i .u64 0, .i .i64 0] [(0, 1, a3), (1, 1, (.i .i64 8))]) fun v16 =>
   bnd (fA 0 v1) fun v17 =>
   bnd (l1 ob v17) fun v18 =>
   bnd (cv .u64 v18) fun v19 =>
   bnd (bld [.i .u64 0, .i .i64 0] [(0, 1, v19), (1, 1, (.i .i64 1))]) fun v20 =>
   bndO (bldS ob 336 2 [v14, v15, v16, v20]) ob fun v21 ob =>
   bndO (ca0 Φ ob 344 false 28 [v21]) ob fun v22 ob =>
   bnd (ext 0 v22) fun v23 =>
   bnd (ext 1 v22) fun v24 =>
   bnd (fA 2 v1) fun v25 =>
   bnd (l1 ob v25) fun v26 =>
   bndO (ca0 Φ ob 392 false 29 [v26, (.s [115, 101, 115, 115, 105, 111, 110]), v23]) ob fun v27 ob =>
   bnd (ext 0 v27) fun v28 =>
   bnd (ext 1 v27) fun v29 =>
   bndO (st ob 32 v2 v28) ob fun _ ob =>
   bnd (lN ob 32 v2) fun v30 =>
   fin ob os.length [0, 0] [v30, v29]
  )

def ann17 : Nat → Option Hd := fun _ => none
def lab17 : Nat → Option Hd := fun _ => none
/- pelican/pelicanref08.Secret -/
noncomputable def m18 : Body := fun Φ N as os =>
  let a0 := gS (zipN 0 as) 0
  let a1 := gS (zipN 0 as) 1
  let a2 := gS (zipN 0 as) 2
  let a3 := gS (zipN 0 as) 3
  let ob := zipN 0 os
  bndO (bx ob 96 a0) ob fun v1 ob =>
  bndO (al ob 128 [.blob 32 (List.replicate 32 (.i .u8 0))]) ob fun v2 ob =>
  bnd (lN ob 3 v1) fun v3 =>
  bndO (bldS ob 192 3 [v3]) ob fun v4 ob =>
  bndO (ca0 Φ ob 200 true 19 [v4]) ob fun v5 ob =>
  bnd (uO .not v5) fun v6 =>
  bnd (gd v6 false (some a1)) fun v7 =>
  bnd (gd v6 false (bi .lss v7 (.i .i64 0))) fun v8 =>
  bnd (pk v6 (.b true) v8) fun v9 =>
  bnd (gd v9 false (some a1)) fun v10 =>
  bnd (gd v9 false (bi .gtr v10 (.i .i64 1073741824))) fun v11 =>
  bnd (pk v9 (.b true) v11) fun v12 =>
  br v12 (
   bnd (bld [.blob 32 (List.replicate 32 (.i .u8 0))] []) fun v13 =>
   bndO (st ob 32 v2 v13) ob fun _ ob =>
   bnd (lN ob 32 v2) fun v14 =>
   fin ob os.length [0, 0] [v14, (.b false)]
  ) (
   bnd (cv .u64 a1) fun v15 =>
   bnd (bld [.i .u64 0, .i .i64 0] [(0, 1, v15), (1, 1, (.i .i64 4))]) fun v16 =>
   bnd (bld [.i .u64 0, .i .i64 0] [(0, 1, a2), (1, 1, (.i .i64 8))]) fun v17 =>
   bnd (bld [.i .u64 0, .i .i64 0] [(0, 1, a3), (1, 1, (.i .i64 8))]) fun v18 =>
   bnd (fA 0 v1) fun v19 =>
   bnd (l1 ob v19) fun v20 =>
   bnd (cv .u64 v20) fun v21 =>
   bnd (bld [.i .u64 0, .i .i64 0] [(0, 1, v21), (1, 1, (.i .i64 1))]) fun v22 =>
   bndO (bldS ob 392 2 [v16, v17, v18, v22]) ob fun v23 ob =>
   bndO (ca0 Φ ob 400 false 49 [v23]) ob fun v24 ob =>
   bnd (ext 0 v24) fun v25 =>
   bnd (ext 1 v24) fun v26 =>
   bnd (fA 2 v1) fun v27 =>
   bnd (l1 ob v27) fun v28 =>
   bndO (ca0 Φ ob 456 false 50 [v28, (.s [115, 101, 115, 115, 105, 111, 110]), v25]) ob fun v29 ob =>
   bnd (ext 0 v29) fun v30 =>
   bnd (ext 1 v29) fun v31 =>
   bndO (al ob 168 [.blob 32 (List.replicate 32 (.i .u8 0))]) ob fun v32 ob =>
   bndO (st ob 32 v32 v30) ob fun _ ob =>
   bnd (lN ob 32 v32) fun v33 =>
   bndO (st ob 32 v2 v33) ob fun _ ob =>
   bnd (lN ob 32 v2) fun v34 =>
   fin ob os.length [0, 0] [v34, v31]
  )

def ann18 : Nat → Option Hd := fun _ => none
def lab18 : Nat → Option Hd := fun _ => none
/- pelican/pelicanref08.May -/
noncomputable def m19b0 (Φ : Sem') (N : Nat) (os : List Obj') (g : SL → OB → Option R) (sl : SL) (ob : OB) : Option R :=
  bnd (len (gS sl 0)) fun v1 =>
  bnd (bi .lss (gS sl 3) v1) fun v2 =>
  bnd (gd v2 true (some (gS sl 3))) fun v3 =>
  bnd (gd v2 true (bi .lss v3 (.i .i64 10))) fun v4 =>
  bnd (pk v2 v4 (.b false)) fun v5 =>
  br v5 (
   bnd (xS ob 3 (gS sl 0) (gS sl 3)) fun v6 =>
   bnd (fA 1 v6) fun v7 =>
   bnd (l1 ob v7) fun v8 =>
   bndO (ca0 Φ ob 224 false 51 [v8]) ob fun v9 ob =>
   bnd (uO .not v9) fun v10 =>
   bnd (gd v10 false (some (gS sl 0))) fun v11 =>
   bnd (gd v10 false (some (gS sl 3))) fun v12 =>
   bnd (gd v10 false (xS ob 3 v11 v12)) fun v13 =>
   bnd (gd v10 false (fA 0 v13)) fun v14 =>
   bnd (gd v10 false (l1 ob v14)) fun v15 =>
   bnd (gd v10 false (bi .lss v15 (.i .i64 1))) fun v16 =>
   bnd (pk v10 (.b true) v16) fun v17 =>
   bnd (gd v17 false (some (gS sl 0))) fun v18 =>
   bnd (gd v17 false (some (gS sl 3))) fun v19 =>
   bnd (gd v17 false (xS ob 3 v18 v19)) fun v20 =>
   bnd (gd v17 false (fA 0 v20)) fun v21 =>
   bnd (gd v17 false (l1 ob v21)) fun v22 =>
   bnd (gd v17 false (bi .gtr v22 (.i .i64 255))) fun v23 =>
   bnd (pk v17 (.b true) v23) fun v24 =>
   bnd (gd v24 false (some (gS sl 0))) fun v25 =>
   bnd (gd v24 false (some (gS sl 3))) fun v26 =>
   bnd (gd v24 false (xS ob 3 v25 v26)) fun v27 =>
   bnd (gd v24 false (fA 2 v27)) fun v28 =>
   bnd (gd v24 false (l1 ob v28)) fun v29 =>
   bnd (gd v24 false (len v29)) fun v30 =>
   bnd (gd v24 false (bi .lss v30 (.i .i64 16))) fun v31 =>
   bnd (pk v24 (.b true) v31) fun v32 =>
   bnd (gd v32 false (some (gS sl 0))) fun v33 =>
   bnd (gd v32 false (some (gS sl 3))) fun v34 =>
   bnd (gd v32 false (xS ob 3 v33 v34)) fun v35 =>
   bnd (gd v32 false (fA 2 v35)) fun v36 =>
   bnd (gd v32 false (l1 ob v36)) fun v37 =>
   bnd (gd v32 false (len v37)) fun v38 =>
   bnd (gd v32 false (bi .gtr v38 (.i .i64 64))) fun v39 =>
   bnd (pk v32 (.b true) v39) fun v40 =>
   bnd (gd v40 false (some (gS sl 3))) fun v41 =>
   bnd (gd v40 false (bi .gtr v41 (.i .i64 0))) fun v42 =>
   bnd (gd v40 false (some v42)) fun v43 =>
   bnd (gd v43 true (some (gS sl 0))) fun v44 =>
   bnd (gd v43 true (some (gS sl 3))) fun v45 =>
   bnd (gd v43 true (xS ob 3 v44 v45)) fun v46 =>
   bnd (gd v43 true (fA 0 v46)) fun v47 =>
   bnd (gd v43 true (l1 ob v47)) fun v48 =>
   bnd (gd v43 true (some (gS sl 0))) fun v49 =>
   bnd (gd v43 true (some (gS sl 3))) fun v50 =>
   bnd (gd v43 true (bi .sub v50 (.i .i64 1))) fun v51 =>
   bnd (gd v43 true (xS ob 3 v49 v51)) fun v52 =>
   bnd (gd v43 true (fA 0 v52)) fun v53 =>
   bnd (gd v43 true (l1 ob v53)) fun v54 =>
   bnd (gd v43 true (bi .leq v48 v54)) fun v55 =>
   bnd (gd v40 false (pk v43 v55 (.b false))) fun v56 =>
   bnd (pk v40 (.b true) v56) fun v57 =>
   br v57 (
    fin ob os.length [0] [(.b false)]
   ) (
    bnd (bi .add (gS sl 3) (.i .i64 1)) fun v58 =>
    bnd (head [] [0, 3] [] [(0, (gS sl 0)), (3, v58)] ob) fun x => g x.1 x.2
   )
  ) (
   bnd (len (gS sl 0)) fun v59 =>
   bnd (bi .leq v59 (.i .i64 8)) fun v60 =>
   fin ob os.length [0] [v60]
  )
noncomputable def m19 : Body := fun Φ N as os =>
  let a0 := gS (zipN 0 as) 0
  let ob := zipN 0 os
  bnd (head [] [0, 3] [] [(0, a0), (3, (.i .i64 0))] ob) fun x => loopC (m19b0 Φ N os) N x.1 x.2

def ann19 : Nat → Option Hd
  | 2 => some ⟨[], [0, 3], []⟩ | _ => none
def lab19 : Nat → Option Hd := fun _ => none
/- pelican/pelicanref08.Same -/
noncomputable def m20b0 (Φ : Sem') (N : Nat) (os : List Obj') (g : SL → OB → Option R) (sl : SL) (ob : OB) : Option R :=
  bnd (len (gS sl 0)) fun v4 =>
  bnd (bi .lss (gS sl 5) v4) fun v5 =>
  br v5 (
   bnd (xS ob 3 (gS sl 0) (gS sl 5)) fun v6 =>
   bnd (fA 0 v6) fun v7 =>
   bnd (l1 ob v7) fun v8 =>
   bnd (xS ob 3 (gS sl 1) (gS sl 5)) fun v9 =>
   bnd (fA 0 v9) fun v10 =>
   bnd (l1 ob v10) fun v11 =>
   bnd (bi .neq v8 v11) fun v12 =>
   bnd (gd v12 false (some (gS sl 0))) fun v13 =>
   bnd (gd v12 false (some (gS sl 5))) fun v14 =>
   bnd (gd v12 false (xS ob 3 v13 v14)) fun v15 =>
   bnd (gd v12 false (fA 1 v15)) fun v16 =>
   bnd (gd v12 false (l1 ob v16)) fun v17 =>
   bnd (gd v12 false (some (gS sl 1))) fun v18 =>
   bnd (gd v12 false (some (gS sl 5))) fun v19 =>
   bnd (gd v12 false (xS ob 3 v18 v19)) fun v20 =>
   bnd (gd v12 false (fA 1 v20)) fun v21 =>
   bnd (gd v12 false (l1 ob v21)) fun v22 =>
   bnd (gd v12 false (bi .neq v17 v22)) fun v23 =>
   bnd (pk v12 (.b true) v23) fun v24 =>
   bnd (gd v24 false (some (gS sl 0))) fun v25 =>
   bnd (gd v24 false (some (gS sl 5))) fun v26 =>
   bnd (gd v24 false (xS ob 3 v25 v26)) fun v27 =>
   bnd (gd v24 false (fA 2 v27)) fun v28 =>
   bnd (gd v24 false (l1 ob v28)) fun v29 =>
   bnd (gd v24 false (b2s ob v29)) fun v30 =>
   bnd (gd v24 false (some (gS sl 1))) fun v31 =>
   bnd (gd v24 false (some (gS sl 5))) fun v32 =>
   bnd (gd v24 false (xS ob 3 v31 v32)) fun v33 =>
   bnd (gd v24 false (fA 2 v33)) fun v34 =>
   bnd (gd v24 false (l1 ob v34)) fun v35 =>
   bnd (gd v24 false (b2s ob v35)) fun v36 =>
   bnd (gd v24 false (bi .neq v30 v36)) fun v37 =>
   bnd (pk v24 (.b true) v37) fun v38 =>
   br v38 (
    fin ob os.length [0] [(.b false)]
   ) (
    bnd (bi .add (gS sl 5) (.i .i64 1)) fun v39 =>
    bnd (head [] [0, 1, 5] [] [(0, (gS sl 0)), (1, (gS sl 1)), (5, v39)] ob) fun x => g x.1 x.2
   )
  ) (
   fin ob os.length [0] [(.b true)]
  )
noncomputable def m20 : Body := fun Φ N as os =>
  let a0 := gS (zipN 0 as) 0
  let a1 := gS (zipN 0 as) 1
  let ob := zipN 0 os
  bnd (len a0) fun v1 =>
  bnd (len a1) fun v2 =>
  bnd (bi .neq v1 v2) fun v3 =>
  br v3 (
   fin ob os.length [0] [(.b false)]
  ) (
   bnd (head [] [0, 1, 5] [] [(0, a0), (1, a1), (5, (.i .i64 0))] ob) fun x => loopC (m20b0 Φ N os) N x.1 x.2
  )

def ann20 : Nat → Option Hd
  | 4 => some ⟨[], [0, 1, 5], []⟩ | _ => none
def lab20 : Nat → Option Hd := fun _ => none
/- pelican/user.May -/
noncomputable def m21b0 (Φ : Sem') (N : Nat) (os : List Obj') (g : SL → OB → Option R) (sl : SL) (ob : OB) : Option R :=
  bnd (bi .lss (gS sl 9) (gS sl 8)) fun v2 =>
  br v2 (
   bnd (xS ob 3 (gS sl 7) (gS sl 9)) fun v3 =>
   bnd (lN ob 3 v3) fun v4 =>
   bndO (al ob 112 [.i .i64 0, .i .i64 0, .e true]) ob fun v5 ob =>
   bndO (st ob 3 v5 v4) ob fun _ ob =>
   bnd (fA 0 v5) fun v6 =>
   bnd (l1 ob v6) fun v7 =>
   bnd (bi .add (gS sl 3) (.i .i64 1)) fun v8 =>
   bndO (ca0 Φ ob 200 false 48 [v7, v8, (.i .i64 255)]) ob fun v9 ob =>
   bnd (uO .not v9) fun v10 =>
   bnd (gd v10 false (fA 1 v5)) fun v11 =>
   bnd (gd v10 false (l1 ob v11)) fun v12 =>
   bndO (gdO v10 false (ca0 Φ ob 240 false 27 [v12])) ob fun v13 ob =>
   bnd (gd v10 false (uO .not v13)) fun v14 =>
   bnd (pk v10 (.b true) v14) fun v15 =>
   bnd (gd v15 false (fA 2 v5)) fun v16 =>
   bnd (gd v15 false (l1 ob v16)) fun v17 =>
   bnd (gd v15 false (len v17)) fun v18 =>
   bndO (gdO v15 false (ca0 Φ ob 296 false 48 [v18, (.i .i64 16), (.i .i64 64)])) ob fun v19 ob =>
   bnd (gd v15 false (uO .not v19)) fun v20 =>
   bnd (pk v15 (.b true) v20) fun v21 =>
   br v21 (
    bnd (uO .not v21) fun v22 =>
    bnd (gd v22 true (some (gS sl 0))) fun v23 =>
    bnd (gd v22 true (len v23)) fun v24 =>
    bnd (gd v22 true (bi .leq v24 (.i .i64 8))) fun v25 =>
    bnd (pk v22 v25 (.b false)) fun v26 =>
    fin ob os.length [0] [v26]
   ) (
    bnd (fA 0 v5) fun v27 =>
    bnd (l1 ob v27) fun v28 =>
    bnd (bi .add (gS sl 9) (.i .i64 1)) fun v29 =>
    bnd (head [] [0, 3, 4, 7, 8, 9] [] [(0, (gS sl 0)), (3, v28), (4, v21), (7, (gS sl 7)), (8, (gS sl 8)), (9, v29)] ob) fun x => g x.1 x.2
   )
  ) (
   bnd (uO .not (gS sl 4)) fun v30 =>
   bnd (gd v30 true (some (gS sl 0))) fun v31 =>
   bnd (gd v30 true (len v31)) fun v32 =>
   bnd (gd v30 true (bi .leq v32 (.i .i64 8))) fun v33 =>
   bnd (pk v30 v33 (.b false)) fun v34 =>
   fin ob os.length [0] [v34]
  )
noncomputable def m21j1 (Φ : Sem') (N : Nat) (os : List Obj') (g : SL → OB → Option R) (sl : SL) (ob : OB) : Option R :=
  bnd (len (gS sl 0)) fun v1 =>
  bnd (head [] [0, 3, 4, 7, 8, 9] [] [(0, (gS sl 0)), (3, (gS sl 3)), (4, (gS sl 4)), (7, (gS sl 0)), (8, v1), (9, (.i .i64 0))] ob) fun x => loopC (m21b0 Φ N os) N x.1 x.2
noncomputable def m21b2 (Φ : Sem') (N : Nat) (os : List Obj') (g : SL → OB → Option R) (sl : SL) (ob : OB) : Option R :=
  bnd (bi .lss (gS sl 9) (gS sl 8)) fun v36 =>
  br v36 (
   bnd (xS ob 3 (gS sl 7) (gS sl 9)) fun v37 =>
   bnd (lN ob 3 v37) fun v38 =>
   bndO (al ob 112 [.i .i64 0, .i .i64 0, .e true]) ob fun v39 ob =>
   bndO (st ob 3 v39 v38) ob fun _ ob =>
   bnd (fA 0 v39) fun v40 =>
   bnd (l1 ob v40) fun v41 =>
   bnd (bi .add (gS sl 3) (.i .i64 1)) fun v42 =>
   bndO (ca0 Φ ob 200 false 48 [v41, v42, (.i .i64 255)]) ob fun v43 ob =>
   bnd (uO .not v43) fun v44 =>
   bnd (gd v44 false (fA 1 v39)) fun v45 =>
   bnd (gd v44 false (l1 ob v45)) fun v46 =>
   bndO (gdO v44 false (ca0 Φ ob 240 false 27 [v46])) ob fun v47 ob =>
   bnd (gd v44 false (uO .not v47)) fun v48 =>
   bnd (pk v44 (.b true) v48) fun v49 =>
   bnd (gd v49 false (fA 2 v39)) fun v50 =>
   bnd (gd v49 false (l1 ob v50)) fun v51 =>
   bnd (gd v49 false (len v51)) fun v52 =>
   bndO (gdO v49 false (ca0 Φ ob 296 false 48 [v52, (.i .i64 16), (.i .i64 64)])) ob fun v53 ob =>
   bnd (gd v49 false (uO .not v53)) fun v54 =>
   bnd (pk v49 (.b true) v54) fun v55 =>
   br v55 (
    bnd (uO .not v55) fun v56 =>
    bnd (gd v56 true (some (gS sl 0))) fun v57 =>
    bnd (gd v56 true (len v57)) fun v58 =>
    bnd (gd v56 true (bi .leq v58 (.i .i64 8))) fun v59 =>
    bnd (pk v56 v59 (.b false)) fun v60 =>
    fin ob os.length [0] [v60]
   ) (
    bnd (fA 0 v39) fun v61 =>
    bnd (l1 ob v61) fun v62 =>
    bnd (bi .add (gS sl 9) (.i .i64 1)) fun v63 =>
    bnd (head [] [0, 3, 4, 7, 8, 9] [] [(0, (gS sl 0)), (3, v62), (4, v55), (7, (gS sl 7)), (8, (gS sl 8)), (9, v63)] ob) fun x => g x.1 x.2
   )
  ) (
   bnd (uO .not (gS sl 4)) fun v64 =>
   bnd (gd v64 true (some (gS sl 0))) fun v65 =>
   bnd (gd v64 true (len v65)) fun v66 =>
   bnd (gd v64 true (bi .leq v66 (.i .i64 8))) fun v67 =>
   bnd (pk v64 v67 (.b false)) fun v68 =>
   fin ob os.length [0] [v68]
  )
noncomputable def m21 : Body := fun Φ N as os =>
  let a0 := gS (zipN 0 as) 0
  let ob := zipN 0 os
  bnd (len a0) fun v35 =>
  bnd (head [] [0, 3, 4, 7, 8, 9] [] [(0, a0), (3, (.i .i64 0)), (4, (.b false)), (7, a0), (8, v35), (9, (.i .i64 0))] ob) fun x => loopC (m21b2 Φ N os) N x.1 x.2

def ann21 : Nat → Option Hd
  | 3 => some ⟨[], [0, 3, 4, 7, 8, 9], []⟩ | _ => none
def lab21 : Nat → Option Hd
  | 0 => some ⟨[], [0, 3, 4], []⟩ | _ => none
/- pelican/user.Same -/
noncomputable def m22 : Body := fun Φ N as os =>
  let a0 := gS (zipN 0 as) 0
  let a1 := gS (zipN 0 as) 1
  let ob := zipN 0 os
  bndO (ca Φ ob 120 false 52 [a0, a1, (.fn 53 [] [])]) ob fun v1 ob =>
  fin ob os.length [0] [v1]

def ann22 : Nat → Option Hd := fun _ => none
def lab22 : Nat → Option Hd := fun _ => none
/- pelican/user.Find -/
noncomputable def m23 : Body := fun Φ N as os =>
  let a0 := gS (zipN 0 as) 0
  let a1 := gS (zipN 0 as) 1
  let ob := zipN 0 os
  bndO (bx ob 80 a0) ob fun v1 ob =>
  bndO (bx ob 88 a1) ob fun v2 ob =>
  bnd (l1 ob v1) fun v3 =>
  bndO (ca0 Φ ob 120 true 21 [v3]) ob fun v4 ob =>
  bnd (uO .not v4) fun v5 =>
  br v5 (
   fin ob os.length [0] [(.i .i64 (-1))]
  ) (
   bnd (l1 ob v1) fun v6 =>
   bnd (len v6) fun v7 =>
   bndO (ca Φ ob 160 false 55 [v7, (.fn 56 [] [v1, v2])]) ob fun v8 ob =>
   bnd (l1 ob v1) fun v9 =>
   bnd (len v9) fun v10 =>
   bnd (bi .eql v8 v10) fun v11 =>
   bnd (gd v11 false (l1 ob v1)) fun v12 =>
   bnd (gd v11 false (some v8)) fun v13 =>
   bnd (gd v11 false (xS ob 3 v12 v13)) fun v14 =>
   bnd (gd v11 false (fA 0 v14)) fun v15 =>
   bnd (gd v11 false (l1 ob v15)) fun v16 =>
   bnd (gd v11 false (l1 ob v2)) fun v17 =>
   bnd (gd v11 false (bi .neq v16 v17)) fun v18 =>
   bnd (pk v11 (.b true) v18) fun v19 =>
   br v19 (
    fin ob os.length [0] [(.i .i64 (-1))]
   ) (
    fin ob os.length [0] [v8]
   )
  )

def ann23 : Nat → Option Hd := fun _ => none
def lab23 : Nat → Option Hd := fun _ => none
/- pelican/pelicanref08.Find -/
noncomputable def m24b0 (Φ : Sem') (N : Nat) (os : List Obj') (g : SL → OB → Option R) (sl : SL) (ob : OB) : Option R :=
  bnd (len (gS sl 0)) fun v2 =>
  bnd (bi .lss (gS sl 6) v2) fun v3 =>
  bnd (gd v3 true (some (gS sl 5))) fun v4 =>
  bnd (pk v3 v4 (.b false)) fun v5 =>
  br v5 (
   bnd (xS ob 3 (gS sl 0) (gS sl 6)) fun v6 =>
   bnd (fA 0 v6) fun v7 =>
   bnd (l1 ob v7) fun v8 =>
   bnd (bi .eql v8 (gS sl 1)) fun v9 =>
   br v9 (
    fin ob os.length [0] [(gS sl 6)]
   ) (
    bnd (bi .add (gS sl 6) (.i .i64 1)) fun v10 =>
    bnd (head [] [0, 1, 5, 6] [] [(0, (gS sl 0)), (1, (gS sl 1)), (5, (gS sl 5)), (6, v10)] ob) fun x => g x.1 x.2
   )
  ) (
   fin ob os.length [0] [(.i .i64 (-1))]
  )
noncomputable def m24 : Body := fun Φ N as os =>
  let a0 := gS (zipN 0 as) 0
  let a1 := gS (zipN 0 as) 1
  let ob := zipN 0 os
  bndO (ca0 Φ ob 128 true 19 [a0]) ob fun v1 ob =>
  bnd (head [] [0, 1, 5, 6] [] [(0, a0), (1, a1), (5, v1), (6, (.i .i64 0))] ob) fun x => loopC (m24b0 Φ N os) N x.1 x.2

def ann24 : Nat → Option Hd
  | 3 => some ⟨[], [0, 1, 5, 6], []⟩ | _ => none
def lab24 : Nat → Option Hd := fun _ => none
/- pelican/user.Role -/
noncomputable def m25 : Body := fun Φ N as os =>
  let a0 := gS (zipN 0 as) 0
  let a1 := gS (zipN 0 as) 1
  let ob := zipN 0 os
  bndO (ca0 Φ ob 128 true 23 [a0, a1]) ob fun v1 ob =>
  bnd (bi .eql v1 (.i .i64 (-1))) fun v2 =>
  br v2 (
   fin ob os.length [0] [(.i .i64 (-1))]
  ) (
   bnd (xS ob 3 a0 v1) fun v3 =>
   bnd (fA 1 v3) fun v4 =>
   bnd (l1 ob v4) fun v5 =>
   fin ob os.length [0] [v5]
  )

def ann25 : Nat → Option Hd := fun _ => none
def lab25 : Nat → Option Hd := fun _ => none
/- pelican/pelicanref08.Role -/
noncomputable def m26 : Body := fun Φ N as os =>
  let a0 := gS (zipN 0 as) 0
  let a1 := gS (zipN 0 as) 1
  let ob := zipN 0 os
  bndO (ca0 Φ ob 128 true 24 [a0, a1]) ob fun v1 ob =>
  bnd (bi .lss v1 (.i .i64 0)) fun v2 =>
  br v2 (
   fin ob os.length [0] [(.i .i64 (-1))]
  ) (
   bnd (xS ob 3 a0 v1) fun v3 =>
   bnd (fA 1 v3) fun v4 =>
   bnd (l1 ob v4) fun v5 =>
   fin ob os.length [0] [v5]
  )

def ann26 : Nat → Option Hd := fun _ => none
def lab26 : Nat → Option Hd := fun _ => none
/- pelican/role.Is -/
noncomputable def m27 : Body := fun Φ N as os =>
  let a0 := gS (zipN 0 as) 0
  let ob := zipN 0 os
  bnd (bi .geq a0 (.i .i64 0)) fun v1 =>
  bnd (gd v1 true (some a0)) fun v2 =>
  bnd (gd v1 true (bi .lss v2 (.i .i64 4))) fun v3 =>
  bnd (pk v1 v3 (.b false)) fun v4 =>
  fin ob os.length [0] [v4]

def ann27 : Nat → Option Hd := fun _ => none
def lab27 : Nat → Option Hd := fun _ => none
/- pelican/num.Cat -/
noncomputable def m28b0 (Φ : Sem') (N : Nat) (os : List Obj') (g : SL → OB → Option R) (sl : SL) (ob : OB) : Option R :=
  bnd (bi .lss (gS sl 14) (gS sl 13)) fun v4 =>
  br v4 (
   bnd (xS ob 2 (gS sl 12) (gS sl 14)) fun v5 =>
   bnd (lN ob 2 v5) fun v6 =>
   bndO (al ob 112 [.i .u64 0, .i .i64 0]) ob fun v7 ob =>
   bndO (st ob 2 v7 v6) ob fun _ ob =>
   bnd (fA 0 v7) fun v8 =>
   bnd (l1 ob v8) fun v9 =>
   bnd (fA 1 v7) fun v10 =>
   bnd (l1 ob v10) fun v11 =>
   bndO (ca0 Φ ob 248 false 57 [v9, v11]) ob fun v12 ob =>
   bnd (ext 0 v12) fun v13 =>
   bnd (ext 1 v12) fun v14 =>
   bnd (uO .not v14) fun v15 =>
   br v15 (
    fin ob os.length [1, 0] [(.e true), (.b false)]
   ) (
    bndO (ap ob 304 1 (gS sl 4) v13) ob fun v16 ob =>
    bnd (bi .add (gS sl 14) (.i .i64 1)) fun v17 =>
    bnd (head [.row 4 103 1] [4, 12, 13, 14] [] [(4, v16), (12, (gS sl 12)), (13, (gS sl 13)), (14, v17)] ob) fun x => g x.1 x.2
   )
  ) (
   fin ob os.length [1, 0] [(gS sl 4), (.b true)]
  )
noncomputable def m28 : Body := fun Φ N as os =>
  let a0 := gS (zipN 0 as) 0
  let ob := zipN 0 os
  bnd (len a0) fun v1 =>
  bnd (bi .gtr v1 (.i .i64 40)) fun v2 =>
  br v2 (
   fin ob os.length [1, 0] [(.e true), (.b false)]
  ) (
   bnd (len a0) fun v3 =>
   bnd (head [.row 4 103 1] [4, 12, 13, 14] [] [(4, (.e true)), (12, a0), (13, v3), (14, (.i .i64 0))] ob) fun x => loopC (m28b0 Φ N os) N x.1 x.2
  )

def ann28 : Nat → Option Hd
  | 5 => some ⟨[.row 4 103 1], [4, 12, 13, 14], []⟩ | _ => none
def lab28 : Nat → Option Hd := fun _ => none
/- pelican/mac.Derive -/
noncomputable def m29 : Body := fun Φ N as os =>
  let a0 := gS (zipN 0 as) 0
  let a1 := gS (zipN 0 as) 1
  let a2 := gS (zipN 0 as) 2
  let ob := zipN 0 os
  bndO (al ob 112 [.blob 32 (List.replicate 32 (.i .u8 0))]) ob fun v1 ob =>
  bnd (bi .eql a1 (.s [])) fun v2 =>
  bnd (gd v2 false (some a1)) fun v3 =>
  bnd (gd v2 false (lenS v3)) fun v4 =>
  bnd (gd v2 false (bi .gtr v4 (.i .i64 32))) fun v5 =>
  bnd (pk v2 (.b true) v5) fun v6 =>
  br v6 (
   bnd (bld [.blob 32 (List.replicate 32 (.i .u8 0))] []) fun v7 =>
   bndO (st ob 32 v1 v7) ob fun _ ob =>
   bnd (lN ob 32 v1) fun v8 =>
   fin ob os.length [0, 0] [v8, (.b false)]
  ) (
   bnd (lenS a1) fun v9 =>
   bnd (cv .u8 v9) fun v10 =>
   bndO (bldS ob 224 1 [v10]) ob fun v11 ob =>
   bndO (s2b ob 240 a1) ob fun v12 ob =>
   bndO (bldS ob 256 1 [v11, v12, a2]) ob fun v13 ob =>
   bndO (ca0 Φ ob 264 true 59 [v13]) ob fun v14 ob =>
   bndO (ca0 Φ ob 272 false 58 [a0, v14]) ob fun v15 ob =>
   bndO (st ob 32 v1 v15) ob fun _ ob =>
   bnd (lN ob 32 v1) fun v16 =>
   fin ob os.length [0, 0] [v16, (.b true)]
  )

def ann29 : Nat → Option Hd := fun _ => none
def lab29 : Nat → Option Hd := fun _ => none
/- pelican/sha.Sum -/
noncomputable def m35 : Body := fun Φ N as os =>
  let a0 := gS (zipN 0 as) 0
  let ob := zipN 0 os
  bndO (al ob 80 [.blob 32 (List.replicate 32 (.i .u8 0))]) ob fun v1 ob =>
  bnd (len a0) fun v2 =>
  bnd (bi .gtr v2 (.i .i64 1048576)) fun v3 =>
  br v3 (
   bnd (bld [.blob 32 (List.replicate 32 (.i .u8 0))] []) fun v4 =>
   bndO (st ob 32 v1 v4) ob fun _ ob =>
   bnd (lN ob 32 v1) fun v5 =>
   fin ob os.length [0] [v5]
  ) (
   bndO (ca0 Φ ob 120 false 65 []) ob fun v6 ob =>
   bndO (ca0 Φ ob 136 false 64 [v6, a0]) ob fun v7 ob =>
   bndO (ca0 Φ ob 144 false 63 [v7]) ob fun v8 ob =>
   bndO (st ob 32 v1 v8) ob fun _ ob =>
   bnd (lN ob 32 v1) fun v9 =>
   fin ob os.length [0] [v9]
  )

def ann35 : Nat → Option Hd := fun _ => none
def lab35 : Nat → Option Hd := fun _ => none
/- pelican/pelicanlaw08.Key16 -/
noncomputable def m47b0 (Φ : Sem') (N : Nat) (os : List Obj') (g : SL → OB → Option R) (sl : SL) (ob : OB) : Option R :=
  bnd (bi .lss (gS sl 4) (.i .i64 16)) fun v1 =>
  br v1 (
   bndO (bldS ob 152 1 [(gS sl 0)]) ob fun v2 ob =>
   bndO (ap ob 160 1 (gS sl 3) v2) ob fun v3 ob =>
   bnd (bi .add (gS sl 4) (.i .i64 1)) fun v4 =>
   bnd (head [.row 3 95 1] [0, 3, 4] [] [(0, (gS sl 0)), (3, v3), (4, v4)] ob) fun x => g x.1 x.2
  ) (
   fin ob os.length [1] [(gS sl 3)]
  )
noncomputable def m47 : Body := fun Φ N as os =>
  let a0 := gS (zipN 0 as) 0
  let ob := zipN 0 os
  bnd (head [.row 3 95 1] [0, 3, 4] [] [(0, a0), (3, (.e true)), (4, (.i .i64 0))] ob) fun x => loopC (m47b0 Φ N os) N x.1 x.2

def ann47 : Nat → Option Hd
  | 3 => some ⟨[.row 3 95 1], [0, 3, 4], []⟩ | _ => none
def lab47 : Nat → Option Hd := fun _ => none
/- pelican/user.in -/
noncomputable def m48 : Body := fun Φ N as os =>
  let a0 := gS (zipN 0 as) 0
  let a1 := gS (zipN 0 as) 1
  let a2 := gS (zipN 0 as) 2
  let ob := zipN 0 os
  bnd (bi .geq a0 a1) fun v1 =>
  bnd (gd v1 true (some a0)) fun v2 =>
  bnd (gd v1 true (some a2)) fun v3 =>
  bnd (gd v1 true (bi .leq v2 v3)) fun v4 =>
  bnd (pk v1 v4 (.b false)) fun v5 =>
  fin ob os.length [0] [v5]

def ann48 : Nat → Option Hd := fun _ => none
def lab48 : Nat → Option Hd := fun _ => none
/- pelican/pelicanref03.Cat -/
noncomputable def m49b0 (Φ : Sem') (N : Nat) (os : List Obj') (g : SL → OB → Option R) (sl : SL) (ob : OB) : Option R :=
  bnd (len (gS sl 0)) fun v3 =>
  bnd (bi .lss (gS sl 5) v3) fun v4 =>
  br v4 (
   bnd (xS ob 2 (gS sl 0) (gS sl 5)) fun v5 =>
   bnd (fA 0 v5) fun v6 =>
   bnd (l1 ob v6) fun v7 =>
   bnd (xS ob 2 (gS sl 0) (gS sl 5)) fun v8 =>
   bnd (fA 1 v8) fun v9 =>
   bnd (l1 ob v9) fun v10 =>
   bndO (ca0 Φ ob 288 false 75 [v7, v10]) ob fun v11 ob =>
   bnd (ext 0 v11) fun v12 =>
   bnd (ext 1 v11) fun v13 =>
   bnd (uO .not v13) fun v14 =>
   br v14 (
    fin ob os.length [1, 0] [(.e true), (.b false)]
   ) (
    bndO (ap ob 344 1 (gS sl 4) v12) ob fun v15 ob =>
    bnd (bi .add (gS sl 5) (.i .i64 1)) fun v16 =>
    bnd (head [.row 4 103 1] [0, 4, 5] [] [(0, (gS sl 0)), (4, v15), (5, v16)] ob) fun x => g x.1 x.2
   )
  ) (
   fin ob os.length [1, 0] [(gS sl 4), (.b true)]
  )
noncomputable def m49 : Body := fun Φ N as os =>
  let a0 := gS (zipN 0 as) 0
  let ob := zipN 0 os
  bnd (len a0) fun v1 =>
  bnd (bi .gtr v1 (.i .i64 40)) fun v2 =>
  br v2 (
   fin ob os.length [1, 0] [(.e true), (.b false)]
  ) (
   bnd (head [.row 4 103 1] [0, 4, 5] [] [(0, a0), (4, (.e true)), (5, (.i .i64 0))] ob) fun x => loopC (m49b0 Φ N os) N x.1 x.2
  )

def ann49 : Nat → Option Hd
  | 5 => some ⟨[.row 4 103 1], [0, 4, 5], []⟩ | _ => none
def lab49 : Nat → Option Hd := fun _ => none
/- pelican/pelicanref02.Derive -/
noncomputable def m50 : Body := fun Φ N as os =>
  let a0 := gS (zipN 0 as) 0
  let a1 := gS (zipN 0 as) 1
  let a2 := gS (zipN 0 as) 2
  let ob := zipN 0 os
  bndO (al ob 112 [.blob 32 (List.replicate 32 (.i .u8 0))]) ob fun v1 ob =>
  bnd (lenS a1) fun v2 =>
  bnd (bi .lss v2 (.i .i64 1)) fun v3 =>
  bnd (gd v3 false (some a1)) fun v4 =>
  bnd (gd v3 false (lenS v4)) fun v5 =>
  bnd (gd v3 false (bi .gtr v5 (.i .i64 32))) fun v6 =>
  bnd (pk v3 (.b true) v6) fun v7 =>
  br v7 (
   bnd (bld [.blob 32 (List.replicate 32 (.i .u8 0))] []) fun v8 =>
   bndO (st ob 32 v1 v8) ob fun _ ob =>
   bnd (lN ob 32 v1) fun v9 =>
   fin ob os.length [0, 0] [v9, (.b false)]
  ) (
   bnd (lenS a1) fun v10 =>
   bnd (cv .u8 v10) fun v11 =>
   bndO (bldS ob 232 1 [v11]) ob fun v12 ob =>
   bndO (ap ob 248 1 v12 a1) ob fun v13 ob =>
   bndO (ap ob 272 1 v13 a2) ob fun v14 ob =>
   bndO (ca0 Φ ob 296 false 76 [a0, v14]) ob fun v15 ob =>
   bndO (st ob 32 v1 v15) ob fun _ ob =>
   bnd (lN ob 32 v1) fun v16 =>
   fin ob os.length [0, 0] [v16, (.b true)]
  )

def ann50 : Nat → Option Hd := fun _ => none
def lab50 : Nat → Option Hd := fun _ => none
/- pelican/pelicanref07.Is -/
noncomputable def m51 : Body := fun Φ N as os =>
  let a0 := gS (zipN 0 as) 0
  let ob := zipN 0 os
  bnd (bi .geq a0 (.i .i64 0)) fun v1 =>
  bnd (gd v1 true (some a0)) fun v2 =>
  bnd (gd v1 true (bi .lss v2 (.i .i64 4))) fun v3 =>
  bnd (pk v1 v3 (.b false)) fun v4 =>
  fin ob os.length [0] [v4]

def ann51 : Nat → Option Hd := fun _ => none
def lab51 : Nat → Option Hd := fun _ => none
/- slices.EqualFunc[[]pelican/api.User,[]pelican/api.User,pelican/api.User,pelican/api.User] -/
noncomputable def m52b0 (Φ : Sem') (N : Nat) (os : List Obj') (g : SL → OB → Option R) (sl : SL) (ob : OB) : Option R :=
  bnd (bi .lss (gS sl 17) (gS sl 16)) fun v5 =>
  br v5 (
   bnd (xS ob 3 (gS sl 15) (gS sl 17)) fun v6 =>
   bnd (lN ob 3 v6) fun v7 =>
   bndO (al ob 128 [.i .i64 0, .i .i64 0, .e true]) ob fun v8 ob =>
   bndO (st ob 3 v8 v7) ob fun _ ob =>
   bnd (xS ob 3 (gS sl 1) (gS sl 17)) fun v9 =>
   bnd (lN ob 3 v9) fun v10 =>
   bndO (al ob 136 [.i .i64 0, .i .i64 0, .e true]) ob fun v11 ob =>
   bndO (st ob 3 v11 v10) ob fun _ ob =>
   bnd (lN ob 3 v8) fun v12 =>
   bnd (lN ob 3 v11) fun v13 =>
   bndO (cav Φ ob 296 false (gS sl 2) [v12, v13]) ob fun v14 ob =>
   bnd (uO .not v14) fun v15 =>
   br v15 (
    fin ob os.length [0] [(.b false)]
   ) (
    bnd (bi .add (gS sl 17) (.i .i64 1)) fun v16 =>
    bnd (head [] [1, 2, 15, 16, 17] [] [(1, (gS sl 1)), (2, (gS sl 2)), (15, (gS sl 15)), (16, (gS sl 16)), (17, v16)] ob) fun x => g x.1 x.2
   )
  ) (
   fin ob os.length [0] [(.b true)]
  )
noncomputable def m52 : Body := fun Φ N as os =>
  let a0 := gS (zipN 0 as) 0
  let a1 := gS (zipN 0 as) 1
  let a2 := gS (zipN 0 as) 2
  let ob := zipN 0 os
  bnd (len a0) fun v1 =>
  bnd (len a1) fun v2 =>
  bnd (bi .neq v1 v2) fun v3 =>
  br v3 (
   fin ob os.length [0] [(.b false)]
  ) (
   bnd (len a0) fun v4 =>
   bnd (head [] [1, 2, 15, 16, 17] [] [(1, a1), (2, a2), (15, a0), (16, v4), (17, (.i .i64 0))] ob) fun x => loopC (m52b0 Φ N os) N x.1 x.2
  )

def ann52 : Nat → Option Hd
  | 4 => some ⟨[], [1, 2, 15, 16, 17], []⟩ | _ => none
def lab52 : Nat → Option Hd := fun _ => none
/- pelican/user.Same$1 -/
noncomputable def m53 : Body := fun Φ N as os =>
  let a0 := gS (zipN 0 as) 0
  let a1 := gS (zipN 0 as) 1
  let ob := zipN 0 os
  bndO (bx ob 80 a0) ob fun v1 ob =>
  bndO (bx ob 88 a1) ob fun v2 ob =>
  bnd (fA 0 v1) fun v3 =>
  bnd (l1 ob v3) fun v4 =>
  bnd (fA 0 v2) fun v5 =>
  bnd (l1 ob v5) fun v6 =>
  bnd (bi .eql v4 v6) fun v7 =>
  bnd (gd v7 true (fA 1 v1)) fun v8 =>
  bnd (gd v7 true (l1 ob v8)) fun v9 =>
  bnd (gd v7 true (fA 1 v2)) fun v10 =>
  bnd (gd v7 true (l1 ob v10)) fun v11 =>
  bnd (gd v7 true (bi .eql v9 v11)) fun v12 =>
  bnd (pk v7 v12 (.b false)) fun v13 =>
  bnd (gd v13 true (fA 2 v1)) fun v14 =>
  bnd (gd v13 true (l1 ob v14)) fun v15 =>
  bnd (gd v13 true (fA 2 v2)) fun v16 =>
  bnd (gd v13 true (l1 ob v16)) fun v17 =>
  bndO (gdO v13 true (ca0 Φ ob 240 false 54 [v15, v17])) ob fun v18 ob =>
  bnd (pk v13 v18 (.b false)) fun v19 =>
  fin ob os.length [0] [v19]

def ann53 : Nat → Option Hd := fun _ => none
def lab53 : Nat → Option Hd := fun _ => none
/- slices.Equal[[]byte,byte] -/
noncomputable def m54b0 (Φ : Sem') (N : Nat) (os : List Obj') (g : SL → OB → Option R) (sl : SL) (ob : OB) : Option R :=
  bnd (bi .lss (gS sl 13) (gS sl 12)) fun v5 =>
  br v5 (
   bnd (xS ob 1 (gS sl 0) (gS sl 13)) fun v6 =>
   bnd (l1 ob v6) fun v7 =>
   bnd (xS ob 1 (gS sl 1) (gS sl 13)) fun v8 =>
   bnd (l1 ob v8) fun v9 =>
   bnd (bi .neq v7 v9) fun v10 =>
   br v10 (
    fin ob os.length [0] [(.b false)]
   ) (
    bnd (bi .add (gS sl 13) (.i .i64 1)) fun v11 =>
    bnd (head [] [0, 1, 12, 13] [] [(0, (gS sl 0)), (1, (gS sl 1)), (12, (gS sl 12)), (13, v11)] ob) fun x => g x.1 x.2
   )
  ) (
   fin ob os.length [0] [(.b true)]
  )
noncomputable def m54 : Body := fun Φ N as os =>
  let a0 := gS (zipN 0 as) 0
  let a1 := gS (zipN 0 as) 1
  let ob := zipN 0 os
  bnd (len a0) fun v1 =>
  bnd (len a1) fun v2 =>
  bnd (bi .neq v1 v2) fun v3 =>
  br v3 (
   fin ob os.length [0] [(.b false)]
  ) (
   bnd (len a0) fun v4 =>
   bnd (head [] [0, 1, 12, 13] [] [(0, a0), (1, a1), (12, v4), (13, (.i .i64 0))] ob) fun x => loopC (m54b0 Φ N os) N x.1 x.2
  )

def ann54 : Nat → Option Hd
  | 4 => some ⟨[], [0, 1, 12, 13], []⟩ | _ => none
def lab54 : Nat → Option Hd := fun _ => none
/- sort.Search -/
noncomputable def m55b0 (Φ : Sem') (N : Nat) (os : List Obj') (g : SL → OB → Option R) (sl : SL) (ob : OB) : Option R :=
  bnd (bi .lss (gS sl 5) (gS sl 6)) fun v1 =>
  br v1 (
   bnd (bi .add (gS sl 5) (gS sl 6)) fun v2 =>
   bnd (cv .u64 v2) fun v3 =>
   bnd (bi .shr v3 (.i .u64 1)) fun v4 =>
   bnd (cv .i64 v4) fun v5 =>
   bndO (cav Φ ob 224 false (gS sl 1) [v5]) ob fun v6 ob =>
   bnd (uO .not v6) fun v7 =>
   br v7 (
    bnd (bi .add v5 (.i .i64 1)) fun v8 =>
    bnd (head [] [1, 5, 6] [0, 1] [(1, (gS sl 1)), (5, v8), (6, (gS sl 6))] ob) fun x => g x.1 x.2
   ) (
    bnd (head [] [1, 5, 6] [0, 1] [(1, (gS sl 1)), (5, (gS sl 5)), (6, v5)] ob) fun x => g x.1 x.2
   )
  ) (
   fin ob os.length [0] [(gS sl 5)]
  )
noncomputable def m55 : Body := fun Φ N as os =>
  let a0 := gS (zipN 0 as) 0
  let a1 := gS (zipN 0 as) 1
  let ob := zipN 0 os
  bnd (head [] [1, 5, 6] [0, 1] [(1, a1), (5, (.i .i64 0)), (6, a0)] ob) fun x => loopC (m55b0 Φ N os) N x.1 x.2

def ann55 : Nat → Option Hd
  | 2 => some ⟨[], [1, 5, 6], [0, 1]⟩ | _ => none
def lab55 : Nat → Option Hd := fun _ => none
/- pelican/user.Find$1 -/
noncomputable def m56 : Body := fun Φ N as os =>
  let a0 := gS (zipN 0 as) 0
  let a1 := gS (zipN 0 as) 1
  let a2 := gS (zipN 0 as) 2
  let ob := zipN 0 os
  bnd (l1 ob a1) fun v1 =>
  bnd (xS ob 3 v1 a0) fun v2 =>
  bnd (fA 0 v2) fun v3 =>
  bnd (l1 ob v3) fun v4 =>
  bnd (l1 ob a2) fun v5 =>
  bnd (bi .geq v4 v5) fun v6 =>
  fin ob os.length [0] [v6]

def ann56 : Nat → Option Hd := fun _ => none
def lab56 : Nat → Option Hd := fun _ => none
/- pelican/num.Put -/
noncomputable def m57j0 (Φ : Sem') (N : Nat) (os : List Obj') (g : SL → OB → Option R) (sl : SL) (ob : OB) : Option R :=
  bnd (cv .u8 (gS sl 0)) fun v1 =>
  bnd (xS ob 1 (gS sl 6) (gS sl 7)) fun v2 =>
  bndO (st ob 1 v2 v1) ob fun _ ob =>
  bnd (bi .shr (gS sl 0) (.i .u64 8)) fun v3 =>
  bnd (bi .sub (gS sl 7) (.i .i64 1)) fun v4 =>
  bnd (bi .geq v4 (.i .i64 0)) fun v5 =>
  br v5 (
   bnd (head [] [0, 6, 7] [248] [(0, v3), (6, (gS sl 6)), (7, v4)] ob) fun x => g x.1 x.2
  ) (
   fin ob os.length [1, 0] [(gS sl 6), (.b true)]
  )
noncomputable def m57 : Body := fun Φ N as os =>
  let a0 := gS (zipN 0 as) 0
  let a1 := gS (zipN 0 as) 1
  let ob := zipN 0 os
  bndO (ca0 Φ ob 136 false 77 [a1]) ob fun v6 ob =>
  bnd (uO .not v6) fun v7 =>
  bnd (gd v7 false (some a1)) fun v8 =>
  bnd (gd v7 false (bi .lss v8 (.i .i64 8))) fun v9 =>
  bnd (gd v7 false (some v9)) fun v10 =>
  bnd (gd v10 true (some a0)) fun v11 =>
  bnd (gd v10 true (some a1)) fun v12 =>
  bnd (gd v10 true (bi .mul (.i .i64 8) v12)) fun v13 =>
  bnd (gd v10 true (bi .shr v11 v13)) fun v14 =>
  bnd (gd v10 true (bi .neq v14 (.i .u64 0))) fun v15 =>
  bnd (gd v7 false (pk v10 v15 (.b false))) fun v16 =>
  bnd (pk v7 (.b true) v16) fun v17 =>
  br v17 (
   fin ob os.length [1, 0] [(.e true), (.b false)]
  ) (
   bndO (mks ob 248 [.i .u8 0] a1) ob fun v18 ob =>
   bnd (bi .sub a1 (.i .i64 1)) fun v19 =>
   bnd (cv .u8 a0) fun v20 =>
   bnd (xS ob 1 v18 v19) fun v21 =>
   bndO (st ob 1 v21 v20) ob fun _ ob =>
   bnd (bi .shr a0 (.i .u64 8)) fun v22 =>
   bnd (bi .sub v19 (.i .i64 1)) fun v23 =>
   bnd (bi .geq v23 (.i .i64 0)) fun v24 =>
   br v24 (
    bnd (head [] [0, 6, 7] [248] [(0, v22), (6, v18), (7, v23)] ob) fun x => loopC (m57j0 Φ N os) N x.1 x.2
   ) (
    fin ob os.length [1, 0] [v18, (.b true)]
   )
  )

def ann57 : Nat → Option Hd := fun _ => none
def lab57 : Nat → Option Hd
  | 0 => some ⟨[], [0, 6, 7], [248]⟩ | _ => none
/- pelican/mac.Tag -/
noncomputable def m58 : Body := fun Φ N as os =>
  let a0 := gS (zipN 0 as) 0
  let a1 := gS (zipN 0 as) 1
  let ob := zipN 0 os
  bndO (al ob 96 [.blob 32 (List.replicate 32 (.i .u8 0))]) ob fun v1 ob =>
  bndO (ca0 Φ ob 136 false 78 [a0]) ob fun v2 ob =>
  bndO (al ob 104 [.e true]) ob fun v3 ob =>
  bndO (st ob 1 v3 v2) ob fun _ ob =>
  bndO (cav Φ ob 160 false (.fn 79 [] [v3]) [(.i .u8 54)]) ob fun v4 ob =>
  bndO (ca0 Φ ob 176 false 64 [v4, a1]) ob fun v5 ob =>
  bndO (ca0 Φ ob 184 false 63 [v5]) ob fun v6 ob =>
  bndO (al ob 120 [.blob 32 (List.replicate 32 (.i .u8 0))]) ob fun v7 ob =>
  bndO (st ob 32 v7 v6) ob fun _ ob =>
  bndO (cav Φ ob 200 false (.fn 79 [] [v3]) [(.i .u8 92)]) ob fun v8 ob =>
  bndO (slc ob (.arr 32) v7 none none none) ob fun v9 ob =>
  bndO (ca0 Φ ob 216 false 64 [v8, v9]) ob fun v10 ob =>
  bndO (ca0 Φ ob 224 false 63 [v10]) ob fun v11 ob =>
  bndO (st ob 32 v1 v11) ob fun _ ob =>
  bnd (lN ob 32 v1) fun v12 =>
  fin ob os.length [0] [v12]

def ann58 : Nat → Option Hd := fun _ => none
def lab58 : Nat → Option Hd := fun _ => none
/- slices.Concat[[]byte,byte] -/
noncomputable def m59b0 (Φ : Sem') (N : Nat) (os : List Obj') (g : SL → OB → Option R) (sl : SL) (ob : OB) : Option R :=
  bnd (bi .lss (gS sl 27) (gS sl 26)) fun v11 =>
  br v11 (
   bnd (xS ob 1 (gS sl 25) (gS sl 27)) fun v12 =>
   bnd (l1 ob v12) fun v13 =>
   bndO (ap ob 328 1 (gS sl 6) v13) ob fun v14 ob =>
   bnd (bi .add (gS sl 27) (.i .i64 1)) fun v15 =>
   bnd (head [.row 6 119 1] [6, 25, 26, 27] [] [(6, v14), (25, (gS sl 25)), (26, (gS sl 26)), (27, v15)] ob) fun x => g x.1 x.2
  ) (
   fin ob os.length [1] [(gS sl 6)]
  )
noncomputable def m59b1 (Φ : Sem') (N : Nat) (os : List Obj') (g : SL → OB → Option R) (sl : SL) (ob : OB) : Option R :=
  bnd (bi .lss (gS sl 11) (gS sl 10)) fun v2 =>
  br v2 (
   bnd (xS ob 1 (gS sl 9) (gS sl 11)) fun v3 =>
   bnd (l1 ob v3) fun v4 =>
   bnd (len v4) fun v5 =>
   bnd (bi .add (gS sl 3) v5) fun v6 =>
   bnd (bi .lss v6 (.i .i64 0)) fun v7 =>
   br v7 (
    none
   ) (
    bnd (bi .add (gS sl 11) (.i .i64 1)) fun v8 =>
    bnd (head [] [0, 3, 9, 10, 11] [] [(0, (gS sl 0)), (3, v6), (9, (gS sl 9)), (10, (gS sl 10)), (11, v8)] ob) fun x => g x.1 x.2
   )
  ) (
   bndO (ca Φ ob 256 true 80 [(.e true), (gS sl 3)]) ob fun v9 ob =>
   bnd (len (gS sl 0)) fun v10 =>
   bnd (head [.row 6 119 1] [6, 25, 26, 27] [] [(6, v9), (25, (gS sl 0)), (26, v10), (27, (.i .i64 0))] ob) fun x => loopC (m59b0 Φ N os) N x.1 x.2
  )
noncomputable def m59 : Body := fun Φ N as os =>
  let a0 := gS (zipN 0 as) 0
  let ob := zipN 0 os
  bnd (len a0) fun v1 =>
  bnd (head [] [0, 3, 9, 10, 11] [] [(0, a0), (3, (.i .i64 0)), (9, a0), (10, v1), (11, (.i .i64 0))] ob) fun x => loopC (m59b1 Φ N os) N x.1 x.2

def ann59 : Nat → Option Hd
  | 3 => some ⟨[], [0, 3, 9, 10, 11], []⟩ | 11 => some ⟨[.row 6 119 1], [6, 25, 26, 27], []⟩ | _ => none
def lab59 : Nat → Option Hd := fun _ => none
/- pelican/sha.End -/
noncomputable def m63b0 (Φ : Sem') (N : Nat) (os : List Obj') (g : SL → OB → Option R) (sl : SL) (ob : OB) : Option R :=
  bnd (bi .lss (gS sl 52) (.i .i64 8)) fun v38 =>
  br v38 (
   bnd (xV 8 1 false (gS sl 51) (gS sl 52)) fun v39 =>
   bnd (bi .mul (.i .i64 4) (gS sl 52)) fun v40 =>
   bnd (bi .mul (.i .i64 4) (gS sl 52)) fun v41 =>
   bnd (bi .add v41 (.i .i64 1)) fun v42 =>
   bnd (bi .mul (.i .i64 4) (gS sl 52)) fun v43 =>
   bnd (bi .add v43 (.i .i64 2)) fun v44 =>
   bnd (bi .mul (.i .i64 4) (gS sl 52)) fun v45 =>
   bnd (bi .add v45 (.i .i64 3)) fun v46 =>
   bnd (bi .shr v39 (.i .u64 24)) fun v47 =>
   bnd (cv .u8 v47) fun v48 =>
   bnd (bi .shr v39 (.i .u64 16)) fun v49 =>
   bnd (cv .u8 v49) fun v50 =>
   bnd (bi .shr v39 (.i .u64 8)) fun v51 =>
   bnd (cv .u8 v51) fun v52 =>
   bnd (cv .u8 v39) fun v53 =>
   bnd (xA 32 (gS sl 8) v40) fun v54 =>
   bndO (st ob 1 v54 v48) ob fun _ ob =>
   bnd (xA 32 (gS sl 8) v42) fun v55 =>
   bndO (st ob 1 v55 v50) ob fun _ ob =>
   bnd (xA 32 (gS sl 8) v44) fun v56 =>
   bndO (st ob 1 v56 v52) ob fun _ ob =>
   bnd (xA 32 (gS sl 8) v46) fun v57 =>
   bndO (st ob 1 v57 v53) ob fun _ ob =>
   bnd (bi .add (gS sl 52) (.i .i64 1)) fun v58 =>
   bnd (head [] [2, 8, 51, 52] [80, 128] [(2, (gS sl 2)), (8, (gS sl 8)), (51, (gS sl 51)), (52, v58)] ob) fun x => g x.1 x.2
  ) (
   bnd (lN ob 32 (gS sl 8)) fun v59 =>
   bndO (st ob 32 (gS sl 2) v59) ob fun _ ob =>
   bnd (lN ob 32 (gS sl 2)) fun v60 =>
   fin ob os.length [0] [v60]
  )
noncomputable def m63b1 (Φ : Sem') (N : Nat) (os : List Obj') (g : SL → OB → Option R) (sl : SL) (ob : OB) : Option R :=
  bnd (bi .lss (gS sl 31) (.i .i64 8)) fun v22 =>
  br v22 (
   bnd (bi .mul (.i .i64 8) (gS sl 31)) fun v23 =>
   bnd (bi .sub (.i .i64 56) v23) fun v24 =>
   bnd (bi .shr (gS sl 4) v24) fun v25 =>
   bnd (cv .u8 v25) fun v26 =>
   bndO (bldS ob 392 1 [v26]) ob fun v27 ob =>
   bndO (ap ob 400 1 (gS sl 3) v27) ob fun v28 ob =>
   bnd (bi .add (gS sl 31) (.i .i64 1)) fun v29 =>
   bnd (head [.row 3 95 1] [1, 2, 3, 4, 31] [72, 80] [(1, (gS sl 1)), (2, (gS sl 2)), (3, v28), (4, (gS sl 4)), (31, v29)] ob) fun x => g x.1 x.2
  ) (
   bnd (fA 0 (gS sl 1)) fun v30 =>
   bnd (lN ob 8 v30) fun v31 =>
   bndO (ca0 Φ ob 448 false 86 [v31, (gS sl 3)]) ob fun v32 ob =>
   bnd (ext 0 v32) fun v33 =>
   bnd (ext 1 v32) fun v34 =>
   bndO (al ob 112 [.blob 8 (List.replicate 8 (.i .u32 0))]) ob fun v35 ob =>
   bndO (st ob 8 v35 v33) ob fun _ ob =>
   bndO (al ob 128 [.blob 32 (List.replicate 32 (.i .u8 0))]) ob fun v36 ob =>
   bnd (lN ob 8 v35) fun v37 =>
   bnd (head [] [2, 8, 51, 52] [80, 128] [(2, (gS sl 2)), (8, v36), (51, v37), (52, (.i .i64 0))] ob) fun x => loopC (m63b0 Φ N os) N x.1 x.2
  )
noncomputable def m63b2 (Φ : Sem') (N : Nat) (os : List Obj') (g : SL → OB → Option R) (sl : SL) (ob : OB) : Option R :=
  bnd (len (gS sl 3)) fun v13 =>
  bnd (bi .rem v13 (.i .i64 64)) fun v14 =>
  bnd (bi .neq v14 (.i .i64 56)) fun v15 =>
  br v15 (
   bndO (bldS ob 264 1 [(.i .u8 0)]) ob fun v16 ob =>
   bndO (ap ob 272 1 (gS sl 3) v16) ob fun v17 ob =>
   bnd (head [.row 3 95 1] [1, 2, 3] [72, 80] [(1, (gS sl 1)), (2, (gS sl 2)), (3, v17)] ob) fun x => g x.1 x.2
  ) (
   bnd (fA 9 (gS sl 1)) fun v18 =>
   bnd (l1 ob v18) fun v19 =>
   bnd (cv .u64 v19) fun v20 =>
   bnd (bi .mul v20 (.i .u64 8)) fun v21 =>
   bnd (head [.row 3 95 1] [1, 2, 3, 4, 31] [72, 80] [(1, (gS sl 1)), (2, (gS sl 2)), (3, (gS sl 3)), (4, v21), (31, (.i .i64 0))] ob) fun x => loopC (m63b1 Φ N os) N x.1 x.2
  )
noncomputable def m63 : Body := fun Φ N as os =>
  let a0 := gS (zipN 0 as) 0
  let ob := zipN 0 os
  bndO (bx ob 72 a0) ob fun v1 ob =>
  bndO (al ob 80 [.blob 32 (List.replicate 32 (.i .u8 0))]) ob fun v2 ob =>
  bnd (lN ob 10 v1) fun v3 =>
  bndO (ca0 Φ ob 160 false 84 [v3]) ob fun v4 ob =>
  bnd (uO .not v4) fun v5 =>
  br v5 (
   bnd (bld [.blob 32 (List.replicate 32 (.i .u8 0))] []) fun v6 =>
   bndO (st ob 32 v2 v6) ob fun _ ob =>
   bnd (lN ob 32 v2) fun v7 =>
   fin ob os.length [0] [v7]
  ) (
   bnd (fA 8 v1) fun v8 =>
   bnd (l1 ob v8) fun v9 =>
   bndO (ca0 Φ ob 200 false 85 [v9]) ob fun v10 ob =>
   bndO (bldS ob 208 1 [(.i .u8 128)]) ob fun v11 ob =>
   bndO (ap ob 216 1 v10 v11) ob fun v12 ob =>
   bnd (head [.row 3 95 1] [1, 2, 3] [72, 80] [(1, v1), (2, v2), (3, v12)] ob) fun x => loopC (m63b2 Φ N os) N x.1 x.2
  )

def ann63 : Nat → Option Hd
  | 4 => some ⟨[.row 3 95 1], [1, 2, 3], [72, 80]⟩ | 8 => some ⟨[.row 3 95 1], [1, 2, 3, 4, 31], [72, 80]⟩ | 15 => some ⟨[], [2, 8, 51, 52], [80, 128]⟩ | _ => none
def lab63 : Nat → Option Hd := fun _ => none
/- pelican/sha.Add -/
noncomputable def m64 : Body := fun Φ N as os =>
  let a0 := gS (zipN 0 as) 0
  let a1 := gS (zipN 0 as) 1
  let ob := zipN 0 os
  bndO (bx ob 80 a0) ob fun v1 ob =>
  bndO (al ob 96 [.blob 8 (List.replicate 8 (.i .u32 0)), .e true, .i .i64 0]) ob fun v2 ob =>
  bnd (lN ob 10 v1) fun v3 =>
  bndO (ca0 Φ ob 128 false 84 [v3]) ob fun v4 ob =>
  bnd (uO .not v4) fun v5 =>
  bnd (gd v5 false (some a1)) fun v6 =>
  bnd (gd v5 false (len v6)) fun v7 =>
  bnd (gd v5 false (fA 9 v1)) fun v8 =>
  bnd (gd v5 false (l1 ob v8)) fun v9 =>
  bnd (gd v5 false (bi .sub (.i .i64 1048576) v9)) fun v10 =>
  bnd (gd v5 false (bi .gtr v7 v10)) fun v11 =>
  bnd (pk v5 (.b true) v11) fun v12 =>
  br v12 (
   bnd (bld [.blob 8 (List.replicate 8 (.i .u32 0)), .e true, .i .i64 0] []) fun v13 =>
   bndO (st ob 10 v2 v13) ob fun _ ob =>
   bnd (lN ob 10 v2) fun v14 =>
   fin ob os.length [0] [v14]
  ) (
   bnd (fA 0 v1) fun v15 =>
   bnd (lN ob 8 v15) fun v16 =>
   bnd (fA 8 v1) fun v17 =>
   bnd (l1 ob v17) fun v18 =>
   bndO (bldS ob 264 1 [v18, a1]) ob fun v19 ob =>
   bndO (ca0 Φ ob 272 true 59 [v19]) ob fun v20 ob =>
   bndO (ca0 Φ ob 280 false 86 [v16, v20]) ob fun v21 ob =>
   bnd (ext 0 v21) fun v22 =>
   bnd (ext 1 v21) fun v23 =>
   bndO (al ob 104 [.blob 8 (List.replicate 8 (.i .u32 0))]) ob fun v24 ob =>
   bndO (st ob 8 v24 v22) ob fun _ ob =>
   bnd (lN ob 8 v24) fun v25 =>
   bndO (ca0 Φ ob 320 false 85 [v23]) ob fun v26 ob =>
   bnd (fA 9 v1) fun v27 =>
   bnd (l1 ob v27) fun v28 =>
   bnd (len a1) fun v29 =>
   bnd (bi .add v28 v29) fun v30 =>
   bnd (bld [.blob 8 (List.replicate 8 (.i .u32 0)), .e true, .i .i64 0] [(0, 8, v25), (8, 1, v26), (9, 1, v30)]) fun v31 =>
   bndO (st ob 10 v2 v31) ob fun _ ob =>
   bnd (lN ob 10 v2) fun v32 =>
   fin ob os.length [0] [v32]
  )

def ann64 : Nat → Option Hd := fun _ => none
def lab64 : Nat → Option Hd := fun _ => none
/- pelican/sha.New -/
noncomputable def m65 : Body := fun Φ N as os =>
  let ob := zipN 0 os
  bndO (al ob 64 [.blob 8 (List.replicate 8 (.i .u32 0)), .e true, .i .i64 0]) ob fun v1 ob =>
  bnd (lN ob 8 (.q true gFirst none)) fun v2 =>
  bnd (bld [.blob 8 (List.replicate 8 (.i .u32 0)), .e true, .i .i64 0] [(0, 8, v2)]) fun v3 =>
  bndO (st ob 10 v1 v3) ob fun _ ob =>
  bnd (lN ob 10 v1) fun v4 =>
  fin ob os.length [0] [v4]

def ann65 : Nat → Option Hd := fun _ => none
def lab65 : Nat → Option Hd := fun _ => none
/- pelican/pelicanref01.Sum -/
noncomputable def m69 : Body := fun Φ N as os =>
  let a0 := gS (zipN 0 as) 0
  let ob := zipN 0 os
  bndO (al ob 80 [.blob 32 (List.replicate 32 (.i .u8 0))]) ob fun v1 ob =>
  bnd (len a0) fun v2 =>
  bnd (bi .gtr v2 (.i .i64 1048576)) fun v3 =>
  br v3 (
   bnd (bld [.blob 32 (List.replicate 32 (.i .u8 0))] []) fun v4 =>
   bndO (st ob 32 v1 v4) ob fun _ ob =>
   bnd (lN ob 32 v1) fun v5 =>
   fin ob os.length [0] [v5]
  ) (
   bndO (ca0 Φ ob 120 false 90 []) ob fun v6 ob =>
   bndO (ca0 Φ ob 136 false 89 [v6, a0]) ob fun v7 ob =>
   bndO (ca0 Φ ob 144 false 88 [v7]) ob fun v8 ob =>
   bndO (st ob 32 v1 v8) ob fun _ ob =>
   bnd (lN ob 32 v1) fun v9 =>
   fin ob os.length [0] [v9]
  )

def ann69 : Nat → Option Hd := fun _ => none
def lab69 : Nat → Option Hd := fun _ => none
/- pelican/pelicanref03.Put -/
noncomputable def m75b0 (Φ : Sem') (N : Nat) (os : List Obj') (g : SL → OB → Option R) (sl : SL) (ob : OB) : Option R :=
  bnd (bi .geq (gS sl 7) (.i .i64 0)) fun v7 =>
  br v7 (
   bnd (bi .rem (gS sl 0) (.i .u64 256)) fun v8 =>
   bnd (cv .u8 v8) fun v9 =>
   bnd (xS ob 1 (gS sl 6) (gS sl 7)) fun v10 =>
   bndO (st ob 1 v10 v9) ob fun _ ob =>
   bnd (bi .quo (gS sl 0) (.i .u64 256)) fun v11 =>
   bnd (bi .sub (gS sl 7) (.i .i64 1)) fun v12 =>
   bnd (head [] [0, 6, 7] [184] [(0, v11), (6, (gS sl 6)), (7, v12)] ob) fun x => g x.1 x.2
  ) (
   bnd (bi .neq (gS sl 0) (.i .u64 0)) fun v13 =>
   br v13 (
    fin ob os.length [1, 0] [(.e true), (.b false)]
   ) (
    fin ob os.length [1, 0] [(gS sl 6), (.b true)]
   )
  )
noncomputable def m75 : Body := fun Φ N as os =>
  let a0 := gS (zipN 0 as) 0
  let a1 := gS (zipN 0 as) 1
  let ob := zipN 0 os
  bnd (bi .lss a1 (.i .i64 1)) fun v1 =>
  bnd (gd v1 false (some a1)) fun v2 =>
  bnd (gd v1 false (bi .gtr v2 (.i .i64 8))) fun v3 =>
  bnd (pk v1 (.b true) v3) fun v4 =>
  br v4 (
   fin ob os.length [1, 0] [(.e true), (.b false)]
  ) (
   bndO (mks ob 184 [.i .u8 0] a1) ob fun v5 ob =>
   bnd (bi .sub a1 (.i .i64 1)) fun v6 =>
   bnd (head [] [0, 6, 7] [184] [(0, a0), (6, v5), (7, v6)] ob) fun x => loopC (m75b0 Φ N os) N x.1 x.2
  )

def ann75 : Nat → Option Hd
  | 5 => some ⟨[], [0, 6, 7], [184]⟩ | _ => none
def lab75 : Nat → Option Hd := fun _ => none
/- pelican/pelicanref02.Tag -/
noncomputable def m76 : Body := fun Φ N as os =>
  let a0 := gS (zipN 0 as) 0
  let a1 := gS (zipN 0 as) 1
  let ob := zipN 0 os
  bndO (al ob 96 [.blob 32 (List.replicate 32 (.i .u8 0))]) ob fun v1 ob =>
  bndO (ca0 Φ ob 120 false 92 [a0, (.i .u8 54)]) ob fun v2 ob =>
  bndO (ap ob 136 1 v2 a1) ob fun v3 ob =>
  bndO (ca0 Φ ob 144 false 69 [v3]) ob fun v4 ob =>
  bndO (al ob 104 [.blob 32 (List.replicate 32 (.i .u8 0))]) ob fun v5 ob =>
  bndO (st ob 32 v5 v4) ob fun _ ob =>
  bndO (ca0 Φ ob 160 false 92 [a0, (.i .u8 92)]) ob fun v6 ob =>
  bndO (slc ob (.arr 32) v5 none none none) ob fun v7 ob =>
  bndO (ap ob 176 1 v6 v7) ob fun v8 ob =>
  bndO (ca0 Φ ob 184 false 69 [v8]) ob fun v9 ob =>
  bndO (st ob 32 v1 v9) ob fun _ ob =>
  bnd (lN ob 32 v1) fun v10 =>
  fin ob os.length [0] [v10]

def ann76 : Nat → Option Hd := fun _ => none
def lab76 : Nat → Option Hd := fun _ => none
/- pelican/num.size -/
noncomputable def m77 : Body := fun Φ N as os =>
  let a0 := gS (zipN 0 as) 0
  let ob := zipN 0 os
  bnd (bi .geq a0 (.i .i64 1)) fun v1 =>
  bnd (gd v1 true (some a0)) fun v2 =>
  bnd (gd v1 true (bi .leq v2 (.i .i64 8))) fun v3 =>
  bnd (pk v1 v3 (.b false)) fun v4 =>
  fin ob os.length [0] [v4]

def ann77 : Nat → Option Hd := fun _ => none
def lab77 : Nat → Option Hd := fun _ => none
/- pelican/mac.Block -/
noncomputable def m78 : Body := fun Φ N as os =>
  let a0 := gS (zipN 0 as) 0
  let ob := zipN 0 os
  bndO (mks ob 104 [.i .u8 0] (.i .i64 64)) ob fun v1 ob =>
  bnd (len a0) fun v2 =>
  bnd (bi .gtr v2 (.i .i64 64)) fun v3 =>
  br v3 (
   bndO (ca0 Φ ob 144 false 35 [a0]) ob fun v4 ob =>
   bndO (al ob 96 [.blob 32 (List.replicate 32 (.i .u8 0))]) ob fun v5 ob =>
   bndO (st ob 32 v5 v4) ob fun _ ob =>
   bndO (slc ob (.arr 32) v5 none none none) ob fun v6 ob =>
   bndO (cpy ob 1 v1 v6) ob fun v7 ob =>
   fin ob os.length [1] [v1]
  ) (
   bndO (cpy ob 1 v1 a0) ob fun v8 ob =>
   fin ob os.length [1] [v1]
  )

def ann78 : Nat → Option Hd := fun _ => none
def lab78 : Nat → Option Hd := fun _ => none
/- pelican/mac.Tag$1 -/
noncomputable def m79b0 (Φ : Sem') (N : Nat) (os : List Obj') (g : SL → OB → Option R) (sl : SL) (ob : OB) : Option R :=
  bnd (bi .lss (gS sl 12) (gS sl 11)) fun v7 =>
  br v7 (
   bnd (xS ob 1 (gS sl 10) (gS sl 12)) fun v8 =>
   bnd (l1 ob v8) fun v9 =>
   bnd (bi .xor v9 (gS sl 0)) fun v10 =>
   bnd (xS ob 1 (gS sl 4) (gS sl 12)) fun v11 =>
   bndO (st ob 1 v11 v10) ob fun _ ob =>
   bnd (bi .add (gS sl 12) (.i .i64 1)) fun v12 =>
   bnd (head [.row 4 103 1] [0, 3, 4, 10, 11, 12] [88, 0, 1] [(0, (gS sl 0)), (3, (gS sl 3)), (4, (gS sl 4)), (10, (gS sl 10)), (11, (gS sl 11)), (12, v12)] ob) fun x => g x.1 x.2
  ) (
   bndO (ca0 Φ ob 256 false 65 []) ob fun v13 ob =>
   bndO (ca0 Φ ob 272 false 64 [v13, (gS sl 4)]) ob fun v14 ob =>
   bndO (st ob 10 (gS sl 3) v14) ob fun _ ob =>
   bnd (lN ob 10 (gS sl 3)) fun v15 =>
   fin ob os.length [0] [v15]
  )
noncomputable def m79 : Body := fun Φ N as os =>
  let a0 := gS (zipN 0 as) 0
  let a1 := gS (zipN 0 as) 1
  let ob := zipN 0 os
  bndO (al ob 88 [.blob 8 (List.replicate 8 (.i .u32 0)), .e true, .i .i64 0]) ob fun v1 ob =>
  bnd (l1 ob a1) fun v2 =>
  bnd (len v2) fun v3 =>
  bndO (mks ob 136 [.i .u8 0] v3) ob fun v4 ob =>
  bnd (l1 ob a1) fun v5 =>
  bnd (len v5) fun v6 =>
  bnd (head [.row 4 103 1] [0, 3, 4, 10, 11, 12] [88, 0, 1] [(0, a0), (3, v1), (4, v4), (10, v5), (11, v6), (12, (.i .i64 0))] ob) fun x => loopC (m79b0 Φ N os) N x.1 x.2

def ann79 : Nat → Option Hd
  | 3 => some ⟨[.row 4 103 1], [0, 3, 4, 10, 11, 12], [88, 0, 1]⟩ | _ => none
def lab79 : Nat → Option Hd := fun _ => none
/- slices.Grow[[]byte,byte] -/
noncomputable def m80 : Body := fun Φ N as os =>
  let a0 := gS (zipN 0 as) 0
  let a1 := gS (zipN 0 as) 1
  let ob := zipN 0 os
  bnd (bi .lss a1 (.i .i64 0)) fun v1 =>
  br v1 (
   none
  ) (
   bnd (cp ob a0) fun v2 =>
   bnd (len a0) fun v3 =>
   bnd (bi .sub v2 v3) fun v4 =>
   bnd (bi .sub a1 v4) fun v5 =>
   bnd (bi .gtr v5 (.i .i64 0)) fun v6 =>
   br v6 (
    bnd (cp ob a0) fun v7 =>
    bndO (slc ob (.slice 1) a0 none (some v7) none) ob fun v8 ob =>
    bndO (apz ob 240 [.i .u8 0] v8 v5) ob fun v9 ob =>
    bnd (len a0) fun v10 =>
    bndO (slc ob (.slice 1) v9 none (some v10) none) ob fun v11 ob =>
    fin ob os.length [1] [v11]
   ) (
    fin ob os.length [1] [a0]
   )
  )

def ann80 : Nat → Option Hd := fun _ => none
def lab80 : Nat → Option Hd := fun _ => none
/- pelican/sha.May -/
noncomputable def m84 : Body := fun Φ N as os =>
  let a0 := gS (zipN 0 as) 0
  let ob := zipN 0 os
  bndO (bx ob 72 a0) ob fun v1 ob =>
  bnd (fA 9 v1) fun v2 =>
  bnd (l1 ob v2) fun v3 =>
  bnd (bi .geq v3 (.i .i64 0)) fun v4 =>
  bnd (gd v4 true (fA 9 v1)) fun v5 =>
  bnd (gd v4 true (l1 ob v5)) fun v6 =>
  bnd (gd v4 true (bi .leq v6 (.i .i64 1048576))) fun v7 =>
  bnd (pk v4 v7 (.b false)) fun v8 =>
  bnd (gd v8 true (fA 8 v1)) fun v9 =>
  bnd (gd v8 true (l1 ob v9)) fun v10 =>
  bnd (gd v8 true (len v10)) fun v11 =>
  bnd (gd v8 true (fA 9 v1)) fun v12 =>
  bnd (gd v8 true (l1 ob v12)) fun v13 =>
  bnd (gd v8 true (bi .rem v13 (.i .i64 64))) fun v14 =>
  bnd (gd v8 true (bi .eql v11 v14)) fun v15 =>
  bnd (pk v8 v15 (.b false)) fun v16 =>
  fin ob os.length [0] [v16]

def ann84 : Nat → Option Hd := fun _ => none
def lab84 : Nat → Option Hd := fun _ => none
/- slices.Clone[[]byte,byte] -/
noncomputable def m85 : Body := fun Φ N as os =>
  let a0 := gS (zipN 0 as) 0
  let ob := zipN 0 os
  bnd (eNs false ob a0) fun v1 =>
  br v1 (
   fin ob os.length [1] [(.e true)]
  ) (
   bndO (bldS ob 104 1 []) ob fun v2 ob =>
   bndO (ap ob 120 1 v2 a0) ob fun v3 ob =>
   fin ob os.length [1] [v3]
  )

def ann85 : Nat → Option Hd := fun _ => none
def lab85 : Nat → Option Hd := fun _ => none
/- pelican/sha.rounded -/
noncomputable def m86b0 (Φ : Sem') (N : Nat) (os : List Obj') (g : SL → OB → Option R) (sl : SL) (ob : OB) : Option R :=
  bnd (len (gS sl 1)) fun v3 =>
  bnd (bi .geq v3 (.i .i64 64)) fun v4 =>
  br v4 (
   bnd (lN ob 8 (gS sl 2)) fun v5 =>
   bndO (slc ob (.slice 1) (gS sl 1) none (some (.i .i64 64)) none) ob fun v6 ob =>
   bndO (ca0 Φ ob 160 false 94 [v5, v6]) ob fun v7 ob =>
   bndO (st ob 8 (gS sl 2) v7) ob fun _ ob =>
   bndO (slc ob (.slice 1) (gS sl 1) (some (.i .i64 64)) none none) ob fun v8 ob =>
   bnd (head [] [1, 2, 4] [80, 96] [(1, v8), (2, (gS sl 2)), (4, (gS sl 4))] ob) fun x => g x.1 x.2
  ) (
   bnd (lN ob 8 (gS sl 2)) fun v9 =>
   bndO (st ob 8 (gS sl 4) v9) ob fun _ ob =>
   bnd (lN ob 8 (gS sl 4)) fun v10 =>
   fin ob os.length [0, 1] [v10, (gS sl 1)]
  )
noncomputable def m86 : Body := fun Φ N as os =>
  let a0 := gS (zipN 0 as) 0
  let a1 := gS (zipN 0 as) 1
  let ob := zipN 0 os
  bndO (bx ob 80 a0) ob fun v1 ob =>
  bndO (al ob 96 [.blob 8 (List.replicate 8 (.i .u32 0))]) ob fun v2 ob =>
  bnd (head [] [1, 2, 4] [80, 96] [(1, a1), (2, v1), (4, v2)] ob) fun x => loopC (m86b0 Φ N os) N x.1 x.2

def ann86 : Nat → Option Hd
  | 1 => some ⟨[], [1, 2, 4], [80, 96]⟩ | _ => none
def lab86 : Nat → Option Hd := fun _ => none
/- pelican/pelicanref01.End -/
noncomputable def m88b0 (Φ : Sem') (N : Nat) (os : List Obj') (g : SL → OB → Option R) (sl : SL) (ob : OB) : Option R :=
  bnd (bi .lss (gS sl 8) (.i .i64 8)) fun v43 =>
  br v43 (
   bnd (bi .mul (.i .i64 4) (gS sl 8)) fun v44 =>
   bnd (xA 8 (gS sl 6) (gS sl 8)) fun v45 =>
   bnd (l1 ob v45) fun v46 =>
   bnd (bi .quo v46 (.i .u32 16777216)) fun v47 =>
   bnd (cv .u8 v47) fun v48 =>
   bnd (xA 32 (gS sl 7) v44) fun v49 =>
   bndO (st ob 1 v49 v48) ob fun _ ob =>
   bnd (bi .mul (.i .i64 4) (gS sl 8)) fun v50 =>
   bnd (bi .add v50 (.i .i64 1)) fun v51 =>
   bnd (xA 8 (gS sl 6) (gS sl 8)) fun v52 =>
   bnd (l1 ob v52) fun v53 =>
   bnd (bi .quo v53 (.i .u32 65536)) fun v54 =>
   bnd (bi .rem v54 (.i .u32 256)) fun v55 =>
   bnd (cv .u8 v55) fun v56 =>
   bnd (xA 32 (gS sl 7) v51) fun v57 =>
   bndO (st ob 1 v57 v56) ob fun _ ob =>
   bnd (bi .mul (.i .i64 4) (gS sl 8)) fun v58 =>
   bnd (bi .add v58 (.i .i64 2)) fun v59 =>
   bnd (xA 8 (gS sl 6) (gS sl 8)) fun v60 =>
   bnd (l1 ob v60) fun v61 =>
   bnd (bi .quo v61 (.i .u32 256)) fun v62 =>
   bnd (bi .rem v62 (.i .u32 256)) fun v63 =>
   bnd (cv .u8 v63) fun v64 =>
   bnd (xA 32 (gS sl 7) v59) fun v65 =>
   bndO (st ob 1 v65 v64) ob fun _ ob =>
   bnd (bi .mul (.i .i64 4) (gS sl 8)) fun v66 =>
   bnd (bi .add v66 (.i .i64 3)) fun v67 =>
   bnd (xA 8 (gS sl 6) (gS sl 8)) fun v68 =>
   bnd (l1 ob v68) fun v69 =>
   bnd (bi .rem v69 (.i .u32 256)) fun v70 =>
   bnd (cv .u8 v70) fun v71 =>
   bnd (xA 32 (gS sl 7) v67) fun v72 =>
   bndO (st ob 1 v72 v71) ob fun _ ob =>
   bnd (bi .add (gS sl 8) (.i .i64 1)) fun v73 =>
   bnd (head [] [2, 6, 7, 8] [80, 112, 120] [(2, (gS sl 2)), (6, (gS sl 6)), (7, (gS sl 7)), (8, v73)] ob) fun x => g x.1 x.2
  ) (
   bnd (lN ob 32 (gS sl 7)) fun v74 =>
   bndO (st ob 32 (gS sl 2) v74) ob fun _ ob =>
   bnd (lN ob 32 (gS sl 2)) fun v75 =>
   fin ob os.length [0] [v75]
  )
noncomputable def m88b1 (Φ : Sem') (N : Nat) (os : List Obj') (g : SL → OB → Option R) (sl : SL) (ob : OB) : Option R :=
  bnd (len (gS sl 4)) fun v36 =>
  bnd (bi .gtr v36 (.i .i64 0)) fun v37 =>
  br v37 (
   bnd (lN ob 8 (gS sl 6)) fun v38 =>
   bndO (slc ob (.slice 1) (gS sl 4) none (some (.i .i64 64)) none) ob fun v39 ob =>
   bndO (ca0 Φ ob 504 false 96 [v38, v39]) ob fun v40 ob =>
   bndO (st ob 8 (gS sl 6) v40) ob fun _ ob =>
   bndO (slc ob (.slice 1) (gS sl 4) (some (.i .i64 64)) none none) ob fun v41 ob =>
   bnd (head [] [2, 4, 6] [80, 112, 103] [(2, (gS sl 2)), (4, v41), (6, (gS sl 6))] ob) fun x => g x.1 x.2
  ) (
   bndO (al ob 120 [.blob 32 (List.replicate 32 (.i .u8 0))]) ob fun v42 ob =>
   bnd (head [] [2, 6, 7, 8] [80, 112, 120] [(2, (gS sl 2)), (6, (gS sl 6)), (7, v42), (8, (.i .i64 0))] ob) fun x => loopC (m88b0 Φ N os) N x.1 x.2
  )
noncomputable def m88b2 (Φ : Sem') (N : Nat) (os : List Obj') (g : SL → OB → Option R) (sl : SL) (ob : OB) : Option R :=
  bnd (len (gS sl 4)) fun v13 =>
  bnd (bi .rem v13 (.i .i64 64)) fun v14 =>
  bnd (bi .neq v14 (.i .i64 56)) fun v15 =>
  br v15 (
   bndO (bldS ob 264 1 [(.i .u8 0)]) ob fun v16 ob =>
   bndO (ap ob 272 1 (gS sl 4) v16) ob fun v17 ob =>
   bnd (head [.row 4 103 1] [1, 2, 4] [72, 80] [(1, (gS sl 1)), (2, (gS sl 2)), (4, v17)] ob) fun x => g x.1 x.2
  ) (
   bnd (fA 9 (gS sl 1)) fun v18 =>
   bnd (l1 ob v18) fun v19 =>
   bnd (bi .mul (.i .i64 8) v19) fun v20 =>
   bnd (bi .quo v20 (.i .i64 16777216)) fun v21 =>
   bnd (cv .u8 v21) fun v22 =>
   bnd (bi .quo v20 (.i .i64 65536)) fun v23 =>
   bnd (bi .rem v23 (.i .i64 256)) fun v24 =>
   bnd (cv .u8 v24) fun v25 =>
   bnd (bi .quo v20 (.i .i64 256)) fun v26 =>
   bnd (bi .rem v26 (.i .i64 256)) fun v27 =>
   bnd (cv .u8 v27) fun v28 =>
   bnd (bi .rem v20 (.i .i64 256)) fun v29 =>
   bnd (cv .u8 v29) fun v30 =>
   bndO (bldS ob 424 1 [(.i .u8 0), (.i .u8 0), (.i .u8 0), (.i .u8 0), v22, v25, v28, v30]) ob fun v31 ob =>
   bndO (ap ob 432 1 (gS sl 4) v31) ob fun v32 ob =>
   bnd (fA 0 (gS sl 1)) fun v33 =>
   bnd (lN ob 8 v33) fun v34 =>
   bndO (al ob 112 [.blob 8 (List.replicate 8 (.i .u32 0))]) ob fun v35 ob =>
   bndO (st ob 8 v35 v34) ob fun _ ob =>
   bnd (head [] [2, 4, 6] [80, 112, 103] [(2, (gS sl 2)), (4, v32), (6, v35)] ob) fun x => loopC (m88b1 Φ N os) N x.1 x.2
  )
noncomputable def m88 : Body := fun Φ N as os =>
  let a0 := gS (zipN 0 as) 0
  let ob := zipN 0 os
  bndO (bx ob 72 a0) ob fun v1 ob =>
  bndO (al ob 80 [.blob 32 (List.replicate 32 (.i .u8 0))]) ob fun v2 ob =>
  bnd (lN ob 10 v1) fun v3 =>
  bndO (ca0 Φ ob 144 false 95 [v3]) ob fun v4 ob =>
  bnd (uO .not v4) fun v5 =>
  br v5 (
   bnd (bld [.blob 32 (List.replicate 32 (.i .u8 0))] []) fun v6 =>
   bndO (st ob 32 v2 v6) ob fun _ ob =>
   bnd (lN ob 32 v2) fun v7 =>
   fin ob os.length [0] [v7]
  ) (
   bnd (fA 8 v1) fun v8 =>
   bnd (l1 ob v8) fun v9 =>
   bndO (ap ob 192 1 (.e true) v9) ob fun v10 ob =>
   bndO (bldS ob 208 1 [(.i .u8 128)]) ob fun v11 ob =>
   bndO (ap ob 216 1 v10 v11) ob fun v12 ob =>
   bnd (head [.row 4 103 1] [1, 2, 4] [72, 80] [(1, v1), (2, v2), (4, v12)] ob) fun x => loopC (m88b2 Φ N os) N x.1 x.2
  )

def ann88 : Nat → Option Hd
  | 6 => some ⟨[.row 4 103 1], [1, 2, 4], [72, 80]⟩ | 11 => some ⟨[], [2, 4, 6], [80, 112, 103]⟩ | 16 => some ⟨[], [2, 6, 7, 8], [80, 112, 120]⟩ | _ => none
def lab88 : Nat → Option Hd := fun _ => none
/- pelican/pelicanref01.Add -/
noncomputable def m89b0 (Φ : Sem') (N : Nat) (os : List Obj') (g : SL → OB → Option R) (sl : SL) (ob : OB) : Option R :=
  bnd (len (gS sl 6)) fun v27 =>
  bnd (bi .geq v27 (.i .i64 64)) fun v28 =>
  br v28 (
   bnd (fA 0 (gS sl 7)) fun v29 =>
   bnd (lN ob 8 v29) fun v30 =>
   bndO (slc ob (.slice 1) (gS sl 6) none (some (.i .i64 64)) none) ob fun v31 ob =>
   bndO (ca0 Φ ob 400 false 96 [v30, v31]) ob fun v32 ob =>
   bnd (fA 0 (gS sl 7)) fun v33 =>
   bndO (st ob 8 v33 v32) ob fun _ ob =>
   bndO (slc ob (.slice 1) (gS sl 6) (some (.i .i64 64)) none none) ob fun v34 ob =>
   bnd (head [] [4, 6, 7] [96, 120, 248] [(4, (gS sl 4)), (6, v34), (7, (gS sl 7))] ob) fun x => g x.1 x.2
  ) (
   bnd (fA 8 (gS sl 7)) fun v35 =>
   bndO (st ob 1 v35 (gS sl 6)) ob fun _ ob =>
   bnd (lN ob 10 (gS sl 7)) fun v36 =>
   bndO (st ob 10 (gS sl 4) v36) ob fun _ ob =>
   bnd (lN ob 10 (gS sl 4)) fun v37 =>
   fin ob os.length [0] [v37]
  )
noncomputable def m89 : Body := fun Φ N as os =>
  let a0 := gS (zipN 0 as) 0
  let a1 := gS (zipN 0 as) 1
  let ob := zipN 0 os
  bndO (bx ob 80 a0) ob fun v1 ob =>
  bndO (al ob 96 [.blob 8 (List.replicate 8 (.i .u32 0)), .e true, .i .i64 0]) ob fun v2 ob =>
  bnd (lN ob 10 v1) fun v3 =>
  bndO (ca0 Φ ob 136 false 95 [v3]) ob fun v4 ob =>
  bnd (uO .not v4) fun v5 =>
  bnd (gd v5 false (some a1)) fun v6 =>
  bnd (gd v5 false (len v6)) fun v7 =>
  bnd (gd v5 false (fA 9 v1)) fun v8 =>
  bnd (gd v5 false (l1 ob v8)) fun v9 =>
  bnd (gd v5 false (bi .sub (.i .i64 1048576) v9)) fun v10 =>
  bnd (gd v5 false (bi .gtr v7 v10)) fun v11 =>
  bnd (pk v5 (.b true) v11) fun v12 =>
  br v12 (
   bnd (bld [.blob 8 (List.replicate 8 (.i .u32 0)), .e true, .i .i64 0] []) fun v13 =>
   bndO (st ob 10 v2 v13) ob fun _ ob =>
   bnd (lN ob 10 v2) fun v14 =>
   fin ob os.length [0] [v14]
  ) (
   bnd (fA 8 v1) fun v15 =>
   bnd (l1 ob v15) fun v16 =>
   bndO (ap ob 248 1 (.e true) v16) ob fun v17 ob =>
   bndO (ap ob 272 1 v17 a1) ob fun v18 ob =>
   bnd (fA 0 v1) fun v19 =>
   bnd (lN ob 8 v19) fun v20 =>
   bnd (fA 9 v1) fun v21 =>
   bnd (l1 ob v21) fun v22 =>
   bnd (len a1) fun v23 =>
   bnd (bi .add v22 v23) fun v24 =>
   bnd (bld [.blob 8 (List.replicate 8 (.i .u32 0)), .e true, .i .i64 0] [(0, 8, v20), (9, 1, v24)]) fun v25 =>
   bndO (al ob 120 [.blob 8 (List.replicate 8 (.i .u32 0)), .e true, .i .i64 0]) ob fun v26 ob =>
   bndO (st ob 10 v26 v25) ob fun _ ob =>
   bnd (head [] [4, 6, 7] [96, 120, 248] [(4, v2), (6, v18), (7, v26)] ob) fun x => loopC (m89b0 Φ N os) N x.1 x.2
  )

def ann89 : Nat → Option Hd
  | 7 => some ⟨[], [4, 6, 7], [96, 120, 248]⟩ | _ => none
def lab89 : Nat → Option Hd := fun _ => none
/- pelican/pelicanref01.New -/
noncomputable def m90 : Body := fun Φ N as os =>
  let ob := zipN 0 os
  bndO (al ob 64 [.blob 8 (List.replicate 8 (.i .u32 0)), .e true, .i .i64 0]) ob fun v1 ob =>
  bnd (bld [.blob 8 (List.replicate 8 (.i .u32 0))] [(0, 1, (.i .u32 1779033703)), (1, 1, (.i .u32 3144134277)), (2, 1, (.i .u32 1013904242)), (3, 1, (.i .u32 2773480762)), (4, 1, (.i .u32 1359893119)), (5, 1, (.i .u32 2600822924)), (6, 1, (.i .u32 528734635)), (7, 1, (.i .u32 1541459225))]) fun v2 =>
  bnd (bld [.blob 8 (List.replicate 8 (.i .u32 0)), .e true, .i .i64 0] [(0, 8, v2)]) fun v3 =>
  bndO (st ob 10 v1 v3) ob fun _ ob =>
  bnd (lN ob 10 v1) fun v4 =>
  fin ob os.length [0] [v4]

def ann90 : Nat → Option Hd := fun _ => none
def lab90 : Nat → Option Hd := fun _ => none
/- pelican/pelicanref02.With -/
noncomputable def m92b0 (Φ : Sem') (N : Nat) (os : List Obj') (g : SL → OB → Option R) (sl : SL) (ob : OB) : Option R :=
  bnd (len (gS sl 5)) fun v2 =>
  bnd (bi .lss (gS sl 6) v2) fun v3 =>
  br v3 (
   bnd (xS ob 1 (gS sl 5) (gS sl 6)) fun v4 =>
   bnd (l1 ob v4) fun v5 =>
   bnd (bi .xor v5 (gS sl 1)) fun v6 =>
   bnd (xS ob 1 (gS sl 5) (gS sl 6)) fun v7 =>
   bndO (st ob 1 v7 v6) ob fun _ ob =>
   bnd (bi .add (gS sl 6) (.i .i64 1)) fun v8 =>
   bnd (head [] [1, 5, 6] [128] [(1, (gS sl 1)), (5, (gS sl 5)), (6, v8)] ob) fun x => g x.1 x.2
  ) (
   fin ob os.length [1] [(gS sl 5)]
  )
noncomputable def m92 : Body := fun Φ N as os =>
  let a0 := gS (zipN 0 as) 0
  let a1 := gS (zipN 0 as) 1
  let ob := zipN 0 os
  bndO (ca0 Φ ob 128 false 98 [a0]) ob fun v1 ob =>
  bnd (head [] [1, 5, 6] [128] [(1, a1), (5, v1), (6, (.i .i64 0))] ob) fun x => loopC (m92b0 Φ N os) N x.1 x.2

def ann92 : Nat → Option Hd
  | 3 => some ⟨[], [1, 5, 6], [128]⟩ | _ => none
def lab92 : Nat → Option Hd := fun _ => none
/- pelican/sha.round -/
noncomputable def m94b0 (Φ : Sem') (N : Nat) (os : List Obj') (g : SL → OB → Option R) (sl : SL) (ob : OB) : Option R :=
  bnd (bi .lss (gS sl 98) (.i .i64 8)) fun v72 =>
  br v72 (
   bnd (xA 8 (gS sl 6) (gS sl 98)) fun v73 =>
   bnd (l1 ob v73) fun v74 =>
   bnd (xA 8 (gS sl 2) (gS sl 98)) fun v75 =>
   bnd (l1 ob v75) fun v76 =>
   bnd (bi .add v74 v76) fun v77 =>
   bnd (xA 8 (gS sl 6) (gS sl 98)) fun v78 =>
   bndO (st ob 1 v78 v77) ob fun _ ob =>
   bnd (bi .add (gS sl 98) (.i .i64 1)) fun v79 =>
   bnd (head [] [2, 4, 6, 98] [80, 96, 112] [(2, (gS sl 2)), (4, (gS sl 4)), (6, (gS sl 6)), (98, v79)] ob) fun x => g x.1 x.2
  ) (
   bnd (lN ob 8 (gS sl 6)) fun v80 =>
   bndO (st ob 8 (gS sl 4) v80) ob fun _ ob =>
   bnd (lN ob 8 (gS sl 4)) fun v81 =>
   fin ob os.length [0] [v81]
  )
noncomputable def m94b1 (Φ : Sem') (N : Nat) (os : List Obj') (g : SL → OB → Option R) (sl : SL) (ob : OB) : Option R :=
  bnd (bi .lss (gS sl 16) (.i .i64 64)) fun v7 =>
  br v7 (
   bnd (xA 8 (gS sl 6) (.i .i64 0)) fun v8 =>
   bnd (l1 ob v8) fun v9 =>
   bnd (xA 8 (gS sl 6) (.i .i64 4)) fun v10 =>
   bnd (l1 ob v10) fun v11 =>
   bnd (xA 8 (gS sl 6) (.i .i64 7)) fun v12 =>
   bnd (l1 ob v12) fun v13 =>
   bndO (ca0 Φ ob 272 false 101 [v11, (.i .i64 6)]) ob fun v14 ob =>
   bndO (ca0 Φ ob 288 false 101 [v11, (.i .i64 11)]) ob fun v15 ob =>
   bnd (bi .xor v14 v15) fun v16 =>
   bndO (ca0 Φ ob 312 false 101 [v11, (.i .i64 25)]) ob fun v17 ob =>
   bnd (bi .xor v16 v17) fun v18 =>
   bnd (bi .add v13 v18) fun v19 =>
   bnd (xA 8 (gS sl 6) (.i .i64 5)) fun v20 =>
   bnd (l1 ob v20) fun v21 =>
   bnd (bi .and v11 v21) fun v22 =>
   bnd (uO .xor v11) fun v23 =>
   bnd (xA 8 (gS sl 6) (.i .i64 6)) fun v24 =>
   bnd (l1 ob v24) fun v25 =>
   bnd (bi .and v23 v25) fun v26 =>
   bnd (bi .xor v22 v26) fun v27 =>
   bnd (bi .add v19 v27) fun v28 =>
   bnd (xA 64 (.q true gMore none) (gS sl 16)) fun v29 =>
   bnd (l1 ob v29) fun v30 =>
   bnd (bi .add v28 v30) fun v31 =>
   bnd (xA 64 (gS sl 5) (gS sl 16)) fun v32 =>
   bnd (l1 ob v32) fun v33 =>
   bnd (bi .add v31 v33) fun v34 =>
   bndO (ca0 Φ ob 496 false 101 [v9, (.i .i64 2)]) ob fun v35 ob =>
   bndO (ca0 Φ ob 512 false 101 [v9, (.i .i64 13)]) ob fun v36 ob =>
   bnd (bi .xor v35 v36) fun v37 =>
   bndO (ca0 Φ ob 536 false 101 [v9, (.i .i64 22)]) ob fun v38 ob =>
   bnd (bi .xor v37 v38) fun v39 =>
   bnd (xA 8 (gS sl 6) (.i .i64 1)) fun v40 =>
   bnd (l1 ob v40) fun v41 =>
   bnd (bi .and v9 v41) fun v42 =>
   bnd (xA 8 (gS sl 6) (.i .i64 2)) fun v43 =>
   bnd (l1 ob v43) fun v44 =>
   bnd (bi .and v9 v44) fun v45 =>
   bnd (bi .xor v42 v45) fun v46 =>
   bnd (xA 8 (gS sl 6) (.i .i64 1)) fun v47 =>
   bnd (l1 ob v47) fun v48 =>
   bnd (xA 8 (gS sl 6) (.i .i64 2)) fun v49 =>
   bnd (l1 ob v49) fun v50 =>
   bnd (bi .and v48 v50) fun v51 =>
   bnd (bi .xor v46 v51) fun v52 =>
   bnd (bi .add v39 v52) fun v53 =>
   bnd (bi .add v34 v53) fun v54 =>
   bnd (xA 8 (gS sl 6) (.i .i64 0)) fun v55 =>
   bnd (l1 ob v55) fun v56 =>
   bnd (xA 8 (gS sl 6) (.i .i64 1)) fun v57 =>
   bnd (l1 ob v57) fun v58 =>
   bnd (xA 8 (gS sl 6) (.i .i64 2)) fun v59 =>
   bnd (l1 ob v59) fun v60 =>
   bnd (xA 8 (gS sl 6) (.i .i64 3)) fun v61 =>
   bnd (l1 ob v61) fun v62 =>
   bnd (bi .add v62 v34) fun v63 =>
   bnd (xA 8 (gS sl 6) (.i .i64 4)) fun v64 =>
   bnd (l1 ob v64) fun v65 =>
   bnd (xA 8 (gS sl 6) (.i .i64 5)) fun v66 =>
   bnd (l1 ob v66) fun v67 =>
   bnd (xA 8 (gS sl 6) (.i .i64 6)) fun v68 =>
   bnd (l1 ob v68) fun v69 =>
   bnd (bld [.blob 8 (List.replicate 8 (.i .u32 0))] [(0, 1, v54), (1, 1, v56), (2, 1, v58), (3, 1, v60), (4, 1, v63), (5, 1, v65), (6, 1, v67), (7, 1, v69)]) fun v70 =>
   bndO (st ob 8 (gS sl 6) v70) ob fun _ ob =>
   bnd (bi .add (gS sl 16) (.i .i64 1)) fun v71 =>
   bnd (head [] [2, 4, 5, 6, 16] [80, 96, 104, 112] [(2, (gS sl 2)), (4, (gS sl 4)), (5, (gS sl 5)), (6, (gS sl 6)), (16, v71)] ob) fun x => g x.1 x.2
  ) (
   bnd (head [] [2, 4, 6, 98] [80, 96, 112] [(2, (gS sl 2)), (4, (gS sl 4)), (6, (gS sl 6)), (98, (.i .i64 0))] ob) fun x => loopC (m94b0 Φ N os) N x.1 x.2
  )
noncomputable def m94 : Body := fun Φ N as os =>
  let a0 := gS (zipN 0 as) 0
  let a1 := gS (zipN 0 as) 1
  let ob := zipN 0 os
  bndO (bx ob 80 a0) ob fun v1 ob =>
  bndO (al ob 96 [.blob 8 (List.replicate 8 (.i .u32 0))]) ob fun v2 ob =>
  bndO (ca0 Φ ob 176 false 100 [a1]) ob fun v3 ob =>
  bndO (al ob 104 [.blob 64 (List.replicate 64 (.i .u32 0))]) ob fun v4 ob =>
  bndO (st ob 64 v4 v3) ob fun _ ob =>
  bnd (lN ob 8 v1) fun v5 =>
  bndO (al ob 112 [.blob 8 (List.replicate 8 (.i .u32 0))]) ob fun v6 ob =>
  bndO (st ob 8 v6 v5) ob fun _ ob =>
  bnd (head [] [2, 4, 5, 6, 16] [80, 96, 104, 112] [(2, v1), (4, v2), (5, v4), (6, v6), (16, (.i .i64 0))] ob) fun x => loopC (m94b1 Φ N os) N x.1 x.2

def ann94 : Nat → Option Hd
  | 4 => some ⟨[], [2, 4, 5, 6, 16], [80, 96, 104, 112]⟩ | 12 => some ⟨[], [2, 4, 6, 98], [80, 96, 112]⟩ | _ => none
def lab94 : Nat → Option Hd := fun _ => none
/- pelican/pelicanref01.May -/
noncomputable def m95 : Body := fun Φ N as os =>
  let a0 := gS (zipN 0 as) 0
  let ob := zipN 0 os
  bndO (bx ob 72 a0) ob fun v1 ob =>
  bnd (fA 9 v1) fun v2 =>
  bnd (l1 ob v2) fun v3 =>
  bnd (bi .geq v3 (.i .i64 0)) fun v4 =>
  bnd (gd v4 true (fA 9 v1)) fun v5 =>
  bnd (gd v4 true (l1 ob v5)) fun v6 =>
  bnd (gd v4 true (bi .leq v6 (.i .i64 1048576))) fun v7 =>
  bnd (pk v4 v7 (.b false)) fun v8 =>
  bnd (gd v8 true (fA 8 v1)) fun v9 =>
  bnd (gd v8 true (l1 ob v9)) fun v10 =>
  bnd (gd v8 true (len v10)) fun v11 =>
  bnd (gd v8 true (fA 9 v1)) fun v12 =>
  bnd (gd v8 true (l1 ob v12)) fun v13 =>
  bnd (gd v8 true (bi .rem v13 (.i .i64 64))) fun v14 =>
  bnd (gd v8 true (bi .eql v11 v14)) fun v15 =>
  bnd (pk v8 v15 (.b false)) fun v16 =>
  fin ob os.length [0] [v16]

def ann95 : Nat → Option Hd := fun _ => none
def lab95 : Nat → Option Hd := fun _ => none
/- pelican/pelicanref01.round -/
noncomputable def m96b0 (Φ : Sem') (N : Nat) (os : List Obj') (g : SL → OB → Option R) (sl : SL) (ob : OB) : Option R :=
  bnd (bi .lss (gS sl 14) (.i .i64 64)) fun v20 =>
  br v20 (
   bndO (ca0 Φ ob 392 false 103 [(gS sl 10), (.i .u32 6)]) ob fun v21 ob =>
   bndO (ca0 Φ ob 408 false 103 [(gS sl 10), (.i .u32 11)]) ob fun v22 ob =>
   bnd (bi .xor v21 v22) fun v23 =>
   bndO (ca0 Φ ob 432 false 103 [(gS sl 10), (.i .u32 25)]) ob fun v24 ob =>
   bnd (bi .xor v23 v24) fun v25 =>
   bnd (bi .add (gS sl 13) v25) fun v26 =>
   bnd (bi .and (gS sl 10) (gS sl 11)) fun v27 =>
   bnd (uO .xor (gS sl 10)) fun v28 =>
   bnd (bi .and v28 (gS sl 12)) fun v29 =>
   bnd (bi .xor v27 v29) fun v30 =>
   bnd (bi .add v26 v30) fun v31 =>
   bndO (ca0 Φ ob 536 false 104 [(gS sl 14)]) ob fun v32 ob =>
   bnd (bi .add v31 v32) fun v33 =>
   bnd (xS ob 1 (gS sl 5) (gS sl 14)) fun v34 =>
   bnd (l1 ob v34) fun v35 =>
   bnd (bi .add v33 v35) fun v36 =>
   bndO (ca0 Φ ob 600 false 103 [(gS sl 6), (.i .u32 2)]) ob fun v37 ob =>
   bndO (ca0 Φ ob 616 false 103 [(gS sl 6), (.i .u32 13)]) ob fun v38 ob =>
   bnd (bi .xor v37 v38) fun v39 =>
   bndO (ca0 Φ ob 640 false 103 [(gS sl 6), (.i .u32 22)]) ob fun v40 ob =>
   bnd (bi .xor v39 v40) fun v41 =>
   bnd (bi .and (gS sl 6) (gS sl 7)) fun v42 =>
   bnd (bi .and (gS sl 6) (gS sl 8)) fun v43 =>
   bnd (bi .xor v42 v43) fun v44 =>
   bnd (bi .and (gS sl 7) (gS sl 8)) fun v45 =>
   bnd (bi .xor v44 v45) fun v46 =>
   bnd (bi .add v41 v46) fun v47 =>
   bnd (bi .add (gS sl 9) v36) fun v48 =>
   bnd (bi .add v36 v47) fun v49 =>
   bnd (bi .add (gS sl 14) (.i .i64 1)) fun v50 =>
   bnd (head [] [2, 4, 5, 6, 7, 8, 9, 10, 11, 12, 13, 14] [80, 96, 208] [(2, (gS sl 2)), (4, (gS sl 4)), (5, (gS sl 5)), (6, v49), (7, (gS sl 6)), (8, (gS sl 7)), (9, (gS sl 8)), (10, v48), (11, (gS sl 10)), (12, (gS sl 11)), (13, (gS sl 12)), (14, v50)] ob) fun x => g x.1 x.2
  ) (
   bnd (xA 8 (gS sl 2) (.i .i64 0)) fun v51 =>
   bnd (l1 ob v51) fun v52 =>
   bnd (bi .add v52 (gS sl 6)) fun v53 =>
   bnd (xA 8 (gS sl 2) (.i .i64 1)) fun v54 =>
   bnd (l1 ob v54) fun v55 =>
   bnd (bi .add v55 (gS sl 7)) fun v56 =>
   bnd (xA 8 (gS sl 2) (.i .i64 2)) fun v57 =>
   bnd (l1 ob v57) fun v58 =>
   bnd (bi .add v58 (gS sl 8)) fun v59 =>
   bnd (xA 8 (gS sl 2) (.i .i64 3)) fun v60 =>
   bnd (l1 ob v60) fun v61 =>
   bnd (bi .add v61 (gS sl 9)) fun v62 =>
   bnd (xA 8 (gS sl 2) (.i .i64 4)) fun v63 =>
   bnd (l1 ob v63) fun v64 =>
   bnd (bi .add v64 (gS sl 10)) fun v65 =>
   bnd (xA 8 (gS sl 2) (.i .i64 5)) fun v66 =>
   bnd (l1 ob v66) fun v67 =>
   bnd (bi .add v67 (gS sl 11)) fun v68 =>
   bnd (xA 8 (gS sl 2) (.i .i64 6)) fun v69 =>
   bnd (l1 ob v69) fun v70 =>
   bnd (bi .add v70 (gS sl 12)) fun v71 =>
   bnd (xA 8 (gS sl 2) (.i .i64 7)) fun v72 =>
   bnd (l1 ob v72) fun v73 =>
   bnd (bi .add v73 (gS sl 13)) fun v74 =>
   bnd (bld [.blob 8 (List.replicate 8 (.i .u32 0))] [(0, 1, v53), (1, 1, v56), (2, 1, v59), (3, 1, v62), (4, 1, v65), (5, 1, v68), (6, 1, v71), (7, 1, v74)]) fun v75 =>
   bndO (st ob 8 (gS sl 4) v75) ob fun _ ob =>
   bnd (lN ob 8 (gS sl 4)) fun v76 =>
   fin ob os.length [0] [v76]
  )
noncomputable def m96 : Body := fun Φ N as os =>
  let a0 := gS (zipN 0 as) 0
  let a1 := gS (zipN 0 as) 1
  let ob := zipN 0 os
  bndO (bx ob 80 a0) ob fun v1 ob =>
  bndO (al ob 96 [.blob 8 (List.replicate 8 (.i .u32 0))]) ob fun v2 ob =>
  bndO (ca0 Φ ob 208 false 102 [a1]) ob fun v3 ob =>
  bnd (xA 8 v1 (.i .i64 0)) fun v4 =>
  bnd (l1 ob v4) fun v5 =>
  bnd (xA 8 v1 (.i .i64 1)) fun v6 =>
  bnd (l1 ob v6) fun v7 =>
  bnd (xA 8 v1 (.i .i64 2)) fun v8 =>
  bnd (l1 ob v8) fun v9 =>
  bnd (xA 8 v1 (.i .i64 3)) fun v10 =>
  bnd (l1 ob v10) fun v11 =>
  bnd (xA 8 v1 (.i .i64 4)) fun v12 =>
  bnd (l1 ob v12) fun v13 =>
  bnd (xA 8 v1 (.i .i64 5)) fun v14 =>
  bnd (l1 ob v14) fun v15 =>
  bnd (xA 8 v1 (.i .i64 6)) fun v16 =>
  bnd (l1 ob v16) fun v17 =>
  bnd (xA 8 v1 (.i .i64 7)) fun v18 =>
  bnd (l1 ob v18) fun v19 =>
  bnd (head [] [2, 4, 5, 6, 7, 8, 9, 10, 11, 12, 13, 14] [80, 96, 208] [(2, v1), (4, v2), (5, v3), (6, v5), (7, v7), (8, v9), (9, v11), (10, v13), (11, v15), (12, v17), (13, v19), (14, (.i .i64 0))] ob) fun x => loopC (m96b0 Φ N os) N x.1 x.2

def ann96 : Nat → Option Hd
  | 11 => some ⟨[], [2, 4, 5, 6, 7, 8, 9, 10, 11, 12, 13, 14], [80, 96, 208]⟩ | _ => none
def lab96 : Nat → Option Hd := fun _ => none
/- pelican/pelicanref02.Block -/
noncomputable def m98b0 (Φ : Sem') (N : Nat) (os : List Obj') (g : SL → OB → Option R) (sl : SL) (ob : OB) : Option R :=
  bnd (len (gS sl 3)) fun v8 =>
  bnd (bi .lss v8 (.i .i64 64)) fun v9 =>
  br v9 (
   bndO (bldS ob 208 1 [(.i .u8 0)]) ob fun v10 ob =>
   bndO (ap ob 216 1 (gS sl 3) v10) ob fun v11 ob =>
   bnd (head [.row 3 95 1] [3] [] [(3, v11)] ob) fun x => g x.1 x.2
  ) (
   fin ob os.length [1] [(gS sl 3)]
  )
noncomputable def m98b1 (Φ : Sem') (N : Nat) (os : List Obj') (g : SL → OB → Option R) (sl : SL) (ob : OB) : Option R :=
  bnd (len (gS sl 3)) fun v12 =>
  bnd (bi .lss v12 (.i .i64 64)) fun v13 =>
  br v13 (
   bndO (bldS ob 208 1 [(.i .u8 0)]) ob fun v14 ob =>
   bndO (ap ob 216 1 (gS sl 3) v14) ob fun v15 ob =>
   bnd (head [.row 3 95 1] [3] [] [(3, v15)] ob) fun x => g x.1 x.2
  ) (
   fin ob os.length [1] [(gS sl 3)]
  )
noncomputable def m98 : Body := fun Φ N as os =>
  let a0 := gS (zipN 0 as) 0
  let ob := zipN 0 os
  bndO (ap ob 112 1 (.e true) a0) ob fun v1 ob =>
  bnd (len a0) fun v2 =>
  bnd (bi .gtr v2 (.i .i64 64)) fun v3 =>
  br v3 (
   bndO (ca0 Φ ob 152 false 69 [a0]) ob fun v4 ob =>
   bndO (al ob 96 [.blob 32 (List.replicate 32 (.i .u8 0))]) ob fun v5 ob =>
   bndO (st ob 32 v5 v4) ob fun _ ob =>
   bndO (slc ob (.arr 32) v5 none none none) ob fun v6 ob =>
   bndO (ap ob 168 1 (.e true) v6) ob fun v7 ob =>
   bnd (head [.row 3 95 1] [3] [] [(3, v7)] ob) fun x => loopC (m98b0 Φ N os) N x.1 x.2
  ) (
   bnd (head [.row 3 95 1] [3] [] [(3, v1)] ob) fun x => loopC (m98b1 Φ N os) N x.1 x.2
  )

def ann98 : Nat → Option Hd
  | 5 => some ⟨[.row 3 95 1], [3], []⟩ | _ => none
def lab98 : Nat → Option Hd := fun _ => none
/- pelican/sha.spread -/
noncomputable def m100b0 (Φ : Sem') (N : Nat) (os : List Obj') (g : SL → OB → Option R) (sl : SL) (ob : OB) : Option R :=
  bnd (bi .lss (gS sl 7) (.i .i64 64)) fun v3 =>
  br v3 (
   bnd (bi .lss (gS sl 7) (.i .i64 16)) fun v4 =>
   br v4 (
    bnd (bi .mul (.i .i64 4) (gS sl 7)) fun v5 =>
    bnd (xS ob 1 (gS sl 0) v5) fun v6 =>
    bnd (l1 ob v6) fun v7 =>
    bnd (cv .u32 v7) fun v8 =>
    bnd (bi .shl v8 (.i .u64 24)) fun v9 =>
    bnd (bi .mul (.i .i64 4) (gS sl 7)) fun v10 =>
    bnd (bi .add v10 (.i .i64 1)) fun v11 =>
    bnd (xS ob 1 (gS sl 0) v11) fun v12 =>
    bnd (l1 ob v12) fun v13 =>
    bnd (cv .u32 v13) fun v14 =>
    bnd (bi .shl v14 (.i .u64 16)) fun v15 =>
    bnd (bi .or v9 v15) fun v16 =>
    bnd (bi .mul (.i .i64 4) (gS sl 7)) fun v17 =>
    bnd (bi .add v17 (.i .i64 2)) fun v18 =>
    bnd (xS ob 1 (gS sl 0) v18) fun v19 =>
    bnd (l1 ob v19) fun v20 =>
    bnd (cv .u32 v20) fun v21 =>
    bnd (bi .shl v21 (.i .u64 8)) fun v22 =>
    bnd (bi .or v16 v22) fun v23 =>
    bnd (bi .mul (.i .i64 4) (gS sl 7)) fun v24 =>
    bnd (bi .add v24 (.i .i64 3)) fun v25 =>
    bnd (xS ob 1 (gS sl 0) v25) fun v26 =>
    bnd (l1 ob v26) fun v27 =>
    bnd (cv .u32 v27) fun v28 =>
    bnd (bi .or v23 v28) fun v29 =>
    bnd (xA 64 (gS sl 3) (gS sl 7)) fun v30 =>
    bndO (st ob 1 v30 v29) ob fun _ ob =>
    bnd (bi .add (gS sl 7) (.i .i64 1)) fun v31 =>
    bnd (head [] [0, 2, 3, 7] [80, 88] [(0, (gS sl 0)), (2, (gS sl 2)), (3, (gS sl 3)), (7, v31)] ob) fun x => g x.1 x.2
   ) (
    bnd (bi .sub (gS sl 7) (.i .i64 15)) fun v32 =>
    bnd (xA 64 (gS sl 3) v32) fun v33 =>
    bnd (l1 ob v33) fun v34 =>
    bnd (bi .sub (gS sl 7) (.i .i64 2)) fun v35 =>
    bnd (xA 64 (gS sl 3) v35) fun v36 =>
    bnd (l1 ob v36) fun v37 =>
    bnd (bi .sub (gS sl 7) (.i .i64 16)) fun v38 =>
    bnd (xA 64 (gS sl 3) v38) fun v39 =>
    bnd (l1 ob v39) fun v40 =>
    bnd (bi .sub (gS sl 7) (.i .i64 7)) fun v41 =>
    bnd (xA 64 (gS sl 3) v41) fun v42 =>
    bnd (l1 ob v42) fun v43 =>
    bnd (bi .add v40 v43) fun v44 =>
    bndO (ca0 Φ ob 592 false 101 [v34, (.i .i64 7)]) ob fun v45 ob =>
    bndO (ca0 Φ ob 608 false 101 [v34, (.i .i64 18)]) ob fun v46 ob =>
    bnd (bi .xor v45 v46) fun v47 =>
    bnd (bi .shr v34 (.i .u64 3)) fun v48 =>
    bnd (bi .xor v47 v48) fun v49 =>
    bnd (bi .add v44 v49) fun v50 =>
    bndO (ca0 Φ ob 664 false 101 [v37, (.i .i64 17)]) ob fun v51 ob =>
    bndO (ca0 Φ ob 680 false 101 [v37, (.i .i64 19)]) ob fun v52 ob =>
    bnd (bi .xor v51 v52) fun v53 =>
    bnd (bi .shr v37 (.i .u64 10)) fun v54 =>
    bnd (bi .xor v53 v54) fun v55 =>
    bnd (bi .add v50 v55) fun v56 =>
    bnd (xA 64 (gS sl 3) (gS sl 7)) fun v57 =>
    bndO (st ob 1 v57 v56) ob fun _ ob =>
    bnd (bi .add (gS sl 7) (.i .i64 1)) fun v58 =>
    bnd (head [] [0, 2, 3, 7] [80, 88] [(0, (gS sl 0)), (2, (gS sl 2)), (3, (gS sl 3)), (7, v58)] ob) fun x => g x.1 x.2
   )
  ) (
   bnd (lN ob 64 (gS sl 3)) fun v59 =>
   bndO (st ob 64 (gS sl 2) v59) ob fun _ ob =>
   bnd (lN ob 64 (gS sl 2)) fun v60 =>
   fin ob os.length [0] [v60]
  )
noncomputable def m100 : Body := fun Φ N as os =>
  let a0 := gS (zipN 0 as) 0
  let ob := zipN 0 os
  bndO (al ob 80 [.blob 64 (List.replicate 64 (.i .u32 0))]) ob fun v1 ob =>
  bndO (al ob 88 [.blob 64 (List.replicate 64 (.i .u32 0))]) ob fun v2 ob =>
  bnd (head [] [0, 2, 3, 7] [80, 88] [(0, a0), (2, v1), (3, v2), (7, (.i .i64 0))] ob) fun x => loopC (m100b0 Φ N os) N x.1 x.2

def ann100 : Nat → Option Hd
  | 3 => some ⟨[], [0, 2, 3, 7], [80, 88]⟩ | _ => none
def lab100 : Nat → Option Hd := fun _ => none
/- pelican/sha.turn -/
noncomputable def m101 : Body := fun Φ N as os =>
  let a0 := gS (zipN 0 as) 0
  let a1 := gS (zipN 0 as) 1
  let ob := zipN 0 os
  bnd (uO .neg a1) fun v1 =>
  bndO (ca0 Φ ob 128 false 105 [a0, v1]) ob fun v2 ob =>
  fin ob os.length [0] [v2]

def ann101 : Nat → Option Hd := fun _ => none
def lab101 : Nat → Option Hd := fun _ => none
/- pelican/pelicanref01.numbers -/
noncomputable def m102b0 (Φ : Sem') (N : Nat) (os : List Obj') (g : SL → OB → Option R) (sl : SL) (ob : OB) : Option R :=
  bnd (bi .lss (gS sl 5) (.i .i64 64)) fun v30 =>
  br v30 (
   bnd (bi .sub (gS sl 5) (.i .i64 15)) fun v31 =>
   bnd (xS ob 1 (gS sl 3) v31) fun v32 =>
   bnd (l1 ob v32) fun v33 =>
   bndO (ca0 Φ ob 520 false 103 [v33, (.i .u32 7)]) ob fun v34 ob =>
   bnd (bi .sub (gS sl 5) (.i .i64 15)) fun v35 =>
   bnd (xS ob 1 (gS sl 3) v35) fun v36 =>
   bnd (l1 ob v36) fun v37 =>
   bndO (ca0 Φ ob 568 false 103 [v37, (.i .u32 18)]) ob fun v38 ob =>
   bnd (bi .xor v34 v38) fun v39 =>
   bnd (bi .sub (gS sl 5) (.i .i64 15)) fun v40 =>
   bnd (xS ob 1 (gS sl 3) v40) fun v41 =>
   bnd (l1 ob v41) fun v42 =>
   bnd (bi .shr v42 (.i .u64 3)) fun v43 =>
   bnd (bi .xor v39 v43) fun v44 =>
   bnd (bi .sub (gS sl 5) (.i .i64 2)) fun v45 =>
   bnd (xS ob 1 (gS sl 3) v45) fun v46 =>
   bnd (l1 ob v46) fun v47 =>
   bndO (ca0 Φ ob 680 false 103 [v47, (.i .u32 17)]) ob fun v48 ob =>
   bnd (bi .sub (gS sl 5) (.i .i64 2)) fun v49 =>
   bnd (xS ob 1 (gS sl 3) v49) fun v50 =>
   bnd (l1 ob v50) fun v51 =>
   bndO (ca0 Φ ob 728 false 103 [v51, (.i .u32 19)]) ob fun v52 ob =>
   bnd (bi .xor v48 v52) fun v53 =>
   bnd (bi .sub (gS sl 5) (.i .i64 2)) fun v54 =>
   bnd (xS ob 1 (gS sl 3) v54) fun v55 =>
   bnd (l1 ob v55) fun v56 =>
   bnd (bi .shr v56 (.i .u64 10)) fun v57 =>
   bnd (bi .xor v53 v57) fun v58 =>
   bnd (bi .sub (gS sl 5) (.i .i64 16)) fun v59 =>
   bnd (xS ob 1 (gS sl 3) v59) fun v60 =>
   bnd (l1 ob v60) fun v61 =>
   bnd (bi .sub (gS sl 5) (.i .i64 7)) fun v62 =>
   bnd (xS ob 1 (gS sl 3) v62) fun v63 =>
   bnd (l1 ob v63) fun v64 =>
   bnd (bi .add v61 v64) fun v65 =>
   bnd (bi .add v65 v44) fun v66 =>
   bnd (bi .add v66 v58) fun v67 =>
   bndO (bldS ob 928 1 [v67]) ob fun v68 ob =>
   bndO (ap ob 936 1 (gS sl 3) v68) ob fun v69 ob =>
   bnd (bi .add (gS sl 5) (.i .i64 1)) fun v70 =>
   bnd (head [.row 3 95 1] [3, 5] [] [(3, v69), (5, v70)] ob) fun x => g x.1 x.2
  ) (
   fin ob os.length [1] [(gS sl 3)]
  )
noncomputable def m102b1 (Φ : Sem') (N : Nat) (os : List Obj') (g : SL → OB → Option R) (sl : SL) (ob : OB) : Option R :=
  bnd (bi .lss (gS sl 4) (.i .i64 16)) fun v1 =>
  br v1 (
   bnd (bi .mul (.i .i64 4) (gS sl 4)) fun v2 =>
   bnd (xS ob 1 (gS sl 0) v2) fun v3 =>
   bnd (l1 ob v3) fun v4 =>
   bnd (cv .u32 v4) fun v5 =>
   bnd (bi .mul (.i .u32 16777216) v5) fun v6 =>
   bnd (bi .mul (.i .i64 4) (gS sl 4)) fun v7 =>
   bnd (bi .add v7 (.i .i64 1)) fun v8 =>
   bnd (xS ob 1 (gS sl 0) v8) fun v9 =>
   bnd (l1 ob v9) fun v10 =>
   bnd (cv .u32 v10) fun v11 =>
   bnd (bi .mul (.i .u32 65536) v11) fun v12 =>
   bnd (bi .add v6 v12) fun v13 =>
   bnd (bi .mul (.i .i64 4) (gS sl 4)) fun v14 =>
   bnd (bi .add v14 (.i .i64 2)) fun v15 =>
   bnd (xS ob 1 (gS sl 0) v15) fun v16 =>
   bnd (l1 ob v16) fun v17 =>
   bnd (cv .u32 v17) fun v18 =>
   bnd (bi .mul (.i .u32 256) v18) fun v19 =>
   bnd (bi .add v13 v19) fun v20 =>
   bnd (bi .mul (.i .i64 4) (gS sl 4)) fun v21 =>
   bnd (bi .add v21 (.i .i64 3)) fun v22 =>
   bnd (xS ob 1 (gS sl 0) v22) fun v23 =>
   bnd (l1 ob v23) fun v24 =>
   bnd (cv .u32 v24) fun v25 =>
   bnd (bi .add v20 v25) fun v26 =>
   bndO (bldS ob 432 1 [v26]) ob fun v27 ob =>
   bndO (ap ob 440 1 (gS sl 3) v27) ob fun v28 ob =>
   bnd (bi .add (gS sl 4) (.i .i64 1)) fun v29 =>
   bnd (head [.row 3 95 1] [0, 3, 4] [] [(0, (gS sl 0)), (3, v28), (4, v29)] ob) fun x => g x.1 x.2
  ) (
   bnd (head [.row 3 95 1] [3, 5] [] [(3, (gS sl 3)), (5, (.i .i64 16))] ob) fun x => loopC (m102b0 Φ N os) N x.1 x.2
  )
noncomputable def m102 : Body := fun Φ N as os =>
  let a0 := gS (zipN 0 as) 0
  let ob := zipN 0 os
  bnd (head [.row 3 95 1] [0, 3, 4] [] [(0, a0), (3, (.e true)), (4, (.i .i64 0))] ob) fun x => loopC (m102b1 Φ N os) N x.1 x.2

def ann102 : Nat → Option Hd
  | 3 => some ⟨[.row 3 95 1], [0, 3, 4], []⟩ | 7 => some ⟨[.row 3 95 1], [3, 5], []⟩ | _ => none
def lab102 : Nat → Option Hd := fun _ => none
/- pelican/pelicanref01.turned -/
noncomputable def m103 : Body := fun Φ N as os =>
  let a0 := gS (zipN 0 as) 0
  let a1 := gS (zipN 0 as) 1
  let ob := zipN 0 os
  bnd (bi .shr a0 a1) fun v1 =>
  bnd (bi .sub (.i .u32 32) a1) fun v2 =>
  bnd (bi .shl a0 v2) fun v3 =>
  bnd (bi .or v1 v3) fun v4 =>
  fin ob os.length [0] [v4]

def ann103 : Nat → Option Hd := fun _ => none
def lab103 : Nat → Option Hd := fun _ => none
/- pelican/pelicanref01.constant -/
noncomputable def m104 : Body := fun Φ N as os =>
  let a0 := gS (zipN 0 as) 0
  let ob := zipN 0 os
  bnd (bld [.blob 64 (List.replicate 64 (.i .u32 0))] [(0, 1, (.i .u32 1116352408)), (1, 1, (.i .u32 1899447441)), (2, 1, (.i .u32 3049323471)), (3, 1, (.i .u32 3921009573)), (4, 1, (.i .u32 961987163)), (5, 1, (.i .u32 1508970993)), (6, 1, (.i .u32 2453635748)), (7, 1, (.i .u32 2870763221)), (8, 1, (.i .u32 3624381080)), (9, 1, (.i .u32 310598401)), (10, 1, (.i .u32 607225278)), (11, 1, (.i .u32 1426881987)), (12, 1, (.i .u32 1925078388)), (13, 1, (.i .u32 2162078206)), (14, 1, (.i .u32 2614888103)), (15, 1, (.i .u32 3248222580)), (16, 1, (.i .u32 3835390401)), (17, 1, (.i .u32 4022224774)), (18, 1, (.i .u32 264347078)), (19, 1, (.i .u32 604807628)), (20, 1, (.i .u32 770255983)), (21, 1, (.i .u32 1249150122)), (22, 1, (.i .u32 1555081692)), (23, 1, (.i .u32 1996064986)), (24, 1, (.i .u32 2554220882)), (25, 1, (.i .u32 2821834349)), (26, 1, (.i .u32 2952996808)), (27, 1, (.i .u32 3210313671)), (28, 1, (.i .u32 3336571891)), (29, 1, (.i .u32 3584528711)), (30, 1, (.i .u32 113926993)), (31, 1, (.i .u32 338241895)), (32, 1, (.i .u32 666307205)), (33, 1, (.i .u32 773529912)), (34, 1, (.i .u32 1294757372)), (35, 1, (.i .u32 1396182291)), (36, 1, (.i .u32 1695183700)), (37, 1, (.i .u32 1986661051)), (38, 1, (.i .u32 2177026350)), (39, 1, (.i .u32 2456956037)), (40, 1, (.i .u32 2730485921)), (41, 1, (.i .u32 2820302411)), (42, 1, (.i .u32 3259730800)), (43, 1, (.i .u32 3345764771)), (44, 1, (.i .u32 3516065817)), (45, 1, (.i .u32 3600352804)), (46, 1, (.i .u32 4094571909)), (47, 1, (.i .u32 275423344)), (48, 1, (.i .u32 430227734)), (49, 1, (.i .u32 506948616)), (50, 1, (.i .u32 659060556)), (51, 1, (.i .u32 883997877)), (52, 1, (.i .u32 958139571)), (53, 1, (.i .u32 1322822218)), (54, 1, (.i .u32 1537002063)), (55, 1, (.i .u32 1747873779)), (56, 1, (.i .u32 1955562222)), (57, 1, (.i .u32 2024104815)), (58, 1, (.i .u32 2227730452)), (59, 1, (.i .u32 2361852424)), (60, 1, (.i .u32 2428436474)), (61, 1, (.i .u32 2756734187)), (62, 1, (.i .u32 3204031479)), (63, 1, (.i .u32 3329325298))]) fun v1 =>
  bndO (al ob 88 [.blob 64 (List.replicate 64 (.i .u32 0))]) ob fun v2 ob =>
  bndO (st ob 64 v2 v1) ob fun _ ob =>
  bnd (xA 64 v2 a0) fun v3 =>
  bnd (l1 ob v3) fun v4 =>
  fin ob os.length [0] [v4]

def ann104 : Nat → Option Hd := fun _ => none
def lab104 : Nat → Option Hd := fun _ => none
/- math/bits.RotateLeft32 -/
noncomputable def m105 : Body := fun Φ N as os =>
  let a0 := gS (zipN 0 as) 0
  let a1 := gS (zipN 0 as) 1
  let ob := zipN 0 os
  bnd (cv .u64 a1) fun v1 =>
  bnd (bi .and v1 (.i .u64 31)) fun v2 =>
  bnd (bi .shl a0 v2) fun v3 =>
  bnd (bi .sub (.i .u64 32) v2) fun v4 =>
  bnd (bi .shr a0 v4) fun v5 =>
  bnd (bi .or v3 v5) fun v6 =>
  fin ob os.length [0] [v6]

def ann105 : Nat → Option Hd := fun _ => none
def lab105 : Nat → Option Hd := fun _ => none
/-- All functions, by their numbers. -/
noncomputable def tab : Nat → Option Body
  | 3 => some m3
  | 4 => some m4
  | 5 => some m5
  | 6 => some m6
  | 7 => some m7
  | 8 => some m8
  | 15 => some m15
  | 16 => some m16
  | 17 => some m17
  | 18 => some m18
  | 19 => some m19
  | 20 => some m20
  | 21 => some m21
  | 22 => some m22
  | 23 => some m23
  | 24 => some m24
  | 25 => some m25
  | 26 => some m26
  | 27 => some m27
  | 28 => some m28
  | 29 => some m29
  | 35 => some m35
  | 47 => some m47
  | 48 => some m48
  | 49 => some m49
  | 50 => some m50
  | 51 => some m51
  | 52 => some m52
  | 53 => some m53
  | 54 => some m54
  | 55 => some m55
  | 56 => some m56
  | 57 => some m57
  | 58 => some m58
  | 59 => some m59
  | 63 => some m63
  | 64 => some m64
  | 65 => some m65
  | 69 => some m69
  | 75 => some m75
  | 76 => some m76
  | 77 => some m77
  | 78 => some m78
  | 79 => some m79
  | 80 => some m80
  | 84 => some m84
  | 85 => some m85
  | 86 => some m86
  | 88 => some m88
  | 89 => some m89
  | 90 => some m90
  | 92 => some m92
  | 94 => some m94
  | 95 => some m95
  | 96 => some m96
  | 98 => some m98
  | 100 => some m100
  | 101 => some m101
  | 102 => some m102
  | 103 => some m103
  | 104 => some m104
  | 105 => some m105
  | _ => none
end Go.Proofs.YtcimkkcajkmfoaaDoor
