/-
  The functions' code, as plain functions: printed by run3.py.
-/
import Derived.Test.YtbobbkgdbfcblaaDoorDen
set_option linter.all false
set_option linter.unusedVariables false
namespace Go.Proofs.YtbobbkgdbfcblaaDoor
open Go
def nFirst : List Int := [1779033703, 3144134277, 1013904242, 2773480762, 1359893119, 2600822924, 528734635, 1541459225]
def nMore : List Int := [1116352408, 1899447441, 3049323471, 3921009573, 961987163, 1508970993, 2453635748, 2870763221, 3624381080, 310598401, 607225278, 1426881987, 1925078388, 2162078206, 2614888103, 3248222580, 3835390401, 4022224774, 264347078, 604807628, 770255983, 1249150122, 1555081692, 1996064986, 2554220882, 2821834349, 2952996808, 3210313671, 3336571891, 3584528711, 113926993, 338241895, 666307205, 773529912, 1294757372, 1396182291, 1695183700, 1986661051, 2177026350, 2456956037, 2730485921, 2820302411, 3259730800, 3345764771, 3516065817, 3600352804, 4094571909, 275423344, 430227734, 506948616, 659060556, 883997877, 958139571, 1322822218, 1537002063, 1747873779, 1955562222, 2024104815, 2227730452, 2361852424, 2428436474, 2756734187, 3204031479, 3329325298]
def gFirst : List PV := [.blob 8 (nFirst.map (.i .u32))]
def gMore : List PV := [.blob 64 (nMore.map (.i .u32))]
noncomputable def m3 : Body := fun Φ N as os =>
  let a0 := gS (zipN 0 as) 0
  let a1 := gS (zipN 0 as) 1
  let ob := zipN 0 os
  bndO (bx ob 80 a0) ob fun v1 ob =>
  bndO (ca0 Φ ob 144 false 15 []) ob fun v2 ob =>
  bnd (lN ob 10 v1) fun v3 =>
  bndO (ca0 Φ ob 160 false 16 [v3]) ob fun v4 ob =>
  bnd (uO .not v2) fun v5 =>
  bnd (gd v5 false (some v4)) fun v6 =>
  bnd (gd v5 false (uO .not v6)) fun v7 =>
  bnd (pk v5 (.b true) v7) fun v8 =>
  bnd (gd v8 false (some a1)) fun v9 =>
  bnd (gd v8 false (len v9)) fun v10 =>
  bnd (gd v8 false (bi .gtr v10 (.i .i64 400))) fun v11 =>
  bnd (pk v8 (.b true) v11) fun v12 =>
  br v12 (
   fin ob os.length [0] [v2]
  ) (
   bnd (lN ob 10 v1) fun v13 =>
   bndO (ca0 Φ ob 272 false 17 [v13]) ob fun v14 ob =>
   bnd (lN ob 10 v1) fun v15 =>
   bndO (ca0 Φ ob 296 false 19 [v15, a1]) ob fun v16 ob =>
   bnd (lN ob 10 v1) fun v17 =>
   bndO (ca0 Φ ob 320 false 20 [v17, a1]) ob fun v18 ob =>
   bndO (ca0 Φ ob 328 false 18 [v16, v18]) ob fun v19 ob =>
   bndO (ca0 Φ ob 336 false 21 []) ob fun v20 ob =>
   bndO (ca0 Φ ob 344 false 22 []) ob fun v21 ob =>
   bndO (ca0 Φ ob 352 false 18 [v20, v21]) ob fun v22 ob =>
   bnd (gd v19 true (some v22)) fun v23 =>
   bnd (pk v19 v23 (.b false)) fun v24 =>
   bnd (gd v24 true (lN ob 10 v1)) fun v25 =>
   bndO (gdO v24 true (ca0 Φ ob 408 false 23 [v25])) ob fun v26 ob =>
   bnd (gd v24 true (some v14)) fun v27 =>
   bnd (gd v24 true (biB .eql v26 v27)) fun v28 =>
   bnd (pk v24 v28 (.b false)) fun v29 =>
   bnd (gd v29 true (lN ob 10 v1)) fun v30 =>
   bndO (gdO v29 true (ca0 Φ ob 456 false 24 [v30])) ob fun v31 ob =>
   bnd (gd v29 true (lN ob 10 v1)) fun v32 =>
   bndO (gdO v29 true (ca0 Φ ob 472 false 25 [v32])) ob fun v33 ob =>
   bnd (gd v29 true (eAr false 32 v31 v33)) fun v34 =>
   bnd (pk v29 v34 (.b false)) fun v35 =>
   bnd (gd v35 true (some a1)) fun v36 =>
   bndO (gdO v35 true (ca0 Φ ob 512 false 26 [v36])) ob fun v37 ob =>
   bnd (gd v35 true (some a1)) fun v38 =>
   bndO (gdO v35 true (ca0 Φ ob 528 false 27 [v38])) ob fun v39 ob =>
   bnd (gd v35 true (eAr false 32 v37 v39)) fun v40 =>
   bnd (pk v35 v40 (.b false)) fun v41 =>
   fin ob os.length [0] [v41]
  )

def ann3 : Nat → Option Hd := fun _ => none
noncomputable def m4 : Body := fun Φ N as os =>
  let a0 := gS (zipN 0 as) 0
  let a1 := gS (zipN 0 as) 1
  let a2 := gS (zipN 0 as) 2
  let ob := zipN 0 os
  bndO (ca0 Φ ob 152 false 15 []) ob fun v1 ob =>
  bnd (uO .not v1) fun v2 =>
  bnd (gd v2 false (some a0)) fun v3 =>
  bnd (gd v2 false (len v3)) fun v4 =>
  bnd (gd v2 false (bi .gtr v4 (.i .i64 200))) fun v5 =>
  bnd (pk v2 (.b true) v5) fun v6 =>
  bnd (gd v6 false (some a1)) fun v7 =>
  bnd (gd v6 false (len v7)) fun v8 =>
  bnd (gd v6 false (bi .gtr v8 (.i .i64 200))) fun v9 =>
  bnd (pk v6 (.b true) v9) fun v10 =>
  bnd (gd v10 false (some a2)) fun v11 =>
  bnd (gd v10 false (len v11)) fun v12 =>
  bnd (gd v10 false (bi .gtr v12 (.i .i64 200))) fun v13 =>
  bnd (pk v10 (.b true) v13) fun v14 =>
  br v14 (
   fin ob os.length [0] [v1]
  ) (
   bndO (ap ob 312 1 (.e true) a0) ob fun v15 ob =>
   bndO (ap ob 328 1 v15 a1) ob fun v16 ob =>
   bndO (ap ob 344 1 v16 a2) ob fun v17 ob =>
   bndO (ca0 Φ ob 352 false 21 []) ob fun v18 ob =>
   bndO (ca0 Φ ob 368 false 19 [v18, a0]) ob fun v19 ob =>
   bndO (al ob 136 [.blob 8 (List.replicate 8 (.i .u32 0)), .e true, .i .i64 0]) ob fun v20 ob =>
   bndO (st ob 10 v20 v19) ob fun _ ob =>
   bnd (lN ob 10 v20) fun v21 =>
   bndO (ca0 Φ ob 384 false 19 [v21, (.e true)]) ob fun v22 ob =>
   bnd (lN ob 10 v20) fun v23 =>
   bndO (ca0 Φ ob 400 false 18 [v22, v23]) ob fun v24 ob =>
   bnd (gd v24 true (lN ob 10 v20)) fun v25 =>
   bnd (gd v24 true (some a1)) fun v26 =>
   bndO (gdO v24 true (ca0 Φ ob 440 false 19 [v25, v26])) ob fun v27 ob =>
   bnd (gd v24 true (some a2)) fun v28 =>
   bndO (gdO v24 true (ca0 Φ ob 456 false 19 [v27, v28])) ob fun v29 ob =>
   bndO (gdO v24 true (ca0 Φ ob 464 false 24 [v29])) ob fun v30 ob =>
   bnd (gd v24 true (some v17)) fun v31 =>
   bndO (gdO v24 true (ca0 Φ ob 480 false 26 [v31])) ob fun v32 ob =>
   bnd (gd v24 true (eAr false 32 v30 v32)) fun v33 =>
   bnd (pk v24 v33 (.b false)) fun v34 =>
   fin ob os.length [0] [v34]
  )

def ann4 : Nat → Option Hd := fun _ => none
noncomputable def m5 : Body := fun Φ N as os =>
  let a0 := gS (zipN 0 as) 0
  let a1 := gS (zipN 0 as) 1
  let ob := zipN 0 os
  bndO (bx ob 80 a0) ob fun v1 ob =>
  bndO (ca0 Φ ob 128 false 15 []) ob fun v2 ob =>
  bnd (lN ob 10 v1) fun v3 =>
  bndO (ca0 Φ ob 144 false 16 [v3]) ob fun v4 ob =>
  bnd (uO .not v2) fun v5 =>
  bnd (gd v5 false (some v4)) fun v6 =>
  bnd (gd v5 false (uO .not v6)) fun v7 =>
  bnd (pk v5 (.b true) v7) fun v8 =>
  bnd (gd v8 false (some a1)) fun v9 =>
  bnd (gd v8 false (len v9)) fun v10 =>
  bnd (gd v8 false (bi .gtr v10 (.i .i64 300))) fun v11 =>
  bnd (pk v8 (.b true) v11) fun v12 =>
  br v12 (
   fin ob os.length [0] [v2]
  ) (
   bnd (lN ob 10 v1) fun v13 =>
   bndO (ca0 Φ ob 264 false 19 [v13, a1]) ob fun v14 ob =>
   bndO (al ob 120 [.blob 8 (List.replicate 8 (.i .u32 0)), .e true, .i .i64 0]) ob fun v15 ob =>
   bndO (st ob 10 v15 v14) ob fun _ ob =>
   bnd (lN ob 10 v1) fun v16 =>
   bndO (ca0 Φ ob 280 false 23 [v16]) ob fun v17 ob =>
   bnd (uO .not v17) fun v18 =>
   bnd (gd v18 false (fA 9 v1)) fun v19 =>
   bnd (gd v18 false (l1 ob v19)) fun v20 =>
   bnd (gd v18 false (some a1)) fun v21 =>
   bnd (gd v18 false (len v21)) fun v22 =>
   bnd (gd v18 false (bi .sub (.i .i64 1048576) v22)) fun v23 =>
   bnd (gd v18 false (bi .gtr v20 v23)) fun v24 =>
   bnd (pk v18 (.b true) v24) fun v25 =>
   br v25 (
    bnd (fA 9 v15) fun v26 =>
    bnd (l1 ob v26) fun v27 =>
    bnd (bi .eql v27 (.i .i64 0)) fun v28 =>
    bnd (gd v28 true (fA 8 v15)) fun v29 =>
    bnd (gd v28 true (l1 ob v29)) fun v30 =>
    bnd (gd v28 true (len v30)) fun v31 =>
    bnd (gd v28 true (bi .eql v31 (.i .i64 0))) fun v32 =>
    bnd (pk v28 v32 (.b false)) fun v33 =>
    bnd (gd v33 true (fA 0 v15)) fun v34 =>
    bnd (gd v33 true (lN ob 8 v34)) fun v35 =>
    bnd (gd v33 true (bld [.blob 8 (List.replicate 8 (.i .u32 0))] [])) fun v36 =>
    bnd (gd v33 true (eAr false 8 v35 v36)) fun v37 =>
    bnd (pk v33 v37 (.b false)) fun v38 =>
    fin ob os.length [0] [v38]
   ) (
    bnd (lN ob 10 v15) fun v39 =>
    bndO (ca0 Φ ob 488 false 23 [v39]) ob fun v40 ob =>
    bnd (gd v40 true (fA 9 v15)) fun v41 =>
    bnd (gd v40 true (l1 ob v41)) fun v42 =>
    bnd (gd v40 true (fA 9 v1)) fun v43 =>
    bnd (gd v40 true (l1 ob v43)) fun v44 =>
    bnd (gd v40 true (some a1)) fun v45 =>
    bnd (gd v40 true (len v45)) fun v46 =>
    bnd (gd v40 true (bi .add v44 v46)) fun v47 =>
    bnd (gd v40 true (bi .eql v42 v47)) fun v48 =>
    bnd (pk v40 v48 (.b false)) fun v49 =>
    bnd (gd v49 true (fA 8 v15)) fun v50 =>
    bnd (gd v49 true (l1 ob v50)) fun v51 =>
    bnd (gd v49 true (len v51)) fun v52 =>
    bnd (gd v49 true (fA 9 v15)) fun v53 =>
    bnd (gd v49 true (l1 ob v53)) fun v54 =>
    bnd (gd v49 true (bi .rem v54 (.i .i64 64))) fun v55 =>
    bnd (gd v49 true (bi .eql v52 v55)) fun v56 =>
    bnd (pk v49 v56 (.b false)) fun v57 =>
    fin ob os.length [0] [v57]
   )
  )

def ann5 : Nat → Option Hd := fun _ => none
noncomputable def m6 : Body := fun Φ N as os =>
  let a0 := gS (zipN 0 as) 0
  let a1 := gS (zipN 0 as) 1
  let a2 := gS (zipN 0 as) 2
  let ob := zipN 0 os
  bndO (bx ob 88 a0) ob fun v1 ob =>
  bndO (ca0 Φ ob 152 false 15 []) ob fun v2 ob =>
  bnd (lN ob 10 v1) fun v3 =>
  bndO (ca0 Φ ob 168 false 16 [v3]) ob fun v4 ob =>
  bnd (uO .not v2) fun v5 =>
  bnd (gd v5 false (some v4)) fun v6 =>
  bnd (gd v5 false (uO .not v6)) fun v7 =>
  bnd (pk v5 (.b true) v7) fun v8 =>
  bnd (gd v8 false (some a1)) fun v9 =>
  bnd (gd v8 false (len v9)) fun v10 =>
  bnd (gd v8 false (bi .gtr v10 (.i .i64 200))) fun v11 =>
  bnd (pk v8 (.b true) v11) fun v12 =>
  bnd (gd v12 false (some a2)) fun v13 =>
  bnd (gd v12 false (len v13)) fun v14 =>
  bnd (gd v12 false (bi .gtr v14 (.i .i64 200))) fun v15 =>
  bnd (pk v12 (.b true) v15) fun v16 =>
  bnd (gd v16 false (lN ob 10 v1)) fun v17 =>
  bndO (gdO v16 false (ca0 Φ ob 320 false 23 [v17])) ob fun v18 ob =>
  bnd (gd v16 false (uO .not v18)) fun v19 =>
  bnd (pk v16 (.b true) v19) fun v20 =>
  bnd (gd v20 false (fA 9 v1)) fun v21 =>
  bnd (gd v20 false (l1 ob v21)) fun v22 =>
  bnd (gd v20 false (bi .gtr v22 (.i .i64 524288))) fun v23 =>
  bnd (pk v20 (.b true) v23) fun v24 =>
  br v24 (
   fin ob os.length [0] [v2]
  ) (
   bndO (ap ob 400 1 (.e true) a1) ob fun v25 ob =>
   bndO (ap ob 416 1 v25 a2) ob fun v26 ob =>
   bnd (lN ob 10 v1) fun v27 =>
   bndO (ca0 Φ ob 440 false 19 [v27, a1]) ob fun v28 ob =>
   bndO (ca0 Φ ob 456 false 19 [v28, a2]) ob fun v29 ob =>
   bnd (lN ob 10 v1) fun v30 =>
   bndO (ca0 Φ ob 480 false 19 [v30, v26]) ob fun v31 ob =>
   bndO (ca0 Φ ob 488 false 18 [v29, v31]) ob fun v32 ob =>
   fin ob os.length [0] [v32]
  )

def ann6 : Nat → Option Hd := fun _ => none
noncomputable def m7 : Body := fun Φ N as os =>
  let a0 := gS (zipN 0 as) 0
  let a1 := gS (zipN 0 as) 1
  let ob := zipN 0 os
  bndO (bx ob 80 a0) ob fun v1 ob =>
  bndO (ca0 Φ ob 128 false 15 []) ob fun v2 ob =>
  bnd (lN ob 10 v1) fun v3 =>
  bndO (ca0 Φ ob 144 false 16 [v3]) ob fun v4 ob =>
  bnd (uO .not v2) fun v5 =>
  bnd (gd v5 false (some v4)) fun v6 =>
  bnd (gd v5 false (uO .not v6)) fun v7 =>
  bnd (pk v5 (.b true) v7) fun v8 =>
  bnd (gd v8 false (lN ob 10 v1)) fun v9 =>
  bndO (gdO v8 false (ca0 Φ ob 216 false 23 [v9])) ob fun v10 ob =>
  bnd (gd v8 false (uO .not v10)) fun v11 =>
  bnd (pk v8 (.b true) v11) fun v12 =>
  bnd (gd v12 false (some a1)) fun v13 =>
  bnd (gd v12 false (len v13)) fun v14 =>
  bnd (gd v12 false (fA 8 v1)) fun v15 =>
  bnd (gd v12 false (l1 ob v15)) fun v16 =>
  bnd (gd v12 false (len v16)) fun v17 =>
  bnd (gd v12 false (bi .sub (.i .i64 63) v17)) fun v18 =>
  bnd (gd v12 false (bi .gtr v14 v18)) fun v19 =>
  bnd (pk v12 (.b true) v19) fun v20 =>
  bnd (gd v20 false (fA 9 v1)) fun v21 =>
  bnd (gd v20 false (l1 ob v21)) fun v22 =>
  bnd (gd v20 false (bi .gtr v22 (.i .i64 524288))) fun v23 =>
  bnd (pk v20 (.b true) v23) fun v24 =>
  br v24 (
   fin ob os.length [0] [v2]
  ) (
   bnd (lN ob 10 v1) fun v25 =>
   bndO (ca0 Φ ob 376 false 19 [v25, a1]) ob fun v26 ob =>
   bndO (al ob 120 [.blob 8 (List.replicate 8 (.i .u32 0)), .e true, .i .i64 0]) ob fun v27 ob =>
   bndO (st ob 10 v27 v26) ob fun _ ob =>
   bnd (fA 0 v27) fun v28 =>
   bnd (lN ob 8 v28) fun v29 =>
   bnd (fA 0 v1) fun v30 =>
   bnd (lN ob 8 v30) fun v31 =>
   bnd (eAr false 8 v29 v31) fun v32 =>
   bnd (gd v32 true (fA 8 v27)) fun v33 =>
   bnd (gd v32 true (l1 ob v33)) fun v34 =>
   bnd (gd v32 true (b2s ob v34)) fun v35 =>
   bnd (gd v32 true (fA 8 v1)) fun v36 =>
   bnd (gd v32 true (l1 ob v36)) fun v37 =>
   bnd (gd v32 true (b2s ob v37)) fun v38 =>
   bnd (gd v32 true (some a1)) fun v39 =>
   bnd (gd v32 true (b2s ob v39)) fun v40 =>
   bnd (gd v32 true (bi .add v38 v40)) fun v41 =>
   bnd (gd v32 true (bi .eql v35 v41)) fun v42 =>
   bnd (pk v32 v42 (.b false)) fun v43 =>
   bnd (gd v43 true (fA 9 v27)) fun v44 =>
   bnd (gd v43 true (l1 ob v44)) fun v45 =>
   bnd (gd v43 true (fA 9 v1)) fun v46 =>
   bnd (gd v43 true (l1 ob v46)) fun v47 =>
   bnd (gd v43 true (some a1)) fun v48 =>
   bnd (gd v43 true (len v48)) fun v49 =>
   bnd (gd v43 true (bi .add v47 v49)) fun v50 =>
   bnd (gd v43 true (bi .eql v45 v50)) fun v51 =>
   bnd (pk v43 v51 (.b false)) fun v52 =>
   fin ob os.length [0] [v52]
  )

def ann7 : Nat → Option Hd := fun _ => none
noncomputable def m8 : Body := fun Φ N as os =>
  let a0 := gS (zipN 0 as) 0
  let a1 := gS (zipN 0 as) 1
  let ob := zipN 0 os
  bndO (ca0 Φ ob 136 false 15 []) ob fun v1 ob =>
  bnd (uO .not v1) fun v2 =>
  bnd (gd v2 false (some a0)) fun v3 =>
  bnd (gd v2 false (len v3)) fun v4 =>
  bnd (gd v2 false (bi .neq v4 (.i .i64 64))) fun v5 =>
  bnd (pk v2 (.b true) v5) fun v6 =>
  bnd (gd v6 false (some a1)) fun v7 =>
  bnd (gd v6 false (bi .lss v7 (.i .i64 0))) fun v8 =>
  bnd (pk v6 (.b true) v8) fun v9 =>
  bnd (gd v9 false (some a1)) fun v10 =>
  bnd (gd v9 false (bi .gtr v10 (.i .i64 64))) fun v11 =>
  bnd (pk v9 (.b true) v11) fun v12 =>
  br v12 (
   fin ob os.length [0] [v1]
  ) (
   bndO (ca0 Φ ob 272 false 21 []) ob fun v13 ob =>
   bndO (slc ob (.slice 1) a0 none (some a1) none) ob fun v14 ob =>
   bndO (ca0 Φ ob 304 false 19 [v13, v14]) ob fun v15 ob =>
   bndO (slc ob (.slice 1) a0 (some a1) none none) ob fun v16 ob =>
   bndO (ca0 Φ ob 336 false 19 [v15, v16]) ob fun v17 ob =>
   bndO (al ob 112 [.blob 8 (List.replicate 8 (.i .u32 0)), .e true, .i .i64 0]) ob fun v18 ob =>
   bndO (st ob 10 v18 v17) ob fun _ ob =>
   bndO (ca0 Φ ob 344 false 21 []) ob fun v19 ob =>
   bndO (ca0 Φ ob 360 false 19 [v19, a0]) ob fun v20 ob =>
   bndO (al ob 120 [.blob 8 (List.replicate 8 (.i .u32 0)), .e true, .i .i64 0]) ob fun v21 ob =>
   bndO (st ob 10 v21 v20) ob fun _ ob =>
   bnd (lN ob 10 v18) fun v22 =>
   bnd (lN ob 10 v21) fun v23 =>
   bndO (ca0 Φ ob 384 false 18 [v22, v23]) ob fun v24 ob =>
   bnd (gd v24 true (fA 8 v18)) fun v25 =>
   bnd (gd v24 true (l1 ob v25)) fun v26 =>
   bnd (gd v24 true (len v26)) fun v27 =>
   bnd (gd v24 true (bi .eql v27 (.i .i64 0))) fun v28 =>
   bnd (pk v24 v28 (.b false)) fun v29 =>
   bnd (gd v29 true (fA 9 v18)) fun v30 =>
   bnd (gd v29 true (l1 ob v30)) fun v31 =>
   bnd (gd v29 true (bi .eql v31 (.i .i64 64))) fun v32 =>
   bnd (pk v29 v32 (.b false)) fun v33 =>
   bnd (gd v33 true (lN ob 10 v18)) fun v34 =>
   bndO (gdO v33 true (ca0 Φ ob 504 false 24 [v34])) ob fun v35 ob =>
   bnd (gd v33 true (some a0)) fun v36 =>
   bndO (gdO v33 true (ca0 Φ ob 520 false 26 [v36])) ob fun v37 ob =>
   bnd (gd v33 true (eAr false 32 v35 v37)) fun v38 =>
   bnd (pk v33 v38 (.b false)) fun v39 =>
   fin ob os.length [0] [v39]
  )

def ann8 : Nat → Option Hd := fun _ => none
noncomputable def m9 : Body := fun Φ N as os =>
  let a0 := gS (zipN 0 as) 0
  let a1 := gS (zipN 0 as) 1
  let ob := zipN 0 os
  bndO (ca0 Φ ob 120 false 28 []) ob fun v1 ob =>
  bnd (uO .not v1) fun v2 =>
  bnd (gd v2 false (some a0)) fun v3 =>
  bnd (gd v2 false (len v3)) fun v4 =>
  bnd (gd v2 false (bi .gtr v4 (.i .i64 200))) fun v5 =>
  bnd (pk v2 (.b true) v5) fun v6 =>
  bnd (gd v6 false (some a1)) fun v7 =>
  bnd (gd v6 false (len v7)) fun v8 =>
  bnd (gd v6 false (bi .gtr v8 (.i .i64 200))) fun v9 =>
  bnd (pk v6 (.b true) v9) fun v10 =>
  br v10 (
   fin ob os.length [0] [v1]
  ) (
   bndO (ca0 Φ ob 240 false 29 [a0, (.i .u8 54)]) ob fun v11 ob =>
   bndO (ap ob 256 1 v11 a1) ob fun v12 ob =>
   bndO (ca0 Φ ob 264 false 26 [v12]) ob fun v13 ob =>
   bndO (al ob 112 [.blob 32 (List.replicate 32 (.i .u8 0))]) ob fun v14 ob =>
   bndO (st ob 32 v14 v13) ob fun _ ob =>
   bndO (ca0 Φ ob 288 false 30 [a0, a1]) ob fun v15 ob =>
   bndO (ca0 Φ ob 304 false 29 [a0, (.i .u8 92)]) ob fun v16 ob =>
   bndO (slc ob (.arr 32) v14 none none none) ob fun v17 ob =>
   bndO (ap ob 320 1 v16 v17) ob fun v18 ob =>
   bndO (ca0 Φ ob 328 false 26 [v18]) ob fun v19 ob =>
   bnd (eAr false 32 v15 v19) fun v20 =>
   fin ob os.length [0] [v20]
  )

def ann9 : Nat → Option Hd := fun _ => none
noncomputable def m10 : Body := fun Φ N as os =>
  let a0 := gS (zipN 0 as) 0
  let a1 := gS (zipN 0 as) 1
  let a2 := gS (zipN 0 as) 2
  let ob := zipN 0 os
  bndO (ca0 Φ ob 144 false 28 []) ob fun v1 ob =>
  bnd (uO .not v1) fun v2 =>
  bnd (gd v2 false (some a0)) fun v3 =>
  bnd (gd v2 false (len v3)) fun v4 =>
  bnd (gd v2 false (bi .gtr v4 (.i .i64 200))) fun v5 =>
  bnd (pk v2 (.b true) v5) fun v6 =>
  bnd (gd v6 false (some a1)) fun v7 =>
  bnd (gd v6 false (len v7)) fun v8 =>
  bnd (gd v6 false (bi .gtr v8 (.i .i64 200))) fun v9 =>
  bnd (pk v6 (.b true) v9) fun v10 =>
  br v10 (
   fin ob os.length [0] [v1]
  ) (
   bndO (ca0 Φ ob 264 false 31 [a0]) ob fun v11 ob =>
   bnd (len v11) fun v12 =>
   bnd (bi .neq v12 (.i .i64 64)) fun v13 =>
   br v13 (
    fin ob os.length [0] [(.b false)]
   ) (
    bnd (len a0) fun v14 =>
    bnd (bi .gtr v14 (.i .i64 64)) fun v15 =>
    br v15 (
     bndO (ca0 Φ ob 320 false 26 [a0]) ob fun v16 ob =>
     bndO (al ob 128 [.blob 32 (List.replicate 32 (.i .u8 0))]) ob fun v17 ob =>
     bndO (st ob 32 v17 v16) ob fun _ ob =>
     bndO (ca0 Φ ob 344 false 30 [a0, a1]) ob fun v18 ob =>
     bndO (slc ob (.arr 32) v17 none none none) ob fun v19 ob =>
     bndO (ca0 Φ ob 368 false 30 [v19, a1]) ob fun v20 ob =>
     bnd (eAr false 32 v18 v20) fun v21 =>
     fin ob os.length [0] [v21]
    ) (
     bnd (bi .lss a2 (.i .i64 0)) fun v22 =>
     bnd (gd v22 false (some a2)) fun v23 =>
     bnd (gd v22 false (some a0)) fun v24 =>
     bnd (gd v22 false (len v24)) fun v25 =>
     bnd (gd v22 false (bi .sub (.i .i64 64) v25)) fun v26 =>
     bnd (gd v22 false (bi .gtr v23 v26)) fun v27 =>
     bnd (pk v22 (.b true) v27) fun v28 =>
     br v28 (
      fin ob os.length [0] [(.b true)]
     ) (
      bndO (ap ob 464 1 (.e true) a0) ob fun v29 ob =>
      bndO (apz ob 480 [.i .u8 0] v29 a2) ob fun v30 ob =>
      bndO (ca0 Φ ob 504 false 30 [v30, a1]) ob fun v31 ob =>
      bndO (ca0 Φ ob 528 false 30 [a0, a1]) ob fun v32 ob =>
      bnd (eAr false 32 v31 v32) fun v33 =>
      fin ob os.length [0] [v33]
     )
    )
   )
  )

def ann10 : Nat → Option Hd := fun _ => none
noncomputable def m11 : Body := fun Φ N as os =>
  let a0 := gS (zipN 0 as) 0
  let a1 := gS (zipN 0 as) 1
  let a2 := gS (zipN 0 as) 2
  let a3 := gS (zipN 0 as) 3
  let ob := zipN 0 os
  bndO (ca0 Φ ob 152 false 28 []) ob fun v1 ob =>
  bnd (uO .not v1) fun v2 =>
  bnd (gd v2 false (some a0)) fun v3 =>
  bnd (gd v2 false (len v3)) fun v4 =>
  bnd (gd v2 false (bi .gtr v4 (.i .i64 300))) fun v5 =>
  bnd (pk v2 (.b true) v5) fun v6 =>
  bnd (gd v6 false (some a1)) fun v7 =>
  bnd (gd v6 false (len v7)) fun v8 =>
  bnd (gd v6 false (bi .gtr v8 (.i .i64 300))) fun v9 =>
  bnd (pk v6 (.b true) v9) fun v10 =>
  br v10 (
   fin ob os.length [0] [v1]
  ) (
   bndO (ca0 Φ ob 280 false 32 [a0, a1]) ob fun v11 ob =>
   bnd (b2s ob a0) fun v12 =>
   bnd (b2s ob a1) fun v13 =>
   bnd (bi .eql v12 v13) fun v14 =>
   bnd (biB .neq v11 v14) fun v15 =>
   bnd (gd v15 false (some a0)) fun v16 =>
   bnd (gd v15 false (some a1)) fun v17 =>
   bndO (gdO v15 false (ca0 Φ ob 360 false 32 [v16, v17])) ob fun v18 ob =>
   bnd (gd v15 false (some a1)) fun v19 =>
   bnd (gd v15 false (some a0)) fun v20 =>
   bndO (gdO v15 false (ca0 Φ ob 384 false 32 [v19, v20])) ob fun v21 ob =>
   bnd (gd v15 false (biB .neq v18 v21)) fun v22 =>
   bnd (pk v15 (.b true) v22) fun v23 =>
   bnd (gd v23 false (some a0)) fun v24 =>
   bnd (gd v23 false (some a0)) fun v25 =>
   bndO (gdO v23 false (ap ob 432 1 (.e true) v25)) ob fun v26 ob =>
   bnd (gd v23 false (some a3)) fun v27 =>
   bndO (gdO v23 false (bldS ob 448 1 [v27])) ob fun v28 ob =>
   bndO (gdO v23 false (ap ob 456 1 v26 v28)) ob fun v29 ob =>
   bndO (gdO v23 false (ca0 Φ ob 464 false 32 [v24, v29])) ob fun v30 ob =>
   bnd (pk v23 (.b true) v30) fun v31 =>
   br v31 (
    fin ob os.length [0] [(.b false)]
   ) (
    bnd (bi .lss a2 (.i .i64 0)) fun v32 =>
    bnd (gd v32 false (some a2)) fun v33 =>
    bnd (gd v32 false (some a0)) fun v34 =>
    bnd (gd v32 false (len v34)) fun v35 =>
    bnd (gd v32 false (bi .geq v33 v35)) fun v36 =>
    bnd (pk v32 (.b true) v36) fun v37 =>
    br v37 (
     bndO (ca0 Φ ob 560 false 32 [a0, a0]) ob fun v38 ob =>
     fin ob os.length [0] [v38]
    ) (
     bndO (ap ob 576 1 (.e true) a0) ob fun v39 ob =>
     bnd (xS ob 1 v39 a2) fun v40 =>
     bndO (st ob 1 v40 a3) ob fun _ ob =>
     bndO (ca0 Φ ob 632 false 32 [a0, v39]) ob fun v41 ob =>
     bnd (xS ob 1 a0 a2) fun v42 =>
     bnd (l1 ob v42) fun v43 =>
     bnd (bi .eql v43 a3) fun v44 =>
     bnd (biB .eql v41 v44) fun v45 =>
     fin ob os.length [0] [v45]
    )
   )
  )

def ann11 : Nat → Option Hd := fun _ => none
noncomputable def m12 : Body := fun Φ N as os =>
  let a0 := gS (zipN 0 as) 0
  let a1 := gS (zipN 0 as) 1
  let a2 := gS (zipN 0 as) 2
  let ob := zipN 0 os
  bndO (ca0 Φ ob 144 false 28 []) ob fun v1 ob =>
  bnd (uO .not v1) fun v2 =>
  bnd (gd v2 false (some a0)) fun v3 =>
  bnd (gd v2 false (len v3)) fun v4 =>
  bnd (gd v2 false (bi .gtr v4 (.i .i64 200))) fun v5 =>
  bnd (pk v2 (.b true) v5) fun v6 =>
  bnd (gd v6 false (some a1)) fun v7 =>
  bnd (gd v6 false (len v7)) fun v8 =>
  bnd (gd v6 false (bi .gtr v8 (.i .i64 200))) fun v9 =>
  bnd (pk v6 (.b true) v9) fun v10 =>
  bnd (gd v10 false (some a2)) fun v11 =>
  bnd (gd v10 false (len v11)) fun v12 =>
  bnd (gd v10 false (bi .gtr v12 (.i .i64 200))) fun v13 =>
  bnd (pk v10 (.b true) v13) fun v14 =>
  bnd (gd v14 false (some a1)) fun v15 =>
  bnd (gd v14 false (b2s ob v15)) fun v16 =>
  bnd (gd v14 false (some a2)) fun v17 =>
  bnd (gd v14 false (b2s ob v17)) fun v18 =>
  bnd (gd v14 false (bi .eql v16 v18)) fun v19 =>
  bnd (pk v14 (.b true) v19) fun v20 =>
  bnd (gd v20 false (some a0)) fun v21 =>
  bnd (gd v20 false (some a1)) fun v22 =>
  bndO (gdO v20 false (ca0 Φ ob 368 false 30 [v21, v22])) ob fun v23 ob =>
  bnd (gd v20 false (some a0)) fun v24 =>
  bnd (gd v20 false (some a2)) fun v25 =>
  bndO (gdO v20 false (ca0 Φ ob 392 false 30 [v24, v25])) ob fun v26 ob =>
  bnd (gd v20 false (eAr true 32 v23 v26)) fun v27 =>
  bnd (pk v20 (.b true) v27) fun v28 =>
  br v28 (
   fin ob os.length [0] [v1]
  ) (
   bndO (ca0 Φ ob 432 false 29 [a0, (.i .u8 54)]) ob fun v29 ob =>
   bndO (ap ob 448 1 v29 a1) ob fun v30 ob =>
   bndO (ca0 Φ ob 456 false 26 [v30]) ob fun v31 ob =>
   bndO (al ob 128 [.blob 32 (List.replicate 32 (.i .u8 0))]) ob fun v32 ob =>
   bndO (st ob 32 v32 v31) ob fun _ ob =>
   bndO (ca0 Φ ob 472 false 29 [a0, (.i .u8 54)]) ob fun v33 ob =>
   bndO (ap ob 488 1 v33 a2) ob fun v34 ob =>
   bndO (ca0 Φ ob 496 false 26 [v34]) ob fun v35 ob =>
   bndO (al ob 136 [.blob 32 (List.replicate 32 (.i .u8 0))]) ob fun v36 ob =>
   bndO (st ob 32 v36 v35) ob fun _ ob =>
   bnd (lN ob 32 v32) fun v37 =>
   bnd (lN ob 32 v36) fun v38 =>
   bnd (eAr false 32 v37 v38) fun v39 =>
   bnd (gd v39 false (some a0)) fun v40 =>
   bndO (gdO v39 false (ca0 Φ ob 544 false 29 [v40, (.i .u8 92)])) ob fun v41 ob =>
   bndO (gdO v39 false (slc ob (.arr 32) v32 none none none)) ob fun v42 ob =>
   bndO (gdO v39 false (ap ob 560 1 v41 v42)) ob fun v43 ob =>
   bndO (gdO v39 false (ca0 Φ ob 568 false 26 [v43])) ob fun v44 ob =>
   bnd (gd v39 false (some a0)) fun v45 =>
   bndO (gdO v39 false (ca0 Φ ob 584 false 29 [v45, (.i .u8 92)])) ob fun v46 ob =>
   bndO (gdO v39 false (slc ob (.arr 32) v36 none none none)) ob fun v47 ob =>
   bndO (gdO v39 false (ap ob 600 1 v46 v47)) ob fun v48 ob =>
   bndO (gdO v39 false (ca0 Φ ob 608 false 26 [v48])) ob fun v49 ob =>
   bnd (gd v39 false (eAr false 32 v44 v49)) fun v50 =>
   bnd (pk v39 (.b true) v50) fun v51 =>
   fin ob os.length [0] [v51]
  )

def ann12 : Nat → Option Hd := fun _ => none
noncomputable def m13 : Body := fun Φ N as os =>
  let a0 := gS (zipN 0 as) 0
  let a1 := gS (zipN 0 as) 1
  let a2 := gS (zipN 0 as) 2
  let a3 := gS (zipN 0 as) 3
  let ob := zipN 0 os
  bndO (ca0 Φ ob 176 false 28 []) ob fun v1 ob =>
  bnd (uO .not v1) fun v2 =>
  bnd (gd v2 false (some a0)) fun v3 =>
  bnd (gd v2 false (len v3)) fun v4 =>
  bnd (gd v2 false (bi .gtr v4 (.i .i64 200))) fun v5 =>
  bnd (pk v2 (.b true) v5) fun v6 =>
  bnd (gd v6 false (some a1)) fun v7 =>
  bnd (gd v6 false (len v7)) fun v8 =>
  bnd (gd v6 false (bi .gtr v8 (.i .i64 200))) fun v9 =>
  bnd (pk v6 (.b true) v9) fun v10 =>
  bnd (gd v10 false (some a2)) fun v11 =>
  bnd (gd v10 false (len v11)) fun v12 =>
  bnd (gd v10 false (bi .gtr v12 (.i .i64 200))) fun v13 =>
  bnd (pk v10 (.b true) v13) fun v14 =>
  bnd (gd v14 false (some a3)) fun v15 =>
  bnd (gd v14 false (lenS v15)) fun v16 =>
  bnd (gd v14 false (bi .gtr v16 (.i .i64 200))) fun v17 =>
  bnd (pk v14 (.b true) v17) fun v18 =>
  br v18 (
   fin ob os.length [0] [v1]
  ) (
   bndO (ca0 Φ ob 400 false 33 [a0, a3, a1]) ob fun v19 ob =>
   bnd (ext 0 v19) fun v20 =>
   bnd (ext 1 v19) fun v21 =>
   bndO (al ob 144 [.blob 32 (List.replicate 32 (.i .u8 0))]) ob fun v22 ob =>
   bndO (st ob 32 v22 v20) ob fun _ ob =>
   bndO (ca0 Φ ob 456 false 34 [a0, a3, a1]) ob fun v23 ob =>
   bnd (ext 0 v23) fun v24 =>
   bnd (ext 1 v23) fun v25 =>
   bndO (al ob 160 [.blob 32 (List.replicate 32 (.i .u8 0))]) ob fun v26 ob =>
   bndO (st ob 32 v26 v24) ob fun _ ob =>
   bndO (ca0 Φ ob 488 false 31 [a0]) ob fun v27 ob =>
   bnd (b2s ob v27) fun v28 =>
   bndO (ca0 Φ ob 512 false 35 [a0]) ob fun v29 ob =>
   bnd (b2s ob v29) fun v30 =>
   bnd (bi .eql v28 v30) fun v31 =>
   bnd (gd v31 true (some a0)) fun v32 =>
   bnd (gd v31 true (some a1)) fun v33 =>
   bndO (gdO v31 true (ca0 Φ ob 560 false 30 [v32, v33])) ob fun v34 ob =>
   bnd (gd v31 true (some a0)) fun v35 =>
   bnd (gd v31 true (some a1)) fun v36 =>
   bndO (gdO v31 true (ca0 Φ ob 584 false 36 [v35, v36])) ob fun v37 ob =>
   bnd (gd v31 true (eAr false 32 v34 v37)) fun v38 =>
   bnd (pk v31 v38 (.b false)) fun v39 =>
   bnd (gd v39 true (lN ob 32 v22)) fun v40 =>
   bnd (gd v39 true (lN ob 32 v26)) fun v41 =>
   bnd (gd v39 true (eAr false 32 v40 v41)) fun v42 =>
   bnd (pk v39 v42 (.b false)) fun v43 =>
   bnd (gd v43 true (some v21)) fun v44 =>
   bnd (gd v43 true (some v25)) fun v45 =>
   bnd (gd v43 true (biB .eql v44 v45)) fun v46 =>
   bnd (pk v43 v46 (.b false)) fun v47 =>
   bnd (gd v47 true (some a1)) fun v48 =>
   bnd (gd v47 true (some a2)) fun v49 =>
   bndO (gdO v47 true (ca0 Φ ob 712 false 32 [v48, v49])) ob fun v50 ob =>
   bnd (gd v47 true (some a1)) fun v51 =>
   bnd (gd v47 true (b2s ob v51)) fun v52 =>
   bnd (gd v47 true (some a2)) fun v53 =>
   bnd (gd v47 true (b2s ob v53)) fun v54 =>
   bnd (gd v47 true (bi .eql v52 v54)) fun v55 =>
   bnd (gd v47 true (biB .eql v50 v55)) fun v56 =>
   bnd (pk v47 v56 (.b false)) fun v57 =>
   fin ob os.length [0] [v57]
  )

def ann13 : Nat → Option Hd := fun _ => none
noncomputable def m14 : Body := fun Φ N as os =>
  let a0 := gS (zipN 0 as) 0
  let a1 := gS (zipN 0 as) 1
  let a2 := gS (zipN 0 as) 2
  let ob := zipN 0 os
  bndO (ca0 Φ ob 152 false 28 []) ob fun v1 ob =>
  bnd (uO .not v1) fun v2 =>
  bnd (gd v2 false (some a0)) fun v3 =>
  bnd (gd v2 false (len v3)) fun v4 =>
  bnd (gd v2 false (bi .gtr v4 (.i .i64 200))) fun v5 =>
  bnd (pk v2 (.b true) v5) fun v6 =>
  bnd (gd v6 false (some a1)) fun v7 =>
  bnd (gd v6 false (lenS v7)) fun v8 =>
  bnd (gd v6 false (bi .gtr v8 (.i .i64 200))) fun v9 =>
  bnd (pk v6 (.b true) v9) fun v10 =>
  bnd (gd v10 false (some a2)) fun v11 =>
  bnd (gd v10 false (len v11)) fun v12 =>
  bnd (gd v10 false (bi .gtr v12 (.i .i64 200))) fun v13 =>
  bnd (pk v10 (.b true) v13) fun v14 =>
  br v14 (
   fin ob os.length [0] [v1]
  ) (
   bndO (ca0 Φ ob 336 false 33 [a0, a1, a2]) ob fun v15 ob =>
   bnd (ext 0 v15) fun v16 =>
   bnd (ext 1 v15) fun v17 =>
   bndO (al ob 128 [.blob 32 (List.replicate 32 (.i .u8 0))]) ob fun v18 ob =>
   bndO (st ob 32 v18 v16) ob fun _ ob =>
   bnd (lenS a1) fun v19 =>
   bnd (bi .geq v19 (.i .i64 1)) fun v20 =>
   bnd (gd v20 true (some a1)) fun v21 =>
   bnd (gd v20 true (lenS v21)) fun v22 =>
   bnd (gd v20 true (bi .leq v22 (.i .i64 32))) fun v23 =>
   bnd (pk v20 v23 (.b false)) fun v24 =>
   bnd (biB .neq v17 v24) fun v25 =>
   br v25 (
    fin ob os.length [0] [(.b false)]
   ) (
    bnd (lenS a1) fun v26 =>
    bnd (cv .u8 v26) fun v27 =>
    bndO (bldS ob 464 1 [v27]) ob fun v28 ob =>
    bndO (ap ob 480 1 v28 a1) ob fun v29 ob =>
    bnd (uO .not v17) fun v30 =>
    bnd (gd v30 true (lN ob 32 v18)) fun v31 =>
    bnd (gd v30 true (bld [.blob 32 (List.replicate 32 (.i .u8 0))] [])) fun v32 =>
    bnd (gd v30 true (eAr false 32 v31 v32)) fun v33 =>
    bnd (pk v30 v33 (.b false)) fun v34 =>
    bnd (gd v34 false (some v17)) fun v35 =>
    bnd (gd v34 false (some v35)) fun v36 =>
    bnd (gd v36 true (lN ob 32 v18)) fun v37 =>
    bnd (gd v36 true (some a0)) fun v38 =>
    bnd (gd v36 true (some v29)) fun v39 =>
    bnd (gd v36 true (some a2)) fun v40 =>
    bnd (dis [v18] [v39, v40]) fun _ =>
    bndO (gdO v36 true (ap ob 600 1 v39 v40)) ob fun v41 ob =>
    bndO (gdO v36 true (ca0 Φ ob 608 false 30 [v38, v41])) ob fun v42 ob =>
    bnd (gd v36 true (eAr false 32 v37 v42)) fun v43 =>
    bnd (gd v34 false (pk v36 v43 (.b false))) fun v44 =>
    bnd (pk v34 (.b true) v44) fun v45 =>
    fin ob os.length [0] [v45]
   )
  )

def ann14 : Nat → Option Hd := fun _ => none
noncomputable def m15 : Body := fun Φ N as os =>
  let ob := zipN 0 os
  bndO (bldS ob 88 1 [(.i .u8 97), (.i .u8 98), (.i .u8 99)]) ob fun v1 ob =>
  bndO (mkS ob v1) ob fun v2 ob =>
  bndO (ca0 Φ ob 104 false 26 [v2]) ob fun v3 ob =>
  bndO (al ob 72 [.blob 32 (List.replicate 32 (.i .u8 0))]) ob fun v4 ob =>
  bndO (st ob 32 v4 v3) ob fun _ ob =>
  bndO (ca0 Φ ob 112 false 26 [(.e true)]) ob fun v5 ob =>
  bndO (al ob 80 [.blob 32 (List.replicate 32 (.i .u8 0))]) ob fun v6 ob =>
  bndO (st ob 32 v6 v5) ob fun _ ob =>
  bnd (xA 32 v4 (.i .i64 0)) fun v7 =>
  bnd (l1 ob v7) fun v8 =>
  bnd (bi .eql v8 (.i .u8 186)) fun v9 =>
  bnd (gd v9 true (xA 32 v4 (.i .i64 1))) fun v10 =>
  bnd (gd v9 true (l1 ob v10)) fun v11 =>
  bnd (gd v9 true (bi .eql v11 (.i .u8 120))) fun v12 =>
  bnd (pk v9 v12 (.b false)) fun v13 =>
  bnd (gd v13 true (xA 32 v4 (.i .i64 2))) fun v14 =>
  bnd (gd v13 true (l1 ob v14)) fun v15 =>
  bnd (gd v13 true (bi .eql v15 (.i .u8 22))) fun v16 =>
  bnd (pk v13 v16 (.b false)) fun v17 =>
  bnd (gd v17 true (xA 32 v4 (.i .i64 3))) fun v18 =>
  bnd (gd v17 true (l1 ob v18)) fun v19 =>
  bnd (gd v17 true (bi .eql v19 (.i .u8 191))) fun v20 =>
  bnd (pk v17 v20 (.b false)) fun v21 =>
  bnd (gd v21 true (xA 32 v6 (.i .i64 0))) fun v22 =>
  bnd (gd v21 true (l1 ob v22)) fun v23 =>
  bnd (gd v21 true (bi .eql v23 (.i .u8 227))) fun v24 =>
  bnd (pk v21 v24 (.b false)) fun v25 =>
  bnd (gd v25 true (xA 32 v6 (.i .i64 3))) fun v26 =>
  bnd (gd v25 true (l1 ob v26)) fun v27 =>
  bnd (gd v25 true (bi .eql v27 (.i .u8 66))) fun v28 =>
  bnd (pk v25 v28 (.b false)) fun v29 =>
  bndO (gdO v29 true (ca0 Φ ob 352 false 21 [])) ob fun v30 ob =>
  bndO (gdO v29 true (ca0 Φ ob 360 false 23 [v30])) ob fun v31 ob =>
  bnd (pk v29 v31 (.b false)) fun v32 =>
  fin ob os.length [0] [v32]

def ann15 : Nat → Option Hd := fun _ => none
noncomputable def m16 : Body := fun Φ N as os =>
  let a0 := gS (zipN 0 as) 0
  let ob := zipN 0 os
  bndO (bx ob 72 a0) ob fun v1 ob =>
  bnd (fA 8 v1) fun v2 =>
  bnd (l1 ob v2) fun v3 =>
  bnd (len v3) fun v4 =>
  bnd (bi .leq v4 (.i .i64 100)) fun v5 =>
  fin ob os.length [0] [v5]

def ann16 : Nat → Option Hd := fun _ => none
noncomputable def m17 : Body := fun Φ N as os =>
  let a0 := gS (zipN 0 as) 0
  let ob := zipN 0 os
  bndO (bx ob 72 a0) ob fun v1 ob =>
  bnd (fA 9 v1) fun v2 =>
  bnd (l1 ob v2) fun v3 =>
  bnd (bi .geq v3 (.i .i64 0)) fun v4 =>
  bnd (gd v4 true (fA 9 v1)) fun v5 =>
  bnd (gd v4 true (l1 ob v5)) fun v6 =>
  bnd (gd v4 true (bi .leq v6 (.i .i64 1048576))) fun v7 =>
  bnd (pk v4 v7 (.b false)) fun v8 =>
  bnd (gd v8 true (fA 8 v1)) fun v9 =>
  bnd (gd v8 true (l1 ob v9)) fun v10 =>
  bnd (gd v8 true (len v10)) fun v11 =>
  bnd (gd v8 true (fA 9 v1)) fun v12 =>
  bnd (gd v8 true (l1 ob v12)) fun v13 =>
  bnd (gd v8 true (bi .rem v13 (.i .i64 64))) fun v14 =>
  bnd (gd v8 true (bi .eql v11 v14)) fun v15 =>
  bnd (pk v8 v15 (.b false)) fun v16 =>
  fin ob os.length [0] [v16]

def ann17 : Nat → Option Hd := fun _ => none
noncomputable def m18 : Body := fun Φ N as os =>
  let a0 := gS (zipN 0 as) 0
  let a1 := gS (zipN 0 as) 1
  let ob := zipN 0 os
  bndO (bx ob 80 a0) ob fun v1 ob =>
  bndO (bx ob 88 a1) ob fun v2 ob =>
  bnd (fA 0 v1) fun v3 =>
  bnd (lN ob 8 v3) fun v4 =>
  bnd (fA 0 v2) fun v5 =>
  bnd (lN ob 8 v5) fun v6 =>
  bnd (eAr false 8 v4 v6) fun v7 =>
  bnd (gd v7 true (fA 9 v1)) fun v8 =>
  bnd (gd v7 true (l1 ob v8)) fun v9 =>
  bnd (gd v7 true (fA 9 v2)) fun v10 =>
  bnd (gd v7 true (l1 ob v10)) fun v11 =>
  bnd (gd v7 true (bi .eql v9 v11)) fun v12 =>
  bnd (pk v7 v12 (.b false)) fun v13 =>
  bnd (gd v13 true (fA 8 v1)) fun v14 =>
  bnd (gd v13 true (l1 ob v14)) fun v15 =>
  bnd (gd v13 true (b2s ob v15)) fun v16 =>
  bnd (gd v13 true (fA 8 v2)) fun v17 =>
  bnd (gd v13 true (l1 ob v17)) fun v18 =>
  bnd (gd v13 true (b2s ob v18)) fun v19 =>
  bnd (gd v13 true (bi .eql v16 v19)) fun v20 =>
  bnd (pk v13 v20 (.b false)) fun v21 =>
  fin ob os.length [0] [v21]

def ann18 : Nat → Option Hd := fun _ => none
noncomputable def m19 : Body := fun Φ N as os =>
  let a0 := gS (zipN 0 as) 0
  let a1 := gS (zipN 0 as) 1
  let ob := zipN 0 os
  bndO (bx ob 80 a0) ob fun v1 ob =>
  bndO (al ob 96 [.blob 8 (List.replicate 8 (.i .u32 0)), .e true, .i .i64 0]) ob fun v2 ob =>
  bnd (lN ob 10 v1) fun v3 =>
  bndO (ca0 Φ ob 128 false 23 [v3]) ob fun v4 ob =>
  bnd (uO .not v4) fun v5 =>
  bnd (gd v5 false (some a1)) fun v6 =>
  bnd (gd v5 false (len v6)) fun v7 =>
  bnd (gd v5 false (fA 9 v1)) fun v8 =>
  bnd (gd v5 false (l1 ob v8)) fun v9 =>
  bnd (gd v5 false (bi .sub (.i .i64 1048576) v9)) fun v10 =>
  bnd (gd v5 false (bi .gtr v7 v10)) fun v11 =>
  bnd (pk v5 (.b true) v11) fun v12 =>
  br v12 (
   bnd (bld [.blob 8 (List.replicate 8 (.i .u32 0)), .e true, .i .i64 0] []) fun v13 =>
   bndO (st ob 10 v2 v13) ob fun _ ob =>
   bnd (lN ob 10 v2) fun v14 =>
   fin ob os.length [0] [v14]
  ) (
   bnd (fA 0 v1) fun v15 =>
   bnd (lN ob 8 v15) fun v16 =>
   bnd (fA 8 v1) fun v17 =>
   bnd (l1 ob v17) fun v18 =>
   bndO (bldS ob 264 1 [v18, a1]) ob fun v19 ob =>
   bndO (ca0 Φ ob 272 true 38 [v19]) ob fun v20 ob =>
   bndO (ca0 Φ ob 280 false 37 [v16, v20]) ob fun v21 ob =>
   bnd (ext 0 v21) fun v22 =>
   bnd (ext 1 v21) fun v23 =>
   bndO (al ob 104 [.blob 8 (List.replicate 8 (.i .u32 0))]) ob fun v24 ob =>
   bndO (st ob 8 v24 v22) ob fun _ ob =>
   bnd (lN ob 8 v24) fun v25 =>
   bndO (ca0 Φ ob 320 false 39 [v23]) ob fun v26 ob =>
   bnd (fA 9 v1) fun v27 =>
   bnd (l1 ob v27) fun v28 =>
   bnd (len a1) fun v29 =>
   bnd (bi .add v28 v29) fun v30 =>
   bnd (bld [.blob 8 (List.replicate 8 (.i .u32 0)), .e true, .i .i64 0] [(0, 8, v25), (8, 1, v26), (9, 1, v30)]) fun v31 =>
   bndO (st ob 10 v2 v31) ob fun _ ob =>
   bnd (lN ob 10 v2) fun v32 =>
   fin ob os.length [0] [v32]
  )

def ann19 : Nat → Option Hd := fun _ => none
noncomputable def m20b0 (Φ : Sem') (N : Nat) (os : List Obj') (g : SL → OB → Option R) (sl : SL) (ob : OB) : Option R :=
  bnd (len (gS sl 6)) fun v27 =>
  bnd (bi .geq v27 (.i .i64 64)) fun v28 =>
  br v28 (
   bnd (fA 0 (gS sl 7)) fun v29 =>
   bnd (lN ob 8 v29) fun v30 =>
   bndO (slc ob (.slice 1) (gS sl 6) none (some (.i .i64 64)) none) ob fun v31 ob =>
   bndO (ca0 Φ ob 400 false 40 [v30, v31]) ob fun v32 ob =>
   bnd (fA 0 (gS sl 7)) fun v33 =>
   bndO (st ob 8 v33 v32) ob fun _ ob =>
   bndO (slc ob (.slice 1) (gS sl 6) (some (.i .i64 64)) none none) ob fun v34 ob =>
   bnd (head [] [4, 6, 7] [96, 120, 248] [(4, (gS sl 4)), (6, v34), (7, (gS sl 7))] ob) fun x => g x.1 x.2
  ) (
   bnd (fA 8 (gS sl 7)) fun v35 =>
   bndO (st ob 1 v35 (gS sl 6)) ob fun _ ob =>
   bnd (lN ob 10 (gS sl 7)) fun v36 =>
   bndO (st ob 10 (gS sl 4) v36) ob fun _ ob =>
   bnd (lN ob 10 (gS sl 4)) fun v37 =>
   fin ob os.length [0] [v37]
  )
noncomputable def m20 : Body := fun Φ N as os =>
  let a0 := gS (zipN 0 as) 0
  let a1 := gS (zipN 0 as) 1
  let ob := zipN 0 os
  bndO (bx ob 80 a0) ob fun v1 ob =>
  bndO (al ob 96 [.blob 8 (List.replicate 8 (.i .u32 0)), .e true, .i .i64 0]) ob fun v2 ob =>
  bnd (lN ob 10 v1) fun v3 =>
  bndO (ca0 Φ ob 136 false 17 [v3]) ob fun v4 ob =>
  bnd (uO .not v4) fun v5 =>
  bnd (gd v5 false (some a1)) fun v6 =>
  bnd (gd v5 false (len v6)) fun v7 =>
  bnd (gd v5 false (fA 9 v1)) fun v8 =>
  bnd (gd v5 false (l1 ob v8)) fun v9 =>
  bnd (gd v5 false (bi .sub (.i .i64 1048576) v9)) fun v10 =>
  bnd (gd v5 false (bi .gtr v7 v10)) fun v11 =>
  bnd (pk v5 (.b true) v11) fun v12 =>
  br v12 (
   bnd (bld [.blob 8 (List.replicate 8 (.i .u32 0)), .e true, .i .i64 0] []) fun v13 =>
   bndO (st ob 10 v2 v13) ob fun _ ob =>
   bnd (lN ob 10 v2) fun v14 =>
   fin ob os.length [0] [v14]
  ) (
   bnd (fA 8 v1) fun v15 =>
   bnd (l1 ob v15) fun v16 =>
   bndO (ap ob 248 1 (.e true) v16) ob fun v17 ob =>
   bndO (ap ob 272 1 v17 a1) ob fun v18 ob =>
   bnd (fA 0 v1) fun v19 =>
   bnd (lN ob 8 v19) fun v20 =>
   bnd (fA 9 v1) fun v21 =>
   bnd (l1 ob v21) fun v22 =>
   bnd (len a1) fun v23 =>
   bnd (bi .add v22 v23) fun v24 =>
   bnd (bld [.blob 8 (List.replicate 8 (.i .u32 0)), .e true, .i .i64 0] [(0, 8, v20), (9, 1, v24)]) fun v25 =>
   bndO (al ob 120 [.blob 8 (List.replicate 8 (.i .u32 0)), .e true, .i .i64 0]) ob fun v26 ob =>
   bndO (st ob 10 v26 v25) ob fun _ ob =>
   bnd (head [] [4, 6, 7] [96, 120, 248] [(4, v2), (6, v18), (7, v26)] ob) fun x => loopC (m20b0 Φ N os) N x.1 x.2
  )

def ann20 : Nat → Option Hd
  | 7 => some ⟨[], [4, 6, 7], [96, 120, 248]⟩ | _ => none
noncomputable def m21 : Body := fun Φ N as os =>
  let ob := zipN 0 os
  bndO (al ob 64 [.blob 8 (List.replicate 8 (.i .u32 0)), .e true, .i .i64 0]) ob fun v1 ob =>
  bnd (lN ob 8 (.q true gFirst none)) fun v2 =>
  bnd (bld [.blob 8 (List.replicate 8 (.i .u32 0)), .e true, .i .i64 0] [(0, 8, v2)]) fun v3 =>
  bndO (st ob 10 v1 v3) ob fun _ ob =>
  bnd (lN ob 10 v1) fun v4 =>
  fin ob os.length [0] [v4]

def ann21 : Nat → Option Hd := fun _ => none
noncomputable def m22 : Body := fun Φ N as os =>
  let ob := zipN 0 os
  bndO (al ob 64 [.blob 8 (List.replicate 8 (.i .u32 0)), .e true, .i .i64 0]) ob fun v1 ob =>
  bnd (bld [.blob 8 (List.replicate 8 (.i .u32 0))] [(0, 1, (.i .u32 1779033703)), (1, 1, (.i .u32 3144134277)), (2, 1, (.i .u32 1013904242)), (3, 1, (.i .u32 2773480762)), (4, 1, (.i .u32 1359893119)), (5, 1, (.i .u32 2600822924)), (6, 1, (.i .u32 528734635)), (7, 1, (.i .u32 1541459225))]) fun v2 =>
  bnd (bld [.blob 8 (List.replicate 8 (.i .u32 0)), .e true, .i .i64 0] [(0, 8, v2)]) fun v3 =>
  bndO (st ob 10 v1 v3) ob fun _ ob =>
  bnd (lN ob 10 v1) fun v4 =>
  fin ob os.length [0] [v4]

def ann22 : Nat → Option Hd := fun _ => none
noncomputable def m23 : Body := fun Φ N as os =>
  let a0 := gS (zipN 0 as) 0
  let ob := zipN 0 os
  bndO (bx ob 72 a0) ob fun v1 ob =>
  bnd (fA 9 v1) fun v2 =>
  bnd (l1 ob v2) fun v3 =>
  bnd (bi .geq v3 (.i .i64 0)) fun v4 =>
  bnd (gd v4 true (fA 9 v1)) fun v5 =>
  bnd (gd v4 true (l1 ob v5)) fun v6 =>
  bnd (gd v4 true (bi .leq v6 (.i .i64 1048576))) fun v7 =>
  bnd (pk v4 v7 (.b false)) fun v8 =>
  bnd (gd v8 true (fA 8 v1)) fun v9 =>
  bnd (gd v8 true (l1 ob v9)) fun v10 =>
  bnd (gd v8 true (len v10)) fun v11 =>
  bnd (gd v8 true (fA 9 v1)) fun v12 =>
  bnd (gd v8 true (l1 ob v12)) fun v13 =>
  bnd (gd v8 true (bi .rem v13 (.i .i64 64))) fun v14 =>
  bnd (gd v8 true (bi .eql v11 v14)) fun v15 =>
  bnd (pk v8 v15 (.b false)) fun v16 =>
  fin ob os.length [0] [v16]

def ann23 : Nat → Option Hd := fun _ => none
noncomputable def m24b0 (Φ : Sem') (N : Nat) (os : List Obj') (g : SL → OB → Option R) (sl : SL) (ob : OB) : Option R :=
  bnd (bi .lss (gS sl 52) (.i .i64 8)) fun v38 =>
  br v38 (
   bnd (xV 8 1 false (gS sl 51) (gS sl 52)) fun v39 =>
   bnd (bi .mul (.i .i64 4) (gS sl 52)) fun v40 =>
   bnd (bi .mul (.i .i64 4) (gS sl 52)) fun v41 =>
   bnd (bi .add v41 (.i .i64 1)) fun v42 =>
   bnd (bi .mul (.i .i64 4) (gS sl 52)) fun v43 =>
   bnd (bi .add v43 (.i .i64 2)) fun v44 =>
   bnd (bi .mul (.i .i64 4) (gS sl 52)) fun v45 =>
   bnd (bi .add v45 (.i .i64 3)) fun v46 =>
   bnd (bi .shr v39 (.i .u64 24)) fun v47 =>
   bnd (cv .u8 v47) fun v48 =>
   bnd (bi .shr v39 (.i .u64 16)) fun v49 =>
   bnd (cv .u8 v49) fun v50 =>
   bnd (bi .shr v39 (.i .u64 8)) fun v51 =>
   bnd (cv .u8 v51) fun v52 =>
   bnd (cv .u8 v39) fun v53 =>
   bnd (xA 32 (gS sl 8) v40) fun v54 =>
   bndO (st ob 1 v54 v48) ob fun _ ob =>
   bnd (xA 32 (gS sl 8) v42) fun v55 =>
   bndO (st ob 1 v55 v50) ob fun _ ob =>
   bnd (xA 32 (gS sl 8) v44) fun v56 =>
   bndO (st ob 1 v56 v52) ob fun _ ob =>
   bnd (xA 32 (gS sl 8) v46) fun v57 =>
   bndO (st ob 1 v57 v53) ob fun _ ob =>
   bnd (bi .add (gS sl 52) (.i .i64 1)) fun v58 =>
   bnd (head [] [2, 8, 51, 52] [80, 128] [(2, (gS sl 2)), (8, (gS sl 8)), (51, (gS sl 51)), (52, v58)] ob) fun x => g x.1 x.2
  ) (
   bnd (lN ob 32 (gS sl 8)) fun v59 =>
   bndO (st ob 32 (gS sl 2) v59) ob fun _ ob =>
   bnd (lN ob 32 (gS sl 2)) fun v60 =>
   fin ob os.length [0] [v60]
  )
noncomputable def m24b1 (Φ : Sem') (N : Nat) (os : List Obj') (g : SL → OB → Option R) (sl : SL) (ob : OB) : Option R :=
  bnd (bi .lss (gS sl 31) (.i .i64 8)) fun v22 =>
  br v22 (
   bnd (bi .mul (.i .i64 8) (gS sl 31)) fun v23 =>
   bnd (bi .sub (.i .i64 56) v23) fun v24 =>
   bnd (bi .shr (gS sl 4) v24) fun v25 =>
   bnd (cv .u8 v25) fun v26 =>
   bndO (bldS ob 392 1 [v26]) ob fun v27 ob =>
   bndO (ap ob 400 1 (gS sl 3) v27) ob fun v28 ob =>
   bnd (bi .add (gS sl 31) (.i .i64 1)) fun v29 =>
   bnd (head [.row 3 95 1] [1, 2, 3, 4, 31] [72, 80] [(1, (gS sl 1)), (2, (gS sl 2)), (3, v28), (4, (gS sl 4)), (31, v29)] ob) fun x => g x.1 x.2
  ) (
   bnd (fA 0 (gS sl 1)) fun v30 =>
   bnd (lN ob 8 v30) fun v31 =>
   bndO (ca0 Φ ob 448 false 37 [v31, (gS sl 3)]) ob fun v32 ob =>
   bnd (ext 0 v32) fun v33 =>
   bnd (ext 1 v32) fun v34 =>
   bndO (al ob 112 [.blob 8 (List.replicate 8 (.i .u32 0))]) ob fun v35 ob =>
   bndO (st ob 8 v35 v33) ob fun _ ob =>
   bndO (al ob 128 [.blob 32 (List.replicate 32 (.i .u8 0))]) ob fun v36 ob =>
   bnd (lN ob 8 v35) fun v37 =>
   bnd (head [] [2, 8, 51, 52] [80, 128] [(2, (gS sl 2)), (8, v36), (51, v37), (52, (.i .i64 0))] ob) fun x => loopC (m24b0 Φ N os) N x.1 x.2
  )
noncomputable def m24b2 (Φ : Sem') (N : Nat) (os : List Obj') (g : SL → OB → Option R) (sl : SL) (ob : OB) : Option R :=
  bnd (len (gS sl 3)) fun v13 =>
  bnd (bi .rem v13 (.i .i64 64)) fun v14 =>
  bnd (bi .neq v14 (.i .i64 56)) fun v15 =>
  br v15 (
   bndO (bldS ob 264 1 [(.i .u8 0)]) ob fun v16 ob =>
   bndO (ap ob 272 1 (gS sl 3) v16) ob fun v17 ob =>
   bnd (head [.row 3 95 1] [1, 2, 3] [72, 80] [(1, (gS sl 1)), (2, (gS sl 2)), (3, v17)] ob) fun x => g x.1 x.2
  ) (
   bnd (fA 9 (gS sl 1)) fun v18 =>
   bnd (l1 ob v18) fun v19 =>
   bnd (cv .u64 v19) fun v20 =>
   bnd (bi .mul v20 (.i .u64 8)) fun v21 =>
   bnd (head [.row 3 95 1] [1, 2, 3, 4, 31] [72, 80] [(1, (gS sl 1)), (2, (gS sl 2)), (3, (gS sl 3)), (4, v21), (31, (.i .i64 0))] ob) fun x => loopC (m24b1 Φ N os) N x.1 x.2
  )
noncomputable def m24 : Body := fun Φ N as os =>
  let a0 := gS (zipN 0 as) 0
  let ob := zipN 0 os
  bndO (bx ob 72 a0) ob fun v1 ob =>
  bndO (al ob 80 [.blob 32 (List.replicate 32 (.i .u8 0))]) ob fun v2 ob =>
  bnd (lN ob 10 v1) fun v3 =>
  bndO (ca0 Φ ob 160 false 23 [v3]) ob fun v4 ob =>
  bnd (uO .not v4) fun v5 =>
  br v5 (
   bnd (bld [.blob 32 (List.replicate 32 (.i .u8 0))] []) fun v6 =>
   bndO (st ob 32 v2 v6) ob fun _ ob =>
   bnd (lN ob 32 v2) fun v7 =>
   fin ob os.length [0] [v7]
  ) (
   bnd (fA 8 v1) fun v8 =>
   bnd (l1 ob v8) fun v9 =>
   bndO (ca0 Φ ob 200 false 39 [v9]) ob fun v10 ob =>
   bndO (bldS ob 208 1 [(.i .u8 128)]) ob fun v11 ob =>
   bndO (ap ob 216 1 v10 v11) ob fun v12 ob =>
   bnd (head [.row 3 95 1] [1, 2, 3] [72, 80] [(1, v1), (2, v2), (3, v12)] ob) fun x => loopC (m24b2 Φ N os) N x.1 x.2
  )

def ann24 : Nat → Option Hd
  | 4 => some ⟨[.row 3 95 1], [1, 2, 3], [72, 80]⟩ | 8 => some ⟨[.row 3 95 1], [1, 2, 3, 4, 31], [72, 80]⟩ | 15 => some ⟨[], [2, 8, 51, 52], [80, 128]⟩ | _ => none
noncomputable def m25b0 (Φ : Sem') (N : Nat) (os : List Obj') (g : SL → OB → Option R) (sl : SL) (ob : OB) : Option R :=
  bnd (bi .lss (gS sl 8) (.i .i64 8)) fun v43 =>
  br v43 (
   bnd (bi .mul (.i .i64 4) (gS sl 8)) fun v44 =>
   bnd (xA 8 (gS sl 6) (gS sl 8)) fun v45 =>
   bnd (l1 ob v45) fun v46 =>
   bnd (bi .quo v46 (.i .u32 16777216)) fun v47 =>
   bnd (cv .u8 v47) fun v48 =>
   bnd (xA 32 (gS sl 7) v44) fun v49 =>
   bndO (st ob 1 v49 v48) ob fun _ ob =>
   bnd (bi .mul (.i .i64 4) (gS sl 8)) fun v50 =>
   bnd (bi .add v50 (.i .i64 1)) fun v51 =>
   bnd (xA 8 (gS sl 6) (gS sl 8)) fun v52 =>
   bnd (l1 ob v52) fun v53 =>
   bnd (bi .quo v53 (.i .u32 65536)) fun v54 =>
   bnd (bi .rem v54 (.i .u32 256)) fun v55 =>
   bnd (cv .u8 v55) fun v56 =>
   bnd (xA 32 (gS sl 7) v51) fun v57 =>
   bndO (st ob 1 v57 v56) ob fun _ ob =>
   bnd (bi .mul (.i .i64 4) (gS sl 8)) fun v58 =>
   bnd (bi .add v58 (.i .i64 2)) fun v59 =>
   bnd (xA 8 (gS sl 6) (gS sl 8)) fun v60 =>
   bnd (l1 ob v60) fun v61 =>
   bnd (bi .quo v61 (.i .u32 256)) fun v62 =>
   bnd (bi .rem v62 (.i .u32 256)) fun v63 =>
   bnd (cv .u8 v63) fun v64 =>
   bnd (xA 32 (gS sl 7) v59) fun v65 =>
   bndO (st ob 1 v65 v64) ob fun _ ob =>
   bnd (bi .mul (.i .i64 4) (gS sl 8)) fun v66 =>
   bnd (bi .add v66 (.i .i64 3)) fun v67 =>
   bnd (xA 8 (gS sl 6) (gS sl 8)) fun v68 =>
   bnd (l1 ob v68) fun v69 =>
   bnd (bi .rem v69 (.i .u32 256)) fun v70 =>
   bnd (cv .u8 v70) fun v71 =>
   bnd (xA 32 (gS sl 7) v67) fun v72 =>
   bndO (st ob 1 v72 v71) ob fun _ ob =>
   bnd (bi .add (gS sl 8) (.i .i64 1)) fun v73 =>
   bnd (head [] [2, 6, 7, 8] [80, 112, 120] [(2, (gS sl 2)), (6, (gS sl 6)), (7, (gS sl 7)), (8, v73)] ob) fun x => g x.1 x.2
  ) (
   bnd (lN ob 32 (gS sl 7)) fun v74 =>
   bndO (st ob 32 (gS sl 2) v74) ob fun _ ob =>
   bnd (lN ob 32 (gS sl 2)) fun v75 =>
   fin ob os.length [0] [v75]
  )
noncomputable def m25b1 (Φ : Sem') (N : Nat) (os : List Obj') (g : SL → OB → Option R) (sl : SL) (ob : OB) : Option R :=
  bnd (len (gS sl 4)) fun v36 =>
  bnd (bi .gtr v36 (.i .i64 0)) fun v37 =>
  br v37 (
   bnd (lN ob 8 (gS sl 6)) fun v38 =>
   bndO (slc ob (.slice 1) (gS sl 4) none (some (.i .i64 64)) none) ob fun v39 ob =>
   bndO (ca0 Φ ob 504 false 40 [v38, v39]) ob fun v40 ob =>
   bndO (st ob 8 (gS sl 6) v40) ob fun _ ob =>
   bndO (slc ob (.slice 1) (gS sl 4) (some (.i .i64 64)) none none) ob fun v41 ob =>
   bnd (head [] [2, 4, 6] [80, 112, 103] [(2, (gS sl 2)), (4, v41), (6, (gS sl 6))] ob) fun x => g x.1 x.2
  ) (
   bndO (al ob 120 [.blob 32 (List.replicate 32 (.i .u8 0))]) ob fun v42 ob =>
   bnd (head [] [2, 6, 7, 8] [80, 112, 120] [(2, (gS sl 2)), (6, (gS sl 6)), (7, v42), (8, (.i .i64 0))] ob) fun x => loopC (m25b0 Φ N os) N x.1 x.2
  )
noncomputable def m25b2 (Φ : Sem') (N : Nat) (os : List Obj') (g : SL → OB → Option R) (sl : SL) (ob : OB) : Option R :=
  bnd (len (gS sl 4)) fun v13 =>
  bnd (bi .rem v13 (.i .i64 64)) fun v14 =>
  bnd (bi .neq v14 (.i .i64 56)) fun v15 =>
  br v15 (
   bndO (bldS ob 264 1 [(.i .u8 0)]) ob fun v16 ob =>
   bndO (ap ob 272 1 (gS sl 4) v16) ob fun v17 ob =>
   bnd (head [.row 4 103 1] [1, 2, 4] [72, 80] [(1, (gS sl 1)), (2, (gS sl 2)), (4, v17)] ob) fun x => g x.1 x.2
  ) (
   bnd (fA 9 (gS sl 1)) fun v18 =>
   bnd (l1 ob v18) fun v19 =>
   bnd (bi .mul (.i .i64 8) v19) fun v20 =>
   bnd (bi .quo v20 (.i .i64 16777216)) fun v21 =>
   bnd (cv .u8 v21) fun v22 =>
   bnd (bi .quo v20 (.i .i64 65536)) fun v23 =>
   bnd (bi .rem v23 (.i .i64 256)) fun v24 =>
   bnd (cv .u8 v24) fun v25 =>
   bnd (bi .quo v20 (.i .i64 256)) fun v26 =>
   bnd (bi .rem v26 (.i .i64 256)) fun v27 =>
   bnd (cv .u8 v27) fun v28 =>
   bnd (bi .rem v20 (.i .i64 256)) fun v29 =>
   bnd (cv .u8 v29) fun v30 =>
   bndO (bldS ob 424 1 [(.i .u8 0), (.i .u8 0), (.i .u8 0), (.i .u8 0), v22, v25, v28, v30]) ob fun v31 ob =>
   bndO (ap ob 432 1 (gS sl 4) v31) ob fun v32 ob =>
   bnd (fA 0 (gS sl 1)) fun v33 =>
   bnd (lN ob 8 v33) fun v34 =>
   bndO (al ob 112 [.blob 8 (List.replicate 8 (.i .u32 0))]) ob fun v35 ob =>
   bndO (st ob 8 v35 v34) ob fun _ ob =>
   bnd (head [] [2, 4, 6] [80, 112, 103] [(2, (gS sl 2)), (4, v32), (6, v35)] ob) fun x => loopC (m25b1 Φ N os) N x.1 x.2
  )
noncomputable def m25 : Body := fun Φ N as os =>
  let a0 := gS (zipN 0 as) 0
  let ob := zipN 0 os
  bndO (bx ob 72 a0) ob fun v1 ob =>
  bndO (al ob 80 [.blob 32 (List.replicate 32 (.i .u8 0))]) ob fun v2 ob =>
  bnd (lN ob 10 v1) fun v3 =>
  bndO (ca0 Φ ob 144 false 17 [v3]) ob fun v4 ob =>
  bnd (uO .not v4) fun v5 =>
  br v5 (
   bnd (bld [.blob 32 (List.replicate 32 (.i .u8 0))] []) fun v6 =>
   bndO (st ob 32 v2 v6) ob fun _ ob =>
   bnd (lN ob 32 v2) fun v7 =>
   fin ob os.length [0] [v7]
  ) (
   bnd (fA 8 v1) fun v8 =>
   bnd (l1 ob v8) fun v9 =>
   bndO (ap ob 192 1 (.e true) v9) ob fun v10 ob =>
   bndO (bldS ob 208 1 [(.i .u8 128)]) ob fun v11 ob =>
   bndO (ap ob 216 1 v10 v11) ob fun v12 ob =>
   bnd (head [.row 4 103 1] [1, 2, 4] [72, 80] [(1, v1), (2, v2), (4, v12)] ob) fun x => loopC (m25b2 Φ N os) N x.1 x.2
  )

def ann25 : Nat → Option Hd
  | 6 => some ⟨[.row 4 103 1], [1, 2, 4], [72, 80]⟩ | 11 => some ⟨[], [2, 4, 6], [80, 112, 103]⟩ | 16 => some ⟨[], [2, 6, 7, 8], [80, 112, 120]⟩ | _ => none
noncomputable def m26 : Body := fun Φ N as os =>
  let a0 := gS (zipN 0 as) 0
  let ob := zipN 0 os
  bndO (al ob 80 [.blob 32 (List.replicate 32 (.i .u8 0))]) ob fun v1 ob =>
  bnd (len a0) fun v2 =>
  bnd (bi .gtr v2 (.i .i64 1048576)) fun v3 =>
  br v3 (
   bnd (bld [.blob 32 (List.replicate 32 (.i .u8 0))] []) fun v4 =>
   bndO (st ob 32 v1 v4) ob fun _ ob =>
   bnd (lN ob 32 v1) fun v5 =>
   fin ob os.length [0] [v5]
  ) (
   bndO (ca0 Φ ob 120 false 21 []) ob fun v6 ob =>
   bndO (ca0 Φ ob 136 false 19 [v6, a0]) ob fun v7 ob =>
   bndO (ca0 Φ ob 144 false 24 [v7]) ob fun v8 ob =>
   bndO (st ob 32 v1 v8) ob fun _ ob =>
   bnd (lN ob 32 v1) fun v9 =>
   fin ob os.length [0] [v9]
  )

def ann26 : Nat → Option Hd := fun _ => none
noncomputable def m27 : Body := fun Φ N as os =>
  let a0 := gS (zipN 0 as) 0
  let ob := zipN 0 os
  bndO (al ob 80 [.blob 32 (List.replicate 32 (.i .u8 0))]) ob fun v1 ob =>
  bnd (len a0) fun v2 =>
  bnd (bi .gtr v2 (.i .i64 1048576)) fun v3 =>
  br v3 (
   bnd (bld [.blob 32 (List.replicate 32 (.i .u8 0))] []) fun v4 =>
   bndO (st ob 32 v1 v4) ob fun _ ob =>
   bnd (lN ob 32 v1) fun v5 =>
   fin ob os.length [0] [v5]
  ) (
   bndO (ca0 Φ ob 120 false 22 []) ob fun v6 ob =>
   bndO (ca0 Φ ob 136 false 20 [v6, a0]) ob fun v7 ob =>
   bndO (ca0 Φ ob 144 false 25 [v7]) ob fun v8 ob =>
   bndO (st ob 32 v1 v8) ob fun _ ob =>
   bnd (lN ob 32 v1) fun v9 =>
   fin ob os.length [0] [v9]
  )

def ann27 : Nat → Option Hd := fun _ => none
noncomputable def m28 : Body := fun Φ N as os =>
  let ob := zipN 0 os
  bndO (bldS ob 80 1 [(.i .u8 74), (.i .u8 101), (.i .u8 102), (.i .u8 101)]) ob fun v1 ob =>
  bndO (mkS ob v1) ob fun v2 ob =>
  bndO (bldS ob 96 1 [(.i .u8 119), (.i .u8 104), (.i .u8 97), (.i .u8 116), (.i .u8 32), (.i .u8 100), (.i .u8 111), (.i .u8 32), (.i .u8 121), (.i .u8 97), (.i .u8 32), (.i .u8 119), (.i .u8 97), (.i .u8 110), (.i .u8 116), (.i .u8 32), (.i .u8 102), (.i .u8 111), (.i .u8 114), (.i .u8 32), (.i .u8 110), (.i .u8 111), (.i .u8 116), (.i .u8 104), (.i .u8 105), (.i .u8 110), (.i .u8 103), (.i .u8 63)]) ob fun v3 ob =>
  bndO (mkS ob v3) ob fun v4 ob =>
  bndO (ca0 Φ ob 112 false 30 [v2, v4]) ob fun v5 ob =>
  bndO (al ob 72 [.blob 32 (List.replicate 32 (.i .u8 0))]) ob fun v6 ob =>
  bndO (st ob 32 v6 v5) ob fun _ ob =>
  bnd (xA 32 v6 (.i .i64 0)) fun v7 =>
  bnd (l1 ob v7) fun v8 =>
  bnd (bi .eql v8 (.i .u8 91)) fun v9 =>
  bnd (gd v9 true (xA 32 v6 (.i .i64 1))) fun v10 =>
  bnd (gd v9 true (l1 ob v10)) fun v11 =>
  bnd (gd v9 true (bi .eql v11 (.i .u8 220))) fun v12 =>
  bnd (pk v9 v12 (.b false)) fun v13 =>
  bnd (gd v13 true (xA 32 v6 (.i .i64 2))) fun v14 =>
  bnd (gd v13 true (l1 ob v14)) fun v15 =>
  bnd (gd v13 true (bi .eql v15 (.i .u8 193))) fun v16 =>
  bnd (pk v13 v16 (.b false)) fun v17 =>
  bnd (gd v17 true (xA 32 v6 (.i .i64 3))) fun v18 =>
  bnd (gd v17 true (l1 ob v18)) fun v19 =>
  bnd (gd v17 true (bi .eql v19 (.i .u8 70))) fun v20 =>
  bnd (pk v17 v20 (.b false)) fun v21 =>
  bndO (gdO v21 true (slc ob (.arr 32) v6 none none none)) ob fun v22 ob =>
  bndO (gdO v21 true (slc ob (.arr 32) v6 none none none)) ob fun v23 ob =>
  bndO (gdO v21 true (ca0 Φ ob 288 false 32 [v22, v23])) ob fun v24 ob =>
  bnd (pk v21 v24 (.b false)) fun v25 =>
  fin ob os.length [0] [v25]

def ann28 : Nat → Option Hd := fun _ => none
noncomputable def m29b0 (Φ : Sem') (N : Nat) (os : List Obj') (g : SL → OB → Option R) (sl : SL) (ob : OB) : Option R :=
  bnd (len (gS sl 5)) fun v3 =>
  bnd (bi .lss (gS sl 6) v3) fun v4 =>
  br v4 (
   bnd (xS ob 1 (gS sl 5) (gS sl 6)) fun v5 =>
   bnd (l1 ob v5) fun v6 =>
   bnd (bi .xor v6 (gS sl 1)) fun v7 =>
   bnd (xS ob 1 (gS sl 5) (gS sl 6)) fun v8 =>
   bndO (st ob 1 v8 v7) ob fun _ ob =>
   bnd (bi .add (gS sl 6) (.i .i64 1)) fun v9 =>
   bnd (head [] [1, 5, 6] [136] [(1, (gS sl 1)), (5, (gS sl 5)), (6, v9)] ob) fun x => g x.1 x.2
  ) (
   fin ob os.length [1] [(gS sl 5)]
  )
noncomputable def m29 : Body := fun Φ N as os =>
  let a0 := gS (zipN 0 as) 0
  let a1 := gS (zipN 0 as) 1
  let ob := zipN 0 os
  bndO (ca0 Φ ob 128 false 31 [a0]) ob fun v1 ob =>
  bndO (ap ob 136 1 (.e true) v1) ob fun v2 ob =>
  bnd (head [] [1, 5, 6] [136] [(1, a1), (5, v2), (6, (.i .i64 0))] ob) fun x => loopC (m29b0 Φ N os) N x.1 x.2

def ann29 : Nat → Option Hd
  | 3 => some ⟨[], [1, 5, 6], [136]⟩ | _ => none
noncomputable def m30 : Body := fun Φ N as os =>
  let a0 := gS (zipN 0 as) 0
  let a1 := gS (zipN 0 as) 1
  let ob := zipN 0 os
  bndO (al ob 96 [.blob 32 (List.replicate 32 (.i .u8 0))]) ob fun v1 ob =>
  bndO (ca0 Φ ob 136 false 31 [a0]) ob fun v2 ob =>
  bndO (al ob 104 [.e true]) ob fun v3 ob =>
  bndO (st ob 1 v3 v2) ob fun _ ob =>
  bndO (cav Φ ob 160 false (.fn 41 [] [v3]) [(.i .u8 54)]) ob fun v4 ob =>
  bndO (ca0 Φ ob 176 false 19 [v4, a1]) ob fun v5 ob =>
  bndO (ca0 Φ ob 184 false 24 [v5]) ob fun v6 ob =>
  bndO (al ob 120 [.blob 32 (List.replicate 32 (.i .u8 0))]) ob fun v7 ob =>
  bndO (st ob 32 v7 v6) ob fun _ ob =>
  bndO (cav Φ ob 200 false (.fn 41 [] [v3]) [(.i .u8 92)]) ob fun v8 ob =>
  bndO (slc ob (.arr 32) v7 none none none) ob fun v9 ob =>
  bndO (ca0 Φ ob 216 false 19 [v8, v9]) ob fun v10 ob =>
  bndO (ca0 Φ ob 224 false 24 [v10]) ob fun v11 ob =>
  bndO (st ob 32 v1 v11) ob fun _ ob =>
  bnd (lN ob 32 v1) fun v12 =>
  fin ob os.length [0] [v12]

def ann30 : Nat → Option Hd := fun _ => none
noncomputable def m31 : Body := fun Φ N as os =>
  let a0 := gS (zipN 0 as) 0
  let ob := zipN 0 os
  bndO (mks ob 104 [.i .u8 0] (.i .i64 64)) ob fun v1 ob =>
  bnd (len a0) fun v2 =>
  bnd (bi .gtr v2 (.i .i64 64)) fun v3 =>
  br v3 (
   bndO (ca0 Φ ob 144 false 26 [a0]) ob fun v4 ob =>
   bndO (al ob 96 [.blob 32 (List.replicate 32 (.i .u8 0))]) ob fun v5 ob =>
   bndO (st ob 32 v5 v4) ob fun _ ob =>
   bndO (slc ob (.arr 32) v5 none none none) ob fun v6 ob =>
   bndO (cpy ob 1 v1 v6) ob fun v7 ob =>
   fin ob os.length [1] [v1]
  ) (
   bndO (cpy ob 1 v1 a0) ob fun v8 ob =>
   fin ob os.length [1] [v1]
  )

def ann31 : Nat → Option Hd := fun _ => none
noncomputable def m32b0 (Φ : Sem') (N : Nat) (os : List Obj') (g : SL → OB → Option R) (sl : SL) (ob : OB) : Option R :=
  bnd (bi .lss (gS sl 14) (gS sl 13)) fun v5 =>
  br v5 (
   bnd (xS ob 1 (gS sl 0) (gS sl 14)) fun v6 =>
   bnd (l1 ob v6) fun v7 =>
   bnd (xS ob 1 (gS sl 1) (gS sl 14)) fun v8 =>
   bnd (l1 ob v8) fun v9 =>
   bnd (bi .xor v7 v9) fun v10 =>
   bnd (bi .or (gS sl 5) v10) fun v11 =>
   bnd (bi .add (gS sl 14) (.i .i64 1)) fun v12 =>
   bnd (head [] [0, 1, 5, 13, 14] [] [(0, (gS sl 0)), (1, (gS sl 1)), (5, v11), (13, (gS sl 13)), (14, v12)] ob) fun x => g x.1 x.2
  ) (
   bnd (bi .eql (gS sl 5) (.i .u8 0)) fun v13 =>
   fin ob os.length [0] [v13]
  )
noncomputable def m32 : Body := fun Φ N as os =>
  let a0 := gS (zipN 0 as) 0
  let a1 := gS (zipN 0 as) 1
  let ob := zipN 0 os
  bnd (len a0) fun v1 =>
  bnd (len a1) fun v2 =>
  bnd (bi .neq v1 v2) fun v3 =>
  br v3 (
   fin ob os.length [0] [(.b false)]
  ) (
   bnd (len a0) fun v4 =>
   bnd (head [] [0, 1, 5, 13, 14] [] [(0, a0), (1, a1), (5, (.i .u8 0)), (13, v4), (14, (.i .i64 0))] ob) fun x => loopC (m32b0 Φ N os) N x.1 x.2
  )

def ann32 : Nat → Option Hd
  | 5 => some ⟨[], [0, 1, 5, 13, 14], []⟩ | _ => none
noncomputable def m33 : Body := fun Φ N as os =>
  let a0 := gS (zipN 0 as) 0
  let a1 := gS (zipN 0 as) 1
  let a2 := gS (zipN 0 as) 2
  let ob := zipN 0 os
  bndO (al ob 112 [.blob 32 (List.replicate 32 (.i .u8 0))]) ob fun v1 ob =>
  bnd (bi .eql a1 (.s [])) fun v2 =>
  bnd (gd v2 false (some a1)) fun v3 =>
  bnd (gd v2 false (lenS v3)) fun v4 =>
  bnd (gd v2 false (bi .gtr v4 (.i .i64 32))) fun v5 =>
  bnd (pk v2 (.b true) v5) fun v6 =>
  br v6 (
   bnd (bld [.blob 32 (List.replicate 32 (.i .u8 0))] []) fun v7 =>
   bndO (st ob 32 v1 v7) ob fun _ ob =>
   bnd (lN ob 32 v1) fun v8 =>
   fin ob os.length [0, 0] [v8, (.b false)]
  ) (
   bnd (lenS a1) fun v9 =>
   bnd (cv .u8 v9) fun v10 =>
   bndO (bldS ob 224 1 [v10]) ob fun v11 ob =>
   bndO (s2b ob 240 a1) ob fun v12 ob =>
   bndO (bldS ob 256 1 [v11, v12, a2]) ob fun v13 ob =>
   bndO (ca0 Φ ob 264 true 38 [v13]) ob fun v14 ob =>
   bndO (ca0 Φ ob 272 false 30 [a0, v14]) ob fun v15 ob =>
   bndO (st ob 32 v1 v15) ob fun _ ob =>
   bnd (lN ob 32 v1) fun v16 =>
   fin ob os.length [0, 0] [v16, (.b true)]
  )

def ann33 : Nat → Option Hd := fun _ => none
noncomputable def m34 : Body := fun Φ N as os =>
  let a0 := gS (zipN 0 as) 0
  let a1 := gS (zipN 0 as) 1
  let a2 := gS (zipN 0 as) 2
  let ob := zipN 0 os
  bndO (al ob 112 [.blob 32 (List.replicate 32 (.i .u8 0))]) ob fun v1 ob =>
  bnd (lenS a1) fun v2 =>
  bnd (bi .lss v2 (.i .i64 1)) fun v3 =>
  bnd (gd v3 false (some a1)) fun v4 =>
  bnd (gd v3 false (lenS v4)) fun v5 =>
  bnd (gd v3 false (bi .gtr v5 (.i .i64 32))) fun v6 =>
  bnd (pk v3 (.b true) v6) fun v7 =>
  br v7 (
   bnd (bld [.blob 32 (List.replicate 32 (.i .u8 0))] []) fun v8 =>
   bndO (st ob 32 v1 v8) ob fun _ ob =>
   bnd (lN ob 32 v1) fun v9 =>
   fin ob os.length [0, 0] [v9, (.b false)]
  ) (
   bnd (lenS a1) fun v10 =>
   bnd (cv .u8 v10) fun v11 =>
   bndO (bldS ob 232 1 [v11]) ob fun v12 ob =>
   bndO (ap ob 248 1 v12 a1) ob fun v13 ob =>
   bndO (ap ob 272 1 v13 a2) ob fun v14 ob =>
   bndO (ca0 Φ ob 296 false 36 [a0, v14]) ob fun v15 ob =>
   bndO (st ob 32 v1 v15) ob fun _ ob =>
   bnd (lN ob 32 v1) fun v16 =>
   fin ob os.length [0, 0] [v16, (.b true)]
  )

def ann34 : Nat → Option Hd := fun _ => none
noncomputable def m35b0 (Φ : Sem') (N : Nat) (os : List Obj') (g : SL → OB → Option R) (sl : SL) (ob : OB) : Option R :=
  bnd (len (gS sl 3)) fun v8 =>
  bnd (bi .lss v8 (.i .i64 64)) fun v9 =>
  br v9 (
   bndO (bldS ob 208 1 [(.i .u8 0)]) ob fun v10 ob =>
   bndO (ap ob 216 1 (gS sl 3) v10) ob fun v11 ob =>
   bnd (head [.row 3 95 1] [3] [] [(3, v11)] ob) fun x => g x.1 x.2
  ) (
   fin ob os.length [1] [(gS sl 3)]
  )
noncomputable def m35b1 (Φ : Sem') (N : Nat) (os : List Obj') (g : SL → OB → Option R) (sl : SL) (ob : OB) : Option R :=
  bnd (len (gS sl 3)) fun v12 =>
  bnd (bi .lss v12 (.i .i64 64)) fun v13 =>
  br v13 (
   bndO (bldS ob 208 1 [(.i .u8 0)]) ob fun v14 ob =>
   bndO (ap ob 216 1 (gS sl 3) v14) ob fun v15 ob =>
   bnd (head [.row 3 95 1] [3] [] [(3, v15)] ob) fun x => g x.1 x.2
  ) (
   fin ob os.length [1] [(gS sl 3)]
  )
noncomputable def m35 : Body := fun Φ N as os =>
  let a0 := gS (zipN 0 as) 0
  let ob := zipN 0 os
  bndO (ap ob 112 1 (.e true) a0) ob fun v1 ob =>
  bnd (len a0) fun v2 =>
  bnd (bi .gtr v2 (.i .i64 64)) fun v3 =>
  br v3 (
   bndO (ca0 Φ ob 152 false 27 [a0]) ob fun v4 ob =>
   bndO (al ob 96 [.blob 32 (List.replicate 32 (.i .u8 0))]) ob fun v5 ob =>
   bndO (st ob 32 v5 v4) ob fun _ ob =>
   bndO (slc ob (.arr 32) v5 none none none) ob fun v6 ob =>
   bndO (ap ob 168 1 (.e true) v6) ob fun v7 ob =>
   bnd (head [.row 3 95 1] [3] [] [(3, v7)] ob) fun x => loopC (m35b0 Φ N os) N x.1 x.2
  ) (
   bnd (head [.row 3 95 1] [3] [] [(3, v1)] ob) fun x => loopC (m35b1 Φ N os) N x.1 x.2
  )

def ann35 : Nat → Option Hd
  | 5 => some ⟨[.row 3 95 1], [3], []⟩ | _ => none
noncomputable def m36 : Body := fun Φ N as os =>
  let a0 := gS (zipN 0 as) 0
  let a1 := gS (zipN 0 as) 1
  let ob := zipN 0 os
  bndO (al ob 96 [.blob 32 (List.replicate 32 (.i .u8 0))]) ob fun v1 ob =>
  bndO (ca0 Φ ob 120 false 42 [a0, (.i .u8 54)]) ob fun v2 ob =>
  bndO (ap ob 136 1 v2 a1) ob fun v3 ob =>
  bndO (ca0 Φ ob 144 false 27 [v3]) ob fun v4 ob =>
  bndO (al ob 104 [.blob 32 (List.replicate 32 (.i .u8 0))]) ob fun v5 ob =>
  bndO (st ob 32 v5 v4) ob fun _ ob =>
  bndO (ca0 Φ ob 160 false 42 [a0, (.i .u8 92)]) ob fun v6 ob =>
  bndO (slc ob (.arr 32) v5 none none none) ob fun v7 ob =>
  bndO (ap ob 176 1 v6 v7) ob fun v8 ob =>
  bndO (ca0 Φ ob 184 false 27 [v8]) ob fun v9 ob =>
  bndO (st ob 32 v1 v9) ob fun _ ob =>
  bnd (lN ob 32 v1) fun v10 =>
  fin ob os.length [0] [v10]

def ann36 : Nat → Option Hd := fun _ => none
noncomputable def m37b0 (Φ : Sem') (N : Nat) (os : List Obj') (g : SL → OB → Option R) (sl : SL) (ob : OB) : Option R :=
  bnd (len (gS sl 1)) fun v3 =>
  bnd (bi .geq v3 (.i .i64 64)) fun v4 =>
  br v4 (
   bnd (lN ob 8 (gS sl 2)) fun v5 =>
   bndO (slc ob (.slice 1) (gS sl 1) none (some (.i .i64 64)) none) ob fun v6 ob =>
   bndO (ca0 Φ ob 160 false 43 [v5, v6]) ob fun v7 ob =>
   bndO (st ob 8 (gS sl 2) v7) ob fun _ ob =>
   bndO (slc ob (.slice 1) (gS sl 1) (some (.i .i64 64)) none none) ob fun v8 ob =>
   bnd (head [] [1, 2, 4] [80, 96] [(1, v8), (2, (gS sl 2)), (4, (gS sl 4))] ob) fun x => g x.1 x.2
  ) (
   bnd (lN ob 8 (gS sl 2)) fun v9 =>
   bndO (st ob 8 (gS sl 4) v9) ob fun _ ob =>
   bnd (lN ob 8 (gS sl 4)) fun v10 =>
   fin ob os.length [0, 1] [v10, (gS sl 1)]
  )
noncomputable def m37 : Body := fun Φ N as os =>
  let a0 := gS (zipN 0 as) 0
  let a1 := gS (zipN 0 as) 1
  let ob := zipN 0 os
  bndO (bx ob 80 a0) ob fun v1 ob =>
  bndO (al ob 96 [.blob 8 (List.replicate 8 (.i .u32 0))]) ob fun v2 ob =>
  bnd (head [] [1, 2, 4] [80, 96] [(1, a1), (2, v1), (4, v2)] ob) fun x => loopC (m37b0 Φ N os) N x.1 x.2

def ann37 : Nat → Option Hd
  | 1 => some ⟨[], [1, 2, 4], [80, 96]⟩ | _ => none
noncomputable def m38b0 (Φ : Sem') (N : Nat) (os : List Obj') (g : SL → OB → Option R) (sl : SL) (ob : OB) : Option R :=
  bnd (bi .lss (gS sl 27) (gS sl 26)) fun v11 =>
  br v11 (
   bnd (xS ob 1 (gS sl 25) (gS sl 27)) fun v12 =>
   bnd (l1 ob v12) fun v13 =>
   bndO (ap ob 328 1 (gS sl 6) v13) ob fun v14 ob =>
   bnd (bi .add (gS sl 27) (.i .i64 1)) fun v15 =>
   bnd (head [.row 6 119 1] [6, 25, 26, 27] [] [(6, v14), (25, (gS sl 25)), (26, (gS sl 26)), (27, v15)] ob) fun x => g x.1 x.2
  ) (
   fin ob os.length [1] [(gS sl 6)]
  )
noncomputable def m38b1 (Φ : Sem') (N : Nat) (os : List Obj') (g : SL → OB → Option R) (sl : SL) (ob : OB) : Option R :=
  bnd (bi .lss (gS sl 11) (gS sl 10)) fun v2 =>
  br v2 (
   bnd (xS ob 1 (gS sl 9) (gS sl 11)) fun v3 =>
   bnd (l1 ob v3) fun v4 =>
   bnd (len v4) fun v5 =>
   bnd (bi .add (gS sl 3) v5) fun v6 =>
   bnd (bi .lss v6 (.i .i64 0)) fun v7 =>
   br v7 (
    none
   ) (
    bnd (bi .add (gS sl 11) (.i .i64 1)) fun v8 =>
    bnd (head [] [0, 3, 9, 10, 11] [] [(0, (gS sl 0)), (3, v6), (9, (gS sl 9)), (10, (gS sl 10)), (11, v8)] ob) fun x => g x.1 x.2
   )
  ) (
   bndO (ca Φ ob 256 true 44 [(.e true), (gS sl 3)]) ob fun v9 ob =>
   bnd (len (gS sl 0)) fun v10 =>
   bnd (head [.row 6 119 1] [6, 25, 26, 27] [] [(6, v9), (25, (gS sl 0)), (26, v10), (27, (.i .i64 0))] ob) fun x => loopC (m38b0 Φ N os) N x.1 x.2
  )
noncomputable def m38 : Body := fun Φ N as os =>
  let a0 := gS (zipN 0 as) 0
  let ob := zipN 0 os
  bnd (len a0) fun v1 =>
  bnd (head [] [0, 3, 9, 10, 11] [] [(0, a0), (3, (.i .i64 0)), (9, a0), (10, v1), (11, (.i .i64 0))] ob) fun x => loopC (m38b1 Φ N os) N x.1 x.2

def ann38 : Nat → Option Hd
  | 3 => some ⟨[], [0, 3, 9, 10, 11], []⟩ | 11 => some ⟨[.row 6 119 1], [6, 25, 26, 27], []⟩ | _ => none
noncomputable def m39 : Body := fun Φ N as os =>
  let a0 := gS (zipN 0 as) 0
  let ob := zipN 0 os
  bnd (eNs false ob a0) fun v1 =>
  br v1 (
   fin ob os.length [1] [(.e true)]
  ) (
   bndO (bldS ob 104 1 []) ob fun v2 ob =>
   bndO (ap ob 120 1 v2 a0) ob fun v3 ob =>
   fin ob os.length [1] [v3]
  )

def ann39 : Nat → Option Hd := fun _ => none
noncomputable def m40b0 (Φ : Sem') (N : Nat) (os : List Obj') (g : SL → OB → Option R) (sl : SL) (ob : OB) : Option R :=
  bnd (bi .lss (gS sl 14) (.i .i64 64)) fun v20 =>
  br v20 (
   bndO (ca0 Φ ob 392 false 46 [(gS sl 10), (.i .u32 6)]) ob fun v21 ob =>
   bndO (ca0 Φ ob 408 false 46 [(gS sl 10), (.i .u32 11)]) ob fun v22 ob =>
   bnd (bi .xor v21 v22) fun v23 =>
   bndO (ca0 Φ ob 432 false 46 [(gS sl 10), (.i .u32 25)]) ob fun v24 ob =>
   bnd (bi .xor v23 v24) fun v25 =>
   bnd (bi .add (gS sl 13) v25) fun v26 =>
   bnd (bi .and (gS sl 10) (gS sl 11)) fun v27 =>
   bnd (uO .xor (gS sl 10)) fun v28 =>
   bnd (bi .and v28 (gS sl 12)) fun v29 =>
   bnd (bi .xor v27 v29) fun v30 =>
   bnd (bi .add v26 v30) fun v31 =>
   bndO (ca0 Φ ob 536 false 47 [(gS sl 14)]) ob fun v32 ob =>
   bnd (bi .add v31 v32) fun v33 =>
   bnd (xS ob 1 (gS sl 5) (gS sl 14)) fun v34 =>
   bnd (l1 ob v34) fun v35 =>
   bnd (bi .add v33 v35) fun v36 =>
   bndO (ca0 Φ ob 600 false 46 [(gS sl 6), (.i .u32 2)]) ob fun v37 ob =>
   bndO (ca0 Φ ob 616 false 46 [(gS sl 6), (.i .u32 13)]) ob fun v38 ob =>
   bnd (bi .xor v37 v38) fun v39 =>
   bndO (ca0 Φ ob 640 false 46 [(gS sl 6), (.i .u32 22)]) ob fun v40 ob =>
   bnd (bi .xor v39 v40) fun v41 =>
   bnd (bi .and (gS sl 6) (gS sl 7)) fun v42 =>
   bnd (bi .and (gS sl 6) (gS sl 8)) fun v43 =>
   bnd (bi .xor v42 v43) fun v44 =>
   bnd (bi .and (gS sl 7) (gS sl 8)) fun v45 =>
   bnd (bi .xor v44 v45) fun v46 =>
   bnd (bi .add v41 v46) fun v47 =>
   bnd (bi .add (gS sl 9) v36) fun v48 =>
   bnd (bi .add v36 v47) fun v49 =>
   bnd (bi .add (gS sl 14) (.i .i64 1)) fun v50 =>
   bnd (head [] [2, 4, 5, 6, 7, 8, 9, 10, 11, 12, 13, 14] [80, 96, 208] [(2, (gS sl 2)), (4, (gS sl 4)), (5, (gS sl 5)), (6, v49), (7, (gS sl 6)), (8, (gS sl 7)), (9, (gS sl 8)), (10, v48), (11, (gS sl 10)), (12, (gS sl 11)), (13, (gS sl 12)), (14, v50)] ob) fun x => g x.1 x.2
  ) (
   bnd (xA 8 (gS sl 2) (.i .i64 0)) fun v51 =>
   bnd (l1 ob v51) fun v52 =>
   bnd (bi .add v52 (gS sl 6)) fun v53 =>
   bnd (xA 8 (gS sl 2) (.i .i64 1)) fun v54 =>
   bnd (l1 ob v54) fun v55 =>
   bnd (bi .add v55 (gS sl 7)) fun v56 =>
   bnd (xA 8 (gS sl 2) (.i .i64 2)) fun v57 =>
   bnd (l1 ob v57) fun v58 =>
   bnd (bi .add v58 (gS sl 8)) fun v59 =>
   bnd (xA 8 (gS sl 2) (.i .i64 3)) fun v60 =>
   bnd (l1 ob v60) fun v61 =>
   bnd (bi .add v61 (gS sl 9)) fun v62 =>
   bnd (xA 8 (gS sl 2) (.i .i64 4)) fun v63 =>
   bnd (l1 ob v63) fun v64 =>
   bnd (bi .add v64 (gS sl 10)) fun v65 =>
   bnd (xA 8 (gS sl 2) (.i .i64 5)) fun v66 =>
   bnd (l1 ob v66) fun v67 =>
   bnd (bi .add v67 (gS sl 11)) fun v68 =>
   bnd (xA 8 (gS sl 2) (.i .i64 6)) fun v69 =>
   bnd (l1 ob v69) fun v70 =>
   bnd (bi .add v70 (gS sl 12)) fun v71 =>
   bnd (xA 8 (gS sl 2) (.i .i64 7)) fun v72 =>
   bnd (l1 ob v72) fun v73 =>
   bnd (bi .add v73 (gS sl 13)) fun v74 =>
   bnd (bld [.blob 8 (List.replicate 8 (.i .u32 0))] [(0, 1, v53), (1, 1, v56), (2, 1, v59), (3, 1, v62), (4, 1, v65), (5, 1, v68), (6, 1, v71), (7, 1, v74)]) fun v75 =>
   bndO (st ob 8 (gS sl 4) v75) ob fun _ ob =>
   bnd (lN ob 8 (gS sl 4)) fun v76 =>
   fin ob os.length [0] [v76]
  )
noncomputable def m40 : Body := fun Φ N as os =>
  let a0 := gS (zipN 0 as) 0
  let a1 := gS (zipN 0 as) 1
  let ob := zipN 0 os
  bndO (bx ob 80 a0) ob fun v1 ob =>
  bndO (al ob 96 [.blob 8 (List.replicate 8 (.i .u32 0))]) ob fun v2 ob =>
  bndO (ca0 Φ ob 208 false 45 [a1]) ob fun v3 ob =>
  bnd (xA 8 v1 (.i .i64 0)) fun v4 =>
  bnd (l1 ob v4) fun v5 =>
  bnd (xA 8 v1 (.i .i64 1)) fun v6 =>
  bnd (l1 ob v6) fun v7 =>
  bnd (xA 8 v1 (.i .i64 2)) fun v8 =>
  bnd (l1 ob v8) fun v9 =>
  bnd (xA 8 v1 (.i .i64 3)) fun v10 =>
  bnd (l1 ob v10) fun v11 =>
  bnd (xA 8 v1 (.i .i64 4)) fun v12 =>
  bnd (l1 ob v12) fun v13 =>
  bnd (xA 8 v1 (.i .i64 5)) fun v14 =>
  bnd (l1 ob v14) fun v15 =>
  bnd (xA 8 v1 (.i .i64 6)) fun v16 =>
  bnd (l1 ob v16) fun v17 =>
  bnd (xA 8 v1 (.i .i64 7)) fun v18 =>
  bnd (l1 ob v18) fun v19 =>
  bnd (head [] [2, 4, 5, 6, 7, 8, 9, 10, 11, 12, 13, 14] [80, 96, 208] [(2, v1), (4, v2), (5, v3), (6, v5), (7, v7), (8, v9), (9, v11), (10, v13), (11, v15), (12, v17), (13, v19), (14, (.i .i64 0))] ob) fun x => loopC (m40b0 Φ N os) N x.1 x.2

def ann40 : Nat → Option Hd
  | 11 => some ⟨[], [2, 4, 5, 6, 7, 8, 9, 10, 11, 12, 13, 14], [80, 96, 208]⟩ | _ => none
noncomputable def m41b0 (Φ : Sem') (N : Nat) (os : List Obj') (g : SL → OB → Option R) (sl : SL) (ob : OB) : Option R :=
  bnd (bi .lss (gS sl 12) (gS sl 11)) fun v7 =>
  br v7 (
   bnd (xS ob 1 (gS sl 10) (gS sl 12)) fun v8 =>
   bnd (l1 ob v8) fun v9 =>
   bnd (bi .xor v9 (gS sl 0)) fun v10 =>
   bnd (xS ob 1 (gS sl 4) (gS sl 12)) fun v11 =>
   bndO (st ob 1 v11 v10) ob fun _ ob =>
   bnd (bi .add (gS sl 12) (.i .i64 1)) fun v12 =>
   bnd (head [.row 4 103 1] [0, 3, 4, 10, 11, 12] [88, 0, 1] [(0, (gS sl 0)), (3, (gS sl 3)), (4, (gS sl 4)), (10, (gS sl 10)), (11, (gS sl 11)), (12, v12)] ob) fun x => g x.1 x.2
  ) (
   bndO (ca0 Φ ob 256 false 21 []) ob fun v13 ob =>
   bndO (ca0 Φ ob 272 false 19 [v13, (gS sl 4)]) ob fun v14 ob =>
   bndO (st ob 10 (gS sl 3) v14) ob fun _ ob =>
   bnd (lN ob 10 (gS sl 3)) fun v15 =>
   fin ob os.length [0] [v15]
  )
noncomputable def m41 : Body := fun Φ N as os =>
  let a0 := gS (zipN 0 as) 0
  let a1 := gS (zipN 0 as) 1
  let ob := zipN 0 os
  bndO (al ob 88 [.blob 8 (List.replicate 8 (.i .u32 0)), .e true, .i .i64 0]) ob fun v1 ob =>
  bnd (l1 ob a1) fun v2 =>
  bnd (len v2) fun v3 =>
  bndO (mks ob 136 [.i .u8 0] v3) ob fun v4 ob =>
  bnd (l1 ob a1) fun v5 =>
  bnd (len v5) fun v6 =>
  bnd (head [.row 4 103 1] [0, 3, 4, 10, 11, 12] [88, 0, 1] [(0, a0), (3, v1), (4, v4), (10, v5), (11, v6), (12, (.i .i64 0))] ob) fun x => loopC (m41b0 Φ N os) N x.1 x.2

def ann41 : Nat → Option Hd
  | 3 => some ⟨[.row 4 103 1], [0, 3, 4, 10, 11, 12], [88, 0, 1]⟩ | _ => none
noncomputable def m42b0 (Φ : Sem') (N : Nat) (os : List Obj') (g : SL → OB → Option R) (sl : SL) (ob : OB) : Option R :=
  bnd (len (gS sl 5)) fun v2 =>
  bnd (bi .lss (gS sl 6) v2) fun v3 =>
  br v3 (
   bnd (xS ob 1 (gS sl 5) (gS sl 6)) fun v4 =>
   bnd (l1 ob v4) fun v5 =>
   bnd (bi .xor v5 (gS sl 1)) fun v6 =>
   bnd (xS ob 1 (gS sl 5) (gS sl 6)) fun v7 =>
   bndO (st ob 1 v7 v6) ob fun _ ob =>
   bnd (bi .add (gS sl 6) (.i .i64 1)) fun v8 =>
   bnd (head [] [1, 5, 6] [128] [(1, (gS sl 1)), (5, (gS sl 5)), (6, v8)] ob) fun x => g x.1 x.2
  ) (
   fin ob os.length [1] [(gS sl 5)]
  )
noncomputable def m42 : Body := fun Φ N as os =>
  let a0 := gS (zipN 0 as) 0
  let a1 := gS (zipN 0 as) 1
  let ob := zipN 0 os
  bndO (ca0 Φ ob 128 false 35 [a0]) ob fun v1 ob =>
  bnd (head [] [1, 5, 6] [128] [(1, a1), (5, v1), (6, (.i .i64 0))] ob) fun x => loopC (m42b0 Φ N os) N x.1 x.2

def ann42 : Nat → Option Hd
  | 3 => some ⟨[], [1, 5, 6], [128]⟩ | _ => none
noncomputable def m43b0 (Φ : Sem') (N : Nat) (os : List Obj') (g : SL → OB → Option R) (sl : SL) (ob : OB) : Option R :=
  bnd (bi .lss (gS sl 98) (.i .i64 8)) fun v72 =>
  br v72 (
   bnd (xA 8 (gS sl 6) (gS sl 98)) fun v73 =>
   bnd (l1 ob v73) fun v74 =>
   bnd (xA 8 (gS sl 2) (gS sl 98)) fun v75 =>
   bnd (l1 ob v75) fun v76 =>
   bnd (bi .add v74 v76) fun v77 =>
   bnd (xA 8 (gS sl 6) (gS sl 98)) fun v78 =>
   bndO (st ob 1 v78 v77) ob fun _ ob =>
   bnd (bi .add (gS sl 98) (.i .i64 1)) fun v79 =>
   bnd (head [] [2, 4, 6, 98] [80, 96, 112] [(2, (gS sl 2)), (4, (gS sl 4)), (6, (gS sl 6)), (98, v79)] ob) fun x => g x.1 x.2
  ) (
   bnd (lN ob 8 (gS sl 6)) fun v80 =>
   bndO (st ob 8 (gS sl 4) v80) ob fun _ ob =>
   bnd (lN ob 8 (gS sl 4)) fun v81 =>
   fin ob os.length [0] [v81]
  )
noncomputable def m43b1 (Φ : Sem') (N : Nat) (os : List Obj') (g : SL → OB → Option R) (sl : SL) (ob : OB) : Option R :=
  bnd (bi .lss (gS sl 16) (.i .i64 64)) fun v7 =>
  br v7 (
   bnd (xA 8 (gS sl 6) (.i .i64 0)) fun v8 =>
   bnd (l1 ob v8) fun v9 =>
   bnd (xA 8 (gS sl 6) (.i .i64 4)) fun v10 =>
   bnd (l1 ob v10) fun v11 =>
   bnd (xA 8 (gS sl 6) (.i .i64 7)) fun v12 =>
   bnd (l1 ob v12) fun v13 =>
   bndO (ca0 Φ ob 272 false 49 [v11, (.i .i64 6)]) ob fun v14 ob =>
   bndO (ca0 Φ ob 288 false 49 [v11, (.i .i64 11)]) ob fun v15 ob =>
   bnd (bi .xor v14 v15) fun v16 =>
   bndO (ca0 Φ ob 312 false 49 [v11, (.i .i64 25)]) ob fun v17 ob =>
   bnd (bi .xor v16 v17) fun v18 =>
   bnd (bi .add v13 v18) fun v19 =>
   bnd (xA 8 (gS sl 6) (.i .i64 5)) fun v20 =>
   bnd (l1 ob v20) fun v21 =>
   bnd (bi .and v11 v21) fun v22 =>
   bnd (uO .xor v11) fun v23 =>
   bnd (xA 8 (gS sl 6) (.i .i64 6)) fun v24 =>
   bnd (l1 ob v24) fun v25 =>
   bnd (bi .and v23 v25) fun v26 =>
   bnd (bi .xor v22 v26) fun v27 =>
   bnd (bi .add v19 v27) fun v28 =>
   bnd (xA 64 (.q true gMore none) (gS sl 16)) fun v29 =>
   bnd (l1 ob v29) fun v30 =>
   bnd (bi .add v28 v30) fun v31 =>
   bnd (xA 64 (gS sl 5) (gS sl 16)) fun v32 =>
   bnd (l1 ob v32) fun v33 =>
   bnd (bi .add v31 v33) fun v34 =>
   bndO (ca0 Φ ob 496 false 49 [v9, (.i .i64 2)]) ob fun v35 ob =>
   bndO (ca0 Φ ob 512 false 49 [v9, (.i .i64 13)]) ob fun v36 ob =>
   bnd (bi .xor v35 v36) fun v37 =>
   bndO (ca0 Φ ob 536 false 49 [v9, (.i .i64 22)]) ob fun v38 ob =>
   bnd (bi .xor v37 v38) fun v39 =>
   bnd (xA 8 (gS sl 6) (.i .i64 1)) fun v40 =>
   bnd (l1 ob v40) fun v41 =>
   bnd (bi .and v9 v41) fun v42 =>
   bnd (xA 8 (gS sl 6) (.i .i64 2)) fun v43 =>
   bnd (l1 ob v43) fun v44 =>
   bnd (bi .and v9 v44) fun v45 =>
   bnd (bi .xor v42 v45) fun v46 =>
   bnd (xA 8 (gS sl 6) (.i .i64 1)) fun v47 =>
   bnd (l1 ob v47) fun v48 =>
   bnd (xA 8 (gS sl 6) (.i .i64 2)) fun v49 =>
   bnd (l1 ob v49) fun v50 =>
   bnd (bi .and v48 v50) fun v51 =>
   bnd (bi .xor v46 v51) fun v52 =>
   bnd (bi .add v39 v52) fun v53 =>
   bnd (bi .add v34 v53) fun v54 =>
   bnd (xA 8 (gS sl 6) (.i .i64 0)) fun v55 =>
   bnd (l1 ob v55) fun v56 =>
   bnd (xA 8 (gS sl 6) (.i .i64 1)) fun v57 =>
   bnd (l1 ob v57) fun v58 =>
   bnd (xA 8 (gS sl 6) (.i .i64 2)) fun v59 =>
   bnd (l1 ob v59) fun v60 =>
   bnd (xA 8 (gS sl 6) (.i .i64 3)) fun v61 =>
   bnd (l1 ob v61) fun v62 =>
   bnd (bi .add v62 v34) fun v63 =>
   bnd (xA 8 (gS sl 6) (.i .i64 4)) fun v64 =>
   bnd (l1 ob v64) fun v65 =>
   bnd (xA 8 (gS sl 6) (.i .i64 5)) fun v66 =>
   bnd (l1 ob v66) fun v67 =>
   bnd (xA 8 (gS sl 6) (.i .i64 6)) fun v68 =>
   bnd (l1 ob v68) fun v69 =>
   bnd (bld [.blob 8 (List.replicate 8 (.i .u32 0))] [(0, 1, v54), (1, 1, v56), (2, 1, v58), (3, 1, v60), (4, 1, v63), (5, 1, v65), (6, 1, v67), (7, 1, v69)]) fun v70 =>
   bndO (st ob 8 (gS sl 6) v70) ob fun _ ob =>
   bnd (bi .add (gS sl 16) (.i .i64 1)) fun v71 =>
   bnd (head [] [2, 4, 5, 6, 16] [80, 96, 104, 112] [(2, (gS sl 2)), (4, (gS sl 4)), (5, (gS sl 5)), (6, (gS sl 6)), (16, v71)] ob) fun x => g x.1 x.2
  ) (
   bnd (head [] [2, 4, 6, 98] [80, 96, 112] [(2, (gS sl 2)), (4, (gS sl 4)), (6, (gS sl 6)), (98, (.i .i64 0))] ob) fun x => loopC (m43b0 Φ N os) N x.1 x.2
  )
noncomputable def m43 : Body := fun Φ N as os =>
  let a0 := gS (zipN 0 as) 0
  let a1 := gS (zipN 0 as) 1
  let ob := zipN 0 os
  bndO (bx ob 80 a0) ob fun v1 ob =>
  bndO (al ob 96 [.blob 8 (List.replicate 8 (.i .u32 0))]) ob fun v2 ob =>
  bndO (ca0 Φ ob 176 false 48 [a1]) ob fun v3 ob =>
  bndO (al ob 104 [.blob 64 (List.replicate 64 (.i .u32 0))]) ob fun v4 ob =>
  bndO (st ob 64 v4 v3) ob fun _ ob =>
  bnd (lN ob 8 v1) fun v5 =>
  bndO (al ob 112 [.blob 8 (List.replicate 8 (.i .u32 0))]) ob fun v6 ob =>
  bndO (st ob 8 v6 v5) ob fun _ ob =>
  bnd (head [] [2, 4, 5, 6, 16] [80, 96, 104, 112] [(2, v1), (4, v2), (5, v4), (6, v6), (16, (.i .i64 0))] ob) fun x => loopC (m43b1 Φ N os) N x.1 x.2

def ann43 : Nat → Option Hd
  | 4 => some ⟨[], [2, 4, 5, 6, 16], [80, 96, 104, 112]⟩ | 12 => some ⟨[], [2, 4, 6, 98], [80, 96, 112]⟩ | _ => none
noncomputable def m44 : Body := fun Φ N as os =>
  let a0 := gS (zipN 0 as) 0
  let a1 := gS (zipN 0 as) 1
  let ob := zipN 0 os
  bnd (bi .lss a1 (.i .i64 0)) fun v1 =>
  br v1 (
   none
  ) (
   bnd (cp ob a0) fun v2 =>
   bnd (len a0) fun v3 =>
   bnd (bi .sub v2 v3) fun v4 =>
   bnd (bi .sub a1 v4) fun v5 =>
   bnd (bi .gtr v5 (.i .i64 0)) fun v6 =>
   br v6 (
    bnd (cp ob a0) fun v7 =>
    bndO (slc ob (.slice 1) a0 none (some v7) none) ob fun v8 ob =>
    bndO (apz ob 240 [.i .u8 0] v8 v5) ob fun v9 ob =>
    bnd (len a0) fun v10 =>
    bndO (slc ob (.slice 1) v9 none (some v10) none) ob fun v11 ob =>
    fin ob os.length [1] [v11]
   ) (
    fin ob os.length [1] [a0]
   )
  )

def ann44 : Nat → Option Hd := fun _ => none
noncomputable def m45b0 (Φ : Sem') (N : Nat) (os : List Obj') (g : SL → OB → Option R) (sl : SL) (ob : OB) : Option R :=
  bnd (bi .lss (gS sl 5) (.i .i64 64)) fun v30 =>
  br v30 (
   bnd (bi .sub (gS sl 5) (.i .i64 15)) fun v31 =>
   bnd (xS ob 1 (gS sl 3) v31) fun v32 =>
   bnd (l1 ob v32) fun v33 =>
   bndO (ca0 Φ ob 520 false 46 [v33, (.i .u32 7)]) ob fun v34 ob =>
   bnd (bi .sub (gS sl 5) (.i .i64 15)) fun v35 =>
   bnd (xS ob 1 (gS sl 3) v35) fun v36 =>
   bnd (l1 ob v36) fun v37 =>
   bndO (ca0 Φ ob 568 false 46 [v37, (.i .u32 18)]) ob fun v38 ob =>
   bnd (bi .xor v34 v38) fun v39 =>
   bnd (bi .sub (gS sl 5) (.i .i64 15)) fun v40 =>
   bnd (xS ob 1 (gS sl 3) v40) fun v41 =>
   bnd (l1 ob v41) fun v42 =>
   bnd (bi .shr v42 (.i .u64 3)) fun v43 =>
   bnd (bi .xor v39 v43) fun v44 =>
   bnd (bi .sub (gS sl 5) (.i .i64 2)) fun v45 =>
   bnd (xS ob 1 (gS sl 3) v45) fun v46 =>
   bnd (l1 ob v46) fun v47 =>
   bndO (ca0 Φ ob 680 false 46 [v47, (.i .u32 17)]) ob fun v48 ob =>
   bnd (bi .sub (gS sl 5) (.i .i64 2)) fun v49 =>
   bnd (xS ob 1 (gS sl 3) v49) fun v50 =>
   bnd (l1 ob v50) fun v51 =>
   bndO (ca0 Φ ob 728 false 46 [v51, (.i .u32 19)]) ob fun v52 ob =>
   bnd (bi .xor v48 v52) fun v53 =>
   bnd (bi .sub (gS sl 5) (.i .i64 2)) fun v54 =>
   bnd (xS ob 1 (gS sl 3) v54) fun v55 =>
   bnd (l1 ob v55) fun v56 =>
   bnd (bi .shr v56 (.i .u64 10)) fun v57 =>
   bnd (bi .xor v53 v57) fun v58 =>
   bnd (bi .sub (gS sl 5) (.i .i64 16)) fun v59 =>
   bnd (xS ob 1 (gS sl 3) v59) fun v60 =>
   bnd (l1 ob v60) fun v61 =>
   bnd (bi .sub (gS sl 5) (.i .i64 7)) fun v62 =>
   bnd (xS ob 1 (gS sl 3) v62) fun v63 =>
   bnd (l1 ob v63) fun v64 =>
   bnd (bi .add v61 v64) fun v65 =>
   bnd (bi .add v65 v44) fun v66 =>
   bnd (bi .add v66 v58) fun v67 =>
   bndO (bldS ob 928 1 [v67]) ob fun v68 ob =>
   bndO (ap ob 936 1 (gS sl 3) v68) ob fun v69 ob =>
   bnd (bi .add (gS sl 5) (.i .i64 1)) fun v70 =>
   bnd (head [.row 3 95 1] [3, 5] [] [(3, v69), (5, v70)] ob) fun x => g x.1 x.2
  ) (
   fin ob os.length [1] [(gS sl 3)]
  )
noncomputable def m45b1 (Φ : Sem') (N : Nat) (os : List Obj') (g : SL → OB → Option R) (sl : SL) (ob : OB) : Option R :=
  bnd (bi .lss (gS sl 4) (.i .i64 16)) fun v1 =>
  br v1 (
   bnd (bi .mul (.i .i64 4) (gS sl 4)) fun v2 =>
   bnd (xS ob 1 (gS sl 0) v2) fun v3 =>
   bnd (l1 ob v3) fun v4 =>
   bnd (cv .u32 v4) fun v5 =>
   bnd (bi .mul (.i .u32 16777216) v5) fun v6 =>
   bnd (bi .mul (.i .i64 4) (gS sl 4)) fun v7 =>
   bnd (bi .add v7 (.i .i64 1)) fun v8 =>
   bnd (xS ob 1 (gS sl 0) v8) fun v9 =>
   bnd (l1 ob v9) fun v10 =>
   bnd (cv .u32 v10) fun v11 =>
   bnd (bi .mul (.i .u32 65536) v11) fun v12 =>
   bnd (bi .add v6 v12) fun v13 =>
   bnd (bi .mul (.i .i64 4) (gS sl 4)) fun v14 =>
   bnd (bi .add v14 (.i .i64 2)) fun v15 =>
   bnd (xS ob 1 (gS sl 0) v15) fun v16 =>
   bnd (l1 ob v16) fun v17 =>
   bnd (cv .u32 v17) fun v18 =>
   bnd (bi .mul (.i .u32 256) v18) fun v19 =>
   bnd (bi .add v13 v19) fun v20 =>
   bnd (bi .mul (.i .i64 4) (gS sl 4)) fun v21 =>
   bnd (bi .add v21 (.i .i64 3)) fun v22 =>
   bnd (xS ob 1 (gS sl 0) v22) fun v23 =>
   bnd (l1 ob v23) fun v24 =>
   bnd (cv .u32 v24) fun v25 =>
   bnd (bi .add v20 v25) fun v26 =>
   bndO (bldS ob 432 1 [v26]) ob fun v27 ob =>
   bndO (ap ob 440 1 (gS sl 3) v27) ob fun v28 ob =>
   bnd (bi .add (gS sl 4) (.i .i64 1)) fun v29 =>
   bnd (head [.row 3 95 1] [0, 3, 4] [] [(0, (gS sl 0)), (3, v28), (4, v29)] ob) fun x => g x.1 x.2
  ) (
   bnd (head [.row 3 95 1] [3, 5] [] [(3, (gS sl 3)), (5, (.i .i64 16))] ob) fun x => loopC (m45b0 Φ N os) N x.1 x.2
  )
noncomputable def m45 : Body := fun Φ N as os =>
  let a0 := gS (zipN 0 as) 0
  let ob := zipN 0 os
  bnd (head [.row 3 95 1] [0, 3, 4] [] [(0, a0), (3, (.e true)), (4, (.i .i64 0))] ob) fun x => loopC (m45b1 Φ N os) N x.1 x.2

def ann45 : Nat → Option Hd
  | 3 => some ⟨[.row 3 95 1], [0, 3, 4], []⟩ | 7 => some ⟨[.row 3 95 1], [3, 5], []⟩ | _ => none
noncomputable def m46 : Body := fun Φ N as os =>
  let a0 := gS (zipN 0 as) 0
  let a1 := gS (zipN 0 as) 1
  let ob := zipN 0 os
  bnd (bi .shr a0 a1) fun v1 =>
  bnd (bi .sub (.i .u32 32) a1) fun v2 =>
  bnd (bi .shl a0 v2) fun v3 =>
  bnd (bi .or v1 v3) fun v4 =>
  fin ob os.length [0] [v4]

def ann46 : Nat → Option Hd := fun _ => none
noncomputable def m47 : Body := fun Φ N as os =>
  let a0 := gS (zipN 0 as) 0
  let ob := zipN 0 os
  bnd (bld [.blob 64 (List.replicate 64 (.i .u32 0))] [(0, 1, (.i .u32 1116352408)), (1, 1, (.i .u32 1899447441)), (2, 1, (.i .u32 3049323471)), (3, 1, (.i .u32 3921009573)), (4, 1, (.i .u32 961987163)), (5, 1, (.i .u32 1508970993)), (6, 1, (.i .u32 2453635748)), (7, 1, (.i .u32 2870763221)), (8, 1, (.i .u32 3624381080)), (9, 1, (.i .u32 310598401)), (10, 1, (.i .u32 607225278)), (11, 1, (.i .u32 1426881987)), (12, 1, (.i .u32 1925078388)), (13, 1, (.i .u32 2162078206)), (14, 1, (.i .u32 2614888103)), (15, 1, (.i .u32 3248222580)), (16, 1, (.i .u32 3835390401)), (17, 1, (.i .u32 4022224774)), (18, 1, (.i .u32 264347078)), (19, 1, (.i .u32 604807628)), (20, 1, (.i .u32 770255983)), (21, 1, (.i .u32 1249150122)), (22, 1, (.i .u32 1555081692)), (23, 1, (.i .u32 1996064986)), (24, 1, (.i .u32 2554220882)), (25, 1, (.i .u32 2821834349)), (26, 1, (.i .u32 2952996808)), (27, 1, (.i .u32 3210313671)), (28, 1, (.i .u32 3336571891)), (29, 1, (.i .u32 3584528711)), (30, 1, (.i .u32 113926993)), (31, 1, (.i .u32 338241895)), (32, 1, (.i .u32 666307205)), (33, 1, (.i .u32 773529912)), (34, 1, (.i .u32 1294757372)), (35, 1, (.i .u32 1396182291)), (36, 1, (.i .u32 1695183700)), (37, 1, (.i .u32 1986661051)), (38, 1, (.i .u32 2177026350)), (39, 1, (.i .u32 2456956037)), (40, 1, (.i .u32 2730485921)), (41, 1, (.i .u32 2820302411)), (42, 1, (.i .u32 3259730800)), (43, 1, (.i .u32 3345764771)), (44, 1, (.i .u32 3516065817)), (45, 1, (.i .u32 3600352804)), (46, 1, (.i .u32 4094571909)), (47, 1, (.i .u32 275423344)), (48, 1, (.i .u32 430227734)), (49, 1, (.i .u32 506948616)), (50, 1, (.i .u32 659060556)), (51, 1, (.i .u32 883997877)), (52, 1, (.i .u32 958139571)), (53, 1, (.i .u32 1322822218)), (54, 1, (.i .u32 1537002063)), (55, 1, (.i .u32 1747873779)), (56, 1, (.i .u32 1955562222)), (57, 1, (.i .u32 2024104815)), (58, 1, (.i .u32 2227730452)), (59, 1, (.i .u32 2361852424)), (60, 1, (.i .u32 2428436474)), (61, 1, (.i .u32 2756734187)), (62, 1, (.i .u32 3204031479)), (63, 1, (.i .u32 3329325298))]) fun v1 =>
  bndO (al ob 88 [.blob 64 (List.replicate 64 (.i .u32 0))]) ob fun v2 ob =>
  bndO (st ob 64 v2 v1) ob fun _ ob =>
  bnd (xA 64 v2 a0) fun v3 =>
  bnd (l1 ob v3) fun v4 =>
  fin ob os.length [0] [v4]

def ann47 : Nat → Option Hd := fun _ => none
noncomputable def m48b0 (Φ : Sem') (N : Nat) (os : List Obj') (g : SL → OB → Option R) (sl : SL) (ob : OB) : Option R :=
  bnd (bi .lss (gS sl 7) (.i .i64 64)) fun v3 =>
  br v3 (
   bnd (bi .lss (gS sl 7) (.i .i64 16)) fun v4 =>
   br v4 (
    bnd (bi .mul (.i .i64 4) (gS sl 7)) fun v5 =>
    bnd (xS ob 1 (gS sl 0) v5) fun v6 =>
    bnd (l1 ob v6) fun v7 =>
    bnd (cv .u32 v7) fun v8 =>
    bnd (bi .shl v8 (.i .u64 24)) fun v9 =>
    bnd (bi .mul (.i .i64 4) (gS sl 7)) fun v10 =>
    bnd (bi .add v10 (.i .i64 1)) fun v11 =>
    bnd (xS ob 1 (gS sl 0) v11) fun v12 =>
    bnd (l1 ob v12) fun v13 =>
    bnd (cv .u32 v13) fun v14 =>
    bnd (bi .shl v14 (.i .u64 16)) fun v15 =>
    bnd (bi .or v9 v15) fun v16 =>
    bnd (bi .mul (.i .i64 4) (gS sl 7)) fun v17 =>
    bnd (bi .add v17 (.i .i64 2)) fun v18 =>
    bnd (xS ob 1 (gS sl 0) v18) fun v19 =>
    bnd (l1 ob v19) fun v20 =>
    bnd (cv .u32 v20) fun v21 =>
    bnd (bi .shl v21 (.i .u64 8)) fun v22 =>
    bnd (bi .or v16 v22) fun v23 =>
    bnd (bi .mul (.i .i64 4) (gS sl 7)) fun v24 =>
    bnd (bi .add v24 (.i .i64 3)) fun v25 =>
    bnd (xS ob 1 (gS sl 0) v25) fun v26 =>
    bnd (l1 ob v26) fun v27 =>
    bnd (cv .u32 v27) fun v28 =>
    bnd (bi .or v23 v28) fun v29 =>
    bnd (xA 64 (gS sl 3) (gS sl 7)) fun v30 =>
    bndO (st ob 1 v30 v29) ob fun _ ob =>
    bnd (bi .add (gS sl 7) (.i .i64 1)) fun v31 =>
    bnd (head [] [0, 2, 3, 7] [80, 88] [(0, (gS sl 0)), (2, (gS sl 2)), (3, (gS sl 3)), (7, v31)] ob) fun x => g x.1 x.2
   ) (
    bnd (bi .sub (gS sl 7) (.i .i64 15)) fun v32 =>
    bnd (xA 64 (gS sl 3) v32) fun v33 =>
    bnd (l1 ob v33) fun v34 =>
    bnd (bi .sub (gS sl 7) (.i .i64 2)) fun v35 =>
    bnd (xA 64 (gS sl 3) v35) fun v36 =>
    bnd (l1 ob v36) fun v37 =>
    bnd (bi .sub (gS sl 7) (.i .i64 16)) fun v38 =>
    bnd (xA 64 (gS sl 3) v38) fun v39 =>
    bnd (l1 ob v39) fun v40 =>
    bnd (bi .sub (gS sl 7) (.i .i64 7)) fun v41 =>
    bnd (xA 64 (gS sl 3) v41) fun v42 =>
    bnd (l1 ob v42) fun v43 =>
    bnd (bi .add v40 v43) fun v44 =>
    bndO (ca0 Φ ob 592 false 49 [v34, (.i .i64 7)]) ob fun v45 ob =>
    bndO (ca0 Φ ob 608 false 49 [v34, (.i .i64 18)]) ob fun v46 ob =>
    bnd (bi .xor v45 v46) fun v47 =>
    bnd (bi .shr v34 (.i .u64 3)) fun v48 =>
    bnd (bi .xor v47 v48) fun v49 =>
    bnd (bi .add v44 v49) fun v50 =>
    bndO (ca0 Φ ob 664 false 49 [v37, (.i .i64 17)]) ob fun v51 ob =>
    bndO (ca0 Φ ob 680 false 49 [v37, (.i .i64 19)]) ob fun v52 ob =>
    bnd (bi .xor v51 v52) fun v53 =>
    bnd (bi .shr v37 (.i .u64 10)) fun v54 =>
    bnd (bi .xor v53 v54) fun v55 =>
    bnd (bi .add v50 v55) fun v56 =>
    bnd (xA 64 (gS sl 3) (gS sl 7)) fun v57 =>
    bndO (st ob 1 v57 v56) ob fun _ ob =>
    bnd (bi .add (gS sl 7) (.i .i64 1)) fun v58 =>
    bnd (head [] [0, 2, 3, 7] [80, 88] [(0, (gS sl 0)), (2, (gS sl 2)), (3, (gS sl 3)), (7, v58)] ob) fun x => g x.1 x.2
   )
  ) (
   bnd (lN ob 64 (gS sl 3)) fun v59 =>
   bndO (st ob 64 (gS sl 2) v59) ob fun _ ob =>
   bnd (lN ob 64 (gS sl 2)) fun v60 =>
   fin ob os.length [0] [v60]
  )
noncomputable def m48 : Body := fun Φ N as os =>
  let a0 := gS (zipN 0 as) 0
  let ob := zipN 0 os
  bndO (al ob 80 [.blob 64 (List.replicate 64 (.i .u32 0))]) ob fun v1 ob =>
  bndO (al ob 88 [.blob 64 (List.replicate 64 (.i .u32 0))]) ob fun v2 ob =>
  bnd (head [] [0, 2, 3, 7] [80, 88] [(0, a0), (2, v1), (3, v2), (7, (.i .i64 0))] ob) fun x => loopC (m48b0 Φ N os) N x.1 x.2

def ann48 : Nat → Option Hd
  | 3 => some ⟨[], [0, 2, 3, 7], [80, 88]⟩ | _ => none
noncomputable def m49 : Body := fun Φ N as os =>
  let a0 := gS (zipN 0 as) 0
  let a1 := gS (zipN 0 as) 1
  let ob := zipN 0 os
  bnd (uO .neg a1) fun v1 =>
  bndO (ca0 Φ ob 128 false 50 [a0, v1]) ob fun v2 ob =>
  fin ob os.length [0] [v2]

def ann49 : Nat → Option Hd := fun _ => none
noncomputable def m50 : Body := fun Φ N as os =>
  let a0 := gS (zipN 0 as) 0
  let a1 := gS (zipN 0 as) 1
  let ob := zipN 0 os
  bnd (cv .u64 a1) fun v1 =>
  bnd (bi .and v1 (.i .u64 31)) fun v2 =>
  bnd (bi .shl a0 v2) fun v3 =>
  bnd (bi .sub (.i .u64 32) v2) fun v4 =>
  bnd (bi .shr a0 v4) fun v5 =>
  bnd (bi .or v3 v5) fun v6 =>
  fin ob os.length [0] [v6]

def ann50 : Nat → Option Hd := fun _ => none
/-- All functions, by their numbers. -/
noncomputable def tab : Nat → Option Body
  | 3 => some m3
  | 4 => some m4
  | 5 => some m5
  | 6 => some m6
  | 7 => some m7
  | 8 => some m8
  | 9 => some m9
  | 10 => some m10
  | 11 => some m11
  | 12 => some m12
  | 13 => some m13
  | 14 => some m14
  | 15 => some m15
  | 16 => some m16
  | 17 => some m17
  | 18 => some m18
  | 19 => some m19
  | 20 => some m20
  | 21 => some m21
  | 22 => some m22
  | 23 => some m23
  | 24 => some m24
  | 25 => some m25
  | 26 => some m26
  | 27 => some m27
  | 28 => some m28
  | 29 => some m29
  | 30 => some m30
  | 31 => some m31
  | 32 => some m32
  | 33 => some m33
  | 34 => some m34
  | 35 => some m35
  | 36 => some m36
  | 37 => some m37
  | 38 => some m38
  | 39 => some m39
  | 40 => some m40
  | 41 => some m41
  | 42 => some m42
  | 43 => some m43
  | 44 => some m44
  | 45 => some m45
  | 46 => some m46
  | 47 => some m47
  | 48 => some m48
  | 49 => some m49
  | 50 => some m50
  | _ => none
end Go.Proofs.YtbobbkgdbfcblaaDoor
