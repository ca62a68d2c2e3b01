/-
  The functions' code, as plain functions: printed by run4.py.
-/
import Derived.Test.YtgpggpbibdnfhaaDoorDen
set_option linter.all false
set_option linter.unusedVariables false
namespace Go.Proofs.YtgpggpbibdnfhaaDoor
open Go
def nFirst : List Int := [1779033703, 3144134277, 1013904242, 2773480762, 1359893119, 2600822924, 528734635, 1541459225]
def nMore : List Int := [1116352408, 1899447441, 3049323471, 3921009573, 961987163, 1508970993, 2453635748, 2870763221, 3624381080, 310598401, 607225278, 1426881987, 1925078388, 2162078206, 2614888103, 3248222580, 3835390401, 4022224774, 264347078, 604807628, 770255983, 1249150122, 1555081692, 1996064986, 2554220882, 2821834349, 2952996808, 3210313671, 3336571891, 3584528711, 113926993, 338241895, 666307205, 773529912, 1294757372, 1396182291, 1695183700, 1986661051, 2177026350, 2456956037, 2730485921, 2820302411, 3259730800, 3345764771, 3516065817, 3600352804, 4094571909, 275423344, 430227734, 506948616, 659060556, 883997877, 958139571, 1322822218, 1537002063, 1747873779, 1955562222, 2024104815, 2227730452, 2361852424, 2428436474, 2756734187, 3204031479, 3329325298]
def gFirst : List PV := [.blob 8 (nFirst.map (.i .u32))]
def gMore : List PV := [.blob 64 (nMore.map (.i .u32))]
/- pelican/pelicanlaw19.SealKinds -/
noncomputable def m3 : Body := fun Φ N as os =>
  let a0 := gS (zipN 0 as) 0
  let a1 := gS (zipN 0 as) 1
  let a2 := gS (zipN 0 as) 2
  let ob := zipN 0 os
  bndO (bx ob 88 a0) ob fun v1 ob =>
  bndO (bx ob 96 a1) ob fun v2 ob =>
  bndO (ca0 Φ ob 152 false 8 []) ob fun v3 ob =>
  bnd (lN ob 40 v2) fun v4 =>
  bndO (al ob 128 [.i .i64 0, .i .i64 0, .i .u64 0, .i .u64 0, .i .i64 0, .i .u64 0, .i .i64 0, .i .i64 0, .blob 32 (List.replicate 32 (.i .u8 0))]) ob fun v5 ob =>
  bndO (st ob 40 v5 v4) ob fun _ ob =>
  bnd (fA 0 v5) fun v6 =>
  bndO (st ob 1 v6 a2) ob fun _ ob =>
  bnd (uO .not v3) fun v7 =>
  bnd (gd v7 false (lN ob 32 v1)) fun v8 =>
  bnd (gd v7 false (lN ob 40 v2)) fun v9 =>
  bndO (gdO v7 false (ca0 Φ ob 224 false 9 [v8, v9])) ob fun v10 ob =>
  bnd (gd v7 false (bi .neq v10 (.i .i64 0))) fun v11 =>
  bnd (pk v7 (.b true) v11) fun v12 =>
  bnd (gd v12 false (some a2)) fun v13 =>
  bnd (gd v12 false (fA 0 v2)) fun v14 =>
  bnd (gd v12 false (l1 ob v14)) fun v15 =>
  bnd (gd v12 false (bi .eql v13 v15)) fun v16 =>
  bnd (pk v12 (.b true) v16) fun v17 =>
  bnd (gd v17 false (lN ob 32 v1)) fun v18 =>
  bnd (gd v17 false (lN ob 40 v5)) fun v19 =>
  bndO (gdO v17 false (ca0 Φ ob 320 false 9 [v18, v19])) ob fun v20 ob =>
  bnd (gd v17 false (bi .neq v20 (.i .i64 0))) fun v21 =>
  bnd (pk v17 (.b true) v21) fun v22 =>
  br v22 (
   fin ob os.length [0] [v3]
  ) (
   bnd (lN ob 40 v2) fun v23 =>
   bndO (ca0 Φ ob 360 false 10 [v23]) ob fun v24 ob =>
   bnd (lN ob 40 v5) fun v25 =>
   bndO (ca0 Φ ob 376 false 10 [v25]) ob fun v26 ob =>
   bnd (b2s ob v24) fun v27 =>
   bnd (b2s ob v26) fun v28 =>
   bnd (bi .neq v27 v28) fun v29 =>
   bndO (gdO v29 true (slc ob (.arr 32) v1 none none none)) ob fun v30 ob =>
   bnd (gd v29 true (some v24)) fun v31 =>
   bndO (gdO v29 true (ca0 Φ ob 448 false 11 [v30, v31])) ob fun v32 ob =>
   bndO (gdO v29 true (slc ob (.arr 32) v1 none none none)) ob fun v33 ob =>
   bnd (gd v29 true (some v26)) fun v34 =>
   bndO (gdO v29 true (ca0 Φ ob 472 false 11 [v33, v34])) ob fun v35 ob =>
   bnd (gd v29 true (eAr false 32 v32 v35)) fun v36 =>
   bnd (pk v29 v36 (.b false)) fun v37 =>
   fin ob os.length [0] [v37]
  )

def ann3 : Nat → Option Hd := fun _ => none
def lab3 : Nat → Option Hd := fun _ => none
/- pelican/pelicanlaw19.SealTurned -/
noncomputable def m4 : Body := fun Φ N as os =>
  let a0 := gS (zipN 0 as) 0
  let a1 := gS (zipN 0 as) 1
  let a2 := gS (zipN 0 as) 2
  let ob := zipN 0 os
  bndO (bx ob 88 a0) ob fun v1 ob =>
  bndO (bx ob 96 a1) ob fun v2 ob =>
  bndO (bx ob 104 a2) ob fun v3 ob =>
  bndO (ca0 Φ ob 176 false 8 []) ob fun v4 ob =>
  bnd (lN ob 40 v2) fun v5 =>
  bndO (al ob 128 [.i .i64 0, .i .i64 0, .i .u64 0, .i .u64 0, .i .i64 0, .i .u64 0, .i .i64 0, .i .i64 0, .blob 32 (List.replicate 32 (.i .u8 0))]) ob fun v6 ob =>
  bndO (st ob 40 v6 v5) ob fun _ ob =>
  bnd (lN ob 32 v3) fun v7 =>
  bnd (fA 8 v6) fun v8 =>
  bndO (st ob 32 v8 v7) ob fun _ ob =>
  bnd (lN ob 32 v1) fun v9 =>
  bnd (lN ob 40 v2) fun v10 =>
  bndO (ca0 Φ ob 232 false 12 [v9, v10]) ob fun v11 ob =>
  bnd (ext 0 v11) fun v12 =>
  bnd (ext 1 v11) fun v13 =>
  bndO (al ob 136 [.i .i64 0, .i .i64 0, .i .u64 0, .i .u64 0, .i .i64 0, .i .u64 0, .i .i64 0, .i .i64 0, .blob 32 (List.replicate 32 (.i .u8 0))]) ob fun v14 ob =>
  bndO (st ob 40 v14 v12) ob fun _ ob =>
  bnd (lN ob 32 v1) fun v15 =>
  bnd (lN ob 40 v6) fun v16 =>
  bndO (ca0 Φ ob 280 false 12 [v15, v16]) ob fun v17 ob =>
  bnd (ext 0 v17) fun v18 =>
  bnd (ext 1 v17) fun v19 =>
  bndO (al ob 152 [.i .i64 0, .i .i64 0, .i .u64 0, .i .u64 0, .i .i64 0, .i .u64 0, .i .i64 0, .i .i64 0, .blob 32 (List.replicate 32 (.i .u8 0))]) ob fun v20 ob =>
  bndO (st ob 40 v20 v18) ob fun _ ob =>
  bnd (fA 0 v2) fun v21 =>
  bnd (l1 ob v21) fun v22 =>
  bnd (bi .geq v22 (.i .i64 2)) fun v23 =>
  bnd (gd v23 true (fA 0 v2)) fun v24 =>
  bnd (gd v23 true (l1 ob v24)) fun v25 =>
  bnd (gd v23 true (bi .leq v25 (.i .i64 5))) fun v26 =>
  bnd (pk v23 v26 (.b false)) fun v27 =>
  bnd (gd v4 true (some v13)) fun v28 =>
  bnd (gd v4 true (some v19)) fun v29 =>
  bnd (gd v4 true (biB .eql v28 v29)) fun v30 =>
  bnd (pk v4 v30 (.b false)) fun v31 =>
  bnd (gd v31 true (lN ob 40 v14)) fun v32 =>
  bnd (gd v31 true (lN ob 40 v20)) fun v33 =>
  bnd (gd v31 true (eSt false [.i, .i, .i, .i, .i, .i, .i, .i, .a 32] v32 v33)) fun v34 =>
  bnd (pk v31 v34 (.b false)) fun v35 =>
  bnd (gd v35 true (some v13)) fun v36 =>
  bnd (gd v35 true (uO .not v36)) fun v37 =>
  bnd (gd v35 true (some v37)) fun v38 =>
  bnd (gd v38 false (some v27)) fun v39 =>
  bnd (gd v35 true (pk v38 (.b true) v39)) fun v40 =>
  bnd (pk v35 v40 (.b false)) fun v41 =>
  fin ob os.length [0] [v41]

def ann4 : Nat → Option Hd := fun _ => none
def lab4 : Nat → Option Hd := fun _ => none
/- pelican/pelicanlaw19.SealTells -/
noncomputable def m5 : Body := fun Φ N as os =>
  let a0 := gS (zipN 0 as) 0
  let a1 := gS (zipN 0 as) 1
  let ob := zipN 0 os
  bndO (bx ob 80 a0) ob fun v1 ob =>
  bndO (bx ob 88 a1) ob fun v2 ob =>
  bndO (ca0 Φ ob 176 false 8 []) ob fun v3 ob =>
  bnd (uO .not v3) fun v4 =>
  br v4 (
   fin ob os.length [0] [(.b false)]
  ) (
   bnd (lN ob 32 v1) fun v5 =>
   bnd (lN ob 40 v2) fun v6 =>
   bndO (ca0 Φ ob 224 false 13 [v5, v6]) ob fun v7 ob =>
   bnd (ext 0 v7) fun v8 =>
   bnd (ext 1 v7) fun v9 =>
   bndO (al ob 112 [.blob 32 (List.replicate 32 (.i .u8 0))]) ob fun v10 ob =>
   bndO (st ob 32 v10 v8) ob fun _ ob =>
   bnd (lN ob 32 v1) fun v11 =>
   bnd (lN ob 40 v2) fun v12 =>
   bndO (ca0 Φ ob 272 false 14 [v11, v12]) ob fun v13 ob =>
   bnd (ext 0 v13) fun v14 =>
   bnd (ext 1 v13) fun v15 =>
   bndO (al ob 128 [.blob 32 (List.replicate 32 (.i .u8 0))]) ob fun v16 ob =>
   bndO (st ob 32 v16 v14) ob fun _ ob =>
   bnd (lN ob 32 v1) fun v17 =>
   bnd (lN ob 40 v2) fun v18 =>
   bndO (ca0 Φ ob 320 false 12 [v17, v18]) ob fun v19 ob =>
   bnd (ext 0 v19) fun v20 =>
   bnd (ext 1 v19) fun v21 =>
   bndO (al ob 144 [.i .i64 0, .i .i64 0, .i .u64 0, .i .u64 0, .i .i64 0, .i .u64 0, .i .i64 0, .i .i64 0, .blob 32 (List.replicate 32 (.i .u8 0))]) ob fun v22 ob =>
   bndO (st ob 40 v22 v20) ob fun _ ob =>
   bnd (lN ob 32 v1) fun v23 =>
   bnd (lN ob 40 v2) fun v24 =>
   bndO (ca0 Φ ob 368 false 15 [v23, v24]) ob fun v25 ob =>
   bnd (ext 0 v25) fun v26 =>
   bnd (ext 1 v25) fun v27 =>
   bndO (al ob 160 [.i .i64 0, .i .i64 0, .i .u64 0, .i .u64 0, .i .i64 0, .i .u64 0, .i .i64 0, .i .i64 0, .blob 32 (List.replicate 32 (.i .u8 0))]) ob fun v28 ob =>
   bndO (st ob 40 v28 v26) ob fun _ ob =>
   bnd (lN ob 32 v10) fun v29 =>
   bnd (lN ob 32 v16) fun v30 =>
   bnd (eAr false 32 v29 v30) fun v31 =>
   bnd (gd v31 true (some v9)) fun v32 =>
   bnd (gd v31 true (some v15)) fun v33 =>
   bnd (gd v31 true (biB .eql v32 v33)) fun v34 =>
   bnd (pk v31 v34 (.b false)) fun v35 =>
   bnd (gd v35 true (lN ob 40 v22)) fun v36 =>
   bnd (gd v35 true (lN ob 40 v28)) fun v37 =>
   bnd (gd v35 true (eSt false [.i, .i, .i, .i, .i, .i, .i, .i, .a 32] v36 v37)) fun v38 =>
   bnd (pk v35 v38 (.b false)) fun v39 =>
   bnd (gd v39 true (some v21)) fun v40 =>
   bnd (gd v39 true (some v27)) fun v41 =>
   bnd (gd v39 true (biB .eql v40 v41)) fun v42 =>
   bnd (pk v39 v42 (.b false)) fun v43 =>
   bnd (gd v43 true (lN ob 32 v1)) fun v44 =>
   bnd (gd v43 true (lN ob 40 v2)) fun v45 =>
   bndO (gdO v43 true (ca0 Φ ob 560 false 9 [v44, v45])) ob fun v46 ob =>
   bnd (gd v43 true (lN ob 32 v1)) fun v47 =>
   bnd (gd v43 true (lN ob 40 v2)) fun v48 =>
   bndO (gdO v43 true (ca0 Φ ob 584 false 16 [v47, v48])) ob fun v49 ob =>
   bnd (gd v43 true (bi .eql v46 v49)) fun v50 =>
   bnd (pk v43 v50 (.b false)) fun v51 =>
   fin ob os.length [0] [v51]
  )

def ann5 : Nat → Option Hd := fun _ => none
def lab5 : Nat → Option Hd := fun _ => none
/- pelican/pelicanlaw19.SealBody -/
noncomputable def m6 : Body := fun Φ N as os =>
  let a0 := gS (zipN 0 as) 0
  let a1 := gS (zipN 0 as) 1
  let a2 := gS (zipN 0 as) 2
  let ob := zipN 0 os
  bndO (bx ob 88 a0) ob fun v1 ob =>
  bndO (bx ob 96 a1) ob fun v2 ob =>
  bndO (bx ob 104 a2) ob fun v3 ob =>
  bndO (ca0 Φ ob 176 false 8 []) ob fun v4 ob =>
  bnd (lN ob 32 v1) fun v5 =>
  bnd (lN ob 40 v2) fun v6 =>
  bndO (ca0 Φ ob 208 false 13 [v5, v6]) ob fun v7 ob =>
  bnd (ext 0 v7) fun v8 =>
  bnd (ext 1 v7) fun v9 =>
  bndO (al ob 128 [.blob 32 (List.replicate 32 (.i .u8 0))]) ob fun v10 ob =>
  bndO (st ob 32 v10 v8) ob fun _ ob =>
  bnd (lN ob 32 v1) fun v11 =>
  bnd (lN ob 40 v3) fun v12 =>
  bndO (ca0 Φ ob 256 false 13 [v11, v12]) ob fun v13 ob =>
  bnd (ext 0 v13) fun v14 =>
  bnd (ext 1 v13) fun v15 =>
  bndO (al ob 144 [.blob 32 (List.replicate 32 (.i .u8 0))]) ob fun v16 ob =>
  bndO (st ob 32 v16 v14) ob fun _ ob =>
  bnd (lN ob 40 v2) fun v17 =>
  bndO (ca0 Φ ob 288 false 10 [v17]) ob fun v18 ob =>
  bnd (lN ob 40 v3) fun v19 =>
  bndO (ca0 Φ ob 304 false 10 [v19]) ob fun v20 ob =>
  bnd (uO .not v4) fun v21 =>
  bnd (gd v21 false (some v9)) fun v22 =>
  bnd (gd v21 false (some v18)) fun v23 =>
  bnd (gd v21 false (len v23)) fun v24 =>
  bnd (gd v21 false (bi .gtr v24 (.i .i64 0))) fun v25 =>
  bnd (gd v21 false (biB .neq v22 v25)) fun v26 =>
  bnd (pk v21 (.b true) v26) fun v27 =>
  bnd (gd v27 false (some v9)) fun v28 =>
  bnd (gd v27 false (some v28)) fun v29 =>
  bnd (gd v29 true (lN ob 32 v10)) fun v30 =>
  bndO (gdO v29 true (slc ob (.arr 32) v1 none none none)) ob fun v31 ob =>
  bnd (gd v29 true (some v18)) fun v32 =>
  bndO (gdO v29 true (ca0 Φ ob 432 false 11 [v31, v32])) ob fun v33 ob =>
  bnd (gd v29 true (eAr true 32 v30 v33)) fun v34 =>
  bnd (gd v27 false (pk v29 v34 (.b false))) fun v35 =>
  bnd (pk v27 (.b true) v35) fun v36 =>
  br v36 (
   fin ob os.length [0] [(.b false)]
  ) (
   bnd (uO .not v9) fun v37 =>
   bnd (gd v37 false (some v15)) fun v38 =>
   bnd (gd v37 false (uO .not v38)) fun v39 =>
   bnd (pk v37 (.b true) v39) fun v40 =>
   bnd (gd v40 false (lN ob 32 v10)) fun v41 =>
   bnd (gd v40 false (lN ob 32 v16)) fun v42 =>
   bnd (gd v40 false (eAr true 32 v41 v42)) fun v43 =>
   bnd (pk v40 (.b true) v43) fun v44 =>
   bnd (gd v44 false (some v18)) fun v45 =>
   bnd (gd v44 false (b2s ob v45)) fun v46 =>
   bnd (gd v44 false (some v20)) fun v47 =>
   bnd (gd v44 false (b2s ob v47)) fun v48 =>
   bnd (gd v44 false (bi .eql v46 v48)) fun v49 =>
   bnd (pk v44 (.b true) v49) fun v50 =>
   br v50 (
    fin ob os.length [0] [(.b true)]
   ) (
    bndO (slc ob (.arr 32) v1 none none none) ob fun v51 ob =>
    bndO (ca0 Φ ob 624 false 11 [v51, v18]) ob fun v52 ob =>
    bndO (slc ob (.arr 32) v1 none none none) ob fun v53 ob =>
    bndO (ca0 Φ ob 648 false 11 [v53, v20]) ob fun v54 ob =>
    bnd (eAr false 32 v52 v54) fun v55 =>
    fin ob os.length [0] [v55]
   )
  )

def ann6 : Nat → Option Hd := fun _ => none
def lab6 : Nat → Option Hd := fun _ => none
/- pelican/pelicanlaw19.SealBack -/
noncomputable def m7 : Body := fun Φ N as os =>
  let a0 := gS (zipN 0 as) 0
  let a1 := gS (zipN 0 as) 1
  let a2 := gS (zipN 0 as) 2
  let ob := zipN 0 os
  bndO (bx ob 88 a0) ob fun v1 ob =>
  bndO (bx ob 96 a1) ob fun v2 ob =>
  bndO (bx ob 104 a2) ob fun v3 ob =>
  bndO (ca0 Φ ob 200 false 8 []) ob fun v4 ob =>
  bnd (lN ob 32 v1) fun v5 =>
  bnd (lN ob 40 v2) fun v6 =>
  bndO (ca0 Φ ob 232 false 12 [v5, v6]) ob fun v7 ob =>
  bnd (ext 0 v7) fun v8 =>
  bnd (ext 1 v7) fun v9 =>
  bndO (al ob 128 [.i .i64 0, .i .i64 0, .i .u64 0, .i .u64 0, .i .i64 0, .i .u64 0, .i .i64 0, .i .i64 0, .blob 32 (List.replicate 32 (.i .u8 0))]) ob fun v10 ob =>
  bndO (st ob 40 v10 v8) ob fun _ ob =>
  bnd (uO .not v4) fun v11 =>
  bnd (gd v11 false (some v9)) fun v12 =>
  bnd (gd v11 false (uO .not v12)) fun v13 =>
  bnd (pk v11 (.b true) v13) fun v14 =>
  br v14 (
   bnd (gd v4 true (lN ob 40 v10)) fun v15 =>
   bnd (gd v4 true (bld [.i .i64 0, .i .i64 0, .i .u64 0, .i .u64 0, .i .i64 0, .i .u64 0, .i .i64 0, .i .i64 0, .blob 32 (List.replicate 32 (.i .u8 0))] [])) fun v16 =>
   bnd (gd v4 true (eSt false [.i, .i, .i, .i, .i, .i, .i, .i, .a 32] v15 v16)) fun v17 =>
   bnd (pk v4 v17 (.b false)) fun v18 =>
   bnd (gd v18 true (lN ob 32 v1)) fun v19 =>
   bnd (gd v18 true (lN ob 40 v2)) fun v20 =>
   bndO (gdO v18 true (ca0 Φ ob 376 false 9 [v19, v20])) ob fun v21 ob =>
   bnd (gd v18 true (bi .eql v21 (.i .i64 3))) fun v22 =>
   bnd (pk v18 v22 (.b false)) fun v23 =>
   fin ob os.length [0] [v23]
  ) (
   bnd (lN ob 40 v10) fun v24 =>
   bndO (ca0 Φ ob 416 false 17 [v24]) ob fun v25 ob =>
   bnd (ext 0 v25) fun v26 =>
   bnd (ext 1 v25) fun v27 =>
   bndO (ca0 Φ ob 456 false 18 [v26]) ob fun v28 ob =>
   bnd (ext 0 v28) fun v29 =>
   bnd (ext 1 v28) fun v30 =>
   bndO (al ob 160 [.i .i64 0, .i .i64 0, .i .u64 0, .i .u64 0, .i .i64 0, .i .u64 0, .i .i64 0, .i .i64 0, .blob 32 (List.replicate 32 (.i .u8 0))]) ob fun v31 ob =>
   bndO (st ob 40 v31 v29) ob fun _ ob =>
   bnd (lN ob 32 v1) fun v32 =>
   bnd (lN ob 40 v10) fun v33 =>
   bndO (ca0 Φ ob 504 false 12 [v32, v33]) ob fun v34 ob =>
   bnd (ext 0 v34) fun v35 =>
   bnd (ext 1 v34) fun v36 =>
   bndO (al ob 176 [.i .i64 0, .i .i64 0, .i .u64 0, .i .u64 0, .i .i64 0, .i .u64 0, .i .i64 0, .i .i64 0, .blob 32 (List.replicate 32 (.i .u8 0))]) ob fun v37 ob =>
   bndO (st ob 40 v37 v35) ob fun _ ob =>
   bnd (lN ob 40 v10) fun v38 =>
   bndO (al ob 192 [.i .i64 0, .i .i64 0, .i .u64 0, .i .u64 0, .i .i64 0, .i .u64 0, .i .i64 0, .i .i64 0, .blob 32 (List.replicate 32 (.i .u8 0))]) ob fun v39 ob =>
   bndO (st ob 40 v39 v38) ob fun _ ob =>
   bnd (lN ob 32 v3) fun v40 =>
   bnd (fA 8 v39) fun v41 =>
   bndO (st ob 32 v41 v40) ob fun _ ob =>
   bnd (gd v27 true (some v30)) fun v42 =>
   bnd (gd v27 true (bi .eql v42 (.i .i64 0))) fun v43 =>
   bnd (pk v27 v43 (.b false)) fun v44 =>
   bnd (gd v44 true (lN ob 40 v31)) fun v45 =>
   bnd (gd v44 true (lN ob 40 v10)) fun v46 =>
   bnd (gd v44 true (eSt false [.i, .i, .i, .i, .i, .i, .i, .i, .a 32] v45 v46)) fun v47 =>
   bnd (pk v44 v47 (.b false)) fun v48 =>
   bnd (gd v48 true (some v36)) fun v49 =>
   bnd (pk v48 v49 (.b false)) fun v50 =>
   bnd (gd v50 true (lN ob 40 v37)) fun v51 =>
   bnd (gd v50 true (lN ob 40 v10)) fun v52 =>
   bnd (gd v50 true (eSt false [.i, .i, .i, .i, .i, .i, .i, .i, .a 32] v51 v52)) fun v53 =>
   bnd (pk v50 v53 (.b false)) fun v54 =>
   bnd (gd v54 true (lN ob 32 v1)) fun v55 =>
   bnd (gd v54 true (lN ob 40 v10)) fun v56 =>
   bndO (gdO v54 true (ca0 Φ ob 720 false 9 [v55, v56])) ob fun v57 ob =>
   bnd (gd v54 true (bi .eql v57 (.i .i64 0))) fun v58 =>
   bnd (pk v54 v58 (.b false)) fun v59 =>
   bnd (gd v59 true (lN ob 32 v1)) fun v60 =>
   bnd (gd v59 true (lN ob 40 v39)) fun v61 =>
   bndO (gdO v59 true (ca0 Φ ob 768 false 9 [v60, v61])) ob fun v62 ob =>
   bnd (gd v59 true (bi .eql v62 (.i .i64 0))) fun v63 =>
   bnd (gd v59 true (lN ob 32 v3)) fun v64 =>
   bnd (gd v59 true (fA 8 v10)) fun v65 =>
   bnd (gd v59 true (lN ob 32 v65)) fun v66 =>
   bnd (gd v59 true (eAr false 32 v64 v66)) fun v67 =>
   bnd (gd v59 true (biB .eql v63 v67)) fun v68 =>
   bnd (pk v59 v68 (.b false)) fun v69 =>
   fin ob os.length [0] [v69]
  )

def ann7 : Nat → Option Hd := fun _ => none
def lab7 : Nat → Option Hd := fun _ => none
/- pelican/pelicanlaw19.awake -/
noncomputable def m8 : Body := fun Φ N as os =>
  let ob := zipN 0 os
  bnd (bld [.blob 32 (List.replicate 32 (.i .u8 0))] [(0, 1, (.i .u8 1))]) fun v1 =>
  bnd (bld [.i .i64 0, .i .i64 0, .i .u64 0, .i .u64 0, .i .i64 0, .i .u64 0, .i .i64 0, .i .i64 0, .blob 32 (List.replicate 32 (.i .u8 0))] [(0, 1, (.i .i64 2)), (2, 1, (.i .u64 5))]) fun v2 =>
  bndO (ca0 Φ ob 144 false 12 [v1, v2]) ob fun v3 ob =>
  bnd (ext 0 v3) fun v4 =>
  bnd (ext 1 v3) fun v5 =>
  bndO (al ob 72 [.i .i64 0, .i .i64 0, .i .u64 0, .i .u64 0, .i .i64 0, .i .u64 0, .i .i64 0, .i .i64 0, .blob 32 (List.replicate 32 (.i .u8 0))]) ob fun v6 ob =>
  bndO (st ob 40 v6 v4) ob fun _ ob =>
  bnd (bld [.blob 32 (List.replicate 32 (.i .u8 0))] [(0, 1, (.i .u8 1))]) fun v7 =>
  bnd (lN ob 40 v6) fun v8 =>
  bndO (ca0 Φ ob 192 false 12 [v7, v8]) ob fun v9 ob =>
  bnd (ext 0 v9) fun v10 =>
  bnd (ext 1 v9) fun v11 =>
  bndO (al ob 88 [.i .i64 0, .i .i64 0, .i .u64 0, .i .u64 0, .i .i64 0, .i .u64 0, .i .i64 0, .i .i64 0, .blob 32 (List.replicate 32 (.i .u8 0))]) ob fun v12 ob =>
  bndO (st ob 40 v12 v10) ob fun _ ob =>
  bnd (bld [.blob 32 (List.replicate 32 (.i .u8 0))] [(0, 1, (.i .u8 1))]) fun v13 =>
  bnd (bld [.i .i64 0, .i .i64 0, .i .u64 0, .i .u64 0, .i .i64 0, .i .u64 0, .i .i64 0, .i .i64 0, .blob 32 (List.replicate 32 (.i .u8 0))] []) fun v14 =>
  bndO (ca0 Φ ob 240 false 12 [v13, v14]) ob fun v15 ob =>
  bnd (ext 0 v15) fun v16 =>
  bnd (ext 1 v15) fun v17 =>
  bndO (al ob 104 [.i .i64 0, .i .i64 0, .i .u64 0, .i .u64 0, .i .i64 0, .i .u64 0, .i .i64 0, .i .i64 0, .blob 32 (List.replicate 32 (.i .u8 0))]) ob fun v18 ob =>
  bndO (st ob 40 v18 v16) ob fun _ ob =>
  bnd (gd v5 true (some v11)) fun v19 =>
  bnd (pk v5 v19 (.b false)) fun v20 =>
  bnd (gd v20 true (lN ob 40 v6)) fun v21 =>
  bnd (gd v20 true (lN ob 40 v12)) fun v22 =>
  bnd (gd v20 true (eSt false [.i, .i, .i, .i, .i, .i, .i, .i, .a 32] v21 v22)) fun v23 =>
  bnd (pk v20 v23 (.b false)) fun v24 =>
  bnd (gd v24 true (some v17)) fun v25 =>
  bnd (gd v24 true (uO .not v25)) fun v26 =>
  bnd (pk v24 v26 (.b false)) fun v27 =>
  bnd (gd v27 true (bld [.blob 32 (List.replicate 32 (.i .u8 0))] [(0, 1, (.i .u8 1))])) fun v28 =>
  bnd (gd v27 true (lN ob 40 v6)) fun v29 =>
  bndO (gdO v27 true (ca0 Φ ob 392 false 9 [v28, v29])) ob fun v30 ob =>
  bnd (gd v27 true (bi .eql v30 (.i .i64 0))) fun v31 =>
  bnd (pk v27 v31 (.b false)) fun v32 =>
  bnd (gd v32 true (bld [.blob 32 (List.replicate 32 (.i .u8 0))] [(0, 1, (.i .u8 1))])) fun v33 =>
  bnd (gd v32 true (bld [.i .i64 0, .i .i64 0, .i .u64 0, .i .u64 0, .i .i64 0, .i .u64 0, .i .i64 0, .i .i64 0, .blob 32 (List.replicate 32 (.i .u8 0))] [])) fun v34 =>
  bndO (gdO v32 true (ca0 Φ ob 440 false 9 [v33, v34])) ob fun v35 ob =>
  bnd (gd v32 true (bi .eql v35 (.i .i64 3))) fun v36 =>
  bnd (pk v32 v36 (.b false)) fun v37 =>
  fin ob os.length [0] [v37]

def ann8 : Nat → Option Hd := fun _ => none
def lab8 : Nat → Option Hd := fun _ => none
/- pelican/seal.Check -/
noncomputable def m9 : Body := fun Φ N as os =>
  let a0 := gS (zipN 0 as) 0
  let a1 := gS (zipN 0 as) 1
  let ob := zipN 0 os
  bndO (bx ob 80 a0) ob fun v1 ob =>
  bndO (bx ob 88 a1) ob fun v2 ob =>
  bnd (lN ob 32 v1) fun v3 =>
  bnd (lN ob 40 v2) fun v4 =>
  bndO (ca0 Φ ob 144 false 12 [v3, v4]) ob fun v5 ob =>
  bnd (ext 0 v5) fun v6 =>
  bnd (ext 1 v5) fun v7 =>
  bndO (al ob 104 [.i .i64 0, .i .i64 0, .i .u64 0, .i .u64 0, .i .i64 0, .i .u64 0, .i .i64 0, .i .i64 0, .blob 32 (List.replicate 32 (.i .u8 0))]) ob fun v8 ob =>
  bndO (st ob 40 v8 v6) ob fun _ ob =>
  bnd (uO .not v7) fun v9 =>
  bnd (gd v9 false (lN ob 40 v8)) fun v10 =>
  bnd (gd v9 false (bld [.i .i64 0, .i .i64 0, .i .u64 0, .i .u64 0, .i .i64 0, .i .u64 0, .i .i64 0, .i .i64 0, .blob 32 (List.replicate 32 (.i .u8 0))] [])) fun v11 =>
  bnd (gd v9 false (eSt false [.i, .i, .i, .i, .i, .i, .i, .i, .a 32] v10 v11)) fun v12 =>
  bnd (pk v9 (.b true) v12) fun v13 =>
  br v13 (
   fin ob os.length [0] [(.i .i64 3)]
  ) (
   bnd (fA 8 v8) fun v14 =>
   bndO (slc ob (.arr 32) v14 none none none) ob fun v15 ob =>
   bnd (fA 8 v2) fun v16 =>
   bndO (slc ob (.arr 32) v16 none none none) ob fun v17 ob =>
   bndO (ca0 Φ ob 256 false 19 [v15, v17]) ob fun v18 ob =>
   bnd (uO .not v18) fun v19 =>
   br v19 (
    fin ob os.length [0] [(.i .i64 7)]
   ) (
    fin ob os.length [0] [(.i .i64 0)]
   )
  )

def ann9 : Nat → Option Hd := fun _ => none
def lab9 : Nat → Option Hd := fun _ => none
/- pelican/frame.Body -/
noncomputable def m10 : Body := fun Φ N as os =>
  let a0 := gS (zipN 0 as) 0
  let ob := zipN 0 os
  bndO (bx ob 72 a0) ob fun v1 ob =>
  bnd (lN ob 40 v1) fun v2 =>
  bndO (ca0 Φ ob 112 false 20 [v2]) ob fun v3 ob =>
  bnd (uO .not v3) fun v4 =>
  br v4 (
   fin ob os.length [1] [(.e true)]
  ) (
   bnd (lN ob 40 v1) fun v5 =>
   bndO (ca0 Φ ob 144 false 21 [v5]) ob fun v6 ob =>
   bnd (ext 0 v6) fun v7 =>
   bnd (ext 1 v6) fun v8 =>
   bnd (uO .not v8) fun v9 =>
   br v9 (
    fin ob os.length [1] [(.e true)]
   ) (
    fin ob os.length [1] [v7]
   )
  )

def ann10 : Nat → Option Hd := fun _ => none
def lab10 : Nat → Option Hd := fun _ => none
/- pelican/mac.Tag -/
noncomputable def m11 : Body := fun Φ N as os =>
  let a0 := gS (zipN 0 as) 0
  let a1 := gS (zipN 0 as) 1
  let ob := zipN 0 os
  bndO (al ob 96 [.blob 32 (List.replicate 32 (.i .u8 0))]) ob fun v1 ob =>
  bndO (ca0 Φ ob 136 false 22 [a0]) ob fun v2 ob =>
  bndO (al ob 104 [.e true]) ob fun v3 ob =>
  bndO (st ob 1 v3 v2) ob fun _ ob =>
  bndO (cav Φ ob 160 false (.fn 23 [] [v3]) [(.i .u8 54)]) ob fun v4 ob =>
  bndO (ca0 Φ ob 176 false 24 [v4, a1]) ob fun v5 ob =>
  bndO (ca0 Φ ob 184 false 26 [v5]) ob fun v6 ob =>
  bndO (al ob 120 [.blob 32 (List.replicate 32 (.i .u8 0))]) ob fun v7 ob =>
  bndO (st ob 32 v7 v6) ob fun _ ob =>
  bndO (cav Φ ob 200 false (.fn 23 [] [v3]) [(.i .u8 92)]) ob fun v8 ob =>
  bndO (slc ob (.arr 32) v7 none none none) ob fun v9 ob =>
  bndO (ca0 Φ ob 216 false 24 [v8, v9]) ob fun v10 ob =>
  bndO (ca0 Φ ob 224 false 26 [v10]) ob fun v11 ob =>
  bndO (st ob 32 v1 v11) ob fun _ ob =>
  bnd (lN ob 32 v1) fun v12 =>
  fin ob os.length [0] [v12]

def ann11 : Nat → Option Hd := fun _ => none
def lab11 : Nat → Option Hd := fun _ => none
/- pelican/seal.Seal -/
noncomputable def m12 : Body := fun Φ N as os =>
  let a0 := gS (zipN 0 as) 0
  let a1 := gS (zipN 0 as) 1
  let ob := zipN 0 os
  bndO (bx ob 80 a0) ob fun v1 ob =>
  bndO (bx ob 88 a1) ob fun v2 ob =>
  bndO (al ob 96 [.i .i64 0, .i .i64 0, .i .u64 0, .i .u64 0, .i .i64 0, .i .u64 0, .i .i64 0, .i .i64 0, .blob 32 (List.replicate 32 (.i .u8 0))]) ob fun v3 ob =>
  bnd (lN ob 32 v1) fun v4 =>
  bnd (lN ob 40 v2) fun v5 =>
  bndO (ca Φ ob 152 false 28 [v5, (.fn 27 [v4] [])]) ob fun v6 ob =>
  bnd (ext 0 v6) fun v7 =>
  bnd (ext 1 v6) fun v8 =>
  bndO (st ob 40 v3 v7) ob fun _ ob =>
  bnd (lN ob 40 v3) fun v9 =>
  fin ob os.length [0, 0] [v9, v8]

def ann12 : Nat → Option Hd := fun _ => none
def lab12 : Nat → Option Hd := fun _ => none
/- pelican/seal.Tag -/
noncomputable def m13 : Body := fun Φ N as os =>
  let a0 := gS (zipN 0 as) 0
  let a1 := gS (zipN 0 as) 1
  let ob := zipN 0 os
  bndO (bx ob 80 a0) ob fun v1 ob =>
  bndO (bx ob 88 a1) ob fun v2 ob =>
  bndO (al ob 96 [.blob 32 (List.replicate 32 (.i .u8 0))]) ob fun v3 ob =>
  bnd (lN ob 32 v1) fun v4 =>
  bnd (lN ob 40 v2) fun v5 =>
  bndO (ca0 Φ ob 128 false 27 [v4, v5]) ob fun v6 ob =>
  bnd (ext 0 v6) fun v7 =>
  bnd (ext 1 v6) fun v8 =>
  bndO (st ob 32 v3 v7) ob fun _ ob =>
  bnd (lN ob 32 v3) fun v9 =>
  fin ob os.length [0, 0] [v9, v8]

def ann13 : Nat → Option Hd := fun _ => none
def lab13 : Nat → Option Hd := fun _ => none
/- pelican/pelicanref19.Tag -/
noncomputable def m14 : Body := fun Φ N as os =>
  let a0 := gS (zipN 0 as) 0
  let a1 := gS (zipN 0 as) 1
  let ob := zipN 0 os
  bndO (bx ob 80 a0) ob fun v1 ob =>
  bndO (bx ob 88 a1) ob fun v2 ob =>
  bndO (al ob 96 [.blob 32 (List.replicate 32 (.i .u8 0))]) ob fun v3 ob =>
  bnd (lN ob 40 v2) fun v4 =>
  bndO (ca0 Φ ob 128 false 29 [v4]) ob fun v5 ob =>
  bnd (len v5) fun v6 =>
  bnd (bi .eql v6 (.i .i64 0)) fun v7 =>
  br v7 (
   bnd (bld [.blob 32 (List.replicate 32 (.i .u8 0))] []) fun v8 =>
   bndO (st ob 32 v3 v8) ob fun _ ob =>
   bnd (lN ob 32 v3) fun v9 =>
   fin ob os.length [0, 0] [v9, (.b false)]
  ) (
   bndO (slc ob (.arr 32) v1 none none none) ob fun v10 ob =>
   bndO (ca0 Φ ob 184 false 30 [v10, v5]) ob fun v11 ob =>
   bndO (st ob 32 v3 v11) ob fun _ ob =>
   bnd (lN ob 32 v3) fun v12 =>
   fin ob os.length [0, 0] [v12, (.b true)]
  )

def ann14 : Nat → Option Hd := fun _ => none
def lab14 : Nat → Option Hd := fun _ => none
/- pelican/pelicanref19.Seal -/
noncomputable def m15 : Body := fun Φ N as os =>
  let a0 := gS (zipN 0 as) 0
  let a1 := gS (zipN 0 as) 1
  let ob := zipN 0 os
  bndO (bx ob 80 a0) ob fun v1 ob =>
  bndO (bx ob 88 a1) ob fun v2 ob =>
  bndO (al ob 96 [.i .i64 0, .i .i64 0, .i .u64 0, .i .u64 0, .i .i64 0, .i .u64 0, .i .i64 0, .i .i64 0, .blob 32 (List.replicate 32 (.i .u8 0))]) ob fun v3 ob =>
  bnd (lN ob 32 v1) fun v4 =>
  bnd (lN ob 40 v2) fun v5 =>
  bndO (ca0 Φ ob 152 false 14 [v4, v5]) ob fun v6 ob =>
  bnd (ext 0 v6) fun v7 =>
  bnd (ext 1 v6) fun v8 =>
  bndO (al ob 112 [.blob 32 (List.replicate 32 (.i .u8 0))]) ob fun v9 ob =>
  bndO (st ob 32 v9 v7) ob fun _ ob =>
  bnd (uO .not v8) fun v10 =>
  br v10 (
   bnd (bld [.i .i64 0, .i .i64 0, .i .u64 0, .i .u64 0, .i .i64 0, .i .u64 0, .i .i64 0, .i .i64 0, .blob 32 (List.replicate 32 (.i .u8 0))] []) fun v11 =>
   bndO (st ob 40 v3 v11) ob fun _ ob =>
   bnd (lN ob 40 v3) fun v12 =>
   fin ob os.length [0, 0] [v12, (.b false)]
  ) (
   bnd (lN ob 32 v9) fun v13 =>
   bnd (fA 8 v2) fun v14 =>
   bndO (st ob 32 v14 v13) ob fun _ ob =>
   bnd (lN ob 40 v2) fun v15 =>
   bndO (st ob 40 v3 v15) ob fun _ ob =>
   bnd (lN ob 40 v3) fun v16 =>
   fin ob os.length [0, 0] [v16, (.b true)]
  )

def ann15 : Nat → Option Hd := fun _ => none
def lab15 : Nat → Option Hd := fun _ => none
/- pelican/pelicanref19.Check -/
noncomputable def m16 : Body := fun Φ N as os =>
  let a0 := gS (zipN 0 as) 0
  let a1 := gS (zipN 0 as) 1
  let ob := zipN 0 os
  bndO (bx ob 80 a0) ob fun v1 ob =>
  bndO (bx ob 88 a1) ob fun v2 ob =>
  bnd (lN ob 32 v1) fun v3 =>
  bnd (lN ob 40 v2) fun v4 =>
  bndO (ca0 Φ ob 144 false 14 [v3, v4]) ob fun v5 ob =>
  bnd (ext 0 v5) fun v6 =>
  bnd (ext 1 v5) fun v7 =>
  bndO (al ob 104 [.blob 32 (List.replicate 32 (.i .u8 0))]) ob fun v8 ob =>
  bndO (st ob 32 v8 v6) ob fun _ ob =>
  bnd (uO .not v7) fun v9 =>
  br v9 (
   fin ob os.length [0] [(.i .i64 3)]
  ) (
   bnd (lN ob 32 v8) fun v10 =>
   bnd (fA 8 v2) fun v11 =>
   bnd (lN ob 32 v11) fun v12 =>
   bnd (eAr true 32 v10 v12) fun v13 =>
   br v13 (
    fin ob os.length [0] [(.i .i64 7)]
   ) (
    fin ob os.length [0] [(.i .i64 0)]
   )
  )

def ann16 : Nat → Option Hd := fun _ => none
def lab16 : Nat → Option Hd := fun _ => none
/- pelican/frame.Put -/
noncomputable def m17 : Body := fun Φ N as os =>
  let a0 := gS (zipN 0 as) 0
  let ob := zipN 0 os
  bndO (bx ob 72 a0) ob fun v1 ob =>
  bnd (lN ob 40 v1) fun v2 =>
  bndO (ca0 Φ ob 120 false 20 [v2]) ob fun v3 ob =>
  bnd (uO .not v3) fun v4 =>
  br v4 (
   fin ob os.length [1, 0] [(.e true), (.b false)]
  ) (
   bnd (lN ob 40 v1) fun v5 =>
   bndO (ca0 Φ ob 152 false 21 [v5]) ob fun v6 ob =>
   bnd (ext 0 v6) fun v7 =>
   bnd (ext 1 v6) fun v8 =>
   br v8 (
    bnd (fA 8 v1) fun v9 =>
    bndO (slc ob (.arr 32) v9 none none none) ob fun v10 ob =>
    bndO (ap ob 208 1 v7 v10) ob fun v11 ob =>
    fin ob os.length [1, 0] [v11, (.b true)]
   ) (
    fin ob os.length [1, 0] [v7, (.b true)]
   )
  )

def ann17 : Nat → Option Hd := fun _ => none
def lab17 : Nat → Option Hd := fun _ => none
/- pelican/frame.Read -/
noncomputable def m18b0 (Φ : Sem') (N : Nat) (os : List Obj') (g : SL → OB → Option R) (sl : SL) (ob : OB) : Option R :=
  bnd (bi .lss (gS sl 44) (gS sl 43)) fun v26 =>
  br v26 (
   bnd (xS ob 3 (gS sl 42) (gS sl 44)) fun v27 =>
   bnd (lN ob 3 v27) fun v28 =>
   bndO (al ob 144 [.np, .np, .i .i64 0]) ob fun v29 ob =>
   bndO (st ob 3 v29 v28) ob fun _ ob =>
   bnd (fA 2 v29) fun v30 =>
   bnd (l1 ob v30) fun v31 =>
   bndO (ca0 Φ ob 488 false 33 [(gS sl 0), (gS sl 8), v31]) ob fun v32 ob =>
   bnd (ext 0 v32) fun v33 =>
   bnd (ext 1 v32) fun v34 =>
   bnd (bi .eql v34 (.i .i64 (-1))) fun v35 =>
   br v35 (
    bnd (bld [.i .i64 0, .i .i64 0, .i .u64 0, .i .u64 0, .i .i64 0, .i .u64 0, .i .i64 0, .i .i64 0, .blob 32 (List.replicate 32 (.i .u8 0))] []) fun v36 =>
    bndO (st ob 40 (gS sl 2) v36) ob fun _ ob =>
    bnd (lN ob 40 (gS sl 2)) fun v37 =>
    fin ob os.length [0, 0] [v37, (.i .i64 3)]
   ) (
    bnd (fA 0 v29) fun v38 =>
    bnd (l1 ob v38) fun v39 =>
    bnd (eNp true v39) fun v40 =>
    br v40 (
     bnd (fA 0 v29) fun v41 =>
     bnd (l1 ob v41) fun v42 =>
     bnd (cv .i64 v33) fun v43 =>
     bnd (nc v42) fun v44 =>
     bndO (st ob 1 v44 v43) ob fun _ ob =>
     bnd (bi .add (gS sl 44) (.i .i64 1)) fun v45 =>
     bnd (head [] [0, 2, 5, 7, 8, 42, 43, 44] [80, 104, 376] [(0, (gS sl 0)), (2, (gS sl 2)), (5, (gS sl 5)), (7, (gS sl 7)), (8, v34), (42, (gS sl 42)), (43, (gS sl 43)), (44, v45)] ob) fun x => g x.1 x.2
    ) (
     bnd (fA 1 v29) fun v46 =>
     bnd (l1 ob v46) fun v47 =>
     bnd (nc v47) fun v48 =>
     bndO (st ob 1 v48 v33) ob fun _ ob =>
     bnd (bi .add (gS sl 44) (.i .i64 1)) fun v49 =>
     bnd (head [] [0, 2, 5, 7, 8, 42, 43, 44] [80, 104, 376] [(0, (gS sl 0)), (2, (gS sl 2)), (5, (gS sl 5)), (7, (gS sl 7)), (8, v34), (42, (gS sl 42)), (43, (gS sl 43)), (44, v49)] ob) fun x => g x.1 x.2
    )
   )
  ) (
   br (gS sl 7) (
    bnd (fA 8 (gS sl 5)) fun v50 =>
    bndO (slc ob (.arr 32) v50 none none none) ob fun v51 ob =>
    bndO (slc ob (.slice 1) (gS sl 0) (some (gS sl 8)) none none) ob fun v52 ob =>
    bndO (cpy ob 1 v51 v52) ob fun v53 ob =>
    bnd (bi .add (gS sl 8) v53) fun v54 =>
    bnd (lN ob 40 (gS sl 5)) fun v55 =>
    bndO (ca0 Φ ob 736 false 17 [v55]) ob fun v56 ob =>
    bnd (ext 0 v56) fun v57 =>
    bnd (ext 1 v56) fun v58 =>
    bnd (uO .not v58) fun v59 =>
    bnd (gd v59 false (some v54)) fun v60 =>
    bnd (gd v59 false (some (gS sl 0))) fun v61 =>
    bnd (gd v59 false (len v61)) fun v62 =>
    bnd (gd v59 false (bi .neq v60 v62)) fun v63 =>
    bnd (pk v59 (.b true) v63) fun v64 =>
    bnd (gd v64 false (some v57)) fun v65 =>
    bnd (gd v64 false (some (gS sl 0))) fun v66 =>
    bndO (gdO v64 false (ca0 Φ ob 848 false 34 [v65, v66])) ob fun v67 ob =>
    bnd (gd v64 false (uO .not v67)) fun v68 =>
    bnd (pk v64 (.b true) v68) fun v69 =>
    br v69 (
     bnd (bld [.i .i64 0, .i .i64 0, .i .u64 0, .i .u64 0, .i .i64 0, .i .u64 0, .i .i64 0, .i .i64 0, .blob 32 (List.replicate 32 (.i .u8 0))] []) fun v70 =>
     bndO (st ob 40 (gS sl 2) v70) ob fun _ ob =>
     bnd (lN ob 40 (gS sl 2)) fun v71 =>
     fin ob os.length [0, 0] [v71, (.i .i64 3)]
    ) (
     bnd (lN ob 40 (gS sl 5)) fun v72 =>
     bndO (st ob 40 (gS sl 2) v72) ob fun _ ob =>
     bnd (lN ob 40 (gS sl 2)) fun v73 =>
     fin ob os.length [0, 0] [v73, (.i .i64 0)]
    )
   ) (
    bnd (lN ob 40 (gS sl 5)) fun v74 =>
    bndO (ca0 Φ ob 736 false 17 [v74]) ob fun v75 ob =>
    bnd (ext 0 v75) fun v76 =>
    bnd (ext 1 v75) fun v77 =>
    bnd (uO .not v77) fun v78 =>
    bnd (gd v78 false (some (gS sl 8))) fun v79 =>
    bnd (gd v78 false (some (gS sl 0))) fun v80 =>
    bnd (gd v78 false (len v80)) fun v81 =>
    bnd (gd v78 false (bi .neq v79 v81)) fun v82 =>
    bnd (pk v78 (.b true) v82) fun v83 =>
    bnd (gd v83 false (some v76)) fun v84 =>
    bnd (gd v83 false (some (gS sl 0))) fun v85 =>
    bndO (gdO v83 false (ca0 Φ ob 848 false 34 [v84, v85])) ob fun v86 ob =>
    bnd (gd v83 false (uO .not v86)) fun v87 =>
    bnd (pk v83 (.b true) v87) fun v88 =>
    br v88 (
     bnd (bld [.i .i64 0, .i .i64 0, .i .u64 0, .i .u64 0, .i .i64 0, .i .u64 0, .i .i64 0, .i .i64 0, .blob 32 (List.replicate 32 (.i .u8 0))] []) fun v89 =>
     bndO (st ob 40 (gS sl 2) v89) ob fun _ ob =>
     bnd (lN ob 40 (gS sl 2)) fun v90 =>
     fin ob os.length [0, 0] [v90, (.i .i64 3)]
    ) (
     bnd (lN ob 40 (gS sl 5)) fun v91 =>
     bndO (st ob 40 (gS sl 2) v91) ob fun _ ob =>
     bnd (lN ob 40 (gS sl 2)) fun v92 =>
     fin ob os.length [0, 0] [v92, (.i .i64 0)]
    )
   )
  )
noncomputable def m18 : Body := fun Φ N as os =>
  let a0 := gS (zipN 0 as) 0
  let ob := zipN 0 os
  bndO (al ob 80 [.i .i64 0, .i .i64 0, .i .u64 0, .i .u64 0, .i .i64 0, .i .u64 0, .i .i64 0, .i .i64 0, .blob 32 (List.replicate 32 (.i .u8 0))]) ob fun v1 ob =>
  bnd (len a0) fun v2 =>
  bnd (bi .gtr v2 (.i .i64 64)) fun v3 =>
  br v3 (
   bnd (bld [.i .i64 0, .i .i64 0, .i .u64 0, .i .u64 0, .i .i64 0, .i .u64 0, .i .i64 0, .i .i64 0, .blob 32 (List.replicate 32 (.i .u8 0))] []) fun v4 =>
   bndO (st ob 40 v1 v4) ob fun _ ob =>
   bnd (lN ob 40 v1) fun v5 =>
   fin ob os.length [0, 0] [v5, (.i .i64 2)]
  ) (
   bndO (ca0 Φ ob 224 false 31 [a0]) ob fun v6 ob =>
   bnd (bi .eql v6 (.i .i64 (-1))) fun v7 =>
   br v7 (
    bnd (bld [.i .i64 0, .i .i64 0, .i .u64 0, .i .u64 0, .i .i64 0, .i .u64 0, .i .i64 0, .i .i64 0, .blob 32 (List.replicate 32 (.i .u8 0))] []) fun v8 =>
    bndO (st ob 40 v1 v8) ob fun _ ob =>
    bnd (lN ob 40 v1) fun v9 =>
    fin ob os.length [0, 0] [v9, (.i .i64 4)]
   ) (
    bnd (len a0) fun v10 =>
    bnd (bi .neq v6 v10) fun v11 =>
    bnd (gd v11 false (some v6)) fun v12 =>
    bnd (gd v11 false (bi .eql v12 (.i .i64 2))) fun v13 =>
    bnd (pk v11 (.b true) v13) fun v14 =>
    br v14 (
     bnd (bld [.i .i64 0, .i .i64 0, .i .u64 0, .i .u64 0, .i .i64 0, .i .u64 0, .i .i64 0, .i .i64 0, .blob 32 (List.replicate 32 (.i .u8 0))] []) fun v15 =>
     bndO (st ob 40 v1 v15) ob fun _ ob =>
     bnd (lN ob 40 v1) fun v16 =>
     fin ob os.length [0, 0] [v16, (.i .i64 3)]
    ) (
     bnd (xS ob 1 a0 (.i .i64 2)) fun v17 =>
     bnd (l1 ob v17) fun v18 =>
     bnd (cv .i64 v18) fun v19 =>
     bnd (bld [.i .i64 0, .i .i64 0, .i .u64 0, .i .u64 0, .i .i64 0, .i .u64 0, .i .i64 0, .i .i64 0, .blob 32 (List.replicate 32 (.i .u8 0))] [(0, 1, v19)]) fun v20 =>
     bndO (al ob 104 [.i .i64 0, .i .i64 0, .i .u64 0, .i .u64 0, .i .i64 0, .i .u64 0, .i .i64 0, .i .i64 0, .blob 32 (List.replicate 32 (.i .u8 0))]) ob fun v21 ob =>
     bndO (st ob 40 v21 v20) ob fun _ ob =>
     bndO (ca Φ ob 376 false 32 [v21]) ob fun v22 ob =>
     bnd (ext 0 v22) fun v23 =>
     bnd (ext 1 v22) fun v24 =>
     bnd (len v23) fun v25 =>
     bnd (head [] [0, 2, 5, 7, 8, 42, 43, 44] [80, 104, 376] [(0, a0), (2, v1), (5, v21), (7, v24), (8, (.i .i64 3)), (42, v23), (43, v25), (44, (.i .i64 0))] ob) fun x => loopC (m18b0 Φ N os) N x.1 x.2
    )
   )
  )

def ann18 : Nat → Option Hd
  | 12 => some ⟨[], [0, 2, 5, 7, 8, 42, 43, 44], [80, 104, 376], []⟩ | _ => none
def lab18 : Nat → Option Hd := fun _ => none
/- pelican/mac.Same -/
noncomputable def m19b0 (Φ : Sem') (N : Nat) (os : List Obj') (g : SL → OB → Option R) (sl : SL) (ob : OB) : Option R :=
  bnd (bi .lss (gS sl 14) (gS sl 13)) fun v5 =>
  br v5 (
   bnd (xS ob 1 (gS sl 0) (gS sl 14)) fun v6 =>
   bnd (l1 ob v6) fun v7 =>
   bnd (xS ob 1 (gS sl 1) (gS sl 14)) fun v8 =>
   bnd (l1 ob v8) fun v9 =>
   bnd (bi .xor v7 v9) fun v10 =>
   bnd (bi .or (gS sl 5) v10) fun v11 =>
   bnd (bi .add (gS sl 14) (.i .i64 1)) fun v12 =>
   bnd (head [] [0, 1, 5, 13, 14] [] [(0, (gS sl 0)), (1, (gS sl 1)), (5, v11), (13, (gS sl 13)), (14, v12)] ob) fun x => g x.1 x.2
  ) (
   bnd (bi .eql (gS sl 5) (.i .u8 0)) fun v13 =>
   fin ob os.length [0] [v13]
  )
noncomputable def m19 : Body := fun Φ N as os =>
  let a0 := gS (zipN 0 as) 0
  let a1 := gS (zipN 0 as) 1
  let ob := zipN 0 os
  bnd (len a0) fun v1 =>
  bnd (len a1) fun v2 =>
  bnd (bi .neq v1 v2) fun v3 =>
  br v3 (
   fin ob os.length [0] [(.b false)]
  ) (
   bnd (len a0) fun v4 =>
   bnd (head [] [0, 1, 5, 13, 14] [] [(0, a0), (1, a1), (5, (.i .u8 0)), (13, v4), (14, (.i .i64 0))] ob) fun x => loopC (m19b0 Φ N os) N x.1 x.2
  )

def ann19 : Nat → Option Hd
  | 5 => some ⟨[], [0, 1, 5, 13, 14], [], []⟩ | _ => none
def lab19 : Nat → Option Hd := fun _ => none
/- pelican/frame.plain -/
noncomputable def m20 : Body := fun Φ N as os =>
  let a0 := gS (zipN 0 as) 0
  let ob := zipN 0 os
  bndO (bx ob 72 a0) ob fun v1 ob =>
  bnd (fA 0 v1) fun v2 =>
  bnd (l1 ob v2) fun v3 =>
  bndO (ca0 Φ ob 112 false 36 [v3]) ob fun v4 ob =>
  bnd (gd v4 true (some (.fn 35 [] []))) fun v5 =>
  bnd (gd v4 true (fA 1 v1)) fun v6 =>
  bnd (gd v4 true (l1 ob v6)) fun v7 =>
  bndO (gdO v4 true (cav Φ ob 152 false v5 [v7, (.i .i64 255)])) ob fun v8 ob =>
  bnd (pk v4 v8 (.b false)) fun v9 =>
  bnd (gd v9 true (some (.fn 35 [] []))) fun v10 =>
  bnd (gd v9 true (fA 4 v1)) fun v11 =>
  bnd (gd v9 true (l1 ob v11)) fun v12 =>
  bndO (gdO v9 true (cav Φ ob 200 false v10 [v12, (.i .i64 1073741824)])) ob fun v13 ob =>
  bnd (pk v9 v13 (.b false)) fun v14 =>
  bnd (gd v14 true (some (.fn 35 [] []))) fun v15 =>
  bnd (gd v14 true (fA 6 v1)) fun v16 =>
  bnd (gd v14 true (l1 ob v16)) fun v17 =>
  bndO (gdO v14 true (cav Φ ob 248 false v15 [v17, (.i .i64 255)])) ob fun v18 ob =>
  bnd (pk v14 v18 (.b false)) fun v19 =>
  bnd (gd v19 true (some (.fn 35 [] []))) fun v20 =>
  bnd (gd v19 true (fA 7 v1)) fun v21 =>
  bnd (gd v19 true (l1 ob v21)) fun v22 =>
  bndO (gdO v19 true (cav Φ ob 296 false v20 [v22, (.i .i64 65535)])) ob fun v23 ob =>
  bnd (pk v19 v23 (.b false)) fun v24 =>
  bnd (gd v24 true (lN ob 40 v1)) fun v25 =>
  bndO (gdO v24 true (ca0 Φ ob 328 false 37 [v25])) ob fun v26 ob =>
  bnd (gd v24 true (lN ob 40 v1)) fun v27 =>
  bnd (gd v24 true (eSt false [.i, .i, .i, .i, .i, .i, .i, .i, .a 32] v26 v27)) fun v28 =>
  bnd (pk v24 v28 (.b false)) fun v29 =>
  fin ob os.length [0] [v29]

def ann20 : Nat → Option Hd := fun _ => none
def lab20 : Nat → Option Hd := fun _ => none
/- pelican/frame.text -/
noncomputable def m21b0 (Φ : Sem') (N : Nat) (os : List Obj') (g : SL → OB → Option R) (sl : SL) (ob : OB) : Option R :=
  bnd (bi .lss (gS sl 25) (gS sl 24)) fun v12 =>
  br v12 (
   bnd (xS ob 3 (gS sl 23) (gS sl 25)) fun v13 =>
   bnd (lN ob 3 v13) fun v14 =>
   bndO (al ob 136 [.np, .np, .i .i64 0]) ob fun v15 ob =>
   bndO (st ob 3 v15 v14) ob fun _ ob =>
   bnd (fA 2 v15) fun v16 =>
   bnd (l1 ob v16) fun v17 =>
   bnd (bld [.i .u64 0, .i .i64 0] [(1, 1, v17)]) fun v18 =>
   bndO (al ob 144 [.i .u64 0, .i .i64 0]) ob fun v19 ob =>
   bndO (st ob 2 v19 v18) ob fun _ ob =>
   bnd (fA 0 v15) fun v20 =>
   bnd (l1 ob v20) fun v21 =>
   bnd (eNp true v21) fun v22 =>
   br v22 (
    bnd (fA 0 v15) fun v23 =>
    bnd (l1 ob v23) fun v24 =>
    bnd (nc v24) fun v25 =>
    bnd (l1 ob v25) fun v26 =>
    bnd (cv .u64 v26) fun v27 =>
    bnd (fA 0 v19) fun v28 =>
    bndO (st ob 1 v28 v27) ob fun _ ob =>
    bnd (lN ob 2 v19) fun v29 =>
    bndO (bldS ob 448 2 [v29]) ob fun v30 ob =>
    bndO (ap ob 456 2 (gS sl 7) v30) ob fun v31 ob =>
    bnd (fA 2 v15) fun v32 =>
    bnd (l1 ob v32) fun v33 =>
    bnd (bi .add (gS sl 6) v33) fun v34 =>
    bnd (bi .add (gS sl 25) (.i .i64 1)) fun v35 =>
    bnd (head [] [5, 6, 7, 23, 24, 25] [72, 176, 240] [(5, (gS sl 5)), (6, v34), (7, v31), (23, (gS sl 23)), (24, (gS sl 24)), (25, v35)] ob) fun x => g x.1 x.2
   ) (
    bnd (fA 1 v15) fun v36 =>
    bnd (l1 ob v36) fun v37 =>
    bnd (nc v37) fun v38 =>
    bnd (l1 ob v38) fun v39 =>
    bnd (fA 0 v19) fun v40 =>
    bndO (st ob 1 v40 v39) ob fun _ ob =>
    bnd (lN ob 2 v19) fun v41 =>
    bndO (bldS ob 448 2 [v41]) ob fun v42 ob =>
    bndO (ap ob 456 2 (gS sl 7) v42) ob fun v43 ob =>
    bnd (fA 2 v15) fun v44 =>
    bnd (l1 ob v44) fun v45 =>
    bnd (bi .add (gS sl 6) v45) fun v46 =>
    bnd (bi .add (gS sl 25) (.i .i64 1)) fun v47 =>
    bnd (head [] [5, 6, 7, 23, 24, 25] [72, 176, 240] [(5, (gS sl 5)), (6, v46), (7, v43), (23, (gS sl 23)), (24, (gS sl 24)), (25, v47)] ob) fun x => g x.1 x.2
   )
  ) (
   br (gS sl 5) (
    bnd (bi .add (gS sl 6) (.i .i64 32)) fun v48 =>
    bnd (cv .u64 v48) fun v49 =>
    bnd (bld [.i .u64 0, .i .i64 0] [(0, 1, v49), (1, 1, (.i .i64 2))]) fun v50 =>
    bnd (xS ob 2 (gS sl 7) (.i .i64 0)) fun v51 =>
    bndO (st ob 2 v51 v50) ob fun _ ob =>
    bndO (ca0 Φ ob 584 false 38 [(gS sl 7)]) ob fun v52 ob =>
    bnd (ext 0 v52) fun v53 =>
    bnd (ext 1 v52) fun v54 =>
    fin ob os.length [1, 0] [v53, (gS sl 5)]
   ) (
    bnd (cv .u64 (gS sl 6)) fun v55 =>
    bnd (bld [.i .u64 0, .i .i64 0] [(0, 1, v55), (1, 1, (.i .i64 2))]) fun v56 =>
    bnd (xS ob 2 (gS sl 7) (.i .i64 0)) fun v57 =>
    bndO (st ob 2 v57 v56) ob fun _ ob =>
    bndO (ca0 Φ ob 584 false 38 [(gS sl 7)]) ob fun v58 ob =>
    bnd (ext 0 v58) fun v59 =>
    bnd (ext 1 v58) fun v60 =>
    fin ob os.length [1, 0] [v59, (gS sl 5)]
   )
  )
noncomputable def m21 : Body := fun Φ N as os =>
  let a0 := gS (zipN 0 as) 0
  let ob := zipN 0 os
  bndO (bx ob 72 a0) ob fun v1 ob =>
  bndO (ca Φ ob 176 false 32 [v1]) ob fun v2 ob =>
  bnd (ext 0 v2) fun v3 =>
  bnd (ext 1 v2) fun v4 =>
  bnd (bld [.i .u64 0, .i .i64 0] []) fun v5 =>
  bnd (fA 0 v1) fun v6 =>
  bnd (l1 ob v6) fun v7 =>
  bnd (cv .u64 v7) fun v8 =>
  bnd (bld [.i .u64 0, .i .i64 0] [(0, 1, v8), (1, 1, (.i .i64 1))]) fun v9 =>
  bndO (bldS ob 240 2 [v5, v9]) ob fun v10 ob =>
  bnd (len v3) fun v11 =>
  bnd (head [] [5, 6, 7, 23, 24, 25] [72, 176, 240] [(5, v4), (6, (.i .i64 1)), (7, v10), (23, v3), (24, v11), (25, (.i .i64 0))] ob) fun x => loopC (m21b0 Φ N os) N x.1 x.2

def ann21 : Nat → Option Hd
  | 5 => some ⟨[], [5, 6, 7, 23, 24, 25], [72, 176, 240], []⟩ | _ => none
def lab21 : Nat → Option Hd := fun _ => none
/- pelican/mac.Block -/
noncomputable def m22 : Body := fun Φ N as os =>
  let a0 := gS (zipN 0 as) 0
  let ob := zipN 0 os
  bndO (mks ob 104 [.i .u8 0] (.i .i64 64)) ob fun v1 ob =>
  bnd (len a0) fun v2 =>
  bnd (bi .gtr v2 (.i .i64 64)) fun v3 =>
  br v3 (
   bndO (ca0 Φ ob 144 false 39 [a0]) ob fun v4 ob =>
   bndO (al ob 96 [.blob 32 (List.replicate 32 (.i .u8 0))]) ob fun v5 ob =>
   bndO (st ob 32 v5 v4) ob fun _ ob =>
   bndO (slc ob (.arr 32) v5 none none none) ob fun v6 ob =>
   bndO (cpy ob 1 v1 v6) ob fun v7 ob =>
   fin ob os.length [1] [v1]
  ) (
   bndO (cpy ob 1 v1 a0) ob fun v8 ob =>
   fin ob os.length [1] [v1]
  )

def ann22 : Nat → Option Hd := fun _ => none
def lab22 : Nat → Option Hd := fun _ => none
/- pelican/mac.Tag$1 -/
noncomputable def m23b0 (Φ : Sem') (N : Nat) (os : List Obj') (g : SL → OB → Option R) (sl : SL) (ob : OB) : Option R :=
  bnd (bi .lss (gS sl 12) (gS sl 11)) fun v7 =>
  br v7 (
   bnd (xS ob 1 (gS sl 10) (gS sl 12)) fun v8 =>
   bnd (l1 ob v8) fun v9 =>
   bnd (bi .xor v9 (gS sl 0)) fun v10 =>
   bnd (xS ob 1 (gS sl 4) (gS sl 12)) fun v11 =>
   bndO (st ob 1 v11 v10) ob fun _ ob =>
   bnd (bi .add (gS sl 12) (.i .i64 1)) fun v12 =>
   bnd (head [.row 4 103 1] [0, 3, 4, 10, 11, 12] [88, 0, 1] [(0, (gS sl 0)), (3, (gS sl 3)), (4, (gS sl 4)), (10, (gS sl 10)), (11, (gS sl 11)), (12, v12)] ob) fun x => g x.1 x.2
  ) (
   bndO (ca0 Φ ob 256 false 25 []) ob fun v13 ob =>
   bndO (ca0 Φ ob 272 false 24 [v13, (gS sl 4)]) ob fun v14 ob =>
   bndO (st ob 10 (gS sl 3) v14) ob fun _ ob =>
   bnd (lN ob 10 (gS sl 3)) fun v15 =>
   fin ob os.length [0] [v15]
  )
noncomputable def m23 : Body := fun Φ N as os =>
  let a0 := gS (zipN 0 as) 0
  let a1 := gS (zipN 0 as) 1
  let ob := zipN 0 os
  bndO (al ob 88 [.blob 8 (List.replicate 8 (.i .u32 0)), .e true, .i .i64 0]) ob fun v1 ob =>
  bnd (l1 ob a1) fun v2 =>
  bnd (len v2) fun v3 =>
  bndO (mks ob 136 [.i .u8 0] v3) ob fun v4 ob =>
  bnd (l1 ob a1) fun v5 =>
  bnd (len v5) fun v6 =>
  bnd (head [.row 4 103 1] [0, 3, 4, 10, 11, 12] [88, 0, 1] [(0, a0), (3, v1), (4, v4), (10, v5), (11, v6), (12, (.i .i64 0))] ob) fun x => loopC (m23b0 Φ N os) N x.1 x.2

def ann23 : Nat → Option Hd
  | 3 => some ⟨[.row 4 103 1], [0, 3, 4, 10, 11, 12], [88, 0, 1], []⟩ | _ => none
def lab23 : Nat → Option Hd := fun _ => none
/- pelican/sha.Add -/
noncomputable def m24 : Body := fun Φ N as os =>
  let a0 := gS (zipN 0 as) 0
  let a1 := gS (zipN 0 as) 1
  let ob := zipN 0 os
  bndO (bx ob 80 a0) ob fun v1 ob =>
  bndO (al ob 96 [.blob 8 (List.replicate 8 (.i .u32 0)), .e true, .i .i64 0]) ob fun v2 ob =>
  bnd (lN ob 10 v1) fun v3 =>
  bndO (ca0 Φ ob 128 false 40 [v3]) ob fun v4 ob =>
  bnd (uO .not v4) fun v5 =>
  bnd (gd v5 false (some a1)) fun v6 =>
  bnd (gd v5 false (len v6)) fun v7 =>
  bnd (gd v5 false (fA 9 v1)) fun v8 =>
  bnd (gd v5 false (l1 ob v8)) fun v9 =>
  bnd (gd v5 false (bi .sub (.i .i64 1048576) v9)) fun v10 =>
  bnd (gd v5 false (bi .gtr v7 v10)) fun v11 =>
  bnd (pk v5 (.b true) v11) fun v12 =>
  br v12 (
   bnd (bld [.blob 8 (List.replicate 8 (.i .u32 0)), .e true, .i .i64 0] []) fun v13 =>
   bndO (st ob 10 v2 v13) ob fun _ ob =>
   bnd (lN ob 10 v2) fun v14 =>
   fin ob os.length [0] [v14]
  ) (
   bnd (fA 0 v1) fun v15 =>
   bnd (lN ob 8 v15) fun v16 =>
   bnd (fA 8 v1) fun v17 =>
   bnd (l1 ob v17) fun v18 =>
   bndO (bldS ob 264 1 [v18, a1]) ob fun v19 ob =>
   bndO (ca0 Φ ob 272 true 42 [v19]) ob fun v20 ob =>
   bndO (ca0 Φ ob 280 false 41 [v16, v20]) ob fun v21 ob =>
   bnd (ext 0 v21) fun v22 =>
   bnd (ext 1 v21) fun v23 =>
   bndO (al ob 104 [.blob 8 (List.replicate 8 (.i .u32 0))]) ob fun v24 ob =>
   bndO (st ob 8 v24 v22) ob fun _ ob =>
   bnd (lN ob 8 v24) fun v25 =>
   bndO (ca0 Φ ob 320 false 43 [v23]) ob fun v26 ob =>
   bnd (fA 9 v1) fun v27 =>
   bnd (l1 ob v27) fun v28 =>
   bnd (len a1) fun v29 =>
   bnd (bi .add v28 v29) fun v30 =>
   bnd (bld [.blob 8 (List.replicate 8 (.i .u32 0)), .e true, .i .i64 0] [(0, 8, v25), (8, 1, v26), (9, 1, v30)]) fun v31 =>
   bndO (st ob 10 v2 v31) ob fun _ ob =>
   bnd (lN ob 10 v2) fun v32 =>
   fin ob os.length [0] [v32]
  )

def ann24 : Nat → Option Hd := fun _ => none
def lab24 : Nat → Option Hd := fun _ => none
/- pelican/sha.New -/
noncomputable def m25 : Body := fun Φ N as os =>
  let ob := zipN 0 os
  bndO (al ob 64 [.blob 8 (List.replicate 8 (.i .u32 0)), .e true, .i .i64 0]) ob fun v1 ob =>
  bnd (lN ob 8 (.q true gFirst none)) fun v2 =>
  bnd (bld [.blob 8 (List.replicate 8 (.i .u32 0)), .e true, .i .i64 0] [(0, 8, v2)]) fun v3 =>
  bndO (st ob 10 v1 v3) ob fun _ ob =>
  bnd (lN ob 10 v1) fun v4 =>
  fin ob os.length [0] [v4]

def ann25 : Nat → Option Hd := fun _ => none
def lab25 : Nat → Option Hd := fun _ => none
/- pelican/sha.End -/
noncomputable def m26b0 (Φ : Sem') (N : Nat) (os : List Obj') (g : SL → OB → Option R) (sl : SL) (ob : OB) : Option R :=
  bnd (bi .lss (gS sl 52) (.i .i64 8)) fun v38 =>
  br v38 (
   bnd (xV 8 1 false (gS sl 51) (gS sl 52)) fun v39 =>
   bnd (bi .mul (.i .i64 4) (gS sl 52)) fun v40 =>
   bnd (bi .mul (.i .i64 4) (gS sl 52)) fun v41 =>
   bnd (bi .add v41 (.i .i64 1)) fun v42 =>
   bnd (bi .mul (.i .i64 4) (gS sl 52)) fun v43 =>
   bnd (bi .add v43 (.i .i64 2)) fun v44 =>
   bnd (bi .mul (.i .i64 4) (gS sl 52)) fun v45 =>
   bnd (bi .add v45 (.i .i64 3)) fun v46 =>
   bnd (bi .shr v39 (.i .u64 24)) fun v47 =>
   bnd (cv .u8 v47) fun v48 =>
   bnd (bi .shr v39 (.i .u64 16)) fun v49 =>
   bnd (cv .u8 v49) fun v50 =>
   bnd (bi .shr v39 (.i .u64 8)) fun v51 =>
   bnd (cv .u8 v51) fun v52 =>
   bnd (cv .u8 v39) fun v53 =>
   bnd (xA 32 (gS sl 8) v40) fun v54 =>
   bndO (st ob 1 v54 v48) ob fun _ ob =>
   bnd (xA 32 (gS sl 8) v42) fun v55 =>
   bndO (st ob 1 v55 v50) ob fun _ ob =>
   bnd (xA 32 (gS sl 8) v44) fun v56 =>
   bndO (st ob 1 v56 v52) ob fun _ ob =>
   bnd (xA 32 (gS sl 8) v46) fun v57 =>
   bndO (st ob 1 v57 v53) ob fun _ ob =>
   bnd (bi .add (gS sl 52) (.i .i64 1)) fun v58 =>
   bnd (head [] [2, 8, 51, 52] [80, 128] [(2, (gS sl 2)), (8, (gS sl 8)), (51, (gS sl 51)), (52, v58)] ob) fun x => g x.1 x.2
  ) (
   bnd (lN ob 32 (gS sl 8)) fun v59 =>
   bndO (st ob 32 (gS sl 2) v59) ob fun _ ob =>
   bnd (lN ob 32 (gS sl 2)) fun v60 =>
   fin ob os.length [0] [v60]
  )
noncomputable def m26b1 (Φ : Sem') (N : Nat) (os : List Obj') (g : SL → OB → Option R) (sl : SL) (ob : OB) : Option R :=
  bnd (bi .lss (gS sl 31) (.i .i64 8)) fun v22 =>
  br v22 (
   bnd (bi .mul (.i .i64 8) (gS sl 31)) fun v23 =>
   bnd (bi .sub (.i .i64 56) v23) fun v24 =>
   bnd (bi .shr (gS sl 4) v24) fun v25 =>
   bnd (cv .u8 v25) fun v26 =>
   bndO (bldS ob 392 1 [v26]) ob fun v27 ob =>
   bndO (ap ob 400 1 (gS sl 3) v27) ob fun v28 ob =>
   bnd (bi .add (gS sl 31) (.i .i64 1)) fun v29 =>
   bnd (head [.row 3 95 1] [1, 2, 3, 4, 31] [72, 80] [(1, (gS sl 1)), (2, (gS sl 2)), (3, v28), (4, (gS sl 4)), (31, v29)] ob) fun x => g x.1 x.2
  ) (
   bnd (fA 0 (gS sl 1)) fun v30 =>
   bnd (lN ob 8 v30) fun v31 =>
   bndO (ca0 Φ ob 448 false 41 [v31, (gS sl 3)]) ob fun v32 ob =>
   bnd (ext 0 v32) fun v33 =>
   bnd (ext 1 v32) fun v34 =>
   bndO (al ob 112 [.blob 8 (List.replicate 8 (.i .u32 0))]) ob fun v35 ob =>
   bndO (st ob 8 v35 v33) ob fun _ ob =>
   bndO (al ob 128 [.blob 32 (List.replicate 32 (.i .u8 0))]) ob fun v36 ob =>
   bnd (lN ob 8 v35) fun v37 =>
   bnd (head [] [2, 8, 51, 52] [80, 128] [(2, (gS sl 2)), (8, v36), (51, v37), (52, (.i .i64 0))] ob) fun x => loopC (m26b0 Φ N os) N x.1 x.2
  )
noncomputable def m26b2 (Φ : Sem') (N : Nat) (os : List Obj') (g : SL → OB → Option R) (sl : SL) (ob : OB) : Option R :=
  bnd (len (gS sl 3)) fun v13 =>
  bnd (bi .rem v13 (.i .i64 64)) fun v14 =>
  bnd (bi .neq v14 (.i .i64 56)) fun v15 =>
  br v15 (
   bndO (bldS ob 264 1 [(.i .u8 0)]) ob fun v16 ob =>
   bndO (ap ob 272 1 (gS sl 3) v16) ob fun v17 ob =>
   bnd (head [.row 3 95 1] [1, 2, 3] [72, 80] [(1, (gS sl 1)), (2, (gS sl 2)), (3, v17)] ob) fun x => g x.1 x.2
  ) (
   bnd (fA 9 (gS sl 1)) fun v18 =>
   bnd (l1 ob v18) fun v19 =>
   bnd (cv .u64 v19) fun v20 =>
   bnd (bi .mul v20 (.i .u64 8)) fun v21 =>
   bnd (head [.row 3 95 1] [1, 2, 3, 4, 31] [72, 80] [(1, (gS sl 1)), (2, (gS sl 2)), (3, (gS sl 3)), (4, v21), (31, (.i .i64 0))] ob) fun x => loopC (m26b1 Φ N os) N x.1 x.2
  )
noncomputable def m26 : Body := fun Φ N as os =>
  let a0 := gS (zipN 0 as) 0
  let ob := zipN 0 os
  bndO (bx ob 72 a0) ob fun v1 ob =>
  bndO (al ob 80 [.blob 32 (List.replicate 32 (.i .u8 0))]) ob fun v2 ob =>
  bnd (lN ob 10 v1) fun v3 =>
  bndO (ca0 Φ ob 160 false 40 [v3]) ob fun v4 ob =>
  bnd (uO .not v4) fun v5 =>
  br v5 (
   bnd (bld [.blob 32 (List.replicate 32 (.i .u8 0))] []) fun v6 =>
   bndO (st ob 32 v2 v6) ob fun _ ob =>
   bnd (lN ob 32 v2) fun v7 =>
   fin ob os.length [0] [v7]
  ) (
   bnd (fA 8 v1) fun v8 =>
   bnd (l1 ob v8) fun v9 =>
   bndO (ca0 Φ ob 200 false 43 [v9]) ob fun v10 ob =>
   bndO (bldS ob 208 1 [(.i .u8 128)]) ob fun v11 ob =>
   bndO (ap ob 216 1 v10 v11) ob fun v12 ob =>
   bnd (head [.row 3 95 1] [1, 2, 3] [72, 80] [(1, v1), (2, v2), (3, v12)] ob) fun x => loopC (m26b2 Φ N os) N x.1 x.2
  )

def ann26 : Nat → Option Hd
  | 4 => some ⟨[.row 3 95 1], [1, 2, 3], [72, 80], []⟩ | 8 => some ⟨[.row 3 95 1], [1, 2, 3, 4, 31], [72, 80], []⟩ | 15 => some ⟨[], [2, 8, 51, 52], [80, 128], []⟩ | _ => none
def lab26 : Nat → Option Hd := fun _ => none
/- (pelican/seal.signer).tag -/
noncomputable def m27 : Body := fun Φ N as os =>
  let a0 := gS (zipN 0 as) 0
  let a1 := gS (zipN 0 as) 1
  let ob := zipN 0 os
  bndO (bx ob 80 a0) ob fun v1 ob =>
  bndO (bx ob 88 a1) ob fun v2 ob =>
  bndO (al ob 96 [.blob 32 (List.replicate 32 (.i .u8 0))]) ob fun v3 ob =>
  bnd (lN ob 40 v2) fun v4 =>
  bndO (ca0 Φ ob 128 false 10 [v4]) ob fun v5 ob =>
  bnd (len v5) fun v6 =>
  bnd (bi .eql v6 (.i .i64 0)) fun v7 =>
  br v7 (
   bnd (bld [.blob 32 (List.replicate 32 (.i .u8 0))] []) fun v8 =>
   bndO (st ob 32 v3 v8) ob fun _ ob =>
   bnd (lN ob 32 v3) fun v9 =>
   fin ob os.length [0, 0] [v9, (.b false)]
  ) (
   bndO (slc ob (.arr 32) v1 none none none) ob fun v10 ob =>
   bndO (ca0 Φ ob 184 false 11 [v10, v5]) ob fun v11 ob =>
   bndO (st ob 32 v3 v11) ob fun _ ob =>
   bnd (lN ob 32 v3) fun v12 =>
   fin ob os.length [0, 0] [v12, (.b true)]
  )

def ann27 : Nat → Option Hd := fun _ => none
def lab27 : Nat → Option Hd := fun _ => none
/- pelican/seal.with -/
noncomputable def m28 : Body := fun Φ N as os =>
  let a0 := gS (zipN 0 as) 0
  let a1 := gS (zipN 0 as) 1
  let ob := zipN 0 os
  bndO (bx ob 80 a0) ob fun v1 ob =>
  bndO (al ob 96 [.i .i64 0, .i .i64 0, .i .u64 0, .i .u64 0, .i .i64 0, .i .u64 0, .i .i64 0, .i .i64 0, .blob 32 (List.replicate 32 (.i .u8 0))]) ob fun v2 ob =>
  bnd (lN ob 40 v1) fun v3 =>
  bndO (cav Φ ob 152 false a1 [v3]) ob fun v4 ob =>
  bnd (ext 0 v4) fun v5 =>
  bnd (ext 1 v4) fun v6 =>
  bndO (al ob 112 [.blob 32 (List.replicate 32 (.i .u8 0))]) ob fun v7 ob =>
  bndO (st ob 32 v7 v5) ob fun _ ob =>
  bnd (uO .not v6) fun v8 =>
  br v8 (
   bnd (bld [.i .i64 0, .i .i64 0, .i .u64 0, .i .u64 0, .i .i64 0, .i .u64 0, .i .i64 0, .i .i64 0, .blob 32 (List.replicate 32 (.i .u8 0))] []) fun v9 =>
   bndO (st ob 40 v2 v9) ob fun _ ob =>
   bnd (lN ob 40 v2) fun v10 =>
   fin ob os.length [0, 0] [v10, (.b false)]
  ) (
   bnd (lN ob 32 v7) fun v11 =>
   bnd (fA 8 v1) fun v12 =>
   bndO (st ob 32 v12 v11) ob fun _ ob =>
   bnd (lN ob 40 v1) fun v13 =>
   bndO (st ob 40 v2 v13) ob fun _ ob =>
   bnd (lN ob 40 v2) fun v14 =>
   fin ob os.length [0, 0] [v14, (.b true)]
  )

def ann28 : Nat → Option Hd := fun _ => none
def lab28 : Nat → Option Hd := fun _ => none
/- pelican/pelicanref04.Body -/
noncomputable def m29 : Body := fun Φ N as os =>
  let a0 := gS (zipN 0 as) 0
  let ob := zipN 0 os
  bndO (bx ob 72 a0) ob fun v1 ob =>
  bnd (lN ob 40 v1) fun v2 =>
  bndO (ca0 Φ ob 120 false 44 [v2]) ob fun v3 ob =>
  bnd (uO .not v3) fun v4 =>
  br v4 (
   fin ob os.length [1] [(.e true)]
  ) (
   bnd (lN ob 40 v1) fun v5 =>
   bndO (ca0 Φ ob 160 false 45 [v5]) ob fun v6 ob =>
   bnd (ext 0 v6) fun v7 =>
   bnd (ext 1 v6) fun v8 =>
   bnd (uO .not v8) fun v9 =>
   br v9 (
    fin ob os.length [1] [(.e true)]
   ) (
    fin ob os.length [1] [v7]
   )
  )

def ann29 : Nat → Option Hd := fun _ => none
def lab29 : Nat → Option Hd := fun _ => none
/- pelican/pelicanref02.Tag -/
noncomputable def m30 : Body := fun Φ N as os =>
  let a0 := gS (zipN 0 as) 0
  let a1 := gS (zipN 0 as) 1
  let ob := zipN 0 os
  bndO (al ob 96 [.blob 32 (List.replicate 32 (.i .u8 0))]) ob fun v1 ob =>
  bndO (ca0 Φ ob 120 false 47 [a0, (.i .u8 54)]) ob fun v2 ob =>
  bndO (ap ob 136 1 v2 a1) ob fun v3 ob =>
  bndO (ca0 Φ ob 144 false 46 [v3]) ob fun v4 ob =>
  bndO (al ob 104 [.blob 32 (List.replicate 32 (.i .u8 0))]) ob fun v5 ob =>
  bndO (st ob 32 v5 v4) ob fun _ ob =>
  bndO (ca0 Φ ob 160 false 47 [a0, (.i .u8 92)]) ob fun v6 ob =>
  bndO (slc ob (.arr 32) v5 none none none) ob fun v7 ob =>
  bndO (ap ob 176 1 v6 v7) ob fun v8 ob =>
  bndO (ca0 Φ ob 184 false 46 [v8]) ob fun v9 ob =>
  bndO (st ob 32 v1 v9) ob fun _ ob =>
  bnd (lN ob 32 v1) fun v10 =>
  fin ob os.length [0] [v10]

def ann30 : Nat → Option Hd := fun _ => none
def lab30 : Nat → Option Hd := fun _ => none
/- pelican/frame.long -/
noncomputable def m31 : Body := fun Φ N as os =>
  let a0 := gS (zipN 0 as) 0
  let ob := zipN 0 os
  bndO (ca0 Φ ob 120 false 33 [a0, (.i .i64 0), (.i .i64 2)]) ob fun v1 ob =>
  bnd (ext 0 v1) fun v2 =>
  bnd (ext 1 v1) fun v3 =>
  bnd (bi .eql v3 (.i .i64 (-1))) fun v4 =>
  bnd (gd v4 false (some v2)) fun v5 =>
  bnd (gd v4 false (cv .i64 v5)) fun v6 =>
  bnd (gd v4 false (some a0)) fun v7 =>
  bnd (gd v4 false (len v7)) fun v8 =>
  bnd (gd v4 false (bi .sub v8 (.i .i64 2))) fun v9 =>
  bnd (gd v4 false (bi .gtr v6 v9)) fun v10 =>
  bnd (pk v4 (.b true) v10) fun v11 =>
  br v11 (
   fin ob os.length [0] [(.i .i64 (-1))]
  ) (
   bnd (cv .i64 v2) fun v12 =>
   bnd (bi .add (.i .i64 2) v12) fun v13 =>
   fin ob os.length [0] [v13]
  )

def ann31 : Nat → Option Hd := fun _ => none
def lab31 : Nat → Option Hd := fun _ => none
/- pelican/frame.slots -/
noncomputable def m32 : Body := fun Φ N as os =>
  let a0 := gS (zipN 0 as) 0
  let ob := zipN 0 os
  bnd (nc a0) fun v1 =>
  bnd (fA 0 v1) fun v2 =>
  bnd (l1 ob v2) fun v3 =>
  bnd (bi .eql v3 (.i .i64 0)) fun v4 =>
  br v4 (
   bnd (nc a0) fun v5 =>
   bnd (fA 1 v5) fun v6 =>
   bnd (bld [.np, .np, .i .i64 0] [(0, 1, v6), (2, 1, (.i .i64 1))]) fun v7 =>
   bnd (nc a0) fun v8 =>
   bnd (fA 3 v8) fun v9 =>
   bnd (bld [.np, .np, .i .i64 0] [(1, 1, v9), (2, 1, (.i .i64 8))]) fun v10 =>
   bndO (bldS ob 296 3 [v7, v10]) ob fun v11 ob =>
   finG ob os.length [v11, (.b false)]
  ) (
   bnd (bi .eql v3 (.i .i64 1)) fun v12 =>
   br v12 (
    bnd (nc a0) fun v13 =>
    bnd (fA 2 v13) fun v14 =>
    bnd (bld [.np, .np, .i .i64 0] [(1, 1, v14), (2, 1, (.i .i64 8))]) fun v15 =>
    bnd (nc a0) fun v16 =>
    bnd (fA 4 v16) fun v17 =>
    bnd (bld [.np, .np, .i .i64 0] [(0, 1, v17), (2, 1, (.i .i64 4))]) fun v18 =>
    bndO (bldS ob 368 3 [v15, v18]) ob fun v19 ob =>
    finG ob os.length [v19, (.b false)]
   ) (
    bnd (bi .eql v3 (.i .i64 6)) fun v20 =>
    br v20 (
     bnd (nc a0) fun v21 =>
     bnd (fA 6 v21) fun v22 =>
     bnd (bld [.np, .np, .i .i64 0] [(0, 1, v22), (2, 1, (.i .i64 1))]) fun v23 =>
     bndO (bldS ob 408 3 [v23]) ob fun v24 ob =>
     finG ob os.length [v24, (.b false)]
    ) (
     bnd (bi .eql v3 (.i .i64 4)) fun v25 =>
     br v25 (
      br v25 (
       bnd (nc a0) fun v26 =>
       bnd (fA 5 v26) fun v27 =>
       bnd (bld [.np, .np, .i .i64 0] [(1, 1, v27), (2, 1, (.i .i64 8))]) fun v28 =>
       bnd (nc a0) fun v29 =>
       bnd (fA 6 v29) fun v30 =>
       bnd (bld [.np, .np, .i .i64 0] [(0, 1, v30), (2, 1, (.i .i64 1))]) fun v31 =>
       bnd (nc a0) fun v32 =>
       bnd (fA 7 v32) fun v33 =>
       bnd (bld [.np, .np, .i .i64 0] [(0, 1, v33), (2, 1, (.i .i64 2))]) fun v34 =>
       bndO (bldS ob 512 3 [v28, v31, v34]) ob fun v35 ob =>
       bnd (nc a0) fun v36 =>
       bnd (fA 2 v36) fun v37 =>
       bnd (bld [.np, .np, .i .i64 0] [(1, 1, v37), (2, 1, (.i .i64 8))]) fun v38 =>
       bndO (bldS ob 560 3 [v38]) ob fun v39 ob =>
       bndO (ca Φ ob 568 true 48 [v35, (.i .i64 0), v39]) ob fun v40 ob =>
       bnd (eNs true ob v40) fun v41 =>
       finG ob os.length [v40, v41]
      ) (
       bnd (bi .eql v3 (.i .i64 2)) fun v42 =>
       br v42 (
        br v42 (
         bnd (nc a0) fun v43 =>
         bnd (fA 2 v43) fun v44 =>
         bnd (bld [.np, .np, .i .i64 0] [(1, 1, v44), (2, 1, (.i .i64 8))]) fun v45 =>
         bndO (bldS ob 560 3 [v45]) ob fun v46 ob =>
         bndO (ca Φ ob 568 true 48 [(.e true), (.i .i64 0), v46]) ob fun v47 ob =>
         bnd (eNs true ob v47) fun v48 =>
         finG ob os.length [v47, v48]
        ) (
         bnd (eNs true ob (.e true)) fun v49 =>
         finG ob os.length [(.e true), v49]
        )
       ) (
        bnd (bi .eql v3 (.i .i64 3)) fun v50 =>
        br v50 (
         bnd (nc a0) fun v51 =>
         bnd (fA 2 v51) fun v52 =>
         bnd (bld [.np, .np, .i .i64 0] [(1, 1, v52), (2, 1, (.i .i64 8))]) fun v53 =>
         bndO (bldS ob 560 3 [v53]) ob fun v54 ob =>
         bndO (ca Φ ob 568 true 48 [(.e true), (.i .i64 0), v54]) ob fun v55 ob =>
         bnd (eNs true ob v55) fun v56 =>
         finG ob os.length [v55, v56]
        ) (
         bnd (eNs true ob (.e true)) fun v57 =>
         finG ob os.length [(.e true), v57]
        )
       )
      )
     ) (
      bnd (bi .eql v3 (.i .i64 5)) fun v58 =>
      br v58 (
       bnd (nc a0) fun v59 =>
       bnd (fA 5 v59) fun v60 =>
       bnd (bld [.np, .np, .i .i64 0] [(1, 1, v60), (2, 1, (.i .i64 8))]) fun v61 =>
       bnd (nc a0) fun v62 =>
       bnd (fA 6 v62) fun v63 =>
       bnd (bld [.np, .np, .i .i64 0] [(0, 1, v63), (2, 1, (.i .i64 1))]) fun v64 =>
       bnd (nc a0) fun v65 =>
       bnd (fA 7 v65) fun v66 =>
       bnd (bld [.np, .np, .i .i64 0] [(0, 1, v66), (2, 1, (.i .i64 2))]) fun v67 =>
       bndO (bldS ob 512 3 [v61, v64, v67]) ob fun v68 ob =>
       bnd (nc a0) fun v69 =>
       bnd (fA 2 v69) fun v70 =>
       bnd (bld [.np, .np, .i .i64 0] [(1, 1, v70), (2, 1, (.i .i64 8))]) fun v71 =>
       bndO (bldS ob 560 3 [v71]) ob fun v72 ob =>
       bndO (ca Φ ob 568 true 48 [v68, (.i .i64 0), v72]) ob fun v73 ob =>
       bnd (eNs true ob v73) fun v74 =>
       finG ob os.length [v73, v74]
      ) (
       bnd (bi .eql v3 (.i .i64 2)) fun v75 =>
       br v75 (
        br v75 (
         bnd (nc a0) fun v76 =>
         bnd (fA 2 v76) fun v77 =>
         bnd (bld [.np, .np, .i .i64 0] [(1, 1, v77), (2, 1, (.i .i64 8))]) fun v78 =>
         bndO (bldS ob 560 3 [v78]) ob fun v79 ob =>
         bndO (ca Φ ob 568 true 48 [(.e true), (.i .i64 0), v79]) ob fun v80 ob =>
         bnd (eNs true ob v80) fun v81 =>
         finG ob os.length [v80, v81]
        ) (
         bnd (eNs true ob (.e true)) fun v82 =>
         finG ob os.length [(.e true), v82]
        )
       ) (
        bnd (bi .eql v3 (.i .i64 3)) fun v83 =>
        br v83 (
         bnd (nc a0) fun v84 =>
         bnd (fA 2 v84) fun v85 =>
         bnd (bld [.np, .np, .i .i64 0] [(1, 1, v85), (2, 1, (.i .i64 8))]) fun v86 =>
         bndO (bldS ob 560 3 [v86]) ob fun v87 ob =>
         bndO (ca Φ ob 568 true 48 [(.e true), (.i .i64 0), v87]) ob fun v88 ob =>
         bnd (eNs true ob v88) fun v89 =>
         finG ob os.length [v88, v89]
        ) (
         bnd (eNs true ob (.e true)) fun v90 =>
         finG ob os.length [(.e true), v90]
        )
       )
      )
     )
    )
   )
  )

def ann32 : Nat → Option Hd := fun _ => none
def lab32 : Nat → Option Hd := fun _ => none
/- pelican/num.Get -/
noncomputable def m33b0 (Φ : Sem') (N : Nat) (os : List Obj') (g : SL → OB → Option R) (sl : SL) (ob : OB) : Option R :=
  bnd (bi .lss (gS sl 42) (gS sl 41)) fun v22 =>
  br v22 (
   bnd (xS ob 1 (gS sl 40) (gS sl 42)) fun v23 =>
   bnd (l1 ob v23) fun v24 =>
   bnd (bi .shl (gS sl 8) (.i .u64 8)) fun v25 =>
   bnd (cv .u64 v24) fun v26 =>
   bnd (bi .or v25 v26) fun v27 =>
   bnd (bi .add (gS sl 42) (.i .i64 1)) fun v28 =>
   bnd (head [] [1, 2, 8, 40, 41, 42] [] [(1, (gS sl 1)), (2, (gS sl 2)), (8, v27), (40, (gS sl 40)), (41, (gS sl 41)), (42, v28)] ob) fun x => g x.1 x.2
  ) (
   bnd (bi .add (gS sl 1) (gS sl 2)) fun v29 =>
   fin ob os.length [0, 0] [(gS sl 8), v29]
  )
noncomputable def m33 : Body := fun Φ N as os =>
  let a0 := gS (zipN 0 as) 0
  let a1 := gS (zipN 0 as) 1
  let a2 := gS (zipN 0 as) 2
  let ob := zipN 0 os
  bndO (ca0 Φ ob 160 false 49 [a2]) ob fun v1 ob =>
  bnd (uO .not v1) fun v2 =>
  bnd (gd v2 false (some a1)) fun v3 =>
  bnd (gd v2 false (bi .lss v3 (.i .i64 0))) fun v4 =>
  bnd (pk v2 (.b true) v4) fun v5 =>
  bnd (gd v5 false (some a1)) fun v6 =>
  bnd (gd v5 false (some a0)) fun v7 =>
  bnd (gd v5 false (len v7)) fun v8 =>
  bnd (gd v5 false (bi .gtr v6 v8)) fun v9 =>
  bnd (pk v5 (.b true) v9) fun v10 =>
  bnd (gd v10 false (some a0)) fun v11 =>
  bnd (gd v10 false (len v11)) fun v12 =>
  bnd (gd v10 false (some a1)) fun v13 =>
  bnd (gd v10 false (bi .sub v12 v13)) fun v14 =>
  bnd (gd v10 false (some a2)) fun v15 =>
  bnd (gd v10 false (bi .lss v14 v15)) fun v16 =>
  bnd (pk v10 (.b true) v16) fun v17 =>
  br v17 (
   fin ob os.length [0, 0] [(.i .u64 0), (.i .i64 (-1))]
  ) (
   bnd (bi .add a1 a2) fun v18 =>
   bnd (bi .add a1 a2) fun v19 =>
   bndO (slc ob (.slice 1) a0 (some a1) (some v18) (some v19)) ob fun v20 ob =>
   bnd (len v20) fun v21 =>
   bnd (head [] [1, 2, 8, 40, 41, 42] [] [(1, a1), (2, a2), (8, (.i .u64 0)), (40, v20), (41, v21), (42, (.i .i64 0))] ob) fun x => loopC (m33b0 Φ N os) N x.1 x.2
  )

def ann33 : Nat → Option Hd
  | 5 => some ⟨[], [1, 2, 8, 40, 41, 42], [], []⟩ | _ => none
def lab33 : Nat → Option Hd := fun _ => none
/- slices.Equal[[]byte,byte] -/
noncomputable def m34b0 (Φ : Sem') (N : Nat) (os : List Obj') (g : SL → OB → Option R) (sl : SL) (ob : OB) : Option R :=
  bnd (bi .lss (gS sl 13) (gS sl 12)) fun v5 =>
  br v5 (
   bnd (xS ob 1 (gS sl 0) (gS sl 13)) fun v6 =>
   bnd (l1 ob v6) fun v7 =>
   bnd (xS ob 1 (gS sl 1) (gS sl 13)) fun v8 =>
   bnd (l1 ob v8) fun v9 =>
   bnd (bi .neq v7 v9) fun v10 =>
   br v10 (
    fin ob os.length [0] [(.b false)]
   ) (
    bnd (bi .add (gS sl 13) (.i .i64 1)) fun v11 =>
    bnd (head [] [0, 1, 12, 13] [] [(0, (gS sl 0)), (1, (gS sl 1)), (12, (gS sl 12)), (13, v11)] ob) fun x => g x.1 x.2
   )
  ) (
   fin ob os.length [0] [(.b true)]
  )
noncomputable def m34 : Body := fun Φ N as os =>
  let a0 := gS (zipN 0 as) 0
  let a1 := gS (zipN 0 as) 1
  let ob := zipN 0 os
  bnd (len a0) fun v1 =>
  bnd (len a1) fun v2 =>
  bnd (bi .neq v1 v2) fun v3 =>
  br v3 (
   fin ob os.length [0] [(.b false)]
  ) (
   bnd (len a0) fun v4 =>
   bnd (head [] [0, 1, 12, 13] [] [(0, a0), (1, a1), (12, v4), (13, (.i .i64 0))] ob) fun x => loopC (m34b0 Φ N os) N x.1 x.2
  )

def ann34 : Nat → Option Hd
  | 4 => some ⟨[], [0, 1, 12, 13], [], []⟩ | _ => none
def lab34 : Nat → Option Hd := fun _ => none
/- pelican/frame.plain$1 -/
noncomputable def m35 : Body := fun Φ N as os =>
  let a0 := gS (zipN 0 as) 0
  let a1 := gS (zipN 0 as) 1
  let ob := zipN 0 os
  bnd (bi .geq a0 (.i .i64 0)) fun v1 =>
  bnd (gd v1 true (some a0)) fun v2 =>
  bnd (gd v1 true (some a1)) fun v3 =>
  bnd (gd v1 true (bi .leq v2 v3)) fun v4 =>
  bnd (pk v1 v4 (.b false)) fun v5 =>
  fin ob os.length [0] [v5]

def ann35 : Nat → Option Hd := fun _ => none
def lab35 : Nat → Option Hd := fun _ => none
/- pelican/frame.kind -/
noncomputable def m36 : Body := fun Φ N as os =>
  let a0 := gS (zipN 0 as) 0
  let ob := zipN 0 os
  bnd (bi .geq a0 (.i .i64 0)) fun v1 =>
  bnd (gd v1 true (some a0)) fun v2 =>
  bnd (gd v1 true (bi .lss v2 (.i .i64 7))) fun v3 =>
  bnd (pk v1 v3 (.b false)) fun v4 =>
  fin ob os.length [0] [v4]

def ann36 : Nat → Option Hd := fun _ => none
def lab36 : Nat → Option Hd := fun _ => none
/- pelican/frame.bare -/
noncomputable def m37b0 (Φ : Sem') (N : Nat) (os : List Obj') (g : SL → OB → Option R) (sl : SL) (ob : OB) : Option R :=
  bnd (bi .lss (gS sl 23) (gS sl 22)) fun v14 =>
  br v14 (
   bnd (xS ob 3 (gS sl 21) (gS sl 23)) fun v15 =>
   bnd (lN ob 3 v15) fun v16 =>
   bndO (al ob 136 [.np, .np, .i .i64 0]) ob fun v17 ob =>
   bndO (st ob 3 v17 v16) ob fun _ ob =>
   bnd (fA 0 v17) fun v18 =>
   bnd (l1 ob v18) fun v19 =>
   bnd (eNp true v19) fun v20 =>
   br v20 (
    bnd (fA 0 v17) fun v21 =>
    bnd (l1 ob v21) fun v22 =>
    bnd (xS ob 3 (gS sl 4) (gS sl 23)) fun v23 =>
    bnd (fA 0 v23) fun v24 =>
    bnd (l1 ob v24) fun v25 =>
    bnd (nc v25) fun v26 =>
    bnd (l1 ob v26) fun v27 =>
    bnd (nc v22) fun v28 =>
    bndO (st ob 1 v28 v27) ob fun _ ob =>
    bnd (bi .add (gS sl 23) (.i .i64 1)) fun v29 =>
    bnd (head [] [1, 2, 3, 4, 5, 21, 22, 23] [72, 80, 88, 176, 208] [(1, (gS sl 1)), (2, (gS sl 2)), (3, (gS sl 3)), (4, (gS sl 4)), (5, (gS sl 5)), (21, (gS sl 21)), (22, (gS sl 22)), (23, v29)] ob) fun x => g x.1 x.2
   ) (
    bnd (fA 1 v17) fun v30 =>
    bnd (l1 ob v30) fun v31 =>
    bnd (xS ob 3 (gS sl 4) (gS sl 23)) fun v32 =>
    bnd (fA 1 v32) fun v33 =>
    bnd (l1 ob v33) fun v34 =>
    bnd (nc v34) fun v35 =>
    bnd (l1 ob v35) fun v36 =>
    bnd (nc v31) fun v37 =>
    bndO (st ob 1 v37 v36) ob fun _ ob =>
    bnd (bi .add (gS sl 23) (.i .i64 1)) fun v38 =>
    bnd (head [] [1, 2, 3, 4, 5, 21, 22, 23] [72, 80, 88, 176, 208] [(1, (gS sl 1)), (2, (gS sl 2)), (3, (gS sl 3)), (4, (gS sl 4)), (5, (gS sl 5)), (21, (gS sl 21)), (22, (gS sl 22)), (23, v38)] ob) fun x => g x.1 x.2
   )
  ) (
   br (gS sl 5) (
    bnd (fA 8 (gS sl 1)) fun v39 =>
    bnd (lN ob 32 v39) fun v40 =>
    bnd (fA 8 (gS sl 3)) fun v41 =>
    bndO (st ob 32 v41 v40) ob fun _ ob =>
    bnd (lN ob 40 (gS sl 3)) fun v42 =>
    bndO (st ob 40 (gS sl 2) v42) ob fun _ ob =>
    bnd (lN ob 40 (gS sl 2)) fun v43 =>
    fin ob os.length [0] [v43]
   ) (
    bnd (lN ob 40 (gS sl 3)) fun v44 =>
    bndO (st ob 40 (gS sl 2) v44) ob fun _ ob =>
    bnd (lN ob 40 (gS sl 2)) fun v45 =>
    fin ob os.length [0] [v45]
   )
  )
noncomputable def m37 : Body := fun Φ N as os =>
  let a0 := gS (zipN 0 as) 0
  let ob := zipN 0 os
  bndO (bx ob 72 a0) ob fun v1 ob =>
  bndO (al ob 80 [.i .i64 0, .i .i64 0, .i .u64 0, .i .u64 0, .i .i64 0, .i .u64 0, .i .i64 0, .i .i64 0, .blob 32 (List.replicate 32 (.i .u8 0))]) ob fun v2 ob =>
  bnd (fA 0 v1) fun v3 =>
  bnd (l1 ob v3) fun v4 =>
  bnd (bld [.i .i64 0, .i .i64 0, .i .u64 0, .i .u64 0, .i .i64 0, .i .u64 0, .i .i64 0, .i .i64 0, .blob 32 (List.replicate 32 (.i .u8 0))] [(0, 1, v4)]) fun v5 =>
  bndO (al ob 88 [.i .i64 0, .i .i64 0, .i .u64 0, .i .u64 0, .i .i64 0, .i .u64 0, .i .i64 0, .i .i64 0, .blob 32 (List.replicate 32 (.i .u8 0))]) ob fun v6 ob =>
  bndO (st ob 40 v6 v5) ob fun _ ob =>
  bndO (ca Φ ob 176 false 32 [v1]) ob fun v7 ob =>
  bnd (ext 0 v7) fun v8 =>
  bnd (ext 1 v7) fun v9 =>
  bndO (ca Φ ob 208 false 32 [v6]) ob fun v10 ob =>
  bnd (ext 0 v10) fun v11 =>
  bnd (ext 1 v10) fun v12 =>
  bnd (len v11) fun v13 =>
  bnd (head [] [1, 2, 3, 4, 5, 21, 22, 23] [72, 80, 88, 176, 208] [(1, v1), (2, v2), (3, v6), (4, v8), (5, v9), (21, v11), (22, v13), (23, (.i .i64 0))] ob) fun x => loopC (m37b0 Φ N os) N x.1 x.2

def ann37 : Nat → Option Hd
  | 5 => some ⟨[], [1, 2, 3, 4, 5, 21, 22, 23], [72, 80, 88, 176, 208], []⟩ | _ => none
def lab37 : Nat → Option Hd := fun _ => none
/- pelican/num.Cat -/
noncomputable def m38b0 (Φ : Sem') (N : Nat) (os : List Obj') (g : SL → OB → Option R) (sl : SL) (ob : OB) : Option R :=
  bnd (bi .lss (gS sl 14) (gS sl 13)) fun v4 =>
  br v4 (
   bnd (xS ob 2 (gS sl 12) (gS sl 14)) fun v5 =>
   bnd (lN ob 2 v5) fun v6 =>
   bndO (al ob 112 [.i .u64 0, .i .i64 0]) ob fun v7 ob =>
   bndO (st ob 2 v7 v6) ob fun _ ob =>
   bnd (fA 0 v7) fun v8 =>
   bnd (l1 ob v8) fun v9 =>
   bnd (fA 1 v7) fun v10 =>
   bnd (l1 ob v10) fun v11 =>
   bndO (ca0 Φ ob 248 false 50 [v9, v11]) ob fun v12 ob =>
   bnd (ext 0 v12) fun v13 =>
   bnd (ext 1 v12) fun v14 =>
   bnd (uO .not v14) fun v15 =>
   br v15 (
    fin ob os.length [1, 0] [(.e true), (.b false)]
   ) (
    bndO (ap ob 304 1 (gS sl 4) v13) ob fun v16 ob =>
    bnd (bi .add (gS sl 14) (.i .i64 1)) fun v17 =>
    bnd (head [.row 4 103 1] [4, 12, 13, 14] [] [(4, v16), (12, (gS sl 12)), (13, (gS sl 13)), (14, v17)] ob) fun x => g x.1 x.2
   )
  ) (
   fin ob os.length [1, 0] [(gS sl 4), (.b true)]
  )
noncomputable def m38 : Body := fun Φ N as os =>
  let a0 := gS (zipN 0 as) 0
  let ob := zipN 0 os
  bnd (len a0) fun v1 =>
  bnd (bi .gtr v1 (.i .i64 40)) fun v2 =>
  br v2 (
   fin ob os.length [1, 0] [(.e true), (.b false)]
  ) (
   bnd (len a0) fun v3 =>
   bnd (head [.row 4 103 1] [4, 12, 13, 14] [] [(4, (.e true)), (12, a0), (13, v3), (14, (.i .i64 0))] ob) fun x => loopC (m38b0 Φ N os) N x.1 x.2
  )

def ann38 : Nat → Option Hd
  | 5 => some ⟨[.row 4 103 1], [4, 12, 13, 14], [], []⟩ | _ => none
def lab38 : Nat → Option Hd := fun _ => none
/- pelican/sha.Sum -/
noncomputable def m39 : Body := fun Φ N as os =>
  let a0 := gS (zipN 0 as) 0
  let ob := zipN 0 os
  bndO (al ob 80 [.blob 32 (List.replicate 32 (.i .u8 0))]) ob fun v1 ob =>
  bnd (len a0) fun v2 =>
  bnd (bi .gtr v2 (.i .i64 1048576)) fun v3 =>
  br v3 (
   bnd (bld [.blob 32 (List.replicate 32 (.i .u8 0))] []) fun v4 =>
   bndO (st ob 32 v1 v4) ob fun _ ob =>
   bnd (lN ob 32 v1) fun v5 =>
   fin ob os.length [0] [v5]
  ) (
   bndO (ca0 Φ ob 120 false 25 []) ob fun v6 ob =>
   bndO (ca0 Φ ob 136 false 24 [v6, a0]) ob fun v7 ob =>
   bndO (ca0 Φ ob 144 false 26 [v7]) ob fun v8 ob =>
   bndO (st ob 32 v1 v8) ob fun _ ob =>
   bnd (lN ob 32 v1) fun v9 =>
   fin ob os.length [0] [v9]
  )

def ann39 : Nat → Option Hd := fun _ => none
def lab39 : Nat → Option Hd := fun _ => none
/- pelican/sha.May -/
noncomputable def m40 : Body := fun Φ N as os =>
  let a0 := gS (zipN 0 as) 0
  let ob := zipN 0 os
  bndO (bx ob 72 a0) ob fun v1 ob =>
  bnd (fA 9 v1) fun v2 =>
  bnd (l1 ob v2) fun v3 =>
  bnd (bi .geq v3 (.i .i64 0)) fun v4 =>
  bnd (gd v4 true (fA 9 v1)) fun v5 =>
  bnd (gd v4 true (l1 ob v5)) fun v6 =>
  bnd (gd v4 true (bi .leq v6 (.i .i64 1048576))) fun v7 =>
  bnd (pk v4 v7 (.b false)) fun v8 =>
  bnd (gd v8 true (fA 8 v1)) fun v9 =>
  bnd (gd v8 true (l1 ob v9)) fun v10 =>
  bnd (gd v8 true (len v10)) fun v11 =>
  bnd (gd v8 true (fA 9 v1)) fun v12 =>
  bnd (gd v8 true (l1 ob v12)) fun v13 =>
  bnd (gd v8 true (bi .rem v13 (.i .i64 64))) fun v14 =>
  bnd (gd v8 true (bi .eql v11 v14)) fun v15 =>
  bnd (pk v8 v15 (.b false)) fun v16 =>
  fin ob os.length [0] [v16]

def ann40 : Nat → Option Hd := fun _ => none
def lab40 : Nat → Option Hd := fun _ => none
/- pelican/sha.rounded -/
noncomputable def m41b0 (Φ : Sem') (N : Nat) (os : List Obj') (g : SL → OB → Option R) (sl : SL) (ob : OB) : Option R :=
  bnd (len (gS sl 1)) fun v3 =>
  bnd (bi .geq v3 (.i .i64 64)) fun v4 =>
  br v4 (
   bnd (lN ob 8 (gS sl 2)) fun v5 =>
   bndO (slc ob (.slice 1) (gS sl 1) none (some (.i .i64 64)) none) ob fun v6 ob =>
   bndO (ca0 Φ ob 160 false 51 [v5, v6]) ob fun v7 ob =>
   bndO (st ob 8 (gS sl 2) v7) ob fun _ ob =>
   bndO (slc ob (.slice 1) (gS sl 1) (some (.i .i64 64)) none none) ob fun v8 ob =>
   bnd (head [] [1, 2, 4] [80, 96] [(1, v8), (2, (gS sl 2)), (4, (gS sl 4))] ob) fun x => g x.1 x.2
  ) (
   bnd (lN ob 8 (gS sl 2)) fun v9 =>
   bndO (st ob 8 (gS sl 4) v9) ob fun _ ob =>
   bnd (lN ob 8 (gS sl 4)) fun v10 =>
   fin ob os.length [0, 1] [v10, (gS sl 1)]
  )
noncomputable def m41 : Body := fun Φ N as os =>
  let a0 := gS (zipN 0 as) 0
  let a1 := gS (zipN 0 as) 1
  let ob := zipN 0 os
  bndO (bx ob 80 a0) ob fun v1 ob =>
  bndO (al ob 96 [.blob 8 (List.replicate 8 (.i .u32 0))]) ob fun v2 ob =>
  bnd (head [] [1, 2, 4] [80, 96] [(1, a1), (2, v1), (4, v2)] ob) fun x => loopC (m41b0 Φ N os) N x.1 x.2

def ann41 : Nat → Option Hd
  | 1 => some ⟨[], [1, 2, 4], [80, 96], []⟩ | _ => none
def lab41 : Nat → Option Hd := fun _ => none
/- slices.Concat[[]byte,byte] -/
noncomputable def m42b0 (Φ : Sem') (N : Nat) (os : List Obj') (g : SL → OB → Option R) (sl : SL) (ob : OB) : Option R :=
  bnd (bi .lss (gS sl 27) (gS sl 26)) fun v11 =>
  br v11 (
   bnd (xS ob 1 (gS sl 25) (gS sl 27)) fun v12 =>
   bnd (l1 ob v12) fun v13 =>
   bndO (ap ob 328 1 (gS sl 6) v13) ob fun v14 ob =>
   bnd (bi .add (gS sl 27) (.i .i64 1)) fun v15 =>
   bnd (head [.row 6 119 1] [6, 25, 26, 27] [] [(6, v14), (25, (gS sl 25)), (26, (gS sl 26)), (27, v15)] ob) fun x => g x.1 x.2
  ) (
   fin ob os.length [1] [(gS sl 6)]
  )
noncomputable def m42b1 (Φ : Sem') (N : Nat) (os : List Obj') (g : SL → OB → Option R) (sl : SL) (ob : OB) : Option R :=
  bnd (bi .lss (gS sl 11) (gS sl 10)) fun v2 =>
  br v2 (
   bnd (xS ob 1 (gS sl 9) (gS sl 11)) fun v3 =>
   bnd (l1 ob v3) fun v4 =>
   bnd (len v4) fun v5 =>
   bnd (bi .add (gS sl 3) v5) fun v6 =>
   bnd (bi .lss v6 (.i .i64 0)) fun v7 =>
   br v7 (
    none
   ) (
    bnd (bi .add (gS sl 11) (.i .i64 1)) fun v8 =>
    bnd (head [] [0, 3, 9, 10, 11] [] [(0, (gS sl 0)), (3, v6), (9, (gS sl 9)), (10, (gS sl 10)), (11, v8)] ob) fun x => g x.1 x.2
   )
  ) (
   bndO (ca Φ ob 256 true 52 [(.e true), (gS sl 3)]) ob fun v9 ob =>
   bnd (len (gS sl 0)) fun v10 =>
   bnd (head [.row 6 119 1] [6, 25, 26, 27] [] [(6, v9), (25, (gS sl 0)), (26, v10), (27, (.i .i64 0))] ob) fun x => loopC (m42b0 Φ N os) N x.1 x.2
  )
noncomputable def m42 : Body := fun Φ N as os =>
  let a0 := gS (zipN 0 as) 0
  let ob := zipN 0 os
  bnd (len a0) fun v1 =>
  bnd (head [] [0, 3, 9, 10, 11] [] [(0, a0), (3, (.i .i64 0)), (9, a0), (10, v1), (11, (.i .i64 0))] ob) fun x => loopC (m42b1 Φ N os) N x.1 x.2

def ann42 : Nat → Option Hd
  | 3 => some ⟨[], [0, 3, 9, 10, 11], [], []⟩ | 11 => some ⟨[.row 6 119 1], [6, 25, 26, 27], [], []⟩ | _ => none
def lab42 : Nat → Option Hd := fun _ => none
/- slices.Clone[[]byte,byte] -/
noncomputable def m43 : Body := fun Φ N as os =>
  let a0 := gS (zipN 0 as) 0
  let ob := zipN 0 os
  bnd (eNs false ob a0) fun v1 =>
  br v1 (
   fin ob os.length [1] [(.e true)]
  ) (
   bndO (bldS ob 104 1 []) ob fun v2 ob =>
   bndO (ap ob 120 1 v2 a0) ob fun v3 ob =>
   fin ob os.length [1] [v3]
  )

def ann43 : Nat → Option Hd := fun _ => none
def lab43 : Nat → Option Hd := fun _ => none
/- pelican/pelicanref04.Plain -/
noncomputable def m44b0 (Φ : Sem') (N : Nat) (os : List Obj') (g : SL → OB → Option R) (sl : SL) (ob : OB) : Option R :=
  bnd (len (gS sl 3)) fun v45 =>
  bnd (bi .lss (gS sl 6) v45) fun v46 =>
  br v46 (
   bnd (xS ob 2 (gS sl 3) (gS sl 6)) fun v47 =>
   bnd (fA 0 v47) fun v48 =>
   bnd (l1 ob v48) fun v49 =>
   bndO (bldS ob 648 1 [v49]) ob fun v50 ob =>
   bndO (ap ob 656 1 (gS sl 5) v50) ob fun v51 ob =>
   bnd (bi .add (gS sl 6) (.i .i64 1)) fun v52 =>
   bnd (head [.row 5 111 1] [1, 3, 4, 5, 6] [72, 528] [(1, (gS sl 1)), (3, (gS sl 3)), (4, (gS sl 4)), (5, v51), (6, v52)] ob) fun x => g x.1 x.2
  ) (
   bnd (fA 0 (gS sl 1)) fun v53 =>
   bnd (l1 ob v53) fun v54 =>
   bndO (ca0 Φ ob 688 false 54 [v54, (gS sl 5)]) ob fun v55 ob =>
   bndO (al ob 120 [.i .i64 0, .i .i64 0, .i .u64 0, .i .u64 0, .i .i64 0, .i .u64 0, .i .i64 0, .i .i64 0, .blob 32 (List.replicate 32 (.i .u8 0))]) ob fun v56 ob =>
   bndO (st ob 40 v56 v55) ob fun _ ob =>
   br (gS sl 4) (
    bnd (fA 8 (gS sl 1)) fun v57 =>
    bnd (lN ob 32 v57) fun v58 =>
    bnd (fA 8 v56) fun v59 =>
    bndO (st ob 32 v59 v58) ob fun _ ob =>
    bnd (lN ob 40 v56) fun v60 =>
    bnd (lN ob 40 (gS sl 1)) fun v61 =>
    bnd (eSt false [.i, .i, .i, .i, .i, .i, .i, .i, .a 32] v60 v61) fun v62 =>
    fin ob os.length [0] [v62]
   ) (
    bnd (lN ob 40 v56) fun v63 =>
    bnd (lN ob 40 (gS sl 1)) fun v64 =>
    bnd (eSt false [.i, .i, .i, .i, .i, .i, .i, .i, .a 32] v63 v64) fun v65 =>
    fin ob os.length [0] [v65]
   )
  )
noncomputable def m44 : Body := fun Φ N as os =>
  let a0 := gS (zipN 0 as) 0
  let ob := zipN 0 os
  bndO (bx ob 72 a0) ob fun v1 ob =>
  bnd (fA 0 v1) fun v2 =>
  bnd (l1 ob v2) fun v3 =>
  bnd (bi .lss v3 (.i .i64 0)) fun v4 =>
  bnd (gd v4 false (fA 0 v1)) fun v5 =>
  bnd (gd v4 false (l1 ob v5)) fun v6 =>
  bnd (gd v4 false (bi .geq v6 (.i .i64 7))) fun v7 =>
  bnd (pk v4 (.b true) v7) fun v8 =>
  bnd (gd v8 false (fA 1 v1)) fun v9 =>
  bnd (gd v8 false (l1 ob v9)) fun v10 =>
  bnd (gd v8 false (bi .lss v10 (.i .i64 0))) fun v11 =>
  bnd (pk v8 (.b true) v11) fun v12 =>
  bnd (gd v12 false (fA 1 v1)) fun v13 =>
  bnd (gd v12 false (l1 ob v13)) fun v14 =>
  bnd (gd v12 false (bi .gtr v14 (.i .i64 255))) fun v15 =>
  bnd (pk v12 (.b true) v15) fun v16 =>
  bnd (gd v16 false (fA 4 v1)) fun v17 =>
  bnd (gd v16 false (l1 ob v17)) fun v18 =>
  bnd (gd v16 false (bi .lss v18 (.i .i64 0))) fun v19 =>
  bnd (pk v16 (.b true) v19) fun v20 =>
  bnd (gd v20 false (fA 4 v1)) fun v21 =>
  bnd (gd v20 false (l1 ob v21)) fun v22 =>
  bnd (gd v20 false (bi .gtr v22 (.i .i64 1073741824))) fun v23 =>
  bnd (pk v20 (.b true) v23) fun v24 =>
  bnd (gd v24 false (fA 6 v1)) fun v25 =>
  bnd (gd v24 false (l1 ob v25)) fun v26 =>
  bnd (gd v24 false (bi .lss v26 (.i .i64 0))) fun v27 =>
  bnd (pk v24 (.b true) v27) fun v28 =>
  bnd (gd v28 false (fA 6 v1)) fun v29 =>
  bnd (gd v28 false (l1 ob v29)) fun v30 =>
  bnd (gd v28 false (bi .gtr v30 (.i .i64 255))) fun v31 =>
  bnd (pk v28 (.b true) v31) fun v32 =>
  bnd (gd v32 false (fA 7 v1)) fun v33 =>
  bnd (gd v32 false (l1 ob v33)) fun v34 =>
  bnd (gd v32 false (bi .lss v34 (.i .i64 0))) fun v35 =>
  bnd (pk v32 (.b true) v35) fun v36 =>
  bnd (gd v36 false (fA 7 v1)) fun v37 =>
  bnd (gd v36 false (l1 ob v37)) fun v38 =>
  bnd (gd v36 false (bi .gtr v38 (.i .i64 65535))) fun v39 =>
  bnd (pk v36 (.b true) v39) fun v40 =>
  br v40 (
   fin ob os.length [0] [(.b false)]
  ) (
   bnd (lN ob 40 v1) fun v41 =>
   bndO (ca0 Φ ob 528 false 53 [v41]) ob fun v42 ob =>
   bnd (ext 0 v42) fun v43 =>
   bnd (ext 1 v42) fun v44 =>
   bnd (head [.row 5 111 1] [1, 3, 4, 5, 6] [72, 528] [(1, v1), (3, v43), (4, v44), (5, (.e true)), (6, (.i .i64 0))] ob) fun x => loopC (m44b0 Φ N os) N x.1 x.2
  )

def ann44 : Nat → Option Hd
  | 6 => some ⟨[.row 5 111 1], [1, 3, 4, 5, 6], [72, 528], []⟩ | _ => none
def lab44 : Nat → Option Hd := fun _ => none
/- pelican/pelicanref04.front -/
noncomputable def m45 : Body := fun Φ N as os =>
  let a0 := gS (zipN 0 as) 0
  let ob := zipN 0 os
  bndO (bx ob 72 a0) ob fun v1 ob =>
  bnd (lN ob 40 v1) fun v2 =>
  bndO (ca0 Φ ob 152 false 53 [v2]) ob fun v3 ob =>
  bnd (ext 0 v3) fun v4 =>
  bnd (ext 1 v3) fun v5 =>
  bndO (ca0 Φ ob 192 false 55 [v4]) ob fun v6 ob =>
  bnd (ext 0 v6) fun v7 =>
  bnd (ext 1 v6) fun v8 =>
  bnd (len v7) fun v9 =>
  bnd (bi .add (.i .i64 1) v9) fun v10 =>
  br v5 (
   bnd (bi .add v10 (.i .i64 32)) fun v11 =>
   bnd (cv .u8 v11) fun v12 =>
   bnd (fA 0 v1) fun v13 =>
   bnd (l1 ob v13) fun v14 =>
   bnd (cv .u8 v14) fun v15 =>
   bndO (bldS ob 304 1 [(.i .u8 0), v12, v15]) ob fun v16 ob =>
   bndO (ap ob 320 1 v16 v7) ob fun v17 ob =>
   fin ob os.length [1, 0] [v17, v5]
  ) (
   bnd (cv .u8 v10) fun v18 =>
   bnd (fA 0 v1) fun v19 =>
   bnd (l1 ob v19) fun v20 =>
   bnd (cv .u8 v20) fun v21 =>
   bndO (bldS ob 304 1 [(.i .u8 0), v18, v21]) ob fun v22 ob =>
   bndO (ap ob 320 1 v22 v7) ob fun v23 ob =>
   fin ob os.length [1, 0] [v23, v5]
  )

def ann45 : Nat → Option Hd := fun _ => none
def lab45 : Nat → Option Hd := fun _ => none
/- pelican/pelicanref01.Sum -/
noncomputable def m46 : Body := fun Φ N as os =>
  let a0 := gS (zipN 0 as) 0
  let ob := zipN 0 os
  bndO (al ob 80 [.blob 32 (List.replicate 32 (.i .u8 0))]) ob fun v1 ob =>
  bnd (len a0) fun v2 =>
  bnd (bi .gtr v2 (.i .i64 1048576)) fun v3 =>
  br v3 (
   bnd (bld [.blob 32 (List.replicate 32 (.i .u8 0))] []) fun v4 =>
   bndO (st ob 32 v1 v4) ob fun _ ob =>
   bnd (lN ob 32 v1) fun v5 =>
   fin ob os.length [0] [v5]
  ) (
   bndO (ca0 Φ ob 120 false 58 []) ob fun v6 ob =>
   bndO (ca0 Φ ob 136 false 57 [v6, a0]) ob fun v7 ob =>
   bndO (ca0 Φ ob 144 false 56 [v7]) ob fun v8 ob =>
   bndO (st ob 32 v1 v8) ob fun _ ob =>
   bnd (lN ob 32 v1) fun v9 =>
   fin ob os.length [0] [v9]
  )

def ann46 : Nat → Option Hd := fun _ => none
def lab46 : Nat → Option Hd := fun _ => none
/- pelican/pelicanref02.With -/
noncomputable def m47b0 (Φ : Sem') (N : Nat) (os : List Obj') (g : SL → OB → Option R) (sl : SL) (ob : OB) : Option R :=
  bnd (len (gS sl 5)) fun v2 =>
  bnd (bi .lss (gS sl 6) v2) fun v3 =>
  br v3 (
   bnd (xS ob 1 (gS sl 5) (gS sl 6)) fun v4 =>
   bnd (l1 ob v4) fun v5 =>
   bnd (bi .xor v5 (gS sl 1)) fun v6 =>
   bnd (xS ob 1 (gS sl 5) (gS sl 6)) fun v7 =>
   bndO (st ob 1 v7 v6) ob fun _ ob =>
   bnd (bi .add (gS sl 6) (.i .i64 1)) fun v8 =>
   bnd (head [] [1, 5, 6] [128] [(1, (gS sl 1)), (5, (gS sl 5)), (6, v8)] ob) fun x => g x.1 x.2
  ) (
   fin ob os.length [1] [(gS sl 5)]
  )
noncomputable def m47 : Body := fun Φ N as os =>
  let a0 := gS (zipN 0 as) 0
  let a1 := gS (zipN 0 as) 1
  let ob := zipN 0 os
  bndO (ca0 Φ ob 128 false 59 [a0]) ob fun v1 ob =>
  bnd (head [] [1, 5, 6] [128] [(1, a1), (5, v1), (6, (.i .i64 0))] ob) fun x => loopC (m47b0 Φ N os) N x.1 x.2

def ann47 : Nat → Option Hd
  | 3 => some ⟨[], [1, 5, 6], [128], []⟩ | _ => none
def lab47 : Nat → Option Hd := fun _ => none
/- slices.Insert[[]pelican/frame.slot,pelican/frame.slot] -/
noncomputable def m48 : Body := fun Φ N as os =>
  let a0 := gS (zipN 0 as) 0
  let a1 := gS (zipN 0 as) 1
  let a2 := gS (zipN 0 as) 2
  let ob := zipN 0 os
  bndO (slc ob (.slice 3) a0 (some a1) none none) ob fun v1 ob =>
  bnd (len a2) fun v2 =>
  bnd (bi .eql v2 (.i .i64 0)) fun v3 =>
  br v3 (
   finG ob os.length [a0]
  ) (
   bnd (len a0) fun v4 =>
   bnd (bi .eql a1 v4) fun v5 =>
   br v5 (
    bndO (apN ob 264 3 a0 a2) ob fun v6 ob =>
    finG ob os.length [v6]
   ) (
    bnd (bi .add v4 v2) fun v7 =>
    bnd (cp ob a0) fun v8 =>
    bnd (bi .gtr v7 v8) fun v9 =>
    br v9 (
     bndO (slc ob (.slice 3) a0 none (some a1) none) ob fun v10 ob =>
     bnd (bi .add v4 v2) fun v11 =>
     bnd (bi .sub v11 a1) fun v12 =>
     bndO (apzN ob 384 [.np, .np, .i .i64 0] v10 v12) ob fun v13 ob =>
     bndO (slc ob (.slice 3) v13 (some a1) none none) ob fun v14 ob =>
     bndO (cpN ob 3 v14 a2) ob fun v15 ob =>
     bnd (bi .add a1 v2) fun v16 =>
     bndO (slc ob (.slice 3) v13 (some v16) none none) ob fun v17 ob =>
     bndO (slc ob (.slice 3) a0 (some a1) none none) ob fun v18 ob =>
     bndO (cpN ob 3 v17 v18) ob fun v19 ob =>
     finG ob os.length [v13]
    ) (
     bnd (bi .add v4 v2) fun v20 =>
     bndO (slc ob (.slice 3) a0 none (some v20) none) ob fun v21 ob =>
     bnd (bi .add a1 v2) fun v22 =>
     bndO (slc ob (.slice 3) v21 (some v22) none none) ob fun v23 ob =>
     bndO (ca Φ ob 600 false 60 [a2, v23]) ob fun v24 ob =>
     bnd (uO .not v24) fun v25 =>
     br v25 (
      bnd (bi .add a1 v2) fun v26 =>
      bndO (slc ob (.slice 3) v21 (some v26) none none) ob fun v27 ob =>
      bndO (slc ob (.slice 3) v21 (some a1) none none) ob fun v28 ob =>
      bndO (cpN ob 3 v27 v28) ob fun v29 ob =>
      bndO (slc ob (.slice 3) v21 (some a1) none none) ob fun v30 ob =>
      bndO (cpN ob 3 v30 a2) ob fun v31 ob =>
      finG ob os.length [v21]
     ) (
      bndO (slc ob (.slice 3) v21 (some v4) none none) ob fun v32 ob =>
      bndO (cpN ob 3 v32 a2) ob fun v33 ob =>
      bndO (slc ob (.slice 3) v21 (some a1) none none) ob fun v34 ob =>
      bndO (ca Φ ob 808 false 61 [v34, v2]) ob fun v35 ob =>
      finG ob os.length [v21]
     )
    )
   )
  )

def ann48 : Nat → Option Hd := fun _ => none
def lab48 : Nat → Option Hd := fun _ => none
/- pelican/num.size -/
noncomputable def m49 : Body := fun Φ N as os =>
  let a0 := gS (zipN 0 as) 0
  let ob := zipN 0 os
  bnd (bi .geq a0 (.i .i64 1)) fun v1 =>
  bnd (gd v1 true (some a0)) fun v2 =>
  bnd (gd v1 true (bi .leq v2 (.i .i64 8))) fun v3 =>
  bnd (pk v1 v3 (.b false)) fun v4 =>
  fin ob os.length [0] [v4]

def ann49 : Nat → Option Hd := fun _ => none
def lab49 : Nat → Option Hd := fun _ => none
/- pelican/num.Put -/
noncomputable def m50j0 (Φ : Sem') (N : Nat) (os : List Obj') (g : SL → OB → Option R) (sl : SL) (ob : OB) : Option R :=
  bnd (cv .u8 (gS sl 0)) fun v1 =>
  bnd (xS ob 1 (gS sl 6) (gS sl 7)) fun v2 =>
  bndO (st ob 1 v2 v1) ob fun _ ob =>
  bnd (bi .shr (gS sl 0) (.i .u64 8)) fun v3 =>
  bnd (bi .sub (gS sl 7) (.i .i64 1)) fun v4 =>
  bnd (bi .geq v4 (.i .i64 0)) fun v5 =>
  br v5 (
   bnd (head [] [0, 6, 7] [248] [(0, v3), (6, (gS sl 6)), (7, v4)] ob) fun x => g x.1 x.2
  ) (
   fin ob os.length [1, 0] [(gS sl 6), (.b true)]
  )
noncomputable def m50 : Body := fun Φ N as os =>
  let a0 := gS (zipN 0 as) 0
  let a1 := gS (zipN 0 as) 1
  let ob := zipN 0 os
  bndO (ca0 Φ ob 136 false 49 [a1]) ob fun v6 ob =>
  bnd (uO .not v6) fun v7 =>
  bnd (gd v7 false (some a1)) fun v8 =>
  bnd (gd v7 false (bi .lss v8 (.i .i64 8))) fun v9 =>
  bnd (gd v7 false (some v9)) fun v10 =>
  bnd (gd v10 true (some a0)) fun v11 =>
  bnd (gd v10 true (some a1)) fun v12 =>
  bnd (gd v10 true (bi .mul (.i .i64 8) v12)) fun v13 =>
  bnd (gd v10 true (bi .shr v11 v13)) fun v14 =>
  bnd (gd v10 true (bi .neq v14 (.i .u64 0))) fun v15 =>
  bnd (gd v7 false (pk v10 v15 (.b false))) fun v16 =>
  bnd (pk v7 (.b true) v16) fun v17 =>
  br v17 (
   fin ob os.length [1, 0] [(.e true), (.b false)]
  ) (
   bndO (mks ob 248 [.i .u8 0] a1) ob fun v18 ob =>
   bnd (bi .sub a1 (.i .i64 1)) fun v19 =>
   bnd (cv .u8 a0) fun v20 =>
   bnd (xS ob 1 v18 v19) fun v21 =>
   bndO (st ob 1 v21 v20) ob fun _ ob =>
   bnd (bi .shr a0 (.i .u64 8)) fun v22 =>
   bnd (bi .sub v19 (.i .i64 1)) fun v23 =>
   bnd (bi .geq v23 (.i .i64 0)) fun v24 =>
   br v24 (
    bnd (head [] [0, 6, 7] [248] [(0, v22), (6, v18), (7, v23)] ob) fun x => loopC (m50j0 Φ N os) N x.1 x.2
   ) (
    fin ob os.length [1, 0] [v18, (.b true)]
   )
  )

def ann50 : Nat → Option Hd := fun _ => none
def lab50 : Nat → Option Hd
  | 0 => some ⟨[], [0, 6, 7], [248], []⟩ | _ => none
/- pelican/sha.round -/
noncomputable def m51b0 (Φ : Sem') (N : Nat) (os : List Obj') (g : SL → OB → Option R) (sl : SL) (ob : OB) : Option R :=
  bnd (bi .lss (gS sl 98) (.i .i64 8)) fun v72 =>
  br v72 (
   bnd (xA 8 (gS sl 6) (gS sl 98)) fun v73 =>
   bnd (l1 ob v73) fun v74 =>
   bnd (xA 8 (gS sl 2) (gS sl 98)) fun v75 =>
   bnd (l1 ob v75) fun v76 =>
   bnd (bi .add v74 v76) fun v77 =>
   bnd (xA 8 (gS sl 6) (gS sl 98)) fun v78 =>
   bndO (st ob 1 v78 v77) ob fun _ ob =>
   bnd (bi .add (gS sl 98) (.i .i64 1)) fun v79 =>
   bnd (head [] [2, 4, 6, 98] [80, 96, 112] [(2, (gS sl 2)), (4, (gS sl 4)), (6, (gS sl 6)), (98, v79)] ob) fun x => g x.1 x.2
  ) (
   bnd (lN ob 8 (gS sl 6)) fun v80 =>
   bndO (st ob 8 (gS sl 4) v80) ob fun _ ob =>
   bnd (lN ob 8 (gS sl 4)) fun v81 =>
   fin ob os.length [0] [v81]
  )
noncomputable def m51b1 (Φ : Sem') (N : Nat) (os : List Obj') (g : SL → OB → Option R) (sl : SL) (ob : OB) : Option R :=
  bnd (bi .lss (gS sl 16) (.i .i64 64)) fun v7 =>
  br v7 (
   bnd (xA 8 (gS sl 6) (.i .i64 0)) fun v8 =>
   bnd (l1 ob v8) fun v9 =>
   bnd (xA 8 (gS sl 6) (.i .i64 4)) fun v10 =>
   bnd (l1 ob v10) fun v11 =>
   bnd (xA 8 (gS sl 6) (.i .i64 7)) fun v12 =>
   bnd (l1 ob v12) fun v13 =>
   bndO (ca0 Φ ob 272 false 63 [v11, (.i .i64 6)]) ob fun v14 ob =>
   bndO (ca0 Φ ob 288 false 63 [v11, (.i .i64 11)]) ob fun v15 ob =>
   bnd (bi .xor v14 v15) fun v16 =>
   bndO (ca0 Φ ob 312 false 63 [v11, (.i .i64 25)]) ob fun v17 ob =>
   bnd (bi .xor v16 v17) fun v18 =>
   bnd (bi .add v13 v18) fun v19 =>
   bnd (xA 8 (gS sl 6) (.i .i64 5)) fun v20 =>
   bnd (l1 ob v20) fun v21 =>
   bnd (bi .and v11 v21) fun v22 =>
   bnd (uO .xor v11) fun v23 =>
   bnd (xA 8 (gS sl 6) (.i .i64 6)) fun v24 =>
   bnd (l1 ob v24) fun v25 =>
   bnd (bi .and v23 v25) fun v26 =>
   bnd (bi .xor v22 v26) fun v27 =>
   bnd (bi .add v19 v27) fun v28 =>
   bnd (xA 64 (.q true gMore none) (gS sl 16)) fun v29 =>
   bnd (l1 ob v29) fun v30 =>
   bnd (bi .add v28 v30) fun v31 =>
   bnd (xA 64 (gS sl 5) (gS sl 16)) fun v32 =>
   bnd (l1 ob v32) fun v33 =>
   bnd (bi .add v31 v33) fun v34 =>
   bndO (ca0 Φ ob 496 false 63 [v9, (.i .i64 2)]) ob fun v35 ob =>
   bndO (ca0 Φ ob 512 false 63 [v9, (.i .i64 13)]) ob fun v36 ob =>
   bnd (bi .xor v35 v36) fun v37 =>
   bndO (ca0 Φ ob 536 false 63 [v9, (.i .i64 22)]) ob fun v38 ob =>
   bnd (bi .xor v37 v38) fun v39 =>
   bnd (xA 8 (gS sl 6) (.i .i64 1)) fun v40 =>
   bnd (l1 ob v40) fun v41 =>
   bnd (bi .and v9 v41) fun v42 =>
   bnd (xA 8 (gS sl 6) (.i .i64 2)) fun v43 =>
   bnd (l1 ob v43) fun v44 =>
   bnd (bi .and v9 v44) fun v45 =>
   bnd (bi .xor v42 v45) fun v46 =>
   bnd (xA 8 (gS sl 6) (.i .i64 1)) fun v47 =>
   bnd (l1 ob v47) fun v48 =>
   bnd (xA 8 (gS sl 6) (.i .i64 2)) fun v49 =>
   bnd (l1 ob v49) fun v50 =>
   bnd (bi .and v48 v50) fun v51 =>
   bnd (bi .xor v46 v51) fun v52 =>
   bnd (bi .add v39 v52) fun v53 =>
   bnd (bi .add v34 v53) fun v54 =>
   bnd (xA 8 (gS sl 6) (.i .i64 0)) fun v55 =>
   bnd (l1 ob v55) fun v56 =>
   bnd (xA 8 (gS sl 6) (.i .i64 1)) fun v57 =>
   bnd (l1 ob v57) fun v58 =>
   bnd (xA 8 (gS sl 6) (.i .i64 2)) fun v59 =>
   bnd (l1 ob v59) fun v60 =>
   bnd (xA 8 (gS sl 6) (.i .i64 3)) fun v61 =>
   bnd (l1 ob v61) fun v62 =>
   bnd (bi .add v62 v34) fun v63 =>
   bnd (xA 8 (gS sl 6) (.i .i64 4)) fun v64 =>
   bnd (l1 ob v64) fun v65 =>
   bnd (xA 8 (gS sl 6) (.i .i64 5)) fun v66 =>
   bnd (l1 ob v66) fun v67 =>
   bnd (xA 8 (gS sl 6) (.i .i64 6)) fun v68 =>
   bnd (l1 ob v68) fun v69 =>
   bnd (bld [.blob 8 (List.replicate 8 (.i .u32 0))] [(0, 1, v54), (1, 1, v56), (2, 1, v58), (3, 1, v60), (4, 1, v63), (5, 1, v65), (6, 1, v67), (7, 1, v69)]) fun v70 =>
   bndO (st ob 8 (gS sl 6) v70) ob fun _ ob =>
   bnd (bi .add (gS sl 16) (.i .i64 1)) fun v71 =>
   bnd (head [] [2, 4, 5, 6, 16] [80, 96, 104, 112] [(2, (gS sl 2)), (4, (gS sl 4)), (5, (gS sl 5)), (6, (gS sl 6)), (16, v71)] ob) fun x => g x.1 x.2
  ) (
   bnd (head [] [2, 4, 6, 98] [80, 96, 112] [(2, (gS sl 2)), (4, (gS sl 4)), (6, (gS sl 6)), (98, (.i .i64 0))] ob) fun x => loopC (m51b0 Φ N os) N x.1 x.2
  )
noncomputable def m51 : Body := fun Φ N as os =>
  let a0 := gS (zipN 0 as) 0
  let a1 := gS (zipN 0 as) 1
  let ob := zipN 0 os
  bndO (bx ob 80 a0) ob fun v1 ob =>
  bndO (al ob 96 [.blob 8 (List.replicate 8 (.i .u32 0))]) ob fun v2 ob =>
  bndO (ca0 Φ ob 176 false 62 [a1]) ob fun v3 ob =>
  bndO (al ob 104 [.blob 64 (List.replicate 64 (.i .u32 0))]) ob fun v4 ob =>
  bndO (st ob 64 v4 v3) ob fun _ ob =>
  bnd (lN ob 8 v1) fun v5 =>
  bndO (al ob 112 [.blob 8 (List.replicate 8 (.i .u32 0))]) ob fun v6 ob =>
  bndO (st ob 8 v6 v5) ob fun _ ob =>
  bnd (head [] [2, 4, 5, 6, 16] [80, 96, 104, 112] [(2, v1), (4, v2), (5, v4), (6, v6), (16, (.i .i64 0))] ob) fun x => loopC (m51b1 Φ N os) N x.1 x.2

def ann51 : Nat → Option Hd
  | 4 => some ⟨[], [2, 4, 5, 6, 16], [80, 96, 104, 112], []⟩ | 12 => some ⟨[], [2, 4, 6, 98], [80, 96, 112], []⟩ | _ => none
def lab51 : Nat → Option Hd := fun _ => none
/- slices.Grow[[]byte,byte] -/
noncomputable def m52 : Body := fun Φ N as os =>
  let a0 := gS (zipN 0 as) 0
  let a1 := gS (zipN 0 as) 1
  let ob := zipN 0 os
  bnd (bi .lss a1 (.i .i64 0)) fun v1 =>
  br v1 (
   none
  ) (
   bnd (cp ob a0) fun v2 =>
   bnd (len a0) fun v3 =>
   bnd (bi .sub v2 v3) fun v4 =>
   bnd (bi .sub a1 v4) fun v5 =>
   bnd (bi .gtr v5 (.i .i64 0)) fun v6 =>
   br v6 (
    bnd (cp ob a0) fun v7 =>
    bndO (slc ob (.slice 1) a0 none (some v7) none) ob fun v8 ob =>
    bndO (apz ob 240 [.i .u8 0] v8 v5) ob fun v9 ob =>
    bnd (len a0) fun v10 =>
    bndO (slc ob (.slice 1) v9 none (some v10) none) ob fun v11 ob =>
    fin ob os.length [1] [v11]
   ) (
    fin ob os.length [1] [a0]
   )
  )

def ann52 : Nat → Option Hd := fun _ => none
def lab52 : Nat → Option Hd := fun _ => none
/- pelican/pelicanref04.fields -/
noncomputable def m53 : Body := fun Φ N as os =>
  let a0 := gS (zipN 0 as) 0
  let ob := zipN 0 os
  bndO (bx ob 72 a0) ob fun v1 ob =>
  bnd (fA 0 v1) fun v2 =>
  bnd (l1 ob v2) fun v3 =>
  bnd (bi .eql v3 (.i .i64 0)) fun v4 =>
  br v4 (
   bnd (fA 1 v1) fun v5 =>
   bnd (l1 ob v5) fun v6 =>
   bnd (cv .u64 v6) fun v7 =>
   bnd (bld [.i .u64 0, .i .i64 0] [(0, 1, v7), (1, 1, (.i .i64 1))]) fun v8 =>
   bnd (fA 3 v1) fun v9 =>
   bnd (l1 ob v9) fun v10 =>
   bnd (bld [.i .u64 0, .i .i64 0] [(0, 1, v10), (1, 1, (.i .i64 8))]) fun v11 =>
   bndO (bldS ob 184 2 [v8, v11]) ob fun v12 ob =>
   fin ob os.length [2, 0] [v12, (.b false)]
  ) (
   bnd (bi .eql v3 (.i .i64 1)) fun v13 =>
   br v13 (
    bnd (fA 2 v1) fun v14 =>
    bnd (l1 ob v14) fun v15 =>
    bnd (bld [.i .u64 0, .i .i64 0] [(0, 1, v15), (1, 1, (.i .i64 8))]) fun v16 =>
    bnd (fA 4 v1) fun v17 =>
    bnd (l1 ob v17) fun v18 =>
    bnd (cv .u64 v18) fun v19 =>
    bnd (bld [.i .u64 0, .i .i64 0] [(0, 1, v19), (1, 1, (.i .i64 4))]) fun v20 =>
    bndO (bldS ob 264 2 [v16, v20]) ob fun v21 ob =>
    fin ob os.length [2, 0] [v21, (.b false)]
   ) (
    bnd (bi .eql v3 (.i .i64 2)) fun v22 =>
    br v22 (
     br v22 (
      bnd (fA 2 v1) fun v23 =>
      bnd (l1 ob v23) fun v24 =>
      bnd (bld [.i .u64 0, .i .i64 0] [(0, 1, v24), (1, 1, (.i .i64 8))]) fun v25 =>
      bndO (bldS ob 320 2 [v25]) ob fun v26 ob =>
      fin ob os.length [2, 0] [v26, (.b true)]
     ) (
      bnd (bi .eql v3 (.i .i64 4)) fun v27 =>
      br v27 (
       br v27 (
        bnd (fA 2 v1) fun v28 =>
        bnd (l1 ob v28) fun v29 =>
        bnd (bld [.i .u64 0, .i .i64 0] [(0, 1, v29), (1, 1, (.i .i64 8))]) fun v30 =>
        bnd (fA 5 v1) fun v31 =>
        bnd (l1 ob v31) fun v32 =>
        bnd (bld [.i .u64 0, .i .i64 0] [(0, 1, v32), (1, 1, (.i .i64 8))]) fun v33 =>
        bnd (fA 6 v1) fun v34 =>
        bnd (l1 ob v34) fun v35 =>
        bnd (cv .u64 v35) fun v36 =>
        bnd (bld [.i .u64 0, .i .i64 0] [(0, 1, v36), (1, 1, (.i .i64 1))]) fun v37 =>
        bnd (fA 7 v1) fun v38 =>
        bnd (l1 ob v38) fun v39 =>
        bnd (cv .u64 v39) fun v40 =>
        bnd (bld [.i .u64 0, .i .i64 0] [(0, 1, v40), (1, 1, (.i .i64 2))]) fun v41 =>
        bndO (bldS ob 464 2 [v30, v33, v37, v41]) ob fun v42 ob =>
        fin ob os.length [2, 0] [v42, (.b true)]
       ) (
        bnd (fA 6 v1) fun v43 =>
        bnd (l1 ob v43) fun v44 =>
        bnd (cv .u64 v44) fun v45 =>
        bnd (bld [.i .u64 0, .i .i64 0] [(0, 1, v45), (1, 1, (.i .i64 1))]) fun v46 =>
        bndO (bldS ob 504 2 [v46]) ob fun v47 ob =>
        fin ob os.length [2, 0] [v47, (.b false)]
       )
      ) (
       bnd (bi .eql v3 (.i .i64 5)) fun v48 =>
       br v48 (
        bnd (fA 2 v1) fun v49 =>
        bnd (l1 ob v49) fun v50 =>
        bnd (bld [.i .u64 0, .i .i64 0] [(0, 1, v50), (1, 1, (.i .i64 8))]) fun v51 =>
        bnd (fA 5 v1) fun v52 =>
        bnd (l1 ob v52) fun v53 =>
        bnd (bld [.i .u64 0, .i .i64 0] [(0, 1, v53), (1, 1, (.i .i64 8))]) fun v54 =>
        bnd (fA 6 v1) fun v55 =>
        bnd (l1 ob v55) fun v56 =>
        bnd (cv .u64 v56) fun v57 =>
        bnd (bld [.i .u64 0, .i .i64 0] [(0, 1, v57), (1, 1, (.i .i64 1))]) fun v58 =>
        bnd (fA 7 v1) fun v59 =>
        bnd (l1 ob v59) fun v60 =>
        bnd (cv .u64 v60) fun v61 =>
        bnd (bld [.i .u64 0, .i .i64 0] [(0, 1, v61), (1, 1, (.i .i64 2))]) fun v62 =>
        bndO (bldS ob 464 2 [v51, v54, v58, v62]) ob fun v63 ob =>
        fin ob os.length [2, 0] [v63, (.b true)]
       ) (
        bnd (fA 6 v1) fun v64 =>
        bnd (l1 ob v64) fun v65 =>
        bnd (cv .u64 v65) fun v66 =>
        bnd (bld [.i .u64 0, .i .i64 0] [(0, 1, v66), (1, 1, (.i .i64 1))]) fun v67 =>
        bndO (bldS ob 504 2 [v67]) ob fun v68 ob =>
        fin ob os.length [2, 0] [v68, (.b false)]
       )
      )
     )
    ) (
     bnd (bi .eql v3 (.i .i64 3)) fun v69 =>
     br v69 (
      bnd (fA 2 v1) fun v70 =>
      bnd (l1 ob v70) fun v71 =>
      bnd (bld [.i .u64 0, .i .i64 0] [(0, 1, v71), (1, 1, (.i .i64 8))]) fun v72 =>
      bndO (bldS ob 320 2 [v72]) ob fun v73 ob =>
      fin ob os.length [2, 0] [v73, (.b true)]
     ) (
      bnd (bi .eql v3 (.i .i64 4)) fun v74 =>
      br v74 (
       br v74 (
        bnd (fA 2 v1) fun v75 =>
        bnd (l1 ob v75) fun v76 =>
        bnd (bld [.i .u64 0, .i .i64 0] [(0, 1, v76), (1, 1, (.i .i64 8))]) fun v77 =>
        bnd (fA 5 v1) fun v78 =>
        bnd (l1 ob v78) fun v79 =>
        bnd (bld [.i .u64 0, .i .i64 0] [(0, 1, v79), (1, 1, (.i .i64 8))]) fun v80 =>
        bnd (fA 6 v1) fun v81 =>
        bnd (l1 ob v81) fun v82 =>
        bnd (cv .u64 v82) fun v83 =>
        bnd (bld [.i .u64 0, .i .i64 0] [(0, 1, v83), (1, 1, (.i .i64 1))]) fun v84 =>
        bnd (fA 7 v1) fun v85 =>
        bnd (l1 ob v85) fun v86 =>
        bnd (cv .u64 v86) fun v87 =>
        bnd (bld [.i .u64 0, .i .i64 0] [(0, 1, v87), (1, 1, (.i .i64 2))]) fun v88 =>
        bndO (bldS ob 464 2 [v77, v80, v84, v88]) ob fun v89 ob =>
        fin ob os.length [2, 0] [v89, (.b true)]
       ) (
        bnd (fA 6 v1) fun v90 =>
        bnd (l1 ob v90) fun v91 =>
        bnd (cv .u64 v91) fun v92 =>
        bnd (bld [.i .u64 0, .i .i64 0] [(0, 1, v92), (1, 1, (.i .i64 1))]) fun v93 =>
        bndO (bldS ob 504 2 [v93]) ob fun v94 ob =>
        fin ob os.length [2, 0] [v94, (.b false)]
       )
      ) (
       bnd (bi .eql v3 (.i .i64 5)) fun v95 =>
       br v95 (
        bnd (fA 2 v1) fun v96 =>
        bnd (l1 ob v96) fun v97 =>
        bnd (bld [.i .u64 0, .i .i64 0] [(0, 1, v97), (1, 1, (.i .i64 8))]) fun v98 =>
        bnd (fA 5 v1) fun v99 =>
        bnd (l1 ob v99) fun v100 =>
        bnd (bld [.i .u64 0, .i .i64 0] [(0, 1, v100), (1, 1, (.i .i64 8))]) fun v101 =>
        bnd (fA 6 v1) fun v102 =>
        bnd (l1 ob v102) fun v103 =>
        bnd (cv .u64 v103) fun v104 =>
        bnd (bld [.i .u64 0, .i .i64 0] [(0, 1, v104), (1, 1, (.i .i64 1))]) fun v105 =>
        bnd (fA 7 v1) fun v106 =>
        bnd (l1 ob v106) fun v107 =>
        bnd (cv .u64 v107) fun v108 =>
        bnd (bld [.i .u64 0, .i .i64 0] [(0, 1, v108), (1, 1, (.i .i64 2))]) fun v109 =>
        bndO (bldS ob 464 2 [v98, v101, v105, v109]) ob fun v110 ob =>
        fin ob os.length [2, 0] [v110, (.b true)]
       ) (
        bnd (fA 6 v1) fun v111 =>
        bnd (l1 ob v111) fun v112 =>
        bnd (cv .u64 v112) fun v113 =>
        bnd (bld [.i .u64 0, .i .i64 0] [(0, 1, v113), (1, 1, (.i .i64 1))]) fun v114 =>
        bndO (bldS ob 504 2 [v114]) ob fun v115 ob =>
        fin ob os.length [2, 0] [v115, (.b false)]
       )
      )
     )
    )
   )
  )

def ann53 : Nat → Option Hd := fun _ => none
def lab53 : Nat → Option Hd := fun _ => none
/- pelican/pelicanref04.made -/
noncomputable def m54 : Body := fun Φ N as os =>
  let a0 := gS (zipN 0 as) 0
  let a1 := gS (zipN 0 as) 1
  let ob := zipN 0 os
  bndO (al ob 96 [.i .i64 0, .i .i64 0, .i .u64 0, .i .u64 0, .i .i64 0, .i .u64 0, .i .i64 0, .i .i64 0, .blob 32 (List.replicate 32 (.i .u8 0))]) ob fun v1 ob =>
  bnd (bld [.i .i64 0, .i .i64 0, .i .u64 0, .i .u64 0, .i .i64 0, .i .u64 0, .i .i64 0, .i .i64 0, .blob 32 (List.replicate 32 (.i .u8 0))] [(0, 1, a0)]) fun v2 =>
  bndO (al ob 104 [.i .i64 0, .i .i64 0, .i .u64 0, .i .u64 0, .i .i64 0, .i .u64 0, .i .i64 0, .i .i64 0, .blob 32 (List.replicate 32 (.i .u8 0))]) ob fun v3 ob =>
  bndO (st ob 40 v3 v2) ob fun _ ob =>
  bnd (bi .eql a0 (.i .i64 0)) fun v4 =>
  br v4 (
   bnd (xS ob 1 a1 (.i .i64 0)) fun v5 =>
   bnd (l1 ob v5) fun v6 =>
   bnd (cv .i64 v6) fun v7 =>
   bnd (fA 1 v3) fun v8 =>
   bndO (st ob 1 v8 v7) ob fun _ ob =>
   bnd (xS ob 1 a1 (.i .i64 1)) fun v9 =>
   bnd (l1 ob v9) fun v10 =>
   bnd (fA 3 v3) fun v11 =>
   bndO (st ob 1 v11 v10) ob fun _ ob =>
   bnd (lN ob 40 v3) fun v12 =>
   bndO (st ob 40 v1 v12) ob fun _ ob =>
   bnd (lN ob 40 v1) fun v13 =>
   fin ob os.length [0] [v13]
  ) (
   bnd (bi .eql a0 (.i .i64 1)) fun v14 =>
   br v14 (
    bnd (xS ob 1 a1 (.i .i64 0)) fun v15 =>
    bnd (l1 ob v15) fun v16 =>
    bnd (fA 2 v3) fun v17 =>
    bndO (st ob 1 v17 v16) ob fun _ ob =>
    bnd (xS ob 1 a1 (.i .i64 1)) fun v18 =>
    bnd (l1 ob v18) fun v19 =>
    bnd (cv .i64 v19) fun v20 =>
    bnd (fA 4 v3) fun v21 =>
    bndO (st ob 1 v21 v20) ob fun _ ob =>
    bnd (lN ob 40 v3) fun v22 =>
    bndO (st ob 40 v1 v22) ob fun _ ob =>
    bnd (lN ob 40 v1) fun v23 =>
    fin ob os.length [0] [v23]
   ) (
    bnd (bi .eql a0 (.i .i64 2)) fun v24 =>
    br v24 (
     br v24 (
      bnd (xS ob 1 a1 (.i .i64 0)) fun v25 =>
      bnd (l1 ob v25) fun v26 =>
      bnd (fA 2 v3) fun v27 =>
      bndO (st ob 1 v27 v26) ob fun _ ob =>
      bnd (lN ob 40 v3) fun v28 =>
      bndO (st ob 40 v1 v28) ob fun _ ob =>
      bnd (lN ob 40 v1) fun v29 =>
      fin ob os.length [0] [v29]
     ) (
      bnd (bi .eql a0 (.i .i64 4)) fun v30 =>
      br v30 (
       br v30 (
        bnd (xS ob 1 a1 (.i .i64 0)) fun v31 =>
        bnd (l1 ob v31) fun v32 =>
        bnd (fA 2 v3) fun v33 =>
        bndO (st ob 1 v33 v32) ob fun _ ob =>
        bnd (xS ob 1 a1 (.i .i64 1)) fun v34 =>
        bnd (l1 ob v34) fun v35 =>
        bnd (fA 5 v3) fun v36 =>
        bndO (st ob 1 v36 v35) ob fun _ ob =>
        bnd (xS ob 1 a1 (.i .i64 2)) fun v37 =>
        bnd (l1 ob v37) fun v38 =>
        bnd (cv .i64 v38) fun v39 =>
        bnd (fA 6 v3) fun v40 =>
        bndO (st ob 1 v40 v39) ob fun _ ob =>
        bnd (xS ob 1 a1 (.i .i64 3)) fun v41 =>
        bnd (l1 ob v41) fun v42 =>
        bnd (cv .i64 v42) fun v43 =>
        bnd (fA 7 v3) fun v44 =>
        bndO (st ob 1 v44 v43) ob fun _ ob =>
        bnd (lN ob 40 v3) fun v45 =>
        bndO (st ob 40 v1 v45) ob fun _ ob =>
        bnd (lN ob 40 v1) fun v46 =>
        fin ob os.length [0] [v46]
       ) (
        bnd (xS ob 1 a1 (.i .i64 0)) fun v47 =>
        bnd (l1 ob v47) fun v48 =>
        bnd (cv .i64 v48) fun v49 =>
        bnd (fA 6 v3) fun v50 =>
        bndO (st ob 1 v50 v49) ob fun _ ob =>
        bnd (lN ob 40 v3) fun v51 =>
        bndO (st ob 40 v1 v51) ob fun _ ob =>
        bnd (lN ob 40 v1) fun v52 =>
        fin ob os.length [0] [v52]
       )
      ) (
       bnd (bi .eql a0 (.i .i64 5)) fun v53 =>
       br v53 (
        bnd (xS ob 1 a1 (.i .i64 0)) fun v54 =>
        bnd (l1 ob v54) fun v55 =>
        bnd (fA 2 v3) fun v56 =>
        bndO (st ob 1 v56 v55) ob fun _ ob =>
        bnd (xS ob 1 a1 (.i .i64 1)) fun v57 =>
        bnd (l1 ob v57) fun v58 =>
        bnd (fA 5 v3) fun v59 =>
        bndO (st ob 1 v59 v58) ob fun _ ob =>
        bnd (xS ob 1 a1 (.i .i64 2)) fun v60 =>
        bnd (l1 ob v60) fun v61 =>
        bnd (cv .i64 v61) fun v62 =>
        bnd (fA 6 v3) fun v63 =>
        bndO (st ob 1 v63 v62) ob fun _ ob =>
        bnd (xS ob 1 a1 (.i .i64 3)) fun v64 =>
        bnd (l1 ob v64) fun v65 =>
        bnd (cv .i64 v65) fun v66 =>
        bnd (fA 7 v3) fun v67 =>
        bndO (st ob 1 v67 v66) ob fun _ ob =>
        bnd (lN ob 40 v3) fun v68 =>
        bndO (st ob 40 v1 v68) ob fun _ ob =>
        bnd (lN ob 40 v1) fun v69 =>
        fin ob os.length [0] [v69]
       ) (
        bnd (xS ob 1 a1 (.i .i64 0)) fun v70 =>
        bnd (l1 ob v70) fun v71 =>
        bnd (cv .i64 v71) fun v72 =>
        bnd (fA 6 v3) fun v73 =>
        bndO (st ob 1 v73 v72) ob fun _ ob =>
        bnd (lN ob 40 v3) fun v74 =>
        bndO (st ob 40 v1 v74) ob fun _ ob =>
        bnd (lN ob 40 v1) fun v75 =>
        fin ob os.length [0] [v75]
       )
      )
     )
    ) (
     bnd (bi .eql a0 (.i .i64 3)) fun v76 =>
     br v76 (
      bnd (xS ob 1 a1 (.i .i64 0)) fun v77 =>
      bnd (l1 ob v77) fun v78 =>
      bnd (fA 2 v3) fun v79 =>
      bndO (st ob 1 v79 v78) ob fun _ ob =>
      bnd (lN ob 40 v3) fun v80 =>
      bndO (st ob 40 v1 v80) ob fun _ ob =>
      bnd (lN ob 40 v1) fun v81 =>
      fin ob os.length [0] [v81]
     ) (
      bnd (bi .eql a0 (.i .i64 4)) fun v82 =>
      br v82 (
       br v82 (
        bnd (xS ob 1 a1 (.i .i64 0)) fun v83 =>
        bnd (l1 ob v83) fun v84 =>
        bnd (fA 2 v3) fun v85 =>
        bndO (st ob 1 v85 v84) ob fun _ ob =>
        bnd (xS ob 1 a1 (.i .i64 1)) fun v86 =>
        bnd (l1 ob v86) fun v87 =>
        bnd (fA 5 v3) fun v88 =>
        bndO (st ob 1 v88 v87) ob fun _ ob =>
        bnd (xS ob 1 a1 (.i .i64 2)) fun v89 =>
        bnd (l1 ob v89) fun v90 =>
        bnd (cv .i64 v90) fun v91 =>
        bnd (fA 6 v3) fun v92 =>
        bndO (st ob 1 v92 v91) ob fun _ ob =>
        bnd (xS ob 1 a1 (.i .i64 3)) fun v93 =>
        bnd (l1 ob v93) fun v94 =>
        bnd (cv .i64 v94) fun v95 =>
        bnd (fA 7 v3) fun v96 =>
        bndO (st ob 1 v96 v95) ob fun _ ob =>
        bnd (lN ob 40 v3) fun v97 =>
        bndO (st ob 40 v1 v97) ob fun _ ob =>
        bnd (lN ob 40 v1) fun v98 =>
        fin ob os.length [0] [v98]
       ) (
        bnd (xS ob 1 a1 (.i .i64 0)) fun v99 =>
        bnd (l1 ob v99) fun v100 =>
        bnd (cv .i64 v100) fun v101 =>
        bnd (fA 6 v3) fun v102 =>
        bndO (st ob 1 v102 v101) ob fun _ ob =>
        bnd (lN ob 40 v3) fun v103 =>
        bndO (st ob 40 v1 v103) ob fun _ ob =>
        bnd (lN ob 40 v1) fun v104 =>
        fin ob os.length [0] [v104]
       )
      ) (
       bnd (bi .eql a0 (.i .i64 5)) fun v105 =>
       br v105 (
        bnd (xS ob 1 a1 (.i .i64 0)) fun v106 =>
        bnd (l1 ob v106) fun v107 =>
        bnd (fA 2 v3) fun v108 =>
        bndO (st ob 1 v108 v107) ob fun _ ob =>
        bnd (xS ob 1 a1 (.i .i64 1)) fun v109 =>
        bnd (l1 ob v109) fun v110 =>
        bnd (fA 5 v3) fun v111 =>
        bndO (st ob 1 v111 v110) ob fun _ ob =>
        bnd (xS ob 1 a1 (.i .i64 2)) fun v112 =>
        bnd (l1 ob v112) fun v113 =>
        bnd (cv .i64 v113) fun v114 =>
        bnd (fA 6 v3) fun v115 =>
        bndO (st ob 1 v115 v114) ob fun _ ob =>
        bnd (xS ob 1 a1 (.i .i64 3)) fun v116 =>
        bnd (l1 ob v116) fun v117 =>
        bnd (cv .i64 v117) fun v118 =>
        bnd (fA 7 v3) fun v119 =>
        bndO (st ob 1 v119 v118) ob fun _ ob =>
        bnd (lN ob 40 v3) fun v120 =>
        bndO (st ob 40 v1 v120) ob fun _ ob =>
        bnd (lN ob 40 v1) fun v121 =>
        fin ob os.length [0] [v121]
       ) (
        bnd (xS ob 1 a1 (.i .i64 0)) fun v122 =>
        bnd (l1 ob v122) fun v123 =>
        bnd (cv .i64 v123) fun v124 =>
        bnd (fA 6 v3) fun v125 =>
        bndO (st ob 1 v125 v124) ob fun _ ob =>
        bnd (lN ob 40 v3) fun v126 =>
        bndO (st ob 40 v1 v126) ob fun _ ob =>
        bnd (lN ob 40 v1) fun v127 =>
        fin ob os.length [0] [v127]
       )
      )
     )
    )
   )
  )

def ann54 : Nat → Option Hd := fun _ => none
def lab54 : Nat → Option Hd := fun _ => none
/- pelican/pelicanref03.Cat -/
noncomputable def m55b0 (Φ : Sem') (N : Nat) (os : List Obj') (g : SL → OB → Option R) (sl : SL) (ob : OB) : Option R :=
  bnd (len (gS sl 0)) fun v3 =>
  bnd (bi .lss (gS sl 5) v3) fun v4 =>
  br v4 (
   bnd (xS ob 2 (gS sl 0) (gS sl 5)) fun v5 =>
   bnd (fA 0 v5) fun v6 =>
   bnd (l1 ob v6) fun v7 =>
   bnd (xS ob 2 (gS sl 0) (gS sl 5)) fun v8 =>
   bnd (fA 1 v8) fun v9 =>
   bnd (l1 ob v9) fun v10 =>
   bndO (ca0 Φ ob 288 false 64 [v7, v10]) ob fun v11 ob =>
   bnd (ext 0 v11) fun v12 =>
   bnd (ext 1 v11) fun v13 =>
   bnd (uO .not v13) fun v14 =>
   br v14 (
    fin ob os.length [1, 0] [(.e true), (.b false)]
   ) (
    bndO (ap ob 344 1 (gS sl 4) v12) ob fun v15 ob =>
    bnd (bi .add (gS sl 5) (.i .i64 1)) fun v16 =>
    bnd (head [.row 4 103 1] [0, 4, 5] [] [(0, (gS sl 0)), (4, v15), (5, v16)] ob) fun x => g x.1 x.2
   )
  ) (
   fin ob os.length [1, 0] [(gS sl 4), (.b true)]
  )
noncomputable def m55 : Body := fun Φ N as os =>
  let a0 := gS (zipN 0 as) 0
  let ob := zipN 0 os
  bnd (len a0) fun v1 =>
  bnd (bi .gtr v1 (.i .i64 40)) fun v2 =>
  br v2 (
   fin ob os.length [1, 0] [(.e true), (.b false)]
  ) (
   bnd (head [.row 4 103 1] [0, 4, 5] [] [(0, a0), (4, (.e true)), (5, (.i .i64 0))] ob) fun x => loopC (m55b0 Φ N os) N x.1 x.2
  )

def ann55 : Nat → Option Hd
  | 5 => some ⟨[.row 4 103 1], [0, 4, 5], [], []⟩ | _ => none
def lab55 : Nat → Option Hd := fun _ => none
/- pelican/pelicanref01.End -/
noncomputable def m56b0 (Φ : Sem') (N : Nat) (os : List Obj') (g : SL → OB → Option R) (sl : SL) (ob : OB) : Option R :=
  bnd (bi .lss (gS sl 8) (.i .i64 8)) fun v43 =>
  br v43 (
   bnd (bi .mul (.i .i64 4) (gS sl 8)) fun v44 =>
   bnd (xA 8 (gS sl 6) (gS sl 8)) fun v45 =>
   bnd (l1 ob v45) fun v46 =>
   bnd (bi .quo v46 (.i .u32 16777216)) fun v47 =>
   bnd (cv .u8 v47) fun v48 =>
   bnd (xA 32 (gS sl 7) v44) fun v49 =>
   bndO (st ob 1 v49 v48) ob fun _ ob =>
   bnd (bi .mul (.i .i64 4) (gS sl 8)) fun v50 =>
   bnd (bi .add v50 (.i .i64 1)) fun v51 =>
   bnd (xA 8 (gS sl 6) (gS sl 8)) fun v52 =>
   bnd (l1 ob v52) fun v53 =>
   bnd (bi .quo v53 (.i .u32 65536)) fun v54 =>
   bnd (bi .rem v54 (.i .u32 256)) fun v55 =>
   bnd (cv .u8 v55) fun v56 =>
   bnd (xA 32 (gS sl 7) v51) fun v57 =>
   bndO (st ob 1 v57 v56) ob fun _ ob =>
   bnd (bi .mul (.i .i64 4) (gS sl 8)) fun v58 =>
   bnd (bi .add v58 (.i .i64 2)) fun v59 =>
   bnd (xA 8 (gS sl 6) (gS sl 8)) fun v60 =>
   bnd (l1 ob v60) fun v61 =>
   bnd (bi .quo v61 (.i .u32 256)) fun v62 =>
   bnd (bi .rem v62 (.i .u32 256)) fun v63 =>
   bnd (cv .u8 v63) fun v64 =>
   bnd (xA 32 (gS sl 7) v59) fun v65 =>
   bndO (st ob 1 v65 v64) ob fun _ ob =>
   bnd (bi .mul (.i .i64 4) (gS sl 8)) fun v66 =>
   bnd (bi .add v66 (.i .i64 3)) fun v67 =>
   bnd (xA 8 (gS sl 6) (gS sl 8)) fun v68 =>
   bnd (l1 ob v68) fun v69 =>
   bnd (bi .rem v69 (.i .u32 256)) fun v70 =>
   bnd (cv .u8 v70) fun v71 =>
   bnd (xA 32 (gS sl 7) v67) fun v72 =>
   bndO (st ob 1 v72 v71) ob fun _ ob =>
   bnd (bi .add (gS sl 8) (.i .i64 1)) fun v73 =>
   bnd (head [] [2, 6, 7, 8] [80, 112, 120] [(2, (gS sl 2)), (6, (gS sl 6)), (7, (gS sl 7)), (8, v73)] ob) fun x => g x.1 x.2
  ) (
   bnd (lN ob 32 (gS sl 7)) fun v74 =>
   bndO (st ob 32 (gS sl 2) v74) ob fun _ ob =>
   bnd (lN ob 32 (gS sl 2)) fun v75 =>
   fin ob os.length [0] [v75]
  )
noncomputable def m56b1 (Φ : Sem') (N : Nat) (os : List Obj') (g : SL → OB → Option R) (sl : SL) (ob : OB) : Option R :=
  bnd (len (gS sl 4)) fun v36 =>
  bnd (bi .gtr v36 (.i .i64 0)) fun v37 =>
  br v37 (
   bnd (lN ob 8 (gS sl 6)) fun v38 =>
   bndO (slc ob (.slice 1) (gS sl 4) none (some (.i .i64 64)) none) ob fun v39 ob =>
   bndO (ca0 Φ ob 504 false 66 [v38, v39]) ob fun v40 ob =>
   bndO (st ob 8 (gS sl 6) v40) ob fun _ ob =>
   bndO (slc ob (.slice 1) (gS sl 4) (some (.i .i64 64)) none none) ob fun v41 ob =>
   bnd (head [] [2, 4, 6] [80, 112, 103] [(2, (gS sl 2)), (4, v41), (6, (gS sl 6))] ob) fun x => g x.1 x.2
  ) (
   bndO (al ob 120 [.blob 32 (List.replicate 32 (.i .u8 0))]) ob fun v42 ob =>
   bnd (head [] [2, 6, 7, 8] [80, 112, 120] [(2, (gS sl 2)), (6, (gS sl 6)), (7, v42), (8, (.i .i64 0))] ob) fun x => loopC (m56b0 Φ N os) N x.1 x.2
  )
noncomputable def m56b2 (Φ : Sem') (N : Nat) (os : List Obj') (g : SL → OB → Option R) (sl : SL) (ob : OB) : Option R :=
  bnd (len (gS sl 4)) fun v13 =>
  bnd (bi .rem v13 (.i .i64 64)) fun v14 =>
  bnd (bi .neq v14 (.i .i64 56)) fun v15 =>
  br v15 (
   bndO (bldS ob 264 1 [(.i .u8 0)]) ob fun v16 ob =>
   bndO (ap ob 272 1 (gS sl 4) v16) ob fun v17 ob =>
   bnd (head [.row 4 103 1] [1, 2, 4] [72, 80] [(1, (gS sl 1)), (2, (gS sl 2)), (4, v17)] ob) fun x => g x.1 x.2
  ) (
   bnd (fA 9 (gS sl 1)) fun v18 =>
   bnd (l1 ob v18) fun v19 =>
   bnd (bi .mul (.i .i64 8) v19) fun v20 =>
   bnd (bi .quo v20 (.i .i64 16777216)) fun v21 =>
   bnd (cv .u8 v21) fun v22 =>
   bnd (bi .quo v20 (.i .i64 65536)) fun v23 =>
   bnd (bi .rem v23 (.i .i64 256)) fun v24 =>
   bnd (cv .u8 v24) fun v25 =>
   bnd (bi .quo v20 (.i .i64 256)) fun v26 =>
   bnd (bi .rem v26 (.i .i64 256)) fun v27 =>
   bnd (cv .u8 v27) fun v28 =>
   bnd (bi .rem v20 (.i .i64 256)) fun v29 =>
   bnd (cv .u8 v29) fun v30 =>
   bndO (bldS ob 424 1 [(.i .u8 0), (.i .u8 0), (.i .u8 0), (.i .u8 0), v22, v25, v28, v30]) ob fun v31 ob =>
   bndO (ap ob 432 1 (gS sl 4) v31) ob fun v32 ob =>
   bnd (fA 0 (gS sl 1)) fun v33 =>
   bnd (lN ob 8 v33) fun v34 =>
   bndO (al ob 112 [.blob 8 (List.replicate 8 (.i .u32 0))]) ob fun v35 ob =>
   bndO (st ob 8 v35 v34) ob fun _ ob =>
   bnd (head [] [2, 4, 6] [80, 112, 103] [(2, (gS sl 2)), (4, v32), (6, v35)] ob) fun x => loopC (m56b1 Φ N os) N x.1 x.2
  )
noncomputable def m56 : Body := fun Φ N as os =>
  let a0 := gS (zipN 0 as) 0
  let ob := zipN 0 os
  bndO (bx ob 72 a0) ob fun v1 ob =>
  bndO (al ob 80 [.blob 32 (List.replicate 32 (.i .u8 0))]) ob fun v2 ob =>
  bnd (lN ob 10 v1) fun v3 =>
  bndO (ca0 Φ ob 144 false 65 [v3]) ob fun v4 ob =>
  bnd (uO .not v4) fun v5 =>
  br v5 (
   bnd (bld [.blob 32 (List.replicate 32 (.i .u8 0))] []) fun v6 =>
   bndO (st ob 32 v2 v6) ob fun _ ob =>
   bnd (lN ob 32 v2) fun v7 =>
   fin ob os.length [0] [v7]
  ) (
   bnd (fA 8 v1) fun v8 =>
   bnd (l1 ob v8) fun v9 =>
   bndO (ap ob 192 1 (.e true) v9) ob fun v10 ob =>
   bndO (bldS ob 208 1 [(.i .u8 128)]) ob fun v11 ob =>
   bndO (ap ob 216 1 v10 v11) ob fun v12 ob =>
   bnd (head [.row 4 103 1] [1, 2, 4] [72, 80] [(1, v1), (2, v2), (4, v12)] ob) fun x => loopC (m56b2 Φ N os) N x.1 x.2
  )

def ann56 : Nat → Option Hd
  | 6 => some ⟨[.row 4 103 1], [1, 2, 4], [72, 80], []⟩ | 11 => some ⟨[], [2, 4, 6], [80, 112, 103], []⟩ | 16 => some ⟨[], [2, 6, 7, 8], [80, 112, 120], []⟩ | _ => none
def lab56 : Nat → Option Hd := fun _ => none
/- pelican/pelicanref01.Add -/
noncomputable def m57b0 (Φ : Sem') (N : Nat) (os : List Obj') (g : SL → OB → Option R) (sl : SL) (ob : OB) : Option R :=
  bnd (len (gS sl 6)) fun v27 =>
  bnd (bi .geq v27 (.i .i64 64)) fun v28 =>
  br v28 (
   bnd (fA 0 (gS sl 7)) fun v29 =>
   bnd (lN ob 8 v29) fun v30 =>
   bndO (slc ob (.slice 1) (gS sl 6) none (some (.i .i64 64)) none) ob fun v31 ob =>
   bndO (ca0 Φ ob 400 false 66 [v30, v31]) ob fun v32 ob =>
   bnd (fA 0 (gS sl 7)) fun v33 =>
   bndO (st ob 8 v33 v32) ob fun _ ob =>
   bndO (slc ob (.slice 1) (gS sl 6) (some (.i .i64 64)) none none) ob fun v34 ob =>
   bnd (head [] [4, 6, 7] [96, 120, 248] [(4, (gS sl 4)), (6, v34), (7, (gS sl 7))] ob) fun x => g x.1 x.2
  ) (
   bnd (fA 8 (gS sl 7)) fun v35 =>
   bndO (st ob 1 v35 (gS sl 6)) ob fun _ ob =>
   bnd (lN ob 10 (gS sl 7)) fun v36 =>
   bndO (st ob 10 (gS sl 4) v36) ob fun _ ob =>
   bnd (lN ob 10 (gS sl 4)) fun v37 =>
   fin ob os.length [0] [v37]
  )
noncomputable def m57 : Body := fun Φ N as os =>
  let a0 := gS (zipN 0 as) 0
  let a1 := gS (zipN 0 as) 1
  let ob := zipN 0 os
  bndO (bx ob 80 a0) ob fun v1 ob =>
  bndO (al ob 96 [.blob 8 (List.replicate 8 (.i .u32 0)), .e true, .i .i64 0]) ob fun v2 ob =>
  bnd (lN ob 10 v1) fun v3 =>
  bndO (ca0 Φ ob 136 false 65 [v3]) ob fun v4 ob =>
  bnd (uO .not v4) fun v5 =>
  bnd (gd v5 false (some a1)) fun v6 =>
  bnd (gd v5 false (len v6)) fun v7 =>
  bnd (gd v5 false (fA 9 v1)) fun v8 =>
  bnd (gd v5 false (l1 ob v8)) fun v9 =>
  bnd (gd v5 false (bi .sub (.i .i64 1048576) v9)) fun v10 =>
  bnd (gd v5 false (bi .gtr v7 v10)) fun v11 =>
  bnd (pk v5 (.b true) v11) fun v12 =>
  br v12 (
   bnd (bld [.blob 8 (List.replicate 8 (.i .u32 0)), .e true, .i .i64 0] []) fun v13 =>
   bndO (st ob 10 v2 v13) ob fun _ ob =>
   bnd (lN ob 10 v2) fun v14 =>
   fin ob os.length [0] [v14]
  ) (
   bnd (fA 8 v1) fun v15 =>
   bnd (l1 ob v15) fun v16 =>
   bndO (ap ob 248 1 (.e true) v16) ob fun v17 ob =>
   bndO (ap ob 272 1 v17 a1) ob fun v18 ob =>
   bnd (fA 0 v1) fun v19 =>
   bnd (lN ob 8 v19) fun v20 =>
   bnd (fA 9 v1) fun v21 =>
   bnd (l1 ob v21) fun v22 =>
   bnd (len a1) fun v23 =>
   bnd (bi .add v22 v23) fun v24 =>
   bnd (bld [.blob 8 (List.replicate 8 (.i .u32 0)), .e true, .i .i64 0] [(0, 8, v20), (9, 1, v24)]) fun v25 =>
   bndO (al ob 120 [.blob 8 (List.replicate 8 (.i .u32 0)), .e true, .i .i64 0]) ob fun v26 ob =>
   bndO (st ob 10 v26 v25) ob fun _ ob =>
   bnd (head [] [4, 6, 7] [96, 120, 248] [(4, v2), (6, v18), (7, v26)] ob) fun x => loopC (m57b0 Φ N os) N x.1 x.2
  )

def ann57 : Nat → Option Hd
  | 7 => some ⟨[], [4, 6, 7], [96, 120, 248], []⟩ | _ => none
def lab57 : Nat → Option Hd := fun _ => none
/- pelican/pelicanref01.New -/
noncomputable def m58 : Body := fun Φ N as os =>
  let ob := zipN 0 os
  bndO (al ob 64 [.blob 8 (List.replicate 8 (.i .u32 0)), .e true, .i .i64 0]) ob fun v1 ob =>
  bnd (bld [.blob 8 (List.replicate 8 (.i .u32 0))] [(0, 1, (.i .u32 1779033703)), (1, 1, (.i .u32 3144134277)), (2, 1, (.i .u32 1013904242)), (3, 1, (.i .u32 2773480762)), (4, 1, (.i .u32 1359893119)), (5, 1, (.i .u32 2600822924)), (6, 1, (.i .u32 528734635)), (7, 1, (.i .u32 1541459225))]) fun v2 =>
  bnd (bld [.blob 8 (List.replicate 8 (.i .u32 0)), .e true, .i .i64 0] [(0, 8, v2)]) fun v3 =>
  bndO (st ob 10 v1 v3) ob fun _ ob =>
  bnd (lN ob 10 v1) fun v4 =>
  fin ob os.length [0] [v4]

def ann58 : Nat → Option Hd := fun _ => none
def lab58 : Nat → Option Hd := fun _ => none
/- pelican/pelicanref02.Block -/
noncomputable def m59b0 (Φ : Sem') (N : Nat) (os : List Obj') (g : SL → OB → Option R) (sl : SL) (ob : OB) : Option R :=
  bnd (len (gS sl 3)) fun v8 =>
  bnd (bi .lss v8 (.i .i64 64)) fun v9 =>
  br v9 (
   bndO (bldS ob 208 1 [(.i .u8 0)]) ob fun v10 ob =>
   bndO (ap ob 216 1 (gS sl 3) v10) ob fun v11 ob =>
   bnd (head [.row 3 95 1] [3] [] [(3, v11)] ob) fun x => g x.1 x.2
  ) (
   fin ob os.length [1] [(gS sl 3)]
  )
noncomputable def m59b1 (Φ : Sem') (N : Nat) (os : List Obj') (g : SL → OB → Option R) (sl : SL) (ob : OB) : Option R :=
  bnd (len (gS sl 3)) fun v12 =>
  bnd (bi .lss v12 (.i .i64 64)) fun v13 =>
  br v13 (
   bndO (bldS ob 208 1 [(.i .u8 0)]) ob fun v14 ob =>
   bndO (ap ob 216 1 (gS sl 3) v14) ob fun v15 ob =>
   bnd (head [.row 3 95 1] [3] [] [(3, v15)] ob) fun x => g x.1 x.2
  ) (
   fin ob os.length [1] [(gS sl 3)]
  )
noncomputable def m59 : Body := fun Φ N as os =>
  let a0 := gS (zipN 0 as) 0
  let ob := zipN 0 os
  bndO (ap ob 112 1 (.e true) a0) ob fun v1 ob =>
  bnd (len a0) fun v2 =>
  bnd (bi .gtr v2 (.i .i64 64)) fun v3 =>
  br v3 (
   bndO (ca0 Φ ob 152 false 46 [a0]) ob fun v4 ob =>
   bndO (al ob 96 [.blob 32 (List.replicate 32 (.i .u8 0))]) ob fun v5 ob =>
   bndO (st ob 32 v5 v4) ob fun _ ob =>
   bndO (slc ob (.arr 32) v5 none none none) ob fun v6 ob =>
   bndO (ap ob 168 1 (.e true) v6) ob fun v7 ob =>
   bnd (head [.row 3 95 1] [3] [] [(3, v7)] ob) fun x => loopC (m59b0 Φ N os) N x.1 x.2
  ) (
   bnd (head [.row 3 95 1] [3] [] [(3, v1)] ob) fun x => loopC (m59b1 Φ N os) N x.1 x.2
  )

def ann59 : Nat → Option Hd
  | 5 => some ⟨[.row 3 95 1], [3], [], []⟩ | _ => none
def lab59 : Nat → Option Hd := fun _ => none
/- slices.rotateRight[pelican/frame.slot] -/
noncomputable def m61 : Body := fun Φ N as os =>
  let a0 := gS (zipN 0 as) 0
  let a1 := gS (zipN 0 as) 1
  let ob := zipN 0 os
  bnd (len a0) fun v1 =>
  bnd (bi .sub v1 a1) fun v2 =>
  bndO (ca Φ ob 136 false 67 [a0, v2]) ob fun v3 ob =>
  fin ob os.length [] []

def ann61 : Nat → Option Hd := fun _ => none
def lab61 : Nat → Option Hd := fun _ => none
/- pelican/sha.spread -/
noncomputable def m62b0 (Φ : Sem') (N : Nat) (os : List Obj') (g : SL → OB → Option R) (sl : SL) (ob : OB) : Option R :=
  bnd (bi .lss (gS sl 7) (.i .i64 64)) fun v3 =>
  br v3 (
   bnd (bi .lss (gS sl 7) (.i .i64 16)) fun v4 =>
   br v4 (
    bnd (bi .mul (.i .i64 4) (gS sl 7)) fun v5 =>
    bnd (xS ob 1 (gS sl 0) v5) fun v6 =>
    bnd (l1 ob v6) fun v7 =>
    bnd (cv .u32 v7) fun v8 =>
    bnd (bi .shl v8 (.i .u64 24)) fun v9 =>
    bnd (bi .mul (.i .i64 4) (gS sl 7)) fun v10 =>
    bnd (bi .add v10 (.i .i64 1)) fun v11 =>
    bnd (xS ob 1 (gS sl 0) v11) fun v12 =>
    bnd (l1 ob v12) fun v13 =>
    bnd (cv .u32 v13) fun v14 =>
    bnd (bi .shl v14 (.i .u64 16)) fun v15 =>
    bnd (bi .or v9 v15) fun v16 =>
    bnd (bi .mul (.i .i64 4) (gS sl 7)) fun v17 =>
    bnd (bi .add v17 (.i .i64 2)) fun v18 =>
    bnd (xS ob 1 (gS sl 0) v18) fun v19 =>
    bnd (l1 ob v19) fun v20 =>
    bnd (cv .u32 v20) fun v21 =>
    bnd (bi .shl v21 (.i .u64 8)) fun v22 =>
    bnd (bi .or v16 v22) fun v23 =>
    bnd (bi .mul (.i .i64 4) (gS sl 7)) fun v24 =>
    bnd (bi .add v24 (.i .i64 3)) fun v25 =>
    bnd (xS ob 1 (gS sl 0) v25) fun v26 =>
    bnd (l1 ob v26) fun v27 =>
    bnd (cv .u32 v27) fun v28 =>
    bnd (bi .or v23 v28) fun v29 =>
    bnd (xA 64 (gS sl 3) (gS sl 7)) fun v30 =>
    bndO (st ob 1 v30 v29) ob fun _ ob =>
    bnd (bi .add (gS sl 7) (.i .i64 1)) fun v31 =>
    bnd (head [] [0, 2, 3, 7] [80, 88] [(0, (gS sl 0)), (2, (gS sl 2)), (3, (gS sl 3)), (7, v31)] ob) fun x => g x.1 x.2
   ) (
    bnd (bi .sub (gS sl 7) (.i .i64 15)) fun v32 =>
    bnd (xA 64 (gS sl 3) v32) fun v33 =>
    bnd (l1 ob v33) fun v34 =>
    bnd (bi .sub (gS sl 7) (.i .i64 2)) fun v35 =>
    bnd (xA 64 (gS sl 3) v35) fun v36 =>
    bnd (l1 ob v36) fun v37 =>
    bnd (bi .sub (gS sl 7) (.i .i64 16)) fun v38 =>
    bnd (xA 64 (gS sl 3) v38) fun v39 =>
    bnd (l1 ob v39) fun v40 =>
    bnd (bi .sub (gS sl 7) (.i .i64 7)) fun v41 =>
    bnd (xA 64 (gS sl 3) v41) fun v42 =>
    bnd (l1 ob v42) fun v43 =>
    bnd (bi .add v40 v43) fun v44 =>
    bndO (ca0 Φ ob 592 false 63 [v34, (.i .i64 7)]) ob fun v45 ob =>
    bndO (ca0 Φ ob 608 false 63 [v34, (.i .i64 18)]) ob fun v46 ob =>
    bnd (bi .xor v45 v46) fun v47 =>
    bnd (bi .shr v34 (.i .u64 3)) fun v48 =>
    bnd (bi .xor v47 v48) fun v49 =>
    bnd (bi .add v44 v49) fun v50 =>
    bndO (ca0 Φ ob 664 false 63 [v37, (.i .i64 17)]) ob fun v51 ob =>
    bndO (ca0 Φ ob 680 false 63 [v37, (.i .i64 19)]) ob fun v52 ob =>
    bnd (bi .xor v51 v52) fun v53 =>
    bnd (bi .shr v37 (.i .u64 10)) fun v54 =>
    bnd (bi .xor v53 v54) fun v55 =>
    bnd (bi .add v50 v55) fun v56 =>
    bnd (xA 64 (gS sl 3) (gS sl 7)) fun v57 =>
    bndO (st ob 1 v57 v56) ob fun _ ob =>
    bnd (bi .add (gS sl 7) (.i .i64 1)) fun v58 =>
    bnd (head [] [0, 2, 3, 7] [80, 88] [(0, (gS sl 0)), (2, (gS sl 2)), (3, (gS sl 3)), (7, v58)] ob) fun x => g x.1 x.2
   )
  ) (
   bnd (lN ob 64 (gS sl 3)) fun v59 =>
   bndO (st ob 64 (gS sl 2) v59) ob fun _ ob =>
   bnd (lN ob 64 (gS sl 2)) fun v60 =>
   fin ob os.length [0] [v60]
  )
noncomputable def m62 : Body := fun Φ N as os =>
  let a0 := gS (zipN 0 as) 0
  let ob := zipN 0 os
  bndO (al ob 80 [.blob 64 (List.replicate 64 (.i .u32 0))]) ob fun v1 ob =>
  bndO (al ob 88 [.blob 64 (List.replicate 64 (.i .u32 0))]) ob fun v2 ob =>
  bnd (head [] [0, 2, 3, 7] [80, 88] [(0, a0), (2, v1), (3, v2), (7, (.i .i64 0))] ob) fun x => loopC (m62b0 Φ N os) N x.1 x.2

def ann62 : Nat → Option Hd
  | 3 => some ⟨[], [0, 2, 3, 7], [80, 88], []⟩ | _ => none
def lab62 : Nat → Option Hd := fun _ => none
/- pelican/sha.turn -/
noncomputable def m63 : Body := fun Φ N as os =>
  let a0 := gS (zipN 0 as) 0
  let a1 := gS (zipN 0 as) 1
  let ob := zipN 0 os
  bnd (uO .neg a1) fun v1 =>
  bndO (ca0 Φ ob 128 false 68 [a0, v1]) ob fun v2 ob =>
  fin ob os.length [0] [v2]

def ann63 : Nat → Option Hd := fun _ => none
def lab63 : Nat → Option Hd := fun _ => none
/- pelican/pelicanref03.Put -/
noncomputable def m64b0 (Φ : Sem') (N : Nat) (os : List Obj') (g : SL → OB → Option R) (sl : SL) (ob : OB) : Option R :=
  bnd (bi .geq (gS sl 7) (.i .i64 0)) fun v7 =>
  br v7 (
   bnd (bi .rem (gS sl 0) (.i .u64 256)) fun v8 =>
   bnd (cv .u8 v8) fun v9 =>
   bnd (xS ob 1 (gS sl 6) (gS sl 7)) fun v10 =>
   bndO (st ob 1 v10 v9) ob fun _ ob =>
   bnd (bi .quo (gS sl 0) (.i .u64 256)) fun v11 =>
   bnd (bi .sub (gS sl 7) (.i .i64 1)) fun v12 =>
   bnd (head [] [0, 6, 7] [184] [(0, v11), (6, (gS sl 6)), (7, v12)] ob) fun x => g x.1 x.2
  ) (
   bnd (bi .neq (gS sl 0) (.i .u64 0)) fun v13 =>
   br v13 (
    fin ob os.length [1, 0] [(.e true), (.b false)]
   ) (
    fin ob os.length [1, 0] [(gS sl 6), (.b true)]
   )
  )
noncomputable def m64 : Body := fun Φ N as os =>
  let a0 := gS (zipN 0 as) 0
  let a1 := gS (zipN 0 as) 1
  let ob := zipN 0 os
  bnd (bi .lss a1 (.i .i64 1)) fun v1 =>
  bnd (gd v1 false (some a1)) fun v2 =>
  bnd (gd v1 false (bi .gtr v2 (.i .i64 8))) fun v3 =>
  bnd (pk v1 (.b true) v3) fun v4 =>
  br v4 (
   fin ob os.length [1, 0] [(.e true), (.b false)]
  ) (
   bndO (mks ob 184 [.i .u8 0] a1) ob fun v5 ob =>
   bnd (bi .sub a1 (.i .i64 1)) fun v6 =>
   bnd (head [] [0, 6, 7] [184] [(0, a0), (6, v5), (7, v6)] ob) fun x => loopC (m64b0 Φ N os) N x.1 x.2
  )

def ann64 : Nat → Option Hd
  | 5 => some ⟨[], [0, 6, 7], [184], []⟩ | _ => none
def lab64 : Nat → Option Hd := fun _ => none
/- pelican/pelicanref01.May -/
noncomputable def m65 : Body := fun Φ N as os =>
  let a0 := gS (zipN 0 as) 0
  let ob := zipN 0 os
  bndO (bx ob 72 a0) ob fun v1 ob =>
  bnd (fA 9 v1) fun v2 =>
  bnd (l1 ob v2) fun v3 =>
  bnd (bi .geq v3 (.i .i64 0)) fun v4 =>
  bnd (gd v4 true (fA 9 v1)) fun v5 =>
  bnd (gd v4 true (l1 ob v5)) fun v6 =>
  bnd (gd v4 true (bi .leq v6 (.i .i64 1048576))) fun v7 =>
  bnd (pk v4 v7 (.b false)) fun v8 =>
  bnd (gd v8 true (fA 8 v1)) fun v9 =>
  bnd (gd v8 true (l1 ob v9)) fun v10 =>
  bnd (gd v8 true (len v10)) fun v11 =>
  bnd (gd v8 true (fA 9 v1)) fun v12 =>
  bnd (gd v8 true (l1 ob v12)) fun v13 =>
  bnd (gd v8 true (bi .rem v13 (.i .i64 64))) fun v14 =>
  bnd (gd v8 true (bi .eql v11 v14)) fun v15 =>
  bnd (pk v8 v15 (.b false)) fun v16 =>
  fin ob os.length [0] [v16]

def ann65 : Nat → Option Hd := fun _ => none
def lab65 : Nat → Option Hd := fun _ => none
/- pelican/pelicanref01.round -/
noncomputable def m66b0 (Φ : Sem') (N : Nat) (os : List Obj') (g : SL → OB → Option R) (sl : SL) (ob : OB) : Option R :=
  bnd (bi .lss (gS sl 14) (.i .i64 64)) fun v20 =>
  br v20 (
   bndO (ca0 Φ ob 392 false 70 [(gS sl 10), (.i .u32 6)]) ob fun v21 ob =>
   bndO (ca0 Φ ob 408 false 70 [(gS sl 10), (.i .u32 11)]) ob fun v22 ob =>
   bnd (bi .xor v21 v22) fun v23 =>
   bndO (ca0 Φ ob 432 false 70 [(gS sl 10), (.i .u32 25)]) ob fun v24 ob =>
   bnd (bi .xor v23 v24) fun v25 =>
   bnd (bi .add (gS sl 13) v25) fun v26 =>
   bnd (bi .and (gS sl 10) (gS sl 11)) fun v27 =>
   bnd (uO .xor (gS sl 10)) fun v28 =>
   bnd (bi .and v28 (gS sl 12)) fun v29 =>
   bnd (bi .xor v27 v29) fun v30 =>
   bnd (bi .add v26 v30) fun v31 =>
   bndO (ca0 Φ ob 536 false 71 [(gS sl 14)]) ob fun v32 ob =>
   bnd (bi .add v31 v32) fun v33 =>
   bnd (xS ob 1 (gS sl 5) (gS sl 14)) fun v34 =>
   bnd (l1 ob v34) fun v35 =>
   bnd (bi .add v33 v35) fun v36 =>
   bndO (ca0 Φ ob 600 false 70 [(gS sl 6), (.i .u32 2)]) ob fun v37 ob =>
   bndO (ca0 Φ ob 616 false 70 [(gS sl 6), (.i .u32 13)]) ob fun v38 ob =>
   bnd (bi .xor v37 v38) fun v39 =>
   bndO (ca0 Φ ob 640 false 70 [(gS sl 6), (.i .u32 22)]) ob fun v40 ob =>
   bnd (bi .xor v39 v40) fun v41 =>
   bnd (bi .and (gS sl 6) (gS sl 7)) fun v42 =>
   bnd (bi .and (gS sl 6) (gS sl 8)) fun v43 =>
   bnd (bi .xor v42 v43) fun v44 =>
   bnd (bi .and (gS sl 7) (gS sl 8)) fun v45 =>
   bnd (bi .xor v44 v45) fun v46 =>
   bnd (bi .add v41 v46) fun v47 =>
   bnd (bi .add (gS sl 9) v36) fun v48 =>
   bnd (bi .add v36 v47) fun v49 =>
   bnd (bi .add (gS sl 14) (.i .i64 1)) fun v50 =>
   bnd (head [] [2, 4, 5, 6, 7, 8, 9, 10, 11, 12, 13, 14] [80, 96, 208] [(2, (gS sl 2)), (4, (gS sl 4)), (5, (gS sl 5)), (6, v49), (7, (gS sl 6)), (8, (gS sl 7)), (9, (gS sl 8)), (10, v48), (11, (gS sl 10)), (12, (gS sl 11)), (13, (gS sl 12)), (14, v50)] ob) fun x => g x.1 x.2
  ) (
   bnd (xA 8 (gS sl 2) (.i .i64 0)) fun v51 =>
   bnd (l1 ob v51) fun v52 =>
   bnd (bi .add v52 (gS sl 6)) fun v53 =>
   bnd (xA 8 (gS sl 2) (.i .i64 1)) fun v54 =>
   bnd (l1 ob v54) fun v55 =>
   bnd (bi .add v55 (gS sl 7)) fun v56 =>
   bnd (xA 8 (gS sl 2) (.i .i64 2)) fun v57 =>
   bnd (l1 ob v57) fun v58 =>
   bnd (bi .add v58 (gS sl 8)) fun v59 =>
   bnd (xA 8 (gS sl 2) (.i .i64 3)) fun v60 =>
   bnd (l1 ob v60) fun v61 =>
   bnd (bi .add v61 (gS sl 9)) fun v62 =>
   bnd (xA 8 (gS sl 2) (.i .i64 4)) fun v63 =>
   bnd (l1 ob v63) fun v64 =>
   bnd (bi .add v64 (gS sl 10)) fun v65 =>
   bnd (xA 8 (gS sl 2) (.i .i64 5)) fun v66 =>
   bnd (l1 ob v66) fun v67 =>
   bnd (bi .add v67 (gS sl 11)) fun v68 =>
   bnd (xA 8 (gS sl 2) (.i .i64 6)) fun v69 =>
   bnd (l1 ob v69) fun v70 =>
   bnd (bi .add v70 (gS sl 12)) fun v71 =>
   bnd (xA 8 (gS sl 2) (.i .i64 7)) fun v72 =>
   bnd (l1 ob v72) fun v73 =>
   bnd (bi .add v73 (gS sl 13)) fun v74 =>
   bnd (bld [.blob 8 (List.replicate 8 (.i .u32 0))] [(0, 1, v53), (1, 1, v56), (2, 1, v59), (3, 1, v62), (4, 1, v65), (5, 1, v68), (6, 1, v71), (7, 1, v74)]) fun v75 =>
   bndO (st ob 8 (gS sl 4) v75) ob fun _ ob =>
   bnd (lN ob 8 (gS sl 4)) fun v76 =>
   fin ob os.length [0] [v76]
  )
noncomputable def m66 : Body := fun Φ N as os =>
  let a0 := gS (zipN 0 as) 0
  let a1 := gS (zipN 0 as) 1
  let ob := zipN 0 os
  bndO (bx ob 80 a0) ob fun v1 ob =>
  bndO (al ob 96 [.blob 8 (List.replicate 8 (.i .u32 0))]) ob fun v2 ob =>
  bndO (ca0 Φ ob 208 false 69 [a1]) ob fun v3 ob =>
  bnd (xA 8 v1 (.i .i64 0)) fun v4 =>
  bnd (l1 ob v4) fun v5 =>
  bnd (xA 8 v1 (.i .i64 1)) fun v6 =>
  bnd (l1 ob v6) fun v7 =>
  bnd (xA 8 v1 (.i .i64 2)) fun v8 =>
  bnd (l1 ob v8) fun v9 =>
  bnd (xA 8 v1 (.i .i64 3)) fun v10 =>
  bnd (l1 ob v10) fun v11 =>
  bnd (xA 8 v1 (.i .i64 4)) fun v12 =>
  bnd (l1 ob v12) fun v13 =>
  bnd (xA 8 v1 (.i .i64 5)) fun v14 =>
  bnd (l1 ob v14) fun v15 =>
  bnd (xA 8 v1 (.i .i64 6)) fun v16 =>
  bnd (l1 ob v16) fun v17 =>
  bnd (xA 8 v1 (.i .i64 7)) fun v18 =>
  bnd (l1 ob v18) fun v19 =>
  bnd (head [] [2, 4, 5, 6, 7, 8, 9, 10, 11, 12, 13, 14] [80, 96, 208] [(2, v1), (4, v2), (5, v3), (6, v5), (7, v7), (8, v9), (9, v11), (10, v13), (11, v15), (12, v17), (13, v19), (14, (.i .i64 0))] ob) fun x => loopC (m66b0 Φ N os) N x.1 x.2

def ann66 : Nat → Option Hd
  | 11 => some ⟨[], [2, 4, 5, 6, 7, 8, 9, 10, 11, 12, 13, 14], [80, 96, 208], []⟩ | _ => none
def lab66 : Nat → Option Hd := fun _ => none
/- slices.rotateLeft[pelican/frame.slot] -/
noncomputable def m67 : Body := fun Φ N as os =>
  let a0 := gS (zipN 0 as) 0
  let a1 := gS (zipN 0 as) 1
  let ob := zipN 0 os
  bndO (slc ob (.slice 3) a0 none (some a1) none) ob fun v1 ob =>
  bndO (ca Φ ob 120 false 72 [v1]) ob fun v2 ob =>
  bndO (slc ob (.slice 3) a0 (some a1) none none) ob fun v3 ob =>
  bndO (ca Φ ob 152 false 72 [v3]) ob fun v4 ob =>
  bndO (ca Φ ob 168 false 72 [a0]) ob fun v5 ob =>
  fin ob os.length [] []

def ann67 : Nat → Option Hd := fun _ => none
def lab67 : Nat → Option Hd := fun _ => none
/- math/bits.RotateLeft32 -/
noncomputable def m68 : Body := fun Φ N as os =>
  let a0 := gS (zipN 0 as) 0
  let a1 := gS (zipN 0 as) 1
  let ob := zipN 0 os
  bnd (cv .u64 a1) fun v1 =>
  bnd (bi .and v1 (.i .u64 31)) fun v2 =>
  bnd (bi .shl a0 v2) fun v3 =>
  bnd (bi .sub (.i .u64 32) v2) fun v4 =>
  bnd (bi .shr a0 v4) fun v5 =>
  bnd (bi .or v3 v5) fun v6 =>
  fin ob os.length [0] [v6]

def ann68 : Nat → Option Hd := fun _ => none
def lab68 : Nat → Option Hd := fun _ => none
/- pelican/pelicanref01.numbers -/
noncomputable def m69b0 (Φ : Sem') (N : Nat) (os : List Obj') (g : SL → OB → Option R) (sl : SL) (ob : OB) : Option R :=
  bnd (bi .lss (gS sl 5) (.i .i64 64)) fun v30 =>
  br v30 (
   bnd (bi .sub (gS sl 5) (.i .i64 15)) fun v31 =>
   bnd (xS ob 1 (gS sl 3) v31) fun v32 =>
   bnd (l1 ob v32) fun v33 =>
   bndO (ca0 Φ ob 520 false 70 [v33, (.i .u32 7)]) ob fun v34 ob =>
   bnd (bi .sub (gS sl 5) (.i .i64 15)) fun v35 =>
   bnd (xS ob 1 (gS sl 3) v35) fun v36 =>
   bnd (l1 ob v36) fun v37 =>
   bndO (ca0 Φ ob 568 false 70 [v37, (.i .u32 18)]) ob fun v38 ob =>
   bnd (bi .xor v34 v38) fun v39 =>
   bnd (bi .sub (gS sl 5) (.i .i64 15)) fun v40 =>
   bnd (xS ob 1 (gS sl 3) v40) fun v41 =>
   bnd (l1 ob v41) fun v42 =>
   bnd (bi .shr v42 (.i .u64 3)) fun v43 =>
   bnd (bi .xor v39 v43) fun v44 =>
   bnd (bi .sub (gS sl 5) (.i .i64 2)) fun v45 =>
   bnd (xS ob 1 (gS sl 3) v45) fun v46 =>
   bnd (l1 ob v46) fun v47 =>
   bndO (ca0 Φ ob 680 false 70 [v47, (.i .u32 17)]) ob fun v48 ob =>
   bnd (bi .sub (gS sl 5) (.i .i64 2)) fun v49 =>
   bnd (xS ob 1 (gS sl 3) v49) fun v50 =>
   bnd (l1 ob v50) fun v51 =>
   bndO (ca0 Φ ob 728 false 70 [v51, (.i .u32 19)]) ob fun v52 ob =>
   bnd (bi .xor v48 v52) fun v53 =>
   bnd (bi .sub (gS sl 5) (.i .i64 2)) fun v54 =>
   bnd (xS ob 1 (gS sl 3) v54) fun v55 =>
   bnd (l1 ob v55) fun v56 =>
   bnd (bi .shr v56 (.i .u64 10)) fun v57 =>
   bnd (bi .xor v53 v57) fun v58 =>
   bnd (bi .sub (gS sl 5) (.i .i64 16)) fun v59 =>
   bnd (xS ob 1 (gS sl 3) v59) fun v60 =>
   bnd (l1 ob v60) fun v61 =>
   bnd (bi .sub (gS sl 5) (.i .i64 7)) fun v62 =>
   bnd (xS ob 1 (gS sl 3) v62) fun v63 =>
   bnd (l1 ob v63) fun v64 =>
   bnd (bi .add v61 v64) fun v65 =>
   bnd (bi .add v65 v44) fun v66 =>
   bnd (bi .add v66 v58) fun v67 =>
   bndO (bldS ob 928 1 [v67]) ob fun v68 ob =>
   bndO (ap ob 936 1 (gS sl 3) v68) ob fun v69 ob =>
   bnd (bi .add (gS sl 5) (.i .i64 1)) fun v70 =>
   bnd (head [.row 3 95 1] [3, 5] [] [(3, v69), (5, v70)] ob) fun x => g x.1 x.2
  ) (
   fin ob os.length [1] [(gS sl 3)]
  )
noncomputable def m69b1 (Φ : Sem') (N : Nat) (os : List Obj') (g : SL → OB → Option R) (sl : SL) (ob : OB) : Option R :=
  bnd (bi .lss (gS sl 4) (.i .i64 16)) fun v1 =>
  br v1 (
   bnd (bi .mul (.i .i64 4) (gS sl 4)) fun v2 =>
   bnd (xS ob 1 (gS sl 0) v2) fun v3 =>
   bnd (l1 ob v3) fun v4 =>
   bnd (cv .u32 v4) fun v5 =>
   bnd (bi .mul (.i .u32 16777216) v5) fun v6 =>
   bnd (bi .mul (.i .i64 4) (gS sl 4)) fun v7 =>
   bnd (bi .add v7 (.i .i64 1)) fun v8 =>
   bnd (xS ob 1 (gS sl 0) v8) fun v9 =>
   bnd (l1 ob v9) fun v10 =>
   bnd (cv .u32 v10) fun v11 =>
   bnd (bi .mul (.i .u32 65536) v11) fun v12 =>
   bnd (bi .add v6 v12) fun v13 =>
   bnd (bi .mul (.i .i64 4) (gS sl 4)) fun v14 =>
   bnd (bi .add v14 (.i .i64 2)) fun v15 =>
   bnd (xS ob 1 (gS sl 0) v15) fun v16 =>
   bnd (l1 ob v16) fun v17 =>
   bnd (cv .u32 v17) fun v18 =>
   bnd (bi .mul (.i .u32 256) v18) fun v19 =>
   bnd (bi .add v13 v19) fun v20 =>
   bnd (bi .mul (.i .i64 4) (gS sl 4)) fun v21 =>
   bnd (bi .add v21 (.i .i64 3)) fun v22 =>
   bnd (xS ob 1 (gS sl 0) v22) fun v23 =>
   bnd (l1 ob v23) fun v24 =>
   bnd (cv .u32 v24) fun v25 =>
   bnd (bi .add v20 v25) fun v26 =>
   bndO (bldS ob 432 1 [v26]) ob fun v27 ob =>
   bndO (ap ob 440 1 (gS sl 3) v27) ob fun v28 ob =>
   bnd (bi .add (gS sl 4) (.i .i64 1)) fun v29 =>
   bnd (head [.row 3 95 1] [0, 3, 4] [] [(0, (gS sl 0)), (3, v28), (4, v29)] ob) fun x => g x.1 x.2
  ) (
   bnd (head [.row 3 95 1] [3, 5] [] [(3, (gS sl 3)), (5, (.i .i64 16))] ob) fun x => loopC (m69b0 Φ N os) N x.1 x.2
  )
noncomputable def m69 : Body := fun Φ N as os =>
  let a0 := gS (zipN 0 as) 0
  let ob := zipN 0 os
  bnd (head [.row 3 95 1] [0, 3, 4] [] [(0, a0), (3, (.e true)), (4, (.i .i64 0))] ob) fun x => loopC (m69b1 Φ N os) N x.1 x.2

def ann69 : Nat → Option Hd
  | 3 => some ⟨[.row 3 95 1], [0, 3, 4], [], []⟩ | 7 => some ⟨[.row 3 95 1], [3, 5], [], []⟩ | _ => none
def lab69 : Nat → Option Hd := fun _ => none
/- pelican/pelicanref01.turned -/
noncomputable def m70 : Body := fun Φ N as os =>
  let a0 := gS (zipN 0 as) 0
  let a1 := gS (zipN 0 as) 1
  let ob := zipN 0 os
  bnd (bi .shr a0 a1) fun v1 =>
  bnd (bi .sub (.i .u32 32) a1) fun v2 =>
  bnd (bi .shl a0 v2) fun v3 =>
  bnd (bi .or v1 v3) fun v4 =>
  fin ob os.length [0] [v4]

def ann70 : Nat → Option Hd := fun _ => none
def lab70 : Nat → Option Hd := fun _ => none
/- pelican/pelicanref01.constant -/
noncomputable def m71 : Body := fun Φ N as os =>
  let a0 := gS (zipN 0 as) 0
  let ob := zipN 0 os
  bnd (bld [.blob 64 (List.replicate 64 (.i .u32 0))] [(0, 1, (.i .u32 1116352408)), (1, 1, (.i .u32 1899447441)), (2, 1, (.i .u32 3049323471)), (3, 1, (.i .u32 3921009573)), (4, 1, (.i .u32 961987163)), (5, 1, (.i .u32 1508970993)), (6, 1, (.i .u32 2453635748)), (7, 1, (.i .u32 2870763221)), (8, 1, (.i .u32 3624381080)), (9, 1, (.i .u32 310598401)), (10, 1, (.i .u32 607225278)), (11, 1, (.i .u32 1426881987)), (12, 1, (.i .u32 1925078388)), (13, 1, (.i .u32 2162078206)), (14, 1, (.i .u32 2614888103)), (15, 1, (.i .u32 3248222580)), (16, 1, (.i .u32 3835390401)), (17, 1, (.i .u32 4022224774)), (18, 1, (.i .u32 264347078)), (19, 1, (.i .u32 604807628)), (20, 1, (.i .u32 770255983)), (21, 1, (.i .u32 1249150122)), (22, 1, (.i .u32 1555081692)), (23, 1, (.i .u32 1996064986)), (24, 1, (.i .u32 2554220882)), (25, 1, (.i .u32 2821834349)), (26, 1, (.i .u32 2952996808)), (27, 1, (.i .u32 3210313671)), (28, 1, (.i .u32 3336571891)), (29, 1, (.i .u32 3584528711)), (30, 1, (.i .u32 113926993)), (31, 1, (.i .u32 338241895)), (32, 1, (.i .u32 666307205)), (33, 1, (.i .u32 773529912)), (34, 1, (.i .u32 1294757372)), (35, 1, (.i .u32 1396182291)), (36, 1, (.i .u32 1695183700)), (37, 1, (.i .u32 1986661051)), (38, 1, (.i .u32 2177026350)), (39, 1, (.i .u32 2456956037)), (40, 1, (.i .u32 2730485921)), (41, 1, (.i .u32 2820302411)), (42, 1, (.i .u32 3259730800)), (43, 1, (.i .u32 3345764771)), (44, 1, (.i .u32 3516065817)), (45, 1, (.i .u32 3600352804)), (46, 1, (.i .u32 4094571909)), (47, 1, (.i .u32 275423344)), (48, 1, (.i .u32 430227734)), (49, 1, (.i .u32 506948616)), (50, 1, (.i .u32 659060556)), (51, 1, (.i .u32 883997877)), (52, 1, (.i .u32 958139571)), (53, 1, (.i .u32 1322822218)), (54, 1, (.i .u32 1537002063)), (55, 1, (.i .u32 1747873779)), (56, 1, (.i .u32 1955562222)), (57, 1, (.i .u32 2024104815)), (58, 1, (.i .u32 2227730452)), (59, 1, (.i .u32 2361852424)), (60, 1, (.i .u32 2428436474)), (61, 1, (.i .u32 2756734187)), (62, 1, (.i .u32 3204031479)), (63, 1, (.i .u32 3329325298))]) fun v1 =>
  bndO (al ob 88 [.blob 64 (List.replicate 64 (.i .u32 0))]) ob fun v2 ob =>
  bndO (st ob 64 v2 v1) ob fun _ ob =>
  bnd (xA 64 v2 a0) fun v3 =>
  bnd (l1 ob v3) fun v4 =>
  fin ob os.length [0] [v4]

def ann71 : Nat → Option Hd := fun _ => none
def lab71 : Nat → Option Hd := fun _ => none
/- slices.Reverse[[]pelican/frame.slot,pelican/frame.slot] -/
noncomputable def m72b0 (Φ : Sem') (N : Nat) (os : List Obj') (g : SL → OB → Option R) (sl : SL) (ob : OB) : Option R :=
  bnd (bi .lss (gS sl 2) (gS sl 3)) fun v3 =>
  br v3 (
   bnd (xS ob 3 (gS sl 0) (gS sl 3)) fun v4 =>
   bnd (lN ob 3 v4) fun v5 =>
   bnd (xS ob 3 (gS sl 0) (gS sl 2)) fun v6 =>
   bnd (lN ob 3 v6) fun v7 =>
   bnd (xS ob 3 (gS sl 0) (gS sl 2)) fun v8 =>
   bndO (st ob 3 v8 v5) ob fun _ ob =>
   bnd (xS ob 3 (gS sl 0) (gS sl 3)) fun v9 =>
   bndO (st ob 3 v9 v7) ob fun _ ob =>
   bnd (bi .add (gS sl 2) (.i .i64 1)) fun v10 =>
   bnd (bi .sub (gS sl 3) (.i .i64 1)) fun v11 =>
   bnd (head [] [0, 2, 3] [] [(0, (gS sl 0)), (2, v10), (3, v11)] ob) fun x => g x.1 x.2
  ) (
   fin ob os.length [] []
  )
noncomputable def m72 : Body := fun Φ N as os =>
  let a0 := gS (zipN 0 as) 0
  let ob := zipN 0 os
  bnd (len a0) fun v1 =>
  bnd (bi .sub v1 (.i .i64 1)) fun v2 =>
  bnd (head [] [0, 2, 3] [] [(0, a0), (2, (.i .i64 0)), (3, v2)] ob) fun x => loopC (m72b0 Φ N os) N x.1 x.2

def ann72 : Nat → Option Hd
  | 1 => some ⟨[], [0, 2, 3], [], []⟩ | _ => none
def lab72 : Nat → Option Hd := fun _ => none
/-- All functions, by their numbers. -/
noncomputable def tab : Nat → Option Body
  | 3 => some m3
  | 4 => some m4
  | 5 => some m5
  | 6 => some m6
  | 7 => some m7
  | 8 => some m8
  | 9 => some m9
  | 10 => some m10
  | 11 => some m11
  | 12 => some m12
  | 13 => some m13
  | 14 => some m14
  | 15 => some m15
  | 16 => some m16
  | 17 => some m17
  | 18 => some m18
  | 19 => some m19
  | 20 => some m20
  | 21 => some m21
  | 22 => some m22
  | 23 => some m23
  | 24 => some m24
  | 25 => some m25
  | 26 => some m26
  | 27 => some m27
  | 28 => some m28
  | 29 => some m29
  | 30 => some m30
  | 31 => some m31
  | 32 => some m32
  | 33 => some m33
  | 34 => some m34
  | 35 => some m35
  | 36 => some m36
  | 37 => some m37
  | 38 => some m38
  | 39 => some m39
  | 40 => some m40
  | 41 => some m41
  | 42 => some m42
  | 43 => some m43
  | 44 => some m44
  | 45 => some m45
  | 46 => some m46
  | 47 => some m47
  | 48 => some m48
  | 49 => some m49
  | 50 => some m50
  | 51 => some m51
  | 52 => some m52
  | 53 => some m53
  | 54 => some m54
  | 55 => some m55
  | 56 => some m56
  | 57 => some m57
  | 58 => some m58
  | 59 => some m59
  | 61 => some m61
  | 62 => some m62
  | 63 => some m63
  | 64 => some m64
  | 65 => some m65
  | 66 => some m66
  | 67 => some m67
  | 68 => some m68
  | 69 => some m69
  | 70 => some m70
  | 71 => some m71
  | 72 => some m72
  | _ => none
end Go.Proofs.YtgpggpbibdnfhaaDoor
