/-
  The functions' code, as plain functions: printed by run4.py.
-/
import Derived.Test.YtmhpkdcnhgmblaaDen
set_option linter.all false
set_option linter.unusedVariables false
namespace Go.Proofs.Ytmhpkdcnhgmblaa
open Go
def nFirst : List Int := []
def nMore : List Int := []
def gFirst : List PV := [.blob 8 (nFirst.map (.i .u32))]
def gMore : List PV := [.blob 64 (nMore.map (.i .u32))]
/- pelican/pelicanlaw04.FrameBack -/
noncomputable def m3 : Body := fun Φ N as os =>
  let a0 := gS (zipN 0 as) 0
  let a1 := gS (zipN 0 as) 1
  let ob := zipN 0 os
  bndO (bx ob 80 a0) ob fun v1 ob =>
  bndO (ca0 Φ ob 176 false 9 []) ob fun v2 ob =>
  bnd (uO .not v2) fun v3 =>
  bnd (gd v3 false (some a1)) fun v4 =>
  bnd (gd v3 false (len v4)) fun v5 =>
  bnd (gd v3 false (bi .gtr v5 (.i .i64 400))) fun v6 =>
  bnd (pk v3 (.b true) v6) fun v7 =>
  br v7 (
   fin ob os.length [0] [v2]
  ) (
   bnd (lN ob 40 v1) fun v8 =>
   bndO (ca0 Φ ob 264 false 10 [v8]) ob fun v9 ob =>
   bnd (ext 0 v9) fun v10 =>
   bnd (ext 1 v9) fun v11 =>
   bndO (ca0 Φ ob 304 false 11 [v10]) ob fun v12 ob =>
   bnd (ext 0 v12) fun v13 =>
   bnd (ext 1 v12) fun v14 =>
   bndO (al ob 128 [.i .i64 0, .i .i64 0, .i .u64 0, .i .u64 0, .i .i64 0, .i .u64 0, .i .i64 0, .i .i64 0, .blob 32 (List.replicate 32 (.i .u8 0))]) ob fun v15 ob =>
   bndO (st ob 40 v15 v13) ob fun _ ob =>
   bnd (gd v11 true (some v14)) fun v16 =>
   bnd (gd v11 true (bi .neq v16 (.i .i64 0))) fun v17 =>
   bnd (gd v11 true (some v17)) fun v18 =>
   bnd (gd v18 false (lN ob 40 v15)) fun v19 =>
   bnd (gd v18 false (lN ob 40 v1)) fun v20 =>
   bnd (gd v18 false (eSt true [.i, .i, .i, .i, .i, .i, .i, .i, .a 32] v19 v20)) fun v21 =>
   bnd (gd v11 true (pk v18 (.b true) v21)) fun v22 =>
   bnd (pk v11 v22 (.b false)) fun v23 =>
   bnd (gd v23 false (some v11)) fun v24 =>
   bnd (gd v23 false (uO .not v24)) fun v25 =>
   bnd (gd v23 false (some v25)) fun v26 =>
   bnd (gd v26 true (some v10)) fun v27 =>
   bnd (gd v26 true (len v27)) fun v28 =>
   bnd (gd v26 true (bi .neq v28 (.i .i64 0))) fun v29 =>
   bnd (gd v23 false (pk v26 v29 (.b false))) fun v30 =>
   bnd (pk v23 (.b true) v30) fun v31 =>
   br v31 (
    fin ob os.length [0] [(.b false)]
   ) (
    bndO (ca0 Φ ob 496 false 11 [a1]) ob fun v32 ob =>
    bnd (ext 0 v32) fun v33 =>
    bnd (ext 1 v32) fun v34 =>
    bndO (al ob 144 [.i .i64 0, .i .i64 0, .i .u64 0, .i .u64 0, .i .i64 0, .i .u64 0, .i .i64 0, .i .i64 0, .blob 32 (List.replicate 32 (.i .u8 0))]) ob fun v35 ob =>
    bndO (st ob 40 v35 v33) ob fun _ ob =>
    bnd (lN ob 40 v35) fun v36 =>
    bndO (ca0 Φ ob 536 false 10 [v36]) ob fun v37 ob =>
    bnd (ext 0 v37) fun v38 =>
    bnd (ext 1 v37) fun v39 =>
    bnd (bi .neq v34 (.i .i64 0)) fun v40 =>
    bnd (gd v40 true (lN ob 40 v35)) fun v41 =>
    bnd (gd v40 true (bld [.i .i64 0, .i .i64 0, .i .u64 0, .i .u64 0, .i .i64 0, .i .u64 0, .i .i64 0, .i .i64 0, .blob 32 (List.replicate 32 (.i .u8 0))] [])) fun v42 =>
    bnd (gd v40 true (eSt false [.i, .i, .i, .i, .i, .i, .i, .i, .a 32] v41 v42)) fun v43 =>
    bnd (pk v40 v43 (.b false)) fun v44 =>
    bnd (gd v44 false (some v34)) fun v45 =>
    bnd (gd v44 false (bi .eql v45 (.i .i64 0))) fun v46 =>
    bnd (gd v44 false (some v46)) fun v47 =>
    bnd (gd v47 true (some v39)) fun v48 =>
    bnd (gd v44 false (pk v47 v48 (.b false))) fun v49 =>
    bnd (gd v44 false (some v49)) fun v50 =>
    bnd (gd v50 true (some v38)) fun v51 =>
    bnd (gd v50 true (b2s ob v51)) fun v52 =>
    bnd (gd v50 true (some a1)) fun v53 =>
    bnd (gd v50 true (b2s ob v53)) fun v54 =>
    bnd (gd v50 true (bi .eql v52 v54)) fun v55 =>
    bnd (gd v44 false (pk v50 v55 (.b false))) fun v56 =>
    bnd (pk v44 (.b true) v56) fun v57 =>
    fin ob os.length [0] [v57]
   )
  )

def ann3 : Nat → Option Hd := fun _ => none
def lab3 : Nat → Option Hd := fun _ => none
/- pelican/pelicanlaw04.FrameSplit -/
noncomputable def m4b0 (Φ : Sem') (N : Nat) (os : List Obj') (g : SL → OB → Option R) (sl : SL) (ob : OB) : Option R :=
  bnd (len (gS sl 0)) fun v26 =>
  bnd (bi .lss (gS sl 16) v26) fun v27 =>
  br v27 (
   bnd (xS ob 40 (gS sl 0) (gS sl 16)) fun v28 =>
   bnd (lN ob 40 v28) fun v29 =>
   bndO (ca0 Φ ob 656 false 10 [v29]) ob fun v30 ob =>
   bnd (ext 0 v30) fun v31 =>
   bnd (ext 1 v30) fun v32 =>
   bnd (uO .not v32) fun v33 =>
   br v33 (
    fin ob os.length [0] [(.b true)]
   ) (
    bndO (bldP ob 712 1 [v31]) ob fun v34 ob =>
    bndO (ap ob 720 1 (gS sl 14) v34) ob fun v35 ob =>
    bndO (ap ob 744 1 (gS sl 15) v31) ob fun v36 ob =>
    bnd (bi .add (gS sl 16) (.i .i64 1)) fun v37 =>
    bnd (head [.row 14 183 1, .row 15 191 1] [0, 2, 5, 14, 15, 16] [104] [(0, (gS sl 0)), (2, (gS sl 2)), (5, (gS sl 5)), (14, v35), (15, v36), (16, v37)] ob) fun x => g x.1 x.2
   )
  ) (
   bnd (lN ob 40 (gS sl 5)) fun v38 =>
   bndO (ca0 Φ ob 768 false 10 [v38]) ob fun v39 ob =>
   bnd (ext 0 v39) fun v40 =>
   bnd (ext 1 v39) fun v41 =>
   bnd (uO .not v41) fun v42 =>
   bnd (gd v42 false (some (gS sl 2))) fun v43 =>
   bnd (gd v42 false (bi .lss v43 (.i .i64 0))) fun v44 =>
   bnd (pk v42 (.b true) v44) fun v45 =>
   bnd (gd v45 false (some (gS sl 2))) fun v46 =>
   bnd (gd v45 false (some v40)) fun v47 =>
   bnd (gd v45 false (len v47)) fun v48 =>
   bnd (gd v45 false (bi .geq v46 v48)) fun v49 =>
   bnd (pk v45 (.b true) v49) fun v50 =>
   br v50 (
    fin ob os.length [0] [(.b true)]
   ) (
    bndO (ap ob 904 1 (.e true) (gS sl 15)) ob fun v51 ob =>
    bnd (dis [(.e true), (gS sl 15)] [v40]) fun _ =>
    bndO (slc ob (.slice 1) v40 none (some (gS sl 2)) none) ob fun v52 ob =>
    bndO (ap ob 936 1 v51 v52) ob fun v53 ob =>
    bndO (ca0 Φ ob 944 false 12 [v53]) ob fun v54 ob =>
    bnd (ext 0 v54) fun v55 =>
    bnd (ext 1 v54) fun v56 =>
    bndO (ca0 Φ ob 984 true 13 [v55, (gS sl 14)]) ob fun v57 ob =>
    bnd (gd v57 true (some v56)) fun v58 =>
    bnd (gd v57 true (b2s ob v58)) fun v59 =>
    bnd (gd v57 true (some v40)) fun v60 =>
    bnd (gd v57 true (some (gS sl 2))) fun v61 =>
    bndO (gdO v57 true (slc ob (.slice 1) v60 none (some v61) none)) ob fun v62 ob =>
    bnd (gd v57 true (b2s ob v62)) fun v63 =>
    bnd (gd v57 true (bi .eql v59 v63)) fun v64 =>
    bnd (pk v57 v64 (.b false)) fun v65 =>
    fin ob os.length [0] [v65]
   )
  )
noncomputable def m4b1 (Φ : Sem') (N : Nat) (os : List Obj') (g : SL → OB → Option R) (sl : SL) (ob : OB) : Option R :=
  bnd (len (gS sl 10)) fun v15 =>
  bnd (bi .lss (gS sl 13) v15) fun v16 =>
  br v16 (
   bnd (xS ob 1 (gS sl 10) (gS sl 13)) fun v17 =>
   bnd (l1 ob v17) fun v18 =>
   bndO (ap ob 496 1 (gS sl 12) v18) ob fun v19 ob =>
   bnd (bi .add (gS sl 13) (.i .i64 1)) fun v20 =>
   bnd (head [.row 12 167 1] [0, 2, 3, 5, 10, 11, 12, 13] [104, 384, 385] [(0, (gS sl 0)), (2, (gS sl 2)), (3, (gS sl 3)), (5, (gS sl 5)), (10, (gS sl 10)), (11, (gS sl 11)), (12, v19), (13, v20)] ob) fun x => g x.1 x.2
  ) (
   bnd (b2s ob (gS sl 12)) fun v21 =>
   bnd (b2s ob (gS sl 11)) fun v22 =>
   bnd (bi .add v21 v22) fun v23 =>
   bnd (b2s ob (gS sl 3)) fun v24 =>
   bnd (bi .neq v23 v24) fun v25 =>
   br v25 (
    fin ob os.length [0] [(.b false)]
   ) (
    bnd (head [.row 14 183 1, .row 15 191 1] [0, 2, 5, 14, 15, 16] [104] [(0, (gS sl 0)), (2, (gS sl 2)), (5, (gS sl 5)), (14, (.e true)), (15, (.e true)), (16, (.i .i64 0))] ob) fun x => loopC (m4b0 Φ N os) N x.1 x.2
   )
  )
noncomputable def m4 : Body := fun Φ N as os =>
  let a0 := gS (zipN 0 as) 0
  let a1 := gS (zipN 0 as) 1
  let a2 := gS (zipN 0 as) 2
  let a3 := gS (zipN 0 as) 3
  let ob := zipN 0 os
  bndO (bx ob 104 a1) ob fun v1 ob =>
  bndO (ca0 Φ ob 256 false 9 []) ob fun v2 ob =>
  bnd (uO .not v2) fun v3 =>
  bnd (gd v3 false (some a0)) fun v4 =>
  bnd (gd v3 false (len v4)) fun v5 =>
  bnd (gd v3 false (bi .gtr v5 (.i .i64 12))) fun v6 =>
  bnd (pk v3 (.b true) v6) fun v7 =>
  bnd (gd v7 false (some a3)) fun v8 =>
  bnd (gd v7 false (len v8)) fun v9 =>
  bnd (gd v7 false (bi .gtr v9 (.i .i64 400))) fun v10 =>
  bnd (pk v7 (.b true) v10) fun v11 =>
  br v11 (
   fin ob os.length [0] [v2]
  ) (
   bndO (ca0 Φ ob 384 false 12 [a3]) ob fun v12 ob =>
   bnd (ext 0 v12) fun v13 =>
   bnd (ext 1 v12) fun v14 =>
   bnd (head [.row 12 167 1] [0, 2, 3, 5, 10, 11, 12, 13] [104, 384, 385] [(0, a0), (2, a2), (3, a3), (5, v1), (10, v13), (11, v14), (12, (.e true)), (13, (.i .i64 0))] ob) fun x => loopC (m4b1 Φ N os) N x.1 x.2
  )

def ann4 : Nat → Option Hd
  | 7 => some ⟨[.row 12 167 1], [0, 2, 3, 5, 10, 11, 12, 13], [104, 384, 385], []⟩ | 15 => some ⟨[.row 14 183 1, .row 15 191 1], [0, 2, 5, 14, 15, 16], [104], []⟩ | _ => none
def lab4 : Nat → Option Hd := fun _ => none
/- pelican/pelicanlaw04.FrameCut -/
noncomputable def m5 : Body := fun Φ N as os =>
  let a0 := gS (zipN 0 as) 0
  let a1 := gS (zipN 0 as) 1
  let a2 := gS (zipN 0 as) 2
  let ob := zipN 0 os
  bndO (bx ob 88 a0) ob fun v1 ob =>
  bndO (ca0 Φ ob 184 false 9 []) ob fun v2 ob =>
  bnd (lN ob 40 v1) fun v3 =>
  bndO (ca0 Φ ob 208 false 10 [v3]) ob fun v4 ob =>
  bnd (ext 0 v4) fun v5 =>
  bnd (ext 1 v4) fun v6 =>
  bnd (uO .not v2) fun v7 =>
  bnd (gd v7 false (some v6)) fun v8 =>
  bnd (gd v7 false (uO .not v8)) fun v9 =>
  bnd (pk v7 (.b true) v9) fun v10 =>
  bnd (gd v10 false (some a2)) fun v11 =>
  bnd (gd v10 false (len v11)) fun v12 =>
  bnd (gd v10 false (bi .gtr v12 (.i .i64 100))) fun v13 =>
  bnd (pk v10 (.b true) v13) fun v14 =>
  br v14 (
   fin ob os.length [0] [v2]
  ) (
   bndO (ap ob 344 1 (.e true) v5) ob fun v15 ob =>
   bndO (ap ob 360 1 v15 a2) ob fun v16 ob =>
   bndO (ca0 Φ ob 368 false 11 [v16]) ob fun v17 ob =>
   bnd (ext 0 v17) fun v18 =>
   bnd (ext 1 v17) fun v19 =>
   bndO (al ob 144 [.i .i64 0, .i .i64 0, .i .u64 0, .i .u64 0, .i .i64 0, .i .u64 0, .i .i64 0, .i .i64 0, .blob 32 (List.replicate 32 (.i .u8 0))]) ob fun v20 ob =>
   bndO (st ob 40 v20 v18) ob fun _ ob =>
   bnd (len v5) fun v21 =>
   bnd (len a2) fun v22 =>
   bnd (bi .add v21 v22) fun v23 =>
   bnd (bi .gtr v23 (.i .i64 64)) fun v24 =>
   bnd (bi .eql v19 (.i .i64 2)) fun v25 =>
   bnd (biB .neq v24 v25) fun v26 =>
   bnd (gd v26 false (some v24)) fun v27 =>
   bnd (gd v26 false (uO .not v27)) fun v28 =>
   bnd (gd v26 false (some v28)) fun v29 =>
   bnd (gd v29 true (some v19)) fun v30 =>
   bnd (gd v29 true (bi .eql v30 (.i .i64 0))) fun v31 =>
   bnd (gd v29 true (some a2)) fun v32 =>
   bnd (gd v29 true (len v32)) fun v33 =>
   bnd (gd v29 true (bi .eql v33 (.i .i64 0))) fun v34 =>
   bnd (gd v29 true (biB .neq v31 v34)) fun v35 =>
   bnd (gd v26 false (pk v29 v35 (.b false))) fun v36 =>
   bnd (pk v26 (.b true) v36) fun v37 =>
   bnd (gd v37 false (some v24)) fun v38 =>
   bnd (gd v37 false (uO .not v38)) fun v39 =>
   bnd (gd v37 false (some v39)) fun v40 =>
   bnd (gd v40 true (some a2)) fun v41 =>
   bnd (gd v40 true (len v41)) fun v42 =>
   bnd (gd v40 true (bi .gtr v42 (.i .i64 0))) fun v43 =>
   bnd (gd v37 false (pk v40 v43 (.b false))) fun v44 =>
   bnd (gd v37 false (some v44)) fun v45 =>
   bnd (gd v45 true (some v19)) fun v46 =>
   bnd (gd v45 true (bi .neq v46 (.i .i64 3))) fun v47 =>
   bnd (gd v37 false (pk v45 v47 (.b false))) fun v48 =>
   bnd (pk v37 (.b true) v48) fun v49 =>
   br v49 (
    fin ob os.length [0] [(.b false)]
   ) (
    bnd (bi .lss a1 (.i .i64 0)) fun v50 =>
    bnd (gd v50 false (some a1)) fun v51 =>
    bnd (gd v50 false (some v5)) fun v52 =>
    bnd (gd v50 false (len v52)) fun v53 =>
    bnd (gd v50 false (bi .geq v51 v53)) fun v54 =>
    bnd (pk v50 (.b true) v54) fun v55 =>
    br v55 (
     fin ob os.length [0] [(.b true)]
    ) (
     bndO (slc ob (.slice 1) v5 none (some a1) none) ob fun v56 ob =>
     bndO (ca0 Φ ob 768 false 11 [v56]) ob fun v57 ob =>
     bnd (ext 0 v57) fun v58 =>
     bnd (ext 1 v57) fun v59 =>
     bndO (al ob 168 [.i .i64 0, .i .i64 0, .i .u64 0, .i .u64 0, .i .i64 0, .i .u64 0, .i .i64 0, .i .i64 0, .blob 32 (List.replicate 32 (.i .u8 0))]) ob fun v60 ob =>
     bndO (st ob 40 v60 v58) ob fun _ ob =>
     bnd (bi .eql v59 (.i .i64 4)) fun v61 =>
     fin ob os.length [0] [v61]
    )
   )
  )

def ann5 : Nat → Option Hd := fun _ => none
def lab5 : Nat → Option Hd := fun _ => none
/- pelican/pelicanlaw04.FrameLong -/
noncomputable def m6 : Body := fun Φ N as os =>
  let a0 := gS (zipN 0 as) 0
  let a1 := gS (zipN 0 as) 1
  let ob := zipN 0 os
  bndO (bx ob 80 a0) ob fun v1 ob =>
  bndO (bx ob 88 a1) ob fun v2 ob =>
  bndO (ca0 Φ ob 152 false 9 []) ob fun v3 ob =>
  bnd (lN ob 40 v1) fun v4 =>
  bndO (ca0 Φ ob 176 false 10 [v4]) ob fun v5 ob =>
  bnd (ext 0 v5) fun v6 =>
  bnd (ext 1 v5) fun v7 =>
  bnd (lN ob 40 v2) fun v8 =>
  bndO (ca0 Φ ob 216 false 10 [v8]) ob fun v9 ob =>
  bnd (ext 0 v9) fun v10 =>
  bnd (ext 1 v9) fun v11 =>
  bnd (uO .not v3) fun v12 =>
  bnd (gd v12 false (some v7)) fun v13 =>
  bnd (gd v12 false (uO .not v13)) fun v14 =>
  bnd (pk v12 (.b true) v14) fun v15 =>
  br v15 (
   fin ob os.length [0] [v3]
  ) (
   bndO (bldS ob 296 1 [(.i .i64 12), (.i .i64 15), (.i .i64 43), (.i .i64 43), (.i .i64 54), (.i .i64 54), (.i .i64 4)]) ob fun v16 ob =>
   bnd (fA 0 v1) fun v17 =>
   bnd (l1 ob v17) fun v18 =>
   bnd (bi .lss v18 (.i .i64 0)) fun v19 =>
   bnd (gd v19 false (fA 0 v1)) fun v20 =>
   bnd (gd v19 false (l1 ob v20)) fun v21 =>
   bnd (gd v19 false (bi .gtr v21 (.i .i64 6))) fun v22 =>
   bnd (pk v19 (.b true) v22) fun v23 =>
   bnd (gd v23 false (some v6)) fun v24 =>
   bnd (gd v23 false (len v24)) fun v25 =>
   bnd (gd v23 false (some v16)) fun v26 =>
   bnd (gd v23 false (fA 0 v1)) fun v27 =>
   bnd (gd v23 false (l1 ob v27)) fun v28 =>
   bnd (gd v23 false (xS ob 1 v26 v28)) fun v29 =>
   bnd (gd v23 false (l1 ob v29)) fun v30 =>
   bnd (gd v23 false (bi .neq v25 v30)) fun v31 =>
   bnd (pk v23 (.b true) v31) fun v32 =>
   br v32 (
    fin ob os.length [0] [(.b false)]
   ) (
    bnd (uO .not v11) fun v33 =>
    bnd (gd v33 false (some v6)) fun v34 =>
    bnd (gd v33 false (b2s ob v34)) fun v35 =>
    bnd (gd v33 false (some v10)) fun v36 =>
    bnd (gd v33 false (b2s ob v36)) fun v37 =>
    bnd (gd v33 false (bi .eql v35 v37)) fun v38 =>
    bnd (gd v33 false (lN ob 40 v1)) fun v39 =>
    bnd (gd v33 false (lN ob 40 v2)) fun v40 =>
    bnd (gd v33 false (eSt false [.i, .i, .i, .i, .i, .i, .i, .i, .a 32] v39 v40)) fun v41 =>
    bnd (gd v33 false (biB .eql v38 v41)) fun v42 =>
    bnd (pk v33 (.b true) v42) fun v43 =>
    fin ob os.length [0] [v43]
   )
  )

def ann6 : Nat → Option Hd := fun _ => none
def lab6 : Nat → Option Hd := fun _ => none
/- pelican/pelicanlaw04.FrameTells -/
noncomputable def m7 : Body := fun Φ N as os =>
  let a0 := gS (zipN 0 as) 0
  let a1 := gS (zipN 0 as) 1
  let ob := zipN 0 os
  bndO (bx ob 80 a0) ob fun v1 ob =>
  bndO (ca0 Φ ob 216 false 9 []) ob fun v2 ob =>
  bnd (uO .not v2) fun v3 =>
  bnd (gd v3 false (some a1)) fun v4 =>
  bnd (gd v3 false (len v4)) fun v5 =>
  bnd (gd v3 false (bi .gtr v5 (.i .i64 400))) fun v6 =>
  bnd (pk v3 (.b true) v6) fun v7 =>
  br v7 (
   fin ob os.length [0] [v2]
  ) (
   bnd (lN ob 40 v1) fun v8 =>
   bndO (ca0 Φ ob 304 false 10 [v8]) ob fun v9 ob =>
   bnd (ext 0 v9) fun v10 =>
   bnd (ext 1 v9) fun v11 =>
   bnd (lN ob 40 v1) fun v12 =>
   bndO (ca0 Φ ob 344 false 14 [v12]) ob fun v13 ob =>
   bnd (ext 0 v13) fun v14 =>
   bnd (ext 1 v13) fun v15 =>
   bndO (ca0 Φ ob 384 false 11 [a1]) ob fun v16 ob =>
   bnd (ext 0 v16) fun v17 =>
   bnd (ext 1 v16) fun v18 =>
   bndO (al ob 144 [.i .i64 0, .i .i64 0, .i .u64 0, .i .u64 0, .i .i64 0, .i .u64 0, .i .i64 0, .i .i64 0, .blob 32 (List.replicate 32 (.i .u8 0))]) ob fun v19 ob =>
   bndO (st ob 40 v19 v17) ob fun _ ob =>
   bndO (ca0 Φ ob 424 false 15 [a1]) ob fun v20 ob =>
   bnd (ext 0 v20) fun v21 =>
   bnd (ext 1 v20) fun v22 =>
   bndO (al ob 160 [.i .i64 0, .i .i64 0, .i .u64 0, .i .u64 0, .i .i64 0, .i .u64 0, .i .i64 0, .i .i64 0, .blob 32 (List.replicate 32 (.i .u8 0))]) ob fun v23 ob =>
   bndO (st ob 40 v23 v21) ob fun _ ob =>
   bndO (ca0 Φ ob 464 false 12 [a1]) ob fun v24 ob =>
   bnd (ext 0 v24) fun v25 =>
   bnd (ext 1 v24) fun v26 =>
   bndO (ca0 Φ ob 504 false 16 [a1]) ob fun v27 ob =>
   bnd (ext 0 v27) fun v28 =>
   bnd (ext 1 v27) fun v29 =>
   bndO (ca0 Φ ob 544 true 13 [v25, v28]) ob fun v30 ob =>
   bnd (b2s ob v10) fun v31 =>
   bnd (b2s ob v14) fun v32 =>
   bnd (bi .eql v31 v32) fun v33 =>
   bnd (gd v33 true (some v11)) fun v34 =>
   bnd (gd v33 true (some v15)) fun v35 =>
   bnd (gd v33 true (biB .eql v34 v35)) fun v36 =>
   bnd (pk v33 v36 (.b false)) fun v37 =>
   bnd (gd v37 true (lN ob 40 v19)) fun v38 =>
   bnd (gd v37 true (lN ob 40 v23)) fun v39 =>
   bnd (gd v37 true (eSt false [.i, .i, .i, .i, .i, .i, .i, .i, .a 32] v38 v39)) fun v40 =>
   bnd (pk v37 v40 (.b false)) fun v41 =>
   bnd (gd v41 true (some v18)) fun v42 =>
   bnd (gd v41 true (some v22)) fun v43 =>
   bnd (gd v41 true (bi .eql v42 v43)) fun v44 =>
   bnd (pk v41 v44 (.b false)) fun v45 =>
   bnd (gd v45 true (some v30)) fun v46 =>
   bnd (pk v45 v46 (.b false)) fun v47 =>
   bnd (gd v47 true (some v26)) fun v48 =>
   bnd (gd v47 true (b2s ob v48)) fun v49 =>
   bnd (gd v47 true (some v29)) fun v50 =>
   bnd (gd v47 true (b2s ob v50)) fun v51 =>
   bnd (gd v47 true (bi .eql v49 v51)) fun v52 =>
   bnd (pk v47 v52 (.b false)) fun v53 =>
   bnd (gd v53 true (lN ob 40 v1)) fun v54 =>
   bndO (gdO v53 true (ca0 Φ ob 808 false 17 [v54])) ob fun v55 ob =>
   bnd (gd v53 true (b2s ob v55)) fun v56 =>
   bnd (gd v53 true (lN ob 40 v1)) fun v57 =>
   bndO (gdO v53 true (ca0 Φ ob 832 false 18 [v57])) ob fun v58 ob =>
   bnd (gd v53 true (b2s ob v58)) fun v59 =>
   bnd (gd v53 true (bi .eql v56 v59)) fun v60 =>
   bnd (pk v53 v60 (.b false)) fun v61 =>
   fin ob os.length [0] [v61]
  )

def ann7 : Nat → Option Hd := fun _ => none
def lab7 : Nat → Option Hd := fun _ => none
/- pelican/pelicanlaw04.FrameBody -/
noncomputable def m8 : Body := fun Φ N as os =>
  let a0 := gS (zipN 0 as) 0
  let a1 := gS (zipN 0 as) 1
  let ob := zipN 0 os
  bndO (bx ob 80 a0) ob fun v1 ob =>
  bndO (bx ob 88 a1) ob fun v2 ob =>
  bndO (ca0 Φ ob 144 false 9 []) ob fun v3 ob =>
  bnd (lN ob 40 v1) fun v4 =>
  bndO (ca0 Φ ob 168 false 10 [v4]) ob fun v5 ob =>
  bnd (ext 0 v5) fun v6 =>
  bnd (ext 1 v5) fun v7 =>
  bnd (lN ob 40 v1) fun v8 =>
  bndO (ca0 Φ ob 200 false 17 [v8]) ob fun v9 ob =>
  bnd (lN ob 40 v2) fun v10 =>
  bndO (ca0 Φ ob 216 false 17 [v10]) ob fun v11 ob =>
  bnd (uO .not v3) fun v12 =>
  bnd (gd v12 false (some v9)) fun v13 =>
  bnd (gd v12 false (len v13)) fun v14 =>
  bnd (gd v12 false (bi .gtr v14 (.i .i64 0))) fun v15 =>
  bnd (gd v12 false (some v15)) fun v16 =>
  bnd (gd v16 true (some v7)) fun v17 =>
  bnd (gd v16 true (uO .not v17)) fun v18 =>
  bnd (gd v16 true (some v18)) fun v19 =>
  bnd (gd v19 false (some v6)) fun v20 =>
  bnd (gd v19 false (b2s ob v20)) fun v21 =>
  bnd (gd v19 false (some v9)) fun v22 =>
  bnd (gd v19 false (b2s ob v22)) fun v23 =>
  bnd (gd v19 false (fA 8 v1)) fun v24 =>
  bndO (gdO v19 false (slc ob (.arr 32) v24 none none none)) ob fun v25 ob =>
  bnd (gd v19 false (b2s ob v25)) fun v26 =>
  bnd (gd v19 false (bi .add v23 v26)) fun v27 =>
  bnd (gd v19 false (bi .neq v21 v27)) fun v28 =>
  bnd (gd v16 true (pk v19 (.b true) v28)) fun v29 =>
  bnd (gd v12 false (pk v16 v29 (.b false))) fun v30 =>
  bnd (pk v12 (.b true) v30) fun v31 =>
  br v31 (
   fin ob os.length [0] [(.b false)]
  ) (
   bnd (len v9) fun v32 =>
   bnd (bi .eql v32 (.i .i64 0)) fun v33 =>
   bnd (gd v33 false (some v11)) fun v34 =>
   bnd (gd v33 false (len v34)) fun v35 =>
   bnd (gd v33 false (bi .eql v35 (.i .i64 0))) fun v36 =>
   bnd (pk v33 (.b true) v36) fun v37 =>
   br v37 (
    fin ob os.length [0] [(.b true)]
   ) (
    bnd (fA 8 v2) fun v38 =>
    bnd (lN ob 32 v38) fun v39 =>
    bnd (fA 8 v1) fun v40 =>
    bndO (st ob 32 v40 v39) ob fun _ ob =>
    bnd (b2s ob v9) fun v41 =>
    bnd (b2s ob v11) fun v42 =>
    bnd (bi .eql v41 v42) fun v43 =>
    bnd (lN ob 40 v1) fun v44 =>
    bnd (lN ob 40 v2) fun v45 =>
    bnd (eSt false [.i, .i, .i, .i, .i, .i, .i, .i, .a 32] v44 v45) fun v46 =>
    bnd (biB .eql v43 v46) fun v47 =>
    fin ob os.length [0] [v47]
   )
  )

def ann8 : Nat → Option Hd := fun _ => none
def lab8 : Nat → Option Hd := fun _ => none
/- pelican/pelicanlaw04.awake -/
noncomputable def m9 : Body := fun Φ N as os =>
  let ob := zipN 0 os
  bnd (bld [.i .i64 0, .i .i64 0, .i .u64 0, .i .u64 0, .i .i64 0, .i .u64 0, .i .i64 0, .i .i64 0, .blob 32 (List.replicate 32 (.i .u8 0))] [(1, 1, (.i .i64 3)), (3, 1, (.i .u64 9))]) fun v1 =>
  bndO (ca0 Φ ob 152 false 10 [v1]) ob fun v2 ob =>
  bnd (ext 0 v2) fun v3 =>
  bnd (ext 1 v2) fun v4 =>
  bndO (ca0 Φ ob 192 false 11 [v3]) ob fun v5 ob =>
  bnd (ext 0 v5) fun v6 =>
  bnd (ext 1 v5) fun v7 =>
  bndO (al ob 88 [.i .i64 0, .i .i64 0, .i .u64 0, .i .u64 0, .i .i64 0, .i .u64 0, .i .i64 0, .i .i64 0, .blob 32 (List.replicate 32 (.i .u8 0))]) ob fun v8 ob =>
  bndO (st ob 40 v8 v6) ob fun _ ob =>
  bnd (bld [.i .i64 0, .i .i64 0, .i .u64 0, .i .u64 0, .i .i64 0, .i .u64 0, .i .i64 0, .i .i64 0, .blob 32 (List.replicate 32 (.i .u8 0))] [(0, 1, (.i .i64 6)), (6, 1, (.i .i64 5))]) fun v9 =>
  bndO (ca0 Φ ob 232 false 10 [v9]) ob fun v10 ob =>
  bnd (ext 0 v10) fun v11 =>
  bnd (ext 1 v10) fun v12 =>
  bndO (ap ob 272 1 (.e true) v3) ob fun v13 ob =>
  bndO (bldS ob 280 1 [(.i .u8 0)]) ob fun v14 ob =>
  bndO (ap ob 288 1 v13 v14) ob fun v15 ob =>
  bndO (ca0 Φ ob 296 false 12 [v15]) ob fun v16 ob =>
  bnd (ext 0 v16) fun v17 =>
  bnd (ext 1 v16) fun v18 =>
  bnd (gd v4 true (some v3)) fun v19 =>
  bnd (gd v4 true (len v19)) fun v20 =>
  bnd (gd v4 true (bi .eql v20 (.i .i64 12))) fun v21 =>
  bnd (pk v4 v21 (.b false)) fun v22 =>
  bnd (gd v22 true (some v3)) fun v23 =>
  bnd (gd v22 true (xS ob 1 v23 (.i .i64 1))) fun v24 =>
  bnd (gd v22 true (l1 ob v24)) fun v25 =>
  bnd (gd v22 true (bi .eql v25 (.i .u8 10))) fun v26 =>
  bnd (pk v22 v26 (.b false)) fun v27 =>
  bnd (gd v27 true (some v3)) fun v28 =>
  bnd (gd v27 true (xS ob 1 v28 (.i .i64 3))) fun v29 =>
  bnd (gd v27 true (l1 ob v29)) fun v30 =>
  bnd (gd v27 true (bi .eql v30 (.i .u8 3))) fun v31 =>
  bnd (pk v27 v31 (.b false)) fun v32 =>
  bnd (gd v32 true (some v3)) fun v33 =>
  bnd (gd v32 true (xS ob 1 v33 (.i .i64 11))) fun v34 =>
  bnd (gd v32 true (l1 ob v34)) fun v35 =>
  bnd (gd v32 true (bi .eql v35 (.i .u8 9))) fun v36 =>
  bnd (pk v32 v36 (.b false)) fun v37 =>
  bnd (gd v37 true (some v7)) fun v38 =>
  bnd (gd v37 true (bi .eql v38 (.i .i64 0))) fun v39 =>
  bnd (pk v37 v39 (.b false)) fun v40 =>
  bnd (gd v40 true (fA 1 v8)) fun v41 =>
  bnd (gd v40 true (l1 ob v41)) fun v42 =>
  bnd (gd v40 true (bi .eql v42 (.i .i64 3))) fun v43 =>
  bnd (pk v40 v43 (.b false)) fun v44 =>
  bnd (gd v44 true (some v12)) fun v45 =>
  bnd (pk v44 v45 (.b false)) fun v46 =>
  bnd (gd v46 true (some v11)) fun v47 =>
  bnd (gd v46 true (b2s ob v47)) fun v48 =>
  bnd (gd v46 true (bi .eql v48 (.s [0, 2, 6, 5]))) fun v49 =>
  bnd (pk v46 v49 (.b false)) fun v50 =>
  bnd (gd v50 true (some v17)) fun v51 =>
  bnd (gd v50 true (len v51)) fun v52 =>
  bnd (gd v50 true (bi .eql v52 (.i .i64 1))) fun v53 =>
  bnd (pk v50 v53 (.b false)) fun v54 =>
  bnd (gd v54 true (some v18)) fun v55 =>
  bnd (gd v54 true (len v55)) fun v56 =>
  bnd (gd v54 true (bi .eql v56 (.i .i64 1))) fun v57 =>
  bnd (pk v54 v57 (.b false)) fun v58 =>
  fin ob os.length [0] [v58]

def ann9 : Nat → Option Hd := fun _ => none
def lab9 : Nat → Option Hd := fun _ => none
/- pelican/frame.Put -/
noncomputable def m10 : Body := fun Φ N as os =>
  let a0 := gS (zipN 0 as) 0
  let ob := zipN 0 os
  bndO (bx ob 72 a0) ob fun v1 ob =>
  bnd (lN ob 40 v1) fun v2 =>
  bndO (ca0 Φ ob 120 false 19 [v2]) ob fun v3 ob =>
  bnd (uO .not v3) fun v4 =>
  br v4 (
   fin ob os.length [1, 0] [(.e true), (.b false)]
  ) (
   bnd (lN ob 40 v1) fun v5 =>
   bndO (ca0 Φ ob 152 false 20 [v5]) ob fun v6 ob =>
   bnd (ext 0 v6) fun v7 =>
   bnd (ext 1 v6) fun v8 =>
   br v8 (
    bnd (fA 8 v1) fun v9 =>
    bndO (slc ob (.arr 32) v9 none none none) ob fun v10 ob =>
    bndO (ap ob 208 1 v7 v10) ob fun v11 ob =>
    fin ob os.length [1, 0] [v11, (.b true)]
   ) (
    fin ob os.length [1, 0] [v7, (.b true)]
   )
  )

def ann10 : Nat → Option Hd := fun _ => none
def lab10 : Nat → Option Hd := fun _ => none
/- pelican/frame.Read -/
noncomputable def m11b0 (Φ : Sem') (N : Nat) (os : List Obj') (g : SL → OB → Option R) (sl : SL) (ob : OB) : Option R :=
  bnd (bi .lss (gS sl 44) (gS sl 43)) fun v26 =>
  br v26 (
   bnd (xS ob 3 (gS sl 42) (gS sl 44)) fun v27 =>
   bnd (lN ob 3 v27) fun v28 =>
   bndO (al ob 144 [.np, .np, .i .i64 0]) ob fun v29 ob =>
   bndO (st ob 3 v29 v28) ob fun _ ob =>
   bnd (fA 2 v29) fun v30 =>
   bnd (l1 ob v30) fun v31 =>
   bndO (ca0 Φ ob 488 false 23 [(gS sl 0), (gS sl 8), v31]) ob fun v32 ob =>
   bnd (ext 0 v32) fun v33 =>
   bnd (ext 1 v32) fun v34 =>
   bnd (bi .eql v34 (.i .i64 (-1))) fun v35 =>
   br v35 (
    bnd (bld [.i .i64 0, .i .i64 0, .i .u64 0, .i .u64 0, .i .i64 0, .i .u64 0, .i .i64 0, .i .i64 0, .blob 32 (List.replicate 32 (.i .u8 0))] []) fun v36 =>
    bndO (st ob 40 (gS sl 2) v36) ob fun _ ob =>
    bnd (lN ob 40 (gS sl 2)) fun v37 =>
    fin ob os.length [0, 0] [v37, (.i .i64 3)]
   ) (
    bnd (fA 0 v29) fun v38 =>
    bnd (l1 ob v38) fun v39 =>
    bnd (eNp true v39) fun v40 =>
    br v40 (
     bnd (fA 0 v29) fun v41 =>
     bnd (l1 ob v41) fun v42 =>
     bnd (cv .i64 v33) fun v43 =>
     bnd (nc v42) fun v44 =>
     bndO (st ob 1 v44 v43) ob fun _ ob =>
     bnd (bi .add (gS sl 44) (.i .i64 1)) fun v45 =>
     bnd (head [] [0, 2, 5, 7, 8, 42, 43, 44] [80, 104, 376] [(0, (gS sl 0)), (2, (gS sl 2)), (5, (gS sl 5)), (7, (gS sl 7)), (8, v34), (42, (gS sl 42)), (43, (gS sl 43)), (44, v45)] ob) fun x => g x.1 x.2
    ) (
     bnd (fA 1 v29) fun v46 =>
     bnd (l1 ob v46) fun v47 =>
     bnd (nc v47) fun v48 =>
     bndO (st ob 1 v48 v33) ob fun _ ob =>
     bnd (bi .add (gS sl 44) (.i .i64 1)) fun v49 =>
     bnd (head [] [0, 2, 5, 7, 8, 42, 43, 44] [80, 104, 376] [(0, (gS sl 0)), (2, (gS sl 2)), (5, (gS sl 5)), (7, (gS sl 7)), (8, v34), (42, (gS sl 42)), (43, (gS sl 43)), (44, v49)] ob) fun x => g x.1 x.2
    )
   )
  ) (
   br (gS sl 7) (
    bnd (fA 8 (gS sl 5)) fun v50 =>
    bndO (slc ob (.arr 32) v50 none none none) ob fun v51 ob =>
    bndO (slc ob (.slice 1) (gS sl 0) (some (gS sl 8)) none none) ob fun v52 ob =>
    bndO (cpy ob 1 v51 v52) ob fun v53 ob =>
    bnd (bi .add (gS sl 8) v53) fun v54 =>
    bnd (lN ob 40 (gS sl 5)) fun v55 =>
    bndO (ca0 Φ ob 736 false 10 [v55]) ob fun v56 ob =>
    bnd (ext 0 v56) fun v57 =>
    bnd (ext 1 v56) fun v58 =>
    bnd (uO .not v58) fun v59 =>
    bnd (gd v59 false (some v54)) fun v60 =>
    bnd (gd v59 false (some (gS sl 0))) fun v61 =>
    bnd (gd v59 false (len v61)) fun v62 =>
    bnd (gd v59 false (bi .neq v60 v62)) fun v63 =>
    bnd (pk v59 (.b true) v63) fun v64 =>
    bnd (gd v64 false (some v57)) fun v65 =>
    bnd (gd v64 false (some (gS sl 0))) fun v66 =>
    bndO (gdO v64 false (ca0 Φ ob 848 false 24 [v65, v66])) ob fun v67 ob =>
    bnd (gd v64 false (uO .not v67)) fun v68 =>
    bnd (pk v64 (.b true) v68) fun v69 =>
    br v69 (
     bnd (bld [.i .i64 0, .i .i64 0, .i .u64 0, .i .u64 0, .i .i64 0, .i .u64 0, .i .i64 0, .i .i64 0, .blob 32 (List.replicate 32 (.i .u8 0))] []) fun v70 =>
     bndO (st ob 40 (gS sl 2) v70) ob fun _ ob =>
     bnd (lN ob 40 (gS sl 2)) fun v71 =>
     fin ob os.length [0, 0] [v71, (.i .i64 3)]
    ) (
     bnd (lN ob 40 (gS sl 5)) fun v72 =>
     bndO (st ob 40 (gS sl 2) v72) ob fun _ ob =>
     bnd (lN ob 40 (gS sl 2)) fun v73 =>
     fin ob os.length [0, 0] [v73, (.i .i64 0)]
    )
   ) (
    bnd (lN ob 40 (gS sl 5)) fun v74 =>
    bndO (ca0 Φ ob 736 false 10 [v74]) ob fun v75 ob =>
    bnd (ext 0 v75) fun v76 =>
    bnd (ext 1 v75) fun v77 =>
    bnd (uO .not v77) fun v78 =>
    bnd (gd v78 false (some (gS sl 8))) fun v79 =>
    bnd (gd v78 false (some (gS sl 0))) fun v80 =>
    bnd (gd v78 false (len v80)) fun v81 =>
    bnd (gd v78 false (bi .neq v79 v81)) fun v82 =>
    bnd (pk v78 (.b true) v82) fun v83 =>
    bnd (gd v83 false (some v76)) fun v84 =>
    bnd (gd v83 false (some (gS sl 0))) fun v85 =>
    bndO (gdO v83 false (ca0 Φ ob 848 false 24 [v84, v85])) ob fun v86 ob =>
    bnd (gd v83 false (uO .not v86)) fun v87 =>
    bnd (pk v83 (.b true) v87) fun v88 =>
    br v88 (
     bnd (bld [.i .i64 0, .i .i64 0, .i .u64 0, .i .u64 0, .i .i64 0, .i .u64 0, .i .i64 0, .i .i64 0, .blob 32 (List.replicate 32 (.i .u8 0))] []) fun v89 =>
     bndO (st ob 40 (gS sl 2) v89) ob fun _ ob =>
     bnd (lN ob 40 (gS sl 2)) fun v90 =>
     fin ob os.length [0, 0] [v90, (.i .i64 3)]
    ) (
     bnd (lN ob 40 (gS sl 5)) fun v91 =>
     bndO (st ob 40 (gS sl 2) v91) ob fun _ ob =>
     bnd (lN ob 40 (gS sl 2)) fun v92 =>
     fin ob os.length [0, 0] [v92, (.i .i64 0)]
    )
   )
  )
noncomputable def m11 : Body := fun Φ N as os =>
  let a0 := gS (zipN 0 as) 0
  let ob := zipN 0 os
  bndO (al ob 80 [.i .i64 0, .i .i64 0, .i .u64 0, .i .u64 0, .i .i64 0, .i .u64 0, .i .i64 0, .i .i64 0, .blob 32 (List.replicate 32 (.i .u8 0))]) ob fun v1 ob =>
  bnd (len a0) fun v2 =>
  bnd (bi .gtr v2 (.i .i64 64)) fun v3 =>
  br v3 (
   bnd (bld [.i .i64 0, .i .i64 0, .i .u64 0, .i .u64 0, .i .i64 0, .i .u64 0, .i .i64 0, .i .i64 0, .blob 32 (List.replicate 32 (.i .u8 0))] []) fun v4 =>
   bndO (st ob 40 v1 v4) ob fun _ ob =>
   bnd (lN ob 40 v1) fun v5 =>
   fin ob os.length [0, 0] [v5, (.i .i64 2)]
  ) (
   bndO (ca0 Φ ob 224 false 21 [a0]) ob fun v6 ob =>
   bnd (bi .eql v6 (.i .i64 (-1))) fun v7 =>
   br v7 (
    bnd (bld [.i .i64 0, .i .i64 0, .i .u64 0, .i .u64 0, .i .i64 0, .i .u64 0, .i .i64 0, .i .i64 0, .blob 32 (List.replicate 32 (.i .u8 0))] []) fun v8 =>
    bndO (st ob 40 v1 v8) ob fun _ ob =>
    bnd (lN ob 40 v1) fun v9 =>
    fin ob os.length [0, 0] [v9, (.i .i64 4)]
   ) (
    bnd (len a0) fun v10 =>
    bnd (bi .neq v6 v10) fun v11 =>
    bnd (gd v11 false (some v6)) fun v12 =>
    bnd (gd v11 false (bi .eql v12 (.i .i64 2))) fun v13 =>
    bnd (pk v11 (.b true) v13) fun v14 =>
    br v14 (
     bnd (bld [.i .i64 0, .i .i64 0, .i .u64 0, .i .u64 0, .i .i64 0, .i .u64 0, .i .i64 0, .i .i64 0, .blob 32 (List.replicate 32 (.i .u8 0))] []) fun v15 =>
     bndO (st ob 40 v1 v15) ob fun _ ob =>
     bnd (lN ob 40 v1) fun v16 =>
     fin ob os.length [0, 0] [v16, (.i .i64 3)]
    ) (
     bnd (xS ob 1 a0 (.i .i64 2)) fun v17 =>
     bnd (l1 ob v17) fun v18 =>
     bnd (cv .i64 v18) fun v19 =>
     bnd (bld [.i .i64 0, .i .i64 0, .i .u64 0, .i .u64 0, .i .i64 0, .i .u64 0, .i .i64 0, .i .i64 0, .blob 32 (List.replicate 32 (.i .u8 0))] [(0, 1, v19)]) fun v20 =>
     bndO (al ob 104 [.i .i64 0, .i .i64 0, .i .u64 0, .i .u64 0, .i .i64 0, .i .u64 0, .i .i64 0, .i .i64 0, .blob 32 (List.replicate 32 (.i .u8 0))]) ob fun v21 ob =>
     bndO (st ob 40 v21 v20) ob fun _ ob =>
     bndO (ca Φ ob 376 false 22 [v21]) ob fun v22 ob =>
     bnd (ext 0 v22) fun v23 =>
     bnd (ext 1 v22) fun v24 =>
     bnd (len v23) fun v25 =>
     bnd (head [] [0, 2, 5, 7, 8, 42, 43, 44] [80, 104, 376] [(0, a0), (2, v1), (5, v21), (7, v24), (8, (.i .i64 3)), (42, v23), (43, v25), (44, (.i .i64 0))] ob) fun x => loopC (m11b0 Φ N os) N x.1 x.2
    )
   )
  )

def ann11 : Nat → Option Hd
  | 12 => some ⟨[], [0, 2, 5, 7, 8, 42, 43, 44], [80, 104, 376], []⟩ | _ => none
def lab11 : Nat → Option Hd := fun _ => none
/- pelican/frame.Split -/
noncomputable def m12r0 (Φ : Sem') (N : Nat) (os : List Obj') (g : OB → Option R) (sl0 sl : SL) (ob : OB) : Option R :=
  bnd (l1 ob (gS sl 4)) fun v4 =>
  bndO (ca0 Φ ob 184 false 26 [(gS sl 11)]) ob fun v5 ob =>
  bnd (dis [(gS sl 4)] [v5]) fun _ =>
  bndO (bldP ob 192 1 [v5]) ob fun v6 ob =>
  bndO (ap ob 200 1 v4 v6) ob fun v7 ob =>
  bndO (st ob 1 (gS sl 4) v7) ob fun _ ob =>
  bndO (st ob 1 (gS sl 5) (gS sl 12)) ob fun _ ob =>
  g ob
noncomputable def m12e1 (Φ : Sem') (N : Nat) (os : List Obj') (sl : SL) (ob : OB) : Option R :=
  bnd (l1 ob (gS sl 4)) fun v8 =>
  bnd (l1 ob (gS sl 5)) fun v9 =>
  bndO (ca0 Φ ob 232 false 26 [v9]) ob fun v10 ob =>
  fin ob os.length [1, 1] [v8, v10]
noncomputable def m12 : Body := fun Φ N as os =>
  let a0 := gS (zipN 0 as) 0
  let ob := zipN 0 os
  bndO (al ob 96 [.e true]) ob fun v1 ob =>
  bndO (al ob 104 [.e true]) ob fun v2 ob =>
  bndO (st ob 1 v2 a0) ob fun _ ob =>
  bndO (ca0 Φ ob 144 false 25 [a0]) ob fun v3 ob =>
  rgO (m12r0 Φ N os) [11, 12] ⟨[], [4, 5], [96, 104, 111], [.row 96 0 500000 1, .row 96 0 111 1]⟩ (m12e1 Φ N os) [(4, v1), (5, v2)] ob (rgF Φ ob v3)

def ann12 : Nat → Option Hd
  | 6 => some ⟨[], [4, 5], [96, 104, 111], [.row 96 0 500000 1, .row 96 0 111 1]⟩ | _ => none
def lab12 : Nat → Option Hd := fun _ => none
/- pelican/pelicanref04.Rows -/
noncomputable def m13b0 (Φ : Sem') (N : Nat) (os : List Obj') (g : SL → OB → Option R) (sl : SL) (ob : OB) : Option R :=
  bnd (len (gS sl 0)) fun v4 =>
  bnd (bi .lss (gS sl 5) v4) fun v5 =>
  br v5 (
   bnd (xS ob 1 (gS sl 0) (gS sl 5)) fun v6 =>
   bnd (l1 ob v6) fun v7 =>
   bnd (b2s ob v7) fun v8 =>
   bnd (xS ob 1 (gS sl 1) (gS sl 5)) fun v9 =>
   bnd (l1 ob v9) fun v10 =>
   bnd (b2s ob v10) fun v11 =>
   bnd (bi .neq v8 v11) fun v12 =>
   br v12 (
    fin ob os.length [0] [(.b false)]
   ) (
    bnd (bi .add (gS sl 5) (.i .i64 1)) fun v13 =>
    bnd (head [] [0, 1, 5] [] [(0, (gS sl 0)), (1, (gS sl 1)), (5, v13)] ob) fun x => g x.1 x.2
   )
  ) (
   fin ob os.length [0] [(.b true)]
  )
noncomputable def m13 : Body := fun Φ N as os =>
  let a0 := gS (zipN 0 as) 0
  let a1 := gS (zipN 0 as) 1
  let ob := zipN 0 os
  bnd (len a0) fun v1 =>
  bnd (len a1) fun v2 =>
  bnd (bi .neq v1 v2) fun v3 =>
  br v3 (
   fin ob os.length [0] [(.b false)]
  ) (
   bnd (head [] [0, 1, 5] [] [(0, a0), (1, a1), (5, (.i .i64 0))] ob) fun x => loopC (m13b0 Φ N os) N x.1 x.2
  )

def ann13 : Nat → Option Hd
  | 4 => some ⟨[], [0, 1, 5], [], []⟩ | _ => none
def lab13 : Nat → Option Hd := fun _ => none
/- pelican/pelicanref04.Put -/
noncomputable def m14 : Body := fun Φ N as os =>
  let a0 := gS (zipN 0 as) 0
  let ob := zipN 0 os
  bndO (bx ob 72 a0) ob fun v1 ob =>
  bnd (lN ob 40 v1) fun v2 =>
  bndO (ca0 Φ ob 128 false 27 [v2]) ob fun v3 ob =>
  bnd (uO .not v3) fun v4 =>
  br v4 (
   fin ob os.length [1, 0] [(.e true), (.b false)]
  ) (
   bnd (lN ob 40 v1) fun v5 =>
   bndO (ca0 Φ ob 168 false 28 [v5]) ob fun v6 ob =>
   bnd (ext 0 v6) fun v7 =>
   bnd (ext 1 v6) fun v8 =>
   br v8 (
    bnd (fA 8 v1) fun v9 =>
    bndO (slc ob (.arr 32) v9 none none none) ob fun v10 ob =>
    bndO (ap ob 224 1 v7 v10) ob fun v11 ob =>
    fin ob os.length [1, 0] [v11, (.b true)]
   ) (
    fin ob os.length [1, 0] [v7, (.b true)]
   )
  )

def ann14 : Nat → Option Hd := fun _ => none
def lab14 : Nat → Option Hd := fun _ => none
/- pelican/pelicanref04.Read -/
noncomputable def m15b0 (Φ : Sem') (N : Nat) (os : List Obj') (g : SL → OB → Option R) (sl : SL) (ob : OB) : Option R :=
  bnd (len (gS sl 5)) fun v30 =>
  bnd (bi .lss (gS sl 8) v30) fun v31 =>
  br v31 (
   bnd (xS ob 2 (gS sl 5) (gS sl 8)) fun v32 =>
   bnd (fA 1 v32) fun v33 =>
   bnd (l1 ob v33) fun v34 =>
   bndO (bldS ob 552 1 [v34]) ob fun v35 ob =>
   bndO (ap ob 560 1 (gS sl 7) v35) ob fun v36 ob =>
   bnd (bi .add (gS sl 8) (.i .i64 1)) fun v37 =>
   bnd (head [.row 7 127 1] [0, 2, 5, 6, 7, 8] [80, 432] [(0, (gS sl 0)), (2, (gS sl 2)), (5, (gS sl 5)), (6, (gS sl 6)), (7, v36), (8, v37)] ob) fun x => g x.1 x.2
  ) (
   bndO (slc ob (.slice 1) (gS sl 0) (some (.i .i64 3)) none none) ob fun v38 ob =>
   bndO (al ob 144 [.blob 32 (List.replicate 32 (.i .u8 0))]) ob fun v39 ob =>
   bnd (gd (gS sl 6) true (some v38)) fun v40 =>
   bnd (gd (gS sl 6) true (len v40)) fun v41 =>
   bnd (gd (gS sl 6) true (bi .geq v41 (.i .i64 32))) fun v42 =>
   bnd (pk (gS sl 6) v42 (.b false)) fun v43 =>
   br v43 (
    bndO (slc ob (.arr 32) v39 none none none) ob fun v44 ob =>
    bnd (len v38) fun v45 =>
    bnd (bi .sub v45 (.i .i64 32)) fun v46 =>
    bndO (slc ob (.slice 1) v38 (some v46) none none) ob fun v47 ob =>
    bndO (cpy ob 1 v44 v47) ob fun v48 ob =>
    bnd (len v38) fun v49 =>
    bnd (bi .sub v49 (.i .i64 32)) fun v50 =>
    bndO (slc ob (.slice 1) v38 none (some v50) none) ob fun v51 ob =>
    bndO (ca0 Φ ob 752 false 31 [v51, (gS sl 7)]) ob fun v52 ob =>
    bnd (ext 0 v52) fun v53 =>
    bnd (ext 1 v52) fun v54 =>
    bnd (uO .not v54) fun v55 =>
    br v55 (
     bnd (bld [.i .i64 0, .i .i64 0, .i .u64 0, .i .u64 0, .i .i64 0, .i .u64 0, .i .i64 0, .i .i64 0, .blob 32 (List.replicate 32 (.i .u8 0))] []) fun v56 =>
     bndO (st ob 40 (gS sl 2) v56) ob fun _ ob =>
     bnd (lN ob 40 (gS sl 2)) fun v57 =>
     fin ob os.length [0, 0] [v57, (.i .i64 3)]
    ) (
     bnd (xS ob 1 (gS sl 0) (.i .i64 2)) fun v58 =>
     bnd (l1 ob v58) fun v59 =>
     bnd (cv .i64 v59) fun v60 =>
     bndO (ca0 Φ ob 840 false 32 [v60, v53]) ob fun v61 ob =>
     bndO (al ob 168 [.i .i64 0, .i .i64 0, .i .u64 0, .i .u64 0, .i .i64 0, .i .u64 0, .i .i64 0, .i .i64 0, .blob 32 (List.replicate 32 (.i .u8 0))]) ob fun v62 ob =>
     bndO (st ob 40 v62 v61) ob fun _ ob =>
     bnd (lN ob 32 v39) fun v63 =>
     bnd (fA 8 v62) fun v64 =>
     bndO (st ob 32 v64 v63) ob fun _ ob =>
     bnd (lN ob 40 v62) fun v65 =>
     bndO (ca0 Φ ob 880 false 14 [v65]) ob fun v66 ob =>
     bnd (ext 0 v66) fun v67 =>
     bnd (ext 1 v66) fun v68 =>
     bnd (uO .not v68) fun v69 =>
     bnd (gd v69 false (some v67)) fun v70 =>
     bnd (gd v69 false (b2s ob v70)) fun v71 =>
     bnd (gd v69 false (some (gS sl 0))) fun v72 =>
     bnd (gd v69 false (b2s ob v72)) fun v73 =>
     bnd (gd v69 false (bi .neq v71 v73)) fun v74 =>
     bnd (pk v69 (.b true) v74) fun v75 =>
     br v75 (
      bnd (bld [.i .i64 0, .i .i64 0, .i .u64 0, .i .u64 0, .i .i64 0, .i .u64 0, .i .i64 0, .i .i64 0, .blob 32 (List.replicate 32 (.i .u8 0))] []) fun v76 =>
      bndO (st ob 40 (gS sl 2) v76) ob fun _ ob =>
      bnd (lN ob 40 (gS sl 2)) fun v77 =>
      fin ob os.length [0, 0] [v77, (.i .i64 3)]
     ) (
      bnd (lN ob 40 v62) fun v78 =>
      bndO (st ob 40 (gS sl 2) v78) ob fun _ ob =>
      bnd (lN ob 40 (gS sl 2)) fun v79 =>
      fin ob os.length [0, 0] [v79, (.i .i64 0)]
     )
    )
   ) (
    bndO (ca0 Φ ob 752 false 31 [v38, (gS sl 7)]) ob fun v80 ob =>
    bnd (ext 0 v80) fun v81 =>
    bnd (ext 1 v80) fun v82 =>
    bnd (uO .not v82) fun v83 =>
    br v83 (
     bnd (bld [.i .i64 0, .i .i64 0, .i .u64 0, .i .u64 0, .i .i64 0, .i .u64 0, .i .i64 0, .i .i64 0, .blob 32 (List.replicate 32 (.i .u8 0))] []) fun v84 =>
     bndO (st ob 40 (gS sl 2) v84) ob fun _ ob =>
     bnd (lN ob 40 (gS sl 2)) fun v85 =>
     fin ob os.length [0, 0] [v85, (.i .i64 3)]
    ) (
     bnd (xS ob 1 (gS sl 0) (.i .i64 2)) fun v86 =>
     bnd (l1 ob v86) fun v87 =>
     bnd (cv .i64 v87) fun v88 =>
     bndO (ca0 Φ ob 840 false 32 [v88, v81]) ob fun v89 ob =>
     bndO (al ob 168 [.i .i64 0, .i .i64 0, .i .u64 0, .i .u64 0, .i .i64 0, .i .u64 0, .i .i64 0, .i .i64 0, .blob 32 (List.replicate 32 (.i .u8 0))]) ob fun v90 ob =>
     bndO (st ob 40 v90 v89) ob fun _ ob =>
     bnd (lN ob 32 v39) fun v91 =>
     bnd (fA 8 v90) fun v92 =>
     bndO (st ob 32 v92 v91) ob fun _ ob =>
     bnd (lN ob 40 v90) fun v93 =>
     bndO (ca0 Φ ob 880 false 14 [v93]) ob fun v94 ob =>
     bnd (ext 0 v94) fun v95 =>
     bnd (ext 1 v94) fun v96 =>
     bnd (uO .not v96) fun v97 =>
     bnd (gd v97 false (some v95)) fun v98 =>
     bnd (gd v97 false (b2s ob v98)) fun v99 =>
     bnd (gd v97 false (some (gS sl 0))) fun v100 =>
     bnd (gd v97 false (b2s ob v100)) fun v101 =>
     bnd (gd v97 false (bi .neq v99 v101)) fun v102 =>
     bnd (pk v97 (.b true) v102) fun v103 =>
     br v103 (
      bnd (bld [.i .i64 0, .i .i64 0, .i .u64 0, .i .u64 0, .i .i64 0, .i .u64 0, .i .i64 0, .i .i64 0, .blob 32 (List.replicate 32 (.i .u8 0))] []) fun v104 =>
      bndO (st ob 40 (gS sl 2) v104) ob fun _ ob =>
      bnd (lN ob 40 (gS sl 2)) fun v105 =>
      fin ob os.length [0, 0] [v105, (.i .i64 3)]
     ) (
      bnd (lN ob 40 v90) fun v106 =>
      bndO (st ob 40 (gS sl 2) v106) ob fun _ ob =>
      bnd (lN ob 40 (gS sl 2)) fun v107 =>
      fin ob os.length [0, 0] [v107, (.i .i64 0)]
     )
    )
   )
  )
noncomputable def m15 : Body := fun Φ N as os =>
  let a0 := gS (zipN 0 as) 0
  let ob := zipN 0 os
  bndO (al ob 80 [.i .i64 0, .i .i64 0, .i .u64 0, .i .u64 0, .i .i64 0, .i .u64 0, .i .i64 0, .i .i64 0, .blob 32 (List.replicate 32 (.i .u8 0))]) ob fun v1 ob =>
  bnd (len a0) fun v2 =>
  bnd (bi .gtr v2 (.i .i64 64)) fun v3 =>
  br v3 (
   bnd (bld [.i .i64 0, .i .i64 0, .i .u64 0, .i .u64 0, .i .i64 0, .i .u64 0, .i .i64 0, .i .i64 0, .blob 32 (List.replicate 32 (.i .u8 0))] []) fun v4 =>
   bndO (st ob 40 v1 v4) ob fun _ ob =>
   bnd (lN ob 40 v1) fun v5 =>
   fin ob os.length [0, 0] [v5, (.i .i64 2)]
  ) (
   bndO (ca0 Φ ob 232 false 29 [a0]) ob fun v6 ob =>
   bnd (bi .lss v6 (.i .i64 0)) fun v7 =>
   br v7 (
    bnd (bld [.i .i64 0, .i .i64 0, .i .u64 0, .i .u64 0, .i .i64 0, .i .u64 0, .i .i64 0, .i .i64 0, .blob 32 (List.replicate 32 (.i .u8 0))] []) fun v8 =>
    bndO (st ob 40 v1 v8) ob fun _ ob =>
    bnd (lN ob 40 v1) fun v9 =>
    fin ob os.length [0, 0] [v9, (.i .i64 4)]
   ) (
    bnd (bi .lss v6 (.i .i64 3)) fun v10 =>
    bnd (gd v10 false (some v6)) fun v11 =>
    bnd (gd v10 false (some a0)) fun v12 =>
    bnd (gd v10 false (len v12)) fun v13 =>
    bnd (gd v10 false (bi .neq v11 v13)) fun v14 =>
    bnd (pk v10 (.b true) v14) fun v15 =>
    bnd (gd v15 false (some a0)) fun v16 =>
    bnd (gd v15 false (xS ob 1 v16 (.i .i64 2))) fun v17 =>
    bnd (gd v15 false (l1 ob v17)) fun v18 =>
    bnd (gd v15 false (bi .geq v18 (.i .u8 7))) fun v19 =>
    bnd (pk v15 (.b true) v19) fun v20 =>
    br v20 (
     bnd (bld [.i .i64 0, .i .i64 0, .i .u64 0, .i .u64 0, .i .i64 0, .i .u64 0, .i .i64 0, .i .i64 0, .blob 32 (List.replicate 32 (.i .u8 0))] []) fun v21 =>
     bndO (st ob 40 v1 v21) ob fun _ ob =>
     bnd (lN ob 40 v1) fun v22 =>
     fin ob os.length [0, 0] [v22, (.i .i64 3)]
    ) (
     bnd (xS ob 1 a0 (.i .i64 2)) fun v23 =>
     bnd (l1 ob v23) fun v24 =>
     bnd (cv .i64 v24) fun v25 =>
     bnd (bld [.i .i64 0, .i .i64 0, .i .u64 0, .i .u64 0, .i .i64 0, .i .u64 0, .i .i64 0, .i .i64 0, .blob 32 (List.replicate 32 (.i .u8 0))] [(0, 1, v25)]) fun v26 =>
     bndO (ca0 Φ ob 432 false 30 [v26]) ob fun v27 ob =>
     bnd (ext 0 v27) fun v28 =>
     bnd (ext 1 v27) fun v29 =>
     bnd (head [.row 7 127 1] [0, 2, 5, 6, 7, 8] [80, 432] [(0, a0), (2, v1), (5, v28), (6, v29), (7, (.e true)), (8, (.i .i64 0))] ob) fun x => loopC (m15b0 Φ N os) N x.1 x.2
    )
   )
  )

def ann15 : Nat → Option Hd
  | 11 => some ⟨[.row 7 127 1], [0, 2, 5, 6, 7, 8], [80, 432], []⟩ | _ => none
def lab15 : Nat → Option Hd := fun _ => none
/- pelican/pelicanref04.Split -/
noncomputable def m16b0 (Φ : Sem') (N : Nat) (os : List Obj') (g : SL → OB → Option R) (sl : SL) (ob : OB) : Option R :=
  bndO (ca0 Φ ob 144 false 29 [(gS sl 5)]) ob fun v2 ob =>
  bnd (bi .lss v2 (.i .i64 0)) fun v3 =>
  br v3 (
   fin ob os.length [1, 1] [(gS sl 4), (gS sl 5)]
  ) (
   bndO (slc ob (.slice 1) (gS sl 5) none (some v2) none) ob fun v4 ob =>
   bndO (bldP ob 216 1 [v4]) ob fun v5 ob =>
   bndO (ap ob 224 1 (gS sl 4) v5) ob fun v6 ob =>
   bndO (slc ob (.slice 1) (gS sl 5) (some v2) none none) ob fun v7 ob =>
   bnd (head [.row 4 103 1] [4, 5] [128] [(4, v6), (5, v7)] ob) fun x => g x.1 x.2
  )
noncomputable def m16 : Body := fun Φ N as os =>
  let a0 := gS (zipN 0 as) 0
  let ob := zipN 0 os
  bndO (ap ob 128 1 (.e true) a0) ob fun v1 ob =>
  bnd (head [.row 4 103 1] [4, 5] [128] [(4, (.e true)), (5, v1)] ob) fun x => loopC (m16b0 Φ N os) N x.1 x.2

def ann16 : Nat → Option Hd
  | 3 => some ⟨[.row 4 103 1], [4, 5], [128], []⟩ | _ => none
def lab16 : Nat → Option Hd := fun _ => none
/- pelican/frame.Body -/
noncomputable def m17 : Body := fun Φ N as os =>
  let a0 := gS (zipN 0 as) 0
  let ob := zipN 0 os
  bndO (bx ob 72 a0) ob fun v1 ob =>
  bnd (lN ob 40 v1) fun v2 =>
  bndO (ca0 Φ ob 112 false 19 [v2]) ob fun v3 ob =>
  bnd (uO .not v3) fun v4 =>
  br v4 (
   fin ob os.length [1] [(.e true)]
  ) (
   bnd (lN ob 40 v1) fun v5 =>
   bndO (ca0 Φ ob 144 false 20 [v5]) ob fun v6 ob =>
   bnd (ext 0 v6) fun v7 =>
   bnd (ext 1 v6) fun v8 =>
   bnd (uO .not v8) fun v9 =>
   br v9 (
    fin ob os.length [1] [(.e true)]
   ) (
    fin ob os.length [1] [v7]
   )
  )

def ann17 : Nat → Option Hd := fun _ => none
def lab17 : Nat → Option Hd := fun _ => none
/- pelican/pelicanref04.Body -/
noncomputable def m18 : Body := fun Φ N as os =>
  let a0 := gS (zipN 0 as) 0
  let ob := zipN 0 os
  bndO (bx ob 72 a0) ob fun v1 ob =>
  bnd (lN ob 40 v1) fun v2 =>
  bndO (ca0 Φ ob 120 false 27 [v2]) ob fun v3 ob =>
  bnd (uO .not v3) fun v4 =>
  br v4 (
   fin ob os.length [1] [(.e true)]
  ) (
   bnd (lN ob 40 v1) fun v5 =>
   bndO (ca0 Φ ob 160 false 28 [v5]) ob fun v6 ob =>
   bnd (ext 0 v6) fun v7 =>
   bnd (ext 1 v6) fun v8 =>
   bnd (uO .not v8) fun v9 =>
   br v9 (
    fin ob os.length [1] [(.e true)]
   ) (
    fin ob os.length [1] [v7]
   )
  )

def ann18 : Nat → Option Hd := fun _ => none
def lab18 : Nat → Option Hd := fun _ => none
/- pelican/frame.plain -/
noncomputable def m19 : Body := fun Φ N as os =>
  let a0 := gS (zipN 0 as) 0
  let ob := zipN 0 os
  bndO (bx ob 72 a0) ob fun v1 ob =>
  bnd (fA 0 v1) fun v2 =>
  bnd (l1 ob v2) fun v3 =>
  bndO (ca0 Φ ob 112 false 34 [v3]) ob fun v4 ob =>
  bnd (gd v4 true (some (.fn 33 [] []))) fun v5 =>
  bnd (gd v4 true (fA 1 v1)) fun v6 =>
  bnd (gd v4 true (l1 ob v6)) fun v7 =>
  bndO (gdO v4 true (cav Φ ob 152 false v5 [v7, (.i .i64 255)])) ob fun v8 ob =>
  bnd (pk v4 v8 (.b false)) fun v9 =>
  bnd (gd v9 true (some (.fn 33 [] []))) fun v10 =>
  bnd (gd v9 true (fA 4 v1)) fun v11 =>
  bnd (gd v9 true (l1 ob v11)) fun v12 =>
  bndO (gdO v9 true (cav Φ ob 200 false v10 [v12, (.i .i64 1073741824)])) ob fun v13 ob =>
  bnd (pk v9 v13 (.b false)) fun v14 =>
  bnd (gd v14 true (some (.fn 33 [] []))) fun v15 =>
  bnd (gd v14 true (fA 6 v1)) fun v16 =>
  bnd (gd v14 true (l1 ob v16)) fun v17 =>
  bndO (gdO v14 true (cav Φ ob 248 false v15 [v17, (.i .i64 255)])) ob fun v18 ob =>
  bnd (pk v14 v18 (.b false)) fun v19 =>
  bnd (gd v19 true (some (.fn 33 [] []))) fun v20 =>
  bnd (gd v19 true (fA 7 v1)) fun v21 =>
  bnd (gd v19 true (l1 ob v21)) fun v22 =>
  bndO (gdO v19 true (cav Φ ob 296 false v20 [v22, (.i .i64 65535)])) ob fun v23 ob =>
  bnd (pk v19 v23 (.b false)) fun v24 =>
  bnd (gd v24 true (lN ob 40 v1)) fun v25 =>
  bndO (gdO v24 true (ca0 Φ ob 328 false 35 [v25])) ob fun v26 ob =>
  bnd (gd v24 true (lN ob 40 v1)) fun v27 =>
  bnd (gd v24 true (eSt false [.i, .i, .i, .i, .i, .i, .i, .i, .a 32] v26 v27)) fun v28 =>
  bnd (pk v24 v28 (.b false)) fun v29 =>
  fin ob os.length [0] [v29]

def ann19 : Nat → Option Hd := fun _ => none
def lab19 : Nat → Option Hd := fun _ => none
/- pelican/frame.text -/
noncomputable def m20b0 (Φ : Sem') (N : Nat) (os : List Obj') (g : SL → OB → Option R) (sl : SL) (ob : OB) : Option R :=
  bnd (bi .lss (gS sl 25) (gS sl 24)) fun v12 =>
  br v12 (
   bnd (xS ob 3 (gS sl 23) (gS sl 25)) fun v13 =>
   bnd (lN ob 3 v13) fun v14 =>
   bndO (al ob 136 [.np, .np, .i .i64 0]) ob fun v15 ob =>
   bndO (st ob 3 v15 v14) ob fun _ ob =>
   bnd (fA 2 v15) fun v16 =>
   bnd (l1 ob v16) fun v17 =>
   bnd (bld [.i .u64 0, .i .i64 0] [(1, 1, v17)]) fun v18 =>
   bndO (al ob 144 [.i .u64 0, .i .i64 0]) ob fun v19 ob =>
   bndO (st ob 2 v19 v18) ob fun _ ob =>
   bnd (fA 0 v15) fun v20 =>
   bnd (l1 ob v20) fun v21 =>
   bnd (eNp true v21) fun v22 =>
   br v22 (
    bnd (fA 0 v15) fun v23 =>
    bnd (l1 ob v23) fun v24 =>
    bnd (nc v24) fun v25 =>
    bnd (l1 ob v25) fun v26 =>
    bnd (cv .u64 v26) fun v27 =>
    bnd (fA 0 v19) fun v28 =>
    bndO (st ob 1 v28 v27) ob fun _ ob =>
    bnd (lN ob 2 v19) fun v29 =>
    bndO (bldS ob 448 2 [v29]) ob fun v30 ob =>
    bndO (ap ob 456 2 (gS sl 7) v30) ob fun v31 ob =>
    bnd (fA 2 v15) fun v32 =>
    bnd (l1 ob v32) fun v33 =>
    bnd (bi .add (gS sl 6) v33) fun v34 =>
    bnd (bi .add (gS sl 25) (.i .i64 1)) fun v35 =>
    bnd (head [] [5, 6, 7, 23, 24, 25] [72, 176, 240] [(5, (gS sl 5)), (6, v34), (7, v31), (23, (gS sl 23)), (24, (gS sl 24)), (25, v35)] ob) fun x => g x.1 x.2
   ) (
    bnd (fA 1 v15) fun v36 =>
    bnd (l1 ob v36) fun v37 =>
    bnd (nc v37) fun v38 =>
    bnd (l1 ob v38) fun v39 =>
    bnd (fA 0 v19) fun v40 =>
    bndO (st ob 1 v40 v39) ob fun _ ob =>
    bnd (lN ob 2 v19) fun v41 =>
    bndO (bldS ob 448 2 [v41]) ob fun v42 ob =>
    bndO (ap ob 456 2 (gS sl 7) v42) ob fun v43 ob =>
    bnd (fA 2 v15) fun v44 =>
    bnd (l1 ob v44) fun v45 =>
    bnd (bi .add (gS sl 6) v45) fun v46 =>
    bnd (bi .add (gS sl 25) (.i .i64 1)) fun v47 =>
    bnd (head [] [5, 6, 7, 23, 24, 25] [72, 176, 240] [(5, (gS sl 5)), (6, v46), (7, v43), (23, (gS sl 23)), (24, (gS sl 24)), (25, v47)] ob) fun x => g x.1 x.2
   )
  ) (
   br (gS sl 5) (
    bnd (bi .add (gS sl 6) (.i .i64 32)) fun v48 =>
    bnd (cv .u64 v48) fun v49 =>
    bnd (bld [.i .u64 0, .i .i64 0] [(0, 1, v49), (1, 1, (.i .i64 2))]) fun v50 =>
    bnd (xS ob 2 (gS sl 7) (.i .i64 0)) fun v51 =>
    bndO (st ob 2 v51 v50) ob fun _ ob =>
    bndO (ca0 Φ ob 584 false 36 [(gS sl 7)]) ob fun v52 ob =>
    bnd (ext 0 v52) fun v53 =>
    bnd (ext 1 v52) fun v54 =>
    fin ob os.length [1, 0] [v53, (gS sl 5)]
   ) (
    bnd (cv .u64 (gS sl 6)) fun v55 =>
    bnd (bld [.i .u64 0, .i .i64 0] [(0, 1, v55), (1, 1, (.i .i64 2))]) fun v56 =>
    bnd (xS ob 2 (gS sl 7) (.i .i64 0)) fun v57 =>
    bndO (st ob 2 v57 v56) ob fun _ ob =>
    bndO (ca0 Φ ob 584 false 36 [(gS sl 7)]) ob fun v58 ob =>
    bnd (ext 0 v58) fun v59 =>
    bnd (ext 1 v58) fun v60 =>
    fin ob os.length [1, 0] [v59, (gS sl 5)]
   )
  )
noncomputable def m20 : Body := fun Φ N as os =>
  let a0 := gS (zipN 0 as) 0
  let ob := zipN 0 os
  bndO (bx ob 72 a0) ob fun v1 ob =>
  bndO (ca Φ ob 176 false 22 [v1]) ob fun v2 ob =>
  bnd (ext 0 v2) fun v3 =>
  bnd (ext 1 v2) fun v4 =>
  bnd (bld [.i .u64 0, .i .i64 0] []) fun v5 =>
  bnd (fA 0 v1) fun v6 =>
  bnd (l1 ob v6) fun v7 =>
  bnd (cv .u64 v7) fun v8 =>
  bnd (bld [.i .u64 0, .i .i64 0] [(0, 1, v8), (1, 1, (.i .i64 1))]) fun v9 =>
  bndO (bldS ob 240 2 [v5, v9]) ob fun v10 ob =>
  bnd (len v3) fun v11 =>
  bnd (head [] [5, 6, 7, 23, 24, 25] [72, 176, 240] [(5, v4), (6, (.i .i64 1)), (7, v10), (23, v3), (24, v11), (25, (.i .i64 0))] ob) fun x => loopC (m20b0 Φ N os) N x.1 x.2

def ann20 : Nat → Option Hd
  | 5 => some ⟨[], [5, 6, 7, 23, 24, 25], [72, 176, 240], []⟩ | _ => none
def lab20 : Nat → Option Hd := fun _ => none
/- pelican/frame.long -/
noncomputable def m21 : Body := fun Φ N as os =>
  let a0 := gS (zipN 0 as) 0
  let ob := zipN 0 os
  bndO (ca0 Φ ob 120 false 23 [a0, (.i .i64 0), (.i .i64 2)]) ob fun v1 ob =>
  bnd (ext 0 v1) fun v2 =>
  bnd (ext 1 v1) fun v3 =>
  bnd (bi .eql v3 (.i .i64 (-1))) fun v4 =>
  bnd (gd v4 false (some v2)) fun v5 =>
  bnd (gd v4 false (cv .i64 v5)) fun v6 =>
  bnd (gd v4 false (some a0)) fun v7 =>
  bnd (gd v4 false (len v7)) fun v8 =>
  bnd (gd v4 false (bi .sub v8 (.i .i64 2))) fun v9 =>
  bnd (gd v4 false (bi .gtr v6 v9)) fun v10 =>
  bnd (pk v4 (.b true) v10) fun v11 =>
  br v11 (
   fin ob os.length [0] [(.i .i64 (-1))]
  ) (
   bnd (cv .i64 v2) fun v12 =>
   bnd (bi .add (.i .i64 2) v12) fun v13 =>
   fin ob os.length [0] [v13]
  )

def ann21 : Nat → Option Hd := fun _ => none
def lab21 : Nat → Option Hd := fun _ => none
/- pelican/frame.slots -/
noncomputable def m22 : Body := fun Φ N as os =>
  let a0 := gS (zipN 0 as) 0
  let ob := zipN 0 os
  bnd (nc a0) fun v1 =>
  bnd (fA 0 v1) fun v2 =>
  bnd (l1 ob v2) fun v3 =>
  bnd (bi .eql v3 (.i .i64 0)) fun v4 =>
  br v4 (
   bnd (nc a0) fun v5 =>
   bnd (fA 1 v5) fun v6 =>
   bnd (bld [.np, .np, .i .i64 0] [(0, 1, v6), (2, 1, (.i .i64 1))]) fun v7 =>
   bnd (nc a0) fun v8 =>
   bnd (fA 3 v8) fun v9 =>
   bnd (bld [.np, .np, .i .i64 0] [(1, 1, v9), (2, 1, (.i .i64 8))]) fun v10 =>
   bndO (bldS ob 296 3 [v7, v10]) ob fun v11 ob =>
   finG ob os.length [v11, (.b false)]
  ) (
   bnd (bi .eql v3 (.i .i64 1)) fun v12 =>
   br v12 (
    bnd (nc a0) fun v13 =>
    bnd (fA 2 v13) fun v14 =>
    bnd (bld [.np, .np, .i .i64 0] [(1, 1, v14), (2, 1, (.i .i64 8))]) fun v15 =>
    bnd (nc a0) fun v16 =>
    bnd (fA 4 v16) fun v17 =>
    bnd (bld [.np, .np, .i .i64 0] [(0, 1, v17), (2, 1, (.i .i64 4))]) fun v18 =>
    bndO (bldS ob 368 3 [v15, v18]) ob fun v19 ob =>
    finG ob os.length [v19, (.b false)]
   ) (
    bnd (bi .eql v3 (.i .i64 6)) fun v20 =>
    br v20 (
     bnd (nc a0) fun v21 =>
     bnd (fA 6 v21) fun v22 =>
     bnd (bld [.np, .np, .i .i64 0] [(0, 1, v22), (2, 1, (.i .i64 1))]) fun v23 =>
     bndO (bldS ob 408 3 [v23]) ob fun v24 ob =>
     finG ob os.length [v24, (.b false)]
    ) (
     bnd (bi .eql v3 (.i .i64 4)) fun v25 =>
     br v25 (
      br v25 (
       bnd (nc a0) fun v26 =>
       bnd (fA 5 v26) fun v27 =>
       bnd (bld [.np, .np, .i .i64 0] [(1, 1, v27), (2, 1, (.i .i64 8))]) fun v28 =>
       bnd (nc a0) fun v29 =>
       bnd (fA 6 v29) fun v30 =>
       bnd (bld [.np, .np, .i .i64 0] [(0, 1, v30), (2, 1, (.i .i64 1))]) fun v31 =>
       bnd (nc a0) fun v32 =>
       bnd (fA 7 v32) fun v33 =>
       bnd (bld [.np, .np, .i .i64 0] [(0, 1, v33), (2, 1, (.i .i64 2))]) fun v34 =>
       bndO (bldS ob 512 3 [v28, v31, v34]) ob fun v35 ob =>
       bnd (nc a0) fun v36 =>
       bnd (fA 2 v36) fun v37 =>
       bnd (bld [.np, .np, .i .i64 0] [(1, 1, v37), (2, 1, (.i .i64 8))]) fun v38 =>
       bndO (bldS ob 560 3 [v38]) ob fun v39 ob =>
       bndO (ca Φ ob 568 true 37 [v35, (.i .i64 0), v39]) ob fun v40 ob =>
       bnd (eNs true ob v40) fun v41 =>
       finG ob os.length [v40, v41]
      ) (
       bnd (bi .eql v3 (.i .i64 2)) fun v42 =>
       br v42 (
        br v42 (
         bnd (nc a0) fun v43 =>
         bnd (fA 2 v43) fun v44 =>
         bnd (bld [.np, .np, .i .i64 0] [(1, 1, v44), (2, 1, (.i .i64 8))]) fun v45 =>
         bndO (bldS ob 560 3 [v45]) ob fun v46 ob =>
         bndO (ca Φ ob 568 true 37 [(.e true), (.i .i64 0), v46]) ob fun v47 ob =>
         bnd (eNs true ob v47) fun v48 =>
         finG ob os.length [v47, v48]
        ) (
         bnd (eNs true ob (.e true)) fun v49 =>
         finG ob os.length [(.e true), v49]
        )
       ) (
        bnd (bi .eql v3 (.i .i64 3)) fun v50 =>
        br v50 (
         bnd (nc a0) fun v51 =>
         bnd (fA 2 v51) fun v52 =>
         bnd (bld [.np, .np, .i .i64 0] [(1, 1, v52), (2, 1, (.i .i64 8))]) fun v53 =>
         bndO (bldS ob 560 3 [v53]) ob fun v54 ob =>
         bndO (ca Φ ob 568 true 37 [(.e true), (.i .i64 0), v54]) ob fun v55 ob =>
         bnd (eNs true ob v55) fun v56 =>
         finG ob os.length [v55, v56]
        ) (
         bnd (eNs true ob (.e true)) fun v57 =>
         finG ob os.length [(.e true), v57]
        )
       )
      )
     ) (
      bnd (bi .eql v3 (.i .i64 5)) fun v58 =>
      br v58 (
       bnd (nc a0) fun v59 =>
       bnd (fA 5 v59) fun v60 =>
       bnd (bld [.np, .np, .i .i64 0] [(1, 1, v60), (2, 1, (.i .i64 8))]) fun v61 =>
       bnd (nc a0) fun v62 =>
       bnd (fA 6 v62) fun v63 =>
       bnd (bld [.np, .np, .i .i64 0] [(0, 1, v63), (2, 1, (.i .i64 1))]) fun v64 =>
       bnd (nc a0) fun v65 =>
       bnd (fA 7 v65) fun v66 =>
       bnd (bld [.np, .np, .i .i64 0] [(0, 1, v66), (2, 1, (.i .i64 2))]) fun v67 =>
       bndO (bldS ob 512 3 [v61, v64, v67]) ob fun v68 ob =>
       bnd (nc a0) fun v69 =>
       bnd (fA 2 v69) fun v70 =>
       bnd (bld [.np, .np, .i .i64 0] [(1, 1, v70), (2, 1, (.i .i64 8))]) fun v71 =>
       bndO (bldS ob 560 3 [v71]) ob fun v72 ob =>
       bndO (ca Φ ob 568 true 37 [v68, (.i .i64 0), v72]) ob fun v73 ob =>
       bnd (eNs true ob v73) fun v74 =>
       finG ob os.length [v73, v74]
      ) (
       bnd (bi .eql v3 (.i .i64 2)) fun v75 =>
       br v75 (
        br v75 (
         bnd (nc a0) fun v76 =>
         bnd (fA 2 v76) fun v77 =>
         bnd (bld [.np, .np, .i .i64 0] [(1, 1, v77), (2, 1, (.i .i64 8))]) fun v78 =>
         bndO (bldS ob 560 3 [v78]) ob fun v79 ob =>
         bndO (ca Φ ob 568 true 37 [(.e true), (.i .i64 0), v79]) ob fun v80 ob =>
         bnd (eNs true ob v80) fun v81 =>
         finG ob os.length [v80, v81]
        ) (
         bnd (eNs true ob (.e true)) fun v82 =>
         finG ob os.length [(.e true), v82]
        )
       ) (
        bnd (bi .eql v3 (.i .i64 3)) fun v83 =>
        br v83 (
         bnd (nc a0) fun v84 =>
         bnd (fA 2 v84) fun v85 =>
         bnd (bld [.np, .np, .i .i64 0] [(1, 1, v85), (2, 1, (.i .i64 8))]) fun v86 =>
         bndO (bldS ob 560 3 [v86]) ob fun v87 ob =>
         bndO (ca Φ ob 568 true 37 [(.e true), (.i .i64 0), v87]) ob fun v88 ob =>
         bnd (eNs true ob v88) fun v89 =>
         finG ob os.length [v88, v89]
        ) (
         bnd (eNs true ob (.e true)) fun v90 =>
         finG ob os.length [(.e true), v90]
        )
       )
      )
     )
    )
   )
  )

def ann22 : Nat → Option Hd := fun _ => none
def lab22 : Nat → Option Hd := fun _ => none
/- pelican/num.Get -/
noncomputable def m23b0 (Φ : Sem') (N : Nat) (os : List Obj') (g : SL → OB → Option R) (sl : SL) (ob : OB) : Option R :=
  bnd (bi .lss (gS sl 42) (gS sl 41)) fun v22 =>
  br v22 (
   bnd (xS ob 1 (gS sl 40) (gS sl 42)) fun v23 =>
   bnd (l1 ob v23) fun v24 =>
   bnd (bi .shl (gS sl 8) (.i .u64 8)) fun v25 =>
   bnd (cv .u64 v24) fun v26 =>
   bnd (bi .or v25 v26) fun v27 =>
   bnd (bi .add (gS sl 42) (.i .i64 1)) fun v28 =>
   bnd (head [] [1, 2, 8, 40, 41, 42] [] [(1, (gS sl 1)), (2, (gS sl 2)), (8, v27), (40, (gS sl 40)), (41, (gS sl 41)), (42, v28)] ob) fun x => g x.1 x.2
  ) (
   bnd (bi .add (gS sl 1) (gS sl 2)) fun v29 =>
   fin ob os.length [0, 0] [(gS sl 8), v29]
  )
noncomputable def m23 : Body := fun Φ N as os =>
  let a0 := gS (zipN 0 as) 0
  let a1 := gS (zipN 0 as) 1
  let a2 := gS (zipN 0 as) 2
  let ob := zipN 0 os
  bndO (ca0 Φ ob 160 false 38 [a2]) ob fun v1 ob =>
  bnd (uO .not v1) fun v2 =>
  bnd (gd v2 false (some a1)) fun v3 =>
  bnd (gd v2 false (bi .lss v3 (.i .i64 0))) fun v4 =>
  bnd (pk v2 (.b true) v4) fun v5 =>
  bnd (gd v5 false (some a1)) fun v6 =>
  bnd (gd v5 false (some a0)) fun v7 =>
  bnd (gd v5 false (len v7)) fun v8 =>
  bnd (gd v5 false (bi .gtr v6 v8)) fun v9 =>
  bnd (pk v5 (.b true) v9) fun v10 =>
  bnd (gd v10 false (some a0)) fun v11 =>
  bnd (gd v10 false (len v11)) fun v12 =>
  bnd (gd v10 false (some a1)) fun v13 =>
  bnd (gd v10 false (bi .sub v12 v13)) fun v14 =>
  bnd (gd v10 false (some a2)) fun v15 =>
  bnd (gd v10 false (bi .lss v14 v15)) fun v16 =>
  bnd (pk v10 (.b true) v16) fun v17 =>
  br v17 (
   fin ob os.length [0, 0] [(.i .u64 0), (.i .i64 (-1))]
  ) (
   bnd (bi .add a1 a2) fun v18 =>
   bnd (bi .add a1 a2) fun v19 =>
   bndO (slc ob (.slice 1) a0 (some a1) (some v18) (some v19)) ob fun v20 ob =>
   bnd (len v20) fun v21 =>
   bnd (head [] [1, 2, 8, 40, 41, 42] [] [(1, a1), (2, a2), (8, (.i .u64 0)), (40, v20), (41, v21), (42, (.i .i64 0))] ob) fun x => loopC (m23b0 Φ N os) N x.1 x.2
  )

def ann23 : Nat → Option Hd
  | 5 => some ⟨[], [1, 2, 8, 40, 41, 42], [], []⟩ | _ => none
def lab23 : Nat → Option Hd := fun _ => none
/- slices.Equal[[]byte,byte] -/
noncomputable def m24b0 (Φ : Sem') (N : Nat) (os : List Obj') (g : SL → OB → Option R) (sl : SL) (ob : OB) : Option R :=
  bnd (bi .lss (gS sl 13) (gS sl 12)) fun v5 =>
  br v5 (
   bnd (xS ob 1 (gS sl 0) (gS sl 13)) fun v6 =>
   bnd (l1 ob v6) fun v7 =>
   bnd (xS ob 1 (gS sl 1) (gS sl 13)) fun v8 =>
   bnd (l1 ob v8) fun v9 =>
   bnd (bi .neq v7 v9) fun v10 =>
   br v10 (
    fin ob os.length [0] [(.b false)]
   ) (
    bnd (bi .add (gS sl 13) (.i .i64 1)) fun v11 =>
    bnd (head [] [0, 1, 12, 13] [] [(0, (gS sl 0)), (1, (gS sl 1)), (12, (gS sl 12)), (13, v11)] ob) fun x => g x.1 x.2
   )
  ) (
   fin ob os.length [0] [(.b true)]
  )
noncomputable def m24 : Body := fun Φ N as os =>
  let a0 := gS (zipN 0 as) 0
  let a1 := gS (zipN 0 as) 1
  let ob := zipN 0 os
  bnd (len a0) fun v1 =>
  bnd (len a1) fun v2 =>
  bnd (bi .neq v1 v2) fun v3 =>
  br v3 (
   fin ob os.length [0] [(.b false)]
  ) (
   bnd (len a0) fun v4 =>
   bnd (head [] [0, 1, 12, 13] [] [(0, a0), (1, a1), (12, v4), (13, (.i .i64 0))] ob) fun x => loopC (m24b0 Φ N os) N x.1 x.2
  )

def ann24 : Nat → Option Hd
  | 4 => some ⟨[], [0, 1, 12, 13], [], []⟩ | _ => none
def lab24 : Nat → Option Hd := fun _ => none
/- pelican/frame.frames -/
noncomputable def m25 : Body := fun Φ N as os =>
  let a0 := gS (zipN 0 as) 0
  let ob := zipN 0 os
  bndO (bx ob 72 a0) ob fun v1 ob =>
  finG ob os.length [(.fn 39 [] [v1])]

def ann25 : Nat → Option Hd := fun _ => none
def lab25 : Nat → Option Hd := fun _ => none
/- slices.Clone[[]byte,byte] -/
noncomputable def m26 : Body := fun Φ N as os =>
  let a0 := gS (zipN 0 as) 0
  let ob := zipN 0 os
  bnd (eNs false ob a0) fun v1 =>
  br v1 (
   fin ob os.length [1] [(.e true)]
  ) (
   bndO (bldS ob 104 1 []) ob fun v2 ob =>
   bndO (ap ob 120 1 v2 a0) ob fun v3 ob =>
   fin ob os.length [1] [v3]
  )

def ann26 : Nat → Option Hd := fun _ => none
def lab26 : Nat → Option Hd := fun _ => none
/- pelican/pelicanref04.Plain -/
noncomputable def m27b0 (Φ : Sem') (N : Nat) (os : List Obj') (g : SL → OB → Option R) (sl : SL) (ob : OB) : Option R :=
  bnd (len (gS sl 3)) fun v45 =>
  bnd (bi .lss (gS sl 6) v45) fun v46 =>
  br v46 (
   bnd (xS ob 2 (gS sl 3) (gS sl 6)) fun v47 =>
   bnd (fA 0 v47) fun v48 =>
   bnd (l1 ob v48) fun v49 =>
   bndO (bldS ob 648 1 [v49]) ob fun v50 ob =>
   bndO (ap ob 656 1 (gS sl 5) v50) ob fun v51 ob =>
   bnd (bi .add (gS sl 6) (.i .i64 1)) fun v52 =>
   bnd (head [.row 5 111 1] [1, 3, 4, 5, 6] [72, 528] [(1, (gS sl 1)), (3, (gS sl 3)), (4, (gS sl 4)), (5, v51), (6, v52)] ob) fun x => g x.1 x.2
  ) (
   bnd (fA 0 (gS sl 1)) fun v53 =>
   bnd (l1 ob v53) fun v54 =>
   bndO (ca0 Φ ob 688 false 32 [v54, (gS sl 5)]) ob fun v55 ob =>
   bndO (al ob 120 [.i .i64 0, .i .i64 0, .i .u64 0, .i .u64 0, .i .i64 0, .i .u64 0, .i .i64 0, .i .i64 0, .blob 32 (List.replicate 32 (.i .u8 0))]) ob fun v56 ob =>
   bndO (st ob 40 v56 v55) ob fun _ ob =>
   br (gS sl 4) (
    bnd (fA 8 (gS sl 1)) fun v57 =>
    bnd (lN ob 32 v57) fun v58 =>
    bnd (fA 8 v56) fun v59 =>
    bndO (st ob 32 v59 v58) ob fun _ ob =>
    bnd (lN ob 40 v56) fun v60 =>
    bnd (lN ob 40 (gS sl 1)) fun v61 =>
    bnd (eSt false [.i, .i, .i, .i, .i, .i, .i, .i, .a 32] v60 v61) fun v62 =>
    fin ob os.length [0] [v62]
   ) (
    bnd (lN ob 40 v56) fun v63 =>
    bnd (lN ob 40 (gS sl 1)) fun v64 =>
    bnd (eSt false [.i, .i, .i, .i, .i, .i, .i, .i, .a 32] v63 v64) fun v65 =>
    fin ob os.length [0] [v65]
   )
  )
noncomputable def m27 : Body := fun Φ N as os =>
  let a0 := gS (zipN 0 as) 0
  let ob := zipN 0 os
  bndO (bx ob 72 a0) ob fun v1 ob =>
  bnd (fA 0 v1) fun v2 =>
  bnd (l1 ob v2) fun v3 =>
  bnd (bi .lss v3 (.i .i64 0)) fun v4 =>
  bnd (gd v4 false (fA 0 v1)) fun v5 =>
  bnd (gd v4 false (l1 ob v5)) fun v6 =>
  bnd (gd v4 false (bi .geq v6 (.i .i64 7))) fun v7 =>
  bnd (pk v4 (.b true) v7) fun v8 =>
  bnd (gd v8 false (fA 1 v1)) fun v9 =>
  bnd (gd v8 false (l1 ob v9)) fun v10 =>
  bnd (gd v8 false (bi .lss v10 (.i .i64 0))) fun v11 =>
  bnd (pk v8 (.b true) v11) fun v12 =>
  bnd (gd v12 false (fA 1 v1)) fun v13 =>
  bnd (gd v12 false (l1 ob v13)) fun v14 =>
  bnd (gd v12 false (bi .gtr v14 (.i .i64 255))) fun v15 =>
  bnd (pk v12 (.b true) v15) fun v16 =>
  bnd (gd v16 false (fA 4 v1)) fun v17 =>
  bnd (gd v16 false (l1 ob v17)) fun v18 =>
  bnd (gd v16 false (bi .lss v18 (.i .i64 0))) fun v19 =>
  bnd (pk v16 (.b true) v19) fun v20 =>
  bnd (gd v20 false (fA 4 v1)) fun v21 =>
  bnd (gd v20 false (l1 ob v21)) fun v22 =>
  bnd (gd v20 false (bi .gtr v22 (.i .i64 1073741824))) fun v23 =>
  bnd (pk v20 (.b true) v23) fun v24 =>
  bnd (gd v24 false (fA 6 v1)) fun v25 =>
  bnd (gd v24 false (l1 ob v25)) fun v26 =>
  bnd (gd v24 false (bi .lss v26 (.i .i64 0))) fun v27 =>
  bnd (pk v24 (.b true) v27) fun v28 =>
  bnd (gd v28 false (fA 6 v1)) fun v29 =>
  bnd (gd v28 false (l1 ob v29)) fun v30 =>
  bnd (gd v28 false (bi .gtr v30 (.i .i64 255))) fun v31 =>
  bnd (pk v28 (.b true) v31) fun v32 =>
  bnd (gd v32 false (fA 7 v1)) fun v33 =>
  bnd (gd v32 false (l1 ob v33)) fun v34 =>
  bnd (gd v32 false (bi .lss v34 (.i .i64 0))) fun v35 =>
  bnd (pk v32 (.b true) v35) fun v36 =>
  bnd (gd v36 false (fA 7 v1)) fun v37 =>
  bnd (gd v36 false (l1 ob v37)) fun v38 =>
  bnd (gd v36 false (bi .gtr v38 (.i .i64 65535))) fun v39 =>
  bnd (pk v36 (.b true) v39) fun v40 =>
  br v40 (
   fin ob os.length [0] [(.b false)]
  ) (
   bnd (lN ob 40 v1) fun v41 =>
   bndO (ca0 Φ ob 528 false 30 [v41]) ob fun v42 ob =>
   bnd (ext 0 v42) fun v43 =>
   bnd (ext 1 v42) fun v44 =>
   bnd (head [.row 5 111 1] [1, 3, 4, 5, 6] [72, 528] [(1, v1), (3, v43), (4, v44), (5, (.e true)), (6, (.i .i64 0))] ob) fun x => loopC (m27b0 Φ N os) N x.1 x.2
  )

def ann27 : Nat → Option Hd
  | 6 => some ⟨[.row 5 111 1], [1, 3, 4, 5, 6], [72, 528], []⟩ | _ => none
def lab27 : Nat → Option Hd := fun _ => none
/- pelican/pelicanref04.front -/
noncomputable def m28 : Body := fun Φ N as os =>
  let a0 := gS (zipN 0 as) 0
  let ob := zipN 0 os
  bndO (bx ob 72 a0) ob fun v1 ob =>
  bnd (lN ob 40 v1) fun v2 =>
  bndO (ca0 Φ ob 152 false 30 [v2]) ob fun v3 ob =>
  bnd (ext 0 v3) fun v4 =>
  bnd (ext 1 v3) fun v5 =>
  bndO (ca0 Φ ob 192 false 40 [v4]) ob fun v6 ob =>
  bnd (ext 0 v6) fun v7 =>
  bnd (ext 1 v6) fun v8 =>
  bnd (len v7) fun v9 =>
  bnd (bi .add (.i .i64 1) v9) fun v10 =>
  br v5 (
   bnd (bi .add v10 (.i .i64 32)) fun v11 =>
   bnd (cv .u8 v11) fun v12 =>
   bnd (fA 0 v1) fun v13 =>
   bnd (l1 ob v13) fun v14 =>
   bnd (cv .u8 v14) fun v15 =>
   bndO (bldS ob 304 1 [(.i .u8 0), v12, v15]) ob fun v16 ob =>
   bndO (ap ob 320 1 v16 v7) ob fun v17 ob =>
   fin ob os.length [1, 0] [v17, v5]
  ) (
   bnd (cv .u8 v10) fun v18 =>
   bnd (fA 0 v1) fun v19 =>
   bnd (l1 ob v19) fun v20 =>
   bnd (cv .u8 v20) fun v21 =>
   bndO (bldS ob 304 1 [(.i .u8 0), v18, v21]) ob fun v22 ob =>
   bndO (ap ob 320 1 v22 v7) ob fun v23 ob =>
   fin ob os.length [1, 0] [v23, v5]
  )

def ann28 : Nat → Option Hd := fun _ => none
def lab28 : Nat → Option Hd := fun _ => none
/- pelican/pelicanref04.told -/
noncomputable def m29 : Body := fun Φ N as os =>
  let a0 := gS (zipN 0 as) 0
  let ob := zipN 0 os
  bnd (len a0) fun v1 =>
  bnd (bi .lss v1 (.i .i64 2)) fun v2 =>
  bnd (gd v2 false (some a0)) fun v3 =>
  bnd (gd v2 false (len v3)) fun v4 =>
  bnd (gd v2 false (bi .sub v4 (.i .i64 2))) fun v5 =>
  bnd (gd v2 false (some a0)) fun v6 =>
  bnd (gd v2 false (xS ob 1 v6 (.i .i64 0))) fun v7 =>
  bnd (gd v2 false (l1 ob v7)) fun v8 =>
  bnd (gd v2 false (cv .i64 v8)) fun v9 =>
  bnd (gd v2 false (bi .mul (.i .i64 256) v9)) fun v10 =>
  bnd (gd v2 false (some a0)) fun v11 =>
  bnd (gd v2 false (xS ob 1 v11 (.i .i64 1))) fun v12 =>
  bnd (gd v2 false (l1 ob v12)) fun v13 =>
  bnd (gd v2 false (cv .i64 v13)) fun v14 =>
  bnd (gd v2 false (bi .add v10 v14)) fun v15 =>
  bnd (gd v2 false (bi .lss v5 v15)) fun v16 =>
  bnd (pk v2 (.b true) v16) fun v17 =>
  br v17 (
   fin ob os.length [0] [(.i .i64 (-1))]
  ) (
   bnd (xS ob 1 a0 (.i .i64 0)) fun v18 =>
   bnd (l1 ob v18) fun v19 =>
   bnd (cv .i64 v19) fun v20 =>
   bnd (bi .mul (.i .i64 256) v20) fun v21 =>
   bnd (bi .add (.i .i64 2) v21) fun v22 =>
   bnd (xS ob 1 a0 (.i .i64 1)) fun v23 =>
   bnd (l1 ob v23) fun v24 =>
   bnd (cv .i64 v24) fun v25 =>
   bnd (bi .add v22 v25) fun v26 =>
   fin ob os.length [0] [v26]
  )

def ann29 : Nat → Option Hd := fun _ => none
def lab29 : Nat → Option Hd := fun _ => none
/- pelican/pelicanref04.fields -/
noncomputable def m30 : Body := fun Φ N as os =>
  let a0 := gS (zipN 0 as) 0
  let ob := zipN 0 os
  bndO (bx ob 72 a0) ob fun v1 ob =>
  bnd (fA 0 v1) fun v2 =>
  bnd (l1 ob v2) fun v3 =>
  bnd (bi .eql v3 (.i .i64 0)) fun v4 =>
  br v4 (
   bnd (fA 1 v1) fun v5 =>
   bnd (l1 ob v5) fun v6 =>
   bnd (cv .u64 v6) fun v7 =>
   bnd (bld [.i .u64 0, .i .i64 0] [(0, 1, v7), (1, 1, (.i .i64 1))]) fun v8 =>
   bnd (fA 3 v1) fun v9 =>
   bnd (l1 ob v9) fun v10 =>
   bnd (bld [.i .u64 0, .i .i64 0] [(0, 1, v10), (1, 1, (.i .i64 8))]) fun v11 =>
   bndO (bldS ob 184 2 [v8, v11]) ob fun v12 ob =>
   fin ob os.length [2, 0] [v12, (.b false)]
  ) (
   bnd (bi .eql v3 (.i .i64 1)) fun v13 =>
   br v13 (
    bnd (fA 2 v1) fun v14 =>
    bnd (l1 ob v14) fun v15 =>
    bnd (bld [.i .u64 0, .i .i64 0] [(0, 1, v15), (1, 1, (.i .i64 8))]) fun v16 =>
    bnd (fA 4 v1) fun v17 =>
    bnd (l1 ob v17) fun v18 =>
    bnd (cv .u64 v18) fun v19 =>
    bnd (bld [.i .u64 0, .i .i64 0] [(0, 1, v19), (1, 1, (.i .i64 4))]) fun v20 =>
    bndO (bldS ob 264 2 [v16, v20]) ob fun v21 ob =>
    fin ob os.length [2, 0] [v21, (.b false)]
   ) (
    bnd (bi .eql v3 (.i .i64 2)) fun v22 =>
    br v22 (
     br v22 (
      bnd (fA 2 v1) fun v23 =>
      bnd (l1 ob v23) fun v24 =>
      bnd (bld [.i .u64 0, .i .i64 0] [(0, 1, v24), (1, 1, (.i .i64 8))]) fun v25 =>
      bndO (bldS ob 320 2 [v25]) ob fun v26 ob =>
      fin ob os.length [2, 0] [v26, (.b true)]
     ) (
      bnd (bi .eql v3 (.i .i64 4)) fun v27 =>
      br v27 (
       br v27 (
        bnd (fA 2 v1) fun v28 =>
        bnd (l1 ob v28) fun v29 =>
        bnd (bld [.i .u64 0, .i .i64 0] [(0, 1, v29), (1, 1, (.i .i64 8))]) fun v30 =>
        bnd (fA 5 v1) fun v31 =>
        bnd (l1 ob v31) fun v32 =>
        bnd (bld [.i .u64 0, .i .i64 0] [(0, 1, v32), (1, 1, (.i .i64 8))]) fun v33 =>
        bnd (fA 6 v1) fun v34 =>
        bnd (l1 ob v34) fun v35 =>
        bnd (cv .u64 v35) fun v36 =>
        bnd (bld [.i .u64 0, .i .i64 0] [(0, 1, v36), (1, 1, (.i .i64 1))]) fun v37 =>
        bnd (fA 7 v1) fun v38 =>
        bnd (l1 ob v38) fun v39 =>
        bnd (cv .u64 v39) fun v40 =>
        bnd (bld [.i .u64 0, .i .i64 0] [(0, 1, v40), (1, 1, (.i .i64 2))]) fun v41 =>
        bndO (bldS ob 464 2 [v30, v33, v37, v41]) ob fun v42 ob =>
        fin ob os.length [2, 0] [v42, (.b true)]
       ) (
        bnd (fA 6 v1) fun v43 =>
        bnd (l1 ob v43) fun v44 =>
        bnd (cv .u64 v44) fun v45 =>
        bnd (bld [.i .u64 0, .i .i64 0] [(0, 1, v45), (1, 1, (.i .i64 1))]) fun v46 =>
        bndO (bldS ob 504 2 [v46]) ob fun v47 ob =>
        fin ob os.length [2, 0] [v47, (.b false)]
       )
      ) (
       bnd (bi .eql v3 (.i .i64 5)) fun v48 =>
       br v48 (
        bnd (fA 2 v1) fun v49 =>
        bnd (l1 ob v49) fun v50 =>
        bnd (bld [.i .u64 0, .i .i64 0] [(0, 1, v50), (1, 1, (.i .i64 8))]) fun v51 =>
        bnd (fA 5 v1) fun v52 =>
        bnd (l1 ob v52) fun v53 =>
        bnd (bld [.i .u64 0, .i .i64 0] [(0, 1, v53), (1, 1, (.i .i64 8))]) fun v54 =>
        bnd (fA 6 v1) fun v55 =>
        bnd (l1 ob v55) fun v56 =>
        bnd (cv .u64 v56) fun v57 =>
        bnd (bld [.i .u64 0, .i .i64 0] [(0, 1, v57), (1, 1, (.i .i64 1))]) fun v58 =>
        bnd (fA 7 v1) fun v59 =>
        bnd (l1 ob v59) fun v60 =>
        bnd (cv .u64 v60) fun v61 =>
        bnd (bld [.i .u64 0, .i .i64 0] [(0, 1, v61), (1, 1, (.i .i64 2))]) fun v62 =>
        bndO (bldS ob 464 2 [v51, v54, v58, v62]) ob fun v63 ob =>
        fin ob os.length [2, 0] [v63, (.b true)]
       ) (
        bnd (fA 6 v1) fun v64 =>
        bnd (l1 ob v64) fun v65 =>
        bnd (cv .u64 v65) fun v66 =>
        bnd (bld [.i .u64 0, .i .i64 0] [(0, 1, v66), (1, 1, (.i .i64 1))]) fun v67 =>
        bndO (bldS ob 504 2 [v67]) ob fun v68 ob =>
        fin ob os.length [2, 0] [v68, (.b false)]
       )
      )
     )
    ) (
     bnd (bi .eql v3 (.i .i64 3)) fun v69 =>
     br v69 (
      bnd (fA 2 v1) fun v70 =>
      bnd (l1 ob v70) fun v71 =>
      bnd (bld [.i .u64 0, .i .i64 0] [(0, 1, v71), (1, 1, (.i .i64 8))]) fun v72 =>
      bndO (bldS ob 320 2 [v72]) ob fun v73 ob =>
      fin ob os.length [2, 0] [v73, (.b true)]
     ) (
      bnd (bi .eql v3 (.i .i64 4)) fun v74 =>
      br v74 (
       br v74 (
        bnd (fA 2 v1) fun v75 =>
        bnd (l1 ob v75) fun v76 =>
        bnd (bld [.i .u64 0, .i .i64 0] [(0, 1, v76), (1, 1, (.i .i64 8))]) fun v77 =>
        bnd (fA 5 v1) fun v78 =>
        bnd (l1 ob v78) fun v79 =>
        bnd (bld [.i .u64 0, .i .i64 0] [(0, 1, v79), (1, 1, (.i .i64 8))]) fun v80 =>
        bnd (fA 6 v1) fun v81 =>
        bnd (l1 ob v81) fun v82 =>
        bnd (cv .u64 v82) fun v83 =>
        bnd (bld [.i .u64 0, .i .i64 0] [(0, 1, v83), (1, 1, (.i .i64 1))]) fun v84 =>
        bnd (fA 7 v1) fun v85 =>
        bnd (l1 ob v85) fun v86 =>
        bnd (cv .u64 v86) fun v87 =>
        bnd (bld [.i .u64 0, .i .i64 0] [(0, 1, v87), (1, 1, (.i .i64 2))]) fun v88 =>
        bndO (bldS ob 464 2 [v77, v80, v84, v88]) ob fun v89 ob =>
        fin ob os.length [2, 0] [v89, (.b true)]
       ) (
        bnd (fA 6 v1) fun v90 =>
        bnd (l1 ob v90) fun v91 =>
        bnd (cv .u64 v91) fun v92 =>
        bnd (bld [.i .u64 0, .i .i64 0] [(0, 1, v92), (1, 1, (.i .i64 1))]) fun v93 =>
        bndO (bldS ob 504 2 [v93]) ob fun v94 ob =>
        fin ob os.length [2, 0] [v94, (.b false)]
       )
      ) (
       bnd (bi .eql v3 (.i .i64 5)) fun v95 =>
       br v95 (
        bnd (fA 2 v1) fun v96 =>
        bnd (l1 ob v96) fun v97 =>
        bnd (bld [.i .u64 0, .i .i64 0] [(0, 1, v97), (1, 1, (.i .i64 8))]) fun v98 =>
        bnd (fA 5 v1) fun v99 =>
        bnd (l1 ob v99) fun v100 =>
        bnd (bld [.i .u64 0, .i .i64 0] [(0, 1, v100), (1, 1, (.i .i64 8))]) fun v101 =>
        bnd (fA 6 v1) fun v102 =>
        bnd (l1 ob v102) fun v103 =>
        bnd (cv .u64 v103) fun v104 =>
        bnd (bld [.i .u64 0, .i .i64 0] [(0, 1, v104), (1, 1, (.i .i64 1))]) fun v105 =>
        bnd (fA 7 v1) fun v106 =>
        bnd (l1 ob v106) fun v107 =>
        bnd (cv .u64 v107) fun v108 =>
        bnd (bld [.i .u64 0, .i .i64 0] [(0, 1, v108), (1, 1, (.i .i64 2))]) fun v109 =>
        bndO (bldS ob 464 2 [v98, v101, v105, v109]) ob fun v110 ob =>
        fin ob os.length [2, 0] [v110, (.b true)]
       ) (
        bnd (fA 6 v1) fun v111 =>
        bnd (l1 ob v111) fun v112 =>
        bnd (cv .u64 v112) fun v113 =>
        bnd (bld [.i .u64 0, .i .i64 0] [(0, 1, v113), (1, 1, (.i .i64 1))]) fun v114 =>
        bndO (bldS ob 504 2 [v114]) ob fun v115 ob =>
        fin ob os.length [2, 0] [v115, (.b false)]
       )
      )
     )
    )
   )
  )

def ann30 : Nat → Option Hd := fun _ => none
def lab30 : Nat → Option Hd := fun _ => none
/- pelican/pelicanref03.Cut -/
noncomputable def m31b0 (Φ : Sem') (N : Nat) (os : List Obj') (g : SL → OB → Option R) (sl : SL) (ob : OB) : Option R :=
  bnd (len (gS sl 1)) fun v21 =>
  bnd (bi .lss (gS sl 10) v21) fun v22 =>
  br v22 (
   bnd (xS ob 1 (gS sl 1) (gS sl 10)) fun v23 =>
   bnd (l1 ob v23) fun v24 =>
   bndO (ca0 Φ ob 528 false 41 [(gS sl 0), (gS sl 9), v24]) ob fun v25 ob =>
   bnd (ext 0 v25) fun v26 =>
   bnd (ext 1 v25) fun v27 =>
   bndO (bldS ob 568 1 [v26]) ob fun v28 ob =>
   bndO (ap ob 576 1 (gS sl 8) v28) ob fun v29 ob =>
   bnd (bi .add (gS sl 10) (.i .i64 1)) fun v30 =>
   bnd (head [.row 8 135 1] [0, 1, 8, 9, 10] [] [(0, (gS sl 0)), (1, (gS sl 1)), (8, v29), (9, v27), (10, v30)] ob) fun x => g x.1 x.2
  ) (
   fin ob os.length [1, 0] [(gS sl 8), (.b true)]
  )
noncomputable def m31b1 (Φ : Sem') (N : Nat) (os : List Obj') (g : SL → OB → Option R) (sl : SL) (ob : OB) : Option R :=
  bnd (len (gS sl 1)) fun v1 =>
  bnd (bi .lss (gS sl 7) v1) fun v2 =>
  br v2 (
   bnd (xS ob 1 (gS sl 1) (gS sl 7)) fun v3 =>
   bnd (l1 ob v3) fun v4 =>
   bnd (bi .lss v4 (.i .i64 1)) fun v5 =>
   bnd (gd v5 false (some (gS sl 1))) fun v6 =>
   bnd (gd v5 false (some (gS sl 7))) fun v7 =>
   bnd (gd v5 false (xS ob 1 v6 v7)) fun v8 =>
   bnd (gd v5 false (l1 ob v8)) fun v9 =>
   bnd (gd v5 false (bi .gtr v9 (.i .i64 8))) fun v10 =>
   bnd (pk v5 (.b true) v10) fun v11 =>
   bnd (gd v11 false (some (gS sl 7))) fun v12 =>
   bnd (gd v11 false (bi .geq v12 (.i .i64 40))) fun v13 =>
   bnd (pk v11 (.b true) v13) fun v14 =>
   br v14 (
    fin ob os.length [1, 0] [(.e true), (.b false)]
   ) (
    bnd (xS ob 1 (gS sl 1) (gS sl 7)) fun v15 =>
    bnd (l1 ob v15) fun v16 =>
    bnd (bi .add (gS sl 6) v16) fun v17 =>
    bnd (bi .add (gS sl 7) (.i .i64 1)) fun v18 =>
    bnd (head [] [0, 1, 6, 7] [] [(0, (gS sl 0)), (1, (gS sl 1)), (6, v17), (7, v18)] ob) fun x => g x.1 x.2
   )
  ) (
   bnd (len (gS sl 0)) fun v19 =>
   bnd (bi .neq (gS sl 6) v19) fun v20 =>
   br v20 (
    fin ob os.length [1, 0] [(.e true), (.b false)]
   ) (
    bnd (head [.row 8 135 1] [0, 1, 8, 9, 10] [] [(0, (gS sl 0)), (1, (gS sl 1)), (8, (.e true)), (9, (.i .i64 0)), (10, (.i .i64 0))] ob) fun x => loopC (m31b0 Φ N os) N x.1 x.2
   )
  )
noncomputable def m31 : Body := fun Φ N as os =>
  let a0 := gS (zipN 0 as) 0
  let a1 := gS (zipN 0 as) 1
  let ob := zipN 0 os
  bnd (head [] [0, 1, 6, 7] [] [(0, a0), (1, a1), (6, (.i .i64 0)), (7, (.i .i64 0))] ob) fun x => loopC (m31b1 Φ N os) N x.1 x.2

def ann31 : Nat → Option Hd
  | 3 => some ⟨[], [0, 1, 6, 7], [], []⟩ | 13 => some ⟨[.row 8 135 1], [0, 1, 8, 9, 10], [], []⟩ | _ => none
def lab31 : Nat → Option Hd := fun _ => none
/- pelican/pelicanref04.made -/
noncomputable def m32 : Body := fun Φ N as os =>
  let a0 := gS (zipN 0 as) 0
  let a1 := gS (zipN 0 as) 1
  let ob := zipN 0 os
  bndO (al ob 96 [.i .i64 0, .i .i64 0, .i .u64 0, .i .u64 0, .i .i64 0, .i .u64 0, .i .i64 0, .i .i64 0, .blob 32 (List.replicate 32 (.i .u8 0))]) ob fun v1 ob =>
  bnd (bld [.i .i64 0, .i .i64 0, .i .u64 0, .i .u64 0, .i .i64 0, .i .u64 0, .i .i64 0, .i .i64 0, .blob 32 (List.replicate 32 (.i .u8 0))] [(0, 1, a0)]) fun v2 =>
  bndO (al ob 104 [.i .i64 0, .i .i64 0, .i .u64 0, .i .u64 0, .i .i64 0, .i .u64 0, .i .i64 0, .i .i64 0, .blob 32 (List.replicate 32 (.i .u8 0))]) ob fun v3 ob =>
  bndO (st ob 40 v3 v2) ob fun _ ob =>
  bnd (bi .eql a0 (.i .i64 0)) fun v4 =>
  br v4 (
   bnd (xS ob 1 a1 (.i .i64 0)) fun v5 =>
   bnd (l1 ob v5) fun v6 =>
   bnd (cv .i64 v6) fun v7 =>
   bnd (fA 1 v3) fun v8 =>
   bndO (st ob 1 v8 v7) ob fun _ ob =>
   bnd (xS ob 1 a1 (.i .i64 1)) fun v9 =>
   bnd (l1 ob v9) fun v10 =>
   bnd (fA 3 v3) fun v11 =>
   bndO (st ob 1 v11 v10) ob fun _ ob =>
   bnd (lN ob 40 v3) fun v12 =>
   bndO (st ob 40 v1 v12) ob fun _ ob =>
   bnd (lN ob 40 v1) fun v13 =>
   fin ob os.length [0] [v13]
  ) (
   bnd (bi .eql a0 (.i .i64 1)) fun v14 =>
   br v14 (
    bnd (xS ob 1 a1 (.i .i64 0)) fun v15 =>
    bnd (l1 ob v15) fun v16 =>
    bnd (fA 2 v3) fun v17 =>
    bndO (st ob 1 v17 v16) ob fun _ ob =>
    bnd (xS ob 1 a1 (.i .i64 1)) fun v18 =>
    bnd (l1 ob v18) fun v19 =>
    bnd (cv .i64 v19) fun v20 =>
    bnd (fA 4 v3) fun v21 =>
    bndO (st ob 1 v21 v20) ob fun _ ob =>
    bnd (lN ob 40 v3) fun v22 =>
    bndO (st ob 40 v1 v22) ob fun _ ob =>
    bnd (lN ob 40 v1) fun v23 =>
    fin ob os.length [0] [v23]
   ) (
    bnd (bi .eql a0 (.i .i64 2)) fun v24 =>
    br v24 (
     br v24 (
      bnd (xS ob 1 a1 (.i .i64 0)) fun v25 =>
      bnd (l1 ob v25) fun v26 =>
      bnd (fA 2 v3) fun v27 =>
      bndO (st ob 1 v27 v26) ob fun _ ob =>
      bnd (lN ob 40 v3) fun v28 =>
      bndO (st ob 40 v1 v28) ob fun _ ob =>
      bnd (lN ob 40 v1) fun v29 =>
      fin ob os.length [0] [v29]
     ) (
      bnd (bi .eql a0 (.i .i64 4)) fun v30 =>
      br v30 (
       br v30 (
        bnd (xS ob 1 a1 (.i .i64 0)) fun v31 =>
        bnd (l1 ob v31) fun v32 =>
        bnd (fA 2 v3) fun v33 =>
        bndO (st ob 1 v33 v32) ob fun _ ob =>
        bnd (xS ob 1 a1 (.i .i64 1)) fun v34 =>
        bnd (l1 ob v34) fun v35 =>
        bnd (fA 5 v3) fun v36 =>
        bndO (st ob 1 v36 v35) ob fun _ ob =>
        bnd (xS ob 1 a1 (.i .i64 2)) fun v37 =>
        bnd (l1 ob v37) fun v38 =>
        bnd (cv .i64 v38) fun v39 =>
        bnd (fA 6 v3) fun v40 =>
        bndO (st ob 1 v40 v39) ob fun _ ob =>
        bnd (xS ob 1 a1 (.i .i64 3)) fun v41 =>
        bnd (l1 ob v41) fun v42 =>
        bnd (cv .i64 v42) fun v43 =>
        bnd (fA 7 v3) fun v44 =>
        bndO (st ob 1 v44 v43) ob fun _ ob =>
        bnd (lN ob 40 v3) fun v45 =>
        bndO (st ob 40 v1 v45) ob fun _ ob =>
        bnd (lN ob 40 v1) fun v46 =>
        fin ob os.length [0] [v46]
       ) (
        bnd (xS ob 1 a1 (.i .i64 0)) fun v47 =>
        bnd (l1 ob v47) fun v48 =>
        bnd (cv .i64 v48) fun v49 =>
        bnd (fA 6 v3) fun v50 =>
        bndO (st ob 1 v50 v49) ob fun _ ob =>
        bnd (lN ob 40 v3) fun v51 =>
        bndO (st ob 40 v1 v51) ob fun _ ob =>
        bnd (lN ob 40 v1) fun v52 =>
        fin ob os.length [0] [v52]
       )
      ) (
       bnd (bi .eql a0 (.i .i64 5)) fun v53 =>
       br v53 (
        bnd (xS ob 1 a1 (.i .i64 0)) fun v54 =>
        bnd (l1 ob v54) fun v55 =>
        bnd (fA 2 v3) fun v56 =>
        bndO (st ob 1 v56 v55) ob fun _ ob =>
        bnd (xS ob 1 a1 (.i .i64 1)) fun v57 =>
        bnd (l1 ob v57) fun v58 =>
        bnd (fA 5 v3) fun v59 =>
        bndO (st ob 1 v59 v58) ob fun _ ob =>
        bnd (xS ob 1 a1 (.i .i64 2)) fun v60 =>
        bnd (l1 ob v60) fun v61 =>
        bnd (cv .i64 v61) fun v62 =>
        bnd (fA 6 v3) fun v63 =>
        bndO (st ob 1 v63 v62) ob fun _ ob =>
        bnd (xS ob 1 a1 (.i .i64 3)) fun v64 =>
        bnd (l1 ob v64) fun v65 =>
        bnd (cv .i64 v65) fun v66 =>
        bnd (fA 7 v3) fun v67 =>
        bndO (st ob 1 v67 v66) ob fun _ ob =>
        bnd (lN ob 40 v3) fun v68 =>
        bndO (st ob 40 v1 v68) ob fun _ ob =>
        bnd (lN ob 40 v1) fun v69 =>
        fin ob os.length [0] [v69]
       ) (
        bnd (xS ob 1 a1 (.i .i64 0)) fun v70 =>
        bnd (l1 ob v70) fun v71 =>
        bnd (cv .i64 v71) fun v72 =>
        bnd (fA 6 v3) fun v73 =>
        bndO (st ob 1 v73 v72) ob fun _ ob =>
        bnd (lN ob 40 v3) fun v74 =>
        bndO (st ob 40 v1 v74) ob fun _ ob =>
        bnd (lN ob 40 v1) fun v75 =>
        fin ob os.length [0] [v75]
       )
      )
     )
    ) (
     bnd (bi .eql a0 (.i .i64 3)) fun v76 =>
     br v76 (
      bnd (xS ob 1 a1 (.i .i64 0)) fun v77 =>
      bnd (l1 ob v77) fun v78 =>
      bnd (fA 2 v3) fun v79 =>
      bndO (st ob 1 v79 v78) ob fun _ ob =>
      bnd (lN ob 40 v3) fun v80 =>
      bndO (st ob 40 v1 v80) ob fun _ ob =>
      bnd (lN ob 40 v1) fun v81 =>
      fin ob os.length [0] [v81]
     ) (
      bnd (bi .eql a0 (.i .i64 4)) fun v82 =>
      br v82 (
       br v82 (
        bnd (xS ob 1 a1 (.i .i64 0)) fun v83 =>
        bnd (l1 ob v83) fun v84 =>
        bnd (fA 2 v3) fun v85 =>
        bndO (st ob 1 v85 v84) ob fun _ ob =>
        bnd (xS ob 1 a1 (.i .i64 1)) fun v86 =>
        bnd (l1 ob v86) fun v87 =>
        bnd (fA 5 v3) fun v88 =>
        bndO (st ob 1 v88 v87) ob fun _ ob =>
        bnd (xS ob 1 a1 (.i .i64 2)) fun v89 =>
        bnd (l1 ob v89) fun v90 =>
        bnd (cv .i64 v90) fun v91 =>
        bnd (fA 6 v3) fun v92 =>
        bndO (st ob 1 v92 v91) ob fun _ ob =>
        bnd (xS ob 1 a1 (.i .i64 3)) fun v93 =>
        bnd (l1 ob v93) fun v94 =>
        bnd (cv .i64 v94) fun v95 =>
        bnd (fA 7 v3) fun v96 =>
        bndO (st ob 1 v96 v95) ob fun _ ob =>
        bnd (lN ob 40 v3) fun v97 =>
        bndO (st ob 40 v1 v97) ob fun _ ob =>
        bnd (lN ob 40 v1) fun v98 =>
        fin ob os.length [0] [v98]
       ) (
        bnd (xS ob 1 a1 (.i .i64 0)) fun v99 =>
        bnd (l1 ob v99) fun v100 =>
        bnd (cv .i64 v100) fun v101 =>
        bnd (fA 6 v3) fun v102 =>
        bndO (st ob 1 v102 v101) ob fun _ ob =>
        bnd (lN ob 40 v3) fun v103 =>
        bndO (st ob 40 v1 v103) ob fun _ ob =>
        bnd (lN ob 40 v1) fun v104 =>
        fin ob os.length [0] [v104]
       )
      ) (
       bnd (bi .eql a0 (.i .i64 5)) fun v105 =>
       br v105 (
        bnd (xS ob 1 a1 (.i .i64 0)) fun v106 =>
        bnd (l1 ob v106) fun v107 =>
        bnd (fA 2 v3) fun v108 =>
        bndO (st ob 1 v108 v107) ob fun _ ob =>
        bnd (xS ob 1 a1 (.i .i64 1)) fun v109 =>
        bnd (l1 ob v109) fun v110 =>
        bnd (fA 5 v3) fun v111 =>
        bndO (st ob 1 v111 v110) ob fun _ ob =>
        bnd (xS ob 1 a1 (.i .i64 2)) fun v112 =>
        bnd (l1 ob v112) fun v113 =>
        bnd (cv .i64 v113) fun v114 =>
        bnd (fA 6 v3) fun v115 =>
        bndO (st ob 1 v115 v114) ob fun _ ob =>
        bnd (xS ob 1 a1 (.i .i64 3)) fun v116 =>
        bnd (l1 ob v116) fun v117 =>
        bnd (cv .i64 v117) fun v118 =>
        bnd (fA 7 v3) fun v119 =>
        bndO (st ob 1 v119 v118) ob fun _ ob =>
        bnd (lN ob 40 v3) fun v120 =>
        bndO (st ob 40 v1 v120) ob fun _ ob =>
        bnd (lN ob 40 v1) fun v121 =>
        fin ob os.length [0] [v121]
       ) (
        bnd (xS ob 1 a1 (.i .i64 0)) fun v122 =>
        bnd (l1 ob v122) fun v123 =>
        bnd (cv .i64 v123) fun v124 =>
        bnd (fA 6 v3) fun v125 =>
        bndO (st ob 1 v125 v124) ob fun _ ob =>
        bnd (lN ob 40 v3) fun v126 =>
        bndO (st ob 40 v1 v126) ob fun _ ob =>
        bnd (lN ob 40 v1) fun v127 =>
        fin ob os.length [0] [v127]
       )
      )
     )
    )
   )
  )

def ann32 : Nat → Option Hd := fun _ => none
def lab32 : Nat → Option Hd := fun _ => none
/- pelican/frame.plain$1 -/
noncomputable def m33 : Body := fun Φ N as os =>
  let a0 := gS (zipN 0 as) 0
  let a1 := gS (zipN 0 as) 1
  let ob := zipN 0 os
  bnd (bi .geq a0 (.i .i64 0)) fun v1 =>
  bnd (gd v1 true (some a0)) fun v2 =>
  bnd (gd v1 true (some a1)) fun v3 =>
  bnd (gd v1 true (bi .leq v2 v3)) fun v4 =>
  bnd (pk v1 v4 (.b false)) fun v5 =>
  fin ob os.length [0] [v5]

def ann33 : Nat → Option Hd := fun _ => none
def lab33 : Nat → Option Hd := fun _ => none
/- pelican/frame.kind -/
noncomputable def m34 : Body := fun Φ N as os =>
  let a0 := gS (zipN 0 as) 0
  let ob := zipN 0 os
  bnd (bi .geq a0 (.i .i64 0)) fun v1 =>
  bnd (gd v1 true (some a0)) fun v2 =>
  bnd (gd v1 true (bi .lss v2 (.i .i64 7))) fun v3 =>
  bnd (pk v1 v3 (.b false)) fun v4 =>
  fin ob os.length [0] [v4]

def ann34 : Nat → Option Hd := fun _ => none
def lab34 : Nat → Option Hd := fun _ => none
/- pelican/frame.bare -/
noncomputable def m35b0 (Φ : Sem') (N : Nat) (os : List Obj') (g : SL → OB → Option R) (sl : SL) (ob : OB) : Option R :=
  bnd (bi .lss (gS sl 23) (gS sl 22)) fun v14 =>
  br v14 (
   bnd (xS ob 3 (gS sl 21) (gS sl 23)) fun v15 =>
   bnd (lN ob 3 v15) fun v16 =>
   bndO (al ob 136 [.np, .np, .i .i64 0]) ob fun v17 ob =>
   bndO (st ob 3 v17 v16) ob fun _ ob =>
   bnd (fA 0 v17) fun v18 =>
   bnd (l1 ob v18) fun v19 =>
   bnd (eNp true v19) fun v20 =>
   br v20 (
    bnd (fA 0 v17) fun v21 =>
    bnd (l1 ob v21) fun v22 =>
    bnd (xS ob 3 (gS sl 4) (gS sl 23)) fun v23 =>
    bnd (fA 0 v23) fun v24 =>
    bnd (l1 ob v24) fun v25 =>
    bnd (nc v25) fun v26 =>
    bnd (l1 ob v26) fun v27 =>
    bnd (nc v22) fun v28 =>
    bndO (st ob 1 v28 v27) ob fun _ ob =>
    bnd (bi .add (gS sl 23) (.i .i64 1)) fun v29 =>
    bnd (head [] [1, 2, 3, 4, 5, 21, 22, 23] [72, 80, 88, 176, 208] [(1, (gS sl 1)), (2, (gS sl 2)), (3, (gS sl 3)), (4, (gS sl 4)), (5, (gS sl 5)), (21, (gS sl 21)), (22, (gS sl 22)), (23, v29)] ob) fun x => g x.1 x.2
   ) (
    bnd (fA 1 v17) fun v30 =>
    bnd (l1 ob v30) fun v31 =>
    bnd (xS ob 3 (gS sl 4) (gS sl 23)) fun v32 =>
    bnd (fA 1 v32) fun v33 =>
    bnd (l1 ob v33) fun v34 =>
    bnd (nc v34) fun v35 =>
    bnd (l1 ob v35) fun v36 =>
    bnd (nc v31) fun v37 =>
    bndO (st ob 1 v37 v36) ob fun _ ob =>
    bnd (bi .add (gS sl 23) (.i .i64 1)) fun v38 =>
    bnd (head [] [1, 2, 3, 4, 5, 21, 22, 23] [72, 80, 88, 176, 208] [(1, (gS sl 1)), (2, (gS sl 2)), (3, (gS sl 3)), (4, (gS sl 4)), (5, (gS sl 5)), (21, (gS sl 21)), (22, (gS sl 22)), (23, v38)] ob) fun x => g x.1 x.2
   )
  ) (
   br (gS sl 5) (
    bnd (fA 8 (gS sl 1)) fun v39 =>
    bnd (lN ob 32 v39) fun v40 =>
    bnd (fA 8 (gS sl 3)) fun v41 =>
    bndO (st ob 32 v41 v40) ob fun _ ob =>
    bnd (lN ob 40 (gS sl 3)) fun v42 =>
    bndO (st ob 40 (gS sl 2) v42) ob fun _ ob =>
    bnd (lN ob 40 (gS sl 2)) fun v43 =>
    fin ob os.length [0] [v43]
   ) (
    bnd (lN ob 40 (gS sl 3)) fun v44 =>
    bndO (st ob 40 (gS sl 2) v44) ob fun _ ob =>
    bnd (lN ob 40 (gS sl 2)) fun v45 =>
    fin ob os.length [0] [v45]
   )
  )
noncomputable def m35 : Body := fun Φ N as os =>
  let a0 := gS (zipN 0 as) 0
  let ob := zipN 0 os
  bndO (bx ob 72 a0) ob fun v1 ob =>
  bndO (al ob 80 [.i .i64 0, .i .i64 0, .i .u64 0, .i .u64 0, .i .i64 0, .i .u64 0, .i .i64 0, .i .i64 0, .blob 32 (List.replicate 32 (.i .u8 0))]) ob fun v2 ob =>
  bnd (fA 0 v1) fun v3 =>
  bnd (l1 ob v3) fun v4 =>
  bnd (bld [.i .i64 0, .i .i64 0, .i .u64 0, .i .u64 0, .i .i64 0, .i .u64 0, .i .i64 0, .i .i64 0, .blob 32 (List.replicate 32 (.i .u8 0))] [(0, 1, v4)]) fun v5 =>
  bndO (al ob 88 [.i .i64 0, .i .i64 0, .i .u64 0, .i .u64 0, .i .i64 0, .i .u64 0, .i .i64 0, .i .i64 0, .blob 32 (List.replicate 32 (.i .u8 0))]) ob fun v6 ob =>
  bndO (st ob 40 v6 v5) ob fun _ ob =>
  bndO (ca Φ ob 176 false 22 [v1]) ob fun v7 ob =>
  bnd (ext 0 v7) fun v8 =>
  bnd (ext 1 v7) fun v9 =>
  bndO (ca Φ ob 208 false 22 [v6]) ob fun v10 ob =>
  bnd (ext 0 v10) fun v11 =>
  bnd (ext 1 v10) fun v12 =>
  bnd (len v11) fun v13 =>
  bnd (head [] [1, 2, 3, 4, 5, 21, 22, 23] [72, 80, 88, 176, 208] [(1, v1), (2, v2), (3, v6), (4, v8), (5, v9), (21, v11), (22, v13), (23, (.i .i64 0))] ob) fun x => loopC (m35b0 Φ N os) N x.1 x.2

def ann35 : Nat → Option Hd
  | 5 => some ⟨[], [1, 2, 3, 4, 5, 21, 22, 23], [72, 80, 88, 176, 208], []⟩ | _ => none
def lab35 : Nat → Option Hd := fun _ => none
/- pelican/num.Cat -/
noncomputable def m36b0 (Φ : Sem') (N : Nat) (os : List Obj') (g : SL → OB → Option R) (sl : SL) (ob : OB) : Option R :=
  bnd (bi .lss (gS sl 14) (gS sl 13)) fun v4 =>
  br v4 (
   bnd (xS ob 2 (gS sl 12) (gS sl 14)) fun v5 =>
   bnd (lN ob 2 v5) fun v6 =>
   bndO (al ob 112 [.i .u64 0, .i .i64 0]) ob fun v7 ob =>
   bndO (st ob 2 v7 v6) ob fun _ ob =>
   bnd (fA 0 v7) fun v8 =>
   bnd (l1 ob v8) fun v9 =>
   bnd (fA 1 v7) fun v10 =>
   bnd (l1 ob v10) fun v11 =>
   bndO (ca0 Φ ob 248 false 42 [v9, v11]) ob fun v12 ob =>
   bnd (ext 0 v12) fun v13 =>
   bnd (ext 1 v12) fun v14 =>
   bnd (uO .not v14) fun v15 =>
   br v15 (
    fin ob os.length [1, 0] [(.e true), (.b false)]
   ) (
    bndO (ap ob 304 1 (gS sl 4) v13) ob fun v16 ob =>
    bnd (bi .add (gS sl 14) (.i .i64 1)) fun v17 =>
    bnd (head [.row 4 103 1] [4, 12, 13, 14] [] [(4, v16), (12, (gS sl 12)), (13, (gS sl 13)), (14, v17)] ob) fun x => g x.1 x.2
   )
  ) (
   fin ob os.length [1, 0] [(gS sl 4), (.b true)]
  )
noncomputable def m36 : Body := fun Φ N as os =>
  let a0 := gS (zipN 0 as) 0
  let ob := zipN 0 os
  bnd (len a0) fun v1 =>
  bnd (bi .gtr v1 (.i .i64 40)) fun v2 =>
  br v2 (
   fin ob os.length [1, 0] [(.e true), (.b false)]
  ) (
   bnd (len a0) fun v3 =>
   bnd (head [.row 4 103 1] [4, 12, 13, 14] [] [(4, (.e true)), (12, a0), (13, v3), (14, (.i .i64 0))] ob) fun x => loopC (m36b0 Φ N os) N x.1 x.2
  )

def ann36 : Nat → Option Hd
  | 5 => some ⟨[.row 4 103 1], [4, 12, 13, 14], [], []⟩ | _ => none
def lab36 : Nat → Option Hd := fun _ => none
/- slices.Insert[[]pelican/frame.slot,pelican/frame.slot] -/
noncomputable def m37 : Body := fun Φ N as os =>
  let a0 := gS (zipN 0 as) 0
  let a1 := gS (zipN 0 as) 1
  let a2 := gS (zipN 0 as) 2
  let ob := zipN 0 os
  bndO (slc ob (.slice 3) a0 (some a1) none none) ob fun v1 ob =>
  bnd (len a2) fun v2 =>
  bnd (bi .eql v2 (.i .i64 0)) fun v3 =>
  br v3 (
   finG ob os.length [a0]
  ) (
   bnd (len a0) fun v4 =>
   bnd (bi .eql a1 v4) fun v5 =>
   br v5 (
    bndO (apN ob 264 3 a0 a2) ob fun v6 ob =>
    finG ob os.length [v6]
   ) (
    bnd (bi .add v4 v2) fun v7 =>
    bnd (cp ob a0) fun v8 =>
    bnd (bi .gtr v7 v8) fun v9 =>
    br v9 (
     bndO (slc ob (.slice 3) a0 none (some a1) none) ob fun v10 ob =>
     bnd (bi .add v4 v2) fun v11 =>
     bnd (bi .sub v11 a1) fun v12 =>
     bndO (apzN ob 384 [.np, .np, .i .i64 0] v10 v12) ob fun v13 ob =>
     bndO (slc ob (.slice 3) v13 (some a1) none none) ob fun v14 ob =>
     bndO (cpN ob 3 v14 a2) ob fun v15 ob =>
     bnd (bi .add a1 v2) fun v16 =>
     bndO (slc ob (.slice 3) v13 (some v16) none none) ob fun v17 ob =>
     bndO (slc ob (.slice 3) a0 (some a1) none none) ob fun v18 ob =>
     bndO (cpN ob 3 v17 v18) ob fun v19 ob =>
     finG ob os.length [v13]
    ) (
     bnd (bi .add v4 v2) fun v20 =>
     bndO (slc ob (.slice 3) a0 none (some v20) none) ob fun v21 ob =>
     bnd (bi .add a1 v2) fun v22 =>
     bndO (slc ob (.slice 3) v21 (some v22) none none) ob fun v23 ob =>
     bndO (ca Φ ob 600 false 43 [a2, v23]) ob fun v24 ob =>
     bnd (uO .not v24) fun v25 =>
     br v25 (
      bnd (bi .add a1 v2) fun v26 =>
      bndO (slc ob (.slice 3) v21 (some v26) none none) ob fun v27 ob =>
      bndO (slc ob (.slice 3) v21 (some a1) none none) ob fun v28 ob =>
      bndO (cpN ob 3 v27 v28) ob fun v29 ob =>
      bndO (slc ob (.slice 3) v21 (some a1) none none) ob fun v30 ob =>
      bndO (cpN ob 3 v30 a2) ob fun v31 ob =>
      finG ob os.length [v21]
     ) (
      bndO (slc ob (.slice 3) v21 (some v4) none none) ob fun v32 ob =>
      bndO (cpN ob 3 v32 a2) ob fun v33 ob =>
      bndO (slc ob (.slice 3) v21 (some a1) none none) ob fun v34 ob =>
      bndO (ca Φ ob 808 false 44 [v34, v2]) ob fun v35 ob =>
      finG ob os.length [v21]
     )
    )
   )
  )

def ann37 : Nat → Option Hd := fun _ => none
def lab37 : Nat → Option Hd := fun _ => none
/- pelican/num.size -/
noncomputable def m38 : Body := fun Φ N as os =>
  let a0 := gS (zipN 0 as) 0
  let ob := zipN 0 os
  bnd (bi .geq a0 (.i .i64 1)) fun v1 =>
  bnd (gd v1 true (some a0)) fun v2 =>
  bnd (gd v1 true (bi .leq v2 (.i .i64 8))) fun v3 =>
  bnd (pk v1 v3 (.b false)) fun v4 =>
  fin ob os.length [0] [v4]

def ann38 : Nat → Option Hd := fun _ => none
def lab38 : Nat → Option Hd := fun _ => none
/- pelican/frame.frames$1 -/
noncomputable def m39b0 (Φ : Sem') (N : Nat) (os : List Obj') (g : SL → OB → Option R) (sl : SL) (ob : OB) : Option R :=
  bnd (bi .neq (gS sl 3) (.i .i64 (-1))) fun v3 =>
  brY v3 (fun sl ob =>
   bnd (l1 ob (gS sl 1)) fun v4 =>
   bndO (slc ob (.slice 1) v4 none (some (gS sl 3)) none) ob fun v5 ob =>
   bnd (l1 ob (gS sl 1)) fun v6 =>
   bndO (slc ob (.slice 1) v6 (some (gS sl 3)) none none) ob fun v7 ob =>
   bndO (st ob 1 (gS sl 1) v7) ob fun _ ob =>
   bnd (l1 ob (gS sl 1)) fun v8 =>
   yK ob ((19, v8) :: (18, v5) :: (17, (gS sl 0)) :: (16, v7) :: (15, (gS sl 3)) :: (14, v6) :: (4, v5) :: (13, v5) :: (12, (gS sl 3)) :: (11, v4) :: sl) (some 20) (gS sl 0) [v5, v8] fun sl ob =>
   bnd (uO .not (gS sl 20)) fun v9 =>
   brY v9 (fun sl ob =>
    some (.tup [.un, .l false []], [])
   ) (fun sl ob =>
    bnd (l1 ob (gS sl 1)) fun v10 =>
    bndO (ca0 Φ ob 144 false 21 [v10]) ob fun v11 ob =>
    bnd (head [] [0, 1, 3, 1000000] [0, 1, 2] [(0, (gS sl 0)), (1, (gS sl 1)), (3, v11), (1000000, (gS sl 1000000))] ob) fun x => g x.1 x.2
   ) ((21, v9) :: sl) ob
  ) (fun sl ob =>
   some (.tup [.un, .l false []], [])
  ) ((8, v3) :: (7, (gS sl 3)) :: sl) ob
noncomputable def m39 : Body := fun Φ N as os =>
  let a0 := gS (zipN 0 as) 0
  let a1 := gS (zipN 0 as) 1
  let ob := zipN 0 os
  if 2 ≤ os.length then yOut (
  bnd (l1 ob a1) fun v1 =>
  bndO (ca0 Φ ob 112 false 21 [v1]) ob fun v2 ob =>
  bnd (head [] [0, 1, 3, 1000000] [0, 1, 2] [(0, a0), (1, a1), (3, v2), (1000000, .y 1 0 0)] ob) fun x => loopC (m39b0 Φ N os) N x.1 x.2)
  else none

def ann39 : Nat → Option Hd
  | 1 => some ⟨[], [0, 1, 3, 1000000], [0, 1, 2], []⟩ | _ => none
def lab39 : Nat → Option Hd := fun _ => none
/- pelican/pelicanref03.Cat -/
noncomputable def m40b0 (Φ : Sem') (N : Nat) (os : List Obj') (g : SL → OB → Option R) (sl : SL) (ob : OB) : Option R :=
  bnd (len (gS sl 0)) fun v3 =>
  bnd (bi .lss (gS sl 5) v3) fun v4 =>
  br v4 (
   bnd (xS ob 2 (gS sl 0) (gS sl 5)) fun v5 =>
   bnd (fA 0 v5) fun v6 =>
   bnd (l1 ob v6) fun v7 =>
   bnd (xS ob 2 (gS sl 0) (gS sl 5)) fun v8 =>
   bnd (fA 1 v8) fun v9 =>
   bnd (l1 ob v9) fun v10 =>
   bndO (ca0 Φ ob 288 false 45 [v7, v10]) ob fun v11 ob =>
   bnd (ext 0 v11) fun v12 =>
   bnd (ext 1 v11) fun v13 =>
   bnd (uO .not v13) fun v14 =>
   br v14 (
    fin ob os.length [1, 0] [(.e true), (.b false)]
   ) (
    bndO (ap ob 344 1 (gS sl 4) v12) ob fun v15 ob =>
    bnd (bi .add (gS sl 5) (.i .i64 1)) fun v16 =>
    bnd (head [.row 4 103 1] [0, 4, 5] [] [(0, (gS sl 0)), (4, v15), (5, v16)] ob) fun x => g x.1 x.2
   )
  ) (
   fin ob os.length [1, 0] [(gS sl 4), (.b true)]
  )
noncomputable def m40 : Body := fun Φ N as os =>
  let a0 := gS (zipN 0 as) 0
  let ob := zipN 0 os
  bnd (len a0) fun v1 =>
  bnd (bi .gtr v1 (.i .i64 40)) fun v2 =>
  br v2 (
   fin ob os.length [1, 0] [(.e true), (.b false)]
  ) (
   bnd (head [.row 4 103 1] [0, 4, 5] [] [(0, a0), (4, (.e true)), (5, (.i .i64 0))] ob) fun x => loopC (m40b0 Φ N os) N x.1 x.2
  )

def ann40 : Nat → Option Hd
  | 5 => some ⟨[.row 4 103 1], [0, 4, 5], [], []⟩ | _ => none
def lab40 : Nat → Option Hd := fun _ => none
/- pelican/pelicanref03.Get -/
noncomputable def m41b0 (Φ : Sem') (N : Nat) (os : List Obj') (g : SL → OB → Option R) (sl : SL) (ob : OB) : Option R :=
  bnd (bi .add (gS sl 1) (gS sl 2)) fun v20 =>
  bnd (bi .lss (gS sl 9) v20) fun v21 =>
  br v21 (
   bnd (bi .mul (.i .u64 256) (gS sl 8)) fun v22 =>
   bnd (xS ob 1 (gS sl 0) (gS sl 9)) fun v23 =>
   bnd (l1 ob v23) fun v24 =>
   bnd (cv .u64 v24) fun v25 =>
   bnd (bi .add v22 v25) fun v26 =>
   bnd (bi .add (gS sl 9) (.i .i64 1)) fun v27 =>
   bnd (head [] [0, 1, 2, 8, 9] [] [(0, (gS sl 0)), (1, (gS sl 1)), (2, (gS sl 2)), (8, v26), (9, v27)] ob) fun x => g x.1 x.2
  ) (
   bnd (bi .add (gS sl 1) (gS sl 2)) fun v28 =>
   fin ob os.length [0, 0] [(gS sl 8), v28]
  )
noncomputable def m41 : Body := fun Φ N as os =>
  let a0 := gS (zipN 0 as) 0
  let a1 := gS (zipN 0 as) 1
  let a2 := gS (zipN 0 as) 2
  let ob := zipN 0 os
  bnd (bi .lss a2 (.i .i64 1)) fun v1 =>
  bnd (gd v1 false (some a2)) fun v2 =>
  bnd (gd v1 false (bi .gtr v2 (.i .i64 8))) fun v3 =>
  bnd (pk v1 (.b true) v3) fun v4 =>
  bnd (gd v4 false (some a1)) fun v5 =>
  bnd (gd v4 false (bi .lss v5 (.i .i64 0))) fun v6 =>
  bnd (pk v4 (.b true) v6) fun v7 =>
  bnd (gd v7 false (some a1)) fun v8 =>
  bnd (gd v7 false (some a0)) fun v9 =>
  bnd (gd v7 false (len v9)) fun v10 =>
  bnd (gd v7 false (bi .gtr v8 v10)) fun v11 =>
  bnd (pk v7 (.b true) v11) fun v12 =>
  bnd (gd v12 false (some a0)) fun v13 =>
  bnd (gd v12 false (len v13)) fun v14 =>
  bnd (gd v12 false (some a1)) fun v15 =>
  bnd (gd v12 false (bi .sub v14 v15)) fun v16 =>
  bnd (gd v12 false (some a2)) fun v17 =>
  bnd (gd v12 false (bi .lss v16 v17)) fun v18 =>
  bnd (pk v12 (.b true) v18) fun v19 =>
  br v19 (
   fin ob os.length [0, 0] [(.i .u64 0), (.i .i64 (-1))]
  ) (
   bnd (head [] [0, 1, 2, 8, 9] [] [(0, a0), (1, a1), (2, a2), (8, (.i .u64 0)), (9, a1)] ob) fun x => loopC (m41b0 Φ N os) N x.1 x.2
  )

def ann41 : Nat → Option Hd
  | 5 => some ⟨[], [0, 1, 2, 8, 9], [], []⟩ | _ => none
def lab41 : Nat → Option Hd := fun _ => none
/- pelican/num.Put -/
noncomputable def m42j0 (Φ : Sem') (N : Nat) (os : List Obj') (g : SL → OB → Option R) (sl : SL) (ob : OB) : Option R :=
  bnd (cv .u8 (gS sl 0)) fun v1 =>
  bnd (xS ob 1 (gS sl 6) (gS sl 7)) fun v2 =>
  bndO (st ob 1 v2 v1) ob fun _ ob =>
  bnd (bi .shr (gS sl 0) (.i .u64 8)) fun v3 =>
  bnd (bi .sub (gS sl 7) (.i .i64 1)) fun v4 =>
  bnd (bi .geq v4 (.i .i64 0)) fun v5 =>
  br v5 (
   bnd (head [] [0, 6, 7] [248] [(0, v3), (6, (gS sl 6)), (7, v4)] ob) fun x => g x.1 x.2
  ) (
   fin ob os.length [1, 0] [(gS sl 6), (.b true)]
  )
noncomputable def m42 : Body := fun Φ N as os =>
  let a0 := gS (zipN 0 as) 0
  let a1 := gS (zipN 0 as) 1
  let ob := zipN 0 os
  bndO (ca0 Φ ob 136 false 38 [a1]) ob fun v6 ob =>
  bnd (uO .not v6) fun v7 =>
  bnd (gd v7 false (some a1)) fun v8 =>
  bnd (gd v7 false (bi .lss v8 (.i .i64 8))) fun v9 =>
  bnd (gd v7 false (some v9)) fun v10 =>
  bnd (gd v10 true (some a0)) fun v11 =>
  bnd (gd v10 true (some a1)) fun v12 =>
  bnd (gd v10 true (bi .mul (.i .i64 8) v12)) fun v13 =>
  bnd (gd v10 true (bi .shr v11 v13)) fun v14 =>
  bnd (gd v10 true (bi .neq v14 (.i .u64 0))) fun v15 =>
  bnd (gd v7 false (pk v10 v15 (.b false))) fun v16 =>
  bnd (pk v7 (.b true) v16) fun v17 =>
  br v17 (
   fin ob os.length [1, 0] [(.e true), (.b false)]
  ) (
   bndO (mks ob 248 [.i .u8 0] a1) ob fun v18 ob =>
   bnd (bi .sub a1 (.i .i64 1)) fun v19 =>
   bnd (cv .u8 a0) fun v20 =>
   bnd (xS ob 1 v18 v19) fun v21 =>
   bndO (st ob 1 v21 v20) ob fun _ ob =>
   bnd (bi .shr a0 (.i .u64 8)) fun v22 =>
   bnd (bi .sub v19 (.i .i64 1)) fun v23 =>
   bnd (bi .geq v23 (.i .i64 0)) fun v24 =>
   br v24 (
    bnd (head [] [0, 6, 7] [248] [(0, v22), (6, v18), (7, v23)] ob) fun x => loopC (m42j0 Φ N os) N x.1 x.2
   ) (
    fin ob os.length [1, 0] [v18, (.b true)]
   )
  )

def ann42 : Nat → Option Hd := fun _ => none
def lab42 : Nat → Option Hd
  | 0 => some ⟨[], [0, 6, 7], [248], []⟩ | _ => none
/- slices.rotateRight[pelican/frame.slot] -/
noncomputable def m44 : Body := fun Φ N as os =>
  let a0 := gS (zipN 0 as) 0
  let a1 := gS (zipN 0 as) 1
  let ob := zipN 0 os
  bnd (len a0) fun v1 =>
  bnd (bi .sub v1 a1) fun v2 =>
  bndO (ca Φ ob 136 false 46 [a0, v2]) ob fun v3 ob =>
  fin ob os.length [] []

def ann44 : Nat → Option Hd := fun _ => none
def lab44 : Nat → Option Hd := fun _ => none
/- pelican/pelicanref03.Put -/
noncomputable def m45b0 (Φ : Sem') (N : Nat) (os : List Obj') (g : SL → OB → Option R) (sl : SL) (ob : OB) : Option R :=
  bnd (bi .geq (gS sl 7) (.i .i64 0)) fun v7 =>
  br v7 (
   bnd (bi .rem (gS sl 0) (.i .u64 256)) fun v8 =>
   bnd (cv .u8 v8) fun v9 =>
   bnd (xS ob 1 (gS sl 6) (gS sl 7)) fun v10 =>
   bndO (st ob 1 v10 v9) ob fun _ ob =>
   bnd (bi .quo (gS sl 0) (.i .u64 256)) fun v11 =>
   bnd (bi .sub (gS sl 7) (.i .i64 1)) fun v12 =>
   bnd (head [] [0, 6, 7] [184] [(0, v11), (6, (gS sl 6)), (7, v12)] ob) fun x => g x.1 x.2
  ) (
   bnd (bi .neq (gS sl 0) (.i .u64 0)) fun v13 =>
   br v13 (
    fin ob os.length [1, 0] [(.e true), (.b false)]
   ) (
    fin ob os.length [1, 0] [(gS sl 6), (.b true)]
   )
  )
noncomputable def m45 : Body := fun Φ N as os =>
  let a0 := gS (zipN 0 as) 0
  let a1 := gS (zipN 0 as) 1
  let ob := zipN 0 os
  bnd (bi .lss a1 (.i .i64 1)) fun v1 =>
  bnd (gd v1 false (some a1)) fun v2 =>
  bnd (gd v1 false (bi .gtr v2 (.i .i64 8))) fun v3 =>
  bnd (pk v1 (.b true) v3) fun v4 =>
  br v4 (
   fin ob os.length [1, 0] [(.e true), (.b false)]
  ) (
   bndO (mks ob 184 [.i .u8 0] a1) ob fun v5 ob =>
   bnd (bi .sub a1 (.i .i64 1)) fun v6 =>
   bnd (head [] [0, 6, 7] [184] [(0, a0), (6, v5), (7, v6)] ob) fun x => loopC (m45b0 Φ N os) N x.1 x.2
  )

def ann45 : Nat → Option Hd
  | 5 => some ⟨[], [0, 6, 7], [184], []⟩ | _ => none
def lab45 : Nat → Option Hd := fun _ => none
/- slices.rotateLeft[pelican/frame.slot] -/
noncomputable def m46 : Body := fun Φ N as os =>
  let a0 := gS (zipN 0 as) 0
  let a1 := gS (zipN 0 as) 1
  let ob := zipN 0 os
  bndO (slc ob (.slice 3) a0 none (some a1) none) ob fun v1 ob =>
  bndO (ca Φ ob 120 false 47 [v1]) ob fun v2 ob =>
  bndO (slc ob (.slice 3) a0 (some a1) none none) ob fun v3 ob =>
  bndO (ca Φ ob 152 false 47 [v3]) ob fun v4 ob =>
  bndO (ca Φ ob 168 false 47 [a0]) ob fun v5 ob =>
  fin ob os.length [] []

def ann46 : Nat → Option Hd := fun _ => none
def lab46 : Nat → Option Hd := fun _ => none
/- slices.Reverse[[]pelican/frame.slot,pelican/frame.slot] -/
noncomputable def m47b0 (Φ : Sem') (N : Nat) (os : List Obj') (g : SL → OB → Option R) (sl : SL) (ob : OB) : Option R :=
  bnd (bi .lss (gS sl 2) (gS sl 3)) fun v3 =>
  br v3 (
   bnd (xS ob 3 (gS sl 0) (gS sl 3)) fun v4 =>
   bnd (lN ob 3 v4) fun v5 =>
   bnd (xS ob 3 (gS sl 0) (gS sl 2)) fun v6 =>
   bnd (lN ob 3 v6) fun v7 =>
   bnd (xS ob 3 (gS sl 0) (gS sl 2)) fun v8 =>
   bndO (st ob 3 v8 v5) ob fun _ ob =>
   bnd (xS ob 3 (gS sl 0) (gS sl 3)) fun v9 =>
   bndO (st ob 3 v9 v7) ob fun _ ob =>
   bnd (bi .add (gS sl 2) (.i .i64 1)) fun v10 =>
   bnd (bi .sub (gS sl 3) (.i .i64 1)) fun v11 =>
   bnd (head [] [0, 2, 3] [] [(0, (gS sl 0)), (2, v10), (3, v11)] ob) fun x => g x.1 x.2
  ) (
   fin ob os.length [] []
  )
noncomputable def m47 : Body := fun Φ N as os =>
  let a0 := gS (zipN 0 as) 0
  let ob := zipN 0 os
  bnd (len a0) fun v1 =>
  bnd (bi .sub v1 (.i .i64 1)) fun v2 =>
  bnd (head [] [0, 2, 3] [] [(0, a0), (2, (.i .i64 0)), (3, v2)] ob) fun x => loopC (m47b0 Φ N os) N x.1 x.2

def ann47 : Nat → Option Hd
  | 1 => some ⟨[], [0, 2, 3], [], []⟩ | _ => none
def lab47 : Nat → Option Hd := fun _ => none
/-- All functions, by their numbers. -/
noncomputable def tab : Nat → Option Body
  | 3 => some m3
  | 4 => some m4
  | 5 => some m5
  | 6 => some m6
  | 7 => some m7
  | 8 => some m8
  | 9 => some m9
  | 10 => some m10
  | 11 => some m11
  | 12 => some m12
  | 13 => some m13
  | 14 => some m14
  | 15 => some m15
  | 16 => some m16
  | 17 => some m17
  | 18 => some m18
  | 19 => some m19
  | 20 => some m20
  | 21 => some m21
  | 22 => some m22
  | 23 => some m23
  | 24 => some m24
  | 25 => some m25
  | 26 => some m26
  | 27 => some m27
  | 28 => some m28
  | 29 => some m29
  | 30 => some m30
  | 31 => some m31
  | 32 => some m32
  | 33 => some m33
  | 34 => some m34
  | 35 => some m35
  | 36 => some m36
  | 37 => some m37
  | 38 => some m38
  | 39 => some m39
  | 40 => some m40
  | 41 => some m41
  | 42 => some m42
  | 44 => some m44
  | 45 => some m45
  | 46 => some m46
  | 47 => some m47
  | _ => none
end Go.Proofs.Ytmhpkdcnhgmblaa
