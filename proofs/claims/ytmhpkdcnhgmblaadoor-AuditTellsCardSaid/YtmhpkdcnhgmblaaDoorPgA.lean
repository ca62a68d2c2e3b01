import Derived.Test.YtmhpkdcnhgmblaaDoorMir1
set_option linter.all false
set_option linter.unusedSimpArgs false
set_option linter.unusedVariables false
namespace Go.Proofs.YtmhpkdcnhgmblaaDoor
open Go
section
section
variable {α β : Type}
theorem k_g0 (a : α) (l : List α) : (a :: l)[0]? = some a := rfl
theorem k_gs (a : α) (l : List α) (n : Nat) : (a :: l)[n + 1]? = l[n]? := rfl
theorem k_bnd (a : α) (f : α → Option β) : bnd (some a) f = f a := rfl
theorem k_bndO (v : PV) (u ob : OB) (f : PV → OB → Option β) : bndO (some (v, u)) ob f = f v (u ++ ob) := rfl
theorem k_br_t (a b : Option (PV × List Obj')) : br (.b true) a b = a := rfl
theorem k_br_f (a b : Option (PV × List Obj')) : br (.b false) a b = b := rfl
theorem k_br_u (a b : Option (PV × List Obj')) : br .ub a b = agree a b := rfl
theorem k_agree (v v' : PV) (o o' : List Obj') : agree (some (v, o)) (some (v', o')) = if (eqV v v' && eqOs o o') = true then some (v, o) else none := rfl
theorem k_loop (F : (SL → OB → Option R) → SL → OB → Option R) (n : Nat) (sl : SL) (ob : OB) : loopC F (n + 1) sl ob = F (loopC F n) sl ob := rfl
theorem w64 {x : Int} (h : -9223372036854775808 ≤ x) (h' : x ≤ 9223372036854775807) : IntKind.i64.wrap x = x := by rw [IntKind.wrap_i64]; omega
variable (k : IntKind) (a b : Int) (x y : Bool) (s t : List UInt8)
theorem k_add : bi .add (.i k a) (.i k b) = some (.i k (k.wrap (a + b))) := by simp [bi, binI, isShift]
theorem k_sub : bi .sub (.i k a) (.i k b) = some (.i k (k.wrap (a - b))) := by simp [bi, binI, isShift]
theorem k_mul : bi .mul (.i k a) (.i k b) = some (.i k (k.wrap (a * b))) := by simp [bi, binI, isShift]
theorem k_lss : bi .lss (.i k a) (.i k b) = some (.b (decide (a < b))) := by simp [bi, binI, isShift]
theorem k_leq : bi .leq (.i k a) (.i k b) = some (.b (decide (a ≤ b))) := by simp [bi, binI, isShift]
theorem k_gtr : bi .gtr (.i k a) (.i k b) = some (.b (decide (a > b))) := by simp [bi, binI, isShift]
theorem k_geq : bi .geq (.i k a) (.i k b) = some (.b (decide (a ≥ b))) := by simp [bi, binI, isShift]
theorem k_eql : bi .eql (.i k a) (.i k b) = some (.b (a == b)) := by simp [bi, binI, isShift]
theorem k_neq : bi .neq (.i k a) (.i k b) = some (.b (a != b)) := by simp [bi, binI, isShift]
theorem k_rem : bi .rem (.i k a) (.i k b) = if b = 0 then none else some (.i k (a.tmod b)) := by simp [bi, binI, isShift]
theorem k_quo : bi .quo (.i k a) (.i k b) = if b = 0 then none else some (.i k (k.wrap (a.tdiv b))) := by simp [bi, binI, isShift]
theorem k_and : bi .and (.i k a) (.i k b) = some (.i k (k.wrap (BitVec.ofInt k.bits a &&& BitVec.ofInt k.bits b).toNat)) := by simp [bi, binI, isShift]
theorem k_or : bi .or (.i k a) (.i k b) = some (.i k (k.wrap (BitVec.ofInt k.bits a ||| BitVec.ofInt k.bits b).toNat)) := by simp [bi, binI, isShift]
theorem k_xor : bi .xor (.i k a) (.i k b) = some (.i k (k.wrap (BitVec.ofInt k.bits a ^^^ BitVec.ofInt k.bits b).toNat)) := by simp [bi, binI, isShift]
theorem k_shl (j : IntKind) : bi .shl (.i k a) (.i j b) = if b < 0 then none else some (.i k (k.wrap (a * 2 ^ (min b.toNat k.bits)))) := by simp [bi, isShift, shiftI]
theorem k_shr (j : IntKind) : bi .shr (.i k a) (.i j b) = if b < 0 then none else some (.i k (a.fdiv (2 ^ (min b.toNat k.bits)))) := by simp [bi, isShift, shiftI]
theorem k_seql : bi .eql (.s s) (.s t) = some (.b (decide (s = t))) := rfl
theorem k_sneq : bi .neq (.s s) (.s t) = some (.b (!decide (s = t))) := rfl
theorem k_sadd : bi .add (.s s) (.s t) = if s.length + t.length ≤ two32 then some (.s (s ++ t)) else none := rfl
theorem k_beql : biB .eql (.b x) (.b y) = some (.b (x == y)) := rfl
theorem k_bneq : biB .neq (.b x) (.b y) = some (.b (!(x == y))) := rfl
theorem k_not : uO .not (.b x) = some (.b (!x)) := rfl
theorem k_neg : uO .neg (.i k a) = some (.i k (k.wrap (0 - a))) := rfl
theorem k_com : uO .xor (.i k a) = binI .xor k (if k.signed then -1 else k.max) a := rfl
theorem k_cv (j : IntKind) : cv j (.i k a) = some (.i j (j.wrap a)) := rfl
theorem k_pk (u v : PV) : pk (.b x) u v = if x = true then some u else some v := rfl
theorem k_gd (w : Bool) (z : Option PV) : gd (.b x) w z = if x = w then z else some (.tup []) := rfl
theorem k_gdt (w : Bool) (z : Option PV) : gd (.tup []) w z = some (.tup []) := rfl
theorem k_gdO (w : Bool) (z : Option Up) : gdO (.b x) w z = if x = w then z else some (.tup [], []) := rfl
theorem k_gdOt (w : Bool) (z : Option Up) : gdO (.tup []) w z = some (.tup [], []) := rfl
theorem k_ext (vs : List PV) (n : Nat) : ext n (.tup vs) = vs[n]? := rfl
variable (o v i off n m : Nat) (ob : OB) (g : Bool) (xs : List (List PV)) (ps : List PV) (X : Obj')
theorem k_fA : fA n (.p o v i off none) = some (.p o v i (off + n) none) := rfl
theorem k_l1 : l1 ob (.p o v i off none) = hd1 (atO (getO ob o) v i off) := rfl
theorem k_l1b : l1 ob (.p o v i off (some n)) = nthB (blobAt (atO (getO ob o) v i off)) n := rfl
theorem k_l1q : l1 ob (.q g ps none) = hd1 (some (ps.map (rt g))) := rfl
theorem k_l1qb : l1 ob (.q g ps (some n)) = nthB (blobAt (some ps)) n := rfl
theorem k_lN : lN ob n (.p o v i off none) = aggO (takeO (atO (getO ob o) v i off) n) := rfl
theorem k_lNq : lN ob n (.q g ps none) = aggO (takeO (some (ps.map (rt g))) n) := rfl
theorem k_atO : atO (some X) v i off = if X.ver = v then atE X.pu X.g X.els[i]? off else none := rfl
theorem k_atE (p : Bool) (el : List PV) : atE p g (some el) off = (dropW el off).map fun r => if p = true then r.map (rt g) else r := by cases p <;> rfl
theorem k_aggO : aggO (some ps) = some (.agg ps) := rfl
theorem k_takeO : takeO (some ps) n = takeW ps n := rfl
theorem k_blobAt (r : List PV) : blobAt (some (.blob m ps :: r)) = some ps := rfl
theorem k_nthB : nthB (some ps) n = ps[n]? := rfl
theorem k_hd_i (r : List PV) : hd1 (some (.i k a :: r)) = some (.i k a) := rfl
theorem k_hd_b (r : List PV) : hd1 (some (.b x :: r)) = some (.b x) := rfl
theorem k_hd_s (r : List PV) : hd1 (some (.s s :: r)) = some (.s s) := rfl
theorem k_hd_l (r : List PV) : hd1 (some (.l g xs :: r)) = some (.l g xs) := rfl
theorem k_hd_e (r : List PV) : hd1 (some (.e x :: r)) = some (.e x) := rfl
theorem k_hd_sl (r : List PV) : hd1 (some (.sl o v i n :: r)) = some (.sl o v i n) := rfl
theorem k_rt_l (g' : Bool) : rt g (.l g' xs) = .l g xs := rfl
theorem k_rt_i : rt g (.i k a) = .i k a := rfl
theorem k_rt_b : rt g (.b x) = .b x := rfl
theorem k_rt_s : rt g (.s s) = .s s := rfl
theorem k_rt_blob : rt g (.blob n ps) = .blob n ps := rfl
theorem k_st (w : PV) : st ob n (.p o v i off none) w = if stv w = true ∧ wds (cellsOf w) = n then stX ob o v i off w (getO ob o) else none := rfl
theorem k_stb (w : PV) : st ob n (.p o v i off (some m)) w = if n = 1 then stB o v i off m w (getO ob o) else none := rfl
theorem k_stX (w : PV) : stX ob o v i off w (some X) = if X.fro = false ∧ X.ver = v then stE ob o X i off w X.els[i]? else none := rfl
theorem k_stE (w : PV) (el : List PV) : stE ob o X i off w (some el) = if X.pu = true then stP o X i el off (puris ob (cellsOf w)) else stD o X i (putW el off (cellsOf w)) := rfl
theorem k_stD (el : List PV) : stD o X i (some el) = some (.tup [], [(o, { X with els := X.els.set i el })]) := rfl
theorem k_stB (w : PV) : stB o v i off m w (some X) = if X.fro = false ∧ X.ver = v ∧ X.pu = false ∧ scal w = true then stG o X i off m w X.els[i]? else none := rfl
theorem k_stG (w : PV) (el : List PV) : stG o X i off m w (some el) = stF o X i m w (dropW el off) (takeW el off) := rfl
theorem k_stF (w : PV) (r p : List PV) : stF o X i m w (some (.blob n ps :: r)) (some p) = if m < ps.length then some (.tup [], [(o, { X with els := X.els.set i (p ++ (.blob n (ps.set m w) :: r)) })]) else none := rfl
theorem k_stP (el l : List PV) (g' : Bool) (u : OB) : stP o X i el off (some (l, g', u)) = stQ o X i g' u (putW el off l) := rfl
theorem k_stQ (el : List PV) (u : OB) : stQ o X i g u (some el) = if u.any (fun y => y.1 == o) then none else some (.tup [], (o, { X with els := X.els.set i el, g := X.g && g }) :: u) := rfl
theorem k_puris0 : puris ob [] = some ([], true, []) := rfl
theorem k_puris (w : PV) (l : List PV) : puris ob (w :: l) = puriC (puri ob w) (puris ob l) := rfl
theorem k_puriC (w : PV) (l : List PV) (g' : Bool) (u u' : OB) : puriC (some (w, g, u)) (some (l, g', u')) = some (w :: l, g && g', u ++ u') := rfl
theorem k_puri_i : puri ob (.i k a) = some (.i k a, true, []) := rfl
theorem k_puri_b : puri ob (.b x) = some (.b x, true, []) := rfl
theorem k_puri_l : puri ob (.l g xs) = some (.l g xs, g, []) := rfl
theorem k_c_agg : cellsOf (.agg ps) = ps := rfl
theorem k_c_i : cellsOf (.i k a) = [.i k a] := rfl
theorem k_c_b : cellsOf (.b x) = [.b x] := rfl
theorem k_c_s : cellsOf (.s s) = [.s s] := rfl
theorem k_c_l : cellsOf (.l g xs) = [.l g xs] := rfl
theorem k_c_e : cellsOf (.e x) = [.e x] := rfl
theorem k_c_sl : cellsOf (.sl o v i n) = [.sl o v i n] := rfl
theorem k_c_p (z : Option Nat) : cellsOf (.p o v i n z) = [.p o v i n z] := rfl
theorem k_sv_agg : stv (.agg ps) = true := rfl
theorem k_sv_i : stv (.i k a) = true := rfl
theorem k_sv_b : stv (.b x) = true := rfl
theorem k_sv_s : stv (.s s) = true := rfl
theorem k_sv_l : stv (.l g xs) = true := rfl
theorem k_sv_e : stv (.e x) = true := rfl
theorem k_sv_sl : stv (.sl o v i n) = true := rfl
theorem k_sc_i : scal (.i k a) = true := rfl
theorem k_sc_b : scal (.b x) = true := rfl
theorem k_wd_i : wd (.i k a) = 1 := rfl
theorem k_wd_b : wd (.b x) = 1 := rfl
theorem k_wd_s : wd (.s s) = 1 := rfl
theorem k_wd_l : wd (.l g xs) = 1 := rfl
theorem k_wd_e : wd (.e x) = 1 := rfl
theorem k_wd_sl : wd (.sl o v i n) = 1 := rfl
theorem k_wd_p (z : Option Nat) : wd (.p o v i n z) = 1 := rfl
theorem k_wd_blob : wd (.blob n ps) = n := rfl
theorem k_al (z : List PV) : al ob n z = newX n (boxO z) (.p n 0 0 0 none) (getO ob n) := rfl
theorem k_bx (w : PV) : bx ob n w = if stv w = true then al ob n (cellsOf w) else none := rfl
theorem k_new (w : PV) : newX n X w none = some (w, [(n, X)]) := rfl
theorem k_len_l : len (.l g xs) = some (.i .i64 xs.length) := rfl
theorem k_len_e : len (.e x) = some (.i .i64 0) := rfl
theorem k_len_sl : len (.sl o v i n) = some (.i .i64 n) := rfl
theorem k_len_bs : len (.bs o v i n) = some (.i .i64 n) := rfl
theorem k_lenS : lenS (.s s) = some (.i .i64 s.length) := rfl
theorem k_cp_e : cp ob (.e x) = some (.i .i64 0) := rfl
theorem k_eNs_l (neg : Bool) : eNs neg ob (.l g xs) = some (eNl neg xs) := rfl
theorem k_eNs_e (neg : Bool) : eNs neg ob (.e x) = some (.b (x ^^ neg)) := rfl
theorem k_xS_l : xS ob n (.l g xs) (.i k a) = if 0 ≤ a then elQ g n xs[a.toNat]? else none := rfl
theorem k_xS_sl : xS ob n (.sl o v i m) (.i k a) = xSO o v i m n a (getO ob o) := rfl
theorem k_xSO : xSO o v i m n a (some X) = if X.ver = v ∧ X.w = n ∧ 0 ≤ a ∧ a < m ∧ i + m ≤ X.els.length then some (.p o v (i + a.toNat) 0 none) else none := rfl
theorem k_elQ (el : List PV) : elQ g n (some el) = if wds el = n then some (.q g el none) else none := rfl
theorem k_xA : xA n (.p o v i off none) (.i k a) = if 0 ≤ a ∧ a < n then some (.p o v i off (some a.toNat)) else none := rfl
theorem k_xAq (r : List PV) : xA n (.q g (.blob m ps :: r) none) (.i k a) = if 0 ≤ a ∧ a < n ∧ m = n then some (.q g (.blob m ps :: r) (some a.toNat)) else none := rfl
theorem k_slc_l (lo hi mx : Option PV) : slc ob (.slice n) (.l g xs) lo hi mx = if allW n xs = true then slL g xs (optI lo 0) (optI hi xs.length) (optI mx xs.length) else none := by cases mx <;> rfl
theorem k_slc_e (lo hi mx : Option PV) : slc ob (.slice n) (.e x) lo hi mx = slE x (optI lo 0) (optI hi 0) (optI mx 0) := by cases mx <;> rfl
theorem k_slc_sl (lo hi mx : Option PV) : slc ob (.slice n) (.sl o v i m) lo hi mx = slO o v i n (getO ob o) (optI lo 0) (optI hi m) (mx.map natI) := by cases mx <;> rfl
theorem k_slL (l h q : Int) : slL g xs (some l) (some h) (some q) = if 0 ≤ l ∧ l ≤ h ∧ h ≤ q ∧ q ≤ xs.length then some (.l g ((xs.take h.toNat).drop l.toNat), []) else none := rfl
theorem k_slE (l h q : Int) : slE x (some l) (some h) (some q) = if 0 ≤ l ∧ l ≤ h ∧ h ≤ q ∧ q ≤ 0 then some (.e x, []) else none := rfl
theorem k_slO (l h : Int) : slO o v i n (some X) (some l) (some h) none = if X.ver = v ∧ X.w = n ∧ 0 ≤ l ∧ l ≤ h ∧ i + h ≤ X.els.length then some (.sl o v (i + l.toNat) (h.toNat - l.toNat), []) else none := rfl
theorem k_opt0 (d : Int) : optI none d = some d := rfl
theorem k_opt1 (d : Int) : optI (some (.i k a)) d = some a := rfl
theorem k_map0 : Option.map natI none = none := rfl
theorem k_allW0 : allW n [] = true := rfl
theorem k_allW1 (w : PV) (r : List PV) : allW n ((w :: r) :: xs) = (wds (w :: r) == n && allW n xs) := rfl
theorem k_fe0 : flatEls [] = true := rfl
theorem k_fe1 (w : PV) (r : List PV) : flatEls ((w :: r) :: xs) = (flats (w :: r) && flatEls xs) := rfl
theorem k_fs0 : flats [] = true := rfl
theorem k_fs1 (w : PV) (r : List PV) : flats (w :: r) = (flat w && flats r) := rfl
theorem k_fl_i : flat (.i k a) = true := rfl
theorem k_fl_b : flat (.b x) = true := rfl
theorem k_fl_l : flat (.l g xs) = false := rfl
theorem k_ap (d : Nat) (u w : PV) : ap ob d n u w = apC ob d n u (cont ob w) := rfl
theorem k_cont_l : cont ob (.l g xs) = some (g, xs) := rfl
theorem k_cont_e : cont ob (.e x) = some (true, []) := rfl
theorem k_cont_s : cont ob (.s s) = some (true, s.map fun c => [.i .u8 c.toNat]) := rfl
theorem k_cont_sl : cont ob (.sl o v i n) = contX (getO ob o) v i n := rfl
theorem k_contL_l : contL ob (.l g xs) = some (g, xs) := rfl
theorem k_contL_e : contL ob (.e x) = some (true, []) := rfl
theorem k_contL_sl : contL ob (.sl o v i n) = contX (getO ob o) v i n := rfl
theorem k_contX : contX (some X) v i n = if X.pu = true ∧ X.ver = v ∧ i + n ≤ X.els.length then some (X.g, (X.els.drop i).take n) else none := rfl
theorem k_apC (d : Nat) (u : PV) : apC ob d n u (some (g, xs)) = apE ob d n g xs u := rfl
theorem k_apE_e (d : Nat) : apE ob d n g xs (.e x) = if xs.length ≤ two32 ∧ allW n xs = true then newX d (row xs n (g || flatEls xs)) (.sl d 0 0 xs.length) (getO ob d) else none := rfl
theorem k_apE_sl (d : Nat) : apE ob d n g xs (.sl o v i m) = apO o v i m n g xs (getO ob o) := rfl
theorem k_apO (ys : List (List PV)) : apO o v i m n g ys (some X) = if X.ver = v ∧ X.w = n ∧ X.pu = true ∧ X.fro = false ∧ i = 0 ∧ m ≤ X.els.length ∧ m + ys.length ≤ two32 ∧ allW n ys = true then
      if m + ys.length ≤ X.els.length then
        some (.sl o v 0 (m + ys.length), [(o, { X with els := X.els.take m ++ (ys ++ X.els.drop (m + ys.length)), g := X.g && (g || flatEls ys) })])
      else some (.sl o (v + 1) 0 (m + ys.length), [(o, { els := X.els.take m ++ ys, w := n, pu := true, g := X.g && (g || flatEls ys), cap := none, ver := v + 1, fro := false })])
    else none := rfl
theorem k_apz (d : Nat) (z : List PV) (u : PV) : apz ob d z u (.i k a) = if 0 ≤ a ∧ a ≤ two32 ∧ isPures (zps z) = true then apE ob d (wds z) true (List.replicate a.toNat (zps z)) u else none := rfl
theorem k_bldS0 (d : Nat) : bldS ob d n [] = some (.e false, []) := rfl
theorem k_bldS (d : Nat) (w : PV) (r : List PV) : bldS ob d n (w :: r) = if stvs (w :: r) = true ∧ allW n (cellsL (w :: r)) = true then newX d { els := cellsL (w :: r), w := n, pu := isPureEls (cellsL (w :: r)), g := noExtEls (cellsL (w :: r)) || !isPureEls (cellsL (w :: r)), cap := some (w :: r).length, ver := 0, fro := false } (.sl d 0 0 (w :: r).length) (getO ob d) else none := rfl
theorem k_bld (z : List PV) (l : List (Nat × Nat × PV)) : bld z l = aggO (bldC (some z) l) := rfl
theorem k_bldC0 (z : List PV) : bldC (some z) [] = some z := rfl
theorem k_bldC (z : List PV) (w : PV) (r : List (Nat × Nat × PV)) : bldC (some z) ((off, n, w) :: r) = if stv w = true ∧ wds (cellsOf w) = n then bldC (putB z off (cellsOf w)) r else none := rfl
theorem k_eAr (l r : List PV) (neg : Bool) (m' : Nat) : eAr neg n (.agg [.blob m l]) (.agg [.blob m' r]) = if m = n ∧ m' = n then (eqIs l r).map fun x => .b (x ^^ neg) else none := rfl
theorem k_b2s (w : PV) : b2s ob w = b2sC (contL ob w) := rfl
theorem k_b2sC : b2sC (some (g, xs)) = strO (unB xs) := rfl
theorem k_strO : strO (some s) = some (.s s) := rfl
variable (Φ : Sem') (d f : Nat) (l : List PV)
theorem k_ca0 : ca0 Φ ob d g f l = ca0X Φ ob d f (reifiesN g ob l) := rfl
theorem k_ca0X (L : List Nat) : ca0X Φ ob d f (some (l, L)) = if refsL l = [] then ca0R ob d L (Φ f l []) else none := rfl
theorem k_ca0R (L : List Nat) (r : PV) (out : List Obj') : ca0R ob d L (some (r, out)) = back0 ob d L r out := rfl
theorem k_reiN0 : reifiesN false ob l = reifies1 ob l := rfl
theorem k_reiN1 : reifiesN true ob l = reifies ob l := rfl
theorem k_rs1_0 : reifies1 ob [] = some ([], []) := rfl
theorem k_rs_0 : reifies ob [] = some ([], []) := rfl
theorem k_rl_0 : reifyL ob [] = some ([], []) := rfl
theorem k_re_0 : reifyEls ob [] = some ([], []) := rfl
theorem k_rs1 (w : PV) (r : List PV) : reifies1 ob (w :: r) = bnd (reify1 ob w) fun a => bnd (reifies1 ob r) fun b => some (a.1 :: b.1, a.2 ++ b.2) := by
  simp only [reifies1]; cases reify1 ob w <;> cases reifies1 ob r <;> rfl
theorem k_rs (w : PV) (r : List PV) : reifies ob (w :: r) = bnd (reify ob w) fun a => bnd (reifies ob r) fun b => some (a.1 :: b.1, a.2 ++ b.2) := by
  simp only [reifies]; cases reify ob w <;> cases reifies ob r <;> rfl
theorem k_rl (w : PV) (r : List PV) : reifyL ob (w :: r) = bnd (reify0 ob w) fun a => bnd (reifyL ob r) fun b => some (a.1 :: b.1, a.2 ++ b.2) := by
  simp only [reifyL]; cases reify0 ob w <;> cases reifyL ob r <;> rfl
theorem k_re (w : List PV) (r : List (List PV)) : reifyEls ob (w :: r) = bnd (reifyL ob w) fun a => bnd (reifyEls ob r) fun b => some (a.1 :: b.1, a.2 ++ b.2) := by
  simp only [reifyEls]; cases reifyL ob w <;> cases reifyEls ob r <;> rfl
theorem k_r0_l : reify0 ob (.l g xs) = some (.l false xs, []) := rfl
theorem k_r0_e : reify0 ob (.e x) = some (.l false [], []) := rfl
theorem k_r0_i : reify0 ob (.i k a) = some (.i k a, []) := rfl
theorem k_r0_b : reify0 ob (.b x) = some (.b x, []) := rfl
theorem k_r0_s : reify0 ob (.s s) = some (.s s, []) := rfl
theorem k_r0_blob : reify0 ob (.blob n ps) = some (.blob n ps, []) := rfl
theorem k_r0_sl : reify0 ob (.sl o v i n) = (contX (getO ob o) v i n).map fun r => (.l false r.2, [o]) := rfl
theorem k_r0_bs : reify0 ob (.bs o v i n) = (contL ob (.bs o v i n)).map fun r => (.l false r.2, [o]) := rfl
theorem k_r1_agg : reify1 ob (.agg ps) = (reifyL ob ps).map fun r => (.agg r.1, r.2) := rfl
theorem k_r1_l : reify1 ob (.l g xs) = some (.l false xs, []) := rfl
theorem k_r1_e : reify1 ob (.e x) = some (.l false [], []) := rfl
theorem k_r1_i : reify1 ob (.i k a) = some (.i k a, []) := rfl
theorem k_r1_b : reify1 ob (.b x) = some (.b x, []) := rfl
theorem k_r1_s : reify1 ob (.s s) = some (.s s, []) := rfl
theorem k_r1_sl : reify1 ob (.sl o v i n) = (contX (getO ob o) v i n).map fun r => (.l false r.2, [o]) := rfl
theorem k_r1_bs : reify1 ob (.bs o v i n) = (contL ob (.bs o v i n)).map fun r => (.l false r.2, [o]) := rfl
theorem k_contL_bs : contL ob (.bs o v i n) = contB (blobAt (atO (getO ob o) 0 0 v)) i n := rfl
theorem k_contB : contB (some ps) i n = if i + n ≤ ps.length then some (true, ((ps.drop i).take n).map fun v => [v]) else none := rfl
theorem k_r_l : reify ob (.l g xs) = some (.l false xs, []) := rfl
theorem k_r_sl : reify ob (.sl o v i n) = (match getO ob o with
    | some x =>
      if x.pu then reify0 ob (.sl o v i n)
      else if x.ver = v ∧ i + n ≤ x.els.length then (reifyEls ob ((x.els.drop i).take n)).bind fun r => if isPureEls r.1 then some (.l false r.1, o :: r.2) else none
      else none
    | none => none) := rfl
theorem k_back0 (L : List Nat) (r : PV) : back0 ob d L r [] = if L.isEmpty || noExt r then some (ren (d + ·) r, []) else (frz ob L).map fun z => (ren (d + ·) r, z) := rfl
theorem k_back1 (L : List Nat) (r : PV) (Y : Obj') (out : List Obj') : back0 ob d L r (Y :: out) = if 8 < (Y :: out).length then none else bnd (newOs ob (d + ·) d (Y :: out)) fun w => if L.isEmpty || (noExt r && (Y :: out).all noExtO) then some (ren (d + ·) r, w) else (frz ob L).map fun z => (ren (d + ·) r, w ++ z) := by
  simp only [back0]
  split
  · rfl
  · cases newOs ob (d + ·) d (Y :: out) <;> rfl
theorem k_one1 (w : PV) : one [w] = w := rfl
theorem k_one2 (w u : PV) (r : List PV) : one (w :: u :: r) = .tup (w :: u :: r) := rfl
theorem k_handX (L : List Nat) : handX L o v i n (some X) = (X.pu && !X.fro && X.ver == v && i == 0 && decide (n ≤ X.els.length) && cntN o L == 1) := rfl
theorem k_rowX : rowX n (some X) = [row (X.els.take n) X.w X.g] := rfl
theorem k_ca (l : List PV) (h : refsL l = []) : ca Φ ob d true f l = ca0R ob d [] (Φ f l []) := by
  simp [ca, hand, h, reach]; cases Φ f l [] <;> rfl
theorem k_ca_ei : ca Φ ob d true f [.e x, .i k a] = ca0R ob d [] (Φ f [.e x, .i k a] []) := k_ca ob Φ d f _ (by simp [refsL, refs])
theorem k_fin1 (w : Nat) (ws : List Nat) (u : PV) : fin ob 0 (w :: ws) [u] = resO 0 ob (refs u) 0 w u := by
  simp only [fin, refsL, List.append_nil, refsOuts, resOs, outOs, List.headD_cons]
  cases resO 0 ob (refs u) 0 w u with
  | none => rfl
  | some r => simp [one]
theorem k_fin2 (w w' : Nat) (ws : List Nat) (u u' : PV) : fin ob 0 (w :: w' :: ws) [u, u'] = bnd (resO 0 ob (refs u ++ refs u') 0 w u) fun a => bnd (resO 0 ob (refs u ++ refs u') a.2.length w' u') fun b => some (.tup [a.1, b.1], a.2 ++ b.2) := by
  simp only [fin, refsL, List.append_nil, refsOuts, resOs, outOs, List.headD_cons, List.tail_cons, Nat.zero_add]
  cases resO 0 ob (refs u ++ refs u') 0 w u with
  | none => rfl
  | some r =>
    simp only [k_bnd]
    cases resO 0 ob (refs u ++ refs u') r.2.length w' u' with
    | none => rfl
    | some q => simp [one, k_bnd]
theorem k_res_b (L : List Nat) (nx w : Nat) : resO m ob L nx w (.b x) = some (.b x, []) := rfl
theorem k_res_i (L : List Nat) (nx w : Nat) : resO m ob L nx w (.i k a) = some (.i k a, []) := rfl
theorem k_res_s (L : List Nat) (nx w : Nat) : resO m ob L nx w (.s s) = some (.s s, []) := rfl
theorem k_res_l (L : List Nat) (nx w : Nat) : resO m ob L nx w (.l g xs) = some (.l g xs, []) := rfl
theorem k_res_e (L : List Nat) (nx w : Nat) : resO m ob L nx w (.e x) = some (.sl nx 0 0 0, [row [] w true]) := rfl
theorem k_res_agg (L : List Nat) (nx w : Nat) : resO m ob L nx w (.agg ps) = (seaL m ob ps).map fun c => (.agg c, []) := by
  simp only [resO, sea, Option.map_map]; rfl
theorem k_res_sl (L : List Nat) (nx w : Nat) : resO m ob L nx w (.sl o v i n) = if o < m then some (.sl o v i n, []) else if handX L o v i n (getO ob o) = true then some (.sl nx 0 0 n, rowX n (getO ob o)) else (sea m ob (.sl o v i n)).map fun v => (v, []) := rfl
theorem k_head (nc : List NC) (ts os : List Nat) (sl : SL) (p : Nat × Obj') (r : OB) : head nc ts os sl (p :: r) = (match keepO (p :: r) os with
  | some kb => if (keysO (p :: r)).all (fun o => decide (64 ≤ o) || os.contains o) = false then none else headF os (headC (p :: r) nc (keepS sl ts) kb [] [])
  | none => none) := rfl
theorem k_head0 (nc : List NC) (ts os : List Nat) (sl : SL) : head nc ts os sl [] = (match keepO [] os with
  | some kb => headF os (headC [] nc (keepS sl ts) kb [] [])
  | none => none) := by unfold head; cases keepO [] os <;> simp [keysO]
theorem k_headF (os : List Nat) (sl : SL) (kb rows : OB) (src : List Nat) : headF os (some (sl, kb, rows, src)) = if headOK os src rows (refsS sl ++ refsOB kb) = true then some (sl, rows ++ kb) else none := rfl
theorem k_headOK (os src all : List Nat) (rows : OB) : headOK os src rows all = (src.all (fun o => !os.contains o) && (keysO rows).all (fun o => !os.contains o && cntN o all == 1) && all.all fun o => os.contains o || (keysO rows).contains o) := rfl
theorem k_hc0 (sl : SL) (kb rows : OB) (src : List Nat) : headC ob [] sl kb rows src = some (sl, kb, rows, src) := rfl
theorem k_asR_e : asR ob n (.e x) = some (row [] n true, 0, []) := rfl
theorem k_asR_sl : asR ob n (.sl o v i m) = (match getO ob o with
    | some x => if 64 ≤ o ∧ x.pu = true ∧ x.fro = false ∧ x.ver = v ∧ x.w = n ∧ i = 0 ∧ m = x.els.length then some ({ x with ver := 0, cap := none }, m, [o]) else none
    | none => none) := rfl
theorem k_r_i : reify ob (.i k a) = some (.i k a, []) := rfl
theorem k_r_b : reify ob (.b x) = some (.b x, []) := rfl
theorem k_r_s : reify ob (.s s) = some (.s s, []) := rfl
theorem k_r_e : reify ob (.e x) = some (.l false [], []) := rfl
theorem k_r_agg (l : List PV) : reify ob (.agg l) = (reifyL ob l).map fun r => (.agg r.1, r.2) := rfl
theorem k_fAq (g' : Bool) (l : List PV) : fA n (.q g' l none) = qO g' (dropW l n) := rfl
theorem k_qO (g' : Bool) (l : List PV) : qO g' (some l) = some (.q g' l none) := rfl
theorem k_c_np : cellsOf .np = [.np] := rfl
theorem k_wd_np : wd .np = 1 := rfl
theorem k_sea_sl : sea m ob (.sl o v i n) = if m ≤ o then (contX (getO ob o) v i n).map fun r => .l r.1 r.2 else some (.sl o v i n) := by simp only [sea]
end
def KS := And.intro @k_g0 (And.intro @k_gs (And.intro @k_bnd (And.intro @k_bndO (And.intro @k_br_t (And.intro @k_br_f (And.intro @k_br_u (And.intro @k_agree (And.intro @k_loop (And.intro @k_add (And.intro @k_sub (And.intro @k_mul (And.intro @k_lss (And.intro @k_leq (And.intro @k_gtr (And.intro @k_geq (And.intro @k_eql (And.intro @k_neq (And.intro @k_rem (And.intro @k_quo (And.intro @k_and (And.intro @k_or (And.intro @k_xor (And.intro @k_shl (And.intro @k_shr (And.intro @k_seql (And.intro @k_sneq (And.intro @k_sadd (And.intro @k_beql (And.intro @k_bneq (And.intro @k_not (And.intro @k_neg (And.intro @k_com (And.intro @k_cv (And.intro @k_pk (And.intro @k_gd (And.intro @k_gdt (And.intro @k_gdO (And.intro @k_gdOt (And.intro @k_ext (And.intro @k_fA (And.intro @k_l1 (And.intro @k_l1b (And.intro @k_l1q (And.intro @k_l1qb (And.intro @k_lN (And.intro @k_lNq (And.intro @k_atO (And.intro @k_atE (And.intro @k_aggO (And.intro @k_takeO (And.intro @k_blobAt (And.intro @k_nthB (And.intro @k_hd_i (And.intro @k_hd_b (And.intro @k_hd_s (And.intro @k_hd_l (And.intro @k_hd_e (And.intro @k_hd_sl (And.intro @k_rt_l (And.intro @k_rt_i (And.intro @k_rt_b (And.intro @k_rt_s (And.intro @k_rt_blob (And.intro @k_st (And.intro @k_stb (And.intro @k_stX (And.intro @k_stE (And.intro @k_stD (And.intro @k_stB (And.intro @k_stG (And.intro @k_stF (And.intro @k_stP (And.intro @k_stQ (And.intro @k_puris0 (And.intro @k_puris (And.intro @k_puriC (And.intro @k_puri_i (And.intro @k_puri_b (And.intro @k_puri_l (And.intro @k_c_agg (And.intro @k_c_i (And.intro @k_c_b (And.intro @k_c_s (And.intro @k_c_l (And.intro @k_c_e (And.intro @k_c_sl (And.intro @k_c_p (And.intro @k_sv_agg (And.intro @k_sv_i (And.intro @k_sv_b (And.intro @k_sv_s (And.intro @k_sv_l (And.intro @k_sv_e (And.intro @k_sv_sl (And.intro @k_sc_i (And.intro @k_sc_b (And.intro @k_wd_i (And.intro @k_wd_b (And.intro @k_wd_s (And.intro @k_wd_l (And.intro @k_wd_e (And.intro @k_wd_sl (And.intro @k_wd_p (And.intro @k_wd_blob (And.intro @k_al (And.intro @k_bx (And.intro @k_new (And.intro @k_len_l (And.intro @k_len_e (And.intro @k_len_sl (And.intro @k_len_bs (And.intro @k_lenS (And.intro @k_cp_e (And.intro @k_eNs_l (And.intro @k_eNs_e (And.intro @k_xS_l (And.intro @k_xS_sl (And.intro @k_xSO (And.intro @k_elQ (And.intro @k_xA (And.intro @k_xAq (And.intro @k_slc_l (And.intro @k_slc_e (And.intro @k_slc_sl (And.intro @k_slL (And.intro @k_slE (And.intro @k_slO (And.intro @k_opt0 (And.intro @k_opt1 (And.intro @k_map0 (And.intro @k_allW0 (And.intro @k_allW1 (And.intro @k_fe0 (And.intro @k_fe1 (And.intro @k_fs0 (And.intro @k_fs1 (And.intro @k_fl_i (And.intro @k_fl_b (And.intro @k_fl_l (And.intro @k_ap (And.intro @k_cont_l (And.intro @k_cont_e (And.intro @k_cont_s (And.intro @k_cont_sl (And.intro @k_contL_l (And.intro @k_contL_e (And.intro @k_contL_sl (And.intro @k_contX (And.intro @k_apC (And.intro @k_apE_e (And.intro @k_apE_sl (And.intro @k_apO (And.intro @k_apz (And.intro @k_bldS0 (And.intro @k_bldS (And.intro @k_bld (And.intro @k_bldC0 (And.intro @k_bldC (And.intro @k_eAr (And.intro @k_b2s (And.intro @k_b2sC (And.intro @k_strO (And.intro @k_ca0 (And.intro @k_ca0X (And.intro @k_ca0R (And.intro @k_reiN0 (And.intro @k_reiN1 (And.intro @k_rs1_0 (And.intro @k_rs_0 (And.intro @k_rl_0 (And.intro @k_re_0 (And.intro @k_rs1 (And.intro @k_rs (And.intro @k_rl (And.intro @k_re (And.intro @k_r0_l (And.intro @k_r0_e (And.intro @k_r0_i (And.intro @k_r0_b (And.intro @k_r0_s (And.intro @k_r0_blob (And.intro @k_r0_sl (And.intro @k_r0_bs (And.intro @k_r1_agg (And.intro @k_r1_l (And.intro @k_r1_e (And.intro @k_r1_i (And.intro @k_r1_b (And.intro @k_r1_s (And.intro @k_r1_sl (And.intro @k_r1_bs (And.intro @k_contL_bs (And.intro @k_contB (And.intro @k_r_l (And.intro @k_r_sl (And.intro @k_back0 (And.intro @k_back1 (And.intro @k_one1 (And.intro @k_one2 (And.intro @k_handX (And.intro @k_rowX (And.intro @k_ca (And.intro @k_ca_ei (And.intro @k_fin1 (And.intro @k_fin2 (And.intro @k_res_b (And.intro @k_res_i (And.intro @k_res_s (And.intro @k_res_l (And.intro @k_res_e (And.intro @k_res_agg (And.intro @k_res_sl (And.intro @k_head (And.intro @k_head0 (And.intro @k_headF (And.intro @k_headOK (And.intro @k_hc0 (And.intro @k_asR_e (And.intro @k_asR_sl (And.intro @k_r_i (And.intro @k_r_b (And.intro @k_r_s (And.intro @k_r_e (And.intro @k_r_agg (And.intro @k_fAq (And.intro @k_qO (And.intro @k_c_np (And.intro @k_wd_np (@k_sea_sl)))))))))))))))))))))))))))))))))))))))))))))))))))))))))))))))))))))))))))))))))))))))))))))))))))))))))))))))))))))))))))))))))))))))))))))))))))))))))))))))))))))))))))))))))))))))))))))))))))))))))))))))))))))))))))))))))))))
end
section
def byL (xs : List Int) : List (List PV) := xs.map fun n => [.i .u8 n]
def hashV (ns : List Int) (g : Bool) (xs : List Int) (L : Int) : PV := .agg [.blob 8 (ns.map (.i .u32)), .l g (byL xs), .i .i64 L]
theorem byL_len (xs : List Int) : (byL xs).length = xs.length := by simp [byL]
theorem sem_succ (T : Nat → Option Body) (N d f : Nat) (m : Body) (h : T f = some m) (as : List PV) (os : List Obj') : sem T N (d + 1) f as os = m (sem T N d) N as os := by simp [sem, h]
def mayB (n : Nat) (L : Int) : Bool := decide (0 ≤ L) && (decide (L ≤ 1048576) && ((n : Int) == L.tmod 64))
theorem L23 (N d : Nat) (ns xs : List Int) (L : Int) : sem tab N (d + 1) 94 [hashV ns false xs L] [] = some (.b (mayB xs.length L), []) := by
  rw [sem_succ tab N d 94 m94 rfl]
  by_cases h1 : 0 ≤ L
  · by_cases h2 : L ≤ 1048576
    · simp -implicitDefEqProofs (disch := first | omega | rfl) [m94, hashV, byL, mayB, h1, h2, KS, getS, getO, gS, zipN, dropW, wds, refs, boxO, -getElem?_pos]
    · simp -implicitDefEqProofs (disch := first | omega | rfl) [m94, hashV, byL, mayB, h1, h2, KS, getS, getO, gS, zipN, dropW, wds, refs, boxO, -getElem?_pos]
  · simp -implicitDefEqProofs (disch := first | omega | rfl) [m94, hashV, byL, mayB, h1, KS, getS, getO, gS, zipN, dropW, wds, refs, boxO, -getElem?_pos]
theorem L21 (N d : Nat) : sem tab N (d + 1) 86 [] [] = some (hashV nFirst true [] 0, []) := by
  rw [sem_succ tab N d 86 m86 rfl]
  simp -implicitDefEqProofs (disch := first | omega | rfl) [m86, hashV, byL, gFirst, nFirst, KS, getO, zipN, dropW, takeW, wds, sea, seaL, refs, refsL, boxO, putW, putB, putB1, -getElem?_pos]
theorem flat_by (xs : List Int) : flatEls (byL xs) = true := by
  induction xs with
  | nil => rfl
  | cons x r ih => simp only [byL, List.map_cons, flatEls, flats, flat, Bool.true_and]; exact ih
theorem allW_by (xs : List Int) : allW 1 (byL xs) = true := by
  induction xs with
  | nil => rfl
  | cons x r ih => simp only [byL, List.map_cons, allW, wds, wd]; exact ih
theorem L39 (N d : Nat) (xs : List Int) (h : xs.length ≤ 4294967296) : sem tab N (d + 1) 58 [.l false (byL xs)] [] = some (.sl 0 0 0 xs.length, [row (byL xs) 1 true]) := by
  rw [sem_succ tab N d 58 m58 rfl]
  cases xs with
  | nil => simp -implicitDefEqProofs (disch := first | omega | rfl) [m58, byL, allW, flatEls, eqV, eqOs, eqO, eqEls, KS, getS, getO, gS, zipN, refs, cntN, row, eNl, two32, -getElem?_pos]
  | cons x r =>
    have hf := flat_by (x :: r)
    have hw := allW_by (x :: r)
    have hl := byL_len (x :: r)
    generalize hb : byL (x :: r) = b at hf hw hl
    have hne : ∃ y s, b = y :: s := by rw [← hb]; exact ⟨_, _, rfl⟩
    obtain ⟨y, s, rfl⟩ := hne
    have hl2 : r.length = s.length := by simp at hl; omega
    have hle : s.length ≤ 4294967295 := by simp at h; omega
    simp -implicitDefEqProofs (disch := first | omega | rfl) [m58, hw, hf, hle, hl2, KS, getS, getO, gS, zipN, refs, cntN, row, eNl, two32, -getElem?_pos]
end
section
theorem L44 (N d n : Nat) (h : n ≤ 4294967296) : sem tab N (d + 1) 80 [.e true, .i .i64 n] [] = some (.sl 0 0 0 0, [row [] 1 true]) := by
  rw [sem_succ tab N d 80 m80 rfl]
  have hw : IntKind.i64.wrap (n : Int) = n := w64 (by omega) (by omega)
  have hw0 : IntKind.i64.wrap 0 = 0 := w64 (by omega) (by omega)
  have hn0 : ¬ ((n : Int) < 0) := by omega
  rcases Nat.eq_zero_or_pos n with rfl | hp
  · simp -implicitDefEqProofs (disch := first | omega | rfl) [m80, cp, hw0, KS, getS, getO, gS, zipN, wds, refs, isPures, isPure, cntN, row, zps, zp, two32, -getElem?_pos]
  · have hp' : 0 < (n : Int) := by omega
    have hle : (n : Int) ≤ 4294967296 := by omega
    have hnn : (0 : Int) ≤ n := by omega
    have hal : allW 1 (List.replicate n [PV.i .u8 0]) = true := by
      clear hp hp' hle hnn hw hn0 h
      induction n with
      | zero => rfl
      | succ n ih => simp only [List.replicate_succ, allW, wds, wd]; exact ih
    simp -implicitDefEqProofs (disch := first | omega | rfl) [m80, cp, apz, slE, slO, zps, zp, isPures, isPure, hw, hw0, hn0, hp, hle, hnn, hal, KS, getS, getO, gS, zipN, wds, refs, isPures, isPure, cntN, row, zps, zp, two32, -getElem?_pos]
theorem L44' (N d : Nat) (n : Int) (h0 : 0 ≤ n) (h : n ≤ 4294967296) : sem tab N (d + 1) 80 [.e true, .i .i64 n] [] = some (.sl 0 0 0 0, [row [] 1 true]) := by
  obtain ⟨m, rfl⟩ : ∃ m : Nat, n = m := ⟨n.toNat, by omega⟩
  exact L44 N d m (by omega)
set_option maxHeartbeats 2000000 in
theorem L38 (N d : Nat) (xs ys : List Int) (h : xs.length + ys.length ≤ 4294967296) : sem tab (N + 3) (d + 2) 63 [.l false [[.l false (byL xs)], [.l false (byL ys)]]] [] = some (.sl 0 0 0 (xs.length + ys.length), [row (byL (xs ++ ys)) 1 true]) := by
  rw [sem_succ tab (N + 3) (d + 1) 63 m63 rfl]
  have hx := byL_len xs
  have hy := byL_len ys
  have fx := flat_by xs
  have fy := flat_by ys
  have wx := allW_by xs
  have wy := allW_by ys
  have hap : byL (xs ++ ys) = byL xs ++ byL ys := by simp [byL]
  rw [hap]
  generalize byL xs = a at *
  generalize byL ys = b at *
  rw [← hx, ← hy] at h ⊢
  have n1 : ¬ ((a.length : Int) < 0) := by omega
  have n3 : ¬ ((b.length : Int) < 0) := by omega
  have n2 : ¬ ((a.length : Int) + b.length < 0) := by omega
  have h1 : a.length ≤ 4294967296 := by omega
  have h2 : b.length ≤ 4294967296 := by omega
  clear hx hy hap
  by_cases ha : a = []
  · subst ha
    by_cases hb : b = []
    · subst hb
      simp -implicitDefEqProofs (maxSteps := 1000000) (disch := first | omega | rfl) [m63, m63b0, m63b1, L44', allW, flatEls, KS, getS, getO, gS, zipN, wds, refs, noExt, ren, keepO, keepS, keysO, refsS, refsOB, cntN, headC, setS, row, newOs, renO, noExtO, two32, w64, -getElem?_pos]
    · simp -implicitDefEqProofs (maxSteps := 1000000) (disch := first | omega | rfl) [m63, m63b0, m63b1, L44', allW, flatEls, n3, h2, fy, wy, hb, KS, getS, getO, gS, zipN, wds, refs, noExt, ren, keepO, keepS, keysO, refsS, refsOB, cntN, headC, setS, row, newOs, renO, noExtO, two32, w64, -getElem?_pos]
  · by_cases hb : b = []
    · subst hb
      simp -implicitDefEqProofs (maxSteps := 1000000) (disch := first | omega | rfl) [m63, m63b0, m63b1, L44', allW, flatEls, n1, h1, fx, wx, ha, KS, getS, getO, gS, zipN, wds, refs, noExt, ren, keepO, keepS, keysO, refsS, refsOB, cntN, headC, setS, row, newOs, renO, noExtO, two32, w64, -getElem?_pos]
    · have h3 : ¬ (a.length + b.length ≤ a.length) := by
        have := List.length_pos_iff.2 hb
        omega
      simp -implicitDefEqProofs (maxSteps := 1000000) (disch := first | omega | rfl) [m63, m63b0, m63b1, L44', n1, n2, h3, h1, h, fx, fy, wx, wy, ha, KS, getS, getO, gS, zipN, wds, refs, noExt, ren, keepO, keepS, keysO, refsS, refsOB, cntN, headC, setS, row, newOs, renO, noExtO, two32, w64, -getElem?_pos]
      exact List.take_of_length_le (by simp)
end
section
def wL (ws : List Int) : List PV := ws.map (.i .u32)
theorem wL_get (ws : List Int) (j : Nat) : (wL ws)[j]? = (ws[j]?).map (.i .u32) := by simp [wL]
theorem wL_set (ws : List Int) (j : Nat) (y : Int) : (wL ws).set j (.i .u32 y) = wL (ws.set j y) := by simp [wL, List.map_set]
theorem wL_len (ws : List Int) : (wL ws).length = ws.length := by simp [wL]
theorem byL_get (xs : List Int) (j : Nat) : (byL xs)[j]? = (xs[j]?).map fun n => [.i .u8 n] := by simp [byL]
noncomputable def turnF (x n : Int) : Int := match sem tab 0 2 105 [.i .u32 x, .i .i64 n] [] with
  | some (.i _ y, _) => y
  | _ => 0
theorem turn7 (N d : Nat) (x : Int) : sem tab N (d + 2) 105 [.i .u32 x, .i .i64 7] [] = some (.i .u32 (turnF x 7), []) := rfl
theorem turn18 (N d : Nat) (x : Int) : sem tab N (d + 2) 105 [.i .u32 x, .i .i64 18] [] = some (.i .u32 (turnF x 18), []) := rfl
theorem turn17 (N d : Nat) (x : Int) : sem tab N (d + 2) 105 [.i .u32 x, .i .i64 17] [] = some (.i .u32 (turnF x 17), []) := rfl
theorem turn19 (N d : Nat) (x : Int) : sem tab N (d + 2) 105 [.i .u32 x, .i .i64 19] [] = some (.i .u32 (turnF x 19), []) := rfl
theorem turn6 (N d : Nat) (x : Int) : sem tab N (d + 2) 105 [.i .u32 x, .i .i64 6] [] = some (.i .u32 (turnF x 6), []) := rfl
theorem turn11 (N d : Nat) (x : Int) : sem tab N (d + 2) 105 [.i .u32 x, .i .i64 11] [] = some (.i .u32 (turnF x 11), []) := rfl
theorem turn25 (N d : Nat) (x : Int) : sem tab N (d + 2) 105 [.i .u32 x, .i .i64 25] [] = some (.i .u32 (turnF x 25), []) := rfl
theorem turn2 (N d : Nat) (x : Int) : sem tab N (d + 2) 105 [.i .u32 x, .i .i64 2] [] = some (.i .u32 (turnF x 2), []) := rfl
theorem turn13 (N d : Nat) (x : Int) : sem tab N (d + 2) 105 [.i .u32 x, .i .i64 13] [] = some (.i .u32 (turnF x 13), []) := rfl
theorem turn22 (N d : Nat) (x : Int) : sem tab N (d + 2) 105 [.i .u32 x, .i .i64 22] [] = some (.i .u32 (turnF x 22), []) := rfl
def box (cs : List PV) (n : Nat) : Obj' := { els := [cs], w := n, pu := false, g := true, cap := none, ver := 0, fro := false }
def sl48 (b : List (List PV)) (k : Int) : SL := [(0, .l false b), (2, .p 80 0 0 0 none), (3, .p 88 0 0 0 none), (7, .i .i64 k)]
def ob48 (zs ws : List PV) : OB := [(80, box [.blob 64 zs] 64), (88, box [.blob 64 ws] 64)]
set_option maxHeartbeats 4000000 in
theorem step48a (k : Nat) (b : List (List PV)) (zs ws : List PV) (x0 x1 x2 x3 : Int) (hk : k < 16) (hw : ws.length = 64)
    (h0 : b[4 * k]? = some [.i .u8 x0]) (h1 : b[4 * k + 1]? = some [.i .u8 x1]) (h2 : b[4 * k + 2]? = some [.i .u8 x2]) (h3 : b[4 * k + 3]? = some [.i .u8 x3]) :
    ∃ y, ∀ (N d : Nat) (g : SL → OB → Option R), m104b0 (sem tab N (d + 2)) N [] g (sl48 b k) (ob48 zs ws) = g (sl48 b (k + 1 : Nat)) (ob48 zs (ws.set k (.i .u32 y))) := by
  have c1 : (k : Int) < 64 := by omega
  have c2 : (k : Int) < 16 := by omega
  have c3 : (0 : Int) ≤ k := by omega
  have c4 : (0 : Int) ≤ 4 * (k : Int) := by omega
  have c5 : (0 : Int) ≤ 4 * (k : Int) + 1 := by omega
  have c6 : (0 : Int) ≤ 4 * (k : Int) + 2 := by omega
  have c7 : (0 : Int) ≤ 4 * (k : Int) + 3 := by omega
  have t4 : (4 * (k : Int)).toNat = 4 * k := by omega
  have t5 : (4 * (k : Int) + 1).toNat = 4 * k + 1 := by omega
  have t6 : (4 * (k : Int) + 2).toNat = 4 * k + 2 := by omega
  have t7 : (4 * (k : Int) + 3).toNat = 4 * k + 3 := by omega
  have c8 : k < 64 := by omega
  apply Exists.intro
  intro N d g
  simp -implicitDefEqProofs (maxSteps := 1000000) (disch := first | omega | rfl) [m104b0, sl48, ob48, box, c1, c2, c3, c4, c5, c6, c7, c8, t4, t5, t6, t7, h0, h1, h2, h3, hw, KS, getS, getO, gS, dropW, takeW, wds, sea, seaL, refs, refsL, refsEls, refsO, keepO, keepS, keysO, refsS, refsOB, cntN, headC, putW, w64, -getElem?_pos]
  rfl
set_option maxHeartbeats 4000000 in
theorem step48b (k : Nat) (b : List (List PV)) (zs ws : List PV) (x0 x1 x2 x3 : Int) (hk : k < 64) (hk' : 16 ≤ k) (hw : ws.length = 64)
    (h0 : ws[k - 15]? = some (.i .u32 x0)) (h1 : ws[k - 2]? = some (.i .u32 x1)) (h2 : ws[k - 16]? = some (.i .u32 x2)) (h3 : ws[k - 7]? = some (.i .u32 x3)) :
    ∃ y, ∀ (N d : Nat) (g : SL → OB → Option R), m104b0 (sem tab N (d + 2)) N [] g (sl48 b k) (ob48 zs ws) = g (sl48 b (k + 1 : Nat)) (ob48 zs (ws.set k (.i .u32 y))) := by
  have c1 : (k : Int) < 64 := by omega
  have c2 : ¬ ((k : Int) < 16) := by omega
  have c2' : ¬ (k < 16) := by omega
  have c3 : (0 : Int) ≤ k := by omega
  have c4 : (0 : Int) ≤ (k : Int) - 15 := by omega
  have c5 : (0 : Int) ≤ (k : Int) - 2 := by omega
  have c6 : (0 : Int) ≤ (k : Int) - 16 := by omega
  have c7 : (0 : Int) ≤ (k : Int) - 7 := by omega
  have d4 : (k : Int) - 15 < 64 := by omega
  have d5 : (k : Int) - 2 < 64 := by omega
  have d6 : (k : Int) - 16 < 64 := by omega
  have d7 : (k : Int) - 7 < 64 := by omega
  have t4 : ((k : Int) - 15).toNat = k - 15 := by omega
  have t5 : ((k : Int) - 2).toNat = k - 2 := by omega
  have t6 : ((k : Int) - 16).toNat = k - 16 := by omega
  have t7 : ((k : Int) - 7).toNat = k - 7 := by omega
  have c8 : k < 64 := by omega
  have e4 : (15 : Int) ≤ k := by omega
  have e5 : (2 : Int) ≤ k := by omega
  have e6 : (16 : Int) ≤ k := by omega
  have e7 : (7 : Int) ≤ k := by omega
  have w4 : IntKind.i64.wrap ((k : Int) - 15) = (k : Int) - 15 := w64 (by omega) (by omega)
  have w5 : IntKind.i64.wrap ((k : Int) - 2) = (k : Int) - 2 := w64 (by omega) (by omega)
  have w6 : IntKind.i64.wrap ((k : Int) - 16) = (k : Int) - 16 := w64 (by omega) (by omega)
  have w7 : IntKind.i64.wrap ((k : Int) - 7) = (k : Int) - 7 := w64 (by omega) (by omega)
  apply Exists.intro
  intro N d g
  simp -implicitDefEqProofs (maxSteps := 1000000) (disch := first | omega | rfl) [m104b0, sl48, ob48, box, turn7, turn18, turn17, turn19, w4, w5, w6, w7, e4, e5, e6, e7, c1, c2, c3, c8, d4, d5, d6, d7, t4, t5, t6, t7, h0, h1, h2, h3, hw, KS, getS, getO, gS, dropW, takeW, wds, sea, seaL, refs, refsL, refsEls, refsO, noExt, ren, keepO, keepS, keysO, refsS, refsOB, cntN, headC, putW, w64, -getElem?_pos]
  rfl
set_option maxHeartbeats 4000000 in
theorem end48 (N d : Nat) (g : SL → OB → Option R) (b : List (List PV)) (zs ws : List PV) : m104b0 (sem tab N (d + 2)) N [] g (sl48 b 64) (ob48 zs ws) = some (.agg [.blob 64 ws], []) := by
  simp -implicitDefEqProofs (maxSteps := 1000000) (disch := first | omega | rfl) [m104b0, sl48, ob48, box, KS, getS, getO, gS, dropW, takeW, wds, sea, seaL, refs, refsL, putW, w64, -getElem?_pos]
theorem get_of {ws : List Int} {j n : Nat} (h : ws.length = n) (hj : j < n) : ∃ x, ws[j]? = some x := ⟨ws[j], List.getElem?_eq_getElem (by omega)⟩
theorem loop48 (xs : List Int) (hx : xs.length = 64) (zs : List PV) : ∀ (n k : Nat) (ws : List Int), k + n = 64 → ws.length = 64 → ∃ ws', ws'.length = 64 ∧ ∀ N d M : Nat, loopC (m104b0 (sem tab N (d + 2)) N []) (M + 1 + n) (sl48 (byL xs) k) (ob48 zs (wL ws)) = some (.agg [.blob 64 (wL ws')], []) := by
  intro n
  induction n with
  | zero =>
    intro k ws hk hw
    have : k = 64 := by omega
    subst this
    exact ⟨ws, hw, fun N d M => by rw [Nat.add_zero, k_loop]; exact end48 N d _ _ _ _⟩
  | succ n ih =>
    intro k ws hk hw
    have wget : ∀ j, j < 64 → ∃ x, (wL ws)[j]? = some (.i .u32 x) := fun j hj => by
      obtain ⟨x, h⟩ := get_of hw hj
      exact ⟨x, by rw [wL_get, h]; rfl⟩
    have bget : ∀ j, j < 64 → ∃ x, (byL xs)[j]? = some [.i .u8 x] := fun j hj => by
      obtain ⟨x, h⟩ := get_of hx hj
      exact ⟨x, by rw [byL_get, h]; rfl⟩
    have key : ∃ y, ∀ (N d : Nat) (g : SL → OB → Option R), m104b0 (sem tab N (d + 2)) N [] g (sl48 (byL xs) k) (ob48 zs (wL ws)) = g (sl48 (byL xs) (k + 1 : Nat)) (ob48 zs ((wL ws).set k (.i .u32 y))) := by
      by_cases h16 : k < 16
      · obtain ⟨x0, h0⟩ := bget (4 * k) (by omega)
        obtain ⟨x1, h1⟩ := bget (4 * k + 1) (by omega)
        obtain ⟨x2, h2⟩ := bget (4 * k + 2) (by omega)
        obtain ⟨x3, h3⟩ := bget (4 * k + 3) (by omega)
        exact step48a k _ zs (wL ws) x0 x1 x2 x3 h16 (by rw [wL_len]; exact hw) h0 h1 h2 h3
      · obtain ⟨x0, h0⟩ := wget (k - 15) (by omega)
        obtain ⟨x1, h1⟩ := wget (k - 2) (by omega)
        obtain ⟨x2, h2⟩ := wget (k - 16) (by omega)
        obtain ⟨x3, h3⟩ := wget (k - 7) (by omega)
        exact step48b k _ zs (wL ws) x0 x1 x2 x3 (by omega) (by omega) (by rw [wL_len]; exact hw) h0 h1 h2 h3
    obtain ⟨y, hy⟩ := key
    obtain ⟨ws', h1, h2⟩ := ih (k + 1) (ws.set k y) (by omega) (by simpa using hw)
    refine ⟨ws', h1, fun N d M => ?_⟩
    rw [show M + 1 + (n + 1) = (M + 1 + n) + 1 by omega, k_loop, hy, wL_set]
    exact h2 N d M
set_option maxHeartbeats 4000000 in
theorem E48 (xs : List Int) (hx : xs.length = 64) : ∃ ws : List Int, ws.length = 64 ∧ ∀ M d : Nat, sem tab (M + 65) (d + 3) 104 [.l false (byL xs)] [] = some (.agg [.blob 64 (wL ws)], []) := by
  obtain ⟨ws, h1, h2⟩ := loop48 xs hx (List.replicate 64 (.i .u32 0)) 64 0 (List.replicate 64 0) rfl (by simp)
  refine ⟨ws, h1, fun M d => ?_⟩
  have h2 := h2 (M + 65) d M
  rw [sem_succ tab (M + 65) (d + 2) 104 m104 rfl]
  have e : wL (List.replicate 64 0) = List.replicate 64 (.i .u32 0) := by simp [wL]
  rw [e] at h2
  generalize byL xs = b at *
  generalize hz : List.replicate 64 (PV.i IntKind.u32 0) = z at *
  simp only [sl48, ob48, box, Nat.add_assoc] at h2
  simp -implicitDefEqProofs (maxSteps := 1000000) (disch := first | omega | rfl) [m104, hz, KS, getS, getO, gS, zipN, wds, refs, refsL, refsEls, refsO, keepO, keepS, keysO, refsS, refsOB, cntN, headC, boxO, -getElem?_pos]
  exact h2
end
section
def sl43 (k : Int) : SL := [(2, .p 80 0 0 0 none), (4, .p 96 0 0 0 none), (5, .p 104 0 0 0 none), (6, .p 112 0 0 0 none), (16, .i .i64 k)]
def ob43 (r z w x : List PV) : OB := [(80, box [.blob 8 r] 8), (96, box [.blob 8 z] 8), (104, box [.blob 64 w] 64), (112, box [.blob 8 x] 8)]
def sl43b (k : Int) : SL := [(2, .p 80 0 0 0 none), (4, .p 96 0 0 0 none), (6, .p 112 0 0 0 none), (98, .i .i64 k)]
def ob43b (r z x : List PV) : OB := [(80, box [.blob 8 r] 8), (96, box [.blob 8 z] 8), (112, box [.blob 8 x] 8)]
set_option maxHeartbeats 8000000 in
theorem step43 (k : Nat) (r z w mm : List PV) (x0 x1 x2 x3 x4 x5 x6 x7 wk mk : Int) (hk : k < 64) (hm : gMore = [.blob 64 mm]) (h0 : w[k]? = some (.i .u32 wk)) (h1 : mm[k]? = some (.i .u32 mk)) :
    ∃ t u, ∀ (N d : Nat) (g : SL → OB → Option R), m100b1 (sem tab N (d + 2)) N [] g (sl43 k) (ob43 r z w [.i .u32 x0, .i .u32 x1, .i .u32 x2, .i .u32 x3, .i .u32 x4, .i .u32 x5, .i .u32 x6, .i .u32 x7]) =
      g (sl43 (k + 1 : Nat)) (ob43 r z w [.i .u32 t, .i .u32 x0, .i .u32 x1, .i .u32 x2, .i .u32 u, .i .u32 x4, .i .u32 x5, .i .u32 x6]) := by
  have c1 : (k : Int) < 64 := by omega
  have c3 : (0 : Int) ≤ k := by omega
  apply Exists.intro
  apply Exists.intro
  intro N d g
  simp -implicitDefEqProofs (maxSteps := 1000000) (disch := first | omega | rfl) [m100b1, sl43, ob43, box, hm, turn6, turn11, turn25, turn2, turn13, turn22, c1, c3, h0, h1, k_com, binI, KS, getS, getO, gS, dropW, takeW, wds, refs, refsL, refsEls, refsO, noExt, ren, keepO, keepS, keysO, refsS, refsOB, cntN, headC, putW, putB, putB1, w64, -getElem?_pos]
  rfl
set_option maxHeartbeats 4000000 in
theorem mid43 (N d : Nat) (g : SL → OB → Option R) (r z w x : List PV) : m100b1 (sem tab N (d + 2)) N [] g (sl43 64) (ob43 r z w x) = loopC (m100b0 (sem tab N (d + 2)) N []) N (sl43b 0) (ob43b r z x) := by
  simp -implicitDefEqProofs (maxSteps := 1000000) (disch := first | omega | rfl) [m100b1, sl43, ob43, sl43b, ob43b, box, KS, getS, getO, gS, dropW, takeW, refs, refsL, refsEls, refsO, keepO, keepS, keysO, refsS, refsOB, cntN, headC, putW, putB, putB1, w64, -getElem?_pos]
set_option maxHeartbeats 4000000 in
theorem step43b (k : Nat) (r z x : List PV) (a b : Int) (hk : k < 8) (hx : x.length = 8) (h0 : x[k]? = some (.i .u32 a)) (h1 : r[k]? = some (.i .u32 b)) :
    ∃ y, ∀ (N d : Nat) (g : SL → OB → Option R), m100b0 (sem tab N (d + 2)) N [] g (sl43b k) (ob43b r z x) = g (sl43b (k + 1 : Nat)) (ob43b r z (x.set k (.i .u32 y))) := by
  have c1 : (k : Int) < 8 := by omega
  have c3 : (0 : Int) ≤ k := by omega
  apply Exists.intro
  intro N d g
  simp -implicitDefEqProofs (maxSteps := 1000000) (disch := first | omega | rfl) [m100b0, sl43b, ob43b, box, hk, hx, c1, c3, h0, h1, KS, getS, getO, gS, dropW, takeW, wds, sea, seaL, refs, refsL, refsEls, refsO, keepO, keepS, keysO, refsS, refsOB, cntN, headC, putW, w64, -getElem?_pos]
  rfl
set_option maxHeartbeats 4000000 in
theorem end43b (N d : Nat) (g : SL → OB → Option R) (r z x : List PV) : m100b0 (sem tab N (d + 2)) N [] g (sl43b 8) (ob43b r z x) = some (.agg [.blob 8 x], []) := by
  simp -implicitDefEqProofs (maxSteps := 1000000) (disch := first | omega | rfl) [m100b0, sl43b, ob43b, box, KS, getS, getO, gS, dropW, takeW, wds, sea, seaL, refs, refsL, putW, w64, -getElem?_pos]
theorem loop43b (rs : List Int) (hr : rs.length = 8) (z : List PV) : ∀ (n k : Nat) (xs : List Int), k + n = 8 → xs.length = 8 → ∃ ys : List Int, ys.length = 8 ∧ ∀ N d M : Nat, loopC (m100b0 (sem tab N (d + 2)) N []) (M + 1 + n) (sl43b k) (ob43b (wL rs) z (wL xs)) = some (.agg [.blob 8 (wL ys)], []) := by
  intro n
  induction n with
  | zero =>
    intro k xs hk hx
    have : k = 8 := by omega
    subst this
    exact ⟨xs, hx, fun N d M => by rw [Nat.add_zero, k_loop]; exact end43b N d _ _ _ _⟩
  | succ n ih =>
    intro k xs hk hx
    obtain ⟨a, ha⟩ := get_of hx (show k < 8 by omega)
    obtain ⟨b, hb⟩ := get_of hr (show k < 8 by omega)
    obtain ⟨y, hy⟩ := step43b k (wL rs) z (wL xs) a b (by omega) (by rw [wL_len]; exact hx) (by rw [wL_get, ha]; rfl) (by rw [wL_get, hb]; rfl)
    obtain ⟨ys, h1, h2⟩ := ih (k + 1) (xs.set k y) (by omega) (by simpa using hx)
    refine ⟨ys, h1, fun N d M => ?_⟩
    rw [show M + 1 + (n + 1) = (M + 1 + n) + 1 by omega, k_loop, hy, wL_set]
    exact h2 N d M
theorem eight {xs : List Int} (h : xs.length = 8) : ∃ x0 x1 x2 x3 x4 x5 x6 x7, xs = [x0, x1, x2, x3, x4, x5, x6, x7] := by
  rcases xs with _ | ⟨x0, _ | ⟨x1, _ | ⟨x2, _ | ⟨x3, _ | ⟨x4, _ | ⟨x5, _ | ⟨x6, _ | ⟨x7, _ | ⟨x8, xs⟩⟩⟩⟩⟩⟩⟩⟩⟩ <;> simp at h
  exact ⟨x0, x1, x2, x3, x4, x5, x6, x7, rfl⟩
theorem loop43 (rs : List Int) (hr : rs.length = 8) (ws : List Int) (hw : ws.length = 64) (z : List PV) : ∀ (n k : Nat) (xs : List Int), k + n = 64 → xs.length = 8 → ∃ ys : List Int, ys.length = 8 ∧ ∀ M' d M : Nat, loopC (m100b1 (sem tab (M' + 9) (d + 2)) (M' + 9) []) (M + 1 + n) (sl43 k) (ob43 (wL rs) z (wL ws) (wL xs)) = some (.agg [.blob 8 (wL ys)], []) := by
  intro n
  induction n with
  | zero =>
    intro k xs hk hx
    have : k = 64 := by omega
    subst this
    obtain ⟨ys, h1, h2⟩ := loop43b rs hr z 8 0 xs rfl hx
    refine ⟨ys, h1, fun M' d M => ?_⟩
    rw [Nat.add_zero, k_loop]
    have := mid43 (M' + 9) d (loopC (m100b1 (sem tab (M' + 9) (d + 2)) (M' + 9) []) M) (wL rs) z (wL ws) (wL xs)
    rw [show ((64 : Nat) : Int) = 64 from rfl, this]
    exact h2 (M' + 9) d M'
  | succ n ih =>
    intro k xs hk hx
    obtain ⟨wk, hwk⟩ := get_of hw (show k < 64 by omega)
    obtain ⟨mk, hmk⟩ := get_of (show nMore.length = 64 from rfl) (show k < 64 by omega)
    obtain ⟨x0, x1, x2, x3, x4, x5, x6, x7, rfl⟩ := eight hx
    obtain ⟨t, u, h⟩ := step43 k (wL rs) z (wL ws) (nMore.map (.i .u32)) x0 x1 x2 x3 x4 x5 x6 x7 wk mk (by omega) rfl (by rw [wL_get, hwk]; rfl) (by rw [List.getElem?_map, hmk]; rfl)
    have e : ∀ a0 a1 a2 a3 a4 a5 a6 a7 : Int, wL [a0, a1, a2, a3, a4, a5, a6, a7] = [.i .u32 a0, .i .u32 a1, .i .u32 a2, .i .u32 a3, .i .u32 a4, .i .u32 a5, .i .u32 a6, .i .u32 a7] := fun _ _ _ _ _ _ _ _ => rfl
    obtain ⟨ys, h1, h2⟩ := ih (k + 1) [t, x0, x1, x2, u, x4, x5, x6] (by omega) rfl
    refine ⟨ys, h1, fun M' d M => ?_⟩
    rw [show M + 1 + (n + 1) = (M + 1 + n) + 1 by omega, k_loop, e, h, ← e]
    exact h2 M' d M
set_option maxHeartbeats 4000000 in
theorem E43 (rs xs : List Int) (hr : rs.length = 8) (hx : xs.length = 64) : ∃ ys : List Int, ys.length = 8 ∧ ∀ M d : Nat, sem tab (M + 65) (d + 4) 100 [.agg [.blob 8 (wL rs)], .l false (byL xs)] [] = some (.agg [.blob 8 (wL ys)], []) := by
  obtain ⟨ws, hw, h48⟩ := E48 xs hx
  obtain ⟨ys, h1, h2⟩ := loop43 rs hr ws hw (List.replicate 8 (.i .u32 0)) 64 0 rs rfl hr
  refine ⟨ys, h1, fun M d => ?_⟩
  have h48 := h48 M d
  have h2 := h2 (M + 56) (d + 1) M
  rw [sem_succ tab (M + 65) (d + 3) 100 m100 rfl]
  generalize byL xs = b at *
  generalize wL rs = r at *
  generalize wL ws = w at *
  generalize wL ys = y at *
  generalize hz : List.replicate 8 (PV.i IntKind.u32 0) = z at *
  generalize hz2 : List.replicate 64 (PV.i IntKind.u32 0) = z2 at *
  simp only [sl43, ob43, box, Nat.add_assoc] at h2
  simp -implicitDefEqProofs (maxSteps := 1000000) (disch := first | omega | rfl) [m100, hz, hz2, h48, KS, getS, getO, gS, zipN, dropW, takeW, wds, refs, refsL, refsEls, refsO, noExt, noExts, ren, renL, keepO, keepS, keysO, refsS, refsOB, cntN, headC, boxO, putW, -getElem?_pos]
  exact h2
open Classical in
noncomputable def rnd (rs xs : List Int) : List Int := if h : rs.length = 8 ∧ xs.length = 64 then Classical.choose (E43 rs xs h.1 h.2) else rs
theorem rnd_len (rs xs : List Int) (hr : rs.length = 8) : (rnd rs xs).length = 8 := by
  unfold rnd
  split
  · rename_i h; exact (Classical.choose_spec (E43 rs xs h.1 h.2)).1
  · exact hr
theorem L43 (M d : Nat) (rs xs : List Int) (hr : rs.length = 8) (hx : xs.length = 64) : sem tab (M + 65) (d + 4) 100 [.agg [.blob 8 (wL rs)], .l false (byL xs)] [] = some (.agg [.blob 8 (wL (rnd rs xs))], []) := by
  have h : rs.length = 8 ∧ xs.length = 64 := ⟨hr, hx⟩
  have := (Classical.choose_spec (E43 rs xs hr hx)).2 M d
  unfold rnd
  rw [dif_pos h]; exact this
noncomputable def rounds (rs xs : List Int) : List Int × List Int := if h : xs.length < 64 then (rs, xs) else rounds (rnd rs (xs.take 64)) (xs.drop 64)
termination_by xs.length
decreasing_by simp; omega
theorem rounds_short {rs xs : List Int} (h : xs.length < 64) : rounds rs xs = (rs, xs) := by rw [rounds, dif_pos h]
theorem rounds_long {rs xs : List Int} (h : ¬ xs.length < 64) : rounds rs xs = rounds (rnd rs (xs.take 64)) (xs.drop 64) := by rw [rounds, dif_neg h]
theorem rounds_len : ∀ (n : Nat) (rs xs : List Int), xs.length ≤ n → rs.length = 8 → (rounds rs xs).1.length = 8 ∧ (rounds rs xs).2.length = xs.length % 64 := by
  intro n
  induction n with
  | zero =>
    intro rs xs h hr
    rw [rounds_short (by omega)]
    exact ⟨hr, by simp only; omega⟩
  | succ n ih =>
    intro rs xs h hr
    by_cases hx : xs.length < 64
    · rw [rounds_short hx]; exact ⟨hr, by simp only; omega⟩
    · rw [rounds_long hx]
      obtain ⟨h1, h2⟩ := ih (rnd rs (xs.take 64)) (xs.drop 64) (by simp; omega) (rnd_len _ _ hr)
      refine ⟨h1, ?_⟩
      rw [h2]; simp; omega
theorem byL_take (xs : List Int) (n : Nat) : (byL xs).take n = byL (xs.take n) := by simp [byL, List.map_take]
theorem byL_drop (xs : List Int) (n : Nat) : (byL xs).drop n = byL (xs.drop n) := by simp [byL, List.map_drop]
def sl37 (b : List (List PV)) : SL := [(1, .l false b), (2, .p 80 0 0 0 none), (4, .p 96 0 0 0 none)]
def ob37 (r z : List PV) : OB := [(80, box [.blob 8 r] 8), (96, box [.blob 8 z] 8)]
set_option maxHeartbeats 4000000 in
theorem end37 (N d : Nat) (g : SL → OB → Option R) (b : List (List PV)) (r z : List PV) (h : b.length < 64) : m95b0 (sem tab N d) N [] g (sl37 b) (ob37 r z) = some (.tup [.agg [.blob 8 r], .l false b], []) := by
  have h1 : ¬ (64 ≤ (b.length : Int)) := by omega
  simp -implicitDefEqProofs (maxSteps := 1000000) (disch := first | omega | rfl) [m95b0, sl37, ob37, box, h1, KS, getS, getO, gS, dropW, takeW, wds, sea, seaL, refs, refsL, putW, -getElem?_pos]
set_option maxHeartbeats 4000000 in
theorem step37 (M d : Nat) (g : SL → OB → Option R) (rs xs : List Int) (z : List PV) (hr : rs.length = 8) (h : ¬ xs.length < 64) : m95b0 (sem tab (M + 65) (d + 4)) (M + 65) [] g (sl37 (byL xs)) (ob37 (wL rs) z) = g (sl37 (byL (xs.drop 64))) (ob37 (wL (rnd rs (xs.take 64))) z) := by
  have h43 := L43 M d rs (xs.take 64) hr (by simp; omega)
  have hl := byL_len xs
  have hw := allW_by xs
  have ht := byL_take xs 64
  have hd := byL_drop xs 64
  have h1 : 64 ≤ ((byL xs).length : Int) := by omega
  have h2 : 64 ≤ (byL xs).length := by omega
  have hwt : allW 1 (byL (xs.take 64)) = true := allW_by _
  generalize byL xs = b at *
  generalize byL (xs.take 64) = b1 at *
  generalize byL (xs.drop 64) = b2 at *
  generalize wL rs = r at *
  generalize wL (rnd rs (xs.take 64)) = r2 at *
  simp -implicitDefEqProofs (maxSteps := 1000000) (disch := first | omega | rfl) [m95b0, sl37, ob37, box, h1, hw, ht, hd, h43, KS, getS, getO, gS, dropW, takeW, wds, sea, seaL, refs, refsL, refsEls, refsO, noExt, noExts, ren, renL, keepO, keepS, keysO, refsS, refsOB, cntN, headC, putW, -getElem?_pos]
theorem loop37 : ∀ (n : Nat) (rs xs : List Int) (z : List PV) (M d M' : Nat), xs.length ≤ 64 * n → rs.length = 8 → loopC (m95b0 (sem tab (M + 65) (d + 4)) (M + 65) []) (M' + 1 + n) (sl37 (byL xs)) (ob37 (wL rs) z) = some (.tup [.agg [.blob 8 (wL (rounds rs xs).1)], .l false (byL (rounds rs xs).2)], []) := by
  intro n
  induction n with
  | zero =>
    intro rs xs z M d M' h hr
    rw [Nat.add_zero, k_loop, rounds_short (by omega)]
    exact end37 _ _ _ _ _ _ (by rw [byL_len]; omega)
  | succ n ih =>
    intro rs xs z M d M' h hr
    rw [show M' + 1 + (n + 1) = (M' + 1 + n) + 1 by omega, k_loop]
    by_cases hx : xs.length < 64
    · rw [rounds_short hx]
      exact end37 _ _ _ _ _ _ (by rw [byL_len]; omega)
    · rw [step37 M d _ rs xs z hr hx, rounds_long hx]
      exact ih _ _ z M d M' (by simp; omega) (rnd_len _ _ hr)
set_option maxHeartbeats 4000000 in
theorem L37 (M d : Nat) (rs xs : List Int) (hr : rs.length = 8) (hx : xs.length ≤ 64 * 900) : sem tab (M + 1000) (d + 5) 95 [.agg [.blob 8 (wL rs)], .l false (byL xs)] [] = some (.tup [.agg [.blob 8 (wL (rounds rs xs).1)], .l false (byL (rounds rs xs).2)], []) := by
  have h := loop37 900 rs xs (List.replicate 8 (.i .u32 0)) (M + 935) d (M + 99) hx hr
  rw [sem_succ tab (M + 1000) (d + 4) 95 m95 rfl]
  generalize byL xs = b at *
  generalize wL rs = r at *
  generalize hz : List.replicate 8 (PV.i IntKind.u32 0) = z at *
  simp only [sl37, ob37, box, Nat.add_assoc] at h
  simp -implicitDefEqProofs (maxSteps := 1000000) (disch := first | omega | rfl) [m95, hz, KS, getS, getO, gS, zipN, wds, refs, refsL, refsEls, refsO, keepO, keepS, keysO, refsS, refsOB, cntN, headC, boxO, -getElem?_pos]
  exact h
end
section
theorem hashV_wL (ns : List Int) (g : Bool) (xs : List Int) (L : Int) : hashV ns g xs L = .agg [.blob 8 (wL ns), .l g (byL xs), .i .i64 L] := rfl
set_option maxHeartbeats 4000000 in
theorem L19 (M d : Nat) (ns xs ys : List Int) (L : Int) (hn : ns.length = 8) (hm : mayB xs.length L = true) (hL : (ys.length : Int) ≤ 1048576 - L) (h : xs.length + ys.length ≤ 57600) :
    sem tab (M + 1000) (d + 6) 85 [hashV ns false xs L, .l false (byL ys)] [] = some (hashV (rounds ns (xs ++ ys)).1 true (rounds ns (xs ++ ys)).2 (L + ys.length), []) := by
  rw [sem_succ tab (M + 1000) (d + 5) 85 m85 rfl]
  have h23 := L23 (M + 1000) (d + 4) ns xs L
  rw [hm] at h23
  have h38 := L38 (M + 997) (d + 3) xs ys (by omega)
  have h37 := L37 M d ns (xs ++ ys) hn (by simp; omega)
  obtain ⟨l1, l2⟩ := rounds_len _ ns (xs ++ ys) (Nat.le_refl _) hn
  have hlt : (rounds ns (xs ++ ys)).2.length ≤ 57600 := by rw [l2]; omega
  have h39 := L39 (M + 1000) (d + 4) (rounds ns (xs ++ ys)).2 (by omega)
  have hL0 : 0 ≤ L := by simp [mayB] at hm; exact hm.1
  have hx := byL_len xs
  have hy := byL_len ys
  have hxy := byL_len (xs ++ ys)
  have hq := byL_len (rounds ns (xs ++ ys)).2
  simp only [hashV_wL] at h23 ⊢
  generalize byL xs = a at *
  generalize byL ys = b at *
  generalize byL (xs ++ ys) = c at *
  generalize byL (rounds ns (xs ++ ys)).2 = q at *
  generalize wL (rounds ns (xs ++ ys)).1 = r2 at *
  generalize wL ns = r at *
  rw [← hq] at h39
  rw [List.length_append] at hxy
  rw [← hx, ← hy] at h38 hxy h
  rw [← hy] at hL ⊢
  have n1 : ¬ ((b.length : Int) > 1048576 - L) := by omega
  have n2 : ¬ (1048576 - L < (b.length : Int)) := by omega
  have hc : c.length = a.length + b.length := hxy
  have ht : List.take (a.length + b.length) c = c := List.take_of_length_le (by omega)
  have ht2 : List.take q.length q = q := List.take_of_length_le (by omega)
  simp -implicitDefEqProofs (maxSteps := 1000000) (disch := first | omega | rfl) [m85, h23, h38, h37, h39, n1, hc, ht, ht2, KS, getS, getO, gS, zipN, dropW, takeW, wds, stvs, sea, seaL, refs, refsL, isPureEls, isPures, isPure, noExt, noExts, noExtEls, cellsL, ren, renL, boxO, row, putW, putB, putB1, newOs, frz, renO, noExtO, w64, -getElem?_pos]
end
section
def chars (xs : List Int) : List UInt8 := xs.map fun n => UInt8.ofNat n.toNat
theorem unB_by : ∀ xs : List Int, unB (byL xs) = some (chars xs)
  | [] => rfl
  | x :: r => by
    have := unB_by r
    simp only [byL, chars] at this
    simp only [byL, List.map_cons, unB, this, unC, chars]
def sl24 (n : Nat) : SL := [(1, .p 72 0 0 0 none), (2, .p 80 0 0 0 none), (3, .sl 95 0 0 n)]
def ob24 (hc z : List PV) (t : List (List PV)) : OB := [(95, row t 1 true), (72, box [] 10 |> fun X => { X with els := [hc] }), (80, box [.blob 32 z] 32)]
def sl24b (n : Nat) (v k : Int) : SL := [(1, .p 72 0 0 0 none), (2, .p 80 0 0 0 none), (3, .sl 95 0 0 n), (4, .i .u64 v), (31, .i .i64 k)]
def sl24a (r : List PV) (k : Int) : SL := [(2, .p 80 0 0 0 none), (8, .p 128 0 0 0 none), (51, .agg [.blob 8 r]), (52, .i .i64 k)]
def ob24a (z o : List PV) : OB := [(80, box [.blob 32 z] 32), (128, box [.blob 32 o] 32)]
set_option maxHeartbeats 4000000 in
theorem step24c (N d : Nat) (g : SL → OB → Option R) (r a z : List PV) (b t : List (List PV)) (L : Int) (h : ((t.length : Int).tmod 64) ≠ 56) (hl : t.length ≤ 4294967295) :
    m84b2 (sem tab N d) N [] g (sl24 t.length) (ob24 [.blob 8 r, .l false b, .i .i64 L] z t) = g (sl24 (t.length + 1)) (ob24 [.blob 8 r, .l false b, .i .i64 L] z (t ++ [[.i .u8 0]])) := by
  have h1 : ((t.length : Int).tmod 64 == 56) = false := by simpa using h
  have h4 : ((t.length : Int).tmod 64 != 56) = true := by simpa using h
  have h3 : ¬ (t.length + 1 ≤ t.length) := by omega
  have h2 : t.length + 1 ≤ 4294967296 := by omega
  have ht : List.take t.length t = t := List.take_length
  simp -implicitDefEqProofs (maxSteps := 1000000) (disch := first | omega | rfl) [m84b2, sl24, ob24, box, h2, h3, h4, ht, KS, getS, getO, gS, dropW, wds, stvs, refs, refsL, refsEls, refsO, isPureEls, isPures, isPure, noExt, noExts, noExtEls, cellsL, keepO, keepS, keysO, refsS, refsOB, cntN, headC, setS, row, two32, -getElem?_pos]
set_option maxHeartbeats 4000000 in
theorem mid24c (r z : List PV) (b t : List (List PV)) (L : Int) (h : ((t.length : Int).tmod 64) = 56) :
    ∃ v, ∀ (N d : Nat) (g : SL → OB → Option R), m84b2 (sem tab N d) N [] g (sl24 t.length) (ob24 [.blob 8 r, .l false b, .i .i64 L] z t) = loopC (m84b1 (sem tab N d) N []) N (sl24b t.length v 0) (ob24 [.blob 8 r, .l false b, .i .i64 L] z t) := by
  have ht : List.take t.length t = t := List.take_length
  apply Exists.intro
  intro N d g
  simp -implicitDefEqProofs (maxSteps := 1000000) (disch := first | omega | rfl) [m84b2, sl24, ob24, sl24b, box, h, ht, KS, getS, getO, gS, dropW, wds, stvs, refs, refsL, refsEls, refsO, isPureEls, isPures, isPure, noExt, noExts, noExtEls, cellsL, keepO, keepS, keysO, refsS, refsOB, cntN, headC, setS, row, two32, -getElem?_pos]
  rfl
set_option maxHeartbeats 4000000 in
theorem step24b (r z : List PV) (b t : List (List PV)) (L v : Int) (k : Nat) (hk : k < 8) (hl : t.length ≤ 4294967295) :
    ∃ y, ∀ (N d : Nat) (g : SL → OB → Option R), m84b1 (sem tab N d) N [] g (sl24b t.length v k) (ob24 [.blob 8 r, .l false b, .i .i64 L] z t) = g (sl24b (t.length + 1) v (k + 1 : Nat)) (ob24 [.blob 8 r, .l false b, .i .i64 L] z (t ++ [[.i .u8 y]])) := by
  have c1 : (k : Int) < 8 := by omega
  have c2 : ¬ (56 - 8 * (k : Int) < 0) := by omega
  have h2 : t.length + 1 ≤ 4294967296 := by omega
  have h3 : ¬ (t.length + 1 ≤ t.length) := by omega
  have ht : List.take t.length t = t := List.take_length
  have w1 : IntKind.i64.wrap (56 - 8 * (k : Int)) = 56 - 8 * (k : Int) := w64 (by omega) (by omega)
  apply Exists.intro
  intro N d g
  simp -implicitDefEqProofs (maxSteps := 1000000) (disch := first | omega | rfl) [m84b1, sl24b, ob24, box, c1, c2, w1, h2, h3, ht, KS, getS, getO, gS, dropW, takeW, wds, stvs, refs, refsL, refsEls, refsO, isPureEls, isPures, isPure, noExt, noExts, noExtEls, cellsL, keepO, keepS, keysO, refsS, refsOB, cntN, headC, setS, boxO, row, two32, w64, -getElem?_pos]
  rfl
set_option maxHeartbeats 4000000 in
theorem mid24b (M d : Nat) (g : SL → OB → Option R) (rs ts : List Int) (b : List (List PV)) (L v : Int) (z : List PV) (hr : rs.length = 8) (hl : ts.length ≤ 57600) :
    m84b1 (sem tab (M + 1000) (d + 5)) (M + 1000) [] g (sl24b ts.length v 8) (ob24 [.blob 8 (wL rs), .l false b, .i .i64 L] z (byL ts)) = loopC (m84b0 (sem tab (M + 1000) (d + 5)) (M + 1000) []) (M + 1000) (sl24a (wL (rounds rs ts).1) 0) (ob24a z (List.replicate 32 (.i .u8 0))) := by
  have h37 := L37 M d rs ts hr (by omega)
  have hl' := byL_len ts
  have ht : List.take ts.length (byL ts) = byL ts := List.take_of_length_le (by omega)
  rw [← hl'] at hl ht ⊢
  generalize byL ts = t at *
  generalize byL (rounds rs ts).2 = q at *
  generalize wL (rounds rs ts).1 = r2 at *
  generalize wL rs = r at *
  generalize hz : List.replicate 32 (PV.i IntKind.u8 0) = zz at *
  generalize hz2 : List.replicate 8 (PV.i IntKind.u32 0) = zz2 at *
  simp -implicitDefEqProofs (maxSteps := 1000000) (disch := first | omega | rfl) [m84b1, sl24b, ob24, sl24a, ob24a, box, h37, ht, hz, hz2, KS, getS, getO, gS, dropW, takeW, wds, stvs, refs, refsL, refsEls, refsO, isPureEls, noExt, noExts, noExtEls, cellsL, ren, renL, keepO, keepS, keysO, refsS, refsOB, cntN, headC, boxO, row, putW, frz, w64, -getElem?_pos]
set_option maxHeartbeats 4000000 in
theorem step24a (r z o : List PV) (k : Nat) (x : Int) (hk : k < 8) (hx : r[k]? = some (.i .u32 x)) (ho : o.length = 32) :
    ∃ y0 y1 y2 y3, ∀ (N d : Nat) (g : SL → OB → Option R), m84b0 (sem tab N d) N [] g (sl24a r k) (ob24a z o) = g (sl24a r (k + 1 : Nat)) (ob24a z ((((o.set (4 * k) (.i .u8 y0)).set (4 * k + 1) (.i .u8 y1)).set (4 * k + 2) (.i .u8 y2)).set (4 * k + 3) (.i .u8 y3))) := by
  have c1 : (k : Int) < 8 := by omega
  have c3 : (0 : Int) ≤ k := by omega
  have c4 : (0 : Int) ≤ 4 * (k : Int) := by omega
  have c5 : (0 : Int) ≤ 4 * (k : Int) + 1 := by omega
  have c6 : (0 : Int) ≤ 4 * (k : Int) + 2 := by omega
  have c7 : (0 : Int) ≤ 4 * (k : Int) + 3 := by omega
  have d4 : 4 * (k : Int) < 32 := by omega
  have d5 : 4 * (k : Int) + 1 < 32 := by omega
  have d6 : 4 * (k : Int) + 2 < 32 := by omega
  have d7 : 4 * (k : Int) + 3 < 32 := by omega
  have t4 : (4 * (k : Int)).toNat = 4 * k := by omega
  have t5 : (4 * (k : Int) + 1).toNat = 4 * k + 1 := by omega
  have t6 : (4 * (k : Int) + 2).toNat = 4 * k + 2 := by omega
  have t7 : (4 * (k : Int) + 3).toNat = 4 * k + 3 := by omega
  have b4 : 4 * k < 32 := by omega
  have b5 : 4 * k + 1 < 32 := by omega
  have b6 : 4 * k + 2 < 32 := by omega
  have b7 : 4 * k + 3 < 32 := by omega
  apply Exists.intro
  apply Exists.intro
  apply Exists.intro
  apply Exists.intro
  intro N d g
  simp -implicitDefEqProofs (maxSteps := 1000000) (disch := first | omega | rfl) [m84b0, sl24a, ob24a, box, xV, hx, ho, c1, c3, c4, c5, c6, c7, d4, d5, d6, d7, t4, t5, t6, t7, b4, b5, b6, b7, KS, getS, getO, gS, dropW, takeW, wds, sea, seaL, refs, refsL, refsEls, refsO, keepO, keepS, keysO, refsS, refsOB, cntN, headC, putW, w64, -getElem?_pos]
  rfl
set_option maxHeartbeats 4000000 in
theorem end24a (N d : Nat) (g : SL → OB → Option R) (r z o : List PV) : m84b0 (sem tab N d) N [] g (sl24a r 8) (ob24a z o) = some (.agg [.blob 32 o], []) := by
  simp -implicitDefEqProofs (maxSteps := 1000000) (disch := first | omega | rfl) [m84b0, sl24a, ob24a, box, KS, getS, getO, gS, dropW, takeW, wds, sea, seaL, refs, refsL, putW, w64, -getElem?_pos]
end
section
def uL (ns : List Int) : List PV := ns.map (.i .u8)
theorem uL_set (ws : List Int) (j : Nat) (y : Int) : (uL ws).set j (.i .u8 y) = uL (ws.set j y) := by simp [uL, List.map_set]
theorem uL_len (ws : List Int) : (uL ws).length = ws.length := by simp [uL]
theorem byL_app1 (ts : List Int) (y : Int) : byL ts ++ [[.i .u8 y]] = byL (ts ++ [y]) := by simp [byL]
theorem byL_app (xs ys : List Int) : byL xs ++ byL ys = byL (xs ++ ys) := by simp [byL]
theorem loop24a (rs : List Int) (hr : rs.length = 8) (z : List PV) : ∀ (n k : Nat) (o : List Int), k + n = 8 → o.length = 32 → ∃ o' : List Int, o'.length = 32 ∧ ∀ N d M : Nat, loopC (m84b0 (sem tab N d) N []) (M + 1 + n) (sl24a (wL rs) k) (ob24a z (uL o)) = some (.agg [.blob 32 (uL o')], []) := by
  intro n
  induction n with
  | zero =>
    intro k o hk ho
    have : k = 8 := by omega
    subst this
    exact ⟨o, ho, fun N d M => by rw [Nat.add_zero, k_loop]; exact end24a N d _ _ _ _⟩
  | succ n ih =>
    intro k o hk ho
    obtain ⟨x, hx⟩ := get_of hr (show k < 8 by omega)
    obtain ⟨y0, y1, y2, y3, hy⟩ := step24a (wL rs) z (uL o) k x (by omega) (by rw [wL_get, hx]; rfl) (by rw [uL_len]; exact ho)
    obtain ⟨o', h1, h2⟩ := ih (k + 1) ((((o.set (4 * k) y0).set (4 * k + 1) y1).set (4 * k + 2) y2).set (4 * k + 3) y3) (by omega) (by simpa using ho)
    refine ⟨o', h1, fun N d M => ?_⟩
    rw [show M + 1 + (n + 1) = (M + 1 + n) + 1 by omega, k_loop, hy, uL_set, uL_set, uL_set, uL_set]
    exact h2 N d M
theorem zero32 : List.replicate 32 (PV.i IntKind.u8 0) = uL (List.replicate 32 0) := by simp [uL]
theorem loop24b (rs : List Int) (hr : rs.length = 8) (b : List (List PV)) (L v : Int) (z : List PV) : ∀ (n k : Nat) (ts : List Int), k + n = 8 → ts.length + n ≤ 57600 → ∃ o' : List Int, o'.length = 32 ∧ ∀ M d M' : Nat, loopC (m84b1 (sem tab (M + 1000) (d + 5)) (M + 1000) []) (M' + 1 + n) (sl24b ts.length v k) (ob24 [.blob 8 (wL rs), .l false b, .i .i64 L] z (byL ts)) = some (.agg [.blob 32 (uL o')], []) := by
  intro n
  induction n with
  | zero =>
    intro k ts hk ht
    have : k = 8 := by omega
    subst this
    obtain ⟨o', h1, h2⟩ := loop24a (rounds rs ts).1 (rounds_len _ rs ts (Nat.le_refl _) hr).1 z 8 0 (List.replicate 32 0) rfl (by simp)
    refine ⟨o', h1, fun M d M' => ?_⟩
    rw [Nat.add_zero, k_loop, show ((8 : Nat) : Int) = 8 from rfl, mid24b M d _ rs ts b L v z hr (by omega), zero32]
    exact h2 (M + 1000) (d + 5) (M + 991)
  | succ n ih =>
    intro k ts hk ht
    obtain ⟨y, hy⟩ := step24b (wL rs) z b (byL ts) L v k (by omega) (by rw [byL_len]; omega)
    obtain ⟨o', h1, h2⟩ := ih (k + 1) (ts ++ [y]) (by omega) (by simp; omega)
    refine ⟨o', h1, fun M d M' => ?_⟩
    have hy := hy (M + 1000) (d + 5) (loopC (m84b1 (sem tab (M + 1000) (d + 5)) (M + 1000) []) (M' + 1 + n))
    rw [byL_len] at hy
    rw [show M' + 1 + (n + 1) = (M' + 1 + n) + 1 by omega, k_loop, hy, byL_app1]
    have := h2 M d M'
    rw [List.length_append] at this
    exact this
theorem loop24c (rs : List Int) (hr : rs.length = 8) (b : List (List PV)) (L : Int) (z : List PV) : ∀ (n : Nat) (ts : List Int), (ts.length + n) % 64 = 56 → n < 64 → ts.length + n ≤ 57500 → ∃ o' : List Int, o'.length = 32 ∧ ∀ M d M' : Nat, loopC (m84b2 (sem tab (M + 1000) (d + 5)) (M + 1000) []) (M' + 1 + n) (sl24 ts.length) (ob24 [.blob 8 (wL rs), .l false b, .i .i64 L] z (byL ts)) = some (.agg [.blob 32 (uL o')], []) := by
  intro n
  induction n with
  | zero =>
    intro ts h _ hl
    have htm : ((ts.length : Int).tmod 64) = 56 := by
      rw [Int.tmod_eq_emod_of_nonneg (by omega)]; omega
    obtain ⟨v, hv⟩ := mid24c (wL rs) z b (byL ts) L (by rw [byL_len]; exact htm)
    obtain ⟨o', h1, h2⟩ := loop24b rs hr b L v z 8 0 ts rfl (by omega)
    refine ⟨o', h1, fun M d M' => ?_⟩
    have hv := hv (M + 1000) (d + 5) (loopC (m84b2 (sem tab (M + 1000) (d + 5)) (M + 1000) []) M')
    rw [byL_len] at hv
    rw [Nat.add_zero, k_loop, hv]
    exact h2 M d (M + 991)
  | succ n ih =>
    intro ts h hn hl
    have htm : ((ts.length : Int).tmod 64) ≠ 56 := by
      rw [Int.tmod_eq_emod_of_nonneg (by omega)]; omega
    obtain ⟨o', h1, h2⟩ := ih (ts ++ [0]) (by simp only [List.length_append, List.length_singleton]; omega) (by omega) (by simp only [List.length_append, List.length_singleton]; omega)
    refine ⟨o', h1, fun M d M' => ?_⟩
    have hy := step24c (M + 1000) (d + 5) (loopC (m84b2 (sem tab (M + 1000) (d + 5)) (M + 1000) []) (M' + 1 + n)) (wL rs) z z b (byL ts) L (by rw [byL_len]; exact htm) (by rw [byL_len]; omega)
    rw [byL_len] at hy
    rw [show M' + 1 + (n + 1) = (M' + 1 + n) + 1 by omega, k_loop, hy, byL_app1]
    have := h2 M d M'
    rw [List.length_append] at this
    exact this
theorem pad_of (n : Nat) : ∃ k, k < 64 ∧ (n + k) % 64 = 56 := ⟨(120 - n % 64) % 64, by omega, by omega⟩
set_option maxHeartbeats 4000000 in
theorem E24 (ns xs : List Int) (L : Int) (hn : ns.length = 8) : ∃ o : List Int, o.length = 32 ∧ ∀ M d : Nat, sem tab (M + 1000) (d + 6) 84 [hashV ns false xs L] [] = some (.agg [.blob 32 (uL o)], []) := by
  by_cases hm : mayB xs.length L = true
  · have hx : xs.length < 64 := by
      simp [mayB] at hm
      obtain ⟨h0, h1, h2⟩ := hm
      rw [Int.tmod_eq_emod_of_nonneg h0] at h2; omega
    obtain ⟨k, hk, hp⟩ := pad_of (xs ++ [128]).length
    obtain ⟨o, h1, h2⟩ := loop24c ns hn (byL xs) L (List.replicate 32 (.i .u8 0)) k (xs ++ [128]) hp hk (by simp only [List.length_append, List.length_singleton]; omega)
    refine ⟨o, h1, fun M d => ?_⟩
    have h2 := h2 M d (M + 999 - k)
    rw [show M + 999 - k + 1 + k = M + 1000 by omega] at h2
    rw [sem_succ tab (M + 1000) (d + 5) 84 m84 rfl]
    have h23 := L23 (M + 1000) (d + 4) ns xs L
    rw [hm] at h23
    have h39 := L39 (M + 1000) (d + 4) xs (by omega)
    have hlx := byL_len xs
    rw [← byL_app1] at h2
    rw [List.length_append, ← hlx] at h2
    rw [← hlx] at h39 hx
    simp only [hashV_wL] at h23 ⊢
    generalize byL xs = a at *
    generalize wL ns = r at *
    generalize hz : List.replicate 32 (PV.i IntKind.u8 0) = zz at *
    have ht : List.take a.length a = a := List.take_length
    have q1 : a.length + 1 ≤ 4294967296 := by omega
    have q2 : ¬ (a.length + 1 ≤ a.length) := by omega
    simp only [sl24, ob24, box, row, List.length_singleton] at h2
    simp -implicitDefEqProofs (maxSteps := 1000000) (disch := first | omega | rfl) [m84, hz, h23, h39, ht, q1, q2, KS, getS, getO, gS, zipN, dropW, takeW, wds, stvs, sea, seaL, refs, refsL, refsEls, refsO, isPureEls, isPures, isPure, noExt, noExts, noExtEls, cellsL, ren, keepO, keepS, keysO, refsS, refsOB, cntN, headC, setS, boxO, row, putW, newOs, renO, noExtO, two32, -getElem?_pos]
    exact h2
  · have hm : mayB xs.length L = false := by simpa using hm
    refine ⟨List.replicate 32 0, by simp, fun M d => ?_⟩
    rw [sem_succ tab (M + 1000) (d + 5) 84 m84 rfl]
    have h23 := L23 (M + 1000) (d + 4) ns xs L
    rw [hm] at h23
    rw [← zero32]
    simp only [hashV_wL] at h23 ⊢
    generalize byL xs = a at *
    generalize wL ns = r at *
    generalize hz : List.replicate 32 (PV.i IntKind.u8 0) = zz at *
    simp -implicitDefEqProofs (maxSteps := 1000000) (disch := first | omega | rfl) [m84, hz, h23, KS, getS, getO, gS, zipN, dropW, takeW, wds, stvs, sea, seaL, refs, refsL, isPureEls, isPures, isPure, noExt, noExts, noExtEls, cellsL, ren, boxO, putW, -getElem?_pos]
open Classical in
noncomputable def endI (ns xs : List Int) (L : Int) : List Int := if h : ns.length = 8 then Classical.choose (E24 ns xs L h) else []
theorem L24 (M d : Nat) (ns xs : List Int) (L : Int) (hn : ns.length = 8) : sem tab (M + 1000) (d + 6) 84 [hashV ns false xs L] [] = some (.agg [.blob 32 (uL (endI ns xs L))], []) := by
  have := (Classical.choose_spec (E24 ns xs L hn)).2 M d
  unfold endI
  rw [dif_pos hn]; exact this
theorem endI_len (ns xs : List Int) (L : Int) (hn : ns.length = 8) : (endI ns xs L).length = 32 := by
  have := (Classical.choose_spec (E24 ns xs L hn)).1
  unfold endI
  rw [dif_pos hn]; exact this
theorem may_zero : mayB ([] : List Int).length 0 = true := by decide
set_option maxHeartbeats 4000000 in
theorem L26 (M d : Nat) (ys : List Int) (h : ys.length ≤ 57600) : sem tab (M + 1000) (d + 7) 71 [.l false (byL ys)] [] = some (.agg [.blob 32 (uL (endI (rounds nFirst ys).1 (rounds nFirst ys).2 ys.length))], []) := by
  rw [sem_succ tab (M + 1000) (d + 6) 71 m71 rfl]
  have h21 := L21 (M + 1000) (d + 5)
  have h19 := L19 M d nFirst [] ys 0 rfl may_zero (by omega) (by simpa using h)
  rw [List.nil_append, Int.zero_add] at h19
  have h24 := L24 M d (rounds nFirst ys).1 (rounds nFirst ys).2 ys.length (rounds_len _ nFirst ys (Nat.le_refl _) rfl).1
  have hy := byL_len ys
  have hb : byL [] = [] := rfl
  rw [← hy] at h h19 h24 ⊢
  have n1 : ¬ ((byL ys).length : Int) > 1048576 := by omega
  have n2 : ¬ 1048576 < ((byL ys).length : Int) := by omega
  simp only [hashV_wL, hb] at h21 h19 h24 ⊢
  generalize byL (rounds nFirst ys).2 = q at *
  generalize wL (rounds nFirst ys).1 = r2 at *
  generalize wL nFirst = r at *
  generalize uL (endI _ _ _) = o at *
  generalize byL ys = b at *
  generalize hz : List.replicate 32 (PV.i IntKind.u8 0) = zz at *
  simp -implicitDefEqProofs (maxSteps := 1000000) (disch := first | omega | rfl) [m71, hz, h21, h19, h24, n1, KS, getS, getO, gS, zipN, dropW, takeW, wds, sea, seaL, refs, refsL, noExt, noExts, ren, renL, boxO, putW, -getElem?_pos]
end
section
theorem w8 {x : Int} (h : 0 ≤ x) (h' : x ≤ 255) : IntKind.u8.wrap x = x := by
  rw [IntKind.wrap_u8]; omega
end
section
section
variable (ob : OB) (d o v i n w : Nat) (g : Bool) (X : Obj')
theorem k_slcA : slc ob (.arr n) (.p o 0 0 0 none) none none none = slB o 0 0 n (some 0) (some n) := rfl
theorem k_slB (l h : Int) : slB o d i n (some l) (some h) = if 0 ≤ l ∧ l ≤ h ∧ h ≤ n then some (.bs o d (i + l.toNat) (h.toNat - l.toNat), []) else none := rfl
theorem k_cont_bs : cont ob (.bs o v i n) = contL ob (.bs o v i n) := rfl
end
end
section
set_option maxHeartbeats 4000000 in
theorem L38t (N d : Nat) (ps xs ys : List Int) (hp : ps ≠ []) (hne : xs ≠ []) (h : ps.length + xs.length + ys.length ≤ 4294967296) : sem tab (N + 4) (d + 2) 63 [.l false [[.l false (byL ps)], [.l false (byL xs)], [.l false (byL ys)]]] [] = some (.sl 0 0 0 (ps.length + xs.length + ys.length), [row (byL (ps ++ xs ++ ys)) 1 true]) := by
  rw [sem_succ tab (N + 4) (d + 1) 63 m63 rfl]
  have hq := byL_len ps
  have hx := byL_len xs
  have hy := byL_len ys
  have fq := flat_by ps
  have fx := flat_by xs
  have fy := flat_by ys
  have wq := allW_by ps
  have wx := allW_by xs
  have wy := allW_by ys
  have hap : byL (ps ++ xs ++ ys) = byL ps ++ byL xs ++ byL ys := by simp [byL]
  have hxl : 0 < xs.length := List.length_pos_iff.2 hne
  have hpl : 0 < ps.length := List.length_pos_iff.2 hp
  rw [hap]
  generalize byL ps = p at *
  generalize byL xs = a at *
  generalize byL ys = b at *
  rw [← hx] at hxl
  rw [← hq] at hpl
  rw [← hq, ← hx, ← hy] at h ⊢
  have ha : ¬ a = [] := by rintro rfl; simp at hxl
  have hpp : ¬ p = [] := by rintro rfl; simp at hpl
  have n00 : ¬ ((p.length : Int) < 0) := by omega
  have n0 : ¬ ((p.length : Int) + a.length < 0) := by omega
  have n1 : ¬ ((a.length : Int) < 0) := by omega
  have n3 : ¬ ((b.length : Int) < 0) := by omega
  have n2 : ¬ ((p.length : Int) + (a.length : Int) + b.length < 0) := by omega
  have h0 : p.length ≤ 4294967296 := by omega
  have h1 : p.length + a.length ≤ 4294967296 := by omega
  have h2 : b.length ≤ 4294967296 := by omega
  have h4 : ¬ (p.length + a.length ≤ p.length) := by omega
  have t0 : List.take p.length p = p := List.take_length
  have t1 : List.take (p.length + a.length) (p ++ a) = p ++ a := List.take_of_length_le (by simp)
  clear hx hy hap hne hq hp
  by_cases hb : b = []
  · subst hb
    simp -implicitDefEqProofs (maxSteps := 1000000) (disch := first | omega | rfl) [m63, m63b0, m63b1, L44', allW, flatEls, n00, n0, h0, h1, h4, fq, wq, fx, wx, hpp, t0, t1, KS, getS, getO, gS, zipN, wds, refs, noExt, ren, keepO, keepS, keysO, refsS, refsOB, cntN, headC, setS, row, newOs, renO, noExtO, two32, w64, -getElem?_pos]
  · have h3 : ¬ (p.length + a.length + b.length ≤ p.length + a.length) := by
      have := List.length_pos_iff.2 hb
      omega
    have h3' : p.length + a.length + b.length = p.length + (a.length + b.length) := by omega
    have t2 : List.take (p.length + (a.length + b.length)) (p ++ (a ++ b)) = p ++ (a ++ b) := List.take_of_length_le (by simp)
    have hN : p.length + (a.length + b.length) ≤ 4294967296 := by omega
    have h3N : ¬ (p.length + (a.length + b.length) ≤ p.length + a.length) := by omega
    have bp : 0 < b.length := List.length_pos_iff.2 hb
    simp -implicitDefEqProofs (maxSteps := 1000000) (disch := first | omega | rfl) [m63, m63b0, m63b1, L44', n00, n0, n2, h0, h1, h3', hN, h3N, h4, fq, wq, fx, wx, fy, wy, hpp, t0, t1, t2, KS, getS, getO, gS, zipN, wds, refs, noExt, ren, keepO, keepS, keysO, refsS, refsOB, cntN, headC, setS, row, newOs, renO, noExtO, two32, w64, -getElem?_pos]
end
section
theorem L38u (M d : Nat) (n : Int) (xs ys : List Int) (hne : xs ≠ []) (h : xs.length + ys.length ≤ 4294967295) : sem tab (M + 1000) (d + 2) 63 [.l false [[.l false [[.i .u8 n]]], [.l false (byL xs)], [.l false (byL ys)]]] [] = some (.sl 0 0 0 (1 + xs.length + ys.length), [row (byL ([n] ++ xs ++ ys)) 1 true]) :=
  L38t (M + 996) d [n] xs ys (by simp) hne (by simp only [List.length_singleton]; omega)
end
section
def inB (a b c : Int) : Bool := decide (b ≤ a) && decide (a ≤ c)
theorem w64n {i : Nat} (h : i < 1000000) : IntKind.i64.wrap ((i : Int) + 1) = ((i + 1 : Nat) : Int) := by rw [w64 (by omega) (by omega)]; omega
end
section
def be : Nat → Int → List Int
  | 0, _ => []
  | k + 1, n => be k (n / 256) ++ [n % 256]
theorem be_len : ∀ (k : Nat) (n : Int), (be k n).length = k
  | 0, _ => rfl
  | k + 1, n => by simp [be, be_len k]
theorem be_range : ∀ (k : Nat) (n : Int), ∀ x ∈ be k n, 0 ≤ x ∧ x ≤ 255
  | 0, _, x, h => by simp [be] at h
  | k + 1, n, x, h => by
    simp only [be, List.mem_append, List.mem_singleton] at h
    rcases h with h | h
    · exact be_range k _ x h
    · omega
theorem w8m (n : Int) : IntKind.u8.wrap n = n % 256 := by rw [IntKind.wrap_u8]
theorem shr8 (n : Int) (h : 0 ≤ n) : n.fdiv (2 ^ (min 8 IntKind.u64.bits)) = n / 256 := by
  show n.fdiv 256 = _
  rw [Int.fdiv_eq_ediv_of_nonneg _ (by omega)]
def rowK (t : List (List PV)) (k : Nat) : Obj' := { els := t, w := 1, pu := true, g := true, cap := some k, ver := 0, fro := false }
def slu98 (k : Nat) (n i : Int) : SL := [(0, .i .u64 n), (6, .sl 248 0 0 k), (7, .i .i64 i)]
set_option maxHeartbeats 4000000 in
theorem stepu98 (N d : Nat) (g : SL → OB → Option R) (t : List (List PV)) (k i : Nat) (n : Int) (hi : i + 1 < k) (hk : k ≤ 8) (ht : t.length = k) (hv : t[i + 1]? = some [.i .u8 0]) (hn : 0 ≤ n) :
    m91j0 (sem tab N d) N [] g (slu98 k n (i + 1 : Nat)) [(248, rowK t k)] = g (slu98 k (n / 256) i) [(248, rowK (t.set (i + 1) [.i .u8 (n % 256)]) k)] := by
  have e := w8m n
  have e2 := shr8 n hn
  have w1 : IntKind.i64.wrap (((i : Int) + 1) - 1) = i := by rw [w64 (by omega) (by omega)]; omega
  have w1' : IntKind.i64.wrap (i : Int) = i := w64 (by omega) (by omega)
  have c1 : 0 ≤ (i : Int) + 1 := by omega
  have c2 : (i : Int) + 1 < k := by omega
  have c3 : ((i : Int) + 1).toNat = i + 1 := by omega
  subst ht
  simp -implicitDefEqProofs (maxSteps := 1000000) (disch := first | omega | rfl) [m91j0, slu98, rowK, e, e2, w1', c1, c2, c3, hv, KS, getS, getO, gS, dropW, takeW, wds, sea, refs, refsO, keepO, keepS, keysO, refsS, refsOB, cntN, headC, putW, -getElem?_pos]
set_option maxHeartbeats 4000000 in
theorem endu98 (N d : Nat) (g : SL → OB → Option R) (t : List (List PV)) (k : Nat) (n : Int) (h0 : 0 < k) (hk : k ≤ 8) (ht : t.length = k) (hv : t[0]? = some [.i .u8 0]) (hn : 0 ≤ n) :
    m91j0 (sem tab N d) N [] g (slu98 k n 0) [(248, rowK t k)] = some (.tup [.sl 0 0 0 k, .b true], [row (t.set 0 [.i .u8 (n % 256)]) 1 true]) := by
  have e := w8m n
  have e2 := shr8 n hn
  have c2 : (0 : Int) < k := by omega
  subst ht
  have tk : ∀ v, List.take t.length (t.set 0 v) = t.set 0 v := fun v => List.take_of_length_le (by simp)
  simp -implicitDefEqProofs (maxSteps := 1000000) (disch := first | omega | rfl) [m91j0, slu98, rowK, e, e2, h0, tk, hv, KS, getS, getO, gS, dropW, takeW, wds, sea, refs, cntN, row, putW, w64, -getElem?_pos]
theorem set_end (z : List (List PV)) (i : Nat) (v : List PV) (hz : z.length = i) (w : List PV) (r : List (List PV)) : (z ++ w :: r).set i v = z ++ v :: r := by
  subst hz; simp
theorem loopu98 (N d : Nat) (k : Nat) (hk : k ≤ 8) : ∀ (i e : Nat) (n : Int) (r : List Int), i + 1 + r.length = k → 0 ≤ n →
    loopC (m91j0 (sem tab N d) N []) (e + 1 + i) (slu98 k n i) [(248, rowK (byL (List.replicate (i + 1) 0) ++ byL r) k)] = some (.tup [.sl 0 0 0 k, .b true], [row (byL (be (i + 1) n ++ r)) 1 true]) := by
  intro i
  induction i with
  | zero =>
    intro e n r h hn
    rw [Nat.add_zero, k_loop]
    have := endu98 N d (loopC (m91j0 (sem tab N d) N []) e) (byL (List.replicate (0 + 1) 0) ++ byL r) k n (by omega) hk (by simp [byL]; omega) (by simp [byL]) hn
    rw [show ((0 : Nat) : Int) = 0 from rfl, this]
    simp [be, byL]
  | succ i ih =>
    intro e n r h hn
    rw [← Nat.add_assoc, k_loop, stepu98 N d _ _ k i n (by omega) hk (by simp [byL]; omega) (by rw [List.getElem?_append_left (by simp [byL])]; simp [byL]) hn]
    have h1 : (byL (List.replicate (i + 1 + 1) 0) ++ byL r).set (i + 1) [.i .u8 (n % 256)] = byL (List.replicate (i + 1) 0) ++ byL ((n % 256) :: r) := by
      rw [show byL (List.replicate (i + 1 + 1) 0) ++ byL r = byL (List.replicate (i + 1) 0) ++ [.i .u8 0] :: byL r by rw [List.replicate_succ' (n := i + 1)]; simp [byL]]
      rw [set_end _ _ _ (by simp [byL])]
      rfl
    rw [h1, ih e (n / 256) ((n % 256) :: r) (by simp; omega) (by omega)]
    simp [be, byL]
theorem U146 (N d : Nat) (k : Int) : sem tab N (d + 1) 99 [.i .i64 k] [] = some (.b (inB k 1 8), []) := by
  rw [sem_succ tab N d 99 m99 rfl]
  by_cases h : 1 ≤ k <;> simp -implicitDefEqProofs (disch := first | omega | rfl) [m99, inB, h, KS, getS, gS, zipN, refs, -getElem?_pos]
def fitsB (n : Int) (k : Nat) : Bool := k == 8 || (n / 256 ^ k == 0)
theorem shrk (n : Int) (k : Nat) (h : 0 ≤ n) (hk : k < 8) : n.fdiv (2 ^ (min (8 * (k : Int)).toNat IntKind.u64.bits)) = n / 256 ^ k := by
  have e : min (8 * (k : Int)).toNat IntKind.u64.bits = 8 * k := by
    show min (8 * (k : Int)).toNat 64 = 8 * k
    omega
  have e3 : (2 : Int) ^ (8 * k) = 256 ^ k := (by decide : ∀ k < 8, (2 : Int) ^ (8 * k) = 256 ^ k) k hk
  have e4 : (0 : Int) ≤ 256 ^ k := (by decide : ∀ k < 8, (0 : Int) ≤ 256 ^ k) k hk
  rw [e, e3, Int.fdiv_eq_ediv_of_nonneg _ e4]
theorem k_mksK (k : Nat) (hk : k ≤ 8) (o : Nat) : mks [] o [.i .u8 0] (.i .i64 (k : Int)) = some (.sl o 0 0 k, [(o, rowK (byL (List.replicate k 0)) k)]) := by
  have h : (k : Int) ≤ 4294967296 := by omega
  simp [mks, newX, getO, isPures, isPure, zps, zp, wds, wd, rowK, two32, byL, h]
set_option maxHeartbeats 8000000 in
theorem U98 (N d : Nat) (n : Int) (k : Nat) (h0 : 1 ≤ k) (hk : k ≤ 8) (hn : 0 ≤ n) : sem tab (N + 100) (d + 2) 91 [.i .u64 n, .i .i64 k] [] = cond (fitsB n k) (some (.tup [.sl 0 0 0 k, .b true], [row (byL (be k n)) 1 true])) (some (.tup [.sl 0 0 0 0, .b false], [row [] 1 true])) := by
  rw [sem_succ tab (N + 100) (d + 1) 91 m91 rfl]
  have h146 := U146 (N + 100) d k
  have b1 : inB k 1 8 = true := by simp only [inB, Bool.and_eq_true, decide_eq_true_eq]; omega
  rw [b1] at h146
  have km := k_mksK k hk 248
  have zl : (byL (List.replicate k 0)).length = k := by simp [byL]
  have zv : ∀ i, i < k → (byL (List.replicate k 0))[i]? = some [.i .u8 0] := fun i hi => by simp [byL, hi]
  have e := w8m n
  have e2 := shr8 n hn
  have w8 : IntKind.i64.wrap (8 * (k : Int)) = 8 * k := w64 (by omega) (by omega)
  have c8 : ¬ (8 * (k : Int) < 0) := by omega
  have look : ∀ P : Bool → Prop, (k = 8 → P true) → (k < 8 → (n / 256 ^ k == 0) = true → P true) → (k < 8 → (n / 256 ^ k == 0) = false → P false) → P (fitsB n k) := by
    intro P h1 h2 h3
    unfold fitsB
    by_cases e8 : k = 8
    · rw [show (k == 8) = true by simpa using e8]; exact h1 e8
    · rw [show (k == 8) = false by simpa using e8, Bool.false_or]
      cases hq : (n / 256 ^ k == 0)
      · exact h3 (by omega) hq
      · exact h2 (by omega) hq
  have no : k < 8 → (n / 256 ^ k == 0) = false → m91 (sem tab (N + 100) (d + 1)) (N + 100) [.i .u64 n, .i .i64 k] [] = some (.tup [.sl 0 0 0 0, .b false], [row [] 1 true]) := by
    intro h8 hq
    have c : (k : Int) < 8 := by omega
    have hs := shrk n k hn h8
    have hq' : (n / 256 ^ k != 0) = true := by simpa using hq
    generalize n / 256 ^ k = q at *
    simp -implicitDefEqProofs (maxSteps := 1000000) (disch := first | omega | rfl) [m91, h146, c, w8, c8, hs, hq', KS, getS, gS, zipN, refs, refsL, noExt, ren, row, w64, -getElem?_pos]
  have yes : k = 8 ∨ (k < 8 ∧ (n / 256 ^ k == 0) = true) → m91 (sem tab (N + 100) (d + 1)) (N + 100) [.i .u64 n, .i .i64 k] [] = some (.tup [.sl 0 0 0 k, .b true], [row (byL (be k n)) 1 true]) := by
    intro h8
    by_cases k1 : k = 1
    · subst k1
      have hs := shrk n 1 hn (by omega)
      have hq' : (n / 256 ^ 1 != 0) = false := by
        rcases h8 with h8 | h8
        · omega
        · simpa using h8.2
      generalize n / 256 ^ 1 = q at *
      have hz : byL (be 1 n) = [[.i .u8 (n % 256)]] := by simp [be, byL]
      rw [hz]
      simp only [show byL (List.replicate 1 0) = [[PV.i .u8 0]] from rfl] at km
      have hs' : n.fdiv (2 ^ min 8 IntKind.u64.bits) = q := hs
      have w1 : IntKind.i64.wrap (1 - 1) = 0 := by decide
      have w2 : IntKind.i64.wrap (0 - 1) = -1 := by decide
      have w3 : IntKind.i64.wrap (8 * 1) = 8 := by decide
      simp only [show ((1 : Nat) : Int) = 1 from rfl] at *
      simp -implicitDefEqProofs (maxSteps := 1000000) (disch := first | omega | rfl) [m91, h146, km, rowK, hs', hq', e, KS, getS, getO, gS, zipN, dropW, takeW, wds, sea, refs, refsL, noExt, ren, cntN, row, putW, w64, -getElem?_pos]
    · obtain ⟨i, hi⟩ : ∃ i, k = i + 2 := ⟨k - 2, by omega⟩
      have h := loopu98 (N + 100) (d + 1) k hk i (N + 99 - i) (n / 256) [n % 256] (by simp; omega) (by omega)
      rw [show N + 99 - i + 1 + i = N + 100 by omega, k_loop] at h
      have hb : be k n = be (i + 1) (n / 256) ++ [n % 256] := by rw [hi]; rfl
      rw [hb]
      have hset : (byL (List.replicate k 0)).set (i + 1) [.i .u8 (n % 256)] = byL (List.replicate (i + 1) 0) ++ byL [n % 256] := by
        rw [hi, List.replicate_succ' (n := i + 1)]
        simp only [byL, List.map_append, List.map_cons, List.map_nil]
        rw [set_end _ _ _ (by simp)]
      rw [← hset] at h
      have zi := zv (i + 1) (by omega)
      generalize byL (be (i + 1) (n / 256) ++ [n % 256]) = res at *
      generalize byL (List.replicate k 0) = z at *
      have w1 : IntKind.i64.wrap ((k : Int) - 1) = (i : Int) + 1 := by rw [w64 (by omega) (by omega)]; omega
      have w2 : IntKind.i64.wrap ((i : Int) + 1 - 1) = i := by rw [w64 (by omega) (by omega)]; omega
      have w2' : IntKind.i64.wrap (i : Int) = i := w64 (by omega) (by omega)
      have c1 : 0 ≤ (i : Int) + 1 := by omega
      have c2 : (i : Int) + 1 < k := by omega
      have c3 : ((i : Int) + 1).toNat = i + 1 := by omega
      clear zv look no hset hb
      simp only [slu98, rowK] at h km
      rcases h8 with h8 | ⟨h8, hq⟩
      · have c : ¬ ((k : Int) < 8) := by omega
        simp -implicitDefEqProofs (maxSteps := 1000000) (disch := first | omega | rfl) [m91, h146, km, h, c, w1, w2', c1, c2, c3, zl, zi, e, e2, KS, getS, getO, gS, zipN, dropW, takeW, wds, refs, refsL, refsO, noExt, ren, keepO, keepS, keysO, refsS, refsOB, cntN, headC, row, putW, -getElem?_pos]
      · have c : (k : Int) < 8 := by omega
        have hs := shrk n k hn h8
        have hq' : (n / 256 ^ k != 0) = false := by simpa using hq
        generalize n / 256 ^ k = q at *
        simp -implicitDefEqProofs (maxSteps := 1000000) (disch := first | omega | rfl) [m91, h146, km, h, c, w8, c8, hs, hq', w1, w2', c1, c2, c3, zl, zi, e, e2, KS, getS, getO, gS, zipN, dropW, takeW, wds, refs, refsL, refsO, noExt, ren, keepO, keepS, keysO, refsS, refsOB, cntN, headC, row, putW, -getElem?_pos]
  exact look (fun q => m91 (sem tab (N + 100) (d + 1)) (N + 100) [.i .u64 n, .i .i64 k] [] = cond q (some (.tup [.sl 0 0 0 k, .b true], [row (byL (be k n)) 1 true])) (some (.tup [.sl 0 0 0 0, .b false], [row [] 1 true]))) (fun h => yes (.inl h)) (fun h h' => yes (.inr ⟨h, h'⟩)) no
end
section
def slu145 (k : Nat) (n i : Int) : SL := [(0, .i .u64 n), (6, .sl 184 0 0 k), (7, .i .i64 i)]
set_option maxHeartbeats 4000000 in
theorem stepu145 (N d : Nat) (g : SL → OB → Option R) (t : List (List PV)) (k j : Nat) (n : Int) (hj : j < k) (hk : k ≤ 8) (ht : t.length = k) (hv : t[j]? = some [.i .u8 0]) (hn : 0 ≤ n ∧ n ≤ 18446744073709551615) :
    m92b0 (sem tab N d) N [] g (slu145 k n j) [(184, rowK t k)] = g (slu145 k (n / 256) ((j : Int) - 1)) [(184, rowK (t.set j [.i .u8 (n % 256)]) k)] := by
  have e : IntKind.u8.wrap (n.tmod 256) = n % 256 := by rw [IntKind.wrap_u8, Int.tmod_eq_emod_of_nonneg hn.1]; omega
  have e2 : IntKind.u64.wrap (n.tdiv 256) = n / 256 := by rw [IntKind.wrap_u64, Int.tdiv_eq_ediv_of_nonneg hn.1]; omega
  have w1 : IntKind.i64.wrap ((j : Int) - 1) = (j : Int) - 1 := w64 (by omega) (by omega)
  have c1 : 0 ≤ (j : Int) := by omega
  have c2 : (j : Int) < k := by omega
  subst ht
  simp -implicitDefEqProofs (maxSteps := 1000000) (disch := first | omega | rfl) [m92b0, slu145, rowK, e, e2, w1, c1, c2, hv, KS, getS, getO, gS, dropW, takeW, wds, refs, refsO, keepO, keepS, keysO, refsS, refsOB, cntN, headC, row, putW, -getElem?_pos]
set_option maxHeartbeats 4000000 in
theorem endu145 (N d : Nat) (g : SL → OB → Option R) (t : List (List PV)) (k : Nat) (n : Int) (ht : t.length = k) (hk : 0 < k) :
    m92b0 (sem tab N d) N [] g (slu145 k n (-1)) [(184, rowK t k)] = cond (n == 0) (some (.tup [.sl 0 0 0 k, .b true], [row t 1 true])) (some (.tup [.sl 0 0 0 0, .b false], [row [] 1 true])) := by
  subst ht
  have tk : List.take t.length t = t := List.take_length
  by_cases c : n = 0
  · subst c
    simp -implicitDefEqProofs (maxSteps := 1000000) (disch := first | omega | rfl) [m92b0, slu145, rowK, tk, KS, getS, getO, gS, refs, cntN, row, w64, -getElem?_pos]
  · have c' : (n == 0) = false := by simpa using c
    have c2 : (n != 0) = true := by simpa using c
    simp -implicitDefEqProofs (maxSteps := 1000000) (disch := first | omega | rfl) [m92b0, slu145, rowK, tk, c', c2, KS, getS, getO, gS, refs, cntN, row, w64, -getElem?_pos]
theorem loopu145 (N d : Nat) (k : Nat) (hk : 0 < k ∧ k ≤ 8) : ∀ (j e : Nat) (n : Int) (r : List Int), j + r.length = k → 0 ≤ n ∧ n ≤ 18446744073709551615 →
    loopC (m92b0 (sem tab N d) N []) (e + 1 + j) (slu145 k n ((j : Int) - 1)) [(184, rowK (byL (List.replicate j 0) ++ byL r) k)] = cond (n / 256 ^ j == 0) (some (.tup [.sl 0 0 0 k, .b true], [row (byL (be j n ++ r)) 1 true])) (some (.tup [.sl 0 0 0 0, .b false], [row [] 1 true])) := by
  intro j
  induction j with
  | zero =>
    intro e n r h hn
    rw [Nat.add_zero, k_loop]
    have := endu145 N d (loopC (m92b0 (sem tab N d) N []) e) (byL (List.replicate 0 0) ++ byL r) k n (by simp [byL]; omega) hk.1
    rw [show ((0 : Nat) : Int) - 1 = -1 from rfl, this]
    simp [be, byL]
  | succ j ih =>
    intro e n r h hn
    have h1 : (byL (List.replicate (j + 1) 0) ++ byL r).set j [.i .u8 (n % 256)] = byL (List.replicate j 0) ++ byL ((n % 256) :: r) := by
      rw [show byL (List.replicate (j + 1) 0) ++ byL r = byL (List.replicate j 0) ++ [.i .u8 0] :: byL r by rw [List.replicate_succ' (n := j)]; simp [byL]]
      rw [set_end _ _ _ (by simp [byL])]
      rfl
    have hp : (0 : Int) ≤ 256 ^ j := by exact Int.pow_nonneg (by omega)
    rw [← Nat.add_assoc, k_loop, show (((j + 1 : Nat) : Int) - 1) = (j : Int) by omega, stepu145 N d _ _ k j n (by omega) hk.2 (by simp [byL]; omega) (by rw [List.getElem?_append_left (by simp [byL])]; simp [byL]) hn, h1, ih e (n / 256) ((n % 256) :: r) (by simp; omega) (by omega)]
    rw [Int.ediv_ediv, if_neg (by omega), Int.sub_zero, show (256 : Int) * 256 ^ j = 256 ^ (j + 1) by rw [Int.pow_succ, Int.mul_comm]]
    simp [be]
theorem fits8 (n : Int) (k : Nat) (hk : k ≤ 8) (hn : 0 ≤ n ∧ n ≤ 18446744073709551615) : (n / 256 ^ k == 0) = fitsB n k := by
  unfold fitsB
  by_cases e8 : k = 8
  · subst e8
    have : n / 256 ^ 8 = 0 := Int.ediv_eq_zero_of_lt hn.1 (by omega)
    rw [this]; rfl
  · rw [show (k == 8) = false by simpa using e8, Bool.false_or]
set_option maxHeartbeats 8000000 in
theorem U145 (N d : Nat) (n : Int) (k : Nat) (h0 : 1 ≤ k) (hk : k ≤ 8) (hn : 0 ≤ n ∧ n ≤ 18446744073709551615) : sem tab (N + 100) (d + 1) 92 [.i .u64 n, .i .i64 k] [] = cond (fitsB n k) (some (.tup [.sl 0 0 0 k, .b true], [row (byL (be k n)) 1 true])) (some (.tup [.sl 0 0 0 0, .b false], [row [] 1 true])) := by
  rw [sem_succ tab (N + 100) d 92 m92 rfl]
  have h := loopu145 (N + 100) d k ⟨h0, hk⟩ k (N + 99 - k) n [] (by simp) hn
  rw [show N + 99 - k + 1 + k = N + 100 by omega, k_loop, List.append_nil, fits8 n k hk hn] at h
  have km := k_mksK k hk 184
  simp only [show byL [] = [] from rfl, List.append_nil] at h
  have w1 : IntKind.i64.wrap ((k : Int) - 1) = (k : Int) - 1 := w64 (by omega) (by omega)
  have c1 : ¬ ((k : Int) < 1) := by omega
  have c2 : ¬ ((k : Int) > 8) := by omega
  have c2' : ¬ (8 < (k : Int)) := by omega
  generalize byL (be k n) = r at *
  generalize byL (List.replicate k 0) = z at *
  generalize fitsB n k = q at *
  simp only [slu145, rowK] at h km
  simp -implicitDefEqProofs (maxSteps := 1000000) (disch := first | omega | rfl) [m92, km, h, w1, c1, c2, KS, getS, getO, gS, zipN, refs, refsO, keepO, keepS, keysO, refsS, refsOB, cntN, headC, row, -getElem?_pos]
def nuL (l : List (Int × Nat)) : List (List PV) := l.map fun x => [.i .u64 x.1, .i .i64 x.2]
theorem nuL_len (l : List (Int × Nat)) : (nuL l).length = l.length := by simp [nuL]
theorem nuL_get (l : List (Int × Nat)) (i : Nat) (h : i < l.length) : (nuL l)[i]? = some [.i .u64 l[i].1, .i .i64 l[i].2] := by simp [nuL, h]
def catB : List (Int × Nat) → List Int
  | [] => []
  | x :: r => be x.2 x.1 ++ catB r
def fitAll : List (Int × Nat) → Bool
  | [] => true
  | x :: r => fitsB x.1 x.2 && fitAll r
def okNu (x : Int × Nat) : Prop := 1 ≤ x.2 ∧ x.2 ≤ 8 ∧ 0 ≤ x.1 ∧ x.1 ≤ 18446744073709551615
def slu39 (ys : List (List PV)) (t : Nat) (n i : Nat) : SL := [(4, .sl 103 0 0 t), (12, .l false ys), (13, .i .i64 n), (14, .i .i64 i)]
set_option maxHeartbeats 8000000 in
theorem stepu39 (N d : Nat) (g : SL → OB → Option R) (ys : List (List PV)) (t : List (List PV)) (n i : Nat) (x : Int × Nat) (hx : ys[i]? = some [.i .u64 x.1, .i .i64 x.2]) (hi : i < n) (hn : n ≤ 40) (ho : okNu x) (ht : t.length ≤ 100000) :
    m78b0 (sem tab (N + 100) (d + 2)) (N + 100) [] g (slu39 ys t.length n i) [(103, row t 1 true)] = cond (fitsB x.1 x.2) (g (slu39 ys (t ++ byL (be x.2 x.1)).length n (i + 1)) [(103, row (t ++ byL (be x.2 x.1)) 1 true)]) (some (.tup [.sl 0 0 0 0, .b false], [row [] 1 true])) := by
  obtain ⟨v, k⟩ := x
  obtain ⟨o1, o2, o3, o4⟩ := ho
  have h98 := U98 N d v k o1 o2 o3
  have hl := be_len k v
  have hl2 := byL_len (be k v)
  have fl := flat_by (be k v)
  have al := allW_by (be k v)
  rw [hl] at hl2
  simp only at hx h98 ⊢ o1 o2
  generalize byL (be k v) = b at *
  have w2 := w64n (i := i) (by omega)
  have ci : (i : Int) < n := by omega
  have tt : List.take k b = b := List.take_of_length_le (by omega)
  have t2 : List.take t.length t = t := List.take_length
  have e0 : t.length + k ≤ 4294967296 := by omega
  have e1 : ¬ (t.length + k ≤ t.length) := by omega
  have e3 : (t ++ b).length = t.length + k := by simp [hl2]
  have e4 : List.take (t.length + k) (t ++ b) = t ++ b := List.take_of_length_le (by omega)
  have e5 : b.length ≤ 4294967296 := by omega
  cases q : fitsB v k
  · rw [q] at h98
    simp -implicitDefEqProofs (maxSteps := 1000000) (disch := first | omega | rfl) [m78b0, slu39, hx, h98, w2, ci, KS, getS, getO, gS, dropW, takeW, wds, refs, refsL, noExt, noExts, ren, renL, cntN, boxO, row, putW, newOs, renO, noExtO, -getElem?_pos]
  · rw [q] at h98
    simp -implicitDefEqProofs (maxSteps := 1000000) (disch := first | omega | rfl) [m78b0, slu39, hx, h98, w2, ci, tt, t2, e0, e1, e3, fl, al, hl2, KS, getS, getO, gS, dropW, takeW, wds, refs, refsL, noExt, noExts, ren, renL, keepO, keepS, keysO, refsS, refsOB, cntN, headC, setS, boxO, row, putW, newOs, renO, noExtO, two32, -getElem?_pos]
set_option maxHeartbeats 4000000 in
theorem endu39 (N d : Nat) (g : SL → OB → Option R) (ys t : List (List PV)) (n : Nat) : m78b0 (sem tab N d) N [] g (slu39 ys t.length n n) [(103, row t 1 true)] = some (.tup [.sl 0 0 0 t.length, .b true], [row t 1 true]) := by
  have t2 : List.take t.length t = t := List.take_length
  simp -implicitDefEqProofs (maxSteps := 1000000) (disch := first | omega | rfl) [m78b0, slu39, t2, KS, getS, getO, gS, takeW, wds, refs, cntN, boxO, row, putW, -getElem?_pos]
theorem loopu39 (N d : Nat) (l : List (Int × Nat)) (hl : l.length ≤ 40) (ho : ∀ x ∈ l, okNu x) : ∀ (k i e : Nat) (t : List (List PV)), i + k = l.length → t.length ≤ 8 * i →
    loopC (m78b0 (sem tab (N + 100) (d + 2)) (N + 100) []) (e + 1 + k) (slu39 (nuL l) t.length l.length i) [(103, row t 1 true)] = cond (fitAll (l.drop i)) (some (.tup [.sl 0 0 0 (t ++ byL (catB (l.drop i))).length, .b true], [row (t ++ byL (catB (l.drop i))) 1 true])) (some (.tup [.sl 0 0 0 0, .b false], [row [] 1 true])) := by
  intro k
  induction k with
  | zero =>
    intro i e t h ht
    have : i = l.length := by omega
    subst this
    rw [Nat.add_zero, k_loop, endu39, List.drop_length]
    simp [fitAll, catB, byL]
  | succ k ih =>
    intro i e t h ht
    have hi : i < l.length := by omega
    have q1 := List.drop_eq_getElem_cons hi
    have hx := ho _ (List.getElem_mem hi)
    rw [← Nat.add_assoc, k_loop, stepu39 N d _ (nuL l) t l.length i l[i] (nuL_get l i hi) hi hl hx (by omega), q1, fitAll, catB]
    cases q : fitsB l[i].1 l[i].2
    · rfl
    · rw [cond_true, ih (i + 1) e _ (by omega) (by rw [List.length_append, byL_len, be_len]; have := hx.2.1; omega), Bool.true_and]
      have e1 : t ++ byL (be l[i].2 l[i].1) ++ byL (catB (List.drop (i + 1) l)) = t ++ byL (be l[i].2 l[i].1 ++ catB (List.drop (i + 1) l)) := by simp [byL]
      rw [e1]
theorem U39c (N d : Nat) (l : List (Int × Nat)) (hl : l.length ≤ 40) (ho : ∀ x ∈ l, okNu x) : sem tab (N + 100) (d + 3) 78 [.l false (nuL l)] [] = cond (fitAll l) (some (.tup [.sl 0 0 0 (catB l).length, .b true], [row (byL (catB l)) 1 true])) (some (.tup [.sl 0 0 0 0, .b false], [row [] 1 true])) := by
  rw [sem_succ tab (N + 100) (d + 2) 78 m78 rfl]
  have h := loopu39 N d l hl ho l.length 0 (N + 99 - l.length) [] (by omega) (by simp)
  rw [show N + 99 - l.length + 1 + l.length = N + 100 by omega, k_loop, List.drop_zero, List.nil_append, byL_len] at h
  have hn := nuL_len l
  have c1 : ¬ ((l.length : Int) > 40) := by omega
  have c1' : ¬ (40 < (l.length : Int)) := by omega
  rw [← hn] at c1 c1' h
  simp only [slu39, row, List.length_nil] at h
  rw [show ((0 : Nat) : Int) = 0 from rfl] at h
  generalize nuL l = a at *
  generalize byL (catB l) = r at *
  generalize (catB l).length = q at *
  generalize fitAll l = z at *
  simp -implicitDefEqProofs (maxSteps := 1000000) (disch := first | omega | rfl) [m78, h, c1, KS, getS, getO, gS, zipN, refs, keepO, keepS, keysO, refsS, refsOB, cntN, headC, setS, row, -getElem?_pos]
def slu90 (ys : List (List PV)) (t : Nat) (i : Nat) : SL := [(0, .l false ys), (4, .sl 103 0 0 t), (5, .i .i64 i)]
set_option maxHeartbeats 8000000 in
theorem stepu90 (N d : Nat) (g : SL → OB → Option R) (ys : List (List PV)) (t : List (List PV)) (i : Nat) (x : Int × Nat) (hx : ys[i]? = some [.i .u64 x.1, .i .i64 x.2]) (hi : i < ys.length) (hn : ys.length ≤ 40) (ho : okNu x) (ht : t.length ≤ 100000) :
    m82b0 (sem tab (N + 100) (d + 2)) (N + 100) [] g (slu90 ys t.length i) [(103, row t 1 true)] = cond (fitsB x.1 x.2) (g (slu90 ys (t ++ byL (be x.2 x.1)).length (i + 1)) [(103, row (t ++ byL (be x.2 x.1)) 1 true)]) (some (.tup [.sl 0 0 0 0, .b false], [row [] 1 true])) := by
  obtain ⟨v, k⟩ := x
  obtain ⟨o1, o2, o3⟩ := ho
  have h98 := U145 N (d + 1) v k o1 o2 o3
  have hl := be_len k v
  have hl2 := byL_len (be k v)
  have fl := flat_by (be k v)
  have al := allW_by (be k v)
  rw [hl] at hl2
  simp only at hx h98 ⊢ o1 o2
  generalize byL (be k v) = b at *
  have w2 := w64n (i := i) (by omega)
  have ci : (i : Int) < ys.length := by omega
  have tt : List.take k b = b := List.take_of_length_le (by omega)
  have t2 : List.take t.length t = t := List.take_length
  have e0 : t.length + k ≤ 4294967296 := by omega
  have e1 : ¬ (t.length + k ≤ t.length) := by omega
  have e3 : (t ++ b).length = t.length + k := by simp [hl2]
  have e4 : List.take (t.length + k) (t ++ b) = t ++ b := List.take_of_length_le (by omega)
  have e5 : b.length ≤ 4294967296 := by omega
  cases q : fitsB v k
  · rw [q] at h98
    simp -implicitDefEqProofs (maxSteps := 1000000) (disch := first | omega | rfl) [m82b0, slu90, hx, h98, w2, ci, KS, getS, getO, gS, dropW, wds, refs, refsL, noExt, noExts, ren, renL, cntN, row, newOs, renO, noExtO, -getElem?_pos]
  · rw [q] at h98
    simp -implicitDefEqProofs (maxSteps := 1000000) (disch := first | omega | rfl) [m82b0, slu90, hx, h98, w2, ci, tt, t2, e0, e1, e3, fl, al, hl2, KS, getS, getO, gS, dropW, wds, refs, refsL, noExt, noExts, ren, renL, keepO, keepS, keysO, refsS, refsOB, cntN, headC, setS, row, newOs, renO, noExtO, two32, -getElem?_pos]
set_option maxHeartbeats 4000000 in
theorem endu90 (N d : Nat) (g : SL → OB → Option R) (ys t : List (List PV)) : m82b0 (sem tab N d) N [] g (slu90 ys t.length ys.length) [(103, row t 1 true)] = some (.tup [.sl 0 0 0 t.length, .b true], [row t 1 true]) := by
  have t2 : List.take t.length t = t := List.take_length
  simp -implicitDefEqProofs (maxSteps := 1000000) (disch := first | omega | rfl) [m82b0, slu90, t2, KS, getS, getO, gS, refs, cntN, row, -getElem?_pos]
theorem loopu90 (N d : Nat) (l : List (Int × Nat)) (hl : l.length ≤ 40) (ho : ∀ x ∈ l, okNu x) : ∀ (k i e : Nat) (t : List (List PV)), i + k = l.length → t.length ≤ 8 * i →
    loopC (m82b0 (sem tab (N + 100) (d + 2)) (N + 100) []) (e + 1 + k) (slu90 (nuL l) t.length i) [(103, row t 1 true)] = cond (fitAll (l.drop i)) (some (.tup [.sl 0 0 0 (t ++ byL (catB (l.drop i))).length, .b true], [row (t ++ byL (catB (l.drop i))) 1 true])) (some (.tup [.sl 0 0 0 0, .b false], [row [] 1 true])) := by
  intro k
  have hn := nuL_len l
  induction k with
  | zero =>
    intro i e t h ht
    have : i = l.length := by omega
    subst this
    have h2 := endu90 (N + 100) (d + 2) (loopC (m82b0 (sem tab (N + 100) (d + 2)) (N + 100) []) e) (nuL l) t
    rw [hn] at h2
    rw [Nat.add_zero, k_loop, h2, List.drop_length]
    simp [fitAll, catB, byL]
  | succ k ih =>
    intro i e t h ht
    have hi : i < l.length := by omega
    have q1 := List.drop_eq_getElem_cons hi
    have hx := ho _ (List.getElem_mem hi)
    rw [← Nat.add_assoc, k_loop, stepu90 N d _ (nuL l) t i l[i] (nuL_get l i hi) (by omega) (by omega) hx (by omega), q1, fitAll, catB]
    cases q : fitsB l[i].1 l[i].2
    · rfl
    · rw [cond_true, ih (i + 1) e _ (by omega) (by rw [List.length_append, byL_len, be_len]; have := hx.2.1; omega), Bool.true_and]
      have e1 : t ++ byL (be l[i].2 l[i].1) ++ byL (catB (List.drop (i + 1) l)) = t ++ byL (be l[i].2 l[i].1 ++ catB (List.drop (i + 1) l)) := by simp [byL]
      rw [e1]
theorem U90c (N d : Nat) (l : List (Int × Nat)) (hl : l.length ≤ 40) (ho : ∀ x ∈ l, okNu x) : sem tab (N + 100) (d + 3) 82 [.l false (nuL l)] [] = cond (fitAll l) (some (.tup [.sl 0 0 0 (catB l).length, .b true], [row (byL (catB l)) 1 true])) (some (.tup [.sl 0 0 0 0, .b false], [row [] 1 true])) := by
  rw [sem_succ tab (N + 100) (d + 2) 82 m82 rfl]
  have h := loopu90 N d l hl ho l.length 0 (N + 99 - l.length) [] (by omega) (by simp)
  rw [show N + 99 - l.length + 1 + l.length = N + 100 by omega, k_loop, List.drop_zero, List.nil_append, byL_len] at h
  have hn := nuL_len l
  have c1 : ¬ ((l.length : Int) > 40) := by omega
  have c1' : ¬ (40 < (l.length : Int)) := by omega
  rw [← hn] at c1 c1'
  simp only [slu90, row, List.length_nil] at h
  rw [show ((0 : Nat) : Int) = 0 from rfl] at h
  generalize nuL l = a at *
  generalize byL (catB l) = r at *
  generalize (catB l).length = q at *
  generalize fitAll l = z at *
  simp -implicitDefEqProofs (maxSteps := 1000000) (disch := first | omega | rfl) [m82, h, c1, KS, getS, getO, gS, zipN, refs, keepO, keepS, keysO, refsS, refsOB, cntN, headC, setS, row, -getElem?_pos]
end
section
def turnE (x : Int) (n : Nat) : Int := IntKind.u32.wrap (BitVec.ofInt 32 (IntKind.u32.wrap (x * 2 ^ (32 - n))) ||| BitVec.ofInt 32 (x.fdiv (2 ^ n))).toNat
theorem turnE_or (x : Int) (n : Nat) : IntKind.u32.wrap (BitVec.ofInt 32 (x.fdiv (2 ^ n)) ||| BitVec.ofInt 32 (IntKind.u32.wrap (x * 2 ^ (32 - n)))).toNat = turnE x n := by rw [BitVec.or_comm]; rfl
theorem turnF7 (x : Int) : turnF x 7 = turnE x 7 := rfl
theorem t46_7 (N d : Nat) (x : Int) : sem tab N (d + 1) 102 [.i .u32 x, .i .u32 7] [] = some (.i .u32 (turnF x 7), []) := by
  rw [turnF7, ← turnE_or]; rfl
theorem turnF18 (x : Int) : turnF x 18 = turnE x 18 := rfl
theorem t46_18 (N d : Nat) (x : Int) : sem tab N (d + 1) 102 [.i .u32 x, .i .u32 18] [] = some (.i .u32 (turnF x 18), []) := by
  rw [turnF18, ← turnE_or]; rfl
theorem turnF17 (x : Int) : turnF x 17 = turnE x 17 := rfl
theorem t46_17 (N d : Nat) (x : Int) : sem tab N (d + 1) 102 [.i .u32 x, .i .u32 17] [] = some (.i .u32 (turnF x 17), []) := by
  rw [turnF17, ← turnE_or]; rfl
theorem turnF19 (x : Int) : turnF x 19 = turnE x 19 := rfl
theorem t46_19 (N d : Nat) (x : Int) : sem tab N (d + 1) 102 [.i .u32 x, .i .u32 19] [] = some (.i .u32 (turnF x 19), []) := by
  rw [turnF19, ← turnE_or]; rfl
theorem turnF6 (x : Int) : turnF x 6 = turnE x 6 := rfl
theorem t46_6 (N d : Nat) (x : Int) : sem tab N (d + 1) 102 [.i .u32 x, .i .u32 6] [] = some (.i .u32 (turnF x 6), []) := by
  rw [turnF6, ← turnE_or]; rfl
theorem turnF11 (x : Int) : turnF x 11 = turnE x 11 := rfl
theorem t46_11 (N d : Nat) (x : Int) : sem tab N (d + 1) 102 [.i .u32 x, .i .u32 11] [] = some (.i .u32 (turnF x 11), []) := by
  rw [turnF11, ← turnE_or]; rfl
theorem turnF25 (x : Int) : turnF x 25 = turnE x 25 := rfl
theorem t46_25 (N d : Nat) (x : Int) : sem tab N (d + 1) 102 [.i .u32 x, .i .u32 25] [] = some (.i .u32 (turnF x 25), []) := by
  rw [turnF25, ← turnE_or]; rfl
theorem turnF2 (x : Int) : turnF x 2 = turnE x 2 := rfl
theorem t46_2 (N d : Nat) (x : Int) : sem tab N (d + 1) 102 [.i .u32 x, .i .u32 2] [] = some (.i .u32 (turnF x 2), []) := by
  rw [turnF2, ← turnE_or]; rfl
theorem turnF13 (x : Int) : turnF x 13 = turnE x 13 := rfl
theorem t46_13 (N d : Nat) (x : Int) : sem tab N (d + 1) 102 [.i .u32 x, .i .u32 13] [] = some (.i .u32 (turnF x 13), []) := by
  rw [turnF13, ← turnE_or]; rfl
theorem turnF22 (x : Int) : turnF x 22 = turnE x 22 := rfl
theorem t46_22 (N d : Nat) (x : Int) : sem tab N (d + 1) 102 [.i .u32 x, .i .u32 22] [] = some (.i .u32 (turnF x 22), []) := by
  rw [turnF22, ← turnE_or]; rfl
theorem t47 (N d : Nat) : ∀ k : Nat, k < 64 → ∃ x, nMore[k]? = some x ∧ sem tab N (d + 1) 103 [.i .i64 k] [] = some (.i .u32 x, [])
  | 0, _ => ⟨_, rfl, rfl⟩
  | 1, _ => ⟨_, rfl, rfl⟩
  | 2, _ => ⟨_, rfl, rfl⟩
  | 3, _ => ⟨_, rfl, rfl⟩
  | 4, _ => ⟨_, rfl, rfl⟩
  | 5, _ => ⟨_, rfl, rfl⟩
  | 6, _ => ⟨_, rfl, rfl⟩
  | 7, _ => ⟨_, rfl, rfl⟩
  | 8, _ => ⟨_, rfl, rfl⟩
  | 9, _ => ⟨_, rfl, rfl⟩
  | 10, _ => ⟨_, rfl, rfl⟩
  | 11, _ => ⟨_, rfl, rfl⟩
  | 12, _ => ⟨_, rfl, rfl⟩
  | 13, _ => ⟨_, rfl, rfl⟩
  | 14, _ => ⟨_, rfl, rfl⟩
  | 15, _ => ⟨_, rfl, rfl⟩
  | 16, _ => ⟨_, rfl, rfl⟩
  | 17, _ => ⟨_, rfl, rfl⟩
  | 18, _ => ⟨_, rfl, rfl⟩
  | 19, _ => ⟨_, rfl, rfl⟩
  | 20, _ => ⟨_, rfl, rfl⟩
  | 21, _ => ⟨_, rfl, rfl⟩
  | 22, _ => ⟨_, rfl, rfl⟩
  | 23, _ => ⟨_, rfl, rfl⟩
  | 24, _ => ⟨_, rfl, rfl⟩
  | 25, _ => ⟨_, rfl, rfl⟩
  | 26, _ => ⟨_, rfl, rfl⟩
  | 27, _ => ⟨_, rfl, rfl⟩
  | 28, _ => ⟨_, rfl, rfl⟩
  | 29, _ => ⟨_, rfl, rfl⟩
  | 30, _ => ⟨_, rfl, rfl⟩
  | 31, _ => ⟨_, rfl, rfl⟩
  | 32, _ => ⟨_, rfl, rfl⟩
  | 33, _ => ⟨_, rfl, rfl⟩
  | 34, _ => ⟨_, rfl, rfl⟩
  | 35, _ => ⟨_, rfl, rfl⟩
  | 36, _ => ⟨_, rfl, rfl⟩
  | 37, _ => ⟨_, rfl, rfl⟩
  | 38, _ => ⟨_, rfl, rfl⟩
  | 39, _ => ⟨_, rfl, rfl⟩
  | 40, _ => ⟨_, rfl, rfl⟩
  | 41, _ => ⟨_, rfl, rfl⟩
  | 42, _ => ⟨_, rfl, rfl⟩
  | 43, _ => ⟨_, rfl, rfl⟩
  | 44, _ => ⟨_, rfl, rfl⟩
  | 45, _ => ⟨_, rfl, rfl⟩
  | 46, _ => ⟨_, rfl, rfl⟩
  | 47, _ => ⟨_, rfl, rfl⟩
  | 48, _ => ⟨_, rfl, rfl⟩
  | 49, _ => ⟨_, rfl, rfl⟩
  | 50, _ => ⟨_, rfl, rfl⟩
  | 51, _ => ⟨_, rfl, rfl⟩
  | 52, _ => ⟨_, rfl, rfl⟩
  | 53, _ => ⟨_, rfl, rfl⟩
  | 54, _ => ⟨_, rfl, rfl⟩
  | 55, _ => ⟨_, rfl, rfl⟩
  | 56, _ => ⟨_, rfl, rfl⟩
  | 57, _ => ⟨_, rfl, rfl⟩
  | 58, _ => ⟨_, rfl, rfl⟩
  | 59, _ => ⟨_, rfl, rfl⟩
  | 60, _ => ⟨_, rfl, rfl⟩
  | 61, _ => ⟨_, rfl, rfl⟩
  | 62, _ => ⟨_, rfl, rfl⟩
  | 63, _ => ⟨_, rfl, rfl⟩
  | k + 64, h => by omega
end
section
def orE (a b : Int) : Int := IntKind.u32.wrap (BitVec.ofInt 32 a ||| BitVec.ofInt 32 b).toNat
def word48 (x0 x1 x2 x3 : Int) : Int := orE (orE (orE (IntKind.u32.wrap (IntKind.u32.wrap x0 * 2 ^ 24)) (IntKind.u32.wrap (IntKind.u32.wrap x1 * 2 ^ 16))) (IntKind.u32.wrap (IntKind.u32.wrap x2 * 2 ^ 8))) (IntKind.u32.wrap x3)
def word45 (x0 x1 x2 x3 : Int) : Int := IntKind.u32.wrap (IntKind.u32.wrap (IntKind.u32.wrap (IntKind.u32.wrap (16777216 * IntKind.u32.wrap x0) + IntKind.u32.wrap (65536 * IntKind.u32.wrap x1)) + IntKind.u32.wrap (256 * IntKind.u32.wrap x2)) + IntKind.u32.wrap x3)
theorem w32 {x : Int} (h : 0 ≤ x) (h' : x < 4294967296) : IntKind.u32.wrap x = x := by
  rw [IntKind.wrap_u32]; omega
theorem orE_add (a b i : Nat) (hb : b < 2 ^ i) (h : 2 ^ i * a + b < 4294967296) : orE (2 ^ i * a : Nat) b = (2 ^ i * a + b : Nat) := by
  unfold orE
  have h1 : 2 ^ i * a < 4294967296 := by omega
  have h2 : b < 4294967296 := by omega
  rw [BitVec.ofInt_natCast, BitVec.ofInt_natCast, BitVec.toNat_or, BitVec.toNat_ofNat, BitVec.toNat_ofNat, Nat.mod_eq_of_lt h1, Nat.mod_eq_of_lt h2, ← Nat.two_pow_add_eq_or_of_lt hb, w32 (by omega) (by omega)]
theorem word_eq {x0 x1 x2 x3 : Int} (h0 : 0 ≤ x0 ∧ x0 ≤ 255) (h1 : 0 ≤ x1 ∧ x1 ≤ 255) (h2 : 0 ≤ x2 ∧ x2 ≤ 255) (h3 : 0 ≤ x3 ∧ x3 ≤ 255) : word48 x0 x1 x2 x3 = word45 x0 x1 x2 x3 := by
  obtain ⟨n0, rfl⟩ : ∃ n : Nat, x0 = n := ⟨x0.toNat, by omega⟩
  obtain ⟨n1, rfl⟩ : ∃ n : Nat, x1 = n := ⟨x1.toNat, by omega⟩
  obtain ⟨n2, rfl⟩ : ∃ n : Nat, x2 = n := ⟨x2.toNat, by omega⟩
  obtain ⟨n3, rfl⟩ : ∃ n : Nat, x3 = n := ⟨x3.toNat, by omega⟩
  have e : word45 n0 n1 n2 n3 = (16777216 * n0 + 65536 * n1 + 256 * n2 + n3 : Nat) := by
    unfold word45
    simp only [IntKind.wrap_u32]
    omega
  have e0 : IntKind.u32.wrap (IntKind.u32.wrap (n0 : Int) * 2 ^ 24) = (2 ^ 24 * n0 : Nat) := by
    simp only [IntKind.wrap_u32]; omega
  have e1 : IntKind.u32.wrap (IntKind.u32.wrap (n1 : Int) * 2 ^ 16) = (2 ^ 16 * n1 : Nat) := by
    simp only [IntKind.wrap_u32]; omega
  have e2 : IntKind.u32.wrap (IntKind.u32.wrap (n2 : Int) * 2 ^ 8) = (2 ^ 8 * n2 : Nat) := by
    simp only [IntKind.wrap_u32]; omega
  have e3 : IntKind.u32.wrap (n3 : Int) = n3 := w32 (by omega) (by omega)
  rw [e]
  unfold word48
  rw [e0, e1, e2, e3]
  rw [orE_add n0 (2 ^ 16 * n1) 24 (by omega) (by omega)]
  rw [show 2 ^ 24 * n0 + 2 ^ 16 * n1 = 2 ^ 16 * (2 ^ 8 * n0 + n1) by omega]
  rw [orE_add _ (2 ^ 8 * n2) 16 (by omega) (by omega)]
  rw [show 2 ^ 16 * (2 ^ 8 * n0 + n1) + 2 ^ 8 * n2 = 2 ^ 8 * (2 ^ 16 * n0 + 2 ^ 8 * n1 + n2) by omega]
  rw [orE_add _ n3 8 (by omega) (by omega)]
def wrow (ws : List Int) : List (List PV) := ws.map fun n => [.i .u32 n]
theorem wrow_get (ws : List Int) (j : Nat) : (wrow ws)[j]? = (ws[j]?).map fun n => [.i .u32 n] := by simp [wrow]
theorem wrow_len (ws : List Int) : (wrow ws).length = ws.length := by simp [wrow]
theorem wrow_app (ws : List Int) (y : Int) : wrow ws ++ [[.i .u32 y]] = wrow (ws ++ [y]) := by simp [wrow]
def sl45 (b : List (List PV)) (n : Nat) (k : Int) : SL := [(0, .l false b), (3, .sl 95 0 0 n), (4, .i .i64 k)]
def sl45b (n : Nat) (k : Int) : SL := [(3, .sl 95 0 0 n), (5, .i .i64 k)]
def ob45 (t : List (List PV)) : OB := [(95, row t 1 true)]
set_option maxHeartbeats 4000000 in
theorem stepJa48 (k : Nat) (b : List (List PV)) (zs ws : List PV) (x0 x1 x2 x3 : Int) (hk : k < 16) (hw : ws.length = 64)
    (h0 : b[4 * k]? = some [.i .u8 x0]) (h1 : b[4 * k + 1]? = some [.i .u8 x1]) (h2 : b[4 * k + 2]? = some [.i .u8 x2]) (h3 : b[4 * k + 3]? = some [.i .u8 x3]) :
    ∀ (N d : Nat) (g : SL → OB → Option R), m104b0 (sem tab N (d + 2)) N [] g (sl48 b k) (ob48 zs ws) = g (sl48 b (k + 1 : Nat)) (ob48 zs (ws.set k (.i .u32 (word48 x0 x1 x2 x3)))) := by
  have c1 : (k : Int) < 64 := by omega
  have c2 : (k : Int) < 16 := by omega
  have c3 : (0 : Int) ≤ k := by omega
  have c4 : (0 : Int) ≤ 4 * (k : Int) := by omega
  have c5 : (0 : Int) ≤ 4 * (k : Int) + 1 := by omega
  have c6 : (0 : Int) ≤ 4 * (k : Int) + 2 := by omega
  have c7 : (0 : Int) ≤ 4 * (k : Int) + 3 := by omega
  have t4 : (4 * (k : Int)).toNat = 4 * k := by omega
  have t5 : (4 * (k : Int) + 1).toNat = 4 * k + 1 := by omega
  have t6 : (4 * (k : Int) + 2).toNat = 4 * k + 2 := by omega
  have t7 : (4 * (k : Int) + 3).toNat = 4 * k + 3 := by omega
  have c8 : k < 64 := by omega
  intro N d g
  simp -implicitDefEqProofs (maxSteps := 1000000) (disch := first | omega | rfl) [m104b0, sl48, ob48, box, c1, c2, c3, c4, c5, c6, c7, c8, t4, t5, t6, t7, h0, h1, h2, h3, hw, KS, getS, getO, gS, dropW, takeW, wds, sea, seaL, refs, refsL, refsEls, refsO, keepO, keepS, keysO, refsS, refsOB, cntN, headC, putW, w64, -getElem?_pos]
  rfl
set_option maxHeartbeats 4000000 in
theorem stepJa45 (k : Nat) (b t : List (List PV)) (x0 x1 x2 x3 : Int) (hk : k < 16) (ht : t.length = k)
    (h0 : b[4 * k]? = some [.i .u8 x0]) (h1 : b[4 * k + 1]? = some [.i .u8 x1]) (h2 : b[4 * k + 2]? = some [.i .u8 x2]) (h3 : b[4 * k + 3]? = some [.i .u8 x3]) :
    ∀ (N d : Nat) (g : SL → OB → Option R), m101b1 (sem tab N d) N [] g (sl45 b k k) (ob45 t) = g (sl45 b (k + 1) (k + 1 : Nat)) (ob45 (t ++ [[.i .u32 (word45 x0 x1 x2 x3)]])) := by
  have c2 : (k : Int) < 16 := by omega
  have c3 : (0 : Int) ≤ k := by omega
  have c4 : (0 : Int) ≤ 4 * (k : Int) := by omega
  have c5 : (0 : Int) ≤ 4 * (k : Int) + 1 := by omega
  have c6 : (0 : Int) ≤ 4 * (k : Int) + 2 := by omega
  have c7 : (0 : Int) ≤ 4 * (k : Int) + 3 := by omega
  have t4 : (4 * (k : Int)).toNat = 4 * k := by omega
  have t5 : (4 * (k : Int) + 1).toNat = 4 * k + 1 := by omega
  have t6 : (4 * (k : Int) + 2).toNat = 4 * k + 2 := by omega
  have t7 : (4 * (k : Int) + 3).toNat = 4 * k + 3 := by omega
  have q1 : k + 1 ≤ 4294967296 := by omega
  have q2 : ¬ (k + 1 ≤ k) := by omega
  have tt : List.take k t = t := List.take_of_length_le (by omega)
  intro N d g
  simp -implicitDefEqProofs (maxSteps := 1000000) (disch := first | omega | rfl) [m101b1, sl45, ob45, c2, c4, c5, c6, c7, t4, t5, t6, t7, h0, h1, h2, h3, ht, q1, q2, tt, KS, getS, getO, gS, wds, stvs, refs, isPureEls, isPures, isPure, noExt, noExts, noExtEls, cellsL, keepO, keepS, keysO, refsS, refsOB, cntN, headC, setS, row, two32, w64, -getElem?_pos]
  rfl
end
section
set_option maxHeartbeats 8000000 in
theorem stepJb (k : Nat) (b t : List (List PV)) (zs ws : List PV) (x0 x1 x2 x3 : Int) (hk : k < 64) (hk' : 16 ≤ k) (hw : ws.length = 64) (ht : t.length = k)
    (h0 : ws[k - 15]? = some (.i .u32 x0)) (h1 : ws[k - 2]? = some (.i .u32 x1)) (h2 : ws[k - 16]? = some (.i .u32 x2)) (h3 : ws[k - 7]? = some (.i .u32 x3))
    (g0 : t[k - 15]? = some [.i .u32 x0]) (g1 : t[k - 2]? = some [.i .u32 x1]) (g2 : t[k - 16]? = some [.i .u32 x2]) (g3 : t[k - 7]? = some [.i .u32 x3]) :
    ∃ y, (∀ (N d : Nat) (g : SL → OB → Option R), m104b0 (sem tab N (d + 2)) N [] g (sl48 b k) (ob48 zs ws) = g (sl48 b (k + 1 : Nat)) (ob48 zs (ws.set k (.i .u32 y)))) ∧
      ∀ (N d : Nat) (g : SL → OB → Option R), m101b0 (sem tab N (d + 1)) N [] g (sl45b k k) (ob45 t) = g (sl45b (k + 1) (k + 1 : Nat)) (ob45 (t ++ [[.i .u32 y]])) := by
  have c1 : (k : Int) < 64 := by omega
  have c2 : ¬ ((k : Int) < 16) := by omega
  have c2' : ¬ (k < 16) := by omega
  have c3 : (0 : Int) ≤ k := by omega
  have c4 : (0 : Int) ≤ (k : Int) - 15 := by omega
  have c5 : (0 : Int) ≤ (k : Int) - 2 := by omega
  have c6 : (0 : Int) ≤ (k : Int) - 16 := by omega
  have c7 : (0 : Int) ≤ (k : Int) - 7 := by omega
  have d4 : (k : Int) - 15 < 64 := by omega
  have d5 : (k : Int) - 2 < 64 := by omega
  have d6 : (k : Int) - 16 < 64 := by omega
  have d7 : (k : Int) - 7 < 64 := by omega
  have b4 : (k : Int) - 15 < k := by omega
  have b5 : (k : Int) - 2 < k := by omega
  have b6 : (k : Int) - 16 < k := by omega
  have b7 : (k : Int) - 7 < k := by omega
  have t4 : ((k : Int) - 15).toNat = k - 15 := by omega
  have t5 : ((k : Int) - 2).toNat = k - 2 := by omega
  have t6 : ((k : Int) - 16).toNat = k - 16 := by omega
  have t7 : ((k : Int) - 7).toNat = k - 7 := by omega
  have c8 : k < 64 := by omega
  have e4 : (15 : Int) ≤ k := by omega
  have e5 : (2 : Int) ≤ k := by omega
  have e6 : (16 : Int) ≤ k := by omega
  have e7 : (7 : Int) ≤ k := by omega
  have w4 : IntKind.i64.wrap ((k : Int) - 15) = (k : Int) - 15 := w64 (by omega) (by omega)
  have w5 : IntKind.i64.wrap ((k : Int) - 2) = (k : Int) - 2 := w64 (by omega) (by omega)
  have w6 : IntKind.i64.wrap ((k : Int) - 16) = (k : Int) - 16 := w64 (by omega) (by omega)
  have w7 : IntKind.i64.wrap ((k : Int) - 7) = (k : Int) - 7 := w64 (by omega) (by omega)
  have q1 : k + 1 ≤ 4294967296 := by omega
  have q2 : ¬ (k + 1 ≤ k) := by omega
  have tt : List.take k t = t := List.take_of_length_le (by omega)
  apply Exists.intro
  constructor
  · intro N d g
    simp -implicitDefEqProofs (maxSteps := 1000000) (disch := first | omega | rfl) [m104b0, sl48, ob48, box, turn7, turn18, turn17, turn19, w4, w5, w6, w7, e4, e5, e6, e7, c1, c2, c3, c8, d4, d5, d6, d7, t4, t5, t6, t7, h0, h1, h2, h3, hw, KS, getS, getO, gS, dropW, takeW, wds, sea, seaL, refs, refsL, refsEls, refsO, noExt, ren, keepO, keepS, keysO, refsS, refsOB, cntN, headC, putW, w64, -getElem?_pos]
    rfl
  · intro N d g
    simp -implicitDefEqProofs (maxSteps := 1000000) (disch := first | omega | rfl) [m101b0, sl45b, ob45, t46_7, t46_18, t46_17, t46_19, w4, w5, w6, w7, e4, e5, e6, e7, c1, b4, b5, b6, b7, t4, t5, t6, t7, g0, g1, g2, g3, ht, q1, q2, tt, KS, getS, getO, gS, dropW, wds, stvs, refs, refsL, isPureEls, isPures, isPure, noExt, noExts, noExtEls, cellsL, ren, keepO, keepS, keysO, refsS, refsOB, cntN, headC, setS, row, two32, w64, -getElem?_pos]
set_option maxHeartbeats 4000000 in
theorem end45b (N d : Nat) (g : SL → OB → Option R) (t : List (List PV)) (ht : t.length = 64) : m101b0 (sem tab N d) N [] g (sl45b 64 64) (ob45 t) = some (.sl 0 0 0 64, [row t 1 true]) := by
  have tt : List.take 64 t = t := List.take_of_length_le (by omega)
  simp -implicitDefEqProofs (maxSteps := 1000000) (disch := first | omega | rfl) [m101b0, sl45b, ob45, ht, tt, KS, getS, getO, gS, stvs, refs, isPureEls, noExtEls, cellsL, cntN, row, w64, -getElem?_pos]
set_option maxHeartbeats 4000000 in
theorem mid45 (N d : Nat) (g : SL → OB → Option R) (b t : List (List PV)) (ht : t.length = 16) : m101b1 (sem tab N d) N [] g (sl45 b 16 16) (ob45 t) = loopC (m101b0 (sem tab N d) N []) N (sl45b 16 16) (ob45 t) := by
  have tt : List.take 16 t = t := List.take_of_length_le (by omega)
  simp -implicitDefEqProofs (maxSteps := 1000000) (disch := first | omega | rfl) [m101b1, sl45, sl45b, ob45, ht, KS, getS, getO, gS, stvs, refs, isPureEls, noExtEls, cellsL, keepO, keepS, keysO, refsS, refsOB, cntN, headC, setS, row, w64, -getElem?_pos]
end
section
theorem take_set {ws : List Int} {k : Nat} (h : k < ws.length) (y : Int) : (ws.set k y).take (k + 1) = ws.take k ++ [y] := by
  rw [List.take_succ_eq_append_getElem (by simpa using h), List.getElem_set_self, List.take_set_of_le (Nat.le_refl k)]
theorem take_get {ws : List Int} {k j : Nat} (h : j < k) : (ws.take k)[j]? = ws[j]? := List.getElem?_take_of_lt h
theorem loopJb (xs : List Int) (zs : List PV) : ∀ (n k : Nat) (ws : List Int), k + n = 64 → 16 ≤ k → ws.length = 64 → ∃ ws', ws'.length = 64 ∧
    (∀ N d M : Nat, loopC (m104b0 (sem tab N (d + 2)) N []) (M + 1 + n) (sl48 (byL xs) k) (ob48 zs (wL ws)) = some (.agg [.blob 64 (wL ws')], [])) ∧
    ∀ N d M : Nat, loopC (m101b0 (sem tab N (d + 1)) N []) (M + 1 + n) (sl45b k k) (ob45 (wrow (ws.take k))) = some (.sl 0 0 0 64, [row (wrow ws') 1 true]) := by
  intro n
  induction n with
  | zero =>
    intro k ws hk h16 hw
    have : k = 64 := by omega
    subst this
    refine ⟨ws, hw, fun N d M => by rw [Nat.add_zero, k_loop]; exact end48 N d _ _ _ _, fun N d M => ?_⟩
    rw [Nat.add_zero, k_loop, List.take_of_length_le (by omega)]
    exact end45b N (d + 1) _ _ (by rw [wrow_len]; exact hw)
  | succ n ih =>
    intro k ws hk h16 hw
    have wget : ∀ j, j < k → ∃ x, (wL ws)[j]? = some (.i .u32 x) ∧ (wrow (ws.take k))[j]? = some [.i .u32 x] := fun j hj => by
      obtain ⟨x, h⟩ := get_of hw (show j < 64 by omega)
      exact ⟨x, by rw [wL_get, h]; rfl, by rw [wrow_get, take_get hj, h]; rfl⟩
    obtain ⟨x0, h0, g0⟩ := wget (k - 15) (by omega)
    obtain ⟨x1, h1, g1⟩ := wget (k - 2) (by omega)
    obtain ⟨x2, h2, g2⟩ := wget (k - 16) (by omega)
    obtain ⟨x3, h3, g3⟩ := wget (k - 7) (by omega)
    obtain ⟨y, hy, hz⟩ := stepJb k (byL xs) (wrow (ws.take k)) zs (wL ws) x0 x1 x2 x3 (by omega) h16 (by rw [wL_len]; exact hw) (by rw [wrow_len, List.length_take]; omega) h0 h1 h2 h3 g0 g1 g2 g3
    obtain ⟨ws', i1, i2, i3⟩ := ih (k + 1) (ws.set k y) (by omega) (by omega) (by simpa using hw)
    refine ⟨ws', i1, fun N d M => ?_, fun N d M => ?_⟩
    · rw [show M + 1 + (n + 1) = (M + 1 + n) + 1 by omega, k_loop, hy, wL_set]
      exact i2 N d M
    · rw [show M + 1 + (n + 1) = (M + 1 + n) + 1 by omega, k_loop, hz, wrow_app, ← take_set (by omega)]
      exact i3 N d M
theorem loopJa (xs : List Int) (hx : xs.length = 64) (hb : ∀ n ∈ xs, 0 ≤ n ∧ n ≤ 255) (zs : List PV) : ∀ (n k : Nat) (ws : List Int), k + n = 16 → ws.length = 64 → ∃ ws', ws'.length = 64 ∧
    (∀ N d M : Nat, loopC (m104b0 (sem tab N (d + 2)) N []) (M + 1 + (48 + n)) (sl48 (byL xs) k) (ob48 zs (wL ws)) = some (.agg [.blob 64 (wL ws')], [])) ∧
    ∀ N d M : Nat, loopC (m101b1 (sem tab (N + 49) (d + 1)) (N + 49) []) (M + 1 + n) (sl45 (byL xs) k k) (ob45 (wrow (ws.take k))) = some (.sl 0 0 0 64, [row (wrow ws') 1 true]) := by
  intro n
  induction n with
  | zero =>
    intro k ws hk hw
    have : k = 16 := by omega
    subst this
    obtain ⟨ws', i1, i2, i3⟩ := loopJb xs zs 48 16 ws rfl (by omega) hw
    refine ⟨ws', i1, fun N d M => i2 N d M, fun N d M => ?_⟩
    have h := i3 (N + 49) d N
    rw [show N + 1 + 48 = N + 49 by omega] at h
    rw [Nat.add_zero, k_loop, show ((16 : Nat) : Int) = 16 from rfl, mid45 (N + 49) (d + 1) _ (byL xs) (wrow (ws.take 16)) (by rw [wrow_len, List.length_take]; omega)]
    exact h
  | succ n ih =>
    intro k ws hk hw
    have bget : ∀ j, j < 64 → ∃ x, (byL xs)[j]? = some [.i .u8 x] ∧ 0 ≤ x ∧ x ≤ 255 := fun j hj => by
      have hj' : j < xs.length := by omega
      exact ⟨xs[j], by rw [byL_get, List.getElem?_eq_getElem hj']; rfl, hb _ (List.getElem_mem hj')⟩
    obtain ⟨x0, h0, r0⟩ := bget (4 * k) (by omega)
    obtain ⟨x1, h1, r1⟩ := bget (4 * k + 1) (by omega)
    obtain ⟨x2, h2, r2⟩ := bget (4 * k + 2) (by omega)
    obtain ⟨x3, h3, r3⟩ := bget (4 * k + 3) (by omega)
    have hy := stepJa48 k (byL xs) zs (wL ws) x0 x1 x2 x3 (by omega) (by rw [wL_len]; exact hw) h0 h1 h2 h3
    have hz := stepJa45 k (byL xs) (wrow (ws.take k)) x0 x1 x2 x3 (by omega) (by rw [wrow_len, List.length_take]; omega) h0 h1 h2 h3
    rw [← word_eq r0 r1 r2 r3] at hz
    generalize word48 x0 x1 x2 x3 = y at *
    obtain ⟨ws', i1, i2, i3⟩ := ih (k + 1) (ws.set k y) (by omega) (by simpa using hw)
    refine ⟨ws', i1, fun N d M => ?_, fun N d M => ?_⟩
    · rw [show M + 1 + (48 + (n + 1)) = (M + 1 + (48 + n)) + 1 by omega, k_loop, hy, wL_set]
      exact i2 N d M
    · rw [show M + 1 + (n + 1) = (M + 1 + n) + 1 by omega, k_loop, hz, wrow_app, ← take_set (by omega)]
      exact i3 N d M
set_option maxHeartbeats 4000000 in
theorem J48 (xs : List Int) (hx : xs.length = 64) (hb : ∀ n ∈ xs, 0 ≤ n ∧ n ≤ 255) : ∃ ws : List Int, ws.length = 64 ∧
    (∀ M d : Nat, sem tab (M + 65) (d + 3) 104 [.l false (byL xs)] [] = some (.agg [.blob 64 (wL ws)], [])) ∧
    ∀ M d : Nat, sem tab (M + 65) (d + 2) 101 [.l false (byL xs)] [] = some (.sl 0 0 0 64, [row (wrow ws) 1 true]) := by
  obtain ⟨ws, h1, h2, h3⟩ := loopJa xs hx hb (List.replicate 64 (.i .u32 0)) 16 0 (List.replicate 64 0) rfl (by simp)
  refine ⟨ws, h1, fun M d => ?_, fun M d => ?_⟩
  · have h2 := h2 (M + 65) d M
    rw [sem_succ tab (M + 65) (d + 2) 104 m104 rfl]
    have e : wL (List.replicate 64 0) = List.replicate 64 (.i .u32 0) := by simp [wL]
    rw [e] at h2
    generalize byL xs = b at *
    generalize hz : List.replicate 64 (PV.i IntKind.u32 0) = z at *
    simp only [sl48, ob48, box, Nat.add_assoc] at h2
    simp -implicitDefEqProofs (maxSteps := 1000000) (disch := first | omega | rfl) [m104, hz, KS, getS, getO, gS, zipN, wds, refs, refsL, refsEls, refsO, keepO, keepS, keysO, refsS, refsOB, cntN, headC, boxO, -getElem?_pos]
    exact h2
  · have h3 := h3 (M + 16) d (M + 48)
    rw [sem_succ tab (M + 65) (d + 1) 101 m101 rfl]
    generalize byL xs = b at *
    generalize wrow ws = w at *
    simp only [sl45, ob45, row, List.take_zero, wrow, List.map_nil, Nat.add_assoc] at h3
    simp -implicitDefEqProofs (maxSteps := 1000000) (disch := first | omega | rfl) [m101, KS, getS, getO, gS, zipN, refs, keepO, keepS, keysO, refsS, refsOB, cntN, headC, setS, row, -getElem?_pos]
    exact h3
end
section
def sl40 (x0 x1 x2 x3 x4 x5 x6 x7 k : Int) : SL := [(2, .p 80 0 0 0 none), (4, .p 96 0 0 0 none), (5, .sl 208 0 0 64), (6, .i .u32 x0), (7, .i .u32 x1), (8, .i .u32 x2), (9, .i .u32 x3), (10, .i .u32 x4), (11, .i .u32 x5), (12, .i .u32 x6), (13, .i .u32 x7), (14, .i .i64 k)]
def ob40 (r z : List PV) (w : List (List PV)) : OB := [(80, box [.blob 8 r] 8), (96, box [.blob 8 z] 8), (208, row w 1 true)]
set_option maxHeartbeats 8000000 in
theorem stepJ43 (k : Nat) (r z w mm : List PV) (wr : List (List PV)) (x0 x1 x2 x3 x4 x5 x6 x7 wk mk : Int) (hk : k < 64) (hm : gMore = [.blob 64 mm]) (h0 : w[k]? = some (.i .u32 wk)) (g0 : wr[k]? = some [.i .u32 wk]) (hwr : wr.length = 64) (h1 : mm[k]? = some (.i .u32 mk))
    (h47 : ∀ N d : Nat, sem tab N (d + 1) 103 [.i .i64 k] [] = some (.i .u32 mk, [])) :
    ∃ t u, (∀ (N d : Nat) (g : SL → OB → Option R), m100b1 (sem tab N (d + 2)) N [] g (sl43 k) (ob43 r z w [.i .u32 x0, .i .u32 x1, .i .u32 x2, .i .u32 x3, .i .u32 x4, .i .u32 x5, .i .u32 x6, .i .u32 x7]) =
      g (sl43 (k + 1 : Nat)) (ob43 r z w [.i .u32 t, .i .u32 x0, .i .u32 x1, .i .u32 x2, .i .u32 u, .i .u32 x4, .i .u32 x5, .i .u32 x6])) ∧
      ∀ (N d : Nat) (g : SL → OB → Option R), m97b0 (sem tab N (d + 1)) N [] g (sl40 x0 x1 x2 x3 x4 x5 x6 x7 k) (ob40 r z wr) = g (sl40 t x0 x1 x2 u x4 x5 x6 (k + 1 : Nat)) (ob40 r z wr) := by
  have c1 : (k : Int) < 64 := by omega
  have c3 : (0 : Int) ≤ k := by omega
  apply Exists.intro
  apply Exists.intro
  constructor
  · intro N d g
    simp -implicitDefEqProofs (maxSteps := 1000000) (disch := first | omega | rfl) [m100b1, sl43, ob43, box, hm, turn6, turn11, turn25, turn2, turn13, turn22, c1, c3, h0, h1, k_com, binI, KS, getS, getO, gS, dropW, takeW, wds, refs, refsL, refsEls, refsO, noExt, ren, keepO, keepS, keysO, refsS, refsOB, cntN, headC, putW, putB, putB1, w64, -getElem?_pos]
    rfl
  · intro N d g
    have h47 := h47 N d
    simp -implicitDefEqProofs (maxSteps := 1000000) (disch := first | omega | rfl) [m97b0, sl40, ob40, box, t46_6, t46_11, t46_25, t46_2, t46_13, t46_22, c1, c3, g0, hwr, h47, k_com, binI, KS, getS, getO, gS, dropW, takeW, refs, refsL, refsEls, refsO, noExt, ren, keepO, keepS, keysO, refsS, refsOB, cntN, headC, row, putW, putB, putB1, w64, -getElem?_pos]
theorem addE_comm (a b : Int) : IntKind.u32.wrap (a + b) = IntKind.u32.wrap (b + a) := by rw [Int.add_comm]
set_option maxHeartbeats 4000000 in
theorem step43c (k : Nat) (r z x : List PV) (a b : Int) (hk : k < 8) (hx : x.length = 8) (h0 : x[k]? = some (.i .u32 a)) (h1 : r[k]? = some (.i .u32 b)) :
    ∀ (N d : Nat) (g : SL → OB → Option R), m100b0 (sem tab N (d + 2)) N [] g (sl43b k) (ob43b r z x) = g (sl43b (k + 1 : Nat)) (ob43b r z (x.set k (.i .u32 (IntKind.u32.wrap (a + b))))) := by
  have c1 : (k : Int) < 8 := by omega
  have c3 : (0 : Int) ≤ k := by omega
  intro N d g
  simp -implicitDefEqProofs (maxSteps := 1000000) (disch := first | omega | rfl) [m100b0, sl43b, ob43b, box, hk, hx, c1, c3, h0, h1, KS, getS, getO, gS, dropW, takeW, wds, sea, seaL, refs, refsL, refsEls, refsO, keepO, keepS, keysO, refsS, refsOB, cntN, headC, putW, w64, -getElem?_pos]
set_option maxHeartbeats 8000000 in
theorem fin43 (N d M : Nat) (z : List PV) (x0 x1 x2 x3 x4 x5 x6 x7 r0 r1 r2 r3 r4 r5 r6 r7 : Int) :
    loopC (m100b0 (sem tab N (d + 2)) N []) (M + 9) (sl43b 0) (ob43b (wL [r0, r1, r2, r3, r4, r5, r6, r7]) z (wL [x0, x1, x2, x3, x4, x5, x6, x7])) = some (.agg [.blob 8 (wL [IntKind.u32.wrap (x0 + r0), IntKind.u32.wrap (x1 + r1), IntKind.u32.wrap (x2 + r2), IntKind.u32.wrap (x3 + r3), IntKind.u32.wrap (x4 + r4), IntKind.u32.wrap (x5 + r5), IntKind.u32.wrap (x6 + r6), IntKind.u32.wrap (x7 + r7)])], []) := by
  have e : (0 : Int) = ((0 : Nat) : Int) := rfl
  rw [e, show M + 9 = (M + 8) + 1 from rfl, k_loop, step43c 0 _ _ _ x0 r0 (by omega) rfl rfl rfl]
  rw [k_loop, step43c (0 + 1) _ _ _ x1 r1 (by omega) rfl rfl rfl]
  rw [k_loop, step43c (0 + 1 + 1) _ _ _ x2 r2 (by omega) rfl rfl rfl]
  rw [k_loop, step43c (0 + 1 + 1 + 1) _ _ _ x3 r3 (by omega) rfl rfl rfl]
  rw [k_loop, step43c (0 + 1 + 1 + 1 + 1) _ _ _ x4 r4 (by omega) rfl rfl rfl]
  rw [k_loop, step43c (0 + 1 + 1 + 1 + 1 + 1) _ _ _ x5 r5 (by omega) rfl rfl rfl]
  rw [k_loop, step43c (0 + 1 + 1 + 1 + 1 + 1 + 1) _ _ _ x6 r6 (by omega) rfl rfl rfl]
  rw [k_loop, step43c (0 + 1 + 1 + 1 + 1 + 1 + 1 + 1) _ _ _ x7 r7 (by omega) rfl rfl rfl]
  rw [k_loop]
  exact end43b N d _ _ _ _
set_option maxHeartbeats 8000000 in
theorem fin40 (N d : Nat) (g : SL → OB → Option R) (z : List PV) (wr : List (List PV)) (x0 x1 x2 x3 x4 x5 x6 x7 r0 r1 r2 r3 r4 r5 r6 r7 : Int) :
    m97b0 (sem tab N (d + 1)) N [] g (sl40 x0 x1 x2 x3 x4 x5 x6 x7 64) (ob40 (wL [r0, r1, r2, r3, r4, r5, r6, r7]) z wr) = some (.agg [.blob 8 (wL [IntKind.u32.wrap (x0 + r0), IntKind.u32.wrap (x1 + r1), IntKind.u32.wrap (x2 + r2), IntKind.u32.wrap (x3 + r3), IntKind.u32.wrap (x4 + r4), IntKind.u32.wrap (x5 + r5), IntKind.u32.wrap (x6 + r6), IntKind.u32.wrap (x7 + r7)])], []) := by
  have e : ∀ a0 a1 a2 a3 a4 a5 a6 a7 : Int, wL [a0, a1, a2, a3, a4, a5, a6, a7] = [.i .u32 a0, .i .u32 a1, .i .u32 a2, .i .u32 a3, .i .u32 a4, .i .u32 a5, .i .u32 a6, .i .u32 a7] := fun _ _ _ _ _ _ _ _ => rfl
  rw [addE_comm x0, addE_comm x1, addE_comm x2, addE_comm x3, addE_comm x4, addE_comm x5, addE_comm x6, addE_comm x7, e, e]
  simp -implicitDefEqProofs (maxSteps := 1000000) (disch := first | omega | rfl) [m97b0, sl40, ob40, box, KS, getS, getO, gS, dropW, takeW, wds, sea, seaL, refs, refsL, row, putW, putB, putB1, w64, -getElem?_pos]
end
section
theorem wL_inj {a b : List Int} (h : wL a = wL b) : a = b := by
  have : ∀ (a b : List Int), wL a = wL b → a = b := by
    intro a
    induction a with
    | nil => intro b h; cases b with
      | nil => rfl
      | cons y b => simp [wL] at h
    | cons x a ih => intro b h; cases b with
      | nil => simp [wL] at h
      | cons y b =>
        simp only [wL, List.map_cons, List.cons.injEq, PV.i.injEq, true_and] at h
        rw [h.1, ih b h.2]
  exact this a b h
theorem loopJ43 (r0 r1 r2 r3 r4 r5 r6 r7 : Int) (ws : List Int) (hw : ws.length = 64) (z : List PV) : ∀ (n k : Nat) (x0 x1 x2 x3 x4 x5 x6 x7 : Int), k + n = 64 → ∃ ys : List Int, ys.length = 8 ∧ (∀ y ∈ ys, 0 ≤ y ∧ y < 4294967296) ∧
    (∀ M' d M : Nat, loopC (m100b1 (sem tab (M' + 9) (d + 2)) (M' + 9) []) (M + 1 + n) (sl43 k) (ob43 (wL [r0, r1, r2, r3, r4, r5, r6, r7]) z (wL ws) (wL [x0, x1, x2, x3, x4, x5, x6, x7])) = some (.agg [.blob 8 (wL ys)], [])) ∧
    ∀ N d M : Nat, loopC (m97b0 (sem tab N (d + 1)) N []) (M + 1 + n) (sl40 x0 x1 x2 x3 x4 x5 x6 x7 k) (ob40 (wL [r0, r1, r2, r3, r4, r5, r6, r7]) z (wrow ws)) = some (.agg [.blob 8 (wL ys)], []) := by
  intro n
  induction n with
  | zero =>
    intro k x0 x1 x2 x3 x4 x5 x6 x7 hk
    have : k = 64 := by omega
    subst this
    refine ⟨[IntKind.u32.wrap (x0 + r0), IntKind.u32.wrap (x1 + r1), IntKind.u32.wrap (x2 + r2), IntKind.u32.wrap (x3 + r3), IntKind.u32.wrap (x4 + r4), IntKind.u32.wrap (x5 + r5), IntKind.u32.wrap (x6 + r6), IntKind.u32.wrap (x7 + r7)], rfl, fun y hy => ?_, fun M' d M => ?_, fun N d M => ?_⟩
    · simp only [List.mem_cons, List.not_mem_nil, or_false] at hy
      rcases hy with rfl | rfl | rfl | rfl | rfl | rfl | rfl | rfl <;> rw [IntKind.wrap_u32] <;> omega
    · rw [Nat.add_zero, k_loop]
      have h := mid43 (M' + 9) d (loopC (m100b1 (sem tab (M' + 9) (d + 2)) (M' + 9) []) M) (wL [r0, r1, r2, r3, r4, r5, r6, r7]) z (wL ws) (wL [x0, x1, x2, x3, x4, x5, x6, x7])
      rw [show ((64 : Nat) : Int) = 64 from rfl, h]
      exact fin43 (M' + 9) d M' z x0 x1 x2 x3 x4 x5 x6 x7 r0 r1 r2 r3 r4 r5 r6 r7
    · rw [Nat.add_zero, k_loop]
      exact fin40 N d _ z (wrow ws) x0 x1 x2 x3 x4 x5 x6 x7 r0 r1 r2 r3 r4 r5 r6 r7
  | succ n ih =>
    intro k x0 x1 x2 x3 x4 x5 x6 x7 hk
    obtain ⟨wk, hwk⟩ := get_of hw (show k < 64 by omega)
    obtain ⟨mk, hmk, h47⟩ : ∃ mk, nMore[k]? = some mk ∧ ∀ N d : Nat, sem tab N (d + 1) 103 [.i .i64 k] [] = some (.i .u32 mk, []) := by
      obtain ⟨mk, h, _⟩ := t47 0 0 k (by omega)
      refine ⟨mk, h, fun N d => ?_⟩
      obtain ⟨mk', h', h''⟩ := t47 N d k (by omega)
      rw [h] at h'
      obtain rfl := Option.some.inj h'
      exact h''
    have e : ∀ a0 a1 a2 a3 a4 a5 a6 a7 : Int, wL [a0, a1, a2, a3, a4, a5, a6, a7] = [.i .u32 a0, .i .u32 a1, .i .u32 a2, .i .u32 a3, .i .u32 a4, .i .u32 a5, .i .u32 a6, .i .u32 a7] := fun _ _ _ _ _ _ _ _ => rfl
    obtain ⟨t, u, h1, h2⟩ := stepJ43 k (wL [r0, r1, r2, r3, r4, r5, r6, r7]) z (wL ws) (nMore.map (.i .u32)) (wrow ws) x0 x1 x2 x3 x4 x5 x6 x7 wk mk (by omega) rfl (by rw [wL_get, hwk]; rfl) (by rw [wrow_get, hwk]; rfl) (by rw [wrow_len]; exact hw) (by rw [List.getElem?_map, hmk]; rfl) h47
    obtain ⟨ys, i1, i0, i2, i3⟩ := ih (k + 1) t x0 x1 x2 u x4 x5 x6 (by omega)
    refine ⟨ys, i1, i0, fun M' d M => ?_, fun N d M => ?_⟩
    · rw [show M + 1 + (n + 1) = (M + 1 + n) + 1 by omega, k_loop, e x0, h1, ← e t]
      exact i2 M' d M
    · rw [show M + 1 + (n + 1) = (M + 1 + n) + 1 by omega, k_loop, h2]
      exact i3 N d M
set_option maxHeartbeats 4000000 in
theorem J43 (rs xs : List Int) (hr : rs.length = 8) (hx : xs.length = 64) (hb : ∀ n ∈ xs, 0 ≤ n ∧ n ≤ 255) : ∃ ys : List Int, ys.length = 8 ∧ (∀ y ∈ ys, 0 ≤ y ∧ y < 4294967296) ∧
    (∀ M d : Nat, sem tab (M + 65) (d + 4) 100 [.agg [.blob 8 (wL rs)], .l false (byL xs)] [] = some (.agg [.blob 8 (wL ys)], [])) ∧
    ∀ M d : Nat, sem tab (M + 65) (d + 3) 97 [.agg [.blob 8 (wL rs)], .l false (byL xs)] [] = some (.agg [.blob 8 (wL ys)], []) := by
  obtain ⟨ws, hw, h48, h45⟩ := J48 xs hx hb
  obtain ⟨r0, r1, r2, r3, r4, r5, r6, r7, rfl⟩ := eight hr
  obtain ⟨ys, h1, h0, h2, h3⟩ := loopJ43 r0 r1 r2 r3 r4 r5 r6 r7 ws hw (List.replicate 8 (.i .u32 0)) 64 0 r0 r1 r2 r3 r4 r5 r6 r7 rfl
  refine ⟨ys, h1, h0, fun M d => ?_, fun M d => ?_⟩
  · have h48 := h48 M d
    have h2 := h2 (M + 56) (d + 1) M
    rw [sem_succ tab (M + 65) (d + 3) 100 m100 rfl]
    generalize byL xs = b at *
    generalize wL [r0, r1, r2, r3, r4, r5, r6, r7] = r at *
    generalize wL ws = w at *
    generalize wL ys = y at *
    generalize hz : List.replicate 8 (PV.i IntKind.u32 0) = z at *
    generalize hz2 : List.replicate 64 (PV.i IntKind.u32 0) = z2 at *
    simp only [sl43, ob43, box, Nat.add_assoc] at h2
    simp -implicitDefEqProofs (maxSteps := 1000000) (disch := first | omega | rfl) [m100, hz, hz2, h48, KS, getS, getO, gS, zipN, dropW, takeW, wds, refs, refsL, refsEls, refsO, noExt, noExts, ren, renL, keepO, keepS, keysO, refsS, refsOB, cntN, headC, boxO, putW, -getElem?_pos]
    exact h2
  · have h45 := h45 M d
    have h3 := h3 (M + 65) (d + 1) M
    rw [sem_succ tab (M + 65) (d + 2) 97 m97 rfl]
    have e : wL [r0, r1, r2, r3, r4, r5, r6, r7] = [.i .u32 r0, .i .u32 r1, .i .u32 r2, .i .u32 r3, .i .u32 r4, .i .u32 r5, .i .u32 r6, .i .u32 r7] := rfl
    rw [e] at h3 ⊢
    have hwl := wrow_len ws
    rw [hw] at hwl
    generalize byL xs = b at *
    generalize wrow ws = w at *
    generalize wL ys = y at *
    generalize hz : List.replicate 8 (PV.i IntKind.u32 0) = z at *
    simp only [sl40, ob40, box, row, Nat.add_assoc] at h3
    simp -implicitDefEqProofs (maxSteps := 1000000) (disch := first | omega | rfl) [m97, hz, h45, KS, getS, getO, gS, zipN, dropW, wds, refs, refsL, refsEls, refsO, noExt, ren, keepO, keepS, keysO, refsS, refsOB, cntN, headC, boxO, row, newOs, renO, noExtO, -getElem?_pos]
    exact h3
theorem L40 (M d : Nat) (rs xs : List Int) (hr : rs.length = 8) (hx : xs.length = 64) (hb : ∀ n ∈ xs, 0 ≤ n ∧ n ≤ 255) : sem tab (M + 65) (d + 3) 97 [.agg [.blob 8 (wL rs)], .l false (byL xs)] [] = some (.agg [.blob 8 (wL (rnd rs xs))], []) := by
  obtain ⟨ys, h1, h0, h2, h3⟩ := J43 rs xs hr hx hb
  have e := (h2 0 0).symm.trans (L43 0 0 rs xs hr hx)
  have e : wL ys = wL (rnd rs xs) := by
    injection e with e; injection e with e; injection e with e; injection e with e; injection e with e
  rw [← e]; exact h3 M d
theorem rnd_range (rs xs : List Int) (hr : rs.length = 8) (h : ∀ y ∈ rs, 0 ≤ y ∧ y < 4294967296) (hb : ∀ n ∈ xs, 0 ≤ n ∧ n ≤ 255) : ∀ y ∈ rnd rs xs, 0 ≤ y ∧ y < 4294967296 := by
  by_cases hx : xs.length = 64
  · obtain ⟨ys, h1, h0, h2, h3⟩ := J43 rs xs hr hx hb
    have e := (h2 0 0).symm.trans (L43 0 0 rs xs hr hx)
    have e : wL ys = wL (rnd rs xs) := by
      injection e with e; injection e with e; injection e with e; injection e with e; injection e with e
    rw [← wL_inj e]; exact h0
  · unfold rnd
    rw [dif_neg (fun h => hx h.2)]; exact h
theorem rounds_range : ∀ (n : Nat) (rs xs : List Int), xs.length ≤ n → rs.length = 8 → (∀ y ∈ rs, 0 ≤ y ∧ y < 4294967296) → (∀ n ∈ xs, 0 ≤ n ∧ n ≤ 255) → ∀ y ∈ (rounds rs xs).1, 0 ≤ y ∧ y < 4294967296 := by
  intro n
  induction n with
  | zero =>
    intro rs xs h hr h1 hb
    rw [rounds_short (by omega)]; exact h1
  | succ n ih =>
    intro rs xs h hr h1 hb
    by_cases hx : xs.length < 64
    · rw [rounds_short hx]; exact h1
    · rw [rounds_long hx]
      exact ih _ _ (by simp; omega) (rnd_len _ _ hr) (rnd_range _ _ hr h1 (fun n hn => hb n (List.mem_of_mem_take hn))) (fun n hn => hb n (List.mem_of_mem_drop hn))
end
section
theorem L17 (N d : Nat) (ns xs : List Int) (L : Int) : sem tab N (d + 1) 96 [hashV ns false xs L] [] = some (.b (mayB xs.length L), []) := by
  rw [← L23 N d ns xs L, sem_succ tab N d 96 m96 rfl, sem_succ tab N d 94 m94 rfl]
  rfl
theorem L22 (N d : Nat) : sem tab N (d + 1) 89 [] [] = some (hashV nFirst true [] 0, []) := by
  rw [sem_succ tab N d 89 m89 rfl]
  rfl
def rowv (t : List (List PV)) (v : Nat) : Obj' := { els := t, w := 1, pu := true, g := true, cap := none, ver := v, fro := false }
def sl20 (v i n : Nat) : SL := [(4, .p 96 0 0 0 none), (6, .sl 248 v i n), (7, .p 120 0 0 0 none)]
def ob20 (hc : List PV) (r : List PV) (L : Int) (t : List (List PV)) (v : Nat) : OB := [(96, box hc 10), (120, box [.blob 8 r, .e true, .i .i64 L] 10), (248, rowv t v)]
set_option maxHeartbeats 4000000 in
theorem step20 (M d : Nat) (g : SL → OB → Option R) (rs T : List Int) (L : Int) (z8 : List PV) (v i n : Nat) (hr : rs.length = 8) (hn : 64 ≤ n) (hi : i + n = T.length) (hb : ∀ n ∈ T, 0 ≤ n ∧ n ≤ 255) :
    m88b0 (sem tab (M + 65) (d + 3)) (M + 65) [] g (sl20 v i n) (ob20 [.blob 8 z8, .e true, .i .i64 0] (wL rs) L (byL T) v) = g (sl20 v (i + 64) (n - 64)) (ob20 [.blob 8 z8, .e true, .i .i64 0] (wL (rnd rs ((T.drop i).take 64))) L (byL T) v) := by
  have h40 := L40 M d rs ((T.drop i).take 64) hr (by simp; omega) (fun x hx => hb x (List.mem_of_mem_drop (List.mem_of_mem_take hx)))
  have hl := byL_len T
  have e : List.take 64 (List.drop i (byL T)) = byL ((T.drop i).take 64) := by rw [byL_drop, byL_take]
  rw [← e] at h40
  rw [← hl] at hi
  generalize byL T = t at *
  generalize wL (rnd rs ((T.drop i).take 64)) = r2 at *
  generalize wL rs = r at *
  have c1 : 64 ≤ (n : Int) := by omega
  have c2 : i + 64 ≤ t.length := by omega
  have c3 : (64 : Int) ≤ n := by omega
  have c4 : i + n ≤ t.length := by omega
  have c5 : (i : Int) + 64 ≤ t.length := by omega
  have c6 : (i : Int) + n ≤ t.length := by omega
  simp -implicitDefEqProofs (maxSteps := 1000000) (disch := first | omega | rfl) [m88b0, sl20, ob20, box, rowv, c1, c2, c4, c5, c6, h40, KS, getS, getO, gS, dropW, takeW, wds, sea, seaL, refs, refsL, refsEls, refsO, noExt, noExts, ren, renL, keepO, keepS, keysO, refsS, refsOB, cntN, headC, putW, -getElem?_pos]
set_option maxHeartbeats 4000000 in
theorem end20 (N d : Nat) (g : SL → OB → Option R) (r : List PV) (t : List (List PV)) (L : Int) (z8 : List PV) (v i n : Nat) (hn : n < 64) (hi : i + n = t.length) :
    m88b0 (sem tab N d) N [] g (sl20 v i n) (ob20 [.blob 8 z8, .e true, .i .i64 0] r L t v) = some (.agg [.blob 8 r, .l true (t.drop i), .i .i64 L], []) := by
  have c1 : ¬ (64 ≤ (n : Int)) := by omega
  have c2 : ¬ (64 ≤ n) := by omega
  have c4 : i + n ≤ t.length := by omega
  have ht : List.take n (List.drop i t) = List.drop i t := List.take_of_length_le (by simp; omega)
  simp -implicitDefEqProofs (maxSteps := 1000000) (disch := first | omega | rfl) [m88b0, sl20, ob20, box, rowv, c1, c4, ht, KS, getS, getO, gS, dropW, takeW, wds, sea, seaL, refs, refsL, putW, -getElem?_pos]
theorem loop20 (T : List Int) (L : Int) (z8 : List PV) (v : Nat) (hb : ∀ n ∈ T, 0 ≤ n ∧ n ≤ 255) : ∀ (j i : Nat) (rs : List Int) (M d M' : Nat), i ≤ T.length → T.length - i ≤ 64 * j → rs.length = 8 →
    loopC (m88b0 (sem tab (M + 65) (d + 3)) (M + 65) []) (M' + 1 + j) (sl20 v i (T.length - i)) (ob20 [.blob 8 z8, .e true, .i .i64 0] (wL rs) L (byL T) v) = some (hashV (rounds rs (T.drop i)).1 true (rounds rs (T.drop i)).2 L, []) := by
  intro j
  induction j with
  | zero =>
    intro i rs M d M' hi hj hr
    rw [Nat.add_zero, k_loop, rounds_short (by simp; omega), end20 _ _ _ _ _ _ _ _ _ _ (by omega) (by rw [byL_len]; omega), byL_drop]
    rfl
  | succ j ih =>
    intro i rs M d M' hi hj hr
    rw [show M' + 1 + (j + 1) = (M' + 1 + j) + 1 by omega, k_loop]
    by_cases h : T.length - i < 64
    · rw [rounds_short (by simp; omega), end20 _ _ _ _ _ _ _ _ _ _ (by omega) (by rw [byL_len]; omega), byL_drop]
      rfl
    · rw [step20 M d _ rs T L z8 v i _ hr (by omega) (by omega) hb, rounds_long (by simp; omega), List.drop_drop, show T.length - i - 64 = T.length - (i + 64) by omega]
      exact ih (i + 64) _ M d M' (by omega) (by omega) (rnd_len _ _ hr)
end
section
set_option maxHeartbeats 8000000 in
theorem L20 (M d : Nat) (ns xs ys : List Int) (L : Int) (hn : ns.length = 8) (hm : mayB xs.length L = true) (hL : (ys.length : Int) ≤ 1048576 - L) (h : xs.length + ys.length ≤ 57600)
    (hbx : ∀ n ∈ xs, 0 ≤ n ∧ n ≤ 255) (hby : ∀ n ∈ ys, 0 ≤ n ∧ n ≤ 255) :
    sem tab (M + 1000) (d + 4) 88 [hashV ns false xs L, .l false (byL ys)] [] = some (hashV (rounds ns (xs ++ ys)).1 true (rounds ns (xs ++ ys)).2 (L + ys.length), []) := by
  rw [sem_succ tab (M + 1000) (d + 3) 88 m88 rfl]
  have h17 := L17 (M + 1000) (d + 2) ns xs L
  rw [hm] at h17
  have hb : ∀ n ∈ xs ++ ys, 0 ≤ n ∧ n ≤ 255 := fun n hn => by
    rcases List.mem_append.1 hn with h | h
    · exact hbx n h
    · exact hby n h
  have k0 := loop20 (xs ++ ys) (L + ys.length) (List.replicate 8 (.i .u32 0)) 0 hb 900 0 ns (M + 935) d (M + 99) (by omega) (by simp; omega) hn
  have k1 := loop20 (xs ++ ys) (L + ys.length) (List.replicate 8 (.i .u32 0)) 1 hb 900 0 ns (M + 935) d (M + 99) (by omega) (by simp; omega) hn
  rw [List.drop_zero, Nat.sub_zero, List.length_append, ← byL_app] at k0 k1
  have hL0 : 0 ≤ L := by simp [mayB] at hm; exact hm.1
  have hx := byL_len xs
  have hy := byL_len ys
  have fx := flat_by xs
  have wx := allW_by xs
  have fy := flat_by ys
  have wy := allW_by ys
  simp only [hashV_wL] at h17 k0 k1 ⊢
  rw [← hx, ← hy] at h k0 k1
  rw [← hy] at hL ⊢
  generalize byL (rounds ns (xs ++ ys)).2 = q at *
  generalize wL (rounds ns (xs ++ ys)).1 = r2 at *
  generalize byL xs = a at *
  generalize byL ys = b at *
  generalize wL ns = r at *
  generalize hz : List.replicate 8 (PV.i IntKind.u32 0) = zz at *
  have n1 : ¬ ((b.length : Int) > 1048576 - L) := by omega
  have n2 : ¬ (1048576 - L < (b.length : Int)) := by omega
  have p1 : a.length ≤ 4294967296 := by omega
  have p2 : a.length + b.length ≤ 4294967296 := by omega
  have ht : List.take a.length a = a := List.take_length
  by_cases hb : b = []
  · subst hb
    simp only [sl20, ob20, box, rowv, List.append_nil, List.length_nil, Nat.add_zero, Nat.add_assoc] at k0
    rw [show ((0 : Nat) : Int) = 0 from rfl] at k0
    simp only [Int.add_zero] at k0
    have n3 : ¬ (1048576 - L < 0) := by simp only [List.length_nil] at n2; omega
    simp -implicitDefEqProofs (maxSteps := 1000000) (disch := first | omega | rfl) [m88, hz, h17, n3, fx, wx, p1, ht, allW, flatEls, KS, getS, getO, gS, zipN, dropW, takeW, wds, sea, seaL, refs, refsL, refsEls, refsO, noExt, ren, keepO, keepS, keysO, refsS, refsOB, cntN, headC, boxO, row, putW, putB, putB1, two32, w64, -getElem?_pos]
    exact k0
  · have p3 : ¬ (a.length + b.length ≤ a.length) := by
      have := List.length_pos_iff.2 hb
      omega
    simp only [sl20, ob20, box, rowv, Nat.add_assoc] at k1
    simp -implicitDefEqProofs (maxSteps := 1000000) (disch := first | omega | rfl) [m88, hz, h17, n1, fx, wx, fy, wy, p1, p2, p3, ht, KS, getS, getO, gS, zipN, dropW, takeW, wds, sea, seaL, refs, refsL, refsEls, refsO, noExt, ren, keepO, keepS, keysO, refsS, refsOB, cntN, headC, boxO, row, putW, putB, putB1, two32, w64, -getElem?_pos]
    exact k1
end
section
def sl25 (n : Nat) : SL := [(1, .p 72 0 0 0 none), (2, .p 80 0 0 0 none), (4, .sl 103 0 0 n)]
def ob25 (hc z : List PV) (t : List (List PV)) : OB := [(103, row t 1 true), (72, box hc 10), (80, box [.blob 32 z] 32)]
def sl25r (i n : Nat) : SL := [(2, .p 80 0 0 0 none), (4, .sl 103 1 i n), (6, .p 112 0 0 0 none)]
def ob25r (r z : List PV) (t : List (List PV)) : OB := [(80, box [.blob 32 z] 32), (112, box [.blob 8 r] 8), (103, rowv t 1)]
def sl25a (k : Int) : SL := [(2, .p 80 0 0 0 none), (6, .p 112 0 0 0 none), (7, .p 120 0 0 0 none), (8, .i .i64 k)]
def ob25a (r z o : List PV) : OB := [(80, box [.blob 32 z] 32), (112, box [.blob 8 r] 8), (120, box [.blob 32 o] 32)]
set_option maxHeartbeats 4000000 in
theorem step25c (N d : Nat) (g : SL → OB → Option R) (r z : List PV) (b t : List (List PV)) (L : Int) (h : ((t.length : Int).tmod 64) ≠ 56) (hl : t.length ≤ 4294967295) :
    m87b2 (sem tab N d) N [] g (sl25 t.length) (ob25 [.blob 8 r, .l false b, .i .i64 L] z t) = g (sl25 (t.length + 1)) (ob25 [.blob 8 r, .l false b, .i .i64 L] z (t ++ [[.i .u8 0]])) := by
  have h1 : ((t.length : Int).tmod 64 == 56) = false := by simpa using h
  have h4 : ((t.length : Int).tmod 64 != 56) = true := by simpa using h
  have h3 : ¬ (t.length + 1 ≤ t.length) := by omega
  have h2 : t.length + 1 ≤ 4294967296 := by omega
  have ht : List.take t.length t = t := List.take_length
  simp -implicitDefEqProofs (maxSteps := 1000000) (disch := first | omega | rfl) [m87b2, sl25, ob25, box, h2, h3, h4, ht, KS, getS, getO, gS, dropW, wds, stvs, refs, refsL, refsEls, refsO, isPureEls, isPures, isPure, noExt, noExts, noExtEls, cellsL, keepO, keepS, keysO, refsS, refsOB, cntN, headC, setS, boxO, row, two32, w64, -getElem?_pos]
def lenR (L : Int) : List Int := [0, 0, 0, 0, IntKind.u8.wrap ((8 * L).tdiv 16777216), IntKind.u8.wrap (((8 * L).tdiv 65536).tmod 256), IntKind.u8.wrap (((8 * L).tdiv 256).tmod 256), IntKind.u8.wrap ((8 * L).tmod 256)]
set_option maxHeartbeats 4000000 in
theorem mid25c (N d : Nat) (g : SL → OB → Option R) (r z : List PV) (b t : List (List PV)) (L : Int) (hL : 0 ≤ L ∧ L ≤ 1048576) (h : ((t.length : Int).tmod 64) = 56) (hl : t.length ≤ 4294967280) :
    m87b2 (sem tab N d) N [] g (sl25 t.length) (ob25 [.blob 8 r, .l false b, .i .i64 L] z t) = loopC (m87b1 (sem tab N d) N []) N (sl25r 0 (t.length + 8)) (ob25r r z (t ++ byL (lenR L))) := by
  have h4 : ((t.length : Int).tmod 64 != 56) = false := by simpa using h
  have h2 : t.length + 8 ≤ 4294967296 := by omega
  have h3 : ¬ (t.length + 8 ≤ t.length) := by omega
  have ht : List.take t.length t = t := List.take_length
  have w1 : IntKind.i64.wrap (8 * L) = 8 * L := w64 (by omega) (by omega)
  have w2 : IntKind.i64.wrap ((8 * L).tdiv 16777216) = (8 * L).tdiv 16777216 := by rw [Int.tdiv_eq_ediv_of_nonneg (by omega)]; exact w64 (by omega) (by omega)
  have w3 : IntKind.i64.wrap ((8 * L).tdiv 65536) = (8 * L).tdiv 65536 := by rw [Int.tdiv_eq_ediv_of_nonneg (by omega)]; exact w64 (by omega) (by omega)
  have w4 : IntKind.i64.wrap ((8 * L).tdiv 256) = (8 * L).tdiv 256 := by rw [Int.tdiv_eq_ediv_of_nonneg (by omega)]; exact w64 (by omega) (by omega)
  simp -implicitDefEqProofs (maxSteps := 1000000) (disch := first | omega | rfl) [m87b2, sl25, ob25, sl25r, ob25r, rowv, lenR, byL, box, h, h2, h3, ht, w1, w2, w3, w4, KS, getS, getO, gS, dropW, takeW, wds, stvs, refs, refsL, refsEls, refsO, isPureEls, isPures, isPure, noExt, noExts, noExtEls, cellsL, keepO, keepS, keysO, refsS, refsOB, cntN, headC, boxO, row, putW, two32, -getElem?_pos]
set_option maxHeartbeats 4000000 in
theorem step25r (M d : Nat) (g : SL → OB → Option R) (rs T : List Int) (z : List PV) (i n : Nat) (hr : rs.length = 8) (hn : 64 ≤ n) (hi : i + n = T.length) (hb : ∀ n ∈ T, 0 ≤ n ∧ n ≤ 255) :
    m87b1 (sem tab (M + 65) (d + 3)) (M + 65) [] g (sl25r i n) (ob25r (wL rs) z (byL T)) = g (sl25r (i + 64) (n - 64)) (ob25r (wL (rnd rs ((T.drop i).take 64))) z (byL T)) := by
  have h40 := L40 M d rs ((T.drop i).take 64) hr (by simp; omega) (fun x hx => hb x (List.mem_of_mem_drop (List.mem_of_mem_take hx)))
  have hl := byL_len T
  have e : List.take 64 (List.drop i (byL T)) = byL ((T.drop i).take 64) := by rw [byL_drop, byL_take]
  rw [← e] at h40
  rw [← hl] at hi
  generalize byL T = t at *
  generalize wL (rnd rs ((T.drop i).take 64)) = r2 at *
  generalize wL rs = r at *
  have c0 : 0 < n := by omega
  have c1 : 64 ≤ (n : Int) := by omega
  have c2 : i + 64 ≤ t.length := by omega
  have c3 : (0 : Int) < n := by omega
  have c4 : i + n ≤ t.length := by omega
  have c5 : (i : Int) + 64 ≤ t.length := by omega
  have c6 : (i : Int) + n ≤ t.length := by omega
  have c7 : (n : Int) > 0 := by omega
  simp -implicitDefEqProofs (maxSteps := 1000000) (disch := first | omega | rfl) [m87b1, sl25r, ob25r, box, rowv, c0, c1, c2, c5, c6, h40, KS, getS, getO, gS, dropW, takeW, wds, refs, refsL, refsEls, refsO, noExt, noExts, ren, renL, keepO, keepS, keysO, refsS, refsOB, cntN, headC, boxO, putW, -getElem?_pos]
set_option maxHeartbeats 4000000 in
theorem mid25r (N d : Nat) (g : SL → OB → Option R) (r z : List PV) (t : List (List PV)) (i : Nat) :
    m87b1 (sem tab N d) N [] g (sl25r i 0) (ob25r r z t) = loopC (m87b0 (sem tab N d) N []) N (sl25a 0) (ob25a r z (List.replicate 32 (.i .u8 0))) := by
  generalize hz : List.replicate 32 (PV.i IntKind.u8 0) = zz at *
  simp -implicitDefEqProofs (maxSteps := 1000000) (disch := first | omega | rfl) [m87b1, sl25r, ob25r, sl25a, ob25a, hz, box, rowv, KS, getS, getO, gS, dropW, takeW, wds, refs, refsL, refsEls, refsO, keepO, keepS, keysO, refsS, refsOB, cntN, headC, boxO, -getElem?_pos]
theorem loop25r (T : List Int) (z : List PV) (hb : ∀ n ∈ T, 0 ≤ n ∧ n ≤ 255) : ∀ (j i : Nat) (rs : List Int) (M d M' : Nat), i + 64 * j = T.length → rs.length = 8 →
    loopC (m87b1 (sem tab (M + 65) (d + 3)) (M + 65) []) (M' + 1 + j) (sl25r i (64 * j)) (ob25r (wL rs) z (byL T)) = loopC (m87b0 (sem tab (M + 65) (d + 3)) (M + 65) []) (M + 65) (sl25a 0) (ob25a (wL (rounds rs (T.drop i)).1) z (List.replicate 32 (.i .u8 0))) := by
  intro j
  induction j with
  | zero =>
    intro i rs M d M' hi hr
    rw [Nat.add_zero, k_loop, rounds_short (by simp; omega), Nat.mul_zero, mid25r]
  | succ j ih =>
    intro i rs M d M' hi hr
    rw [show M' + 1 + (j + 1) = (M' + 1 + j) + 1 by omega, k_loop, step25r M d _ rs T z i (64 * (j + 1)) hr (by omega) (by omega) hb, rounds_long (by simp; omega), List.drop_drop, show 64 * (j + 1) - 64 = 64 * j by omega]
    exact ih (i + 64) _ M d M' (by omega) (rnd_len _ _ hr)
end
end Go.Proofs.YtmhpkdcnhgmblaaDoor
