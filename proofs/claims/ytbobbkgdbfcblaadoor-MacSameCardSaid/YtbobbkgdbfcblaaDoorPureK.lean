/- Rules that go through the plain functions one step at a time: each at a value's form. -/
import Derived.Test.YtbobbkgdbfcblaaDoorMir1
set_option linter.all false
set_option linter.unusedVariables false
namespace Go.Proofs.YtbobbkgdbfcblaaDoor
open Go
section
variable {α β : Type}
theorem k_g0 (a : α) (l : List α) : (a :: l)[0]? = some a := rfl
theorem k_gs (a : α) (l : List α) (n : Nat) : (a :: l)[n + 1]? = l[n]? := rfl
theorem k_bnd (a : α) (f : α → Option β) : bnd (some a) f = f a := rfl
theorem k_bndO (v : PV) (u ob : OB) (f : PV → OB → Option β) : bndO (some (v, u)) ob f = f v (u ++ ob) := rfl
theorem k_br_t (a b : Option (PV × List Obj')) : br (.b true) a b = a := rfl
theorem k_br_f (a b : Option (PV × List Obj')) : br (.b false) a b = b := rfl
theorem k_br_u (a b : Option (PV × List Obj')) : br .ub a b = agree a b := rfl
theorem k_agree (v v' : PV) (o o' : List Obj') : agree (some (v, o)) (some (v', o')) = if (eqV v v' && eqOs o o') = true then some (v, o) else none := rfl
theorem k_loop (F : (SL → OB → Option R) → SL → OB → Option R) (n : Nat) (sl : SL) (ob : OB) : loopC F (n + 1) sl ob = F (loopC F n) sl ob := rfl
theorem w64 {x : Int} (h : -9223372036854775808 ≤ x) (h' : x ≤ 9223372036854775807) : IntKind.i64.wrap x = x := by rw [IntKind.wrap_i64]; omega
variable (k : IntKind) (a b : Int) (x y : Bool) (s t : List UInt8)
theorem k_add : bi .add (.i k a) (.i k b) = some (.i k (k.wrap (a + b))) := by simp [bi, binI, isShift]
theorem k_sub : bi .sub (.i k a) (.i k b) = some (.i k (k.wrap (a - b))) := by simp [bi, binI, isShift]
theorem k_mul : bi .mul (.i k a) (.i k b) = some (.i k (k.wrap (a * b))) := by simp [bi, binI, isShift]
theorem k_lss : bi .lss (.i k a) (.i k b) = some (.b (decide (a < b))) := by simp [bi, binI, isShift]
theorem k_leq : bi .leq (.i k a) (.i k b) = some (.b (decide (a ≤ b))) := by simp [bi, binI, isShift]
theorem k_gtr : bi .gtr (.i k a) (.i k b) = some (.b (decide (a > b))) := by simp [bi, binI, isShift]
theorem k_geq : bi .geq (.i k a) (.i k b) = some (.b (decide (a ≥ b))) := by simp [bi, binI, isShift]
theorem k_eql : bi .eql (.i k a) (.i k b) = some (.b (a == b)) := by simp [bi, binI, isShift]
theorem k_neq : bi .neq (.i k a) (.i k b) = some (.b (a != b)) := by simp [bi, binI, isShift]
theorem k_rem : bi .rem (.i k a) (.i k b) = if b = 0 then none else some (.i k (a.tmod b)) := by simp [bi, binI, isShift]
theorem k_quo : bi .quo (.i k a) (.i k b) = if b = 0 then none else some (.i k (k.wrap (a.tdiv b))) := by simp [bi, binI, isShift]
theorem k_and : bi .and (.i k a) (.i k b) = some (.i k (k.wrap (BitVec.ofInt k.bits a &&& BitVec.ofInt k.bits b).toNat)) := by simp [bi, binI, isShift]
theorem k_or : bi .or (.i k a) (.i k b) = some (.i k (k.wrap (BitVec.ofInt k.bits a ||| BitVec.ofInt k.bits b).toNat)) := by simp [bi, binI, isShift]
theorem k_xor : bi .xor (.i k a) (.i k b) = some (.i k (k.wrap (BitVec.ofInt k.bits a ^^^ BitVec.ofInt k.bits b).toNat)) := by simp [bi, binI, isShift]
theorem k_shl (j : IntKind) : bi .shl (.i k a) (.i j b) = if b < 0 then none else some (.i k (k.wrap (a * 2 ^ (min b.toNat k.bits)))) := by simp [bi, isShift, shiftI]
theorem k_shr (j : IntKind) : bi .shr (.i k a) (.i j b) = if b < 0 then none else some (.i k (a.fdiv (2 ^ (min b.toNat k.bits)))) := by simp [bi, isShift, shiftI]
theorem k_seql : bi .eql (.s s) (.s t) = some (.b (decide (s = t))) := rfl
theorem k_sneq : bi .neq (.s s) (.s t) = some (.b (!decide (s = t))) := rfl
theorem k_sadd : bi .add (.s s) (.s t) = if s.length + t.length ≤ two32 then some (.s (s ++ t)) else none := rfl
theorem k_beql : biB .eql (.b x) (.b y) = some (.b (x == y)) := rfl
theorem k_bneq : biB .neq (.b x) (.b y) = some (.b (!(x == y))) := rfl
theorem k_not : uO .not (.b x) = some (.b (!x)) := rfl
theorem k_neg : uO .neg (.i k a) = some (.i k (k.wrap (0 - a))) := rfl
theorem k_com : uO .xor (.i k a) = binI .xor k (if k.signed then -1 else k.max) a := rfl
theorem k_cv (j : IntKind) : cv j (.i k a) = some (.i j (j.wrap a)) := rfl
theorem k_pk (u v : PV) : pk (.b x) u v = if x = true then some u else some v := rfl
theorem k_gd (w : Bool) (z : Option PV) : gd (.b x) w z = if x = w then z else some (.tup []) := rfl
theorem k_gdt (w : Bool) (z : Option PV) : gd (.tup []) w z = some (.tup []) := rfl
theorem k_gdO (w : Bool) (z : Option Up) : gdO (.b x) w z = if x = w then z else some (.tup [], []) := rfl
theorem k_gdOt (w : Bool) (z : Option Up) : gdO (.tup []) w z = some (.tup [], []) := rfl
theorem k_ext (vs : List PV) (n : Nat) : ext n (.tup vs) = vs[n]? := rfl
-- places
variable (o v i off n m : Nat) (ob : OB) (g : Bool) (xs : List (List PV)) (ps : List PV) (X : Obj')
theorem k_fA : fA n (.p o v i off none) = some (.p o v i (off + n) none) := rfl
theorem k_l1 : l1 ob (.p o v i off none) = hd1 (atO (getO ob o) v i off) := rfl
theorem k_l1b : l1 ob (.p o v i off (some n)) = nthB (blobAt (atO (getO ob o) v i off)) n := rfl
theorem k_l1q : l1 ob (.q g ps none) = hd1 (some (ps.map (rt g))) := rfl
theorem k_l1qb : l1 ob (.q g ps (some n)) = nthB (blobAt (some ps)) n := rfl
theorem k_lN : lN ob n (.p o v i off none) = aggO (takeO (atO (getO ob o) v i off) n) := rfl
theorem k_lNq : lN ob n (.q g ps none) = aggO (takeO (some (ps.map (rt g))) n) := rfl
theorem k_atO : atO (some X) v i off = if X.ver = v then atE X.pu X.g X.els[i]? off else none := rfl
theorem k_atE (p : Bool) (el : List PV) : atE p g (some el) off = (dropW el off).map fun r => if p = true then r.map (rt g) else r := by cases p <;> rfl
theorem k_aggO : aggO (some ps) = some (.agg ps) := rfl
theorem k_takeO : takeO (some ps) n = takeW ps n := rfl
theorem k_blobAt (r : List PV) : blobAt (some (.blob m ps :: r)) = some ps := rfl
theorem k_nthB : nthB (some ps) n = ps[n]? := rfl
theorem k_hd_i (r : List PV) : hd1 (some (.i k a :: r)) = some (.i k a) := rfl
theorem k_hd_b (r : List PV) : hd1 (some (.b x :: r)) = some (.b x) := rfl
theorem k_hd_s (r : List PV) : hd1 (some (.s s :: r)) = some (.s s) := rfl
theorem k_hd_l (r : List PV) : hd1 (some (.l g xs :: r)) = some (.l g xs) := rfl
theorem k_hd_e (r : List PV) : hd1 (some (.e x :: r)) = some (.e x) := rfl
theorem k_hd_sl (r : List PV) : hd1 (some (.sl o v i n :: r)) = some (.sl o v i n) := rfl
theorem k_rt_l (g' : Bool) : rt g (.l g' xs) = .l g xs := rfl
theorem k_rt_i : rt g (.i k a) = .i k a := rfl
theorem k_rt_b : rt g (.b x) = .b x := rfl
theorem k_rt_s : rt g (.s s) = .s s := rfl
theorem k_rt_blob : rt g (.blob n ps) = .blob n ps := rfl
-- stores
theorem k_st (w : PV) : st ob n (.p o v i off none) w = if stv w = true ∧ wds (cellsOf w) = n then stX ob o v i off w (getO ob o) else none := rfl
theorem k_stb (w : PV) : st ob n (.p o v i off (some m)) w = if n = 1 then stB o v i off m w (getO ob o) else none := rfl
theorem k_stX (w : PV) : stX ob o v i off w (some X) = if X.fro = false ∧ X.ver = v then stE ob o X i off w X.els[i]? else none := rfl
theorem k_stE (w : PV) (el : List PV) : stE ob o X i off w (some el) = if X.pu = true then stP o X i el off (puris ob (cellsOf w)) else stD o X i (putW el off (cellsOf w)) := rfl
theorem k_stD (el : List PV) : stD o X i (some el) = some (.tup [], [(o, { X with els := X.els.set i el })]) := rfl
theorem k_stB (w : PV) : stB o v i off m w (some X) = if X.fro = false ∧ X.ver = v ∧ X.pu = false ∧ scal w = true then stG o X i off m w X.els[i]? else none := rfl
theorem k_stG (w : PV) (el : List PV) : stG o X i off m w (some el) = stF o X i m w (dropW el off) (takeW el off) := rfl
theorem k_stF (w : PV) (r p : List PV) : stF o X i m w (some (.blob n ps :: r)) (some p) = if m < ps.length then some (.tup [], [(o, { X with els := X.els.set i (p ++ (.blob n (ps.set m w) :: r)) })]) else none := rfl
theorem k_stP (el l : List PV) (g' : Bool) (u : OB) : stP o X i el off (some (l, g', u)) = stQ o X i g' u (putW el off l) := rfl
theorem k_stQ (el : List PV) (u : OB) : stQ o X i g u (some el) = if u.any (fun y => y.1 == o) then none else some (.tup [], (o, { X with els := X.els.set i el, g := X.g && g }) :: u) := rfl
theorem k_puris0 : puris ob [] = some ([], true, []) := rfl
theorem k_puris (w : PV) (l : List PV) : puris ob (w :: l) = puriC (puri ob w) (puris ob l) := rfl
theorem k_puriC (w : PV) (l : List PV) (g' : Bool) (u u' : OB) : puriC (some (w, g, u)) (some (l, g', u')) = some (w :: l, g && g', u ++ u') := rfl
theorem k_puri_i : puri ob (.i k a) = some (.i k a, true, []) := rfl
theorem k_puri_b : puri ob (.b x) = some (.b x, true, []) := rfl
theorem k_puri_l : puri ob (.l g xs) = some (.l g xs, g, []) := rfl
theorem k_putW (z p c w : List PV) : takeW z off = some p → dropW z (off + wds w) = some c → putW z off w = some (p ++ (w ++ c)) := by intro h1 h2; simp [putW, h1, h2]
theorem k_c_agg : cellsOf (.agg ps) = ps := rfl
theorem k_c_i : cellsOf (.i k a) = [.i k a] := rfl
theorem k_c_b : cellsOf (.b x) = [.b x] := rfl
theorem k_c_s : cellsOf (.s s) = [.s s] := rfl
theorem k_c_l : cellsOf (.l g xs) = [.l g xs] := rfl
theorem k_c_e : cellsOf (.e x) = [.e x] := rfl
theorem k_c_sl : cellsOf (.sl o v i n) = [.sl o v i n] := rfl
theorem k_c_p (z : Option Nat) : cellsOf (.p o v i n z) = [.p o v i n z] := rfl
theorem k_sv_agg : stv (.agg ps) = true := rfl
theorem k_sv_i : stv (.i k a) = true := rfl
theorem k_sv_b : stv (.b x) = true := rfl
theorem k_sv_s : stv (.s s) = true := rfl
theorem k_sv_l : stv (.l g xs) = true := rfl
theorem k_sv_e : stv (.e x) = true := rfl
theorem k_sv_sl : stv (.sl o v i n) = true := rfl
theorem k_sc_i : scal (.i k a) = true := rfl
theorem k_sc_b : scal (.b x) = true := rfl
theorem k_wd_i : wd (.i k a) = 1 := rfl
theorem k_wd_b : wd (.b x) = 1 := rfl
theorem k_wd_s : wd (.s s) = 1 := rfl
theorem k_wd_l : wd (.l g xs) = 1 := rfl
theorem k_wd_e : wd (.e x) = 1 := rfl
theorem k_wd_sl : wd (.sl o v i n) = 1 := rfl
theorem k_wd_p (z : Option Nat) : wd (.p o v i n z) = 1 := rfl
theorem k_wd_blob : wd (.blob n ps) = n := rfl
theorem k_al (z : List PV) : al ob n z = newX n (boxO z) (.p n 0 0 0 none) (getO ob n) := rfl
theorem k_bx (w : PV) : bx ob n w = if stv w = true then al ob n (cellsOf w) else none := rfl
theorem k_new (w : PV) : newX n X w none = some (w, [(n, X)]) := rfl
-- slices
theorem k_len_l : len (.l g xs) = some (.i .i64 xs.length) := rfl
theorem k_len_e : len (.e x) = some (.i .i64 0) := rfl
theorem k_len_sl : len (.sl o v i n) = some (.i .i64 n) := rfl
theorem k_len_bs : len (.bs o v i n) = some (.i .i64 n) := rfl
theorem k_lenS : lenS (.s s) = some (.i .i64 s.length) := rfl
theorem k_cp_e : cp ob (.e x) = some (.i .i64 0) := rfl
theorem k_eNs_l (neg : Bool) : eNs neg ob (.l g xs) = some (eNl neg xs) := rfl
theorem k_eNs_e (neg : Bool) : eNs neg ob (.e x) = some (.b (x ^^ neg)) := rfl
theorem k_xS_l : xS ob n (.l g xs) (.i k a) = if 0 ≤ a then elQ g n xs[a.toNat]? else none := rfl
theorem k_xS_sl : xS ob n (.sl o v i m) (.i k a) = xSO o v i m n a (getO ob o) := rfl
theorem k_xSO : xSO o v i m n a (some X) = if X.ver = v ∧ X.w = n ∧ 0 ≤ a ∧ a < m ∧ i + m ≤ X.els.length then some (.p o v (i + a.toNat) 0 none) else none := rfl
theorem k_elQ (el : List PV) : elQ g n (some el) = if wds el = n then some (.q g el none) else none := rfl
theorem k_xA : xA n (.p o v i off none) (.i k a) = if 0 ≤ a ∧ a < n then some (.p o v i off (some a.toNat)) else none := rfl
theorem k_xAq (r : List PV) : xA n (.q g (.blob m ps :: r) none) (.i k a) = if 0 ≤ a ∧ a < n ∧ m = n then some (.q g (.blob m ps :: r) (some a.toNat)) else none := rfl
theorem k_slc_l (lo hi mx : Option PV) : slc ob (.slice n) (.l g xs) lo hi mx = if allW n xs = true then slL g xs (optI lo 0) (optI hi xs.length) (optI mx xs.length) else none := by cases mx <;> rfl
theorem k_slc_e (lo hi mx : Option PV) : slc ob (.slice n) (.e x) lo hi mx = slE x (optI lo 0) (optI hi 0) (optI mx 0) := by cases mx <;> rfl
theorem k_slc_sl (lo hi mx : Option PV) : slc ob (.slice n) (.sl o v i m) lo hi mx = slO o v i n (getO ob o) (optI lo 0) (optI hi m) (mx.map natI) := by cases mx <;> rfl
theorem k_slL (l h q : Int) : slL g xs (some l) (some h) (some q) = if 0 ≤ l ∧ l ≤ h ∧ h ≤ q ∧ q ≤ xs.length then some (.l g ((xs.take h.toNat).drop l.toNat), []) else none := rfl
theorem k_slE (l h q : Int) : slE x (some l) (some h) (some q) = if 0 ≤ l ∧ l ≤ h ∧ h ≤ q ∧ q ≤ 0 then some (.e x, []) else none := rfl
theorem k_slO (l h : Int) : slO o v i n (some X) (some l) (some h) none = if X.ver = v ∧ X.w = n ∧ 0 ≤ l ∧ l ≤ h ∧ i + h ≤ X.els.length then some (.sl o v (i + l.toNat) (h.toNat - l.toNat), []) else none := rfl
theorem k_opt0 (d : Int) : optI none d = some d := rfl
theorem k_opt1 (d : Int) : optI (some (.i k a)) d = some a := rfl
theorem k_map0 : Option.map natI none = none := rfl
theorem k_allW0 : allW n [] = true := rfl
theorem k_allW1 (w : PV) (r : List PV) : allW n ((w :: r) :: xs) = (wds (w :: r) == n && allW n xs) := rfl
theorem k_fe0 : flatEls [] = true := rfl
theorem k_fe1 (w : PV) (r : List PV) : flatEls ((w :: r) :: xs) = (flats (w :: r) && flatEls xs) := rfl
theorem k_fs0 : flats [] = true := rfl
theorem k_fs1 (w : PV) (r : List PV) : flats (w :: r) = (flat w && flats r) := rfl
theorem k_fl_i : flat (.i k a) = true := rfl
theorem k_fl_b : flat (.b x) = true := rfl
theorem k_fl_l : flat (.l g xs) = false := rfl
-- rows
theorem k_ap (d : Nat) (u w : PV) : ap ob d n u w = apC ob d n u (cont ob w) := rfl
theorem k_cont_l : cont ob (.l g xs) = some (g, xs) := rfl
theorem k_cont_e : cont ob (.e x) = some (true, []) := rfl
theorem k_cont_s : cont ob (.s s) = some (true, s.map fun c => [.i .u8 c.toNat]) := rfl
theorem k_cont_sl : cont ob (.sl o v i n) = contX (getO ob o) v i n := rfl
theorem k_contL_l : contL ob (.l g xs) = some (g, xs) := rfl
theorem k_contL_e : contL ob (.e x) = some (true, []) := rfl
theorem k_contL_sl : contL ob (.sl o v i n) = contX (getO ob o) v i n := rfl
theorem k_contX : contX (some X) v i n = if X.pu = true ∧ X.ver = v ∧ i + n ≤ X.els.length then some (X.g, (X.els.drop i).take n) else none := rfl
theorem k_apC (d : Nat) (u : PV) : apC ob d n u (some (g, xs)) = apE ob d n g xs u := rfl
theorem k_apE_e (d : Nat) : apE ob d n g xs (.e x) = if xs.length ≤ two32 ∧ allW n xs = true then newX d (row xs n (g || flatEls xs)) (.sl d 0 0 xs.length) (getO ob d) else none := rfl
theorem k_apE_sl (d : Nat) : apE ob d n g xs (.sl o v i m) = apO o v i m n g xs (getO ob o) := rfl
theorem k_apO (ys : List (List PV)) : apO o v i m n g ys (some X) = if X.ver = v ∧ X.w = n ∧ X.pu = true ∧ X.fro = false ∧ i = 0 ∧ m ≤ X.els.length ∧ m + ys.length ≤ two32 ∧ allW n ys = true then
      if m + ys.length ≤ X.els.length then
        some (.sl o v 0 (m + ys.length), [(o, { X with els := X.els.take m ++ (ys ++ X.els.drop (m + ys.length)), g := X.g && (g || flatEls ys) })])
      else some (.sl o (v + 1) 0 (m + ys.length), [(o, { els := X.els.take m ++ ys, w := n, pu := true, g := X.g && (g || flatEls ys), cap := none, ver := v + 1, fro := false })])
    else none := rfl
theorem k_apz (d : Nat) (z : List PV) (u : PV) : apz ob d z u (.i k a) = if 0 ≤ a ∧ a ≤ two32 ∧ isPures (zps z) = true then apE ob d (wds z) true (List.replicate a.toNat (zps z)) u else none := rfl
theorem k_bldS0 (d : Nat) : bldS ob d n [] = some (.e false, []) := rfl
theorem k_bldS (d : Nat) (w : PV) (r : List PV) : bldS ob d n (w :: r) = if stvs (w :: r) = true ∧ allW n (cellsL (w :: r)) = true then newX d { els := cellsL (w :: r), w := n, pu := isPureEls (cellsL (w :: r)), g := noExtEls (cellsL (w :: r)) || !isPureEls (cellsL (w :: r)), cap := some (w :: r).length, ver := 0, fro := false } (.sl d 0 0 (w :: r).length) (getO ob d) else none := rfl
theorem k_bld (z : List PV) (l : List (Nat × Nat × PV)) : bld z l = aggO (bldC (some z) l) := rfl
theorem k_bldC0 (z : List PV) : bldC (some z) [] = some z := rfl
theorem k_bldC (z : List PV) (w : PV) (r : List (Nat × Nat × PV)) : bldC (some z) ((off, n, w) :: r) = if stv w = true ∧ wds (cellsOf w) = n then bldC (putB z off (cellsOf w)) r else none := rfl
theorem k_eAr (l r : List PV) (neg : Bool) (m' : Nat) : eAr neg n (.agg [.blob m l]) (.agg [.blob m' r]) = if m = n ∧ m' = n then (eqIs l r).map fun x => .b (x ^^ neg) else none := rfl
theorem k_b2s (w : PV) : b2s ob w = b2sC (contL ob w) := rfl
theorem k_b2sC : b2sC (some (g, xs)) = strO (unB xs) := rfl
theorem k_strO : strO (some s) = some (.s s) := rfl
-- calls
variable (Φ : Sem') (d f : Nat) (l : List PV)
theorem k_ca0 : ca0 Φ ob d g f l = ca0X Φ ob d f (reifiesN g ob l) := rfl
theorem k_ca0X (L : List Nat) : ca0X Φ ob d f (some (l, L)) = if refsL l = [] then ca0R ob d L (Φ f l []) else none := rfl
theorem k_ca0R (L : List Nat) (r : PV) (out : List Obj') : ca0R ob d L (some (r, out)) = back0 ob d L r out := rfl
theorem k_reiN0 : reifiesN false ob l = reifies1 ob l := rfl
theorem k_reiN1 : reifiesN true ob l = reifies ob l := rfl
theorem k_rs1_0 : reifies1 ob [] = some ([], []) := rfl
theorem k_rs_0 : reifies ob [] = some ([], []) := rfl
theorem k_rl_0 : reifyL ob [] = some ([], []) := rfl
theorem k_re_0 : reifyEls ob [] = some ([], []) := rfl
theorem k_rs1 (w : PV) (r : List PV) : reifies1 ob (w :: r) = bnd (reify1 ob w) fun a => bnd (reifies1 ob r) fun b => some (a.1 :: b.1, a.2 ++ b.2) := by
  simp only [reifies1]; cases reify1 ob w <;> cases reifies1 ob r <;> rfl
theorem k_rs (w : PV) (r : List PV) : reifies ob (w :: r) = bnd (reify ob w) fun a => bnd (reifies ob r) fun b => some (a.1 :: b.1, a.2 ++ b.2) := by
  simp only [reifies]; cases reify ob w <;> cases reifies ob r <;> rfl
theorem k_rl (w : PV) (r : List PV) : reifyL ob (w :: r) = bnd (reify0 ob w) fun a => bnd (reifyL ob r) fun b => some (a.1 :: b.1, a.2 ++ b.2) := by
  simp only [reifyL]; cases reify0 ob w <;> cases reifyL ob r <;> rfl
theorem k_re (w : List PV) (r : List (List PV)) : reifyEls ob (w :: r) = bnd (reifyL ob w) fun a => bnd (reifyEls ob r) fun b => some (a.1 :: b.1, a.2 ++ b.2) := by
  simp only [reifyEls]; cases reifyL ob w <;> cases reifyEls ob r <;> rfl
theorem k_r0_l : reify0 ob (.l g xs) = some (.l false xs, []) := rfl
theorem k_r0_e : reify0 ob (.e x) = some (.l false [], []) := rfl
theorem k_r0_i : reify0 ob (.i k a) = some (.i k a, []) := rfl
theorem k_r0_b : reify0 ob (.b x) = some (.b x, []) := rfl
theorem k_r0_s : reify0 ob (.s s) = some (.s s, []) := rfl
theorem k_r0_blob : reify0 ob (.blob n ps) = some (.blob n ps, []) := rfl
theorem k_r0_sl : reify0 ob (.sl o v i n) = (contX (getO ob o) v i n).map fun r => (.l false r.2, [o]) := rfl
theorem k_r0_bs : reify0 ob (.bs o v i n) = (contL ob (.bs o v i n)).map fun r => (.l false r.2, [o]) := rfl
theorem k_r1_agg : reify1 ob (.agg ps) = (reifyL ob ps).map fun r => (.agg r.1, r.2) := rfl
theorem k_r1_l : reify1 ob (.l g xs) = some (.l false xs, []) := rfl
theorem k_r1_e : reify1 ob (.e x) = some (.l false [], []) := rfl
theorem k_r1_i : reify1 ob (.i k a) = some (.i k a, []) := rfl
theorem k_r1_b : reify1 ob (.b x) = some (.b x, []) := rfl
theorem k_r1_s : reify1 ob (.s s) = some (.s s, []) := rfl
theorem k_r1_sl : reify1 ob (.sl o v i n) = (contX (getO ob o) v i n).map fun r => (.l false r.2, [o]) := rfl
theorem k_r1_bs : reify1 ob (.bs o v i n) = (contL ob (.bs o v i n)).map fun r => (.l false r.2, [o]) := rfl
theorem k_contL_bs : contL ob (.bs o v i n) = contB (blobAt (atO (getO ob o) 0 0 v)) i n := rfl
theorem k_contB : contB (some ps) i n = if i + n ≤ ps.length then some (true, ((ps.drop i).take n).map fun v => [v]) else none := rfl
theorem k_r_l : reify ob (.l g xs) = some (.l false xs, []) := rfl
theorem k_r_sl : reify ob (.sl o v i n) = (match getO ob o with
    | some x =>
      if x.pu then reify0 ob (.sl o v i n)
      else if x.ver = v ∧ i + n ≤ x.els.length then (reifyEls ob ((x.els.drop i).take n)).bind fun r => if isPureEls r.1 then some (.l false r.1, o :: r.2) else none
      else none
    | none => none) := rfl
theorem k_back0 (L : List Nat) (r : PV) : back0 ob d L r [] = if L.isEmpty || noExt r then some (ren (d + ·) r, []) else (frz ob L).map fun z => (ren (d + ·) r, z) := rfl
theorem k_back1 (L : List Nat) (r : PV) (Y : Obj') (out : List Obj') : back0 ob d L r (Y :: out) = if 8 < (Y :: out).length then none else bnd (newOs ob (d + ·) d (Y :: out)) fun w => if L.isEmpty || (noExt r && (Y :: out).all noExtO) then some (ren (d + ·) r, w) else (frz ob L).map fun z => (ren (d + ·) r, w ++ z) := by
  simp only [back0]
  split
  · rfl
  · cases newOs ob (d + ·) d (Y :: out) <;> rfl
theorem k_one1 (w : PV) : one [w] = w := rfl
theorem k_one2 (w u : PV) (r : List PV) : one (w :: u :: r) = .tup (w :: u :: r) := rfl
theorem k_handX (L : List Nat) : handX L o v i n (some X) = (X.pu && !X.fro && X.ver == v && i == 0 && decide (n ≤ X.els.length) && cntN o L == 1) := rfl
theorem k_rowX : rowX n (some X) = [row (X.els.take n) X.w X.g] := rfl
theorem k_ca (l : List PV) (h : refsL l = []) : ca Φ ob d true f l = ca0R ob d [] (Φ f l []) := by
  simp [ca, hand, h, reach]; cases Φ f l [] <;> rfl
theorem k_ca_ei : ca Φ ob d true f [.e x, .i k a] = ca0R ob d [] (Φ f [.e x, .i k a] []) := k_ca ob Φ d f _ (by simp [refsL, refs])
theorem k_fin1 (w : Nat) (ws : List Nat) (u : PV) : fin ob 0 (w :: ws) [u] = resO 0 ob (refs u) 0 w u := by
  simp only [fin, refsL, List.append_nil, refsOuts, resOs, outOs, List.headD_cons]
  cases resO 0 ob (refs u) 0 w u with
  | none => rfl
  | some r => simp [one]
theorem k_fin2 (w w' : Nat) (ws : List Nat) (u u' : PV) : fin ob 0 (w :: w' :: ws) [u, u'] = bnd (resO 0 ob (refs u ++ refs u') 0 w u) fun a => bnd (resO 0 ob (refs u ++ refs u') a.2.length w' u') fun b => some (.tup [a.1, b.1], a.2 ++ b.2) := by
  simp only [fin, refsL, List.append_nil, refsOuts, resOs, outOs, List.headD_cons, List.tail_cons, Nat.zero_add]
  cases resO 0 ob (refs u ++ refs u') 0 w u with
  | none => rfl
  | some r =>
    simp only [k_bnd]
    cases resO 0 ob (refs u ++ refs u') r.2.length w' u' with
    | none => rfl
    | some q => simp [one, k_bnd]
theorem k_res_b (L : List Nat) (nx w : Nat) : resO m ob L nx w (.b x) = some (.b x, []) := rfl
theorem k_res_i (L : List Nat) (nx w : Nat) : resO m ob L nx w (.i k a) = some (.i k a, []) := rfl
theorem k_res_s (L : List Nat) (nx w : Nat) : resO m ob L nx w (.s s) = some (.s s, []) := rfl
theorem k_res_l (L : List Nat) (nx w : Nat) : resO m ob L nx w (.l g xs) = some (.l g xs, []) := rfl
theorem k_res_e (L : List Nat) (nx w : Nat) : resO m ob L nx w (.e x) = some (.sl nx 0 0 0, [row [] w true]) := rfl
theorem k_res_agg (L : List Nat) (nx w : Nat) : resO m ob L nx w (.agg ps) = (seaL m ob ps).map fun c => (.agg c, []) := by
  simp only [resO, sea, Option.map_map]; rfl
theorem k_res_sl (L : List Nat) (nx w : Nat) : resO m ob L nx w (.sl o v i n) = if o < m then some (.sl o v i n, []) else if handX L o v i n (getO ob o) = true then some (.sl nx 0 0 n, rowX n (getO ob o)) else (sea m ob (.sl o v i n)).map fun v => (v, []) := rfl
theorem k_head (nc : List NC) (ts os : List Nat) (sl : SL) (p : Nat × Obj') (r : OB) : head nc ts os sl (p :: r) = (match keepO (p :: r) os with
  | some kb => if (keysO (p :: r)).all (fun o => decide (64 ≤ o) || os.contains o) = false then none else headF os (headC (p :: r) nc (keepS sl ts) kb [] [])
  | none => none) := rfl
theorem k_head0 (nc : List NC) (ts os : List Nat) (sl : SL) : head nc ts os sl [] = (match keepO [] os with
  | some kb => headF os (headC [] nc (keepS sl ts) kb [] [])
  | none => none) := by unfold head; cases keepO [] os <;> simp [keysO]
theorem k_headF (os : List Nat) (sl : SL) (kb rows : OB) (src : List Nat) : headF os (some (sl, kb, rows, src)) = if headOK os src rows (refsS sl ++ refsOB kb) = true then some (sl, rows ++ kb) else none := rfl
theorem k_headOK (os src all : List Nat) (rows : OB) : headOK os src rows all = (src.all (fun o => !os.contains o) && (keysO rows).all (fun o => !os.contains o && cntN o all == 1) && all.all fun o => os.contains o || (keysO rows).contains o) := rfl
theorem k_hc0 (sl : SL) (kb rows : OB) (src : List Nat) : headC ob [] sl kb rows src = some (sl, kb, rows, src) := rfl
theorem k_asR_e : asR ob n (.e x) = some (row [] n true, 0, []) := rfl
theorem k_asR_sl : asR ob n (.sl o v i m) = (match getO ob o with
    | some x => if 64 ≤ o ∧ x.pu = true ∧ x.fro = false ∧ x.ver = v ∧ x.w = n ∧ i = 0 ∧ m = x.els.length then some ({ x with ver := 0, cap := none }, m, [o]) else none
    | none => none) := rfl
theorem k_sea_sl : sea m ob (.sl o v i n) = if m ≤ o then (contX (getO ob o) v i n).map fun r => .l r.1 r.2 else some (.sl o v i n) := by simp only [sea]
end
end Go.Proofs.YtbobbkgdbfcblaaDoor
