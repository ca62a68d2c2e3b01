import Derived.Test.YtnkapponcbgbhaaMir1
import Derived.KernelRfl
set_option linter.all false
set_option linter.unusedSimpArgs false
set_option linter.unusedVariables false
namespace Go.Proofs.Ytnkapponcbgbhaa
open Go
section
section
variable {α β : Type}
theorem k_g0 (a : α) (l : List α) : (a :: l)[0]? = some a := rfl
theorem k_gs (a : α) (l : List α) (n : Nat) : (a :: l)[n + 1]? = l[n]? := rfl
theorem k_bnd (a : α) (f : α → Option β) : bnd (some a) f = f a := rfl
theorem k_bndO (v : PV) (u ob : OB) (f : PV → OB → Option β) : bndO (some (v, u)) ob f = f v (u ++ ob) := rfl
theorem k_br_t (a b : Option (PV × List Obj')) : br (.b true) a b = a := rfl
theorem k_br_f (a b : Option (PV × List Obj')) : br (.b false) a b = b := rfl
theorem k_br_u (a b : Option (PV × List Obj')) : br .ub a b = agree a b := rfl
theorem k_agree (v v' : PV) (o o' : List Obj') : agree (some (v, o)) (some (v', o')) = if (eqV v v' && eqOs o o') = true then some (v, o) else none := rfl
theorem k_loop (F : (SL → OB → Option R) → SL → OB → Option R) (n : Nat) (sl : SL) (ob : OB) : loopC F (n + 1) sl ob = F (loopC F n) sl ob := rfl
theorem w64 {x : Int} (h : -9223372036854775808 ≤ x) (h' : x ≤ 9223372036854775807) : IntKind.i64.wrap x = x := by rw [IntKind.wrap_i64]; omega
variable (k : IntKind) (a b : Int) (x y : Bool) (s t : List UInt8)
theorem k_add : bi .add (.i k a) (.i k b) = some (.i k (k.wrap (a + b))) := by simp [bi, binI, isShift]
theorem k_sub : bi .sub (.i k a) (.i k b) = some (.i k (k.wrap (a - b))) := by simp [bi, binI, isShift]
theorem k_mul : bi .mul (.i k a) (.i k b) = some (.i k (k.wrap (a * b))) := by simp [bi, binI, isShift]
theorem k_lss : bi .lss (.i k a) (.i k b) = some (.b (decide (a < b))) := by simp [bi, binI, isShift]
theorem k_leq : bi .leq (.i k a) (.i k b) = some (.b (decide (a ≤ b))) := by simp [bi, binI, isShift]
theorem k_gtr : bi .gtr (.i k a) (.i k b) = some (.b (decide (a > b))) := by simp [bi, binI, isShift]
theorem k_geq : bi .geq (.i k a) (.i k b) = some (.b (decide (a ≥ b))) := by simp [bi, binI, isShift]
theorem k_eql : bi .eql (.i k a) (.i k b) = some (.b (a == b)) := by simp [bi, binI, isShift]
theorem k_neq : bi .neq (.i k a) (.i k b) = some (.b (a != b)) := by simp [bi, binI, isShift]
theorem k_rem : bi .rem (.i k a) (.i k b) = if b = 0 then none else some (.i k (a.tmod b)) := by simp [bi, binI, isShift]
theorem k_quo : bi .quo (.i k a) (.i k b) = if b = 0 then none else some (.i k (k.wrap (a.tdiv b))) := by simp [bi, binI, isShift]
theorem k_and : bi .and (.i k a) (.i k b) = some (.i k (k.wrap (BitVec.ofInt k.bits a &&& BitVec.ofInt k.bits b).toNat)) := by simp [bi, binI, isShift]
theorem k_or : bi .or (.i k a) (.i k b) = some (.i k (k.wrap (BitVec.ofInt k.bits a ||| BitVec.ofInt k.bits b).toNat)) := by simp [bi, binI, isShift]
theorem k_xor : bi .xor (.i k a) (.i k b) = some (.i k (k.wrap (BitVec.ofInt k.bits a ^^^ BitVec.ofInt k.bits b).toNat)) := by simp [bi, binI, isShift]
theorem k_shl (j : IntKind) : bi .shl (.i k a) (.i j b) = if b < 0 then none else some (.i k (k.wrap (a * 2 ^ (min b.toNat k.bits)))) := by simp [bi, isShift, shiftI]
theorem k_shr (j : IntKind) : bi .shr (.i k a) (.i j b) = if b < 0 then none else some (.i k (a.fdiv (2 ^ (min b.toNat k.bits)))) := by simp [bi, isShift, shiftI]
theorem k_seql : bi .eql (.s s) (.s t) = some (.b (decide (s = t))) := rfl
theorem k_sneq : bi .neq (.s s) (.s t) = some (.b (!decide (s = t))) := rfl
theorem k_sadd : bi .add (.s s) (.s t) = if s.length + t.length ≤ two32 then some (.s (s ++ t)) else none := rfl
theorem k_beql : biB .eql (.b x) (.b y) = some (.b (x == y)) := rfl
theorem k_bneq : biB .neq (.b x) (.b y) = some (.b (!(x == y))) := rfl
theorem k_not : uO .not (.b x) = some (.b (!x)) := rfl
theorem k_neg : uO .neg (.i k a) = some (.i k (k.wrap (0 - a))) := rfl
theorem k_com : uO .xor (.i k a) = binI .xor k (if k.signed then -1 else k.max) a := rfl
theorem k_cv (j : IntKind) : cv j (.i k a) = some (.i j (j.wrap a)) := rfl
theorem k_pk (u v : PV) : pk (.b x) u v = if x = true then some u else some v := rfl
theorem k_gd (w : Bool) (z : Option PV) : gd (.b x) w z = if x = w then z else some (.tup []) := rfl
theorem k_gdt (w : Bool) (z : Option PV) : gd (.tup []) w z = some (.tup []) := rfl
theorem k_gdO (w : Bool) (z : Option Up) : gdO (.b x) w z = if x = w then z else some (.tup [], []) := rfl
theorem k_gdOt (w : Bool) (z : Option Up) : gdO (.tup []) w z = some (.tup [], []) := rfl
theorem k_ext (vs : List PV) (n : Nat) : ext n (.tup vs) = vs[n]? := rfl
variable (o v i off n m : Nat) (ob : OB) (g : Bool) (xs : List (List PV)) (ps : List PV) (X : Obj')
theorem k_fA : fA n (.p o v i off none) = some (.p o v i (off + n) none) := rfl
theorem k_l1 : l1 ob (.p o v i off none) = hd1 (atO (getO ob o) v i off) := rfl
theorem k_l1b : l1 ob (.p o v i off (some n)) = nthB (blobAt (atO (getO ob o) v i off)) n := rfl
theorem k_l1q : l1 ob (.q g ps none) = hd1 (some (ps.map (rt g))) := rfl
theorem k_l1qb : l1 ob (.q g ps (some n)) = nthB (blobAt (some ps)) n := rfl
theorem k_lN : lN ob n (.p o v i off none) = aggO (takeO (atO (getO ob o) v i off) n) := rfl
theorem k_lNq : lN ob n (.q g ps none) = aggO (takeO (some (ps.map (rt g))) n) := rfl
theorem k_atO : atO (some X) v i off = if X.ver = v then atE X.pu X.g X.els[i]? off else none := rfl
theorem k_atE (p : Bool) (el : List PV) : atE p g (some el) off = (dropW el off).map fun r => if p = true then r.map (rt g) else r := by cases p <;> rfl
theorem k_aggO : aggO (some ps) = some (.agg ps) := rfl
theorem k_takeO : takeO (some ps) n = takeW ps n := rfl
theorem k_blobAt (r : List PV) : blobAt (some (.blob m ps :: r)) = some ps := rfl
theorem k_nthB : nthB (some ps) n = ps[n]? := rfl
theorem k_hd_i (r : List PV) : hd1 (some (.i k a :: r)) = some (.i k a) := rfl
theorem k_hd_b (r : List PV) : hd1 (some (.b x :: r)) = some (.b x) := rfl
theorem k_hd_s (r : List PV) : hd1 (some (.s s :: r)) = some (.s s) := rfl
theorem k_hd_l (r : List PV) : hd1 (some (.l g xs :: r)) = some (.l g xs) := rfl
theorem k_hd_e (r : List PV) : hd1 (some (.e x :: r)) = some (.e x) := rfl
theorem k_hd_sl (r : List PV) : hd1 (some (.sl o v i n :: r)) = some (.sl o v i n) := rfl
theorem k_rt_l (g' : Bool) : rt g (.l g' xs) = .l g xs := rfl
theorem k_rt_i : rt g (.i k a) = .i k a := rfl
theorem k_rt_b : rt g (.b x) = .b x := rfl
theorem k_rt_s : rt g (.s s) = .s s := rfl
theorem k_rt_blob : rt g (.blob n ps) = .blob n ps := rfl
theorem k_st (w : PV) : st ob n (.p o v i off none) w = if stv w = true ∧ wds (cellsOf w) = n then stX ob o v i off w (getO ob o) else none := rfl
theorem k_stb (w : PV) : st ob n (.p o v i off (some m)) w = if n = 1 then stB o v i off m w (getO ob o) else none := rfl
theorem k_stX (w : PV) : stX ob o v i off w (some X) = if X.fro = false ∧ X.ver = v then stE ob o X i off w X.els[i]? else none := rfl
theorem k_stE (w : PV) (el : List PV) : stE ob o X i off w (some el) = if X.pu = true then stP o X i el off (puris ob (cellsOf w)) else stD o X i (putW el off (cellsOf w)) := rfl
theorem k_stD (el : List PV) : stD o X i (some el) = some (.tup [], [(o, { X with els := X.els.set i el })]) := rfl
theorem k_stB (w : PV) : stB o v i off m w (some X) = if X.fro = false ∧ X.ver = v ∧ X.pu = false ∧ scal w = true then stG o X i off m w X.els[i]? else none := rfl
theorem k_stG (w : PV) (el : List PV) : stG o X i off m w (some el) = stF o X i m w (dropW el off) (takeW el off) := rfl
theorem k_stF (w : PV) (r p : List PV) : stF o X i m w (some (.blob n ps :: r)) (some p) = if m < ps.length then some (.tup [], [(o, { X with els := X.els.set i (p ++ (.blob n (ps.set m w) :: r)) })]) else none := rfl
theorem k_stP (el l : List PV) (g' : Bool) (u : OB) : stP o X i el off (some (l, g', u)) = stQ o X i g' u (putW el off l) := rfl
theorem k_stQ (el : List PV) (u : OB) : stQ o X i g u (some el) = if u.any (fun y => y.1 == o) then none else some (.tup [], (o, { X with els := X.els.set i el, g := X.g && g }) :: u) := rfl
theorem k_puris0 : puris ob [] = some ([], true, []) := rfl
theorem k_puris (w : PV) (l : List PV) : puris ob (w :: l) = puriC (puri ob w) (puris ob l) := rfl
theorem k_puriC (w : PV) (l : List PV) (g' : Bool) (u u' : OB) : puriC (some (w, g, u)) (some (l, g', u')) = some (w :: l, g && g', u ++ u') := rfl
theorem k_puri_i : puri ob (.i k a) = some (.i k a, true, []) := rfl
theorem k_puri_b : puri ob (.b x) = some (.b x, true, []) := rfl
theorem k_puri_l : puri ob (.l g xs) = some (.l g xs, g, []) := rfl
theorem k_c_agg : cellsOf (.agg ps) = ps := rfl
theorem k_c_i : cellsOf (.i k a) = [.i k a] := rfl
theorem k_c_b : cellsOf (.b x) = [.b x] := rfl
theorem k_c_s : cellsOf (.s s) = [.s s] := rfl
theorem k_c_l : cellsOf (.l g xs) = [.l g xs] := rfl
theorem k_c_e : cellsOf (.e x) = [.e x] := rfl
theorem k_c_sl : cellsOf (.sl o v i n) = [.sl o v i n] := rfl
theorem k_c_p (z : Option Nat) : cellsOf (.p o v i n z) = [.p o v i n z] := rfl
theorem k_sv_agg : stv (.agg ps) = true := rfl
theorem k_sv_i : stv (.i k a) = true := rfl
theorem k_sv_b : stv (.b x) = true := rfl
theorem k_sv_s : stv (.s s) = true := rfl
theorem k_sv_l : stv (.l g xs) = true := rfl
theorem k_sv_e : stv (.e x) = true := rfl
theorem k_sv_sl : stv (.sl o v i n) = true := rfl
theorem k_sc_i : scal (.i k a) = true := rfl
theorem k_sc_b : scal (.b x) = true := rfl
theorem k_wd_i : wd (.i k a) = 1 := rfl
theorem k_wd_b : wd (.b x) = 1 := rfl
theorem k_wd_s : wd (.s s) = 1 := rfl
theorem k_wd_l : wd (.l g xs) = 1 := rfl
theorem k_wd_e : wd (.e x) = 1 := rfl
theorem k_wd_sl : wd (.sl o v i n) = 1 := rfl
theorem k_wd_p (z : Option Nat) : wd (.p o v i n z) = 1 := rfl
theorem k_wd_blob : wd (.blob n ps) = n := rfl
theorem k_al (z : List PV) : al ob n z = newX n (boxO z) (.p n 0 0 0 none) (getO ob n) := rfl
theorem k_bx (w : PV) : bx ob n w = if stv w = true then al ob n (cellsOf w) else none := rfl
theorem k_new (w : PV) : newX n X w none = some (w, [(n, X)]) := rfl
theorem k_len_l : len (.l g xs) = some (.i .i64 xs.length) := rfl
theorem k_len_e : len (.e x) = some (.i .i64 0) := rfl
theorem k_len_sl : len (.sl o v i n) = some (.i .i64 n) := rfl
theorem k_len_bs : len (.bs o v i n) = some (.i .i64 n) := rfl
theorem k_lenS : lenS (.s s) = some (.i .i64 s.length) := rfl
theorem k_cp_e : cp ob (.e x) = some (.i .i64 0) := rfl
theorem k_eNs_l (neg : Bool) : eNs neg ob (.l g xs) = some (eNl neg xs) := rfl
theorem k_eNs_e (neg : Bool) : eNs neg ob (.e x) = some (.b (x ^^ neg)) := rfl
theorem k_xS_l : xS ob n (.l g xs) (.i k a) = if 0 ≤ a then elQ g n xs[a.toNat]? else none := rfl
theorem k_xS_sl : xS ob n (.sl o v i m) (.i k a) = xSO o v i m n a (getO ob o) := rfl
theorem k_xSO : xSO o v i m n a (some X) = if X.ver = v ∧ X.w = n ∧ 0 ≤ a ∧ a < m ∧ i + m ≤ X.els.length then some (.p o v (i + a.toNat) 0 none) else none := rfl
theorem k_elQ (el : List PV) : elQ g n (some el) = if wds el = n then some (.q g el none) else none := rfl
theorem k_xA : xA n (.p o v i off none) (.i k a) = if 0 ≤ a ∧ a < n then some (.p o v i off (some a.toNat)) else none := rfl
theorem k_xAq (r : List PV) : xA n (.q g (.blob m ps :: r) none) (.i k a) = if 0 ≤ a ∧ a < n ∧ m = n then some (.q g (.blob m ps :: r) (some a.toNat)) else none := rfl
theorem k_slc_l (lo hi mx : Option PV) : slc ob (.slice n) (.l g xs) lo hi mx = if allW n xs = true then slL g xs (optI lo 0) (optI hi xs.length) (optI mx xs.length) else none := by cases mx <;> rfl
theorem k_slc_e (lo hi mx : Option PV) : slc ob (.slice n) (.e x) lo hi mx = slE x (optI lo 0) (optI hi 0) (optI mx 0) := by cases mx <;> rfl
theorem k_slc_sl (lo hi mx : Option PV) : slc ob (.slice n) (.sl o v i m) lo hi mx = slO o v i n (getO ob o) (optI lo 0) (optI hi m) (mx.map natI) := by cases mx <;> rfl
theorem k_slL (l h q : Int) : slL g xs (some l) (some h) (some q) = if 0 ≤ l ∧ l ≤ h ∧ h ≤ q ∧ q ≤ xs.length then some (.l g ((xs.take h.toNat).drop l.toNat), []) else none := rfl
theorem k_slE (l h q : Int) : slE x (some l) (some h) (some q) = if 0 ≤ l ∧ l ≤ h ∧ h ≤ q ∧ q ≤ 0 then some (.e x, []) else none := rfl
theorem k_slO (l h : Int) : slO o v i n (some X) (some l) (some h) none = if X.ver = v ∧ X.w = n ∧ 0 ≤ l ∧ l ≤ h ∧ i + h ≤ X.els.length then some (.sl o v (i + l.toNat) (h.toNat - l.toNat), []) else none := rfl
theorem k_opt0 (d : Int) : optI none d = some d := rfl
theorem k_opt1 (d : Int) : optI (some (.i k a)) d = some a := rfl
theorem k_map0 : Option.map natI none = none := rfl
theorem k_allW0 : allW n [] = true := rfl
theorem k_allW1 (w : PV) (r : List PV) : allW n ((w :: r) :: xs) = (wds (w :: r) == n && allW n xs) := rfl
theorem k_fe0 : flatEls [] = true := rfl
theorem k_fe1 (w : PV) (r : List PV) : flatEls ((w :: r) :: xs) = (flats (w :: r) && flatEls xs) := rfl
theorem k_fs0 : flats [] = true := rfl
theorem k_fs1 (w : PV) (r : List PV) : flats (w :: r) = (flat w && flats r) := rfl
theorem k_fl_i : flat (.i k a) = true := rfl
theorem k_fl_b : flat (.b x) = true := rfl
theorem k_fl_l : flat (.l g xs) = false := rfl
theorem k_ap (d : Nat) (u w : PV) : ap ob d n u w = apC ob d n u (cont ob w) := rfl
theorem k_cont_l : cont ob (.l g xs) = some (g, xs) := rfl
theorem k_cont_e : cont ob (.e x) = some (true, []) := rfl
theorem k_cont_s : cont ob (.s s) = some (true, s.map fun c => [.i .u8 c.toNat]) := rfl
theorem k_cont_sl : cont ob (.sl o v i n) = contX (getO ob o) v i n := rfl
theorem k_contL_l : contL ob (.l g xs) = some (g, xs) := rfl
theorem k_contL_e : contL ob (.e x) = some (true, []) := rfl
theorem k_contL_sl : contL ob (.sl o v i n) = contX (getO ob o) v i n := rfl
theorem k_contX : contX (some X) v i n = if X.pu = true ∧ X.ver = v ∧ i + n ≤ X.els.length then some (X.g, (X.els.drop i).take n) else none := rfl
theorem k_apC (d : Nat) (u : PV) : apC ob d n u (some (g, xs)) = apE ob d n g xs u := rfl
theorem k_apE_e (d : Nat) : apE ob d n g xs (.e x) = if xs.length ≤ two32 ∧ allW n xs = true then newX d (row xs n (g || flatEls xs)) (.sl d 0 0 xs.length) (getO ob d) else none := rfl
theorem k_apE_sl (d : Nat) : apE ob d n g xs (.sl o v i m) = apO o v i m n g xs (getO ob o) := rfl
theorem k_apO (ys : List (List PV)) : apO o v i m n g ys (some X) = if X.ver = v ∧ X.w = n ∧ X.pu = true ∧ X.fro = false ∧ i = 0 ∧ m ≤ X.els.length ∧ m + ys.length ≤ two32 ∧ allW n ys = true then
      if m + ys.length ≤ X.els.length then
        some (.sl o v 0 (m + ys.length), [(o, { X with els := X.els.take m ++ (ys ++ X.els.drop (m + ys.length)), g := X.g && (g || flatEls ys) })])
      else some (.sl o (v + 1) 0 (m + ys.length), [(o, { els := X.els.take m ++ ys, w := n, pu := true, g := X.g && (g || flatEls ys), cap := none, ver := v + 1, fro := false })])
    else none := rfl
theorem k_apz (d : Nat) (z : List PV) (u : PV) : apz ob d z u (.i k a) = if 0 ≤ a ∧ a ≤ two32 ∧ isPures (zps z) = true then apE ob d (wds z) true (List.replicate a.toNat (zps z)) u else none := rfl
theorem k_bldS0 (d : Nat) : bldS ob d n [] = some (.e false, []) := rfl
theorem k_bldS (d : Nat) (w : PV) (r : List PV) : bldS ob d n (w :: r) = if stvs (w :: r) = true ∧ allW n (cellsL (w :: r)) = true then newX d { els := cellsL (w :: r), w := n, pu := isPureEls (cellsL (w :: r)), g := noExtEls (cellsL (w :: r)) || !isPureEls (cellsL (w :: r)), cap := some (w :: r).length, ver := 0, fro := false } (.sl d 0 0 (w :: r).length) (getO ob d) else none := rfl
theorem k_bld (z : List PV) (l : List (Nat × Nat × PV)) : bld z l = aggO (bldC (some z) l) := rfl
theorem k_bldC0 (z : List PV) : bldC (some z) [] = some z := rfl
theorem k_bldC (z : List PV) (w : PV) (r : List (Nat × Nat × PV)) : bldC (some z) ((off, n, w) :: r) = if stv w = true ∧ wds (cellsOf w) = n then bldC (putB z off (cellsOf w)) r else none := rfl
theorem k_eAr (l r : List PV) (neg : Bool) (m' : Nat) : eAr neg n (.agg [.blob m l]) (.agg [.blob m' r]) = if m = n ∧ m' = n then (eqIs l r).map fun x => .b (x ^^ neg) else none := rfl
theorem k_b2s (w : PV) : b2s ob w = b2sC (contL ob w) := rfl
theorem k_b2sC : b2sC (some (g, xs)) = strO (unB xs) := rfl
theorem k_strO : strO (some s) = some (.s s) := rfl
variable (Φ : Sem') (d f : Nat) (l : List PV)
theorem k_ca0 : ca0 Φ ob d g f l = ca0X Φ ob d f (reifiesN g ob l) := rfl
theorem k_ca0X (L : List Nat) : ca0X Φ ob d f (some (l, L)) = if refsL l = [] then ca0R ob d L (Φ f l []) else none := rfl
theorem k_ca0R (L : List Nat) (r : PV) (out : List Obj') : ca0R ob d L (some (r, out)) = back0 ob d L r out := rfl
theorem k_reiN0 : reifiesN false ob l = reifies1 ob l := rfl
theorem k_reiN1 : reifiesN true ob l = reifies ob l := rfl
theorem k_rs1_0 : reifies1 ob [] = some ([], []) := rfl
theorem k_rs_0 : reifies ob [] = some ([], []) := rfl
theorem k_rl_0 : reifyL ob [] = some ([], []) := rfl
theorem k_re_0 : reifyEls ob [] = some ([], []) := rfl
theorem k_rs1 (w : PV) (r : List PV) : reifies1 ob (w :: r) = bnd (reify1 ob w) fun a => bnd (reifies1 ob r) fun b => some (a.1 :: b.1, a.2 ++ b.2) := by
  simp only [reifies1]; cases reify1 ob w <;> cases reifies1 ob r <;> rfl
theorem k_rs (w : PV) (r : List PV) : reifies ob (w :: r) = bnd (reify ob w) fun a => bnd (reifies ob r) fun b => some (a.1 :: b.1, a.2 ++ b.2) := by
  simp only [reifies]; cases reify ob w <;> cases reifies ob r <;> rfl
theorem k_rl (w : PV) (r : List PV) : reifyL ob (w :: r) = bnd (reify0 ob w) fun a => bnd (reifyL ob r) fun b => some (a.1 :: b.1, a.2 ++ b.2) := by
  simp only [reifyL]; cases reify0 ob w <;> cases reifyL ob r <;> rfl
theorem k_re (w : List PV) (r : List (List PV)) : reifyEls ob (w :: r) = bnd (reifyL ob w) fun a => bnd (reifyEls ob r) fun b => some (a.1 :: b.1, a.2 ++ b.2) := by
  simp only [reifyEls]; cases reifyL ob w <;> cases reifyEls ob r <;> rfl
theorem k_r0_l : reify0 ob (.l g xs) = some (.l false xs, []) := rfl
theorem k_r0_e : reify0 ob (.e x) = some (.l false [], []) := rfl
theorem k_r0_i : reify0 ob (.i k a) = some (.i k a, []) := rfl
theorem k_r0_b : reify0 ob (.b x) = some (.b x, []) := rfl
theorem k_r0_s : reify0 ob (.s s) = some (.s s, []) := rfl
theorem k_r0_blob : reify0 ob (.blob n ps) = some (.blob n ps, []) := rfl
theorem k_r0_sl : reify0 ob (.sl o v i n) = (contX (getO ob o) v i n).map fun r => (.l false r.2, [o]) := rfl
theorem k_r0_bs : reify0 ob (.bs o v i n) = (contL ob (.bs o v i n)).map fun r => (.l false r.2, [o]) := rfl
theorem k_r1_agg : reify1 ob (.agg ps) = (reifyL ob ps).map fun r => (.agg r.1, r.2) := rfl
theorem k_r1_l : reify1 ob (.l g xs) = some (.l false xs, []) := rfl
theorem k_r1_e : reify1 ob (.e x) = some (.l false [], []) := rfl
theorem k_r1_i : reify1 ob (.i k a) = some (.i k a, []) := rfl
theorem k_r1_b : reify1 ob (.b x) = some (.b x, []) := rfl
theorem k_r1_s : reify1 ob (.s s) = some (.s s, []) := rfl
theorem k_r1_sl : reify1 ob (.sl o v i n) = (contX (getO ob o) v i n).map fun r => (.l false r.2, [o]) := rfl
theorem k_r1_bs : reify1 ob (.bs o v i n) = (contL ob (.bs o v i n)).map fun r => (.l false r.2, [o]) := rfl
theorem k_contL_bs : contL ob (.bs o v i n) = contB (blobAt (atO (getO ob o) 0 0 v)) i n := rfl
theorem k_contB : contB (some ps) i n = if i + n ≤ ps.length then some (true, ((ps.drop i).take n).map fun v => [v]) else none := rfl
theorem k_r_l : reify ob (.l g xs) = some (.l false xs, []) := rfl
theorem k_r_sl : reify ob (.sl o v i n) = (match getO ob o with
    | some x =>
      if x.pu then reify0 ob (.sl o v i n)
      else if x.ver = v ∧ i + n ≤ x.els.length then (reifyEls ob ((x.els.drop i).take n)).bind fun r => if isPureEls r.1 then some (.l false r.1, o :: r.2) else none
      else none
    | none => none) := rfl
theorem k_back0 (L : List Nat) (r : PV) : back0 ob d L r [] = if L.isEmpty || noExt r then some (ren (d + ·) r, []) else (frz ob L).map fun z => (ren (d + ·) r, z) := rfl
theorem k_back1 (L : List Nat) (r : PV) (Y : Obj') (out : List Obj') : back0 ob d L r (Y :: out) = if 8 < (Y :: out).length then none else bnd (newOs ob (d + ·) d (Y :: out)) fun w => if L.isEmpty || (noExt r && (Y :: out).all noExtO) then some (ren (d + ·) r, w) else (frz ob L).map fun z => (ren (d + ·) r, w ++ z) := by
  simp only [back0]
  split
  · rfl
  · cases newOs ob (d + ·) d (Y :: out) <;> rfl
theorem k_one1 (w : PV) : one [w] = w := rfl
theorem k_one2 (w u : PV) (r : List PV) : one (w :: u :: r) = .tup (w :: u :: r) := rfl
theorem k_handX (L : List Nat) : handX L o v i n (some X) = (X.pu && !X.fro && X.ver == v && i == 0 && decide (n ≤ X.els.length) && cntN o L == 1) := rfl
theorem k_rowX : rowX n (some X) = [row (X.els.take n) X.w X.g] := rfl
theorem k_ca (l : List PV) (h : refsL l = []) : ca Φ ob d true f l = ca0R ob d [] (Φ f l []) := by
  simp [ca, hand, h, reach]; cases Φ f l [] <;> rfl
theorem k_ca_ei : ca Φ ob d true f [.e x, .i k a] = ca0R ob d [] (Φ f [.e x, .i k a] []) := k_ca ob Φ d f _ (by simp [refsL, refs])
theorem k_fin1 (w : Nat) (ws : List Nat) (u : PV) : fin ob 0 (w :: ws) [u] = resO 0 ob (refs u) 0 w u := by
  simp only [fin, refsL, List.append_nil, refsOuts, resOs, outOs, List.headD_cons]
  cases resO 0 ob (refs u) 0 w u with
  | none => rfl
  | some r => simp [one]
theorem k_fin2 (w w' : Nat) (ws : List Nat) (u u' : PV) : fin ob 0 (w :: w' :: ws) [u, u'] = bnd (resO 0 ob (refs u ++ refs u') 0 w u) fun a => bnd (resO 0 ob (refs u ++ refs u') a.2.length w' u') fun b => some (.tup [a.1, b.1], a.2 ++ b.2) := by
  simp only [fin, refsL, List.append_nil, refsOuts, resOs, outOs, List.headD_cons, List.tail_cons, Nat.zero_add]
  cases resO 0 ob (refs u ++ refs u') 0 w u with
  | none => rfl
  | some r =>
    simp only [k_bnd]
    cases resO 0 ob (refs u ++ refs u') r.2.length w' u' with
    | none => rfl
    | some q => simp [one, k_bnd]
theorem k_res_b (L : List Nat) (nx w : Nat) : resO m ob L nx w (.b x) = some (.b x, []) := rfl
theorem k_res_i (L : List Nat) (nx w : Nat) : resO m ob L nx w (.i k a) = some (.i k a, []) := rfl
theorem k_res_s (L : List Nat) (nx w : Nat) : resO m ob L nx w (.s s) = some (.s s, []) := rfl
theorem k_res_l (L : List Nat) (nx w : Nat) : resO m ob L nx w (.l g xs) = some (.l g xs, []) := rfl
theorem k_res_e (L : List Nat) (nx w : Nat) : resO m ob L nx w (.e x) = some (.sl nx 0 0 0, [row [] w true]) := rfl
theorem k_res_agg (L : List Nat) (nx w : Nat) : resO m ob L nx w (.agg ps) = (seaL m ob ps).map fun c => (.agg c, []) := by
  simp only [resO, sea, Option.map_map]; rfl
theorem k_res_sl (L : List Nat) (nx w : Nat) : resO m ob L nx w (.sl o v i n) = if o < m then some (.sl o v i n, []) else if handX L o v i n (getO ob o) = true then some (.sl nx 0 0 n, rowX n (getO ob o)) else (sea m ob (.sl o v i n)).map fun v => (v, []) := rfl
theorem k_head (nc : List NC) (ts os : List Nat) (sl : SL) (p : Nat × Obj') (r : OB) : head nc ts os sl (p :: r) = (match keepO (p :: r) os with
  | some kb => if (keysO (p :: r)).all (fun o => decide (64 ≤ o) || os.contains o) = false then none else headF os (headC (p :: r) nc (keepS sl ts) kb [] [])
  | none => none) := rfl
theorem k_head0 (nc : List NC) (ts os : List Nat) (sl : SL) : head nc ts os sl [] = (match keepO [] os with
  | some kb => headF os (headC [] nc (keepS sl ts) kb [] [])
  | none => none) := by unfold head; cases keepO [] os <;> simp [keysO]
theorem k_headF (os : List Nat) (sl : SL) (kb rows : OB) (src : List Nat) : headF os (some (sl, kb, rows, src)) = if headOK os src rows (refsS sl ++ refsOB kb) = true then some (sl, rows ++ kb) else none := rfl
theorem k_headOK (os src all : List Nat) (rows : OB) : headOK os src rows all = (src.all (fun o => !os.contains o) && (keysO rows).all (fun o => !os.contains o && cntN o all == 1) && all.all fun o => os.contains o || (keysO rows).contains o) := rfl
theorem k_hc0 (sl : SL) (kb rows : OB) (src : List Nat) : headC ob [] sl kb rows src = some (sl, kb, rows, src) := rfl
theorem k_asR_e : asR ob n (.e x) = some (row [] n true, 0, []) := rfl
theorem k_asR_sl : asR ob n (.sl o v i m) = (match getO ob o with
    | some x => if 64 ≤ o ∧ x.pu = true ∧ x.fro = false ∧ x.ver = v ∧ x.w = n ∧ i = 0 ∧ m = x.els.length then some ({ x with ver := 0, cap := none }, m, [o]) else none
    | none => none) := rfl
theorem k_r_i : reify ob (.i k a) = some (.i k a, []) := rfl
theorem k_r_b : reify ob (.b x) = some (.b x, []) := rfl
theorem k_r_s : reify ob (.s s) = some (.s s, []) := rfl
theorem k_r_e : reify ob (.e x) = some (.l false [], []) := rfl
theorem k_r_agg (l : List PV) : reify ob (.agg l) = (reifyL ob l).map fun r => (.agg r.1, r.2) := rfl
theorem k_fAq (g' : Bool) (l : List PV) : fA n (.q g' l none) = qO g' (dropW l n) := rfl
theorem k_qO (g' : Bool) (l : List PV) : qO g' (some l) = some (.q g' l none) := rfl
theorem k_c_np : cellsOf .np = [.np] := rfl
theorem k_wd_np : wd .np = 1 := rfl
theorem k_sea_sl : sea m ob (.sl o v i n) = if m ≤ o then (contX (getO ob o) v i n).map fun r => .l r.1 r.2 else some (.sl o v i n) := by simp only [sea]
end
def KS := And.intro @k_g0 (And.intro @k_gs (And.intro @k_bnd (And.intro @k_bndO (And.intro @k_br_t (And.intro @k_br_f (And.intro @k_br_u (And.intro @k_agree (And.intro @k_loop (And.intro @k_add (And.intro @k_sub (And.intro @k_mul (And.intro @k_lss (And.intro @k_leq (And.intro @k_gtr (And.intro @k_geq (And.intro @k_eql (And.intro @k_neq (And.intro @k_rem (And.intro @k_quo (And.intro @k_and (And.intro @k_or (And.intro @k_xor (And.intro @k_shl (And.intro @k_shr (And.intro @k_seql (And.intro @k_sneq (And.intro @k_sadd (And.intro @k_beql (And.intro @k_bneq (And.intro @k_not (And.intro @k_neg (And.intro @k_com (And.intro @k_cv (And.intro @k_pk (And.intro @k_gd (And.intro @k_gdt (And.intro @k_gdO (And.intro @k_gdOt (And.intro @k_ext (And.intro @k_fA (And.intro @k_l1 (And.intro @k_l1b (And.intro @k_l1q (And.intro @k_l1qb (And.intro @k_lN (And.intro @k_lNq (And.intro @k_atO (And.intro @k_atE (And.intro @k_aggO (And.intro @k_takeO (And.intro @k_blobAt (And.intro @k_nthB (And.intro @k_hd_i (And.intro @k_hd_b (And.intro @k_hd_s (And.intro @k_hd_l (And.intro @k_hd_e (And.intro @k_hd_sl (And.intro @k_rt_l (And.intro @k_rt_i (And.intro @k_rt_b (And.intro @k_rt_s (And.intro @k_rt_blob (And.intro @k_st (And.intro @k_stb (And.intro @k_stX (And.intro @k_stE (And.intro @k_stD (And.intro @k_stB (And.intro @k_stG (And.intro @k_stF (And.intro @k_stP (And.intro @k_stQ (And.intro @k_puris0 (And.intro @k_puris (And.intro @k_puriC (And.intro @k_puri_i (And.intro @k_puri_b (And.intro @k_puri_l (And.intro @k_c_agg (And.intro @k_c_i (And.intro @k_c_b (And.intro @k_c_s (And.intro @k_c_l (And.intro @k_c_e (And.intro @k_c_sl (And.intro @k_c_p (And.intro @k_sv_agg (And.intro @k_sv_i (And.intro @k_sv_b (And.intro @k_sv_s (And.intro @k_sv_l (And.intro @k_sv_e (And.intro @k_sv_sl (And.intro @k_sc_i (And.intro @k_sc_b (And.intro @k_wd_i (And.intro @k_wd_b (And.intro @k_wd_s (And.intro @k_wd_l (And.intro @k_wd_e (And.intro @k_wd_sl (And.intro @k_wd_p (And.intro @k_wd_blob (And.intro @k_al (And.intro @k_bx (And.intro @k_new (And.intro @k_len_l (And.intro @k_len_e (And.intro @k_len_sl (And.intro @k_len_bs (And.intro @k_lenS (And.intro @k_cp_e (And.intro @k_eNs_l (And.intro @k_eNs_e (And.intro @k_xS_l (And.intro @k_xS_sl (And.intro @k_xSO (And.intro @k_elQ (And.intro @k_xA (And.intro @k_xAq (And.intro @k_slc_l (And.intro @k_slc_e (And.intro @k_slc_sl (And.intro @k_slL (And.intro @k_slE (And.intro @k_slO (And.intro @k_opt0 (And.intro @k_opt1 (And.intro @k_map0 (And.intro @k_allW0 (And.intro @k_allW1 (And.intro @k_fe0 (And.intro @k_fe1 (And.intro @k_fs0 (And.intro @k_fs1 (And.intro @k_fl_i (And.intro @k_fl_b (And.intro @k_fl_l (And.intro @k_ap (And.intro @k_cont_l (And.intro @k_cont_e (And.intro @k_cont_s (And.intro @k_cont_sl (And.intro @k_contL_l (And.intro @k_contL_e (And.intro @k_contL_sl (And.intro @k_contX (And.intro @k_apC (And.intro @k_apE_e (And.intro @k_apE_sl (And.intro @k_apO (And.intro @k_apz (And.intro @k_bldS0 (And.intro @k_bldS (And.intro @k_bld (And.intro @k_bldC0 (And.intro @k_bldC (And.intro @k_eAr (And.intro @k_b2s (And.intro @k_b2sC (And.intro @k_strO (And.intro @k_ca0 (And.intro @k_ca0X (And.intro @k_ca0R (And.intro @k_reiN0 (And.intro @k_reiN1 (And.intro @k_rs1_0 (And.intro @k_rs_0 (And.intro @k_rl_0 (And.intro @k_re_0 (And.intro @k_rs1 (And.intro @k_rs (And.intro @k_rl (And.intro @k_re (And.intro @k_r0_l (And.intro @k_r0_e (And.intro @k_r0_i (And.intro @k_r0_b (And.intro @k_r0_s (And.intro @k_r0_blob (And.intro @k_r0_sl (And.intro @k_r0_bs (And.intro @k_r1_agg (And.intro @k_r1_l (And.intro @k_r1_e (And.intro @k_r1_i (And.intro @k_r1_b (And.intro @k_r1_s (And.intro @k_r1_sl (And.intro @k_r1_bs (And.intro @k_contL_bs (And.intro @k_contB (And.intro @k_r_l (And.intro @k_r_sl (And.intro @k_back0 (And.intro @k_back1 (And.intro @k_one1 (And.intro @k_one2 (And.intro @k_handX (And.intro @k_rowX (And.intro @k_ca (And.intro @k_ca_ei (And.intro @k_fin1 (And.intro @k_fin2 (And.intro @k_res_b (And.intro @k_res_i (And.intro @k_res_s (And.intro @k_res_l (And.intro @k_res_e (And.intro @k_res_agg (And.intro @k_res_sl (And.intro @k_head (And.intro @k_head0 (And.intro @k_headF (And.intro @k_headOK (And.intro @k_hc0 (And.intro @k_asR_e (And.intro @k_asR_sl (And.intro @k_r_i (And.intro @k_r_b (And.intro @k_r_s (And.intro @k_r_e (And.intro @k_r_agg (And.intro @k_fAq (And.intro @k_qO (And.intro @k_c_np (And.intro @k_wd_np (@k_sea_sl)))))))))))))))))))))))))))))))))))))))))))))))))))))))))))))))))))))))))))))))))))))))))))))))))))))))))))))))))))))))))))))))))))))))))))))))))))))))))))))))))))))))))))))))))))))))))))))))))))))))))))))))))))))))))))))))))))))
end
section
def byL (xs : List Int) : List (List PV) := xs.map fun n => [.i .u8 n]
theorem byL_len (xs : List Int) : (byL xs).length = xs.length := by simp [byL]
theorem sem_succ (T : Nat → Option Body) (N d f : Nat) (m : Body) (h : T f = some m) (as : List PV) (os : List Obj') : sem T N (d + 1) f as os = m (sem T N d) N as os := by simp [sem, h]
theorem flat_by (xs : List Int) : flatEls (byL xs) = true := by
  induction xs with
  | nil => rfl
  | cons x r ih => simp only [byL, List.map_cons, flatEls, flats, flat, Bool.true_and]; exact ih
theorem allW_by (xs : List Int) : allW 1 (byL xs) = true := by
  induction xs with
  | nil => rfl
  | cons x r ih => simp only [byL, List.map_cons, allW, wds, wd]; exact ih
theorem L39 (N d : Nat) (xs : List Int) (h : xs.length ≤ 4294967296) : sem tab N (d + 1) 28 [.l false (byL xs)] [] = some (.sl 0 0 0 xs.length, [row (byL xs) 1 true]) := by
  rw [sem_succ tab N d 28 m28 rfl]
  cases xs with
  | nil => simp -implicitDefEqProofs (disch := first | omega | rfl) [m28, byL, allW, flatEls, eqV, eqOs, eqO, eqEls, KS, getS, getO, gS, zipN, refs, cntN, row, eNl, two32, -getElem?_pos]
  | cons x r =>
    have hf := flat_by (x :: r)
    have hw := allW_by (x :: r)
    have hl := byL_len (x :: r)
    generalize hb : byL (x :: r) = b at hf hw hl
    have hne : ∃ y s, b = y :: s := by rw [← hb]; exact ⟨_, _, rfl⟩
    obtain ⟨y, s, rfl⟩ := hne
    have hl2 : r.length = s.length := by simp at hl; omega
    have hle : s.length ≤ 4294967295 := by simp at h; omega
    simp -implicitDefEqProofs (disch := first | omega | rfl) [m28, hw, hf, hle, hl2, KS, getS, getO, gS, zipN, refs, cntN, row, eNl, two32, -getElem?_pos]
end
section
def box (cs : List PV) (n : Nat) : Obj' := { els := [cs], w := n, pu := false, g := true, cap := none, ver := 0, fro := false }
end
section
def chars (xs : List Int) : List UInt8 := xs.map fun n => UInt8.ofNat n.toNat
theorem unB_by : ∀ xs : List Int, unB (byL xs) = some (chars xs)
  | [] => rfl
  | x :: r => by
    have := unB_by r
    simp only [byL, chars] at this
    simp only [byL, List.map_cons, unB, this, unC, chars]
end
section
def uL (ns : List Int) : List PV := ns.map (.i .u8)
theorem uL_len (ws : List Int) : (uL ws).length = ws.length := by simp [uL]
open Classical in
end
section
theorem w8 {x : Int} (h : 0 ≤ x) (h' : x ≤ 255) : IntKind.u8.wrap x = x := by
  rw [IntKind.wrap_u8]; omega
end
section
abbrev Us := Int × Int × List Int
def uC (u : Us) : List PV := [.i .i64 u.1, .i .i64 u.2.1, .l false (byL u.2.2)]
def usL (l : List Us) : List (List PV) := l.map uC
theorem usL_len (l : List Us) : (usL l).length = l.length := by simp [usL]
theorem usL_get (l : List Us) (i : Nat) (h : i < l.length) : (usL l)[i]? = some (uC l[i]) := by simp [usL, h]
theorem allW_us (l : List Us) : allW 3 (usL l) = true := by
  induction l with
  | nil => rfl
  | cons x r ih => simp only [usL, List.map_cons, uC, allW, wds, wd]; exact ih
def inB (a b c : Int) : Bool := decide (b ≤ a) && decide (a ≤ c)
def roleB (r : Int) : Bool := decide (0 ≤ r) && decide (r < 4)
theorem U89 (N d : Nat) (a b c : Int) : sem tab N (d + 1) 51 [.i .i64 a, .i .i64 b, .i .i64 c] [] = some (.b (inB a b c), []) := by
  rw [sem_succ tab N d 51 m51 rfl]
  by_cases h : b ≤ a <;> simp -implicitDefEqProofs (disch := first | omega | rfl) [m51, inB, h, KS, getS, gS, zipN, refs, -getElem?_pos]
theorem U38r (N d : Nat) (a : Int) : sem tab N (d + 1) 52 [.i .i64 a] [] = some (.b (roleB a), []) := by
  rw [sem_succ tab N d 52 m52 rfl]
  by_cases h : 0 ≤ a <;> simp -implicitDefEqProofs (disch := first | omega | rfl) [m52, roleB, h, KS, getS, gS, zipN, refs, -getElem?_pos]
theorem U92 (N d : Nat) (a : Int) : sem tab N (d + 1) 66 [.i .i64 a] [] = some (.b (roleB a), []) := by
  rw [sem_succ tab N d 66 m66 rfl]
  by_cases h : 0 ≤ a <;> simp -implicitDefEqProofs (disch := first | omega | rfl) [m66, roleB, h, KS, getS, gS, zipN, refs, -getElem?_pos]
def okU (p : Int) (u : Us) : Bool := inB u.1 (p + 1) 255 && (roleB u.2.1 && inB u.2.2.length 16 64)
def mayFrom : Int → List Us → Bool
  | _, [] => true
  | p, u :: r => okU p u && mayFrom u.1 r
def mayU (l : List Us) : Bool := mayFrom 0 l && decide (l.length ≤ 8)
def slu32 (xs : List (List PV)) (n : Nat) (p : Int) (i : Nat) : SL := [(0, .l false xs), (3, .i .i64 p), (4, .b false), (7, .l false xs), (8, .i .i64 n), (9, .i .i64 i)]
theorem w64n {i : Nat} (h : i < 1000000) : IntKind.i64.wrap ((i : Int) + 1) = ((i + 1 : Nat) : Int) := by rw [w64 (by omega) (by omega)]; omega
set_option maxHeartbeats 4000000 in
theorem stepu32 (N d : Nat) (g : SL → OB → Option R) (xs : List (List PV)) (n : Nat) (p : Int) (i : Nat) (u : Us) (hx : xs[i]? = some (uC u)) (hi : i < n) (hn : n < 1000000) (hp : 0 ≤ p ∧ p ≤ 255) :
    m37b2 (sem tab N (d + 1)) N [] g (slu32 xs n p i) [] = cond (okU p u) (g (slu32 xs n u.1 (i + 1)) []) (some (.b false, [])) := by
  obtain ⟨no, r, ks⟩ := u
  have h1 := fun a b c => U89 N d a b c
  have h2 := fun a => U38r N d a
  have w1 : IntKind.i64.wrap (p + 1) = p + 1 := w64 (by omega) (by omega)
  have w2 := w64n (i := i) (by omega)
  have hl := byL_len ks
  have ci : (i : Int) < n := by omega
  simp only [okU, uC] at hx ⊢
  rw [← hl]
  generalize byL ks = b at *
  cases b1 : inB no (p + 1) 255
  · simp -implicitDefEqProofs (maxSteps := 1000000) (disch := first | omega | rfl) [m37b2, slu32, hx, h1, w1, w2, ci, b1, KS, getS, getO, gS, dropW, takeW, wds, refs, refsL, noExt, ren, boxO, putW, -getElem?_pos]
  · cases b2 : roleB r
    · simp -implicitDefEqProofs (maxSteps := 1000000) (disch := first | omega | rfl) [m37b2, slu32, hx, h1, h2, w1, w2, ci, b1, b2, KS, getS, getO, gS, dropW, takeW, wds, refs, refsL, noExt, ren, boxO, putW, -getElem?_pos]
    · cases b3 : inB b.length 16 64
      · simp -implicitDefEqProofs (maxSteps := 1000000) (disch := first | omega | rfl) [m37b2, slu32, hx, h1, h2, w1, w2, ci, b1, b2, b3, KS, getS, getO, gS, dropW, takeW, wds, refs, refsL, noExt, ren, keepO, keepS, keysO, refsS, refsOB, headC, boxO, putW, -getElem?_pos]
      · simp -implicitDefEqProofs (maxSteps := 1000000) (disch := first | omega | rfl) [m37b2, slu32, hx, h1, h2, w1, w2, ci, b1, b2, b3, KS, getS, getO, gS, dropW, takeW, wds, refs, refsL, noExt, ren, keepO, keepS, keysO, refsS, refsOB, headC, boxO, putW, -getElem?_pos]
set_option maxHeartbeats 4000000 in
theorem endu32 (N d : Nat) (g : SL → OB → Option R) (xs : List (List PV)) (p : Int) : 
    m37b2 (sem tab N (d + 1)) N [] g (slu32 xs xs.length p xs.length) [] = some (.b (decide (xs.length ≤ 8)), []) := by
  have e : decide ((xs.length : Int) ≤ 8) = decide (xs.length ≤ 8) := by by_cases h : xs.length ≤ 8 <;> simp [h] <;> omega
  simp -implicitDefEqProofs (maxSteps := 1000000) (disch := first | omega | rfl) [m37b2, slu32, e, KS, getS, getO, gS, takeW, wds, refs, boxO, putW, -getElem?_pos]
theorem loopu32 (N d : Nat) (l : List Us) (hl : l.length < 1000000) : ∀ (k i e : Nat) (p : Int), i + k = l.length → 0 ≤ p ∧ p ≤ 255 →
    loopC (m37b2 (sem tab N (d + 1)) N []) (e + 1 + k) (slu32 (usL l) l.length p i) [] = some (.b (mayFrom p (l.drop i) && decide (l.length ≤ 8)), []) := by
  intro k
  induction k with
  | zero =>
    intro i e p h _
    have : i = l.length := by omega
    subst this
    have h2 := endu32 N d (loopC (m37b2 (sem tab N (d + 1)) N []) e) (usL l) p
    rw [usL_len] at h2
    rw [Nat.add_zero, k_loop, h2, List.drop_length]
    simp [mayFrom]
  | succ k ih =>
    intro i e p h hp
    have hi : i < l.length := by omega
    rw [← Nat.add_assoc, k_loop, stepu32 N d _ (usL l) l.length p i l[i] (usL_get l i hi) hi hl hp, List.drop_eq_getElem_cons hi, mayFrom]
    cases ho : okU p l[i]
    · simp
    · rw [cond_true, ih (i + 1) e _ (by omega) (by
        simp only [okU, inB, Bool.and_eq_true, decide_eq_true_eq] at ho
        omega)]
      simp
theorem U32 (N d : Nat) (l : List Us) (hl : l.length < 1000) : sem tab (N + 1000) (d + 2) 37 [.l false (usL l)] [] = some (.b (mayU l), []) := by
  rw [sem_succ tab (N + 1000) (d + 1) 37 m37 rfl]
  have h := loopu32 (N + 1000) d l (by omega) l.length 0 (N + 999 - l.length) 0 (by omega) (by omega)
  rw [show N + 999 - l.length + 1 + l.length = N + 1000 by omega, List.drop_zero] at h
  have hn := usL_len l
  rw [← hn] at h
  simp only [slu32, mayU] at h ⊢
  rw [← hn]
  generalize mayFrom 0 l = q at *
  rw [show ((0 : Nat) : Int) = 0 from rfl, k_loop] at h
  generalize usL l = a at *
  simp -implicitDefEqProofs (maxSteps := 1000000) (disch := first | omega | rfl) [m37, h, KS, getS, gS, zipN, refs, keepO, keepS, keysO, refsS, refsOB, headC, -getElem?_pos]
def slu30 (xs : List (List PV)) (i : Nat) : SL := [(0, .l false xs), (3, .i .i64 i)]
set_option maxHeartbeats 4000000 in
theorem stepu30 (N d : Nat) (g : SL → OB → Option R) (xs : List (List PV)) (p : Int) (i : Nat) (u : Us) (hx : xs[i]? = some (uC u)) (hi : i < xs.length) (hn : i < 10) (hp : 0 ≤ p ∧ p ≤ 255)
    (hb : i = 0 ∧ p = 0 ∨ 0 < i ∧ ∃ v : Us, xs[i - 1]? = some (uC v) ∧ v.1 = p) :
    m57b0 (sem tab N (d + 1)) N [] g (slu30 xs i) [] = cond (okU p u) (g (slu30 xs (i + 1)) []) (some (.b false, [])) := by
  obtain ⟨no, r, ks⟩ := u
  have h2 := fun a => U92 N d a
  have w2 := w64n (i := i) (by omega)
  have hl := byL_len ks
  have ci : (i : Int) < xs.length := by omega
  have ci2 : (i : Int) < 10 := by omega
  simp only [okU, uC] at hx ⊢
  rw [← hl]
  generalize byL ks = b at *
  cases b2 : roleB r
  · simp -implicitDefEqProofs (maxSteps := 1000000) (disch := first | omega | rfl) [m57b0, slu30, hx, h2, w2, ci, ci2, b2, KS, getS, gS, dropW, wds, refs, refsL, noExt, ren, keepO, keepS, keysO, refsS, refsOB, cntN, headC, -getElem?_pos]
  · by_cases c1 : no < 1
    · have e : inB no (p + 1) 255 = false := by simp only [inB]; rw [decide_eq_false (by omega)]; rfl
      simp -implicitDefEqProofs (maxSteps := 1000000) (disch := first | omega | rfl) [m57b0, slu30, hx, h2, w2, ci, ci2, b2, c1, e, KS, getS, gS, dropW, wds, refs, refsL, noExt, ren, keepO, keepS, keysO, refsS, refsOB, cntN, headC, -getElem?_pos]
    · by_cases c2 : no > 255
      · have e : inB no (p + 1) 255 = false := by simp only [inB]; rw [decide_eq_false (p := no ≤ 255) (by omega)]; simp
        have c2' : 255 < no := c2
        simp -implicitDefEqProofs (maxSteps := 1000000) (disch := first | omega | rfl) [m57b0, slu30, hx, h2, w2, ci, ci2, b2, c1, c2, e, KS, getS, gS, dropW, wds, refs, refsL, noExt, ren, keepO, keepS, keysO, refsS, refsOB, cntN, headC, -getElem?_pos]
      · have c2' : ¬ 255 < no := c2
        by_cases c3 : (b.length : Int) < 16
        · have e : inB b.length 16 64 = false := by simp only [inB]; rw [decide_eq_false (by omega)]; rfl
          simp -implicitDefEqProofs (maxSteps := 1000000) (disch := first | omega | rfl) [m57b0, slu30, hx, h2, w2, ci, ci2, b2, c1, c2, c3, e, KS, getS, gS, dropW, wds, refs, refsL, noExt, ren, keepO, keepS, keysO, refsS, refsOB, cntN, headC, -getElem?_pos]
        · by_cases c4 : (b.length : Int) > 64
          · have e : inB b.length 16 64 = false := by simp only [inB]; rw [decide_eq_false (p := (b.length : Int) ≤ 64) (by omega)]; simp
            have c4' : 64 < (b.length : Int) := c4
            simp -implicitDefEqProofs (maxSteps := 1000000) (disch := first | omega | rfl) [m57b0, slu30, hx, h2, w2, ci, ci2, b2, c1, c2, c3, c4, e, KS, getS, gS, dropW, wds, refs, refsL, noExt, ren, keepO, keepS, keysO, refsS, refsOB, cntN, headC, -getElem?_pos]
          · have c4' : ¬ 64 < (b.length : Int) := c4
            have e : inB b.length 16 64 = true := by simp only [inB, Bool.and_eq_true, decide_eq_true_eq]; omega
            rcases hb with ⟨rfl, rfl⟩ | ⟨h0, ⟨vn, vr, vk⟩, hv, rfl⟩
            · have e2 : inB no 1 255 = true := by simp only [inB, Bool.and_eq_true, decide_eq_true_eq]; omega
              have w2' : IntKind.i64.wrap (0 + 1) = 1 := by decide
              have w2'' : IntKind.i64.wrap 1 = 1 := by decide
              simp -implicitDefEqProofs (maxSteps := 1000000) (disch := first | omega | rfl) [m57b0, slu30, hx, h2, w2'', hi, b2, c1, c2, c3, c4, e, e2, KS, getS, gS, dropW, wds, refs, refsL, noExt, ren, keepO, keepS, keysO, refsS, refsOB, cntN, headC, -getElem?_pos]
            · simp only [uC] at hv
              generalize byL vk = b' at *
              have w3 : IntKind.i64.wrap ((i : Int) - 1) = ((i - 1 : Nat) : Int) := by rw [w64 (by omega) (by omega)]; omega
              have c0 : (i : Int) > 0 := by omega
              have c0' : 0 < i := h0
              by_cases c5 : no ≤ vn
              · have e2 : inB no (vn + 1) 255 = false := by simp only [inB]; rw [decide_eq_false (by omega)]; rfl
                simp -implicitDefEqProofs (maxSteps := 1000000) (disch := first | omega | rfl) [m57b0, slu30, hx, hv, h2, w2, w3, ci, ci2, b2, c0', c1, c2, c3, c4, c5, e, e2, KS, getS, gS, dropW, wds, refs, refsL, noExt, ren, keepO, keepS, keysO, refsS, refsOB, cntN, headC, -getElem?_pos]
              · have e2 : inB no (vn + 1) 255 = true := by simp only [inB, Bool.and_eq_true, decide_eq_true_eq]; omega
                simp -implicitDefEqProofs (maxSteps := 1000000) (disch := first | omega | rfl) [m57b0, slu30, hx, hv, h2, w2, w3, ci, ci2, b2, c0', c1, c2, c3, c4, c5, e, e2, KS, getS, gS, dropW, wds, refs, refsL, noExt, ren, keepO, keepS, keysO, refsS, refsOB, cntN, headC, -getElem?_pos]
set_option maxHeartbeats 4000000 in
theorem endu30 (N d : Nat) (g : SL → OB → Option R) (xs : List (List PV)) : m57b0 (sem tab N (d + 1)) N [] g (slu30 xs xs.length) [] = some (.b (decide (xs.length ≤ 8)), []) := by
  have e : decide ((xs.length : Int) ≤ 8) = decide (xs.length ≤ 8) := by by_cases h : xs.length ≤ 8 <;> simp [h] <;> omega
  simp -implicitDefEqProofs (maxSteps := 1000000) (disch := first | omega | rfl) [m57b0, slu30, e, KS, getS, gS, refs, -getElem?_pos]
theorem loopu30 (N d : Nat) (l : List Us) (hl : l.length ≤ 10) : ∀ (k i e : Nat) (p : Int), i + k = l.length → 0 ≤ p ∧ p ≤ 255 → (i = 0 ∧ p = 0 ∨ 0 < i ∧ ∃ v : Us, l[i - 1]? = some v ∧ v.1 = p) →
    loopC (m57b0 (sem tab N (d + 1)) N []) (e + 1 + k) (slu30 (usL l) i) [] = some (.b (mayFrom p (l.drop i) && decide (l.length ≤ 8)), []) := by
  intro k
  induction k with
  | zero =>
    intro i e p h _ _
    have : i = l.length := by omega
    subst this
    have h2 := endu30 N d (loopC (m57b0 (sem tab N (d + 1)) N []) e) (usL l)
    rw [usL_len] at h2
    rw [Nat.add_zero, k_loop, h2, List.drop_length]
    simp [mayFrom]
  | succ k ih =>
    intro i e p h hp hb
    have hi : i < l.length := by omega
    rw [← Nat.add_assoc, k_loop, stepu30 N d _ (usL l) p i l[i] (usL_get l i hi) (by rw [usL_len]; exact hi) (by omega) hp (hb.imp id (by
      rintro ⟨h1, v, h2, h3⟩
      exact ⟨h1, v, by rw [usL, List.getElem?_map, h2]; rfl, h3⟩)), List.drop_eq_getElem_cons hi, mayFrom]
    cases ho : okU p l[i]
    · simp
    · rw [cond_true, ih (i + 1) e _ (by omega) (by
        simp only [okU, inB, Bool.and_eq_true, decide_eq_true_eq] at ho
        omega) (.inr ⟨by omega, l[i], by simp [hi], rfl⟩)]
      simp
theorem U30u (N d : Nat) (l : List Us) (hl : l.length ≤ 10) : sem tab (N + 1000) (d + 2) 57 [.l false (usL l)] [] = some (.b (mayU l), []) := by
  rw [sem_succ tab (N + 1000) (d + 1) 57 m57 rfl]
  have h := loopu30 (N + 1000) d l (by omega) l.length 0 (N + 999 - l.length) 0 (by omega) (by omega) (.inl ⟨rfl, rfl⟩)
  rw [show N + 999 - l.length + 1 + l.length = N + 1000 by omega, List.drop_zero] at h
  have hn := usL_len l
  simp only [slu30, mayU] at h ⊢
  generalize mayFrom 0 l = q at *
  rw [show ((0 : Nat) : Int) = 0 from rfl, k_loop] at h
  generalize usL l = a at *
  simp -implicitDefEqProofs (maxSteps := 1000000) (disch := first | omega | rfl) [m57, h, KS, getS, gS, zipN, refs, keepO, keepS, keysO, refsS, refsOB, cntN, headC, -getElem?_pos]
def findU (l : List Us) (no : Int) : Int := if mayU l = true ∧ l.findIdx (fun u => u.1 == no) < l.length then (l.findIdx (fun u => u.1 == no) : Int) else -1
def slu35 (xs : List (List PV)) (no : Int) (b : Bool) (i : Nat) : SL := [(0, .l false xs), (1, .i .i64 no), (5, .b b), (6, .i .i64 i)]
set_option maxHeartbeats 4000000 in
theorem stepu35 (N d : Nat) (g : SL → OB → Option R) (xs : List (List PV)) (no : Int) (i : Nat) (u : Us) (hx : xs[i]? = some (uC u)) (hi : i < xs.length) (hn : xs.length < 1000000) :
    m46b0 (sem tab N d) N [] g (slu35 xs no true i) [] = cond (u.1 == no) (some (.i .i64 i, [])) (g (slu35 xs no true (i + 1)) []) := by
  obtain ⟨un, r, ks⟩ := u
  have w2 := w64n (i := i) (by omega)
  have ci : (i : Int) < xs.length := by omega
  simp only [uC] at hx ⊢
  generalize byL ks = b at *
  by_cases e : un = no
  · subst e
    simp -implicitDefEqProofs (maxSteps := 1000000) (disch := first | omega | rfl) [m46b0, slu35, hx, w2, ci, KS, getS, gS, dropW, wds, refs, keepO, keepS, keysO, refsS, refsOB, headC, -getElem?_pos]
  · have e' : (un == no) = false := by simpa using e
    simp -implicitDefEqProofs (maxSteps := 1000000) (disch := first | omega | rfl) [m46b0, slu35, hx, w2, ci, e', KS, getS, gS, dropW, wds, refs, keepO, keepS, keysO, refsS, refsOB, headC, -getElem?_pos]
set_option maxHeartbeats 4000000 in
theorem endu35 (N d : Nat) (g : SL → OB → Option R) (xs : List (List PV)) (no : Int) : m46b0 (sem tab N d) N [] g (slu35 xs no true xs.length) [] = some (.i .i64 (-1), []) := by
  simp -implicitDefEqProofs (maxSteps := 1000000) (disch := first | omega | rfl) [m46b0, slu35, KS, getS, gS, refs, keepO, keepS, keysO, refsS, refsOB, headC, -getElem?_pos]
set_option maxHeartbeats 4000000 in
theorem outu35 (N d : Nat) (g : SL → OB → Option R) (xs : List (List PV)) (no : Int) : m46b0 (sem tab N d) N [] g [(0, .l false xs), (1, .i .i64 no), (5, .b false), (6, .i .i64 0)] [] = some (.i .i64 (-1), []) := by
  by_cases c : 0 < xs.length <;> simp -implicitDefEqProofs (maxSteps := 1000000) (disch := first | omega | rfl) [m46b0, c, KS, getS, gS, refs, keepO, keepS, keysO, refsS, refsOB, headC, w64, -getElem?_pos]
theorem loopu35 (N d : Nat) (l : List Us) (no : Int) (hl : l.length < 1000) : ∀ (k i e : Nat), i + k = l.length →
    loopC (m46b0 (sem tab N d) N []) (e + 1 + k) (slu35 (usL l) no true i) [] = some (.i .i64 (if (l.drop i).findIdx (fun u => u.1 == no) < (l.drop i).length then ((i + (l.drop i).findIdx (fun u => u.1 == no) : Nat) : Int) else -1), []) := by
  intro k
  induction k with
  | zero =>
    intro i e h
    have : i = l.length := by omega
    subst this
    have h2 := endu35 N d (loopC (m46b0 (sem tab N d) N []) e) (usL l) no
    rw [usL_len] at h2
    rw [Nat.add_zero, k_loop, h2, List.drop_length]
    simp
  | succ k ih =>
    intro i e h
    have hi : i < l.length := by omega
    rw [← Nat.add_assoc, k_loop, stepu35 N d _ (usL l) no i l[i] (usL_get l i hi) (by rw [usL_len]; exact hi) (by rw [usL_len]; omega), List.drop_eq_getElem_cons hi, List.findIdx_cons]
    cases ho : (l[i].1 == no)
    · rw [cond_false, ih (i + 1) e (by omega)]
      simp only [cond_false, List.length_cons]
      by_cases c : (List.drop (i + 1) l).findIdx (fun u => u.1 == no) < (List.drop (i + 1) l).length
      · rw [if_pos c, if_pos (by omega)]; congr 3; omega
      · rw [if_neg c, if_neg (by omega)]
    · simp; omega
theorem U35u (N d : Nat) (l : List Us) (no : Int) (hl : l.length ≤ 10) : sem tab (N + 1000) (d + 3) 46 [.l false (usL l), .i .i64 no] [] = some (.i .i64 (findU l no), []) := by
  rw [sem_succ tab (N + 1000) (d + 2) 46 m46 rfl]
  have h30 := U30u N d l hl
  have h := loopu35 (N + 1000) (d + 2) l no (by omega) l.length 0 (N + 999 - l.length) (by omega)
  rw [show N + 999 - l.length + 1 + l.length = N + 1000 by omega, List.drop_zero, k_loop] at h
  have hn := usL_len l
  simp only [findU]
  cases hm : mayU l
  · rw [hm] at h30
    clear h
    have h := outu35 (N + 1000) (d + 2) (loopC (m46b0 (sem tab (N + 1000) (d + 2)) (N + 1000) []) (N + 999)) (usL l) no
    generalize usL l = a at *
    simp -implicitDefEqProofs (maxSteps := 1000000) (disch := first | omega | rfl) [m46, h30, h, KS, getS, gS, zipN, refs, refsL, noExt, ren, keepO, keepS, keysO, refsS, refsOB, cntN, headC, -getElem?_pos]
  · rw [hm] at h30
    simp only [slu35, Nat.zero_add] at h
    rw [show ((0 : Nat) : Int) = 0 from rfl] at h
    simp only [true_and]
    generalize l.findIdx (fun u => u.1 == no) = q at *
    rw [← hn] at h ⊢
    generalize usL l = a at *
    simp -implicitDefEqProofs (maxSteps := 1000000) (disch := first | omega | rfl) [m46, h30, h, KS, getS, gS, zipN, refs, refsL, noExt, ren, keepO, keepS, keysO, refsS, refsOB, cntN, headC, -getElem?_pos]
end
section
abbrev bxL (xs : List (List PV)) : Obj' := box [.l false xs] 1
abbrev bxI (n : Int) : Obj' := box [.i .i64 n] 1
set_option maxHeartbeats 4000000 in
theorem U97 (N d : Nat) (xs : List (List PV)) (u : Us) (i : Nat) (no : Int) (hx : xs[i]? = some (uC u)) : sem tab N (d + 1) 39 [.i .i64 i, .p 0 0 0 0 none, .p 1 0 0 0 none] [bxL xs, bxI no] = some (.b (decide (no ≤ u.1)), [bxL xs, bxI no]) := by
  rw [sem_succ tab N d 39 m39 rfl]
  obtain ⟨un, r, ks⟩ := u
  simp only [uC] at hx ⊢
  generalize byL ks = b at *
  have hf : ∀ (v : Bool), fin [(0, bxL xs), (1, bxI no)] 2 [0] [.b v] = some (.b v, [bxL xs, bxI no]) := by
    intro v
    rfl
  simp only [bxL, bxI, box] at hf ⊢
  simp -implicitDefEqProofs (maxSteps := 1000000) (disch := first | omega | rfl) [m39, hx, hf, KS, getS, getO, gS, zipN, dropW, wds, -getElem?_pos]
theorem k_cav97 (Φ : Sem') (n : Nat) (xs : List (List PV)) (no i : Int) (b : Bool)
    (h : Φ 39 [.i .i64 i, .p 0 0 0 0 none, .p 1 0 0 0 none] [bxL xs, bxI no] = some (.b b, [bxL xs, bxI no])) :
    cav Φ [(0, bxL xs), (1, bxI no)] n false (.fn 39 [] [.p 0 0 0 0 none, .p 1 0 0 0 none]) [.i .i64 i] = some (.b b, [(0, bxL xs), (1, bxI no)]) := by
  simp only [bxL, bxI, box] at h ⊢
  simp [cav, ca, hand, reifies, reify, reify0, refs, refsL, refsEls, refsO, reach, getO, getOs, idx, renL, ren, renEls, renO, h, back, putOs, newOs]
def slu96 (i j : Nat) : SL := [(1, .fn 39 [] [.p 0 0 0 0 none, .p 1 0 0 0 none]), (5, .i .i64 i), (6, .i .i64 j)]
theorem half (i j m : Nat) (h : i < 1000) (h' : j < 1000) (hm : m = (i + j) / 2) : IntKind.i64.wrap ((IntKind.u64.wrap ((i : Int) + j)).fdiv (2 ^ (min 1 IntKind.u64.bits))) = (m : Int) := by
  have : IntKind.u64.wrap ((i : Int) + j) = (i : Int) + j := by rw [IntKind.wrap_u64]; omega
  rw [this]
  have : ((i : Int) + j).fdiv (2 ^ (min 1 IntKind.u64.bits)) = (m : Int) := by
    show ((i : Int) + j).fdiv 2 = _
    rw [Int.fdiv_eq_ediv_of_nonneg _ (by omega)]
    omega
  rw [this]
  exact w64 (by omega) (by omega)
set_option maxHeartbeats 4000000 in
theorem stepu96 (N d : Nat) (g : SL → OB → Option R) (l : List Us) (no : Int) (i j m : Nat) (hij : i < j) (hj : j ≤ l.length) (hl : l.length < 1000) (hm : m = (i + j) / 2) (u : Us) (hu : l[m]? = some u) :
    m38b0 (sem tab N (d + 1)) N [bxL (usL l), bxI no] g (slu96 i j) [(0, bxL (usL l)), (1, bxI no)] = cond (decide (no ≤ u.1)) (g (slu96 i m) [(0, bxL (usL l)), (1, bxI no)]) (g (slu96 (m + 1) j) [(0, bxL (usL l)), (1, bxI no)]) := by
  have h1 := U97 N d (usL l) u m no (by rw [usL, List.getElem?_map, hu]; rfl)
  generalize decide (no ≤ u.1) = b at *
  have h2 := k_cav97 (sem tab N (d + 1)) 224 (usL l) no _ b h1
  have hh := half i j m (by omega) (by omega) hm
  have w2 := w64n (i := m) (by omega)
  have w1 : IntKind.i64.wrap ((i : Int) + j) = (i : Int) + j := w64 (by omega) (by omega)
  have ci : (i : Int) < j := by omega
  generalize usL l = a at *
  clear hu hm h1
  simp only [bxL, bxI, box] at h2 ⊢
  cases b
  · simp -implicitDefEqProofs (maxSteps := 1000000) (disch := first | omega | rfl) [m38b0, slu96, h2, hh, w1, w2, ci, KS, getS, getO, gS, refs, refsL, refsEls, refsO, keepO, keepS, keysO, refsS, refsOB, cntN, headC, -getElem?_pos]
  · simp -implicitDefEqProofs (maxSteps := 1000000) (disch := first | omega | rfl) [m38b0, slu96, h2, hh, w1, w2, ci, KS, getS, getO, gS, refs, refsL, refsEls, refsO, keepO, keepS, keysO, refsS, refsOB, cntN, headC, -getElem?_pos]
set_option maxHeartbeats 4000000 in
theorem endu96 (N d : Nat) (g : SL → OB → Option R) (xs : List (List PV)) (no : Int) (i : Nat) :
    m38b0 (sem tab N d) N [bxL xs, bxI no] g (slu96 i i) [(0, bxL xs), (1, bxI no)] = some (.i .i64 i, [bxL xs, bxI no]) := by
  have hf : ∀ (v : Int), fin [(0, bxL xs), (1, bxI no)] 2 [0] [.i .i64 v] = some (.i .i64 v, [bxL xs, bxI no]) := by
    intro v
    rfl
  simp only [bxL, bxI, box] at hf ⊢
  simp -implicitDefEqProofs (maxSteps := 1000000) (disch := first | omega | rfl) [m38b0, slu96, hf, KS, getS, gS, -getElem?_pos]
theorem loopu96 (N d : Nat) (l : List Us) (no : Int) (r : Nat) (hl : l.length < 1000) (hr : r ≤ l.length) (hp : ∀ k u, l[k]? = some u → decide (no ≤ u.1) = decide (r ≤ k)) : ∀ (n i j e : Nat), j - i ≤ n → i ≤ r → r ≤ j → j ≤ l.length →
    loopC (m38b0 (sem tab N (d + 1)) N [bxL (usL l), bxI no]) (e + 1 + n) (slu96 i j) [(0, bxL (usL l)), (1, bxI no)] = some (.i .i64 r, [bxL (usL l), bxI no]) := by
  intro n
  induction n with
  | zero =>
    intro i j e h1 h2 h3 h4
    obtain rfl : i = r := by omega
    obtain rfl : j = i := by omega
    rw [Nat.add_zero, k_loop, endu96]
  | succ n ih =>
    intro i j e h1 h2 h3 h4
    by_cases hij : i < j
    · have hm : (i + j) / 2 < l.length := by omega
      have hg : l[(i + j) / 2]? = some l[(i + j) / 2] := List.getElem?_eq_getElem hm
      rw [← Nat.add_assoc, k_loop, stepu96 N d _ l no i j _ hij h4 hl rfl _ hg, hp _ _ hg]
      by_cases c : r ≤ (i + j) / 2
      · rw [decide_eq_true c, cond_true]; exact ih i _ e (by omega) h2 c (by omega)
      · rw [decide_eq_false c, cond_false]; exact ih _ j e (by omega) (by omega) h3 h4
    · obtain rfl : i = r := by omega
      obtain rfl : j = i := by omega
      rw [← Nat.add_assoc, k_loop, endu96]
theorem U96 (N d : Nat) (l : List Us) (no : Int) (r : Nat) (hl : l.length < 1000) (hr : r ≤ l.length) (hp : ∀ k u, l[k]? = some u → decide (no ≤ u.1) = decide (r ≤ k)) :
    sem tab (N + 1001) (d + 2) 38 [.i .i64 l.length, .fn 39 [] [.p 0 0 0 0 none, .p 1 0 0 0 none]] [bxL (usL l), bxI no] = some (.i .i64 r, [bxL (usL l), bxI no]) := by
  rw [sem_succ tab (N + 1001) (d + 1) 38 m38 rfl]
  have h := loopu96 (N + 1001) d l no r hl hr hp 1000 0 l.length N (by omega) (by omega) hr (Nat.le_refl _)
  rw [show N + 1 + 1000 = N + 1001 by omega, k_loop] at h
  simp only [slu96, bxL, bxI, box] at h ⊢
  rw [show ((0 : Nat) : Int) = 0 from rfl] at h
  generalize usL l = a at *
  simp -implicitDefEqProofs (maxSteps := 1000000) (disch := first | omega | rfl) [m38, h, KS, getS, getO, gS, zipN, refs, refsL, refsEls, refsO, keepO, keepS, keysO, refsS, refsOB, cntN, headC, -getElem?_pos]
theorem may_sorted : ∀ (l : List Us) (p : Int), mayFrom p l = true → ∀ (k : Nat) (u : Us), l[k]? = some u → p < u.1 ∧ ∀ (m : Nat) (v : Us), m < k → l[m]? = some v → v.1 < u.1
  | [], p, _, k, u, h => by simp at h
  | x :: r, p, hm, k, u, h => by
    simp only [mayFrom, Bool.and_eq_true] at hm
    obtain ⟨h1, h2⟩ := hm
    have hx : p < x.1 := by
      simp only [okU, inB, Bool.and_eq_true, decide_eq_true_eq] at h1
      omega
    cases k with
    | zero =>
      simp at h; subst h
      exact ⟨hx, fun m v hm => by omega⟩
    | succ k =>
      obtain ⟨g1, g2⟩ := may_sorted r x.1 h2 k u (by simpa using h)
      refine ⟨by omega, fun m v hm hv => ?_⟩
      cases m with
      | zero => simp at hv; subst hv; exact g1
      | succ m => exact g2 m v (by omega) (by simpa using hv)
def cntU (l : List Us) (no : Int) : Nat := l.findIdx (fun u => decide (no ≤ u.1))
theorem cnt_le (l : List Us) (no : Int) : cntU l no ≤ l.length := List.findIdx_le_length
theorem cnt_spec {l : List Us} (no : Int) (hm : mayFrom 0 l = true) : ∀ k u, l[k]? = some u → decide (no ≤ u.1) = decide (cntU l no ≤ k) := by
  intro k u hk
  obtain ⟨hlt, hk'⟩ := List.getElem?_eq_some_iff.1 hk
  rw [Bool.eq_iff_iff]
  simp only [decide_eq_true_eq]
  constructor
  · intro h
    by_cases c : cntU l no ≤ k
    · exact c
    · have := List.not_of_lt_findIdx (xs := l) (p := fun u => decide (no ≤ u.1)) (i := k) (by unfold cntU at c; omega)
      simp only [hk', decide_eq_false_iff_not] at this
      exact absurd h this
  · intro h
    have hc : cntU l no < l.length := by omega
    have hc' : l.findIdx (fun u => decide (no ≤ u.1)) < l.length := hc
    have h1 := List.findIdx_getElem (xs := l) (p := fun u => decide (no ≤ u.1)) (w := hc')
    simp only [decide_eq_true_eq] at h1
    rcases Nat.lt_or_eq_of_le h with h2 | h2
    · have := (may_sorted l 0 hm k u hk).2 _ _ h2 (List.getElem?_eq_getElem hc)
      exact Int.le_of_lt (Int.lt_of_le_of_lt h1 this)
    · have e : l[l.findIdx (fun u => decide (no ≤ u.1))]'hc = u := by
        rw [← hk']; congr 1
      rw [← e]; exact h1
theorem find_cnt {l : List Us} (no : Int) (hm : mayFrom 0 l = true) : (∃ u, l[cntU l no]? = some u ∧ u.1 = no) ∧ l.findIdx (fun u => u.1 == no) = cntU l no ∨ (∀ u, l[cntU l no]? = some u → u.1 ≠ no) ∧ ¬ l.findIdx (fun u => u.1 == no) < l.length := by
  by_cases h : ∃ u, l[cntU l no]? = some u ∧ u.1 = no
  · obtain ⟨u, hu, he⟩ := h
    refine .inl ⟨⟨u, hu, he⟩, ?_⟩
    obtain ⟨hlt, hu'⟩ := List.getElem?_eq_some_iff.1 hu
    rw [List.findIdx_eq hlt]
    refine ⟨by rw [hu']; simp [he], fun j hj => ?_⟩
    have hjl : j < l.length := by omega
    have := (may_sorted l 0 hm _ u hu).2 j _ hj (List.getElem?_eq_getElem hjl)
    simp only [beq_eq_false_iff_ne]
    omega
  · refine .inr ⟨fun u hu he => h ⟨u, hu, he⟩, fun hlt => ?_⟩
    have h1 := List.findIdx_getElem (xs := l) (p := fun u => u.1 == no) (w := hlt)
    simp only [beq_iff_eq] at h1
    generalize hk : l.findIdx (fun u => u.1 == no) = k at *
    have hg : l[k]? = some l[k] := List.getElem?_eq_getElem hlt
    have hs := cnt_spec no hm k _ hg
    rw [decide_eq_true (by omega)] at hs
    have hc := of_decide_eq_true hs.symm
    rcases Nat.lt_or_eq_of_le hc with h2 | h2
    · have hcl : cntU l no < l.length := by omega
      have h3 := (may_sorted l 0 hm k _ hg).2 _ _ h2 (List.getElem?_eq_getElem hcl)
      have h4 := cnt_spec no hm _ _ (List.getElem?_eq_getElem hcl)
      rw [decide_eq_true (Nat.le_refl _)] at h4
      have := of_decide_eq_true h4
      omega
    · exact h ⟨l[k], by rw [h2]; exact hg, h1⟩
theorem k_ca96 (Φ : Sem') (xs : List (List PV)) (no r : Int) (n : Nat)
    (h : Φ 38 [.i .i64 n, .fn 39 [] [.p 0 0 0 0 none, .p 1 0 0 0 none]] [bxL xs, bxI no] = some (.i .i64 r, [bxL xs, bxI no])) :
    ca Φ [(88, bxI no), (80, bxL xs)] 160 false 38 [.i .i64 n, .fn 39 [] [.p 80 0 0 0 none, .p 88 0 0 0 none]] = some (.i .i64 r, [(80, bxL xs), (88, bxI no)]) := by
  simp only [bxL, bxI, box] at h ⊢
  simp [ca, hand, reifies, reify, reify0, refs, refsL, refsEls, refsO, reach, getO, getOs, idx, renL, ren, renEls, renO, h, back, putOs, newOs]
set_option maxHeartbeats 8000000 in
theorem U34u (N d : Nat) (l : List Us) (no : Int) (hl : l.length < 1000) : sem tab (N + 1001) (d + 3) 21 [.l false (usL l), .i .i64 no] [] = some (.i .i64 (findU l no), []) := by
  rw [sem_succ tab (N + 1001) (d + 2) 21 m21 rfl]
  have h32 := U32 (N + 1) d l hl
  rw [show N + 1 + 1000 = N + 1001 by omega] at h32
  cases hm : mayU l
  · rw [hm] at h32
    have hf : findU l no = -1 := by simp [findU, hm]
    rw [hf]
    generalize usL l = a at *
    simp -implicitDefEqProofs (maxSteps := 1000000) (disch := first | omega | rfl) [m21, h32, KS, getS, getO, gS, zipN, dropW, wds, refs, refsL, noExt, ren, boxO, -getElem?_pos]
  · rw [hm] at h32
    have hm' : mayFrom 0 l = true := by simp only [mayU, Bool.and_eq_true] at hm; exact hm.1
    have h96 := U96 N d l no (cntU l no) hl (cnt_le l no) (cnt_spec no hm')
    have k96 := k_ca96 (sem tab (N + 1001) (d + 2)) (usL l) no _ _ h96
    have hn := usL_len l
    have hc := cnt_le l no
    rcases find_cnt no hm' with ⟨⟨u, hu, he⟩, hi⟩ | ⟨hu, hi⟩
    · have hlt := (List.getElem?_eq_some_iff.1 hu).1
      have hx : (usL l)[cntU l no]? = some (uC u) := by rw [usL, List.getElem?_map, hu]; rfl
      have hf : findU l no = cntU l no := by simp only [findU, hm, hi]; simp only [true_and]; rw [if_pos hlt]
      rw [hf]
      obtain ⟨un, ur, uk⟩ := u
      simp only at he
      subst he
      simp only [uC] at hx
      clear hu hi hf h96
      generalize byL uk = b at *
      rw [← hn] at hlt hc k96
      generalize cntU l un = r at *
      generalize usL l = a at *
      have e1 : ((r : Int) == (a.length : Int)) = false := by simp; omega
      have c1 : (r : Int) < a.length := by omega
      simp only [bxL, bxI, box] at k96
      simp -implicitDefEqProofs (maxSteps := 1000000) (disch := first | omega | rfl) [m21, h32, k96, hx, e1, KS, getS, getO, gS, zipN, dropW, wds, refs, refsL, noExt, ren, boxO, -getElem?_pos]
    · have hf : findU l no = -1 := by simp only [findU, hm]; rw [if_neg (fun h => hi h.2)]
      rw [hf]
      by_cases hlt : cntU l no < l.length
      · have hg : l[cntU l no]? = some l[cntU l no] := List.getElem?_eq_getElem hlt
        have hne := hu _ hg
        have hx : (usL l)[cntU l no]? = some (uC l[cntU l no]) := usL_get l _ hlt
        generalize l[cntU l no] = u at *
        obtain ⟨un, ur, uk⟩ := u
        simp only [uC] at hx hne
        clear hu hi hf h96 hg
        generalize byL uk = b at *
        rw [← hn] at hlt hc k96
        generalize cntU l no = r at *
        generalize usL l = a at *
        have e1 : ((r : Int) == (a.length : Int)) = false := by simp; omega
        have e2 : (un != no) = true := by simpa using hne
        have c1 : (r : Int) < a.length := by omega
        simp only [bxL, bxI, box] at k96
        simp -implicitDefEqProofs (maxSteps := 1000000) (disch := first | omega | rfl) [m21, h32, k96, hx, e1, e2, KS, getS, getO, gS, zipN, dropW, wds, refs, refsL, noExt, ren, boxO, -getElem?_pos]
      · have er : cntU l no = l.length := by omega
        rw [er, ← hn] at k96
        clear hu hi hf h96 hc hlt er
        generalize usL l = a at *
        simp only [bxL, bxI, box] at k96
        simp -implicitDefEqProofs (maxSteps := 1000000) (disch := first | omega | rfl) [m21, h32, k96, KS, getS, getO, gS, zipN, dropW, wds, refs, refsL, noExt, ren, boxO, -getElem?_pos]
end
section
def roleU (l : List Us) (no : Int) : Int := match l[(findU l no).toNat]? with
  | some u => if findU l no = -1 then -1 else u.2.1
  | none => -1
theorem find_cases (l : List Us) (no : Int) : findU l no = -1 ∧ roleU l no = -1 ∨ ∃ k u, findU l no = (k : Nat) ∧ l[k]? = some u ∧ u.1 = no ∧ mayU l = true ∧ roleU l no = u.2.1 := by
  by_cases h : mayU l = true ∧ l.findIdx (fun u => u.1 == no) < l.length
  · have hf : findU l no = (l.findIdx (fun u => u.1 == no) : Nat) := by simp only [findU]; rw [if_pos h]
    have h1 := List.findIdx_getElem (xs := l) (p := fun u => u.1 == no) (w := h.2)
    simp only [beq_iff_eq] at h1
    refine .inr ⟨_, _, hf, List.getElem?_eq_getElem h.2, h1, h.1, ?_⟩
    unfold roleU
    rw [hf, Int.toNat_natCast, List.getElem?_eq_getElem h.2]
    simp only
    rw [if_neg (by omega)]
  · have hf : findU l no = -1 := by simp only [findU]; rw [if_neg h]
    refine .inl ⟨hf, ?_⟩
    unfold roleU
    rw [hf]
    split <;> simp
set_option maxHeartbeats 4000000 in
theorem U36u (N d : Nat) (l : List Us) (no : Int) (hl : l.length < 1000) : sem tab (N + 1001) (d + 4) 22 [.l false (usL l), .i .i64 no] [] = some (.i .i64 (roleU l no), []) := by
  rw [sem_succ tab (N + 1001) (d + 3) 22 m22 rfl]
  have h34 := U34u N d l no hl
  have hn := usL_len l
  rcases find_cases l no with ⟨h1, h2⟩ | ⟨k, u, h1, h2, _, _, h3⟩
  · rw [h1] at h34
    rw [h2]
    generalize usL l = a at *
    simp -implicitDefEqProofs (maxSteps := 1000000) (disch := first | omega | rfl) [m22, h34, KS, getS, gS, zipN, refs, refsL, noExt, ren, -getElem?_pos]
  · rw [h1] at h34
    rw [h3]
    have hx : (usL l)[k]? = some (uC u) := by rw [usL, List.getElem?_map, h2]; rfl
    have hk := (List.getElem?_eq_some_iff.1 h2).1
    obtain ⟨un, ur, uk⟩ := u
    simp only [uC] at hx ⊢
    generalize byL uk = b at *
    have c1 : (k : Int) < (usL l).length := by omega
    have e1 : ((k : Int) == -1) = false := by rw [beq_eq_false_iff_ne]; omega
    generalize usL l = a at *
    simp -implicitDefEqProofs (maxSteps := 1000000) (disch := first | omega | rfl) [m22, h34, hx, e1, KS, getS, gS, zipN, dropW, wds, refs, refsL, noExt, ren, -getElem?_pos]
set_option maxHeartbeats 4000000 in
theorem U37u (N d : Nat) (l : List Us) (no : Int) (hl : l.length ≤ 10) : sem tab (N + 1000) (d + 4) 30 [.l false (usL l), .i .i64 no] [] = some (.i .i64 (roleU l no), []) := by
  rw [sem_succ tab (N + 1000) (d + 3) 30 m30 rfl]
  have h34 := U35u N d l no hl
  have hn := usL_len l
  rcases find_cases l no with ⟨h1, h2⟩ | ⟨k, u, h1, h2, _, _, h3⟩
  · rw [h1] at h34
    rw [h2]
    generalize usL l = a at *
    simp -implicitDefEqProofs (maxSteps := 1000000) (disch := first | omega | rfl) [m30, h34, KS, getS, gS, zipN, refs, refsL, noExt, ren, -getElem?_pos]
  · rw [h1] at h34
    rw [h3]
    have hx : (usL l)[k]? = some (uC u) := by rw [usL, List.getElem?_map, h2]; rfl
    have hk := (List.getElem?_eq_some_iff.1 h2).1
    obtain ⟨un, ur, uk⟩ := u
    simp only [uC] at hx ⊢
    generalize byL uk = b at *
    have c1 : (k : Int) < (usL l).length := by omega
    have e1 : ¬ ((k : Int) < 0) := by omega
    generalize usL l = a at *
    simp -implicitDefEqProofs (maxSteps := 1000000) (disch := first | omega | rfl) [m30, h34, hx, e1, KS, getS, gS, zipN, dropW, wds, refs, refsL, noExt, ren, -getElem?_pos]
theorem dec_cons {α : Type} [DecidableEq α] (x y : α) (r s : List α) : decide (x :: r = y :: s) = (decide (x = y) && decide (r = s)) := by
  rw [Bool.eq_iff_iff]; simp
def slu95 (a b : List (List PV)) (n i : Nat) : SL := [(0, .l false a), (1, .l false b), (12, .i .i64 n), (13, .i .i64 i)]
theorem byL_getI (xs : List Int) (i : Nat) (h : i < xs.length) : (byL xs)[i]? = some [.i .u8 xs[i]] := by simp [byL, h]
set_option maxHeartbeats 4000000 in
theorem stepu95 (N d : Nat) (g : SL → OB → Option R) (a b : List (List PV)) (n i : Nat) (x y : Int) (hx : a[i]? = some [.i .u8 x]) (hy : b[i]? = some [.i .u8 y]) (hi : i < n) (hn : n < 1000000) :
    m36b0 (sem tab N d) N [] g (slu95 a b n i) [] = cond (x == y) (g (slu95 a b n (i + 1)) []) (some (.b false, [])) := by
  have w2 := w64n (i := i) (by omega)
  have ci : (i : Int) < n := by omega
  by_cases e : x = y
  · subst e
    simp -implicitDefEqProofs (maxSteps := 1000000) (disch := first | omega | rfl) [m36b0, slu95, hx, hy, w2, ci, KS, getS, gS, wds, refs, keepO, keepS, keysO, refsS, refsOB, headC, -getElem?_pos]
  · have e' : (x == y) = false := by simpa using e
    have e2 : (x != y) = true := by simpa using e
    simp -implicitDefEqProofs (maxSteps := 1000000) (disch := first | omega | rfl) [m36b0, slu95, hx, hy, w2, ci, e', e2, KS, getS, gS, wds, refs, keepO, keepS, keysO, refsS, refsOB, headC, -getElem?_pos]
set_option maxHeartbeats 4000000 in
theorem endu95 (N d : Nat) (g : SL → OB → Option R) (a b : List (List PV)) (n : Nat) : m36b0 (sem tab N d) N [] g (slu95 a b n n) [] = some (.b true, []) := by
  simp -implicitDefEqProofs (maxSteps := 1000000) (disch := first | omega | rfl) [m36b0, slu95, KS, getS, gS, refs, keepO, keepS, keysO, refsS, refsOB, headC, -getElem?_pos]
theorem loopu95 (N d : Nat) (xs ys : List Int) (he : xs.length = ys.length) (hl : xs.length < 1000000) : ∀ (k i e : Nat), i + k = xs.length →
    loopC (m36b0 (sem tab N d) N []) (e + 1 + k) (slu95 (byL xs) (byL ys) xs.length i) [] = some (.b (decide (xs.drop i = ys.drop i)), []) := by
  intro k
  induction k with
  | zero =>
    intro i e h
    have : i = xs.length := by omega
    subst this
    rw [Nat.add_zero, k_loop, endu95, List.drop_length, he, List.drop_length]; rfl
  | succ k ih =>
    intro i e h
    have hi : i < xs.length := by omega
    have hi' : i < ys.length := by omega
    have q1 := List.drop_eq_getElem_cons hi
    have q2 := List.drop_eq_getElem_cons hi'
    rw [← Nat.add_assoc, k_loop, stepu95 N d _ (byL xs) (byL ys) xs.length i _ _ (byL_getI xs i hi) (byL_getI ys i hi') hi hl, q1, q2]
    by_cases ho : xs[i] = ys[i]
    · rw [show (xs[i] == ys[i]) = true by simpa using ho, cond_true, ih (i + 1) e (by omega), dec_cons, decide_eq_true ho, Bool.true_and]
    · rw [show (xs[i] == ys[i]) = false by simpa using ho, cond_false, dec_cons, decide_eq_false ho, Bool.false_and]
theorem U95 (N d : Nat) (xs ys : List Int) (hl : xs.length < 1000) : sem tab (N + 1000) (d + 1) 36 [.l false (byL xs), .l false (byL ys)] [] = some (.b (decide (xs = ys)), []) := by
  rw [sem_succ tab (N + 1000) d 36 m36 rfl]
  have hx := byL_len xs
  have hy := byL_len ys
  by_cases he : xs.length = ys.length
  · have h := loopu95 (N + 1000) d xs ys he (by omega) xs.length 0 (N + 999 - xs.length) (by omega)
    rw [show N + 999 - xs.length + 1 + xs.length = N + 1000 by omega, k_loop] at h
    simp only [slu95, List.drop_zero] at h
    rw [show ((0 : Nat) : Int) = 0 from rfl] at h
    generalize decide (xs = ys) = q at *
    rw [← hx] at h
    rw [← hx, ← hy] at he
    generalize byL xs = a at *
    generalize byL ys = b at *
    have e1 : (((a.length : Nat) : Int) != ((b.length : Nat) : Int)) = false := by simp [he]
    simp -implicitDefEqProofs (maxSteps := 1000000) (disch := first | omega | rfl) [m36, h, e1, KS, getS, gS, zipN, refs, keepO, keepS, keysO, refsS, refsOB, headC, -getElem?_pos]
  · have hd : decide (xs = ys) = false := decide_eq_false (fun e => he (by rw [e]))
    rw [hd]
    rw [← hx, ← hy] at he
    generalize byL xs = a at *
    generalize byL ys = b at *
    have e1 : (((a.length : Nat) : Int) != ((b.length : Nat) : Int)) = true := by simp; omega
    simp -implicitDefEqProofs (maxSteps := 1000000) (disch := first | omega | rfl) [m36, e1, KS, getS, gS, zipN, refs, keepO, keepS, keysO, refsS, refsOB, headC, -getElem?_pos]
end
section
def be : Nat → Int → List Int
  | 0, _ => []
  | k + 1, n => be k (n / 256) ++ [n % 256]
theorem be_len : ∀ (k : Nat) (n : Int), (be k n).length = k
  | 0, _ => rfl
  | k + 1, n => by simp [be, be_len k]
theorem be_range : ∀ (k : Nat) (n : Int), ∀ x ∈ be k n, 0 ≤ x ∧ x ≤ 255
  | 0, _, x, h => by simp [be] at h
  | k + 1, n, x, h => by
    simp only [be, List.mem_append, List.mem_singleton] at h
    rcases h with h | h
    · exact be_range k _ x h
    · omega
theorem w8m (n : Int) : IntKind.u8.wrap n = n % 256 := by rw [IntKind.wrap_u8]
theorem shr8 (n : Int) (h : 0 ≤ n) : n.fdiv (2 ^ (min 8 IntKind.u64.bits)) = n / 256 := by
  show n.fdiv 256 = _
  rw [Int.fdiv_eq_ediv_of_nonneg _ (by omega)]
def rowK (t : List (List PV)) (k : Nat) : Obj' := { els := t, w := 1, pu := true, g := true, cap := some k, ver := 0, fro := false }
def slu98 (k : Nat) (n i : Int) : SL := [(0, .i .u64 n), (6, .sl 248 0 0 k), (7, .i .i64 i)]
set_option maxHeartbeats 4000000 in
theorem stepu98 (N d : Nat) (g : SL → OB → Option R) (t : List (List PV)) (k i : Nat) (n : Int) (hi : i + 1 < k) (hk : k ≤ 8) (ht : t.length = k) (hv : t[i + 1]? = some [.i .u8 0]) (hn : 0 ≤ n) :
    m65j0 (sem tab N d) N [] g (slu98 k n (i + 1 : Nat)) [(248, rowK t k)] = g (slu98 k (n / 256) i) [(248, rowK (t.set (i + 1) [.i .u8 (n % 256)]) k)] := by
  have e := w8m n
  have e2 := shr8 n hn
  have w1 : IntKind.i64.wrap (((i : Int) + 1) - 1) = i := by rw [w64 (by omega) (by omega)]; omega
  have w1' : IntKind.i64.wrap (i : Int) = i := w64 (by omega) (by omega)
  have c1 : 0 ≤ (i : Int) + 1 := by omega
  have c2 : (i : Int) + 1 < k := by omega
  have c3 : ((i : Int) + 1).toNat = i + 1 := by omega
  subst ht
  simp -implicitDefEqProofs (maxSteps := 1000000) (disch := first | omega | rfl) [m65j0, slu98, rowK, e, e2, w1', c1, c2, c3, hv, KS, getS, getO, gS, dropW, takeW, wds, sea, refs, refsO, keepO, keepS, keysO, refsS, refsOB, cntN, headC, putW, -getElem?_pos]
set_option maxHeartbeats 4000000 in
theorem endu98 (N d : Nat) (g : SL → OB → Option R) (t : List (List PV)) (k : Nat) (n : Int) (h0 : 0 < k) (hk : k ≤ 8) (ht : t.length = k) (hv : t[0]? = some [.i .u8 0]) (hn : 0 ≤ n) :
    m65j0 (sem tab N d) N [] g (slu98 k n 0) [(248, rowK t k)] = some (.tup [.sl 0 0 0 k, .b true], [row (t.set 0 [.i .u8 (n % 256)]) 1 true]) := by
  have e := w8m n
  have e2 := shr8 n hn
  have c2 : (0 : Int) < k := by omega
  subst ht
  have tk : ∀ v, List.take t.length (t.set 0 v) = t.set 0 v := fun v => List.take_of_length_le (by simp)
  simp -implicitDefEqProofs (maxSteps := 1000000) (disch := first | omega | rfl) [m65j0, slu98, rowK, e, e2, h0, tk, hv, KS, getS, getO, gS, dropW, takeW, wds, sea, refs, cntN, row, putW, w64, -getElem?_pos]
theorem set_end (z : List (List PV)) (i : Nat) (v : List PV) (hz : z.length = i) (w : List PV) (r : List (List PV)) : (z ++ w :: r).set i v = z ++ v :: r := by
  subst hz; simp
theorem loopu98 (N d : Nat) (k : Nat) (hk : k ≤ 8) : ∀ (i e : Nat) (n : Int) (r : List Int), i + 1 + r.length = k → 0 ≤ n →
    loopC (m65j0 (sem tab N d) N []) (e + 1 + i) (slu98 k n i) [(248, rowK (byL (List.replicate (i + 1) 0) ++ byL r) k)] = some (.tup [.sl 0 0 0 k, .b true], [row (byL (be (i + 1) n ++ r)) 1 true]) := by
  intro i
  induction i with
  | zero =>
    intro e n r h hn
    rw [Nat.add_zero, k_loop]
    have := endu98 N d (loopC (m65j0 (sem tab N d) N []) e) (byL (List.replicate (0 + 1) 0) ++ byL r) k n (by omega) hk (by simp [byL]; omega) (by simp [byL]) hn
    rw [show ((0 : Nat) : Int) = 0 from rfl, this]
    simp [be, byL]
  | succ i ih =>
    intro e n r h hn
    rw [← Nat.add_assoc, k_loop, stepu98 N d _ _ k i n (by omega) hk (by simp [byL]; omega) (by rw [List.getElem?_append_left (by simp [byL])]; simp [byL]) hn]
    have h1 : (byL (List.replicate (i + 1 + 1) 0) ++ byL r).set (i + 1) [.i .u8 (n % 256)] = byL (List.replicate (i + 1) 0) ++ byL ((n % 256) :: r) := by
      rw [show byL (List.replicate (i + 1 + 1) 0) ++ byL r = byL (List.replicate (i + 1) 0) ++ [.i .u8 0] :: byL r by rw [List.replicate_succ' (n := i + 1)]; simp [byL]]
      rw [set_end _ _ _ (by simp [byL])]
      rfl
    rw [h1, ih e (n / 256) ((n % 256) :: r) (by simp; omega) (by omega)]
    simp [be, byL]
theorem U146 (N d : Nat) (k : Int) : sem tab N (d + 1) 50 [.i .i64 k] [] = some (.b (inB k 1 8), []) := by
  rw [sem_succ tab N d 50 m50 rfl]
  by_cases h : 1 ≤ k <;> simp -implicitDefEqProofs (disch := first | omega | rfl) [m50, inB, h, KS, getS, gS, zipN, refs, -getElem?_pos]
def fitsB (n : Int) (k : Nat) : Bool := k == 8 || (n / 256 ^ k == 0)
theorem shrk (n : Int) (k : Nat) (h : 0 ≤ n) (hk : k < 8) : n.fdiv (2 ^ (min (8 * (k : Int)).toNat IntKind.u64.bits)) = n / 256 ^ k := by
  have e : min (8 * (k : Int)).toNat IntKind.u64.bits = 8 * k := by
    show min (8 * (k : Int)).toNat 64 = 8 * k
    omega
  have e3 : (2 : Int) ^ (8 * k) = 256 ^ k := (by decide : ∀ k < 8, (2 : Int) ^ (8 * k) = 256 ^ k) k hk
  have e4 : (0 : Int) ≤ 256 ^ k := (by decide : ∀ k < 8, (0 : Int) ≤ 256 ^ k) k hk
  rw [e, e3, Int.fdiv_eq_ediv_of_nonneg _ e4]
theorem k_mksK (k : Nat) (hk : k ≤ 8) (o : Nat) : mks [] o [.i .u8 0] (.i .i64 (k : Int)) = some (.sl o 0 0 k, [(o, rowK (byL (List.replicate k 0)) k)]) := by
  have h : (k : Int) ≤ 4294967296 := by omega
  simp [mks, newX, getO, isPures, isPure, zps, zp, wds, wd, rowK, two32, byL, h]
set_option maxHeartbeats 8000000 in
theorem U98 (N d : Nat) (n : Int) (k : Nat) (h0 : 1 ≤ k) (hk : k ≤ 8) (hn : 0 ≤ n) : sem tab (N + 100) (d + 2) 65 [.i .u64 n, .i .i64 k] [] = cond (fitsB n k) (some (.tup [.sl 0 0 0 k, .b true], [row (byL (be k n)) 1 true])) (some (.tup [.sl 0 0 0 0, .b false], [row [] 1 true])) := by
  rw [sem_succ tab (N + 100) (d + 1) 65 m65 rfl]
  have h146 := U146 (N + 100) d k
  have b1 : inB k 1 8 = true := by simp only [inB, Bool.and_eq_true, decide_eq_true_eq]; omega
  rw [b1] at h146
  have km := k_mksK k hk 248
  have zl : (byL (List.replicate k 0)).length = k := by simp [byL]
  have zv : ∀ i, i < k → (byL (List.replicate k 0))[i]? = some [.i .u8 0] := fun i hi => by simp [byL, hi]
  have e := w8m n
  have e2 := shr8 n hn
  have w8 : IntKind.i64.wrap (8 * (k : Int)) = 8 * k := w64 (by omega) (by omega)
  have c8 : ¬ (8 * (k : Int) < 0) := by omega
  have look : ∀ P : Bool → Prop, (k = 8 → P true) → (k < 8 → (n / 256 ^ k == 0) = true → P true) → (k < 8 → (n / 256 ^ k == 0) = false → P false) → P (fitsB n k) := by
    intro P h1 h2 h3
    unfold fitsB
    by_cases e8 : k = 8
    · rw [show (k == 8) = true by simpa using e8]; exact h1 e8
    · rw [show (k == 8) = false by simpa using e8, Bool.false_or]
      cases hq : (n / 256 ^ k == 0)
      · exact h3 (by omega) hq
      · exact h2 (by omega) hq
  have no : k < 8 → (n / 256 ^ k == 0) = false → m65 (sem tab (N + 100) (d + 1)) (N + 100) [.i .u64 n, .i .i64 k] [] = some (.tup [.sl 0 0 0 0, .b false], [row [] 1 true]) := by
    intro h8 hq
    have c : (k : Int) < 8 := by omega
    have hs := shrk n k hn h8
    have hq' : (n / 256 ^ k != 0) = true := by simpa using hq
    generalize n / 256 ^ k = q at *
    simp -implicitDefEqProofs (maxSteps := 1000000) (disch := first | omega | rfl) [m65, h146, c, w8, c8, hs, hq', KS, getS, gS, zipN, refs, refsL, noExt, ren, row, w64, -getElem?_pos]
  have yes : k = 8 ∨ (k < 8 ∧ (n / 256 ^ k == 0) = true) → m65 (sem tab (N + 100) (d + 1)) (N + 100) [.i .u64 n, .i .i64 k] [] = some (.tup [.sl 0 0 0 k, .b true], [row (byL (be k n)) 1 true]) := by
    intro h8
    by_cases k1 : k = 1
    · subst k1
      have hs := shrk n 1 hn (by omega)
      have hq' : (n / 256 ^ 1 != 0) = false := by
        rcases h8 with h8 | h8
        · omega
        · simpa using h8.2
      generalize n / 256 ^ 1 = q at *
      have hz : byL (be 1 n) = [[.i .u8 (n % 256)]] := by simp [be, byL]
      rw [hz]
      simp only [show byL (List.replicate 1 0) = [[PV.i .u8 0]] from rfl] at km
      have hs' : n.fdiv (2 ^ min 8 IntKind.u64.bits) = q := hs
      have w1 : IntKind.i64.wrap (1 - 1) = 0 := by decide
      have w2 : IntKind.i64.wrap (0 - 1) = -1 := by decide
      have w3 : IntKind.i64.wrap (8 * 1) = 8 := by decide
      simp only [show ((1 : Nat) : Int) = 1 from rfl] at *
      simp -implicitDefEqProofs (maxSteps := 1000000) (disch := first | omega | rfl) [m65, h146, km, rowK, hs', hq', e, KS, getS, getO, gS, zipN, dropW, takeW, wds, sea, refs, refsL, noExt, ren, cntN, row, putW, w64, -getElem?_pos]
    · obtain ⟨i, hi⟩ : ∃ i, k = i + 2 := ⟨k - 2, by omega⟩
      have h := loopu98 (N + 100) (d + 1) k hk i (N + 99 - i) (n / 256) [n % 256] (by simp; omega) (by omega)
      rw [show N + 99 - i + 1 + i = N + 100 by omega, k_loop] at h
      have hb : be k n = be (i + 1) (n / 256) ++ [n % 256] := by rw [hi]; rfl
      rw [hb]
      have hset : (byL (List.replicate k 0)).set (i + 1) [.i .u8 (n % 256)] = byL (List.replicate (i + 1) 0) ++ byL [n % 256] := by
        rw [hi, List.replicate_succ' (n := i + 1)]
        simp only [byL, List.map_append, List.map_cons, List.map_nil]
        rw [set_end _ _ _ (by simp)]
      rw [← hset] at h
      have zi := zv (i + 1) (by omega)
      generalize byL (be (i + 1) (n / 256) ++ [n % 256]) = res at *
      generalize byL (List.replicate k 0) = z at *
      have w1 : IntKind.i64.wrap ((k : Int) - 1) = (i : Int) + 1 := by rw [w64 (by omega) (by omega)]; omega
      have w2 : IntKind.i64.wrap ((i : Int) + 1 - 1) = i := by rw [w64 (by omega) (by omega)]; omega
      have w2' : IntKind.i64.wrap (i : Int) = i := w64 (by omega) (by omega)
      have c1 : 0 ≤ (i : Int) + 1 := by omega
      have c2 : (i : Int) + 1 < k := by omega
      have c3 : ((i : Int) + 1).toNat = i + 1 := by omega
      clear zv look no hset hb
      simp only [slu98, rowK] at h km
      rcases h8 with h8 | ⟨h8, hq⟩
      · have c : ¬ ((k : Int) < 8) := by omega
        simp -implicitDefEqProofs (maxSteps := 1000000) (disch := first | omega | rfl) [m65, h146, km, h, c, w1, w2', c1, c2, c3, zl, zi, e, e2, KS, getS, getO, gS, zipN, dropW, takeW, wds, refs, refsL, refsO, noExt, ren, keepO, keepS, keysO, refsS, refsOB, cntN, headC, row, putW, -getElem?_pos]
      · have c : (k : Int) < 8 := by omega
        have hs := shrk n k hn h8
        have hq' : (n / 256 ^ k != 0) = false := by simpa using hq
        generalize n / 256 ^ k = q at *
        simp -implicitDefEqProofs (maxSteps := 1000000) (disch := first | omega | rfl) [m65, h146, km, h, c, w8, c8, hs, hq', w1, w2', c1, c2, c3, zl, zi, e, e2, KS, getS, getO, gS, zipN, dropW, takeW, wds, refs, refsL, refsO, noExt, ren, keepO, keepS, keysO, refsS, refsOB, cntN, headC, row, putW, -getElem?_pos]
  exact look (fun q => m65 (sem tab (N + 100) (d + 1)) (N + 100) [.i .u64 n, .i .i64 k] [] = cond q (some (.tup [.sl 0 0 0 k, .b true], [row (byL (be k n)) 1 true])) (some (.tup [.sl 0 0 0 0, .b false], [row [] 1 true]))) (fun h => yes (.inl h)) (fun h h' => yes (.inr ⟨h, h'⟩)) no
end
section
def slu145 (k : Nat) (n i : Int) : SL := [(0, .i .u64 n), (6, .sl 184 0 0 k), (7, .i .i64 i)]
set_option maxHeartbeats 4000000 in
theorem stepu145 (N d : Nat) (g : SL → OB → Option R) (t : List (List PV)) (k j : Nat) (n : Int) (hj : j < k) (hk : k ≤ 8) (ht : t.length = k) (hv : t[j]? = some [.i .u8 0]) (hn : 0 ≤ n ∧ n ≤ 18446744073709551615) :
    m73b0 (sem tab N d) N [] g (slu145 k n j) [(184, rowK t k)] = g (slu145 k (n / 256) ((j : Int) - 1)) [(184, rowK (t.set j [.i .u8 (n % 256)]) k)] := by
  have e : IntKind.u8.wrap (n.tmod 256) = n % 256 := by rw [IntKind.wrap_u8, Int.tmod_eq_emod_of_nonneg hn.1]; omega
  have e2 : IntKind.u64.wrap (n.tdiv 256) = n / 256 := by rw [IntKind.wrap_u64, Int.tdiv_eq_ediv_of_nonneg hn.1]; omega
  have w1 : IntKind.i64.wrap ((j : Int) - 1) = (j : Int) - 1 := w64 (by omega) (by omega)
  have c1 : 0 ≤ (j : Int) := by omega
  have c2 : (j : Int) < k := by omega
  subst ht
  simp -implicitDefEqProofs (maxSteps := 1000000) (disch := first | omega | rfl) [m73b0, slu145, rowK, e, e2, w1, c1, c2, hv, KS, getS, getO, gS, dropW, takeW, wds, refs, refsO, keepO, keepS, keysO, refsS, refsOB, cntN, headC, row, putW, -getElem?_pos]
set_option maxHeartbeats 4000000 in
theorem endu145 (N d : Nat) (g : SL → OB → Option R) (t : List (List PV)) (k : Nat) (n : Int) (ht : t.length = k) (hk : 0 < k) :
    m73b0 (sem tab N d) N [] g (slu145 k n (-1)) [(184, rowK t k)] = cond (n == 0) (some (.tup [.sl 0 0 0 k, .b true], [row t 1 true])) (some (.tup [.sl 0 0 0 0, .b false], [row [] 1 true])) := by
  subst ht
  have tk : List.take t.length t = t := List.take_length
  by_cases c : n = 0
  · subst c
    simp -implicitDefEqProofs (maxSteps := 1000000) (disch := first | omega | rfl) [m73b0, slu145, rowK, tk, KS, getS, getO, gS, refs, cntN, row, w64, -getElem?_pos]
  · have c' : (n == 0) = false := by simpa using c
    have c2 : (n != 0) = true := by simpa using c
    simp -implicitDefEqProofs (maxSteps := 1000000) (disch := first | omega | rfl) [m73b0, slu145, rowK, tk, c', c2, KS, getS, getO, gS, refs, cntN, row, w64, -getElem?_pos]
theorem loopu145 (N d : Nat) (k : Nat) (hk : 0 < k ∧ k ≤ 8) : ∀ (j e : Nat) (n : Int) (r : List Int), j + r.length = k → 0 ≤ n ∧ n ≤ 18446744073709551615 →
    loopC (m73b0 (sem tab N d) N []) (e + 1 + j) (slu145 k n ((j : Int) - 1)) [(184, rowK (byL (List.replicate j 0) ++ byL r) k)] = cond (n / 256 ^ j == 0) (some (.tup [.sl 0 0 0 k, .b true], [row (byL (be j n ++ r)) 1 true])) (some (.tup [.sl 0 0 0 0, .b false], [row [] 1 true])) := by
  intro j
  induction j with
  | zero =>
    intro e n r h hn
    rw [Nat.add_zero, k_loop]
    have := endu145 N d (loopC (m73b0 (sem tab N d) N []) e) (byL (List.replicate 0 0) ++ byL r) k n (by simp [byL]; omega) hk.1
    rw [show ((0 : Nat) : Int) - 1 = -1 from rfl, this]
    simp [be, byL]
  | succ j ih =>
    intro e n r h hn
    have h1 : (byL (List.replicate (j + 1) 0) ++ byL r).set j [.i .u8 (n % 256)] = byL (List.replicate j 0) ++ byL ((n % 256) :: r) := by
      rw [show byL (List.replicate (j + 1) 0) ++ byL r = byL (List.replicate j 0) ++ [.i .u8 0] :: byL r by rw [List.replicate_succ' (n := j)]; simp [byL]]
      rw [set_end _ _ _ (by simp [byL])]
      rfl
    have hp : (0 : Int) ≤ 256 ^ j := by exact Int.pow_nonneg (by omega)
    rw [← Nat.add_assoc, k_loop, show (((j + 1 : Nat) : Int) - 1) = (j : Int) by omega, stepu145 N d _ _ k j n (by omega) hk.2 (by simp [byL]; omega) (by rw [List.getElem?_append_left (by simp [byL])]; simp [byL]) hn, h1, ih e (n / 256) ((n % 256) :: r) (by simp; omega) (by omega)]
    rw [Int.ediv_ediv, if_neg (by omega), Int.sub_zero, show (256 : Int) * 256 ^ j = 256 ^ (j + 1) by rw [Int.pow_succ, Int.mul_comm]]
    simp [be]
theorem fits8 (n : Int) (k : Nat) (hk : k ≤ 8) (hn : 0 ≤ n ∧ n ≤ 18446744073709551615) : (n / 256 ^ k == 0) = fitsB n k := by
  unfold fitsB
  by_cases e8 : k = 8
  · subst e8
    have : n / 256 ^ 8 = 0 := Int.ediv_eq_zero_of_lt hn.1 (by omega)
    rw [this]; rfl
  · rw [show (k == 8) = false by simpa using e8, Bool.false_or]
set_option maxHeartbeats 8000000 in
theorem U145 (N d : Nat) (n : Int) (k : Nat) (h0 : 1 ≤ k) (hk : k ≤ 8) (hn : 0 ≤ n ∧ n ≤ 18446744073709551615) : sem tab (N + 100) (d + 1) 73 [.i .u64 n, .i .i64 k] [] = cond (fitsB n k) (some (.tup [.sl 0 0 0 k, .b true], [row (byL (be k n)) 1 true])) (some (.tup [.sl 0 0 0 0, .b false], [row [] 1 true])) := by
  rw [sem_succ tab (N + 100) d 73 m73 rfl]
  have h := loopu145 (N + 100) d k ⟨h0, hk⟩ k (N + 99 - k) n [] (by simp) hn
  rw [show N + 99 - k + 1 + k = N + 100 by omega, k_loop, List.append_nil, fits8 n k hk hn] at h
  have km := k_mksK k hk 184
  simp only [show byL [] = [] from rfl, List.append_nil] at h
  have w1 : IntKind.i64.wrap ((k : Int) - 1) = (k : Int) - 1 := w64 (by omega) (by omega)
  have c1 : ¬ ((k : Int) < 1) := by omega
  have c2 : ¬ ((k : Int) > 8) := by omega
  have c2' : ¬ (8 < (k : Int)) := by omega
  generalize byL (be k n) = r at *
  generalize byL (List.replicate k 0) = z at *
  generalize fitsB n k = q at *
  simp only [slu145, rowK] at h km
  simp -implicitDefEqProofs (maxSteps := 1000000) (disch := first | omega | rfl) [m73, km, h, w1, c1, c2, KS, getS, getO, gS, zipN, refs, refsO, keepO, keepS, keysO, refsS, refsOB, cntN, headC, row, -getElem?_pos]
def nuL (l : List (Int × Nat)) : List (List PV) := l.map fun x => [.i .u64 x.1, .i .i64 x.2]
theorem nuL_len (l : List (Int × Nat)) : (nuL l).length = l.length := by simp [nuL]
theorem nuL_get (l : List (Int × Nat)) (i : Nat) (h : i < l.length) : (nuL l)[i]? = some [.i .u64 l[i].1, .i .i64 l[i].2] := by simp [nuL, h]
def catB : List (Int × Nat) → List Int
  | [] => []
  | x :: r => be x.2 x.1 ++ catB r
theorem catB_range : ∀ (l : List (Int × Nat)), ∀ x ∈ catB l, 0 ≤ x ∧ x ≤ 255
  | [], x, h => by simp [catB] at h
  | y :: r, x, h => by
    simp only [catB, List.mem_append] at h
    rcases h with h | h
    · exact be_range _ _ x h
    · exact catB_range r x h
def fitAll : List (Int × Nat) → Bool
  | [] => true
  | x :: r => fitsB x.1 x.2 && fitAll r
def okNu (x : Int × Nat) : Prop := 1 ≤ x.2 ∧ x.2 ≤ 8 ∧ 0 ≤ x.1 ∧ x.1 ≤ 18446744073709551615
def slu39 (ys : List (List PV)) (t : Nat) (n i : Nat) : SL := [(4, .sl 103 0 0 t), (12, .l false ys), (13, .i .i64 n), (14, .i .i64 i)]
set_option maxHeartbeats 8000000 in
theorem stepu39 (N d : Nat) (g : SL → OB → Option R) (ys : List (List PV)) (t : List (List PV)) (n i : Nat) (x : Int × Nat) (hx : ys[i]? = some [.i .u64 x.1, .i .i64 x.2]) (hi : i < n) (hn : n ≤ 40) (ho : okNu x) (ht : t.length ≤ 100000) :
    m56b0 (sem tab (N + 100) (d + 2)) (N + 100) [] g (slu39 ys t.length n i) [(103, row t 1 true)] = cond (fitsB x.1 x.2) (g (slu39 ys (t ++ byL (be x.2 x.1)).length n (i + 1)) [(103, row (t ++ byL (be x.2 x.1)) 1 true)]) (some (.tup [.sl 0 0 0 0, .b false], [row [] 1 true])) := by
  obtain ⟨v, k⟩ := x
  obtain ⟨o1, o2, o3, o4⟩ := ho
  have h98 := U98 N d v k o1 o2 o3
  have hl := be_len k v
  have hl2 := byL_len (be k v)
  have fl := flat_by (be k v)
  have al := allW_by (be k v)
  rw [hl] at hl2
  simp only at hx h98 ⊢ o1 o2
  generalize byL (be k v) = b at *
  have w2 := w64n (i := i) (by omega)
  have ci : (i : Int) < n := by omega
  have tt : List.take k b = b := List.take_of_length_le (by omega)
  have t2 : List.take t.length t = t := List.take_length
  have e0 : t.length + k ≤ 4294967296 := by omega
  have e1 : ¬ (t.length + k ≤ t.length) := by omega
  have e3 : (t ++ b).length = t.length + k := by simp [hl2]
  have e4 : List.take (t.length + k) (t ++ b) = t ++ b := List.take_of_length_le (by omega)
  have e5 : b.length ≤ 4294967296 := by omega
  cases q : fitsB v k
  · rw [q] at h98
    simp -implicitDefEqProofs (maxSteps := 1000000) (disch := first | omega | rfl) [m56b0, slu39, hx, h98, w2, ci, KS, getS, getO, gS, dropW, takeW, wds, refs, refsL, noExt, noExts, ren, renL, cntN, boxO, row, putW, newOs, renO, noExtO, -getElem?_pos]
  · rw [q] at h98
    simp -implicitDefEqProofs (maxSteps := 1000000) (disch := first | omega | rfl) [m56b0, slu39, hx, h98, w2, ci, tt, t2, e0, e1, e3, fl, al, hl2, KS, getS, getO, gS, dropW, takeW, wds, refs, refsL, noExt, noExts, ren, renL, keepO, keepS, keysO, refsS, refsOB, cntN, headC, setS, boxO, row, putW, newOs, renO, noExtO, two32, -getElem?_pos]
set_option maxHeartbeats 4000000 in
theorem endu39 (N d : Nat) (g : SL → OB → Option R) (ys t : List (List PV)) (n : Nat) : m56b0 (sem tab N d) N [] g (slu39 ys t.length n n) [(103, row t 1 true)] = some (.tup [.sl 0 0 0 t.length, .b true], [row t 1 true]) := by
  have t2 : List.take t.length t = t := List.take_length
  simp -implicitDefEqProofs (maxSteps := 1000000) (disch := first | omega | rfl) [m56b0, slu39, t2, KS, getS, getO, gS, takeW, wds, refs, cntN, boxO, row, putW, -getElem?_pos]
theorem loopu39 (N d : Nat) (l : List (Int × Nat)) (hl : l.length ≤ 40) (ho : ∀ x ∈ l, okNu x) : ∀ (k i e : Nat) (t : List (List PV)), i + k = l.length → t.length ≤ 8 * i →
    loopC (m56b0 (sem tab (N + 100) (d + 2)) (N + 100) []) (e + 1 + k) (slu39 (nuL l) t.length l.length i) [(103, row t 1 true)] = cond (fitAll (l.drop i)) (some (.tup [.sl 0 0 0 (t ++ byL (catB (l.drop i))).length, .b true], [row (t ++ byL (catB (l.drop i))) 1 true])) (some (.tup [.sl 0 0 0 0, .b false], [row [] 1 true])) := by
  intro k
  induction k with
  | zero =>
    intro i e t h ht
    have : i = l.length := by omega
    subst this
    rw [Nat.add_zero, k_loop, endu39, List.drop_length]
    simp [fitAll, catB, byL]
  | succ k ih =>
    intro i e t h ht
    have hi : i < l.length := by omega
    have q1 := List.drop_eq_getElem_cons hi
    have hx := ho _ (List.getElem_mem hi)
    rw [← Nat.add_assoc, k_loop, stepu39 N d _ (nuL l) t l.length i l[i] (nuL_get l i hi) hi hl hx (by omega), q1, fitAll, catB]
    cases q : fitsB l[i].1 l[i].2
    · rfl
    · rw [cond_true, ih (i + 1) e _ (by omega) (by rw [List.length_append, byL_len, be_len]; have := hx.2.1; omega), Bool.true_and]
      have e1 : t ++ byL (be l[i].2 l[i].1) ++ byL (catB (List.drop (i + 1) l)) = t ++ byL (be l[i].2 l[i].1 ++ catB (List.drop (i + 1) l)) := by simp [byL]
      rw [e1]
theorem U39c (N d : Nat) (l : List (Int × Nat)) (hl : l.length ≤ 40) (ho : ∀ x ∈ l, okNu x) : sem tab (N + 100) (d + 3) 56 [.l false (nuL l)] [] = cond (fitAll l) (some (.tup [.sl 0 0 0 (catB l).length, .b true], [row (byL (catB l)) 1 true])) (some (.tup [.sl 0 0 0 0, .b false], [row [] 1 true])) := by
  rw [sem_succ tab (N + 100) (d + 2) 56 m56 rfl]
  have h := loopu39 N d l hl ho l.length 0 (N + 99 - l.length) [] (by omega) (by simp)
  rw [show N + 99 - l.length + 1 + l.length = N + 100 by omega, k_loop, List.drop_zero, List.nil_append, byL_len] at h
  have hn := nuL_len l
  have c1 : ¬ ((l.length : Int) > 40) := by omega
  have c1' : ¬ (40 < (l.length : Int)) := by omega
  rw [← hn] at c1 c1' h
  simp only [slu39, row, List.length_nil] at h
  rw [show ((0 : Nat) : Int) = 0 from rfl] at h
  generalize nuL l = a at *
  generalize byL (catB l) = r at *
  generalize (catB l).length = q at *
  generalize fitAll l = z at *
  simp -implicitDefEqProofs (maxSteps := 1000000) (disch := first | omega | rfl) [m56, h, c1, KS, getS, getO, gS, zipN, refs, keepO, keepS, keysO, refsS, refsOB, cntN, headC, setS, row, -getElem?_pos]
def slu90 (ys : List (List PV)) (t : Nat) (i : Nat) : SL := [(0, .l false ys), (4, .sl 103 0 0 t), (5, .i .i64 i)]
set_option maxHeartbeats 8000000 in
theorem stepu90 (N d : Nat) (g : SL → OB → Option R) (ys : List (List PV)) (t : List (List PV)) (i : Nat) (x : Int × Nat) (hx : ys[i]? = some [.i .u64 x.1, .i .i64 x.2]) (hi : i < ys.length) (hn : ys.length ≤ 40) (ho : okNu x) (ht : t.length ≤ 100000) :
    m71b0 (sem tab (N + 100) (d + 2)) (N + 100) [] g (slu90 ys t.length i) [(103, row t 1 true)] = cond (fitsB x.1 x.2) (g (slu90 ys (t ++ byL (be x.2 x.1)).length (i + 1)) [(103, row (t ++ byL (be x.2 x.1)) 1 true)]) (some (.tup [.sl 0 0 0 0, .b false], [row [] 1 true])) := by
  obtain ⟨v, k⟩ := x
  obtain ⟨o1, o2, o3⟩ := ho
  have h98 := U145 N (d + 1) v k o1 o2 o3
  have hl := be_len k v
  have hl2 := byL_len (be k v)
  have fl := flat_by (be k v)
  have al := allW_by (be k v)
  rw [hl] at hl2
  simp only at hx h98 ⊢ o1 o2
  generalize byL (be k v) = b at *
  have w2 := w64n (i := i) (by omega)
  have ci : (i : Int) < ys.length := by omega
  have tt : List.take k b = b := List.take_of_length_le (by omega)
  have t2 : List.take t.length t = t := List.take_length
  have e0 : t.length + k ≤ 4294967296 := by omega
  have e1 : ¬ (t.length + k ≤ t.length) := by omega
  have e3 : (t ++ b).length = t.length + k := by simp [hl2]
  have e4 : List.take (t.length + k) (t ++ b) = t ++ b := List.take_of_length_le (by omega)
  have e5 : b.length ≤ 4294967296 := by omega
  cases q : fitsB v k
  · rw [q] at h98
    simp -implicitDefEqProofs (maxSteps := 1000000) (disch := first | omega | rfl) [m71b0, slu90, hx, h98, w2, ci, KS, getS, getO, gS, dropW, wds, refs, refsL, noExt, noExts, ren, renL, cntN, row, newOs, renO, noExtO, -getElem?_pos]
  · rw [q] at h98
    simp -implicitDefEqProofs (maxSteps := 1000000) (disch := first | omega | rfl) [m71b0, slu90, hx, h98, w2, ci, tt, t2, e0, e1, e3, fl, al, hl2, KS, getS, getO, gS, dropW, wds, refs, refsL, noExt, noExts, ren, renL, keepO, keepS, keysO, refsS, refsOB, cntN, headC, setS, row, newOs, renO, noExtO, two32, -getElem?_pos]
set_option maxHeartbeats 4000000 in
theorem endu90 (N d : Nat) (g : SL → OB → Option R) (ys t : List (List PV)) : m71b0 (sem tab N d) N [] g (slu90 ys t.length ys.length) [(103, row t 1 true)] = some (.tup [.sl 0 0 0 t.length, .b true], [row t 1 true]) := by
  have t2 : List.take t.length t = t := List.take_length
  simp -implicitDefEqProofs (maxSteps := 1000000) (disch := first | omega | rfl) [m71b0, slu90, t2, KS, getS, getO, gS, refs, cntN, row, -getElem?_pos]
theorem loopu90 (N d : Nat) (l : List (Int × Nat)) (hl : l.length ≤ 40) (ho : ∀ x ∈ l, okNu x) : ∀ (k i e : Nat) (t : List (List PV)), i + k = l.length → t.length ≤ 8 * i →
    loopC (m71b0 (sem tab (N + 100) (d + 2)) (N + 100) []) (e + 1 + k) (slu90 (nuL l) t.length i) [(103, row t 1 true)] = cond (fitAll (l.drop i)) (some (.tup [.sl 0 0 0 (t ++ byL (catB (l.drop i))).length, .b true], [row (t ++ byL (catB (l.drop i))) 1 true])) (some (.tup [.sl 0 0 0 0, .b false], [row [] 1 true])) := by
  intro k
  have hn := nuL_len l
  induction k with
  | zero =>
    intro i e t h ht
    have : i = l.length := by omega
    subst this
    have h2 := endu90 (N + 100) (d + 2) (loopC (m71b0 (sem tab (N + 100) (d + 2)) (N + 100) []) e) (nuL l) t
    rw [hn] at h2
    rw [Nat.add_zero, k_loop, h2, List.drop_length]
    simp [fitAll, catB, byL]
  | succ k ih =>
    intro i e t h ht
    have hi : i < l.length := by omega
    have q1 := List.drop_eq_getElem_cons hi
    have hx := ho _ (List.getElem_mem hi)
    rw [← Nat.add_assoc, k_loop, stepu90 N d _ (nuL l) t i l[i] (nuL_get l i hi) (by omega) (by omega) hx (by omega), q1, fitAll, catB]
    cases q : fitsB l[i].1 l[i].2
    · rfl
    · rw [cond_true, ih (i + 1) e _ (by omega) (by rw [List.length_append, byL_len, be_len]; have := hx.2.1; omega), Bool.true_and]
      have e1 : t ++ byL (be l[i].2 l[i].1) ++ byL (catB (List.drop (i + 1) l)) = t ++ byL (be l[i].2 l[i].1 ++ catB (List.drop (i + 1) l)) := by simp [byL]
      rw [e1]
theorem U90c (N d : Nat) (l : List (Int × Nat)) (hl : l.length ≤ 40) (ho : ∀ x ∈ l, okNu x) : sem tab (N + 100) (d + 3) 71 [.l false (nuL l)] [] = cond (fitAll l) (some (.tup [.sl 0 0 0 (catB l).length, .b true], [row (byL (catB l)) 1 true])) (some (.tup [.sl 0 0 0 0, .b false], [row [] 1 true])) := by
  rw [sem_succ tab (N + 100) (d + 2) 71 m71 rfl]
  have h := loopu90 N d l hl ho l.length 0 (N + 99 - l.length) [] (by omega) (by simp)
  rw [show N + 99 - l.length + 1 + l.length = N + 100 by omega, k_loop, List.drop_zero, List.nil_append, byL_len] at h
  have hn := nuL_len l
  have c1 : ¬ ((l.length : Int) > 40) := by omega
  have c1' : ¬ (40 < (l.length : Int)) := by omega
  rw [← hn] at c1 c1'
  simp only [slu90, row, List.length_nil] at h
  rw [show ((0 : Nat) : Int) = 0 from rfl] at h
  generalize nuL l = a at *
  generalize byL (catB l) = r at *
  generalize (catB l).length = q at *
  generalize fitAll l = z at *
  simp -implicitDefEqProofs (maxSteps := 1000000) (disch := first | omega | rfl) [m71, h, c1, KS, getS, getO, gS, zipN, refs, keepO, keepS, keysO, refsS, refsOB, cntN, headC, setS, row, -getElem?_pos]
end
section
def fewU (l : List Us) : Bool := decide (l.length ≤ 10) && l.all fun u => decide (u.2.2.length ≤ 100)
def slu27 (xs : List (List PV)) (i : Nat) : SL := [(0, .l false xs), (3, .i .i64 i)]
set_option maxHeartbeats 4000000 in
theorem stepu27 (N d : Nat) (g : SL → OB → Option R) (xs : List (List PV)) (i : Nat) (u : Us) (hx : xs[i]? = some (uC u)) (hi : i < xs.length) (hn : i ≤ 10) :
    m10b0 (sem tab N d) N [] g (slu27 xs i) [] = cond (decide (u.2.2.length ≤ 100)) (g (slu27 xs (i + 1)) []) (some (.b false, [])) := by
  obtain ⟨no, r, ks⟩ := u
  have w2 := w64n (i := i) (by omega)
  have ci : (i : Int) < xs.length := by omega
  have cj : (i : Int) ≤ 10 := by omega
  have hl := byL_len ks
  simp only [uC] at hx ⊢
  rw [← hl]
  generalize byL ks = b at *
  by_cases c : b.length ≤ 100
  · have c1 : ¬ ((b.length : Int) > 100) := by omega
    have c1' : ¬ (100 < (b.length : Int)) := by omega
    simp -implicitDefEqProofs (maxSteps := 1000000) (disch := first | omega | rfl) [m10b0, slu27, hx, w2, ci, cj, c, c1, KS, getS, gS, dropW, wds, refs, keepO, keepS, keysO, refsS, refsOB, headC, -getElem?_pos]
  · have c1 : (b.length : Int) > 100 := by omega
    have c1' : 100 < (b.length : Int) := by omega
    simp -implicitDefEqProofs (maxSteps := 1000000) (disch := first | omega | rfl) [m10b0, slu27, hx, w2, ci, cj, c, c1, KS, getS, gS, dropW, wds, refs, keepO, keepS, keysO, refsS, refsOB, headC, -getElem?_pos]
set_option maxHeartbeats 4000000 in
theorem endu27 (N d : Nat) (g : SL → OB → Option R) (xs : List (List PV)) (h : xs.length ≤ 10) : m10b0 (sem tab N d) N [] g (slu27 xs xs.length) [] = some (.b true, []) := by
  have e : (xs.length : Int) ≤ 10 := by omega
  simp -implicitDefEqProofs (maxSteps := 1000000) (disch := first | omega | rfl) [m10b0, slu27, e, KS, getS, gS, refs, keepO, keepS, keysO, refsS, refsOB, headC, w64, -getElem?_pos]
set_option maxHeartbeats 4000000 in
theorem endu27b (N d : Nat) (g : SL → OB → Option R) (xs : List (List PV)) (h : 11 < xs.length) : m10b0 (sem tab N d) N [] g (slu27 xs 11) [] = some (.b false, []) := by
  have e : ¬ (xs.length : Int) ≤ 10 := by omega
  have e2 : (11 : Int) < xs.length := by omega
  simp -implicitDefEqProofs (maxSteps := 1000000) (disch := first | omega | rfl) [m10b0, slu27, e, e2, KS, getS, gS, refs, keepO, keepS, keysO, refsS, refsOB, headC, w64, -getElem?_pos]
set_option maxHeartbeats 4000000 in
theorem endu27c (N d : Nat) (g : SL → OB → Option R) (xs : List (List PV)) (h : xs.length = 11) : m10b0 (sem tab N d) N [] g (slu27 xs 11) [] = some (.b false, []) := by
  simp -implicitDefEqProofs (maxSteps := 1000000) (disch := first | omega | rfl) [m10b0, slu27, h, KS, getS, gS, refs, keepO, keepS, keysO, refsS, refsOB, headC, w64, -getElem?_pos]
theorem loopu27 (N d : Nat) (l : List Us) : ∀ (k i e : Nat), i + k = min l.length 11 →
    loopC (m10b0 (sem tab N d) N []) (e + 1 + k) (slu27 (usL l) i) [] = some (.b (decide (l.length ≤ 10) && ((l.take 11).drop i).all fun u => decide (u.2.2.length ≤ 100)), []) := by
  intro k
  have hn := usL_len l
  induction k with
  | zero =>
    intro i e h
    rw [Nat.add_zero, k_loop]
    have hd : ((l.take 11).drop i) = [] := List.drop_of_length_le (by simp; omega)
    rw [hd]
    rcases Nat.lt_trichotomy l.length 11 with c | c | c
    · obtain rfl : i = (usL l).length := by omega
      rw [endu27 _ _ _ _ (by omega)]
      simp; omega
    · obtain rfl : i = 11 := by omega
      rw [endu27c _ _ _ _ (by omega)]
      simp; omega
    · obtain rfl : i = 11 := by omega
      rw [endu27b _ _ _ _ (by omega)]
      simp; omega
  | succ k ih =>
    intro i e h
    have hi : i < l.length := by omega
    have hi2 : i < (l.take 11).length := by simp; omega
    have q1 := List.drop_eq_getElem_cons hi2
    rw [← Nat.add_assoc, k_loop, stepu27 N d _ (usL l) i l[i] (usL_get l i hi) (by omega) (by omega), q1, List.all_cons, List.getElem_take]
    by_cases c : l[i].2.2.length ≤ 100
    · rw [decide_eq_true c, cond_true, ih (i + 1) e (by omega), Bool.true_and]
    · rw [decide_eq_false c]
      simp
theorem few_take (l : List Us) : (decide (l.length ≤ 10) && (l.take 11).all fun u => decide (u.2.2.length ≤ 100)) = fewU l := by
  unfold fewU
  by_cases h : l.length ≤ 10
  · rw [List.take_of_length_le (by omega)]
  · rw [decide_eq_false h]; simp
theorem U27 (N d : Nat) (l : List Us) : sem tab (N + 1000) (d + 1) 10 [.l false (usL l)] [] = some (.b (fewU l), []) := by
  rw [sem_succ tab (N + 1000) d 10 m10 rfl]
  have h := loopu27 (N + 1000) d l (min l.length 11) 0 (N + 999 - min l.length 11) (by omega)
  rw [show N + 999 - min l.length 11 + 1 + min l.length 11 = N + 1000 by omega, k_loop, List.drop_zero, few_take] at h
  simp only [slu27] at h
  rw [show ((0 : Nat) : Int) = 0 from rfl] at h
  generalize usL l = a at *
  generalize fewU l = q at *
  simp -implicitDefEqProofs (maxSteps := 1000000) (disch := first | omega | rfl) [m10, h, KS, getS, gS, zipN, refs, keepO, keepS, keysO, refsS, refsOB, cntN, headC, -getElem?_pos]
end
section
theorem rev_ind {Q : List Int → Prop} (h0 : Q []) (h1 : ∀ l c, Q l → Q (l ++ [c])) (l : List Int) : Q l := by
  have key : ∀ r : List Int, Q r.reverse := by
    intro r
    induction r with
    | nil => exact h0
    | cons c r ih => rw [List.reverse_cons]; exact h1 _ _ ih
  have := key l.reverse
  rwa [List.reverse_reverse] at this
def val (l : List Int) : Int := l.foldl (fun a c => a * 256 + c) 0
theorem val_app (l : List Int) (c : Int) : val (l ++ [c]) = val l * 256 + c := by simp [val]
theorem val_range : ∀ (l : List Int), (∀ x ∈ l, 0 ≤ x ∧ x ≤ 255) → 0 ≤ val l ∧ val l < 256 ^ l.length := by
  refine rev_ind (fun _ => by simp [val]) fun l c ih h => ?_
  obtain ⟨h1, h2⟩ := ih fun x hx => h x (by simp [hx])
  have hc := h c (by simp)
  rw [val_app, List.length_append, List.length_singleton, Int.pow_succ]
  constructor <;> omega
theorem val_be : ∀ (k : Nat) (n : Int), val (be k n) = n % 256 ^ k
  | 0, n => by simp [be, val]
  | k + 1, n => by
    rw [be, val_app, val_be k, Int.pow_succ]
    have h1 := Int.emod_add_mul_ediv n 256
    have h2 : n % (256 ^ k * 256) = 256 * ((n / 256) % 256 ^ k) + n % 256 := by
      rw [Int.mul_comm]
      have := Int.emod_emod_of_dvd n (show (256 : Int) ∣ 256 * 256 ^ k from ⟨_, rfl⟩)
      have e := Int.mul_emod_mul_of_pos (n / 256) (256 ^ k) (show (0 : Int) < 256 by decide)
      have e2 : n % (256 * 256 ^ k) = (256 * (n / 256) + n % 256) % (256 * 256 ^ k) := by congr 1; omega
      rw [e2]
      have hpos : (0 : Int) < 256 ^ k := Int.pow_pos (by decide)
      have r := Int.emod_nonneg (n / 256) (Int.ne_of_gt hpos)
      have r2 := Int.emod_lt_of_pos (n / 256) hpos
      have m := Int.emod_nonneg n (show (256 : Int) ≠ 0 by decide)
      have m2 := Int.emod_lt_of_pos n (show (0 : Int) < 256 by decide)
      rw [Int.add_emod, e]
      have e3 : n % 256 % (256 * 256 ^ k) = n % 256 := Int.emod_eq_of_lt m (by omega)
      rw [e3]
      exact Int.emod_eq_of_lt (by omega) (by omega)
    omega
theorem shlor (a c : Int) (h0 : 0 ≤ a) (h1 : a < 2 ^ 56) (h2 : 0 ≤ c) (h3 : c < 256) : IntKind.u64.wrap (BitVec.ofInt 64 (IntKind.u64.wrap (a * 2 ^ 8)) ||| BitVec.ofInt 64 c).toNat = a * 256 + c := by
  obtain ⟨n, rfl⟩ : ∃ n : Nat, a = n := ⟨a.toNat, by omega⟩
  obtain ⟨m, rfl⟩ : ∃ n : Nat, c = n := ⟨c.toNat, by omega⟩
  have e : IntKind.u64.wrap ((n : Int) * 2 ^ 8) = (2 ^ 8 * n : Nat) := by rw [IntKind.wrap_u64]; omega
  rw [e, BitVec.ofInt_natCast, BitVec.ofInt_natCast, BitVec.toNat_or, BitVec.toNat_ofNat, BitVec.toNat_ofNat, Nat.mod_eq_of_lt (by omega), Nat.mod_eq_of_lt (by omega), ← Nat.two_pow_add_eq_or_of_lt (by omega), IntKind.wrap_u64]
  omega
end
section
theorem orV (a c : Int) (h0 : 0 ≤ a) (h1 : a < 2 ^ 56) (h2 : 0 ≤ c) (h3 : c < 256) : bi .or (.i .u64 (a * 256)) (.i .u64 c) = some (.i .u64 (a * 256 + c)) := by
  have h := shlor a c h0 h1 h2 h3
  have e : IntKind.u64.wrap (a * 2 ^ 8) = a * 256 := by rw [IntKind.wrap_u64]; omega
  rw [e] at h
  have : bi .or (.i .u64 (a * 256)) (.i .u64 c) = some (.i .u64 (IntKind.u64.wrap (BitVec.ofInt 64 (a * 256) ||| BitVec.ofInt 64 c).toNat)) := rfl
  rw [this, h]
theorem shlV (a : Int) (h0 : 0 ≤ a) (h1 : a < 2 ^ 56) : bi .shl (.i .u64 a) (.i .u64 8) = some (.i .u64 (a * 256)) := by
  have e : IntKind.u64.wrap (a * 2 ^ 8) = a * 256 := by rw [IntKind.wrap_u64]; omega
  have : bi .shl (.i .u64 a) (.i .u64 8) = some (.i .u64 (IntKind.u64.wrap (a * 2 ^ 8))) := rfl
  rw [this, e]
def slv (at' k : Nat) (acc : Int) (q : Bool) (xs : List (List PV)) (n i : Nat) : SL := [(1, .i .i64 at'), (2, .i .i64 k), (8, .i .u64 acc), (40, .l q xs), (41, .i .i64 n), (42, .i .i64 i)]
set_option maxHeartbeats 4000000 in
theorem stepv99 (Φ : Sem') (N : Nat) (g : SL → OB → Option R) (at' k : Nat) (acc c : Int) (q : Bool) (xs : List (List PV)) (n i : Nat) (hx : xs[i]? = some [.i .u8 c]) (hi : i < n) (hn : n < 1000000) (ha : 0 ≤ acc ∧ acc < 2 ^ 56) (hc : 0 ≤ c ∧ c ≤ 255) :
    m35b0 Φ N [] g (slv at' k acc q xs n i) [] = g (slv at' k (acc * 256 + c) q xs n (i + 1)) [] := by
  have w2 := w64n (i := i) (by omega)
  have w3 : IntKind.u64.wrap c = c := by rw [IntKind.wrap_u64]; omega
  have h1 := shlV acc ha.1 ha.2
  have h2 := orV acc c ha.1 ha.2 hc.1 (by omega)
  have ci : (i : Int) < n := by omega
  generalize hA : acc * 256 = A at *
  unfold m35b0
  rw [show gS (slv at' k acc q xs n i) 8 = .i .u64 acc from rfl]
  simp only [h1]
  simp -implicitDefEqProofs (maxSteps := 1000000) (disch := first | omega | rfl) [slv, hx, w2, w3, ci, h2, KS, getS, gS, wds, refs, keepO, keepS, keysO, refsS, refsOB, headC, -getElem?_pos]
end
section
set_option maxHeartbeats 4000000 in
theorem endv99 (Φ : Sem') (N : Nat) (g : SL → OB → Option R) (at' k : Nat) (acc : Int) (q : Bool) (xs : List (List PV)) (n : Nat) (h1 : at' < 1000000) (h2 : k < 1000000) :
    m35b0 Φ N [] g (slv at' k acc q xs n n) [] = some (.tup [.i .u64 acc, .i .i64 ((at' + k : Nat) : Int)], []) := by
  have w2 : IntKind.i64.wrap ((at' : Int) + k) = ((at' + k : Nat) : Int) := by rw [w64 (by omega) (by omega)]; omega
  simp -implicitDefEqProofs (maxSteps := 1000000) (disch := first | omega | rfl) [m35b0, slv, w2, KS, getS, gS, refs, keepO, keepS, keysO, refsS, refsOB, headC, -getElem?_pos]
theorem loopv99 (Φ : Sem') (N : Nat) (at' k : Nat) (q : Bool) (ys : List Int) (hy : ys.length ≤ 8) (hr : ∀ x ∈ ys, 0 ≤ x ∧ x ≤ 255) (h1 : at' < 1000000) (h2 : k < 1000000) : ∀ (j i e : Nat), i + j = ys.length →
    loopC (m35b0 Φ N []) (e + 1 + j) (slv at' k (val (ys.take i)) q (byL ys) ys.length i) [] = some (.tup [.i .u64 (val ys), .i .i64 ((at' + k : Nat) : Int)], []) := by
  intro j
  induction j with
  | zero =>
    intro i e h
    have : i = ys.length := by omega
    subst this
    rw [Nat.add_zero, k_loop, endv99 Φ N _ at' k _ q (byL ys) ys.length h1 h2, List.take_length]
  | succ j ih =>
    intro i e h
    have hi : i < ys.length := by omega
    have hv := val_range (ys.take i) (fun x hx => hr x (List.mem_of_mem_take hx))
    have hle : (ys.take i).length ≤ 7 := by rw [List.length_take]; omega
    have hp : (256 : Int) ^ (ys.take i).length ≤ 2 ^ 56 := (by decide : ∀ m ≤ 7, (256 : Int) ^ m ≤ 2 ^ 56) _ hle
    rw [← Nat.add_assoc, k_loop, stepv99 Φ N _ at' k _ ys[i] q (byL ys) ys.length i (by simp [byL, hi]) hi (by omega) ⟨hv.1, by omega⟩ (hr _ (List.getElem_mem hi))]
    rw [← val_app, List.take_append_getElem hi]
    exact ih (i + 1) e (by omega)
set_option maxHeartbeats 4000000 in
theorem V99 (N d : Nat) (q : Bool) (bs : List Int) (at' k : Nat) (hk : 1 ≤ k ∧ k ≤ 8) (hb : bs.length < 1000000) (hr : ∀ x ∈ bs, 0 ≤ x ∧ x ≤ 255) (hf : at' + k ≤ bs.length) :
    sem tab (N + 100) (d + 2) 35 [.l q (byL bs), .i .i64 at', .i .i64 k] [] = some (.tup [.i .u64 (val ((bs.drop at').take k)), .i .i64 ((at' + k : Nat) : Int)], []) := by
  rw [sem_succ tab (N + 100) (d + 1) 35 m35 rfl]
  have h146 := U146 (N + 100) d k
  have b1 : inB k 1 8 = true := by simp only [inB, Bool.and_eq_true, decide_eq_true_eq]; omega
  rw [b1] at h146
  have hyl : ((bs.drop at').take k).length = k := by rw [List.length_take, List.length_drop]; omega
  have h := loopv99 (sem tab (N + 100) (d + 1)) (N + 100) at' k q ((bs.drop at').take k) (by omega) (fun x hx => hr x (List.mem_of_mem_drop (List.mem_of_mem_take hx))) (by omega) (by omega) k 0 (N + 99 - k) (by omega)
  rw [show N + 99 - k + 1 + k = N + 100 by omega, hyl] at h
  have hby : byL ((bs.drop at').take k) = ((byL bs).take (at' + k)).drop at' := by simp [byL, List.map_take, List.map_drop, List.drop_take]
  have hbl := byL_len bs
  have hll : (((byL bs).take (at' + k)).drop at').length = k := by rw [← hby, byL_len, hyl]
  rw [hby] at h
  simp only [slv, List.take_zero, show val [] = 0 from rfl] at h ⊢
  rw [show ((0 : Nat) : Int) = 0 from rfl] at h
  generalize val ((bs.drop at').take k) = V at *
  have c1 : ¬ ((at' : Int) < 0) := by omega
  have c2 : ¬ ((at' : Int) > (byL bs).length) := by omega
  have c3 : ¬ (((byL bs).length : Int) - at' < k) := by omega
  have w1 : IntKind.i64.wrap (((byL bs).length : Int) - at') = ((byL bs).length : Int) - at' := w64 (by omega) (by omega)
  have w2 : IntKind.i64.wrap ((at' : Int) + k) = ((at' + k : Nat) : Int) := by rw [w64 (by omega) (by omega)]; omega
  have t1 : ((at' + k : Nat) : Int).toNat = at' + k := by omega
  have t2 : (at' : Int).toNat = at' := by omega
  have c4 : (at' : Int) ≤ ((at' + k : Nat) : Int) := by omega
  have c5 : ((at' + k : Nat) : Int) ≤ (byL bs).length := by omega
  have hw := allW_by bs
  rw [k_loop] at h
  generalize byL bs = b at *
  generalize hz : ((at' + k : Nat) : Int) = z at *
  simp -implicitDefEqProofs (maxSteps := 1000000) (disch := first | omega | rfl) [m35, h146, c1, c2, c3, w1, w2, t1, t2, c4, c5, hll, hw, h, KS, getS, gS, zipN, refs, refsL, noExt, ren, keepO, keepS, keysO, refsS, refsOB, cntN, headC, -getElem?_pos]
end
section
def cuts (bs : List Int) : Nat → List Nat → List (List PV)
  | _, [] => []
  | at', k :: r => [.i .u64 (val ((bs.drop at').take k))] :: cuts bs (at' + k) r
def kL (ks : List Nat) : List (List PV) := ks.map fun k => [.i .i64 (k : Nat)]
def sumL : List Nat → Nat
  | [] => 0
  | k :: r => k + sumL r
end
section
def vAt (bs : List Int) (i k : Nat) : Int := val ((bs.drop i).take k)
theorem vAt_range (bs : List Int) (hr : ∀ x ∈ bs, 0 ≤ x ∧ x ≤ 255) (i k : Nat) (hk : k ≤ 4) : 0 ≤ vAt bs i k ∧ vAt bs i k < 4294967296 := by
  have h := val_range ((bs.drop i).take k) (fun x hx => hr x (List.mem_of_mem_drop (List.mem_of_mem_take hx)))
  have hl : ((bs.drop i).take k).length ≤ 4 := by rw [List.length_take]; omega
  have hp : (256 : Int) ^ ((bs.drop i).take k).length ≤ 4294967296 := (by decide : ∀ m ≤ 4, (256 : Int) ^ m ≤ 4294967296) _ hl
  exact ⟨h.1, by unfold vAt; omega⟩
end
section
theorem vAt_app (a b c : List Int) (k : Nat) (h : b.length = k) : vAt (a ++ (b ++ c)) a.length k = val b := by
  subst h
  simp [vAt]
end
section
structure Fra where
  kind : Int
  user : Int
  sess : Int
  cn : Int
  epoch : Int
  count : Int
  cmd : Int
  arg : Int
  tag : List Int
def frC (f : Fra) : List PV := [.i .i64 f.kind, .i .i64 f.user, .i .u64 f.sess, .i .u64 f.cn, .i .i64 f.epoch, .i .u64 f.count, .i .i64 f.cmd, .i .i64 f.arg, .blob 32 (uL f.tag)]
def z32 : List Int := List.replicate 32 0
def zeF : Fra := ⟨0, 0, 0, 0, 0, 0, 0, 0, z32⟩
structure okF (f : Fra) : Prop where
  sess : 0 ≤ f.sess ∧ f.sess < 18446744073709551616
  cn : 0 ≤ f.cn ∧ f.cn < 18446744073709551616
  count : 0 ≤ f.count ∧ f.count < 18446744073709551616
  tag : f.tag.length = 32
  tagr : ∀ x ∈ f.tag, 0 ≤ x ∧ x ≤ 255
theorem z32_len : z32.length = 32 := by simp [z32]
theorem z32_range : ∀ x ∈ z32, 0 ≤ x ∧ x ≤ 255 := fun x hx => by
  unfold z32 at hx
  rw [List.mem_replicate] at hx; omega
theorem okF_ze : okF zeF := ⟨⟨by decide, by decide⟩, ⟨by decide, by decide⟩, ⟨by decide, by decide⟩, z32_len, z32_range⟩
def eqFr (f g : Fra) : Bool := (f.kind == g.kind) && ((f.user == g.user) && ((f.sess == g.sess) && ((f.cn == g.cn) && ((f.epoch == g.epoch) && ((f.count == g.count) && ((f.cmd == g.cmd) && ((f.arg == g.arg) && decide (f.tag = g.tag))))))))
theorem eqFr_iff (f g : Fra) : eqFr f g = true ↔ f = g := by
  obtain ⟨a1, a2, a3, a4, a5, a6, a7, a8, a9⟩ := f
  obtain ⟨b1, b2, b3, b4, b5, b6, b7, b8, b9⟩ := g
  simp only [eqFr, Bool.and_eq_true, beq_iff_eq, decide_eq_true_eq, Fra.mk.injEq]
def bareF (f : Fra) : Fra :=
  if f.kind = 0 then ⟨0, f.user, 0, f.cn, 0, 0, 0, 0, z32⟩
  else if f.kind = 1 then ⟨1, 0, f.sess, 0, f.epoch, 0, 0, 0, z32⟩
  else if f.kind = 2 then ⟨2, 0, f.sess, 0, 0, 0, 0, 0, f.tag⟩
  else if f.kind = 3 then ⟨3, 0, f.sess, 0, 0, 0, 0, 0, f.tag⟩
  else if f.kind = 4 then ⟨4, 0, f.sess, 0, 0, f.count, f.cmd, f.arg, f.tag⟩
  else if f.kind = 5 then ⟨5, 0, f.sess, 0, 0, f.count, f.cmd, f.arg, f.tag⟩
  else ⟨f.kind, 0, 0, 0, 0, 0, f.cmd, 0, z32⟩
def plainF (f : Fra) : Bool := inB f.kind 0 6 && (inB f.user 0 255 && (inB f.epoch 0 1073741824 && (inB f.cmd 0 255 && (inB f.arg 0 65535 && eqFr (bareF f) f))))
def tagdF (k : Int) : Bool := inB k 2 5
def numsF (f : Fra) : List (Int × Nat) :=
  if f.kind = 0 then [(f.user, 1), (f.cn, 8)]
  else if f.kind = 1 then [(f.sess, 8), (f.epoch, 4)]
  else if f.kind = 2 then [(f.sess, 8)]
  else if f.kind = 3 then [(f.sess, 8)]
  else if f.kind = 4 then [(f.sess, 8), (f.count, 8), (f.cmd, 1), (f.arg, 2)]
  else if f.kind = 5 then [(f.sess, 8), (f.count, 8), (f.cmd, 1), (f.arg, 2)]
  else [(f.cmd, 1)]
def szF (k : Int) : Nat :=
  if k = 0 then 10 else if k = 1 then 13 else if k = 2 then 41 else if k = 3 then 41 else if k = 4 then 52 else if k = 5 then 52 else 2
def allF (f : Fra) : List (Int × Nat) := ((szF f.kind : Int), 2) :: (f.kind, 1) :: numsF f
def frontF (f : Fra) : List Int := catB (allF f)
def putF (f : Fra) : List Int := frontF f ++ cond (tagdF f.kind) f.tag []
theorem kinds {k : Int} (h : inB k 0 6 = true) : k = 0 ∨ k = 1 ∨ k = 2 ∨ k = 3 ∨ k = 4 ∨ k = 5 ∨ k = 6 := by
  simp only [inB, Bool.and_eq_true, decide_eq_true_eq] at h; omega
structure PlF (f : Fra) : Prop where
  kind : inB f.kind 0 6 = true
  user : 0 ≤ f.user ∧ f.user ≤ 255
  epoch : 0 ≤ f.epoch ∧ f.epoch ≤ 1073741824
  cmd : 0 ≤ f.cmd ∧ f.cmd ≤ 255
  arg : 0 ≤ f.arg ∧ f.arg ≤ 65535
  bare : bareF f = f
theorem plainF_iff (f : Fra) : plainF f = true ↔ PlF f := by
  unfold plainF
  constructor
  · intro h
    simp only [Bool.and_eq_true, eqFr_iff] at h
    obtain ⟨h1, h2, h3, h4, h5, h6⟩ := h
    simp only [inB, Bool.and_eq_true, decide_eq_true_eq] at h2 h3 h4 h5
    exact ⟨h1, h2, h3, h4, h5, h6⟩
  · rintro ⟨h1, h2, h3, h4, h5, h6⟩
    simp only [Bool.and_eq_true, eqFr_iff]
    simp only [inB, Bool.and_eq_true, decide_eq_true_eq] at h1 ⊢
    exact ⟨h1, h2, h3, h4, h5, h6⟩
theorem fitsB_of {n : Int} {k : Nat} (h0 : 0 ≤ n) (h : n < 256 ^ k) : fitsB n k = true := by
  unfold fitsB; rw [Int.ediv_eq_zero_of_lt h0 h]; simp
theorem fitAll_allF (f : Fra) (h : PlF f) (o : okF f) : fitAll (allF f) = true := by
  obtain ⟨h1, h2, h3, h4, h5, _⟩ := h
  obtain ⟨o1, o2, o3, _, _⟩ := o
  have hk := kinds h1
  have q1 : fitsB f.user 1 = true := fitsB_of h2.1 (by omega)
  have q2 : fitsB f.cn 8 = true := fitsB_of o2.1 (by omega)
  have q3 : fitsB f.sess 8 = true := fitsB_of o1.1 (by omega)
  have q4 : fitsB f.epoch 4 = true := fitsB_of h3.1 (by omega)
  have q5 : fitsB f.count 8 = true := fitsB_of o3.1 (by omega)
  have q6 : fitsB f.cmd 1 = true := fitsB_of h4.1 (by omega)
  have q7 : fitsB f.arg 2 = true := fitsB_of h5.1 (by omega)
  have q8 : fitsB f.kind 1 = true := fitsB_of (by omega) (by omega)
  have q9 : fitsB (szF f.kind : Int) 2 = true := fitsB_of (by omega) (by
    unfold szF; rcases hk with e | e | e | e | e | e | e <;> rw [e] <;> decide)
  simp only [allF, fitAll, q8, q9, Bool.true_and]
  unfold numsF
  rcases hk with e | e | e | e | e | e | e <;> rw [e] <;> simp [fitAll, q1, q2, q3, q4, q5, q6, q7]
theorem okNu_allF (f : Fra) (h : PlF f) (o : okF f) : ∀ x ∈ allF f, okNu x := by
  obtain ⟨h1, h2, h3, h4, h5, _⟩ := h
  obtain ⟨o1, o2, o3, _, _⟩ := o
  have hk := kinds h1
  have q1 : okNu (f.user, 1) := ⟨Nat.le_of_ble_eq_true rfl, Nat.le_of_ble_eq_true rfl, by simp only; omega, by simp only; omega⟩
  have q2 : okNu (f.cn, 8) := ⟨Nat.le_of_ble_eq_true rfl, Nat.le_of_ble_eq_true rfl, by simp only; omega, by simp only; omega⟩
  have q3 : okNu (f.sess, 8) := ⟨Nat.le_of_ble_eq_true rfl, Nat.le_of_ble_eq_true rfl, by simp only; omega, by simp only; omega⟩
  have q4 : okNu (f.epoch, 4) := ⟨Nat.le_of_ble_eq_true rfl, Nat.le_of_ble_eq_true rfl, by simp only; omega, by simp only; omega⟩
  have q5 : okNu (f.count, 8) := ⟨Nat.le_of_ble_eq_true rfl, Nat.le_of_ble_eq_true rfl, by simp only; omega, by simp only; omega⟩
  have q6 : okNu (f.cmd, 1) := ⟨Nat.le_of_ble_eq_true rfl, Nat.le_of_ble_eq_true rfl, by simp only; omega, by simp only; omega⟩
  have q7 : okNu (f.arg, 2) := ⟨Nat.le_of_ble_eq_true rfl, Nat.le_of_ble_eq_true rfl, by simp only; omega, by simp only; omega⟩
  have q8 : okNu (f.kind, 1) := ⟨Nat.le_of_ble_eq_true rfl, Nat.le_of_ble_eq_true rfl, by simp only; omega, by simp only; omega⟩
  have hs : szF f.kind ≤ 52 := by unfold szF; rcases hk with e | e | e | e | e | e | e <;> rw [e] <;> decide
  have q9 : okNu ((szF f.kind : Int), 2) := ⟨Nat.le_of_ble_eq_true rfl, Nat.le_of_ble_eq_true rfl, by simp only; omega, by simp only; omega⟩
  intro x hx
  simp only [allF, List.mem_cons] at hx
  rcases hx with rfl | rfl | hx
  · exact q9
  · exact q8
  · unfold numsF at hx
    rcases hk with e | e | e | e | e | e | e <;> rw [e] at hx <;> simp at hx
    · rcases hx with rfl | rfl <;> assumption
    · rcases hx with rfl | rfl <;> assumption
    · subst hx; assumption
    · subst hx; assumption
    · rcases hx with rfl | rfl | rfl | rfl <;> assumption
    · rcases hx with rfl | rfl | rfl | rfl <;> assumption
    · subst hx; assumption
theorem numsF_len (f : Fra) : (numsF f).length ≤ 4 := by
  unfold numsF
  repeat' split
  all_goals simp
def aheadF (k : Int) : Nat :=
  if k = 0 then 12 else if k = 1 then 15 else if k = 2 then 11 else if k = 3 then 11 else if k = 4 then 22 else if k = 5 then 22 else 4
theorem frontF_len (f : Fra) : (frontF f).length = aheadF f.kind := by
  unfold frontF allF numsF aheadF
  simp only [catB, List.length_append, be_len]
  repeat' split
  all_goals simp [catB, be_len]
theorem putF_len (f : Fra) (h : inB f.kind 0 6 = true) (ht : f.tag.length = 32) : (putF f).length = szF f.kind + 2 := by
  unfold putF
  rw [List.length_append, frontF_len]
  rcases kinds h with e | e | e | e | e | e | e <;> rw [e] <;> simp [aheadF, szF, tagdF, inB, ht]
theorem putF_range (f : Fra) (h : ∀ x ∈ f.tag, 0 ≤ x ∧ x ≤ 255) : ∀ x ∈ putF f, 0 ≤ x ∧ x ≤ 255 := by
  intro x hx
  unfold putF at hx
  rw [List.mem_append] at hx
  rcases hx with hx | hx
  · exact catB_range _ x hx
  · cases hb : tagdF f.kind <;> rw [hb] at hx
    · cases hx
    · exact h x hx
def tgAt (b : List Int) (i : Nat) : List Int := (b.drop i).take 32 ++ z32.drop (min (b.length - i) 32)
def getF (k : Int) (b : List Int) : Fra :=
  if k = 0 then ⟨0, vAt b 3 1, 0, vAt b 4 8, 0, 0, 0, 0, z32⟩
  else if k = 1 then ⟨1, 0, vAt b 3 8, 0, vAt b 11 4, 0, 0, 0, z32⟩
  else if k = 2 then ⟨2, 0, vAt b 3 8, 0, 0, 0, 0, 0, tgAt b 11⟩
  else if k = 3 then ⟨3, 0, vAt b 3 8, 0, 0, 0, 0, 0, tgAt b 11⟩
  else if k = 4 then ⟨4, 0, vAt b 3 8, 0, 0, vAt b 11 8, vAt b 19 1, vAt b 20 2, tgAt b 22⟩
  else if k = 5 then ⟨5, 0, vAt b 3 8, 0, 0, vAt b 11 8, vAt b 19 1, vAt b 20 2, tgAt b 22⟩
  else ⟨k, 0, 0, 0, 0, 0, vAt b 3 1, 0, z32⟩
theorem tgAt_len (b : List Int) (i : Nat) : (tgAt b i).length = 32 := by simp [tgAt, z32]; omega
theorem tgAt_range (b : List Int) (i : Nat) (h : ∀ x ∈ b, 0 ≤ x ∧ x ≤ 255) : ∀ x ∈ tgAt b i, 0 ≤ x ∧ x ≤ 255 := by
  intro x hx
  unfold tgAt at hx
  rw [List.mem_append] at hx
  rcases hx with hx | hx
  · exact h x (List.mem_of_mem_drop (List.mem_of_mem_take hx))
  · exact z32_range x (List.mem_of_mem_drop hx)
theorem vAt8 (b : List Int) (h : ∀ x ∈ b, 0 ≤ x ∧ x ≤ 255) (i k : Nat) (hk : k ≤ 8) : 0 ≤ vAt b i k ∧ vAt b i k < 18446744073709551616 := by
  have h := val_range ((b.drop i).take k) (fun x hx => h x (List.mem_of_mem_drop (List.mem_of_mem_take hx)))
  have hl : ((b.drop i).take k).length ≤ 8 := by rw [List.length_take]; omega
  have hp : (256 : Int) ^ ((b.drop i).take k).length ≤ 18446744073709551616 := (by decide : ∀ m ≤ 8, (256 : Int) ^ m ≤ 18446744073709551616) _ hl
  exact ⟨h.1, by unfold vAt; omega⟩
theorem okF_get (k : Int) (b : List Int) (h : ∀ x ∈ b, 0 ≤ x ∧ x ≤ 255) : okF (getF k b) := by
  have q := fun i => vAt8 b h i 8 (Nat.le_refl _)
  have z : (0 : Int) ≤ 0 ∧ (0 : Int) < 18446744073709551616 := by decide
  have t := tgAt_len b
  have t' := fun i => tgAt_range b i h
  unfold getF
  repeat' split
  all_goals exact ⟨by first | exact z | exact q _, by first | exact z | exact q _, by first | exact z | exact q _, by first | exact z32_len | exact t _, by first | exact z32_range | exact t' _⟩
theorem vAt_be (i k : Nat) (n : Int) (a c : List Int) (ha : a.length = i) (h0 : 0 ≤ n) (h1 : n < 256 ^ k) : vAt (a ++ (be k n ++ c)) i k = n := by
  subst ha
  rw [vAt_app a (be k n) c k (be_len k n), val_be, Int.emod_eq_of_lt h0 h1]
theorem tgAt_app (a t : List Int) (i : Nat) (ha : a.length = i) (ht : t.length = 32) : tgAt (a ++ t) i = t := by
  subst ha
  unfold tgAt
  rw [List.drop_left, List.take_of_length_le (by omega), List.length_append]
  rw [List.drop_of_length_le (by rw [z32_len]; omega), List.append_nil]
theorem get_put (f : Fra) (h : PlF f) (o : okF f) : getF f.kind (putF f) = f := by
  obtain ⟨h1, h2, h3, h4, h5, h6⟩ := h
  obtain ⟨o1, o2, o3, o4, _⟩ := o
  have hk := kinds h1
  obtain ⟨a1, a2, a3, a4, a5, a6, a7, a8, a9⟩ := f
  simp only at *
  rcases hk with e | e | e | e | e | e | e <;> subst e <;> simp [bareF] at h6 <;> simp [putF, frontF, allF, numsF, szF, tagdF, inB, catB, getF]
  · obtain ⟨rfl, rfl, rfl, rfl, rfl, rfl⟩ := h6
    have x1 := vAt_be 3 1 a2 (be 2 10 ++ be 1 0) (be 8 a4) (by simp [be_len]) (by omega) (by omega)
    have x2 := vAt_be 4 8 a4 (be 2 10 ++ (be 1 0 ++ be 1 a2)) [] (by simp [be_len]) (by omega) (by omega)
    simp only [List.append_assoc, List.append_nil] at x1 x2
    simp [x1, x2]
  · obtain ⟨rfl, rfl, rfl, rfl, rfl, rfl⟩ := h6
    have x1 := vAt_be 3 8 a3 (be 2 13 ++ be 1 1) (be 4 a5) (by simp [be_len]) (by omega) (by omega)
    have x2 := vAt_be 11 4 a5 (be 2 13 ++ (be 1 1 ++ be 8 a3)) [] (by simp [be_len]) (by omega) (by omega)
    simp only [List.append_assoc, List.append_nil] at x1 x2
    simp [x1, x2]
  · obtain ⟨rfl, rfl, rfl, rfl, rfl, rfl⟩ := h6
    have x1 := vAt_be 3 8 a3 (be 2 41 ++ be 1 2) a9 (by simp [be_len]) (by omega) (by omega)
    have x2 := tgAt_app (be 2 41 ++ (be 1 2 ++ be 8 a3)) a9 11 (by simp [be_len]) o4
    simp only [List.append_assoc] at x1 x2
    simp [x1, x2]
  · obtain ⟨rfl, rfl, rfl, rfl, rfl, rfl⟩ := h6
    have x1 := vAt_be 3 8 a3 (be 2 41 ++ be 1 3) a9 (by simp [be_len]) (by omega) (by omega)
    have x2 := tgAt_app (be 2 41 ++ (be 1 3 ++ be 8 a3)) a9 11 (by simp [be_len]) o4
    simp only [List.append_assoc] at x1 x2
    simp [x1, x2]
  · obtain ⟨rfl, rfl, rfl⟩ := h6
    have x1 := vAt_be 3 8 a3 (be 2 52 ++ be 1 4) (be 8 a6 ++ (be 1 a7 ++ (be 2 a8 ++ a9))) (by simp [be_len]) (by omega) (by omega)
    have x2 := vAt_be 11 8 a6 (be 2 52 ++ (be 1 4 ++ be 8 a3)) (be 1 a7 ++ (be 2 a8 ++ a9)) (by simp [be_len]) (by omega) (by omega)
    have x3 := vAt_be 19 1 a7 (be 2 52 ++ (be 1 4 ++ (be 8 a3 ++ be 8 a6))) (be 2 a8 ++ a9) (by simp [be_len]) (by omega) (by omega)
    have x4 := vAt_be 20 2 a8 (be 2 52 ++ (be 1 4 ++ (be 8 a3 ++ (be 8 a6 ++ be 1 a7)))) a9 (by simp [be_len]) (by omega) (by omega)
    have x5 := tgAt_app (be 2 52 ++ (be 1 4 ++ (be 8 a3 ++ (be 8 a6 ++ (be 1 a7 ++ be 2 a8))))) a9 22 (by simp [be_len]) o4
    simp only [List.append_assoc] at x1 x2 x3 x4 x5
    simp [x1, x2, x3, x4, x5]
  · obtain ⟨rfl, rfl, rfl⟩ := h6
    have x1 := vAt_be 3 8 a3 (be 2 52 ++ be 1 5) (be 8 a6 ++ (be 1 a7 ++ (be 2 a8 ++ a9))) (by simp [be_len]) (by omega) (by omega)
    have x2 := vAt_be 11 8 a6 (be 2 52 ++ (be 1 5 ++ be 8 a3)) (be 1 a7 ++ (be 2 a8 ++ a9)) (by simp [be_len]) (by omega) (by omega)
    have x3 := vAt_be 19 1 a7 (be 2 52 ++ (be 1 5 ++ (be 8 a3 ++ be 8 a6))) (be 2 a8 ++ a9) (by simp [be_len]) (by omega) (by omega)
    have x4 := vAt_be 20 2 a8 (be 2 52 ++ (be 1 5 ++ (be 8 a3 ++ (be 8 a6 ++ be 1 a7)))) a9 (by simp [be_len]) (by omega) (by omega)
    have x5 := tgAt_app (be 2 52 ++ (be 1 5 ++ (be 8 a3 ++ (be 8 a6 ++ (be 1 a7 ++ be 2 a8))))) a9 22 (by simp [be_len]) o4
    simp only [List.append_assoc] at x1 x2 x3 x4 x5
    simp [x1, x2, x3, x4, x5]
  · obtain ⟨rfl, rfl, rfl, rfl, rfl, rfl, rfl⟩ := h6
    have x1 := vAt_be 3 1 a7 (be 2 2 ++ be 1 6) [] (by simp [be_len]) (by omega) (by omega)
    simp only [List.append_assoc, List.append_nil] at x1
    simp [x1]
theorem putF_head (f : Fra) (h : inB f.kind 0 6 = true) : ∃ r, putF f = [0, (szF f.kind : Int), f.kind] ++ r := by
  unfold putF frontF allF
  simp only [catB]
  have h1 : be 1 f.kind = [f.kind] := by
    rcases kinds h with e | e | e | e | e | e | e <;> rw [e] <;> rfl
  have h2 : be 2 (szF f.kind : Int) = [0, (szF f.kind : Int)] := by
    rcases kinds h with e | e | e | e | e | e | e <;> rw [e] <;> rfl
  rw [h1, h2]
  exact ⟨_, by simp only [List.cons_append, List.nil_append]; rfl⟩
end
section
def longF (b : List Int) : Int := if b.length < 2 then -1 else if val (b.take 2) > (b.length : Int) - 2 then -1 else 2 + val (b.take 2)
def seemF (b : List Int) : Fra := getF (b.getD 2 0) b
def goodF (b : List Int) : Bool := plainF (seemF b) && decide (putF (seemF b) = b)
def errF (b : List Int) : Int := if 64 < b.length then 2 else if longF b = -1 then 4 else 3
theorem szF_le (k : Int) : 2 ≤ szF k ∧ szF k ≤ 52 := by
  unfold szF
  repeat' split
  all_goals omega
theorem val2 (x y : Int) : val [x, y] = x * 256 + y := by simp [val]
theorem head2 (f : Fra) (h : inB f.kind 0 6 = true) (r : List Int) : val ((putF f ++ r).take 2) = (szF f.kind : Int) := by
  obtain ⟨s, e⟩ := putF_head f h
  rw [e]
  simp [val]
theorem long_put (f : Fra) (h : inB f.kind 0 6 = true) (ht : f.tag.length = 32) (r : List Int) : longF (putF f ++ r) = ((putF f).length : Int) := by
  have hl := putF_len f h ht
  have h2 := head2 f h r
  unfold longF
  rw [h2, hl, List.length_append, hl, if_neg (by omega), if_neg (by omega)]
  omega
theorem seem_put (f : Fra) (h : PlF f) (o : okF f) : seemF (putF f) = f := by
  obtain ⟨s, e⟩ := putF_head f h.kind
  have : (putF f).getD 2 0 = f.kind := by rw [e]; rfl
  unfold seemF
  rw [this]; exact get_put f h o
theorem good_put (f : Fra) (h : PlF f) (o : okF f) : goodF (putF f) = true := by
  unfold goodF
  rw [seem_put f h o, (plainF_iff f).2 h]; simp
theorem good_of {b : List Int} (hr : ∀ x ∈ b, 0 ≤ x ∧ x ≤ 255) (h : goodF b = true) : PlF (seemF b) ∧ okF (seemF b) ∧ putF (seemF b) = b := by
  unfold goodF at h
  simp only [Bool.and_eq_true, decide_eq_true_eq] at h
  exact ⟨(plainF_iff _).1 h.1, okF_get _ b hr, h.2⟩
theorem good_len {b : List Int} (hr : ∀ x ∈ b, 0 ≤ x ∧ x ≤ 255) (h : goodF b = true) : longF b = b.length ∧ b.length ≤ 54 ∧ 4 ≤ b.length := by
  obtain ⟨h1, h2, h3⟩ := good_of hr h
  have := long_put _ h1.kind h2.tag []
  have hl := putF_len _ h1.kind h2.tag
  have hs := szF_le (seemF b).kind
  rw [List.append_nil, h3] at this
  rw [h3] at hl
  exact ⟨this, by omega, by omega⟩
theorem val_nn (l : List Int) (h : ∀ x ∈ l, 0 ≤ x ∧ x ≤ 255) : 0 ≤ val l := (val_range l h).1
theorem long_cases (b : List Int) (hr : ∀ x ∈ b, 0 ≤ x ∧ x ≤ 255) : longF b = -1 ∨ (2 ≤ longF b ∧ longF b ≤ b.length) := by
  have h0 := val_nn (b.take 2) (fun x hx => hr x (List.mem_of_mem_take hx))
  unfold longF
  split
  · exact .inl rfl
  · split
    · exact .inl rfl
    · right; constructor <;> omega
end
section
def sN (o i : Nat) (k : Int) : List PV := [.p o 0 0 i none, .np, .i .i64 k]
def sU (o i : Nat) (k : Int) : List PV := [.np, .p o 0 0 i none, .i .i64 k]
def rowS (l : List (List PV)) (c : Option Nat) : Obj' := { els := l, w := 3, pu := false, g := true, cap := c, ver := 0, fro := false }
def fbox (f : Fra) : Obj' := box (frC f) 40
end
section
theorem bnd_cg {α β : Type} {x y : Option α} {K : α → Option β} (h : x = y) : bnd x K = bnd y K := by rw [h]
theorem bndO_cg {β : Type} {x y : Option Up} {ob : OB} {K : PV → OB → Option β} (h : x = y) : bndO x ob K = bndO y ob K := by rw [h]
theorem br_cg {c c' : PV} {A B : Option (PV × List Obj')} (h : c = c') : br c A B = br c' A B := by rw [h]
theorem k_cnt0 (o : Nat) : cntN o [] = 0 := rfl
theorem k_cnt (o x : Nat) (r : List Nat) : cntN o (x :: r) = (if x = o then 1 else 0) + cntN o r := by simp only [cntN]; split <;> omega
theorem k_ncp (o v i f : Nat) (b : Option Nat) : nc (.p o v i f b) = some (.p o v i f b) := rfl
def slF (o : Nat) (k : Int) : List (List PV) :=
  if k = 0 then [sN o 1 1, sU o 3 8] else if k = 1 then [sU o 2 8, sN o 4 4] else if k = 2 then [sU o 2 8] else if k = 3 then [sU o 2 8]
  else if k = 4 then [sU o 2 8, sU o 5 8, sN o 6 1, sN o 7 2] else if k = 5 then [sU o 2 8, sU o 5 8, sN o 6 1, sN o 7 2] else [sN o 6 1]
def cpF (k : Int) : Option Nat := if k = 0 then some 2 else if k = 1 then some 2 else if k = 6 then some 1 else none
theorem V22_0 (N d : Nat) (a2 a3 a4 a5 a6 a7 a8 : Int) (a9 : List Int) : sem tab N (d + 2) 34 [.p 0 0 0 0 none] [fbox ⟨0, a2, a3, a4, a5, a6, a7, a8, a9⟩] = some (.tup [.sl 1 0 0 (slF 0 0).length, .b (tagdF 0)], [fbox ⟨0, a2, a3, a4, a5, a6, a7, a8, a9⟩, rowS (slF 0 0) (cpF 0)]) := by
  kernel_rfl
theorem V22_1 (N d : Nat) (a2 a3 a4 a5 a6 a7 a8 : Int) (a9 : List Int) : sem tab N (d + 2) 34 [.p 0 0 0 0 none] [fbox ⟨1, a2, a3, a4, a5, a6, a7, a8, a9⟩] = some (.tup [.sl 1 0 0 (slF 0 1).length, .b (tagdF 1)], [fbox ⟨1, a2, a3, a4, a5, a6, a7, a8, a9⟩, rowS (slF 0 1) (cpF 1)]) := by
  kernel_rfl
theorem V22_2 (N d : Nat) (a2 a3 a4 a5 a6 a7 a8 : Int) (a9 : List Int) : sem tab N (d + 2) 34 [.p 0 0 0 0 none] [fbox ⟨2, a2, a3, a4, a5, a6, a7, a8, a9⟩] = some (.tup [.sl 1 0 0 (slF 0 2).length, .b (tagdF 2)], [fbox ⟨2, a2, a3, a4, a5, a6, a7, a8, a9⟩, rowS (slF 0 2) (cpF 2)]) := by
  kernel_rfl
theorem V22_3 (N d : Nat) (a2 a3 a4 a5 a6 a7 a8 : Int) (a9 : List Int) : sem tab N (d + 2) 34 [.p 0 0 0 0 none] [fbox ⟨3, a2, a3, a4, a5, a6, a7, a8, a9⟩] = some (.tup [.sl 1 0 0 (slF 0 3).length, .b (tagdF 3)], [fbox ⟨3, a2, a3, a4, a5, a6, a7, a8, a9⟩, rowS (slF 0 3) (cpF 3)]) := by
  kernel_rfl
theorem V22_4 (N d : Nat) (a2 a3 a4 a5 a6 a7 a8 : Int) (a9 : List Int) : sem tab N (d + 2) 34 [.p 0 0 0 0 none] [fbox ⟨4, a2, a3, a4, a5, a6, a7, a8, a9⟩] = some (.tup [.sl 1 0 0 (slF 0 4).length, .b (tagdF 4)], [fbox ⟨4, a2, a3, a4, a5, a6, a7, a8, a9⟩, rowS (slF 0 4) (cpF 4)]) := by
  kernel_rfl
theorem V22_5 (N d : Nat) (a2 a3 a4 a5 a6 a7 a8 : Int) (a9 : List Int) : sem tab N (d + 2) 34 [.p 0 0 0 0 none] [fbox ⟨5, a2, a3, a4, a5, a6, a7, a8, a9⟩] = some (.tup [.sl 1 0 0 (slF 0 5).length, .b (tagdF 5)], [fbox ⟨5, a2, a3, a4, a5, a6, a7, a8, a9⟩, rowS (slF 0 5) (cpF 5)]) := by
  kernel_rfl
theorem V22_6 (N d : Nat) (a2 a3 a4 a5 a6 a7 a8 : Int) (a9 : List Int) : sem tab N (d + 2) 34 [.p 0 0 0 0 none] [fbox ⟨6, a2, a3, a4, a5, a6, a7, a8, a9⟩] = some (.tup [.sl 1 0 0 (slF 0 6).length, .b (tagdF 6)], [fbox ⟨6, a2, a3, a4, a5, a6, a7, a8, a9⟩, rowS (slF 0 6) (cpF 6)]) := by
  kernel_rfl
theorem V22 (N d : Nat) (f : Fra) (hk : inB f.kind 0 6 = true) : sem tab N (d + 2) 34 [.p 0 0 0 0 none] [fbox f] = some (.tup [.sl 1 0 0 (slF 0 f.kind).length, .b (tagdF f.kind)], [fbox f, rowS (slF 0 f.kind) (cpF f.kind)]) := by
  have hk := kinds hk
  obtain ⟨a1, a2, a3, a4, a5, a6, a7, a8, a9⟩ := f
  simp only at hk
  rcases hk with e | e | e | e | e | e | e <;> subst e
  · exact V22_0 ..
  · exact V22_1 ..
  · exact V22_2 ..
  · exact V22_3 ..
  · exact V22_4 ..
  · exact V22_5 ..
  · exact V22_6 ..
set_option maxHeartbeats 4000000 in
theorem V22x (N d : Nat) (f : Fra) (hk : inB f.kind 0 6 = false) : sem tab N (d + 2) 34 [.p 0 0 0 0 none] [fbox f] = some (.tup [.e true, .b false], [fbox f]) := by
  rw [sem_succ tab N (d + 1) 34 m34 rfl]
  obtain ⟨a1, a2, a3, a4, a5, a6, a7, a8, a9⟩ := f
  simp only at hk
  have hh : ¬ (0 ≤ a1 ∧ a1 ≤ 6) := by
    intro h; simp [inB, h.1, h.2] at hk
  have e0 : (a1 == 0) = false := by simp; omega
  have e1 : (a1 == 1) = false := by simp; omega
  have e2 : (a1 == 2) = false := by simp; omega
  have e3 : (a1 == 3) = false := by simp; omega
  have e4 : (a1 == 4) = false := by simp; omega
  have e5 : (a1 == 5) = false := by simp; omega
  have e6 : (a1 == 6) = false := by simp; omega
  simp only [fbox, frC, box]
  generalize uL a9 = q at *
  simp -implicitDefEqProofs (maxSteps := 1000000) (disch := first | omega | rfl) [m34, e0, e1, e2, e3, e4, e5, e6, k_ncp, finG, reach, getOs, idx, one, KS, getS, getO, gS, zipN, dropW, takeW, wds, stvs, refs, refsL, refsEls, refsO, isPureEls, noExtEls, cellsL, ren, renL, renEls, putW, putB, putB1, renO, -getElem?_pos]
end
section
attribute [local congr] bnd_cg bndO_cg br_cg
theorem k_hdp (o v i f : Nat) (b : Option Nat) (r : List PV) : hd1 (some (.p o v i f b :: r)) = some (.p o v i f b) := rfl
theorem k_hdnp (r : List PV) : hd1 (some (.np :: r)) = some .np := rfl
theorem k_enp (neg : Bool) (o v i f : Nat) (b : Option Nat) : eNp neg (.p o v i f b) = some (.b neg) := rfl
theorem k_ennp (neg : Bool) : eNp neg .np = some (.b (!neg)) := rfl
def KF := And.intro @k_ncp (And.intro @k_hdp (And.intro @k_hdnp (And.intro @k_enp @k_ennp)))
theorem V35_0 (N d : Nat) (a2 a3 a4 a5 a6 a7 a8 : Int) (a9 : List Int) : sem tab (N + 6) (d + 3) 55 [.agg (frC ⟨0, a2, a3, a4, a5, a6, a7, a8, a9⟩)] [] = some (.agg (frC (bareF ⟨0, a2, a3, a4, a5, a6, a7, a8, a9⟩)), []) := by
  kernel_rfl
theorem V35_1 (N d : Nat) (a2 a3 a4 a5 a6 a7 a8 : Int) (a9 : List Int) : sem tab (N + 6) (d + 3) 55 [.agg (frC ⟨1, a2, a3, a4, a5, a6, a7, a8, a9⟩)] [] = some (.agg (frC (bareF ⟨1, a2, a3, a4, a5, a6, a7, a8, a9⟩)), []) := by
  kernel_rfl
theorem V35_2 (N d : Nat) (a2 a3 a4 a5 a6 a7 a8 : Int) (a9 : List Int) : sem tab (N + 6) (d + 3) 55 [.agg (frC ⟨2, a2, a3, a4, a5, a6, a7, a8, a9⟩)] [] = some (.agg (frC (bareF ⟨2, a2, a3, a4, a5, a6, a7, a8, a9⟩)), []) := by
  kernel_rfl
theorem V35_3 (N d : Nat) (a2 a3 a4 a5 a6 a7 a8 : Int) (a9 : List Int) : sem tab (N + 6) (d + 3) 55 [.agg (frC ⟨3, a2, a3, a4, a5, a6, a7, a8, a9⟩)] [] = some (.agg (frC (bareF ⟨3, a2, a3, a4, a5, a6, a7, a8, a9⟩)), []) := by
  kernel_rfl
theorem V35_4 (N d : Nat) (a2 a3 a4 a5 a6 a7 a8 : Int) (a9 : List Int) : sem tab (N + 6) (d + 3) 55 [.agg (frC ⟨4, a2, a3, a4, a5, a6, a7, a8, a9⟩)] [] = some (.agg (frC (bareF ⟨4, a2, a3, a4, a5, a6, a7, a8, a9⟩)), []) := by
  kernel_rfl
theorem V35_5 (N d : Nat) (a2 a3 a4 a5 a6 a7 a8 : Int) (a9 : List Int) : sem tab (N + 6) (d + 3) 55 [.agg (frC ⟨5, a2, a3, a4, a5, a6, a7, a8, a9⟩)] [] = some (.agg (frC (bareF ⟨5, a2, a3, a4, a5, a6, a7, a8, a9⟩)), []) := by
  kernel_rfl
theorem V35_6 (N d : Nat) (a2 a3 a4 a5 a6 a7 a8 : Int) (a9 : List Int) : sem tab (N + 6) (d + 3) 55 [.agg (frC ⟨6, a2, a3, a4, a5, a6, a7, a8, a9⟩)] [] = some (.agg (frC (bareF ⟨6, a2, a3, a4, a5, a6, a7, a8, a9⟩)), []) := by
  kernel_rfl
theorem V35 (N d : Nat) (f : Fra) (hk : inB f.kind 0 6 = true) : sem tab (N + 6) (d + 3) 55 [.agg (frC f)] [] = some (.agg (frC (bareF f)), []) := by
  have hk := kinds hk
  obtain ⟨a1, a2, a3, a4, a5, a6, a7, a8, a9⟩ := f
  simp only at hk
  rcases hk with e | e | e | e | e | e | e <;> subst e
  · exact V35_0 ..
  · exact V35_1 ..
  · exact V35_2 ..
  · exact V35_3 ..
  · exact V35_4 ..
  · exact V35_5 ..
  · exact V35_6 ..
theorem V33p (N d : Nat) (a c : Int) : sem tab N (d + 1) 53 [.i .i64 a, .i .i64 c] [] = some (.b (inB a 0 c), []) := by
  rw [sem_succ tab N d 53 m53 rfl]
  by_cases h : 0 ≤ a <;> simp -implicitDefEqProofs (disch := first | omega | rfl) [m53, inB, h, KS, getS, gS, zipN, refs, -getElem?_pos]
theorem cav33 (N d : Nat) (ob : OB) (n : Nat) (a c : Int) : cav (sem tab N (d + 1)) ob n false (.fn 53 [] []) [.i .i64 a, .i .i64 c] = some (.b (inB a 0 c), []) := by
  have h := V33p N d a c
  have e : reifies ob [PV.i .i64 a, .i .i64 c] = some ([.i .i64 a, .i .i64 c], []) := by simp [reifies, reify, reify0]
  have r : reach ob 20 (refsL [PV.i .i64 a, .i .i64 c]) [] = some [] := by simp [refsL, refs, reach]
  simp only [cav, List.nil_append, List.append_nil]
  unfold ca
  simp only [hand, Bool.false_eq_true, if_false, e, r, h]
  simp [back0, ren]
theorem V34k (N d : Nat) (a : Int) : sem tab N (d + 1) 54 [.i .i64 a] [] = some (.b (inB a 0 6), []) := by
  rw [sem_succ tab N d 54 m54 rfl]
  have e : decide (a < 7) = decide (a ≤ 6) := by
    by_cases h : a ≤ 6
    · rw [decide_eq_true h, decide_eq_true (by omega)]
    · rw [decide_eq_false h, decide_eq_false (by omega)]
  by_cases h : 0 ≤ a <;> simp -implicitDefEqProofs (disch := first | omega | rfl) [m54, inB, h, e, KS, getS, gS, zipN, refs, -getElem?_pos]
theorem eqIs_uL : ∀ (xs ys : List Int), xs.length = ys.length → eqIs (uL xs) (uL ys) = some (decide (xs = ys))
  | [], [], _ => by simp [uL, eqIs]
  | [], _ :: _, h => by simp at h
  | _ :: _, [], h => by simp at h
  | x :: r, y :: s, h => by
    have := eqIs_uL r s (by simpa using h)
    simp only [uL] at this
    simp only [uL, List.map_cons, eqIs, eqI, this]
    by_cases e : x = y
    · subst e; simp
    · simp [e]
theorem eSt_fr (f g : Fra) (hf : f.tag.length = 32) (hg : g.tag.length = 32) : eSt false [.i, .i, .i, .i, .i, .i, .i, .i, .a 32] (.agg (frC f)) (.agg (frC g)) = some (.b (eqFr f g)) := by
  have h := eqIs_uL f.tag g.tag (by rw [hf, hg])
  simp only [eSt, frC, eqSh, eqS1, andRR, andR, and_self, h, notR, eqFr]
  simp
theorem bareF_tag (f : Fra) (h : f.tag.length = 32) : (bareF f).tag.length = 32 := by
  unfold bareF
  repeat' split
  all_goals first | exact z32_len | exact h
set_option maxHeartbeats 8000000 in
theorem V19 (N d : Nat) (f : Fra) (ht : f.tag.length = 32) : sem tab (N + 6) (d + 4) 40 [.agg (frC f)] [] = some (.b (plainF f), []) := by
  rw [sem_succ tab (N + 6) (d + 3) 40 m40 rfl]
  have h34 := V34k (N + 6) (d + 2) f.kind
  have hc := cav33 (N + 6) (d + 2)
  have h35 := fun hk => V35 N d f hk
  have he := eSt_fr (bareF f) f (bareF_tag f ht) ht
  obtain ⟨a1, a2, a3, a4, a5, a6, a7, a8, a9⟩ := f
  simp only [plainF] at *
  generalize bareF ⟨a1, a2, a3, a4, a5, a6, a7, a8, a9⟩ = w at *
  obtain ⟨b1, b2, b3, b4, b5, b6, b7, b8, b9⟩ := w
  simp only [frC] at *
  generalize uL b9 = p at *
  generalize uL a9 = q at *
  generalize eqFr ⟨b1, b2, b3, b4, b5, b6, b7, b8, b9⟩ ⟨a1, a2, a3, a4, a5, a6, a7, a8, a9⟩ = z at *
  cases c0 : inB a1 0 6
  · simp -implicitDefEqProofs (maxSteps := 1000000) (disch := first | omega | rfl) [m40, h34, c0, boxO, KS, getS, getO, gS, zipN, dropW, takeW, wds, refs, refsL, noExt, ren, boxO, -getElem?_pos]
  have h35 := h35 c0
  cases c1 : inB a2 0 255
  · simp -implicitDefEqProofs (maxSteps := 1000000) (disch := first | omega | rfl) [m40, h34, hc, c0, c1, boxO, KS, getS, getO, gS, zipN, dropW, takeW, wds, refs, refsL, noExt, ren, boxO, -getElem?_pos]
  cases c2 : inB a5 0 1073741824
  · simp -implicitDefEqProofs (maxSteps := 1000000) (disch := first | omega | rfl) [m40, h34, hc, c0, c1, c2, boxO, KS, getS, getO, gS, zipN, dropW, takeW, wds, refs, refsL, noExt, ren, boxO, -getElem?_pos]
  cases c3 : inB a7 0 255
  · simp -implicitDefEqProofs (maxSteps := 1000000) (disch := first | omega | rfl) [m40, h34, hc, c0, c1, c2, c3, boxO, KS, getS, getO, gS, zipN, dropW, takeW, wds, refs, refsL, noExt, ren, boxO, -getElem?_pos]
  cases c4 : inB a8 0 65535
  · simp -implicitDefEqProofs (maxSteps := 1000000) (disch := first | omega | rfl) [m40, h34, hc, c0, c1, c2, c3, c4, boxO, KS, getS, getO, gS, zipN, dropW, takeW, wds, refs, refsL, noExt, ren, boxO, -getElem?_pos]
  · simp -implicitDefEqProofs (maxSteps := 1000000) (disch := first | omega | rfl) [m40, h34, hc, c0, c1, c2, c3, c4, h35, he, boxO, KS, getS, getO, gS, zipN, dropW, takeW, wds, refs, refsL, noExt, noExts, ren, renL, boxO, -getElem?_pos]
end
section
attribute [local congr] bnd_cg bndO_cg br_cg
theorem k_ca22 (Φ : Sem') (ob : OB) (d o k : Nat) (f : Fra) (t : Bool) (hk : inB f.kind 0 6 = true) (h0 : getO ob o = some (fbox f)) (h1 : getO ob d = none)
    (H : Φ k [.p 0 0 0 0 none] [fbox f] = some (.tup [.sl 1 0 0 (slF 0 f.kind).length, .b t], [fbox f, rowS (slF 0 f.kind) (cpF f.kind)])) :
    ca Φ ob d false k [.p o 0 0 0 none] = some (.tup [.sl d 0 0 (slF 0 f.kind).length, .b t], [(d, rowS (slF o f.kind) (cpF f.kind)), (o, fbox f)]) := by
  have hk := kinds hk
  obtain ⟨a1, a2, a3, a4, a5, a6, a7, a8, a9⟩ := f
  simp only at hk
  rcases hk with e | e | e | e | e | e | e <;> subst e <;> simp only [fbox, frC, rowS, sU, sN, box, slF, cpF] at h0 H ⊢ <;>
  simp [ca, hand, reifies, reify, reify0, refs, refsL, refsEls, refsO, reach, h0, h1, getOs, idx, renL, ren, renEls, renO, H, back, putOs, newOs, nth, noExt, noExts]
theorem k_ca22x (Φ : Sem') (ob : OB) (d o k : Nat) (f : Fra) (h0 : getO ob o = some (fbox f))
    (H : Φ k [.p 0 0 0 0 none] [fbox f] = some (.tup [.e true, .b false], [fbox f])) :
    ca Φ ob d false k [.p o 0 0 0 none] = some (.tup [.e true, .b false], [(o, fbox f)]) := by
  obtain ⟨a1, a2, a3, a4, a5, a6, a7, a8, a9⟩ := f
  simp only [fbox, frC, box] at h0 H ⊢
  simp [ca, hand, reifies, reify, reify0, refs, refsL, refsEls, refsO, reach, h0, getOs, idx, renL, ren, renEls, renO, H, back, putOs, newOs, noExt, noExts]
theorem wu64 {n : Int} (h0 : 0 ≤ n) (h1 : n < 18446744073709551616) : IntKind.u64.wrap n = n := by rw [IntKind.wrap_u64]; omega
theorem uz32 : uL z32 = List.replicate 32 (.i .u8 0) := rfl
def sl20f (t : Bool) (sz : Int) (n : Nat) : SL := [(5, .b t), (6, .i .i64 sz), (7, .sl 240 n 0 (n + 2)), (23, .sl 176 0 0 n), (24, .i .i64 n), (25, .i .i64 n)]
def ob20f (k : Int) (f : Fra) (n : Nat) (l : List (List PV)) : OB := [(72, fbox f), (176, rowS (slF 72 k) (cpF k)), (240, { els := [.i .u64 0, .i .i64 0] :: [.i .u64 (IntKind.u64.wrap k), .i .i64 1] :: l, w := 2, pu := true, g := true, cap := none, ver := n, fro := false })]
theorem T20_0 (N d : Nat) (a2 a3 a4 a5 a6 a7 a8 : Int) (a9 : List Int) : m41 (sem tab (N + 100) (d + 3)) (N + 100) [.agg (frC ⟨0, a2, a3, a4, a5, a6, a7, a8, a9⟩)] [] = m41b0 (sem tab (N + 100) (d + 3)) (N + 100) [] (loopC (m41b0 (sem tab (N + 100) (d + 3)) (N + 100) []) (N + 97)) (sl20f false 10 2) (ob20f 0 ⟨0, a2, a3, a4, a5, a6, a7, a8, a9⟩ 2 [[.i .u64 (IntKind.u64.wrap a2), .i .i64 1], [.i .u64 a4, .i .i64 8]]) := by
  kernel_rfl
theorem T20_1 (N d : Nat) (a2 a3 a4 a5 a6 a7 a8 : Int) (a9 : List Int) : m41 (sem tab (N + 100) (d + 3)) (N + 100) [.agg (frC ⟨1, a2, a3, a4, a5, a6, a7, a8, a9⟩)] [] = m41b0 (sem tab (N + 100) (d + 3)) (N + 100) [] (loopC (m41b0 (sem tab (N + 100) (d + 3)) (N + 100) []) (N + 97)) (sl20f false 13 2) (ob20f 1 ⟨1, a2, a3, a4, a5, a6, a7, a8, a9⟩ 2 [[.i .u64 a3, .i .i64 8], [.i .u64 (IntKind.u64.wrap a5), .i .i64 4]]) := by
  kernel_rfl
theorem T20_2 (N d : Nat) (a2 a3 a4 a5 a6 a7 a8 : Int) (a9 : List Int) : m41 (sem tab (N + 100) (d + 3)) (N + 100) [.agg (frC ⟨2, a2, a3, a4, a5, a6, a7, a8, a9⟩)] [] = m41b0 (sem tab (N + 100) (d + 3)) (N + 100) [] (loopC (m41b0 (sem tab (N + 100) (d + 3)) (N + 100) []) (N + 98)) (sl20f true 9 1) (ob20f 2 ⟨2, a2, a3, a4, a5, a6, a7, a8, a9⟩ 1 [[.i .u64 a3, .i .i64 8]]) := by
  kernel_rfl
theorem T20_3 (N d : Nat) (a2 a3 a4 a5 a6 a7 a8 : Int) (a9 : List Int) : m41 (sem tab (N + 100) (d + 3)) (N + 100) [.agg (frC ⟨3, a2, a3, a4, a5, a6, a7, a8, a9⟩)] [] = m41b0 (sem tab (N + 100) (d + 3)) (N + 100) [] (loopC (m41b0 (sem tab (N + 100) (d + 3)) (N + 100) []) (N + 98)) (sl20f true 9 1) (ob20f 3 ⟨3, a2, a3, a4, a5, a6, a7, a8, a9⟩ 1 [[.i .u64 a3, .i .i64 8]]) := by
  kernel_rfl
theorem T20_4 (N d : Nat) (a2 a3 a4 a5 a6 a7 a8 : Int) (a9 : List Int) : m41 (sem tab (N + 100) (d + 3)) (N + 100) [.agg (frC ⟨4, a2, a3, a4, a5, a6, a7, a8, a9⟩)] [] = m41b0 (sem tab (N + 100) (d + 3)) (N + 100) [] (loopC (m41b0 (sem tab (N + 100) (d + 3)) (N + 100) []) (N + 95)) (sl20f true 20 4) (ob20f 4 ⟨4, a2, a3, a4, a5, a6, a7, a8, a9⟩ 4 [[.i .u64 a3, .i .i64 8], [.i .u64 a6, .i .i64 8], [.i .u64 (IntKind.u64.wrap a7), .i .i64 1], [.i .u64 (IntKind.u64.wrap a8), .i .i64 2]]) := by
  kernel_rfl
theorem T20_5 (N d : Nat) (a2 a3 a4 a5 a6 a7 a8 : Int) (a9 : List Int) : m41 (sem tab (N + 100) (d + 3)) (N + 100) [.agg (frC ⟨5, a2, a3, a4, a5, a6, a7, a8, a9⟩)] [] = m41b0 (sem tab (N + 100) (d + 3)) (N + 100) [] (loopC (m41b0 (sem tab (N + 100) (d + 3)) (N + 100) []) (N + 95)) (sl20f true 20 4) (ob20f 5 ⟨5, a2, a3, a4, a5, a6, a7, a8, a9⟩ 4 [[.i .u64 a3, .i .i64 8], [.i .u64 a6, .i .i64 8], [.i .u64 (IntKind.u64.wrap a7), .i .i64 1], [.i .u64 (IntKind.u64.wrap a8), .i .i64 2]]) := by
  kernel_rfl
theorem T20_6 (N d : Nat) (a2 a3 a4 a5 a6 a7 a8 : Int) (a9 : List Int) : m41 (sem tab (N + 100) (d + 3)) (N + 100) [.agg (frC ⟨6, a2, a3, a4, a5, a6, a7, a8, a9⟩)] [] = m41b0 (sem tab (N + 100) (d + 3)) (N + 100) [] (loopC (m41b0 (sem tab (N + 100) (d + 3)) (N + 100) []) (N + 98)) (sl20f false 2 1) (ob20f 6 ⟨6, a2, a3, a4, a5, a6, a7, a8, a9⟩ 1 [[.i .u64 (IntKind.u64.wrap a7), .i .i64 1]]) := by
  kernel_rfl
set_option maxHeartbeats 16000000 in
theorem V20 (N d : Nat) (f : Fra) (h : PlF f) (o : okF f) : sem tab (N + 100) (d + 4) 41 [.agg (frC f)] [] = some (.tup [.sl 0 0 0 (aheadF f.kind), .b (tagdF f.kind)], [row (byL (frontF f)) 1 true]) := by
  rw [sem_succ tab (N + 100) (d + 3) 41 m41 rfl]
  have h36 := U39c N d (allF f) (by have := numsF_len f; simp only [allF, List.length_cons]; omega) (okNu_allF f h o)
  rw [fitAll_allF f h o, cond_true, show catB (allF f) = frontF f from rfl, frontF_len] at h36
  have hl := byL_len (frontF f)
  rw [frontF_len] at hl
  have ht : List.take (aheadF f.kind) (byL (frontF f)) = byL (frontF f) := List.take_of_length_le (by omega)
  have hk := kinds h.kind
  obtain ⟨_, p2, p3, p4, p5, _⟩ := h
  have u2 := wu64 p2.1 (by omega)
  have u3 := wu64 p3.1 (by omega)
  have u4 := wu64 p4.1 (by omega)
  have u5 := wu64 p5.1 (by omega)
  have v0 : IntKind.u64.wrap 0 = 0 := by decide
  have v1 : IntKind.u64.wrap 1 = 1 := by decide
  have v2 : IntKind.u64.wrap 2 = 2 := by decide
  have v3 : IntKind.u64.wrap 3 = 3 := by decide
  have v4 : IntKind.u64.wrap 4 = 4 := by decide
  have v5 : IntKind.u64.wrap 5 = 5 := by decide
  have v6 : IntKind.u64.wrap 6 = 6 := by decide
  have x1 : IntKind.u64.wrap 10 = 10 := by decide
  have x2 : IntKind.u64.wrap 13 = 13 := by decide
  have x3 : IntKind.u64.wrap 41 = 41 := by decide
  have x4 : IntKind.u64.wrap 52 = 52 := by decide
  generalize byL (frontF f) = b at *
  clear p2 p3 p4 p5 o
  obtain ⟨a1, a2, a3, a4, a5, a6, a7, a8, a9⟩ := f
  simp only at *
  rcases hk with e | e | e | e | e | e | e <;> subst e
  · rw [T20_0]
    simp only [sl20f, ob20f, fbox, frC, rowS, sU, sN, box, slF, cpF, tagdF, inB, nuL, allF, numsF, szF, aheadF, row] at h36 hl ht ⊢
    generalize uL a9 = q at *
    generalize loopC (m41b0 (sem tab (N + 100) (d + 3)) (N + 100) []) _ = g
    simp at h36 hl ht
    simp -implicitDefEqProofs (maxSteps := 1000000) (disch := first | omega | rfl) [m41b0, u2, v0, x1, hl, ht, h36, boxO, fin, resOs, refsOuts, outOs, resO, one, KS, getS, getO, gS, dropW, takeW, wds, stvs, sea, refs, refsL, isPureEls, noExt, noExts, noExtEls, cellsL, ren, renL, boxO, row, putW, putB, putB1, newOs, renO, noExtO, w64, -getElem?_pos, k_cnt, k_cnt0]
  · rw [T20_1]
    simp only [sl20f, ob20f, fbox, frC, rowS, sU, sN, box, slF, cpF, tagdF, inB, nuL, allF, numsF, szF, aheadF, row] at h36 hl ht ⊢
    generalize uL a9 = q at *
    generalize loopC (m41b0 (sem tab (N + 100) (d + 3)) (N + 100) []) _ = g
    simp at h36 hl ht
    simp -implicitDefEqProofs (maxSteps := 1000000) (disch := first | omega | rfl) [m41b0, u3, v1, x2, hl, ht, h36, boxO, fin, resOs, refsOuts, outOs, resO, one, KS, getS, getO, gS, dropW, takeW, wds, stvs, sea, refs, refsL, isPureEls, noExt, noExts, noExtEls, cellsL, ren, renL, boxO, row, putW, putB, putB1, newOs, renO, noExtO, w64, -getElem?_pos, k_cnt, k_cnt0]
  · rw [T20_2]
    simp only [sl20f, ob20f, fbox, frC, rowS, sU, sN, box, slF, cpF, tagdF, inB, nuL, allF, numsF, szF, aheadF, row] at h36 hl ht ⊢
    generalize uL a9 = q at *
    generalize loopC (m41b0 (sem tab (N + 100) (d + 3)) (N + 100) []) _ = g
    simp at h36 hl ht
    simp -implicitDefEqProofs (maxSteps := 1000000) (disch := first | omega | rfl) [m41b0, v2, x3, hl, ht, h36, boxO, fin, resOs, refsOuts, outOs, resO, one, KS, getS, getO, gS, dropW, takeW, wds, stvs, sea, refs, refsL, isPureEls, noExt, noExts, noExtEls, cellsL, ren, renL, boxO, row, putW, putB, putB1, newOs, renO, noExtO, w64, -getElem?_pos, k_cnt, k_cnt0]
  · rw [T20_3]
    simp only [sl20f, ob20f, fbox, frC, rowS, sU, sN, box, slF, cpF, tagdF, inB, nuL, allF, numsF, szF, aheadF, row] at h36 hl ht ⊢
    generalize uL a9 = q at *
    generalize loopC (m41b0 (sem tab (N + 100) (d + 3)) (N + 100) []) _ = g
    simp at h36 hl ht
    simp -implicitDefEqProofs (maxSteps := 1000000) (disch := first | omega | rfl) [m41b0, v3, x3, hl, ht, h36, boxO, fin, resOs, refsOuts, outOs, resO, one, KS, getS, getO, gS, dropW, takeW, wds, stvs, sea, refs, refsL, isPureEls, noExt, noExts, noExtEls, cellsL, ren, renL, boxO, row, putW, putB, putB1, newOs, renO, noExtO, w64, -getElem?_pos, k_cnt, k_cnt0]
  · rw [T20_4]
    simp only [sl20f, ob20f, fbox, frC, rowS, sU, sN, box, slF, cpF, tagdF, inB, nuL, allF, numsF, szF, aheadF, row] at h36 hl ht ⊢
    generalize uL a9 = q at *
    generalize loopC (m41b0 (sem tab (N + 100) (d + 3)) (N + 100) []) _ = g
    simp at h36 hl ht
    simp -implicitDefEqProofs (maxSteps := 1000000) (disch := first | omega | rfl) [m41b0, u4, u5, v4, x4, hl, ht, h36, boxO, fin, resOs, refsOuts, outOs, resO, one, KS, getS, getO, gS, dropW, takeW, wds, stvs, sea, refs, refsL, isPureEls, noExt, noExts, noExtEls, cellsL, ren, renL, boxO, row, putW, putB, putB1, newOs, renO, noExtO, w64, -getElem?_pos, k_cnt, k_cnt0]
  · rw [T20_5]
    simp only [sl20f, ob20f, fbox, frC, rowS, sU, sN, box, slF, cpF, tagdF, inB, nuL, allF, numsF, szF, aheadF, row] at h36 hl ht ⊢
    generalize uL a9 = q at *
    generalize loopC (m41b0 (sem tab (N + 100) (d + 3)) (N + 100) []) _ = g
    simp at h36 hl ht
    simp -implicitDefEqProofs (maxSteps := 1000000) (disch := first | omega | rfl) [m41b0, u4, u5, v5, x4, hl, ht, h36, boxO, fin, resOs, refsOuts, outOs, resO, one, KS, getS, getO, gS, dropW, takeW, wds, stvs, sea, refs, refsL, isPureEls, noExt, noExts, noExtEls, cellsL, ren, renL, boxO, row, putW, putB, putB1, newOs, renO, noExtO, w64, -getElem?_pos, k_cnt, k_cnt0]
  · rw [T20_6]
    simp only [sl20f, ob20f, fbox, frC, rowS, sU, sN, box, slF, cpF, tagdF, inB, nuL, allF, numsF, szF, aheadF, row] at h36 hl ht ⊢
    generalize uL a9 = q at *
    generalize loopC (m41b0 (sem tab (N + 100) (d + 3)) (N + 100) []) _ = g
    simp at h36 hl ht
    simp -implicitDefEqProofs (maxSteps := 1000000) (disch := first | omega | rfl) [m41b0, u4, v2, v6, hl, ht, h36, boxO, fin, resOs, refsOuts, outOs, resO, one, KS, getS, getO, gS, dropW, takeW, wds, stvs, sea, refs, refsL, isPureEls, noExt, noExts, noExtEls, cellsL, ren, renL, boxO, row, putW, putB, putB1, newOs, renO, noExtO, w64, -getElem?_pos, k_cnt, k_cnt0]
end
section
attribute [local congr] bnd_cg bndO_cg br_cg
section
variable (ob : OB) (o i n v : Nat)
theorem k_slcAl : slc ob (.arr n) (.p o 0 0 i none) none none none = slB o i 0 n (some 0) (some n) := rfl
theorem k_slBl : slB o i 0 32 (some 0) (some 32) = some (.bs o i 0 32, []) := by simp [slB]
theorem k_cont_bsf (m : Nat) : cont ob (.bs o v i m) = contB (blobAt (atO (getO ob o) 0 0 v)) i m := rfl
theorem k_contBs (xs : List PV) : contB (some xs) o n = if o + n ≤ xs.length then some (true, ((xs.drop o).take n).map fun v => [v]) else none := rfl
theorem k_blobAts (xs r : List PV) : blobAt (some (.blob n xs :: r)) = some xs := rfl
def KVl := And.intro @k_slcAl (And.intro @k_slBl (And.intro @k_cont_bsf (And.intro @k_contBs @k_blobAts)))
end
theorem take_uf (h : List Int) (hl : h.length = 32) : ((uL h).drop 0).take 32 = uL h := by
  rw [List.drop_zero]; exact List.take_of_length_le (by simp [uL, hl])
theorem map_uf (h : List Int) : (uL h).map (fun v => [v]) = byL h := by simp [uL, byL]
theorem aheadF_le (k : Int) : 4 ≤ aheadF k ∧ aheadF k ≤ 22 := by
  unfold aheadF
  repeat' split
  all_goals omega
set_option maxHeartbeats 8000000 in
theorem V10 (N d : Nat) (f : Fra) (o : okF f) : sem tab (N + 100) (d + 5) 23 [.agg (frC f)] [] = cond (plainF f) (some (.tup [.sl 0 0 0 (putF f).length, .b true], [row (byL (putF f)) 1 true])) (some (.tup [.sl 0 0 0 0, .b false], [row [] 1 true])) := by
  rw [sem_succ tab (N + 100) (d + 4) 23 m23 rfl]
  have h19 := V19 (N + 94) d f o.tag
  rw [show N + 94 + 6 = N + 100 by omega] at h19
  cases hp : plainF f
  · rw [hp] at h19
    obtain ⟨a1, a2, a3, a4, a5, a6, a7, a8, a9⟩ := f
    simp only [frC, cond_false, row] at h19 ⊢
    generalize uL a9 = q at *
    simp -implicitDefEqProofs (maxSteps := 1000000) (disch := first | omega | rfl) [m23, h19, boxO, KS, getS, getO, gS, zipN, dropW, takeW, wds, refs, refsL, noExt, ren, boxO, row, -getElem?_pos]
  · rw [hp] at h19
    have h20 := V20 N d f ((plainF_iff f).1 hp) o
    have hl := byL_len (frontF f)
    rw [frontF_len] at hl
    have hpl : (putF f).length = (frontF f).length + (cond (tagdF f.kind) f.tag []).length := by simp [putF]
    have hpb : byL (putF f) = byL (frontF f) ++ byL (cond (tagdF f.kind) f.tag []) := by simp [putF, byL]
    rw [frontF_len] at hpl
    have ha := aheadF_le f.kind
    have tu := take_uf f.tag o.tag
    have tu0 : (uL f.tag).take 32 = uL f.tag := by rw [← List.drop_zero (l := uL f.tag)]; exact tu
    have mu := map_uf f.tag
    have tl := byL_len f.tag
    have ul := uL_len f.tag
    rw [o.tag] at tl ul
    have hot := o.tag
    cases ht : tagdF f.kind
    · rw [ht] at h20 hpl hpb
      simp only [cond_false, cond_true, List.length_nil, Nat.add_zero, byL, List.map_nil, List.append_nil] at hpl hpb ⊢
      simp only [byL] at h20 hl
      rw [hpl, hpb]
      have t1 : List.take (aheadF f.kind) (List.map (fun n => [PV.i .u8 n]) (frontF f)) = List.map (fun n => [PV.i .u8 n]) (frontF f) := List.take_of_length_le (by omega)
      generalize List.map (fun n => [PV.i .u8 n]) (frontF f) = b at *
      generalize aheadF f.kind = n at *
      obtain ⟨a1, a2, a3, a4, a5, a6, a7, a8, a9⟩ := f
      simp only [frC, row] at h19 h20 ⊢
      generalize uL a9 = q at *
      simp -implicitDefEqProofs (maxSteps := 1000000) (disch := first | omega | rfl) [m23, h19, h20, hl, t1, boxO, KS, getS, getO, gS, zipN, dropW, takeW, wds, refs, refsL, noExt, noExts, ren, renL, boxO, row, newOs, renO, noExtO, -getElem?_pos, k_cnt, k_cnt0]
    · rw [ht] at h20 hpl hpb
      simp only [cond_true, hot] at hpl hpb ⊢
      rw [hpl, hpb]
      have t1 : List.take (aheadF f.kind) (byL (frontF f)) = byL (frontF f) := List.take_of_length_le (by omega)
      have t2 : List.take (aheadF f.kind + 32) (byL (frontF f) ++ byL f.tag) = byL (frontF f) ++ byL f.tag := List.take_of_length_le (by simp [hl, tl])
      have g1 : ¬ (aheadF f.kind + 32 ≤ aheadF f.kind) := by omega
      have g2 : aheadF f.kind + 32 ≤ 4294967296 := by omega
      have wt := allW_by f.tag
      have ft := flat_by f.tag
      generalize byL (frontF f) = b at *
      generalize byL f.tag = c at *
      generalize aheadF f.kind = n at *
      clear hot
      obtain ⟨a1, a2, a3, a4, a5, a6, a7, a8, a9⟩ := f
      simp only [frC, row] at *
      generalize uL a9 = q at *
      simp -implicitDefEqProofs (maxSteps := 1000000) (disch := first | omega | rfl) [m23, h19, h20, hl, tl, ul, tu0, mu, t1, t2, g1, g2, wt, ft, boxO, KVl, KS, getS, getO, gS, zipN, dropW, takeW, wds, refs, refsL, noExt, noExts, ren, renL, boxO, row, newOs, renO, noExtO, two32, -getElem?_pos, k_cnt, k_cnt0]
end
end Go.Proofs.Ytnkapponcbgbhaa
