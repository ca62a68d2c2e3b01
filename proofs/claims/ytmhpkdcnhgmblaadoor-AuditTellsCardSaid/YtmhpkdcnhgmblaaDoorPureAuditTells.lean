import Derived.Test.YtmhpkdcnhgmblaaDoorPgD
set_option linter.all false
set_option linter.unusedSimpArgs false
set_option linter.unusedVariables false
namespace Go.Proofs.YtmhpkdcnhgmblaaDoor
open Go
def loM (g1 g2 : Bool) (l : Lo) : List PV := [.i .i64 l.1.1, .l g1 (byL l.1.2.1), .i .i64 l.1.2.2, .l g2 (enL l.2.1), .blob 32 (uL l.2.2)]
theorem addQ_M (l : Lo) (e : En) (urg : Bool) : ∃ g1 g2, addQ l e urg = some (.tup [.agg (loM g1 g2 (addR l e urg).1), .i .i64 (addR l e urg).2], []) := by
  unfold addQ addR
  cases mayG l && mayE e
  · exact ⟨false, false, rfl⟩
  · cases decide ((l.2.1.length : Int) < slots l.1.1) && (!(waitN l == 0) || urg)
    · exact ⟨false, false, rfl⟩
    · exact ⟨false, true, rfl⟩
noncomputable def openA (s : So) : Lo × Int := cond (mayS s) (openL s, 0) (zeLo, 1)
theorem openP_M (s : So) : cond (mayS s) (loR (openL s) 0) (loR zeLo 1) = loR (openA s).1 (openA s).2 := by unfold openA; cases mayS s <;> rfl
theorem openQ_M (s : So) : ∃ g1 g2, cond (mayS s) (some (.tup [.agg [.i .i64 (openL s).1.1, .l false (byL (openL s).1.2.1), .i .i64 (openL s).1.2.2, .l true (enL (openL s).2.1), .blob 32 (uL (openL s).2.2)], .i .i64 0], [])) (loR zeLo 1) = (some (.tup [.agg (loM g1 g2 (openA s).1), .i .i64 (openA s).2], []) : Option R) := by
  unfold openA; cases mayS s
  · exact ⟨true, true, rfl⟩
  · exact ⟨false, true, rfl⟩
noncomputable def newA (r : Int) : Lo × Bool := cond (mayS (r, [], 0)) (((r, [], 0), [], h0), true) (zeLo, false)
theorem newP_M (r : Int) : cond (mayS (r, [], 0)) (some (.tup [.agg (loC true ((r, [], 0), [], h0)), .b true], [])) (some (.tup [.agg (loC true zeLo), .b false], [])) = (some (.tup [.agg (loC true (newA r).1), .b (newA r).2], []) : Option R) := by
  unfold newA; cases mayS (r, [], 0) <;> rfl
theorem addR_small {l : Lo} (e : En) (urg : Bool) (hl : l.2.1.length ≤ 30) (hh : l.2.2.length = 32) : (addR l e urg).1.2.1.length < 1000 ∧ (addR l e urg).1.2.2.length = 32 := by
  unfold addR
  cases mayG l && mayE e
  · exact ⟨by simp only [cond_false]; omega, hh⟩
  · cases decide ((l.2.1.length : Int) < slots l.1.1) && (!(waitN l == 0) || urg)
    · exact ⟨by simp only [cond_false, cond_true]; omega, hh⟩
    · exact ⟨by simp only [cond_true, moreG, List.length_append, List.length_singleton]; omega, linkH_len _ _⟩
theorem openA_small {s : So} (hs : s.2.1.length ≤ 2500) (hr : byR s.2.1) : (openA s).1.2.1.length < 1000 ∧ (openA s).1.2.2.length = 32 := by
  unfold openA
  cases mayS s
  · exact ⟨by simp [zeLo], rfl⟩
  · have rl := rdL_le s.2.1 hr
    have := (rd_spec 264 h0 s.2.1 hr).2.2.1
    refine ⟨by simp only [cond_true, openL]; omega, ?_⟩
    simp only [cond_true, openL]
    rw [show rdH s.2.1 = _ from this.symm]
    exact hdL_len _ _ h0_len
theorem newA_small (r : Int) : (newA r).1.2.1.length < 1000 ∧ (newA r).1.2.2.length = 32 := by
  unfold newA
  cases mayS (r, [], 0)
  · exact ⟨by simp [zeLo], rfl⟩
  · exact ⟨by simp, h0_len⟩
theorem same_self {N d : Nat} (A : Lo) (h : A.2.1.length < 1000 ∧ A.2.2.length = 32) : sem tab (N + 1000) (d + 3) 17 [.agg (loC false A), .agg (loC false A)] [] = some (.b true, []) := by
  rw [R17 N d A A h.1 h.2 h.2, sameG_self]
set_option maxHeartbeats 64000000 in
theorem tellsA_law (l m : Lo) (e : En) (urg : Bool) (k : Int) (s : So) (r : Int) (hl : okLo l) (hrH : byR l.2.2) (hm : okLo m) (he : okE e) (hs : okSo s) :
    ∃ out, sem tab 1000 14 3 [.agg (loC false l), .agg (loC false m), .agg (enC e), .b urg, .i .i64 k, .agg (soC false s), .i .i64 r] [] = some (.b true, out) := by
  rw [sem_succ tab 1000 13 3 m3 rfl]
  have h9 := awakeA 0 0
  obtain ⟨hc, hr, ho, hh⟩ := hl
  obtain ⟨hc', hr', ho', hh'⟩ := hm
  obtain ⟨hsc, hsr⟩ := hs
  have hzl : (List.replicate 32 (PV.i IntKind.u8 0)).length = 32 := rfl
  have h10 := V10f 1000 12 l
  have h10' := V10f 1000 12 m
  have lb := byL_len s.2.1
  by_cases f : ((decide ((l.2.1.length : Int) ≤ 30) && decide ((l.1.2.1.length : Int) ≤ 2500)) && (decide ((m.2.1.length : Int) ≤ 30) && decide ((m.1.2.1.length : Int) ≤ 2500))) = true ∧ s.2.1.length ≤ 2500
  case neg =>
    generalize (decide ((l.2.1.length : Int) ≤ 30) && decide ((l.1.2.1.length : Int) ≤ 2500)) = f1 at *
    generalize (decide ((m.2.1.length : Int) ≤ 30) && decide ((m.1.2.1.length : Int) ≤ 2500)) = f2 at *
    obtain ⟨⟨c, D, u⟩, L, H⟩ := l
    obtain ⟨⟨c', D', u'⟩, L', H'⟩ := m
    obtain ⟨cs, Ds, us⟩ := s
    obtain ⟨e1, e2, e3, e4, e5, e6, e7, e8, e9⟩ := e
    simp only [loC, enC, soC] at h10 h10' lb f ⊢
    rw [← lb] at f
    clear lb hsr hr hr' ho ho'
    generalize byL D = b at *
    generalize enL L = a at *
    generalize uL H = q at *
    generalize byL D' = b' at *
    generalize enL L' = a' at *
    generalize uL H' = q' at *
    generalize byL Ds = bs at *
    cases f1
    · simp -implicitDefEqProofs (maxSteps := 1000000) (disch := first | omega | rfl) [m3, h9, h10, h10', KS, getS, getO, gS, zipN, dropW, takeW, wds, refs, refsL, noExt, ren, boxO, -getElem?_pos]
    · cases f2
      · simp -implicitDefEqProofs (maxSteps := 1000000) (disch := first | omega | rfl) [m3, h9, h10, h10', KS, getS, getO, gS, zipN, dropW, takeW, wds, refs, refsL, noExt, ren, boxO, -getElem?_pos]
      · have f3 : (bs.length : Int) > 2500 := by
          have : ¬ bs.length ≤ 2500 := fun hx => f ⟨rfl, hx⟩
          omega
        simp -implicitDefEqProofs (maxSteps := 1000000) (disch := first | omega | rfl) [m3, h9, h10, h10', f3, KS, getS, getO, gS, zipN, dropW, takeW, wds, refs, refsL, noExt, ren, boxO, -getElem?_pos]
  case pos =>
  obtain ⟨f, fs⟩ := f
  rw [Bool.and_eq_true] at f
  obtain ⟨fa, fb⟩ := f
  rw [fa] at h10
  rw [fb] at h10'
  rw [Bool.and_eq_true, decide_eq_true_eq, decide_eq_true_eq] at fa fb
  obtain ⟨f1, f2⟩ := fa
  obtain ⟨f3, f4⟩ := fb
  have h11 := V11a 0 1 l e urg hc (by omega) (by omega) ho he hh
  have h12 := R12g 0 3 l e urg hc (by omega) (by omega) ho he hh hrH
  obtain ⟨a1, a2, ea⟩ := addQ_M l e urg
  rw [ea] at h12
  clear ea
  have s1 := same_self (N := 0) (d := 10) _ (addR_small e urg (by omega) hh)
  have l1 := (addR_small (l := l) e urg (by omega) hh).2
  have h13 := V13o 0 2 s (by omega) hsr
  rw [openP_M] at h13
  have h14 := R14g 0 5 s (by omega) hsr
  obtain ⟨o1, o2, eo⟩ := openQ_M s
  rw [eo] at h14
  clear eo
  have s2 := same_self (N := 0) (d := 10) _ (openA_small fs hsr)
  have l2 := (openA_small fs hsr).2
  have h15 := V15n 0 4 r
  rw [newP_M] at h15
  have h16 := R16g 0 5 r
  rw [newP_M] at h16
  have s3 := same_self (N := 0) (d := 10) _ (newA_small r)
  have l3 := (newA_small r).2
  have h19 := V19t 0 1 l e k hc (by omega) (by omega) ho he hh
  have h20 := R20g 0 4 l e k hc (by omega) (by omega) ho he hh hrH
  have h18 := R18 1000 11 (tornS l e k) (tornS l e k)
  rw [show sameS (tornS l e k) (tornS l e k) = true by simp [sameS]] at h18
  have h22 := V22g 0 3 l (by omega) ho hh
  have h21 := R21 0 5 l (by omega) ho hh
  have h23 := V23g 0 10 l m (by omega) hh hh'
  have h17 := R17 0 10 l m (by omega) hh hh'
  have h24 := V24r 0 2 l hc (by omega) ho hh
  have h25 := R25 0 4 l hc (by omega) ho hh
  have ul1 := uL_len (addR l e urg).1.2.2
  have ul2 := uL_len (openA s).1.2.2
  have ul3 := uL_len (newA r).1.2.2
  have ul4 := uL_len l.2.2
  have ul5 := uL_len m.2.2
  rw [l1] at ul1
  rw [l2] at ul2
  rw [l3] at ul3
  rw [hh] at ul4
  rw [hh'] at ul5
  rw [← lb] at fs
  clear l1 l2 l3 lb f1 f2 f3 f4 hh hh' ho ho' hr hr' hsr hsc hc hc' he
  generalize addR l e urg = A at *
  generalize openA s = O at *
  generalize newA r = W at *
  generalize tornS l e k = T at *
  generalize mayG l = v1 at *
  generalize sameG l m = v2 at *
  generalize roomL l = v3 at *
  obtain ⟨⟨⟨ca, Da, ua⟩, La, Ha⟩, da⟩ := A
  obtain ⟨⟨⟨co, Do, uo⟩, Lo', Ho⟩, do'⟩ := O
  obtain ⟨⟨⟨cw, Dw, uw⟩, Lw, Hw⟩, dw⟩ := W
  obtain ⟨ct, Dt, ut⟩ := T
  obtain ⟨⟨c, D, u⟩, L, H⟩ := l
  obtain ⟨⟨c', D', u'⟩, L', H'⟩ := m
  obtain ⟨cs, Ds, us⟩ := s
  obtain ⟨e1, e2, e3, e4, e5, e6, e7, e8, e9⟩ := e
  simp only [loR, loC, loM, enC, soC] at h10 h10' h11 h12 h13 h14 h15 h16 h17 h18 h19 h20 h21 h22 h23 h24 h25 s1 s2 s3 fs ul1 ul2 ul3 ul4 ul5 ⊢
  generalize byL Da = b1 at *
  generalize enL La = n1 at *
  generalize uL Ha = q1 at *
  generalize byL Do = b2 at *
  generalize enL Lo' = n2 at *
  generalize uL Ho = q2 at *
  generalize byL Dw = b3 at *
  generalize enL Lw = n3 at *
  generalize uL Hw = q3 at *
  generalize byL Dt = b4 at *
  generalize byL D = b at *
  generalize enL L = a at *
  generalize uL H = q at *
  generalize byL D' = b' at *
  generalize enL L' = a' at *
  generalize uL H' = q' at *
  generalize byL Ds = bs at *
  have f3 : ¬ ((bs.length : Int) > 2500) := by omega
  simp -implicitDefEqProofs (maxSteps := 1000000) (disch := first | omega | rfl) [m3, h9, h10, h10', h11, h12, h13, h14, h15, h16, h17, h18, h19, h20, h21, h22, h23, h24, h25, s1, s2, s3, f3, KS, getS, getO, gS, zipN, dropW, takeW, wds, refs, refsL, noExt, noExts, ren, renL, boxO, putW, -getElem?_pos]
set_option maxRecDepth 100000 in
theorem log_ofR {v : PV} (h : TyV Tryd.prog 8 29 v) : ∃ l : Lo, okLo l ∧ byR l.2.2 ∧ v = .agg (loC false l) := by
  obtain ⟨cells, h1, h2⟩ := h
  have h3 := Ty_struct (d := 7) Tryd.underlying29 h1
  simp only [TyFs] at h3
  obtain ⟨a, b, rfl, ha, e, f, rfl, he, g, z, rfl, hg, rfl⟩ := h3
  obtain ⟨s, hs, rfl⟩ := store_of_cells (d := 4) ha
  obtain ⟨rs, rfl, h'⟩ := Ty_slice (d := 6) Tryd.underlying25 he
  have : ∃ l : List En, (∀ e ∈ l, okE e) ∧ rs = enL l := by
    clear h2 h1 he
    induction rs with
    | nil => exact ⟨[], fun n hn => (by cases hn), rfl⟩
    | cons r rs ih =>
      obtain ⟨xs, h1, rfl⟩ := ih (fun x hx => h' x (List.mem_cons_of_mem _ hx))
      obtain ⟨e, he, rfl⟩ := entry_of_cells (d := 3) (h' r (by simp))
      exact ⟨e :: xs, fun m hm => by
        rcases List.mem_cons.1 hm with rfl | hm
        · exact he
        · exact h1 m hm, rfl⟩
  obtain ⟨L, hL, rfl⟩ := this
  obtain ⟨k, ns, hu, hl, rfl, hw⟩ := Ty_array (d := 6) Tryd.underlying27 hg
  rw [Tryd.underlying5] at hu
  injection hu with hu
  injection hu with hu
  subst hu
  rcases h2 with ⟨_, h⟩ | ⟨h, _⟩
  · obtain ⟨c, D, u⟩ := s
    exact ⟨((c, D, u), L, ns), ⟨hs.1, hs.2, hL, hl⟩, fun n hn => u8_of (hw n hn), h⟩
  · simp [aggT, Tryd.underlying29] at h
theorem Pure.AuditTells (us : List PV) (h : TyAll Tryd.prog 8 [29, 29, 33, 4, 3, 24, 3] us) : ∃ N d out, sem tab N d 3 us [] = some (.b true, out) := by
  simp only [TyAll] at h
  obtain ⟨v0, _, rfl, h0, v1, _, rfl, h1, v2, _, rfl, h2, v3, _, rfl, h3, v4, _, rfl, h4, v5, _, rfl, h5, v6, _, rfl, h6, rfl⟩ := h
  obtain ⟨l, hl, hrH, rfl⟩ := log_ofR h0
  obtain ⟨m, hm, rfl⟩ := log_of h1
  obtain ⟨e, he, rfl⟩ := entry_of h2
  obtain ⟨b, rfl⟩ := bool_of h3
  obtain ⟨k, _, _, rfl⟩ := int_of h4
  obtain ⟨s, hs, rfl⟩ := store_of h5
  obtain ⟨r, _, _, rfl⟩ := int_of h6
  obtain ⟨out, h⟩ := tellsA_law l m e b k s r hl hrH hm he hs
  exact ⟨_, _, out, h⟩
end Go.Proofs.YtmhpkdcnhgmblaaDoor
