/- Plain lemmas, part 3. -/
import Derived.Test.YtgpggpbibdnfhaaDoorPgB
set_option linter.all false
set_option linter.unusedSimpArgs false
set_option linter.unusedVariables false
namespace Go.Proofs.YtgpggpbibdnfhaaDoor
open Go
section
attribute [local congr] bnd_cg bndO_cg br_cg
theorem kind_get (k : Int) (bs : List Int) (hk : inB k 0 6 = true) : (getF k bs).kind = k := by
  rcases kinds hk with e | e | e | e | e | e | e <;> subst e <;> rfl
theorem ahead_sz (k : Int) (hk : inB k 0 6 = true) : aheadF k + (cond (tagdF k) 32 0) = szF k + 2 := by
  rcases kinds hk with e | e | e | e | e | e | e <;> subst e <;> rfl
theorem put_get_len (k : Int) (bs : List Int) (hk : inB k 0 6 = true) (hr : ∀ x ∈ bs, 0 ≤ x ∧ x ≤ 255) : (putF (getF k bs)).length = szF k + 2 := by
  rw [putF_len _ (by rw [kind_get k bs hk]; exact hk) (okF_get k bs hr).tag, kind_get k bs hk]
def gdK (k : Int) (bs : List Int) : Bool := plainF (getF k bs) && decide (putF (getF k bs) = bs)
theorem bad11 (k : Int) (bs : List Int) (hk : inB k 0 6 = true) (hr : ∀ x ∈ bs, 0 ≤ x ∧ x ≤ 255) (h : bs.length < aheadF k) : gdK k bs = false := by
  have hl := put_get_len k bs hk hr
  have := ahead_sz k hk
  have ht : (cond (tagdF k) 32 0 : Nat) ≤ 32 := by cases tagdF k <;> decide
  unfold gdK
  by_cases e : putF (getF k bs) = bs
  · rw [e] at hl; omega
  · simp [e]
theorem fin11 (k : Int) (bs : List Int) (hk : inB k 0 6 = true) (hr : ∀ x ∈ bs, 0 ≤ x ∧ x ≤ 255) (at' : Int) (h : bs.length = szF k + 2 → at' = bs.length) (pl : Bool) : (pl && ((at' == (bs.length : Int)) && decide (putF (getF k bs) = bs))) = (pl && decide (putF (getF k bs) = bs)) := by
  by_cases e : putF (getF k bs) = bs
  · have hl := put_get_len k bs hk hr
    rw [e] at hl
    simp [e, h hl]
  · simp [e]
def okR (f : Fra) : Option R := some (.tup [.agg (frC f), .i .i64 0], [])
theorem lp11_0 (M d : Nat) (bs : List Int) (hb : bs.length ≤ 64) (hr : ∀ x ∈ bs, 0 ≤ x ∧ x ≤ 255) : loopC (m18b0 (sem tab (M + 1000) (d + 5)) (M + 1000) []) (M + 1000) (sl11 (byL bs) false 3 2 0) (ob11 0 ⟨0, 0, 0, 0, 0, 0, 0, 0, z32⟩) = cond (gdK 0 bs) (okR (getF 0 bs)) (errR 3) := by
  have hbad := bad11 0 bs rfl hr
  by_cases c0 : 4 ≤ bs.length
  rotate_left
  · have x := V23x (M + 900) (d + 3) false bs 3 1 (by omega) (by omega) (by omega) (by omega)
    rw [k_loop, x11_0_0 _ _ _ _  x, hbad (by show bs.length < 12; omega)]; rfl
  have y0 := V99 (M + 900) (d + 3) false bs 3 1 (by omega) (by omega) hr (by omega)
  have w0 : IntKind.i64.wrap (vAt bs 3 1) = vAt bs 3 1 := by
    have := vAt_range bs hr 3 1 (by decide)
    rw [IntKind.wrap_i64]; omega
  rw [k_loop, s11_0_0 _ _ _ _  (vAt bs 3 1) w0 y0]
  by_cases c1 : 12 ≤ bs.length
  rotate_left
  · have x := V23x (M + 900) (d + 3) false bs 4 8 (by omega) (by omega) (by omega) (by omega)
    rw [k_loop, x11_0_1 _ _ _ _ (vAt bs 3 1) x, hbad (by show bs.length < 12; omega)]; rfl
  have y1 := V99 (M + 900) (d + 3) false bs 4 8 (by omega) (by omega) hr (by omega)
  rw [k_loop, s11_0_1 _ _ _ _ (vAt bs 3 1) (vAt bs 4 8) y1]
  have o := okF_get 0 bs hr
  have h10 := V10 (M + 900) d (getF 0 bs) o
  have pl := put_get_len 0 bs rfl hr
  have sz := szF_le 0
  have h24 := U95 M (d + 4) (putF (getF 0 bs)) bs (by omega)
  have e := e11u (sem tab (M + 1000) (d + 5)) (M + 1000) (loopC (m18b0 (sem tab (M + 1000) (d + 5)) (M + 1000) []) (M + 997)) bs (putF (getF 0 bs)) [(376, rowS (slF 104 0) (cpF 0))] (.sl 376 0 0 2) (getF 0 bs) (plainF (getF 0 bs)) 2 12 rfl h10 h24
  rw [fin11 0 bs rfl hr _ (by intro h; have h : bs.length = 12 := h; omega) _] at e
  rw [k_loop]
  exact e
theorem lp11_1 (M d : Nat) (bs : List Int) (hb : bs.length ≤ 64) (hr : ∀ x ∈ bs, 0 ≤ x ∧ x ≤ 255) : loopC (m18b0 (sem tab (M + 1000) (d + 5)) (M + 1000) []) (M + 1000) (sl11 (byL bs) false 3 2 0) (ob11 1 ⟨1, 0, 0, 0, 0, 0, 0, 0, z32⟩) = cond (gdK 1 bs) (okR (getF 1 bs)) (errR 3) := by
  have hbad := bad11 1 bs rfl hr
  by_cases c0 : 11 ≤ bs.length
  rotate_left
  · have x := V23x (M + 900) (d + 3) false bs 3 8 (by omega) (by omega) (by omega) (by omega)
    rw [k_loop, x11_1_0 _ _ _ _  x, hbad (by show bs.length < 15; omega)]; rfl
  have y0 := V99 (M + 900) (d + 3) false bs 3 8 (by omega) (by omega) hr (by omega)
  rw [k_loop, s11_1_0 _ _ _ _  (vAt bs 3 8) y0]
  by_cases c1 : 15 ≤ bs.length
  rotate_left
  · have x := V23x (M + 900) (d + 3) false bs 11 4 (by omega) (by omega) (by omega) (by omega)
    rw [k_loop, x11_1_1 _ _ _ _ (vAt bs 3 8) x, hbad (by show bs.length < 15; omega)]; rfl
  have y1 := V99 (M + 900) (d + 3) false bs 11 4 (by omega) (by omega) hr (by omega)
  have w1 : IntKind.i64.wrap (vAt bs 11 4) = vAt bs 11 4 := by
    have := vAt_range bs hr 11 4 (by decide)
    rw [IntKind.wrap_i64]; omega
  rw [k_loop, s11_1_1 _ _ _ _ (vAt bs 3 8) (vAt bs 11 4) w1 y1]
  have o := okF_get 1 bs hr
  have h10 := V10 (M + 900) d (getF 1 bs) o
  have pl := put_get_len 1 bs rfl hr
  have sz := szF_le 1
  have h24 := U95 M (d + 4) (putF (getF 1 bs)) bs (by omega)
  have e := e11u (sem tab (M + 1000) (d + 5)) (M + 1000) (loopC (m18b0 (sem tab (M + 1000) (d + 5)) (M + 1000) []) (M + 997)) bs (putF (getF 1 bs)) [(376, rowS (slF 104 1) (cpF 1))] (.sl 376 0 0 2) (getF 1 bs) (plainF (getF 1 bs)) 2 15 rfl h10 h24
  rw [fin11 1 bs rfl hr _ (by intro h; have h : bs.length = 15 := h; omega) _] at e
  rw [k_loop]
  exact e
theorem lp11_2 (M d : Nat) (bs : List Int) (hb : bs.length ≤ 64) (hr : ∀ x ∈ bs, 0 ≤ x ∧ x ≤ 255) : loopC (m18b0 (sem tab (M + 1000) (d + 5)) (M + 1000) []) (M + 1000) (sl11 (byL bs) true 3 1 0) (ob11 2 ⟨2, 0, 0, 0, 0, 0, 0, 0, z32⟩) = cond (gdK 2 bs) (okR (getF 2 bs)) (errR 3) := by
  have hbad := bad11 2 bs rfl hr
  by_cases c0 : 11 ≤ bs.length
  rotate_left
  · have x := V23x (M + 900) (d + 3) false bs 3 8 (by omega) (by omega) (by omega) (by omega)
    rw [k_loop, x11_2_0 _ _ _ _  x, hbad (by show bs.length < 11; omega)]; rfl
  have y0 := V99 (M + 900) (d + 3) false bs 3 8 (by omega) (by omega) hr (by omega)
  rw [k_loop, s11_2_0 _ _ _ _  (vAt bs 3 8) y0]
  have o := okF_get 2 bs hr
  have h10 := V10 (M + 900) d (getF 2 bs) o
  have pl := put_get_len 2 bs rfl hr
  have sz := szF_le 2
  have h24 := U95 M (d + 4) (putF (getF 2 bs)) bs (by omega)
  have e := e11t (sem tab (M + 1000) (d + 5)) (M + 1000) (loopC (m18b0 (sem tab (M + 1000) (d + 5)) (M + 1000) []) (M + 998)) bs (putF (getF 2 bs)) [(376, rowS (slF 104 2) (cpF 2))] (.sl 376 0 0 1) ⟨2, 0, (vAt bs 3 8), 0, 0, 0, 0, 0, z32⟩ (plainF (getF 2 bs)) 1 11 rfl (by omega) (by omega) rfl h10 h24
  rw [fin11 2 bs rfl hr _ (by intro h; have h : bs.length = 43 := h; omega) _] at e
  rw [k_loop]
  exact e
theorem lp11_3 (M d : Nat) (bs : List Int) (hb : bs.length ≤ 64) (hr : ∀ x ∈ bs, 0 ≤ x ∧ x ≤ 255) : loopC (m18b0 (sem tab (M + 1000) (d + 5)) (M + 1000) []) (M + 1000) (sl11 (byL bs) true 3 1 0) (ob11 3 ⟨3, 0, 0, 0, 0, 0, 0, 0, z32⟩) = cond (gdK 3 bs) (okR (getF 3 bs)) (errR 3) := by
  have hbad := bad11 3 bs rfl hr
  by_cases c0 : 11 ≤ bs.length
  rotate_left
  · have x := V23x (M + 900) (d + 3) false bs 3 8 (by omega) (by omega) (by omega) (by omega)
    rw [k_loop, x11_3_0 _ _ _ _  x, hbad (by show bs.length < 11; omega)]; rfl
  have y0 := V99 (M + 900) (d + 3) false bs 3 8 (by omega) (by omega) hr (by omega)
  rw [k_loop, s11_3_0 _ _ _ _  (vAt bs 3 8) y0]
  have o := okF_get 3 bs hr
  have h10 := V10 (M + 900) d (getF 3 bs) o
  have pl := put_get_len 3 bs rfl hr
  have sz := szF_le 3
  have h24 := U95 M (d + 4) (putF (getF 3 bs)) bs (by omega)
  have e := e11t (sem tab (M + 1000) (d + 5)) (M + 1000) (loopC (m18b0 (sem tab (M + 1000) (d + 5)) (M + 1000) []) (M + 998)) bs (putF (getF 3 bs)) [(376, rowS (slF 104 3) (cpF 3))] (.sl 376 0 0 1) ⟨3, 0, (vAt bs 3 8), 0, 0, 0, 0, 0, z32⟩ (plainF (getF 3 bs)) 1 11 rfl (by omega) (by omega) rfl h10 h24
  rw [fin11 3 bs rfl hr _ (by intro h; have h : bs.length = 43 := h; omega) _] at e
  rw [k_loop]
  exact e
theorem lp11_4 (M d : Nat) (bs : List Int) (hb : bs.length ≤ 64) (hr : ∀ x ∈ bs, 0 ≤ x ∧ x ≤ 255) : loopC (m18b0 (sem tab (M + 1000) (d + 5)) (M + 1000) []) (M + 1000) (sl11 (byL bs) true 3 4 0) (ob11 4 ⟨4, 0, 0, 0, 0, 0, 0, 0, z32⟩) = cond (gdK 4 bs) (okR (getF 4 bs)) (errR 3) := by
  have hbad := bad11 4 bs rfl hr
  by_cases c0 : 11 ≤ bs.length
  rotate_left
  · have x := V23x (M + 900) (d + 3) false bs 3 8 (by omega) (by omega) (by omega) (by omega)
    rw [k_loop, x11_4_0 _ _ _ _  x, hbad (by show bs.length < 22; omega)]; rfl
  have y0 := V99 (M + 900) (d + 3) false bs 3 8 (by omega) (by omega) hr (by omega)
  rw [k_loop, s11_4_0 _ _ _ _  (vAt bs 3 8) y0]
  by_cases c1 : 19 ≤ bs.length
  rotate_left
  · have x := V23x (M + 900) (d + 3) false bs 11 8 (by omega) (by omega) (by omega) (by omega)
    rw [k_loop, x11_4_1 _ _ _ _ (vAt bs 3 8) x, hbad (by show bs.length < 22; omega)]; rfl
  have y1 := V99 (M + 900) (d + 3) false bs 11 8 (by omega) (by omega) hr (by omega)
  rw [k_loop, s11_4_1 _ _ _ _ (vAt bs 3 8) (vAt bs 11 8) y1]
  by_cases c2 : 20 ≤ bs.length
  rotate_left
  · have x := V23x (M + 900) (d + 3) false bs 19 1 (by omega) (by omega) (by omega) (by omega)
    rw [k_loop, x11_4_2 _ _ _ _ (vAt bs 3 8) (vAt bs 11 8) x, hbad (by show bs.length < 22; omega)]; rfl
  have y2 := V99 (M + 900) (d + 3) false bs 19 1 (by omega) (by omega) hr (by omega)
  have w2 : IntKind.i64.wrap (vAt bs 19 1) = vAt bs 19 1 := by
    have := vAt_range bs hr 19 1 (by decide)
    rw [IntKind.wrap_i64]; omega
  rw [k_loop, s11_4_2 _ _ _ _ (vAt bs 3 8) (vAt bs 11 8) (vAt bs 19 1) w2 y2]
  by_cases c3 : 22 ≤ bs.length
  rotate_left
  · have x := V23x (M + 900) (d + 3) false bs 20 2 (by omega) (by omega) (by omega) (by omega)
    rw [k_loop, x11_4_3 _ _ _ _ (vAt bs 3 8) (vAt bs 11 8) (vAt bs 19 1) x, hbad (by show bs.length < 22; omega)]; rfl
  have y3 := V99 (M + 900) (d + 3) false bs 20 2 (by omega) (by omega) hr (by omega)
  have w3 : IntKind.i64.wrap (vAt bs 20 2) = vAt bs 20 2 := by
    have := vAt_range bs hr 20 2 (by decide)
    rw [IntKind.wrap_i64]; omega
  rw [k_loop, s11_4_3 _ _ _ _ (vAt bs 3 8) (vAt bs 11 8) (vAt bs 19 1) (vAt bs 20 2) w3 y3]
  have o := okF_get 4 bs hr
  have h10 := V10 (M + 900) d (getF 4 bs) o
  have pl := put_get_len 4 bs rfl hr
  have sz := szF_le 4
  have h24 := U95 M (d + 4) (putF (getF 4 bs)) bs (by omega)
  have e := e11t (sem tab (M + 1000) (d + 5)) (M + 1000) (loopC (m18b0 (sem tab (M + 1000) (d + 5)) (M + 1000) []) (M + 995)) bs (putF (getF 4 bs)) [(376, rowS (slF 104 4) (cpF 4))] (.sl 376 0 0 4) ⟨4, 0, (vAt bs 3 8), 0, 0, (vAt bs 11 8), (vAt bs 19 1), (vAt bs 20 2), z32⟩ (plainF (getF 4 bs)) 4 22 rfl (by omega) (by omega) rfl h10 h24
  rw [fin11 4 bs rfl hr _ (by intro h; have h : bs.length = 54 := h; omega) _] at e
  rw [k_loop]
  exact e
theorem lp11_5 (M d : Nat) (bs : List Int) (hb : bs.length ≤ 64) (hr : ∀ x ∈ bs, 0 ≤ x ∧ x ≤ 255) : loopC (m18b0 (sem tab (M + 1000) (d + 5)) (M + 1000) []) (M + 1000) (sl11 (byL bs) true 3 4 0) (ob11 5 ⟨5, 0, 0, 0, 0, 0, 0, 0, z32⟩) = cond (gdK 5 bs) (okR (getF 5 bs)) (errR 3) := by
  have hbad := bad11 5 bs rfl hr
  by_cases c0 : 11 ≤ bs.length
  rotate_left
  · have x := V23x (M + 900) (d + 3) false bs 3 8 (by omega) (by omega) (by omega) (by omega)
    rw [k_loop, x11_5_0 _ _ _ _  x, hbad (by show bs.length < 22; omega)]; rfl
  have y0 := V99 (M + 900) (d + 3) false bs 3 8 (by omega) (by omega) hr (by omega)
  rw [k_loop, s11_5_0 _ _ _ _  (vAt bs 3 8) y0]
  by_cases c1 : 19 ≤ bs.length
  rotate_left
  · have x := V23x (M + 900) (d + 3) false bs 11 8 (by omega) (by omega) (by omega) (by omega)
    rw [k_loop, x11_5_1 _ _ _ _ (vAt bs 3 8) x, hbad (by show bs.length < 22; omega)]; rfl
  have y1 := V99 (M + 900) (d + 3) false bs 11 8 (by omega) (by omega) hr (by omega)
  rw [k_loop, s11_5_1 _ _ _ _ (vAt bs 3 8) (vAt bs 11 8) y1]
  by_cases c2 : 20 ≤ bs.length
  rotate_left
  · have x := V23x (M + 900) (d + 3) false bs 19 1 (by omega) (by omega) (by omega) (by omega)
    rw [k_loop, x11_5_2 _ _ _ _ (vAt bs 3 8) (vAt bs 11 8) x, hbad (by show bs.length < 22; omega)]; rfl
  have y2 := V99 (M + 900) (d + 3) false bs 19 1 (by omega) (by omega) hr (by omega)
  have w2 : IntKind.i64.wrap (vAt bs 19 1) = vAt bs 19 1 := by
    have := vAt_range bs hr 19 1 (by decide)
    rw [IntKind.wrap_i64]; omega
  rw [k_loop, s11_5_2 _ _ _ _ (vAt bs 3 8) (vAt bs 11 8) (vAt bs 19 1) w2 y2]
  by_cases c3 : 22 ≤ bs.length
  rotate_left
  · have x := V23x (M + 900) (d + 3) false bs 20 2 (by omega) (by omega) (by omega) (by omega)
    rw [k_loop, x11_5_3 _ _ _ _ (vAt bs 3 8) (vAt bs 11 8) (vAt bs 19 1) x, hbad (by show bs.length < 22; omega)]; rfl
  have y3 := V99 (M + 900) (d + 3) false bs 20 2 (by omega) (by omega) hr (by omega)
  have w3 : IntKind.i64.wrap (vAt bs 20 2) = vAt bs 20 2 := by
    have := vAt_range bs hr 20 2 (by decide)
    rw [IntKind.wrap_i64]; omega
  rw [k_loop, s11_5_3 _ _ _ _ (vAt bs 3 8) (vAt bs 11 8) (vAt bs 19 1) (vAt bs 20 2) w3 y3]
  have o := okF_get 5 bs hr
  have h10 := V10 (M + 900) d (getF 5 bs) o
  have pl := put_get_len 5 bs rfl hr
  have sz := szF_le 5
  have h24 := U95 M (d + 4) (putF (getF 5 bs)) bs (by omega)
  have e := e11t (sem tab (M + 1000) (d + 5)) (M + 1000) (loopC (m18b0 (sem tab (M + 1000) (d + 5)) (M + 1000) []) (M + 995)) bs (putF (getF 5 bs)) [(376, rowS (slF 104 5) (cpF 5))] (.sl 376 0 0 4) ⟨5, 0, (vAt bs 3 8), 0, 0, (vAt bs 11 8), (vAt bs 19 1), (vAt bs 20 2), z32⟩ (plainF (getF 5 bs)) 4 22 rfl (by omega) (by omega) rfl h10 h24
  rw [fin11 5 bs rfl hr _ (by intro h; have h : bs.length = 54 := h; omega) _] at e
  rw [k_loop]
  exact e
theorem lp11_6 (M d : Nat) (bs : List Int) (hb : bs.length ≤ 64) (hr : ∀ x ∈ bs, 0 ≤ x ∧ x ≤ 255) : loopC (m18b0 (sem tab (M + 1000) (d + 5)) (M + 1000) []) (M + 1000) (sl11 (byL bs) false 3 1 0) (ob11 6 ⟨6, 0, 0, 0, 0, 0, 0, 0, z32⟩) = cond (gdK 6 bs) (okR (getF 6 bs)) (errR 3) := by
  have hbad := bad11 6 bs rfl hr
  by_cases c0 : 4 ≤ bs.length
  rotate_left
  · have x := V23x (M + 900) (d + 3) false bs 3 1 (by omega) (by omega) (by omega) (by omega)
    rw [k_loop, x11_6_0 _ _ _ _  x, hbad (by show bs.length < 4; omega)]; rfl
  have y0 := V99 (M + 900) (d + 3) false bs 3 1 (by omega) (by omega) hr (by omega)
  have w0 : IntKind.i64.wrap (vAt bs 3 1) = vAt bs 3 1 := by
    have := vAt_range bs hr 3 1 (by decide)
    rw [IntKind.wrap_i64]; omega
  rw [k_loop, s11_6_0 _ _ _ _  (vAt bs 3 1) w0 y0]
  have o := okF_get 6 bs hr
  have h10 := V10 (M + 900) d (getF 6 bs) o
  have pl := put_get_len 6 bs rfl hr
  have sz := szF_le 6
  have h24 := U95 M (d + 4) (putF (getF 6 bs)) bs (by omega)
  have e := e11u (sem tab (M + 1000) (d + 5)) (M + 1000) (loopC (m18b0 (sem tab (M + 1000) (d + 5)) (M + 1000) []) (M + 998)) bs (putF (getF 6 bs)) [(376, rowS (slF 104 6) (cpF 6))] (.sl 376 0 0 1) (getF 6 bs) (plainF (getF 6 bs)) 1 4 rfl h10 h24
  rw [fin11 6 bs rfl hr _ (by intro h; have h : bs.length = 4 := h; omega) _] at e
  rw [k_loop]
  exact e
end
section
attribute [local congr] bnd_cg bndO_cg br_cg
def outRd (bs : List Int) : Option R := cond (goodF bs) (okR (seemF bs)) (errR (errF bs))
set_option maxHeartbeats 4000000 in
theorem R11_0 (M d : Nat) (bs : List Int) (hb : bs.length ≤ 64) (h3 : 3 ≤ bs.length) (hr : ∀ x ∈ bs, 0 ≤ x ∧ x ≤ 255) (hL : longF bs = bs.length) (hx : (byL bs)[2]? = some [.i .u8 0]) :
    m18 (sem tab (M + 1000) (d + 5)) (M + 1000) [.l false (byL bs)] [] = cond (gdK 0 bs) (okR (getF 0 bs)) (errR 3) := by
  have h := lp11_0 M d bs hb hr
  have h21 := V21 (M + 900) (d + 2) bs (by omega) hr
  rw [hL, show M + 900 + 100 = M + 1000 by omega, show d + 2 + 3 = d + 5 by omega] at h21
  have c : ca (sem tab (M + 1000) (d + 5)) [(104, fbox ⟨0, 0, 0, 0, 0, 0, 0, 0, z32⟩), (104, fbox zeF), (80, fbox zeF)] 376 false 32 [.p 104 0 0 0 none] = some (.tup [.sl 376 0 0 2, .b false], [(376, rowS [sN 104 1 1, sU 104 3 8] (some 2)), (104, fbox ⟨0, 0, 0, 0, 0, 0, 0, 0, z32⟩)]) := k_ca22 (sem tab (M + 1000) (d + 5)) [(104, fbox ⟨0, 0, 0, 0, 0, 0, 0, 0, z32⟩), (104, fbox zeF), (80, fbox zeF)] 376 104 _ ⟨0, 0, 0, 0, 0, 0, 0, 0, z32⟩ _ rfl rfl rfl (V22 (M + 1000) (d + 3) ⟨0, 0, 0, 0, 0, 0, 0, 0, z32⟩ rfl)
  have hl := byL_len bs
  have c1 : ¬ ((bs.length : Int) > 64) := by omega
  have c2 : ((bs.length : Int) == -1) = false := by simp
  have c3 : ((bs.length : Int) == 2) = false := by simp; omega
  have wk : IntKind.i64.wrap (0 : Int) = 0 := by decide
  rw [k_loop] at h
  have h : m18b0 (sem tab (M + 1000) (d + 5)) (M + 1000) [] (loopC (m18b0 (sem tab (M + 1000) (d + 5)) (M + 1000) []) (M + 999)) [(0, .l false (byL bs)), (2, .p 80 0 0 0 none), (5, .p 104 0 0 0 none), (7, .b false), (8, .i .i64 3), (42, .sl 376 0 0 2), (43, .i .i64 2), (44, .i .i64 0)] [(80, fbox zeF), (104, fbox ⟨0, 0, 0, 0, 0, 0, 0, 0, z32⟩), (376, rowS [sN 104 1 1, sU 104 3 8] (some 2))] = cond (gdK 0 bs) (okR (getF 0 bs)) (errR 3) := h
  generalize cond (gdK 0 bs) (okR (getF 0 bs)) (errR 3) = res at *
  have hu' := uz32.symm
  rw [← hl] at h21 c1 c2 c3
  simp only [sl11, fbox, frC, rowS, sU, sN, box, zeF] at h c
  generalize uL z32 = z at *
  generalize byL bs = b at *
  simp -implicitDefEqProofs (maxSteps := 1000000) (disch := first | omega | rfl) [m18, h21, c, h, c1, c2, c3, hx, wk, hu', boxO, -List.reduceReplicate, KF, KS, getS, getO, gS, zipN, dropW, takeW, wds, stvs, sea, seaL, refs, refsL, refsEls, refsO, isPureEls, isPures, isPure, noExt, noExts, noExtEls, cellsL, ren, renL, renEls, keepO, keepS, keysO, refsS, refsOB, headC, setS, boxO, row, putW, putB, putB1, eNl, newOs, frz, renO, noExtO, zps, zp, two32, w64, -getElem?_pos, k_cnt, k_cnt0]
set_option maxHeartbeats 4000000 in
theorem R11_1 (M d : Nat) (bs : List Int) (hb : bs.length ≤ 64) (h3 : 3 ≤ bs.length) (hr : ∀ x ∈ bs, 0 ≤ x ∧ x ≤ 255) (hL : longF bs = bs.length) (hx : (byL bs)[2]? = some [.i .u8 1]) :
    m18 (sem tab (M + 1000) (d + 5)) (M + 1000) [.l false (byL bs)] [] = cond (gdK 1 bs) (okR (getF 1 bs)) (errR 3) := by
  have h := lp11_1 M d bs hb hr
  have h21 := V21 (M + 900) (d + 2) bs (by omega) hr
  rw [hL, show M + 900 + 100 = M + 1000 by omega, show d + 2 + 3 = d + 5 by omega] at h21
  have c : ca (sem tab (M + 1000) (d + 5)) [(104, fbox ⟨1, 0, 0, 0, 0, 0, 0, 0, z32⟩), (104, fbox zeF), (80, fbox zeF)] 376 false 32 [.p 104 0 0 0 none] = some (.tup [.sl 376 0 0 2, .b false], [(376, rowS [sU 104 2 8, sN 104 4 4] (some 2)), (104, fbox ⟨1, 0, 0, 0, 0, 0, 0, 0, z32⟩)]) := k_ca22 (sem tab (M + 1000) (d + 5)) [(104, fbox ⟨1, 0, 0, 0, 0, 0, 0, 0, z32⟩), (104, fbox zeF), (80, fbox zeF)] 376 104 _ ⟨1, 0, 0, 0, 0, 0, 0, 0, z32⟩ _ rfl rfl rfl (V22 (M + 1000) (d + 3) ⟨1, 0, 0, 0, 0, 0, 0, 0, z32⟩ rfl)
  have hl := byL_len bs
  have c1 : ¬ ((bs.length : Int) > 64) := by omega
  have c2 : ((bs.length : Int) == -1) = false := by simp
  have c3 : ((bs.length : Int) == 2) = false := by simp; omega
  have wk : IntKind.i64.wrap (1 : Int) = 1 := by decide
  rw [k_loop] at h
  have h : m18b0 (sem tab (M + 1000) (d + 5)) (M + 1000) [] (loopC (m18b0 (sem tab (M + 1000) (d + 5)) (M + 1000) []) (M + 999)) [(0, .l false (byL bs)), (2, .p 80 0 0 0 none), (5, .p 104 0 0 0 none), (7, .b false), (8, .i .i64 3), (42, .sl 376 0 0 2), (43, .i .i64 2), (44, .i .i64 0)] [(80, fbox zeF), (104, fbox ⟨1, 0, 0, 0, 0, 0, 0, 0, z32⟩), (376, rowS [sU 104 2 8, sN 104 4 4] (some 2))] = cond (gdK 1 bs) (okR (getF 1 bs)) (errR 3) := h
  generalize cond (gdK 1 bs) (okR (getF 1 bs)) (errR 3) = res at *
  have hu' := uz32.symm
  rw [← hl] at h21 c1 c2 c3
  simp only [sl11, fbox, frC, rowS, sU, sN, box, zeF] at h c
  generalize uL z32 = z at *
  generalize byL bs = b at *
  simp -implicitDefEqProofs (maxSteps := 1000000) (disch := first | omega | rfl) [m18, h21, c, h, c1, c2, c3, hx, wk, hu', boxO, -List.reduceReplicate, KF, KS, getS, getO, gS, zipN, dropW, takeW, wds, stvs, sea, seaL, refs, refsL, refsEls, refsO, isPureEls, isPures, isPure, noExt, noExts, noExtEls, cellsL, ren, renL, renEls, keepO, keepS, keysO, refsS, refsOB, headC, setS, boxO, row, putW, putB, putB1, eNl, newOs, frz, renO, noExtO, zps, zp, two32, w64, -getElem?_pos, k_cnt, k_cnt0]
set_option maxHeartbeats 4000000 in
theorem R11_2 (M d : Nat) (bs : List Int) (hb : bs.length ≤ 64) (h3 : 3 ≤ bs.length) (hr : ∀ x ∈ bs, 0 ≤ x ∧ x ≤ 255) (hL : longF bs = bs.length) (hx : (byL bs)[2]? = some [.i .u8 2]) :
    m18 (sem tab (M + 1000) (d + 5)) (M + 1000) [.l false (byL bs)] [] = cond (gdK 2 bs) (okR (getF 2 bs)) (errR 3) := by
  have h := lp11_2 M d bs hb hr
  have h21 := V21 (M + 900) (d + 2) bs (by omega) hr
  rw [hL, show M + 900 + 100 = M + 1000 by omega, show d + 2 + 3 = d + 5 by omega] at h21
  have c : ca (sem tab (M + 1000) (d + 5)) [(104, fbox ⟨2, 0, 0, 0, 0, 0, 0, 0, z32⟩), (104, fbox zeF), (80, fbox zeF)] 376 false 32 [.p 104 0 0 0 none] = some (.tup [.sl 376 0 0 1, .b true], [(376, rowS [sU 104 2 8] none), (104, fbox ⟨2, 0, 0, 0, 0, 0, 0, 0, z32⟩)]) := k_ca22 (sem tab (M + 1000) (d + 5)) [(104, fbox ⟨2, 0, 0, 0, 0, 0, 0, 0, z32⟩), (104, fbox zeF), (80, fbox zeF)] 376 104 _ ⟨2, 0, 0, 0, 0, 0, 0, 0, z32⟩ _ rfl rfl rfl (V22 (M + 1000) (d + 3) ⟨2, 0, 0, 0, 0, 0, 0, 0, z32⟩ rfl)
  have hl := byL_len bs
  have c1 : ¬ ((bs.length : Int) > 64) := by omega
  have c2 : ((bs.length : Int) == -1) = false := by simp
  have c3 : ((bs.length : Int) == 2) = false := by simp; omega
  have wk : IntKind.i64.wrap (2 : Int) = 2 := by decide
  rw [k_loop] at h
  have h : m18b0 (sem tab (M + 1000) (d + 5)) (M + 1000) [] (loopC (m18b0 (sem tab (M + 1000) (d + 5)) (M + 1000) []) (M + 999)) [(0, .l false (byL bs)), (2, .p 80 0 0 0 none), (5, .p 104 0 0 0 none), (7, .b true), (8, .i .i64 3), (42, .sl 376 0 0 1), (43, .i .i64 1), (44, .i .i64 0)] [(80, fbox zeF), (104, fbox ⟨2, 0, 0, 0, 0, 0, 0, 0, z32⟩), (376, rowS [sU 104 2 8] none)] = cond (gdK 2 bs) (okR (getF 2 bs)) (errR 3) := h
  generalize cond (gdK 2 bs) (okR (getF 2 bs)) (errR 3) = res at *
  have hu' := uz32.symm
  rw [← hl] at h21 c1 c2 c3
  simp only [sl11, fbox, frC, rowS, sU, sN, box, zeF] at h c
  generalize uL z32 = z at *
  generalize byL bs = b at *
  simp -implicitDefEqProofs (maxSteps := 1000000) (disch := first | omega | rfl) [m18, h21, c, h, c1, c2, c3, hx, wk, hu', boxO, -List.reduceReplicate, KF, KS, getS, getO, gS, zipN, dropW, takeW, wds, stvs, sea, seaL, refs, refsL, refsEls, refsO, isPureEls, isPures, isPure, noExt, noExts, noExtEls, cellsL, ren, renL, renEls, keepO, keepS, keysO, refsS, refsOB, headC, setS, boxO, row, putW, putB, putB1, eNl, newOs, frz, renO, noExtO, zps, zp, two32, w64, -getElem?_pos, k_cnt, k_cnt0]
set_option maxHeartbeats 4000000 in
theorem R11_3 (M d : Nat) (bs : List Int) (hb : bs.length ≤ 64) (h3 : 3 ≤ bs.length) (hr : ∀ x ∈ bs, 0 ≤ x ∧ x ≤ 255) (hL : longF bs = bs.length) (hx : (byL bs)[2]? = some [.i .u8 3]) :
    m18 (sem tab (M + 1000) (d + 5)) (M + 1000) [.l false (byL bs)] [] = cond (gdK 3 bs) (okR (getF 3 bs)) (errR 3) := by
  have h := lp11_3 M d bs hb hr
  have h21 := V21 (M + 900) (d + 2) bs (by omega) hr
  rw [hL, show M + 900 + 100 = M + 1000 by omega, show d + 2 + 3 = d + 5 by omega] at h21
  have c : ca (sem tab (M + 1000) (d + 5)) [(104, fbox ⟨3, 0, 0, 0, 0, 0, 0, 0, z32⟩), (104, fbox zeF), (80, fbox zeF)] 376 false 32 [.p 104 0 0 0 none] = some (.tup [.sl 376 0 0 1, .b true], [(376, rowS [sU 104 2 8] none), (104, fbox ⟨3, 0, 0, 0, 0, 0, 0, 0, z32⟩)]) := k_ca22 (sem tab (M + 1000) (d + 5)) [(104, fbox ⟨3, 0, 0, 0, 0, 0, 0, 0, z32⟩), (104, fbox zeF), (80, fbox zeF)] 376 104 _ ⟨3, 0, 0, 0, 0, 0, 0, 0, z32⟩ _ rfl rfl rfl (V22 (M + 1000) (d + 3) ⟨3, 0, 0, 0, 0, 0, 0, 0, z32⟩ rfl)
  have hl := byL_len bs
  have c1 : ¬ ((bs.length : Int) > 64) := by omega
  have c2 : ((bs.length : Int) == -1) = false := by simp
  have c3 : ((bs.length : Int) == 2) = false := by simp; omega
  have wk : IntKind.i64.wrap (3 : Int) = 3 := by decide
  rw [k_loop] at h
  have h : m18b0 (sem tab (M + 1000) (d + 5)) (M + 1000) [] (loopC (m18b0 (sem tab (M + 1000) (d + 5)) (M + 1000) []) (M + 999)) [(0, .l false (byL bs)), (2, .p 80 0 0 0 none), (5, .p 104 0 0 0 none), (7, .b true), (8, .i .i64 3), (42, .sl 376 0 0 1), (43, .i .i64 1), (44, .i .i64 0)] [(80, fbox zeF), (104, fbox ⟨3, 0, 0, 0, 0, 0, 0, 0, z32⟩), (376, rowS [sU 104 2 8] none)] = cond (gdK 3 bs) (okR (getF 3 bs)) (errR 3) := h
  generalize cond (gdK 3 bs) (okR (getF 3 bs)) (errR 3) = res at *
  have hu' := uz32.symm
  rw [← hl] at h21 c1 c2 c3
  simp only [sl11, fbox, frC, rowS, sU, sN, box, zeF] at h c
  generalize uL z32 = z at *
  generalize byL bs = b at *
  simp -implicitDefEqProofs (maxSteps := 1000000) (disch := first | omega | rfl) [m18, h21, c, h, c1, c2, c3, hx, wk, hu', boxO, -List.reduceReplicate, KF, KS, getS, getO, gS, zipN, dropW, takeW, wds, stvs, sea, seaL, refs, refsL, refsEls, refsO, isPureEls, isPures, isPure, noExt, noExts, noExtEls, cellsL, ren, renL, renEls, keepO, keepS, keysO, refsS, refsOB, headC, setS, boxO, row, putW, putB, putB1, eNl, newOs, frz, renO, noExtO, zps, zp, two32, w64, -getElem?_pos, k_cnt, k_cnt0]
set_option maxHeartbeats 4000000 in
theorem R11_4 (M d : Nat) (bs : List Int) (hb : bs.length ≤ 64) (h3 : 3 ≤ bs.length) (hr : ∀ x ∈ bs, 0 ≤ x ∧ x ≤ 255) (hL : longF bs = bs.length) (hx : (byL bs)[2]? = some [.i .u8 4]) :
    m18 (sem tab (M + 1000) (d + 5)) (M + 1000) [.l false (byL bs)] [] = cond (gdK 4 bs) (okR (getF 4 bs)) (errR 3) := by
  have h := lp11_4 M d bs hb hr
  have h21 := V21 (M + 900) (d + 2) bs (by omega) hr
  rw [hL, show M + 900 + 100 = M + 1000 by omega, show d + 2 + 3 = d + 5 by omega] at h21
  have c : ca (sem tab (M + 1000) (d + 5)) [(104, fbox ⟨4, 0, 0, 0, 0, 0, 0, 0, z32⟩), (104, fbox zeF), (80, fbox zeF)] 376 false 32 [.p 104 0 0 0 none] = some (.tup [.sl 376 0 0 4, .b true], [(376, rowS [sU 104 2 8, sU 104 5 8, sN 104 6 1, sN 104 7 2] none), (104, fbox ⟨4, 0, 0, 0, 0, 0, 0, 0, z32⟩)]) := k_ca22 (sem tab (M + 1000) (d + 5)) [(104, fbox ⟨4, 0, 0, 0, 0, 0, 0, 0, z32⟩), (104, fbox zeF), (80, fbox zeF)] 376 104 _ ⟨4, 0, 0, 0, 0, 0, 0, 0, z32⟩ _ rfl rfl rfl (V22 (M + 1000) (d + 3) ⟨4, 0, 0, 0, 0, 0, 0, 0, z32⟩ rfl)
  have hl := byL_len bs
  have c1 : ¬ ((bs.length : Int) > 64) := by omega
  have c2 : ((bs.length : Int) == -1) = false := by simp
  have c3 : ((bs.length : Int) == 2) = false := by simp; omega
  have wk : IntKind.i64.wrap (4 : Int) = 4 := by decide
  rw [k_loop] at h
  have h : m18b0 (sem tab (M + 1000) (d + 5)) (M + 1000) [] (loopC (m18b0 (sem tab (M + 1000) (d + 5)) (M + 1000) []) (M + 999)) [(0, .l false (byL bs)), (2, .p 80 0 0 0 none), (5, .p 104 0 0 0 none), (7, .b true), (8, .i .i64 3), (42, .sl 376 0 0 4), (43, .i .i64 4), (44, .i .i64 0)] [(80, fbox zeF), (104, fbox ⟨4, 0, 0, 0, 0, 0, 0, 0, z32⟩), (376, rowS [sU 104 2 8, sU 104 5 8, sN 104 6 1, sN 104 7 2] none)] = cond (gdK 4 bs) (okR (getF 4 bs)) (errR 3) := h
  generalize cond (gdK 4 bs) (okR (getF 4 bs)) (errR 3) = res at *
  have hu' := uz32.symm
  rw [← hl] at h21 c1 c2 c3
  simp only [sl11, fbox, frC, rowS, sU, sN, box, zeF] at h c
  generalize uL z32 = z at *
  generalize byL bs = b at *
  simp -implicitDefEqProofs (maxSteps := 1000000) (disch := first | omega | rfl) [m18, h21, c, h, c1, c2, c3, hx, wk, hu', boxO, -List.reduceReplicate, KF, KS, getS, getO, gS, zipN, dropW, takeW, wds, stvs, sea, seaL, refs, refsL, refsEls, refsO, isPureEls, isPures, isPure, noExt, noExts, noExtEls, cellsL, ren, renL, renEls, keepO, keepS, keysO, refsS, refsOB, headC, setS, boxO, row, putW, putB, putB1, eNl, newOs, frz, renO, noExtO, zps, zp, two32, w64, -getElem?_pos, k_cnt, k_cnt0]
set_option maxHeartbeats 4000000 in
theorem R11_5 (M d : Nat) (bs : List Int) (hb : bs.length ≤ 64) (h3 : 3 ≤ bs.length) (hr : ∀ x ∈ bs, 0 ≤ x ∧ x ≤ 255) (hL : longF bs = bs.length) (hx : (byL bs)[2]? = some [.i .u8 5]) :
    m18 (sem tab (M + 1000) (d + 5)) (M + 1000) [.l false (byL bs)] [] = cond (gdK 5 bs) (okR (getF 5 bs)) (errR 3) := by
  have h := lp11_5 M d bs hb hr
  have h21 := V21 (M + 900) (d + 2) bs (by omega) hr
  rw [hL, show M + 900 + 100 = M + 1000 by omega, show d + 2 + 3 = d + 5 by omega] at h21
  have c : ca (sem tab (M + 1000) (d + 5)) [(104, fbox ⟨5, 0, 0, 0, 0, 0, 0, 0, z32⟩), (104, fbox zeF), (80, fbox zeF)] 376 false 32 [.p 104 0 0 0 none] = some (.tup [.sl 376 0 0 4, .b true], [(376, rowS [sU 104 2 8, sU 104 5 8, sN 104 6 1, sN 104 7 2] none), (104, fbox ⟨5, 0, 0, 0, 0, 0, 0, 0, z32⟩)]) := k_ca22 (sem tab (M + 1000) (d + 5)) [(104, fbox ⟨5, 0, 0, 0, 0, 0, 0, 0, z32⟩), (104, fbox zeF), (80, fbox zeF)] 376 104 _ ⟨5, 0, 0, 0, 0, 0, 0, 0, z32⟩ _ rfl rfl rfl (V22 (M + 1000) (d + 3) ⟨5, 0, 0, 0, 0, 0, 0, 0, z32⟩ rfl)
  have hl := byL_len bs
  have c1 : ¬ ((bs.length : Int) > 64) := by omega
  have c2 : ((bs.length : Int) == -1) = false := by simp
  have c3 : ((bs.length : Int) == 2) = false := by simp; omega
  have wk : IntKind.i64.wrap (5 : Int) = 5 := by decide
  rw [k_loop] at h
  have h : m18b0 (sem tab (M + 1000) (d + 5)) (M + 1000) [] (loopC (m18b0 (sem tab (M + 1000) (d + 5)) (M + 1000) []) (M + 999)) [(0, .l false (byL bs)), (2, .p 80 0 0 0 none), (5, .p 104 0 0 0 none), (7, .b true), (8, .i .i64 3), (42, .sl 376 0 0 4), (43, .i .i64 4), (44, .i .i64 0)] [(80, fbox zeF), (104, fbox ⟨5, 0, 0, 0, 0, 0, 0, 0, z32⟩), (376, rowS [sU 104 2 8, sU 104 5 8, sN 104 6 1, sN 104 7 2] none)] = cond (gdK 5 bs) (okR (getF 5 bs)) (errR 3) := h
  generalize cond (gdK 5 bs) (okR (getF 5 bs)) (errR 3) = res at *
  have hu' := uz32.symm
  rw [← hl] at h21 c1 c2 c3
  simp only [sl11, fbox, frC, rowS, sU, sN, box, zeF] at h c
  generalize uL z32 = z at *
  generalize byL bs = b at *
  simp -implicitDefEqProofs (maxSteps := 1000000) (disch := first | omega | rfl) [m18, h21, c, h, c1, c2, c3, hx, wk, hu', boxO, -List.reduceReplicate, KF, KS, getS, getO, gS, zipN, dropW, takeW, wds, stvs, sea, seaL, refs, refsL, refsEls, refsO, isPureEls, isPures, isPure, noExt, noExts, noExtEls, cellsL, ren, renL, renEls, keepO, keepS, keysO, refsS, refsOB, headC, setS, boxO, row, putW, putB, putB1, eNl, newOs, frz, renO, noExtO, zps, zp, two32, w64, -getElem?_pos, k_cnt, k_cnt0]
set_option maxHeartbeats 4000000 in
theorem R11_6 (M d : Nat) (bs : List Int) (hb : bs.length ≤ 64) (h3 : 3 ≤ bs.length) (hr : ∀ x ∈ bs, 0 ≤ x ∧ x ≤ 255) (hL : longF bs = bs.length) (hx : (byL bs)[2]? = some [.i .u8 6]) :
    m18 (sem tab (M + 1000) (d + 5)) (M + 1000) [.l false (byL bs)] [] = cond (gdK 6 bs) (okR (getF 6 bs)) (errR 3) := by
  have h := lp11_6 M d bs hb hr
  have h21 := V21 (M + 900) (d + 2) bs (by omega) hr
  rw [hL, show M + 900 + 100 = M + 1000 by omega, show d + 2 + 3 = d + 5 by omega] at h21
  have c : ca (sem tab (M + 1000) (d + 5)) [(104, fbox ⟨6, 0, 0, 0, 0, 0, 0, 0, z32⟩), (104, fbox zeF), (80, fbox zeF)] 376 false 32 [.p 104 0 0 0 none] = some (.tup [.sl 376 0 0 1, .b false], [(376, rowS [sN 104 6 1] (some 1)), (104, fbox ⟨6, 0, 0, 0, 0, 0, 0, 0, z32⟩)]) := k_ca22 (sem tab (M + 1000) (d + 5)) [(104, fbox ⟨6, 0, 0, 0, 0, 0, 0, 0, z32⟩), (104, fbox zeF), (80, fbox zeF)] 376 104 _ ⟨6, 0, 0, 0, 0, 0, 0, 0, z32⟩ _ rfl rfl rfl (V22 (M + 1000) (d + 3) ⟨6, 0, 0, 0, 0, 0, 0, 0, z32⟩ rfl)
  have hl := byL_len bs
  have c1 : ¬ ((bs.length : Int) > 64) := by omega
  have c2 : ((bs.length : Int) == -1) = false := by simp
  have c3 : ((bs.length : Int) == 2) = false := by simp; omega
  have wk : IntKind.i64.wrap (6 : Int) = 6 := by decide
  rw [k_loop] at h
  have h : m18b0 (sem tab (M + 1000) (d + 5)) (M + 1000) [] (loopC (m18b0 (sem tab (M + 1000) (d + 5)) (M + 1000) []) (M + 999)) [(0, .l false (byL bs)), (2, .p 80 0 0 0 none), (5, .p 104 0 0 0 none), (7, .b false), (8, .i .i64 3), (42, .sl 376 0 0 1), (43, .i .i64 1), (44, .i .i64 0)] [(80, fbox zeF), (104, fbox ⟨6, 0, 0, 0, 0, 0, 0, 0, z32⟩), (376, rowS [sN 104 6 1] (some 1))] = cond (gdK 6 bs) (okR (getF 6 bs)) (errR 3) := h
  generalize cond (gdK 6 bs) (okR (getF 6 bs)) (errR 3) = res at *
  have hu' := uz32.symm
  rw [← hl] at h21 c1 c2 c3
  simp only [sl11, fbox, frC, rowS, sU, sN, box, zeF] at h c
  generalize uL z32 = z at *
  generalize byL bs = b at *
  simp -implicitDefEqProofs (maxSteps := 1000000) (disch := first | omega | rfl) [m18, h21, c, h, c1, c2, c3, hx, wk, hu', boxO, -List.reduceReplicate, KF, KS, getS, getO, gS, zipN, dropW, takeW, wds, stvs, sea, seaL, refs, refsL, refsEls, refsO, isPureEls, isPures, isPure, noExt, noExts, noExtEls, cellsL, ren, renL, renEls, keepO, keepS, keysO, refsS, refsOB, headC, setS, boxO, row, putW, putB, putB1, eNl, newOs, frz, renO, noExtO, zps, zp, two32, w64, -getElem?_pos, k_cnt, k_cnt0]
end
section
attribute [local congr] bnd_cg bndO_cg br_cg
theorem plain_kind (f : Fra) (h : inB f.kind 0 6 = false) : plainF f = false := by unfold plainF; rw [h]; rfl
set_option maxHeartbeats 4000000 in
theorem R11x (M d : Nat) (k : Int) (bs : List Int) (hk : inB k 0 6 = false) (h0 : 0 ≤ k ∧ k ≤ 255) (hb : bs.length ≤ 64) (h3 : 3 ≤ bs.length) (hr : ∀ x ∈ bs, 0 ≤ x ∧ x ≤ 255) (hL : longF bs = bs.length) (hx : (byL bs)[2]? = some [.i .u8 k]) :
    m18 (sem tab (M + 1000) (d + 5)) (M + 1000) [.l false (byL bs)] [] = errR 3 := by
  have o : okF ⟨k, 0, 0, 0, 0, 0, 0, 0, z32⟩ := ⟨okF_ze.sess, okF_ze.cn, okF_ze.count, z32_len, z32_range⟩
  have h10 := V10 (M + 900) d ⟨k, 0, 0, 0, 0, 0, 0, 0, z32⟩ o
  have hp := plain_kind ⟨k, 0, 0, 0, 0, 0, 0, 0, z32⟩ hk
  have e := e11u (sem tab (M + 1000) (d + 5)) (M + 1000) (loopC (m18b0 (sem tab (M + 1000) (d + 5)) (M + 1000) []) (M + 999)) bs bs [] (.e true) ⟨k, 0, 0, 0, 0, 0, 0, 0, z32⟩ false 0 3 rfl (by rw [hp] at h10; exact h10) (U95 M (d + 4) bs bs (by omega))
  rw [Bool.false_and, cond_false] at e
  have h21 := V21 (M + 900) (d + 2) bs (by omega) hr
  rw [hL, show M + 900 + 100 = M + 1000 by omega, show d + 2 + 3 = d + 5 by omega] at h21
  have c := k_ca22x (sem tab (M + 1000) (d + 5)) [(104, fbox ⟨k, 0, 0, 0, 0, 0, 0, 0, z32⟩), (104, fbox zeF), (80, fbox zeF)] 376 104 _ ⟨k, 0, 0, 0, 0, 0, 0, 0, z32⟩ rfl (V22x (M + 1000) (d + 3) ⟨k, 0, 0, 0, 0, 0, 0, 0, z32⟩ hk)
  have hl := byL_len bs
  have c1 : ¬ ((bs.length : Int) > 64) := by omega
  have c2 : ((bs.length : Int) == -1) = false := by simp
  have c3 : ((bs.length : Int) == 2) = false := by simp; omega
  have wk : IntKind.i64.wrap k = k := by rw [IntKind.wrap_i64]; omega
  generalize errR 3 = res at *
  have hu' := uz32.symm
  rw [← hl] at h21 c1 c2 c3
  clear h10
  simp only [sl11x, ob11x, fbox, frC, rowS, sU, sN, box, zeF] at e c
  generalize uL z32 = z at *
  generalize byL bs = b at *
  simp -implicitDefEqProofs (maxSteps := 1000000) (disch := first | omega | rfl) [m18, h21, c, e, c1, c2, c3, hx, wk, hu', boxO, -List.reduceReplicate, KF, KS, getS, getO, gS, zipN, dropW, takeW, wds, stvs, sea, seaL, refs, refsL, refsEls, refsO, isPureEls, isPures, isPure, noExt, noExts, noExtEls, cellsL, ren, renL, renEls, keepO, keepS, keysO, refsS, refsOB, headC, setS, boxO, row, putW, putB, putB1, eNl, newOs, frz, renO, noExtO, zps, zp, two32, w64, -getElem?_pos, k_cnt, k_cnt0]
theorem gdK_seem (bs : List Int) : gdK (bs.getD 2 0) bs = goodF bs := rfl
set_option maxHeartbeats 4000000 in
/-- The frame of bytes, or why none. -/
theorem V11 (M d : Nat) (bs : List Int) (hb : bs.length ≤ 10000) (hr : ∀ x ∈ bs, 0 ≤ x ∧ x ≤ 255) : sem tab (M + 1000) (d + 6) 18 [.l false (byL bs)] [] = outRd bs := by
  rw [sem_succ tab (M + 1000) (d + 5) 18 m18 rfl]
  have hl := byL_len bs
  have bad : (longF bs = bs.length → bs.length ≤ 54 → 4 ≤ bs.length → False) → goodF bs = false := fun h => by
    rw [← Bool.not_eq_true]; intro hg
    obtain ⟨g1, g2, g3⟩ := good_len hr hg
    exact h g1 g2 g3
  unfold outRd errF
  have hu' := uz32.symm
  by_cases c1 : (bs.length : Int) > 64
  · rw [bad (by omega), cond_false, if_pos (by omega)]
    unfold errR
    rw [← hl] at c1
    simp only [frC, zeF]
    generalize uL z32 = z at *
    generalize byL bs = b at *
    simp -implicitDefEqProofs (maxSteps := 1000000) (disch := first | omega | rfl) [m18, c1, hu', boxO, -List.reduceReplicate, KF, KS, getS, getO, gS, zipN, dropW, takeW, wds, stvs, sea, seaL, refs, refsL, refsEls, refsO, isPureEls, isPures, isPure, noExt, noExts, noExtEls, cellsL, ren, renL, renEls, keepO, keepS, keysO, refsS, refsOB, headC, setS, boxO, row, putW, putB, putB1, eNl, newOs, frz, renO, noExtO, zps, zp, two32, w64, -getElem?_pos, k_cnt, k_cnt0]
  have h21 := V21 (M + 900) (d + 2) bs (by omega) hr
  rw [show M + 900 + 100 = M + 1000 by omega, show d + 2 + 3 = d + 5 by omega] at h21
  rw [if_neg (show ¬ 64 < bs.length by omega)]
  by_cases c2 : longF bs = -1
  · rw [bad (by omega), cond_false, if_pos c2]
    unfold errR
    rw [c2] at h21
    rw [← hl] at c1
    simp only [frC, zeF]
    generalize uL z32 = z at *
    generalize byL bs = b at *
    simp -implicitDefEqProofs (maxSteps := 1000000) (disch := first | omega | rfl) [m18, h21, c1, hu', boxO, -List.reduceReplicate, KF, KS, getS, getO, gS, zipN, dropW, takeW, wds, stvs, sea, seaL, refs, refsL, refsEls, refsO, isPureEls, isPures, isPure, noExt, noExts, noExtEls, cellsL, ren, renL, renEls, keepO, keepS, keysO, refsS, refsOB, headC, setS, boxO, row, putW, putB, putB1, eNl, newOs, frz, renO, noExtO, zps, zp, two32, w64, -getElem?_pos, k_cnt, k_cnt0]
  rw [if_neg c2]
  by_cases c3 : longF bs = bs.length ∧ longF bs ≠ 2
  · obtain ⟨c3, c4⟩ := c3
    have h3 : 3 ≤ bs.length := by
      rcases long_cases bs hr with h | h <;> omega
    have h2 : 2 < bs.length := by omega
    have hk := hr bs[2] (List.getElem_mem h2)
    have hx : (byL bs)[2]? = some [.i .u8 bs[2]] := by simp [byL, h2]
    have hg : bs.getD 2 0 = bs[2] := by simp [List.getD, h2]
    rw [← gdK_seem, seemF, hg]
    generalize bs[2] = k at *
    cases hi : inB k 0 6
    · have hp : plainF (getF k bs) = false := by
        have : (getF k bs).kind = k := by
          have hh : ¬ (0 ≤ k ∧ k ≤ 6) := by intro h; simp [inB, h.1, h.2] at hi
          unfold getF
          rw [if_neg (by omega), if_neg (by omega), if_neg (by omega), if_neg (by omega), if_neg (by omega), if_neg (by omega)]
        exact plain_kind _ (by rw [this]; exact hi)
      have : gdK k bs = false := by unfold gdK; rw [hp]; rfl
      rw [this, cond_false]
      exact R11x M d k bs hi hk (by omega) h3 hr c3 hx
    · rcases kinds hi with e | e | e | e | e | e | e <;> subst e
      · exact R11_0 M d bs (by omega) h3 hr c3 hx
      · exact R11_1 M d bs (by omega) h3 hr c3 hx
      · exact R11_2 M d bs (by omega) h3 hr c3 hx
      · exact R11_3 M d bs (by omega) h3 hr c3 hx
      · exact R11_4 M d bs (by omega) h3 hr c3 hx
      · exact R11_5 M d bs (by omega) h3 hr c3 hx
      · exact R11_6 M d bs (by omega) h3 hr c3 hx
  · rw [bad (by omega), cond_false]
    unfold errR
    have c2' : (longF bs == -1) = false := by simp [c2]
    by_cases c4 : longF bs = bs.length
    · have c5 : longF bs = 2 := by omega
      have c6 : (bs.length : Int) = 2 := by omega
      rw [c5] at h21
      rw [← hl] at c1 c6
      simp only [frC, zeF]
      generalize uL z32 = z at *
      generalize byL bs = b at *
      simp -implicitDefEqProofs (maxSteps := 1000000) (disch := first | omega | rfl) [m18, h21, c1, c6, hu', boxO, -List.reduceReplicate, KF, KS, getS, getO, gS, zipN, dropW, takeW, wds, stvs, sea, seaL, refs, refsL, refsEls, refsO, isPureEls, isPures, isPure, noExt, noExts, noExtEls, cellsL, ren, renL, renEls, keepO, keepS, keysO, refsS, refsOB, headC, setS, boxO, row, putW, putB, putB1, eNl, newOs, frz, renO, noExtO, zps, zp, two32, w64, -getElem?_pos, k_cnt, k_cnt0]
    · have c5 : (longF bs != (bs.length : Int)) = true := by simp [c4]
      generalize longF bs = l at *
      rw [← hl] at c1 c5
      simp only [frC, zeF]
      generalize uL z32 = z at *
      generalize byL bs = b at *
      simp -implicitDefEqProofs (maxSteps := 1000000) (disch := first | omega | rfl) [m18, h21, c1, c2', c5, hu', boxO, -List.reduceReplicate, KF, KS, getS, getO, gS, zipN, dropW, takeW, wds, stvs, sea, seaL, refs, refsL, refsEls, refsO, isPureEls, isPures, isPure, noExt, noExts, noExtEls, cellsL, ren, renL, renEls, keepO, keepS, keysO, refsS, refsOB, headC, setS, boxO, row, putW, putB, putB1, eNl, newOs, frz, renO, noExtO, zps, zp, two32, w64, -getElem?_pos, k_cnt, k_cnt0]
end
section
theorem chars_injF : ∀ xs ys : List Int, (∀ x ∈ xs, 0 ≤ x ∧ x ≤ 255) → (∀ x ∈ ys, 0 ≤ x ∧ x ≤ 255) → chars xs = chars ys → xs = ys
  | [], [], _, _, _ => rfl
  | [], _ :: _, _, _, h => by simp [chars] at h
  | _ :: _, [], _, _, h => by simp [chars] at h
  | x :: r, y :: s, hx, hy, h => by
    simp only [chars, List.map_cons, List.cons.injEq] at h
    have h1 := chars_injF r s (fun z hz => hx z (List.mem_cons_of_mem _ hz)) (fun z hz => hy z (List.mem_cons_of_mem _ hz)) (by simpa [chars] using h.2)
    have h2 := congrArg UInt8.toNat h.1
    have a := hx x (by simp)
    have b := hy y (by simp)
    rw [UInt8.toNat_ofNat', UInt8.toNat_ofNat'] at h2
    rw [h1, show x = y by omega]
theorem dec_charsF (xs ys : List Int) (hx : ∀ x ∈ xs, 0 ≤ x ∧ x ≤ 255) (hy : ∀ x ∈ ys, 0 ≤ x ∧ x ≤ 255) : decide (chars xs = chars ys) = decide (xs = ys) := by
  by_cases h : xs = ys
  · simp [h]
  · rw [decide_eq_false h, decide_eq_false (fun e => h (chars_injF xs ys hx hy e))]
theorem take_put (l : List Int) : List.take l.length (byL l) = byL l := List.take_of_length_le (by rw [byL_len]; exact Nat.le_refl _)
theorem eSt_frn (neg : Bool) (f g : Fra) (hf : f.tag.length = 32) (hg : g.tag.length = 32) : eSt neg [.i, .i, .i, .i, .i, .i, .i, .i, .a 32] (.agg (frC f)) (.agg (frC g)) = some (.b (eqFr f g ^^ neg)) := by
  have h := eqIs_uL f.tag g.tag (by rw [hf, hg])
  simp only [eSt, frC, eqSh, eqS1, if_pos rfl, andRR, andR, and_self, h, notR, eqFr]
  simp
end
section
attribute [local congr] bnd_cg bndO_cg br_cg
/-- A frame's tag, by a key; may it have one? -/
noncomputable def tX (key : List Int) (f : Fra) : List Int := tagI key (frontF f)
def canX (f : Fra) : Bool := plainF f && tagdF f.kind
noncomputable def outT (key : List Int) (f : Fra) : Option R := cond (canX f) (some (.tup [.agg [.blob 32 (uL (tX key f))], .b true], [])) (some (.tup [.agg [.blob 32 (uL z32)], .b false], []))
theorem tX_len (key : List Int) (f : Fra) : (tX key f).length = 32 := tagI_len _ _
theorem V10X (M d : Nat) (f : Fra) (o : okF f) : sem tab (M + 1000) (d + 9) 10 [.agg (frC f)] [] = cond (canX f) (some (.sl 0 0 0 (aheadF f.kind), [row (byL (frontF f)) 1 true])) (some (.sl 0 0 0 0, [row [] 1 true])) := V17 (M + 900) (d + 4) f o
theorem take_k (h : List Int) (hl : h.length = 32) : (uL h).take 32 = uL h := List.take_of_length_le (by rw [uL_len, hl]; exact Nat.le_refl _)
set_option maxHeartbeats 8000000 in
theorem V27s (M d : Nat) (key : List Int) (f : Fra) (hk : key.length = 32) (o : okF f) : sem tab (M + 1000) (d + 10) 27 [.agg [.blob 32 (uL key)], .agg (frC f)] [] = outT key f := by
  rw [sem_succ tab (M + 1000) (d + 9) 27 m27 rfl]
  have h17 := V10X M d f o
  have ha := aheadF_le f.kind
  have fl := byL_len (frontF f)
  rw [frontF_len] at fl
  have h30 := L30 M d key (frontF f) (by omega) (by rw [frontF_len]; omega)
  have tf : List.take (aheadF f.kind) (byL (frontF f)) = byL (frontF f) := List.take_of_length_le (by omega)
  have kl := uL_len key
  rw [hk] at kl
  have tk := take_k key hk
  have mk := map_uf key
  have zl : ((aheadF f.kind : Int) == 0) = false := by rw [beq_eq_false_iff_ne]; omega
  have hu' := uz32.symm
  have zl2 : (uL z32).length = 32 := by rw [uL_len]; rfl
  have xl : (uL (tagI key (frontF f))).length = 32 := by rw [uL_len, tagI_len]
  unfold outT tX
  cases c : canX f <;> rw [c] at h17 <;> simp only [cond_true, cond_false] at h17 ⊢
  · clear h30 tf fl
    obtain ⟨a1, a2, a3, a4, a5, a6, a7, a8, a9⟩ := f
    simp only [frC, row] at *
    generalize uL a9 = q at *
    generalize uL key = u at *
    generalize uL z32 = z at *
    simp -implicitDefEqProofs (maxSteps := 1000000) (disch := first | omega | rfl) [m27, h17, kl, zl2, hu', -List.reduceReplicate, boxO, KVl, KF, KS, getS, getO, gS, zipN, dropW, takeW, wds, stvs, sea, seaL, refs, refsL, refsEls, refsO, isPureEls, isPures, isPure, noExt, noExts, noExtEls, cellsL, ren, renL, renEls, keepO, keepS, keysO, refsS, refsOB, headC, setS, boxO, row, putW, putB, putB1, eNl, newOs, frz, renO, noExtO, zps, zp, two32, w64, -getElem?_pos, k_cnt, k_cnt0]
  · generalize uL (tagI key (frontF f)) = X at *
    generalize byL (frontF f) = y at *
    generalize aheadF f.kind = n at *
    generalize byL key = bk at *
    obtain ⟨a1, a2, a3, a4, a5, a6, a7, a8, a9⟩ := f
    simp only [frC, row] at *
    generalize uL a9 = q at *
    generalize uL key = u at *
    generalize uL z32 = z at *
    simp -implicitDefEqProofs (maxSteps := 1000000) (disch := first | omega | rfl) [m27, h17, h30, kl, tk, mk, fl, tf, zl, zl2, xl, hu', -List.reduceReplicate, boxO, KVl, KF, KS, getS, getO, gS, zipN, dropW, takeW, wds, stvs, sea, seaL, refs, refsL, refsEls, refsO, isPureEls, isPures, isPure, noExt, noExts, noExtEls, cellsL, ren, renL, renEls, keepO, keepS, keysO, refsS, refsOB, headC, setS, boxO, row, putW, putB, putB1, eNl, newOs, frz, renO, noExtO, zps, zp, two32, w64, -getElem?_pos, k_cnt, k_cnt0]
set_option maxHeartbeats 8000000 in
theorem V13s (M d : Nat) (key : List Int) (f : Fra) (hk : key.length = 32) (o : okF f) : sem tab (M + 1000) (d + 11) 13 [.agg [.blob 32 (uL key)], .agg (frC f)] [] = outT key f := by
  rw [sem_succ tab (M + 1000) (d + 10) 13 m13 rfl]
  have h27 := V27s M d key f hk o
  have kl := uL_len key
  rw [hk] at kl
  have hu' := uz32.symm
  have zl2 : (uL z32).length = 32 := by rw [uL_len]; rfl
  have xl : (uL (tX key f)).length = 32 := by rw [uL_len, tX_len]
  unfold outT at *
  cases c : canX f <;> rw [c] at h27 <;> simp only [cond_true, cond_false] at h27 ⊢
  · obtain ⟨a1, a2, a3, a4, a5, a6, a7, a8, a9⟩ := f
    simp only [frC, row] at *
    generalize uL a9 = q at *
    generalize uL key = u at *
    generalize uL z32 = z at *
    simp -implicitDefEqProofs (maxSteps := 1000000) (disch := first | omega | rfl) [m13, h27, kl, zl2, hu', -List.reduceReplicate, boxO, KVl, KF, KS, getS, getO, gS, zipN, dropW, takeW, wds, stvs, sea, seaL, refs, refsL, refsEls, refsO, isPureEls, isPures, isPure, noExt, noExts, noExtEls, cellsL, ren, renL, renEls, keepO, keepS, keysO, refsS, refsOB, headC, setS, boxO, row, putW, putB, putB1, eNl, newOs, frz, renO, noExtO, zps, zp, two32, w64, -getElem?_pos, k_cnt, k_cnt0]
  · generalize uL (tX key f) = X at *
    obtain ⟨a1, a2, a3, a4, a5, a6, a7, a8, a9⟩ := f
    simp only [frC, row] at *
    generalize uL a9 = q at *
    generalize uL key = u at *
    generalize uL z32 = z at *
    simp -implicitDefEqProofs (maxSteps := 1000000) (disch := first | omega | rfl) [m13, h27, kl, zl2, xl, hu', -List.reduceReplicate, boxO, KVl, KF, KS, getS, getO, gS, zipN, dropW, takeW, wds, stvs, sea, seaL, refs, refsL, refsEls, refsO, isPureEls, isPures, isPure, noExt, noExts, noExtEls, cellsL, ren, renL, renEls, keepO, keepS, keysO, refsS, refsOB, headC, setS, boxO, row, putW, putB, putB1, eNl, newOs, frz, renO, noExtO, zps, zp, two32, w64, -getElem?_pos, k_cnt, k_cnt0]
theorem k_ca28 (Φ : Sem') (ob : OB) (d f k : Nat) (u : List PV) (a1 a2 a3 a4 a5 a6 a7 a8 : Int) (q : List PV) : ca Φ ob d false f [.agg [.i .i64 a1, .i .i64 a2, .i .u64 a3, .i .u64 a4, .i .i64 a5, .i .u64 a6, .i .i64 a7, .i .i64 a8, .blob 32 q], .fn k [.agg [.blob 32 u]] []] = ca0R ob d [] (Φ f [.agg [.i .i64 a1, .i .i64 a2, .i .u64 a3, .i .u64 a4, .i .i64 a5, .i .u64 a6, .i .i64 a7, .i .i64 a8, .blob 32 q], .fn k [.agg [.blob 32 u]] []] []) := by
  have e : reifies ob [.agg [.i .i64 a1, .i .i64 a2, .i .u64 a3, .i .u64 a4, .i .i64 a5, .i .u64 a6, .i .i64 a7, .i .i64 a8, .blob 32 q], .fn k [.agg [.blob 32 u]] []] = some ([.agg [.i .i64 a1, .i .i64 a2, .i .u64 a3, .i .u64 a4, .i .i64 a5, .i .u64 a6, .i .i64 a7, .i .i64 a8, .blob 32 q], .fn k [.agg [.blob 32 u]] []], []) := by simp [reifies, reify, reifyL, reify0]
  have r : reach ob 20 (refsL [.agg [.i .i64 a1, .i .i64 a2, .i .u64 a3, .i .u64 a4, .i .i64 a5, .i .u64 a6, .i .i64 a7, .i .i64 a8, .blob 32 q], PV.fn k [.agg [.blob 32 u]] []]) [] = some [] := by simp [refsL, refs, reach]
  unfold ca
  simp only [hand, Bool.false_eq_true, if_false, e, r]
  cases Φ f [.agg [.i .i64 a1, .i .i64 a2, .i .u64 a3, .i .u64 a4, .i .i64 a5, .i .u64 a6, .i .i64 a7, .i .i64 a8, .blob 32 q], .fn k [.agg [.blob 32 u]] []] [] <;> rfl
theorem k_cav28 (Φ : Sem') (ob : OB) (d k : Nat) (u : List PV) (a1 a2 a3 a4 a5 a6 a7 a8 : Int) (q : List PV) : cav Φ ob d false (.fn k [.agg [.blob 32 u]] []) [.agg [.i .i64 a1, .i .i64 a2, .i .u64 a3, .i .u64 a4, .i .i64 a5, .i .u64 a6, .i .i64 a7, .i .i64 a8, .blob 32 q]] = ca0R ob d [] (Φ k [.agg [.blob 32 u], .agg [.i .i64 a1, .i .i64 a2, .i .u64 a3, .i .u64 a4, .i .i64 a5, .i .u64 a6, .i .i64 a7, .i .i64 a8, .blob 32 q]] []) := by
  have e : reifies ob [.agg [.blob 32 u], .agg [.i .i64 a1, .i .i64 a2, .i .u64 a3, .i .u64 a4, .i .i64 a5, .i .u64 a6, .i .i64 a7, .i .i64 a8, .blob 32 q]] = some ([.agg [.blob 32 u], .agg [.i .i64 a1, .i .i64 a2, .i .u64 a3, .i .u64 a4, .i .i64 a5, .i .u64 a6, .i .i64 a7, .i .i64 a8, .blob 32 q]], []) := by simp [reifies, reify, reifyL, reify0]
  have r : reach ob 20 (refsL [PV.agg [.blob 32 u], .agg [.i .i64 a1, .i .i64 a2, .i .u64 a3, .i .u64 a4, .i .i64 a5, .i .u64 a6, .i .i64 a7, .i .i64 a8, .blob 32 q]]) [] = some [] := by simp [refsL, refs, reach]
  simp only [cav, List.cons_append, List.nil_append]
  unfold ca
  simp only [hand, Bool.false_eq_true, if_false, e, r]
  cases Φ k [.agg [.blob 32 u], .agg [.i .i64 a1, .i .i64 a2, .i .u64 a3, .i .u64 a4, .i .i64 a5, .i .u64 a6, .i .i64 a7, .i .i64 a8, .blob 32 q]] [] <;> rfl
noncomputable def outSl (key : List Int) (f : Fra) : Option R := cond (canX f) (some (.tup [.agg (frC { f with tag := tX key f }), .b true], [])) (some (.tup [.agg (frC zeF), .b false], []))
set_option maxHeartbeats 8000000 in
theorem V28s (M d : Nat) (key : List Int) (f : Fra) (hk : key.length = 32) (o : okF f) : sem tab (M + 1000) (d + 11) 28 [.agg (frC f), .fn 27 [.agg [.blob 32 (uL key)]] []] [] = outSl key f := by
  rw [sem_succ tab (M + 1000) (d + 10) 28 m28 rfl]
  have h27 := V27s M d key f hk o
  have hu' := uz32.symm
  have zl2 : (uL z32).length = 32 := by rw [uL_len]; rfl
  have xl : (uL (tX key f)).length = 32 := by rw [uL_len, tX_len]
  have fl := uL_len f.tag
  rw [o.tag] at fl
  unfold outT at h27
  unfold outSl
  cases c : canX f <;> rw [c] at h27 <;> simp only [cond_true, cond_false] at h27 ⊢
  · obtain ⟨a1, a2, a3, a4, a5, a6, a7, a8, a9⟩ := f
    simp only [frC, zeF, row] at *
    generalize uL a9 = q at *
    generalize uL key = u at *
    generalize uL z32 = z at *
    simp -implicitDefEqProofs (maxSteps := 1000000) (disch := first | omega | rfl) [m28, h27, k_cav28, zl2, fl, hu', -List.reduceReplicate, boxO, KVl, KF, KS, getS, getO, gS, zipN, dropW, takeW, wds, stvs, sea, seaL, refs, refsL, refsEls, refsO, isPureEls, isPures, isPure, noExt, noExts, noExtEls, cellsL, ren, renL, renEls, keepO, keepS, keysO, refsS, refsOB, headC, setS, boxO, row, putW, putB, putB1, eNl, newOs, frz, renO, noExtO, zps, zp, two32, w64, -getElem?_pos, k_cnt, k_cnt0]
  · generalize tX key f = X at *
    obtain ⟨a1, a2, a3, a4, a5, a6, a7, a8, a9⟩ := f
    simp only [frC, zeF, row] at *
    generalize uL a9 = q at *
    generalize uL X = x at *
    generalize uL key = u at *
    generalize uL z32 = z at *
    simp -implicitDefEqProofs (maxSteps := 1000000) (disch := first | omega | rfl) [m28, h27, k_cav28, zl2, xl, fl, hu', -List.reduceReplicate, boxO, KVl, KF, KS, getS, getO, gS, zipN, dropW, takeW, wds, stvs, sea, seaL, refs, refsL, refsEls, refsO, isPureEls, isPures, isPure, noExt, noExts, noExtEls, cellsL, ren, renL, renEls, keepO, keepS, keysO, refsS, refsOB, headC, setS, boxO, row, putW, putB, putB1, eNl, newOs, frz, renO, noExtO, zps, zp, two32, w64, -getElem?_pos, k_cnt, k_cnt0]
set_option maxHeartbeats 8000000 in
/-- A frame with its tag. -/
theorem V12s (M d : Nat) (key : List Int) (f : Fra) (hk : key.length = 32) (o : okF f) : sem tab (M + 1000) (d + 12) 12 [.agg [.blob 32 (uL key)], .agg (frC f)] [] = outSl key f := by
  rw [sem_succ tab (M + 1000) (d + 11) 12 m12 rfl]
  have h28 := V28s M d key f hk o
  have hu' := uz32.symm
  have kl := uL_len key
  rw [hk] at kl
  have zl2 : (uL z32).length = 32 := by rw [uL_len]; rfl
  have xl : (uL (tX key f)).length = 32 := by rw [uL_len, tX_len]
  have fl := uL_len f.tag
  rw [o.tag] at fl
  unfold outSl at *
  generalize tX key f = X at *
  generalize canX f = c at *
  obtain ⟨a1, a2, a3, a4, a5, a6, a7, a8, a9⟩ := f
  simp only [frC, zeF, row] at *
  generalize uL a9 = q at *
  generalize uL X = x at *
  generalize uL key = u at *
  generalize uL z32 = z at *
  cases c <;> simp only [cond_true, cond_false] at h28 ⊢ <;>
  simp -implicitDefEqProofs (maxSteps := 1000000) (disch := first | omega | rfl) [m12, h28, k_ca28, kl, zl2, xl, fl, hu', -List.reduceReplicate, boxO, KVl, KF, KS, getS, getO, gS, zipN, dropW, takeW, wds, stvs, sea, seaL, refs, refsL, refsEls, refsO, isPureEls, isPures, isPure, noExt, noExts, noExtEls, cellsL, ren, renL, renEls, keepO, keepS, keysO, refsS, refsOB, headC, setS, boxO, row, putW, putB, putB1, eNl, newOs, frz, renO, noExtO, zps, zp, two32, w64, -getElem?_pos, k_cnt, k_cnt0]
end
section
attribute [local congr] bnd_cg bndO_cg br_cg
theorem tX_range (key : List Int) (f : Fra) : ∀ x ∈ tX key f, 0 ≤ x ∧ x ≤ 255 :=
  sumI_range _ (app_range (padI_range _ _) (sumI_range _ (app_range (padI_range _ _) (catB_range (allF f)))))
theorem can_pl {f : Fra} (h : canX f = true) : PlF f ∧ tagdF f.kind = true := by
  unfold canX at h
  rw [Bool.and_eq_true] at h
  exact ⟨(plainF_iff f).1 h.1, h.2⟩
theorem tagd_kind {k : Int} (h : tagdF k = true) : 2 ≤ k ∧ k ≤ 5 := by
  unfold tagdF inB at h
  rw [Bool.and_eq_true, decide_eq_true_eq, decide_eq_true_eq] at h
  exact h
theorem bare_tag (f : Fra) (t : List Int) (h : tagdF f.kind = true) : eqFr (bareF { f with tag := t }) { f with tag := t } = eqFr (bareF f) f := by
  obtain ⟨a1, a2, a3, a4, a5, a6, a7, a8, a9⟩ := f
  have h := tagd_kind h
  simp only at h
  have hk : a1 = 2 ∨ a1 = 3 ∨ a1 = 4 ∨ a1 = 5 := by omega
  rcases hk with e | e | e | e <;> subst e <;> simp [bareF, eqFr]
theorem can_tag (f : Fra) (t : List Int) : canX { f with tag := t } = canX f := by
  unfold canX plainF
  show ((inB f.kind 0 6 && (inB f.user 0 255 && (inB f.epoch 0 1073741824 && (inB f.cmd 0 255 && (inB f.arg 0 65535 && eqFr (bareF { f with tag := t }) { f with tag := t }))))) && tagdF f.kind) = _
  cases h : tagdF f.kind
  · simp
  · rw [bare_tag f t h]
theorem tX_tag (key : List Int) (f : Fra) (t : List Int) : tX key { f with tag := t } = tX key f := rfl
theorem ne_ze {f : Fra} (h : tagdF f.kind = true) : eqFr f zeF = false := by
  apply eqFr_ne
  intro e
  rw [e] at h
  exact absurd h (by decide)
def chkX (own : List Int) (f : Fra) : Int := cond (canX f) (cond (decide (own = f.tag)) 0 7) 3
set_option maxHeartbeats 8000000 in
/-- Is the tag right? -/
theorem V9s (M d : Nat) (key : List Int) (f : Fra) (hk : key.length = 32) (o : okF f) : sem tab (M + 1000) (d + 13) 9 [.agg [.blob 32 (uL key)], .agg (frC f)] [] = some (.i .i64 (chkX (tX key f) f), []) := by
  rw [sem_succ tab (M + 1000) (d + 12) 9 m9 rfl]
  have h12 := V12s M d key f hk o
  have h32 := L32 M (d + 11) (tX key f) f.tag (tX_range key f) o.tagr (by rw [tX_len]; omega)
  have hu' := uz32.symm
  have kl := uL_len key
  rw [hk] at kl
  have zl2 : (uL z32).length = 32 := by rw [uL_len]; rfl
  have xl : (uL (tX key f)).length = 32 := by rw [uL_len, tX_len]
  have fl := uL_len f.tag
  rw [o.tag] at fl
  have tx := take_k (tX key f) (tX_len key f)
  have tf := take_k f.tag o.tag
  have mx := map_uf (tX key f)
  have mf := map_uf f.tag
  have ez := eSt_frn false { f with tag := tX key f } zeF (tX_len key f) z32_len
  unfold outSl at h12
  unfold chkX
  cases c : canX f <;> rw [c] at h12 <;> simp only [cond_true, cond_false] at h12 ⊢
  · clear ez h32 mx mf tx tf xl
    obtain ⟨a1, a2, a3, a4, a5, a6, a7, a8, a9⟩ := f
    simp only [frC, zeF, row] at *
    generalize uL a9 = q at *
    generalize uL key = u at *
    generalize uL z32 = z at *
    simp -implicitDefEqProofs (maxSteps := 1000000) (disch := first | omega | rfl) [m9, h12, kl, zl2, fl, hu', -List.reduceReplicate, boxO, KVl, KF, KS, getS, getO, gS, zipN, dropW, takeW, wds, stvs, sea, seaL, refs, refsL, refsEls, refsO, isPureEls, isPures, isPure, noExt, noExts, noExtEls, cellsL, ren, renL, renEls, keepO, keepS, keysO, refsS, refsOB, headC, setS, boxO, row, putW, putB, putB1, eNl, newOs, frz, renO, noExtO, zps, zp, two32, w64, -getElem?_pos, k_cnt, k_cnt0]
  · rw [ne_ze (f := { f with tag := tX key f }) (can_pl c).2] at ez
    generalize decide (tX key f = f.tag) = e at *
    generalize tX key f = X at *
    obtain ⟨a1, a2, a3, a4, a5, a6, a7, a8, a9⟩ := f
    simp only [frC, zeF, row] at *
    generalize byL X = bx at *
    generalize byL a9 = b9 at *
    generalize uL a9 = q at *
    generalize uL X = x at *
    generalize uL key = u at *
    generalize uL z32 = z at *
    cases e <;> simp only [cond_true, cond_false] <;>
    simp -implicitDefEqProofs (maxSteps := 1000000) (disch := first | omega | rfl) [m9, h12, h32, kl, zl2, xl, fl, tx, tf, mx, mf, ez, hu', -List.reduceReplicate, boxO, KVl, KF, KS, getS, getO, gS, zipN, dropW, takeW, wds, stvs, sea, seaL, refs, refsL, refsEls, refsO, isPureEls, isPures, isPure, noExt, noExts, noExtEls, cellsL, ren, renL, renEls, keepO, keepS, keysO, refsS, refsOB, headC, setS, boxO, row, putW, putB, putB1, eNl, newOs, frz, renO, noExtO, zps, zp, two32, w64, -getElem?_pos, k_cnt, k_cnt0]
/-- With another tag ahead of sealing. -/
theorem V12t (M d : Nat) (key : List Int) (f : Fra) (t : List Int) (hk : key.length = 32) (o : okF { f with tag := t }) : sem tab (M + 1000) (d + 12) 12 [.agg [.blob 32 (uL key)], .agg (frC { f with tag := t })] [] = some (cond (canX f) (.tup [.agg (frC { f with tag := tX key f }), .b true]) (.tup [.agg (frC zeF), .b false]), []) := by
  have h := V12s M d key { f with tag := t } hk o
  unfold outSl at h
  rw [can_tag, tX_tag] at h
  rw [h]
  cases canX f <;> rfl
theorem V9t (M d : Nat) (key : List Int) (f : Fra) (t : List Int) (hk : key.length = 32) (o : okF { f with tag := t }) : sem tab (M + 1000) (d + 13) 9 [.agg [.blob 32 (uL key)], .agg (frC { f with tag := t })] [] = some (.i .i64 (cond (canX f) (cond (decide (tX key f = t)) 0 7) 3), []) := by
  have h := V9s M d key { f with tag := t } hk o
  unfold chkX at h
  rw [can_tag, tX_tag] at h
  exact h
theorem okF_tag {f : Fra} (o : okF f) (t : List Int) (h : t.length = 32) (r : ∀ x ∈ t, 0 ≤ x ∧ x ≤ 255) : okF { f with tag := t } := ⟨o.sess, o.cn, o.count, h, r⟩
def key1 : List Int := 1 :: List.replicate 31 0
def fra2 : Fra := ⟨2, 0, 5, 0, 0, 0, 0, 0, z32⟩
set_option maxHeartbeats 8000000 in
theorem awakeS (M d : Nat) : sem tab (M + 1000) (d + 14) 8 [] [] = some (.b true, []) := by
  rw [sem_succ tab (M + 1000) (d + 13) 8 m8 rfl]
  have o2 : okF fra2 := ⟨by decide, by decide, by decide, z32_len, z32_range⟩
  have hk1 : key1.length = 32 := rfl
  have c2 : canX fra2 = true := by decide
  have cz : canX zeF = false := by decide
  have oX := okF_tag o2 (tX key1 fra2) (tX_len _ _) (tX_range _ _)
  have s1 := V12t M (d + 1) key1 fra2 z32 hk1 o2
  have s2 := V12t M (d + 1) key1 fra2 (tX key1 fra2) hk1 oX
  have s3 := V12s M (d + 1) key1 zeF hk1 okF_ze
  have k1 := V9t M d key1 fra2 (tX key1 fra2) hk1 oX
  have k2 := V9s M d key1 zeF hk1 okF_ze
  unfold outSl at s3
  unfold chkX at k2
  rw [cz, cond_false] at s3 k2
  rw [c2, cond_true] at s1 s2 k1
  rw [decide_eq_true rfl, cond_true] at k1
  have es := eSt_frn false ⟨2, 0, 5, 0, 0, 0, 0, 0, tX key1 fra2⟩ ⟨2, 0, 5, 0, 0, 0, 0, 0, tX key1 fra2⟩ (tX_len _ _) (tX_len _ _)
  rw [eqFr_self] at es
  have xl : (uL (tX key1 fra2)).length = 32 := by rw [uL_len, tX_len]
  have hu' := uz32.symm
  have zl2 : (uL z32).length = 32 := by rw [uL_len]; rfl
  have uk : uL key1 = (.i .u8 1) :: List.replicate 31 (.i .u8 0) := rfl
  have ks : (uL z32).set 0 (.i .u8 1) = uL key1 := rfl
  generalize tX key1 fra2 = X at *
  simp only [show fra2.kind = 2 from rfl, show fra2.user = 0 from rfl, show fra2.sess = 5 from rfl, show fra2.cn = 0 from rfl, show fra2.epoch = 0 from rfl, show fra2.count = 0 from rfl, show fra2.cmd = 0 from rfl, show fra2.arg = 0 from rfl] at s1 s2 k1
  simp only [frC, zeF] at *
  generalize uL X = x at *
  clear uk
  generalize uL key1 = u at *
  generalize uL z32 = z at *
  simp -implicitDefEqProofs (maxSteps := 1000000) (disch := first | omega | rfl) [m8, s1, s2, s3, k1, k2, es, xl, zl2, ks, hu', -List.reduceReplicate, boxO, KVl, KF, KS, getS, getO, gS, zipN, dropW, takeW, wds, stvs, sea, seaL, refs, refsL, refsEls, refsO, isPureEls, isPures, isPure, noExt, noExts, noExtEls, cellsL, ren, renL, renEls, keepO, keepS, keysO, refsS, refsOB, headC, setS, boxO, row, putW, putB, putB1, eNl, newOs, frz, renO, noExtO, zps, zp, two32, w64, -getElem?_pos, k_cnt, k_cnt0]
end
end Go.Proofs.YtgpggpbibdnfhaaDoor
