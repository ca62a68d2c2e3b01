import Derived.Test.YtnkapponcbgbhaaPgC
import Derived.Test.YtnkapponcbgbhaaGlueA
import Derived.Test.YtnkapponcbgbhaaOk1
set_option linter.all false
set_option linter.unusedSimpArgs false
set_option linter.unusedVariables false
namespace Go.Proofs.Ytnkapponcbgbhaa
open Go
section
set_option maxRecDepth 100000
theorem u8_of {n : Int} (h : (Lit.int .u8 n).wf = true) : 0 ≤ n ∧ n ≤ 255 := by
  simp [Lit.wf, IntKind.min, IntKind.max, IntKind.signed, IntKind.bits] at h
  omega
theorem u64_of {n : Int} (h : (Lit.int .u64 n).wf = true) : 0 ≤ n ∧ n ≤ 18446744073709551615 := by
  simp [Lit.wf, IntKind.min, IntKind.max, IntKind.signed, IntKind.bits] at h
  omega
theorem i64_of {n : Int} (h : (Lit.int .i64 n).wf = true) : -9223372036854775808 ≤ n ∧ n ≤ 9223372036854775807 := by
  simp [Lit.wf, IntKind.min, IntKind.max, IntKind.signed, IntKind.bits] at h
  omega
theorem Ty_int {d : Nat} {t : TypeId} {k : IntKind} {c : List PV} (hu : Try.prog.underlying t = some (.int k)) (h : Ty Try.prog (d + 1) t c) : ∃ n, c = [.i k n] ∧ (Lit.int k n).wf = true := by
  unfold Ty at h; rw [hu] at h; exact h
theorem Ty_slice {d : Nat} {t e : TypeId} {c : List PV} (hu : Try.prog.underlying t = some (.slice e)) (h : Ty Try.prog (d + 1) t c) : ∃ xs, c = [.l false xs] ∧ ∀ x ∈ xs, Ty Try.prog d e x := by
  unfold Ty at h; rw [hu] at h; exact h
theorem Ty_array {d n : Nat} {t e : TypeId} {c : List PV} (hu : Try.prog.underlying t = some (.array n e)) (h : Ty Try.prog (d + 1) t c) : ∃ (k : IntKind) (ns : List Int), Try.prog.underlying e = some (.int k) ∧ ns.length = n ∧ c = [.blob n (ns.map (.i k))] ∧ ∀ m ∈ ns, (Lit.int k m).wf = true := by
  unfold Ty at h; rw [hu] at h; exact h
theorem Ty_struct {d : Nat} {t : TypeId} {fs : Array Field} {c : List PV} (hu : Try.prog.underlying t = some (.struct fs)) (h : Ty Try.prog (d + 1) t c) : TyFs (Ty Try.prog d) fs.toList c := by
  unfold Ty at h; rw [hu] at h; exact h
theorem bytes_of_cells {d : Nat} {c : List PV} (h : Ty Try.prog (d + 2) 45 c) : ∃ xs : List Int, (∀ n ∈ xs, 0 ≤ n ∧ n ≤ 255) ∧ c = [.l false (byL xs)] := by
  obtain ⟨rs, rfl, h'⟩ := Ty_slice Try.underlying45 h
  clear h
  have : ∃ xs : List Int, (∀ n ∈ xs, 0 ≤ n ∧ n ≤ 255) ∧ rs = byL xs := by
    induction rs with
    | nil => exact ⟨[], fun n hn => (by cases hn), rfl⟩
    | cons r rs ih =>
      obtain ⟨xs, h1, rfl⟩ := ih (fun x hx => h' x (List.mem_cons_of_mem _ hx))
      have hr := h' r (by simp)
      obtain ⟨n, rfl, hn⟩ := Ty_int Try.underlying5 hr
      exact ⟨n :: xs, fun m hm => by
        rcases List.mem_cons.1 hm with rfl | hm
        · exact u8_of hn
        · exact h1 m hm, rfl⟩
  obtain ⟨xs, h1, rfl⟩ := this
  exact ⟨xs, h1, rfl⟩
theorem int_of {v : PV} (h : TyV Try.prog 8 3 v) : ∃ n : Int, -9223372036854775808 ≤ n ∧ n ≤ 9223372036854775807 ∧ v = .i .i64 n := by
  obtain ⟨cells, h1, h2⟩ := h
  obtain ⟨n, rfl, hn⟩ := Ty_int (d := 7) Try.underlying3 h1
  obtain ⟨l, u⟩ := i64_of hn
  rcases h2 with ⟨h, _⟩ | ⟨_, h⟩
  · simp [aggT, Try.underlying3] at h
  · injection h with h _; exact ⟨n, l, u, h.symm⟩
theorem frame_of_cells {d : Nat} {c : List PV} (h : Ty Try.prog (d + 3) 41 c) : ∃ f : Fra, okF f ∧ c = frC f := by
  have h1 := Ty_struct (d := d + 2) Try.underlying41 h
  simp only [TyFs] at h1
  obtain ⟨c1, _, rfl, k1, c2, _, rfl, k2, c3, _, rfl, k3, c4, _, rfl, k4, c5, _, rfl, k5, c6, _, rfl, k6, c7, _, rfl, k7, c8, _, rfl, k8, c9, _, rfl, k9, rfl⟩ := h1
  obtain ⟨n1, rfl, _⟩ := Ty_int (d := d + 1) Try.underlying3 k1
  obtain ⟨n2, rfl, _⟩ := Ty_int (d := d + 1) Try.underlying3 k2
  obtain ⟨n3, rfl, w3⟩ := Ty_int (d := d + 1) Try.underlying37 k3
  obtain ⟨n4, rfl, w4⟩ := Ty_int (d := d + 1) Try.underlying37 k4
  obtain ⟨n5, rfl, _⟩ := Ty_int (d := d + 1) Try.underlying3 k5
  obtain ⟨n6, rfl, w6⟩ := Ty_int (d := d + 1) Try.underlying37 k6
  obtain ⟨n7, rfl, _⟩ := Ty_int (d := d + 1) Try.underlying3 k7
  obtain ⟨n8, rfl, _⟩ := Ty_int (d := d + 1) Try.underlying3 k8
  obtain ⟨k, ns, hu, hl, rfl, hw⟩ := Ty_array (d := d + 1) Try.underlying39 k9
  rw [Try.underlying5] at hu
  injection hu with hu
  injection hu with hu
  subst hu
  have u3 := u64_of w3
  have u4 := u64_of w4
  have u6 := u64_of w6
  exact ⟨⟨n1, n2, n3, n4, n5, n6, n7, n8, ns⟩, ⟨⟨u3.1, by simp only; omega⟩, ⟨u4.1, by simp only; omega⟩, ⟨u6.1, by simp only; omega⟩, hl, fun n hn => u8_of (hw n hn)⟩, rfl⟩
theorem frame_of {v : PV} (h : TyV Try.prog 8 41 v) : ∃ f : Fra, okF f ∧ v = .agg (frC f) := by
  obtain ⟨cells, h1, h2⟩ := h
  obtain ⟨f, hf, rfl⟩ := frame_of_cells (d := 5) h1
  rcases h2 with ⟨_, h⟩ | ⟨h, _⟩
  · exact ⟨f, hf, h⟩
  · simp [aggT, Try.underlying41] at h
def i64B (n : Int) : Prop := -9223372036854775808 ≤ n ∧ n ≤ 9223372036854775807
def okUs (u : Us) : Prop := i64B u.1 ∧ i64B u.2.1 ∧ ∀ n ∈ u.2.2, 0 ≤ n ∧ n ≤ 255
theorem user_of_cells {d : Nat} {c : List PV} (h : Ty Try.prog (d + 3) 56 c) : ∃ u : Us, okUs u ∧ c = uC u := by
  have h1 := Ty_struct (d := d + 2) Try.underlying56 h
  simp only [TyFs] at h1
  obtain ⟨a, b, rfl, ha, c, d', rfl, hc, e, f, rfl, he, rfl⟩ := h1
  obtain ⟨n, rfl, hn⟩ := Ty_int (d := d + 1) Try.underlying3 ha
  obtain ⟨r, rfl, hr⟩ := Ty_int (d := d + 1) Try.underlying3 hc
  obtain ⟨xs, hx, rfl⟩ := bytes_of_cells (d := d) he
  exact ⟨(n, r, xs), ⟨i64_of hn, i64_of hr, hx⟩, rfl⟩
theorem users_of {v : PV} (h : TyV Try.prog 8 22 v) : ∃ l : List Us, (∀ u ∈ l, okUs u) ∧ v = .l false (usL l) := by
  obtain ⟨cells, h1, h2⟩ := h
  obtain ⟨rs, rfl, h'⟩ := Ty_slice (d := 7) Try.underlying22 h1
  rcases h2 with ⟨h, _⟩ | ⟨_, h⟩
  · simp [aggT, Try.underlying22] at h
  · injection h with h _
    clear h1
    have : ∃ l : List Us, (∀ u ∈ l, okUs u) ∧ rs = usL l := by
      clear h
      induction rs with
      | nil => exact ⟨[], fun n hn => (by cases hn), rfl⟩
      | cons r rs ih =>
        obtain ⟨xs, h1, rfl⟩ := ih (fun x hx => h' x (List.mem_cons_of_mem _ hx))
        obtain ⟨u, hu, rfl⟩ := user_of_cells (d := 4) (h' r (by simp))
        exact ⟨u :: xs, fun m hm => by
          rcases List.mem_cons.1 hm with rfl | hm
          · exact hu
          · exact h1 m hm, rfl⟩
    obtain ⟨l, hl, rfl⟩ := this
    exact ⟨l, hl, h.symm⟩
theorem ev_of_cells {d : Nat} {c : List PV} (h : Ty Try.prog (d + 3) 47 c) : ∃ e : Evn, okEv e ∧ c = evC e := by
  have h1 := Ty_struct (d := d + 2) Try.underlying47 h
  simp only [TyFs] at h1
  obtain ⟨c1, _, rfl, k1, c2, _, rfl, k2, c3, _, rfl, k3, c4, _, rfl, k4, c5, _, rfl, k5, rfl⟩ := h1
  obtain ⟨n1, rfl, _⟩ := Ty_int (d := d + 1) Try.underlying3 k1
  obtain ⟨xs, hx, rfl⟩ := bytes_of_cells (d := d) k2
  obtain ⟨n3, rfl, _⟩ := Ty_int (d := d + 1) Try.underlying37 k3
  unfold Ty at k4
  rw [Try.underlying4] at k4
  obtain ⟨b, rfl⟩ := k4
  obtain ⟨n5, rfl, _⟩ := Ty_int (d := d + 1) Try.underlying3 k5
  exact ⟨⟨n1, xs, n3, b, n5⟩, hx, rfl⟩
theorem ev_of {v : PV} (h : TyV Try.prog 8 47 v) : ∃ e : Evn, okEv e ∧ v = .agg (evC e) := by
  obtain ⟨cells, h1, h2⟩ := h
  obtain ⟨u, hu, rfl⟩ := ev_of_cells (d := 5) h1
  rcases h2 with ⟨_, h⟩ | ⟨h, _⟩
  · exact ⟨u, hu, h⟩
  · simp [aggT, Try.underlying47] at h
theorem evs_of {v : PV} (h : TyV Try.prog 8 23 v) : ∃ l : List Evn, (∀ e ∈ l, okEv e) ∧ v = .l false (evL l) := by
  obtain ⟨cells, h1, h2⟩ := h
  obtain ⟨rs, rfl, h'⟩ := Ty_slice (d := 7) Try.underlying23 h1
  rcases h2 with ⟨h, _⟩ | ⟨_, h⟩
  · simp [aggT, Try.underlying23] at h
  · injection h with h _
    clear h1
    have : ∃ l : List Evn, (∀ e ∈ l, okEv e) ∧ rs = evL l := by
      clear h
      induction rs with
      | nil => exact ⟨[], fun n hn => (by cases hn), rfl⟩
      | cons r rs ih =>
        obtain ⟨xs, h1, rfl⟩ := ih (fun x hx => h' x (List.mem_cons_of_mem _ hx))
        obtain ⟨u, hu, rfl⟩ := ev_of_cells (d := 4) (h' r (by simp))
        exact ⟨u :: xs, fun m hm => by
          rcases List.mem_cons.1 hm with rfl | hm
          · exact hu
          · exact h1 m hm, rfl⟩
    obtain ⟨l, hl, rfl⟩ := this
    exact ⟨l, hl, h.symm⟩
end
end Go.Proofs.Ytnkapponcbgbhaa
