import Derived.Test.YtmhpkdcnhgmblaaDoorPgC
import Derived.Test.YtmhpkdcnhgmblaaDoorGlueA
import Derived.Test.YtmhpkdcnhgmblaaDoorOk1
set_option linter.all false
set_option linter.unusedSimpArgs false
set_option linter.unusedVariables false
namespace Go.Proofs.YtmhpkdcnhgmblaaDoor
open Go
section
set_option maxRecDepth 100000
theorem u8_of {n : Int} (h : (Lit.int .u8 n).wf = true) : 0 ≤ n ∧ n ≤ 255 := by
  simp [Lit.wf, IntKind.min, IntKind.max, IntKind.signed, IntKind.bits] at h
  omega
theorem u64_of {n : Int} (h : (Lit.int .u64 n).wf = true) : 0 ≤ n ∧ n ≤ 18446744073709551615 := by
  simp [Lit.wf, IntKind.min, IntKind.max, IntKind.signed, IntKind.bits] at h
  omega
theorem i64_of {n : Int} (h : (Lit.int .i64 n).wf = true) : -9223372036854775808 ≤ n ∧ n ≤ 9223372036854775807 := by
  simp [Lit.wf, IntKind.min, IntKind.max, IntKind.signed, IntKind.bits] at h
  omega
theorem Ty_int {d : Nat} {t : TypeId} {k : IntKind} {c : List PV} (hu : Tryd.prog.underlying t = some (.int k)) (h : Ty Tryd.prog (d + 1) t c) : ∃ n, c = [.i k n] ∧ (Lit.int k n).wf = true := by
  unfold Ty at h; rw [hu] at h; exact h
theorem Ty_slice {d : Nat} {t e : TypeId} {c : List PV} (hu : Tryd.prog.underlying t = some (.slice e)) (h : Ty Tryd.prog (d + 1) t c) : ∃ xs, c = [.l false xs] ∧ ∀ x ∈ xs, Ty Tryd.prog d e x := by
  unfold Ty at h; rw [hu] at h; exact h
theorem Ty_array {d n : Nat} {t e : TypeId} {c : List PV} (hu : Tryd.prog.underlying t = some (.array n e)) (h : Ty Tryd.prog (d + 1) t c) : ∃ (k : IntKind) (ns : List Int), Tryd.prog.underlying e = some (.int k) ∧ ns.length = n ∧ c = [.blob n (ns.map (.i k))] ∧ ∀ m ∈ ns, (Lit.int k m).wf = true := by
  unfold Ty at h; rw [hu] at h; exact h
theorem Ty_struct {d : Nat} {t : TypeId} {fs : Array Field} {c : List PV} (hu : Tryd.prog.underlying t = some (.struct fs)) (h : Ty Tryd.prog (d + 1) t c) : TyFs (Ty Tryd.prog d) fs.toList c := by
  unfold Ty at h; rw [hu] at h; exact h
theorem bytes_of_cells {d : Nat} {c : List PV} (h : Ty Tryd.prog (d + 2) 22 c) : ∃ xs : List Int, (∀ n ∈ xs, 0 ≤ n ∧ n ≤ 255) ∧ c = [.l false (byL xs)] := by
  obtain ⟨rs, rfl, h'⟩ := Ty_slice Tryd.underlying22 h
  clear h
  have : ∃ xs : List Int, (∀ n ∈ xs, 0 ≤ n ∧ n ≤ 255) ∧ rs = byL xs := by
    induction rs with
    | nil => exact ⟨[], fun n hn => (by cases hn), rfl⟩
    | cons r rs ih =>
      obtain ⟨xs, h1, rfl⟩ := ih (fun x hx => h' x (List.mem_cons_of_mem _ hx))
      have hr := h' r (by simp)
      obtain ⟨n, rfl, hn⟩ := Ty_int Tryd.underlying5 hr
      exact ⟨n :: xs, fun m hm => by
        rcases List.mem_cons.1 hm with rfl | hm
        · exact u8_of hn
        · exact h1 m hm, rfl⟩
  obtain ⟨xs, h1, rfl⟩ := this
  exact ⟨xs, h1, rfl⟩
theorem int_of {v : PV} (h : TyV Tryd.prog 8 3 v) : ∃ n : Int, -9223372036854775808 ≤ n ∧ n ≤ 9223372036854775807 ∧ v = .i .i64 n := by
  obtain ⟨cells, h1, h2⟩ := h
  obtain ⟨n, rfl, hn⟩ := Ty_int (d := 7) Tryd.underlying3 h1
  obtain ⟨l, u⟩ := i64_of hn
  rcases h2 with ⟨h, _⟩ | ⟨_, h⟩
  · simp [aggT, Tryd.underlying3] at h
  · injection h with h _; exact ⟨n, l, u, h.symm⟩
theorem entry_of_cells {d : Nat} {c : List PV} (h : Ty Tryd.prog (d + 3) 33 c) : ∃ e : En, okE e ∧ c = enC e := by
  have h1 := Ty_struct (d := d + 2) Tryd.underlying33 h
  simp only [TyFs] at h1
  obtain ⟨c1, _, rfl, k1, c2, _, rfl, k2, c3, _, rfl, k3, c4, _, rfl, k4, c5, _, rfl, k5, c6, _, rfl, k6, c7, _, rfl, k7, c8, _, rfl, k8, c9, _, rfl, k9, rfl⟩ := h1
  obtain ⟨n1, rfl, _⟩ := Ty_int (d := d + 1) Tryd.underlying3 k1
  obtain ⟨n2, rfl, _⟩ := Ty_int (d := d + 1) Tryd.underlying3 k2
  obtain ⟨n3, rfl, _⟩ := Ty_int (d := d + 1) Tryd.underlying3 k3
  obtain ⟨n4, rfl, _⟩ := Ty_int (d := d + 1) Tryd.underlying3 k4
  obtain ⟨n5, rfl, w5⟩ := Ty_int (d := d + 1) Tryd.underlying30 k5
  obtain ⟨n6, rfl, w6⟩ := Ty_int (d := d + 1) Tryd.underlying30 k6
  obtain ⟨n7, rfl, _⟩ := Ty_int (d := d + 1) Tryd.underlying3 k7
  obtain ⟨n8, rfl, _⟩ := Ty_int (d := d + 1) Tryd.underlying3 k8
  obtain ⟨n9, rfl, _⟩ := Ty_int (d := d + 1) Tryd.underlying31 k9
  have u5 := u64_of w5
  have u6 := u64_of w6
  exact ⟨⟨n1, n2, n3, n4, n5, n6, n7, n8, n9⟩, ⟨u5.1, by simp only; omega, u6.1, by simp only; omega⟩, rfl⟩
theorem entry_of {v : PV} (h : TyV Tryd.prog 8 33 v) : ∃ e : En, okE e ∧ v = .agg (enC e) := by
  obtain ⟨cells, h1, h2⟩ := h
  obtain ⟨e, he, rfl⟩ := entry_of_cells (d := 5) h1
  rcases h2 with ⟨_, h⟩ | ⟨h, _⟩
  · exact ⟨e, he, h⟩
  · simp [aggT, Tryd.underlying33] at h
theorem bool_of {v : PV} (h : TyV Tryd.prog 8 4 v) : ∃ b : Bool, v = .b b := by
  obtain ⟨cells, h1, h2⟩ := h
  unfold Ty at h1
  rw [Tryd.underlying4] at h1
  obtain ⟨b, rfl⟩ := h1
  rcases h2 with ⟨h, _⟩ | ⟨_, h⟩
  · simp [aggT, Tryd.underlying4] at h
  · injection h with h _; exact ⟨b, h.symm⟩
def okSo (s : So) : Prop := okC64 s.1 ∧ byR s.2.1
theorem store_of_cells {d : Nat} {c : List PV} (h : Ty Tryd.prog (d + 3) 24 c) : ∃ s : So, okSo s ∧ c = soC false s := by
  have h1 := Ty_struct (d := d + 2) Tryd.underlying24 h
  simp only [TyFs] at h1
  obtain ⟨a, b, rfl, ha, e, f, rfl, he, g, z, rfl, hg, rfl⟩ := h1
  obtain ⟨n, rfl, hn⟩ := Ty_int (d := d + 1) Tryd.underlying3 ha
  obtain ⟨xs, hx, rfl⟩ := bytes_of_cells (d := d) he
  obtain ⟨u, rfl, hu⟩ := Ty_int (d := d + 1) Tryd.underlying3 hg
  exact ⟨(n, xs, u), ⟨i64_of hn, hx⟩, rfl⟩
theorem store_of {v : PV} (h : TyV Tryd.prog 8 24 v) : ∃ s : So, okSo s ∧ v = .agg (soC false s) := by
  obtain ⟨cells, h1, h2⟩ := h
  obtain ⟨s, hs, rfl⟩ := store_of_cells (d := 5) h1
  rcases h2 with ⟨_, h⟩ | ⟨h, _⟩
  · exact ⟨s, hs, h⟩
  · simp [aggT, Tryd.underlying24] at h
def okLo (l : Lo) : Prop := okC64 l.1.1 ∧ byR l.1.2.1 ∧ (∀ e ∈ l.2.1, okE e) ∧ l.2.2.length = 32
theorem log_of {v : PV} (h : TyV Tryd.prog 8 29 v) : ∃ l : Lo, okLo l ∧ v = .agg (loC false l) := by
  obtain ⟨cells, h1, h2⟩ := h
  have h3 := Ty_struct (d := 7) Tryd.underlying29 h1
  simp only [TyFs] at h3
  obtain ⟨a, b, rfl, ha, e, f, rfl, he, g, z, rfl, hg, rfl⟩ := h3
  obtain ⟨s, hs, rfl⟩ := store_of_cells (d := 4) ha
  obtain ⟨rs, rfl, h'⟩ := Ty_slice (d := 6) Tryd.underlying25 he
  have : ∃ l : List En, (∀ e ∈ l, okE e) ∧ rs = enL l := by
    clear h2 h1 he
    induction rs with
    | nil => exact ⟨[], fun n hn => (by cases hn), rfl⟩
    | cons r rs ih =>
      obtain ⟨xs, h1, rfl⟩ := ih (fun x hx => h' x (List.mem_cons_of_mem _ hx))
      obtain ⟨e, he, rfl⟩ := entry_of_cells (d := 3) (h' r (by simp))
      exact ⟨e :: xs, fun m hm => by
        rcases List.mem_cons.1 hm with rfl | hm
        · exact he
        · exact h1 m hm, rfl⟩
  obtain ⟨L, hL, rfl⟩ := this
  obtain ⟨k, ns, hu, hl, rfl, hw⟩ := Ty_array (d := 6) Tryd.underlying27 hg
  rw [Tryd.underlying5] at hu
  injection hu with hu
  injection hu with hu
  subst hu
  rcases h2 with ⟨_, h⟩ | ⟨h, _⟩
  · obtain ⟨c, D, u⟩ := s
    exact ⟨((c, D, u), L, ns), ⟨hs.1, hs.2, hL, hl⟩, h⟩
  · simp [aggT, Tryd.underlying29] at h
end
end Go.Proofs.YtmhpkdcnhgmblaaDoor
