/- Plain lemmas, part 4. -/
import Derived.Test.YtmhpkdcnhgmblaaPgC
import Derived.Test.YtmhpkdcnhgmblaaGlueA
import Derived.Test.YtmhpkdcnhgmblaaOk1
set_option linter.all false
set_option linter.unusedSimpArgs false
set_option linter.unusedVariables false
namespace Go.Proofs.Ytmhpkdcnhgmblaa
open Go
section
set_option maxRecDepth 100000
theorem u8_of {n : Int} (h : (Lit.int .u8 n).wf = true) : 0 ≤ n ∧ n ≤ 255 := by
  simp [Lit.wf, IntKind.min, IntKind.max, IntKind.signed, IntKind.bits] at h
  omega
theorem u64_of {n : Int} (h : (Lit.int .u64 n).wf = true) : 0 ≤ n ∧ n ≤ 18446744073709551615 := by
  simp [Lit.wf, IntKind.min, IntKind.max, IntKind.signed, IntKind.bits] at h
  omega
theorem Ty_int {d : Nat} {t : TypeId} {k : IntKind} {c : List PV} (hu : Try.prog.underlying t = some (.int k)) (h : Ty Try.prog (d + 1) t c) : ∃ n, c = [.i k n] ∧ (Lit.int k n).wf = true := by
  unfold Ty at h; rw [hu] at h; exact h
theorem Ty_slice {d : Nat} {t e : TypeId} {c : List PV} (hu : Try.prog.underlying t = some (.slice e)) (h : Ty Try.prog (d + 1) t c) : ∃ xs, c = [.l false xs] ∧ ∀ x ∈ xs, Ty Try.prog d e x := by
  unfold Ty at h; rw [hu] at h; exact h
theorem Ty_array {d n : Nat} {t e : TypeId} {c : List PV} (hu : Try.prog.underlying t = some (.array n e)) (h : Ty Try.prog (d + 1) t c) : ∃ (k : IntKind) (ns : List Int), Try.prog.underlying e = some (.int k) ∧ ns.length = n ∧ c = [.blob n (ns.map (.i k))] ∧ ∀ m ∈ ns, (Lit.int k m).wf = true := by
  unfold Ty at h; rw [hu] at h; exact h
theorem Ty_struct {d : Nat} {t : TypeId} {fs : Array Field} {c : List PV} (hu : Try.prog.underlying t = some (.struct fs)) (h : Ty Try.prog (d + 1) t c) : TyFs (Ty Try.prog d) fs.toList c := by
  unfold Ty at h; rw [hu] at h; exact h
theorem bytes_of_cells {d : Nat} {c : List PV} (h : Ty Try.prog (d + 2) 27 c) : ∃ xs : List Int, (∀ n ∈ xs, 0 ≤ n ∧ n ≤ 255) ∧ c = [.l false (byL xs)] := by
  obtain ⟨rs, rfl, h'⟩ := Ty_slice Try.underlying27 h
  clear h
  have : ∃ xs : List Int, (∀ n ∈ xs, 0 ≤ n ∧ n ≤ 255) ∧ rs = byL xs := by
    induction rs with
    | nil => exact ⟨[], fun n hn => (by cases hn), rfl⟩
    | cons r rs ih =>
      obtain ⟨xs, h1, rfl⟩ := ih (fun x hx => h' x (List.mem_cons_of_mem _ hx))
      have hr := h' r (by simp)
      obtain ⟨n, rfl, hn⟩ := Ty_int Try.underlying5 hr
      exact ⟨n :: xs, fun m hm => by
        rcases List.mem_cons.1 hm with rfl | hm
        · exact u8_of hn
        · exact h1 m hm, rfl⟩
  obtain ⟨xs, h1, rfl⟩ := this
  exact ⟨xs, h1, rfl⟩
theorem bytes_of {v : PV} (h : TyV Try.prog 8 27 v) : ∃ xs : List Int, (∀ n ∈ xs, 0 ≤ n ∧ n ≤ 255) ∧ v = .l false (byL xs) := by
  obtain ⟨cells, h1, h2⟩ := h
  obtain ⟨xs, h3, rfl⟩ := bytes_of_cells (d := 6) h1
  rcases h2 with ⟨h, _⟩ | ⟨_, h⟩
  · simp [aggT, Try.underlying27] at h
  · injection h with h _; exact ⟨xs, h3, h.symm⟩
theorem frame_of_cells {d : Nat} {c : List PV} (h : Ty Try.prog (d + 3) 26 c) : ∃ f : Fra, okF f ∧ c = frC f := by
  have h1 := Ty_struct (d := d + 2) Try.underlying26 h
  simp only [TyFs] at h1
  obtain ⟨c1, _, rfl, k1, c2, _, rfl, k2, c3, _, rfl, k3, c4, _, rfl, k4, c5, _, rfl, k5, c6, _, rfl, k6, c7, _, rfl, k7, c8, _, rfl, k8, c9, _, rfl, k9, rfl⟩ := h1
  obtain ⟨n1, rfl, _⟩ := Ty_int (d := d + 1) Try.underlying3 k1
  obtain ⟨n2, rfl, _⟩ := Ty_int (d := d + 1) Try.underlying3 k2
  obtain ⟨n3, rfl, w3⟩ := Ty_int (d := d + 1) Try.underlying22 k3
  obtain ⟨n4, rfl, w4⟩ := Ty_int (d := d + 1) Try.underlying22 k4
  obtain ⟨n5, rfl, _⟩ := Ty_int (d := d + 1) Try.underlying3 k5
  obtain ⟨n6, rfl, w6⟩ := Ty_int (d := d + 1) Try.underlying22 k6
  obtain ⟨n7, rfl, _⟩ := Ty_int (d := d + 1) Try.underlying3 k7
  obtain ⟨n8, rfl, _⟩ := Ty_int (d := d + 1) Try.underlying3 k8
  obtain ⟨k, ns, hu, hl, rfl, hw⟩ := Ty_array (d := d + 1) Try.underlying24 k9
  rw [Try.underlying5] at hu
  injection hu with hu
  injection hu with hu
  subst hu
  have u3 := u64_of w3
  have u4 := u64_of w4
  have u6 := u64_of w6
  exact ⟨⟨n1, n2, n3, n4, n5, n6, n7, n8, ns⟩, ⟨⟨u3.1, by simp only; omega⟩, ⟨u4.1, by simp only; omega⟩, ⟨u6.1, by simp only; omega⟩, hl, fun n hn => u8_of (hw n hn)⟩, rfl⟩
theorem frame_of {v : PV} (h : TyV Try.prog 8 26 v) : ∃ f : Fra, okF f ∧ v = .agg (frC f) := by
  obtain ⟨cells, h1, h2⟩ := h
  obtain ⟨f, hf, rfl⟩ := frame_of_cells (d := 5) h1
  rcases h2 with ⟨_, h⟩ | ⟨h, _⟩
  · exact ⟨f, hf, h⟩
  · simp [aggT, Try.underlying26] at h
end
end Go.Proofs.Ytmhpkdcnhgmblaa
