/- Plain lemmas, part 4. -/
import Derived.Test.YtgpggpbibdnfhaaDoorPgC
import Derived.Test.YtgpggpbibdnfhaaDoorGlueA
import Derived.Test.YtgpggpbibdnfhaaDoorOk1
set_option linter.all false
set_option linter.unusedSimpArgs false
set_option linter.unusedVariables false
namespace Go.Proofs.YtgpggpbibdnfhaaDoor
open Go
section
set_option maxRecDepth 100000
theorem u8_of {n : Int} (h : (Lit.int .u8 n).wf = true) : 0 ≤ n ∧ n ≤ 255 := by
  simp [Lit.wf, IntKind.min, IntKind.max, IntKind.signed, IntKind.bits] at h
  omega
theorem u64_of {n : Int} (h : (Lit.int .u64 n).wf = true) : 0 ≤ n ∧ n ≤ 18446744073709551615 := by
  simp [Lit.wf, IntKind.min, IntKind.max, IntKind.signed, IntKind.bits] at h
  omega
theorem Ty_int {d : Nat} {t : TypeId} {k : IntKind} {c : List PV} (hu : Tryd.prog.underlying t = some (.int k)) (h : Ty Tryd.prog (d + 1) t c) : ∃ n, c = [.i k n] ∧ (Lit.int k n).wf = true := by
  unfold Ty at h; rw [hu] at h; exact h
theorem Ty_array {d n : Nat} {t e : TypeId} {c : List PV} (hu : Tryd.prog.underlying t = some (.array n e)) (h : Ty Tryd.prog (d + 1) t c) : ∃ (k : IntKind) (ns : List Int), Tryd.prog.underlying e = some (.int k) ∧ ns.length = n ∧ c = [.blob n (ns.map (.i k))] ∧ ∀ m ∈ ns, (Lit.int k m).wf = true := by
  unfold Ty at h; rw [hu] at h; exact h
theorem Ty_struct {d : Nat} {t : TypeId} {fs : Array Field} {c : List PV} (hu : Tryd.prog.underlying t = some (.struct fs)) (h : Ty Tryd.prog (d + 1) t c) : TyFs (Ty Tryd.prog d) fs.toList c := by
  unfold Ty at h; rw [hu] at h; exact h
theorem frame_of_cells {d : Nat} {c : List PV} (h : Ty Tryd.prog (d + 3) 26 c) : ∃ f : Fra, okF f ∧ c = frC f := by
  have h1 := Ty_struct (d := d + 2) Tryd.underlying26 h
  simp only [TyFs] at h1
  obtain ⟨c1, _, rfl, k1, c2, _, rfl, k2, c3, _, rfl, k3, c4, _, rfl, k4, c5, _, rfl, k5, c6, _, rfl, k6, c7, _, rfl, k7, c8, _, rfl, k8, c9, _, rfl, k9, rfl⟩ := h1
  obtain ⟨n1, rfl, _⟩ := Ty_int (d := d + 1) Tryd.underlying3 k1
  obtain ⟨n2, rfl, _⟩ := Ty_int (d := d + 1) Tryd.underlying3 k2
  obtain ⟨n3, rfl, w3⟩ := Ty_int (d := d + 1) Tryd.underlying24 k3
  obtain ⟨n4, rfl, w4⟩ := Ty_int (d := d + 1) Tryd.underlying24 k4
  obtain ⟨n5, rfl, _⟩ := Ty_int (d := d + 1) Tryd.underlying3 k5
  obtain ⟨n6, rfl, w6⟩ := Ty_int (d := d + 1) Tryd.underlying24 k6
  obtain ⟨n7, rfl, _⟩ := Ty_int (d := d + 1) Tryd.underlying3 k7
  obtain ⟨n8, rfl, _⟩ := Ty_int (d := d + 1) Tryd.underlying3 k8
  obtain ⟨k, ns, hu, hl, rfl, hw⟩ := Ty_array (d := d + 1) Tryd.underlying23 k9
  rw [Tryd.underlying5] at hu
  injection hu with hu
  injection hu with hu
  subst hu
  have u3 := u64_of w3
  have u4 := u64_of w4
  have u6 := u64_of w6
  exact ⟨⟨n1, n2, n3, n4, n5, n6, n7, n8, ns⟩, ⟨⟨u3.1, by simp only; omega⟩, ⟨u4.1, by simp only; omega⟩, ⟨u6.1, by simp only; omega⟩, hl, fun n hn => u8_of (hw n hn)⟩, rfl⟩
theorem frame_of {v : PV} (h : TyV Tryd.prog 8 26 v) : ∃ f : Fra, okF f ∧ v = .agg (frC f) := by
  obtain ⟨cells, h1, h2⟩ := h
  obtain ⟨f, hf, rfl⟩ := frame_of_cells (d := 5) h1
  rcases h2 with ⟨_, h⟩ | ⟨h, _⟩
  · exact ⟨f, hf, h⟩
  · simp [aggT, Tryd.underlying26] at h
theorem id_of {v : PV} (h : TyV Tryd.prog 8 23 v) : ∃ xs : List Int, xs.length = 32 ∧ (∀ n ∈ xs, 0 ≤ n ∧ n ≤ 255) ∧ v = .agg [.blob 32 (uL xs)] := by
  obtain ⟨cells, h1, h2⟩ := h
  obtain ⟨k, ns, hu, hl, rfl, hw⟩ := Ty_array (d := 7) Tryd.underlying23 h1
  rw [Tryd.underlying5] at hu
  injection hu with hu
  injection hu with hu
  subst hu
  rcases h2 with ⟨_, h⟩ | ⟨h, _⟩
  · exact ⟨ns, hl, fun n hn => u8_of (hw n hn), h⟩
  · simp [aggT, Tryd.underlying23] at h
end
end Go.Proofs.YtgpggpbibdnfhaaDoor
