/- Plain lemmas, part 3. -/
import Derived.Test.YtcimkkcajkmfoaaDoorPgB
import Derived.Test.YtcimkkcajkmfoaaDoorGlueA
import Derived.Test.YtcimkkcajkmfoaaDoorOk1
set_option linter.all false
set_option linter.unusedSimpArgs false
set_option linter.unusedVariables false
namespace Go.Proofs.YtcimkkcajkmfoaaDoor
open Go
section
set_option maxRecDepth 100000
theorem u8_of {n : Int} (h : (Lit.int .u8 n).wf = true) : 0 ≤ n ∧ n ≤ 255 := by
  simp [Lit.wf, IntKind.min, IntKind.max, IntKind.signed, IntKind.bits] at h
  omega
theorem Ty_int {d : Nat} {t : TypeId} {k : IntKind} {c : List PV} (hu : Tryd.prog.underlying t = some (.int k)) (h : Ty Tryd.prog (d + 1) t c) : ∃ n, c = [.i k n] ∧ (Lit.int k n).wf = true := by
  unfold Ty at h; rw [hu] at h; exact h
theorem Ty_slice {d : Nat} {t e : TypeId} {c : List PV} (hu : Tryd.prog.underlying t = some (.slice e)) (h : Ty Tryd.prog (d + 1) t c) : ∃ xs, c = [.l false xs] ∧ ∀ x ∈ xs, Ty Tryd.prog d e x := by
  unfold Ty at h; rw [hu] at h; exact h
theorem bytes_of_cells {d : Nat} {c : List PV} (h : Ty Tryd.prog (d + 2) 23 c) : ∃ xs : List Int, (∀ n ∈ xs, 0 ≤ n ∧ n ≤ 255) ∧ c = [.l false (byL xs)] := by
  obtain ⟨rs, rfl, h'⟩ := Ty_slice Tryd.underlying23 h
  clear h
  have : ∃ xs : List Int, (∀ n ∈ xs, 0 ≤ n ∧ n ≤ 255) ∧ rs = byL xs := by
    induction rs with
    | nil => exact ⟨[], fun n hn => (by cases hn), rfl⟩
    | cons r rs ih =>
      obtain ⟨xs, h1, rfl⟩ := ih (fun x hx => h' x (List.mem_cons_of_mem _ hx))
      have hr := h' r (by simp)
      obtain ⟨n, rfl, hn⟩ := Ty_int Tryd.underlying5 hr
      exact ⟨n :: xs, fun m hm => by
        rcases List.mem_cons.1 hm with rfl | hm
        · exact u8_of hn
        · exact h1 m hm, rfl⟩
  obtain ⟨xs, h1, rfl⟩ := this
  exact ⟨xs, h1, rfl⟩
theorem bytes_of {v : PV} (h : TyV Tryd.prog 8 23 v) : ∃ xs : List Int, (∀ n ∈ xs, 0 ≤ n ∧ n ≤ 255) ∧ v = .l false (byL xs) := by
  obtain ⟨cells, h1, h2⟩ := h
  obtain ⟨xs, h3, rfl⟩ := bytes_of_cells (d := 6) h1
  rcases h2 with ⟨h, _⟩ | ⟨_, h⟩
  · simp [aggT, Tryd.underlying23] at h
  · injection h with h _; exact ⟨xs, h3, h.symm⟩
end
end Go.Proofs.YtcimkkcajkmfoaaDoor
