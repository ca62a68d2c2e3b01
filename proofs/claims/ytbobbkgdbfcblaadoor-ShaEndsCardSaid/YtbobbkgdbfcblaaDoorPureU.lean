/- Argument types: whole numbers. -/
import Derived.Test.YtbobbkgdbfcblaaDoorPureT
set_option linter.all false
namespace Go.Proofs.YtbobbkgdbfcblaaDoor
open Go
theorem int_of {v : PV} (h : TyV Tryd.prog 8 3 v) : ∃ n : Int, -9223372036854775808 ≤ n ∧ n ≤ 9223372036854775807 ∧ v = .i .i64 n := by
  obtain ⟨cells, h1, h2⟩ := h
  obtain ⟨n, rfl, hn⟩ := Ty_int (d := 7) Tryd.underlying3 h1
  obtain ⟨l, u⟩ := i64_of hn
  rcases h2 with ⟨h, _⟩ | ⟨_, h⟩
  · simp [aggT, Tryd.underlying3] at h
  · injection h with h _; exact ⟨n, l, u, h.symm⟩
end Go.Proofs.YtbobbkgdbfcblaaDoor
