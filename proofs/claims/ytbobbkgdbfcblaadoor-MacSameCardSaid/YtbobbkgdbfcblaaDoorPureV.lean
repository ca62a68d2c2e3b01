/- Argument types: bytes' numbers; letters. -/
import Derived.Test.YtbobbkgdbfcblaaDoorPureT
import Derived.Test.YtbobbkgdbfcblaaDoorPureG
set_option linter.all false
namespace Go.Proofs.YtbobbkgdbfcblaaDoor
open Go
theorem int_of {v : PV} (h : TyV Tryd.prog 8 3 v) : ∃ n : Int, -9223372036854775808 ≤ n ∧ n ≤ 9223372036854775807 ∧ v = .i .i64 n := by
  obtain ⟨cells, h1, h2⟩ := h
  obtain ⟨n, rfl, hn⟩ := Ty_int (d := 7) Tryd.underlying3 h1
  obtain ⟨l, u⟩ := i64_of hn
  rcases h2 with ⟨h, _⟩ | ⟨_, h⟩
  · simp [aggT, Tryd.underlying3] at h
  · injection h with h _; exact ⟨n, l, u, h.symm⟩
theorem u8a_of {v : PV} (h : TyV Tryd.prog 8 5 v) : ∃ n : Int, 0 ≤ n ∧ n ≤ 255 ∧ v = .i .u8 n := by
  obtain ⟨cells, h1, h2⟩ := h
  obtain ⟨n, rfl, hn⟩ := Ty_int (d := 7) Tryd.underlying5 h1
  obtain ⟨l, u⟩ := u8_of hn
  rcases h2 with ⟨h, _⟩ | ⟨_, h⟩
  · simp [aggT, Tryd.underlying5] at h
  · injection h with h _; exact ⟨n, l, u, h.symm⟩
theorem u8_inj {x y : Int} (hx : 0 ≤ x ∧ x ≤ 255) (hy : 0 ≤ y ∧ y ≤ 255) (h : UInt8.ofNat x.toNat = UInt8.ofNat y.toNat) : x = y := by
  have := congrArg UInt8.toNat h
  simp only [UInt8.toNat_ofNat'] at this
  omega
theorem chars_inj : ∀ (xs ys : List Int), (∀ n ∈ xs, 0 ≤ n ∧ n ≤ 255) → (∀ n ∈ ys, 0 ≤ n ∧ n ≤ 255) → (chars xs = chars ys ↔ xs = ys)
  | [], [], _, _ => by simp
  | [], y :: ys, _, _ => by simp [chars]
  | x :: xs, [], _, _ => by simp [chars]
  | x :: xs, y :: ys, hx, hy => by
    have ih := chars_inj xs ys (fun n h => hx n (List.mem_cons_of_mem _ h)) (fun n h => hy n (List.mem_cons_of_mem _ h))
    have : chars (x :: xs) = UInt8.ofNat x.toNat :: chars xs := rfl
    have : chars (y :: ys) = UInt8.ofNat y.toNat :: chars ys := rfl
    simp only [*, List.cons.injEq, ih]
    constructor
    · rintro ⟨h, rfl⟩; exact ⟨u8_inj (hx x (List.mem_cons_self ..)) (hy y (List.mem_cons_self ..)) h, rfl⟩
    · rintro ⟨rfl, rfl⟩; exact ⟨rfl, rfl⟩
end Go.Proofs.YtbobbkgdbfcblaaDoor
