/- What a law's arguments are, by their types. -/
import Derived.Test.YtcimkkcajkmfoaaDoorPureUser
import Derived.Test.YtcimkkcajkmfoaaDoorGlueA
import Derived.Test.YtcimkkcajkmfoaaDoorOk1
set_option linter.all false
set_option linter.unusedSimpArgs false
set_option linter.unusedVariables false
set_option maxRecDepth 100000
namespace Go.Proofs.YtcimkkcajkmfoaaDoor
open Go
theorem u8_of {n : Int} (h : (Lit.int .u8 n).wf = true) : 0 ≤ n ∧ n ≤ 255 := by
  simp [Lit.wf, IntKind.min, IntKind.max, IntKind.signed, IntKind.bits] at h
  omega
theorem u64_of {n : Int} (h : (Lit.int .u64 n).wf = true) : 0 ≤ n ∧ n ≤ 18446744073709551615 := by
  simp [Lit.wf, IntKind.min, IntKind.max, IntKind.signed, IntKind.bits] at h
  omega
theorem i64_of {n : Int} (h : (Lit.int .i64 n).wf = true) : -9223372036854775808 ≤ n ∧ n ≤ 9223372036854775807 := by
  simp [Lit.wf, IntKind.min, IntKind.max, IntKind.signed, IntKind.bits] at h
  omega
theorem Ty_int {d : Nat} {t : TypeId} {k : IntKind} {c : List PV} (hu : Tryd.prog.underlying t = some (.int k)) (h : Ty Tryd.prog (d + 1) t c) : ∃ n, c = [.i k n] ∧ (Lit.int k n).wf = true := by
  unfold Ty at h; rw [hu] at h; exact h
theorem Ty_slice {d : Nat} {t e : TypeId} {c : List PV} (hu : Tryd.prog.underlying t = some (.slice e)) (h : Ty Tryd.prog (d + 1) t c) : ∃ xs, c = [.l false xs] ∧ ∀ x ∈ xs, Ty Tryd.prog d e x := by
  unfold Ty at h; rw [hu] at h; exact h
theorem Ty_array {d n : Nat} {t e : TypeId} {c : List PV} (hu : Tryd.prog.underlying t = some (.array n e)) (h : Ty Tryd.prog (d + 1) t c) : ∃ (k : IntKind) (ns : List Int), Tryd.prog.underlying e = some (.int k) ∧ ns.length = n ∧ c = [.blob n (ns.map (.i k))] ∧ ∀ m ∈ ns, (Lit.int k m).wf = true := by
  unfold Ty at h; rw [hu] at h; exact h
theorem Ty_struct {d : Nat} {t : TypeId} {fs : Array Field} {c : List PV} (hu : Tryd.prog.underlying t = some (.struct fs)) (h : Ty Tryd.prog (d + 1) t c) : TyFs (Ty Tryd.prog d) fs.toList c := by
  unfold Ty at h; rw [hu] at h; exact h
theorem bytes_of_cells {d : Nat} {c : List PV} (h : Ty Tryd.prog (d + 2) 23 c) : ∃ xs : List Int, (∀ n ∈ xs, 0 ≤ n ∧ n ≤ 255) ∧ c = [.l false (byL xs)] := by
  obtain ⟨rs, rfl, h'⟩ := Ty_slice Tryd.underlying23 h
  clear h
  have : ∃ xs : List Int, (∀ n ∈ xs, 0 ≤ n ∧ n ≤ 255) ∧ rs = byL xs := by
    induction rs with
    | nil => exact ⟨[], fun n hn => (by cases hn), rfl⟩
    | cons r rs ih =>
      obtain ⟨xs, h1, rfl⟩ := ih (fun x hx => h' x (List.mem_cons_of_mem _ hx))
      have hr := h' r (by simp)
      obtain ⟨n, rfl, hn⟩ := Ty_int Tryd.underlying5 hr
      exact ⟨n :: xs, fun m hm => by
        rcases List.mem_cons.1 hm with rfl | hm
        · exact u8_of hn
        · exact h1 m hm, rfl⟩
  obtain ⟨xs, h1, rfl⟩ := this
  exact ⟨xs, h1, rfl⟩
theorem bytes_of {v : PV} (h : TyV Tryd.prog 8 23 v) : ∃ xs : List Int, (∀ n ∈ xs, 0 ≤ n ∧ n ≤ 255) ∧ v = .l false (byL xs) := by
  obtain ⟨cells, h1, h2⟩ := h
  obtain ⟨xs, h3, rfl⟩ := bytes_of_cells (d := 6) h1
  rcases h2 with ⟨h, _⟩ | ⟨_, h⟩
  · simp [aggT, Tryd.underlying23] at h
  · injection h with h _; exact ⟨xs, h3, h.symm⟩
theorem int_of {v : PV} (h : TyV Tryd.prog 8 3 v) : ∃ n : Int, -9223372036854775808 ≤ n ∧ n ≤ 9223372036854775807 ∧ v = .i .i64 n := by
  obtain ⟨cells, h1, h2⟩ := h
  obtain ⟨n, rfl, hn⟩ := Ty_int (d := 7) Tryd.underlying3 h1
  obtain ⟨l, u⟩ := i64_of hn
  rcases h2 with ⟨h, _⟩ | ⟨_, h⟩
  · simp [aggT, Tryd.underlying3] at h
  · injection h with h _; exact ⟨n, l, u, h.symm⟩
theorem nat_of {v : PV} (h : TyV Tryd.prog 8 26 v) : ∃ n : Int, u64B n ∧ v = .i .u64 n := by
  obtain ⟨cells, h1, h2⟩ := h
  obtain ⟨n, rfl, hn⟩ := Ty_int (d := 7) Tryd.underlying26 h1
  rcases h2 with ⟨h, _⟩ | ⟨_, h⟩
  · simp [aggT, Tryd.underlying26] at h
  · injection h with h _; exact ⟨n, u64_of hn, h.symm⟩
def i64B (n : Int) : Prop := -9223372036854775808 ≤ n ∧ n ≤ 9223372036854775807
/-- A user of the kinds' ranges. -/
def okUs (u : Us) : Prop := i64B u.1 ∧ i64B u.2.1 ∧ ∀ n ∈ u.2.2, 0 ≤ n ∧ n ≤ 255
theorem user_of_cells {d : Nat} {c : List PV} (h : Ty Tryd.prog (d + 3) 25 c) : ∃ u : Us, okUs u ∧ c = uC u := by
  have h1 := Ty_struct (d := d + 2) Tryd.underlying25 h
  simp only [TyFs] at h1
  obtain ⟨a, b, rfl, ha, c, d', rfl, hc, e, f, rfl, he, rfl⟩ := h1
  obtain ⟨n, rfl, hn⟩ := Ty_int (d := d + 1) Tryd.underlying3 ha
  obtain ⟨r, rfl, hr⟩ := Ty_int (d := d + 1) Tryd.underlying3 hc
  obtain ⟨xs, hx, rfl⟩ := bytes_of_cells (d := d) he
  exact ⟨(n, r, xs), ⟨i64_of hn, i64_of hr, hx⟩, rfl⟩
theorem user_of {v : PV} (h : TyV Tryd.prog 8 25 v) : ∃ u : Us, okUs u ∧ v = .agg (uC u) := by
  obtain ⟨cells, h1, h2⟩ := h
  obtain ⟨u, hu, rfl⟩ := user_of_cells (d := 5) h1
  rcases h2 with ⟨_, h⟩ | ⟨h, _⟩
  · exact ⟨u, hu, h⟩
  · simp [aggT, Tryd.underlying25] at h
theorem users_of {v : PV} (h : TyV Tryd.prog 8 22 v) : ∃ l : List Us, (∀ u ∈ l, okUs u) ∧ v = .l false (usL l) := by
  obtain ⟨cells, h1, h2⟩ := h
  obtain ⟨rs, rfl, h'⟩ := Ty_slice (d := 7) Tryd.underlying22 h1
  rcases h2 with ⟨h, _⟩ | ⟨_, h⟩
  · simp [aggT, Tryd.underlying22] at h
  · injection h with h _
    clear h1
    have : ∃ l : List Us, (∀ u ∈ l, okUs u) ∧ rs = usL l := by
      clear h
      induction rs with
      | nil => exact ⟨[], fun n hn => (by cases hn), rfl⟩
      | cons r rs ih =>
        obtain ⟨xs, h1, rfl⟩ := ih (fun x hx => h' x (List.mem_cons_of_mem _ hx))
        obtain ⟨u, hu, rfl⟩ := user_of_cells (d := 4) (h' r (by simp))
        exact ⟨u :: xs, fun m hm => by
          rcases List.mem_cons.1 hm with rfl | hm
          · exact hu
          · exact h1 m hm, rfl⟩
    obtain ⟨l, hl, rfl⟩ := this
    exact ⟨l, hl, h.symm⟩
end Go.Proofs.YtcimkkcajkmfoaaDoor
