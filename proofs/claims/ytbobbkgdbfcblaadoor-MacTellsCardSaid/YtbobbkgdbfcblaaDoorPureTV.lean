/- Argument types. -/
import Derived.Test.YtbobbkgdbfcblaaDoorPureBase
import Derived.Test.YtbobbkgdbfcblaaDoorGlueA
import Derived.Test.YtbobbkgdbfcblaaDoorOk1
set_option linter.all false
namespace Go.Proofs.YtbobbkgdbfcblaaDoor
open Go
/-! ## PureT -/
section
theorem u8_of {n : Int} (h : (Lit.int .u8 n).wf = true) : 0 ≤ n ∧ n ≤ 255 := by
  simp [Lit.wf, IntKind.min, IntKind.max, IntKind.signed, IntKind.bits] at h
  omega
theorem i64_of {n : Int} (h : (Lit.int .i64 n).wf = true) : -9223372036854775808 ≤ n ∧ n ≤ 9223372036854775807 := by
  simp [Lit.wf, IntKind.min, IntKind.max, IntKind.signed, IntKind.bits] at h
  omega
theorem Ty_int {d : Nat} {t : TypeId} {k : IntKind} {c : List PV} (hu : Tryd.prog.underlying t = some (.int k)) (h : Ty Tryd.prog (d + 1) t c) : ∃ n, c = [.i k n] ∧ (Lit.int k n).wf = true := by
  unfold Ty at h; rw [hu] at h; exact h
theorem Ty_slice {d : Nat} {t e : TypeId} {c : List PV} (hu : Tryd.prog.underlying t = some (.slice e)) (h : Ty Tryd.prog (d + 1) t c) : ∃ xs, c = [.l false xs] ∧ ∀ x ∈ xs, Ty Tryd.prog d e x := by
  unfold Ty at h; rw [hu] at h; exact h
theorem Ty_array {d n : Nat} {t e : TypeId} {c : List PV} (hu : Tryd.prog.underlying t = some (.array n e)) (h : Ty Tryd.prog (d + 1) t c) : ∃ (k : IntKind) (ns : List Int), Tryd.prog.underlying e = some (.int k) ∧ ns.length = n ∧ c = [.blob n (ns.map (.i k))] ∧ ∀ m ∈ ns, (Lit.int k m).wf = true := by
  unfold Ty at h; rw [hu] at h; exact h
theorem Ty_struct {d : Nat} {t : TypeId} {fs : Array Field} {c : List PV} (hu : Tryd.prog.underlying t = some (.struct fs)) (h : Ty Tryd.prog (d + 1) t c) : TyFs (Ty Tryd.prog d) fs.toList c := by
  unfold Ty at h; rw [hu] at h; exact h
theorem bytes_of_cells {d : Nat} {c : List PV} (h : Ty Tryd.prog (d + 2) 24 c) : ∃ xs : List Int, (∀ n ∈ xs, 0 ≤ n ∧ n ≤ 255) ∧ c = [.l false (byL xs)] := by
  obtain ⟨rs, rfl, h'⟩ := Ty_slice Tryd.underlying24 h
  clear h
  have : ∃ xs : List Int, (∀ n ∈ xs, 0 ≤ n ∧ n ≤ 255) ∧ rs = byL xs := by
    induction rs with
    | nil => exact ⟨[], fun n hn => (by cases hn), rfl⟩
    | cons r rs ih =>
      obtain ⟨xs, h1, rfl⟩ := ih (fun x hx => h' x (List.mem_cons_of_mem _ hx))
      have hr := h' r (by simp)
      obtain ⟨n, rfl, hn⟩ := Ty_int Tryd.underlying5 hr
      exact ⟨n :: xs, fun m hm => by
        rcases List.mem_cons.1 hm with rfl | hm
        · exact u8_of hn
        · exact h1 m hm, rfl⟩
  obtain ⟨xs, h1, rfl⟩ := this
  exact ⟨xs, h1, rfl⟩
theorem bytes_of {v : PV} (h : TyV Tryd.prog 8 24 v) : ∃ xs : List Int, (∀ n ∈ xs, 0 ≤ n ∧ n ≤ 255) ∧ v = .l false (byL xs) := by
  obtain ⟨cells, h1, h2⟩ := h
  obtain ⟨xs, h3, rfl⟩ := bytes_of_cells (d := 6) h1
  rcases h2 with ⟨h, _⟩ | ⟨_, h⟩
  · simp [aggT, Tryd.underlying24] at h
  · injection h with h _; exact ⟨xs, h3, h.symm⟩
theorem hash_of {v : PV} (h : TyV Tryd.prog 8 26 v) : ∃ (ns xs : List Int) (L : Int), ns.length = 8 ∧ (∀ n ∈ ns, (Lit.int .u32 n).wf = true) ∧ (∀ n ∈ xs, 0 ≤ n ∧ n ≤ 255) ∧ (-9223372036854775808 ≤ L ∧ L ≤ 9223372036854775807) ∧ v = hashV ns false xs L := by
  obtain ⟨cells, h1, h2⟩ := h
  have h1 := Ty_struct (d := 7) Tryd.underlying26 h1
  simp only [TyFs] at h1
  obtain ⟨a, b, rfl, ha, c, d, rfl, hc, e, f, rfl, he, rfl⟩ := h1
  obtain ⟨xs, hx, rfl⟩ := bytes_of_cells (d := 5) hc
  obtain ⟨k, ns, hk, hl, rfl, hn⟩ := Ty_array (d := 6) Tryd.underlying23 ha
  rw [Tryd.underlying22] at hk
  injection hk with hk; injection hk with hk; subst hk
  obtain ⟨L, rfl, hL⟩ := Ty_int (d := 6) Tryd.underlying3 he
  rcases h2 with ⟨_, h⟩ | ⟨h, _⟩
  · exact ⟨ns, xs, L, hl, hn, hx, i64_of hL, by rw [h]; rfl⟩
  · simp [aggT, Tryd.underlying26] at h
end
/-! ## PureV -/
section
theorem int_of {v : PV} (h : TyV Tryd.prog 8 3 v) : ∃ n : Int, -9223372036854775808 ≤ n ∧ n ≤ 9223372036854775807 ∧ v = .i .i64 n := by
  obtain ⟨cells, h1, h2⟩ := h
  obtain ⟨n, rfl, hn⟩ := Ty_int (d := 7) Tryd.underlying3 h1
  obtain ⟨l, u⟩ := i64_of hn
  rcases h2 with ⟨h, _⟩ | ⟨_, h⟩
  · simp [aggT, Tryd.underlying3] at h
  · injection h with h _; exact ⟨n, l, u, h.symm⟩
theorem u8a_of {v : PV} (h : TyV Tryd.prog 8 5 v) : ∃ n : Int, 0 ≤ n ∧ n ≤ 255 ∧ v = .i .u8 n := by
  obtain ⟨cells, h1, h2⟩ := h
  obtain ⟨n, rfl, hn⟩ := Ty_int (d := 7) Tryd.underlying5 h1
  obtain ⟨l, u⟩ := u8_of hn
  rcases h2 with ⟨h, _⟩ | ⟨_, h⟩
  · simp [aggT, Tryd.underlying5] at h
  · injection h with h _; exact ⟨n, l, u, h.symm⟩
theorem u8_inj {x y : Int} (hx : 0 ≤ x ∧ x ≤ 255) (hy : 0 ≤ y ∧ y ≤ 255) (h : UInt8.ofNat x.toNat = UInt8.ofNat y.toNat) : x = y := by
  have := congrArg UInt8.toNat h
  simp only [UInt8.toNat_ofNat'] at this
  omega
theorem chars_inj : ∀ (xs ys : List Int), (∀ n ∈ xs, 0 ≤ n ∧ n ≤ 255) → (∀ n ∈ ys, 0 ≤ n ∧ n ≤ 255) → (chars xs = chars ys ↔ xs = ys)
  | [], [], _, _ => by simp
  | [], y :: ys, _, _ => by simp [chars]
  | x :: xs, [], _, _ => by simp [chars]
  | x :: xs, y :: ys, hx, hy => by
    have ih := chars_inj xs ys (fun n h => hx n (List.mem_cons_of_mem _ h)) (fun n h => hy n (List.mem_cons_of_mem _ h))
    have : chars (x :: xs) = UInt8.ofNat x.toNat :: chars xs := rfl
    have : chars (y :: ys) = UInt8.ofNat y.toNat :: chars ys := rfl
    simp only [*, List.cons.injEq, ih]
    constructor
    · rintro ⟨h, rfl⟩; exact ⟨u8_inj (hx x (List.mem_cons_self ..)) (hy y (List.mem_cons_self ..)) h, rfl⟩
    · rintro ⟨rfl, rfl⟩; exact ⟨rfl, rfl⟩
end
end Go.Proofs.YtbobbkgdbfcblaaDoor
