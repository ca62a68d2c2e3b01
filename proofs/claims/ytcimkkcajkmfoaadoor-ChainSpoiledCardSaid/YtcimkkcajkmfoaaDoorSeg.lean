/-
  Runs of cells: parts of them, what is read of memory.
-/
import Derived.Test.YtcimkkcajkmfoaaDoorSt
import Derived.Laws.Cells
set_option linter.all false
namespace Go.Proofs.YtcimkkcajkmfoaaDoor
open Go

theorem wds_app : ∀ (a b : List PV), wds (a ++ b) = wds a + wds b
  | [], b => by simp [wds]
  | v :: r, b => by simp only [List.cons_append, wds, wds_app r b]; omega
theorem takeW_dropW : ∀ {ss : List PV} {n : Nat} {a c : List PV}, takeW ss n = some a → dropW ss n = some c → ss = a ++ c ∧ wds a = n
  | ss, 0, a, c, ha, hc => by simp only [takeW, dropW, Option.some.injEq] at ha hc; subst ha; subst hc; simp [wds]
  | [], n + 1, a, c, ha, hc => by simp [takeW] at ha
  | s :: ss, n + 1, a, c, ha, hc => by
    simp only [takeW, dropW] at ha hc
    split at ha
    · rename_i hw
      rw [if_pos hw] at hc
      cases hr : takeW ss (n + 1 - wd s) with
      | none => simp [hr] at ha
      | some r =>
        simp [hr] at ha; subst ha
        obtain ⟨e, hn⟩ := takeW_dropW hr hc
        exact ⟨by rw [List.cons_append, ← e], by simp only [wds, hn]; omega⟩
    · cases ha
theorem takeW_some : ∀ {ss : List PV} {n : Nat} {a : List PV}, takeW ss n = some a → ∃ c, dropW ss n = some c
  | ss, 0, _, _ => ⟨ss, by simp [dropW]⟩
  | [], n + 1, _, h => by simp [takeW] at h
  | s :: ss, n + 1, a, h => by
    simp only [takeW] at h
    split at h
    · rename_i hw
      cases hr : takeW ss (n + 1 - wd s) with
      | none => simp [hr] at h
      | some r => obtain ⟨c, hc⟩ := takeW_some hr; exact ⟨c, by simp only [dropW, if_pos hw, hc]⟩
    · cases h
theorem dropW_some : ∀ {ss : List PV} {n : Nat} {c : List PV}, dropW ss n = some c → ∃ a, takeW ss n = some a
  | ss, 0, _, _ => ⟨[], by simp [takeW]⟩
  | [], n + 1, _, h => by simp [dropW] at h
  | s :: ss, n + 1, c, h => by
    simp only [dropW] at h
    split at h
    · rename_i hw
      obtain ⟨a, ha⟩ := dropW_some h; exact ⟨s :: a, by simp only [takeW, if_pos hw, ha, Option.map_some]⟩
    · cases h
theorem takeW_pre {ss a : List PV} {n : Nat} (h : takeW ss n = some a) : ∃ c, ss = a ++ c ∧ wds a = n := by
  obtain ⟨c, hc⟩ := takeW_some h; obtain ⟨e, hn⟩ := takeW_dropW h hc; exact ⟨c, e, hn⟩
theorem dropW_suf {ss c : List PV} {n : Nat} (h : dropW ss n = some c) : ∃ a, ss = a ++ c ∧ wds a = n := by
  obtain ⟨a, ha⟩ := dropW_some h; obtain ⟨e, hn⟩ := takeW_dropW ha h; exact ⟨a, e, hn⟩

section
variable {h : Array Obj} {q : Nat → Prop} {cs cs' : Array Value} {fid : Nat → Nat} {γ : Gh}
theorem PCells_app : ∀ {a b : List PV} {off : Nat}, PCells h q cs off (a ++ b) ↔ PCells h q cs off a ∧ PCells h q cs (off + wds a) b
  | [], b, off => by simp [PCells, wds]
  | v :: r, b, off => by simp only [List.cons_append, PCells, wds, PCells_app (a := r), and_assoc, Nat.add_assoc]
theorem RCells_app : ∀ {a b : List PV} {off : Nat}, RCells fid γ h cs off (a ++ b) ↔ RCells fid γ h cs off a ∧ RCells fid γ h cs (off + wds a) b
  | [], b, off => by simp [RCells, wds]
  | v :: r, b, off => by simp only [List.cons_append, RCells, wds, RCells_app (a := r), and_assoc, Nat.add_assoc]
theorem wd_rt (g : Bool) (v : PV) : wd (rt g v) = wd v := by cases v <;> rfl
theorem wds_rt (g : Bool) : ∀ l, wds (l.map (rt g)) = wds l
  | [] => rfl
  | v :: r => by simp only [List.map_cons, wds, wd_rt, wds_rt g r]
theorem cellV_rt {g : Bool} {v : PV} {off : Nat} (H : PAt h q cs off v) : cellV (rt g v) = true := by
  cases v <;> simp only [PAt] at H <;> rfl
theorem PAt_rt {g : Bool} {v : PV} {off : Nat} (H : PAt h (γ.q g) cs off v) : RAt fid γ h cs off (rt g v) := by
  cases v <;> simp only [PAt, rt, RAt] at H ⊢ <;> exact H
theorem PCells_rt {g : Bool} : ∀ {l : List PV} {off : Nat}, PCells h (γ.q g) cs off l → RCells fid γ h cs off (l.map (rt g))
  | [], _, _ => by simp only [List.map_nil, RCells]
  | v :: r, off, H => by
    simp only [PCells] at H
    simp only [List.map_cons, RCells, wd_rt]
    exact ⟨⟨cellV_rt H.1, PAt_rt H.1⟩, PCells_rt H.2⟩
/-- Cells that read as plain data are there. -/
theorem PAt_there {v : PV} {off : Nat} (H : PAt h q cs off v) : ∀ i, i < wd v → off + i < cs.size := by
  have hs : ∀ {x : Value}, cs[off]? = some x → off < cs.size := fun e => (Array.getElem?_eq_some_iff.1 e).1
  intro i hi
  cases v <;> simp only [PAt, wd] at H hi
  case b => have := hs H; omega
  case i => have := hs H; omega
  case s => obtain ⟨_, e, _⟩ := H; have := hs e; omega
  case l => obtain ⟨_, _, e, _⟩ := H; have := hs e; omega
  case blob n xs =>
    obtain ⟨v, hv, _⟩ := H.2 i (xs[i]'(by omega)) (List.getElem?_eq_getElem (by omega))
    exact (Array.getElem?_eq_some_iff.1 hv).1
theorem PCells_there : ∀ {l : List PV} {off : Nat}, PCells h q cs off l → ∀ i, i < wds l → off + i < cs.size
  | [], _, _, i, hi => by simp [wds] at hi
  | v :: r, off, H, i, hi => by
    simp only [PCells] at H
    simp only [wds] at hi
    by_cases hv : i < wd v
    · exact PAt_there H.1 i hv
    · have := PCells_there H.2 (i - wd v) (by omega); omega
/-- An element of a row. -/
theorem PEls_get {w : Nat} : ∀ {l : List (List PV)} {off : Nat}, PEls h q cs w off l → ∀ (i : Nat) (x : List PV), l[i]? = some x → wds x = w ∧ PCells h q cs (off + i * w) x
  | [], _, _, i, x, hx => by simp at hx
  | y :: r, off, H, i, x, hx => by
    simp only [PEls] at H
    rcases i with _ | i
    · simp at hx; subst hx; simpa using ⟨H.1, H.2.1⟩
    · have := PEls_get H.2.2 i x (by simpa using hx)
      refine ⟨this.1, ?_⟩
      have e : off + w + i * w = off + (i + 1) * w := by rw [Nat.succ_mul]; omega
      rw [← e]; exact this.2
theorem REls_get {w : Nat} : ∀ {l : List (List PV)} {off : Nat}, REls fid γ h cs w off l → ∀ (i : Nat) (x : List PV), l[i]? = some x → wds x = w ∧ RCells fid γ h cs (off + i * w) x
  | [], _, _, i, x, hx => by simp at hx
  | y :: r, off, H, i, x, hx => by
    simp only [REls] at H
    rcases i with _ | i
    · simp at hx; subst hx; simpa using ⟨H.1, H.2.1⟩
    · have := REls_get H.2.2 i x (by simpa using hx)
      refine ⟨this.1, ?_⟩
      have e : off + w + i * w = off + (i + 1) * w := by rw [Nat.succ_mul]; omega
      rw [← e]; exact this.2
/-- A row out of its elements. -/
theorem PEls_of {w : Nat} : ∀ {l : List (List PV)} {off : Nat}, (∀ (i : Nat) (x : List PV), l[i]? = some x → wds x = w ∧ PCells h q cs (off + i * w) x) → PEls h q cs w off l
  | [], _, _ => by simp only [PEls]
  | y :: r, off, H => by
    simp only [PEls]
    refine ⟨(H 0 y (by simp)).1, by simpa using (H 0 y (by simp)).2, PEls_of fun i x hx => ?_⟩
    have := H (i + 1) x (by simpa using hx)
    have e : off + w + i * w = off + (i + 1) * w := by rw [Nat.succ_mul]; omega
    rw [e]; exact this
theorem REls_of {w : Nat} : ∀ {l : List (List PV)} {off : Nat}, (∀ (i : Nat) (x : List PV), l[i]? = some x → wds x = w ∧ RCells fid γ h cs (off + i * w) x) → REls fid γ h cs w off l
  | [], _, _ => by simp only [REls]
  | y :: r, off, H => by
    simp only [REls]
    refine ⟨(H 0 y (by simp)).1, by simpa using (H 0 y (by simp)).2, REls_of fun i x hx => ?_⟩
    have := H (i + 1) x (by simpa using hx)
    have e : off + w + i * w = off + (i + 1) * w := by rw [Nat.succ_mul]; omega
    rw [e]; exact this
end

/-! ### Reading memory -/
theorem add_none (b o i : Nat) : (⟨b, o, none⟩ : Addr).add i = ⟨b, o + i, none⟩ := by unfold Addr.add; split <;> simp_all
section
variable {P : Program} {w : World} {b : Nat} {cs : Array Value}
theorem cell_rowAt (H : rowAt w.heap b cs) (o : Nat) : w.cell? ⟨b, o, none⟩ = cs[o]? := by
  obtain ⟨t, fr, H⟩ := H; simp [World.cell?, H]
theorem run_load_rowAt (H : rowAt w.heap b cs) {o : Nat} {x : Value} (hx : cs[o]? = some x) : (load ⟨b, o, none⟩).run P w = .ok x w := by
  simp [cell_rowAt H, hx]
theorem run_loadCells_rowAt (H : rowAt w.heap b cs) {o n : Nat} (hn : o + n ≤ cs.size) : (loadCells ⟨b, o, none⟩ n).run P w = .ok (cs.extract o (o + n)) w := by
  have hl : (cs.extract o (o + n)).toList.length = n := by simp; omega
  have := run_loadCells_list (P := P) w ⟨b, o, none⟩ (cs.extract o (o + n)).toList (fun j v hv => by
    rw [add_none, cell_rowAt H]
    have hj : j < n := by
      have := (List.getElem?_eq_some_iff.1 hv).1
      omega
    simp only [Array.getElem?_toList, Array.getElem?_extract] at hv
    split at hv
    · exact hv
    · cases hv)
  rw [hl, Array.toArray_toList] at this
  exact this
theorem getElem?_extract' {cs : Array Value} {o n i : Nat} (hi : i < n) (hn : o + n ≤ cs.size) : (cs.extract o (o + n))[i]? = cs[o + i]? := by
  rw [Array.getElem?_extract]
  split
  · rfl
  · rename_i h; omega
end
end Go.Proofs.YtcimkkcajkmfoaaDoor
