/-
  append, copy, clear; slices out of strings and of parts.
-/
import Derived.Test.YtcimkkcajkmfoaaDoorOpsY
import Derived.Laws.Append
import Derived.Laws.AppendOwn
set_option linter.all false
namespace Go.Proofs.YtcimkkcajkmfoaaDoor
open Go

section
variable {h : Array Obj} {q q' : Nat → Prop} {cs cs' : Array Value}
theorem PEls_at {w' : Nat} {l : List (List PV)} {off off' : Nat} (H : ∀ i x, i < l.length * w' → cs[off + i]? = some x → cs'[off' + i]? = some x) (R : PEls h q cs w' off l) : PEls h q cs' w' off' l :=
  PEls_of fun i x hx => by
    have := PEls_get R i x hx
    have hi : i < l.length := (List.getElem?_eq_some_iff.1 hx).1
    refine ⟨this.1, PCells_at (fun j y hj hy => ?_) this.2⟩
    rw [this.1] at hj
    have hm := Nat.mul_le_mul_right w' (show i + 1 ≤ l.length by omega)
    rw [Nat.succ_mul] at hm
    have := H (i * w' + j) y (by omega) (by rw [← Nat.add_assoc]; exact hy)
    rwa [← Nat.add_assoc] at this
theorem PEls_app {w' : Nat} : ∀ {a b : List (List PV)} {off : Nat}, PEls h q cs w' off (a ++ b) ↔ PEls h q cs w' off a ∧ PEls h q cs w' (off + a.length * w') b
  | [], b, off => by simp [PEls]
  | x :: r, b, off => by
    simp only [List.cons_append, PEls, List.length_cons, PEls_app (a := r), and_assoc, Nat.succ_mul]
    rw [show off + (r.length * w' + w') = off + w' + r.length * w' by omega]
theorem PAt_flat {v : PV} {off : Nat} (hf : flat v = true) (H : PAt h q cs off v) : PAt h q' cs off v := by
  cases v <;> simp only [flat, Bool.false_eq_true] at hf <;> simpa only [PAt] using H
theorem PCells_flat : ∀ {l : List PV} {off : Nat}, flats l = true → PCells h q cs off l → PCells h q' cs off l
  | [], _, _, _ => by simp only [PCells]
  | v :: r, off, hf, H => by
    simp only [flats, Bool.and_eq_true] at hf
    simp only [PCells] at H ⊢
    exact ⟨PAt_flat hf.1 H.1, PCells_flat hf.2 H.2⟩
theorem PEls_flat : ∀ {l : List (List PV)} {w' off : Nat}, flatEls l = true → PEls h q cs w' off l → PEls h q' cs w' off l
  | [], _, _, _, _ => by simp only [PEls]
  | x :: r, w', off, hf, H => by
    simp only [flatEls, Bool.and_eq_true] at hf
    simp only [PEls] at H ⊢
    exact ⟨H.1, PCells_flat hf.1 H.2.1, PEls_flat hf.2 H.2.2⟩
theorem PEls_w {w1 w2 : Nat} {l : List (List PV)} {off : Nat} (hw : allW w2 l = true) (hne : l ≠ []) (H : PEls h q cs w1 off l) : w1 = w2 := by
  cases l with
  | nil => exact absurd rfl hne
  | cons x r =>
    simp only [PEls] at H
    simp only [allW, Bool.and_eq_true, beq_iff_eq] at hw
    rw [← H.1, hw.1]
end

section
variable {P : Program} {E : Env} {C : Ctx} {γ : Gh} {w : World} {tmps : Array Value} {sl : SL} {ob : OB}
/-- An object of plain data is another one then, at the same place or at a new one. -/
theorem St.rep (S : St C γ w tmps sl ob) {o : Nat} {x x' : Obj'} {i i' : HI} (hx : getO ob o = some x) (hf : x.fro = false) (hi : γ.mu o = some i) (hver : i' = i ∨ i.ver < i'.ver) {w' : World}
    (hq : ∀ b, γ.im b → w'.heap[b]? = w.heap[b]?) (hother : ∀ o' j b, o' ≠ o → γ.mu o' = some j → j.blk = some b → w'.heap[b]? = w.heap[b]?) (hchg : Chg (fun b => C.A b ∨ C.w0.heap.size ≤ b) w w')
    (hv : x'.ver = i'.ver) (hcap : ∀ c, x'.cap = some c → i'.tot = c) (hlen : x'.els.length ≤ i'.tot) (hp : x'.pu = true)
    (hb : match i'.blk with
      | none => i'.tot = 0
      | some b => x'.w = i'.w ∧ (i.blk = some b ∨ w.heap.size ≤ b) ∧ ∃ cs, ownAt w'.heap b cs ∧ i'.tot * i'.w ≤ cs.size ∧ PEls w.heap (γ.q x'.g) cs i'.w 0 x'.els) :
    St C (γ.set o i') w' tmps sl ([(o, x')] ++ ob) := by
  have hset : ∀ o', o' ≠ o → (γ.set o i').mu o' = γ.mu o' := fun o' ho => by simp [Gh.set, ho]
  have hseto : (γ.set o i').mu o = some i' := by simp [Gh.set]
  have hmv : ∀ g b, γ.q g b → (γ.set o i').q g b ∧ w'.heap[b]? = w.heap[b]? := fun g b h => ⟨h, hq b h.1⟩
  refine (S.change (γ' := γ.set o i') (u := [(o, x')]) ?_ ?_ (fun b h => ⟨h, hq b h⟩) rfl ?_ ?_ ?_ (fun b h => .inl h) hchg).2.2
  · intro o' ho
    simp only [getO] at ho
    split at ho
    · cases ho
    · rename_i h; exact hset o' (Ne.symm h)
  · intro o' j hj
    by_cases ho : o' = o
    · subst ho
      rw [hi] at hj; injection hj with hj; subst hj
      exact ⟨i', hseto, hver⟩
    · exact ⟨j, by rw [hset o' ho]; exact hj, .inl rfl⟩
  · intro o' j b ho hj hb'
    simp only [getO] at ho
    split at ho
    · cases ho
    · rename_i h; exact ⟨hother o' j b (Ne.symm h) hj hb', id⟩
  · intro o' y hy
    simp only [getO] at hy
    split at hy
    · rename_i e; subst e
      injection hy with hy; subst hy
      refine ⟨i', hseto, ⟨hv, hcap, hlen, ?_⟩, fun b hb' => ?_⟩
      · cases hbk : i'.blk with
        | none => simpa only [hbk] using hb
        | some b =>
          simp only [hbk] at hb ⊢
          obtain ⟨h1, _, cs, h2, h3, h4⟩ := hb
          exact ⟨h1, cs, h2, h3, .inl ⟨hp, PEls_mono (hmv _) _ _ _ _ h4⟩⟩
      · simp only [hb'] at hb
        obtain ⟨_, hb, _⟩ := hb
        refine ⟨?_, fun _ him => ?_, fun o' j h1 h2 => ?_, ?_⟩
        · rcases hb with hb | hb
          · exact S.own o i b hi hb
          · exact .inr (Nat.le_trans S.chg.size hb)
        · rcases hb with hb | hb
          · exact S.unf o x i b hx hf hi hb him
          · have := S.lt b him; omega
        · by_cases ho : o' = o
          · exact ho
          · rw [hset o' ho] at h1
            rcases hb with hb | hb
            · exact S.inj o' o j i b h1 hi h2 hb
            · have := blk_lt S h1 h2; omega
        · rcases hb with hb | hb
          · exact S.place _ i b hi hb
          · exact .inr (S.fresh _ (Nat.le_trans S.chg.size hb))
    · cases hy
  · intro b him
    have := S.lt b him; have := hchg.size; omega

/-- What is appended, or copied. -/
def SrcR (γ : Gh) (h : Array Obj) (x : Value) (g : Bool) (ys : List (List PV)) : Prop :=
  SliceR γ h x g ys ∨ ∃ s : ByteArray, x = .string s ∧ ys = s.data.toList.map fun c => [PV.i .u8 c.toNat]
theorem cont_ok {a : Act} (S : St C γ w a.tmps sl ob) {x : Value} {xv : PV} {r : Bool × List (List PV)} (hx : RV C.fid γ w.heap x xv) (H : cont ob xv = some r) : SrcR γ w.heap x r.1 r.2 := by
  unfold cont at H
  split at H
  · injection H with H; subst H
    obtain ⟨s, e, hs⟩ := RV_s.1 hx
    exact .inr ⟨s, e, by rw [hs]⟩
  · exact .inl (contL_ok S hx H)
theorem src_ok {x : Value} {g : Bool} {ys : List (List PV)} {size : Nat} (h0 : 0 < size) (H : SrcR γ w.heap x g ys) (hw : allW size ys = true) : (Builtin.lenOf x).run P w = .ok ys.length w ∧
    ∀ n, n ≤ ys.length → ∃ arr, (Builtin.firstCells size n x).run P w = .ok arr w ∧ arr.size = n * size ∧ PEls w.heap (γ.q g) arr size 0 (ys.take n) := by
  rcases H with ⟨a, c, rfl, hc, H⟩ | ⟨s, rfl, rfl⟩
  · refine ⟨by simp [Builtin.lenOf], fun n hn => ?_⟩
    rcases Nat.eq_zero_or_pos n with rfl | hpos
    · refine ⟨#[], ?_, by simp, by simp only [List.take_zero, PEls]⟩
      cases a with
      | none => simp [Builtin.firstCells]
      | some ad => simp [Builtin.firstCells, loadCells, loadCellsFrom]
    · rcases H with rfl | ⟨b, o, w', cs, rfl, hrow, hE⟩
      · simp at hn; omega
      · have hw' : w' = size := PEls_w hw (fun e => by subst e; simp at hn; omega) hE
        subst hw'
        have hlt : o + n * w' ≤ cs.size := by
          · have hn1 : ys[n - 1]? = some (ys[n - 1]'(by omega)) := List.getElem?_eq_getElem (by omega)
            have h1 := PEls_get hE (n - 1) _ hn1
            have h2 := PCells_there h1.2 (w' - 1) (by rw [h1.1]; omega)
            have h3 : (n - 1) * w' + w' = n * w' := by rw [← Nat.succ_mul]; congr 1; omega
            omega
        refine ⟨cs.extract o (o + n * w'), ?_, by simp; omega, ?_⟩
        · simp [Builtin.firstCells, run_loadCells_rowAt hrow hlt]
        · have := PEls_sub hE 0 n
          rw [Nat.zero_mul, Nat.add_zero, List.drop_zero] at this
          refine PEls_at (fun i y hi hy => ?_) this
          simp only [List.length_take] at hi
          have : min n ys.length = n := by omega
          rw [this] at hi
          rw [Nat.zero_add, getElem?_extract' hi hlt]; exact hy
  · have hlen : s.data.toList.length = s.size := by rw [Array.length_toList]; rfl
    refine ⟨by simp [Builtin.lenOf], fun n hn => ?_⟩
    rw [List.length_map, hlen] at hn
    have hsz : ((s.extract 0 n).data.map fun b => (Value.int .u8 b.toNat)).size = n := by
      simp; omega
    rcases Nat.eq_zero_or_pos n with rfl | hpos
    · exact ⟨(s.extract 0 0).data.map fun b => (Value.int .u8 b.toNat), rfl, by rw [hsz]; simp, by simp only [List.take_zero, PEls]⟩
    · have h1 : size = 1 := by
        cases hd : s.data.toList with
        | nil => rw [hd] at hlen; simp at hlen; omega
        | cons c r =>
          rw [hd] at hw
          simp only [List.map_cons, allW, wds, wd, Bool.and_eq_true, beq_iff_eq] at hw
          exact hw.1.symm
      subst h1
      refine ⟨(s.extract 0 n).data.map fun b => (Value.int .u8 b.toNat), rfl, by rw [hsz]; simp, PEls_of fun i x hx => ?_⟩
      have hi : i < n := by
        have := (List.getElem?_eq_some_iff.1 hx).1
        simp only [List.length_take] at this; omega
      rw [List.getElem?_take_of_lt hi, List.getElem?_map] at hx
      obtain ⟨c, hc, rfl⟩ := Option.map_eq_some_iff.1 hx
      refine ⟨rfl, ?_⟩
      simp only [PCells, PAt, and_true, Nat.mul_one, Nat.zero_add]
      rw [Array.getElem?_map]
      have : (s.extract 0 n).data[i]? = some c := by
        rw [Array.getElem?_toList] at hc
        simp only [ByteArray.data_extract]
        rw [Array.getElem?_extract, if_pos (by have := (Array.getElem?_eq_some_iff.1 hc).1; omega)]
        rw [Nat.zero_add]; exact hc
      rw [this]; rfl
theorem run_append_in {at' : Array TypeId} {ty t e u : TypeId} {i : TypeInfo} {y : Value} {base : Option Addr} {n c m : Nat} {du : TypeDesc} {new : Array Value} {w' : World} (h0 : at'[0]? = some t) (h1 : at'[1]? = some u) (ht : P.underlying t = some (.slice e)) (hu : P.underlying u = some du)
    (hi : P.info? e = some i) (hz : ∀ k, du ≠ .int k) (hm : (Builtin.lenOf y).run P w = .ok m w) (hle : n + m ≤ c)
    (hnew : (Builtin.firstCells i.size m y).run P w = .ok new w) (hst : ∀ ad, base = some ad → (storeCells (ad.add (n * i.size)) new.toList).run P w = .ok () w') (hnone : base = none → w' = w) :
    (Builtin.append_ at' ty #[.slice base n c, y]).run P w = .ok (.slice base (n + m) c) w' := by
  have hz : (match du with | TypeDesc.int _ => true | _ => false) = false := by cases du <;> first | rfl | exact absurd rfl (hz _)
  cases base with
  | none =>
    have := hnone rfl; subst this
    simp [Builtin.append_, h0, h1, run_underlying' ht, run_underlying' hu, sizeOf, typeInfo, hi, hz, hm, hle, hnew]
  | some ad =>
    simp [Builtin.append_, h0, h1, run_underlying' ht, run_underlying' hu, sizeOf, typeInfo, hi, hz, hm, hle, hnew, hst ad rfl]
theorem run_append_out {at' : Array TypeId} {ty t e u : TypeId} {i : TypeInfo} {z : Value} {y : Value} {base : Option Addr} {n c m : Nat} {du : TypeDesc} {old new : Array Value} (h0 : at'[0]? = some t) (h1 : at'[1]? = some u) (ht : P.underlying t = some (.slice e)) (hu : P.underlying u = some du)
    (hi : P.info? e = some i) (hzv : i.zero = some z) (hz : ∀ k, du ≠ .int k) (hm : (Builtin.lenOf y).run P w = .ok m w) (hle : c < n + m) (hb : i.bytes ≤ 4096) (hn : n + m ≤ 4294967296)
    (hold : (Builtin.firstCells i.size n (.slice base n c)).run P w.drew = .ok old w.drew) (hnew : (Builtin.firstCells i.size m y).run P w.drew = .ok new w.drew) :
    ∃ cap, n + m ≤ cap ∧ (Builtin.append_ at' ty #[.slice base n c, y]).run P w = .ok (.slice (some ⟨w.heap.size, 0, none⟩) (n + m) cap) (w.drew.alloc (.cells (old ++ new ++ Builtin.zeroCells z.cells (cap - (n + m))) e)) := by
  have hz : (match du with | TypeDesc.int _ => true | _ => false) = false := by cases du <;> first | rfl | exact absurd rfl (hz _)
  have hn' : ¬ (n + m ≤ c) := by omega
  have h63 : ¬ (9223372036854775807 < ((n : Int) + (m : Int))) := by omega
  have hfit : Builtin.nextslicecap (n + m) c * i.bytes ≤ 281474976710656 := growslice_fits hle (by
    have := Nat.mul_le_mul hn hb; omega)
  have h48 : ¬ (281474976710656 < Builtin.nextslicecap (n + m) c * i.bytes) := by omega
  refine ⟨grownCap w (n + m) c e, grownCap_ge w (n + m) c e, ?_⟩
  simp [Builtin.append_, h0, h1, run_underlying' ht, run_underlying' hu, sizeOf, typeInfo, zeroValue, hi, hzv, hz, hm, hn', h63, h48, Question.forced, hold, hnew, newRow, grownCap]
/-- What is put behind a row. -/
theorem app_els {g gy : Bool} {xs ys : List (List PV)} {c1 c2 : Array Value} {w' : Nat} (h1 : PEls w.heap (γ.q g) c1 w' 0 xs) (h2 : PEls w.heap (γ.q gy) c2 w' 0 ys) :
    PEls w.heap (γ.q (g && (gy || flatEls ys))) c1 w' 0 xs ∧ PEls w.heap (γ.q (g && (gy || flatEls ys))) c2 w' 0 ys := by
  refine ⟨PEls_mono (fun b h => ⟨⟨h.1, fun e => h.2 (by simp at e; exact e.1)⟩, rfl⟩) _ _ _ _ h1, ?_⟩
  cases hf : flatEls ys with
  | true => exact PEls_flat hf h2
  | false => exact PEls_mono (fun b h => ⟨⟨h.1, fun e => h.2 (by simp at e; exact e.2)⟩, rfl⟩) _ _ _ _ h2
theorem row_cat {h : Array Obj} {q : Nat → Prop} {c1 c2 c3 : Array Value} {w' : Nat} {xs ys : List (List PV)} (h1 : PEls h q c1 w' 0 xs) (h2 : PEls h q c2 w' 0 ys) (hs : c1.size = xs.length * w') (hs2 : c2.size = ys.length * w') :
    PEls h q (c1 ++ c2 ++ c3) w' 0 (xs ++ ys) := by
  rw [PEls_app]
  refine ⟨PEls_at (fun i x hi hx => ?_) h1, PEls_at (fun i x hi hx => ?_) h2⟩
  · rw [Nat.zero_add] at hx ⊢
    rw [Array.append_assoc, Array.getElem?_append_left (by omega)]; exact hx
  · rw [Nat.zero_add] at hx
    rw [Nat.zero_add, Array.getElem?_append_left (by simp; omega), Array.getElem?_append_right (by omega), hs, Nat.add_sub_cancel_left]
    exact hx
/-- A row written from n on. -/
theorem row_put {h : Array Obj} {q : Nat → Prop} {cs cs' new : Array Value} {w' n : Nat} {xs ys : List (List PV)} (h1 : PEls h q cs w' 0 xs) (h2 : PEls h q new w' 0 ys) (hn : n + ys.length ≤ xs.length)
    (hsame : ∀ k v, k < n * w' ∨ (n + ys.length) * w' ≤ k → cs[k]? = some v → cs'[k]? = some v) (hput : ∀ k v, k < ys.length * w' → new[k]? = some v → cs'[n * w' + k]? = some v) :
    PEls h q cs' w' 0 (xs.take n ++ (ys ++ xs.drop (n + ys.length))) := by
  rw [PEls_app, PEls_app]
  have hl : (xs.take n).length = n := by simp; omega
  rw [hl]
  have t1 := PEls_sub h1 0 n
  have t2 := PEls_sub h1 (n + ys.length) (xs.length - (n + ys.length))
  rw [List.drop_zero, Nat.zero_mul] at t1
  rw [List.take_of_length_le (by simp)] at t2
  refine ⟨PEls_at (fun i x hi hx => ?_) t1, PEls_at (fun i x hi hx => ?_) h2, PEls_at (fun i x hi hx => ?_) t2⟩
  · rw [hl] at hi
    rw [Nat.zero_add] at hx ⊢
    exact hsame _ _ (.inl hi) (by simpa using hx)
  · rw [Nat.zero_add] at hx ⊢; exact hput _ _ hi hx
  · rw [Nat.zero_add] at hx ⊢
    rw [← Nat.add_mul]
    exact hsame _ _ (.inr (by omega)) hx
theorem row_put2 {h : Array Obj} {q : Nat → Prop} {cs cs' new : Array Value} {w' n : Nat} {xs ys : List (List PV)} (h1 : PEls h q cs w' 0 xs) (h2 : PEls h q new w' 0 ys) (hn : n ≤ xs.length)
    (hsame : ∀ k v, k < n * w' ∨ (n + ys.length) * w' ≤ k → cs[k]? = some v → cs'[k]? = some v) (hput : ∀ k v, k < ys.length * w' → new[k]? = some v → cs'[n * w' + k]? = some v) :
    PEls h q cs' w' 0 (xs.take n ++ ys) := by
  rw [PEls_app]
  have hl : (xs.take n).length = n := by simp; omega
  rw [hl]
  have t1 := PEls_sub h1 0 n
  rw [List.drop_zero, Nat.zero_mul] at t1
  refine ⟨PEls_at (fun i x hi hx => ?_) t1, PEls_at (fun i x hi hx => ?_) h2⟩
  · rw [hl] at hi
    rw [Nat.zero_add] at hx ⊢
    exact hsame _ _ (.inl hi) (by simpa using hx)
  · rw [Nat.zero_add] at hx ⊢; exact hput _ _ hi hx
end
end Go.Proofs.YtcimkkcajkmfoaaDoor
