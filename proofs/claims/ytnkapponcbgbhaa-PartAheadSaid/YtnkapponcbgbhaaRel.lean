import Derived.Test.YtnkapponcbgbhaaDen
import Derived.Laws.World
import Derived.Laws.Sem
import Derived.CallsIn
import Derived.Below
set_option linter.all false
namespace Go.Proofs.Ytnkapponcbgbhaa
open Go
structure HI where
  ver : Nat
  blk : Option Nat
  w : Nat
  tot : Nat
structure Gh where
  mu : Nat → Option HI
  im : Nat → Prop
  gn : Nat → Prop
def Gh.q (γ : Gh) (g : Bool) (b : Nat) : Prop := γ.im b ∧ (g = true → γ.gn b)
def rowAt (h : Array Obj) (b : Nat) (cs : Array Value) : Prop := ∃ t fr, h[b]? = some (.cells cs t fr)
def ownAt (h : Array Obj) (b : Nat) (cs : Array Value) : Prop := ∃ t fr, h[b]? = some (.cells cs t fr) ∧ (fr.1 = fr.2 ∨ cs.size ≤ fr.1)
def scalR : PV → Value → Prop
  | .b x, v => v = .bool x
  | .i k n, v => v = .int k n
  | .s x, v => ∃ s, v = .string s ∧ s.data.toList = x
  | _, _ => False
def blobR (cs : Array Value) (off : Nat) (xs : List PV) : Prop := ∀ (i : Nat) (x : PV), xs[i]? = some x → ∃ v, cs[off + i]? = some v ∧ scalR x v
mutual
def PAt (h : Array Obj) (q : Nat → Prop) (cs : Array Value) (off : Nat) : PV → Prop
  | .b x => cs[off]? = some (.bool x)
  | .i k n => cs[off]? = some (.int k n)
  | .s x => ∃ s, cs[off]? = some (.string s) ∧ s.data.toList = x
  | .blob n xs => xs.length = n ∧ blobR cs off xs
  | .l _ xs => ∃ a c, cs[off]? = some (.slice a xs.length c) ∧ xs.length ≤ c ∧ (xs = [] ∨ ∃ b o w cs', a = some ⟨b, o, none⟩ ∧ q b ∧ rowAt h b cs' ∧ PEls h q cs' w o xs)
  | _ => False
def PCells (h : Array Obj) (q : Nat → Prop) (cs : Array Value) (off : Nat) : List PV → Prop
  | [] => True
  | v :: r => PAt h q cs off v ∧ PCells h q cs (off + wd v) r
def PEls (h : Array Obj) (q : Nat → Prop) (cs : Array Value) (w off : Nat) : List (List PV) → Prop
  | [] => True
  | x :: r => wds x = w ∧ PCells h q cs off x ∧ PEls h q cs w (off + w) r
end
def HSl (i : HI) (lo n : Nat) (a : Option Addr) (c : Nat) : Prop :=
  lo + c = i.tot ∧ n ≤ c ∧ (0 < c → ∃ b, i.blk = some b ∧ a = some ⟨b, lo * i.w, none⟩)
def YR (m : Nat) (c : Option Value) (l : Nat) (now : Prop) : Prop :=
  match m with
  | 0 => now → l = 0
  | 1 => True
  | 2 => ∃ x, c = some (.bool x) ∧ (now → x = (l == 0))
  | 3 => ∃ x, c = some (.bool x) ∧ (now → x = !(l == 0))
  | _ => ∃ k, c = some (.func (.yield k) #[] #[]) ∧ (now → k = l)
theorem YR.map {m : Nat} {c c' : Option Value} {l l' : Nat} {p p' : Prop} (hc : ∀ x, c = some x → c' = some x) (hp : p' → p ∧ l' = l) (h : YR m c l p) : YR m c' l' p' := by
  unfold YR at h ⊢
  split at h
  · exact fun h' => (hp h').2.trans (h (hp h').1)
  · trivial
  · obtain ⟨x, e, h⟩ := h; exact ⟨x, hc _ e, fun h' => by rw [(hp h').2]; exact h (hp h').1⟩
  · obtain ⟨x, e, h⟩ := h; exact ⟨x, hc _ e, fun h' => by rw [(hp h').2]; exact h (hp h').1⟩
  · obtain ⟨x, e, h⟩ := h; exact ⟨x, hc _ e, fun h' => (h (hp h').1).trans (hp h').2.symm⟩
mutual
def RAt (fid : Nat → Nat) (γ : Gh) (h : Array Obj) (cs : Array Value) (off : Nat) : PV → Prop
  | .b x => cs[off]? = some (.bool x)
  | .i k n => cs[off]? = some (.int k n)
  | .s x => ∃ s, cs[off]? = some (.string s) ∧ s.data.toList = x
  | .blob n xs => xs.length = n ∧ blobR cs off xs
  | .l g xs => PAt h (γ.q g) cs off (.l g xs)
  | .ln g xs => PAt h (γ.q g) cs off (.l g xs) ∧ ∃ a n c, cs[off]? = some (.slice (some a) n c)
  | .e nil => ∃ a, cs[off]? = some (.slice a 0 0) ∧ (a = none ↔ nil = true)
  | .sl o ver lo n => ∃ i, γ.mu o = some i ∧ ver ≤ i.ver ∧ ∃ a c, cs[off]? = some (.slice a n c) ∧ (ver = i.ver → HSl i lo n a c)
  | .bs o o' lo n => ∃ i, γ.mu o = some i ∧ ∃ a c, cs[off]? = some (.slice (some a) n c) ∧ n ≤ c ∧ (0 = i.ver → 0 < c → ∃ b, i.blk = some b ∧ a = ⟨b, o' + lo, none⟩)
  | .p o ver j o' bi => ∃ i, γ.mu o = some i ∧ ver ≤ i.ver ∧ ∃ a, cs[off]? = some (.pointer (some a)) ∧ (ver = i.ver → ∃ b, i.blk = some b ∧ a = ⟨b, j * i.w + o' + bi.getD 0, none⟩)
  | .q g xs bi => ∃ b o cs', cs[off]? = some (.pointer (some ⟨b, o + bi.getD 0, none⟩)) ∧ γ.q g b ∧ rowAt h b cs' ∧ PCells h (γ.q g) cs' o xs
  | .np => cs[off]? = some (.pointer none)
  | .agg xs => ∃ arr, cs[off]? = some (.agg arr) ∧ arr.size = wds xs ∧ RCells fid γ h arr 0 xs
  | .tup vs => ∃ arr, cs[off]? = some (.tuple arr) ∧ arr.size = vs.length ∧ RL fid γ h arr 0 vs
  | .fn f first cap => ∃ f0 a1 a2, cs[off]? = some (.func (.func f0) a1 a2) ∧ fid f0 = f ∧ (a1.size = first.length ∧ RL fid γ h a1 0 first) ∧ a2.size = cap.length ∧ RL fid γ h a2 0 cap
  | .y o n m => ∃ i, γ.mu o = some i ∧ n ≤ i.ver ∧ YR m cs[off]? i.w (n = i.ver)
  | .m o => ∃ i, γ.mu o = some i ∧ ∃ a, cs[off]? = some (.map a) ∧ (0 = i.ver → ∃ b, i.blk = some b ∧ a = some b)
  | .ifc t v => ∃ x, cs[off]? = some (.iface t x) ∧ RAt fid γ h #[x] 0 v
  | .ni => cs[off]? = some .nilIface
  | .nm => cs[off]? = some (.map none)
  | .pan _ => False
  | .nf => cs[off]? = some .nilFunc
  | .ub => ∃ x, cs[off]? = some (.bool x)
  | .un => True
def RCells (fid : Nat → Nat) (γ : Gh) (h : Array Obj) (cs : Array Value) (off : Nat) : List PV → Prop
  | [] => True
  | v :: r => (cellV v = true ∧ RAt fid γ h cs off v) ∧ RCells fid γ h cs (off + wd v) r
def RL (fid : Nat → Nat) (γ : Gh) (h : Array Obj) (cs : Array Value) (off : Nat) : List PV → Prop
  | [] => True
  | v :: r => (∃ x, cs[off]? = some x ∧ RAt fid γ h #[x] 0 v) ∧ RL fid γ h cs (off + 1) r
end
def RV (fid : Nat → Nat) (γ : Gh) (h : Array Obj) (x : Value) (v : PV) : Prop := RAt fid γ h #[x] 0 v
def REls (fid : Nat → Nat) (γ : Gh) (h : Array Obj) (cs : Array Value) (w off : Nat) : List (List PV) → Prop
  | [] => True
  | x :: r => wds x = w ∧ RCells fid γ h cs off x ∧ REls fid γ h cs w (off + w) r
def valR (fid : Nat → Nat) : PV → Value → Prop
  | .i k n, v => v = .int k n
  | .fn f [] [], v => ∃ f0, v = .func (.func f0) #[] #[] ∧ fid f0 = f
  | _, _ => False
def EntR (fid : Nat → Nat) (k : IntKind) : List MapEntry → List (Int × PV) → Prop
  | [], [] => True
  | e :: L, p :: l => (e.key = .int k p.1 ∧ valR fid p.2 e.val) ∧ EntR fid k L l
  | _, _ => False
def mapR (fid : Nat → Nat) (h : Array Obj) (b : Nat) (k : IntKind) (l : List (Int × PV)) : Prop :=
  ∃ (es : Array MapEntry) (clock : Nat), h[b]? = some (.map es clock) ∧ EntR fid k es.toList l
def ownM (fid : Nat → Nat) (h : Array Obj) (b : Nat) (cs : Array Value) (x : Obj') : Prop :=
  match mpo x with
  | none => ownAt h b cs
  | some p => (x.els = [] ∧ x.pu = false ∧ cs = #[]) ∧ mapR fid h b p.1 p.2
theorem ownM.cells {fid : Nat → Nat} {h : Array Obj} {b : Nat} {cs : Array Value} {x : Obj'} (H : ownM fid h b cs x) (hx : x.els ≠ [] ∨ x.pu = true) : mpo x = none ∧ ownAt h b cs := by
  unfold ownM at H
  split at H
  · rename_i e; exact ⟨e, H⟩
  · obtain ⟨⟨h1, h2, _⟩, _⟩ := H
    rcases hx with hx | hx
    · exact absurd h1 hx
    · rw [h2] at hx; cases hx
theorem ownM.of {fid : Nat → Nat} {h : Array Obj} {b : Nat} {cs : Array Value} {x : Obj'} (e : mpo x = none) (H : ownAt h b cs) : ownM fid h b cs x := by
  unfold ownM; rw [e]; exact H
theorem ownM.keep {fid : Nat → Nat} {h h' : Array Obj} {b : Nat} {cs : Array Value} {x : Obj'} (hb : h'[b]? = h[b]?) (H : ownM fid h b cs x) : ownM fid h' b cs x := by
  unfold ownM at H ⊢
  split
  · rename_i e; rw [e] at H
    obtain ⟨t, fr, H, H'⟩ := H; exact ⟨t, fr, by rw [hb]; exact H, H'⟩
  · rename_i p e; rw [e] at H
    obtain ⟨h1, es, c, h2, h3⟩ := H
    exact ⟨h1, es, c, by rw [hb]; exact h2, h3⟩
theorem ownM.lt {fid : Nat → Nat} {h : Array Obj} {b : Nat} {cs : Array Value} {x : Obj'} (H : ownM fid h b cs x) : b < h.size := by
  unfold ownM at H
  split at H
  · obtain ⟨t, fr, H, _⟩ := H; exact (Array.getElem?_eq_some_iff.1 H).1
  · obtain ⟨_, es, c, H, _⟩ := H; exact (Array.getElem?_eq_some_iff.1 H).1
theorem ownM.kind {fid : Nat → Nat} {h : Array Obj} {b : Nat} {cs : Array Value} {x : Obj'} (H : ownM fid h b cs x) : (∃ cs t fr, h[b]? = some (.cells cs t fr)) ∨ ∃ es c, h[b]? = some (.map es c) := by
  unfold ownM at H
  split at H
  · obtain ⟨t, fr, H, _⟩ := H; exact .inl ⟨_, t, fr, H⟩
  · obtain ⟨_, es, c, H, _⟩ := H; exact .inr ⟨es, c, H⟩
theorem ownM.els {fid : Nat → Nat} {h : Array Obj} {b : Nat} {cs : Array Value} {x y : Obj'} (H : ownM fid h b cs x) (hm : mpo y = mpo x) (hp : x.pu = y.pu) (he : x.els = [] → y.els = []) : ownM fid h b cs y := by
  unfold ownM at H ⊢
  rw [hm]
  split
  · rename_i e; rw [e] at H; exact H
  · rename_i p e; rw [e] at H
    exact ⟨⟨he H.1.1, by rw [← hp]; exact H.1.2.1, H.1.2.2⟩, H.2⟩
def ORel (fid : Nat → Nat) (γ : Gh) (h : Array Obj) (x : Obj') (i : HI) : Prop :=
  x.ver = i.ver ∧ (∀ c, x.cap = some c → i.tot = c) ∧ x.els.length ≤ i.tot ∧
  match i.blk with
  | none => i.tot = 0
  | some b => x.w = i.w ∧ ∃ cs, ownM fid h b cs x ∧ i.tot * i.w ≤ cs.size ∧
      ((x.pu = true ∧ PEls h (γ.q x.g) cs i.w 0 x.els) ∨ (x.pu = false ∧ REls fid γ h cs i.w 0 x.els))
structure Chg (A : Nat → Prop) (w w' : World) : Prop where
  os : w'.os = w.os
  tape : w'.tape = w.tape
  output : w'.output = w.output
  size : w.heap.size ≤ w'.heap.size
  block : ∀ k, k < w.heap.size → ¬ A k → w'.heap[k]? = w.heap[k]?
theorem Chg.refl (A : Nat → Prop) (w : World) : Chg A w w := ⟨rfl, rfl, rfl, Nat.le_refl _, fun _ _ _ => rfl⟩
theorem Chg.trans {A : Nat → Prop} {w w' w'' : World} (h : Chg A w w') (k : Chg A w' w'') : Chg A w w'' :=
  ⟨k.os.trans h.os, k.tape.trans h.tape, k.output.trans h.output, Nat.le_trans h.size k.size,
   fun i hi hA => (k.block i (Nat.lt_of_lt_of_le hi h.size) hA).trans (h.block i hi hA)⟩
structure Ctx where
  fid : Nat → Nat
  glob : Nat → Option (List PV)
  w0 : World
  A : Nat → Prop
  gn : Nat → Prop
  g0 : Gh
  kp : Nat → Prop
  N : Nat → Prop
structure St (C : Ctx) (γ : Gh) (w : World) (tmps : Array Value) (sl : SL) (ob : OB) : Prop where
  slot : ∀ t, RV C.fid γ w.heap (tmps.getD t undef) (getS sl t)
  obj : ∀ o x, getO ob o = some x → ∃ i, γ.mu o = some i ∧ ORel C.fid γ w.heap x i
  dom : ∀ o i, γ.mu o = some i → ∃ x, getO ob o = some x
  inj : ∀ o o' i i' b, γ.mu o = some i → γ.mu o' = some i' → i.blk = some b → i'.blk = some b → o = o'
  unf : ∀ o x i b, getO ob o = some x → x.fro = false → γ.mu o = some i → i.blk = some b → ¬ γ.im b
  own : ∀ o i b, γ.mu o = some i → i.blk = some b → C.A b ∨ C.w0.heap.size ≤ b
  lt : ∀ b, γ.im b → b < w.heap.size
  glob : ∀ g xs, C.glob g = some xs → γ.q true g ∧ ∃ cs, rowAt w.heap g cs ∧ PCells w.heap (γ.q true) cs 0 xs
  chg : Chg (fun b => C.A b ∨ C.w0.heap.size ≤ b) C.w0 w
  gn : γ.gn = C.gn
  gnew : ∀ b, C.A b ∨ C.w0.heap.size ≤ b → C.gn b
  kept : ∀ k i, C.kp k → C.g0.mu k = some i → ∃ i', γ.mu k = some i' ∧ (i' = i ∨ i.ver < i'.ver)
  imk : ∀ b, C.g0.im b → γ.im b ∧ w.heap[b]? = C.w0.heap[b]?
  imn : ∀ b, γ.im b → C.g0.im b ∨ (C.A b ∨ C.w0.heap.size ≤ b)
  place : ∀ o i b, γ.mu o = some i → i.blk = some b → (o < 64 ∧ ∃ j, C.g0.mu o = some j ∧ j.blk = some b) ∨ C.N b
  fresh : ∀ b, C.w0.heap.size ≤ b → C.N b
theorem rowAt.keep {h h' : Array Obj} {b : Nat} {cs : Array Value} (hb : h'[b]? = h[b]?) (H : rowAt h b cs) : rowAt h' b cs := by
  obtain ⟨t, fr, H⟩ := H; exact ⟨t, fr, by rw [hb]; exact H⟩
theorem ownAt.keep {h h' : Array Obj} {b : Nat} {cs : Array Value} (hb : h'[b]? = h[b]?) (H : ownAt h b cs) : ownAt h' b cs := by
  obtain ⟨t, fr, H, H'⟩ := H; exact ⟨t, fr, by rw [hb]; exact H, H'⟩
theorem ownAt.row {h : Array Obj} {b : Nat} {cs : Array Value} (H : ownAt h b cs) : rowAt h b cs := let ⟨t, fr, H, _⟩ := H; ⟨t, fr, H⟩
theorem rowAt.inj {h : Array Obj} {b : Nat} {cs cs' : Array Value} (H : rowAt h b cs) (H' : rowAt h b cs') : cs = cs' := by
  obtain ⟨t, fr, H⟩ := H; obtain ⟨t', fr', H'⟩ := H'; rw [H] at H'; simpa using (Option.some.inj H' : Obj.cells cs t fr = Obj.cells cs' t' fr') |> fun e => by injection e
section
variable {h h' : Array Obj} {q q' : Nat → Prop}
mutual
theorem PAt_mono (hq : ∀ b, q b → q' b ∧ h'[b]? = h[b]?) : ∀ (v : PV) (cs : Array Value) (off : Nat), PAt h q cs off v → PAt h' q' cs off v
  | .b _, _, _, H | .i _ _, _, _, H | .s _, _, _, H | .blob _ _, _, _, H => by simpa only [PAt] using H
  | .l _ xs, cs, off, H => by
    simp only [PAt] at H ⊢
    obtain ⟨a, c, e, hc, H⟩ := H
    refine ⟨a, c, e, hc, H.imp id ?_⟩
    rintro ⟨b, o, w, cs', ea, hb, hr, hE⟩
    exact ⟨b, o, w, cs', ea, (hq b hb).1, hr.keep (hq b hb).2, PEls_mono hq xs cs' w o hE⟩
  | .ln .., _, _, H | .e .., _, _, H | .sl .., _, _, H | .bs .., _, _, H | .p .., _, _, H | .q .., _, _, H | .np, _, _, H | .agg .., _, _, H | .tup .., _, _, H | .fn .., _, _, H | .y .., _, _, H | .m .., _, _, H | .ifc .., _, _, H | .ni, _, _, H | .nm, _, _, H | .pan .., _, _, H | .nf, _, _, H | .ub, _, _, H | .un, _, _, H => by simp only [PAt] at H
theorem PCells_mono (hq : ∀ b, q b → q' b ∧ h'[b]? = h[b]?) : ∀ (l : List PV) (cs : Array Value) (off : Nat), PCells h q cs off l → PCells h' q' cs off l
  | [], _, _, _ => by simp only [PCells]
  | v :: r, cs, off, H => by
    simp only [PCells] at H ⊢
    exact ⟨PAt_mono hq v cs off H.1, PCells_mono hq r cs _ H.2⟩
theorem PEls_mono (hq : ∀ b, q b → q' b ∧ h'[b]? = h[b]?) : ∀ (l : List (List PV)) (cs : Array Value) (w off : Nat), PEls h q cs w off l → PEls h' q' cs w off l
  | [], _, _, _, _ => by simp only [PEls]
  | x :: r, cs, w, off, H => by
    simp only [PEls] at H ⊢
    exact ⟨H.1, PCells_mono hq x cs off H.2.1, PEls_mono hq r cs w _ H.2.2⟩
end
end
structure Mv (γ γ' : Gh) (h h' : Array Obj) (S : List Nat) (f : Nat → Nat) : Prop where
  mu : ∀ o, o ∈ S → ∀ i, γ.mu o = some i → ∃ i', γ'.mu (f o) = some i' ∧ (i' = i ∨ i.ver < i'.ver)
  q : ∀ g b, γ.q g b → γ'.q g b ∧ h'[b]? = h[b]?
theorem Mv.sub {γ γ' : Gh} {h h' : Array Obj} {S S' : List Nat} {f : Nat → Nat} (m : Mv γ γ' h h' S f) (hs : ∀ o, o ∈ S' → o ∈ S) : Mv γ γ' h h' S' f :=
  ⟨fun o ho => m.mu o (hs o ho), m.q⟩
theorem wd_ren (f : Nat → Nat) (v : PV) : wd (ren f v) = wd v := by cases v <;> rfl
theorem cellV_ren (f : Nat → Nat) (v : PV) : cellV (ren f v) = cellV v := by cases v <;> rfl
theorem wds_renL (f : Nat → Nat) : ∀ l, wds (renL f l) = wds l
  | [] => rfl
  | v :: r => by simp only [renL, wds, wd_ren, wds_renL f r]
theorem length_renL (f : Nat → Nat) : ∀ l, (renL f l).length = l.length
  | [] => rfl
  | v :: r => by simp only [renL, List.length_cons, length_renL f r]
section
variable {fid : Nat → Nat} {γ γ' : Gh} {h h' : Array Obj} {f : Nat → Nat}
mutual
theorem RAt_map : ∀ (v : PV) (cs : Array Value) (off : Nat), Mv γ γ' h h' (refs v) f → RAt fid γ h cs off v → RAt fid γ' h' cs off (ren f v)
  | .b _, _, _, _, H | .i _ _, _, _, _, H | .s _, _, _, _, H | .blob _ _, _, _, _, H | .np, _, _, _, H | .ni, _, _, _, H | .nm, _, _, _, H | .nf, _, _, _, H | .ub, _, _, _, H | .un, _, _, _, H | .e _, _, _, _, H => by simpa only [RAt, ren] using H
  | .pan _, _, _, _, H => by simp only [RAt] at H
  | .m o, cs, off, m, H => by
    simp only [RAt, ren] at H ⊢
    obtain ⟨i, hi, a, ha, H⟩ := H
    obtain ⟨i', hi', he⟩ := m.mu o (by simp [refs]) i hi
    rcases he with rfl | he
    · exact ⟨i', hi', a, ha, H⟩
    · exact ⟨i', hi', a, ha, fun e => by omega⟩
  | .ifc t v, cs, off, m, H => by
    simp only [RAt, ren] at H ⊢
    obtain ⟨x, ha, H⟩ := H
    exact ⟨x, ha, RAt_map v #[x] 0 (by simpa only [refs] using m) H⟩
  | .l g xs, cs, off, m, H => by simp only [RAt, ren] at H ⊢; exact PAt_mono (m.q g) _ _ _ H
  | .ln g xs, cs, off, m, H => by simp only [RAt, ren] at H ⊢; exact ⟨PAt_mono (m.q g) _ _ _ H.1, H.2⟩
  | .sl o ver lo n, cs, off, m, H => by
    simp only [RAt, ren] at H ⊢
    obtain ⟨i, hi, hv, a, c, ha, H⟩ := H
    obtain ⟨i', hi', he⟩ := m.mu o (by simp [refs]) i hi
    rcases he with rfl | he
    · exact ⟨i', hi', hv, a, c, ha, H⟩
    · exact ⟨i', hi', by omega, a, c, ha, fun e => by omega⟩
  | .bs o o' lo n, cs, off, m, H => by
    simp only [RAt, ren] at H ⊢
    obtain ⟨i, hi, a, c, ha, hn, H⟩ := H
    obtain ⟨i', hi', he⟩ := m.mu o (by simp [refs]) i hi
    rcases he with rfl | he
    · exact ⟨i', hi', a, c, ha, hn, H⟩
    · exact ⟨i', hi', a, c, ha, hn, fun e => by omega⟩
  | .p o ver j o' bi, cs, off, m, H => by
    simp only [RAt, ren] at H ⊢
    obtain ⟨i, hi, hv, a, ha, H⟩ := H
    obtain ⟨i', hi', he⟩ := m.mu o (by simp [refs]) i hi
    rcases he with rfl | he
    · exact ⟨i', hi', hv, a, ha, H⟩
    · exact ⟨i', hi', by omega, a, ha, fun e => by omega⟩
  | .q g xs bi, cs, off, m, H => by
    simp only [RAt, ren] at H ⊢
    obtain ⟨b, o, cs', e, hb, hr, H⟩ := H
    exact ⟨b, o, cs', e, (m.q g b hb).1, hr.keep (m.q g b hb).2, PCells_mono (m.q g) _ _ _ H⟩
  | .agg xs, cs, off, m, H => by
    simp only [RAt, ren] at H ⊢
    obtain ⟨arr, e, hs, H⟩ := H
    exact ⟨arr, e, by rw [wds_renL]; exact hs, RCells_map xs arr 0 (by simpa only [refs] using m) H⟩
  | .tup vs, cs, off, m, H => by
    simp only [RAt, ren] at H ⊢
    obtain ⟨arr, e, hs, H⟩ := H
    exact ⟨arr, e, by rw [length_renL]; exact hs, RL_map vs arr 0 (by simpa only [refs] using m) H⟩
  | .fn k fs cap, cs, off, m, H => by
    simp only [RAt, ren] at H ⊢
    simp only [refs] at m
    obtain ⟨f0, a1, a2, e, ef, H1, H2⟩ := H
    exact ⟨f0, a1, a2, e, ef, ⟨by rw [length_renL]; exact H1.1, RL_map fs a1 0 (m.sub fun o ho => List.mem_append_left _ ho) H1.2⟩,
      by rw [length_renL]; exact H2.1, RL_map cap a2 0 (m.sub fun o ho => List.mem_append_right _ ho) H2.2⟩
  | .y o n k, cs, off, m, H => by
    simp only [RAt, ren] at H ⊢
    obtain ⟨i, hi, hv, H⟩ := H
    obtain ⟨i', hi', he⟩ := m.mu o (by simp [refs]) i hi
    rcases he with rfl | he
    · exact ⟨i', hi', hv, H⟩
    · exact ⟨i', hi', by omega, H.map (fun _ e => e) (fun e => by omega)⟩
theorem RCells_map : ∀ (l : List PV) (cs : Array Value) (off : Nat), Mv γ γ' h h' (refsL l) f → RCells fid γ h cs off l → RCells fid γ' h' cs off (renL f l)
  | [], _, _, _, _ => by simp only [RCells, renL]
  | v :: r, cs, off, m, H => by
    simp only [RCells, renL] at H ⊢
    simp only [refsL] at m
    exact ⟨⟨by rw [cellV_ren]; exact H.1.1, RAt_map v cs off (m.sub fun o ho => List.mem_append_left _ ho) H.1.2⟩, by rw [wd_ren]; exact RCells_map r cs _ (m.sub fun o ho => List.mem_append_right _ ho) H.2⟩
theorem RL_map : ∀ (l : List PV) (cs : Array Value) (off : Nat), Mv γ γ' h h' (refsL l) f → RL fid γ h cs off l → RL fid γ' h' cs off (renL f l)
  | [], _, _, _, _ => by simp only [RL, renL]
  | v :: r, cs, off, m, H => by
    simp only [RL, renL] at H ⊢
    simp only [refsL] at m
    obtain ⟨⟨x, hx, H1⟩, H2⟩ := H
    exact ⟨⟨x, hx, RAt_map v #[x] 0 (m.sub fun o ho => List.mem_append_left _ ho) H1⟩, RL_map r cs _ (m.sub fun o ho => List.mem_append_right _ ho) H2⟩
end
theorem REls_map : ∀ (l : List (List PV)) (cs : Array Value) (w off : Nat), Mv γ γ' h h' (refsEls l) f → REls fid γ h cs w off l → REls fid γ' h' cs w off (renEls f l)
  | [], _, _, _, _, _ => by simp only [REls, renEls]
  | x :: r, cs, w, off, m, H => by
    simp only [REls, renEls] at H ⊢
    simp only [refsEls] at m
    exact ⟨by rw [wds_renL]; exact H.1, RCells_map x cs off (m.sub fun o ho => List.mem_append_left _ ho) H.2.1, REls_map r cs w _ (m.sub fun o ho => List.mem_append_right _ ho) H.2.2⟩
end
mutual
theorem ren_id : ∀ v, ren (fun o => o) v = v
  | .b _ | .i _ _ | .s _ | .l _ _ | .ln _ _ | .e _ | .sl .. | .bs .. | .p .. | .q .. | .np | .blob .. | .y .. | .m _ | .ni | .nm | .nf | .ub | .un => by simp only [ren]
  | .ifc t v => by simp only [ren, ren_id v]
  | .pan v => by simp only [ren, ren_id v]
  | .agg cs => by simp only [ren, renL_id cs]
  | .tup cs => by simp only [ren, renL_id cs]
  | .fn _ a b => by simp only [ren, renL_id a, renL_id b]
theorem renL_id : ∀ l, renL (fun o => o) l = l
  | [] => rfl
  | v :: r => by simp only [renL, ren_id v, renL_id r]
end
theorem renEls_id : ∀ l, renEls (fun o => o) l = l
  | [] => rfl
  | x :: r => by simp only [renEls, renL_id, renEls_id r]
section
variable {fid : Nat → Nat} {γ γ' : Gh} {h h' : Array Obj}
theorem RAt_mono {v : PV} {cs : Array Value} {off : Nat} (m : Mv γ γ' h h' (refs v) fun o => o) (H : RAt fid γ h cs off v) : RAt fid γ' h' cs off v := by
  have := RAt_map v cs off m H; rwa [ren_id] at this
theorem RCells_mono {l : List PV} {cs : Array Value} {off : Nat} (m : Mv γ γ' h h' (refsL l) fun o => o) (H : RCells fid γ h cs off l) : RCells fid γ' h' cs off l := by
  have := RCells_map l cs off m H; rwa [renL_id] at this
theorem RL_mono {l : List PV} {cs : Array Value} {off : Nat} (m : Mv γ γ' h h' (refsL l) fun o => o) (H : RL fid γ h cs off l) : RL fid γ' h' cs off l := by
  have := RL_map l cs off m H; rwa [renL_id] at this
theorem REls_mono {l : List (List PV)} {cs : Array Value} {w off : Nat} (m : Mv γ γ' h h' (refsEls l) fun o => o) (H : REls fid γ h cs w off l) : REls fid γ' h' cs w off l := by
  have := REls_map l cs w off m H; rwa [renEls_id] at this
theorem ORel_mono {x : Obj'} {i : HI} (m : Mv γ γ' h h' (refsO x) fun o => o) (hb : ∀ b, i.blk = some b → h'[b]? = h[b]?) (H : ORel fid γ h x i) : ORel fid γ' h' x i := by
  obtain ⟨h1, h2, h3, h4⟩ := H
  refine ⟨h1, h2, h3, ?_⟩
  cases hbk : i.blk with
  | none => simpa only [hbk] using h4
  | some b =>
    simp only [hbk] at h4 ⊢
    obtain ⟨hw, cs, ho, ht, H⟩ := h4
    refine ⟨hw, cs, ho.keep (hb b hbk), ht, ?_⟩
    rcases H with ⟨hp, H⟩ | ⟨hp, H⟩
    · exact .inl ⟨hp, PEls_mono (m.q _) _ _ _ _ H⟩
    · refine .inr ⟨hp, REls_mono ?_ H⟩
      simpa only [refsO, hp, Bool.false_eq_true, if_false] using m
end
end Go.Proofs.Ytnkapponcbgbhaa
