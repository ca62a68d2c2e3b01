import Derived.WalkKit
set_option linter.all false
namespace Go.Proofs.Ytnkapponcbgbhaa
open Go
inductive PV where
  | b (x : Bool)
  | i (k : IntKind) (n : Int)
  | s (x : List UInt8)
  | l (g : Bool) (xs : List (List PV))
  | ln (g : Bool) (xs : List (List PV))
  | e (nil : Bool)
  | sl (o ver lo n : Nat)
  | bs (o off lo n : Nat)
  | p (o ver i off : Nat) (bi : Option Nat)
  | q (g : Bool) (xs : List PV) (bi : Option Nat)
  | np
  | agg (cs : List PV)
  | blob (n : Nat) (xs : List PV)
  | tup (vs : List PV)
  | fn (f : Nat) (first cap : List PV)
  | y (o n m : Nat)
  | m (o : Nat)
  | ifc (t : Nat) (v : PV)
  | ni
  | nm
  | pan (v : PV)
  | nf
  | ub
  | un
  deriving Inhabited
structure Obj' where
  els : List (List PV)
  w : Nat
  pu : Bool
  g : Bool
  cap : Option Nat
  ver : Nat
  fro : Bool
  mp : Option (IntKind × List (Int × PV)) := none
  deriving Inhabited
def mpo (x : Obj') : Option (IntKind × List (Int × PV)) := if x.pu then none else x.mp
theorem mpo_pu {x : Obj'} (h : x.pu = true) : mpo x = none := by simp [mpo, h]
abbrev SL := List (Nat × PV)
abbrev OB := List (Nat × Obj')
abbrev Up := PV × OB
def bnd {α β : Type} (x : Option α) (f : α → Option β) : Option β :=
  match x with
  | some a => f a
  | none => none
def bndO {β : Type} (x : Option Up) (ob : OB) (f : PV → OB → Option β) : Option β :=
  match x with
  | some r => f r.1 (r.2 ++ ob)
  | none => none
def getS : SL → Nat → PV
  | [], _ => .un
  | (k, v) :: r, t => if k = t then v else getS r t
abbrev gS := getS
def getO : OB → Nat → Option Obj'
  | [], _ => none
  | (k, v) :: r, t => if k = t then some v else getO r t
def wd : PV → Nat
  | .blob n _ => n
  | _ => 1
def wds : List PV → Nat
  | [] => 0
  | s :: ss => wd s + wds ss
def dropW : List PV → Nat → Option (List PV)
  | ss, 0 => some ss
  | [], _ + 1 => none
  | s :: ss, n + 1 => if wd s ≤ n + 1 then dropW ss (n + 1 - wd s) else none
def takeW : List PV → Nat → Option (List PV)
  | _, 0 => some []
  | [], _ + 1 => none
  | s :: ss, n + 1 => if wd s ≤ n + 1 then (takeW ss (n + 1 - wd s)).map (s :: ·) else none
def putW (segs : List PV) (off : Nat) (new : List PV) : Option (List PV) :=
  match takeW segs off, dropW segs (off + wds new) with
  | some a, some c => some (a ++ (new ++ c))
  | _, _ => none
def cellsOf : PV → List PV
  | .agg cs => cs
  | v => [v]
def stv : PV → Bool
  | .un => false
  | .ub => false
  | .blob _ _ => false
  | .tup _ => false
  | .y .. => false
  | .pan _ => false
  | _ => true
def cellV : PV → Bool
  | .un => false
  | .ub => false
  | .agg _ => false
  | .tup _ => false
  | .y .. => false
  | .pan _ => false
  | _ => true
def stvs : List PV → Bool
  | [] => true
  | v :: r => stv v && stvs r
def rt (g : Bool) : PV → PV
  | .l _ xs => .l g xs
  | .ln _ xs => .ln g xs
  | v => v
def two32 : Nat := 4294967296
def allW (w : Nat) : List (List PV) → Bool
  | [] => true
  | x :: r => wds x == w && allW w r
def blobAt : Option (List PV) → Option (List PV)
  | some (.blob _ xs :: _) => some xs
  | _ => none
def atE (pu g : Bool) : Option (List PV) → Nat → Option (List PV)
  | some el, off => (dropW el off).map fun r => if pu then r.map (rt g) else r
  | none, _ => none
def atO : Option Obj' → Nat → Nat → Nat → Option (List PV)
  | some x, ver, i, off => if x.ver = ver then atE x.pu x.g x.els[i]? off else none
  | none, _, _, _ => none
def atP (ob : OB) : PV → Option (List PV)
  | .p o ver i off none => atO (getO ob o) ver i off
  | .q g xs none => some (xs.map (rt g))
  | _ => none
def hd1 : Option (List PV) → Option PV
  | some (.blob _ _ :: _) => none
  | some (v :: _) => some v
  | _ => none
def nthB : Option (List PV) → Nat → Option PV
  | some xs, k => xs[k]?
  | none, _ => none
def l1 (ob : OB) : PV → Option PV
  | .p o ver i off none => hd1 (atO (getO ob o) ver i off)
  | .p o ver i off (some k) => nthB (blobAt (atO (getO ob o) ver i off)) k
  | .q g xs none => hd1 (some (xs.map (rt g)))
  | .q _ xs (some k) => nthB (blobAt (some xs)) k
  | _ => none
def aggO : Option (List PV) → Option PV
  | some cs => some (.agg cs)
  | none => none
def takeO : Option (List PV) → Nat → Option (List PV)
  | some cs, n => takeW cs n
  | none, _ => none
def lN (ob : OB) (n : Nat) (a : PV) : Option PV := aggO (takeO (atP ob a) n)
def contX : Option Obj' → Nat → Nat → Nat → Option (Bool × List (List PV))
  | some x, ver, lo, n => if x.pu = true ∧ x.ver = ver ∧ lo + n ≤ x.els.length then some (x.g, (x.els.drop lo).take n) else none
  | none, _, _, _ => none
def contB : Option (List PV) → Nat → Nat → Option (Bool × List (List PV))
  | some xs, lo, n => if lo + n ≤ xs.length then some (true, ((xs.drop lo).take n).map fun v => [v]) else none
  | none, _, _ => none
def contL (ob : OB) : PV → Option (Bool × List (List PV))
  | .l g xs => some (g, xs)
  | .ln g xs => some (g, xs)
  | .e _ => some (true, [])
  | .sl o ver lo n => contX (getO ob o) ver lo n
  | .bs o off lo n => contB (blobAt (atO (getO ob o) 0 0 off)) lo n
  | _ => none
def cont (ob : OB) : PV → Option (Bool × List (List PV))
  | .s x => some (true, x.map fun c => [.i .u8 c.toNat])
  | v => contL ob v
def scal : PV → Bool
  | .b _ | .i _ _ | .s _ => true
  | _ => false
def flat : PV → Bool
  | .b _ | .i _ _ | .s _ => true
  | .blob _ _ => true
  | _ => false
def flats : List PV → Bool
  | [] => true
  | v :: r => flat v && flats r
def flatEls : List (List PV) → Bool
  | [] => true
  | x :: r => flats x && flatEls r
def frzX : Option Obj' → Nat → Option (Bool × List (List PV)) → Option (PV × Bool × OB)
  | some x, o, some r => some (.l r.1 r.2, r.1, [(o, { x with fro := true })])
  | _, _, _ => none
def puri (ob : OB) : PV → Option (PV × Bool × OB)
  | .l g xs => some (.l g xs, g, [])
  | .ln g xs => some (.l g xs, g, [])
  | .e _ => some (.l true [], true, [])
  | .sl o ver lo n => frzX (getO ob o) o (contX (getO ob o) ver lo n)
  | .b x => some (.b x, true, [])
  | .i k n => some (.i k n, true, [])
  | .s x => some (.s x, true, [])
  | .blob n xs => some (.blob n xs, true, [])
  | _ => none
def puriC : Option (PV × Bool × OB) → Option (List PV × Bool × OB) → Option (List PV × Bool × OB)
  | some a, some b => some (a.1 :: b.1, a.2.1 && b.2.1, a.2.2 ++ b.2.2)
  | _, _ => none
def puris (ob : OB) : List PV → Option (List PV × Bool × OB)
  | [] => some ([], true, [])
  | v :: r => puriC (puri ob v) (puris ob r)
def stD (o : Nat) (x : Obj') (i : Nat) : Option (List PV) → Option Up
  | some el' => some (.tup [], [(o, { x with els := x.els.set i el' })])
  | none => none
def stQ (o : Nat) (x : Obj') (i : Nat) (g : Bool) (u : OB) : Option (List PV) → Option Up
  | some el' => if u.any (fun y => y.1 == o) then none else some (.tup [], (o, { x with els := x.els.set i el', g := x.g && g }) :: u)
  | none => none
def stP (o : Nat) (x : Obj') (i : Nat) (el : List PV) (off : Nat) : Option (List PV × Bool × OB) → Option Up
  | some r => stQ o x i r.2.1 r.2.2 (putW el off r.1)
  | none => none
def stE (ob : OB) (o : Nat) (x : Obj') (i off : Nat) (v : PV) : Option (List PV) → Option Up
  | some el => if x.pu = true then stP o x i el off (puris ob (cellsOf v)) else stD o x i (putW el off (cellsOf v))
  | none => none
def stX (ob : OB) (o ver i off : Nat) (v : PV) : Option Obj' → Option Up
  | some x => if x.fro = false ∧ x.ver = ver then stE ob o x i off v x.els[i]? else none
  | none => none
def stF (o : Nat) (x : Obj') (i k : Nat) (v : PV) : Option (List PV) → Option (List PV) → Option Up
  | some (.blob m xs :: c), some a => if k < xs.length then some (.tup [], [(o, { x with els := x.els.set i (a ++ (.blob m (xs.set k v) :: c)) })]) else none
  | _, _ => none
def stG (o : Nat) (x : Obj') (i off k : Nat) (v : PV) : Option (List PV) → Option Up
  | some el => stF o x i k v (dropW el off) (takeW el off)
  | none => none
def stB (o ver i off k : Nat) (v : PV) : Option Obj' → Option Up
  | some x => if x.fro = false ∧ x.ver = ver ∧ x.pu = false ∧ scal v = true then stG o x i off k v x.els[i]? else none
  | none => none
def st (ob : OB) (n : Nat) : PV → PV → Option Up
  | .p o ver i off none, v => if stv v = true ∧ wds (cellsOf v) = n then stX ob o ver i off v (getO ob o) else none
  | .p o ver i off (some k), v => if n = 1 then stB o ver i off k v (getO ob o) else none
  | _, _ => none
def binI (op : BinOp) (k : IntKind) (a b : Int) : Option PV :=
  match op with
  | .add => some (.i k (k.wrap (a + b)))
  | .sub => some (.i k (k.wrap (a - b)))
  | .mul => some (.i k (k.wrap (a * b)))
  | .quo => if b = 0 then none else some (.i k (k.wrap (a.tdiv b)))
  | .rem => if b = 0 then none else some (.i k (a.tmod b))
  | .and => some (.i k (k.wrap (BitVec.ofInt k.bits a &&& BitVec.ofInt k.bits b).toNat))
  | .or => some (.i k (k.wrap (BitVec.ofInt k.bits a ||| BitVec.ofInt k.bits b).toNat))
  | .xor => some (.i k (k.wrap (BitVec.ofInt k.bits a ^^^ BitVec.ofInt k.bits b).toNat))
  | .andNot => some (.i k (k.wrap (BitVec.ofInt k.bits a &&& ~~~BitVec.ofInt k.bits b).toNat))
  | .eql => some (.b (a == b))
  | .neq => some (.b (a != b))
  | .lss => some (.b (decide (a < b)))
  | .leq => some (.b (decide (a ≤ b)))
  | .gtr => some (.b (decide (a > b)))
  | .geq => some (.b (decide (a ≥ b)))
  | _ => none
def shiftI (op : BinOp) (k : IntKind) (a b : Int) : Option PV :=
  if b < 0 then none else
  match op with
  | .shl => some (.i k (k.wrap (a * 2 ^ (min b.toNat k.bits))))
  | .shr => some (.i k (a.fdiv (2 ^ (min b.toNat k.bits))))
  | _ => none
def isShift : BinOp → Bool
  | .shl | .shr => true
  | _ => false
def bi (op : BinOp) : PV → PV → Option PV
  | .i k a, .i k' b => if isShift op then shiftI op k a b else if k = k' then binI op k a b else none
  | .s x, .s y =>
    match op with
    | .eql => some (.b (decide (x = y)))
    | .neq => some (.b (!decide (x = y)))
    | .add => if x.length + y.length ≤ two32 then some (.s (x ++ y)) else none
    | _ => none
  | _, _ => none
def biB (op : BinOp) : PV → PV → Option PV
  | .b x, .b y =>
    match op with
    | .eql => some (.b (x == y))
    | .neq => some (.b (!(x == y)))
    | _ => none
  | _, _ => none
def eqI : PV → PV → Option Bool
  | .i k a, .i k' c => if k = k' then some (a == c) else none
  | _, _ => none
def eqIs : List PV → List PV → Option Bool
  | [], [] => some true
  | x :: r, y :: s => match eqI x y, eqIs r s with
    | some a, some b => some (a && b)
    | _, _ => none
  | _, _ => none
def eAr (neg : Bool) (n : Nat) : PV → PV → Option PV
  | .agg [.blob m xs], .agg [.blob m' ys] => if m = n ∧ m' = n then (eqIs xs ys).map fun x => .b (x ^^ neg) else none
  | _, _ => none
inductive Sh where
  | i
  | b
  | a (n : Nat)
def andR (p : Bool) : Option Bool → Option Bool
  | some q => some (p && q)
  | none => none
def andRR : Option Bool → Option Bool → Option Bool
  | some p, q => andR p q
  | none, _ => none
def eqS1 : Sh → PV → PV → Option Bool
  | .i, .i k p, .i k' q => if k = k' then some (p == q) else none
  | .b, .b p, .b q => some (p == q)
  | .a n, .blob m p, .blob m' q => if m = n ∧ m' = n then eqIs p q else none
  | _, _, _ => none
def eqSh : List Sh → List PV → List PV → Option Bool
  | [], [], [] => some true
  | s :: r, v :: x, u :: y => andRR (eqS1 s v u) (eqSh r x y)
  | _, _, _ => none
def notR (neg : Bool) : Option Bool → Option PV
  | some p => some (.b (p ^^ neg))
  | none => none
def eSt (neg : Bool) (sh : List Sh) : PV → PV → Option PV
  | .agg xs, .agg ys => notR neg (eqSh sh xs ys)
  | _, _ => none
def eNX (neg : Bool) (ver lo n : Nat) : Option Obj' → Option PV
  | some x => if x.ver = ver ∧ 0 < n ∧ lo + n ≤ x.els.length then some (.b neg) else none
  | none => none
def eNl (neg : Bool) : List (List PV) → PV
  | [] => .ub
  | _ :: _ => .b neg
def eNs (neg : Bool) (ob : OB) : PV → Option PV
  | .ln .. => some (.b neg)
  | .l _ xs => some (eNl neg xs)
  | .e x => some (.b (x ^^ neg))
  | .sl o ver lo n => eNX neg ver lo n (getO ob o)
  | _ => none
def eNp (neg : Bool) : PV → Option PV
  | .np => some (.b (!neg))
  | .p .. | .q .. => some (.b neg)
  | _ => none
def eNf (neg : Bool) : PV → Option PV
  | .fn .. => some (.b neg)
  | .nf => some (.b (!neg))
  | _ => none
def uO (op : UnOp) : PV → Option PV
  | .i k n => match op with
    | .neg => some (.i k (k.wrap (0 - n)))
    | .xor => binI .xor k (if k.signed then -1 else k.max) n
    | _ => none
  | .b x => match op with
    | .not => some (.b (!x))
    | _ => none
  | .y o n 2 => match op with
    | .not => some (.y o n 3)
    | _ => none
  | _ => none
def cv (k : IntKind) : PV → Option PV
  | .i _ n => some (.i k (k.wrap n))
  | _ => none
def pk (c a b : PV) : Option PV :=
  match c with
  | .b x => if x = true then some a else some b
  | _ => none
def ext (k : Nat) : PV → Option PV
  | .tup vs => vs[k]?
  | _ => none
def mnI : PV → PV → Option PV
  | .i k x, .i k' y => if k = k' then some (.i k (if y < x then y else x)) else none
  | _, _ => none
def mxI : PV → PV → Option PV
  | .i k x, .i k' y => if k = k' then some (.i k (if y > x then y else x)) else none
  | _, _ => none
def natI : PV → Option Int
  | .i _ n => some n
  | _ => none
def optI : Option PV → Int → Option Int
  | none, d => some d
  | some v, _ => natI v
def slL (g : Bool) (xs : List (List PV)) : Option Int → Option Int → Option Int → Option Up
  | some l, some h, some m => if 0 ≤ l ∧ l ≤ h ∧ h ≤ m ∧ m ≤ xs.length then some (.l g ((xs.take h.toNat).drop l.toNat), []) else none
  | _, _, _ => none
def slE (b : Bool) : Option Int → Option Int → Option Int → Option Up
  | some l, some h, some m => if 0 ≤ l ∧ l ≤ h ∧ h ≤ m ∧ m ≤ 0 then some (.e b, []) else none
  | _, _, _ => none
def slO (o ver lo' w : Nat) : Option Obj' → Option Int → Option Int → Option (Option Int) → Option Up
  | some y, some l, some h, none => if y.ver = ver ∧ y.w = w ∧ 0 ≤ l ∧ l ≤ h ∧ lo' + h ≤ y.els.length then some (.sl o ver (lo' + l.toNat) (h.toNat - l.toNat), []) else none
  | some y, some l, some h, some (some m) => if y.ver = ver ∧ y.w = w ∧ 0 ≤ l ∧ l ≤ h ∧ y.pu = true ∧ h ≤ m ∧ lo' + m ≤ y.els.length then some (.l y.g (((y.els.drop lo').take h.toNat).drop l.toNat), [(o, { y with fro := true })]) else none
  | _, _, _, _ => none
def slB (o off lo' n : Nat) : Option Int → Option Int → Option Up
  | some l, some h => if 0 ≤ l ∧ l ≤ h ∧ h ≤ n then some (.bs o off (lo' + l.toNat) (h.toNat - l.toNat), []) else none
  | _, _ => none
def slS (z : List UInt8) : Option Int → Option Int → Option Up
  | some l, some h => if 0 ≤ l ∧ l ≤ h ∧ h ≤ z.length then some (.s ((z.take h.toNat).drop l.toNat), []) else none
  | _, _ => none
inductive SK where
  | arr (n : Nat)
  | slice (w : Nat)
  | str
def slc (ob : OB) (k : SK) (x : PV) (lo hi mx : Option PV) : Option Up :=
  match k, x, mx with
  | .slice w, .l g xs, _ => if allW w xs = true then slL g xs (optI lo 0) (optI hi xs.length) (optI mx xs.length) else none
  | .slice w, .ln g xs, _ => if allW w xs = true then slL g xs (optI lo 0) (optI hi xs.length) (optI mx xs.length) else none
  | .slice _, .e b, _ => slE b (optI lo 0) (optI hi 0) (optI mx 0)
  | .slice w, .sl o ver lo' n, _ => slO o ver lo' w (getO ob o) (optI lo 0) (optI hi n) (mx.map natI)
  | .slice w, .bs o off lo' n, none => if w = 1 then slB o off lo' n (optI lo 0) (optI hi n) else none
  | .str, .s z, none => slS z (optI lo 0) (optI hi z.length)
  | .arr n, .p o 0 0 off none, none => slB o off 0 n (optI lo 0) (optI hi n)
  | _, _, _ => none
def elQ (g : Bool) (w : Nat) : Option (List PV) → Option PV
  | some el => if wds el = w then some (.q g el none) else none
  | none => none
def xSO (o ver lo n w : Nat) (i : Int) : Option Obj' → Option PV
  | some y => if y.ver = ver ∧ y.w = w ∧ 0 ≤ i ∧ i < n ∧ lo + n ≤ y.els.length then some (.p o ver (lo + i.toNat) 0 none) else none
  | none => none
def xS (ob : OB) (w : Nat) : PV → PV → Option PV
  | .l g xs, .i _ i => if 0 ≤ i then elQ g w xs[i.toNat]? else none
  | .ln g xs, .i _ i => if 0 ≤ i then elQ g w xs[i.toNat]? else none
  | .sl o ver lo n, .i _ i => xSO o ver lo n w i (getO ob o)
  | .bs o off lo n, .i _ i => if w = 1 ∧ 0 ≤ i ∧ i < n then some (.p o 0 0 off (some (lo + i.toNat))) else none
  | _, _ => none
def xA (n : Nat) : PV → PV → Option PV
  | .p o ver j off none, .i _ i => if 0 ≤ i ∧ i < n then some (.p o ver j off (some i.toNat)) else none
  | .q g (.blob m xs :: r) none, .i _ i => if 0 ≤ i ∧ i < n ∧ m = n then some (.q g (.blob m xs :: r) (some i.toNat)) else none
  | _, _ => none
def xV (n w : Nat) (ag : Bool) : PV → PV → Option PV
  | .agg [.blob m xs], .i _ i => if 0 ≤ i ∧ i < n ∧ m = n * w then (if ag = false then (if w = 1 then xs[i.toNat]? else none) else some (.agg [.blob w ((xs.drop (i.toNat * w)).take w)])) else none
  | _, _ => none
def chO : Option UInt8 → Option PV
  | some c => some (.i .u8 c.toNat)
  | none => none
def xVs : PV → PV → Option PV
  | .s z, .i _ i => if 0 ≤ i then chO z[i.toNat]? else none
  | _, _ => none
def qO (g : Bool) : Option (List PV) → Option PV
  | some r => some (.q g r none)
  | none => none
def fA (off : Nat) : PV → Option PV
  | .p o ver i off' none => some (.p o ver i (off' + off) none)
  | .q g xs none => qO g (dropW xs off)
  | _ => none
def fV (off n : Nat) (ag : Bool) : PV → Option PV
  | .agg cs => if ag then aggO (takeO (dropW cs off) n) else if n = 1 then hd1 (dropW cs off) else none
  | _ => none
def len : PV → Option PV
  | .l _ xs => some (.i .i64 xs.length)
  | .ln _ xs => some (.i .i64 xs.length)
  | .e _ => some (.i .i64 0)
  | .sl _ _ _ n => some (.i .i64 n)
  | .bs _ _ _ n => some (.i .i64 n)
  | _ => none
def lenS : PV → Option PV
  | .s x => some (.i .i64 x.length)
  | _ => none
def capI : Option Nat → Nat → Option PV
  | some c, lo => some (.i .i64 ((c : Int) - lo))
  | none, _ => none
def cpO (ver lo : Nat) : Option Obj' → Option PV
  | some y => if y.ver = ver then capI y.cap lo else none
  | none => none
def cp (ob : OB) : PV → Option PV
  | .e _ => some (.i .i64 0)
  | .sl o ver lo _ => cpO ver lo (getO ob o)
  | _ => none
def unC (n : Int) : Option (List UInt8) → Option (List UInt8)
  | some t => some (UInt8.ofNat n.toNat :: t)
  | none => none
def unB : List (List PV) → Option (List UInt8)
  | [] => some []
  | [.i .u8 n] :: r => unC n (unB r)
  | _ => none
def strO : Option (List UInt8) → Option PV
  | some t => some (.s t)
  | none => none
def b2sC : Option (Bool × List (List PV)) → Option PV
  | some r => strO (unB r.2)
  | none => none
def b2s (ob : OB) (x : PV) : Option PV := b2sC (contL ob x)
def newX (d : Nat) (x : Obj') (v : PV) : Option Obj' → Option Up
  | none => some (v, [(d, x)])
  | some _ => none
def boxO (z : List PV) : Obj' := { els := [z], w := wds z, pu := false, g := true, cap := none, ver := 0, fro := false }
def al (ob : OB) (d : Nat) (z : List PV) : Option Up := newX d (boxO z) (.p d 0 0 0 none) (getO ob d)
def bx (ob : OB) (d : Nat) (v : PV) : Option Up := if stv v = true then al ob d (cellsOf v) else none
def row (xs : List (List PV)) (w : Nat) (g : Bool) : Obj' := { els := xs, w := w, pu := true, g := g, cap := none, ver := 0, fro := false }
def isPure : PV → Bool
  | .l _ _ | .b _ | .i _ _ | .s _ | .blob _ _ => true
  | _ => false
def isPures : List PV → Bool
  | [] => true
  | v :: r => isPure v && isPures r
def zp : PV → PV
  | .e _ => .l true []
  | v => v
def zps : List PV → List PV
  | [] => []
  | v :: r => zp v :: zps r
def mkX (o ver lo n : Nat) : Option Obj' → Option Up
  | some x => if x.ver = ver ∧ x.pu = true ∧ x.fro = false ∧ lo = 0 ∧ 0 < n ∧ n ≤ x.els.length then some (.sl o ver lo n, [(o, x)]) else none
  | none => none
def mkS (ob : OB) : PV → Option Up
  | .sl o ver lo n => mkX o ver lo n (getO ob o)
  | _ => none
def apO (o ver lo n w : Nat) (gy : Bool) (ys : List (List PV)) : Option Obj' → Option Up
  | some y =>
    if y.ver = ver ∧ y.w = w ∧ y.pu = true ∧ y.fro = false ∧ lo = 0 ∧ n ≤ y.els.length ∧ n + ys.length ≤ two32 ∧ allW w ys = true then
      if n + ys.length ≤ y.els.length then
        some (.sl o ver 0 (n + ys.length), [(o, { y with els := y.els.take n ++ (ys ++ y.els.drop (n + ys.length)), g := y.g && (gy || flatEls ys) })])
      else some (.sl o (ver + 1) 0 (n + ys.length), [(o, { els := y.els.take n ++ ys, w := w, pu := true, g := y.g && (gy || flatEls ys), cap := none, ver := ver + 1, fro := false })])
    else none
  | none => none
def apE (ob : OB) (d w : Nat) (gy : Bool) (ys : List (List PV)) : PV → Option Up
  | .e _ => if ys.length ≤ two32 ∧ allW w ys = true then newX d (row ys w (gy || flatEls ys)) (.sl d 0 0 ys.length) (getO ob d) else none
  | .sl o ver lo n => apO o ver lo n w gy ys (getO ob o)
  | _ => none
def apC (ob : OB) (d w : Nat) (x : PV) : Option (Bool × List (List PV)) → Option Up
  | some r => apE ob d w r.1 r.2 x
  | none => none
def ap (ob : OB) (d w : Nat) (x y : PV) : Option Up := apC ob d w x (cont ob y)
def apz (ob : OB) (d : Nat) (z : List PV) (x : PV) : PV → Option Up
  | .i _ k => if 0 ≤ k ∧ k ≤ two32 ∧ isPures (zps z) = true then apE ob d (wds z) true (List.replicate k.toNat (zps z)) x else none
  | _ => none
def mks (ob : OB) (d : Nat) (z : List PV) : PV → Option Up
  | .i _ k => if 0 ≤ k ∧ k ≤ two32 ∧ isPures (zps z) = true then newX d { els := List.replicate k.toNat (zps z), w := wds z, pu := true, g := true, cap := some k.toNat, ver := 0, fro := false } (.sl d 0 0 k.toNat) (getO ob d) else none
  | _ => none
def s2b (ob : OB) (d : Nat) : PV → Option Up
  | .s z => newX d (row (z.map fun c => [.i .u8 c.toNat]) 1 true) (.sl d 0 0 z.length) (getO ob d)
  | _ => none
def contNX : Option Obj' → Nat → Nat → Nat → Option (List (List PV))
  | some x, ver, lo, n => if x.pu = false ∧ x.ver = ver ∧ lo + n ≤ x.els.length then some ((x.els.drop lo).take n) else none
  | none, _, _, _ => none
def contN (ob : OB) : PV → Option (List (List PV))
  | .sl o ver lo n => contNX (getO ob o) ver lo n
  | _ => none
def rowN (xs : List (List PV)) (w : Nat) : Obj' := { els := xs, w := w, pu := false, g := true, cap := none, ver := 0, fro := false }
def capLt (k : Nat) : Option Nat → Bool
  | some c => decide (c < k)
  | none => false
def noRoom (ver k : Nat) : Option Obj' → Bool
  | some x => x.ver == ver && capLt k x.cap
  | none => false
def apNE (ob : OB) (d w : Nat) (ys : List (List PV)) : PV → Option Up
  | .e _ => if 0 < ys.length ∧ ys.length ≤ two32 ∧ allW w ys = true then newX d (rowN ys w) (.sl d 0 0 ys.length) (getO ob d) else none
  | .sl o ver lo n => if (lo = 0 ∧ n = 0 ∧ noRoom ver ys.length (getO ob o) = true) ∧ 0 < ys.length ∧ ys.length ≤ two32 ∧ allW w ys = true then newX d (rowN ys w) (.sl d 0 0 ys.length) (getO ob d) else none
  | _ => none
def apNC (ob : OB) (d w : Nat) (x : PV) : Option (List (List PV)) → Option Up
  | some ys => apNE ob d w ys x
  | none => none
def apN (ob : OB) (d w : Nat) (x y : PV) : Option Up := apNC ob d w x (contN ob y)
def apzN (ob : OB) (d : Nat) (z : List PV) (x : PV) : PV → Option Up
  | .i _ k => if 0 ≤ k ∧ k ≤ two32 then apNE ob d (wds z) (List.replicate k.toNat z) x else none
  | _ => none
def cpNO (o ver lo n w : Nat) (ys : List (List PV)) : Option Obj' → Option Up
  | some y =>
    if y.ver = ver ∧ y.w = w ∧ y.pu = false ∧ y.fro = false ∧ lo + n ≤ y.els.length ∧ allW w ys = true then
      some (.i .i64 (min ys.length n : Nat), [(o, { y with els := y.els.take lo ++ (ys.take (min ys.length n) ++ y.els.drop (lo + min ys.length n)) })])
    else none
  | none => none
def cpNX (ob : OB) (w : Nat) (ys : List (List PV)) : PV → Option Up
  | .sl o ver lo n => cpNO o ver lo n w ys (getO ob o)
  | _ => none
def cpNC (ob : OB) (w : Nat) (x : PV) : Option (List (List PV)) → Option Up
  | some ys => cpNX ob w ys x
  | none => none
def cpN (ob : OB) (w : Nat) (x y : PV) : Option Up := cpNC ob w x (contN ob y)
def cpyO (o ver lo n w : Nat) (gy : Bool) (ys : List (List PV)) : Option Obj' → Option Up
  | some y =>
    if y.ver = ver ∧ y.w = w ∧ y.pu = true ∧ y.fro = false ∧ lo + n ≤ y.els.length ∧ allW w ys = true then
      some (.i .i64 (min ys.length n : Nat), [(o, { y with els := y.els.take lo ++ (ys.take (min ys.length n) ++ y.els.drop (lo + min ys.length n)), g := y.g && (gy || flatEls ys) })])
    else none
  | none => none
def scalEls : List (List PV) → Bool
  | [] => true
  | [v] :: r => scal v && scalEls r
  | _ => false
def cpyD (o lo n : Nat) (ys : List (List PV)) (y : Obj') : Option (List PV) → Option (List PV) → Option Up
  | some (.blob m xs :: c), some a =>
    if lo + n ≤ xs.length then
      some (.i .i64 (min ys.length n : Nat), [(o, { y with els := [a ++ (.blob m (xs.take lo ++ ((ys.take (min ys.length n)).flatten ++ xs.drop (lo + min ys.length n))) :: c)] })])
    else none
  | _, _ => none
def cpyE (o off lo n : Nat) (ys : List (List PV)) (y : Obj') : List (List PV) → Option Up
  | [el] => cpyD o lo n ys y (dropW el off) (takeW el off)
  | _ => none
def cpyB (o off lo n : Nat) (ys : List (List PV)) : Option Obj' → Option Up
  | some y => if y.ver = 0 ∧ y.fro = false ∧ y.pu = false ∧ scalEls ys = true then cpyE o off lo n ys y y.els else none
  | none => none
def cpX (ob : OB) (w : Nat) (gy : Bool) (ys : List (List PV)) : PV → Option Up
  | .e _ => some (.i .i64 0, [])
  | .sl o ver lo n => cpyO o ver lo n w gy ys (getO ob o)
  | .bs o off lo n => if w = 1 then cpyB o off lo n ys (getO ob o) else none
  | _ => none
def cpC (ob : OB) (w : Nat) (x : PV) : Option (Bool × List (List PV)) → Option Up
  | some r => cpX ob w r.1 r.2 x
  | none => none
def cpy (ob : OB) (w : Nat) (x y : PV) : Option Up := cpC ob w x (cont ob y)
def mapO (k : IntKind) : Obj' := { els := [], w := 0, pu := false, g := true, cap := none, ver := 0, fro := false, mp := some (k, []) }
def mkm (ob : OB) (d : Nat) (k : IntKind) : Option Up := newX d (mapO k) (.m d) (getO ob d)
def valV : PV → Bool
  | .i _ _ => true
  | .fn _ [] [] => true
  | _ => false
def mset (n : Int) (v : PV) : List (Int × PV) → List (Int × PV)
  | [] => [(n, v)]
  | (m, u) :: r => if n = m then (m, v) :: r else (m, u) :: mset n v r
def mget (n : Int) : List (Int × PV) → Option PV
  | [] => none
  | (m, u) :: r => if n = m then some u else mget n r
def mpuX (o : Nat) (k : IntKind) (n : Int) (v : PV) : Option Obj' → Option Up
  | some x => match mpo x with
    | some (k', l) => if k' = k ∧ x.fro = false ∧ x.ver = 0 then some (.tup [], [(o, { x with mp := some (k', mset n v l) })]) else none
    | none => none
  | none => none
def mpu (ob : OB) (k : IntKind) : PV → PV → PV → Option Up
  | .m o, .i k' n, v => if k' = k ∧ valV v = true then mpuX o k n v (getO ob o) else none
  | _, _, _ => none
def mplV (z : List PV) : Option PV → Option PV
  | some v => some v
  | none => hd1 (some z)
def mplX (n : Int) (k : IntKind) (z : List PV) : Option Obj' → Option PV
  | some x => match mpo x with
    | some (k', l) => if k' = k ∧ x.ver = 0 then mplV z (mget n l) else none
    | none => none
  | none => none
def mpl (ob : OB) (k : IntKind) (z : List PV) : PV → PV → Option PV
  | .m o, .i k' n => if k' = k then mplX n k z (getO ob o) else none
  | _, _ => none
def mpcX (o : Nat) : Option Obj' → Option Up
  | some x => match mpo x with
    | some (k, _) => if x.fro = false ∧ x.ver = 0 then some (.tup [], [(o, { x with mp := some (k, []) })]) else none
    | none => none
  | none => none
def mpc (ob : OB) : PV → Option Up
  | .m o => mpcX o (getO ob o)
  | _ => none
def putB1 (off : Nat) : List PV → List PV → Option (List PV)
  | [.blob m xs], [v] => if off < xs.length ∧ scal v = true then some [.blob m (xs.set off v)] else none
  | _, _ => none
def putB (z : List PV) (off : Nat) (new : List PV) : Option (List PV) :=
  match putW z off new with
  | some z' => some z'
  | none => putB1 off z new
def bldC : Option (List PV) → List (Nat × Nat × PV) → Option (List PV)
  | some z, [] => some z
  | some z, (off, n, v) :: r => if stv v = true ∧ wds (cellsOf v) = n then bldC (putB z off (cellsOf v)) r else none
  | none, _ => none
def bld (z : List PV) (ps : List (Nat × Nat × PV)) : Option PV := aggO (bldC (some z) ps)
def isPureEls : List (List PV) → Bool
  | [] => true
  | x :: r => isPures x && isPureEls r
mutual
def noExt : PV → Bool
  | .l g _ => g
  | .ln g _ => g
  | .q g _ _ => g
  | .fn _ fs cs => noExts fs && noExts cs
  | .ifc _ v => noExt v
  | .pan v => noExt v
  | .agg cs => noExts cs
  | .tup cs => noExts cs
  | _ => true
def noExts : List PV → Bool
  | [] => true
  | v :: r => noExt v && noExts r
end
def noExtEls : List (List PV) → Bool
  | [] => true
  | x :: r => noExts x && noExtEls r
def noExtO (x : Obj') : Bool := if x.pu then x.g else noExtEls x.els
def cellsL : List PV → List (List PV)
  | [] => []
  | v :: r => cellsOf v :: cellsL r
def bldS (ob : OB) (d w : Nat) : List PV → Option Up
  | [] => some (.e false, [])
  | v :: r => if stvs (v :: r) = true ∧ allW w (cellsL (v :: r)) = true then newX d { els := cellsL (v :: r), w := w, pu := isPureEls (cellsL (v :: r)), g := noExtEls (cellsL (v :: r)) || !isPureEls (cellsL (v :: r)), cap := some (v :: r).length, ver := 0, fro := false } (.sl d 0 0 (v :: r).length) (getO ob d) else none
def purC : Option (List PV × Bool × OB) → Option (List (List PV) × Bool × OB) → Option (List (List PV) × Bool × OB)
  | some a, some b => some (a.1 :: b.1, a.2.1 && b.2.1, a.2.2 ++ b.2.2)
  | _, _ => none
def purEls (ob : OB) : List (List PV) → Option (List (List PV) × Bool × OB)
  | [] => some ([], true, [])
  | x :: r => purC (puris ob x) (purEls ob r)
def bldQ (ob : OB) (v : PV) (k : Nat) (x : Obj') : Option (List (List PV) × Bool × OB) → Option Up
  | some r => if (r.2.2.any (fun y => y.1 == k) || (mpo x).isSome) = true then none else some (v, (k, { x with els := r.1, pu := true, g := r.2.1 }) :: (r.2.2 ++ [(k, x)]))
  | none => none
def bldU (ob : OB) : Option Up → Option Up
  | some (v, [(k, x)]) => if x.pu = true ∨ x.fro = true then some (v, [(k, x)]) else bldQ ob v k x (purEls ((k, x) :: ob) x.els)
  | r => r
def bldP (ob : OB) (d w : Nat) (l : List PV) : Option Up := bldU ob (bldS ob d w l)
def reify0 (ob : OB) : PV → Option (PV × List Nat)
  | .l _ xs => some (.l false xs, [])
  | .ln _ xs => some (.l false xs, [])
  | .e _ => some (.l false [], [])
  | .sl o ver lo n => (contX (getO ob o) ver lo n).map fun r => (.l false r.2, [o])
  | .bs o off lo n => (contL ob (.bs o off lo n)).map fun r => (.l false r.2, [o])
  | v => some (v, [])
def reifyL (ob : OB) : List PV → Option (List PV × List Nat)
  | [] => some ([], [])
  | v :: r => match reify0 ob v, reifyL ob r with
    | some a, some b => some (a.1 :: b.1, a.2 ++ b.2)
    | _, _ => none
def reifyEls (ob : OB) : List (List PV) → Option (List (List PV) × List Nat)
  | [] => some ([], [])
  | v :: r => match reifyL ob v, reifyEls ob r with
    | some a, some b => some (a.1 :: b.1, a.2 ++ b.2)
    | _, _ => none
def reify (ob : OB) : PV → Option (PV × List Nat)
  | .agg cs => (reifyL ob cs).map fun r => (.agg r.1, r.2)
  | .sl o ver lo n =>
    match getO ob o with
    | some x =>
      if x.pu then reify0 ob (.sl o ver lo n)
      else if x.ver = ver ∧ lo + n ≤ x.els.length then (reifyEls ob ((x.els.drop lo).take n)).bind fun r => if isPureEls r.1 then some (.l false r.1, o :: r.2) else none
      else none
    | none => none
  | v => reify0 ob v
def reifies (ob : OB) : List PV → Option (List PV × List Nat)
  | [] => some ([], [])
  | v :: r => match reify ob v, reifies ob r with
    | some a, some b => some (a.1 :: b.1, a.2 ++ b.2)
    | _, _ => none
mutual
def refs : PV → List Nat
  | .p o _ _ _ _ => [o]
  | .sl o _ _ _ => [o]
  | .bs o _ _ _ => [o]
  | .y o _ _ => [o]
  | .m o => [o]
  | .ifc _ v => refs v
  | .pan v => refs v
  | .fn _ fs cs => refsL fs ++ refsL cs
  | .agg cs => refsL cs
  | .tup cs => refsL cs
  | _ => []
def refsL : List PV → List Nat
  | [] => []
  | v :: r => refs v ++ refsL r
end
def refsEls : List (List PV) → List Nat
  | [] => []
  | x :: r => refsL x ++ refsEls r
def refsO (x : Obj') : List Nat := if x.pu then [] else refsEls x.els
mutual
def ren (f : Nat → Nat) : PV → PV
  | .p o ver i off bi => .p (f o) ver i off bi
  | .sl o v lo n => .sl (f o) v lo n
  | .bs o off lo n => .bs (f o) off lo n
  | .y o n m => .y (f o) n m
  | .m o => .m (f o)
  | .ifc t v => .ifc t (ren f v)
  | .pan v => .pan (ren f v)
  | .fn k fs cs => .fn k (renL f fs) (renL f cs)
  | .agg cs => .agg (renL f cs)
  | .tup cs => .tup (renL f cs)
  | v => v
def renL (f : Nat → Nat) : List PV → List PV
  | [] => []
  | v :: r => ren f v :: renL f r
end
def renEls (f : Nat → Nat) : List (List PV) → List (List PV)
  | [] => []
  | x :: r => renL f x :: renEls f r
def renO (f : Nat → Nat) (x : Obj') : Obj' := if x.pu then x else { x with els := renEls f x.els }
def reach (ob : OB) : Nat → List Nat → List Nat → Option (List Nat)
  | _, [], acc => some acc
  | 0, _ :: _, _ => none
  | k + 1, o :: todo, acc =>
    if acc.contains o then reach ob k todo acc
    else match getO ob o with
      | some x => reach ob k (todo ++ refsO x) (acc ++ [o])
      | none => none
def idx : List Nat → Nat → Nat
  | [], _ => 0
  | x :: r, o => if x = o then 0 else idx r o + 1
def nth : List Nat → Nat → Nat
  | [], _ => 0
  | x :: _, 0 => x
  | _ :: r, n + 1 => nth r n
def getOs (ob : OB) : List Nat → Option (List Obj')
  | [] => some []
  | o :: r => match getO ob o, getOs ob r with
    | some x, some y => some (x :: y)
    | _, _ => none
def putOs (f : Nat → Nat) : List Nat → List Obj' → Option (OB × List Obj')
  | [], l => some ([], l)
  | o :: r, x :: s => (putOs f r s).map fun y => ((o, renO f x) :: y.1, y.2)
  | _, _ => none
def newOs (ob : OB) (f : Nat → Nat) (d : Nat) : List Obj' → Option OB
  | [] => some []
  | x :: s => match getO ob d, newOs ob f (d + 1) s with
    | none, some r => some ((d, renO f x) :: r)
    | _, _ => none
def frz (ob : OB) : List Nat → Option OB
  | [] => some []
  | o :: r => match getO ob o, frz ob r with
    | some x, some y => if x.pu then some ((o, { x with fro := true }) :: y) else none
    | _, _ => none
abbrev R := PV × List Obj'
abbrev Sem' := Nat → List PV → List Obj' → Option R
def back (ob : OB) (d : Nat) (bor ids : List Nat) (r : PV) (out : List Obj') : Option Up :=
  let f' := fun k => if k < ids.length then nth ids k else d + (k - ids.length)
  match putOs f' ids out with
  | none => none
  | some (u, rest) =>
    if 8 < rest.length then none else
    match newOs ob f' d rest with
    | none => none
    | some w =>
      if bor.isEmpty || (noExt r && out.all noExtO) then some (ren f' r, w ++ u)
      else (frz ob bor).map fun z => (ren f' r, (w ++ u) ++ z)
def back0 (ob : OB) (d : Nat) (bor : List Nat) (r : PV) : List Obj' → Option Up
  | [] => if bor.isEmpty || noExt r then some (ren (d + ·) r, [])
          else (frz ob bor).map fun z => (ren (d + ·) r, z)
  | out => if 8 < out.length then none else
    match newOs ob (d + ·) d out with
    | none => none
    | some w =>
      if bor.isEmpty || (noExt r && out.all noExtO) then some (ren (d + ·) r, w)
      else (frz ob bor).map fun z => (ren (d + ·) r, w ++ z)
def hand (ob : OB) (raw : Bool) (args : List PV) : Option (List PV × List Nat) := if raw then some (args, []) else reifies ob args
def ca (Φ : Sem') (ob : OB) (d : Nat) (raw : Bool) (f : Nat) (args : List PV) : Option Up :=
  match hand ob raw args with
  | none => none
  | some (as, bor) =>
    match reach ob 20 (refsL as) [] with
    | none => none
    | some [] =>
      match Φ f as [] with
      | none => none
      | some (r, out) => back0 ob d bor r out
    | some ids =>
      if ids.any (bor.contains ·) then none else
      match getOs ob ids with
      | none => none
      | some os =>
        match Φ f (renL (idx ids) as) (os.map (renO (idx ids))) with
        | none => none
        | some (r, out) => back ob d bor ids r out
def reify1 (ob : OB) : PV → Option (PV × List Nat)
  | .agg cs => (reifyL ob cs).map fun r => (.agg r.1, r.2)
  | v => reify0 ob v
def reifies1 (ob : OB) : List PV → Option (List PV × List Nat)
  | [] => some ([], [])
  | v :: r => match reify1 ob v, reifies1 ob r with
    | some a, some b => some (a.1 :: b.1, a.2 ++ b.2)
    | _, _ => none
def reifiesN (n : Bool) (ob : OB) (l : List PV) : Option (List PV × List Nat) := if n = true then reifies ob l else reifies1 ob l
def ca0R (ob : OB) (d : Nat) (bor : List Nat) : Option R → Option Up
  | some r => back0 ob d bor r.1 r.2
  | none => none
def ca0X (Φ : Sem') (ob : OB) (d f : Nat) : Option (List PV × List Nat) → Option Up
  | some x => if refsL x.1 = [] then ca0R ob d x.2 (Φ f x.1 []) else none
  | none => none
def ca0 (Φ : Sem') (ob : OB) (d : Nat) (n : Bool) (f : Nat) (args : List PV) : Option Up := ca0X Φ ob d f (reifiesN n ob args)
def cav (Φ : Sem') (ob : OB) (d : Nat) (raw : Bool) (f : PV) (args : List PV) : Option Up :=
  match f with
  | .fn k fs caps => ca Φ ob d raw k (fs ++ (args ++ caps))
  | _ => none
open Classical in
noncomputable def crX (ob : OB) : Option Up → Option Up
  | some r => if (∀ k, getO (r.2 ++ ob) k = getO ob k) ∧ refs r.1 = [] then some (r.1, []) else none
  | none => none
noncomputable def cr (Φ : Sem') (ob : OB) (d : Nat) (raw : Bool) (f : Nat) (args : List PV) : Option Up := crX ob (ca Φ ob d raw f args)
noncomputable def crv (Φ : Sem') (ob : OB) (d : Nat) (raw : Bool) (f : PV) (args : List PV) : Option Up :=
  match f with
  | .fn k fs caps => cr Φ ob d raw k (fs ++ (args ++ caps))
  | _ => none
def nc : PV → Option PV
  | .p o ver i off bi => some (.p o ver i off bi)
  | .q g xs bi => some (.q g xs bi)
  | .fn f fs cs => some (.fn f fs cs)
  | _ => none
def dis (as bs : List PV) : Option Unit := if (refsL as).any ((refsL bs).contains ·) then none else some ()
def gd (g : PV) (w : Bool) (x : Option PV) : Option PV :=
  match g with
  | .b c => if c = w then x else some (.tup [])
  | .tup [] => some (.tup [])
  | _ => none
def gdO (g : PV) (w : Bool) (x : Option Up) : Option Up :=
  match g with
  | .b c => if c = w then x else some (.tup [], [])
  | .tup [] => some (.tup [], [])
  | _ => none
def eqV : PV → PV → Bool
  | .b x, .b y => x == y
  | .i k n, .i k' m => decide (k = k') && decide (n = m)
  | .s x, .s y => decide (x = y)
  | .e x, .e y => x == y
  | .sl a b c d, .sl a' b' c' d' => a == a' && b == b' && c == c' && d == d'
  | .np, .np => true
  | .nf, .nf => true
  | _, _ => false
def eqVs : List PV → List PV → Bool
  | [], [] => true
  | x :: r, y :: s => eqV x y && eqVs r s
  | _, _ => false
def eqEls : List (List PV) → List (List PV) → Bool
  | [], [] => true
  | x :: r, y :: s => eqVs x y && eqEls r s
  | _, _ => false
def eqO (x y : Obj') : Bool := eqEls x.els y.els && x.w == y.w && x.pu == y.pu && x.g == y.g && decide (x.cap = y.cap) && x.ver == y.ver && x.fro == y.fro && x.mp.isNone && y.mp.isNone
def eqOs : List Obj' → List Obj' → Bool
  | [], [] => true
  | x :: r, y :: s => eqO x y && eqOs r s
  | _, _ => false
def agree : Option (PV × List Obj') → Option (PV × List Obj') → Option (PV × List Obj')
  | some x, some y => if (eqV x.1 y.1 && eqOs x.2 y.2) = true then some x else none
  | _, _ => none
def br (c : PV) (a b : Option (PV × List Obj')) : Option (PV × List Obj') :=
  match c with
  | .b x => if x = true then a else b
  | .ub => agree a b
  | _ => none
def toL : PV → Option PV
  | .l _ xs => some (.l false xs)
  | .ln _ xs => some (.l false xs)
  | .e _ => some (.l false [])
  | _ => none
def keepS (sl : SL) : List Nat → SL
  | [] => []
  | t :: r => (t, getS sl t) :: keepS sl r
def keepO (ob : OB) : List Nat → Option OB
  | [] => some []
  | o :: r => match getO ob o, keepO ob r with
    | some x, some y => some ((o, x) :: y)
    | none, some y => some y
    | _, none => none
def cntN (o : Nat) : List Nat → Nat
  | [] => 0
  | x :: r => if x = o then cntN o r + 1 else cntN o r
def refsS : SL → List Nat
  | [] => []
  | x :: r => refs x.2 ++ refsS r
def refsOB : OB → List Nat
  | [] => []
  | x :: r => refsO x.2 ++ refsOB r
inductive NC where
  | row (t o w : Nat)
  | crow (b off o w : Nat)
  | toL (t : Nat)
  | cToL (b off : Nat)
  deriving Inhabited
def setS : SL → Nat → PV → SL
  | [], _, _ => []
  | (k, v) :: r, t, x => if k = t then (k, x) :: r else (k, v) :: setS r t x
def asR (ob : OB) (w : Nat) : PV → Option (Obj' × Nat × List Nat)
  | .e _ => some (row [] w true, 0, [])
  | .sl o' ver lo n => match getO ob o' with
    | some x => if 64 ≤ o' ∧ x.pu = true ∧ x.fro = false ∧ x.ver = ver ∧ x.w = w ∧ lo = 0 ∧ n = x.els.length then some ({ x with ver := 0, cap := none }, n, [o']) else none
    | none => none
  | _ => none
def headC (ob : OB) : List NC → SL → OB → OB → List Nat → Option (SL × OB × OB × List Nat)
  | [], sl, kb, rows, src => some (sl, kb, rows, src)
  | .row t o w :: r, sl, kb, rows, src => match asR ob w (getS sl t) with
    | some (x, n, s) => if 64 ≤ o ∧ getO rows o = none ∧ s.any (fun p => src.contains p || (getO rows p).isSome) = false then headC ob r (setS sl t (.sl o 0 0 n)) kb ((o, x) :: rows) (s ++ src) else none
    | none => none
  | .toL t :: r, sl, kb, rows, src => match toL (getS sl t) with
    | some v => headC ob r (setS sl t v) kb rows src
    | none => none
  | .crow _ _ _ _ :: _, _, _, _, _ => none
  | .cToL _ _ :: _, _, _, _, _ => none
def keysO : OB → List Nat
  | [] => []
  | x :: r => x.1 :: keysO r
def headOK (os src : List Nat) (rows : OB) (all : List Nat) : Bool :=
  src.all (fun o => !os.contains o) && (keysO rows).all (fun o => !os.contains o && cntN o all == 1) &&
  all.all fun o => os.contains o || (keysO rows).contains o
def headF (os : List Nat) : Option (SL × OB × OB × List Nat) → Option (SL × OB)
  | some (sl, kb, rows, src) => if headOK os src rows (refsS sl ++ refsOB kb) then some (sl, rows ++ kb) else none
  | none => none
def head (nc : List NC) (ts os : List Nat) (sl : SL) (ob : OB) : Option (SL × OB) :=
  match keepO ob os with
  | some kb => if (keysO ob).all (fun o => decide (64 ≤ o) || os.contains o) = false then none else headF os (headC ob nc (keepS sl ts) kb [] [])
  | none => none
def delO (ids : List Nat) : OB → OB
  | [] => []
  | x :: r => if ids.contains x.1 = true then delO ids r else x :: delO ids r
def delS (ids : List Nat) : SL → SL
  | [] => []
  | x :: r => (x.1, if (refs x.2).any (ids.contains ·) = true then .un else x.2) :: delS ids r
inductive CC where
  | row (b off o w : Nat)
def sameC (o : Nat) : PV → Option Obj' → Bool
  | .sl o' ver lo n, some x => o' == o && ver == 0 && lo == 0 && x.pu && !x.fro && x.ver == 0 && x.cap.isNone && n == x.els.length && decide (64 ≤ o)
  | _, _ => false
def renE (sl : SL) (ob : OB) (b o : Nat) (xb : Obj') (a c : List PV) : Option (Obj' × Nat × List Nat) → Option (SL × OB)
  | some q => if getO ob o = none ∧ 64 ≤ o ∧ q.2.2.contains b = false ∧ (refsL a ++ refsL c).any (q.2.2.contains ·) = false ∧ (refsOB (delO (b :: q.2.2) ob)).any (q.2.2.contains ·) = false then
      some (delS q.2.2 sl, (o, q.1) :: (b, { xb with els := [a ++ .sl o 0 0 q.2.1 :: c] }) :: delO (b :: q.2.2) ob) else none
  | none => none
def renA (sl : SL) (ob : OB) (b o w : Nat) (xb : Obj') : Option (List PV) → Option (List PV) → Option (SL × OB)
  | some a, some (v :: c) =>
    if sameC o v (getO ob o) = true then some (sl, ob)
    else if wd v = 1 ∧ 64 ≤ o ∧ b ≠ o ∧ (refsOB (delO [o] ob)).any ([o].contains ·) = false then renE (delS [o] sl) (delO [o] ob) b o xb a c (asR (delO [o] ob) w v)
    else none
  | _, _ => none
def renX (sl : SL) (ob : OB) (b off o w : Nat) : Option Obj' → Option (SL × OB)
  | some xb => if xb.pu = false then (match xb.els with
    | [el] => renA sl ob b o w xb (takeW el off) (dropW el off)
    | _ => none) else none
  | none => none
def renC : CC → SL → OB → Option (SL × OB)
  | .row b off o w, sl, ob => renX sl ob b off o w (getO ob b)
def renCs : List CC → SL → OB → Option (SL × OB)
  | [], sl, ob => some (sl, ob)
  | c :: r, sl, ob => bnd (renC c sl ob) fun y => renCs r y.1 y.2
def loopC (F : (SL → OB → Option R) → SL → OB → Option R) : Nat → SL → OB → Option R
  | 0 => fun _ _ => none
  | k + 1 => F (loopC F k)
mutual
def sea (m : Nat) (ob : OB) : PV → Option PV
  | .sl o ver lo n => if m ≤ o then (contX (getO ob o) ver lo n).map fun r => .l r.1 r.2 else some (.sl o ver lo n)
  | .bs o off lo n => if m ≤ o then (contL ob (.bs o off lo n)).map fun r => .l true r.2 else some (.bs o off lo n)
  | .e _ => some (.l true [])
  | .ln g xs => some (.l g xs)
  | .p o ver i off bi => if o < m then some (.p o ver i off bi) else none
  | .y .. => none
  | .m o => if o < m then some (.m o) else none
  | .ifc t v => (sea m ob v).map (.ifc t)
  | .ni => some .ni
  | .nm => some .nm
  | .pan _ => none
  | .fn f fs cs => match seaL m ob fs, seaL m ob cs with
    | some a, some b => some (.fn f a b)
    | _, _ => none
  | .agg cs => (seaL m ob cs).map .agg
  | .tup _ => none
  | .un => none
  | .ub => none
  | .l g xs => some (.l g xs)
  | .b x => some (.b x)
  | .i k n => some (.i k n)
  | .s x => some (.s x)
  | .blob n xs => some (.blob n xs)
  | .q g xs bi => some (.q g xs bi)
  | .np => some .np
  | .nf => some .nf
def seaL (m : Nat) (ob : OB) : List PV → Option (List PV)
  | [] => some []
  | v :: r => match sea m ob v, seaL m ob r with
    | some a, some b => some (a :: b)
    | _, _ => none
end
def seaEls (m : Nat) (ob : OB) : List (List PV) → Option (List (List PV))
  | [] => some []
  | v :: r => match seaL m ob v, seaEls m ob r with
    | some a, some b => some (a :: b)
    | _, _ => none
def handX (all : List Nat) (o ver lo n : Nat) : Option Obj' → Bool
  | some x => x.pu && !x.fro && x.ver == ver && lo == 0 && n ≤ x.els.length && cntN o all == 1
  | none => false
def rowX (n : Nat) : Option Obj' → List Obj'
  | some x => [row (x.els.take n) x.w x.g]
  | none => []
def resO (m : Nat) (ob : OB) (all : List Nat) (nx w : Nat) : PV → Option (PV × List Obj')
  | .e _ => some (.sl nx 0 0 0, [row [] w true])
  | .sl o ver lo n =>
    if o < m then some (.sl o ver lo n, [])
    else if handX all o ver lo n (getO ob o) = true then some (.sl nx 0 0 n, rowX n (getO ob o))
    else (sea m ob (.sl o ver lo n)).map fun v => (v, [])
  | v => (sea m ob v).map fun w => (w, [])
def resOs (m : Nat) (ob : OB) (all : List Nat) (nx : Nat) : List Nat → List PV → Option (List PV × List Obj')
  | _, [] => some ([], [])
  | ws, v :: r => match resO m ob all nx (ws.headD 0) v with
    | some (w, os) => match resOs m ob all (nx + os.length) ws.tail r with
      | some (ws, qs) => some (w :: ws, os ++ qs)
      | none => none
    | none => none
def outX (m : Nat) (ob : OB) : Option Obj' → Option Obj'
  | some x => if x.pu then some x else (seaEls m ob x.els).map fun es => { x with els := es }
  | none => none
def outOs (m : Nat) (ob : OB) : Nat → Nat → Option (List Obj')
  | _, 0 => some []
  | k, n + 1 => match outX m ob (getO ob k), outOs m ob (k + 1) n with
    | some x, some r => some (x :: r)
    | _, _ => none
def refsX : Option Obj' → List Nat
  | some x => refsO x
  | none => []
def refsOuts (ob : OB) : Nat → Nat → List Nat
  | _, 0 => []
  | k, n + 1 => refsX (getO ob k) ++ refsOuts ob (k + 1) n
def one : List PV → PV
  | [v] => v
  | vs => .tup vs
def fin (ob : OB) (m : Nat) (rw : List Nat) (vs : List PV) : Option R :=
  match resOs m ob (refsL vs ++ refsOuts ob 0 m) m rw vs, outOs m ob 0 m with
  | some (ws, os), some qs => some (one ws, qs ++ os)
  | _, _ => none
def finG (ob : OB) (m : Nat) (vs : List PV) : Option R :=
  match reach ob 20 (List.range m ++ refsL vs) [] with
  | some ids =>
    match getOs ob ids with
    | some os => if ids.take m = List.range m ∧ ids.length ≤ 64 ∧ stvs vs = true then some (one (renL (idx ids) vs), os.map (renO (idx ids))) else none
    | none => none
  | none => none
def tslot : Nat := 1000000
def lpO : Obj' := { els := [], w := 1, pu := true, g := true, cap := none, ver := 0, fro := false }
def okC : PV → Bool
  | .b _ | .i _ _ | .s _ | .blob _ _ => true
  | .l false _ => true
  | _ => false
def okT : PV → Bool
  | .agg cs => cs.all okC
  | v => okC v
def warm (ob : OB) : Bool := (keysO ob).all fun o => match getO ob o with
  | some x => !x.fro
  | none => true
def consR (x : List PV) : Option R → Option R
  | some (.tup [.un, .l g xs], out) => some (.tup [.un, .l g (x :: xs)], out)
  | _ => none
def yOut : Option R → Option R
  | some r => some (r.1, [])
  | none => none
def yGo (ob : OB) (sl : SL) (dst : Option Nat) (n : Nat) (x : Obj') (K : SL → OB → Option R) : Option (List PV × List Nat) → Option R
  | some (as, []) => if as.all okT = true ∧ warm ob = true then
      consR as (K ((match dst with | some t => [(t, .y 1 (n + 1) 2)] | none => []) ++ (tslot, .y 1 (n + 1) 1) :: sl) ((1, { x with ver := n + 1 }) :: ob))
    else none
  | _ => none
def yGet (ob : OB) (sl : SL) (dst : Option Nat) (args : List PV) (K : SL → OB → Option R) : PV → PV → Option Obj' → Option Obj' → Option R
  | .y 0 0 4, .y 1 n 0, some x0, some x => if x0.ver = 0 ∧ x.ver = n then yGo ob sl dst n x K (reifies ob args) else none
  | _, _, _, _ => none
def yK (ob : OB) (sl : SL) (dst : Option Nat) (f : PV) (args : List PV) (K : SL → OB → Option R) : Option R := yGet ob sl dst args K f (getS sl tslot) (getO ob 0) (getO ob 1)
def goStop (G S : Option R) : Option R := match S with
  | some _ => G
  | none => none
def brGo (n : Nat) (A B : SL → OB → Option R) (sl : SL) (ob : OB) : PV → Option Obj' → Option R
  | .y 1 n' 1, some x => if n' = n ∧ x.ver = n then goStop (A ((tslot, .y 1 n 0) :: sl) ob) (B sl ob) else none
  | _, _ => none
def brY (c : PV) (A B : SL → OB → Option R) (sl : SL) (ob : OB) : Option R := match c with
  | .y 1 n 2 => brGo n A B sl ob (getS sl tslot) (getO ob 1)
  | .y 1 n 3 => brGo n B A sl ob (getS sl tslot) (getO ob 1)
  | v => br v (A sl ob) (B sl ob)
def rp : Nat := 1000001
def rq : Nat := 1000002
def rgIt (ids : List Nat) : Option R → Option (List Nat × List (List PV))
  | some (.tup [.un, .l _ xs], []) => some (ids, xs)
  | _ => none
def rgOs (Φ : Sem') (ob : OB) (k : Nat) (cs : List PV) (ids : List Nat) : Option (List Obj') → Option (List Nat × List (List PV))
  | some os => if ids.length ≤ 60 ∧ os.all (fun x => !x.fro) = true ∧ ids.all (fun o => decide (64 ≤ o)) = true ∧ ids.take 2 = [rp, rq] ∧ (refsOB (delO ids ob)).any (ids.contains ·) = false then rgIt ids (Φ k (renL (idx ids) (.y rp 0 4 :: cs)) (os.map (renO (idx ids)))) else none
  | none => none
def rgRun (Φ : Sem') (ob : OB) (k : Nat) (cs : List PV) : Option (List Nat) → Option (List Nat × List (List PV))
  | some ids => rgOs Φ ob k cs ids (getOs ((rp, lpO) :: (rq, lpO) :: ob) ids)
  | none => none
def rgNo {α : Type} : Option Obj' → Option Obj' → Option α → Option α
  | none, none, x => x
  | _, _, _ => none
def rgF (Φ : Sem') (ob : OB) : PV → Option (List Nat × List (List PV))
  | .fn k [] cs => rgNo (getO ob rp) (getO ob rq) (rgRun Φ ob k cs (reach ((rp, lpO) :: (rq, lpO) :: ob) 20 (rp :: rq :: refsL cs) []))
  | _ => none
def zipS : List Nat → List PV → SL → SL
  | t :: ts, v :: vs, sl => zipS ts vs ((t, v) :: sl)
  | _, _, sl => sl
def zipN {α : Type} : Nat → List α → List (Nat × α)
  | _, [] => []
  | n, x :: r => (n, x) :: zipN (n + 1) r
abbrev Body := Sem' → Nat → List PV → List Obj' → Option R
def sem (T : Nat → Option Body) (N : Nat) : Nat → Sem'
  | 0 => fun _ _ _ => none
  | d + 1 => fun f args objs =>
    match T f with
    | none => none
    | some m => m (sem T N d) N args objs
end Go.Proofs.Ytnkapponcbgbhaa
