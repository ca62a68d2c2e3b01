import Derived.Test.YtnkapponcbgbhaaCore
set_option linter.all false
namespace Go.Proofs.Ytnkapponcbgbhaa
open Go
inductive Out where
  | norm
  | exit (id : Nat)
  | goto (l : Nat)
  | ret
  deriving Inhabited
structure Hd where
  nc : List NC
  ts : List Nat
  os : List Nat
  cs : List CC
  deriving Inhabited
structure Env where
  fid : Nat → Nat
  glob : Nat → Option (List PV)
  raw : Nat → Bool
  ro : Nat → Bool
  rov : Bool
  ann : Nat → Option Hd
  labs : Nat → Option Hd
  yp : Bool
  gf : Bool
  pb : Bool
section
variable (P : Program)
def aggT (t : TypeId) : Bool := match P.underlying t with
  | some (.struct _) | some (.array _ _) => true
  | _ => false
def leafZ : TypeDesc → Option PV
  | .bool => some (.b false)
  | .int k => some (.i k 0)
  | .string => some (.s [])
  | .slice _ => some (.e true)
  | .pointer _ => some .np
  | .func .. => some .nf
  | .map .. => some .nm
  | .interface _ => some .ni
  | _ => none
def scalarZ : TypeDesc → Option PV
  | .bool => some (.b false)
  | .int k => some (.i k 0)
  | .string => some (.s [])
  | _ => none
def bottomZ : Nat → TypeId → Option PV
  | 0, _ => none
  | d + 1, t => match P.underlying t with
    | some (.array _ e) => bottomZ d e
    | some x => scalarZ x
    | none => none
def zeroZ : Nat → TypeId → Option (List PV)
  | 0, _ => none
  | d + 1, t => match P.underlying t with
    | some (.struct fs) => fs.toList.foldr (fun f r => match zeroZ d f.type, r with
      | some a, some b => some (a ++ b)
      | _, _ => none) (some [])
    | some (.array n e) => match bottomZ P 8 t with
      | some z => some [.blob (n * P.cellsOf e) (List.replicate (n * P.cellsOf e) z)]
      | none => match zeroZ d e with
        | some z => some (List.replicate n z).flatten
        | none => none
    | some x => (leafZ x).map fun z => [z]
    | none => none
def cellB : Value → PV → Bool
  | .bool b, .b c => b == c
  | .int k n, .i k' n' => k == k' && n == n'
  | .string s, .s x => s.data.toList == x
  | .slice none 0 0, .e true => true
  | .pointer none, .np => true
  | .nilFunc, .nf => true
  | .map none, .nm => true
  | .nilIface, .ni => true
  | _, _ => false
def cellsB : List Value → List PV → Bool
  | [], [] => true
  | c, .blob n xs :: r => xs.length == n && (c.take n).length == n && ((c.take n).zip xs).all (fun x => scal x.2 && cellB x.1 x.2) && cellsB (c.drop n) r
  | v :: c, x :: r => cellB v x && cellsB c r
  | _, _ => false
def zeroT (t : TypeId) : Option (List PV) :=
  match zeroZ P 12 t, P.info? t with
  | some z, some i => match i.zero with
    | some v => if cellsB v.cells.toList z && v.cells.size == i.size && wds z == i.size && i.bytes ≤ 4096 then some z else none
    | none => none
  | _, _ => none
def known (t : TypeId) : Bool := (P.underlying t).isSome
def isInt (t : TypeId) : Bool := match P.underlying t with
  | some (.int _) => true
  | _ => false
def mapK (t : TypeId) : Option (IntKind × TypeId) := match P.underlying t with
  | some (.map kt et) => match P.underlying kt with
    | some (.int k) => some (k, et)
    | _ => none
  | _ => none
def oneZ (t : TypeId) : Bool := match P.info? t with
  | some i => match i.zero with
    | some (.int _ _) | some .nilFunc => true
    | _ => false
  | none => false
def plainT (t : TypeId) : Bool := match P.underlying t with
  | some (.int _) | some .string => true
  | _ => false
def boolT (t : TypeId) : Bool := match P.underlying t with
  | some .bool => true
  | _ => false
def constP : Value → PV
  | .bool b => .b b
  | .int k n => .i k n
  | .string s => .s s.data.toList
  | .slice none 0 0 => .e true
  | .pointer none => .np
  | .nilFunc => .nf
  | .map none => .nm
  | .nilIface => .ni
  | _ => .un
variable (E : Env)
def ev (sl : SL) : Operand → PV
  | .tmp t => getS sl t
  | .const v => constP v
  | .global g => match E.glob g with
    | some xs => .q true xs none
    | none => .un
  | .func f => .fn (E.fid f) [] []
def evs (sl : SL) : List Operand → List PV
  | [] => []
  | x :: r => ev E sl x :: evs sl r
def evo (sl : SL) : Option Operand → Option PV
  | none => none
  | some x => some (ev E sl x)
def evps (sl : SL) (off : Nat → Option (Nat × Nat)) : List (Nat × Operand) → Option (List (Nat × Nat × PV))
  | [] => some []
  | (i, x) :: r => match off i, evps sl off r with
    | some o, some q => some ((o.1, o.2, ev E sl x) :: q)
    | _, _ => none
def nid (d : Option Nat) : Nat := 64 + 8 * d.getD 1000000
def opV (sl : SL) (o : Op) : Option PV :=
  match o with
  | .move x | .assign x => some (ev E sl x)
  | .makeFunc (.func f) first caps => some (.fn (E.fid f) (evs E sl first.toList) (evs E sl caps.toList))
  | .call { callee := .builtin .len, args, argTypes } =>
    match args.toList, argTypes.toList with
    | [_], [t] => match P.underlying t with
      | some (.array n _) => some (.i .i64 n)
      | _ => none
    | _, _ => none
  | _ => none
def eqN (neg : Bool) (t : TypeId) (ob : OB) (v : PV) : Option (Option PV) := match P.underlying t with
  | some (.slice _) => some (eNs neg ob v)
  | some (.pointer _) => some (eNp neg v)
  | some (.func ..) => some (eNf neg v)
  | _ => none
def nilOf (t : TypeId) : Operand → Bool
  | .const (.slice none 0 0) => ((P.underlying t) matches some (.slice _))
  | .const (.pointer none) => ((P.underlying t) matches some (.pointer _))
  | .const .nilFunc => ((P.underlying t) matches some (.func ..))
  | _ => false
def shT (t : TypeId) : Option Sh := match P.underlying t with
  | some (.int _) => some .i
  | some .bool => some .b
  | some (.array n e) => if isInt P e && P.cellsOf e == 1 && P.cellsOf t == n then some (.a n) else none
  | _ => none
def wSh : Sh → Nat
  | .a n => n
  | _ => 1
def shs : List Field → Nat → Option (List Sh)
  | [], _ => some []
  | f :: r, off => if f.offset = off then (if (f.name == "_") = false then (match shT P f.type, shs r (off + match shT P f.type with | some x => wSh x | none => 0) with
    | some x, some y => some (x :: y)
    | _, _ => none) else none) else none
def eqSt (neg : Bool) (t : TypeId) (x y : Operand) (sl : SL) : Option (List Sh) → Option (Option PV)
  | some sh => if !P.stoodInHeld t && !P.eqGuardType P.depth t then some (eSt neg sh (ev E sl x) (ev E sl y)) else none
  | none => none
def eqP (neg : Bool) (t : TypeId) (x y : Operand) (sl : SL) (ob : OB) : Option (Option PV) :=
  match P.underlying t with
  | some (.array n e) => if isInt P e && P.cellsOf e == 1 && !P.eqGuardType P.depth t then some (eAr neg n (ev E sl x) (ev E sl y)) else none
  | some (.struct fs) => eqSt P E neg t x y sl (shs P fs.toList 0)
  | _ => if nilOf P t y then eqN P neg t ob (ev E sl x) else if nilOf P t x then eqN P neg t ob (ev E sl y) else none
def opP (sl : SL) (ob : OB) (o : Op) : Option (Option PV) :=
  match o with
  | .pick c a b => some (pk (ev E sl c) (ev E sl a) (ev E sl b))
  | .build t parts =>
    match zeroT P t, P.underlying t with
    | some z, some (.struct fs) => match evps E sl (fun i => (fs.map fun f => (f.offset, P.cellsOf f.type))[i]?) parts.toList with
      | some ps => if fs.all fun f => known P f.type then some (bld z ps) else none
      | none => none
    | some z, some (.array _ e) => match evps E sl (fun i => some (i * P.cellsOf e, P.cellsOf e)) parts.toList with
      | some ps => if known P e then some (bld z ps) else none
      | none => none
    | _, _ => none
  | .load t a => if known P t then some (if aggT P t then lN ob (P.cellsOf t) (ev E sl a) else l1 ob (ev E sl a)) else none
  | .binOp op t x y _ =>
    if plainT P t then some (bi op (ev E sl x) (ev E sl y))
    else if boolT P t then some (biB op (ev E sl x) (ev E sl y))
    else match op with
      | .eql => eqP P E false t x y sl ob
      | .neq => eqP P E true t x y sl ob
      | _ => none
  | .unOp op _ x => some (uO op (ev E sl x))
  | .convert src dst x =>
    match P.underlying src, P.underlying dst with
    | some (.int _), some (.int k) => some (cv k (ev E sl x))
    | some (.slice e), some .string => if P.underlying e matches some (.int .u8) then some (b2s ob (ev E sl x)) else none
    | _, _ => none
  | .fieldAddr t x f => match P.underlying t with
    | some (.struct fs) => match fs[f]? with
      | some fd => if P.cellsOf fd.type = 0 then none else some (fA fd.offset (ev E sl x))
      | none => none
    | _ => none
  | .field t x f => match P.underlying t with
    | some (.struct fs) => match fs[f]? with
      | some fd => if known P fd.type then some (fV fd.offset (P.cellsOf fd.type) (aggT P fd.type) (ev E sl x)) else none
      | none => none
    | _ => none
  | .indexAddr t x ix => match P.underlying t with
    | some (.slice e) => if known P e then some (xS ob (P.cellsOf e) (ev E sl x) (ev E sl ix)) else none
    | some (.array n e) => if P.cellsOf e = 1 then some (xA n (ev E sl x) (ev E sl ix)) else none
    | _ => none
  | .index t x ix => match P.underlying t with
    | some (.array n e) => if known P e then some (xV n (P.cellsOf e) (aggT P e) (ev E sl x) (ev E sl ix)) else none
    | some .string => some (xVs (ev E sl x) (ev E sl ix))
    | _ => none
  | .lookup t x ix false => match mapK P t with
    | some (k, et) => match zeroT P et with
      | some z => if oneZ P et = true then some (mpl ob k z (ev E sl x) (ev E sl ix)) else none
      | none => none
    | none => none
  | .extract x k => some (ext k (ev E sl x))
  | .nilCheck x => some (nc (ev E sl x))
  | .call { callee := .builtin .len, args, argTypes } =>
    match args.toList, argTypes.toList with
    | [x], [t] => match P.underlying t with
      | some (.slice _) => some (len (ev E sl x))
      | some .string => some (lenS (ev E sl x))
      | _ => none
    | _, _ => none
  | .call { callee := .builtin .cap, args, argTypes } =>
    match args.toList, argTypes.toList with
    | [x], [t] => match P.underlying t with
      | some (.slice _) => some (cp ob (ev E sl x))
      | _ => none
    | _, _ => none
  | .call { callee := .builtin .min, args, .. } => match args.toList with
    | [x, y] => some (mnI (ev E sl x) (ev E sl y))
    | _ => none
  | .call { callee := .builtin .max, args, .. } => match args.toList with
    | [x, y] => some (mxI (ev E sl x) (ev E sl y))
    | _ => none
  | _ => none
def refT : Nat → TypeId → Bool
  | 0, _ => true
  | d + 1, t => match P.underlying t with
    | some .bool | some (.int _) | some .string => false
    | some (.struct fs) => fs.any fun f => refT d f.type
    | some (.array _ e) | some (.slice e) => refT d e
    | _ => true
def slT : Nat → TypeId → Bool
  | 0, _ => true
  | d + 1, t => match P.underlying t with
    | some .bool | some (.int _) | some .string => false
    | some (.struct fs) => fs.any fun f => slT d f.type
    | some (.array _ e) => slT d e
    | _ => true
def nestT : Nat → TypeId → Bool
  | 0, _ => true
  | d + 1, t => match P.underlying t with
    | some .bool | some (.int _) | some .string => false
    | some (.struct fs) => fs.any fun f => nestT d f.type
    | some (.array _ e) => nestT d e
    | some (.slice e) => slT P d e
    | _ => true
def ptrE (e : TypeId) : Bool := match zeroT P e with
  | some z => !isPures (zps z)
  | none => false
noncomputable def opO (Φ : Sem') (sl : SL) (ob : OB) (d : Nat) (o : Op) : Option (Option Up) :=
  match o with
  | .alloc t => match zeroT P t with
    | some z => some (al ob d z)
    | none => none
  | .box _ x => some (bx ob d (ev E sl x))
  | .buildSlice t n parts =>
    match P.underlying t with
    | some (.slice e) => if (parts.toList.map (·.1) == List.range n) && 0 < P.cellsOf e && P.cellsOf e ≤ 256 && n < 65536 then (match zeroT P e with
      | some _ => some (if E.pb = true then bldP ob d (P.cellsOf e) (evs E sl (parts.toList.map (·.2))) else bldS ob d (P.cellsOf e) (evs E sl (parts.toList.map (·.2))))
      | none => none) else none
    | _ => none
  | .store t a v => if known P t then some (st ob (P.cellsOf t) (ev E sl a) (ev E sl v)) else none
  | .makeSlice t l c =>
    match P.underlying t, l, c with
    | some (.slice e), .tmp l', .tmp c' => if l' = c' then (match zeroT P e with
      | some z => some (mks ob d z (ev E sl l))
      | none => none) else none
    | some (.slice e), .const (.int .i64 n), .const (.int .i64 m) => if n = m then (match zeroT P e with
      | some z => some (mks ob d z (ev E sl l))
      | none => none) else none
    | _, _, _ => none
  | .slice t x lo hi mx => if mx.isSome && hi.isNone then none else match P.underlying t with
    | some (.array n e) => if P.cellsOf e = 1 then some (slc ob (.arr n) (ev E sl x) (evo E sl lo) (evo E sl hi) (evo E sl mx)) else none
    | some (.slice e) => if known P e then some (slc ob (.slice (P.cellsOf e)) (ev E sl x) (evo E sl lo) (evo E sl hi) (evo E sl mx)) else none
    | some .string => some (slc ob .str (ev E sl x) (evo E sl lo) (evo E sl hi) (evo E sl mx))
    | _ => none
  | .convert src dst x =>
    match P.underlying src, P.underlying dst with
    | some .string, some (.slice e) => if P.underlying e matches some (.int .u8) then some (s2b ob d (ev E sl x)) else none
    | some (.slice _), some (.slice e) => if src = dst then (if P.underlying e matches some (.int .u8) then some (mkS ob (ev E sl x)) else none) else none
    | _, _ => none
  | .call { callee := .builtin .append, args, argTypes } =>
    match args.toList, argTypes.toList with
    | [x, y], [t, u] => match P.underlying t with
      | some (.slice e) => match zeroT P e with
        | some z => if 0 < wds z && known P u then (if ptrE P e = true then (if isInt P u then some (apzN ob d z (ev E sl x) (ev E sl y)) else some (apN ob d (P.cellsOf e) (ev E sl x) (ev E sl y))) else if isInt P u then some (apz ob d z (ev E sl x) (ev E sl y)) else some (ap ob d (P.cellsOf e) (ev E sl x) (ev E sl y))) else none
        | none => none
      | _ => none
    | _, _ => none
  | .call { callee := .builtin .copy, args, argTypes } =>
    match args.toList, argTypes.toList with
    | [x, y], t :: _ => match P.underlying t with
      | some (.slice e) => if known P e && 0 < P.cellsOf e then some (if ptrE P e = true then cpN ob (P.cellsOf e) (ev E sl x) (ev E sl y) else cpy ob (P.cellsOf e) (ev E sl x) (ev E sl y)) else none
      | _ => none
    | _, _ => none
  | .makeMap t none => match mapK P t with
    | some (k, _) => some (mkm ob d k)
    | none => none
  | .insert t m k v | .mapUpdate t m k v => match mapK P t with
    | some (kk, _) => some (mpu ob kk (ev E sl m) (ev E sl k) (ev E sl v))
    | none => none
  | .call { callee := .builtin .clear, args, argTypes } =>
    match args.toList, argTypes.toList with
    | [x], [t] => match mapK P t with
      | some _ => some (mpc ob (ev E sl x))
      | none => none
    | _, _ => none
  | .call { callee := .value (.func f), args, argTypes } => some (if E.ro f then cr Φ ob d (E.raw f) (E.fid f) (evs E sl args.toList) else if E.raw f || argTypes.any (refT P 12 ·) then ca Φ ob d (E.raw f) (E.fid f) (evs E sl args.toList) else ca0 Φ ob d (argTypes.any (nestT P 12 ·)) (E.fid f) (evs E sl args.toList))
  | .call { callee := .value f, args, .. } => some (if E.rov then crv Φ ob d false (ev E sl f) (evs E sl args.toList) else cav Φ ob d false (ev E sl f) (evs E sl args.toList))
  | _ => none
def putS (d : Option Nat) (v : PV) (sl : SL) : SL :=
  match d with
  | some t => (t, v) :: sl
  | none => sl
noncomputable def denI (Φ : Sem') (ops : Array Oper) (o : Oper) (K : SL → OB → Option R) (sl : SL) (ob : OB) : Option R :=
  match o.guard with
  | none =>
    match opV P E sl o.op with
    | some v => K (putS o.dst v sl) ob
    | none =>
    match opP P E sl ob o.op with
    | some x => bnd x fun v => K (putS o.dst v sl) ob
    | none => match opO P E Φ sl ob (nid o.dst) o.op with
      | some x => bndO x ob fun v ob => K (putS o.dst v sl) ob
      | none => none
  | some (j, w) =>
    match (ops[j]?).bind (·.dst) with
    | none => none
    | some t =>
      match opV P E sl o.op with
      | some v => bnd (gd (getS sl t) w (some v)) fun v => K (putS o.dst v sl) ob
      | none =>
      match opP P E sl ob o.op with
      | some x => bnd (gd (getS sl t) w x) fun v => K (putS o.dst v sl) ob
      | none => match opO P E Φ sl ob (nid o.dst) o.op with
        | some x => bndO (gdO (getS sl t) w x) ob fun v ob => K (putS o.dst v sl) ob
        | none => none
def isSl (t : TypeId) : Bool := match P.underlying t with
  | some (.slice _) => true
  | _ => false
def isArr (t : TypeId) : Bool := match P.underlying t with
  | some (.array _ _) => true
  | _ => false
def memC (o : Op) : Nat :=
  match o with
  | .load .. => 1
  | .store .. => 2
  | .slice t _ _ _ mx => if isArr P t then 0 else if mx.isSome then 2 else 1
  | .indexAddr t _ _ => if isArr P t then 0 else 1
  | .convert s t _ => if isSl P s && isSl P t then 2 else 1
  | .binOp .. => 1
  | .lookup .. => 1
  | .insert .. | .mapUpdate .. => 2
  | .buildSlice .. => if E.pb = true then 2 else 0
  | .call { callee := .builtin .append, .. } | .call { callee := .builtin .copy, .. } | .call { callee := .builtin .clear, .. } => 2
  | .call { callee := .builtin .cap, .. } => 1
  | .call { callee := .builtin _, .. } => 0
  | .call { callee := .value (.func f), argTypes, .. } => if E.raw f || E.ro f then 4 else if argTypes.any (refT P 12 ·) then 4 else if argTypes.any (nestT P 12 ·) then 3 else 1
  | .call _ => if E.rov then 3 else 4
  | _ => 0
def quiet : Op → Bool
  | .load .. => true
  | .binOp .. => true
  | .call { callee := .value (.func f), .. } => E.ro f
  | _ => false
def clash (a b : Op) : Nat :=
  if (quiet E a && quiet E b) = true then 0 else match memC P E a, memC P E b with
  | 0, _ | _, 0 => 0
  | 1, 1 | 1, 3 | 3, 1 | 3, 3 => 0
  | 1, 2 | 2, 1 | 2, 2 => 1
  | _, _ => 2
def names (o : Oper) : List Nat := o.dst.toList ++ (o.op.operands.toList.filterMap fun | .tmp t => some t | _ => none)
def gSlot (ops : Array Oper) (o : Oper) : Option Nat := match o.guard with
  | none => none
  | some (k, _) => (ops[k]?).bind (·.dst)
def slotsOK (ops : Array Oper) (o p : Oper) : Bool :=
  (match p.dst with | some t => !(names o).contains t && gSlot ops o != some t | none => true) &&
  (match o.dst with | some t => !(names p).contains t && gSlot ops p != some t | none => true)
def ordOK (ops : Array Oper) : Bool :=
  let b := Region.before ops
  let l := ops.toList.zipIdx
  (!Region.departs ops || (Region.linearise .gc ops 0).length == ops.size) &&
  l.all fun (o, j) =>
    (match o.guard with | none => true | some (k, _) => k < j && (b.getD j 0).testBit k) &&
    (o.after.all fun e => e.on < j || (match e.ground with | .gcOnly _ => e.on < ops.size && e.on != j | _ => false)) &&
    l.all fun (p, i) => !(i < j) || (b.getD j 0).testBit i || (clash P E p.op o.op < 2 && slotsOK ops o p)
def pairs (ops : Array Oper) : List (Nat × Nat) :=
  let b := Region.before ops
  let l := ops.toList.zipIdx
  l.flatMap fun (o, j) => l.filterMap fun (p, i) => if i < j && !(b.getD j 0).testBit i && clash P E p.op o.op == 1 then some (i, j) else none
def accs (sl : SL) : Op → List PV
  | .load _ a => [ev E sl a]
  | .store _ a v => [ev E sl a, ev E sl v]
  | .slice _ x _ _ _ => [ev E sl x]
  | .indexAddr _ x _ => [ev E sl x]
  | .convert _ _ x => [ev E sl x]
  | .lookup _ x _ _ => [ev E sl x]
  | .insert _ m _ v | .mapUpdate _ m _ v => [ev E sl m, ev E sl v]
  | .binOp _ _ x y _ => [ev E sl x, ev E sl y]
  | .call { args, .. } => evs E sl args.toList
  | .buildSlice _ _ ps => evs E sl (ps.toList.map (·.2))
  | _ => []
def look : List (Nat × List PV) → Nat → List PV
  | [], _ => []
  | (k, v) :: r, t => if k = t then v else look r t
def isApp : Op → Bool
  | .call { callee := .builtin .append, .. } => true
  | _ => false
def cutA (a b : Op) (x : List PV) : List PV := if (isApp a && quiet E b) = true then x.take 1 else x
def disP (ops : Array Oper) (o : Op) (i : Nat) (a x : List PV) : Option Unit := match ops[i]? with
  | some p => dis (cutA E p.op o a) (cutA E o p.op x)
  | none => dis a x
def disK (ops : Array Oper) (o : Op) (tr : List (Nat × List PV)) (x : List PV) : List Nat → Option R → Option R
  | [], k => k
  | i :: r, k => bnd (disP E ops o i (look tr i) x) fun _ => disK ops o tr x r k
def earlier (pr : List (Nat × Nat)) (j : Nat) : List Nat := pr.filterMap fun x => if x.2 == j then some x.1 else none
noncomputable def denOps (Φ : Sem') (ops : Array Oper) (pr : List (Nat × Nat)) (K : SL → OB → Option R) : Nat → List (Nat × List PV) → List Oper → SL → OB → Option R
  | _, _, [], sl, ob => K sl ob
  | j, tr, o :: r, sl, ob => disK E ops o.op tr (accs E sl o.op) (earlier pr j) (denI P E Φ ops o (denOps Φ ops pr K (j + 1) ((j, accs E sl o.op) :: tr) r) sl ob)
def valCall : Op → Option (Operand × Array Operand)
  | .call { callee := .value (.tmp t), args, .. } => some (.tmp t, args)
  | _ => none
noncomputable def denOpsY (Φ : Sem') (ops : Array Oper) (K : SL → OB → Option R) : List Oper → SL → OB → Option R
  | [], sl, ob => K sl ob
  | o :: r, sl, ob =>
    match valCall o.op with
    | some (f, args) =>
      match o.guard with
      | none => yK ob sl o.dst (ev E sl f) (evs E sl args.toList) (denOpsY Φ ops K r)
      | some (j, w) =>
        match (ops[j]?).bind (·.dst) with
        | none => none
        | some t =>
          match getS sl t with
          | .b c => if c = w then yK ob sl o.dst (ev E sl f) (evs E sl args.toList) (denOpsY Φ ops K r) else denOpsY Φ ops K r (putS o.dst (.tup []) sl) ob
          | .tup [] => denOpsY Φ ops K r (putS o.dst (.tup []) sl) ob
          | _ => none
    | none => denI P E Φ ops o (denOpsY Φ ops K r) sl ob
def hasCall (ops : Array Oper) : Bool := ops.any fun o => (valCall o.op).isSome
def firstReg : Code → Option Nat
  | .region id _ _ => some id
  | .seq a b => match firstReg a with
    | some x => some x
    | none => firstReg b
  | .cond _ a b => match firstReg a with
    | some x => some x
    | none => firstReg b
  | .block _ c | .loop c | .scope c => firstReg c
  | .rangeFunc _ _ a b => match firstReg a with
    | some x => some x
    | none => firstReg b
  | _ => none
def hasLabel (l : Nat) : Code → Bool
  | .seq a b => hasLabel l a || hasLabel l b
  | .label l' => l' == l
  | _ => false
def headH (h : Hd) (sl : SL) (ob : OB) : Option (SL × OB) := bnd (renCs h.cs (keepS sl h.ts) ob) fun y => head h.nc h.ts h.os y.1 y.2
def normK (k : SL → OB → Option R) (h : Hd) (sl : SL) (ob : OB) : Option R :=
  bnd (headH h sl ob) fun x => k x.1 x.2
abbrev Kont := Out → SL → OB → Option R
def inBlk (id : Nat) (K : Kont) : Kont
  | .exit i => if i = id then K .norm else K (.exit i)
  | o => K o
def thenK (f : SL → OB → Option R) (K : Kont) : Kont
  | .norm => f
  | o => K o
def labsOf : Code → List Nat
  | .seq a b => labsOf a ++ labsOf b
  | .label l => [l]
  | _ => []
def jmp (l0 : Nat) (g : SL → OB → Option R) (K : Kont) : Kont
  | .goto l, sl, ob => if l = l0 then
      (match E.labs l0 with
       | some hd => normK g hd sl ob
       | none => none)
    else K (.goto l) sl ob
  | o, sl, ob => K o sl ob
def noHead : Code → Bool
  | .skip | .region .. | .exit _ | .label _ | .goto _ | .ret => true
  | .seq a b => noHead a && noHead b
  | .cond _ a b => noHead a && noHead b
  | .block _ c => noHead c
  | _ => false
def thenA (f : SL → OB → Option R) : Kont
  | .norm, sl, ob => f sl ob
  | _, _, _ => none
def rgK (g : OB → Option R) (K : Kont) (sl0 : SL) : Kont
  | .norm, _, ob => g ob
  | o, _, ob => K o sl0 ob
def rounds' (B : (OB → Option R) → SL → SL → OB → Option R) (ps : List Nat) (hd : Hd) (Kn : SL → OB → Option R) : List (List PV) → SL → OB → Option R
  | [], sl, ob => Kn sl ob
  | x :: r, sl, ob => if x.length = ps.length then B (fun ob => normK (rounds' B ps hd Kn r) hd sl ob) sl (zipS ps x sl) ob else none
def rgO (B : (OB → Option R) → SL → SL → OB → Option R) (ps : List Nat) (hd : Hd) (Kn : SL → OB → Option R) (sl : SL) (ob : OB) : Option (List Nat × List (List PV)) → Option R
  | some x => normK (rounds' B ps hd Kn x.2) hd (delS x.1 sl) (delO x.1 ob)
  | none => none
noncomputable def den (Φ : Sem') (N n : Nat) : Code → Option Nat → Kont → SL → OB → Option R
  | .skip, none, K, sl, ob => K .norm sl ob
  | .region _ ops draw, none, K, sl, ob =>
    if ops.all (fun o => match o.dst with | some t => decide (t < n) | none => true) then
      (match draw with
       | false => if E.yp = true ∧ hasCall ops = true then denOpsY P E Φ ops (K .norm) ops.toList sl ob else denOps P E Φ ops [] (K .norm) 0 [] ops.toList sl ob
       | true => if ordOK P E ops = true then denOps P E Φ ops (pairs P E ops) (K .norm) 0 [] ops.toList sl ob else none)
    else none
  | .seq a b, none, K, sl, ob => den Φ N n a none (thenK (den Φ N n b none K) K) sl ob
  | .seq a b, some l, K, sl, ob => if hasLabel l a = true then den Φ N n a (some l) (thenK (den Φ N n b none K) K) sl ob else den Φ N n b (some l) K sl ob
  | .cond c a b, none, K, sl, ob => if E.yp = true then brY (ev E sl c) (den Φ N n a none K) (den Φ N n b none K) sl ob else br (ev E sl c) (den Φ N n a none K sl ob) (den Φ N n b none K sl ob)
  | .block id c, none, K, sl, ob => den Φ N n c none (inBlk id K) sl ob
  | .loop c, none, K, sl, ob =>
    match (firstReg c).bind E.ann with
    | none => none
    | some hd => normK (loopC (fun g => den Φ N n c none (thenK (normK g hd) K)) N) hd sl ob
  | .rangeFunc f ps as c, none, K, sl, ob =>
    if E.yp = false ∧ noHead as = true ∧ noHead c = true ∧ ps.all (fun t => decide (t < n)) = true then
      (match (firstReg c).bind E.ann with
       | none => none
       | some hd => rgO (fun g sl0 => den Φ N n as none (thenA (den Φ N n c none (rgK g K sl0)))) ps.toList hd (K .norm) (keepS sl hd.ts) ob (rgF Φ ob (ev E sl f)))
    else none
  | .scope c, none, K, sl, ob =>
    match labsOf c with
    | [l0] => den Φ N n c none (jmp E l0 (loopC (fun g => den Φ N n c (some l0) (jmp E l0 g K)) N) K) sl ob
    | _ => none
  | .label _, none, K, sl, ob => K .norm sl ob
  | .label l', some l, K, sl, ob => if l' = l then K .norm sl ob else none
  | .goto l, none, K, sl, ob => K (.goto l) sl ob
  | .exit id, none, K, sl, ob => K (.exit id) sl ob
  | .ret, none, K, sl, ob => K .ret sl ob
  | _, _, _, _, _ => none
def resK (sl : SL) (ob : OB) : List ResultVar → (List PV → Option R) → Option R
  | [], k => k []
  | .tmp t :: r, k => resK sl ob r fun l => k (getS sl t :: l)
  | .cell t ty :: r, k => if known P ty then bnd (if aggT P ty then lN ob (P.cellsOf ty) (getS sl t) else l1 ob (getS sl t)) fun v => resK sl ob r fun l => k (v :: l) else none
def elW (t : TypeId) : Nat := match P.underlying t with
  | some (.slice e) => P.cellsOf e
  | _ => 0
def endK (fn : Func) (m : Nat) : Kont
  | .norm, sl, ob => resK P sl ob fn.results.toList (fin ob m (fn.resultTypes.toList.map (elW P)))
  | .ret, sl, ob => resK P sl ob fn.results.toList (fin ob m (fn.resultTypes.toList.map (elW P)))
  | _, _, _ => none
def endG (fn : Func) (m : Nat) : Kont
  | .norm, sl, ob => resK P sl ob fn.results.toList (finG ob m)
  | .ret, sl, ob => resK P sl ob fn.results.toList (finG ob m)
  | _, _, _ => none
def endY : Kont
  | .norm, _, _ => some (.tup [.un, .l false []], [])
  | .ret, _, _ => some (.tup [.un, .l false []], [])
  | _, _, _ => none
noncomputable def denF (fn : Func) : Body := fun Φ N as os =>
  match fn.body with
  | some c =>
    if E.yp = true then (if fn.results.isEmpty = true then (if fn.ntmps ≤ tslot then (if 2 ≤ os.length then yOut (den P E Φ N fn.ntmps c none endY ((tslot, .y 1 0 0) :: zipN 0 as) (zipN 0 os)) else none) else none) else none)
    else if E.gf = true then den P E Φ N fn.ntmps c none (endG P fn os.length) (zipN 0 as) (zipN 0 os)
    else den P E Φ N fn.ntmps c none (endK P fn os.length) (zipN 0 as) (zipN 0 os)
  | none => none
end
end Go.Proofs.Ytnkapponcbgbhaa
