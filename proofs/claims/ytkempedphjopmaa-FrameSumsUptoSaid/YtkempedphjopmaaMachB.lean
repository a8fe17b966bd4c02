import Derived.Test.YtkempedphjopmaaMachA
import GoSem.Dispatch
set_option linter.unusedVariables false
set_option linter.unusedSimpArgs false
set_option linter.unnecessarySimpa false
namespace Go.Mach

/-! ### Operations whose types are resolved -/
inductive AX where
  | t (n : Nat)
  | c (v : AV)
  | f (n : Nat)
  deriving Inhabited

inductive AOp where
  | mv (x : AX)
  | pick (c a b : AX)
  | alloc (zs : List AV)
  | box (x : AX)
  | build (zs : List AV) (parts : List (Nat × Nat × AX))
  | buildSl (n sz : Nat) (ag : Bool) (zs : List AV) (parts : List (Nat × Nat × AX))
  | load (sz : Nat) (ag : Bool) (x : AX)
  | store (sz : Nat) (a x : AX)
  | nilck (x : AX)
  | bin (op : BinOp) (x y : AX)
  | eqb (neg : Bool) (x y : AX)
  | eqnil (neg : Bool) (x : AX)
  | un (op : UnOp) (x : AX)
  | conv (k : IntKind) (x : AX)
  | cvs (x : AX)
  | s2b (x : AX)
  | b2s (x : AX)
  | mkfn (f : Nat) (caps : List AX)
  | mksl (sz : Nat) (ag : Bool) (bytes : Nat) (zs : List AV) (l c : AX)
  | strSl (x : AX) (lo hi : Option AX)
  | slSl (sz : Nat) (x : AX) (lo hi : Option AX)
  | slCl (sz : Nat) (x : AX) (lo hi mx : AX)
  | arrSl (n sz : Nat) (ag : Bool) (x : AX) (lo hi : Option AX)
  | faddr (off : Nat) (x : AX)
  | field (off sz : Nat) (ag : Bool) (x : AX)
  | iaddrS (sz : Nat) (x i : AX)
  | iaddrA (n sz : Nat) (x i : AX)
  | idxStr (x i : AX)
  | idxArr (n sz : Nat) (ag : Bool) (x i : AX)
  | rng (x : AX)
  | nxt (x : AX)
  | extract (i : Nat) (x : AX)
  | len (st : Bool) (x : AX)
  | append (sz : Nat) (ag : Bool) (bytes : Nat) (mt : Bool) (s x : AX)
  | min2 (x y : AX)
  | max (xs : List AX)
  | clear (sz : Nat) (zs : List AV) (x : AX)
  | call (f : Nat) (args : List AX)
  | callv (f : AX) (args : List AX)
  deriving Inhabited

structure AOper where
  dst : Option Nat
  op : AOp
  guard : Option (Nat × Bool)
  chk : List AX := []
  deriving Inhabited

inductive ACode where
  | skip
  | region (ops : List AOper)
  | seq (a b : ACode)
  | cond (c : AX) (thn els : ACode)
  | block (id : Nat) (body : ACode)
  | loop (body : ACode)
  | exit (id : Nat)
  | ret
  deriving Inhabited

inductive ARes where
  | tmp (t : Nat)
  | cell (a sz : Nat) (ag : Bool)
  deriving Inhabited

/-- What is kept of the objects that a call makes: all; what is older than the call; nothing, and it sees none. -/
inductive Mode where
  | raw
  | gc
  | pure
  deriving Inhabited, DecidableEq
structure AFunc where
  ntmps : Nat
  res : List ARes
  body : ACode
  mode : Mode
  clArgs : Bool
  clRes : Bool
  deriving Inhabited

/-! ### What they do -/
abbrev Regs := List AV
abbrev Heap := List AObj

def ev (ρ : Regs) : AX → AV
  | .t n => ρ.getD n .undef
  | .c v => v
  | .f n => .func n []

def AV.solid : AV → Bool
  | .undef | .tup _ => false
  | _ => true
def mk (ag : Bool) (win : List AV) : Option AV :=
  match ag, win with
  | true, w => some (.agg w)
  | false, [v] => some v
  | false, _ => none
def setRun (l : List AV) (o : Nat) : List AV → List AV
  | [] => l
  | x :: xs => setRun (l.set o x) (o + 1) xs
def window (cs : List AV) (off n : Nat) : Option (List AV) :=
  if off + n ≤ cs.length then some ((cs.drop off).take n) else none
def fillA (ρ : Regs) (zs : List AV) : List (Nat × Nat × AX) → Option (List AV)
  | [] => some zs
  | (off, sz, x) :: rest =>
    if (ev ρ x).solid = true ∧ (ev ρ x).cells.length = sz ∧ off + sz ≤ zs.length then fillA ρ (setRun zs off (ev ρ x).cells) rest else none
def chunk (sz : Nat) (ag : Bool) : Nat → List AV → Option (List AV)
  | 0, _ => some []
  | n + 1, win => (mk ag (win.take sz)).bind fun e => (chunk sz ag n (win.drop sz)).map (e :: ·)

def loadA (σ : Heap) (sz : Nat) (ag : Bool) : AV → Option AV
  | .ptr id off => match σ[id]? with
    | some (.cells cs _ _) => (window cs off sz).bind (mk ag)
    | _ => none
  | .iptr cs off => (window cs off sz).bind (mk ag)
  | _ => none
def storeA (bs : Nat) (σ : Heap) (sz : Nat) (v : AV) : AV → Option Heap
  | .ptr id off => match σ[id]? with
    | some (.cells cs fz ext) =>
      if fz ≤ off ∧ off + sz ≤ cs.length ∧ v.solid = true ∧ v.cells.length = sz ∧ (bs ≤ id ∨ v.cells.all AV.clo1 = true) then
        some (σ.set id (.cells (setRun cs off v.cells) fz ext)) else none
    | _ => none
  | _ => none
def binA (op : BinOp) : AV → AV → Option AV
  | .int k a, .int k' b => match op with
    | .shl => if 0 ≤ b then some (.int k (k.wrap (a * 2 ^ (min b.toNat k.bits)))) else none
    | .shr => if 0 ≤ b then some (.int k (a.fdiv (2 ^ (min b.toNat k.bits)))) else none
    | op => if k = k' then (match op with
      | .add => some (.int k (k.wrap (a + b)))
      | .sub => some (.int k (k.wrap (a - b)))
      | .mul => some (.int k (k.wrap (a * b)))
      | .quo => if b = 0 then none else some (.int k (k.wrap (a.tdiv b)))
      | .rem => if b = 0 then none else some (.int k (a.tmod b))
      | .and => some (.int k (k.wrap (BitVec.ofInt k.bits a &&& BitVec.ofInt k.bits b).toNat))
      | .or => some (.int k (k.wrap (BitVec.ofInt k.bits a ||| BitVec.ofInt k.bits b).toNat))
      | .xor => some (.int k (k.wrap (BitVec.ofInt k.bits a ^^^ BitVec.ofInt k.bits b).toNat))
      | .eql => some (.bool (a == b))
      | .neq => some (.bool (a != b))
      | .lss => some (.bool (decide (a < b)))
      | .leq => some (.bool (decide (a ≤ b)))
      | .gtr => some (.bool (decide (a > b)))
      | .geq => some (.bool (decide (a ≥ b)))
      | _ => none) else none
  | .str a, .str b => match op with
    | .add => if ((a.size + b.size : Nat) : Int) ≤ IntKind.i64.max then some (.str (a ++ b)) else none
    | .eql => some (.bool (a.toList == b.toList))
    | .neq => some (.bool (!(a.toList == b.toList)))
    | .lss => some (.bool (Op.bytesLess a.toList b.toList))
    | .leq => some (.bool (Op.bytesLess a.toList b.toList || a.toList == b.toList))
    | .gtr => some (.bool (!(Op.bytesLess a.toList b.toList || a.toList == b.toList)))
    | .geq => some (.bool (!(Op.bytesLess a.toList b.toList)))
    | _ => none
  | _, _ => none
def unA (op : UnOp) : AV → Option AV
  | .bool b => match op with | .not => some (.bool (!b)) | _ => none
  | .int k n => match op with | .neg => some (.int k (k.wrap (0 - n))) | _ => none
  | _ => none
def u8s (s : ByteArray) : List AV := s.data.toList.map fun b => .int .u8 (b.toNat : Int)
def ofU8 : AV → Option UInt8
  | .int .u8 n => some (UInt8.ofNat n.toNat)
  | _ => none
def bytesA (l : List AV) : Option ByteArray := (l.mapM ofU8).map fun b => ⟨b.toArray⟩
/-- The elements of a slice, closed. -/
def elemsA (σ : Heap) (sz : Nat) (ag : Bool) : AV → Option (List AV)
  | .isl es _ => some es
  | .own _ es => some es
  | .sl id off len _ _ => match σ[id]? with
    | some (.cells cs _ _) => (window cs off (len * sz)).bind (chunk sz ag len)
    | _ => none
  | .str s => some (u8s s)
  | _ => none
/-- The cells below n of an object are frozen. -/
def frz (σ : Heap) (id n : Nat) : Heap := match σ[id]? with
  | some (.cells cs fz ext) => σ.set id (.cells cs (max fz n) ext)
  | _ => σ
/-- Closed data out of what may hang on objects; what it hangs on is frozen. -/
def close1 (σ : Heap) : AV → Option (AV × Heap)
  | .isl es _ => some (.isl es false, σ)
  | .own _ es => some (.isl es false, σ)
  | .sl id off len sz ag =>
    if len = 0 then some (.isl [] false, σ) else match σ[id]? with
    | some (.cells cs _ _) => (window cs off (len * sz)).bind fun win =>
      if win.all AV.clo1 = true then (chunk sz ag len win).map fun es => (.isl es false, frz σ id (off + len * sz)) else none
    | _ => none
  | v => some (v, σ)
def closeL (σ : Heap) : List AV → Option (List AV × Heap)
  | [] => some ([], σ)
  | v :: vs => (close1 σ v).bind fun (x, σ1) => (closeL σ1 vs).map fun (xs, σ2) => (x :: xs, σ2)
def closeA (σ : Heap) : AV → Option (AV × Heap)
  | .agg cs => (closeL σ cs).map fun (xs, σ1) => (.agg xs, σ1)
  | v => close1 σ v
def closeT (σ : Heap) : List AV → Option (List AV × Heap)
  | [] => some ([], σ)
  | v :: vs => (closeA σ v).bind fun (x, σ1) => (closeT σ1 vs).map fun (xs, σ2) => (x :: xs, σ2)
def closeR (σ : Heap) : AV → Option (AV × Heap)
  | .tup vs => (closeT σ vs).map fun (xs, σ1) => (.tup xs, σ1)
  | v => closeA σ v

def asNat (len : Nat) : Option AX → Nat → Regs → Option Nat
  | none, d, _ => some d
  | some x, _, ρ => match ev ρ x with
    | .int _ n => if 0 ≤ n ∧ n ≤ len then some n.toNat else none
    | _ => none
def lenIs (sz : Nat) (e : AV) : Bool := decide (e.cells.length = sz)
def slSlA (sz l h : Nat) : AV → Option AV
  | .isl es _ => if l ≤ h ∧ h ≤ es.length ∧ (l = 0 ∨ es.all (lenIs sz) = true) then some (.isl ((es.take h).drop l) false) else none
  | .own id es => if l ≤ h ∧ h ≤ es.length ∧ (l = 0 ∨ es.all (lenIs sz) = true) then (if l = 0 ∧ h = es.length then some (.own id es) else some (.isl ((es.take h).drop l) false)) else none
  | .sl id off len sz' ag => if l ≤ h ∧ h ≤ len ∧ sz = sz' then (if l = h then some (.isl [] false) else some (.sl id (off + l * sz) (h - l) sz' ag)) else none
  | _ => none
def lenA : AV → Option Nat
  | .isl es _ => some es.length
  | .own _ es => some es.length
  | .sl _ _ len _ _ => some len
  | .str s => some s.size
  | _ => none
def okEl (sz : Nat) (ag : Bool) (e : AV) : Bool := e.clo && decide (e.cells.length = sz) && (match e with | .agg _ => ag | _ => !ag)
/-- A slice that is surely not nil. -/
def notNil : AV → Bool
  | .isl (_ :: _) _ | .own _ _ | .sl _ _ _ _ _ => true
  | _ => false
def isSl : AV → Bool
  | .isl _ _ | .own _ _ | .sl _ _ _ _ _ => true
  | _ => false
/-- 'append(s, x)'. -/
def appendA (σ : Heap) (sz : Nat) (ag : Bool) (bytes : Nat) (mt : Bool) (s x : AV) : Option (AV × Heap) :=
  (elemsA σ sz ag x).bind fun xs => (elemsA σ sz ag s).bind fun es =>
  if isSl s = false then none else
  if xs = [] then some (s, σ) else
  if sz = 0 ∨ (es.length + xs.length) * bytes > 70368744177664 ∨ es.length + xs.length > 70368744177664 then none else
  match s with
  | .isl _ true =>
    if mt then (if (flat xs).length = xs.length * sz ∧ (flat es).length = es.length * sz then some (.sl σ.length 0 (es.length + xs.length) sz ag, σ ++ [.cells (flat es ++ flat xs) 0 true]) else none) else
    if xs.all (okEl sz ag) = true ∧ es.all (okEl sz ag) = true then some (.own σ.length (es ++ xs), σ ++ [.tok (es.length + xs.length) sz]) else none
  | .own id _ =>
    if xs.all (okEl sz ag) = true ∧ es.all (okEl sz ag) = true then
      match σ[id]? with
      | some (.tok n sz') => if n = es.length ∧ sz' = sz then some (.own id (es ++ xs), σ.set id (.tok (es.length + xs.length) sz)) else none
      | _ => none
    else none
  | .sl id off len sz' ag' =>
    match σ[id]? with
    | some (.cells cs _ ext) =>
      if sz' = sz ∧ ag' = ag ∧ off + len * sz = cs.length ∧ ext = false then
        (if mt then (if (flat xs).length = xs.length * sz ∧ (flat es).length = es.length * sz then some (.sl σ.length 0 (es.length + xs.length) sz ag, σ ++ [.cells (flat es ++ flat xs) 0 true]) else none) else
        if xs.all (okEl sz ag) = true ∧ es.all (okEl sz ag) = true then some (.own σ.length (es ++ xs), σ ++ [.tok (es.length + xs.length) sz]) else none)
      else none
    | _ => none
  | _ => none

/-- One operation that is no call. A store's value counts for nothing. -/
def stepOp (bs : Nat) (ρ : Regs) (σ : Heap) : AOp → Option (AV × Heap)
  | .mv x => some (ev ρ x, σ)
  | .pick c a b => match ev ρ c with
    | .bool true => some (ev ρ a, σ)
    | .bool false => some (ev ρ b, σ)
    | _ => none
  | .alloc zs => some (.ptr σ.length 0, σ ++ [.cells zs 0 false])
  | .box x => if (ev ρ x).solid = true then some (.ptr σ.length 0, σ ++ [.cells (ev ρ x).cells 0 false]) else none
  | .build zs parts => (fillA ρ zs parts).map fun cs => (.agg cs, σ)
  | .buildSl n sz ag zs parts => (fillA ρ zs parts).map fun cs => (.sl σ.length 0 n sz ag, σ ++ [.cells cs 0 false])
  | .load sz ag x => (loadA σ sz ag (ev ρ x)).map fun v => (v, σ)
  | .store sz a x => (storeA bs σ sz (ev ρ x) (ev ρ a)).map fun σ' => (.undef, σ')
  | .nilck x => match ev ρ x with
    | .ptr id off => some (.ptr id off, σ)
    | .iptr cs off => some (.iptr cs off, σ)
    | .func f caps => some (.func f caps, σ)
    | _ => none
  | .bin op x y => (binA op (ev ρ x) (ev ρ y)).map fun v => (v, σ)
  | .eqb neg x y => match ev ρ x, ev ρ y with
    | .bool a, .bool b => some (.bool (neg != (a == b)), σ)
    | _, _ => none
  | .eqnil neg x => if notNil (ev ρ x) = true then some (.bool neg, σ) else none
  | .un op x => (unA op (ev ρ x)).map fun v => (v, σ)
  | .conv k x => match ev ρ x with
    | .int _ n => some (.int k (k.wrap n), σ)
    | _ => none
  | .cvs x => match ev ρ x with
    | .str s => some (.str s, σ)
    | _ => none
  | .s2b x => match ev ρ x with
    | .str s => some (.sl σ.length 0 s.size 1 false, σ ++ [.cells (u8s s) 0 true])
    | _ => none
  | .b2s x => if isSl (ev ρ x) = false then none else (elemsA σ 1 false (ev ρ x)).bind fun es => (bytesA es).map fun s => (.str s, σ)
  | .mkfn f caps => some (.func f (caps.map (ev ρ)), σ)
  | .mksl sz ag bytes zs l c => match ev ρ l, ev ρ c with
    | .int .i64 n, .int .i64 m => if n = m ∧ 0 ≤ n ∧ n * bytes ≤ 70368744177664 ∧ n ≤ 70368744177664 then
        some (.sl σ.length 0 n.toNat sz ag, σ ++ [.cells ((List.replicate n.toNat zs).flatten) 0 false]) else none
    | _, _ => none
  | .strSl x lo hi => match ev ρ x with
    | .str s => (asNat s.size hi s.size ρ).bind fun h => (asNat h lo 0 ρ).map fun l => (.str (s.extract l h), σ)
    | _ => none
  | .slSl sz x lo hi => if isSl (ev ρ x) = false then none else (lenA (ev ρ x)).bind fun n => (asNat n hi n ρ).bind fun h => (asNat h lo 0 ρ).bind fun l => (slSlA sz l h (ev ρ x)).map fun v => (v, σ)
  | .slCl sz x lo hi mx => (lenA (ev ρ x)).bind fun n => (asNat n (some mx) n ρ).bind fun m => (asNat m (some hi) n ρ).bind fun h => (asNat h (some lo) 0 ρ).bind fun l =>
      if l = 0 ∧ h = m then (match ev ρ x with
        | .isl es _ => some (.isl (es.take h) true, σ)
        | _ => none) else none
  | .arrSl n sz ag x lo hi => match ev ρ x with
    | .ptr id off => match σ[id]? with
      | some (.cells cs _ false) => (asNat n hi n ρ).bind fun h => (asNat h lo 0 ρ).bind fun l =>
          if off + n * sz = cs.length ∧ 0 < sz ∧ l < n then some (.sl id (off + l * sz) (h - l) sz ag, σ) else none
      | _ => none
    | _ => none
  | .faddr off x => match ev ρ x with
    | .ptr id o => some (.ptr id (o + off), σ)
    | .iptr cs o => some (.iptr cs (o + off), σ)
    | _ => none
  | .field off sz ag x => match ev ρ x with
    | .agg cs => ((window cs off sz).bind (mk ag)).map fun v => (v, σ)
    | _ => none
  | .iaddrS sz x i => match ev ρ i with
    | .int _ n => if 0 ≤ n then (match ev ρ x with
      | .isl es _ => es[n.toNat]?.bind fun e => if e.cells.length = sz then some (.iptr e.cells 0, σ) else none
      | .own _ es => es[n.toNat]?.bind fun e => if e.cells.length = sz then some (.iptr e.cells 0, σ) else none
      | .sl id off len sz' _ => if n < len ∧ sz = sz' then some (.ptr id (off + n.toNat * sz), σ) else none
      | _ => none) else none
    | _ => none
  | .iaddrA n sz x i => match ev ρ x, ev ρ i with
    | .ptr id off, .int _ m => if 0 ≤ m ∧ m < n then some (.ptr id (off + m.toNat * sz), σ) else none
    | _, _ => none
  | .idxStr x i => match ev ρ x, ev ρ i with
    | .str s, .int _ n => if 0 ≤ n then (s.data.toList[n.toNat]?).map fun b => (.int .u8 (b.toNat : Int), σ) else none
    | _, _ => none
  | .idxArr n sz ag x i => match ev ρ x, ev ρ i with
    | .agg cs, .int _ m => if 0 ≤ m ∧ m < n then ((window cs (m.toNat * sz) sz).bind (mk ag)).map fun v => (v, σ) else none
    | _, _ => none
  | .rng x => match ev ρ x with
    | .str s => some (.ptr σ.length 0, σ ++ [.iter s 0])
    | _ => none
  | .nxt x => match ev ρ x with
    | .ptr id 0 => match σ[id]? with
      | some (.iter s pos) => if pos < s.size then
          some (.tup [.bool true, .int .i64 (pos : Int), .int .i32 (Utf8.decode s pos).1], σ.set id (.iter s (pos + (Utf8.decode s pos).2)))
        else some (.tup [.bool false], σ)
      | _ => none
    | _ => none
  | .extract i x => match ev ρ x with
    | .tup vs => vs[i]?.map fun v => (v, σ)
    | _ => none
  | .len st x => if isSl (ev ρ x) = st then none else (lenA (ev ρ x)).map fun (n : Nat) => (.int .i64 (n : Int), σ)
  | .append sz ag bytes mt s x => appendA σ sz ag bytes mt (ev ρ s) (ev ρ x)
  | .min2 x y => match ev ρ x, ev ρ y with
    | .int k a, .int _ b => some (.int k (if b < a then b else a), σ)
    | _, _ => none
  | _ => none
end Go.Mach
