import Derived.Test.YtkempedphjopmaaMachB
set_option linter.unusedVariables false
set_option linter.unusedSimpArgs false
set_option linter.unnecessarySimpa false
namespace Go.Mach

/-! ### From the program's operations to ours -/
def cV1 : Value → Option AV
  | .int k n => some (.int k n)
  | .bool b => some (.bool b)
  | .string s => some (.str s)
  | .pointer none => some .nilptr
  | .slice none 0 0 => some (.isl [] true)
  | .nilFunc => some .nilfunc
  | _ => none
def cV : Value → Option AV
  | .agg cs => (cs.toList.mapM cV1).map .agg
  | v => cV1 v
def cx : Operand → Option AX
  | .tmp t => some (.t t)
  | .const v => (cV v).map .c
  | .func f => some (.f f)
  | .global _ => none
def cxo : Option Operand → Option (Option AX)
  | none => some none
  | some x => (cx x).map some
def sizeT (P : Program) (t : TypeId) : Option Nat := (P.info? t).map (·.size)
def aggT (P : Program) (t : TypeId) : Option Bool := match P.underlying t with
  | some (.struct _) | some (.array _ _) => some true
  | some _ => some false
  | none => none
def zeroT (P : Program) (t : TypeId) : Option (List AV) := ((P.info? t).bind (·.zero)).bind fun z => (z.cells.toList.mapM cV1)
def isU8 (P : Program) (t : TypeId) : Bool := match P.underlying t with | some (.int .u8) => true | _ => false
def allParts (size : Nat → Option (Nat × Nat)) : List (Nat × Operand) → Option (List (Nat × Nat × AX))
  | [] => some []
  | (i, x) :: rest => do
    let (off, sz) ← size i
    let y ← cx x
    let r ← allParts size rest
    some ((off, sz, y) :: r)
def elemT (P : Program) (t : TypeId) : Option TypeId := match P.underlying t with | some (.slice e) => some e | _ => none
def compBin (P : Program) (op : BinOp) (t : TypeId) (x y : Operand) : Option AOp :=
  match P.underlying t with
  | some (.int _) | some .string => do some (.bin op (← cx x) (← cx y))
  | some .bool => match op with
    | .eql => do some (.eqb false (← cx x) (← cx y))
    | .neq => do some (.eqb true (← cx x) (← cx y))
    | _ => none
  | some (.slice _) => match op, y with
    | .eql, .const (.slice none 0 0) => do some (.eqnil false (← cx x))
    | .neq, .const (.slice none 0 0) => do some (.eqnil true (← cx x))
    | _, _ => none
  | _ => none
def compConv (P : Program) (src dst : TypeId) (x : Operand) : Option AOp :=
  match P.underlying src, P.underlying dst with
  | some (.int _), some (.int k) => do some (.conv k (← cx x))
  | some .string, some .string => do some (.cvs (← cx x))
  | some .string, some (.slice e) => if isU8 P e then do some (.s2b (← cx x)) else none
  | some (.slice e), some .string => if isU8 P e then do some (.b2s (← cx x)) else none
  | _, _ => none
def compCall (P : Program) (mt : Bool) (c : Call) : Option AOp :=
  match c.callee with
  | .value (.func f) => do some (.call f (← c.args.toList.mapM cx))
  | .value x => do some (.callv (← cx x) (← c.args.toList.mapM cx))
  | .builtin .len => match c.argTypes.toList, c.args.toList with
    | [t], [x] => match P.underlying t with
      | some .string => do some (.len true (← cx x))
      | some (.slice _) => do some (.len false (← cx x))
      | _ => none
    | _, _ => none
  | .builtin .append => match c.argTypes.toList, c.args.toList with
    | [t, u], [s, x] => match P.underlying t, P.underlying u with
      | some (.slice e), some (.slice _) => do
        let sz ← sizeT P e
        let zs ← zeroT P e
        if zs.length = sz then some (.append sz (← aggT P e) (← (P.info? e).map (·.bytes)) mt (← cx s) (← cx x)) else none
      | some (.slice e), some .string => do
        let sz ← sizeT P e
        let zs ← zeroT P e
        if zs.length = sz then some (.append sz (← aggT P e) (← (P.info? e).map (·.bytes)) mt (← cx s) (← cx x)) else none
      | _, _ => none
    | _, _ => none
  | .builtin .min => match c.args.toList with
    | [x, y] => do some (.min2 (← cx x) (← cx y))
    | _ => none
  | _ => none
def compOp (P : Program) (mt : Bool) (o : Oper) : Option AOp :=
  match o.op with
  | .move x | .assign x => do some (.mv (← cx x))
  | .pick c a b => do some (.pick (← cx c) (← cx a) (← cx b))
  | .alloc e => do some (.alloc (← zeroT P e))
  | .box _ x => do some (.box (← cx x))
  | .build t parts => match P.underlying t with
    | some (.struct fs) => do
      let sizes ← fs.toList.mapM fun f => (sizeT P f.type).map fun s => (f.offset, s)
      some (.build (← zeroT P t) (← allParts (fun i => sizes[i]?) parts.toList))
    | some (.array _ e) => do
      let s ← sizeT P e
      some (.build (← zeroT P t) (← allParts (fun i => some (i * s, s)) parts.toList))
    | _ => none
  | .buildSlice t n parts => match P.underlying t with
    | some (.slice e) => do
      let s ← sizeT P e
      let zs ← zeroT P e
      if n * s ≤ 16777216 ∧ zs.length = s ∧ 0 < s then
        some (.buildSl n s (← aggT P e) ((List.replicate n zs).flatten) (← allParts (fun i => some (i * s, s)) parts.toList)) else none
    | _ => none
  | .load t x => do some (.load (← sizeT P t) (← aggT P t) (← cx x))
  | .store t a x => do some (.store (← sizeT P t) (← cx a) (← cx x))
  | .nilCheck x => do some (.nilck (← cx x))
  | .binOp op t x y _ => compBin P op t x y
  | .unOp op _ x => do some (.un op (← cx x))
  | .convert src dst x => compConv P src dst x
  | .makeFunc (.func f) first caps => if first.size = 0 then do some (.mkfn f (← caps.toList.mapM cx)) else none
  | .makeSlice t l c => match P.underlying t with
    | some (.slice e) => do
      let s ← sizeT P e
      let zs ← zeroT P e
      if zs.length = s ∧ 0 < s then some (.mksl s (← aggT P e) (← (P.info? e).map (·.bytes)) zs (← cx l) (← cx c)) else none
    | _ => none
  | .slice t x lo hi mx => match P.underlying t with
    | some .string => match mx with
      | none => do some (.strSl (← cx x) (← cxo lo) (← cxo hi))
      | some _ => none
    | some (.slice e) => match mx with
      | none => do some (.slSl (← sizeT P e) (← cx x) (← cxo lo) (← cxo hi))
      | some m => match lo, hi with
        | some l, some h => do some (.slCl (← sizeT P e) (← cx x) (← cx l) (← cx h) (← cx m))
        | _, _ => none
    | some (.array n e) => match mx with
      | none => do some (.arrSl n (← sizeT P e) (← aggT P e) (← cx x) (← cxo lo) (← cxo hi))
      | some _ => none
    | _ => none
  | .fieldAddr s x f => match P.underlying s with
    | some (.struct fs) => match fs[f]? with
      | some fd => match sizeT P fd.type with
        | some (_ + 1) => do some (.faddr fd.offset (← cx x))
        | _ => none
      | none => none
    | _ => none
  | .field t x f => match P.underlying t with
    | some (.struct fs) => match fs[f]? with
      | some fd => do some (.field fd.offset (← sizeT P fd.type) (← aggT P fd.type) (← cx x))
      | none => none
    | _ => none
  | .indexAddr t x i => match P.underlying t with
    | some (.slice e) => do some (.iaddrS (← sizeT P e) (← cx x) (← cx i))
    | some (.array n e) => do some (.iaddrA n (← sizeT P e) (← cx x) (← cx i))
    | _ => none
  | .index t x i => match P.underlying t with
    | some .string => do some (.idxStr (← cx x) (← cx i))
    | some (.array n e) => do some (.idxArr n (← sizeT P e) (← aggT P e) (← cx x) (← cx i))
    | _ => none
  | .range t x => match P.underlying t with
    | some .string => do some (.rng (← cx x))
    | _ => none
  | .next x true => do some (.nxt (← cx x))
  | .extract x i => do some (.extract i (← cx x))
  | .call c => compCall P mt c
  | _ => none
end Go.Mach
