/-
  THE ABSTRACT MACHINE, part B: operations that only compute and read ('evQ'): what they come to on an abstract state.
-/
import Derived.Test.YtjmomolnhplokaaDoorAmA
import Derived.Laws.Sem
import Derived.Laws.Entries
import Derived.Laws.StructEq
import Derived.Laws.IdiomCopy
namespace Go.Am
set_option linter.unusedVariables false

/-! ### types -/
inductive TK where
  | int (k : IntKind) | bool | str | struct (fs : List (Nat × TypeId)) (eqok : Bool) | slice (e : TypeId) | array (n : Nat) (e : TypeId) | ptr (e : TypeId) | func | other | none
structure Ty where
  size : Nat
  bytes : Nat
  zero : List Value
  kind : TK
def TK.agg : TK → Bool
  | .struct .. | .array .. => true
  | _ => false
def TK.known : TK → Bool
  | .none => false
  | _ => true
def tkOf (P : Program) (t : TypeId) : TK :=
  match P.underlying t with
  | some (.int k) => .int k
  | some .bool => .bool
  | some .string => .str
  | some (.struct fs) => .struct (fs.toList.map fun f => (f.offset, f.type)) (!P.stoodInHeld t && !P.eqGuardType P.depth t && fs.toList.all fun f => f.name != "_")
  | some (.slice e) => .slice e
  | some (.array n e) => .array n e
  | some (.pointer e) => .ptr e
  | some (.func ..) => .func
  | some _ => .other
  | none => .none
def tyOf (P : Program) (t : TypeId) : Option Ty :=
  (P.info? t).bind fun i => i.zero.map fun z => { size := i.size, bytes := i.bytes, zero := z.cells.toList, kind := tkOf P t }

/-! ### the operations on abstract values -/
def constAV : Value → AV
  | .agg cs => .agg (cs.toList.map .sc)
  | v => .sc v
def St.get (st : St) (i : Nat) : AV := (lk st.t i).getD .unk
abbrev Gl := Nat → Option (List AV)
def ev (G : Gl) (st : St) : Operand → AV
  | .tmp i => st.get i
  | .const v => constAV v
  | .global g => match G g with | some row => .rowp row 0 | none => .unk
  | .func f => .clo (.func f) [] []
def pickV (t : Bool) (a b : AV) : AV :=
  match a, b with
  | .sc (.bool x), .sc (.bool y) => .sc (.bool (bif t then x else y))
  | a, b => bif t then a else b
def binI (op : BinOp) (k : IntKind) (x y : Int) : Option (Prop × Value) :=
  match op with
  | .add => some (True, .int k (k.wrap (x + y)))
  | .sub => some (True, .int k (k.wrap (x - y)))
  | .mul => some (True, .int k (k.wrap (x * y)))
  | .quo => some (y ≠ 0, .int k (k.wrap (x.tdiv y)))
  | .rem => some (y ≠ 0, .int k (x.tmod y))
  | .lss => some (True, .bool (decide (x < y)))
  | .leq => some (True, .bool (decide (x ≤ y)))
  | .gtr => some (True, .bool (decide (y < x)))
  | .geq => some (True, .bool (decide (y ≤ x)))
  | .eql => some (True, .bool (x == y))
  | .neq => some (True, .bool (!(x == y)))
  | .and => some (True, .int k (k.wrap ((BitVec.ofInt k.bits x &&& BitVec.ofInt k.bits y).toNat : Int)))
  | .or => some (True, .int k (k.wrap ((BitVec.ofInt k.bits x ||| BitVec.ofInt k.bits y).toNat : Int)))
  | .xor => some (True, .int k (k.wrap ((BitVec.ofInt k.bits x ^^^ BitVec.ofInt k.bits y).toNat : Int)))
  | _ => none
def shiftI (op : BinOp) (k : IntKind) (x y : Int) : Option (Prop × Value) :=
  match op with
  | .shl => some (0 ≤ y, .int k (k.wrap (x * 2 ^ (min y.toNat k.bits))))
  | .shr => some (0 ≤ y, .int k (x.fdiv (2 ^ (min y.toNat k.bits))))
  | _ => none
def isShift : BinOp → Bool
  | .shl | .shr => true
  | _ => false
/-- '==' of two cells -/
def eqC : AV → AV → Option Bool
  | .sc (.int k x), .sc (.int k' y) => if k = k' then some (x == y) else none
  | .sc (.bool x), .sc (.bool y) => some (x == y)
  | .sc (.string x), .sc (.string y) => some (x == y)
  | _, _ => none
/-- the types whose '==' is known cell by cell -/
def TK.plain : TK → Bool
  | .int _ | .bool | .str => true
  | _ => false
def kindFits : TK → AV → Bool
  | .int _, .sc (.int ..) => true
  | .bool, .sc (.bool _) => true
  | .str, .sc (.string _) => true
  | _, _ => false
def eqFs (P : Program) : List (Nat × TypeId) → List AV → List AV → Option Bool
  | [], _, _ => some true
  | (off, t) :: fs, xs, ys =>
    match xs[off]?, ys[off]? with
    | some x, some y => if kindFits (tkOf P t) x && kindFits (tkOf P t) y then match eqC x y, eqFs P fs xs ys with
      | some b, some r => some (b && r)
      | _, _ => none
      else none
    | _, _ => none
def binV (P : Program) (op : BinOp) (t : TypeId) (a b : AV) : Option (Prop × AV) :=
  match a, b with
  | .sc (.int k x), .sc (.int k' y) => if isShift op then (shiftI op k x y).map fun (c, v) => (c, .sc v) else if k = k' then (binI op k x y).map fun (c, v) => (c, .sc v) else none
  | .sc (.bool x), .sc (.bool y) => match tkOf P t, op with
    | .bool, .eql => some (True, .sc (.bool (x == y)))
    | .bool, .neq => some (True, .sc (.bool (!(x == y))))
    | _, _ => none
  | .sc (.string x), .sc (.string y) => match op with
    | .eql => some (True, .sc (.bool (x.toList == y.toList)))
    | .neq => some (True, .sc (.bool (!(x.toList == y.toList))))
    | .lss => some (True, .sc (.bool (Op.bytesLess x.toList y.toList)))
    | .add => some (((x.size + y.size : Nat) : Int) ≤ IntKind.i64.max, .sc (.string (x ++ y)))
    | _ => none
  | .agg xs, .agg ys => match tkOf P t with
    | .struct fs true => match op with
      | .eql => (eqFs P fs xs ys).map fun r => (True, .sc (.bool r))
      | .neq => (eqFs P fs xs ys).map fun r => (True, .sc (.bool (!r)))
      | _ => none
    | _ => none
  | _, _ => none
def unV (op : UnOp) (a : AV) : Option AV :=
  match op, a with
  | .not, .sc (.bool b) => some (.sc (.bool (!b)))
  | .neg, .sc (.int k x) => some (.sc (.int k (k.wrap (0 - x))))
  | _, _ => none
def asI : AV → Option Int
  | .sc (.int _ x) => some x
  | _ => none
def lenV (tk : TK) : AV → Option Nat
  | .fz _ _ _ n _ => match tk with | .slice _ => some n | _ => none
  | .own _ _ _ n _ => match tk with | .slice _ => some n | _ => none
  | .sc (.slice none n _) => match tk with | .slice _ => some n | _ => none
  | .sc (.string s) => match tk with | .str => some s.size | _ => none
  | _ => none
def addOff (off : Nat) : AV → Option AV
  | .ptr id j => some (.ptr id (j + off))
  | .elp id k i j => some (.elp id k i (j + off))
  | .rowp r j => some (.rowp r (j + off))
  | _ => none
/-- what a pointer leads to: under what condition, the cells, the place among them -/
def rowOf (h : Hp) : AV → Option (Prop × List AV × Nat)
  | .ptr id j => match lk h id with | some (.box cs) => some (True, cs, j) | _ => none
  | .elp id k i j => match lk h id with | some (.arr k' n f _) => if k = k' then some (i < n, f i, j) else none | _ => none
  | .rowp r j => some (True, r, j)
  | _ => none
def partV (ty : Ty) (r : List AV) (j : Nat) : Option AV :=
  if ty.kind.known then (if ty.kind.agg then (if j + ty.size ≤ r.length then some (.agg ((r.drop j).take ty.size)) else none) else r[j]?) else none
def idxAddr (es : Nat) (a : AV) (i : Int) : Option (Prop × AV) :=
  match a with
  | .fz _ _ k n f => if k = es then some (0 ≤ i ∧ i < n, .rowp (f i.toNat) 0) else none
  | .own id k i0 n _ => if k = es then some (0 ≤ i ∧ i < n, .elp id k (i0 + i.toNat) 0) else none
  | _ => none
def optI (G : Gl) (st : St) : Option Operand → Option (Option Int)
  | none => some none
  | some x => (asI (ev G st x)).map some
def sliceV (es : Nat) (a : AV) (lo hi mx : Option Int) : Option (Prop × AV) :=
  match a with
  | .fz z full k n f =>
    let l := lo.getD 0
    let h := hi.getD n
    let c : Prop := 0 ≤ l ∧ l ≤ h ∧ h ≤ n
    if k = es ∨ n = 0 then match hi, mx with
      | some _, some m => some (c ∧ h ≤ m ∧ m ≤ n, .fz z (decide (m = h)) k (h.toNat - l.toNat) fun r => f (l.toNat + r))
      | _, none => some (c, .fz z (full && decide (h = n)) k (h.toNat - l.toNat) fun r => f (l.toNat + r))
      | none, some _ => none
    else none
  | .own id k i0 n full =>
    let l := lo.getD 0
    let h := hi.getD n
    let c : Prop := 0 ≤ l ∧ l ≤ h ∧ h ≤ n
    if k = es then match hi, mx with
      | some _, some m => some (c ∧ h ≤ m ∧ m ≤ n, .own id k (i0 + l.toNat) (h.toNat - l.toNat) (decide (m = h)))
      | _, none => some (c, .own id k (i0 + l.toNat) (h.toNat - l.toNat) (full && decide (h = n)))
      | none, some _ => none
    else none
  | .sc (.string s) =>
    let l := lo.getD 0
    let h := hi.getD s.size
    match mx with
    | none => some (0 ≤ l ∧ l ≤ h ∧ h ≤ s.size, .sc (.string (s.extract l.toNat h.toNat)))
    | some _ => none
  | _ => none
/-- parts laid into cells -/
def setAt : List AV → Nat → List AV → List AV
  | r, _, [] => r
  | r, j, v :: vs => setAt (r.set j v) (j + 1) vs
def cellsV : AV → List AV
  | .agg cs => cs
  | v => [v]
/-- may this value be laid into cells? (an aggregate that is known as one, or a single cell) -/
def layable : AV → Bool
  | .unk => false
  | .sc (.agg _) => false
  | .tup _ => false
  | _ => true
def fillA (place : Nat → Option (Nat × Nat)) (cells : List AV) : List (Nat × AV) → Option (List AV)
  | [] => some cells
  | (i, v) :: rest =>
    match place i with
    | none => none
    | some (off, size) =>
      if layable v && (cellsV v).length == size && decide (off + size ≤ cells.length) then fillA place (setAt cells off (cellsV v)) rest else none
def placesOf (P : Program) : List (Nat × TypeId) → Option (List (Nat × Nat))
  | [] => some []
  | (off, t) :: l => match P.info? t, placesOf P l with
    | some i, some r => some ((off, i.size) :: r)
    | _, _ => none
def charV (s : ByteArray) (i : Int) : Int := ((s.data.getD i.toNat 0).toNat : Int)

/-- operations that only compute and read: under what condition, and which value -/
def evQ (P : Program) (G : Gl) (st : St) (o : Oper) : Option (Prop × AV) :=
  match o.op with
  | .move x => some (True, ev G st x)
  | .assign x => some (True, ev G st x)
  | .pick c a b => match ev G st c with | .sc (.bool t) => some (True, pickV t (ev G st a) (ev G st b)) | _ => none
  | .binOp op t x y _ => binV P op t (ev G st x) (ev G st y)
  | .unOp op _ x => (unV op (ev G st x)).map fun v => (True, v)
  | .call c => match c.callee with
    | .builtin .len => match c.args.toList, c.argTypes.toList with
      | [x], [t] => (lenV (tkOf P t) (ev G st x)).map fun (n : Nat) => (True, AV.sc (Value.int .i64 (n : Int)))
      | _, _ => none
    | .builtin .max => match c.args.toList with
      | [x, y] => match ev G st x, ev G st y with
        | .sc (.int k a), .sc (.int _ b) => some (True, .sc (.int k (if b > a then b else a)))
        | _, _ => none
      | _ => none
    | .builtin .min => match c.args.toList with
      | [x, y] => match ev G st x, ev G st y with
        | .sc (.int k a), .sc (.int _ b) => some (True, .sc (.int k (if b < a then b else a)))
        | _, _ => none
      | _ => none
    | _ => none
  | .indexAddr t x i => match tkOf P t, asI (ev G st i) with
    | .slice e, some i => (tyOf P e).bind fun ty => idxAddr ty.size (ev G st x) i
    | _, _ => none
  | .index t x i => match tkOf P t, ev G st x, asI (ev G st i) with
    | .str, .sc (.string s), some i => some (0 ≤ i ∧ i < s.size, .sc (.int .u8 (charV s i)))
    | _, _, _ => none
  | .fieldAddr s x f => match tkOf P s with
    | .struct fs _ => match fs[f]? with
      | some (off, t) => (tyOf P t).bind fun ty => if ty.size = 0 then none else (addOff off (ev G st x)).map fun v => (True, v)
      | none => none
    | _ => none
  | .field s x f => match tkOf P s, ev G st x with
    | .struct fs _, .agg cs => match fs[f]? with
      | some (off, t) => (tyOf P t).bind fun ty => (partV ty cs off).map fun v => (True, v)
      | none => none
    | _, _ => none
  | .nilCheck x => (addOff 0 (ev G st x)).map fun v => (True, v)
  | .load t x => (tyOf P t).bind fun ty => (rowOf st.h (ev G st x)).bind fun (c, r, j) => (partV ty r j).map fun v => (c, v)
  | .slice t x lo hi mx => match optI G st lo, optI G st hi, optI G st mx with
    | some lo, some hi, some mx => match tkOf P t with
      | .slice e => match ev G st x with
        | .sc (.string _) => none
        | v => (tyOf P e).bind fun ty => sliceV ty.size v lo hi mx
      | .str => match ev G st x with
        | .sc (.string s) => sliceV 0 (.sc (.string s)) lo hi mx
        | _ => none
      | _ => none
    | _, _, _ => none
  | .extract x i => match ev G st x with | .tup cs => cs[i]?.map fun v => (True, v) | _ => none
  | .makeFunc fn first cap => some (True, .clo fn (first.toList.map (ev G st)) (cap.toList.map (ev G st)))
  | .convert s d x => match tkOf P s, tkOf P d, ev G st x with
    | .int _, .int k, .sc (.int _ n) => some (True, .sc (.int k (k.wrap n)))
    | _, _, _ => none
  | .build t parts => (tyOf P t).bind fun ty => match ty.kind with
    | .struct fs _ => (placesOf P fs).bind fun pl => (fillA (fun i => pl[i]?) (ty.zero.map constAV) (parts.toList.map fun (i, x) => (i, ev G st x))).map fun cs => (True, .agg cs)
    | _ => none
  | _ => none
end Go.Am
