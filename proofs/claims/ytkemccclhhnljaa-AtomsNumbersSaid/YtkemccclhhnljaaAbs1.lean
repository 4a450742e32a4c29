/-
  The abstract machine: a deterministic reading of the model's code over a heap of its own. Definitions only.
-/
import Derived.OrdersIn
import Derived.RangeFuncLeaves
import Derived.KernelRfl
namespace Go.Abs
set_option linter.unusedVariables false

/-! ### A finite table over numbers -/
inductive Tr (α : Type) where
  | e
  | n (l : Tr α) (o : Option α) (r : Tr α)

namespace Tr
variable {α : Type}
def get : Tr α → Nat → Option α
  | .e, _ => none
  | .n l o r, k => match k with
    | 0 => o
    | k + 1 => match Nat.beq (k % 2) 0 with
      | true => l.get (k / 2)
      | false => r.get (k / 2)
def left : Tr α → Tr α
  | .e => .e
  | .n l _ _ => l
def right : Tr α → Tr α
  | .e => .e
  | .n _ _ r => r
def top : Tr α → Option α
  | .e => none
  | .n _ o _ => o
def set : Nat → Tr α → Nat → α → Tr α
  | 0, t, _, _ => t
  | f + 1, t, k, v => match k with
    | 0 => .n t.left (some v) t.right
    | k + 1 => match Nat.beq (k % 2) 0 with
      | true => .n (set f t.left (k / 2) v) t.top t.right
      | false => .n t.left t.top (set f t.right (k / 2) v)
def ofList : Nat → List α → Tr α → Tr α
  | _, [], t => t
  | k, x :: xs, t => ofList (k + 1) xs (t.set 40 k x)
end Tr

/-! ### The heap -/
inductive CObj where
  /-- x: none: the real block is just as long; some sz: it may be longer (elements of sz cells). -/
  | cells (c : List Value) (elem : TypeId) (x : Option Nat)
  | map (es : List MapEntry) (clock : Nat)
  | siter (s : ByteArray) (pos : Nat)
  | loop (state : LoopState) (pending : Option Code) (fn : FuncId) (tmps : Tr Value) (nt : Nat) (params : List Tmp) (assign body : Code) (defers : Nat)
  | ddef
  | dead

/-- lo: what lies below it is only read. -/
structure Mem where
  lo : Nat
  next : Nat
  tr : Tr CObj

namespace Mem
def get (m : Mem) (b : Nat) : Option CObj := m.tr.get b
def put (m : Mem) (b : Nat) (o : CObj) : Option Mem :=
  match Nat.ble m.lo b && Nat.blt b m.next with
  | true => some ⟨m.lo, m.next, m.tr.set 40 b o⟩
  | false => none
/-- a new object -/
def new (m : Mem) (o : CObj) : Option (Nat × Mem) :=
  match Nat.ble m.lo m.next && Nat.blt m.next 1000000000 with
  | true => some (m.next, ⟨m.lo, m.next + 1, m.tr.set 40 m.next o⟩)
  | false => none
end Mem

/-! ### Small helps -/
def flat : Nat → Value → Bool
  | 0, _ => false
  | n + 1, v => match v with
    | .bool _ | .int _ _ | .string _ | .nilFunc | .nilIface | .pointer none | .map none => true
    | .float _ _ | .complex _ _ _ | .chan _ => false
    | .pointer (some _) | .map (some _) | .func _ _ _ => false
    | .slice none n c => n == 0 && c == 0
    | .slice (some _) _ _ => false
    | .iface _ v => flat n v
    | .agg cs => cs.toList.all (flat n)
    | .tuple cs => cs.toList.all (flat n)

def isFlat (v : Value) : Bool := flat 8 v

/-- A computation that touches nothing but the program. -/
def eval0 {α : Type} (P : Program) : Sem α → Option α
  | .pure a => some a
  | .program k => eval0 P (k P)
  | _ => none

def szOf (P : Program) (t : TypeId) : Option Nat := match P.info? t with
  | some i => some i.size
  | none => none
def zeroOf (P : Program) (t : TypeId) : Option Value := match P.info? t with
  | some i => i.zero
  | none => none
def aggB (P : Program) (t : TypeId) : Option Bool := match P.underlying t with
  | some (.struct _) | some (.array _ _) => some true
  | some _ => some false
  | none => none

def ev (G : Nat) (T : Tr Value) : Operand → Option Value
  | .tmp t => match T.get t with
    | some v => some v
    | none => some undef
  | .const v => match isFlat v with
    | true => some v
    | false => none
  | .global g => match Nat.blt g G with
    | true => some (.pointer (some ⟨g, 0, none⟩))
    | false => none
  | .func f => some (.func (.func f) #[] #[])

def evs (G : Nat) (T : Tr Value) : List Operand → Option (List Value)
  | [] => some []
  | x :: xs => match ev G T x with
    | some v => match evs G T xs with
      | some vs => some (v :: vs)
      | none => none
    | none => none

def evps (G : Nat) (T : Tr Value) : List (Nat × Operand) → Option (List (Nat × Value))
  | [] => some []
  | (i, x) :: xs => match ev G T x with
    | some v => match evps G T xs with
      | some vs => some ((i, v) :: vs)
      | none => none
    | none => none

/-- the n cells from o on -/
def cut (c : List Value) (o n : Nat) : Option (List Value) :=
  match Nat.ble (o + n) c.length with
  | true => some ((c.drop o).take n)
  | false => none

/-- cs over c from o on -/
def over (c : List Value) (o : Nat) (cs : List Value) : Option (List Value) :=
  match Nat.ble (o + cs.length) c.length with
  | true => some (c.take o ++ cs ++ c.drop (o + cs.length))
  | false => none

def cellsAt (M : Mem) (a : Addr) (n : Nat) : Option (List Value) :=
  match a.spot with
  | some _ => none
  | none => match M.get a.block with
    | some (.cells c _ _) => cut c a.off n
    | _ => none

def writeAt (M : Mem) (a : Addr) (cs : List Value) : Option Mem :=
  match a.spot with
  | some _ => none
  | none => match M.get a.block with
    | some (.cells c t x) => match over c a.off cs with
      | some c' => match cs.all Value.oneCell' with
        | true => M.put a.block (.cells c' t x)
        | false => none
      | none => none
    | _ => none

def newCells (M : Mem) (t : TypeId) (cs : List Value) (x : Option Nat) : Option (Addr × Mem) :=
  match M.new (.cells cs t x) with
  | some (b, M) => some (⟨b, 0, none⟩, M)
  | none => none

def fillL (place : Nat → Option (Nat × Nat)) (cells : List Value) : List (Nat × Value) → Option (List Value)
  | [] => some cells
  | (i, v) :: rest => match place i with
    | none => none
    | some (off, size) => match Nat.beq v.cells.size size with
      | true => match over cells off v.cells.toList with
        | some cells => fillL place cells rest
        | none => none
      | false => none

def partL (P : Program) (t : TypeId) (cs : Array Value) (off : Nat) : Option Value :=
  match aggB P t, szOf P t with
  | some true, some n => match cut cs.toList off n with
    | some l => some (.agg l.toArray)
    | none => none
  | some false, _ => cs.toList[off]?
  | _, _ => none

def repL (z : List Value) : Nat → List Value
  | 0 => []
  | n + 1 => z ++ repL z n

/-- == and != against nil -/
def nilEq (d : TypeDesc) (x y : Value) : Option Bool := match d, x, y with
  | .pointer _, .pointer none, .pointer b => some b.isNone
  | .pointer _, .pointer (some _), .pointer none => some false
  | .slice _, .slice none _ _, .slice b _ _ => some b.isNone
  | .slice _, .slice (some _) _ _, .slice none _ _ => some false
  | .map _ _, .map none, .map b => some b.isNone
  | .map _ _, .map (some _), .map none => some false
  | .func _ _ _, .nilFunc, .nilFunc => some true
  | .func _ _ _, .nilFunc, .func _ _ _ => some false
  | .func _ _ _, .func _ _ _, .nilFunc => some false
  | .interface _, .nilIface, .iface _ _ => some false
  | .interface _, .iface _ _, .nilIface => some false
  | _, _, _ => none

def bin (P : Program) (op : BinOp) (t : TypeId) (ox oy : Operand) (x y : Value) : Option Value :=
  match isFlat x && isFlat y with
  | true => match eval0 P (do eqGuard op t ox oy x y; binOp op t x y) with
    | some v => match isFlat v with
      | true => some v
      | false => none
    | none => none
  | false => match P.underlying t with
    | some d => match op, nilEq d x y with
      | .eql, some b => some (.bool b)
      | .neq, some b => some (.bool !b)
      | _, _ => none
    | none => none

/-- a bound of a slice expression: an int from lo to hi -/
def bnd (v : Value) (hi : Nat) : Option Nat := match v with
  | .int _ i => match decide (0 ≤ i) && decide (i ≤ (hi : Int)) with
    | true => some i.toNat
    | false => none
  | _ => none

def bnds (len cap : Nat) (lo hi mx : Option Value) : Option (Nat × Nat × Nat) :=
  match (match mx with | some v => bnd v cap | none => some cap) with
  | none => none
  | some m => match (match hi, mx with
      | some v, _ => bnd v m
      | none, none => match Nat.ble len m with
        | true => some len
        | false => none
      | none, some _ => none) with
    | none => none
    | some h => match (match lo with | some v => bnd v h | none => some 0) with
      | none => none
      | some l => some (l, h, m)

/-- may a slice of elements of sz cells be cut or grown in this block? -/
def fits (M : Mem) (a : Addr) (sz : Nat) : Bool := match M.get a.block with
  | some (.cells _ _ none) => true
  | some (.cells _ _ (some s)) => Nat.beq s sz
  | _ => false

def sliceOf (P : Program) (M : Mem) (t : TypeId) (x : Value) (lo hi mx : Option Value) : Option Value :=
  match P.underlying t, x with
  | some .string, .string s => match mx with
    | some _ => none
    | none => match bnds s.size s.size lo hi none with
      | some (l, h, _) => some (.string (s.extract l h))
      | none => none
  | some (.slice e), .slice a len cap => match szOf P e, bnds len cap lo hi mx with
    | some sz, some (l, h, m) => match a with
      | none => some (.slice none (h - l) (m - l))
      | some a => match fits M a sz with
        | true => some (.slice (some (a.add (l * sz))) (h - l) (m - l))
        | false => none
    | _, _ => none
  | some (.array n e), .pointer (some a) => match szOf P e, bnds n n lo hi mx with
    | some sz, some (l, h, m) => match M.get a.block with
      | some (.cells _ _ none) => some (.slice (some (a.add (l * sz))) (h - l) (m - l))
      | _ => none
    | _, _ => none
  | _, _ => none

def indexA (P : Program) (t : TypeId) (x i : Value) : Option Value :=
  match i with
  | .int _ i => match P.underlying t, x with
    | some (.array len e), .pointer (some a) => match szOf P e, decide (0 ≤ i) && decide (i < (len : Int)) with
      | some sz, true => some (.pointer (some (a.add (i.toNat * sz))))
      | _, _ => none
    | some (.slice e), .slice (some a) len _ => match szOf P e, decide (0 ≤ i) && decide (i < (len : Int)) with
      | some sz, true => some (.pointer (some (a.add (i.toNat * sz))))
      | _, _ => none
    | _, _ => none
  | _ => none

def indexV (P : Program) (t : TypeId) (x i : Value) : Option Value :=
  match i with
  | .int _ i => match P.underlying t, x with
    | some (.array len e), .agg cs => match szOf P e, decide (0 ≤ i) && decide (i < (len : Int)) with
      | some sz, true => partL P e cs (i.toNat * sz)
      | _, _ => none
    | some .string, .string s => match decide (0 ≤ i) with
      | true => match s.data.toList[i.toNat]? with
        | some b => some (.int .u8 b.toNat)
        | none => none
      | false => none
    | _, _ => none
  | _ => none

def fieldOf (P : Program) (t : TypeId) (f : Nat) : Option Field := match P.underlying t with
  | some (.struct fs) => fs.toList[f]?
  | _ => none

def bytesOfCells : List Value → Option (List UInt8)
  | [] => some []
  | .int .u8 n :: r => match bytesOfCells r with
    | some l => some (UInt8.ofNat n.toNat :: l)
    | none => none
  | _ :: _ => none

def conv (P : Program) (src dst : TypeId) (x : Value) (M : Mem) : Option (Value × Mem) :=
  match P.underlying src, P.underlying dst, x with
  | some _, some (.int k), .int _ n => some (.int k (k.wrap n), M)
  | some _, some .string, .string s => some (.string s, M)
  | some _, some .string, .int _ n => some (.string (Utf8.encode n), M)
  | some .string, some (.slice e), .string s => match P.underlying e with
    | some (.int .u8) => match newCells M e (s.data.toList.map fun b => .int .u8 b.toNat) (some 1) with
      | some (a, M) => some (.slice (some a) s.size s.size, M)
      | none => none
    | some (.int .i32) =>
      let l := (Conv.runesFrom s s.size 0 #[]).toList
      match newCells M e l (some 1) with
      | some (a, M) => some (.slice (some a) l.length l.length, M)
      | none => none
    | _ => none
  | some (.slice e), some .string, .slice a n _ => match P.underlying e with
    | some (.int .u8) => match a with
      | none => some (.string .empty, M)
      | some a => match cellsAt M a n with
        | some cs => match bytesOfCells cs with
          | some l => some (.string ⟨l.toArray⟩, M)
          | none => none
        | none => none
    | _ => none
  | _, _, _ => none

def mapKeysFlat (es : List MapEntry) : Bool := es.all fun e => isFlat e.key

def lookIn (P : Program) (kt et : TypeId) (k : Value) (ok : Bool) (es : List MapEntry) : Option Value :=
  match isFlat k && mapKeysFlat es with
  | false => none
  | true => match eval0 P (do Instr.checkKey es.isEmpty 10000 kt k; Instr.findKey kt k es) with
    | some (some (_, v)) => match ok with
      | true => some (.tuple #[v, .bool true])
      | false => some v
    | some none => match zeroOf P et with
      | some z => match isFlat z, ok with
        | true, true => some (.tuple #[z, .bool false])
        | true, false => some z
        | false, _ => none
      | none => none
    | none => none

def lookupM (P : Program) (t : TypeId) (x k : Value) (ok : Bool) (M : Mem) : Option Value :=
  match P.underlying t, x with
  | some (.map kt et), .map none => lookIn P kt et k ok []
  | some (.map kt et), .map (some r) => match M.get r with
    | some (.map es _) => lookIn P kt et k ok es
    | _ => none
  | _, _ => none

def setKV : List MapEntry → Nat → Value → Value → List MapEntry
  | [], _, _, _ => []
  | e :: es, 0, k, v => { e with key := k, val := v } :: es
  | e :: es, i + 1, k, v => e :: setKV es i k v

def updateM (P : Program) (t : TypeId) (x k v : Value) (M : Mem) : Option Mem :=
  match P.underlying t, x with
  | some (.map kt _), .map (some r) => match M.get r with
    | some (.map es clock) => match isFlat k && mapKeysFlat es with
      | false => none
      | true => match eval0 P (do Instr.checkKey false 10000 kt k; Instr.findKey kt k es) with
        | some (some (i, _)) => match es[i]? with
          | some e => match Instr.sameBits 10000 e.key k with
            | true => M.put r (.map (setKV es i k v) clock)
            | false => none
          | none => none
        | some none => M.put r (.map (es ++ [{ key := k, val := v, born := clock }]) (clock + 1))
        | none => none
    | _ => none
  | _, _ => none

def deleteM (P : Program) (t : TypeId) (x k : Value) (M : Mem) : Option Mem :=
  match P.underlying t, x with
  | some (.map kt _), .map (some r) => match M.get r with
    | some (.map es clock) => match isFlat k && mapKeysFlat es with
      | false => none
      | true => match eval0 P (do Instr.checkKey es.isEmpty 10000 kt k; Instr.findKey kt k es) with
        | some (some (i, _)) => M.put r (.map (es.eraseIdx i) clock)
        | some none => M.put r (.map es clock)
        | none => none
    | _ => none
  | _, _ => none

def lenOf (P : Program) (t : TypeId) (x : Value) (M : Mem) : Option Value :=
  match P.underlying t, x with
  | some .string, .string s => some (goInt s.size)
  | some (.array n _), _ => some (goInt n)
  | some (.pointer a), _ => match P.underlying a with
    | some (.array n _) => some (goInt n)
    | _ => none
  | some (.slice _), .slice _ n _ => some (goInt n)
  | some (.map _ _), .map none => some (goInt 0)
  | some (.map _ _), .map (some r) => match M.get r with
    | some (.map es _) => some (goInt es.length)
    | _ => none
  | _, _ => none

/-- what is appended or copied: its cells -/
def srcCells (M : Mem) (sz n : Nat) (x : Value) : Option (List Value) := match x with
  | .slice none _ _ => match Nat.beq n 0 with
    | true => some []
    | false => none
  | .slice (some a) _ _ => match Nat.beq n 0 with
    | true => some []
    | false => cellsAt M a (n * sz)
  | .string s => match Nat.beq sz 1 && Nat.ble n s.size with
    | true => some ((s.data.toList.take n).map fun b => .int .u8 b.toNat)
    | false => none
  | _ => none

def srcLen : Value → Option Nat
  | .slice _ n _ => some n
  | .string s => some s.size
  | _ => none

def appendM (P : Program) (ts : List TypeId) (s x : Value) (M : Mem) : Option (Value × Mem) :=
  match ts with
  | t :: xt :: _ => match P.underlying xt with
    | none | some (.int _) => none
    | some _ => match P.underlying t, s, srcLen x with
      | some (.slice e), .slice base n c, some m => match P.info? e with
        | none => none
        | some i => match srcCells M i.size m x, Nat.beq ((i.zero.map fun z => z.cells.size).getD 0) i.size && Nat.blt 0 i.size && Nat.ble ((n + m) * i.bytes) 1099511627776 && Nat.ble (n + m) 1099511627776 with
          | some new, true => match Nat.ble (n + m) c with
            | true => match base with
              | none => some (.slice none (n + m) c, M)
              | some a => match new with
                | [] => some (.slice (some a) (n + m) c, M)
                | _ :: _ => match writeAt M (a.add (n * i.size)) new with
                  | some M => some (.slice (some a) (n + m) c, M)
                  | none => none
            | false => match base with
              | none => match Nat.beq n 0, newCells M e new (some i.size) with
                | true, some (a, M) => some (.slice (some a) m m, M)
                | _, _ => none
              | some a => match cellsAt M a (n * i.size), M.get a.block with
                | some old, some (.cells _ _ none) => match newCells M e (old ++ new) (some i.size) with
                  | some (a, M) => some (.slice (some a) (n + m) (n + m), M)
                  | none => none
                | some old, some (.cells _ t' (some sz)) => match Nat.beq t' e && Nat.beq sz i.size && new.all Value.oneCell', M.put a.block .dead with
                  | true, some M => match newCells M e (old ++ new) (some i.size) with
                    | some (a, M) => some (.slice (some a) (n + m) (n + m), M)
                    | none => none
                  | _, _ => none
                | _, _ => none
          | _, _ => none
      | _, _, _ => none
  | _ => none

def copyM (P : Program) (t : TypeId) (d s : Value) (M : Mem) : Option (Value × Mem) :=
  match P.underlying t, d, srcLen s with
  | some (.slice e), .slice base n _, some m => match szOf P e, srcCells M ((szOf P e).getD 0) (Nat.min m n) s with
    | some _, some cs => match base with
      | none => some (goInt (Nat.min m n), M)
      | some a => match cs with
        | [] => some (goInt (Nat.min m n), M)
        | _ :: _ => match writeAt M a cs with
          | some M => some (goInt (Nat.min m n), M)
          | none => none
    | _, _ => none
  | _, _, _ => none

def clearM (P : Program) (t : TypeId) (x : Value) (M : Mem) : Option Mem :=
  match x with
  | .map none | .slice none _ _ | .slice _ 0 _ => match P.underlying t with
    | some _ => some M
    | none => none
  | .map (some r) => match P.underlying t, M.get r with
    | some _, some (.map _ clock) => M.put r (.map [] clock)
    | _, _ => none
  | .slice (some a) n _ => match P.underlying t with
    | some (.slice e) => match zeroOf P e with
      | some z => match isFlat z && Nat.blt 0 z.cells.size with
        | true => writeAt M a (repL z.cells.toList n)
        | false => none
      | none => none
    | _ => none
  | _ => none

def builtinM (P : Program) (b : Builtin) (ts : List TypeId) (args : List Value) (M : Mem) : Option (Value × Mem) :=
  match b, ts, args with
  | .len, t :: _, x :: _ => match lenOf P t x M with
    | some v => some (v, M)
    | none => none
  | .cap, t :: _, x :: _ => match P.underlying t, x with
    | some (.array n _), _ => some (goInt n, M)
    | some (.slice _), .slice none _ c => some (goInt c, M)
    | some (.slice _), .slice (some a) _ c => match M.get a.block with
      | some (.cells _ _ none) => some (goInt c, M)
      | _ => none
    | _, _ => none
  | .append, ts, [s, x] => appendM P ts s x M
  | .copy, t :: _, [d, s] => copyM P t d s M
  | .clear, t :: _, [x] => match clearM P t x M with
    | some M => some (.tuple #[], M)
    | none => none
  | .delete, t :: _, [m, k] => match deleteM P t m k M with
    | some M => some (.tuple #[], M)
    | none => none
  | .min, _, args => match args.all isFlat with
    | true => match eval0 P (Builtin.min_ #[] 0 args.toArray) with
      | some v => match isFlat v with
        | true => some (v, M)
        | false => none
      | none => none
    | false => none
  | .max, _, args => match args.all isFlat with
    | true => match eval0 P (Builtin.max_ #[] 0 args.toArray) with
      | some v => match isFlat v with
        | true => some (v, M)
        | false => none
      | none => none
    | false => none
  | _, _, _ => none

def optEv (G : Nat) (T : Tr Value) : Option Operand → Option (Option Value)
  | none => some none
  | some x => match ev G T x with
    | some v => some (some v)
    | none => none

def placeOf (P : Program) (fs : Array Field) (i : Nat) : Option (Nat × Nat) := match fs.toList[i]? with
  | some f => match szOf P f.type with
    | some n => some (f.offset, n)
    | none => none
  | none => none

/-- One operation that is no call of a function. -/
def opM (P : Program) (G : Nat) (o : Op) (ty : TypeId) (T : Tr Value) (M : Mem) : Option (Value × Mem) :=
  match o with
  | .move x | .assign x => match ev G T x with
    | some v => some (v, M)
    | none => none
  | .pick c a b => match ev G T c, ev G T a, ev G T b with
    | some (.bool true), some v, some _ => some (v, M)
    | some (.bool false), some _, some v => some (v, M)
    | _, _, _ => none
  | .alloc e => match zeroOf P e with
    | some z => match isFlat z with
      | true => match newCells M e z.cells.toList none with
        | some (a, M) => some (.pointer (some a), M)
        | none => none
      | false => none
    | none => none
  | .box e x => match ev G T x with
    | some v => match newCells M e v.cells.toList none with
      | some (a, M) => some (.pointer (some a), M)
      | none => none
    | none => none
  | .build t parts => match zeroOf P t, evps G T parts.toList with
    | some z, some ps => match isFlat z, P.underlying t with
      | true, some (.struct fs) =>
        match fillL (placeOf P fs) z.cells.toList ps with
        | some cs => match fs.toList.all fun f => (szOf P f.type).isSome with
          | true => some (.agg cs.toArray, M)
          | false => none
        | none => none
      | true, some (.array _ e) => match szOf P e with
        | some n => match fillL (fun i => some (i * n, n)) z.cells.toList ps with
          | some cs => some (.agg cs.toArray, M)
          | none => none
        | none => none
      | _, _ => none
    | _, _ => none
  | .buildSlice t len parts => match P.underlying t, evps G T parts.toList with
    | some (.slice e), some ps => match szOf P e, zeroOf P e with
      | some n, some z => match isFlat z && Nat.ble (len * n) 65536 && Nat.beq z.cells.size n && Nat.blt 0 n with
        | true => match fillL (fun i => some (i * n, n)) (repL z.cells.toList len) ps with
          | some cs => match newCells M e cs none with
            | some (a, M) => some (.slice (some a) len len, M)
            | none => none
          | none => none
        | false => none
      | _, _ => none
    | _, _ => none
  | .load t x => match ev G T x with
    | some (.pointer (some a)) => match aggB P t, szOf P t with
      | some true, some n => match cellsAt M a n with
        | some cs => some (.agg cs.toArray, M)
        | none => none
      | some false, _ => match cellsAt M a 1 with
        | some [v] => some (v, M)
        | _ => none
      | _, _ => none
    | _ => none
  | .store t x y => match ev G T x, ev G T y, szOf P t with
    | some (.pointer (some a)), some v, some n => match Nat.beq v.cells.size n with
      | true => match v.cells.toList with
        | [] => none
        | _ :: _ => match writeAt M a v.cells.toList with
          | some M => some (undef, M)
          | none => none
      | false => none
    | _, _, _ => none
  | .nilCheck x => match ev G T x with
    | some (.pointer (some a)) => some (.pointer (some a), M)
    | some (.func (.func f) a b) => some (.func (.func f) a b, M)
    | some (.iface t v) => some (.iface t v, M)
    | _ => none
  | .binOp op t x y _ => match ev G T x, ev G T y with
    | some a, some b => match bin P op t x y a b with
      | some v => some (v, M)
      | none => none
    | _, _ => none
  | .unOp op _ x => match ev G T x with
    | some v => match isFlat v with
      | true => match eval0 P (Op.unary op v) with
        | some v => match isFlat v with
          | true => some (v, M)
          | false => none
        | none => none
      | false => none
    | none => none
  | .convert s d x => match ev G T x with
    | some v => conv P s d v M
    | none => none
  | .makeInterface t x => match ev G T x, P.underlying t with
    | some _, some (.interface _) => none
    | some v, some _ => some (.iface t v, M)
    | _, _ => none
  | .makeFunc (.func f) xs ys => match evs G T xs.toList, evs G T ys.toList with
    | some a, some b => some (.func (.func f) a.toArray b.toArray, M)
    | _, _ => none
  | .makeMap t r => match optEv G T r, P.underlying t with
    | some none, some (.map _ _) | some (some (.int _ _)), some (.map _ _) => match M.new (.map [] 0) with
      | some (b, M) => some (.map (some b), M)
      | none => none
    | _, _ => none
  | .makeSlice t l c => match ev G T l, ev G T c, P.underlying t with
    | some (.int _ l), some (.int _ c), some (.slice e) => match P.info? e with
      | some i => match i.zero with
        | some z => match isFlat z && decide (0 ≤ l) && decide (l ≤ c) && decide (c * i.bytes ≤ 1099511627776) && decide (c ≤ 1099511627776) && Nat.beq z.cells.size i.size && Nat.blt 0 i.size with
          | true => match newCells M e (repL z.cells.toList c.toNat) none with
            | some (a, M) => some (.slice (some a) l.toNat c.toNat, M)
            | none => none
          | false => none
        | none => none
      | none => none
    | _, _, _ => none
  | .slice t x lo hi mx => match ev G T x, optEv G T lo, optEv G T hi, optEv G T mx with
    | some v, some lo, some hi, some mx => match sliceOf P M t v lo hi mx with
      | some v => some (v, M)
      | none => none
    | _, _, _, _ => none
  | .fieldAddr s x f => match ev G T x, fieldOf P s f with
    | some (.pointer (some a)), some f => match szOf P f.type with
      | some (_ + 1) => some (.pointer (some (a.add f.offset)), M)
      | _ => none
    | _, _ => none
  | .field t x f => match ev G T x, fieldOf P t f with
    | some (.agg cs), some f => match partL P f.type cs f.offset with
      | some v => some (v, M)
      | none => none
    | _, _ => none
  | .indexAddr t x i => match ev G T x, ev G T i with
    | some v, some i => match indexA P t v i with
      | some v => some (v, M)
      | none => none
    | _, _ => none
  | .index t x i => match ev G T x, ev G T i with
    | some v, some i => match indexV P t v i with
      | some v => some (v, M)
      | none => none
    | _, _ => none
  | .lookup t x k ok => match ev G T x, ev G T k with
    | some x, some k => match lookupM P t x k ok M with
      | some v => some (v, M)
      | none => none
    | _, _ => none
  | .mapUpdate t x k v | .insert t x k v => match ev G T x, ev G T k, ev G T v with
    | some x, some k, some v => match updateM P t x k v M with
      | some M => some (undef, M)
      | none => none
    | _, _, _ => none
  | .range t x => match ev G T x, P.underlying t with
    | some (.string s), some .string => match M.new (.siter s 0) with
      | some (b, M) => some (.pointer (some ⟨b, 0, none⟩), M)
      | none => none
    | _, _ => none
  | .next x true => match ev G T x with
    | some (.pointer (some ⟨b, 0, none⟩)) => match M.get b with
      | some (.siter s pos) => match Nat.blt pos s.size with
        | true => match Utf8.decode s pos with
          | (c, wd) => match M.put b (.siter s (pos + wd)) with
            | some M => some (.tuple #[.bool true, goInt pos, .int .i32 c], M)
            | none => none
        | false => some (.tuple #[.bool false], M)
      | _ => none
    | _ => none
  | .extract x i => match ev G T x with
    | some (.tuple vs) => match vs.toList[i]? with
      | some v => some (v, M)
      | none => none
    | _ => none
  | .call c => match c.callee with
    | .builtin b => match evs G T c.args.toList with
      | some args => builtinM P b c.argTypes.toList args M
      | none => none
    | _ => none
  | _ => none

/-! ### Code -/
inductive Ex where
  | norm
  | exit (id : Nat)
  | goto (l : Nat)
  | ret

def Ex.code : Ex → Option Code
  | .norm => none
  | .exit i => some (.exit i)
  | .goto l => some (.goto l)
  | .ret => some .ret

structure St where
  T : Tr Value
  nt : Nat
  M : Mem
  D : List Nat

def St.put (s : St) (dst : Option Tmp) (v : Value) (M : Mem) : Option St := match dst with
  | none => some { s with M := M }
  | some d => match Nat.blt d s.nt with
    | true => some { s with T := s.T.set 40 d v, M := M }
    | false => none

abbrev CallF := FuncId → List Value → Mem → Option (Value × Mem)
abbrev YieldF := Nat → List Value → Mem → Option (Value × Mem)

/-- a call of a function value -/
def callV (callF : CallF) (yieldF : YieldF) (f : Value) (args : List Value) (M : Mem) : Option (Value × Mem) :=
  match f with
  | .func (.func g) first caps => callF g (first.toList ++ args ++ caps.toList) M
  | .func (.yield l) _ _ => yieldF l args M
  | _ => none

def opC (P : Program) (G : Nat) (callF : CallF) (yieldF : YieldF) (o : Oper) (T : Tr Value) (M : Mem) : Option (Value × Mem) :=
  match o.op with
  | .call ⟨.value f, args, _⟩ => match ev G T f, evs G T args.toList with
    | some f, some args => callV callF yieldF f args M
    | _, _ => none
  | op => opM P G op o.type T M

/-- is the operation wanted? (its guard) -/
def wantB (ops : List Oper) (o : Oper) (T : Tr Value) : Option Bool := match o.guard with
  | none => some true
  | some (j, w) => match ops[j]? with
    | some g => match g.dst with
      | some d => match T.get d with
        | some (.bool b) => some (b == w)
        | _ => some false
      | none => some false
    | none => some false

def rgn (P : Program) (G : Nat) (callF : CallF) (yieldF : YieldF) (ops : List Oper) : List Oper → St → Option St
  | [], s => some s
  | o :: rest, s => match wantB ops o s.T with
    | some true => match opC P G callF yieldF o s.T s.M with
      | some (v, M) => match s.put o.dst v M with
        | some s => rgn P G callF yieldF ops rest s
        | none => none
      | none => none
    | some false => match s.put o.dst undef s.M with
      | some s => rgn P G callF yieldF ops rest s
      | none => none
    | none => none

/-! ### Regions that draw their order -/
/-- 0: touches no memory; 1: reads; 2: all else -/
def kindOp (P : Program) (o : Oper) : Nat := match o.op with
  | .move _ | .assign _ | .pick .. | .build .. | .binOp .. | .unOp .. | .makeInterface .. | .makeFunc .. | .fieldAddr .. | .field .. | .indexAddr .. | .index .. | .extract .. | .nilCheck _ => 0
  | .load .. | .lookup .. | .slice .. => 1
  | .call ⟨.builtin b, _, _⟩ => match b with
    | .len | .cap => 1
    | .min | .max => 0
    | _ => 2
  | .convert _ d _ => match P.underlying d with
    | some (.slice _) => 2
    | _ => 1
  | _ => 2

def strong (o : Oper) (n : Nat) : List Nat := o.after.toList.filterMap fun e => match Region.binds .any e && Nat.blt e.on n with
  | true => some e.on
  | false => none

/-- what must have been done ahead of each operation: a bit each -/
def masksA : List Oper → List Nat → List Nat
  | [], acc => acc
  | o :: r, acc => masksA r (acc ++ [(strong o acc.length).foldl (fun m j => m ||| 2 ^ j ||| acc.getD j 0) 0])

def pre (ms : List Nat) (i j : Nat) : Bool := (ms.getD i 0).testBit j

def isK (P : Program) (k : Nat) (ops : List Oper) (i : Nat) : Bool := match ops[i]? with
  | some o => Nat.beq (kindOp P o) k
  | none => false

/-- an operation that reads, and an effect that may come ahead of it or behind it -/
def flagged (P : Program) (ops : List Oper) (ms : List Nat) (i : Nat) : Bool :=
  isK P 1 ops i && (List.range ops.length).any fun j => isK P 2 ops j && !(pre ms i j) && !(pre ms j i)

/-- may the effects that were done ahead of operation i be those of the first k operations? -/
def fitsAt (P : Program) (ops : List Oper) (ms : List Nat) (i k : Nat) : Bool :=
  (List.range ops.length).all fun j => !(isK P 2 ops j) || (match Nat.blt j k with
    | true => !(pre ms j i)
    | false => !(pre ms i j))

def veq : Nat → Value → Value → Bool
  | 0, _, _ => false
  | n + 1, x, y => match x, y with
    | .bool a, .bool b => a == b
    | .int j a, .int k b => decide (j = k) && decide (a = b)
    | .string a, .string b => a.data.toList == b.data.toList
    | .pointer a, .pointer b => decide (a = b)
    | .slice a i j, .slice b k l => decide (a = b) && Nat.beq i k && Nat.beq j l
    | .map a, .map b => decide (a = b)
    | .nilFunc, .nilFunc => true
    | .nilIface, .nilIface => true
    | .iface s a, .iface t b => Nat.beq s t && veq n a b
    | .agg a, .agg b => Nat.beq a.size b.size && (a.toList.zip b.toList).all fun p => veq n p.1 p.2
    | .tuple a, .tuple b => Nat.beq a.size b.size && (a.toList.zip b.toList).all fun p => veq n p.1 p.2
    | _, _ => false

def drawChk (P : Program) (G : Nat) (callF : CallF) (yieldF : YieldF) (ops : List Oper) (s : St) : Bool :=
  let ms := masksA ops []
  (List.range ops.length).all fun i => !(flagged P ops ms i) || match ops[i]?, rgn P G callF yieldF ops (ops.take i) s with
    | some o, some si => match wantB ops o si.T with
      | some false => true
      | some true => match opM P G o.op o.type si.T si.M with
        | some (v, _) => (List.range (ops.length + 1)).all fun k => !(fitsAt P ops ms i k) || match rgn P G callF yieldF ops (ops.take k) s with
          | some sk => match opM P G o.op o.type si.T sk.M with
            | some (v', _) => veq 8 v v'
            | none => false
          | none => false
        | none => false
      | none => false
    | _, _ => false

/-- by text alone: temporaries and effects have an order -/
def drawOk (P : Program) (ops : Array Oper) : Bool :=
  let ms := masksA ops.toList []
  (List.range ops.size).all fun j => match ops[j]? with
    | some oj => (oj.after.toList.all fun e => !(Region.binds .any e) || Nat.blt e.on j) && (List.range j).all fun i => match ops[i]? with
      | some oi => pre ms j i || (oi.apart ops oj && !(Nat.beq (kindOp P oi) 2 && Nat.beq (kindOp P oj) 2))
      | none => true
    | none => true

def codeOk (P : Program) : Code → Bool
  | .region _ ops draw => !draw || drawOk P ops
  | .seq a b => codeOk P a && codeOk P b
  | .cond _ a b => codeOk P a && codeOk P b
  | .block _ b => codeOk P b
  | .loop b => codeOk P b
  | .scope b => codeOk P b
  | .rangeFunc _ _ a b => codeOk P a && codeOk P b
  | _ => true

def loopR (ex : St → Option (Ex × St)) : Nat → St → Option (Ex × St)
  | 0, _ => none
  | n + 1, s => match ex s with
    | some (.norm, s) => loopR ex n s
    | some (e, s) => some (e, s)
    | none => none

def scopeR (ex : Code → St → Option (Ex × St)) (body : Code) : Nat → Code → St → Option (Ex × St)
  | 0, _, _ => none
  | n + 1, c, s => match ex c s with
    | some (.goto l, s) => match findLabel body l with
      | some rest => scopeR ex body n rest s
      | none => some (.goto l, s)
    | r => r

def paramsT : List Tmp → List Value → Nat → Tr Value → Option (Tr Value)
  | [], [], _, T => some T
  | t :: ts, v :: vs, nt, T => match Nat.blt t nt with
    | true => paramsT ts vs nt (T.set 40 t v)
    | false => none
  | _, _, _, _ => none

def resultsM (P : Program) (T : Tr Value) (M : Mem) : List ResultVar → Option (List Value)
  | [] => some []
  | r :: rs => match (match r with
      | .tmp t => match T.get t with
        | some v => some v
        | none => some undef
      | .cell a t => match T.get a with
        | some (.pointer (some a)) => match aggB P t, szOf P t with
          | some true, some n => match cellsAt M a n with
            | some cs => some (.agg cs.toArray)
            | none => none
          | some false, _ => match cellsAt M a 1 with
            | some [v] => some v
            | _ => none
          | _, _ => none
        | _ => none) with
    | some v => match resultsM P T M rs with
      | some vs => some (v :: vs)
      | none => none
    | none => none

/-- the marks of ranges over functions go -/
def unmark : List Nat → Mem → Option Mem
  | [], M => some M
  | d :: ds, M => match M.get d with
    | some .ddef => match M.put d .dead with
      | some M => unmark ds M
      | none => none
    | _ => none

def fnEnd (P : Program) (fn : Func) (s : St) : Option (Value × Mem) :=
  match unmark s.D s.M with
  | none => none
  | some M => match resultsM P s.T M fn.results.toList with
    | some [v] => some (v, M)
    | some vs => some (.tuple vs.toArray, M)
    | none => none

def callFn (P : Program) (ex : Code → St → Option (Ex × St)) (f : FuncId) (args : List Value) (M : Mem) : Option (Value × Mem) :=
  match P.funcs[f]? with
  | none => none
  | some fn => match fn.body with
    | none => none
    | some c => match Nat.ble (Nat.max fn.ntmps args.length) 1000000 with
      | false => none
      | true => match ex c ⟨Tr.ofList 0 args .e, Nat.max fn.ntmps args.length, M, []⟩ with
        | some (.norm, s) => fnEnd P fn s
        | some (.ret, s) => fnEnd P fn s
        | _ => none

def yieldFn (ex : Option Nat → Code → St → Option (Ex × St)) (l : Nat) (args : List Value) (M : Mem) : Option (Value × Mem) :=
  match M.get l with
  | some (.loop _ _ _ tmps nt params assign body _) => match paramsT params args nt tmps with
    | none => none
    | some T => match ex (some l) assign ⟨T, nt, M, []⟩ with
      | some (.norm, s) => match s.M.get l with
        | some (.loop .ready p fn tmps nt params a b d) => match s.M.put l (.loop .busy p fn tmps nt params a b d) with
          | none => none
          | some M => match ex (some l) body { s with M := M } with
            | some (e, s) => match s.M.get l with
              | some (.loop _ _ fn tmps nt params a b d) => match e with
                | .norm => match s.M.put l (.loop .ready none fn tmps nt params a b d) with
                  | some M => some (.bool true, M)
                  | none => none
                | e => match s.M.put l (.loop .done e.code fn tmps nt params a b d) with
                  | some M => some (.bool false, M)
                  | none => none
              | _ => none
            | none => none
        | _ => none
      | _ => none
  | _ => none

def exec (P : Program) (G : Nat) : Nat → Option Nat → Code → St → Option (Ex × St)
  | 0, _, _, _ => none
  | n + 1, rd, c, s => match c with
    | .skip | .label _ => some (.norm, s)
    | .region _ ops false => match rgn P G (callFn P (exec P G n none)) (yieldFn (exec P G n)) ops.toList ops.toList s with
      | some s => some (.norm, s)
      | none => none
    | .region _ ops true => match rgn P G (callFn P (exec P G n none)) (yieldFn (exec P G n)) ops.toList ops.toList s, drawChk P G (callFn P (exec P G n none)) (yieldFn (exec P G n)) ops.toList s with
      | some s, true => some (.norm, s)
      | _, _ => none
    | .seq a b => match exec P G n rd a s with
      | some (.norm, s) => exec P G n rd b s
      | r => r
    | .cond c a b => match ev G s.T c with
      | some (.bool true) => exec P G n rd a s
      | some (.bool false) => exec P G n rd b s
      | _ => none
    | .block i b => match exec P G n rd b s with
      | some (.exit j, s) => match Nat.beq j i with
        | true => some (.norm, s)
        | false => some (.exit j, s)
      | r => r
    | .loop b => loopR (exec P G n rd b) 100000 s
    | .exit i => some (.exit i, s)
    | .goto l => some (.goto l, s)
    | .ret => some (.ret, s)
    | .scope b => scopeR (exec P G n rd) b 1000 b s
    | .refuse _ => none
    | .rangeFunc f params assign body => match ev G s.T f with
      | none => none
      | some fv =>
        match (match rd with
          | some l => match s.M.get l with
            | some (.loop _ _ _ _ _ _ _ _ d) => some (d, s.M, [])
            | _ => none
          | none => match s.M.new .ddef with
            | some (d, M) => some (d, M, [d])
            | none => none) with
        | none => none
        | some (d, M, mark) => match M.new (.loop .ready none 0 s.T s.nt params.toList assign body d) with
          | none => none
          | some (l, M) => match callV (callFn P (exec P G n none)) (fun _ _ _ => none) fv [.func (.yield l) #[] #[]] M with
            | none => none
            | some (_, M) => match M.get l with
              | some (.loop .busy ..) => none
              | some (.loop _ p fn tmps nt ps a b d) => match M.put l (.loop .exhausted p fn tmps nt ps a b d) with
                | none => none
                | some M => match p with
                  | none => some (.norm, { s with M := M, D := mark ++ s.D })
                  | some (.exit i) => some (.exit i, { s with M := M, D := mark ++ s.D })
                  | some (.goto g) => some (.goto g, { s with M := M, D := mark ++ s.D })
                  | some .ret => some (.ret, { s with M := M, D := mark ++ s.D })
                  | some _ => none
              | _ => none

/-- what is asked of the whole program -/
def progOk (P : Program) : Bool := P.follows .mixedOrders && P.funcs.toList.all fun fn => !(fn.name == "runtime.NumGoroutine") && match fn.body with
  | some c => codeOk P c
  | none => true

def run (P : Program) (G n : Nat) (f : FuncId) (args : List Value) (M : Mem) : Option (Value × Mem) := callFn P (exec P G n none) f args M

end Go.Abs
