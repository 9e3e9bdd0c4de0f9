/- The abstract interpreter: its memory, its operations, its code, one step of it. -/
import GoSem.Dispatch
namespace Go.AI

/-- A map from numbers, as a binary tree (small under the kernel's reckoning). -/
inductive Tr (α : Type) where
  | nil
  | node (v : Option α) (l r : Tr α)

namespace Tr
variable {α : Type}
def get : Tr α → Nat → Option α
  | .nil, _ => none
  | .node v l r, k =>
    match k with
    | 0 => v
    | k + 1 => bif Nat.beq (k % 2) 0 then l.get (k / 2) else r.get (k / 2)

def put : Nat → Tr α → Nat → Option α → Tr α
  | 0, t, _, _ => t
  | f + 1, .nil, k, x =>
    match k with
    | 0 => .node x .nil .nil
    | k + 1 => bif Nat.beq (k % 2) 0 then .node none (put f .nil (k / 2) x) .nil else .node none .nil (put f .nil (k / 2) x)
  | f + 1, .node v l r, k, x =>
    match k with
    | 0 => .node x l r
    | k + 1 => bif Nat.beq (k % 2) 0 then .node v (put f l (k / 2) x) r else .node v l (put f r (k / 2) x)

def set (t : Tr α) (k : Nat) (x : α) : Tr α := put (k + 1) t k (some x)
def del (t : Tr α) (k : Nat) : Tr α := put (k + 1) t k none
end Tr

abbrev Env := Tr Value
def Env.get (e : Env) (t : Nat) : Value := (Tr.get e t).getD (.tuple #[])

/-- One operation, its types looked up. -/
inductive AOp where
  | mv (x : Operand)
  | pick (c a b : Operand)
  | alloc (z : List Value)
  | box (x : Operand)
  | build (z : List Value) (parts : List (Nat × Nat × Operand))
  | bslice (n : Nat) (z : List Value) (parts : List (Nat × Nat × Operand))
  | load (n : Option Nat) (a : Operand)
  | store (n : Nat) (a v : Operand)
  | nilChk (x : Operand)
  | bin (op : BinOp) (n : List Nat) (x y : Operand)
  | un (op : UnOp) (x : Operand)
  | conv (k : IntKind) (x : Operand)
  | mkfn (f : FuncId) (caps : List Operand)
  | mkmap
  | mkslice (z : List Value) (bytes : Nat) (len cap : Operand)
  | slice (size : Nat) (x : Operand) (lo hi mx : Option Operand)
  | faddr (off : Nat) (x : Operand)
  | iaddr (arr : Option Nat) (size : Nat) (x i : Operand)
  | field (off : Nat) (n : Option Nat) (x : Operand)
  | index (arr : Option (Nat × Nat × Option Nat)) (x i : Operand)
  | look (n : List Nat) (z : Value) (ok : Bool) (x i : Operand)
  | mupd (n : List Nat) (m k v : Operand)
  | rngNil (x : Operand)
  | nxt (x : Operand)
  | ext (i : Nat) (x : Operand)
  | call (f : Operand) (args : List Operand)
  | blen (x : Operand)
  | slen (x : Operand)
  | append (z : List Value) (bytes : Nat) (zeros : Bool) (s x : Operand)
  | copy (size : Nat) (d s : Operand)
  | clear (z : List Value) (x : Operand)
  | bmin (x y : Operand)
  | bcap (x : Operand)
  | bad
  deriving Inhabited

structure AOper where
  dst : Option Nat
  guard : Option (Nat × Bool)
  op : AOp
  deriving Inhabited

inductive ACode where
  | skip
  | ops (l : List AOper)
  | draw (l : List (AOper × List Nat))
  | seq (a b : ACode)
  | cond (c : Operand) (a b : ACode)
  | block (id : Nat) (c : ACode)
  | loop (c : ACode)
  | rng (f : Operand) (ps : List Nat) (asg body : ACode)
  | exit (id : Nat)
  | ret
  | bad
  deriving Inhabited

inductive ARes where
  | tmp (t : Nat)
  | cell (a : Nat) (n : Option Nat)

/-- How far a loop over a function has come. -/
inductive LSt where
  | ready | busy | done (j : Option Nat)

/-- What lies at a number of the abstract memory. 'opn', if it is not 0: behind its cells the true block may have more, of elements of so many cells. -/
inductive AObj where
  | blk (cells : List Value) (ro : Bool) (opn : Nat) (stamp : Nat)
  | loop (env : Env) (ps : List Nat) (asg body : ACode) (st : LSt)
  | map (es : List (Value × Value))
  | itr

structure Heap where
  next : Nat
  clock : Nat
  tr : Tr AObj

def WF (h : Heap) : Prop := ∀ b o, h.tr.get b = some o → b < h.next

/-- What an operation leaves alone: objects that it does not write stand as they stood. -/
structure Keeps (h h' : Heap) : Prop where
  next : h.next ≤ h'.next
  clock : h.clock ≤ h'.clock
  old : ∀ b cs ro o s, b < h.next → h'.tr.get b = some (.blk cs ro o s) → s < h.clock → h.tr.get b = some (.blk cs ro o s)
  wf : WF h → WF h'
  mp : ∀ b, b < h.next → h'.tr.get b = some (.map []) → h.tr.get b = some (.map [])

/-- How a function is called: as it stands, by a rule that was proved for it, or as slices.overlaps. -/
inductive Prim where
  | no
  | run (p : List Value → Heap → Option (Value × Heap)) (hp : ∀ args h v h', p args h = some (v, h') → Keeps h h')
  | ovl

structure AFunc where
  res : List ARes
  body : ACode
  prim : Prim := .no

inductive AExit where
  | normal
  | exit (id : Nat)
  | ret

def ev (e : Env) : Operand → Value
  | .tmp t => Env.get e t
  | .const v => v
  | .global g => .pointer (some ⟨g, 0, none⟩)
  | .func f => .func (.func f) #[] #[]

def putE (e : Env) : Option Nat → Value → Env
  | none, _ => e
  | some t, v => Tr.set e t v

def Heap.new (h : Heap) (o : AObj) : Heap := { h with next := h.next + 1, tr := h.tr.set h.next o }

def newBlk (h : Heap) (cells : List Value) (opn : Nat) : Heap := h.new (.blk cells false opn 0)

/-- cells of an aggregate or of one cell -/
def agg (n : Option Nat) (cs : List Value) : Option Value :=
  match n with
  | some n => if Nat.beq cs.length n then some (.agg ⟨cs⟩) else none
  | none => match cs with
    | [v] => some v
    | _ => none

def width (n : Option Nat) : Nat := match n with | some n => n | none => 1

def readAt (h : Heap) (b off n : Nat) : Option (List Value) :=
  match h.tr.get b with
  | some (.blk cs _ _ _) => let r := (cs.drop off).take n; if Nat.beq r.length n then some r else none
  | _ => none

def splice (cs : List Value) (off : Nat) (vs : List Value) : List Value := cs.take off ++ vs ++ cs.drop (off + vs.length)

def writeAt (h : Heap) (b off : Nat) (vs : List Value) : Option Heap :=
  match h.tr.get b with
  | some (.blk cs false o _) =>
    if Nat.ble (off + vs.length) cs.length then some { h with clock := h.clock + 1, tr := h.tr.set b (.blk (splice cs off vs) false o h.clock) } else none
  | _ => none

def cellsOf : Value → List Value
  | .agg cs => cs.toList
  | v => [v]

/-- a value of one cell -/
def plain : Value → Bool
  | .agg _ => false
  | .tuple _ => false
  | .chan _ => false
  | _ => true

/-- a value of one cell that is no function -/
def simple : Value → Bool
  | .agg _ => false
  | .tuple _ => false
  | .chan _ => false
  | .func _ _ _ => false
  | _ => true

/-- the cells of a value, if they are cells -/
def flat (v : Value) : Option (List Value) := bif (cellsOf v).all plain then some (cellsOf v) else none

/-- put parts into cells -/
def fillIn (e : Env) : List Value → List (Nat × Nat × Operand) → Option (List Value)
  | cs, [] => some cs
  | cs, (off, n, x) :: r => match flat (ev e x) with
    | some vs => if Nat.beq vs.length n && Nat.ble (off + n) cs.length then fillIn e (splice cs off vs) r else none
    | none => none

def repl (z : List Value) : Nat → List Value
  | 0 => []
  | n + 1 => z ++ repl z n

/-- equality of cells that are compared as they stand; k: 0 bools, 1 integers, 2 strings -/
def eqCell (k : Nat) (a b : Value) : Option Bool :=
  match k, a, b with
  | 0, .bool a, .bool b => some (a == b)
  | 1, .int k a, .int k' b => if k = k' then some (a == b) else none
  | 2, .string a, .string b => some (a == b)
  | _, _, _ => none

def eqCells : List Nat → List Value → List Value → Option Bool
  | [], [], [] => some true
  | k :: ks, a :: as', b :: bs => match eqCell k a b, eqCells ks as' bs with
    | some x, some y => some (x && y)
    | _, _ => none
  | _, _, _ => none

/-- ks: 9 and the kinds of an aggregate's cells, or the one kind (3 slices, 4 pointers, 5 maps, 6 functions: against nil) -/
def eqVal (ks : List Nat) (a b : Value) : Option Bool :=
  match a, b with
  | .agg a, .agg b => match ks with
    | 9 :: ks => eqCells ks a.toList b.toList
    | _ => none
  | a, b => match ks with
    | [3] => match a, b with
      | .slice none _ _, .slice b _ _ => some b.isNone
      | .slice (some _) _ _, .slice none _ _ => some false
      | _, _ => none
    | [4] => match a, b with
      | .pointer none, .pointer b => some b.isNone
      | .pointer (some _), .pointer none => some false
      | _, _ => none
    | [5] => match a, b with
      | .map none, .map b => some b.isNone
      | .map (some _), .map none => some false
      | _, _ => none
    | [6] => match a, b with
      | .nilFunc, .nilFunc => some true
      | .nilFunc, .func _ _ _ => some false
      | .func _ _ _, .nilFunc => some false
      | _, _ => none
    | [k] => eqCell k a b
    | _ => none

def intBin (op : BinOp) (k : IntKind) (a b : Int) : Option Value :=
  match op with
  | .add => some (.int k (k.wrap (a + b)))
  | .sub => some (.int k (k.wrap (a - b)))
  | .mul => some (.int k (k.wrap (a * b)))
  | .quo => if b = 0 then none else some (.int k (k.wrap (a.tdiv b)))
  | .rem => if b = 0 then none else some (.int k (a.tmod b))
  | .and => some (.int k (k.wrap (BitVec.ofInt k.bits a &&& BitVec.ofInt k.bits b).toNat))
  | .or => some (.int k (k.wrap (BitVec.ofInt k.bits a ||| BitVec.ofInt k.bits b).toNat))
  | .xor => some (.int k (k.wrap (BitVec.ofInt k.bits a ^^^ BitVec.ofInt k.bits b).toNat))
  | .andNot => some (.int k (k.wrap (BitVec.ofInt k.bits a &&& ~~~(BitVec.ofInt k.bits b)).toNat))
  | .eql => some (.bool (a == b))
  | .neq => some (.bool (a != b))
  | .lss => some (.bool (a < b))
  | .leq => some (.bool (a ≤ b))
  | .gtr => some (.bool (a > b))
  | .geq => some (.bool (a ≥ b))
  | _ => none

def shiftBin (op : BinOp) (k : IntKind) (a b : Int) : Option Value :=
  if b < 0 then none else
  match op with
  | .shl => some (.int k (k.wrap (a * 2 ^ (min b.toNat k.bits))))
  | .shr => some (.int k (a.fdiv (2 ^ (min b.toNat k.bits))))
  | _ => none

def binV (op : BinOp) (n : List Nat) (x y : Value) : Option Value :=
  match op with
  | .shl => match x, y with | .int k a, .int _ b => shiftBin .shl k a b | _, _ => none
  | .shr => match x, y with | .int k a, .int _ b => shiftBin .shr k a b | _, _ => none
  | .eql => match x, y with
    | .int k a, .int k' b => if k = k' then intBin .eql k a b else none
    | x, y => match eqVal n x y with | some b => some (.bool b) | none => none
  | .neq => match x, y with
    | .int k a, .int k' b => if k = k' then intBin .neq k a b else none
    | x, y => match eqVal n x y with | some b => some (.bool (!b)) | none => none
  | .gtr => match x, y with
    | .int k a, .int k' b => if k = k' then intBin .gtr k a b else none
    | .int .i64 a, .chan (some c) => if a ≤ (c : Int) then some (.bool false) else none
    | _, _ => none
  | op => match x, y with | .int k a, .int k' b => if k = k' then intBin op k a b else none | _, _ => none

def unV (op : UnOp) (x : Value) : Option Value :=
  match op, x with
  | .neg, .int k n => some (.int k (k.wrap (0 - n)))
  | .xor, .int k n => some (.int k (k.wrap (BitVec.ofInt k.bits (if k.signed then -1 else k.max) ^^^ BitVec.ofInt k.bits n).toNat))
  | .not, .bool b => some (.bool !b)
  | _, _ => none

/-- a bound of a slice expression -/
def bound (e : Env) (x : Option Operand) (dflt top : Nat) : Option Nat :=
  match x with
  | none => some dflt
  | some x => match ev e x with
    | .int _ (.ofNat i) => if Nat.ble i top then some i else none
    | _ => none

/-- the limit of bytes that the interpreter lets a slice take -/
def roomy (bytes : Nat) : Bool := Nat.ble bytes 1099511627776

/-- the cells that an append adds -/
def news (h : Heap) (z : List Value) (zeros : Bool) (x : Value) : Option (Nat × List Value) :=
  match zeros, x with
  | true, .int _ (.ofNat n) => if roomy n then some (n, repl z n) else none
  | false, .slice none n _ => if Nat.beq n 0 then some (0, []) else none
  | false, .slice (some ⟨b, off, none⟩) n _ => if Nat.beq n 0 then some (0, []) else match readAt h b off (n * z.length) with
    | some cs => some (n, cs)
    | none => none
  | _, _ => none

def appendV (h : Heap) (z : List Value) (bytes : Nat) (s : Value) (n : Nat) (cs : List Value) : Option (Value × Heap) :=
  match s with
  | .slice a len cap =>
    if Nat.blt 0 z.length then
    if Nat.beq n 0 then (if Nat.ble len cap then some (.slice a len cap, h) else none) else
    if roomy (len + n) && roomy ((len + n) * bytes) then
      match a with
      | none => if Nat.beq len 0 && Nat.beq cap 0 then some (.slice (some ⟨h.next, 0, none⟩) n n, newBlk h cs z.length) else none
      | some ⟨b, off, none⟩ =>
        match h.tr.get b with
        | some (.blk old false o _) =>
          if Nat.ble (len + n) cap then
            match writeAt h b (off + len * z.length) cs with
            | some h' => some (.slice (some ⟨b, off, none⟩) (len + n) cap, h')
            | none => none
          else
            let r := (old.drop off).take (len * z.length)
            if Nat.beq r.length (len * z.length) then
              if Nat.beq o 0 || !(Nat.beq (off + cap * o) old.length) then
                some (.slice (some ⟨h.next, 0, none⟩) (len + n) (len + n), newBlk h (r ++ cs) z.length)
              else if Nat.beq o z.length then
                some (.slice (some ⟨h.next, 0, none⟩) (len + n) (len + n), newBlk { h with tr := h.tr.del b } (r ++ cs) z.length)
              else none
            else none
        | _ => none
      | _ => none
    else none
    else none
  | _ => none

def lookIn (n : List Nat) (k : Value) : List (Value × Value) → Option (Option Value)
  | [] => some none
  | (k', v) :: r => match eqVal n k k' with
    | some true => some (some v)
    | some false => lookIn n k r
    | none => none

def plainK : Value → Bool
  | .agg cs => cs.toList.all plain
  | k => plain k

/-- has a key as many cells as there are kinds? -/
def keyOk : List Nat → Value → Bool
  | 9 :: ks, .agg cs => Nat.beq cs.toList.length ks.length
  | 9 :: _, _ => false
  | _, _ => true

def updIn (n : List Nat) (k v : Value) : List (Value × Value) → Option (List (Value × Value))
  | [] => if plainK k && plain v then some [(k, v)] else none
  | (k', v') :: r => match eqVal n k k' with
    | some true => if plainK k && plain v then some ((k, v) :: r) else none
    | some false => match updIn n k v r with | some r' => some ((k', v') :: r') | none => none
    | none => none

def vals (e : Env) (l : List Operand) : List Value := l.map (ev e)

/-- An operation that calls nothing. -/
def opV (e : Env) (h : Heap) : AOp → Option (Value × Heap)
  | .mv x => some (ev e x, h)
  | .pick c a b => match ev e c with
    | .bool true => some (ev e a, h)
    | .bool false => some (ev e b, h)
    | _ => none
  | .alloc z => some (.pointer (some ⟨h.next, 0, none⟩), newBlk h z 0)
  | .box x => match flat (ev e x) with
    | some vs => some (.pointer (some ⟨h.next, 0, none⟩), newBlk h vs 0)
    | none => none
  | .build z parts => match fillIn e z parts with
    | some cs => some (.agg ⟨cs⟩, h)
    | none => none
  | .bslice n z parts => match fillIn e z parts with
    | some cs => some (.slice (some ⟨h.next, 0, none⟩) n n, newBlk h cs 0)
    | none => none
  | .load n a => match ev e a with
    | .pointer (some ⟨b, off, none⟩) => match readAt h b off (width n) with
      | some cs => match agg n cs with | some v => some (v, h) | none => none
      | none => none
    | _ => none
  | .store n a v => match ev e a with
    | .pointer (some ⟨b, off, none⟩) => match flat (ev e v) with
      | some vs => if Nat.beq vs.length n then match writeAt h b off vs with
          | some h' => some (.tuple #[], h')
          | none => none
        else none
      | none => none
    | _ => none
  | .nilChk x => match ev e x with
    | .pointer (some a) => some (.pointer (some a), h)
    | _ => none
  | .bin op n x y => match binV op n (ev e x) (ev e y) with
    | some v => some (v, h)
    | none => none
  | .un op x => match unV op (ev e x) with
    | some v => some (v, h)
    | none => none
  | .conv k x => match ev e x with
    | .int _ n => some (.int k (k.wrap n), h)
    | _ => none
  | .mkfn f caps => bif (vals e caps).all simple then some (.func (.func f) #[] ⟨vals e caps⟩, h) else none
  | .mkmap => some (.map (some h.next), h.new (.map []))
  | .mkslice z bytes len cap => match ev e len, ev e cap with
    | .int .i64 (.ofNat l), .int .i64 (.ofNat c) =>
      if Nat.ble l c && roomy (c * bytes) && Nat.blt 0 z.length && roomy c then some (.slice (some ⟨h.next, 0, none⟩) l c, newBlk h (repl z c) 0) else none
    | _, _ => none
  | .slice size x lo hi mx => match ev e x with
    | .slice a len cap =>
      match bound e mx cap cap with
      | none => none
      | some m => match bound e hi len m with
        | none => none
        | some hh => match bound e lo 0 hh with
          | none => none
          | some l => match a with
            | none => some (.slice none (hh - l) (m - l), h)
            | some ⟨b, off, none⟩ => match h.tr.get b with
              | some (.blk _ _ o _) => bif Nat.beq o 0 || Nat.beq o size then some (.slice (some ⟨b, off + l * size, none⟩) (hh - l) (m - l), h) else none
              | _ => none
            | _ => none
    | _ => none
  | .faddr off x => match ev e x with
    | .pointer (some ⟨b, o, none⟩) => some (.pointer (some ⟨b, o + off, none⟩), h)
    | _ => none
  | .iaddr arr size x i => match ev e i with
    | .int _ (.ofNat i) => match arr, ev e x with
      | some n, .pointer (some ⟨b, o, none⟩) => if Nat.blt i n then some (.pointer (some ⟨b, o + i * size, none⟩), h) else none
      | none, .slice (some ⟨b, o, none⟩) len _ => if Nat.blt i len then some (.pointer (some ⟨b, o + i * size, none⟩), h) else none
      | _, _ => none
    | _ => none
  | .field off n x => match ev e x with
    | .agg cs => match agg n ((cs.toList.drop off).take (width n)) with
      | some v => some (v, h)
      | none => none
    | _ => none
  | .index arr x i => match ev e i with
    | .int _ (.ofNat i) => match arr, ev e x with
      | some (len, size, n), .agg cs => if Nat.blt i len then match agg n ((cs.toList.drop (i * size)).take (width n)) with
          | some v => some (v, h)
          | none => none
        else none
      | none, .string s => match s[i]? with
        | some b => some (.int .u8 b.toNat, h)
        | none => none
      | _, _ => none
    | _ => none
  | .look n z ok x i => bif keyOk n (ev e i) then
    let r := match ev e x with
      | .map none => some none
      | .map (some r) => match h.tr.get r with
        | some (.map es) => lookIn n (ev e i) es
        | _ => none
      | _ => none
    match r with
    | none => none
    | some none => some (if ok then .tuple #[z, .bool false] else z, h)
    | some (some v) => some (if ok then .tuple #[v, .bool true] else v, h)
    else none
  | .mupd n m k v => bif keyOk n (ev e k) then match ev e m with
    | .map (some r) => match h.tr.get r with
      | some (.map es) => match updIn n (ev e k) (ev e v) es with
        | some es' => some (.tuple #[], { h with clock := h.clock + 1, tr := h.tr.set r (.map es') })
        | none => none
      | _ => none
    | _ => none
    else none
  | .rngNil x => match ev e x with
    | .map none => some (.pointer (some ⟨h.next, 0, none⟩), h.new .itr)
    | _ => none
  | .nxt x => match ev e x with
    | .pointer (some ⟨b, 0, none⟩) => match h.tr.get b with
      | some .itr => some (.tuple #[.bool false], h)
      | _ => none
    | _ => none
  | .ext i x => match ev e x with
    | .tuple vs => match vs.toList[i]? with
      | some v => some (v, h)
      | none => none
    | _ => none
  | .blen x => match ev e x with
    | .slice _ n _ => some (.int .i64 n, h)
    | _ => none
  | .slen x => match ev e x with
    | .string s => some (.int .i64 s.size, h)
    | _ => none
  | .append z bytes zeros s x => match news h z zeros (ev e x) with
    | some (n, cs) => appendV h z bytes (ev e s) n cs
    | none => none
  | .copy size d s => match ev e d, ev e s with
    | .slice da dn _, .slice sa sn _ =>
      let n := Nat.min sn dn
      if Nat.beq n 0 then some (.int .i64 0, h) else
      match da, sa with
      | some ⟨db, doff, none⟩, some ⟨sb, soff, none⟩ => match readAt h sb soff (n * size) with
        | some cs => match writeAt h db doff cs with
          | some h' => some (.int .i64 n, h')
          | none => none
        | none => none
      | _, _ => none
    | _, _ => none
  | .clear z x => match ev e x with
    | .slice a n _ => if Nat.beq n 0 then some (.tuple #[], h) else match a with
      | some ⟨b, off, none⟩ => match writeAt h b off (repl z n) with
        | some h' => some (.tuple #[], h')
        | none => none
      | _ => none
    | _ => none
  | .bmin x y => match ev e x, ev e y with
    | .int k a, .int k' b => if k = k' then some (.int k (if b < a then b else a), h) else none
    | _, _ => none
  | .bcap x => match ev e x with
    | .slice none _ c => some (.int .i64 c, h)
    | .slice (some ⟨b, _, none⟩) _ c => match h.tr.get b with
      | some (.blk _ _ o _) => if Nat.beq o 0 then some (.int .i64 c, h) else some (.chan (some c), h)
      | _ => none
    | _ => none
  | .call _ _ => none
  | .bad => none

abbrev R := Option (AExit × Env × Heap)

def params : Env → Nat → List Value → Env
  | e, _, [] => e
  | e, i, v :: r => params (Tr.set e i v) (i + 1) r

def results (e : Env) (h : Heap) : List ARes → Option (List Value)
  | [] => some []
  | .tmp t :: r => match results e h r with | some l => some (Env.get e t :: l) | none => none
  | .cell a n :: r => match Env.get e a with
    | .pointer (some ⟨b, off, none⟩) => match readAt h b off (width n) with
      | some cs => match agg n cs with
        | some v => match results e h r with | some l => some (v :: l) | none => none
        | none => none
      | none => none
    | _ => none

def noTuple : Value → Bool
  | .tuple _ => false
  | .chan _ => false
  | _ => true

def result : List Value → Value
  | [v] => v
  | l => .tuple ⟨l⟩

def resultOk : List Value → Bool
  | [_] => true
  | l => l.all noTuple

def setParams : Env → List Nat → List Value → Option Env
  | e, [], [] => some e
  | e, t :: ts, v :: vs => setParams (Tr.set e t v) ts vs
  | _, _, _ => none

/-- slices.overlaps: two blocks that can be written are apart -/
def ovlV : List Value → Heap → Option (Value × Heap)
  | [.slice (some ⟨a, _, none⟩) la _, .slice (some ⟨b, _, none⟩) lb _], h =>
    match h.tr.get a, h.tr.get b with
    | some (.blk _ false _ _), some (.blk _ false _ _) => bif Nat.beq la 0 || Nat.beq lb 0 || !(Nat.beq a b) then some (.bool false, h) else none
    | _, _ => none
  | _, _ => none

section
variable (F : Nat → Option AFunc) (ih : ACode → Env → Heap → R)

def callG (o : Bool) (f : Nat) (args : List Value) (h : Heap) : Option (Value × Heap) :=
  match F f with
  | none => none
  | some fn => match fn.prim with
    | .ovl => bif o then ovlV args h else none
    | .run p _ => p args h
    | .no => match ih fn.body (params .nil 0 args) h with
      | some (.normal, e', h') | some (.ret, e', h') => match results e' h' fn.res with
        | some vs => bif resultOk vs then some (result vs, h') else none
        | none => none
      | _ => none

abbrev callF (f : Nat) (args : List Value) (h : Heap) : Option (Value × Heap) := callG F ih false f args h

def setLoop (h : Heap) (l : Nat) (env : Env) (ps : List Nat) (asg body : ACode) (st : LSt) : Heap := { h with tr := h.tr.set l (.loop env ps asg body st) }

/-- The end of a round. -/
def roundE (l : Nat) (h : Heap) (st : LSt) (v : Bool) : Option (Value × Heap) :=
  match h.tr.get l with
  | some (.loop env ps asg body .busy) => some (.bool v, setLoop h l env ps asg body st)
  | _ => none

/-- The body of a round, behind the assignment of its variables. -/
def roundB (l : Nat) (code : ACode) (e : Env) (h : Heap) : Option (Value × Heap) :=
  match h.tr.get l with
  | some (.loop env ps asg body .ready) =>
    match ih code e (setLoop h l env ps asg body .busy) with
    | some (.normal, _, h) => roundE l h .ready true
    | some (.ret, _, h) => roundE l h (.done none) false
    | some (.exit id, _, h) => roundE l h (.done (some id)) false
    | none => none
  | _ => none

/-- One round of a loop over a function. -/
def roundF (l : Nat) (args : List Value) (h : Heap) : Option (Value × Heap) :=
  match h.tr.get l with
  | some (.loop env ps asg body .ready) =>
    match setParams env ps args with
    | none => none
    | some e => match ih asg e h with
      | some (.normal, e, h) => roundB ih l body e h
      | _ => none
  | _ => none

def callV (fv : Value) (args : List Value) (h : Heap) : Option (Value × Heap) :=
  match fv with
  | .func (.func f) first caps => callG F ih true f (first.toList ++ args ++ caps.toList) h
  | .func (.yield l) _ _ => roundF ih l args h
  | _ => none


/-- The guard of an operation: the slot of the one that it hangs on, and what must stand there. -/
def wanted (e : Env) : Option (Nat × Bool) → Bool
  | none => true
  | some (t, b) => match Env.get e t with
    | .bool c => c == b
    | _ => false

/-- One operation, run if it is wanted. -/
def operF (o : AOper) (e : Env) (h : Heap) : Option (Env × Heap) :=
  bif wanted e o.guard then
    match o.op with
    | .call f args => match callV F ih (ev e f) (vals e args) h with
      | some (v, h') => some (putE e o.dst v, h')
      | none => none
    | op => match opV e h op with
      | some (v, h') => some (putE e o.dst v, h')
      | none => none
  else some (putE e o.dst (.tuple #[]), h)

def opsF : List AOper → Env → Heap → Option (Env × Heap)
  | [], e, h => some (e, h)
  | o :: r, e, h => match operF F ih o e h with
    | some (e, h) => opsF r e h
    | none => none

/-- What was loaded at some addresses has not been written since a time. -/
def still (e : Env) (h : Heap) (clock : Nat) : List Nat → Bool
  | [] => true
  | t :: r => match Env.get e t with
    | .pointer (some ⟨b, _, none⟩) => match h.tr.get b with
      | some (.blk _ _ _ s) => Nat.ble s clock && still e h clock r
      | _ => false
    | .slice (some ⟨b, _, none⟩) _ _ => match h.tr.get b with
      | some (.blk _ _ _ s) => Nat.ble s clock && still e h clock r
      | _ => false
    | .map (some b) => match h.tr.get b with
      | some (.map []) => still e h clock r
      | _ => false
    | .map none => still e h clock r
    | .tuple _ => still e h clock r
    | .pointer none => still e h clock r
    | .slice none _ _ => still e h clock r
    | _ => false

/-- The operations of a region that draws its order, in the text's order; behind each those addresses that must be still. -/
def drawF (clock : Nat) : List (AOper × List Nat) → Env → Heap → Option (Env × Heap)
  | [], e, h => some (e, h)
  | (o, chk) :: r, e, h => match operF F ih o e h with
    | some (e, h) => bif still e h clock chk then drawF clock r e h else none
    | none => none

def stepC : ACode → Env → Heap → R
  | .skip, e, h => some (.normal, e, h)
  | .ops l, e, h => match opsF F ih l e h with
    | some (e, h) => some (.normal, e, h)
    | none => none
  | .draw l, e, h => match drawF F ih h.clock l e { h with clock := h.clock + 1 } with
    | some (e, h) => some (.normal, e, h)
    | none => none
  | .seq a b, e, h => match ih a e h with
    | some (.normal, e, h) => ih b e h
    | r => r
  | .cond c a b, e, h => match ev e c with
    | .bool true => ih a e h
    | .bool false => ih b e h
    | _ => none
  | .block id c, e, h => match ih c e h with
    | some (.exit i, e, h) => bif Nat.beq i id then some (.normal, e, h) else some (.exit i, e, h)
    | r => r
  | .loop c, e, h => match ih c e h with
    | some (.normal, e, h) => ih (.loop c) e h
    | r => r
  | .exit id, e, h => some (.exit id, e, h)
  | .ret, e, h => some (.ret, e, h)
  | .rng f ps asg body, e, h => match ev e f with
    | .func (.func g) first caps => match callF F ih g (first.toList ++ [.func (.yield h.next) #[] #[]] ++ caps.toList) (h.new (.loop e ps asg body .ready)) with
      | some (_, h') => match h'.tr.get h.next with
        | some (.loop _ _ _ _ .ready) => some (.normal, e, { h' with tr := h'.tr.del h.next })
        | some (.loop _ _ _ _ (.done none)) => some (.ret, e, { h' with tr := h'.tr.del h.next })
        | some (.loop _ _ _ _ (.done (some id))) => some (.exit id, e, { h' with tr := h'.tr.del h.next })
        | _ => none
      | none => none
    | _ => none
  | .bad, _, _ => none
end

def run (F : Nat → Option AFunc) : Nat → ACode → Env → Heap → R :=
  Nat.rec (fun _ _ _ => none) (fun _ ih => stepC F ih)

def call (F : Nat → Option AFunc) (fuel f : Nat) (args : List Value) (h : Heap) : Option (Value × Heap) := callF F (run F fuel) f args h

section
variable {F : Nat → Option AFunc} {ih : ACode → Env → Heap → R}
theorem callG_true {f : Nat} {args : List Value} {h h' : Heap} {v : Value} (hc : callG F ih true f args h = some (v, h')) :
    callG F ih false f args h = some (v, h') ∨ ∃ fn, F f = some fn ∧ fn.prim = .ovl ∧ ovlV args h = some (v, h') := by
  unfold callG at hc ⊢
  cases hf : F f with
  | none => rw [hf] at hc; cases hc
  | some fn =>
    rw [hf] at hc
    dsimp only at hc ⊢
    cases hp : fn.prim with
    | ovl => rw [hp] at hc; exact .inr ⟨fn, rfl, hp, hc⟩
    | run p k => rw [hp] at hc; exact .inl hc
    | no => rw [hp] at hc; exact .inl hc
theorem callG_false {f : Nat} {args : List Value} {h h' : Heap} {v : Value} (hc : callG F ih false f args h = some (v, h')) : callG F ih true f args h = some (v, h') := by
  unfold callG at hc ⊢
  cases hf : F f with
  | none => rw [hf] at hc; cases hc
  | some fn =>
    rw [hf] at hc
    dsimp only at hc ⊢
    cases hp : fn.prim with
    | ovl => rw [hp] at hc; cases hc
    | run p k => rw [hp] at hc; exact hc
    | no => rw [hp] at hc; exact hc
theorem ovlV_same {args : List Value} {h h' : Heap} {v : Value} (hc : ovlV args h = some (v, h')) : v = .bool false ∧ h' = h ∧
    ∃ a oa la ca b ob lb cb csa o1 s1 csb o2 s2, args = [.slice (some ⟨a, oa, none⟩) la ca, .slice (some ⟨b, ob, none⟩) lb cb] ∧ h.tr.get a = some (.blk csa false o1 s1) ∧ h.tr.get b = some (.blk csb false o2 s2) ∧ (la = 0 ∨ lb = 0 ∨ a ≠ b) := by
  unfold ovlV at hc
  split at hc
  · rename_i a oa la ca b ob lb cb
    split at hc
    · rename_i c1 o1 s1 c2 o2 s2 h1 h2
      cases hb : (Nat.beq la 0 || Nat.beq lb 0 || !(Nat.beq a b)) with
      | false => rw [hb] at hc; cases hc
      | true =>
        rw [hb] at hc
        cases hc
        refine ⟨rfl, rfl, a, oa, la, ca, b, ob, lb, cb, _, _, _, _, _, _, rfl, h1, h2, ?_⟩
        simp only [Bool.or_eq_true, Bool.not_eq_true'] at hb
        rcases hb with (h | h) | h
        · exact .inl (Nat.eq_of_beq_eq_true h)
        · exact .inr (.inl (Nat.eq_of_beq_eq_true h))
        · exact .inr (.inr fun e => by rw [e, Nat.beq_refl] at h; cases h)
    · cases hc
  · cases hc
end
end Go.AI
