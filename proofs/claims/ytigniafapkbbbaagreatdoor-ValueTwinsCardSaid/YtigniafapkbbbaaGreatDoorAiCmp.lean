/- The abstract code of the true code; how a memory and its abstraction stand together. -/
import Derived.Test.YtigniafapkbbbaaGreatDoorAiRel
import Derived.Test.YtigniafapkbbbaaGreatDoorAiMach
import Derived.Below
namespace Go.AI

/-- a cell that means the same on both sides -/
def constCell : Value → Bool
  | .bool _ | .int _ _ | .string _ | .pointer none | .slice none _ _ | .map none | .nilFunc | .nilIface => true
  | _ => false

/-- What is known of a type. -/
structure TI where
  u : TypeDesc
  size : Nat
  bytes : Nat
  zero : List Value
  agg : Bool

abbrev Tab := Nat → Option TI

def isAggD : TypeDesc → Bool
  | .struct _ => true
  | .array _ _ => true
  | _ => false

structure TabOk1 (P : Program) (t : Nat) (i : TI) : Prop where
  u : P.underlying t = some i.u
  info : ∃ ti, P.info? t = some ti ∧ ti.size = i.size ∧ ti.bytes = i.bytes ∧ ∃ z, ti.zero = some z ∧ z.cells.toList = i.zero
  agg : i.agg = isAggD i.u
  zero : i.zero.all constCell = true
  plain : i.agg = false → i.size = 1
  len : i.zero.length = i.size
  held : ∀ fs, i.u = .struct fs → P.stoodInHeld t = false
  one : i.agg = false → ∀ ti z, P.info? t = some ti → ti.zero = some z → AI.plain z = true

def TabOk (P : Program) (T : Tab) : Prop := ∀ t i, T t = some i → TabOk1 P t i

/-- fields that lie one behind the other from a place on: where they end -/
def contig (T : Tab) : Nat → List Field → Option Nat
  | off, [] => some off
  | off, f :: fs => bif Nat.beq f.offset off then match T f.type with
      | some i => contig T (off + i.size) fs
      | none => none
    else none

def kindsOf (k : Nat → Option (List Nat)) : List Field → Option (List Nat)
  | [] => some []
  | f :: fs => bif f.name != "_" then match k f.type, kindsOf k fs with
      | some a, some b => some (a ++ b)
      | _, _ => none
    else none

/-- the kinds of an array's cells -/
def repK (ks : List Nat) : Nat → List Nat
  | 0 => []
  | n + 1 => ks ++ repK ks n

/-- the kinds of the cells of a type that is compared cell by cell -/
def kinds (T : Tab) : Nat → Nat → Option (List Nat)
  | 0, _ => none
  | d + 1, t => match T t with
    | none => none
    | some i => match i.u with
      | .bool => some [0]
      | .int _ => some [1]
      | .string => some [2]
      | .struct fs => match contig T 0 fs.toList with
        | some n => bif Nat.beq n i.size then kindsOf (kinds T d) fs.toList else none
        | none => none
      | .array n el => match T el with
        | some e => bif Nat.beq (n * e.size) i.size then (match kinds T d el with | some ks => some (repK ks n) | none => none) else none
        | none => none
      | _ => none

section
variable (T : Tab)

def aggN (i : TI) : Option Nat := bif i.agg then some i.size else none

def cmpCall (c : Call) : AOp :=
  match c.callee with
  | .value f => .call f c.args.toList
  | .builtin .len => match c.args.toList, c.argTypes.toList with
    | [x], [t] => match T t with
      | some i => match i.u with | .slice _ => .blen x | .string => .slen x | _ => .bad
      | none => .bad
    | _, _ => .bad
  | .builtin .append => match c.args.toList, c.argTypes.toList with
    | [s, x], [t, t'] => match T t, T t' with
      | some i, some i' => match i.u with
        | .slice el => match T el with
          | some e => match i'.u with
            | .int _ => .append e.zero e.bytes true s x
            | .slice _ => .append e.zero e.bytes false s x
            | _ => .bad
          | none => .bad
        | _ => .bad
      | _, _ => .bad
    | _, _ => .bad
  | .builtin .copy => match c.args.toList, c.argTypes.toList with
    | [d, s], [t, _] => match T t with
      | some i => match i.u with
        | .slice el => match T el with
          | some e => .copy e.size d s
          | none => .bad
        | _ => .bad
      | none => .bad
    | _, _ => .bad
  | .builtin .clear => match c.args.toList, c.argTypes.toList with
    | [x], [t] => match T t with
      | some i => match i.u with
        | .slice el => match T el with
          | some e => .clear e.zero x
          | none => .bad
        | _ => .bad
      | none => .bad
    | _, _ => .bad
  | .builtin .cap => match c.args.toList, c.argTypes.toList with
    | [x], [t] => match T t with
      | some i => match i.u with | .slice _ => .bcap x | _ => .bad
      | none => .bad
    | _, _ => .bad
  | .builtin .min => match c.args.toList with
    | [x, y] => .bmin x y
    | _ => .bad
  | _ => .bad

def partsS (fs : List Field) : List (Nat × Operand) → Option (List (Nat × Nat × Operand))
  | [] => some []
  | (i, x) :: r => match fs[i]? with
    | none => none
    | some f => match T f.type, partsS fs r with
      | some ti, some l => some ((f.offset, ti.size, x) :: l)
      | _, _ => none

def cmpOp (o : Op) : AOp :=
  match o with
  | .move x => .mv x
  | .assign x => .mv x
  | .pick c a b => .pick c a b
  | .alloc t => match T t with | some i => .alloc i.zero | none => .bad
  | .box t x => match T t with | some _ => .box x | none => .bad
  | .build t ps => match T t with
    | some i => match i.u with
      | .struct fs => bif fs.toList.all fun f => (T f.type).isSome then match partsS T fs.toList ps.toList with | some l => .build i.zero l | none => .bad else .bad
      | .array _ el => match T el with
        | some e => .build i.zero (ps.toList.map fun p => (p.1 * e.size, e.size, p.2))
        | none => .bad
      | _ => .bad
    | none => .bad
  | .buildSlice t n ps => match T t with
    | some i => match i.u with
      | .slice el => match T el with
        | some e => bif Nat.ble (n * e.size) 1000000 && Nat.beq e.zero.length e.size then .bslice n (repl e.zero n) (ps.toList.map fun p => (p.1 * e.size, e.size, p.2)) else .bad
        | none => .bad
      | _ => .bad
    | none => .bad
  | .load t a => match T t with | some i => .load (aggN i) a | none => .bad
  | .store t a v => match T t with | some i => .store i.size a v | none => .bad
  | .nilCheck x => .nilChk x
  | .binOp op t x y _ => match op with
    | .eql | .neq => match T t with
      | some i => match i.u with
        | .slice _ => .bin op [3] x y
        | .pointer _ => .bin op [4] x y
        | .map _ _ => .bin op [5] x y
        | .func _ _ _ => .bin op [6] x y
        | .struct _ => match kinds T 9 t with | some ks => .bin op (9 :: ks) x y | none => .bad
        | .array _ _ => match kinds T 9 t with | some ks => .bin op (9 :: ks) x y | none => .bad
        | .bool => .bin op [0] x y
        | .int _ => .bin op [1] x y
        | .string => .bin op [2] x y
        | _ => .bad
      | none => .bad
    | _ => .bin op [] x y
  | .unOp op _ x => .un op x
  | .convert s d x => match T s, T d with
    | some i, some j => match i.u, j.u with
      | .int _, .int k => .conv k x
      | _, _ => .bad
    | _, _ => .bad
  | .makeFunc (.func f) first caps => bif first.isEmpty then .mkfn f caps.toList else .bad
  | .makeMap _ none => .mkmap
  | .makeSlice t l c => match T t with
    | some i => match i.u with
      | .slice el => match T el with
        | some e => .mkslice e.zero e.bytes l c
        | none => .bad
      | _ => .bad
    | none => .bad
  | .slice t x lo hi mx => match T t with
    | some i => match i.u with
      | .slice el => match T el with
        | some e => bif mx.isSome && hi.isNone then .bad else .slice e.size x lo hi mx
        | none => .bad
      | _ => .bad
    | none => .bad
  | .fieldAddr t x k => match T t with
    | some i => match i.u with
      | .struct fs => match fs[k]? with
        | some f => match T f.type with
          | some fi => bif Nat.beq fi.size 0 then .bad else .faddr f.offset x
          | none => .bad
        | none => .bad
      | _ => .bad
    | none => .bad
  | .indexAddr t x ix => match T t with
    | some i => match i.u with
      | .slice el => match T el with | some e => .iaddr none e.size x ix | none => .bad
      | .array n el => match T el with | some e => .iaddr (some n) e.size x ix | none => .bad
      | _ => .bad
    | none => .bad
  | .field t x k => match T t with
    | some i => match i.u with
      | .struct fs => match fs[k]? with
        | some f => match T f.type with
          | some fi => .field f.offset (aggN fi) x
          | none => .bad
        | none => .bad
      | _ => .bad
    | none => .bad
  | .index t x ix => match T t with
    | some i => match i.u with
      | .string => .index none x ix
      | .array n el => match T el with
        | some e => .index (some (n, e.size, aggN e)) x ix
        | none => .bad
      | _ => .bad
    | none => .bad
  | .extract x i => .ext i x
  | .lookup t x ix ok => match T t with
    | some i => match i.u with
      | .map k el => match T k, T el with
        | some ki, some ei => match ki.u, ei.zero, ei.agg with
          | .int _, [z], false => .look [1] z ok x ix
          | .struct _, [z], false => match kinds T 9 k with | some ks => .look (9 :: ks) z ok x ix | none => .bad
          | .array _ _, [z], false => match kinds T 9 k with | some ks => .look (9 :: ks) z ok x ix | none => .bad
          | _, _, _ => .bad
        | _, _ => .bad
      | _ => .bad
    | none => .bad
  | .mapUpdate t m k x => match T t with
    | some i => match i.u with
      | .map kt _ => match T kt with
        | some ki => match ki.u with
          | .int _ => .mupd [1] m k x
          | .struct _ => match kinds T 9 kt with | some ks => .mupd (9 :: ks) m k x | none => .bad
          | .array _ _ => match kinds T 9 kt with | some ks => .mupd (9 :: ks) m k x | none => .bad
          | _ => .bad
        | none => .bad
      | _ => .bad
    | none => .bad
  | .range t x => match T t with
    | some i => match i.u with
      | .map _ _ => .rngNil x
      | _ => .bad
    | none => .bad
  | .next x s => bif s then .bad else .nxt x
  | .call c => cmpCall T c
  | _ => .bad

/-- an operand that means the same on both sides -/
def constOk : Value → Bool
  | .agg cs => cs.toList.all constCell
  | .tuple cs => cs.toList.isEmpty
  | v => constCell v

def opdOk (ng : Nat) : Operand → Bool
  | .const v => constOk v
  | .global g => Nat.blt g ng
  | _ => true

def slotOf (ops : List Oper) (j : Nat) : Option Nat := match ops[j]? with | some o => o.dst | none => none

/-- an operation's slots are in their place -/
def operOk (ng n : Nat) (ops : List Oper) (o : Oper) : Bool :=
  (match o.dst with | none => true | some d => Nat.blt d n) && (match o.guard with | none => true | some (j, _) => (slotOf ops j).isSome) && o.op.operands.toList.all (opdOk ng)

def guardOf (ops : List Oper) (o : Oper) : Option (Nat × Bool) := match o.guard with | none => none | some (j, b) => some ((slotOf ops j).getD 0, b)

def cmpOper (ng n : Nat) (ops : List Oper) (o : Oper) : AOper :=
  bif operOk ng n ops o then { dst := o.dst, guard := guardOf ops o, op := cmpOp T o.op } else { dst := none, guard := none, op := .bad }

/-- no loop over a function -/
def noRng : Code → Bool
  | .seq a b => noRng a && noRng b
  | .cond _ a b => noRng a && noRng b
  | .block _ c => noRng c
  | .loop c => noRng c
  | .scope c => noRng c
  | .rangeFunc _ _ _ _ => false
  | _ => true

def cmpCode (ng n : Nat) (dr : Nat → List Oper → List (AOper × List Nat)) : Code → ACode
  | .skip => .skip
  | .region _ ops false => .ops (ops.toList.map (cmpOper T ng n ops.toList))
  | .region _ ops true => .draw (dr n ops.toList)
  | .seq a b => .seq (cmpCode ng n dr a) (cmpCode ng n dr b)
  | .cond c a b => bif opdOk ng c then .cond c (cmpCode ng n dr a) (cmpCode ng n dr b) else .bad
  | .block id c => .block id (cmpCode ng n dr c)
  | .loop c => .loop (cmpCode ng n dr c)
  | .scope c => cmpCode ng n dr c
  | .label _ => .skip
  | .rangeFunc f ps a b => bif opdOk ng f && ps.toList.all (Nat.blt · n) && noRng a && noRng b then .rng f ps.toList (cmpCode ng n dr a) (cmpCode ng n dr b) else .bad
  | .exit id => .exit id
  | .ret => .ret
  | _ => .bad
end

/-- the slots of a frame -/
def ER (ρ : Rho) (e : Env) (tmps : Array Value) : Prop := ∀ t, VR ρ (Env.get e t) (tmps.getD t undef)

def JumpIs : LSt → Loop → Prop
  | .ready, L => L.state = .ready ∧ L.pending = none
  | .busy, L => L.state = .busy
  | .done none, L => L.state = .done ∧ L.pending = some .ret
  | .done (some id), L => L.state = .done ∧ L.pending = some (.exit id)

/-- What lies in an abstract block lies in the true one, from its base on. -/
def BlkOk (ρ : Rho) (r : Img) (cs : List Value) (ro : Bool) (o : Nat) (w : World) : Prop :=
  ∃ (ccs : Array Value) (el : TypeId) (fr : Nat × Nat), w.heap[r.blk]? = some (.cells ccs el fr) ∧ r.len = cs.length ∧ r.opn = o ∧ (r.base + r.room = ccs.size ∧ (o ≠ 0 → ∀ (j : Nat) (c : Value), r.len ≤ j → ccs[r.base + j]? = some c → constCell c = true)) ∧
    (ro = false → fr = (0, 0)) ∧ ∀ (j : Nat) (v : Value), cs[j]? = some v → ∃ c, ccs[r.base + j]? = some c ∧ KR ρ v c

abbrev CodeRel := Nat → ACode → Code → Prop

def LoopOk (CC : CodeRel) (ρ : Rho) (r : Img) (env : Env) (ps : List Nat) (asg body : ACode) (st : LSt) (w : World) : Prop :=
  ∃ L : Loop, w.heap[r.blk]? = some (.loop L) ∧ ER ρ env L.tmps ∧ L.params.toList = ps ∧ CC L.tmps.size asg L.assign ∧ CC L.tmps.size body L.body ∧
    (∀ t ∈ ps, t < L.tmps.size) ∧ JumpIs st L

def MapOk (ρ : Rho) (r : Img) (es : List (Value × Value)) (w : World) : Prop :=
  ∃ (ces : Array MapEntry) (clock : Nat), w.heap[r.blk]? = some (.map ces clock) ∧ All2 (fun (x : Value × Value) (y : MapEntry) => AR ρ x.1 y.key ∧ AR ρ x.2 y.val) es ces.toList

def ObjOk (CC : CodeRel) (ρ : Rho) (r : Img) (o : AObj) (w : World) : Prop :=
  match o with
  | .blk cs ro op _ => BlkOk ρ r cs ro op w
  | .loop env ps asg body st => LoopOk CC ρ r env ps asg body st w
  | .map es => MapOk ρ r es w
  | .itr => r.base = 0 ∧ w.heap[r.blk]? = some (.mapIter none 0 #[] 0)

structure Sim (CC : CodeRel) (ρ : Rho) (h : Heap) (w : World) : Prop where
  low : ∀ b r, ρ b = some r → b < h.next ∧ r.blk < w.heap.size
  obj : ∀ b r o, ρ b = some r → h.tr.get b = some o → ObjOk CC ρ r o w
  inj : ∀ b b' r r' o, ρ b = some r → ρ b' = some r' → writable h b → h.tr.get b' = some o → b ≠ b' → r.blk ≠ r'.blk
  wf : ∀ b o, h.tr.get b = some o → b < h.next

structure Ext (ρ : Rho) (h : Heap) (w : World) (ρ' : Rho) (h' : Heap) (w' : World) : Prop where
  le : ρ.le ρ'
  next : h.next ≤ h'.next
  size : w.heap.size ≤ w'.heap.size
  os : w'.os = w.os
  tape : w'.tape = w.tape
  output : w'.output = w.output
  keep : ∀ k, k < w.heap.size → (∀ b r, ρ b = some r → writable h b → r.blk ≠ k) → w'.heap[k]? = w.heap[k]?
  own : ∀ b r, ρ' b = some r → writable h' b → w.heap.size ≤ r.blk ∨ ∃ b₀ r₀, ρ b₀ = some r₀ ∧ writable h b₀ ∧ r₀.blk = r.blk
  new : ∀ b r, ρ' b = some r → ρ b = none → h.next ≤ b
  live : ∀ b r o, ρ' b = some r → h'.tr.get b = some o → w.heap.size ≤ r.blk ∨ ∃ b₀ r₀ o₀, ρ b₀ = some r₀ ∧ h.tr.get b₀ = some o₀ ∧ r₀.blk = r.blk

theorem Ext.refl (ρ : Rho) (h : Heap) (w : World) : Ext ρ h w ρ h w :=
  ⟨ρ.le_refl, Nat.le_refl _, Nat.le_refl _, rfl, rfl, rfl, fun _ _ _ => rfl, fun b r hb hw => .inr ⟨b, r, hb, hw, rfl⟩, fun b r h h' => (by rw [h] at h'; cases h'), fun b r o hb ho => .inr ⟨b, r, o, hb, ho, rfl⟩⟩

theorem Ext.trans {ρ ρ₁ ρ₂ : Rho} {h h₁ h₂ : Heap} {w w₁ w₂ : World} (a : Ext ρ h w ρ₁ h₁ w₁) (b : Ext ρ₁ h₁ w₁ ρ₂ h₂ w₂) : Ext ρ h w ρ₂ h₂ w₂ := by
  refine ⟨Rho.le_trans a.le b.le, Nat.le_trans a.next b.next, Nat.le_trans a.size b.size, b.os.trans a.os, b.tape.trans a.tape, b.output.trans a.output, ?_, ?_, ?_, ?_⟩
  · intro k hk hn
    rw [b.keep k (Nat.lt_of_lt_of_le hk a.size) ?_, a.keep k hk hn]
    intro x r hx hw e
    rcases a.own x r hx hw with h | ⟨b₀, r₀, h0, hw0, e0⟩
    · omega
    · exact hn b₀ r₀ h0 hw0 (e0.trans e)
  · intro x r hx hw
    rcases b.own x r hx hw with h | ⟨b₀, r₀, h0, hw0, e0⟩
    · exact .inl (Nat.le_trans a.size h)
    · rcases a.own b₀ r₀ h0 hw0 with h | ⟨b₁, r₁, h1, hw1, e1⟩
      · exact .inl (e0 ▸ h)
      · exact .inr ⟨b₁, r₁, h1, hw1, e1.trans e0⟩
  · intro x r hx hn
    cases h1 : ρ₁ x with
    | none => exact Nat.le_trans a.next (b.new x r hx h1)
    | some r1 => exact a.new x r1 h1 hn
  · intro x r o hx ho
    rcases b.live x r o hx ho with h | ⟨b₀, r₀, o₀, h0, ho0, e0⟩
    · exact .inl (Nat.le_trans a.size h)
    · rcases a.live b₀ r₀ o₀ h0 ho0 with h | ⟨b₁, r₁, o₁, h1, ho1, e1⟩
      · exact .inl (e0 ▸ h)
      · exact .inr ⟨b₁, r₁, o₁, h1, ho1, e1.trans e0⟩

theorem ER.mono {ρ ρ' : Rho} {e : Env} {tmps : Array Value} (hl : ρ.le ρ') (h : ER ρ e tmps) : ER ρ' e tmps := fun t => (h t).mono hl

/-- the variables of the program: number g lies in block g -/
def Globs (ng : Nat) (ρ : Rho) : Prop := ∀ g, g < ng → ∃ r, ρ g = some r ∧ r.blk = g ∧ r.base = 0

theorem constCell_rel {ρ : Rho} {v : Value} (h : constCell v = true) : CR ρ v v := by
  unfold constCell at h
  split at h
  · exact .bool _
  · exact .int _ _
  · exact .str _
  · exact .nilptr
  · exact .nilslice _ _
  · exact .nilmap
  · exact .nilfunc
  · exact .niliface
  · cases h

theorem constCells_rel {ρ : Rho} : ∀ {l : List Value}, l.all constCell = true → All2 (KR ρ) l l
  | [], _ => .nil
  | v :: l, h => by
    simp only [List.all_cons, Bool.and_eq_true] at h
    exact .cons (.cell (constCell_rel h.1)) (constCells_rel h.2)

theorem constOk_rel {ρ : Rho} {v : Value} (h : constOk v = true) : VR ρ v v := by
  unfold constOk at h
  split at h
  · rename_i cs
    exact .val (.agg (constCells_rel h))
  · rename_i cs
    obtain ⟨l⟩ := cs
    cases l with
    | nil => exact .tuple .nil
    | cons => simp at h
  · exact (constCell_rel h).vr

theorem ER.eval {ng : Nat} {ρ : Rho} {e : Env} {a : Act} (h : ER ρ e a.tmps) (hg : Globs ng ρ) : ∀ {x : Operand}, opdOk ng x = true → VR ρ (ev e x) (a.eval x)
  | .tmp t, _ => h t
  | .const _, hc => constOk_rel hc
  | .global g, hc => by
    obtain ⟨r, hr, hb, h0⟩ := hg g (by simpa [opdOk, Nat.blt_eq] using hc)
    have := CR.ptr (o := 0) hr
    rw [hb, h0] at this
    exact this.vr
  | .func f, _ => (KR.fn f (l := []) (m := []) .nil).vr
end Go.AI
