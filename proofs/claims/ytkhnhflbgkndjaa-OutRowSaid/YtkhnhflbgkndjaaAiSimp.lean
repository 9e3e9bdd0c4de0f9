/- The rules of AiWp, for simp: each operation's outcome is reckoned, then the next is taken. -/
import Derived.Test.YtkhnhflbgkndjaaAiMemo
namespace Go.AI

section
variable (F : Nat → Option AFunc)

/-- the rest, behind an outcome -/
def NextR (d : Option Nat) (l : List AOper) (e : Env) (R : Env → Heap → Prop) : Option (Value × Heap) → Prop
  | some (v, h) => OpsR F l (putE e d v) h R
  | none => False

def NextD (k : Nat) (chk : List Nat) (d : Option Nat) (l : List (AOper × List Nat)) (e : Env) (R : Env → Heap → Prop) : Option (Value × Heap) → Prop
  | some (v, h) => still (putE e d v) h k chk = true ∧ DrawR F k l (putE e d v) h R
  | none => False

def EndV (R : Value → Heap → Prop) (h : Heap) : Option (List Value) → Prop
  | some vs => resultOk vs = true ∧ R (result vs) h
  | none => False

/-- what is asked behind a call -/
def AfterQ (d : Option Nat) (l : List AOper) (e : Env) (R : Env → Heap → Prop) : Value → Heap → Prop := fun v h => OpsR F l (putE e d v) h R
def AfterDQ (k : Nat) (chk : List Nat) (d : Option Nat) (l : List (AOper × List Nat)) (e : Env) (R : Env → Heap → Prop) : Value → Heap → Prop := fun v h => still (putE e d v) h k chk = true ∧ DrawR F k l (putE e d v) h R
end

section
variable {F : Nat → Option AFunc} {Q : AExit → Env → Heap → Prop} {R : Env → Heap → Prop} {e : Env} {h : Heap} {d : Option Nat} {l : List AOper} {k : Nat} {chk : List Nat} {m : List (AOper × List Nat)}

@[simp] theorem nextR_some (v : Value) (h : Heap) : NextR F d l e R (some (v, h)) = OpsR F l (putE e d v) h R := rfl
@[simp] theorem nextD_some (v : Value) (h : Heap) : NextD F k chk d m e R (some (v, h)) = (still (putE e d v) h k chk = true ∧ DrawR F k m (putE e d v) h R) := rfl
@[simp] theorem nextR_none : NextR F d l e R none = False := rfl
@[simp] theorem nextD_none : NextD F k chk d m e R none = False := rfl
@[simp] theorem endV_some (V : Value → Heap → Prop) (vs : List Value) : EndV V h (some vs) = (resultOk vs = true ∧ V (result vs) h) := rfl

@[simp ↓] theorem q_skip : Runs F .skip e h Q ↔ Q .normal e h := runs_skip
@[simp ↓] theorem q_ret : Runs F .ret e h Q ↔ Q .ret e h := runs_ret
@[simp ↓] theorem q_exit {id : Nat} : Runs F (.exit id) e h Q ↔ Q (.exit id) e h := runs_exit
@[simp ↓] theorem q_seq {a b : ACode} : Runs F (.seq a b) e h Q ↔ Runs F a e h (ThenQ F b Q) := runs_seq
@[simp ↓] theorem q_block {id : Nat} {c : ACode} : Runs F (.block id c) e h Q ↔ Runs F c e h (OutQ id Q) := runs_block
@[simp ↓] theorem q_ops {l : List AOper} : Runs F (.ops l) e h Q ↔ OpsR F l e h (Q .normal) := runs_ops
@[simp ↓] theorem q_draw {l : List (AOper × List Nat)} : Runs F (.draw l) e h Q ↔ DrawR F h.clock l e (tick h) (Q .normal) := runs_draw
@[simp ↓] theorem q_true {c : Operand} {a b : ACode} (hc : ev e c = .bool true) : Runs F (.cond c a b) e h Q ↔ Runs F a e h Q := runs_cond hc
@[simp ↓] theorem q_false {c : Operand} {a b : ACode} (hc : ev e c = .bool false) : Runs F (.cond c a b) e h Q ↔ Runs F b e h Q := runs_cond hc
@[simp ↓] theorem q_nil : OpsR F [] e h R ↔ R e h := opsR_nil
@[simp ↓] theorem q_dnil : DrawR F k [] e h R ↔ R e h := drawR_nil

@[simp ↓] theorem q_op {op : AOp} (hn : calls op = false) : OpsR F (⟨d, none, op⟩ :: l) e h R ↔ NextR F d l e R (opV e h op) := by
  rw [opsR_cons, operR_op hn]
  constructor
  · rintro ⟨v, h1, ho, hr⟩; rw [ho]; exact hr
  · intro hr
    cases ho : opV e h op with
    | none => rw [ho] at hr; exact hr.elim
    | some x => rw [ho] at hr; exact ⟨_, _, rfl, hr⟩

@[simp ↓] theorem q_do {op : AOp} {t : Nat} {b : Bool} (hg : Env.get e t = .bool b) : OpsR F (⟨d, some (t, b), op⟩ :: l) e h R ↔ OpsR F (⟨d, none, op⟩ :: l) e h R := by
  rw [opsR_cons, operR_skip hg, opsR_cons]
  simp

@[simp ↓] theorem q_dont {op : AOp} {t : Nat} {b : Bool} (hg : Env.get e t = .bool (!b)) : OpsR F (⟨d, some (t, b), op⟩ :: l) e h R ↔ OpsR F l (putE e d (.tuple #[])) h R := by
  rw [opsR_cons, operR_skip hg]
  cases b <;> rfl

@[simp ↓] theorem q_dop {op : AOp} (hn : calls op = false) : DrawR F k ((⟨d, none, op⟩, chk) :: m) e h R ↔ NextD F k chk d m e R (opV e h op) := by
  rw [drawR_cons, operR_op hn]
  constructor
  · rintro ⟨v, h1, ho, hr⟩; rw [ho]; exact hr
  · intro hr
    cases ho : opV e h op with
    | none => rw [ho] at hr; exact hr.elim
    | some x => rw [ho] at hr; exact ⟨_, _, rfl, hr⟩

theorem q_call {f : Operand} {args : List Operand} : OpsR F (⟨d, none, .call f args⟩ :: l) e h R ↔ DoesV F (ev e f) (vals e args) h (AfterQ F d l e R) := by
  rw [opsR_cons, operR_call]; rfl

theorem q_dcall {f : Operand} {args : List Operand} : DrawR F k ((⟨d, none, .call f args⟩, chk) :: m) e h R ↔ DoesV F (ev e f) (vals e args) h (AfterDQ F k chk d m e R) := by
  rw [drawR_cons, operR_call]; rfl

/-- A call of a function with a contract. -/
theorem OpsR.call {f : Nat} {args : List Operand} {V : Value → Heap → Prop} (H : Does F f (vals e args) h V) (K : ∀ v h', V v h' → OpsR F l (putE e d v) h' R) : OpsR F (⟨d, none, .call (.func f) args⟩ :: l) e h R := by
  rw [q_call]
  obtain ⟨n, v, h', hr, hv⟩ := H
  refine ⟨n, v, h', ?_, K v h' hv⟩
  simpa [ev, callV] using hr

theorem OpsR.callV {f : Operand} {args : List Operand} {V : Value → Heap → Prop} (H : DoesV F (ev e f) (vals e args) h V) (K : ∀ v h', V v h' → OpsR F l (putE e d v) h' R) : OpsR F (⟨d, none, .call f args⟩ :: l) e h R := by
  rw [q_call]
  exact H.mono K

@[simp] theorem q_ends_normal {rs : List ARes} {V : Value → Heap → Prop} : EndsQ rs V .normal e h ↔ EndV V h (results e h rs) := by
  rw [ends_normal]
  cases results e h rs <;> simp [EndV]
@[simp] theorem q_ends_ret {rs : List ARes} {V : Value → Heap → Prop} : EndsQ rs V .ret e h ↔ EndV V h (results e h rs) := by
  rw [ends_ret]
  cases results e h rs <;> simp [EndV]

@[simp] theorem putE_some (t : Nat) (v : Value) : putE e (some t) v = Tr.set e t v := rfl
@[simp] theorem putE_none (v : Value) : putE e none v = e := rfl
@[simp] theorem ev_tmp (t : Nat) : ev e (.tmp t) = Env.get e t := rfl
@[simp] theorem ev_const (v : Value) : ev e (.const v) = v := rfl
@[simp] theorem ev_func (f : Nat) : ev e (.func f) = .func (.func f) #[] #[] := rfl
attribute [simp] Env.get_set
@[simp] theorem env_get_nil (t : Nat) : Env.get .nil t = .tuple #[] := rfl
@[simp] theorem params_nil (i : Nat) : params e i [] = e := rfl
@[simp] theorem params_cons (i : Nat) (v : Value) (r : List Value) : params e i (v :: r) = params (Tr.set e i v) (i + 1) r := rfl
@[simp] theorem vals_nil : vals e [] = [] := rfl
@[simp] theorem vals_cons (x : Operand) (xs : List Operand) : vals e (x :: xs) = ev e x :: vals e xs := rfl
@[simp] theorem calls_rfl (op : AOp) : calls op = (match op with | .call _ _ => true | _ => false) := by cases op <;> rfl
attribute [simp] opV agg width eqVal eqCells eqCell intBin binV unV flat cellsOf plain fillIn bound results result resultOk noTuple simple still
/-- an append, its operands looked up -/
def appendF (h : Heap) (z : List Value) (bytes : Nat) (zeros : Bool) (s x : Value) : Option (Value × Heap) :=
  match news h z zeros x with
  | some (n, cs) => appendV h z bytes s n cs
  | none => none
@[simp ↓ high] theorem opV_append (z : List Value) (bytes : Nat) (zeros : Bool) (s x : Operand) : opV e h (.append z bytes zeros s x) = appendF h z bytes zeros (ev e s) (ev e x) := rfl
@[simp] theorem splice_zero (cs vs : List Value) : splice cs 0 vs = vs ++ cs.drop vs.length := by simp [splice]
@[simp] theorem splice_succ (c : Value) (cs vs : List Value) (k : Nat) : splice (c :: cs) (k + 1) vs = c :: splice cs k vs := by
  simp [splice, Nat.add_right_comm k 1]
@[simp] theorem writeAt_def (h : Heap) (b off : Nat) (vs : List Value) : writeAt h b off vs = match h.tr.get b with
    | some (.blk cs false o _) => if off + vs.length ≤ cs.length then some (put h b off cs vs o) else none
    | _ => none := by
  unfold writeAt
  cases h.tr.get b with
  | none => rfl
  | some x =>
    cases x with
    | blk cs ro o s =>
      cases ro with
      | true => rfl
      | false =>
        dsimp only
        by_cases hl : off + vs.length ≤ cs.length <;> simp [hl, put]
    | loop => rfl
    | map => rfl
@[simp] theorem readAt_def (h : Heap) (b off n : Nat) : readAt h b off n = match h.tr.get b with
    | some (.blk cs _ _ _) => if off + n ≤ cs.length then some ((cs.drop off).take n) else if n = 0 then some [] else none
    | _ => none := by
  unfold readAt
  cases h.tr.get b with
  | none => rfl
  | some x =>
    cases x with
    | blk cs ro o s =>
      dsimp only
      have he : ((cs.drop off).take n).length = min n (cs.length - off) := by simp
      by_cases hl : off + n ≤ cs.length
      · have : ((cs.drop off).take n).length = n := by omega
        simp [hl, this]
      · simp only [hl, if_false]
        by_cases hn : n = 0
        · subst hn; simp
        · have : ¬ ((cs.drop off).take n).length = n := by omega
          have hb : Nat.beq ((cs.drop off).take n).length n = false := by
            cases hb : Nat.beq ((cs.drop off).take n).length n with
            | true => exact absurd (Nat.eq_of_beq_eq_true hb) this
            | false => rfl
          simp only [hb, hn, if_false, Bool.false_eq_true]
    | loop => rfl
    | map => rfl
theorem get_newBlk' (h : Heap) (cs : List Value) (o b : Nat) : (newBlk h cs o).tr.get b = if b = h.next then some (.blk cs false o 0) else h.tr.get b := by
  simp [newBlk, Heap.new, Tr.get_set]
theorem get_put' (h : Heap) (b off : Nat) (cs vs : List Value) (o j : Nat) : (put h b off cs vs o).tr.get j = if j = b then some (.blk (splice cs off vs) false o h.clock) else h.tr.get j := by
  simp [put, Tr.get_set]
attribute [simp] get_newBlk' get_put'
@[simp] theorem next_put (h : Heap) (b off : Nat) (cs vs : List Value) (o : Nat) : (put h b off cs vs o).next = h.next := rfl
@[simp] theorem clock_put (h : Heap) (b off : Nat) (cs vs : List Value) (o : Nat) : (put h b off cs vs o).clock = h.clock + 1 := rfl
@[simp] theorem clock_tick (h : Heap) : (tick h).clock = h.clock + 1 := rfl
theorem Grows.new {S : Nat → Prop} {h h₁ : Heap} (g : Grows S h h₁) (cs : List Value) (o : Nat) : Grows S h (newBlk h₁ cs o) := g.trans (grow_newBlk g.ok cs o).nob
theorem Grows.tick {S : Nat → Prop} {h h₁ : Heap} (g : Grows S h h₁) : Grows S h (tick h₁) := g.trans (grow_tick g.ok).nob
theorem Grows.put {S : Nat → Prop} {h h₁ : Heap} {b off : Nat} {cs vs : List Value} {o : Nat} (g : Grows S h h₁) (hb : ∃ s, h₁.tr.get b = some (.blk cs false o s)) (hn : h.next ≤ b ∨ S b) : Grows S h (put h₁ b off cs vs o) := by
  obtain ⟨s, hb⟩ := hb
  refine g.trans' (grow_put g.ok hb) (fun _ _ h => h) fun x hx e => ?_
  rcases hn with hn | hn
  · omega
  · rw [e]; exact hn
@[simp] theorem all_nil' (p : Value → Bool) : ([] : List Value).all p = true := rfl
end
end Go.AI
