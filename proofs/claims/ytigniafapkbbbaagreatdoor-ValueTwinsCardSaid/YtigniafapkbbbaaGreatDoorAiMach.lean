/- Steps of the machine in any frame, a round's too: what the abstract interpreter's soundness stands on. -/
import Derived.Calls
namespace Go.AI

def on (b : Frame) (a : Act) (todo : List Item) : Frame := { b with tmps := a.tmps, todo := todo, defers := a.defers, mode := .run }

theorem on_eval (b : Frame) (a : Act) (todo : List Item) : (on b a todo).eval = a.eval := by
  funext x; cases x <;> rfl

section
variable {P : Program} {b : Frame} {a : Act} {k : List Item} {cs : List Frame} {w : World}

theorem s_skip : step P (lone (on b a (.code .skip :: k)) cs w) = .next (lone (on b a k) cs w) :=
  step_lone_go (by simp [stepG, stepG.exec, on])
theorem s_label {l : Nat} : step P (lone (on b a (.code (.label l) :: k)) cs w) = .next (lone (on b a k) cs w) :=
  step_lone_go (by simp [stepG, stepG.exec, on])
theorem s_inBlock {id : Nat} : step P (lone (on b a (.inBlock id :: k)) cs w) = .next (lone (on b a k) cs w) :=
  step_lone_go (by simp [stepG, stepG.exec, on])
theorem s_inScope {c : Code} : step P (lone (on b a (.inScope c :: k)) cs w) = .next (lone (on b a k) cs w) :=
  step_lone_go (by simp [stepG, stepG.exec, on])
theorem s_scope {c : Code} : step P (lone (on b a (.code (.scope c) :: k)) cs w) = .next (lone (on b a (.code c :: .inScope c :: k)) cs w) :=
  step_lone_go (by simp [stepG, stepG.exec, on])
theorem s_seq {x y : Code} : step P (lone (on b a (.code (.seq x y) :: k)) cs w) = .next (lone (on b a (.code x :: .code y :: k)) cs w) :=
  step_lone_go (by simp [stepG, stepG.exec, on])
theorem s_cond {c : Operand} {x y : Code} {t : Bool} (h : a.eval c = .bool t) :
    step P (lone (on b a (.code (.cond c x y) :: k)) cs w) = .next (lone (on b a (.code (if t then x else y) :: k)) cs w) :=
  step_lone_go (by
    have := on_eval b a (.code (.cond c x y) :: k)
    simp only [on] at this
    simp [stepG, stepG.exec, on, this, h])
theorem s_block {id : Nat} {c : Code} : step P (lone (on b a (.code (.block id c) :: k)) cs w) = .next (lone (on b a (.code c :: .inBlock id :: k)) cs w) :=
  step_lone_go (by simp [stepG, stepG.exec, on])
theorem s_loop {c : Code} : step P (lone (on b a (.code (.loop c) :: k)) cs w) = .next (lone (on b a (.code c :: .inLoop c :: k)) cs w) :=
  step_lone_go (by simp [stepG, stepG.exec, on])
theorem s_inLoop {c : Code} : step P (lone (on b a (.inLoop c :: k)) cs w) = .next (lone (on b a (.code c :: .inLoop c :: k)) cs w) :=
  step_lone_go (by simp [stepG, stepG.exec, on])
theorem s_exit {id : Nat} {k' : List Item} (h : exitTo id k = some k') :
    step P (lone (on b a (.code (.exit id) :: k)) cs w) = .next (lone (on b a k') cs w) :=
  step_lone_go (by simp [stepG, stepG.exec, on, h])

/-- a region's operations -/
theorem s_region {id : Nat} {ops : Array Oper} :
    step P (lone (on b a (.code (.region id ops false) :: k)) cs w) = .next (lone (on b a (.inRegion ops (List.range ops.size) :: k)) cs w) :=
  step_lone_go (by simp [stepG, stepG.exec, on])
theorem s_draw {id : Nat} {ops : Array Oper} :
    step P (lone (on b a (.code (.region id ops true) :: k)) cs w) =
      .next (lone (on b a (.inRegion ops (Region.schedule (P.follows .mixedOrders) ops (w.tape w.drawn (.order b.fn id))) :: k)) cs { w with drawn := w.drawn + 1 }) :=
  step_lone_go (by simp [stepG, stepG.exec, on, choose, Sem.run, Question.forced, Question.cut])
theorem s_region_end {ops : Array Oper} : step P (lone (on b a (.inRegion ops [] :: k)) cs w) = .next (lone (on b a k) cs w) :=
  step_lone_go (by simp [stepG, stepG.exec, on])

theorem finish_on (b : Frame) (a : Act) (ops : Array Oper) (i : Nat) (rest : List Nat) (k : List Item) (v : Value) :
    (on b a (.inRegion ops (i :: rest) :: k)).finish v = on b (a.put ((ops[i]?).bind (·.dst)) v) (.inRegion ops rest :: k) := by
  cases h : (ops[i]?).bind (·.dst) <;> simp [Frame.finish, on, Act.put, h]

theorem s_op_skip {ops : Array Oper} {i : Nat} {rest : List Nat} (h : ((ops[i]?).map (Region.wanted · (yielded ops a.tmps))).getD false = false) :
    step P (lone (on b a (.inRegion ops (i :: rest) :: k)) cs w) =
      .next (lone (on b (a.put ((ops[i]?).bind (·.dst)) undef) (.inRegion ops rest :: k)) cs w) := by
  rw [← finish_on]
  exact step_lone_go (by
    have h' := h
    simp only [on] at *
    simp [stepG, stepG.exec, h'])

/-- an operation that is not a defer -/
def Op.isDefer : Op → Bool
  | .defer _ => true
  | _ => false

theorem stepG_on {ops : Array Oper} {i : Nat} {rest : List Nat} {o : Oper} (ho : ops[i]? = some o) (hw : Region.wanted o (yielded ops a.tmps) = true)
    (hd : Op.isDefer o.op = false) :
    stepG P true { frame := on b a (.inRegion ops (i :: rest) :: k), callers := cs, status := .running, dying := none } w =
      stepG.apply P true (on b a (.inRegion ops (i :: rest) :: k)) cs none (execOp a.eval o) w := by
  have he := on_eval b a (.inRegion ops (i :: rest) :: k)
  simp only [on] at he
  simp only [stepG, stepG.exec, stepG.oper, Frame.oper?, on, ho, hw, he, Option.map_some, Option.getD_some, if_true]
  split
  · next heq => rw [heq] at hd; simp [Op.isDefer] at hd
  · rfl

theorem s_value {ops : Array Oper} {i : Nat} {rest : List Nat} {o : Oper} {v : Value} {w' : World} (ho : ops[i]? = some o)
    (hw : Region.wanted o (yielded ops a.tmps) = true) (hd : Op.isDefer o.op = false) (hr : (execOp a.eval o).run P w = .ok (.value v) w') :
    step P (lone (on b a (.inRegion ops (i :: rest) :: k)) cs w) = .next (lone (on b (a.put o.dst v) (.inRegion ops rest :: k)) cs w') := by
  refine step_lone_go ?_
  have hf := finish_on b a ops i rest k v
  rw [ho] at hf
  rw [stepG_on ho hw hd]
  simp only [Option.bind_some] at hf
  rw [← hf]
  simp [stepG.apply, hr]

theorem s_skipv {ops : Array Oper} {i : Nat} {rest : List Nat} {o : Oper} {w' : World} (ho : ops[i]? = some o)
    (hw : Region.wanted o (yielded ops a.tmps) = true) (hd : Op.isDefer o.op = false) (hr : (execOp a.eval o).run P w = .ok .skip w') :
    step P (lone (on b a (.inRegion ops (i :: rest) :: k)) cs w) = .next (lone (on b (a.put o.dst undef) (.inRegion ops rest :: k)) cs w') := by
  refine step_lone_go ?_
  have hf := finish_on b a ops i rest k undef
  rw [ho] at hf
  rw [stepG_on ho hw hd]
  simp only [Option.bind_some] at hf
  rw [← hf]
  simp [stepG.apply, hr]

theorem s_enter {ops : Array Oper} {i : Nat} {rest : List Nat} {o : Oper} {f : FuncId} {args : Array Value} {w' : World} (ho : ops[i]? = some o)
    (hw : Region.wanted o (yielded ops a.tmps) = true) (hd : Op.isDefer o.op = false) (hr : (execOp a.eval o).run P w = .ok (.enter f args) w') :
    step P (lone (on b a (.inRegion ops (i :: rest) :: k)) cs w) =
      .next (lone (Frame.enter P f args .normal) (on b a (.inRegion ops (i :: rest) :: k) :: cs) w') := by
  refine step_lone_go ?_
  rw [stepG_on ho hw hd]
  simp [stepG.apply, hr, on]

theorem s_round {ops : Array Oper} {i : Nat} {rest : List Nat} {o : Oper} {l f : Nat} {tmps : Array Value} {asg body : Code} {w' : World} (ho : ops[i]? = some o)
    (hw : Region.wanted o (yielded ops a.tmps) = true) (hd : Op.isDefer o.op = false) (hr : (execOp a.eval o).run P w = .ok (.round l f tmps asg body) w') :
    step P (lone (on b a (.inRegion ops (i :: rest) :: k)) cs w) =
      .next (lone (Frame.round l f tmps asg body .normal) (on b a (.inRegion ops (i :: rest) :: k) :: cs) w') := by
  refine step_lone_go ?_
  rw [stepG_on ho hw hd]
  simp [stepG.apply, hr]
end
end Go.AI
