/- Steps of the machine: leaving a function or a round, loops over functions. -/
import Derived.Test.YtigniafapkbbbaaGreatDoorAiMach
import Derived.Laws.Sem
namespace Go.AI

section
variable {P : Program} {b : Frame} {a : Act} {k : List Item} {c : Frame} {cs : List Frame} {w : World}

theorem s_ret (hr : b.roundOf = none) : step P (lone (on b a (.code .ret :: k)) cs w) = .next (lone { on b a (.code .ret :: k) with mode := .returning } cs w) :=
  step_lone_go (by simp [stepG, stepG.exec, on, hr])
theorem s_end (hr : b.roundOf = none) : step P (lone (on b a []) cs w) = .next (lone { on b a [] with mode := .returning } cs w) :=
  step_lone_go (by simp [stepG, stepG.exec, on, hr])

theorem get_deferred {r : Nat} {x : Option (List Deferred)} (hh : w.heap[r]? = some (.deferred x)) : (getObj r).run P w = .ok (.deferred x) w := by
  simp only [getObj, Sem.run, hh]
theorem set_deferred {r : Nat} {x : Option (List Deferred)} (o : Obj) (hh : w.heap[r]? = some (.deferred x)) : (setObj r o).run P w = .ok () { w with heap := w.heap.setIfInBounds r o } := by
  simp only [setObj, Sem.run, hh]
theorem get_loop {r : Nat} {L : Loop} (hh : w.heap[r]? = some (.loop L)) : (getObj r).run P w = .ok (.loop L) w := by
  simp only [getObj, Sem.run, hh]
theorem set_loop {r : Nat} {L : Loop} (o : Obj) (hh : w.heap[r]? = some (.loop L)) : (setObj r o).run P w = .ok () { w with heap := w.heap.setIfInBounds r o } := by
  simp only [setObj, Sem.run, hh]
theorem getLoop_run {r : Nat} {L : Loop} (hh : w.heap[r]? = some (.loop L)) : (Instr.getLoop r).run P w = .ok L w := by
  simp only [Instr.getLoop, Sem.run_bind, get_loop hh, Result.andThen_ok, Sem.run_pure]

theorem s_collected {fr : Frame} {r : Nat} {ds : List Deferred} (hm : fr.mode = .returning) (hd : fr.defers = { target := .collected r, args := #[] } :: ds) (hh : w.heap[r]? = some (.deferred (some []))) :
    step P (lone fr cs w) = .next (lone { fr with defers := ds } cs { w with heap := w.heap.setIfInBounds r (.deferred none) }) := by
  refine step_lone_go ?_
  have h1 : (Instr.takeDeferred r).run P w = .ok [] { w with heap := w.heap.setIfInBounds r (.deferred none) } := by
    simp only [Instr.takeDeferred, Sem.run_bind, get_deferred hh, set_deferred _ hh, Result.andThen_ok, Sem.run_pure]
  simp [stepG, hm, unwind, hd, h1]

theorem s_beginRound {l : Nat} {L : Loop} (hr : b.roundOf = some l) (hh : w.heap[l]? = some (.loop L)) (hs : L.state = .ready) :
    step P (lone (on b a (.beginRound :: k)) cs w) = .next (lone (on b a k) cs { w with heap := w.heap.setIfInBounds l (.loop { L with state := .busy }) }) := by
  refine step_lone_go ?_
  have h1 : (Instr.beginRound l).run P w = .ok () { w with heap := w.heap.setIfInBounds l (.loop { L with state := .busy }) } := by
    simp only [Instr.beginRound, Sem.run_bind, getLoop_run hh, set_loop _ hh, Result.andThen_ok, hs, Sem.run_pure]
  simp [stepG, stepG.exec, stepG.apply, on, hr, h1, Frame.finish]

theorem endRound_run {l : Nat} {L : Loop} (jump : Option Code) (hh : w.heap[l]? = some (.loop L)) :
    (Instr.endRound l jump).run P w = .ok (.bool jump.isNone) { w with heap := w.heap.setIfInBounds l (.loop { L with state := if jump.isNone then .ready else .done, pending := jump }) } := by
  simp only [Instr.endRound, Sem.run_bind, getLoop_run hh, set_loop _ hh, Result.andThen_ok, Sem.run_pure]

theorem s_round_end {l : Nat} {L : Loop} (hr : b.roundOf = some l) (hk : b.kind = .normal) (hh : w.heap[l]? = some (.loop L)) :
    step P (lone (on b a []) (c :: cs) w) = .next (lone (c.finish (.bool true)) cs { w with heap := w.heap.setIfInBounds l (.loop { L with state := .ready, pending := none }) }) := by
  refine step_lone_go ?_
  have h1 := endRound_run (P := P) none hh
  simp [stepG, stepG.exec, on, hr, h1, doReturn, hk]
theorem s_round_ret {l : Nat} {L : Loop} (hr : b.roundOf = some l) (hk : b.kind = .normal) (hh : w.heap[l]? = some (.loop L)) :
    step P (lone (on b a (.code .ret :: k)) (c :: cs) w) = .next (lone (c.finish (.bool false)) cs { w with heap := w.heap.setIfInBounds l (.loop { L with state := .done, pending := some .ret }) }) := by
  refine step_lone_go ?_
  have h1 := endRound_run (P := P) (some .ret) hh
  simp [stepG, stepG.exec, on, hr, h1, doReturn, hk]
theorem s_round_exit {l id : Nat} {L : Loop} (hr : b.roundOf = some l) (hk : b.kind = .normal) (hh : w.heap[l]? = some (.loop L)) (he : exitTo id k = none) :
    step P (lone (on b a (.code (.exit id) :: k)) (c :: cs) w) = .next (lone (c.finish (.bool false)) cs { w with heap := w.heap.setIfInBounds l (.loop { L with state := .done, pending := some (.exit id) }) }) := by
  refine step_lone_go ?_
  have h1 := endRound_run (P := P) (some (.exit id)) hh
  simp [stepG, stepG.exec, on, hr, h1, doReturn, hk, he]

/-- a loop over a function begins -/
theorem s_rng {f : Operand} {ps : Array Tmp} {asg body : Code} {g : FuncId} {args : Array Value} {w' : World} (hr : b.roundOf = none)
    (hrun : (do let d ← resolve a.eval { callee := .value f, args := #[.const (.func (.yield (w.heap.size + 1)) #[] #[])], argTypes := #[] } 0; invoke d.target d.args).run P
      { w with heap := (w.heap.push (.deferred (some []))).push (.loop { state := .ready, pending := none, fn := b.fn, tmps := a.tmps, params := ps, assign := asg, body := body, defers := w.heap.size }) } = .ok (.enter g args) w') :
    step P (lone (on b a (.code (.rangeFunc f ps asg body) :: k)) cs w) =
      .next (lone (Frame.enter P g args .normal) (on b { a with defers := { target := .collected w.heap.size, args := #[] } :: a.defers } (.inRangeFunc (w.heap.size + 1) :: k) :: cs) w') := by
  refine step_lone_go ?_
  have h1 : (Instr.enterLoop b.fn a.tmps ps asg body none).run P w = .ok (w.heap.size + 1, [{ target := .collected w.heap.size, args := #[] }])
      { w with heap := (w.heap.push (.deferred (some []))).push (.loop { state := .ready, pending := none, fn := b.fn, tmps := a.tmps, params := ps, assign := asg, body := body, defers := w.heap.size }) } := by
    simp only [Instr.enterLoop, Sem.run_bind, run_newObj, Result.andThen_ok, Sem.run_pure, Array.size_push]
  have he : ∀ (t : List Item) (ds : List Deferred), ({ fn := b.fn, tmps := a.tmps, todo := t, defers := ds, mode := .run, kind := b.kind, roundOf := b.roundOf } : Frame).eval = a.eval := by
    intro t ds; funext x; cases x <;> rfl
  rw [hr] at he
  simp only [stepG, stepG.exec, on, hr, Sem.runT_eq, h1, GStep.bare_after]
  simp only [List.cons_append, List.nil_append, he]
  simp [stepG.apply, hrun]

theorem finish_rng (b : Frame) (a : Act) (l : Nat) (k : List Item) (v : Value) : (on b a (.inRangeFunc l :: k)).finish v = on b a (.endRangeFunc l :: k) := rfl

theorem s_endRng {l : Nat} {L : Loop} (hh : w.heap[l]? = some (.loop L)) (hs : (L.state == .busy) = false) :
    step P (lone (on b a (.endRangeFunc l :: k)) cs w) = .next (lone (on b a ((L.pending.map Item.code).toList ++ k)) cs { w with heap := w.heap.setIfInBounds l (.loop { L with state := .exhausted }) }) := by
  refine step_lone_go ?_
  have h1 : (Instr.endLoop l).run P w = .ok L.pending { w with heap := w.heap.setIfInBounds l (.loop { L with state := .exhausted }) } := by
    simp only [Instr.endLoop, Sem.run_bind, getLoop_run hh, Result.andThen_ok, hs, Bool.false_eq_true, if_false, set_loop _ hh, Sem.run_pure]
  simp [stepG, stepG.exec, on, h1]

/-- a call of a function's value -/
theorem call_run {ρ : Operand → Value} {f : Operand} {args : Array Operand} {ats : Array TypeId} {ty : TypeId} {g : FuncId} {first caps : Array Value} {fn : Func} (hf : ρ f = .func (.func g) first caps)
    (hfn : P.funcs[g]? = some fn) (hb : fn.body.isSome = true) (hn : (fn.name == "runtime.NumGoroutine") = false) :
    (do let d ← resolve ρ { callee := .value f, args := args, argTypes := ats } ty; invoke d.target d.args).run P w = .ok (.enter g (first ++ args.map ρ ++ caps)) w := by
  have hb' : ¬ (fn.body = none) := by intro h; rw [h] at hb; cases hb
  have hn' : ¬ (fn.name = "runtime.NumGoroutine") := by simpa using hn
  simp [resolve, hf, Deferred.ofValue, invoke, callFunc, hfn, hn', hb']

theorem yield_run {ρ : Operand → Value} {f : Operand} {args : Array Operand} {ats : Array TypeId} {ty : TypeId} {l : Nat} {L : Loop} (hf : ρ f = .func (.yield l) #[] #[])
    (hh : w.heap[l]? = some (.loop L)) (hs : args.size = L.params.size) :
    (do let d ← resolve ρ { callee := .value f, args := args, argTypes := ats } ty; invoke d.target d.args).run P w =
      .ok (.round l L.fn ((L.params.zip (args.map ρ)).foldl (fun tmps (t, a) => tmps.setIfInBounds t a) L.tmps) L.assign L.body) w := by
  simp [resolve, hf, Deferred.ofValue, invoke, Instr.yield, getLoop_run hh, hs]
end
end Go.AI
