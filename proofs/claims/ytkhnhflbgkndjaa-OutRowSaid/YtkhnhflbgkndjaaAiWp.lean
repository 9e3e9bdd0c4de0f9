/- What a piece of abstract code comes to, with enough fuel: rules for walking it. -/
import Derived.Test.YtkhnhflbgkndjaaAiMono
import Derived.Test.YtkhnhflbgkndjaaAiRel
namespace Go.AI

section
variable (F : Nat → Option AFunc)

/-- With enough fuel the code ends, and so. -/
def Runs (c : ACode) (e : Env) (h : Heap) (Q : AExit → Env → Heap → Prop) : Prop := ∃ n x e' h', run F n c e h = some (x, e', h') ∧ Q x e' h'
def OpsR (l : List AOper) (e : Env) (h : Heap) (Q : Env → Heap → Prop) : Prop := ∃ n e' h', opsF F (run F n) l e h = some (e', h') ∧ Q e' h'
def DrawR (k : Nat) (l : List (AOper × List Nat)) (e : Env) (h : Heap) (Q : Env → Heap → Prop) : Prop := ∃ n e' h', drawF F (run F n) k l e h = some (e', h') ∧ Q e' h'
def Does (f : Nat) (args : List Value) (h : Heap) (Q : Value → Heap → Prop) : Prop := ∃ n v h', callF F (run F n) f args h = some (v, h') ∧ Q v h'
def DoesV (fv : Value) (args : List Value) (h : Heap) (Q : Value → Heap → Prop) : Prop := ∃ n v h', callV F (run F n) fv args h = some (v, h') ∧ Q v h'
end

/-- What is asked behind a first piece. -/
def ThenQ (F : Nat → Option AFunc) (b : ACode) (Q : AExit → Env → Heap → Prop) : AExit → Env → Heap → Prop
  | .normal => fun e h => Runs F b e h Q
  | .exit id => Q (.exit id)
  | .ret => Q .ret

@[simp] theorem then_normal (F b Q e h) : ThenQ F b Q .normal e h = Runs F b e h Q := rfl
@[simp] theorem then_exit (F b Q id e h) : ThenQ F b Q (.exit id) e h = Q (.exit id) e h := rfl
@[simp] theorem then_ret (F b Q e h) : ThenQ F b Q .ret e h = Q .ret e h := rfl

/-- What is asked behind a round: what holds at the next one's beginning, or of the end. -/
def RoundQ (I : Env → Heap → Prop) (Q : AExit → Env → Heap → Prop) : AExit → Env → Heap → Prop
  | .normal => I
  | .exit id => Q (.exit id)
  | .ret => Q .ret

@[simp] theorem round_normal (I Q e h) : RoundQ I Q .normal e h = I e h := rfl
@[simp] theorem round_exit (I Q id e h) : RoundQ I Q (.exit id) e h = Q (.exit id) e h := rfl
@[simp] theorem round_ret (I Q e h) : RoundQ I Q .ret e h = Q .ret e h := rfl

/-- What is asked behind a block. -/
def OutQ (id : Nat) (Q : AExit → Env → Heap → Prop) : AExit → Env → Heap → Prop
  | .normal => Q .normal
  | .exit i => bif Nat.beq i id then Q .normal else Q (.exit i)
  | .ret => Q .ret

@[simp] theorem out_normal (id Q e h) : OutQ id Q .normal e h = Q .normal e h := rfl
@[simp] theorem out_exit_same (id Q e h) : OutQ id Q (.exit id) e h = Q .normal e h := by simp [OutQ]
theorem out_exit (id Q i e h) : OutQ id Q (.exit i) e h = (bif Nat.beq i id then Q .normal else Q (.exit i)) e h := rfl
theorem out_exit_other (id Q i e h) (hn : ¬ i = id) : OutQ id Q (.exit i) e h = Q (.exit i) e h := by
  have hb : Nat.beq i id = false := by
    cases hb : Nat.beq i id with
    | true => exact absurd (Nat.eq_of_beq_eq_true hb) hn
    | false => rfl
  rw [out_exit, hb]
  rfl
@[simp] theorem out_ret (id Q e h) : OutQ id Q .ret e h = Q .ret e h := rfl

section
variable {F : Nat → Option AFunc} {Q : AExit → Env → Heap → Prop} {e : Env} {h : Heap}

theorem Runs.mono {c : ACode} {Q' : AExit → Env → Heap → Prop} (H : Runs F c e h Q) (hQ : ∀ x e h, Q x e h → Q' x e h) : Runs F c e h Q' := by
  obtain ⟨n, x, e', h', hr, hq⟩ := H
  exact ⟨n, x, e', h', hr, hQ _ _ _ hq⟩

theorem Does.mono {f : Nat} {args : List Value} {R R' : Value → Heap → Prop} (H : Does F f args h R) (hQ : ∀ v h, R v h → R' v h) : Does F f args h R' := by
  obtain ⟨n, v, h', hr, hq⟩ := H
  exact ⟨n, v, h', hr, hQ _ _ hq⟩

theorem DoesV.mono {fv : Value} {args : List Value} {R R' : Value → Heap → Prop} (H : DoesV F fv args h R) (hQ : ∀ v h, R v h → R' v h) : DoesV F fv args h R' := by
  obtain ⟨n, v, h', hr, hq⟩ := H
  exact ⟨n, v, h', hr, hQ _ _ hq⟩

theorem runs_skip : Runs F .skip e h Q ↔ Q .normal e h := by
  constructor
  · rintro ⟨n, x, e', h', hr, hq⟩
    cases n with
    | zero => cases hr
    | succ n => cases hr; exact hq
  · intro hq; exact ⟨1, .normal, e, h, rfl, hq⟩

theorem runs_ret : Runs F .ret e h Q ↔ Q .ret e h := by
  constructor
  · rintro ⟨n, x, e', h', hr, hq⟩
    cases n with
    | zero => cases hr
    | succ n => cases hr; exact hq
  · intro hq; exact ⟨1, .ret, e, h, rfl, hq⟩

theorem runs_exit {id : Nat} : Runs F (.exit id) e h Q ↔ Q (.exit id) e h := by
  constructor
  · rintro ⟨n, x, e', h', hr, hq⟩
    cases n with
    | zero => cases hr
    | succ n => cases hr; exact hq
  · intro hq; exact ⟨1, .exit id, e, h, rfl, hq⟩

theorem runs_seq {a b : ACode} : Runs F (.seq a b) e h Q ↔ Runs F a e h (ThenQ F b Q) := by
  constructor
  · rintro ⟨n, x, e', h', hr, hq⟩
    cases n with
    | zero => cases hr
    | succ n =>
      rw [run_succ] at hr
      unfold stepC at hr
      dsimp only at hr
      cases hb : run F n a e h with
      | none => simp only [hb] at hr; cases hr
      | some y =>
        obtain ⟨y, e1, h1⟩ := y
        simp only [hb] at hr
        refine ⟨n, y, e1, h1, hb, ?_⟩
        cases y with
        | normal => exact ⟨n, x, e', h', hr, hq⟩
        | exit id => cases hr; exact hq
        | ret => cases hr; exact hq
  · rintro ⟨n, x, e', h', hr, hq⟩
    cases x with
    | normal =>
      obtain ⟨m, y, e2, h2, hm, hq⟩ := hq
      refine ⟨max n m + 1, y, e2, h2, ?_, hq⟩
      rw [run_succ]
      unfold stepC
      dsimp only
      simp only [run_le (Nat.le_max_left n m) _ _ _ _ hr]
      exact run_le (Nat.le_max_right n m) _ _ _ _ hm
    | exit id =>
      refine ⟨n + 1, _, _, _, ?_, hq⟩
      rw [run_succ]
      unfold stepC
      dsimp only
      simp only [hr]
    | ret =>
      refine ⟨n + 1, _, _, _, ?_, hq⟩
      rw [run_succ]
      unfold stepC
      dsimp only
      simp only [hr]

theorem runs_cond {c : Operand} {a b : ACode} {t : Bool} (hc : ev e c = .bool t) : Runs F (.cond c a b) e h Q ↔ Runs F (bif t then a else b) e h Q := by
  constructor
  · rintro ⟨n, x, e', h', hr, hq⟩
    cases n with
    | zero => cases hr
    | succ n =>
      rw [run_succ] at hr
      unfold stepC at hr
      dsimp only at hr
      rw [hc] at hr
      cases t <;> exact ⟨n, x, e', h', hr, hq⟩
  · rintro ⟨n, x, e', h', hr, hq⟩
    refine ⟨n + 1, x, e', h', ?_, hq⟩
    rw [run_succ]
    unfold stepC
    dsimp only
    rw [hc]
    cases t <;> exact hr

theorem runs_block {id : Nat} {c : ACode} : Runs F (.block id c) e h Q ↔ Runs F c e h (OutQ id Q) := by
  constructor
  · rintro ⟨n, x, e', h', hr, hq⟩
    cases n with
    | zero => cases hr
    | succ n =>
      rw [run_succ] at hr
      unfold stepC at hr
      dsimp only at hr
      cases hb : run F n c e h with
      | none => simp only [hb] at hr; cases hr
      | some y =>
        obtain ⟨y, e1, h1⟩ := y
        simp only [hb] at hr
        refine ⟨n, y, e1, h1, hb, ?_⟩
        cases y with
        | normal => cases hr; exact hq
        | ret => cases hr; exact hq
        | exit i =>
          rw [out_exit]
          dsimp only at hr
          cases hi : Nat.beq i id <;> rw [hi] at hr <;> cases hr <;> exact hq
  · rintro ⟨n, x, e', h', hr, hq⟩
    cases x with
    | normal =>
      refine ⟨n + 1, _, _, _, ?_, hq⟩
      rw [run_succ]
      unfold stepC
      dsimp only
      simp only [hr]
    | ret =>
      refine ⟨n + 1, _, _, _, ?_, hq⟩
      rw [run_succ]
      unfold stepC
      dsimp only
      simp only [hr]
    | exit i =>
      rw [out_exit] at hq
      cases hi : Nat.beq i id with
      | true =>
        rw [hi] at hq
        refine ⟨n + 1, .normal, e', h', ?_, hq⟩
        rw [run_succ]
        unfold stepC
        dsimp only
        simp only [hr, hi, cond_true]
      | false =>
        rw [hi] at hq
        refine ⟨n + 1, .exit i, e', h', ?_, hq⟩
        rw [run_succ]
        unfold stepC
        dsimp only
        simp only [hr, hi, cond_false]

theorem runs_loop {c : ACode} : Runs F (.loop c) e h Q ↔ Runs F c e h (ThenQ F (.loop c) Q) := by
  constructor
  · rintro ⟨n, x, e', h', hr, hq⟩
    cases n with
    | zero => cases hr
    | succ n =>
      rw [run_succ] at hr
      unfold stepC at hr
      dsimp only at hr
      cases hb : run F n c e h with
      | none => simp only [hb] at hr; cases hr
      | some y =>
        obtain ⟨y, e1, h1⟩ := y
        simp only [hb] at hr
        refine ⟨n, y, e1, h1, hb, ?_⟩
        cases y with
        | normal => exact ⟨n, x, e', h', hr, hq⟩
        | exit id => cases hr; exact hq
        | ret => cases hr; exact hq
  · rintro ⟨n, x, e', h', hr, hq⟩
    cases x with
    | normal =>
      obtain ⟨m, y, e2, h2, hm, hq⟩ := hq
      refine ⟨max n m + 1, y, e2, h2, ?_, hq⟩
      rw [run_succ]
      unfold stepC
      dsimp only
      simp only [run_le (Nat.le_max_left n m) _ _ _ _ hr]
      exact run_le (Nat.le_max_right n m) _ _ _ _ hm
    | exit id =>
      refine ⟨n + 1, _, _, _, ?_, hq⟩
      rw [run_succ]
      unfold stepC
      dsimp only
      simp only [hr]
    | ret =>
      refine ⟨n + 1, _, _, _, ?_, hq⟩
      rw [run_succ]
      unfold stepC
      dsimp only
      simp only [hr]

/-- A loop: what holds of each round's beginning, with a number that goes down. -/
theorem Runs.loop {c : ACode} (I : Nat → Env → Heap → Prop) (hI : ∀ n e h, I n e h → Runs F c e h (RoundQ (fun e h => ∃ m, m < n ∧ I m e h) Q)) {n : Nat} (h0 : I n e h) : Runs F (.loop c) e h Q := by
  induction n using Nat.strongRecOn generalizing e h with
  | ind n ih =>
    rw [runs_loop]
    refine (hI n e h h0).mono fun x e h hq => ?_
    cases x with
    | normal => obtain ⟨m, hm, hi⟩ := hq; exact ih m hm hi
    | exit id => exact hq
    | ret => exact hq

theorem runs_ops {l : List AOper} : Runs F (.ops l) e h Q ↔ OpsR F l e h (Q .normal) := by
  constructor
  · rintro ⟨n, x, e', h', hr, hq⟩
    cases n with
    | zero => cases hr
    | succ n =>
      rw [run_succ] at hr
      unfold stepC at hr
      dsimp only at hr
      cases hb : opsF F (run F n) l e h with
      | none => simp only [hb] at hr; cases hr
      | some y => simp only [hb] at hr; cases hr; exact ⟨n, _, _, hb, hq⟩
  · rintro ⟨n, e', h', hr, hq⟩
    refine ⟨n + 1, .normal, e', h', ?_, hq⟩
    rw [run_succ]
    unfold stepC
    dsimp only
    simp only [hr]

def tick (h : Heap) : Heap := { h with clock := h.clock + 1 }

theorem runs_draw {l : List (AOper × List Nat)} : Runs F (.draw l) e h Q ↔ DrawR F h.clock l e (tick h) (Q .normal) := by
  constructor
  · rintro ⟨n, x, e', h', hr, hq⟩
    cases n with
    | zero => cases hr
    | succ n =>
      rw [run_succ] at hr
      unfold stepC at hr
      dsimp only at hr
      cases hb : drawF F (run F n) h.clock l e { h with clock := h.clock + 1 } with
      | none => simp only [hb] at hr; cases hr
      | some y => simp only [hb] at hr; cases hr; exact ⟨n, _, _, hb, hq⟩
  · rintro ⟨n, e', h', hr, hq⟩
    refine ⟨n + 1, .normal, e', h', ?_, hq⟩
    rw [run_succ]
    unfold stepC
    dsimp only
    rw [show ({ h with clock := h.clock + 1 } : Heap) = tick h from rfl]
    simp only [hr]

theorem opsR_nil {R : Env → Heap → Prop} : OpsR F [] e h R ↔ R e h := by
  constructor
  · rintro ⟨n, e', h', hr, hq⟩; cases hr; exact hq
  · intro hq; exact ⟨0, e, h, rfl, hq⟩

theorem drawR_nil {k : Nat} {R : Env → Heap → Prop} : DrawR F k [] e h R ↔ R e h := by
  constructor
  · rintro ⟨n, e', h', hr, hq⟩; cases hr; exact hq
  · intro hq; exact ⟨0, e, h, rfl, hq⟩

/-- One operation. -/
def OperR (F : Nat → Option AFunc) (o : AOper) (e : Env) (h : Heap) (R : Env → Heap → Prop) : Prop := ∃ n e' h', operF F (run F n) o e h = some (e', h') ∧ R e' h'

theorem opsR_cons {o : AOper} {l : List AOper} {R : Env → Heap → Prop} : OpsR F (o :: l) e h R ↔ OperR F o e h (fun e h => OpsR F l e h R) := by
  constructor
  · rintro ⟨n, e', h', hr, hq⟩
    unfold opsF at hr
    cases hb : operF F (run F n) o e h with
    | none => rw [hb] at hr; cases hr
    | some y => rw [hb] at hr; exact ⟨n, _, _, hb, n, _, _, hr, hq⟩
  · rintro ⟨n, e1, h1, hb, m, e', h', hr, hq⟩
    refine ⟨max n m, e', h', ?_, hq⟩
    unfold opsF
    rw [operF_le (run_le (Nat.le_max_left n m)) hb]
    exact opsF_le (run_le (Nat.le_max_right n m)) hr

theorem drawR_cons {k : Nat} {o : AOper} {chk : List Nat} {l : List (AOper × List Nat)} {R : Env → Heap → Prop} : DrawR F k ((o, chk) :: l) e h R ↔ OperR F o e h (fun e h => still e h k chk = true ∧ DrawR F k l e h R) := by
  constructor
  · rintro ⟨n, e', h', hr, hq⟩
    unfold drawF at hr
    cases hb : operF F (run F n) o e h with
    | none => rw [hb] at hr; cases hr
    | some y =>
      rw [hb] at hr
      dsimp only at hr
      cases hs : still y.1 y.2 k chk with
      | false => rw [hs] at hr; cases hr
      | true => rw [hs] at hr; exact ⟨n, _, _, hb, hs, n, _, _, hr, hq⟩
  · rintro ⟨n, e1, h1, hb, hs, m, e', h', hr, hq⟩
    refine ⟨max n m, e', h', ?_, hq⟩
    unfold drawF
    rw [operF_le (run_le (Nat.le_max_left n m)) hb]
    dsimp only
    rw [hs]
    exact drawF_le (run_le (Nat.le_max_right n m)) hr

/-- An operation that is no call. -/
def calls : AOp → Bool
  | .call _ _ => true
  | _ => false

theorem operR_op {d : Option Nat} {op : AOp} {R : Env → Heap → Prop} (hn : calls op = false) : OperR F ⟨d, none, op⟩ e h R ↔ ∃ v h1, opV e h op = some (v, h1) ∧ R (putE e d v) h1 := by
  have key : ∀ n, operF F (run F n) ⟨d, none, op⟩ e h = (match opV e h op with | some (v, h') => some (putE e d v, h') | none => none) := by
    intro n
    unfold operF
    simp only [wanted, cond_true]
    split
    · cases hn
    · rfl
  constructor
  · rintro ⟨n, e', h', hr, hq⟩
    rw [key] at hr
    cases ho : opV e h op with
    | none => rw [ho] at hr; cases hr
    | some y => rw [ho] at hr; cases hr; exact ⟨_, _, rfl, hq⟩
  · rintro ⟨v, h1, ho, hq⟩
    exact ⟨0, _, _, by rw [key, ho], hq⟩

theorem operR_skip {d : Option Nat} {t : Nat} {b c : Bool} {op : AOp} {R : Env → Heap → Prop} (hg : Env.get e t = .bool c) : OperR F ⟨d, some (t, b), op⟩ e h R ↔ (bif c == b then OperR F ⟨d, none, op⟩ e h R else R (putE e d (.tuple #[])) h) := by
  have hw : wanted e (some (t, b)) = (c == b) := by simp [wanted, hg]
  cases hcb : (c == b) with
  | true =>
    have key : ∀ n, operF F (run F n) ⟨d, some (t, b), op⟩ e h = operF F (run F n) ⟨d, none, op⟩ e h := by
      intro n
      unfold operF
      dsimp only
      rw [hw, hcb]
      rfl
    simp only [OperR, key, cond_true]
  | false =>
    have key : ∀ n, operF F (run F n) ⟨d, some (t, b), op⟩ e h = some (putE e d (.tuple #[]), h) := by
      intro n
      unfold operF
      dsimp only
      rw [hw, hcb]
      rfl
    simp only [OperR, key, cond_false]
    constructor
    · rintro ⟨n, e', h', hr, hq⟩; cases hr; exact hq
    · intro hq; exact ⟨0, _, _, rfl, hq⟩

theorem operR_call {d : Option Nat} {f : Operand} {args : List Operand} {R : Env → Heap → Prop} : OperR F ⟨d, none, .call f args⟩ e h R ↔ DoesV F (ev e f) (vals e args) h (fun v h => R (putE e d v) h) := by
  have key : ∀ n, operF F (run F n) ⟨d, none, .call f args⟩ e h = (match callV F (run F n) (ev e f) (vals e args) h with | some (v, h') => some (putE e d v, h') | none => none) := by
    intro n
    rfl
  constructor
  · rintro ⟨n, e', h', hr, hq⟩
    rw [key] at hr
    cases ho : callV F (run F n) (ev e f) (vals e args) h with
    | none => rw [ho] at hr; cases hr
    | some y => rw [ho] at hr; cases hr; exact ⟨n, _, _, ho, hq⟩
  · rintro ⟨n, v, h1, ho, hq⟩
    exact ⟨n, _, _, by rw [key, ho], hq⟩

theorem doesV_func {f : Nat} {first caps : Array Value} {args : List Value} {R : Value → Heap → Prop} : DoesV F (.func (.func f) first caps) args h R ↔ Does F f (first.toList ++ args ++ caps.toList) h R := Iff.rfl

/-- The end of a call. -/
def EndsQ (rs : List ARes) (R : Value → Heap → Prop) : AExit → Env → Heap → Prop
  | .normal, e, h => ∃ vs, results e h rs = some vs ∧ resultOk vs = true ∧ R (result vs) h
  | .ret, e, h => ∃ vs, results e h rs = some vs ∧ resultOk vs = true ∧ R (result vs) h
  | .exit _, _, _ => False

@[simp] theorem ends_normal {rs R} : EndsQ rs R .normal e h ↔ ∃ vs, results e h rs = some vs ∧ resultOk vs = true ∧ R (result vs) h := Iff.rfl
@[simp] theorem ends_ret {rs R} : EndsQ rs R .ret e h ↔ ∃ vs, results e h rs = some vs ∧ resultOk vs = true ∧ R (result vs) h := Iff.rfl
@[simp] theorem ends_exit {rs R id} : EndsQ rs R (.exit id) e h ↔ False := Iff.rfl

theorem Does.of {f : Nat} {fn : AFunc} {args : List Value} {R : Value → Heap → Prop} (hf : F f = some fn) (H : Runs F fn.body (params .nil 0 args) h (EndsQ fn.res R)) : Does F f args h R := by
  obtain ⟨n, x, e', h', hr, hq⟩ := H
  cases x with
  | exit id => exact hq.elim
  | normal =>
    obtain ⟨vs, hv, ho, hq⟩ := hq
    refine ⟨n, _, h', ?_, hq⟩
    unfold callF
    rw [hf]
    dsimp only
    rw [hr]
    dsimp only
    rw [hv]
    dsimp only
    rw [ho]
    rfl
  | ret =>
    obtain ⟨vs, hv, ho, hq⟩ := hq
    refine ⟨n, _, h', ?_, hq⟩
    unfold callF
    rw [hf]
    dsimp only
    rw [hr]
    dsimp only
    rw [hv]
    dsimp only
    rw [ho]
    rfl

theorem Does.answer {f : Nat} {args : List Value} {R : Value → Heap → Prop} (H : Does F f args h R) : ∃ n v h', call F n f args h = some (v, h') ∧ R v h' := H
end

end Go.AI
