/- More fuel answers no less. -/
import Derived.Test.YtigniafapkbbbaaGreatDoorAiBase
import Derived.Test.YtigniafapkbbbaaGreatDoorAiRel
namespace Go.AI

/-- Whatever the first answers, the second answers. -/
def LeR (ih ih' : ACode → Env → Heap → R) : Prop := ∀ c e h r, ih c e h = some r → ih' c e h = some r

section
variable {F : Nat → Option AFunc} {ih ih' : ACode → Env → Heap → R}

theorem callG_le (H : LeR ih ih') {o : Bool} {f : Nat} {args : List Value} {h : Heap} {r : Value × Heap} (hc : callG F ih o f args h = some r) : callG F ih' o f args h = some r := by
  unfold callG at hc ⊢
  cases hf : F f with
  | none => rw [hf] at hc; cases hc
  | some fn =>
    rw [hf] at hc
    dsimp only at hc ⊢
    cases hp : fn.prim with
    | ovl => rw [hp] at hc; exact hc
    | run p k => rw [hp] at hc; exact hc
    | no =>
      rw [hp] at hc
      dsimp only at hc ⊢
      cases hb : ih fn.body (params .nil 0 args) h with
      | none => rw [hb] at hc; cases hc
      | some x => rw [hb] at hc; rw [H _ _ _ _ hb]; exact hc

theorem callF_le (H : LeR ih ih') {f : Nat} {args : List Value} {h : Heap} {r : Value × Heap} (hc : callF F ih f args h = some r) : callF F ih' f args h = some r := callG_le H hc

theorem roundB_le (H : LeR ih ih') {l : Nat} {code : ACode} {e : Env} {h : Heap} {r : Value × Heap} (hc : roundB ih l code e h = some r) : roundB ih' l code e h = some r := by
  unfold roundB at hc ⊢
  split at hc
  · rename_i env ps asg body hg
    cases hb : ih code e (setLoop h l env ps asg body .busy) with
    | none => rw [hb] at hc; cases hc
    | some x => rw [hb] at hc; rw [H _ _ _ _ hb]; exact hc
  · cases hc

theorem roundF_le (H : LeR ih ih') {l : Nat} {args : List Value} {h : Heap} {r : Value × Heap} (hc : roundF ih l args h = some r) : roundF ih' l args h = some r := by
  unfold roundF at hc ⊢
  split at hc
  · rename_i env ps asg body hg
    cases hs : setParams env ps args with
    | none => rw [hs] at hc; cases hc
    | some e =>
      rw [hs] at hc
      dsimp only at hc ⊢
      cases hb : ih asg e h with
      | none => rw [hb] at hc; cases hc
      | some x =>
        obtain ⟨x, e1, h1⟩ := x
        rw [hb] at hc; rw [H _ _ _ _ hb]
        cases x with
        | normal => exact roundB_le H hc
        | exit id => cases hc
        | ret => cases hc
  · cases hc

theorem callV_le (H : LeR ih ih') {fv : Value} {args : List Value} {h : Heap} {r : Value × Heap} (hc : callV F ih fv args h = some r) : callV F ih' fv args h = some r := by
  unfold callV at hc ⊢
  split at hc
  · exact callG_le H hc
  · exact roundF_le H hc
  · cases hc

theorem operF_le (H : LeR ih ih') {o : AOper} {e : Env} {h : Heap} {r : Env × Heap} (hc : operF F ih o e h = some r) : operF F ih' o e h = some r := by
  unfold operF at hc ⊢
  cases hw : wanted e o.guard with
  | false => rw [hw] at hc; exact hc
  | true =>
    rw [hw] at hc
    simp only [cond_true] at hc ⊢
    split at hc
    · rename_i f args hop
      cases hb : callV F ih (ev e f) (vals e args) h with
      | none => rw [hb] at hc; cases hc
      | some x => rw [hb] at hc; rw [callV_le H hb]; exact hc
    · exact hc

theorem opsF_le (H : LeR ih ih') : ∀ {l : List AOper} {e : Env} {h : Heap} {r : Env × Heap}, opsF F ih l e h = some r → opsF F ih' l e h = some r
  | [], _, _, _, hc => hc
  | o :: l, e, h, r, hc => by
    unfold opsF at hc ⊢
    cases hb : operF F ih o e h with
    | none => rw [hb] at hc; cases hc
    | some x => rw [hb] at hc; rw [operF_le H hb]; exact opsF_le H hc

theorem drawF_le (H : LeR ih ih') {k : Nat} : ∀ {l : List (AOper × List Nat)} {e : Env} {h : Heap} {r : Env × Heap}, drawF F ih k l e h = some r → drawF F ih' k l e h = some r
  | [], _, _, _, hc => hc
  | (o, chk) :: l, e, h, r, hc => by
    unfold drawF at hc ⊢
    cases hb : operF F ih o e h with
    | none => rw [hb] at hc; cases hc
    | some x =>
      obtain ⟨e1, h1⟩ := x
      rw [hb] at hc; rw [operF_le H hb]
      dsimp only at hc ⊢
      cases hs : still e1 h1 k chk with
      | false => rw [hs] at hc; cases hc
      | true => rw [hs] at hc; exact drawF_le H hc

theorem stepC_le (H : LeR ih ih') : LeR (stepC F ih) (stepC F ih') := by
  intro c e h r hc
  cases c with
  | skip => exact hc
  | ret => exact hc
  | bad => exact hc
  | exit id => exact hc
  | ops l =>
    unfold stepC at hc ⊢
    cases hb : opsF F ih l e h with
    | none => simp only [hb] at hc; cases hc
    | some x => simp only [hb] at hc; simp only [opsF_le H hb]; exact hc
  | draw l =>
    unfold stepC at hc ⊢
    cases hb : drawF F ih h.clock l e { h with clock := h.clock + 1 } with
    | none => simp only [hb] at hc; cases hc
    | some x => simp only [hb] at hc; simp only [drawF_le H hb]; exact hc
  | seq a b =>
    unfold stepC at hc ⊢
    cases hb : ih a e h with
    | none => simp only [hb] at hc; cases hc
    | some x =>
      obtain ⟨x, e1, h1⟩ := x
      simp only [hb] at hc; simp only [H _ _ _ _ hb]
      cases x with
      | normal => exact H _ _ _ _ hc
      | exit id => exact hc
      | ret => exact hc
  | cond cc a b =>
    unfold stepC at hc ⊢
    dsimp only at hc ⊢
    split at hc
    · first | exact H _ _ _ _ hc | (rename_i hv; rw [hv]; exact H _ _ _ _ hc)
    · first | exact H _ _ _ _ hc | (rename_i hv; rw [hv]; exact H _ _ _ _ hc)
    · cases hc
  | block id c =>
    unfold stepC at hc ⊢
    cases hb : ih c e h with
    | none => simp only [hb] at hc; cases hc
    | some x => simp only [hb] at hc; simp only [H _ _ _ _ hb]; exact hc
  | loop c =>
    unfold stepC at hc ⊢
    cases hb : ih c e h with
    | none => simp only [hb] at hc; cases hc
    | some x =>
      obtain ⟨x, e1, h1⟩ := x
      simp only [hb] at hc; simp only [H _ _ _ _ hb]
      cases x with
      | normal => exact H _ _ _ _ hc
      | exit id => exact hc
      | ret => exact hc
  | rng f ps asg body =>
    unfold stepC at hc ⊢
    dsimp only at hc ⊢
    split at hc
    · rename_i g first caps hv
      cases hb : callF F ih g (first.toList ++ [Value.func (.yield h.next) #[] #[]] ++ caps.toList) (h.new (.loop e ps asg body .ready)) with
      | none => rw [hb] at hc; cases hc
      | some x => rw [hb] at hc; rw [callF_le H hb]; exact hc
    · cases hc

theorem run_succ (n : Nat) : run F (n + 1) = stepC F (run F n) := rfl

theorem run_le1 : ∀ n, LeR (run F n) (run F (n + 1))
  | 0 => fun _ _ _ _ h => by cases h
  | n + 1 => stepC_le (run_le1 n)

theorem run_le {n m : Nat} (h : n ≤ m) : LeR (run F n) (run F m) := by
  induction h with
  | refl => exact fun _ _ _ _ h => h
  | step _ ih => exact fun c e h r hr => run_le1 _ c e h r (ih c e h r hr)
end
end Go.AI

/- What a piece of abstract code comes to, with enough fuel: rules for walking it. -/
namespace Go.AI

section
variable (F : Nat → Option AFunc)

/-- With enough fuel the code ends, and so. -/
def Runs (c : ACode) (e : Env) (h : Heap) (Q : AExit → Env → Heap → Prop) : Prop := ∃ n x e' h', run F n c e h = some (x, e', h') ∧ Q x e' h'
def OpsR (l : List AOper) (e : Env) (h : Heap) (Q : Env → Heap → Prop) : Prop := ∃ n e' h', opsF F (run F n) l e h = some (e', h') ∧ Q e' h'
def DrawR (k : Nat) (l : List (AOper × List Nat)) (e : Env) (h : Heap) (Q : Env → Heap → Prop) : Prop := ∃ n e' h', drawF F (run F n) k l e h = some (e', h') ∧ Q e' h'
def Does (f : Nat) (args : List Value) (h : Heap) (Q : Value → Heap → Prop) : Prop := ∃ n v h', callF F (run F n) f args h = some (v, h') ∧ Q v h'
def DoesV (fv : Value) (args : List Value) (h : Heap) (Q : Value → Heap → Prop) : Prop := ∃ n v h', callV F (run F n) fv args h = some (v, h') ∧ Q v h'
end

/-- What is asked behind a first piece. -/
def ThenQ (F : Nat → Option AFunc) (b : ACode) (Q : AExit → Env → Heap → Prop) : AExit → Env → Heap → Prop
  | .normal => fun e h => Runs F b e h Q
  | .exit id => Q (.exit id)
  | .ret => Q .ret

@[simp] theorem then_normal (F b Q e h) : ThenQ F b Q .normal e h = Runs F b e h Q := rfl
@[simp] theorem then_exit (F b Q id e h) : ThenQ F b Q (.exit id) e h = Q (.exit id) e h := rfl
@[simp] theorem then_ret (F b Q e h) : ThenQ F b Q .ret e h = Q .ret e h := rfl

/-- What is asked behind a round: what holds at the next one's beginning, or of the end. -/
def RoundQ (I : Env → Heap → Prop) (Q : AExit → Env → Heap → Prop) : AExit → Env → Heap → Prop
  | .normal => I
  | .exit id => Q (.exit id)
  | .ret => Q .ret

@[simp] theorem round_normal (I Q e h) : RoundQ I Q .normal e h = I e h := rfl
@[simp] theorem round_exit (I Q id e h) : RoundQ I Q (.exit id) e h = Q (.exit id) e h := rfl
@[simp] theorem round_ret (I Q e h) : RoundQ I Q .ret e h = Q .ret e h := rfl

/-- What is asked behind a block. -/
def OutQ (id : Nat) (Q : AExit → Env → Heap → Prop) : AExit → Env → Heap → Prop
  | .normal => Q .normal
  | .exit i => bif Nat.beq i id then Q .normal else Q (.exit i)
  | .ret => Q .ret

@[simp] theorem out_normal (id Q e h) : OutQ id Q .normal e h = Q .normal e h := rfl
@[simp] theorem out_exit_same (id Q e h) : OutQ id Q (.exit id) e h = Q .normal e h := by simp [OutQ]
theorem out_exit (id Q i e h) : OutQ id Q (.exit i) e h = (bif Nat.beq i id then Q .normal else Q (.exit i)) e h := rfl
theorem out_exit_other (id Q i e h) (hn : ¬ i = id) : OutQ id Q (.exit i) e h = Q (.exit i) e h := by
  have hb : Nat.beq i id = false := by
    cases hb : Nat.beq i id with
    | true => exact absurd (Nat.eq_of_beq_eq_true hb) hn
    | false => rfl
  rw [out_exit, hb]
  rfl
@[simp] theorem out_ret (id Q e h) : OutQ id Q .ret e h = Q .ret e h := rfl

section
variable {F : Nat → Option AFunc} {Q : AExit → Env → Heap → Prop} {e : Env} {h : Heap}

theorem Runs.mono {c : ACode} {Q' : AExit → Env → Heap → Prop} (H : Runs F c e h Q) (hQ : ∀ x e h, Q x e h → Q' x e h) : Runs F c e h Q' := by
  obtain ⟨n, x, e', h', hr, hq⟩ := H
  exact ⟨n, x, e', h', hr, hQ _ _ _ hq⟩

theorem Does.mono {f : Nat} {args : List Value} {R R' : Value → Heap → Prop} (H : Does F f args h R) (hQ : ∀ v h, R v h → R' v h) : Does F f args h R' := by
  obtain ⟨n, v, h', hr, hq⟩ := H
  exact ⟨n, v, h', hr, hQ _ _ hq⟩

theorem DoesV.mono {fv : Value} {args : List Value} {R R' : Value → Heap → Prop} (H : DoesV F fv args h R) (hQ : ∀ v h, R v h → R' v h) : DoesV F fv args h R' := by
  obtain ⟨n, v, h', hr, hq⟩ := H
  exact ⟨n, v, h', hr, hQ _ _ hq⟩

theorem runs_skip : Runs F .skip e h Q ↔ Q .normal e h := by
  constructor
  · rintro ⟨n, x, e', h', hr, hq⟩
    cases n with
    | zero => cases hr
    | succ n => cases hr; exact hq
  · intro hq; exact ⟨1, .normal, e, h, rfl, hq⟩

theorem runs_ret : Runs F .ret e h Q ↔ Q .ret e h := by
  constructor
  · rintro ⟨n, x, e', h', hr, hq⟩
    cases n with
    | zero => cases hr
    | succ n => cases hr; exact hq
  · intro hq; exact ⟨1, .ret, e, h, rfl, hq⟩

theorem runs_exit {id : Nat} : Runs F (.exit id) e h Q ↔ Q (.exit id) e h := by
  constructor
  · rintro ⟨n, x, e', h', hr, hq⟩
    cases n with
    | zero => cases hr
    | succ n => cases hr; exact hq
  · intro hq; exact ⟨1, .exit id, e, h, rfl, hq⟩

theorem runs_seq {a b : ACode} : Runs F (.seq a b) e h Q ↔ Runs F a e h (ThenQ F b Q) := by
  constructor
  · rintro ⟨n, x, e', h', hr, hq⟩
    cases n with
    | zero => cases hr
    | succ n =>
      rw [run_succ] at hr
      unfold stepC at hr
      dsimp only at hr
      cases hb : run F n a e h with
      | none => simp only [hb] at hr; cases hr
      | some y =>
        obtain ⟨y, e1, h1⟩ := y
        simp only [hb] at hr
        refine ⟨n, y, e1, h1, hb, ?_⟩
        cases y with
        | normal => exact ⟨n, x, e', h', hr, hq⟩
        | exit id => cases hr; exact hq
        | ret => cases hr; exact hq
  · rintro ⟨n, x, e', h', hr, hq⟩
    cases x with
    | normal =>
      obtain ⟨m, y, e2, h2, hm, hq⟩ := hq
      refine ⟨max n m + 1, y, e2, h2, ?_, hq⟩
      rw [run_succ]
      unfold stepC
      dsimp only
      simp only [run_le (Nat.le_max_left n m) _ _ _ _ hr]
      exact run_le (Nat.le_max_right n m) _ _ _ _ hm
    | exit id =>
      refine ⟨n + 1, _, _, _, ?_, hq⟩
      rw [run_succ]
      unfold stepC
      dsimp only
      simp only [hr]
    | ret =>
      refine ⟨n + 1, _, _, _, ?_, hq⟩
      rw [run_succ]
      unfold stepC
      dsimp only
      simp only [hr]

theorem runs_cond {c : Operand} {a b : ACode} {t : Bool} (hc : ev e c = .bool t) : Runs F (.cond c a b) e h Q ↔ Runs F (bif t then a else b) e h Q := by
  constructor
  · rintro ⟨n, x, e', h', hr, hq⟩
    cases n with
    | zero => cases hr
    | succ n =>
      rw [run_succ] at hr
      unfold stepC at hr
      dsimp only at hr
      rw [hc] at hr
      cases t <;> exact ⟨n, x, e', h', hr, hq⟩
  · rintro ⟨n, x, e', h', hr, hq⟩
    refine ⟨n + 1, x, e', h', ?_, hq⟩
    rw [run_succ]
    unfold stepC
    dsimp only
    rw [hc]
    cases t <;> exact hr

theorem runs_block {id : Nat} {c : ACode} : Runs F (.block id c) e h Q ↔ Runs F c e h (OutQ id Q) := by
  constructor
  · rintro ⟨n, x, e', h', hr, hq⟩
    cases n with
    | zero => cases hr
    | succ n =>
      rw [run_succ] at hr
      unfold stepC at hr
      dsimp only at hr
      cases hb : run F n c e h with
      | none => simp only [hb] at hr; cases hr
      | some y =>
        obtain ⟨y, e1, h1⟩ := y
        simp only [hb] at hr
        refine ⟨n, y, e1, h1, hb, ?_⟩
        cases y with
        | normal => cases hr; exact hq
        | ret => cases hr; exact hq
        | exit i =>
          rw [out_exit]
          dsimp only at hr
          cases hi : Nat.beq i id <;> rw [hi] at hr <;> cases hr <;> exact hq
  · rintro ⟨n, x, e', h', hr, hq⟩
    cases x with
    | normal =>
      refine ⟨n + 1, _, _, _, ?_, hq⟩
      rw [run_succ]
      unfold stepC
      dsimp only
      simp only [hr]
    | ret =>
      refine ⟨n + 1, _, _, _, ?_, hq⟩
      rw [run_succ]
      unfold stepC
      dsimp only
      simp only [hr]
    | exit i =>
      rw [out_exit] at hq
      cases hi : Nat.beq i id with
      | true =>
        rw [hi] at hq
        refine ⟨n + 1, .normal, e', h', ?_, hq⟩
        rw [run_succ]
        unfold stepC
        dsimp only
        simp only [hr, hi, cond_true]
      | false =>
        rw [hi] at hq
        refine ⟨n + 1, .exit i, e', h', ?_, hq⟩
        rw [run_succ]
        unfold stepC
        dsimp only
        simp only [hr, hi, cond_false]

theorem runs_loop {c : ACode} : Runs F (.loop c) e h Q ↔ Runs F c e h (ThenQ F (.loop c) Q) := by
  constructor
  · rintro ⟨n, x, e', h', hr, hq⟩
    cases n with
    | zero => cases hr
    | succ n =>
      rw [run_succ] at hr
      unfold stepC at hr
      dsimp only at hr
      cases hb : run F n c e h with
      | none => simp only [hb] at hr; cases hr
      | some y =>
        obtain ⟨y, e1, h1⟩ := y
        simp only [hb] at hr
        refine ⟨n, y, e1, h1, hb, ?_⟩
        cases y with
        | normal => exact ⟨n, x, e', h', hr, hq⟩
        | exit id => cases hr; exact hq
        | ret => cases hr; exact hq
  · rintro ⟨n, x, e', h', hr, hq⟩
    cases x with
    | normal =>
      obtain ⟨m, y, e2, h2, hm, hq⟩ := hq
      refine ⟨max n m + 1, y, e2, h2, ?_, hq⟩
      rw [run_succ]
      unfold stepC
      dsimp only
      simp only [run_le (Nat.le_max_left n m) _ _ _ _ hr]
      exact run_le (Nat.le_max_right n m) _ _ _ _ hm
    | exit id =>
      refine ⟨n + 1, _, _, _, ?_, hq⟩
      rw [run_succ]
      unfold stepC
      dsimp only
      simp only [hr]
    | ret =>
      refine ⟨n + 1, _, _, _, ?_, hq⟩
      rw [run_succ]
      unfold stepC
      dsimp only
      simp only [hr]

/-- A loop: what holds of each round's beginning, with a number that goes down. -/
theorem Runs.loop {c : ACode} (I : Nat → Env → Heap → Prop) (hI : ∀ n e h, I n e h → Runs F c e h (RoundQ (fun e h => ∃ m, m < n ∧ I m e h) Q)) {n : Nat} (h0 : I n e h) : Runs F (.loop c) e h Q := by
  induction n using Nat.strongRecOn generalizing e h with
  | ind n ih =>
    rw [runs_loop]
    refine (hI n e h h0).mono fun x e h hq => ?_
    cases x with
    | normal => obtain ⟨m, hm, hi⟩ := hq; exact ih m hm hi
    | exit id => exact hq
    | ret => exact hq

theorem runs_ops {l : List AOper} : Runs F (.ops l) e h Q ↔ OpsR F l e h (Q .normal) := by
  constructor
  · rintro ⟨n, x, e', h', hr, hq⟩
    cases n with
    | zero => cases hr
    | succ n =>
      rw [run_succ] at hr
      unfold stepC at hr
      dsimp only at hr
      cases hb : opsF F (run F n) l e h with
      | none => simp only [hb] at hr; cases hr
      | some y => simp only [hb] at hr; cases hr; exact ⟨n, _, _, hb, hq⟩
  · rintro ⟨n, e', h', hr, hq⟩
    refine ⟨n + 1, .normal, e', h', ?_, hq⟩
    rw [run_succ]
    unfold stepC
    dsimp only
    simp only [hr]

def tick (h : Heap) : Heap := { h with clock := h.clock + 1 }

theorem runs_draw {l : List (AOper × List Nat)} : Runs F (.draw l) e h Q ↔ DrawR F h.clock l e (tick h) (Q .normal) := by
  constructor
  · rintro ⟨n, x, e', h', hr, hq⟩
    cases n with
    | zero => cases hr
    | succ n =>
      rw [run_succ] at hr
      unfold stepC at hr
      dsimp only at hr
      cases hb : drawF F (run F n) h.clock l e { h with clock := h.clock + 1 } with
      | none => simp only [hb] at hr; cases hr
      | some y => simp only [hb] at hr; cases hr; exact ⟨n, _, _, hb, hq⟩
  · rintro ⟨n, e', h', hr, hq⟩
    refine ⟨n + 1, .normal, e', h', ?_, hq⟩
    rw [run_succ]
    unfold stepC
    dsimp only
    rw [show ({ h with clock := h.clock + 1 } : Heap) = tick h from rfl]
    simp only [hr]

theorem opsR_nil {R : Env → Heap → Prop} : OpsR F [] e h R ↔ R e h := by
  constructor
  · rintro ⟨n, e', h', hr, hq⟩; cases hr; exact hq
  · intro hq; exact ⟨0, e, h, rfl, hq⟩

theorem drawR_nil {k : Nat} {R : Env → Heap → Prop} : DrawR F k [] e h R ↔ R e h := by
  constructor
  · rintro ⟨n, e', h', hr, hq⟩; cases hr; exact hq
  · intro hq; exact ⟨0, e, h, rfl, hq⟩

/-- One operation. -/
def OperR (F : Nat → Option AFunc) (o : AOper) (e : Env) (h : Heap) (R : Env → Heap → Prop) : Prop := ∃ n e' h', operF F (run F n) o e h = some (e', h') ∧ R e' h'

theorem opsR_cons {o : AOper} {l : List AOper} {R : Env → Heap → Prop} : OpsR F (o :: l) e h R ↔ OperR F o e h (fun e h => OpsR F l e h R) := by
  constructor
  · rintro ⟨n, e', h', hr, hq⟩
    unfold opsF at hr
    cases hb : operF F (run F n) o e h with
    | none => rw [hb] at hr; cases hr
    | some y => rw [hb] at hr; exact ⟨n, _, _, hb, n, _, _, hr, hq⟩
  · rintro ⟨n, e1, h1, hb, m, e', h', hr, hq⟩
    refine ⟨max n m, e', h', ?_, hq⟩
    unfold opsF
    rw [operF_le (run_le (Nat.le_max_left n m)) hb]
    exact opsF_le (run_le (Nat.le_max_right n m)) hr

theorem drawR_cons {k : Nat} {o : AOper} {chk : List Nat} {l : List (AOper × List Nat)} {R : Env → Heap → Prop} : DrawR F k ((o, chk) :: l) e h R ↔ OperR F o e h (fun e h => still e h k chk = true ∧ DrawR F k l e h R) := by
  constructor
  · rintro ⟨n, e', h', hr, hq⟩
    unfold drawF at hr
    cases hb : operF F (run F n) o e h with
    | none => rw [hb] at hr; cases hr
    | some y =>
      rw [hb] at hr
      dsimp only at hr
      cases hs : still y.1 y.2 k chk with
      | false => rw [hs] at hr; cases hr
      | true => rw [hs] at hr; exact ⟨n, _, _, hb, hs, n, _, _, hr, hq⟩
  · rintro ⟨n, e1, h1, hb, hs, m, e', h', hr, hq⟩
    refine ⟨max n m, e', h', ?_, hq⟩
    unfold drawF
    rw [operF_le (run_le (Nat.le_max_left n m)) hb]
    dsimp only
    rw [hs]
    exact drawF_le (run_le (Nat.le_max_right n m)) hr

/-- An operation that is no call. -/
def calls : AOp → Bool
  | .call _ _ => true
  | _ => false

theorem operR_op {d : Option Nat} {op : AOp} {R : Env → Heap → Prop} (hn : calls op = false) : OperR F ⟨d, none, op⟩ e h R ↔ ∃ v h1, opV e h op = some (v, h1) ∧ R (putE e d v) h1 := by
  have key : ∀ n, operF F (run F n) ⟨d, none, op⟩ e h = (match opV e h op with | some (v, h') => some (putE e d v, h') | none => none) := by
    intro n
    unfold operF
    simp only [wanted, cond_true]
    split
    · cases hn
    · rfl
  constructor
  · rintro ⟨n, e', h', hr, hq⟩
    rw [key] at hr
    cases ho : opV e h op with
    | none => rw [ho] at hr; cases hr
    | some y => rw [ho] at hr; cases hr; exact ⟨_, _, rfl, hq⟩
  · rintro ⟨v, h1, ho, hq⟩
    exact ⟨0, _, _, by rw [key, ho], hq⟩

theorem operR_skip {d : Option Nat} {t : Nat} {b c : Bool} {op : AOp} {R : Env → Heap → Prop} (hg : Env.get e t = .bool c) : OperR F ⟨d, some (t, b), op⟩ e h R ↔ (bif c == b then OperR F ⟨d, none, op⟩ e h R else R (putE e d (.tuple #[])) h) := by
  have hw : wanted e (some (t, b)) = (c == b) := by simp [wanted, hg]
  cases hcb : (c == b) with
  | true =>
    have key : ∀ n, operF F (run F n) ⟨d, some (t, b), op⟩ e h = operF F (run F n) ⟨d, none, op⟩ e h := by
      intro n
      unfold operF
      dsimp only
      rw [hw, hcb]
      rfl
    simp only [OperR, key, cond_true]
  | false =>
    have key : ∀ n, operF F (run F n) ⟨d, some (t, b), op⟩ e h = some (putE e d (.tuple #[]), h) := by
      intro n
      unfold operF
      dsimp only
      rw [hw, hcb]
      rfl
    simp only [OperR, key, cond_false]
    constructor
    · rintro ⟨n, e', h', hr, hq⟩; cases hr; exact hq
    · intro hq; exact ⟨0, _, _, rfl, hq⟩

theorem operR_call {d : Option Nat} {f : Operand} {args : List Operand} {R : Env → Heap → Prop} : OperR F ⟨d, none, .call f args⟩ e h R ↔ DoesV F (ev e f) (vals e args) h (fun v h => R (putE e d v) h) := by
  have key : ∀ n, operF F (run F n) ⟨d, none, .call f args⟩ e h = (match callV F (run F n) (ev e f) (vals e args) h with | some (v, h') => some (putE e d v, h') | none => none) := by
    intro n
    rfl
  constructor
  · rintro ⟨n, e', h', hr, hq⟩
    rw [key] at hr
    cases ho : callV F (run F n) (ev e f) (vals e args) h with
    | none => rw [ho] at hr; cases hr
    | some y => rw [ho] at hr; cases hr; exact ⟨n, _, _, ho, hq⟩
  · rintro ⟨n, v, h1, ho, hq⟩
    exact ⟨n, _, _, by rw [key, ho], hq⟩

theorem DoesV.func {f : Nat} {first caps : Array Value} {args : List Value} {R : Value → Heap → Prop} (H : Does F f (first.toList ++ args ++ caps.toList) h R) : DoesV F (.func (.func f) first caps) args h R := by
  obtain ⟨n, v, h', hr, hq⟩ := H
  exact ⟨n, v, h', callG_false hr, hq⟩

/-- a call of slices.overlaps -/
theorem DoesV.ovl {f : Nat} {fn : AFunc} {first caps : Array Value} {args : List Value} {R : Value → Heap → Prop} (hf : F f = some fn) (hp : fn.prim = .ovl) {v : Value} {h' : Heap}
    (hv : ovlV (first.toList ++ args ++ caps.toList) h = some (v, h')) (H : R v h') : DoesV F (.func (.func f) first caps) args h R :=
  ⟨0, v, h', (by simp only [AI.callV, callG, hf, hp, cond_true]; exact hv), H⟩

/-- The end of a call. -/
def EndsQ (rs : List ARes) (R : Value → Heap → Prop) : AExit → Env → Heap → Prop
  | .normal, e, h => ∃ vs, results e h rs = some vs ∧ resultOk vs = true ∧ R (result vs) h
  | .ret, e, h => ∃ vs, results e h rs = some vs ∧ resultOk vs = true ∧ R (result vs) h
  | .exit _, _, _ => False

@[simp] theorem ends_normal {rs R} : EndsQ rs R .normal e h ↔ ∃ vs, results e h rs = some vs ∧ resultOk vs = true ∧ R (result vs) h := Iff.rfl
@[simp] theorem ends_ret {rs R} : EndsQ rs R .ret e h ↔ ∃ vs, results e h rs = some vs ∧ resultOk vs = true ∧ R (result vs) h := Iff.rfl
@[simp] theorem ends_exit {rs R id} : EndsQ rs R (.exit id) e h ↔ False := Iff.rfl

theorem Does.ofP {f : Nat} {fn : AFunc} {args : List Value} {R : Value → Heap → Prop} (hf : F f = some fn) (hp : fn.prim = .no) (H : Runs F fn.body (params .nil 0 args) h (EndsQ fn.res R)) : Does F f args h R := by
  obtain ⟨n, x, e', h', hr, hq⟩ := H
  cases x with
  | exit id => exact hq.elim
  | normal =>
    obtain ⟨vs, hv, ho, hq⟩ := hq
    refine ⟨n, _, h', ?_, hq⟩
    unfold callF callG
    rw [hf]
    dsimp only
    rw [hp]
    dsimp only
    rw [hr]
    dsimp only
    rw [hv]
    dsimp only
    rw [ho]
    rfl
  | ret =>
    obtain ⟨vs, hv, ho, hq⟩ := hq
    refine ⟨n, _, h', ?_, hq⟩
    unfold callF callG
    rw [hf]
    dsimp only
    rw [hp]
    dsimp only
    rw [hr]
    dsimp only
    rw [hv]
    dsimp only
    rw [ho]
    rfl

theorem Does.of {f : Nat} {rs : List ARes} {body : ACode} {args : List Value} {R : Value → Heap → Prop} (hf : F f = some ⟨rs, body, .no⟩) (H : Runs F body (params .nil 0 args) h (EndsQ rs R)) : Does F f args h R :=
  Does.ofP hf rfl H

theorem Does.answer {f : Nat} {args : List Value} {R : Value → Heap → Prop} (H : Does F f args h R) : ∃ n v h', call F n f args h = some (v, h') ∧ R v h' := H
end

end Go.AI

/- The abstract memory, as walks use it: what grows, what stands; slices of encoded elements. -/
namespace Go.AI

/-- A memory in order. -/
structure HOk (h : Heap) : Prop where
  wf : ∀ b o, h.tr.get b = some o → b < h.next
  st : ∀ b cs ro o s, h.tr.get b = some (.blk cs ro o s) → s ≤ h.clock

/-- What stood stands, but for some. -/
structure Grows (S : Nat → Prop) (h h' : Heap) : Prop where
  next : h.next ≤ h'.next
  clock : h.clock ≤ h'.clock
  same : ∀ b, b < h.next → ¬ S b → h'.tr.get b = h.tr.get b
  ok : HOk h'

def Nob : Nat → Prop := fun _ => False

theorem Grows.refl {S : Nat → Prop} {h : Heap} (ok : HOk h) : Grows S h h := ⟨Nat.le_refl _, Nat.le_refl _, fun _ _ _ => rfl, ok⟩

theorem Grows.trans' {S S₁ S₂ : Nat → Prop} {h h₁ h₂ : Heap} (a : Grows S₁ h h₁) (b : Grows S₂ h₁ h₂) (h1 : ∀ b, b < h.next → S₁ b → S b) (h2 : ∀ b, b < h.next → S₂ b → S b) : Grows S h h₂ :=
  ⟨Nat.le_trans a.next b.next, Nat.le_trans a.clock b.clock, fun x hx hn => by
    rw [b.same x (Nat.lt_of_lt_of_le hx a.next) (fun hs => hn (h2 x hx hs)), a.same x hx (fun hs => hn (h1 x hx hs))], b.ok⟩

theorem Grows.trans {S : Nat → Prop} {h h₁ h₂ : Heap} (a : Grows S h h₁) (b : Grows S h₁ h₂) : Grows S h h₂ := a.trans' b (fun _ _ h => h) (fun _ _ h => h)
theorem Grows.weak {S S' : Nat → Prop} {h h₁ : Heap} (a : Grows S h h₁) (hs : ∀ b, b < h.next → S b → S' b) : Grows S' h h₁ :=
  ⟨a.next, a.clock, fun b hb hn => a.same b hb (fun h => hn (hs b hb h)), a.ok⟩
theorem Grows.nob {S : Nat → Prop} {h h₁ : Heap} (a : Grows Nob h h₁) : Grows S h h₁ := a.weak fun _ _ h => h.elim

theorem Grows.get {S : Nat → Prop} {h h' : Heap} (g : Grows S h h') (ok : HOk h) {b : Nat} {o : AObj} (hb : h.tr.get b = some o) (hs : ¬ S b) : h'.tr.get b = some o := by
  rw [g.same b (ok.wf b o hb) hs, hb]

theorem grow_tick {h : Heap} (ok : HOk h) : Grows Nob h (tick h) :=
  ⟨Nat.le_refl _, Nat.le_succ _, fun _ _ _ => rfl, ⟨ok.wf, fun b cs ro o s hb => Nat.le_succ_of_le (ok.st b cs ro o s hb)⟩⟩

theorem grow_newBlk {h : Heap} (ok : HOk h) (cs : List Value) (o : Nat) : Grows Nob h (newBlk h cs o) := by
  refine ⟨Nat.le_succ _, Nat.le_refl _, fun b hb _ => ?_, ⟨fun b ob hb => ?_, fun b cs' ro o' s hb => ?_⟩⟩
  · simp only [newBlk, Heap.new, Tr.get_set]
    rw [if_neg (by omega)]
  · simp only [newBlk, Heap.new, Tr.get_set] at hb ⊢
    by_cases e : b = h.next
    · omega
    · rw [if_neg e] at hb; exact Nat.lt_succ_of_lt (ok.wf b ob hb)
  · simp only [newBlk, Heap.new, Tr.get_set] at hb ⊢
    by_cases e : b = h.next
    · rw [if_pos e] at hb; cases hb; exact Nat.zero_le _
    · rw [if_neg e] at hb; exact ok.st b cs' ro o' s hb

@[simp] theorem get_newBlk (h : Heap) (cs : List Value) (o : Nat) : (newBlk h cs o).tr.get h.next = some (.blk cs false o 0) := by
  simp [newBlk, Heap.new, Tr.get_set]
@[simp] theorem next_newBlk (h : Heap) (cs : List Value) (o : Nat) : (newBlk h cs o).next = h.next + 1 := rfl
@[simp] theorem clock_newBlk (h : Heap) (cs : List Value) (o : Nat) : (newBlk h cs o).clock = h.clock := rfl
@[simp] theorem next_tick (h : Heap) : (tick h).next = h.next := rfl
@[simp] theorem tr_tick (h : Heap) : (tick h).tr = h.tr := rfl

theorem readAt_eq {h : Heap} {b off n : Nat} {cs : List Value} {ro : Bool} {o s : Nat} (hb : h.tr.get b = some (.blk cs ro o s)) (hl : off + n ≤ cs.length) :
    readAt h b off n = some ((cs.drop off).take n) := by
  unfold readAt
  rw [hb]
  have : ((cs.drop off).take n).length = n := by simp; omega
  simp [this]

theorem readAt_tick (h : Heap) (b off n : Nat) : readAt (tick h) b off n = readAt h b off n := rfl

/-- the memory behind a writing -/
def put (h : Heap) (b off : Nat) (cs vs : List Value) (o : Nat) : Heap := { h with clock := h.clock + 1, tr := h.tr.set b (.blk (splice cs off vs) false o h.clock) }

theorem writeAt_eq {h : Heap} {b off : Nat} {cs vs : List Value} {o s : Nat} (hb : h.tr.get b = some (.blk cs false o s)) (hl : off + vs.length ≤ cs.length) :
    writeAt h b off vs = some (put h b off cs vs o) := by
  unfold writeAt
  rw [hb]
  simp [hl, put]

@[simp] theorem get_put_same (h : Heap) (b off : Nat) (cs vs : List Value) (o : Nat) : (put h b off cs vs o).tr.get b = some (.blk (splice cs off vs) false o h.clock) := by simp [put, Tr.get_set]

theorem grow_put {h : Heap} (ok : HOk h) {b off : Nat} {cs vs : List Value} {o s : Nat} (hb : h.tr.get b = some (.blk cs false o s)) : Grows (· = b) h (put h b off cs vs o) := by
  refine ⟨Nat.le_refl _, Nat.le_succ _, fun x hx hn => ?_, ⟨fun x ob hx => ?_, fun x cs' ro o' s' hx => ?_⟩⟩
  · simp only [put, Tr.get_set]; rw [if_neg hn]
  · simp only [put, Tr.get_set] at hx ⊢
    by_cases e : x = b
    · subst e; exact ok.wf _ _ hb
    · rw [if_neg e] at hx; exact ok.wf x ob hx
  · simp only [put, Tr.get_set] at hx ⊢
    by_cases e : x = b
    · rw [if_pos e] at hx; cases hx; exact Nat.le_succ _
    · rw [if_neg e] at hx; exact Nat.le_succ_of_le (ok.st x cs' ro o' s' hx)

theorem grow_del {h : Heap} (ok : HOk h) (b : Nat) : Grows (· = b) h { h with tr := h.tr.del b } := by
  refine ⟨Nat.le_refl _, Nat.le_refl _, fun x hx hn => ?_, ⟨fun x ob hx => ?_, fun x cs' ro o' s' hx => ?_⟩⟩
  · simp only [Tr.get_del]; rw [if_neg hn]
  · simp only [Tr.get_del] at hx ⊢
    by_cases e : x = b
    · rw [if_pos e] at hx; cases hx
    · rw [if_neg e] at hx; exact ok.wf x ob hx
  · simp only [Tr.get_del] at hx ⊢
    by_cases e : x = b
    · rw [if_pos e] at hx; cases hx
    · rw [if_neg e] at hx; exact ok.st x cs' ro o' s' hx

/-- How elements of a kind lie in cells. -/
structure Enc (α : Type) where
  enc : α → List Value
  sz : Nat
  len : ∀ x, (enc x).length = sz
  pos : 0 < sz
  plain : ∀ x, (enc x).all plain = true

namespace Enc
variable {α : Type} (E : Enc α)
def flat (xs : List α) : List Value := xs.flatMap E.enc
@[simp] theorem flat_nil : E.flat [] = [] := rfl
@[simp] theorem flat_cons (x : α) (xs : List α) : E.flat (x :: xs) = E.enc x ++ E.flat xs := by simp [flat]
@[simp] theorem flat_append (xs ys : List α) : E.flat (xs ++ ys) = E.flat xs ++ E.flat ys := by simp [flat]
@[simp] theorem length_flat (xs : List α) : (E.flat xs).length = xs.length * E.sz := by
  induction xs with
  | nil => simp
  | cons x xs ih => simp [E.len, ih, Nat.add_mul, Nat.add_comm]
theorem drop_flat (xs : List α) (i : Nat) : (E.flat xs).drop (i * E.sz) = E.flat (xs.drop i) := by
  induction xs generalizing i with
  | nil => simp
  | cons x xs ih =>
    cases i with
    | zero => simp
    | succ i =>
      rw [flat_cons, List.drop_succ_cons, ← ih i, List.drop_append, E.len, show (i + 1) * E.sz - E.sz = i * E.sz by rw [Nat.add_mul]; omega]
      have : (E.enc x).drop ((i + 1) * E.sz) = [] := by
        apply List.drop_eq_nil_of_le; rw [E.len, Nat.add_mul]; omega
      rw [this, List.nil_append]
theorem take_flat (xs : List α) (i : Nat) : (E.flat xs).take (i * E.sz) = E.flat (xs.take i) := by
  induction xs generalizing i with
  | nil => simp
  | cons x xs ih =>
    cases i with
    | zero => simp
    | succ i =>
      rw [flat_cons, List.take_succ_cons, flat_cons, ← ih i, List.take_append, E.len, show (i + 1) * E.sz - E.sz = i * E.sz by rw [Nat.add_mul]; omega]
      have : (E.enc x).take ((i + 1) * E.sz) = E.enc x := by
        apply List.take_of_length_le; rw [E.len, Nat.add_mul]; omega
      rw [this]
theorem at_flat (xs : List α) (i : Nat) (x : α) (h : xs[i]? = some x) : ((E.flat xs).drop (i * E.sz)).take E.sz = E.enc x := by
  rw [drop_flat]
  have hl := (List.getElem?_eq_some_iff.mp h).1
  rw [List.drop_eq_getElem_cons hl, flat_cons, List.take_append, E.len, Nat.sub_self, List.take_zero, List.append_nil, (List.getElem?_eq_some_iff.mp h).2]
  exact List.take_of_length_le (by rw [E.len]; exact Nat.le_refl _)
/-- some cells of an element -/
theorem part_flat (xs : List α) (i off n : Nat) (x : α) (h : xs[i]? = some x) (hn : off + n ≤ E.sz) : ((E.flat xs).drop (i * E.sz + off)).take n = ((E.enc x).drop off).take n := by
  rw [← at_flat E xs i x h, ← List.drop_drop, List.drop_take, List.take_take, Nat.min_eq_left (by omega)]
theorem splice_flat (xs : List α) (i : Nat) (x : α) (h : i < xs.length) : splice (E.flat xs) (i * E.sz) (E.enc x) = E.flat (xs.set i x) := by
  unfold splice
  rw [take_flat, E.len, show i * E.sz + E.sz = (i + 1) * E.sz by rw [Nat.add_mul]; omega, drop_flat, List.set_eq_take_append_cons_drop, if_pos h, flat_append, flat_cons, List.append_assoc]
theorem plain_flat (xs : List α) : (E.flat xs).all Go.AI.plain = true := by
  induction xs with
  | nil => rfl
  | cons x xs ih => simp only [flat_cons, List.all_append, E.plain, ih, Bool.and_self]
end Enc

/-- The value is a slice of these elements. -/
def SliceOf {α : Type} (E : Enc α) (h : Heap) (v : Value) (xs : List α) : Prop :=
  ∃ a cap, v = .slice a xs.length cap ∧ ((xs = [] ∧ (a = none ∨ ∃ b off, a = some ⟨b, off, none⟩)) ∨ ∃ b off cs ro o s, a = some ⟨b, off, none⟩ ∧ h.tr.get b = some (.blk cs ro o s) ∧ off + xs.length * E.sz ≤ cs.length ∧ (cs.drop off).take (xs.length * E.sz) = E.flat xs)

/-- the block of a slice -/
def BlkOf (v : Value) (b : Nat) : Prop := ∃ off n cap, v = .slice (some ⟨b, off, none⟩) n cap

theorem SliceOf.grow {α : Type} {E : Enc α} {S : Nat → Prop} {h h' : Heap} {v : Value} {xs : List α} (s : SliceOf E h v xs) (ok : HOk h) (g : Grows S h h') (hs : ∀ b, BlkOf v b → ¬ S b) : SliceOf E h' v xs := by
  obtain ⟨a, cap, rfl, s⟩ := s
  refine ⟨a, cap, rfl, ?_⟩
  rcases s with s | ⟨b, off, cs, ro, o, st, rfl, hb, hl, hc⟩
  · exact .inl s
  · exact .inr ⟨b, off, cs, ro, o, st, rfl, g.get ok hb (hs b ⟨_, _, _, rfl⟩), hl, hc⟩

theorem SliceOf.nob {α : Type} {E : Enc α} {h h' : Heap} {v : Value} {xs : List α} (s : SliceOf E h v xs) (ok : HOk h) (g : Grows Nob h h') : SliceOf E h' v xs := s.grow ok g fun _ _ h => h

theorem SliceOf.nil {α : Type} (E : Enc α) (h : Heap) (cap : Nat) : SliceOf E h (.slice none 0 cap) [] := ⟨none, cap, rfl, .inl ⟨rfl, .inl rfl⟩⟩
theorem SliceOf.nil' {α : Type} (E : Enc α) (h : Heap) (b off cap : Nat) : SliceOf E h (.slice (some ⟨b, off, none⟩) 0 cap) [] := ⟨_, cap, rfl, .inl ⟨rfl, .inr ⟨b, off, rfl⟩⟩⟩

/-- what is read of an element -/
theorem SliceOf.read {α : Type} {E : Enc α} {h : Heap} {v : Value} {xs : List α} (s : SliceOf E h v xs) {i : Nat} {x : α} (hi : xs[i]? = some x) :
    ∃ b off cap, v = .slice (some ⟨b, off, none⟩) xs.length cap ∧ i < xs.length ∧ (∃ cs ro o s, h.tr.get b = some (.blk cs ro o s)) ∧ ∀ o n, o + n ≤ E.sz → readAt h b (off + i * E.sz + o) n = some (((E.enc x).drop o).take n) := by
  obtain ⟨a, cap, rfl, s⟩ := s
  have hl := (List.getElem?_eq_some_iff.mp hi).1
  rcases s with s | ⟨b, off, cs, ro, o, st, rfl, hb, hlen, hc⟩
  · rw [s.1] at hl; simp at hl
  · refine ⟨b, off, cap, rfl, hl, ⟨_, _, _, _, hb⟩, fun o' n hn => ?_⟩
    have h1 : (i + 1) * E.sz ≤ xs.length * E.sz := Nat.mul_le_mul_right _ hl
    rw [Nat.add_mul] at h1
    rw [readAt_eq hb (by omega)]
    congr 1
    rw [← E.part_flat xs i o' n x hi hn, ← hc, List.drop_take, List.take_take, List.drop_drop, Nat.min_eq_left (by omega), Nat.add_assoc]

/-- A slice of the walk's own, full to the brim; its block lies from a place on. -/
def AccOf {α : Type} (E : Enc α) (n0 : Nat) (h : Heap) (v : Value) (xs : List α) : Prop :=
  (xs = [] ∧ v = .slice none 0 0) ∨ ∃ b s, v = .slice (some ⟨b, 0, none⟩) xs.length xs.length ∧ h.tr.get b = some (.blk (E.flat xs) false E.sz s) ∧ xs ≠ [] ∧ n0 ≤ b

theorem AccOf.sl {α : Type} {E : Enc α} {n0 : Nat} {h : Heap} {v : Value} {xs : List α} (a : AccOf E n0 h v xs) : SliceOf E h v xs := by
  rcases a with ⟨rfl, rfl⟩ | ⟨b, s, rfl, hb, _, _⟩
  · exact .nil E h _
  · exact ⟨_, _, rfl, .inr ⟨b, 0, _, _, _, _, rfl, hb, by simp, by simp [List.take_of_length_le]⟩⟩

theorem AccOf.grow {α : Type} {E : Enc α} {n0 : Nat} {S : Nat → Prop} {h h' : Heap} {v : Value} {xs : List α} (a : AccOf E n0 h v xs) (ok : HOk h) (g : Grows S h h') (hs : ∀ b, BlkOf v b → ¬ S b) : AccOf E n0 h' v xs := by
  rcases a with a | ⟨b, s, rfl, hb, hx, hn⟩
  · exact .inl a
  · exact .inr ⟨b, s, rfl, g.get ok hb (hs b ⟨_, _, _, rfl⟩), hx, hn⟩

theorem AccOf.of {α : Type} {E : Enc α} {n0 : Nat} {h : Heap} {v : Value} {xs : List α} (a : AccOf E n0 h v xs) {b : Nat} (o : BlkOf v b) : n0 ≤ b := by
  obtain ⟨off, n, cap, rfl⟩ := o
  rcases a with ⟨_, h⟩ | ⟨b', s, h, _, _, hn⟩
  · cases h
  · cases h; exact hn

/-- What an append adds: the cells of a slice. -/
theorem news_sl {α : Type} {E : Enc α} {h : Heap} {v : Value} {ys : List α} {z : List Value} (hz : z.length = E.sz) (s : SliceOf E h v ys) : news h z false v = some (ys.length, E.flat ys) := by
  obtain ⟨a, cap, rfl, s⟩ := s
  rcases s with ⟨rfl, rfl | ⟨b, off, rfl⟩⟩ | ⟨b, off, cs, ro, o, st, rfl, hb, hlen, hc⟩
  · simp [news]
  · simp [news]
  · cases ys with
    | nil => simp [news]
    | cons y ys =>
      unfold news
      dsimp only
      rw [show Nat.beq (y :: ys).length 0 = false from rfl, hz, readAt_eq hb hlen, hc]
      rfl
end Go.AI
