/- The rules of AiWp, for simp: each operation's outcome is reckoned, then the next is taken. -/
import Derived.Test.YtigniafapkbbbaaGreatDoorAiWalk1
import Derived.Test.YtigniafapkbbbaaGreatDoorAiTop
namespace Go.AI

section
variable (F : Nat → Option AFunc)

/-- the rest, behind an outcome -/
def NextR (d : Option Nat) (l : List AOper) (e : Env) (R : Env → Heap → Prop) : Option (Value × Heap) → Prop
  | some (v, h) => OpsR F l (putE e d v) h R
  | none => False

def NextD (k : Nat) (chk : List Nat) (d : Option Nat) (l : List (AOper × List Nat)) (e : Env) (R : Env → Heap → Prop) : Option (Value × Heap) → Prop
  | some (v, h) => still (putE e d v) h k chk = true ∧ DrawR F k l (putE e d v) h R
  | none => False

def EndV (R : Value → Heap → Prop) (h : Heap) : Option (List Value) → Prop
  | some vs => resultOk vs = true ∧ R (result vs) h
  | none => False

/-- what is asked behind a call -/
def AfterQ (d : Option Nat) (l : List AOper) (e : Env) (R : Env → Heap → Prop) : Value → Heap → Prop := fun v h => OpsR F l (putE e d v) h R
def AfterDQ (k : Nat) (chk : List Nat) (d : Option Nat) (l : List (AOper × List Nat)) (e : Env) (R : Env → Heap → Prop) : Value → Heap → Prop := fun v h => still (putE e d v) h k chk = true ∧ DrawR F k l (putE e d v) h R
end

section
variable {F : Nat → Option AFunc} {Q : AExit → Env → Heap → Prop} {R : Env → Heap → Prop} {e : Env} {h : Heap} {d : Option Nat} {l : List AOper} {k : Nat} {chk : List Nat} {m : List (AOper × List Nat)}

@[simp] theorem nextR_some (v : Value) (h : Heap) : NextR F d l e R (some (v, h)) = OpsR F l (putE e d v) h R := rfl
@[simp] theorem nextD_some (v : Value) (h : Heap) : NextD F k chk d m e R (some (v, h)) = (still (putE e d v) h k chk = true ∧ DrawR F k m (putE e d v) h R) := rfl
@[simp] theorem nextR_none : NextR F d l e R none = False := rfl
@[simp] theorem nextD_none : NextD F k chk d m e R none = False := rfl
@[simp] theorem endV_some (V : Value → Heap → Prop) (vs : List Value) : EndV V h (some vs) = (resultOk vs = true ∧ V (result vs) h) := rfl

@[simp ↓] theorem q_skip : Runs F .skip e h Q ↔ Q .normal e h := runs_skip
@[simp ↓] theorem q_ret : Runs F .ret e h Q ↔ Q .ret e h := runs_ret
@[simp ↓] theorem q_exit {id : Nat} : Runs F (.exit id) e h Q ↔ Q (.exit id) e h := runs_exit
@[simp ↓] theorem q_seq {a b : ACode} : Runs F (.seq a b) e h Q ↔ Runs F a e h (ThenQ F b Q) := runs_seq
@[simp ↓] theorem q_block {id : Nat} {c : ACode} : Runs F (.block id c) e h Q ↔ Runs F c e h (OutQ id Q) := runs_block
@[simp ↓] theorem q_ops {l : List AOper} : Runs F (.ops l) e h Q ↔ OpsR F l e h (Q .normal) := runs_ops
@[simp ↓] theorem q_draw {l : List (AOper × List Nat)} : Runs F (.draw l) e h Q ↔ DrawR F h.clock l e (tick h) (Q .normal) := runs_draw
@[simp ↓] theorem q_true {c : Operand} {a b : ACode} (hc : ev e c = .bool true) : Runs F (.cond c a b) e h Q ↔ Runs F a e h Q := runs_cond hc
@[simp ↓] theorem q_false {c : Operand} {a b : ACode} (hc : ev e c = .bool false) : Runs F (.cond c a b) e h Q ↔ Runs F b e h Q := runs_cond hc
@[simp ↓] theorem q_nil : OpsR F [] e h R ↔ R e h := opsR_nil
@[simp ↓] theorem q_dnil : DrawR F k [] e h R ↔ R e h := drawR_nil

@[simp ↓] theorem q_op {op : AOp} (hn : calls op = false) : OpsR F (⟨d, none, op⟩ :: l) e h R ↔ NextR F d l e R (opV e h op) := by
  rw [opsR_cons, operR_op hn]
  constructor
  · rintro ⟨v, h1, ho, hr⟩; rw [ho]; exact hr
  · intro hr
    cases ho : opV e h op with
    | none => rw [ho] at hr; exact hr.elim
    | some x => rw [ho] at hr; exact ⟨_, _, rfl, hr⟩

@[simp ↓] theorem q_do {op : AOp} {t : Nat} {b : Bool} (hg : Env.get e t = .bool b) : OpsR F (⟨d, some (t, b), op⟩ :: l) e h R ↔ OpsR F (⟨d, none, op⟩ :: l) e h R := by
  rw [opsR_cons, operR_skip hg, opsR_cons]
  simp

@[simp ↓] theorem q_dont {op : AOp} {t : Nat} {b : Bool} (hg : Env.get e t = .bool (!b)) : OpsR F (⟨d, some (t, b), op⟩ :: l) e h R ↔ OpsR F l (putE e d (.tuple #[])) h R := by
  rw [opsR_cons, operR_skip hg]
  cases b <;> rfl

@[simp ↓] theorem q_ddo {op : AOp} {t : Nat} {b : Bool} (hg : Env.get e t = .bool b) : DrawR F k ((⟨d, some (t, b), op⟩, chk) :: m) e h R ↔ DrawR F k ((⟨d, none, op⟩, chk) :: m) e h R := by
  rw [drawR_cons, operR_skip hg, drawR_cons]
  simp

@[simp ↓] theorem q_ddont {op : AOp} {t : Nat} {b : Bool} (hg : Env.get e t = .bool (!b)) : DrawR F k ((⟨d, some (t, b), op⟩, chk) :: m) e h R ↔ (still (putE e d (.tuple #[])) h k chk = true ∧ DrawR F k m (putE e d (.tuple #[])) h R) := by
  rw [drawR_cons, operR_skip hg]
  cases b <;> rfl

@[simp ↓] theorem q_dop {op : AOp} (hn : calls op = false) : DrawR F k ((⟨d, none, op⟩, chk) :: m) e h R ↔ NextD F k chk d m e R (opV e h op) := by
  rw [drawR_cons, operR_op hn]
  constructor
  · rintro ⟨v, h1, ho, hr⟩; rw [ho]; exact hr
  · intro hr
    cases ho : opV e h op with
    | none => rw [ho] at hr; exact hr.elim
    | some x => rw [ho] at hr; exact ⟨_, _, rfl, hr⟩

theorem q_call {f : Operand} {args : List Operand} : OpsR F (⟨d, none, .call f args⟩ :: l) e h R ↔ DoesV F (ev e f) (vals e args) h (AfterQ F d l e R) := by
  rw [opsR_cons, operR_call]; rfl

theorem q_dcall {f : Operand} {args : List Operand} : DrawR F k ((⟨d, none, .call f args⟩, chk) :: m) e h R ↔ DoesV F (ev e f) (vals e args) h (AfterDQ F k chk d m e R) := by
  rw [drawR_cons, operR_call]; rfl

/-- A call of a function with a contract. -/
theorem OpsR.call {f : Nat} {args : List Operand} {V : Value → Heap → Prop} (H : Does F f (vals e args) h V) (K : ∀ v h', V v h' → OpsR F l (putE e d v) h' R) : OpsR F (⟨d, none, .call (.func f) args⟩ :: l) e h R := by
  rw [q_call]
  obtain ⟨n, v, h', hr, hv⟩ := H
  refine ⟨n, v, h', ?_, K v h' hv⟩
  have := callG_false hr
  simpa [ev, AI.callV] using this

theorem OpsR.callV {f : Operand} {args : List Operand} {V : Value → Heap → Prop} (H : DoesV F (ev e f) (vals e args) h V) (K : ∀ v h', V v h' → OpsR F l (putE e d v) h' R) : OpsR F (⟨d, none, .call f args⟩ :: l) e h R := by
  rw [q_call]
  exact H.mono K

@[simp] theorem q_ends_normal {rs : List ARes} {V : Value → Heap → Prop} : EndsQ rs V .normal e h ↔ EndV V h (results e h rs) := by
  rw [ends_normal]
  cases results e h rs <;> simp [EndV]
@[simp] theorem q_ends_ret {rs : List ARes} {V : Value → Heap → Prop} : EndsQ rs V .ret e h ↔ EndV V h (results e h rs) := by
  rw [ends_ret]
  cases results e h rs <;> simp [EndV]

@[simp] theorem putE_some (t : Nat) (v : Value) : putE e (some t) v = Tr.set e t v := rfl
@[simp] theorem putE_none (v : Value) : putE e none v = e := rfl
@[simp] theorem ev_tmp (t : Nat) : ev e (.tmp t) = Env.get e t := rfl
@[simp] theorem ev_const (v : Value) : ev e (.const v) = v := rfl
@[simp] theorem ev_global (g : Nat) : ev e (.global g) = .pointer (some ⟨g, 0, none⟩) := rfl
@[simp] theorem ev_func (f : Nat) : ev e (.func f) = .func (.func f) #[] #[] := rfl
attribute [simp] Env.get_set
@[simp] theorem env_get_nil (t : Nat) : Env.get .nil t = .tuple #[] := rfl
@[simp] theorem params_nil (i : Nat) : params e i [] = e := rfl
@[simp] theorem params_cons (i : Nat) (v : Value) (r : List Value) : params e i (v :: r) = params (Tr.set e i v) (i + 1) r := rfl
@[simp] theorem vals_nil : vals e [] = [] := rfl
@[simp] theorem vals_cons (x : Operand) (xs : List Operand) : vals e (x :: xs) = ev e x :: vals e xs := rfl
@[simp] theorem calls_rfl (op : AOp) : calls op = (match op with | .call _ _ => true | _ => false) := by cases op <;> rfl
attribute [simp] opV agg width eqVal eqCells eqCell intBin binV unV flat cellsOf plain fillIn bound results result resultOk noTuple simple still
/-- an append, its operands looked up -/
def appendF (h : Heap) (z : List Value) (bytes : Nat) (zeros : Bool) (s x : Value) : Option (Value × Heap) :=
  match news h z zeros x with
  | some (n, cs) => appendV h z bytes s n cs
  | none => none
@[simp ↓ high] theorem opV_append (z : List Value) (bytes : Nat) (zeros : Bool) (s x : Operand) : opV e h (.append z bytes zeros s x) = appendF h z bytes zeros (ev e s) (ev e x) := rfl
@[simp] theorem splice_zero (cs vs : List Value) : splice cs 0 vs = vs ++ cs.drop vs.length := by simp [splice]
@[simp] theorem splice_succ (c : Value) (cs vs : List Value) (k : Nat) : splice (c :: cs) (k + 1) vs = c :: splice cs k vs := by
  simp [splice, Nat.add_right_comm k 1]
@[simp] theorem writeAt_def (h : Heap) (b off : Nat) (vs : List Value) : writeAt h b off vs = match h.tr.get b with
    | some (.blk cs false o _) => if off + vs.length ≤ cs.length then some (put h b off cs vs o) else none
    | _ => none := by
  unfold writeAt
  cases h.tr.get b with
  | none => rfl
  | some x =>
    cases x with
    | blk cs ro o s =>
      cases ro with
      | true => rfl
      | false =>
        dsimp only
        by_cases hl : off + vs.length ≤ cs.length <;> simp [hl, put]
    | loop => rfl
    | map => rfl
    | itr => rfl
@[simp] theorem readAt_def (h : Heap) (b off n : Nat) : readAt h b off n = match h.tr.get b with
    | some (.blk cs _ _ _) => if off + n ≤ cs.length then some ((cs.drop off).take n) else if n = 0 then some [] else none
    | _ => none := by
  unfold readAt
  cases h.tr.get b with
  | none => rfl
  | some x =>
    cases x with
    | blk cs ro o s =>
      dsimp only
      have he : ((cs.drop off).take n).length = min n (cs.length - off) := by simp
      by_cases hl : off + n ≤ cs.length
      · have : ((cs.drop off).take n).length = n := by omega
        simp [hl, this]
      · simp only [hl, if_false]
        by_cases hn : n = 0
        · subst hn; simp
        · have : ¬ ((cs.drop off).take n).length = n := by omega
          have hb : Nat.beq ((cs.drop off).take n).length n = false := by
            cases hb : Nat.beq ((cs.drop off).take n).length n with
            | true => exact absurd (Nat.eq_of_beq_eq_true hb) this
            | false => rfl
          simp only [hb, hn, if_false, Bool.false_eq_true]
    | loop => rfl
    | map => rfl
    | itr => rfl
theorem get_newBlk' (h : Heap) (cs : List Value) (o b : Nat) : (newBlk h cs o).tr.get b = if b = h.next then some (.blk cs false o 0) else h.tr.get b := by
  simp [newBlk, Heap.new, Tr.get_set]
theorem get_put' (h : Heap) (b off : Nat) (cs vs : List Value) (o j : Nat) : (put h b off cs vs o).tr.get j = if j = b then some (.blk (splice cs off vs) false o h.clock) else h.tr.get j := by
  simp [put, Tr.get_set]
attribute [simp] get_newBlk' get_put'
@[simp] theorem next_put (h : Heap) (b off : Nat) (cs vs : List Value) (o : Nat) : (put h b off cs vs o).next = h.next := rfl
@[simp] theorem clock_put (h : Heap) (b off : Nat) (cs vs : List Value) (o : Nat) : (put h b off cs vs o).clock = h.clock + 1 := rfl
@[simp] theorem clock_tick (h : Heap) : (tick h).clock = h.clock + 1 := rfl
theorem Grows.new {S : Nat → Prop} {h h₁ : Heap} (g : Grows S h h₁) (cs : List Value) (o : Nat) : Grows S h (newBlk h₁ cs o) := g.trans (grow_newBlk g.ok cs o).nob
theorem Grows.tick {S : Nat → Prop} {h h₁ : Heap} (g : Grows S h h₁) : Grows S h (tick h₁) := g.trans (grow_tick g.ok).nob
theorem Grows.put {S : Nat → Prop} {h h₁ : Heap} {b off : Nat} {cs vs : List Value} {o : Nat} (g : Grows S h h₁) (hb : ∃ s, h₁.tr.get b = some (.blk cs false o s)) (hn : h.next ≤ b ∨ S b) : Grows S h (put h₁ b off cs vs o) := by
  obtain ⟨s, hb⟩ := hb
  refine g.trans' (grow_put g.ok hb) (fun _ _ h => h) fun x hx e => ?_
  rcases hn with hn | hn
  · omega
  · rw [e]; exact hn
@[simp] theorem all_nil' (p : Value → Bool) : ([] : List Value).all p = true := rfl
end
end Go.AI

/- Loops over functions: rules for walking them. -/
namespace Go.AI

section
variable {F : Nat → Option AFunc} {Q : AExit → Env → Heap → Prop} {e : Env} {h : Heap}

/-- the memory without a loop's object -/
def dropL (h : Heap) (l : Nat) : Heap := { h with tr := h.tr.del l }

/-- What is asked behind the iterator's call. -/
def RngEnd (l : Nat) (e : Env) (Q : AExit → Env → Heap → Prop) (h : Heap) : Prop :=
  match h.tr.get l with
  | some (.loop _ _ _ _ .ready) => Q .normal e (dropL h l)
  | some (.loop _ _ _ _ (.done none)) => Q .ret e (dropL h l)
  | some (.loop _ _ _ _ (.done (some id))) => Q (.exit id) e (dropL h l)
  | _ => False

theorem Runs.rng {f : Operand} {ps : List Nat} {asg body : ACode} {g : Nat} {first caps : Array Value} (hf : ev e f = .func (.func g) first caps)
    (H : Does F g (first.toList ++ [.func (.yield h.next) #[] #[]] ++ caps.toList) (h.new (.loop e ps asg body .ready)) (fun _ h' => RngEnd h.next e Q h')) : Runs F (.rng f ps asg body) e h Q := by
  obtain ⟨n, v, h', hr, hq⟩ := H
  have hrun : run F (n + 1) (.rng f ps asg body) e h = (match h'.tr.get h.next with
        | some (.loop _ _ _ _ .ready) => some (.normal, e, { h' with tr := h'.tr.del h.next })
        | some (.loop _ _ _ _ (.done none)) => some (.ret, e, { h' with tr := h'.tr.del h.next })
        | some (.loop _ _ _ _ (.done (some id))) => some (.exit id, e, { h' with tr := h'.tr.del h.next })
        | _ => none) := by
    rw [run_succ]
    unfold stepC
    dsimp only
    rw [hf]
    dsimp only
    rw [hr]
    rfl
  unfold RngEnd at hq
  split at hq
  · rename_i hg; rw [hg] at hrun; exact ⟨n + 1, _, _, _, hrun, hq⟩
  · rename_i hg; rw [hg] at hrun; exact ⟨n + 1, _, _, _, hrun, hq⟩
  · rename_i hg; rw [hg] at hrun; exact ⟨n + 1, _, _, _, hrun, hq⟩
  · exact hq.elim

/-- What is asked behind a round's body. -/
def RoundEnd (l : Nat) (env : Env) (ps : List Nat) (asg body : ACode) (R : Value → Heap → Prop) : AExit → Env → Heap → Prop
  | .normal, _, h => (∃ a b c d, h.tr.get l = some (.loop a b c d .busy) ∧ a = env ∧ b = ps ∧ c = asg ∧ d = body) ∧ R (.bool true) (setLoop h l env ps asg body .ready)
  | .ret, _, h => (∃ a b c d, h.tr.get l = some (.loop a b c d .busy) ∧ a = env ∧ b = ps ∧ c = asg ∧ d = body) ∧ R (.bool false) (setLoop h l env ps asg body (.done none))
  | .exit id, _, h => (∃ a b c d, h.tr.get l = some (.loop a b c d .busy) ∧ a = env ∧ b = ps ∧ c = asg ∧ d = body) ∧ R (.bool false) (setLoop h l env ps asg body (.done (some id)))

/-- A round of a loop over a function. -/
theorem DoesV.yield {l : Nat} {env : Env} {ps : List Nat} {asg body : ACode} {a b : Array Value} {args : List Value} {R : Value → Heap → Prop} {e1 : Env} (hl : h.tr.get l = some (.loop env ps asg body .ready)) (hs : setParams env ps args = some e1)
    (H : Runs F asg e1 h (fun x e2 h2 => x = .normal ∧ h2.tr.get l = some (.loop env ps asg body .ready) ∧ Runs F body e2 (setLoop h2 l env ps asg body .busy) (RoundEnd l env ps asg body R))) : DoesV F (.func (.yield l) a b) args h R := by
  obtain ⟨n, x, e2, h2, hr, rfl, hl2, m, y, e3, h3, hr3, hq⟩ := H
  have hra := run_le (Nat.le_max_left n m) _ _ _ _ hr
  have hrb := run_le (Nat.le_max_right n m) _ _ _ _ hr3
  have key : callV F (run F (max n m)) (.func (.yield l) a b) args h = (match (y, e3, h3) with
      | (.normal, _, h) => roundE l h .ready true
      | (.ret, _, h) => roundE l h (.done none) false
      | (.exit id, _, h) => roundE l h (.done (some id)) false : Option (Value × Heap)) := by
    clear hq
    unfold callV
    dsimp only
    unfold roundF
    rw [hl]
    dsimp only
    rw [hs]
    dsimp only
    rw [hra]
    dsimp only
    unfold roundB
    rw [hl2]
    dsimp only
    simp only [hrb]
    cases y <;> rfl
  cases y with
  | normal =>
    obtain ⟨⟨_, _, _, _, hg, rfl, rfl, rfl, rfl⟩, hq⟩ := hq
    exact ⟨max n m, _, _, by rw [key]; dsimp only; unfold roundE; rw [hg], hq⟩
  | ret =>
    obtain ⟨⟨_, _, _, _, hg, rfl, rfl, rfl, rfl⟩, hq⟩ := hq
    exact ⟨max n m, _, _, by rw [key]; dsimp only; unfold roundE; rw [hg], hq⟩
  | exit id =>
    obtain ⟨⟨_, _, _, _, hg, rfl, rfl, rfl, rfl⟩, hq⟩ := hq
    exact ⟨max n m, _, _, by rw [key]; dsimp only; unfold roundE; rw [hg], hq⟩
end
end Go.AI

/- More for walks: appends, numbers, elements that lead to others. -/
namespace Go.AI

theorem wrap_i64 (n : Int) (h : -9223372036854775808 ≤ n) (h' : n < 9223372036854775808) : IntKind.i64.wrap n = n := by
  simp only [IntKind.wrap, IntKind.signed, IntKind.bits]
  simp
  omega

theorem acc_lt {α : Type} {E : Enc α} {n0 : Nat} {h : Heap} {v : Value} {xs : List α} (ok : HOk h) (a : AccOf E n0 h v xs) {b : Nat} (o : BlkOf v b) : b < h.next := by
  obtain ⟨off, n, cap, rfl⟩ := o
  rcases a with ⟨_, e⟩ | ⟨b', s, e, hb, _, _⟩
  · cases e
  · cases e; exact ok.wf _ _ hb

theorem splice_cons {cs vs : List Value} {k : Nat} {c : Value} (h : cs[k]? = some c) : splice cs (k + 1) vs = splice cs k (c :: vs) := by
  unfold splice
  rw [List.take_add_one, h, List.length_cons, Nat.add_assoc k 1, Nat.add_comm 1]
  simp

/-- An append of some elements onto a slice of the walk's own. -/
theorem acc_appends {α : Type} {E : Enc α} {h : Heap} (ok : HOk h) {n0 bytes : Nat} {z : List Value} {v w : Value} {xs ys : List α} (hz : z.length = E.sz) (a : AccOf E n0 h v xs) (hw : SliceOf E h w ys)
    (hl : xs.length + ys.length < 1000000) (hby : bytes ≤ 1000) (hn : n0 ≤ h.next) :
    ∃ v' h', appendF h z bytes false v w = some (v', h') ∧ AccOf E n0 h' v' (xs ++ ys) ∧ Grows (BlkOf v) h h' := by
  unfold appendF
  rw [news_sl hz hw]
  dsimp only
  have hp := E.pos
  have hp' : E.sz ≠ 0 := by omega
  cases ys with
  | nil =>
    refine ⟨v, h, ?_, by simpa using a, .refl ok⟩
    rcases a with ⟨rfl, rfl⟩ | ⟨b, s, rfl, _, _, _⟩
    · simp [appendV, hz, hp]
    · simp [appendV, hz, hp]
  | cons y ys =>
    have r1 : roomy (xs.length + (ys.length + 1)) = true := by simp [roomy]; simp at hl; omega
    have r2 : roomy ((xs.length + (ys.length + 1)) * bytes) = true := by
      have : (xs.length + (ys.length + 1)) * bytes ≤ 1000000 * 1000 := Nat.mul_le_mul (by simp at hl; omega) hby
      simp [roomy]; omega
    rcases a with ⟨rfl, rfl⟩ | ⟨b, s, rfl, hb, hx, hb0⟩
    · simp only [List.length_nil, Nat.zero_add] at r1 r2
      refine ⟨.slice (some ⟨h.next, 0, none⟩) (ys.length + 1) (ys.length + 1), newBlk h (E.flat (y :: ys)) E.sz, ?_, .inr ⟨h.next, 0, by simp, by simp, by simp, hn⟩, (grow_newBlk ok _ _).nob⟩
      simp [appendV, hz, hp, r1, r2]
    · refine ⟨.slice (some ⟨h.next, 0, none⟩) (xs.length + (ys.length + 1)) (xs.length + (ys.length + 1)), newBlk { h with tr := h.tr.del b } (E.flat xs ++ E.flat (y :: ys)) E.sz, ?_, .inr ⟨h.next, 0, by simp, ?_, by simp, hn⟩, ?_⟩
      · have e1 : ¬ xs.length + (ys.length + 1) ≤ xs.length := by omega
        have e2 : (E.flat xs).take (xs.length * E.sz) = E.flat xs := List.take_of_length_le (by simp)
        simp [appendV, hz, hp, r1, r2, hb, e1, e2, hp']
      · have := get_newBlk { h with tr := h.tr.del b } (E.flat xs ++ E.flat (y :: ys)) E.sz
        rw [Enc.flat_append]
        exact this
      · refine ((grow_del ok b).weak ?_).trans (grow_newBlk (grow_del ok b).ok _ _).nob
        rintro x _ rfl
        exact ⟨_, _, _, rfl⟩
end Go.AI

/- Walks with less to write: what is old in a memory, what a memory keeps, and cuts at which a memory gets a name. -/
namespace Go.AI

/-- The block is there, or was. -/
def Old (b : Nat) (h : Heap) : Prop := b < h.next

theorem Old.lt {b : Nat} {h : Heap} (o : Old b h) : b < h.next := o
@[simp] theorem old_newBlk_next (h : Heap) (cs : List Value) (o : Nat) : Old h.next (newBlk h cs o) := Nat.lt_succ_self _
@[simp] theorem old_newBlk_next' (h : Heap) (cs : List Value) (o : Nat) : Old h.next (newBlk h cs o) = True := by simp
theorem Old.newBlk {b : Nat} {h : Heap} (H : Old b h) (cs : List Value) (o : Nat) : Old b (newBlk h cs o) := Nat.lt_succ_of_lt H
theorem Old.put {b : Nat} {h : Heap} (H : Old b h) (c off : Nat) (cs vs : List Value) (o : Nat) : Old b (put h c off cs vs o) := H
theorem Old.tick {b : Nat} {h : Heap} (H : Old b h) : Old b (tick h) := H
@[simp] theorem old_put (b : Nat) (h : Heap) (c off : Nat) (cs vs : List Value) (o : Nat) : Old b (put h c off cs vs o) ↔ Old b h := Iff.rfl
@[simp] theorem old_tick (b : Nat) (h : Heap) : Old b (tick h) ↔ Old b h := Iff.rfl
@[simp] theorem old_newBlk {b : Nat} {h : Heap} {cs : List Value} {o : Nat} (H : Old b h) : Old b (newBlk h cs o) := Nat.lt_succ_of_lt H
@[simp] theorem old_ne {b : Nat} {h : Heap} (H : Old b h) : (b = h.next) = False := by
  have : b < h.next := H
  exact propext ⟨fun e => by omega, False.elim⟩
@[simp] theorem old_ne' {b : Nat} {h : Heap} (H : Old b h) : (h.next = b) = False := by
  have : b < h.next := H
  exact propext ⟨fun e => by omega, False.elim⟩
@[simp] theorem old_ne1 {b k : Nat} {h : Heap} (H : Old b h) : (b = h.next + k) = False := by
  have : b < h.next := H
  exact propext ⟨fun e => by omega, False.elim⟩
@[simp] theorem old_ne1' {b k : Nat} {h : Heap} (H : Old b h) : (h.next + k = b) = False := by
  have : b < h.next := H
  exact propext ⟨fun e => by omega, False.elim⟩

theorem Grows.old {S : Nat → Prop} {h h' : Heap} (g : Grows S h h') {b : Nat} (H : Old b h) : Old b h' := Nat.lt_of_lt_of_le H g.next
theorem Grows.got {h h' : Heap} (g : Grows Nob h h') {b : Nat} (H : Old b h) : h'.tr.get b = h.tr.get b := g.same b H (fun h => h)
theorem Grows.gotS {S : Nat → Prop} {h h' : Heap} (g : Grows S h h') {b : Nat} (H : Old b h) (hs : ¬ S b) : h'.tr.get b = h.tr.get b := g.same b H hs
theorem HOk.old {h : Heap} (ok : HOk h) {b : Nat} {o : AObj} (hb : h.tr.get b = some o) : Old b h := ok.wf _ _ hb

/-- a variable of a walk: a new block, and what is stored there -/
theorem Grows.var {S : Nat → Prop} {h h₁ : Heap} (g : Grows S h h₁) (zs vs : List Value) : Grows S h (AI.put (AI.newBlk h₁ zs 0) h₁.next 0 zs vs 0) :=
  (g.new zs 0).put ⟨_, get_newBlk _ _ _⟩ (.inl g.next)
theorem get_newBlk_old {h : Heap} {b : Nat} (H : Old b h) (cs : List Value) (o : Nat) : (newBlk h cs o).tr.get b = h.tr.get b := by
  rw [get_newBlk', if_neg (by intro e; have := H.lt; omega)]
theorem readAt_newBlk {h : Heap} {b : Nat} (H : Old b h) (cs : List Value) (o off n : Nat) : readAt (newBlk h cs o) b off n = readAt h b off n := by
  unfold readAt; rw [get_newBlk', if_neg (by intro e; have := H.lt; omega)]
theorem readAt_put {h : Heap} {b c : Nat} (H : ¬ b = c) (cs vs : List Value) (o off off' n : Nat) : readAt (put h c off' cs vs o) b off n = readAt h b off n := by
  unfold readAt; rw [get_put', if_neg H]
theorem readAt_get {h : Heap} {b : Nat} {cs : List Value} {ro : Bool} {o s : Nat} (hb : h.tr.get b = some (.blk cs ro o s)) (off n : Nat) : readAt h b off n = if off + n ≤ cs.length then some ((cs.drop off).take n) else if n = 0 then some [] else none := by
  rw [readAt_def, hb]
theorem readAt_put_same (h : Heap) (b off' : Nat) (cs vs : List Value) (o off n : Nat) : readAt (put h b off' cs vs o) b off n = if off + n ≤ (splice cs off' vs).length then some (((splice cs off' vs).drop off).take n) else if n = 0 then some [] else none :=
  readAt_get (get_put_same h b off' cs vs o) off n
theorem readAt_newBlk_same (h : Heap) (cs : List Value) (o off n : Nat) : readAt (newBlk h cs o) h.next off n = if off + n ≤ cs.length then some ((cs.drop off).take n) else if n = 0 then some [] else none :=
  readAt_get (get_newBlk h cs o) off n
theorem readAt_got {S : Nat → Prop} {h h' : Heap} (g : Grows S h h') {b : Nat} (H : Old b h) (hs : ¬ S b) (off n : Nat) : readAt h' b off n = readAt h b off n := by
  unfold readAt; rw [g.same b H hs]

/-- a loop over a function that has had no round -/
theorem get_new_ne {h : Heap} {b : Nat} (o : AObj) (H : Old b h) : (h.new o).tr.get b = h.tr.get b := by
  simp only [Heap.new, Tr.get_set]
  rw [if_neg (by intro e; have := H.lt; omega)]
theorem get_dropL {h : Heap} {b l : Nat} (H : ¬ b = l) : (dropL h l).tr.get b = h.tr.get b := by
  simp only [dropL, Tr.get_del]
  rw [if_neg H]
theorem grow_rng {h : Heap} (ok : HOk h) (o : AObj) (ho : ∀ cs ro op s, o = .blk cs ro op s → s ≤ h.clock) : Grows Nob h (dropL (h.new o) h.next) := by
  have hg : ∀ b, (dropL (h.new o) h.next).tr.get b = if b = h.next then none else h.tr.get b := by
    intro b
    simp only [dropL, Heap.new, Tr.get_del, Tr.get_set]
    by_cases e : b = h.next
    · rw [if_pos e, if_pos e]
    · rw [if_neg e, if_neg e, if_neg e]
  refine ⟨Nat.le_succ _, Nat.le_refl _, fun b hb _ => ?_, ⟨fun b ob hb => ?_, fun b cs ro op s hb => ?_⟩⟩
  · rw [hg, if_neg (by omega)]
  · rw [hg] at hb
    by_cases e : b = h.next
    · rw [if_pos e] at hb; cases hb
    · rw [if_neg e] at hb; exact Nat.lt_succ_of_lt (ok.wf b ob hb)
  · rw [hg] at hb
    by_cases e : b = h.next
    · rw [if_pos e] at hb; cases hb
    · rw [if_neg e] at hb; exact ok.st b cs ro op s hb
theorem RngEnd.ready {l : Nat} {e : Env} {Q : AExit → Env → Heap → Prop} {h : Heap} {a : Env} {b : List Nat} {c d : ACode} (hl : h.tr.get l = some (.loop a b c d .ready)) (H : Q .normal e (dropL h l)) : RngEnd l e Q h := by
  unfold RngEnd; rw [hl]; exact H

section
variable {F : Nat → Option AFunc} {Q : AExit → Env → Heap → Prop} {R : Env → Heap → Prop} {e : Env} {h : Heap} {l : List AOper} {k : Nat} {m : List (AOper × List Nat)}

/-- The memory gets a name; what is known of it is kept. -/
theorem Runs.cut {c : ACode} {h1 : Heap} (P : Heap → Prop) (hp : P h1) (K : ∀ h', P h' → Runs F c e h' Q) : Runs F c e h1 Q := K h1 hp
theorem OpsR.cut {h1 : Heap} (P : Heap → Prop) (hp : P h1) (K : ∀ h', P h' → OpsR F l e h' R) : OpsR F l e h1 R := K h1 hp
theorem DrawR.cut {h1 : Heap} (P : Heap → Prop) (hp : P h1) (K : ∀ h', P h' → DrawR F k m e h' R) : DrawR F k m e h1 R := K h1 hp

/-- A call within a region that draws its order. -/
theorem DrawR.call {d : Option Nat} {f : Nat} {args : List Operand} {chk : List Nat} {V : Value → Heap → Prop} (H : Does F f (vals e args) h V) (K : ∀ v h', V v h' → still (putE e d v) h' k chk = true ∧ DrawR F k m (putE e d v) h' R) : DrawR F k ((⟨d, none, .call (.func f) args⟩, chk) :: m) e h R := by
  rw [q_dcall]
  obtain ⟨n, v, h', hr, hv⟩ := H
  refine ⟨n, v, h', ?_, K v h' hv⟩
  have := callG_false hr
  simpa [ev, AI.callV] using this

theorem DrawR.callV {d : Option Nat} {f : Operand} {args : List Operand} {chk : List Nat} {V : Value → Heap → Prop} (H : DoesV F (ev e f) (vals e args) h V) (K : ∀ v h', V v h' → still (putE e d v) h' k chk = true ∧ DrawR F k m (putE e d v) h' R) : DrawR F k ((⟨d, none, .call f args⟩, chk) :: m) e h R := by
  rw [q_dcall]
  exact H.mono K
end
end Go.AI
