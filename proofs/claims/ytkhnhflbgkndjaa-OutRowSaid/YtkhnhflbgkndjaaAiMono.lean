/- More fuel answers no less. -/
import Derived.Test.YtkhnhflbgkndjaaAiBase
namespace Go.AI

/-- Whatever the first answers, the second answers. -/
def LeR (ih ih' : ACode → Env → Heap → R) : Prop := ∀ c e h r, ih c e h = some r → ih' c e h = some r

section
variable {F : Nat → Option AFunc} {ih ih' : ACode → Env → Heap → R}

theorem callF_le (H : LeR ih ih') {f : Nat} {args : List Value} {h : Heap} {r : Value × Heap} (hc : callF F ih f args h = some r) : callF F ih' f args h = some r := by
  unfold callF at hc ⊢
  cases hf : F f with
  | none => rw [hf] at hc; cases hc
  | some fn =>
    rw [hf] at hc
    dsimp only at hc ⊢
    cases hb : ih fn.body (params .nil 0 args) h with
    | none => rw [hb] at hc; cases hc
    | some x => rw [hb] at hc; rw [H _ _ _ _ hb]; exact hc

theorem roundB_le (H : LeR ih ih') {l : Nat} {code : ACode} {e : Env} {h : Heap} {r : Value × Heap} (hc : roundB ih l code e h = some r) : roundB ih' l code e h = some r := by
  unfold roundB at hc ⊢
  split at hc
  · rename_i env ps asg body hg
    cases hb : ih code e (setLoop h l env ps asg body .busy) with
    | none => rw [hb] at hc; cases hc
    | some x => rw [hb] at hc; rw [H _ _ _ _ hb]; exact hc
  · cases hc

theorem roundF_le (H : LeR ih ih') {l : Nat} {args : List Value} {h : Heap} {r : Value × Heap} (hc : roundF ih l args h = some r) : roundF ih' l args h = some r := by
  unfold roundF at hc ⊢
  split at hc
  · rename_i env ps asg body hg
    cases hs : setParams env ps args with
    | none => rw [hs] at hc; cases hc
    | some e =>
      rw [hs] at hc
      dsimp only at hc ⊢
      cases hb : ih asg e h with
      | none => rw [hb] at hc; cases hc
      | some x =>
        obtain ⟨x, e1, h1⟩ := x
        rw [hb] at hc; rw [H _ _ _ _ hb]
        cases x with
        | normal => exact roundB_le H hc
        | exit id => cases hc
        | ret => cases hc
  · cases hc

theorem callV_le (H : LeR ih ih') {fv : Value} {args : List Value} {h : Heap} {r : Value × Heap} (hc : callV F ih fv args h = some r) : callV F ih' fv args h = some r := by
  unfold callV at hc ⊢
  split at hc
  · exact callF_le H hc
  · exact roundF_le H hc
  · cases hc

theorem operF_le (H : LeR ih ih') {o : AOper} {e : Env} {h : Heap} {r : Env × Heap} (hc : operF F ih o e h = some r) : operF F ih' o e h = some r := by
  unfold operF at hc ⊢
  cases hw : wanted e o.guard with
  | false => rw [hw] at hc; exact hc
  | true =>
    rw [hw] at hc
    simp only [cond_true] at hc ⊢
    split at hc
    · rename_i f args hop
      cases hb : callV F ih (ev e f) (vals e args) h with
      | none => rw [hb] at hc; cases hc
      | some x => rw [hb] at hc; rw [callV_le H hb]; exact hc
    · exact hc

theorem opsF_le (H : LeR ih ih') : ∀ {l : List AOper} {e : Env} {h : Heap} {r : Env × Heap}, opsF F ih l e h = some r → opsF F ih' l e h = some r
  | [], _, _, _, hc => hc
  | o :: l, e, h, r, hc => by
    unfold opsF at hc ⊢
    cases hb : operF F ih o e h with
    | none => rw [hb] at hc; cases hc
    | some x => rw [hb] at hc; rw [operF_le H hb]; exact opsF_le H hc

theorem drawF_le (H : LeR ih ih') {k : Nat} : ∀ {l : List (AOper × List Nat)} {e : Env} {h : Heap} {r : Env × Heap}, drawF F ih k l e h = some r → drawF F ih' k l e h = some r
  | [], _, _, _, hc => hc
  | (o, chk) :: l, e, h, r, hc => by
    unfold drawF at hc ⊢
    cases hb : operF F ih o e h with
    | none => rw [hb] at hc; cases hc
    | some x =>
      obtain ⟨e1, h1⟩ := x
      rw [hb] at hc; rw [operF_le H hb]
      dsimp only at hc ⊢
      cases hs : still e1 h1 k chk with
      | false => rw [hs] at hc; cases hc
      | true => rw [hs] at hc; exact drawF_le H hc

theorem stepC_le (H : LeR ih ih') : LeR (stepC F ih) (stepC F ih') := by
  intro c e h r hc
  cases c with
  | skip => exact hc
  | ret => exact hc
  | bad => exact hc
  | exit id => exact hc
  | ops l =>
    unfold stepC at hc ⊢
    cases hb : opsF F ih l e h with
    | none => simp only [hb] at hc; cases hc
    | some x => simp only [hb] at hc; simp only [opsF_le H hb]; exact hc
  | draw l =>
    unfold stepC at hc ⊢
    cases hb : drawF F ih h.clock l e { h with clock := h.clock + 1 } with
    | none => simp only [hb] at hc; cases hc
    | some x => simp only [hb] at hc; simp only [drawF_le H hb]; exact hc
  | seq a b =>
    unfold stepC at hc ⊢
    cases hb : ih a e h with
    | none => simp only [hb] at hc; cases hc
    | some x =>
      obtain ⟨x, e1, h1⟩ := x
      simp only [hb] at hc; simp only [H _ _ _ _ hb]
      cases x with
      | normal => exact H _ _ _ _ hc
      | exit id => exact hc
      | ret => exact hc
  | cond cc a b =>
    unfold stepC at hc ⊢
    dsimp only at hc ⊢
    split at hc
    · first | exact H _ _ _ _ hc | (rename_i hv; rw [hv]; exact H _ _ _ _ hc)
    · first | exact H _ _ _ _ hc | (rename_i hv; rw [hv]; exact H _ _ _ _ hc)
    · cases hc
  | block id c =>
    unfold stepC at hc ⊢
    cases hb : ih c e h with
    | none => simp only [hb] at hc; cases hc
    | some x => simp only [hb] at hc; simp only [H _ _ _ _ hb]; exact hc
  | loop c =>
    unfold stepC at hc ⊢
    cases hb : ih c e h with
    | none => simp only [hb] at hc; cases hc
    | some x =>
      obtain ⟨x, e1, h1⟩ := x
      simp only [hb] at hc; simp only [H _ _ _ _ hb]
      cases x with
      | normal => exact H _ _ _ _ hc
      | exit id => exact hc
      | ret => exact hc
  | rng f ps asg body =>
    unfold stepC at hc ⊢
    dsimp only at hc ⊢
    split at hc
    · rename_i g first caps hv
      cases hb : callF F ih g (first.toList ++ [Value.func (.yield h.next) #[] #[]] ++ caps.toList) (h.new (.loop e ps asg body .ready)) with
      | none => rw [hb] at hc; cases hc
      | some x => rw [hb] at hc; rw [callF_le H hb]; exact hc
    · cases hc

theorem run_succ (n : Nat) : run F (n + 1) = stepC F (run F n) := rfl

theorem run_le1 : ∀ n, LeR (run F n) (run F (n + 1))
  | 0 => fun _ _ _ _ h => by cases h
  | n + 1 => stepC_le (run_le1 n)

theorem run_le {n m : Nat} (h : n ≤ m) : LeR (run F n) (run F m) := by
  induction h with
  | refl => exact fun _ _ _ _ h => h
  | step _ ih => exact fun c e h r hr => run_le1 _ c e h r (ih c e h r hr)
end
end Go.AI
