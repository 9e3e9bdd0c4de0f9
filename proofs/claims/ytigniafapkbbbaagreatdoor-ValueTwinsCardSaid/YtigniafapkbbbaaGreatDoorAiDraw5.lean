/- A region that draws its order comes to what its text's order comes to. -/
import Derived.Test.YtigniafapkbbbaaGreatDoorAiDraw4
namespace Go.AI

/-- the runs of a list of operations, place by place -/
theorem drawF_seq {F : Nat → Option AFunc} {ih : ACode → Env → Heap → R} (c : Nat) : ∀ (l : List (AOper × List Nat)) (e : Env) (h : Heap) (e' : Env) (h' : Heap), drawF F ih c l e h = some (e', h') →
    ∃ (E : Nat → Env) (H : Nat → Heap), E 0 = e ∧ H 0 = h ∧ E l.length = e' ∧ H l.length = h' ∧
      ∀ (k : Nat) (o : AOper) (chk : List Nat), l[k]? = some (o, chk) → operF F ih o (E k) (H k) = some (E (k + 1), H (k + 1)) ∧ still (E (k + 1)) (H (k + 1)) c chk = true
  | [], e, h, e', h', hc => by
    simp only [drawF, Option.some.injEq, Prod.mk.injEq] at hc
    obtain ⟨rfl, rfl⟩ := hc
    exact ⟨fun _ => e, fun _ => h, rfl, rfl, rfl, rfl, fun k o chk hk => by simp at hk⟩
  | (o, chk) :: r, e, h, e', h', hc => by
    simp only [drawF] at hc
    split at hc
    · rename_i e1 h1 ho
      cases hs : still e1 h1 c chk with
      | false => simp [hs] at hc
      | true =>
        simp only [hs, cond_true] at hc
        obtain ⟨E, H, q1, q2, q3, q4, q5⟩ := drawF_seq c r e1 h1 e' h' hc
        refine ⟨fun k => match k with | 0 => e | k + 1 => E k, fun k => match k with | 0 => h | k + 1 => H k, rfl, rfl, q3, q4, ?_⟩
        intro k o' chk' hk
        cases k with
        | zero =>
          simp only [List.getElem?_cons_zero, Option.some.injEq, Prod.mk.injEq] at hk
          obtain ⟨rfl, rfl⟩ := hk
          dsimp only
          rw [q1, q2]
          exact ⟨ho, hs⟩
        | succ k => exact q5 k o' chk' (by simpa using hk)
    · cases hc

/-- What one place of the list does to slots and memory. -/
theorem operF_env {F : Nat → Option AFunc} {ih : ACode → Env → Heap → R} {o : AOper} {e e' : Env} {h h' : Heap} (hc : operF F ih o e h = some (e', h')) : ∃ v, e' = putE e o.dst v := by
  unfold operF at hc
  cases hw : wanted e o.guard <;> simp only [hw, cond_true, cond_false] at hc
  · cases hc; exact ⟨_, rfl⟩
  · split at hc
    · split at hc
      · cases hc; exact ⟨_, rfl⟩
      · cases hc
    · split at hc
      · cases hc; exact ⟨_, rfl⟩
      · cases hc

theorem kind_not_call {o : AOp} (hk : o.kind ≤ 2) : ∀ f args, o ≠ .call f args := by
  intro f args e
  subst e
  simp [AOp.kind] at hk

theorem operF_low {F : Nat → Option AFunc} {ih : ACode → Env → Heap → R} {o : AOper} {e e' : Env} {h h' : Heap} (hk : o.op.kind ≤ 1) (hc : operF F ih o e h = some (e', h')) : h' = h := by
  unfold operF at hc
  cases hw : wanted e o.guard <;> simp only [hw, cond_true, cond_false] at hc
  · cases hc; rfl
  · split at hc
    · rename_i f args hop
      exact absurd hop (kind_not_call (by omega) f args)
    · split at hc
      · rename_i hv
        cases hc
        rcases Nat.le_one_iff_eq_zero_or_eq_one.1 hk with h0 | h1
        · exact (opV_pure h0 hv).1
        · exact (opV_reader h1 hv).1
      · cases hc

theorem operF_grow {F : Nat → Option AFunc} {ih : ACode → Env → Heap → R} {o : AOper} {e e' : Env} {h h' : Heap} (hk : o.op.kind ≤ 2) (hc : operF F ih o e h = some (e', h')) : h' = h ∨ ∃ x, h' = h.new x := by
  by_cases h1 : o.op.kind ≤ 1
  · exact .inl (operF_low h1 hc)
  · have h2 : o.op.kind = 2 := by omega
    unfold operF at hc
    cases hw : wanted e o.guard <;> simp only [hw, cond_true, cond_false] at hc
    · cases hc; exact .inl rfl
    · split at hc
      · rename_i f args hop
        exact absurd hop (kind_not_call (by omega) f args)
      · split at hc
        · rename_i hv
          cases hc
          obtain ⟨_, cs, _, h, _⟩ := opV_alloc h2 hv
          exact .inr ⟨_, h⟩
        · cases hc

theorem kind_le (o : AOp) : o.kind ≤ 3 := by cases o <;> simp [AOp.kind]

/-- what stands still: a block that has not been written since, or a map that is empty -/
def Rest (c : Nat) (o : AObj) : Prop := (∃ cs ro op s, o = .blk cs ro op s ∧ s ≤ c) ∨ o = .map []

theorem still_spec {e : Env} {h : Heap} {c : Nat} : ∀ {l : List Nat}, still e h c l = true → ∀ t ∈ l, ∀ b, leads (Env.get e t) = some b → ∃ o, h.tr.get b = some o ∧ Rest c o
  | [], _, t, ht, _, _ => by simp at ht
  | u :: r, hs, t, ht, b, hb => by
    unfold still at hs
    rcases List.mem_cons.1 ht with rfl | ht
    · split at hs
      · rename_i heq
        rw [heq] at hb; cases hb
        split at hs
        · rename_i cs ro o s hg
          rw [Bool.and_eq_true] at hs
          exact ⟨_, hg, .inl ⟨cs, ro, o, s, rfl, Nat.le_of_ble_eq_true hs.1⟩⟩
        · cases hs
      · rename_i heq
        rw [heq] at hb; cases hb
        split at hs
        · rename_i cs ro o s hg
          rw [Bool.and_eq_true] at hs
          exact ⟨_, hg, .inl ⟨cs, ro, o, s, rfl, Nat.le_of_ble_eq_true hs.1⟩⟩
        · cases hs
      · rename_i heq
        rw [heq] at hb; cases hb
        split at hs
        · rename_i hg
          exact ⟨_, hg, .inr rfl⟩
        · cases hs
      · rename_i heq; rw [heq] at hb; cases hb
      · rename_i heq; rw [heq] at hb; cases hb
      · rename_i heq; rw [heq] at hb; cases hb
      · rename_i heq; rw [heq] at hb; cases hb
      · cases hs
    · split at hs
      · split at hs
        · rw [Bool.and_eq_true] at hs; exact still_spec hs.2 t ht b hb
        · cases hs
      · split at hs
        · rw [Bool.and_eq_true] at hs; exact still_spec hs.2 t ht b hb
        · cases hs
      · split at hs
        · exact still_spec hs t ht b hb
        · cases hs
      · exact still_spec hs t ht b hb
      · exact still_spec hs t ht b hb
      · exact still_spec hs t ht b hb
      · exact still_spec hs t ht b hb
      · cases hs

/-- slots put out of sight -/
def maskE (l : List Nat) (e : Env) : Env := l.foldl Tr.del e
def maskA (l : List Nat) (tmps : Array Value) : Array Value := l.foldl (fun x t => x.setIfInBounds t undef) tmps

theorem maskE_get : ∀ (l : List Nat) (e : Env) (t : Nat), Env.get (maskE l e) t = if t ∈ l then .tuple #[] else Env.get e t
  | [], e, t => by simp [maskE]
  | u :: l, e, t => by
    rw [maskE, List.foldl_cons, ← maskE, maskE_get l]
    by_cases h1 : t ∈ l
    · simp [h1]
    · rw [if_neg h1]
      unfold Env.get
      rw [Tr.get_del]
      by_cases h2 : t = u
      · subst h2; simp
      · simp [h1, h2]

theorem maskA_get : ∀ (l : List Nat) (a : Array Value) (t : Nat), (maskA l a).getD t undef = if t ∈ l then undef else a.getD t undef
  | [], a, t => by simp [maskA]
  | u :: l, a, t => by
    rw [maskA, List.foldl_cons, ← maskA, maskA_get l]
    by_cases h1 : t ∈ l
    · simp [h1]
    · rw [if_neg h1]
      by_cases h2 : t = u
      · subst h2
        simp only [List.mem_cons, true_or, if_true]
        rw [Array.getD_eq_getD_getElem?, Array.getElem?_setIfInBounds]
        simp only [if_true]
        split <;> rfl
      · simp [h1, h2, Array.getD_eq_getD_getElem?, Array.getElem?_setIfInBounds, Ne.symm h2]

theorem VR.leads {ρ : Rho} {v c : Value} {b : Nat} (h : VR ρ v c) (hb : leads v = some b) : ∃ r, ρ b = some r := by
  unfold AI.leads at hb
  split at hb
  · cases hb
    cases h with
    | val h => cases h with
      | cell h => cases h with
        | cell h => cases h with
          | ptr h => exact ⟨_, h⟩
  · cases hb
    cases h with
    | val h => cases h with
      | cell h => cases h with
        | cell h => cases h with
          | slice h _ => exact ⟨_, h⟩
  · cases hb
    cases h with
    | val h => cases h with
      | cell h => cases h with
        | cell h => cases h with
          | map h => exact ⟨_, h⟩
  · cases hb
end Go.AI
