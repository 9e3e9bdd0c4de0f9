import Derived.Test.YtkhnhflbgkndjaaT2
namespace Go.Proofs.Ytkhnhflbgkndjaa
open Go.AI

theorem contains_does {h : Heap} (ok : HOk h) {v fv : Value} {xs : List Mv} {p : Mv → Bool} (hs : SliceOf encMv h v xs) (hn : xs.length < 1000000) (hf : Tells h fv p xs) :
    Does FF 10 [v, fv] h (fun r h' => r = .bool (xs.any p) ∧ Grows Nob h h') := by
  refine Does.of code10 ?_
  unfold body10
  simp
  refine OpsR.call (by simpa using index_does ok hs hn hf) ?_
  rintro _ h2 ⟨rfl, g2⟩
  simp
  refine ⟨?_, g2⟩
  cases hx : xs.findIdx? p with
  | none =>
    rw [List.findIdx?_eq_none_iff] at hx
    have : xs.any p = false := by simpa using hx
    rw [this]; simp
  | some i =>
    rw [List.findIdx?_eq_some_iff_getElem] at hx
    obtain ⟨hi, hp, _⟩ := hx
    have : xs.any p = true := List.any_eq_true.mpr ⟨_, List.getElem_mem hi, hp⟩
    rw [this]; simp

/-- 'the register is that one': of Moves -/
theorem same_does {h : Heap} (ok : HOk h) {x : Mv} {b : Nat} {t f : Int} {ro : Bool} {o s : Nat} (hb : h.tr.get b = some (.blk [.int .i64 t, .int .i64 f] ro o s)) :
    Does FF 11 [.agg ⟨encMv.enc x⟩, .pointer (some ⟨b, 0, none⟩)] h (fun r h' => r = .bool (x.to == t) ∧ Grows Nob h h') := by
  have hlt := ok.wf _ _ hb
  have hne : ¬ b = h.next := by omega
  refine Does.of code11 ?_
  unfold body11
  simp [hb, hne]
  repeat (first | exact .refl ok | apply Grows.new | refine Grows.put ?_ (by simp) (by simp))

theorem fault8_does (h : Heap) (ok : HOk h) (a b : Int) : Does FF 8 [.int .i64 a, .int .i64 b] h (fun v h' => v = .agg #[.int .i64 a, .int .i64 b] ∧ Grows Nob h h') := by
  refine Does.of code8 ?_
  unfold body8
  simp
  repeat (first | exact .refl ok | apply Grows.new | refine Grows.put ?_ (by simp) (by simp))

theorem fault13_does (h : Heap) (ok : HOk h) (a b : Int) : Does FF 13 [.int .i64 a, .int .i64 b] h (fun v h' => v = .agg #[.int .i64 a, .int .i64 b] ∧ Grows Nob h h') := by
  refine Does.of code13 ?_
  unfold body13
  simp
  repeat (first | exact .refl ok | apply Grows.new | refine Grows.put ?_ (by simp) (by simp))

theorem within_does (h : Heap) (a b c : Int) : Does FF 9 [.int .i64 a, .int .i64 b, .int .i64 c] h (fun v h' => v = .bool (decide (b ≤ a ∧ a ≤ c)) ∧ h' = h) := by
  refine Does.of code9 ?_
  unfold body9
  by_cases h1 : b ≤ a <;> by_cases h2 : a ≤ c <;> simp [h1, h2]

/-- a move from a register to itself -/
def selfy (m : Mv) : Bool := m.reg && m.n == m.to
/-- a move from a register -/
def needs (r : Int) (m : Mv) : Bool := m.reg && m.n == r
def asks (l : List Mv) (r : Int) : Bool := l.any (needs r)

theorem selfy_does {h : Heap} (ok : HOk h) (x : Mv) : Does FF 18 [.agg ⟨encMv.enc x⟩] h (fun r h' => r = .bool (selfy x) ∧ Grows Nob h h') := by
  refine Does.of code18 ?_
  unfold body18
  simp [selfy]
  repeat (first | exact .refl ok | apply Grows.new | refine Grows.put ?_ (by simp) (by simp))

theorem needs_does {h : Heap} (ok : HOk h) {x : Mv} {b : Nat} {m : Mv} {ro : Bool} {o s : Nat} (hb : h.tr.get b = some (.blk (encMv.enc m) ro o s)) :
    Does FF 20 [.agg ⟨encMv.enc x⟩, .pointer (some ⟨b, 0, none⟩)] h (fun r h' => r = .bool (needs m.to x) ∧ Grows Nob h h') := by
  have hlt := ok.wf _ _ hb
  have hne : ¬ b = h.next := by omega
  rw [encMv_enc] at hb
  refine Does.of code20 ?_
  unfold body20
  simp [hb, hne, needs]
  repeat (first | exact .refl ok | apply Grows.new | refine Grows.put ?_ (by simp) (by simp))

theorem asked_does {h : Heap} (ok : HOk h) {v : Value} {xs : List Mv} {r : Int} (hs : SliceOf encMv h v xs) (hn : xs.length < 1000000) :
    Does FF 14 [v, .int .i64 r] h (fun x h' => x = .bool (asks xs r) ∧ Grows Nob h h') := by
  obtain ⟨a, cap, rfl, hs'⟩ := id hs
  refine Does.of code14 ?_
  unfold body14
  simp
  refine Runs.loop (fun n e h1 => ∃ i, i ≤ xs.length ∧ n = xs.length - i ∧ Env.get e 5 = .int .i64 (i : Nat) ∧ Env.get e 0 = .slice a xs.length cap ∧ Env.get e 1 = .int .i64 r ∧
    (∀ j x, j < i → xs[j]? = some x → needs r x = false) ∧ Grows Nob h h1) ?_ (n := xs.length) ⟨0, by simp, by simp, by simp, by simp, by simp, by simp, .refl ok⟩
  rintro n e h1 ⟨i, hi, rfl, e5, e0, e1, hp, g⟩
  unfold round14_0
  by_cases hlt : i < xs.length
  · have hx : xs[i]? = some xs[i] := List.getElem?_eq_getElem hlt
    obtain ⟨b, off, cap', hv, _, _, hr⟩ := (hs.nob ok g).read hx
    cases hv
    have hr0 := hr 1 2 (by simp)
    simp only [encMv_sz, Nat.add_zero] at hr0
    cases hpx : needs r xs[i] with
    | true =>
      have hc : xs[i].reg = true ∧ xs[i].n = r := by simpa [needs] using hpx
      simp [e5, e0, e1, hlt, hr0, hc, -readAt_def]
      refine ⟨?_, g⟩
      rw [show asks xs r = true from List.any_eq_true.mpr ⟨_, List.getElem_mem hlt, hpx⟩]
    | false =>
      have hc : xs[i].reg = false ∨ ¬ xs[i].n = r := by
        cases hreg : xs[i].reg with
        | false => exact .inl rfl
        | true => right; simpa [needs, hreg] using hpx
      have hw := wrap_i64 (i + 1) (by omega) (by omega)
      have hp' : ∀ j x, j < i + 1 → xs[j]? = some x → needs r x = false := fun j x hj hx' => by
        by_cases hji : j = i
        · subst hji; rw [hx] at hx'; cases hx'; exact hpx
        · exact hp j x (by omega) hx'
      rcases hc with hc | hc <;> simp [e5, e0, e1, hlt, hr0, hw, hc, -readAt_def] <;>
      exact ⟨xs.length - (i + 1), by omega, i + 1, by omega, rfl, by simp, hp', g⟩
  · have : i = xs.length := by omega
    subst this
    simp [e5, e0]
    refine ⟨?_, g⟩
    have : asks xs r = false := by
      unfold asks
      rw [List.any_eq_false]
      intro x hx
      obtain ⟨j, hj, rfl⟩ := List.mem_iff_getElem.mp hx
      simpa using hp j _ hj (List.getElem?_eq_getElem hj)
    rw [this]
end Go.Proofs.Ytkhnhflbgkndjaa
