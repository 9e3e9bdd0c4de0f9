/- One step of the abstract interpreter, and its whole run. -/
import Derived.Test.YtigniafapkbbbaaGreatDoorAiRun4
namespace Go.AI

section
variable {P : Program} {T : Tab} {ng : Nat} {dr : Draws} {F : Nat → Option AFunc} {ih : ACode → Env → Heap → R}

theorem s_bad {e : Env} {h : Heap} {y : AExit × Env × Heap} (hc : stepC F ih .bad e h = some y) : False := by simp [stepC] at hc

theorem ne_todo {b : Frame} {a a' : Act} {cs : List Frame} {w w' : World} {t t' : List Item} (h : t ≠ t') : lone (on b a t) cs w ≠ lone (on b a' t') cs w' := by
  intro e
  exact h (lone_todo e)

theorem stepC_sound (hF : FOk P T ng dr F) (hT : TabOk P T) (hD : DrawsOk P T ng dr F) (hK : KeepsAll ih) (hI : RunOk P T ng dr ih) : RunOk P T ng dr (stepC F ih) := by
  intro n c
  induction c with
  | skip =>
    intro e h x e' h' hc B ρ w a b k cs S hG hE hn hB hDe hr
    simp only [cmpCode, stepC, Option.some.injEq, Prod.mk.injEq] at hc
    obtain ⟨rfl, rfl, rfl⟩ := hc
    exact ⟨ρ, w, a, .one s_skip, .same S hE hDe⟩
  | label l =>
    intro e h x e' h' hc B ρ w a b k cs S hG hE hn hB hDe hr
    simp only [cmpCode, stepC, Option.some.injEq, Prod.mk.injEq] at hc
    obtain ⟨rfl, rfl, rfl⟩ := hc
    exact ⟨ρ, w, a, .one s_label, .same S hE hDe⟩
  | region id ops draw =>
    intro e h x e' h' hc B ρ w a b k cs S hG hE hn hB hDe hr
    cases draw with
    | false =>
      simp only [cmpCode, stepC] at hc
      split at hc
      · rename_i e1 h1 ho
        cases hc
        obtain ⟨ρ1, w1, a1, s1, S1, E1, z1, d1, X1⟩ := opsF_sound hF hT hI b k cs ops.size 0 (by omega) e e' h h' ho ρ w a S hG hE hn
        refine ⟨ρ1, w1, a1, ?_, ⟨S1, E1, z1, X1, by rw [d1]; exact hDe.ext X1⟩⟩
        rw [← List.range_eq_range'] at s1
        exact Steps.head s_region (Steps.trans s1 (.one s_region_end))
      · cases hc
    | true =>
      simp only [cmpCode, stepC] at hc
      split at hc
      · rename_i e1 h1 ho
        cases hc
        obtain ⟨ρ1, w1, a1, s1, S1, E1, z1, d1, X1⟩ := hD ih hK hI n ops e h e' h' ho (P.follows .mixedOrders) (w.tape w.drawn (.order b.fn id)) ρ { w with drawn := w.drawn + 1 } a b k cs (S.drawn _) hG hE hn
        have X := (Ext.drawn (ρ := ρ) (h := h) (w := w) (w.drawn + 1)).trans X1
        refine ⟨ρ1, w1, a1, ?_, ⟨S1, E1, z1, X, by rw [d1]; exact hDe.ext X⟩⟩
        exact Steps.head s_draw (Steps.trans s1 (.one s_region_end))
      · cases hc
  | seq c1 c2 _ _ =>
    intro e h x e' h' hc B ρ w a b k cs S hG hE hn hB hDe hr
    have hr1 : b.roundOf = none ∨ noRng c1 = true := hr.imp_right fun q => by simp only [noRng, Bool.and_eq_true] at q; exact q.1
    have hr2 : b.roundOf = none ∨ noRng c2 = true := hr.imp_right fun q => by simp only [noRng, Bool.and_eq_true] at q; exact q.2
    simp only [cmpCode, stepC] at hc
    split at hc
    · rename_i e1 h1 ho
      obtain ⟨ρ1, w1, a1, g1, A1⟩ := hI n c1 e h _ e1 h1 ho B ρ w a b (.code c2 :: k) cs S hG hE hn hB hDe hr1
      obtain ⟨ρ2, w2, a2, g2, A2⟩ := hI n c2 e1 h1 _ e' h' hc B ρ1 w1 a1 b k cs A1.sim (hG.mono A1.ext.le) A1.er (by rw [A1.size]; exact hn) (Nat.le_trans hB A1.ext.size) A1.defs hr2
      exact ⟨ρ2, w2, a2, Goes.of_steps (.head s_seq g1) g2, A1.trans A2⟩
    · rename_i hne
      obtain ⟨ρ1, w1, a1, g1, A1⟩ := hI n c1 e h _ e' h' hc B ρ w a b (.code c2 :: k) cs S hG hE hn hB hDe hr1
      refine ⟨ρ1, w1, a1, ?_, A1⟩
      cases x with
      | normal => exact absurd hc (hne e' h')
      | exit id =>
        obtain ⟨k', h1, h2⟩ := g1
        exact ⟨k', .head s_seq h1, h2.trans rfl⟩
      | ret =>
        obtain ⟨k', h1⟩ := g1
        exact ⟨k', .head s_seq h1⟩
  | cond c c1 c2 _ _ =>
    intro e h x e' h' hc B ρ w a b k cs S hG hE hn hB hDe hr
    have hr1 : b.roundOf = none ∨ noRng c1 = true := hr.imp_right fun q => by simp only [noRng, Bool.and_eq_true] at q; exact q.1
    have hr2 : b.roundOf = none ∨ noRng c2 = true := hr.imp_right fun q => by simp only [noRng, Bool.and_eq_true] at q; exact q.2
    simp only [cmpCode] at hc
    cases ho : opdOk ng c with
    | false => rw [ho] at hc; exact (s_bad hc).elim
    | true =>
      simp only [ho, cond_true, stepC] at hc
      have hv := hE.eval hG ho
      split at hc
      · rename_i hev
        rw [hev] at hv
        obtain ⟨ρ1, w1, a1, g1, A1⟩ := hI n c1 e h _ e' h' hc B ρ w a b k cs S hG hE hn hB hDe hr1
        exact ⟨ρ1, w1, a1, Goes.of_steps (.one (s_cond hv.bool_inv)) g1, A1⟩
      · rename_i hev
        rw [hev] at hv
        obtain ⟨ρ1, w1, a1, g1, A1⟩ := hI n c2 e h _ e' h' hc B ρ w a b k cs S hG hE hn hB hDe hr2
        exact ⟨ρ1, w1, a1, Goes.of_steps (.one (s_cond hv.bool_inv)) g1, A1⟩
      · cases hc
  | block id c _ =>
    intro e h x e' h' hc B ρ w a b k cs S hG hE hn hB hDe hr
    simp only [cmpCode, stepC] at hc
    split at hc
    · rename_i i e1 h1 ho
      obtain ⟨ρ1, w1, a1, g1, A1⟩ := hI n c e h _ e1 h1 ho B ρ w a b (.inBlock id :: k) cs S hG hE hn hB hDe hr
      obtain ⟨k', q1, q2⟩ := g1
      cases hi : Nat.beq i id with
      | true =>
        have := Nat.eq_of_beq_eq_true hi
        subst this
        simp only [hi, cond_true, Option.some.injEq, Prod.mk.injEq] at hc
        obtain ⟨rfl, rfl, rfl⟩ := hc
        refine ⟨ρ1, w1, a1, ?_, A1⟩
        refine Steps.head s_block (q1.trans (.one (s_exit ?_)))
        rw [q2]
        simp [exitTo]
      | false =>
        simp only [hi, cond_false, Option.some.injEq, Prod.mk.injEq] at hc
        obtain ⟨rfl, rfl, rfl⟩ := hc
        refine ⟨ρ1, w1, a1, ⟨k', .head s_block q1, ?_⟩, A1⟩
        rw [q2]
        have : (id == i) = false := by
          cases hx : id == i with
          | false => rfl
          | true =>
            have := eq_of_beq hx
            subst this
            rw [Nat.beq_refl] at hi; cases hi
        simp [exitTo, this]
    · rename_i hne
      obtain ⟨ρ1, w1, a1, g1, A1⟩ := hI n c e h _ e' h' hc B ρ w a b (.inBlock id :: k) cs S hG hE hn hB hDe hr
      refine ⟨ρ1, w1, a1, ?_, A1⟩
      cases x with
      | normal => exact Steps.head s_block (Steps.trans g1 (.one s_inBlock))
      | exit i => exact absurd hc (hne i e' h')
      | ret =>
        obtain ⟨k', h1⟩ := g1
        exact ⟨k', .head s_block h1⟩
  | loop c _ =>
    intro e h x e' h' hc B ρ w a b k cs S hG hE hn hB hDe hr
    simp only [cmpCode, stepC] at hc
    split at hc
    · rename_i e1 h1 ho
      obtain ⟨ρ1, w1, a1, g1, A1⟩ := hI n c e h _ e1 h1 ho B ρ w a b (.inLoop c :: k) cs S hG hE hn hB hDe hr
      obtain ⟨ρ2, w2, a2, g2, A2⟩ := hI n (.loop c) e1 h1 _ e' h' hc B ρ1 w1 a1 b k cs A1.sim (hG.mono A1.ext.le) A1.er (by rw [A1.size]; exact hn) (Nat.le_trans hB A1.ext.size) A1.defs hr
      refine ⟨ρ2, w2, a2, ?_, A1.trans A2⟩
      have hto : Steps P (lone (on b a (.code (.loop c) :: k)) cs w) (lone (on b a1 (.code c :: .inLoop c :: k)) cs w1) := .head s_loop (Steps.trans g1 (.one s_inLoop))
      refine Goes.of_steps hto ?_
      have hs := s_loop (P := P) (b := b) (a := a1) (k := k) (cs := cs) (w := w1) (c := c)
      cases x with
      | normal => exact steps_tail g2 hs (ne_todo fun q => by have := congrArg List.length q; simp at this)
      | exit i =>
        obtain ⟨k', q1, q2⟩ := g2
        exact ⟨k', steps_tail q1 hs (ne_todo fun q => by cases q), q2⟩
      | ret =>
        obtain ⟨k', q1⟩ := g2
        exact ⟨k', steps_tail q1 hs (ne_todo fun q => by cases q)⟩
    · rename_i hne
      obtain ⟨ρ1, w1, a1, g1, A1⟩ := hI n c e h _ e' h' hc B ρ w a b (.inLoop c :: k) cs S hG hE hn hB hDe hr
      refine ⟨ρ1, w1, a1, ?_, A1⟩
      cases x with
      | normal => exact absurd hc (hne e' h')
      | exit id =>
        obtain ⟨k', h1, h2⟩ := g1
        exact ⟨k', .head s_loop h1, h2.trans rfl⟩
      | ret =>
        obtain ⟨k', h1⟩ := g1
        exact ⟨k', .head s_loop h1⟩
  | scope c ihc =>
    intro e h x e' h' hc B ρ w a b k cs S hG hE hn hB hDe hr
    simp only [cmpCode] at hc
    obtain ⟨ρ1, w1, a1, g1, A1⟩ := ihc e h x e' h' hc B ρ w a b (.inScope c :: k) cs S hG hE hn hB hDe hr
    refine ⟨ρ1, w1, a1, ?_, A1⟩
    cases x with
    | normal => exact Steps.head s_scope (Steps.trans g1 (.one s_inScope))
    | exit id =>
      obtain ⟨k', h1, h2⟩ := g1
      exact ⟨k', .head s_scope h1, h2.trans rfl⟩
    | ret =>
      obtain ⟨k', h1⟩ := g1
      exact ⟨k', .head s_scope h1⟩
  | exit id =>
    intro e h x e' h' hc B ρ w a b k cs S hG hE hn hB hDe hr
    simp only [cmpCode, stepC, Option.some.injEq, Prod.mk.injEq] at hc
    obtain ⟨rfl, rfl, rfl⟩ := hc
    exact ⟨ρ, w, a, ⟨k, Steps.refl P _, rfl⟩, .same S hE hDe⟩
  | ret =>
    intro e h x e' h' hc B ρ w a b k cs S hG hE hn hB hDe hr
    simp only [cmpCode, stepC, Option.some.injEq, Prod.mk.injEq] at hc
    obtain ⟨rfl, rfl, rfl⟩ := hc
    exact ⟨ρ, w, a, ⟨k, Steps.refl P _⟩, .same S hE hDe⟩
  | rangeFunc f ps asg body _ _ =>
    intro e h x e' h' hc B ρ w a b k cs S hG hE hn hB hDe hr
    simp only [cmpCode] at hc
    cases hok : (opdOk ng f && ps.toList.all (Nat.blt · n) && noRng asg && noRng body) with
    | false => rw [hok] at hc; exact (s_bad hc).elim
    | true =>
      rw [hok] at hc
      simp only [Bool.and_eq_true] at hok
      obtain ⟨⟨⟨h1, h2⟩, h3⟩, h4⟩ := hok
      have hrn : b.roundOf = none := by
        rcases hr with q | q
        · exact q
        · simp [noRng] at q
      exact rng_sound hF hT hI h1 h2 h3 h4 hc b k cs S hG hE hn hB hDe hrn
  | _ =>
    intro e h x e' h' hc
    exact (s_bad hc).elim

theorem run_sound (hF : FOk P T ng dr F) (hT : TabOk P T) (hD : DrawsOk P T ng dr F) : ∀ fuel, RunOk P T ng dr (run F fuel) := by
  intro fuel
  induction fuel with
  | zero => intro n c e h x e' h' hc; cases hc
  | succ m ihm => exact stepC_sound hF hT hD (run_keeps m) ihm
end
end Go.AI
