/- Regions that draw their order are sound. -/
import Derived.Test.YtigniafapkbbbaaGreatDoorAiDraw7
namespace Go.AI

section
variable {P : Program} {T : Tab} {ng : Nat} {dr : Draws} {F : Nat → Option AFunc} {ih : ACode → Env → Heap → R} {n c : Nat} {ops : Array Oper} {σ : Nat → Nat} {l : List (AOper × List Nat)} {E : Nat → Env} {H : Nat → Heap}

theorem yielded_getD {tmps : Array Value} {j t : Nat} {o : Oper} (ho : ops[j]? = some o) (hd : o.dst = some t) :
    yielded ops tmps j = match tmps.getD t undef with | .bool b => some b | _ => none := by
  simp only [yielded, ho, Option.bind_some, hd]
  rw [Array.getD_eq_getD_getElem?]
  cases tmps[t]? with
  | none => rfl
  | some v => cases v <;> rfl

theorem alloc_slot {ao : AOper} {e e' : Env} {h0 h1 : Heap} (hk : ao.op.kind = 2) (hc : operF F ih ao e h0 = some (e', h1)) (hlt : h0.next < h1.next) : ∀ t, ao.dst = some t → leads (Env.get e' t) = some h0.next := by
  intro t ht
  have hnc := kind_not_call (o := ao.op) (by omega)
  unfold operF at hc
  cases hw : wanted e ao.guard with
  | false =>
    simp only [hw, cond_false, Option.some.injEq, Prod.mk.injEq] at hc
    rw [hc.2] at hlt
    omega
  | true =>
    simp only [hw, cond_true] at hc
    split at hc
    · rename_i v0 h1' hov
      simp only [Option.some.injEq, Prod.mk.injEq] at hc
      obtain ⟨he', _⟩ := hc
      obtain ⟨s, cells, hv, _, _⟩ := opV_alloc hk hov
      rw [← he', ht, hv]
      simp only [putE, Env.get_set, if_true]
      exact leads_mkA s _
    · cases hc

theorem through_mem {x : Operand} {o : Oper} (hx : (cmpOper T ng n ops.toList o).op.through = some x) : x ∈ o.op.operands.toList := by
  have hcm : (cmpOper T ng n ops.toList o).op = cmpOp T o.op ∨ (cmpOper T ng n ops.toList o).op = .bad := by
    unfold cmpOper; cases operOk ng n ops.toList o
    · exact .inr rfl
    · exact .inl rfl
  have : x ∈ (cmpOp T o.op).opds := by
    rcases hcm with hcm | hcm
    · rw [hcm] at hx
      cases hop : cmpOp T o.op <;> rw [hop] at hx <;> simp only [AOp.through, Option.some.injEq, reduceCtorEq] at hx <;> (subst hx; simp [AOp.opds])
    · rw [hcm] at hx; cases hx
  exact cmpOp_opds this

theorem run_ok {o : Oper} {e e' : Env} {h h' : Heap} (hc : operF F ih (cmpOper T ng n ops.toList o) e h = some (e', h')) : operOk ng n ops.toList o = true := by
  unfold cmpOper at hc
  cases hok : operOk ng n ops.toList o with
  | false => rw [hok] at hc; simp [operF, wanted, opV] at hc
  | true => rfl

open Classical in
theorem draw_run (hF : FOk P T ng dr F) (hT : TabOk P T) (hI : RunOk P T ng dr ih) (hK : KeepsAll ih) (hq : SeqOk F ih T ng n ops σ E H) (hg : DrawGood T ng n ops σ l)
    (hstill : ∀ (k : Nat) (ao : AOper) (chk : List Nat), l[k]? = some (ao, chk) → still (E (k + 1)) (H (k + 1)) c chk = true) (hc0 : c < (H 0).clock) (hwf : WF (H 0)) (b : Frame) (kk : List Item) (cs : List Frame) (ρ0 : Rho) (w0 : World) :
    ∀ (D : Nat → Prop) (L : List Nat), Ord ops D L → (∀ i o, ops[i]? = some o → D i → ∀ k ∈ edgesOf .any o, D k) →
    ∀ (ρ : Rho) (w : World) (a : Act) (q : Nat), q ≤ ops.size → (∀ (p : Nat) (o' : Oper), p < ops.size → ops[σ p]? = some o' → (cmpOper T ng n ops.toList o').op.kind = 3 → (D (σ p) ↔ p < q)) →
      Sim (CCof T ng dr) ρ (H q) w → Globs ng ρ → n ≤ a.tmps.size → Ext ρ0 (H 0) w0 ρ (H q) w →
      (∀ (p : Nat) (o : Oper) (t : Nat), p < ops.size → ops[σ p]? = some o → o.dst = some t → D (σ p) → VR ρ (Env.get (E (p + 1)) t) (a.tmps.getD t undef)) →
      (∀ t, (∀ (i : Nat) (o : Oper), ops[i]? = some o → o.dst = some t → ¬ D i) → VR ρ (Env.get (E 0) t) (a.tmps.getD t undef)) →
      (∀ (p : Nat) (o : Oper), p < ops.size → ops[σ p]? = some o → (cmpOper T ng n ops.toList o).op.kind = 2 → ¬ D (σ p) → (H p).next < (H (p + 1)).next → ρ (H p).next = none) →
      ∃ ρ' w' a', Steps P (lone (on b a (.inRegion ops L :: kk)) cs w) (lone (on b a' (.inRegion ops [] :: kk)) cs w') ∧
        Sim (CCof T ng dr) ρ' (H ops.size) w' ∧ ER ρ' (E ops.size) a'.tmps ∧ a'.tmps.size = a.tmps.size ∧ a'.defers = a.defers ∧ Ext ρ0 (H 0) w0 ρ' (H ops.size) w' := by
  have hnext : ∀ a b, a ≤ b → b ≤ ops.size → (H a).next ≤ (H b).next := fun a b h1 h2 => (seq_keeps hK hq hg b h1 h2).next
  intro D L hO
  induction hO with
  | @nil D hall =>
    intro hDc ρ w a q hqm hDq S hG hn X hv hv0 hfree
    have hne : NoEff T ng n ops σ q ops.size := by
      intro k o h1 h2 h3 h4
      have := (hDq k o h2 h3 h4).1 (hall _ (hg.bound k h2))
      omega
    obtain ⟨S1, X1⟩ := seq_sim hq hg S ops.size hqm (Nat.le_refl _) hne
    refine ⟨ρ, w, a, Steps.refl P _, S1, ?_, rfl, rfl, X.trans X1⟩
    intro t
    by_cases hex : ∃ (i : Nat) (o : Oper), ops[i]? = some o ∧ o.dst = some t
    · obtain ⟨i, o, ho, hd⟩ := hex
      obtain ⟨p, hp, rfl⟩ := hg.onto i (Array.getElem?_eq_some_iff.1 ho).1
      have := hv p o t hp ho hd (hall _ (hg.bound p hp))
      rwa [← seq_env hq hg ops.size (a := p + 1) (by omega) (Nat.le_refl _) (fun k ok h1 h2 h3 h4 => by
        have := hg.inj p k hp h2 (hg.once (σ p) (σ k) o ok t ho h3 hd h4)
        omega)] at this
    · have := hv0 t (fun i o h1 h2 => absurd ⟨i, o, h1, h2⟩ hex)
      rwa [← seq_env hq hg ops.size (a := 0) (by omega) (Nat.le_refl _) (fun k ok h1 h2 h3 h4 => hex ⟨σ k, ok, h3, h4⟩)] at this
  | @cons D i L o ho hn0 he hl ihl =>
    intro hDc ρ w a q hqm hDq S hG hn X hv hv0 hfree
    have him : i < ops.size := (Array.getElem?_eq_some_iff.1 ho).1
    obtain ⟨p, hp, hpi⟩ := hg.onto i him
    subst hpi
    have anc_in : ∀ j, Anc ops (σ p) j → D j := fun j hj => hj.closed hDc (fun o' ho' => by rw [ho] at ho'; cases ho'; exact he)
    have anc_out : ∀ j, Anc ops j (σ p) → ¬ D j := by
      intro j hj hDj
      have hjm : ∃ oj, ops[j]? = some oj := by
        cases hj with
        | edge h _ => exact ⟨_, h⟩
        | far h _ _ => exact ⟨_, h⟩
      obtain ⟨oj, hoj⟩ := hjm
      exact hn0 (hj.closed hDc (fun o' ho' => hDc j o' ho' hDj))
    -- a slot that stands right
    have slot_ok : ∀ t, (∀ (j : Nat) (oj : Oper), ops[j]? = some oj → oj.dst = some t → Anc ops (σ p) j ∨ Anc ops j (σ p)) → VR ρ (Env.get (E p) t) (a.tmps.getD t undef) := by
      intro t ht
      by_cases hex : ∃ (j : Nat) (oj : Oper), ops[j]? = some oj ∧ oj.dst = some t
      · obtain ⟨j, oj, hoj, hdj⟩ := hex
        obtain ⟨pj, hpj, rfl⟩ := hg.onto j (Array.getElem?_eq_some_iff.1 hoj).1
        rcases ht _ oj hoj hdj with hj | hj
        · obtain ⟨pj', hlt, he'⟩ := hg.anc_lt hj p hp rfl
          have := hg.inj pj' pj (by omega) hpj he'
          subst this
          have := hv pj' oj t hpj hoj hdj (anc_in _ hj)
          rwa [← seq_env hq hg p (a := pj' + 1) (by omega) (by omega) (fun k ok h1 h2 h3 h4 => by
            have := hg.inj pj' k hpj (by omega) (hg.once _ _ oj ok t hoj h3 hdj h4)
            omega)] at this
        · obtain ⟨pp, hlt, he'⟩ := hg.anc_lt hj pj hpj rfl
          have hpp := hg.inj pp p (by omega) hp he'
          subst hpp
          have := hv0 t (fun j' oj' h1 h2 => by rw [hg.once j' (σ pj) oj' oj t h1 hoj h2 hdj]; exact anc_out _ hj)
          rwa [← seq_env hq hg pp (a := 0) (by omega) (by omega) (fun k ok h1 h2 h3 h4 => by
            have := hg.inj pj k hpj (by omega) (hg.once _ _ oj ok t hoj h3 hdj h4)
            omega)] at this
      · have := hv0 t (fun j oj h1 h2 => absurd ⟨j, oj, h1, h2⟩ hex)
        rwa [← seq_env hq hg p (a := 0) (by omega) (by omega) (fun k ok h1 h2 h3 h4 => hex ⟨σ k, ok, h3, h4⟩)] at this
    -- the slots out of sight
    let bads : List Nat := (ops.toList.filterMap (·.dst)).filter fun t => decide (¬ VR ρ (Env.get (E p) t) (a.tmps.getD t undef))
    have hbad : ∀ t, t ∉ bads → VR ρ (Env.get (E p) t) (a.tmps.getD t undef) := by
      intro t ht
      by_cases hex : ∃ (j : Nat) (oj : Oper), ops[j]? = some oj ∧ oj.dst = some t
      · obtain ⟨j, oj, hoj, hdj⟩ := hex
        apply Classical.byContradiction
        intro hne
        refine ht (List.mem_filter.2 ⟨List.mem_filterMap.2 ⟨oj, ?_, hdj⟩, by simpa using hne⟩)
        exact List.mem_of_getElem? (i := j) (by simpa using hoj)
      · exact slot_ok t (fun j oj h1 h2 => absurd ⟨j, oj, h1, h2⟩ hex)
    have hgood : ∀ t, VR ρ (Env.get (E p) t) (a.tmps.getD t undef) → t ∉ bads := by
      intro t ht hm
      have := (List.mem_filter.1 hm).2
      simp only [decide_eq_true_eq] at this
      exact this ht
    let e2 := maskE bads (E p)
    let a2 : Act := { a with tmps := maskA bads a.tmps }
    have hE2 : ER ρ e2 a2.tmps := by
      intro t
      show VR ρ (Env.get (maskE bads (E p)) t) ((maskA bads a.tmps).getD t undef)
      rw [maskE_get, maskA_get]
      by_cases ht : t ∈ bads
      · rw [if_pos ht, if_pos ht]; exact VR.undef
      · rw [if_neg ht, if_neg ht]; exact hbad t ht
    have hopd : ∀ x ∈ o.op.operands.toList, ev (E p) x = ev e2 x ∧ a.eval x = a2.eval x := by
      intro x hx
      cases x with
      | tmp t =>
        have ht := hgood t (slot_ok t (fun j oj h1 h2 => hg.reads (σ p) o t ho hx j oj h1 h2))
        simp only [ev, Act.eval, e2, a2]
        rw [maskE_get, maskA_get, if_neg ht, if_neg ht]
        exact ⟨rfl, rfl⟩
      | _ => exact ⟨rfl, rfl⟩
    have hcan := hq p o hp ho
    have hok := run_ok hcan
    have hwr : Region.wanted o (yielded ops a.tmps) = wanted (E p) (guardOf ops.toList o) := by
      unfold guardOf
      cases hgo : o.guard with
      | none => simp [Region.wanted, hgo, wanted]
      | some x =>
        obtain ⟨g, bb⟩ := x
        dsimp only
        have hgs : (slotOf ops.toList g).isSome = true := by
          simp only [operOk, Bool.and_eq_true, hgo] at hok
          exact hok.1.2
        obtain ⟨t, ht⟩ := Option.isSome_iff_exists.1 hgs
        have hanc := hg.guard (σ p) o g bb ho hgo
        have hdst : ∃ og, ops[g]? = some og ∧ og.dst = some t := by
          unfold slotOf at ht
          split at ht
          · rename_i og hog
            exact ⟨og, by simpa using hog, ht⟩
          · cases ht
        obtain ⟨og, hog, hdg⟩ := hdst
        have hokk := slot_ok t (fun j oj h1 h2 => by rw [← hg.once g j og oj t hog h1 hdg h2]; exact .inl hanc)
        have hnb := hgood t hokk
        have h1 := wanted_rel (a := a2) hE2 (ops := ops) (o := o) (g := some (t, bb)) (.inr ⟨g, bb, t, hgo, ht, rfl⟩)
        have h2 : yielded ops a.tmps g = yielded ops a2.tmps g := by
          have hmk : (maskA bads a.tmps).getD t undef = a.tmps.getD t undef := by rw [maskA_get, if_neg hnb]
          rw [yielded_getD hog hdg, yielded_getD hog hdg]
          simp only [a2, hmk]
        rw [ht]
        have h3 : wanted (E p) (some (t, bb)) = wanted e2 (some (t, bb)) := by
          simp only [wanted, e2]
          rw [maskE_get, if_neg hnb]
        show Region.wanted o (yielded ops a.tmps) = wanted (E p) (some (t, bb))
        rw [h3, ← h1]
        simp only [Region.wanted, hgo, h2]
    have heag : ∀ (k : Nat) (ok : Oper), k < p → ops[σ k]? = some ok → (cmpOper T ng n ops.toList ok).op.kind = 3 → k < q := fun k ok h1 h2 h3 =>
      (hDq k ok (by omega) h2 h3).1 (anc_in _ (hg.eager p k ok h1 hp h2 h3))
    -- the run of this operation at the memory that the true one stands at
    have hstep : ∃ q' ρ1 w1 cv v, q' ≤ ops.size ∧ Steps P (lone (on b a (.inRegion ops (σ p :: L) :: kk)) cs w) (lone (on b (a.put o.dst cv) (.inRegion ops L :: kk)) cs w1) ∧
        E (p + 1) = putE (E p) o.dst v ∧ VR ρ1 v cv ∧ (∀ d, o.dst = some d → d < a.tmps.size) ∧ Sim (CCof T ng dr) ρ1 (H q') w1 ∧ ρ.le ρ1 ∧ Ext ρ0 (H 0) w0 ρ1 (H q') w1 ∧
        (∀ (k : Nat) (o' : Oper), k < ops.size → ops[σ k]? = some o' → (cmpOper T ng n ops.toList o').op.kind = 3 → ((D (σ k) ∨ σ k = σ p) ↔ k < q')) ∧
        (∀ (k : Nat), k < ops.size → k ≠ p → (H k).next < (H (k + 1)).next → ρ (H k).next = none → ρ1 (H k).next = none) := by
      by_cases hk3 : (cmpOper T ng n ops.toList o).op.kind = 3
      · have hqp : q ≤ p := by
          apply Classical.byContradiction
          intro h
          exact hn0 ((hDq p o hp ho hk3).2 (by omega))
        obtain ⟨S1, X1⟩ := seq_sim hq hg S p hqp (by omega) (fun k ok h1 h2 h3 h4 => by have := heag k ok h2 h3 h4; omega)
        obtain ⟨ρ1, w1, cv, v, s1, hE1, hv1, hdst, S2, X2⟩ := operF_gen hF hT hI ho hcan S1 hG (a := a) (a2 := a2) hE2 hn hopd hwr b kk cs L
        refine ⟨p + 1, ρ1, w1, cv, v, by omega, s1, hE1, hv1, hdst, S2, X2.le, (X.trans X1).trans X2, ?_, ?_⟩
        · intro k o' h1 h2 h3
          have := hDq k o' h1 h2 h3
          constructor
          · rintro (h | h)
            · have := this.1 h; omega
            · have := hg.inj k p h1 hp h; omega
          · intro h
            by_cases hkp : k = p
            · exact .inr (by rw [hkp])
            · exact .inl (this.2 (heag k o' (by omega) h2 h3))
        · intro k h1 h2 h3 h4
          cases hr : ρ1 (H k).next with
          | none => rfl
          | some r =>
            have g1 := X2.new _ r hr h4
            have g2 := (S2.low _ r hr).1
            rcases Nat.lt_or_ge k p with h | h
            · have := hnext (k + 1) p (by omega) (by omega); omega
            · have := hnext (p + 1) k (by omega) (by omega); omega
      · have hle2 := kind_lt hk3
        -- the memory behind this place
        obtain ⟨q1, hq1m, hpq, S1, X1, hDq1⟩ : ∃ q1, q1 ≤ ops.size ∧ p < q1 ∧ Sim (CCof T ng dr) ρ (H q1) w ∧ Ext ρ0 (H 0) w0 ρ (H q1) w ∧
            (∀ (k : Nat) (o' : Oper), k < ops.size → ops[σ k]? = some o' → (cmpOper T ng n ops.toList o').op.kind = 3 → (D (σ k) ↔ k < q1)) := by
          by_cases hqp : p < q
          · exact ⟨q, hqm, hqp, S, X, hDq⟩
          · have hne : NoEff T ng n ops σ q (p + 1) := by
              intro k ok h1 h2 h3 h4
              by_cases hkp : k = p
              · subst hkp; rw [ho] at h3; cases h3; exact hk3 h4
              · have := heag k ok (by omega) h3 h4; omega
            obtain ⟨S1, X1⟩ := seq_sim hq hg S (p + 1) (by omega) (by omega) hne
            refine ⟨p + 1, by omega, by omega, S1, X.trans X1, fun k ok h1 h2 h3 => ?_⟩
            rw [hDq k ok h1 h2 h3]
            constructor
            · intro h; omega
            · intro h
              by_cases hkp : k = p
              · subst hkp; rw [ho] at h2; cases h2; exact absurd h3 hk3
              · exact heag k ok (by omega) h2 h3
        have hna : ∀ (u : Nat) (o' : Oper), p < u → u < q1 → ops[σ u]? = some o' → (cmpOper T ng n ops.toList o').op.kind = 3 → ¬ Anc ops (σ u) (σ p) :=
          fun u o' h1 h2 h3 h4 ha => anc_out _ ha ((hDq1 u o' (by omega) h3 h4).2 h2)
        have hDq' : ∀ (k : Nat) (o' : Oper), k < ops.size → ops[σ k]? = some o' → (cmpOper T ng n ops.toList o').op.kind = 3 → ((D (σ k) ∨ σ k = σ p) ↔ k < q1) := by
          intro k o' h1 h2 h3
          have := hDq1 k o' h1 h2 h3
          constructor
          · rintro (h | h)
            · exact this.1 h
            · rw [h, ho] at h2; cases h2; exact absurd h3 hk3
          · intro h; exact .inl (this.2 h)
        by_cases hk2 : (cmpOper T ng n ops.toList o).op.kind = 2
        · obtain ⟨ρ1, w1, cv, v, s1, hE1, hv1, hdst, S2, hle, hfr, hX⟩ := alloc_late hF hT hI ho hk2 hcan S1 hG (a := a) (a2 := a2) hE2 hn hopd hwr (hfree p o hp ho hk2 hn0)
            (fun _ hlt => block_same hK hq hg hstill hc0 hpq hq1m ho (.inr hk2) hna (fun h => by rw [hk2] at h; cases h) (fun _ t ht => alloc_slot hk2 hcan hlt t ht) hlt)
            (hnext (p + 1) q1 hpq hq1m) b kk cs L
          refine ⟨q1, ρ1, w1, cv, v, hq1m, s1, hE1, hv1, hdst, S2, hle, hX ρ0 (H 0) w0 (hnext 0 p (by omega) (by omega)) X1, hDq', ?_⟩
          intro k h1 h2 h3 h4
          refine hfr _ h4 fun hlt heq => ?_
          rcases Nat.lt_or_ge k p with h | h
          · have := hnext (k + 1) p (by omega) (by omega); omega
          · have := hnext (p + 1) k (by omega) (by omega); omega
        · -- no memory is made
          have hlow := operF_low (by omega) hcan
          have hrun : operF F ih (cmpOper T ng n ops.toList o) (E p) (H q1) = some (E (p + 1), H q1) := by
            have hcan' := hcan
            rw [hlow] at hcan'
            have hnc := kind_not_call (o := (cmpOper T ng n ops.toList o).op) hle2
            unfold operF at hcan' ⊢
            cases hw : wanted (E p) (cmpOper T ng n ops.toList o).guard with
            | false =>
              simp only [hw, cond_false, Option.some.injEq, Prod.mk.injEq] at hcan' ⊢
              exact ⟨hcan'.1, trivial⟩
            | true =>
              simp only [hw, cond_true] at hcan' ⊢
              split at hcan'
              · rename_i v h1 hov
                simp only [Option.some.injEq, Prod.mk.injEq] at hcan'
                obtain ⟨hc1, hc2⟩ := hcan'
                subst hc2
                have hov2 : opV (E p) (H q1) (cmpOper T ng n ops.toList o).op = some (v, H q1) := by
                  by_cases hk0 : (cmpOper T ng n ops.toList o).op.kind = 0
                  · exact (opV_pure hk0 hov).2 (H q1)
                  · have hk1 : (cmpOper T ng n ops.toList o).op.kind = 1 := by omega
                    obtain ⟨_, x, hx, hind, hpres⟩ := opV_reader hk1 hov
                    refine hind (H q1) fun bb hbb => ?_
                    obtain ⟨cs', ro, op', s, hgt⟩ := hpres bb hbb
                    have hwfi : WF (H p) := (seq_keeps hK hq hg (a := 0) p (by omega) (by omega)).wf hwf
                    have := block_same hK hq hg hstill hc0 hpq hq1m ho (.inl hk1) hna (b := bb) (fun _ t ht _ => by rw [hx] at ht; cases ht; exact hbb) (fun h => by rw [hk1] at h; cases h)
                      (by rw [hlow]; exact hwfi bb _ hgt)
                    rw [this, hlow]
                rw [hov2]
                simp only [Option.some.injEq, Prod.mk.injEq]
                exact ⟨hc1, trivial⟩
              · cases hcan'
          obtain ⟨ρ1, w1, cv, v, s1, hE1, hv1, hdst, S2, X2⟩ := operF_gen hF hT hI ho hrun S1 hG (a := a) (a2 := a2) hE2 hn hopd hwr b kk cs L
          refine ⟨q1, ρ1, w1, cv, v, hq1m, s1, hE1, hv1, hdst, S2, X2.le, X1.trans X2, hDq', ?_⟩
          intro k h1 h2 h3 h4
          cases hr : ρ1 (H k).next with
          | none => rfl
          | some r =>
            have g1 := X2.new _ r hr h4
            have g2 := (S2.low _ r hr).1
            omega
    obtain ⟨q', ρ1, w1, cv, v, hqm', s1, hE1, hv1, hdst, S1, hle1, X1, hDq', hfr'⟩ := hstep
    have hput : ∀ t, o.dst ≠ some t → (a.put o.dst cv).tmps.getD t undef = a.tmps.getD t undef := by
      intro t ht
      cases hd : o.dst with
      | none => rfl
      | some d =>
        have : d ≠ t := fun e => ht (by rw [hd, e])
        simp [Act.put, Array.getD_eq_getD_getElem?, Array.getElem?_setIfInBounds, this]
    obtain ⟨ρ2, w2, a2', s2, S2, E2, z2, d2, X2⟩ := ihl
      (by
        intro j oj hj hDj k hk
        rcases hDj with h | h
        · exact .inl (hDc j oj hj h k hk)
        · subst h; rw [ho] at hj; cases hj; exact .inl (he k hk))
      ρ1 w1 (a.put o.dst cv) q' hqm' hDq' S1 (hG.mono hle1) (by rw [put_size]; exact hn) X1
      (by
        intro pj oj t hpj hj hd hDj
        by_cases hji : pj = p
        · subst hji
          rw [ho] at hj; cases hj
          rw [hE1, hd]
          have hlt := hdst t hd
          simp only [putE, Env.get_set, if_true, Act.put]
          simp [Array.getD_eq_getD_getElem?, hlt, hv1]
        · have hDj' : D (σ pj) := hDj.resolve_right (fun h => hji (hg.inj pj p hpj hp h))
          rw [hput t (fun h => hji (hg.inj pj p hpj hp (hg.once (σ pj) (σ p) oj o t hj ho hd h)))]
          exact (hv pj oj t hpj hj hd hDj').mono hle1)
      (by
        intro t ht
        have hti : o.dst ≠ some t := fun h => ht (σ p) o ho h (.inr rfl)
        rw [hput t hti]
        exact (hv0 t (fun j oj h1 h2 h3 => ht j oj h1 h2 (.inl h3))).mono hle1)
      (by
        intro k ok h1 h2 h3 h4 h5
        have hnD : ¬ D (σ k) := fun h => h4 (.inl h)
        have hkp : k ≠ p := fun h => h4 (.inr (by rw [h]))
        exact hfr' k h1 hkp h5 (hfree k ok h1 h2 h3 hnD h5))
    exact ⟨ρ2, w2, a2', s1.trans s2, S2, E2, z2.trans (put_size _ _ _), d2.trans (put_defers _ _ _), X2⟩
end

/-- The draws of every region, checked. -/
theorem draws_ok {P : Program} {T : Tab} {ng : Nat} {F : Nat → Option AFunc} (hF : FOk P T ng (drawOf T ng) F) (hT : TabOk P T) : DrawsOk P T ng (drawOf T ng) F := by
  intro ih hK hI n ops e h e' h' hc mixed t ρ w a b k cs S hG hE hn
  have hne : drawOf T ng n ops.toList ≠ badDraw := by
    intro he
    rw [he] at hc
    simp [badDraw, drawF, operF, wanted, opV] at hc
  obtain ⟨σ, hg⟩ := drawOf_good hne
  obtain ⟨E, H, q1, q2, q3, q4, q5⟩ := drawF_seq _ _ _ _ _ _ hc
  rw [hg.len] at q3 q4
  have hq : SeqOk F ih T ng n ops σ E H := by
    intro p o hp ho
    obtain ⟨chk, hk⟩ := hg.get p o hp ho
    exact (q5 p _ chk hk).1
  have hO := schedule_ord hg.any hg.text hg.gc mixed t
  have S0 : Sim (CCof T ng (drawOf T ng)) ρ (H 0) w := by rw [q2]; exact S.clock _
  obtain ⟨ρ', w', a', s, S', E', z, d, X⟩ := draw_run hF hT hI hK hq hg (fun k ao chk hk => (q5 k ao chk hk).2) (c := h.clock) (by rw [q2]; exact Nat.lt_succ_self _) S0.wf b k cs ρ w
    (fun _ => False) _ hO (fun _ _ _ h => h.elim) ρ w a 0 (Nat.zero_le _) (fun j o' _ _ _ => ⟨fun h => h.elim, fun h => by omega⟩) S0 hG hn (.refl _ _ _)
    (fun _ _ _ _ _ _ h => h.elim) (fun t _ => by rw [q1]; exact hE t)
    (fun p o hp _ _ _ _ => by
      cases hr : ρ (H p).next with
      | none => rfl
      | some r =>
        have g1 := (S0.low _ r hr).1
        have g2 := (seq_keeps hK hq hg (a := 0) p (by omega) (by omega)).next
        omega)
  rw [q3] at E'
  rw [q4] at S' X
  refine ⟨ρ', w', a', s, S', E', z, d, ?_⟩
  rw [q2] at X
  exact (Ext.clock (ρ := ρ) (h := h) (w := w) (h.clock + 1)).trans X
end Go.AI
