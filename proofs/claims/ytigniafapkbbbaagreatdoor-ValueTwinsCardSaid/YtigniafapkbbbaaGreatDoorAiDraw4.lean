/- One operation of a region, with what it reads alone known. -/
import Derived.Test.YtigniafapkbbbaaGreatDoorAiDraw3
namespace Go.AI

theorem partsS_opds {T : Tab} : ∀ (fs : List Field) (ps : List (Nat × Operand)) (l : List (Nat × Nat × Operand)), partsS T fs ps = some l → l.map (·.2.2) = ps.map (·.2)
  | fs, [], l, h => by simp only [partsS, Option.some.injEq] at h; subst h; rfl
  | fs, (i, x) :: r, l, h => by
    simp only [partsS] at h
    split at h
    · cases h
    · split at h
      · rename_i hr
        cases h
        simp [partsS_opds fs r _ hr]
      · cases h

theorem callee_args {c : Call} {f : Operand} (h : c.callee = .value f) : c.operands.toList = f :: c.args.toList ∨ ∀ x, x ∈ f :: c.args.toList → x ∈ c.operands.toList := by
  right
  intro x hx
  simp only [Call.operands, h]
  rcases List.mem_cons.1 hx with rfl | hx
  · simp
  · simp [Array.mem_toList_iff.1 hx]

theorem cmpCall_opds {T : Tab} {c : Call} {x : Operand} (h : x ∈ (cmpCall T c).opds) : x ∈ c.operands.toList := by
  obtain ⟨cal, args, ats⟩ := c
  unfold cmpCall at h
  dsimp only at h
  have hin : ∀ y, y ∈ args.toList → y ∈ (Call.operands ⟨cal, args, ats⟩).toList := by
    intro y hy
    have := Array.mem_toList_iff.1 hy
    cases cal <;> simp [Call.operands, this]
  split at h
  · rename_i f
    simp only [AOp.opds, List.mem_cons] at h
    rcases h with rfl | h
    · simp [Call.operands]
    · exact hin x h
  all_goals
    repeat' split at h
    all_goals first
      | (simp only [AOp.opds, List.not_mem_nil] at h; done)
      | (refine hin x ?_; simp only [AOp.opds] at h; simp_all; done)

theorem cmpOp_opds {T : Tab} {op : Op} {x : Operand} (h : x ∈ (cmpOp T op).opds) : x ∈ op.operands.toList := by
  cases op with
  | call c => exact cmpCall_opds h
  | build t ps =>
    simp only [cmpOp] at h
    split at h
    · split at h
      · rename_i fs _
        generalize (fs.toList.all fun f => (T f.type).isSome) = bb at h
        cases bb <;> simp only [cond_true, cond_false] at h
        · simp [AOp.opds] at h
        · split at h
          · rename_i l hl
            simp only [AOp.opds] at h
            rw [partsS_opds _ _ _ hl] at h
            simpa [Op.operands] using h
          · simp [AOp.opds] at h
      · split at h
        · simp only [AOp.opds, List.map_map] at h
          simpa [Op.operands, Function.comp_def] using h
        · simp [AOp.opds] at h
      · simp [AOp.opds] at h
    · simp [AOp.opds] at h
  | buildSlice t n ps =>
    simp only [cmpOp] at h
    repeat' split at h
    · rename_i e _
      generalize (Nat.ble (n * e.size) 1000000 && Nat.beq e.zero.length e.size) = bb at h
      cases bb <;> simp only [cond_true, cond_false] at h
      · simp [AOp.opds] at h
      · simp only [AOp.opds, List.map_map] at h
        simpa [Op.operands, Function.comp_def] using h
    all_goals simp [AOp.opds] at h
  | slice t y lo hi mx =>
    simp only [cmpOp] at h
    repeat' split at h
    · generalize (mx.isSome && hi.isNone) = bb at h
      cases bb <;> simp only [cond_true, cond_false] at h
      · simp only [AOp.opds, List.mem_cons, List.mem_append] at h
        simp [Op.operands]
        simpa [or_assoc] using h
      · simp [AOp.opds] at h
    all_goals simp [AOp.opds] at h
  | makeFunc f first caps =>
    cases f with
    | func g =>
      simp only [cmpOp] at h
      cases hb : first.isEmpty <;> rw [hb] at h <;> simp only [cond_true, cond_false, AOp.opds] at h
      · simp at h
      · simp [Op.operands]; exact .inr (by simpa using h)
    | _ => simp [cmpOp, AOp.opds] at h
  | makeMap t r => cases r <;> simp [cmpOp, AOp.opds] at h
  | next it st => cases st <;> simp [cmpOp, AOp.opds] at h <;> simpa [Op.operands] using h
  | fieldAddr t y k =>
    simp only [cmpOp] at h
    repeat' split at h
    · rename_i fi _
      generalize Nat.beq fi.size 0 = bb at h
      cases bb <;> simp only [cond_true, cond_false] at h <;> simp [AOp.opds] at h <;> simpa [Op.operands] using h
    all_goals simp [AOp.opds] at h
  | binOp op t y z _ =>
    simp only [cmpOp] at h
    repeat' split at h
    all_goals first
      | (simp [AOp.opds] at h; done)
      | (simp only [AOp.opds] at h; simpa [Op.operands] using h)
  | _ =>
    simp only [cmpOp] at h
    repeat' split at h
    all_goals first
      | (simp [AOp.opds] at h; done)
      | (simp only [AOp.opds] at h; simpa [Op.operands] using h)

theorem cmpOp_select {T : Tab} {op : Op} {e : Env} {h : Heap} {y : Value × Heap} (hv : opV e h (cmpOp T op) = some y) : ∀ cs b, op ≠ .select cs b := by
  intro cs b hop
  subst hop
  simp [cmpOp, opV] at hv

section
variable {P : Program} {T : Tab} {ng : Nat} {dr : Draws} {F : Nat → Option AFunc} {ih : ACode → Env → Heap → R}

/-- One operation of a region, when what it reads stands right. -/
theorem operF_gen (hF : FOk P T ng dr F) (hT : TabOk P T) (hI : RunOk P T ng dr ih) {n : Nat} {ops : Array Oper} {i : Nat} {o : Oper} (ho : ops[i]? = some o) {e e' e2 : Env} {h h' : Heap}
    (hc : operF F ih (cmpOper T ng n ops.toList o) e h = some (e', h')) {ρ : Rho} {w : World} (S : Sim (CCof T ng dr) ρ h w) (hG : Globs ng ρ) {a a2 : Act} (hE : ER ρ e2 a2.tmps) (hn : n ≤ a.tmps.size)
    (hx : ∀ x ∈ o.op.operands.toList, ev e x = ev e2 x ∧ a.eval x = a2.eval x) (hwr : Region.wanted o (yielded ops a.tmps) = wanted e (guardOf ops.toList o))
    (b : Frame) (k : List Item) (cs : List Frame) (rest : List Nat) :
    ∃ ρ' w' c v, Steps P (lone (on b a (.inRegion ops (i :: rest) :: k)) cs w) (lone (on b (a.put o.dst c) (.inRegion ops rest :: k)) cs w') ∧ e' = putE e o.dst v ∧ VR ρ' v c ∧
      (∀ d, o.dst = some d → d < a.tmps.size) ∧ Sim (CCof T ng dr) ρ' h' w' ∧ Ext ρ h w ρ' h' w' := by
  unfold cmpOper at hc
  cases hcond : operOk ng n ops.toList o with
  | false =>
    simp only [hcond, cond_false] at hc
    simp [operF, wanted, opV] at hc
  | true =>
    simp only [hcond, cond_true] at hc
    simp only [operOk, Bool.and_eq_true] at hcond
    obtain ⟨⟨hd, hg⟩, hopd⟩ := hcond
    have hdst : ∀ d, o.dst = some d → d < a.tmps.size := by
      intro d hd'
      rw [hd'] at hd
      exact Nat.lt_of_lt_of_le (blt_iff.1 hd) hn
    unfold operF at hc
    dsimp only at hc
    rw [← hwr] at hc
    cases hwant : Region.wanted o (yielded ops a.tmps) with
    | false =>
      simp only [hwant, cond_false, Option.some.injEq, Prod.mk.injEq] at hc
      obtain ⟨rfl, rfl⟩ := hc
      refine ⟨ρ, w, undef, _, .one ?_, rfl, VR.undef, hdst, S, .refl ρ h w⟩
      have := s_op_skip (P := P) (b := b) (a := a) (k := k) (cs := cs) (w := w) (ops := ops) (i := i) (rest := rest) (by simp [ho, hwant])
      rw [ho] at this
      exact this
    | true =>
      simp only [hwant, cond_true] at hc
      split at hc
      · rename_i f args hop
        obtain ⟨cl, h1, h2, h3⟩ := cmpOp_call hop
        split at hc
        · rename_i v h1' hcv
          cases hc
          have hoks : opdOk ng f = true ∧ args.all (opdOk ng) = true := by
            rw [h1] at hopd
            simp only [Op.operands, Call.operands, h2] at hopd
            rw [← h3]
            simpa using hopd
          have hmem : ∀ x, x ∈ f :: args → x ∈ o.op.operands.toList := by
            intro x hx'
            rw [h1]
            simp only [Op.operands, Call.operands, h2]
            rw [← h3] at hx'
            simpa using hx'
          have hvs := vals_rel hE hG args hoks.2
          rw [← vals_congr (e := e) (e' := e2) (fun x hx' => (hx x (hmem x (List.mem_cons_of_mem _ hx'))).1)] at hvs
          have hvf := hE.eval hG hoks.1
          rw [← (hx f (hmem f (List.mem_cons_self ..))).1] at hvf
          have hca : cl.args.toList.map a.eval = args.map a2.eval := by
            rw [h3]
            exact List.map_congr_left fun x hx' => (hx x (hmem x (List.mem_cons_of_mem _ hx'))).2
          obtain ⟨ρ', w', c, q1, q2, q3, q4⟩ := callV_sound (P := P) hF hT hI hcv S hG hvf hvs ho hwant h1 h2 (hx f (hmem f (List.mem_cons_self ..))).2 hca b k cs (rest := rest)
          exact ⟨ρ', w', c, v, q1, rfl, q2, hdst, q3, q4⟩
        · cases hc
      · split at hc
        · rename_i v h1' hov
          cases hc
          have hov2 : opV e2 h (cmpOp T o.op) = some (v, h') := by
            rw [← opV_congr (e := e) (e' := e2) (cmpOp T o.op) (fun x hx' => (hx x (cmpOp_opds hx')).1)]
            exact hov
          obtain ⟨ρ', w', c, hr, hv, S', E'⟩ := op_sound (P := P) (a := a2) hT S hE hG o hopd hov2
          have hcg : execOp a.eval o = execOp a2.eval o := execOp_congr o (cmpOp_select hov) fun x hx' => (hx x (Array.mem_toList_iff.2 hx')).2
          rw [← hcg] at hr
          have hnd := defer_bad hov
          rcases hr with hr | ⟨rfl, hr⟩
          · exact ⟨ρ', w', c, v, .one (s_value ho hwant hnd hr), rfl, hv, hdst, S', E'⟩
          · exact ⟨ρ', w', undef, v, .one (s_skipv ho hwant hnd hr), rfl, hv, hdst, S', E'⟩
        · cases hc
end
end Go.AI
