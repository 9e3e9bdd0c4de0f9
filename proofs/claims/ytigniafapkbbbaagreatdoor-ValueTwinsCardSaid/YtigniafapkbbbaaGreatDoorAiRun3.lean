/- Regions in the text's order; every piece of code. -/
import Derived.Test.YtigniafapkbbbaaGreatDoorAiRun2
namespace Go.AI

theorem cmpCall_call {T : Tab} {c : Call} {f : Operand} {args : List Operand} (h : cmpCall T c = .call f args) : c.callee = .value f ∧ c.args.toList = args := by
  obtain ⟨cal, cargs, ats⟩ := c
  unfold cmpCall at h
  split at h
  · rename_i g hg
    injection h with h1 h2
    subst h1; subst h2
    exact ⟨hg, rfl⟩
  all_goals (repeat' (first | (cases h; done) | split at h))

theorem cmpOp_call {T : Tab} {op : Op} {f : Operand} {args : List Operand} (h : cmpOp T op = .call f args) : ∃ c, op = .call c ∧ c.callee = .value f ∧ c.args.toList = args := by
  cases op with
  | call c => exact ⟨c, rfl, cmpCall_call h⟩
  | build t ps =>
    simp only [cmpOp] at h
    split at h
    · split at h
      · rename_i fs _
        generalize (fs.toList.all fun f => (T f.type).isSome) = bb at h
        cases bb <;> simp only [cond_true, cond_false] at h <;> repeat' (first | (cases h; done) | split at h)
      · repeat' (first | (cases h; done) | split at h)
      · cases h
    · cases h
  | buildSlice t n ps =>
    simp only [cmpOp] at h
    repeat' (first | (cases h; done) | split at h)
    rename_i e _
    cases hb : (n * e.size).ble 1000000 && e.zero.length.beq e.size <;> simp only [hb, cond_true, cond_false] at h <;> cases h
  | slice t x lo hi mx =>
    simp only [cmpOp] at h
    repeat' (first | (cases h; done) | split at h)
    cases hb : mx.isSome && hi.isNone <;> simp only [hb, cond_true, cond_false] at h <;> cases h
  | fieldAddr t x k =>
    simp only [cmpOp] at h
    repeat' (first | (cases h; done) | split at h)
    rename_i fi _
    cases hb : fi.size.beq 0 <;> simp only [hb, cond_true, cond_false] at h <;> cases h
  | makeFunc fn first caps =>
    cases fn with
    | func g =>
      simp only [cmpOp] at h
      cases hb : first.isEmpty <;> simp only [hb, cond_true, cond_false] at h <;> cases h
    | _ => simp only [cmpOp] at h; cases h
  | makeMap t r => cases r <;> (simp only [cmpOp] at h; cases h)
  | next it st => cases st <;> (simp only [cmpOp] at h; cases h)
  | _ =>
    simp only [cmpOp] at h
    repeat' (first | (cases h; done) | split at h)

theorem defer_bad {T : Tab} {op : Op} {e : Env} {h : Heap} {x : Value × Heap} (hv : opV e h (cmpOp T op) = some x) : Op.isDefer op = false := by
  cases op with
  | defer c => simp [cmpOp, opV] at hv
  | _ => rfl

section
variable {P : Program} {T : Tab} {ng : Nat} {dr : Draws} {F : Nat → Option AFunc} {ih : ACode → Env → Heap → R}

theorem frozen_no {w : World} {b : Nat} {ccs : Array Value} {el : TypeId} (h : w.heap[b]? = some (.cells ccs el (0, 0))) (o : Nat) : w.frozen? ⟨b, o, none⟩ = false := by
  simp [World.frozen?, h]

/-- slices.overlaps of two slices in blocks that can be written -/
theorem ovl_run (hT : TabOk P T) {f : Nat} (hO : OvlOk P T f) {CC : CodeRel} {ρ : Rho} {h : Heap} {w : World} (S : Sim CC ρ h w) {args cargs : List Value} (ha : All2 (VR ρ) args cargs)
    (hov : ∃ a oa la ca b ob lb cb csa o1 s1 csb o2 s2, args = [.slice (some ⟨a, oa, none⟩) la ca, .slice (some ⟨b, ob, none⟩) lb cb] ∧ h.tr.get a = some (.blk csa false o1 s1) ∧ h.tr.get b = some (.blk csb false o2 s2) ∧ (la = 0 ∨ lb = 0 ∨ a ≠ b)) :
    (callFunc f ⟨cargs⟩).run P w = .ok (.value (.bool false)) w := by
  obtain ⟨fn, t, el, i, ei, h1, h2, h3, h4, h5, h6, h7, h8, h9⟩ := hO
  obtain ⟨a, oa, la, ca, b, ob, lb, cb, csa, o1, s1, csb, o2, s2, rfl, ga, gb, hne⟩ := hov
  match cargs, ha with
  | [x, y], .cons hx (.cons hy .nil) =>
  obtain ⟨ra, xa, xc, hra, rfl, hsa⟩ := hx.slice_inv
  obtain ⟨rb, ya, yc, hrb, rfl, hsb⟩ := hy.slice_inv
  have hut := (hT t i h7).u
  rw [h8] at hut
  obtain ⟨ti, k1, k2, k3, z, k4, k5⟩ := (hT el ei h9).info
  obtain ⟨cca, ela, fra, p1, _, _, _, p5, _⟩ := S.obj a ra _ hra ga
  obtain ⟨ccb, elb, frb, q1, _, _, _, q5, _⟩ := S.obj b rb _ hrb gb
  have p5 := p5 rfl
  have q5 := q5 rfl
  subst p5; subst q5
  have hn3 : ¬ (fn.name = "runtime.NumGoroutine") := by simpa using h3
  have hb : fn.body = none := by simpa using h2
  have hov : (Extern.SlicesOverlaps.overlaps fn.params fn.resultTypes #[.slice (some xa) la xc, .slice (some ya) lb yc]).run P w = .ok (.bool false) w := by
    change Sem.run P (α := Value) (do
      let some t := fn.params[0]? | stuck "slices.overlaps: no parameter types"
      let .slice elem ← underlying t | stuck "slices.overlaps: slice type expected"
      let size ← sizeOf elem
      match (some xa : Option Addr), (some ya : Option Addr) with
      | some a, some b =>
        if la = 0 ∨ lb = 0 ∨ size = 0 then pure (Value.bool false)
        else if a.block != b.block && (← frozen a) && (← frozen b) then unsupported .addressObserved
        else do
          if a.block != b.block then do
            noView a; noView b
            if ← mayBeOne a b then return Value.bool ((← choose (.extern "sameAddr.stringBytes" 2)) == 1)
          pure (Value.bool (a.block == b.block && a.off < b.off + lb * size && b.off < a.off + la * size))
      | _, _ => pure (Value.bool false)) w = _
    by_cases h0 : la = 0 ∨ lb = 0 ∨ ei.size = 0
    · simp [h6, run_underlying hut, sizeOf, typeInfo, k1, k2, h0]
    · have hab : a ≠ b := by
        rcases hne with h | h | h
        · exact absurd (.inl h) h0
        · exact absurd (.inr (.inl h)) h0
        · exact h
      have hca : 0 < xc := by
        have := hsa.2.2; have := hsa.cap_le
        omega
      have hcb : 0 < yc := by
        have := hsb.2.2; have := hsb.cap_le
        omega
      have hblk : ra.blk ≠ rb.blk := S.inj a b ra rb _ hra hrb ⟨_, ga, rfl⟩ gb hab
      have exa := hsa.addr hca
      have eyb := hsb.addr hcb
      subst exa; subst eyb
      have hnb : (ra.blk != rb.blk) = true := by simpa using hblk
      have hnb' : (ra.blk == rb.blk) = false := by simpa using hblk
      have sa : w.shape? ra.blk = some (ela, cca.size) := by simp [World.shape?, p1]
      have sb : w.shape? rb.blk = some (elb, ccb.size) := by simp [World.shape?, q1]
      have fa : ∀ o, w.frozen? ⟨ra.blk, o, none⟩ = false := frozen_no p1
      have fb : ∀ o, w.frozen? ⟨rb.blk, o, none⟩ = false := frozen_no q1
      simp [h6, run_underlying hut, sizeOf, typeInfo, k1, k2, h0, hnb, hnb', frozen, noView, viewAt, mayBeOne, stringish, shape, Sem.run, sa, sb, fa, fb]
  simp [callFunc, h1, hn3, hb, Go.mark, h4, h5, hov, Sem.run]

/-- A call of a function's value, in a region. -/
theorem callV_sound (hF : FOk P T ng dr F) (hT : TabOk P T) (hI : RunOk P T ng dr ih) {fv cfv : Value} {args cargs : List Value} {h h' : Heap} {v : Value} (hc : callV F ih fv args h = some (v, h'))
    {ρ : Rho} {w : World} (S : Sim (CCof T ng dr) ρ h w) (hG : Globs ng ρ) (hf : VR ρ fv cfv) (ha : All2 (VR ρ) args cargs) {a : Act} {ops : Array Oper} {i : Nat} {rest : List Nat} {o : Oper}
    (ho : ops[i]? = some o) (hw : Region.wanted o (yielded ops a.tmps) = true) {cl : Call} {f : Operand} (hop : o.op = .call cl) (hcal : cl.callee = .value f) (hcf : a.eval f = cfv) (hca : cl.args.toList.map a.eval = cargs)
    (b : Frame) (k : List Item) (cs : List Frame) :
    ∃ ρ' w' c, Steps P (lone (on b a (.inRegion ops (i :: rest) :: k)) cs w) (lone (on b (a.put o.dst c) (.inRegion ops rest :: k)) cs w') ∧ VR ρ' v c ∧ Sim (CCof T ng dr) ρ' h' w' ∧ Ext ρ h w ρ' h' w' := by
  obtain ⟨cal, args0, ats⟩ := cl
  dsimp only at hcal hca
  subst hcal
  have hnd : Op.isDefer o.op = false := by rw [hop]; rfl
  have hfin : ∀ c, (on b a (.inRegion ops (i :: rest) :: k)).finish c = on b (a.put o.dst c) (.inRegion ops rest :: k) := by
    intro c
    rw [finish_on, ho]; rfl
  have hmap : args0.map a.eval = ⟨cargs⟩ := by
    apply Array.ext'; simp [← hca]
  unfold callV at hc
  split at hc
  · rename_i g first caps
    cases hf with
    | val hf => cases hf with
      | cell hf => cases hf with
        | cell hf => cases hf
        | @fn _ l m hlm =>
          have hargs : All2 (VR ρ) ([] ++ args ++ l) (cargs ++ m) := ha.app (hlm.mono fun _ _ h => h.vr)
          rcases callG_true hc with hc | ⟨af, haf, hprim, hc⟩
          rotate_left 1
          · -- slices.overlaps
            have hFf := hF g af haf
            rw [hprim] at hFf
            obtain ⟨rfl, rfl, hov⟩ := ovlV_same hc
            have hcall := ovl_run (P := P) hT hFf S hargs hov
            have hrun : (execOp a.eval o).run P w = .ok (.value (.bool false)) w := by
              simp only [execOp, hop, resolve, Deferred.ofValue, invoke, hcf, Sem.run_bind, Sem.run_pure, Result.andThen_ok, hmap]
              have : (#[] : Array Value) ++ (⟨cargs⟩ : Array Value) ++ (⟨m⟩ : Array Value) = ⟨cargs ++ m⟩ := by apply Array.ext'; simp
              rw [this]
              exact hcall
            exact ⟨ρ, w, .bool false, .one (s_value ho hw hnd hrun), VR.bool _, S, .refl ρ _ w⟩
          obtain ⟨fn, ρ', w', c, fr, h1, h2, h3, h4, h5, h6, h7, h8, h9⟩ := callF_sound hF hT hI hc S hG hargs (on b a (.inRegion ops (i :: rest) :: k) :: cs)
          have hrun : (execOp a.eval o).run P w = .ok (.enter g ⟨cargs ++ m⟩) w := by
            have := call_run (P := P) (w := w) (args := args0) (ats := ats) (ty := o.type) hcf h1 h2 h3
            rw [hmap] at this
            simp only [execOp, hop]
            rw [this]
            congr 2
            apply Array.ext'; simp
          refine ⟨ρ', w', c, .head (s_enter ho hw hnd hrun) (h4.trans (.one ?_)), h7, h8, h9⟩
          rw [step_leave_returned h6, hfin]
  · rename_i l _ _
    cases hf with
    | val hf => cases hf with
      | cell hf => cases hf with
        | cell hf => cases hf
        | @yield _ r hl =>
          obtain ⟨L, ρ', w', cv, h1, h2, h3, h4, h5, h6⟩ := roundF_sound (P := P) hI hc S hG ha hl (on b a (.inRegion ops (i :: rest) :: k)) cs
          have hsz : args0.size = L.params.size := by
            rw [← h2, ← hca]; simp
          have hrun : (execOp a.eval o).run P w = .ok (.round r.blk L.fn ((L.params.toList.zip cargs).foldl (fun (tmps : Array Value) (x : Nat × Value) => tmps.setIfInBounds x.1 x.2) L.tmps) L.assign L.body) w := by
            have := yield_run (P := P) (w := w) (args := args0) (ats := ats) (ty := o.type) hcf h1 hsz
            rw [hmap] at this
            simp only [execOp, hop]
            rw [this]
            congr 2
            rw [← Array.foldl_toList]
            simp
          refine ⟨ρ', w', cv, .head (s_round ho hw hnd hrun) ?_, h4, h5, h6⟩
          rw [hfin] at h3
          exact h3
  · cases hc

/-- One operation of a region. -/
theorem operF_sound (hF : FOk P T ng dr F) (hT : TabOk P T) (hI : RunOk P T ng dr ih) {n : Nat} {ops : Array Oper} {i : Nat} {o : Oper} (ho : ops[i]? = some o) {e e' : Env} {h h' : Heap}
    (hc : operF F ih (cmpOper T ng n ops.toList o) e h = some (e', h')) {ρ : Rho} {w : World} (S : Sim (CCof T ng dr) ρ h w) (hG : Globs ng ρ) {a : Act} (hE : ER ρ e a.tmps) (hn : n ≤ a.tmps.size)
    (b : Frame) (k : List Item) (cs : List Frame) (rest : List Nat) :
    ∃ ρ' w' a', Steps P (lone (on b a (.inRegion ops (i :: rest) :: k)) cs w) (lone (on b a' (.inRegion ops rest :: k)) cs w') ∧
      Sim (CCof T ng dr) ρ' h' w' ∧ ER ρ' e' a'.tmps ∧ a'.tmps.size = a.tmps.size ∧ a'.defers = a.defers ∧ Ext ρ h w ρ' h' w' := by
  unfold cmpOper at hc
  cases hcond : operOk ng n ops.toList o with
  | false =>
    simp only [hcond, cond_false] at hc
    simp [operF, wanted, opV] at hc
  | true =>
    simp only [hcond, cond_true] at hc
    simp only [operOk, Bool.and_eq_true] at hcond
    obtain ⟨⟨hd, hg⟩, hopd⟩ := hcond
    have hdst : ∀ d, o.dst = some d → d < a.tmps.size := by
      intro d hd'
      rw [hd'] at hd
      exact Nat.lt_of_lt_of_le (blt_iff.1 hd) hn
    have hwr : Region.wanted o (yielded ops a.tmps) = wanted e (guardOf ops.toList o) := by
      unfold guardOf
      refine wanted_rel hE ?_
      cases hgo : o.guard with
      | none => exact .inl ⟨rfl, rfl⟩
      | some x =>
        obtain ⟨j, bb⟩ := x
        rw [hgo] at hg
        obtain ⟨t, ht⟩ := Option.isSome_iff_exists.1 hg
        exact .inr ⟨j, bb, t, rfl, ht, by dsimp only; rw [ht]; rfl⟩
    have put_out : ∀ {ρ' : Rho} {w' : World} {v c : Value} {hh : Heap}, VR ρ' v c → Ext ρ h w ρ' hh w' → ER ρ' (putE e o.dst v) (a.put o.dst c).tmps := by
      intro ρ' w' v c hh hv E
      exact ER.put (hE.mono E.le) hdst hv
    unfold operF at hc
    dsimp only at hc
    rw [← hwr] at hc
    cases hwant : Region.wanted o (yielded ops a.tmps) with
    | false =>
      simp only [hwant, cond_false, Option.some.injEq, Prod.mk.injEq] at hc
      obtain ⟨rfl, rfl⟩ := hc
      refine ⟨ρ, w, a.put o.dst undef, .one ?_, S, put_out VR.undef (.refl ρ h w), put_size _ _ _, put_defers _ _ _, .refl ρ h w⟩
      have := s_op_skip (P := P) (b := b) (a := a) (k := k) (cs := cs) (w := w) (ops := ops) (i := i) (rest := rest) (by simp [ho, hwant])
      rw [ho] at this
      exact this
    | true =>
      simp only [hwant, cond_true] at hc
      split at hc
      · rename_i f args hop
        obtain ⟨cl, h1, h2, h3⟩ := cmpOp_call hop
        split at hc
        · rename_i v h1' hcv
          cases hc
          have hoks : opdOk ng f = true ∧ args.all (opdOk ng) = true := by
            rw [h1] at hopd
            simp only [Op.operands, Call.operands, h2] at hopd
            rw [← h3]
            simpa using hopd
          obtain ⟨ρ', w', c, q1, q2, q3, q4⟩ := callV_sound (P := P) hF hT hI hcv S hG (hE.eval hG hoks.1) (vals_rel hE hG args hoks.2) ho hwant h1 h2 rfl (by rw [h3]) b k cs (rest := rest)
          exact ⟨ρ', w', a.put o.dst c, q1, q3, put_out q2 q4, put_size _ _ _, put_defers _ _ _, q4⟩
        · cases hc
      · split at hc
        · rename_i v h1' hov
          cases hc
          obtain ⟨ρ', w', c, hr, hv, S', E'⟩ := op_sound (P := P) (a := a) hT S hE hG o hopd hov
          have hnd := defer_bad hov
          rcases hr with hr | ⟨rfl, hr⟩
          · exact ⟨ρ', w', a.put o.dst c, .one (s_value ho hwant hnd hr), S', put_out hv E', put_size _ _ _, put_defers _ _ _, E'⟩
          · exact ⟨ρ', w', a.put o.dst undef, .one (s_skipv ho hwant hnd hr), S', put_out hv E', put_size _ _ _, put_defers _ _ _, E'⟩
        · cases hc

/-- The operations of a region, one behind the other. -/
theorem opsF_sound (hF : FOk P T ng dr F) (hT : TabOk P T) (hI : RunOk P T ng dr ih) {n : Nat} {ops : Array Oper} (b : Frame) (k : List Item) (cs : List Frame) :
    ∀ (m i : Nat), i + m = ops.size → ∀ (e e' : Env) (h h' : Heap), opsF F ih ((ops.toList.drop i).map (cmpOper T ng n ops.toList)) e h = some (e', h') →
    ∀ (ρ : Rho) (w : World) (a : Act), Sim (CCof T ng dr) ρ h w → Globs ng ρ → ER ρ e a.tmps → n ≤ a.tmps.size →
    ∃ ρ' w' a', Steps P (lone (on b a (.inRegion ops ((List.range' i m)) :: k)) cs w) (lone (on b a' (.inRegion ops [] :: k)) cs w') ∧
      Sim (CCof T ng dr) ρ' h' w' ∧ ER ρ' e' a'.tmps ∧ a'.tmps.size = a.tmps.size ∧ a'.defers = a.defers ∧ Ext ρ h w ρ' h' w' := by
  intro m
  induction m with
  | zero =>
    intro i hi e e' h h' hc ρ w a S hG hE hn
    rw [List.drop_eq_nil_of_le (by simp; omega)] at hc
    simp only [List.map_nil, opsF, Option.some.injEq, Prod.mk.injEq] at hc
    obtain ⟨rfl, rfl⟩ := hc
    exact ⟨ρ, w, a, Steps.refl P _, S, hE, rfl, rfl, .refl ρ h w⟩
  | succ m ihm =>
    intro i hi e e' h h' hc ρ w a S hG hE hn
    have hlt : i < ops.toList.length := by simp; omega
    rw [List.drop_eq_getElem_cons hlt] at hc
    simp only [List.map_cons, opsF] at hc
    have ho : ops[i]? = some ops.toList[i] := by
      rw [← Array.getElem?_toList, List.getElem?_eq_getElem hlt]
    split at hc
    · rename_i e1 h1 hop
      obtain ⟨ρ1, w1, a1, s1, S1, E1, z1, d1, X1⟩ := operF_sound (P := P) hF hT hI ho hop S hG hE hn b k cs (List.range' (i + 1) m)
      obtain ⟨ρ2, w2, a2, s2, S2, E2, z2, d2, X2⟩ := ihm (i + 1) (by omega) e1 e' h1 h' hc ρ1 w1 a1 S1 (hG.mono X1.le) E1 (by omega)
      refine ⟨ρ2, w2, a2, ?_, S2, E2, z2.trans z1, d2.trans d1, X1.trans X2⟩
      rw [List.range'_succ]
      exact s1.trans s2
    · cases hc
end
end Go.AI
