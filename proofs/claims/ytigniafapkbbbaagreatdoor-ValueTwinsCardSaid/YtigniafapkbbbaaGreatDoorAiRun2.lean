/- Calls of functions and rounds. -/
import Derived.Test.YtigniafapkbbbaaGreatDoorAiRun
namespace Go.AI

section
variable {P : Program} {T : Tab} {ng : Nat} {dr : Draws} {F : Nat → Option AFunc} {ih : ACode → Env → Heap → R}

/-- blocks without deferred calls are given up -/
theorem unwind_all (B : Nat) {CC : CodeRel} {ρ₀ ρ : Rho} {h₀ h : Heap} {w₀ : World} (hB : w₀.heap.size ≤ B) : ∀ (rs : List Nat) (w : World) (fr : Frame) (cs : List Frame), fr.mode = .returning → fr.defers = rs.map mark → rs.Nodup →
    (∀ r ∈ rs, B ≤ r ∧ w.heap[r]? = some (.deferred (some [])) ∧ Free ρ h r) → Sim CC ρ h w → Ext ρ₀ h₀ w₀ ρ h w →
    ∃ w', Steps P (lone fr cs w) (lone { fr with defers := [] } cs w') ∧ Sim CC ρ h w' ∧ Ext ρ₀ h₀ w₀ ρ h w' := by
  intro rs
  induction rs with
  | nil =>
    intro w fr cs _ hd _ _ S E
    refine ⟨w, ?_, S, E⟩
    have : ({ fr with defers := [] } : Frame) = fr := by
      cases fr; simp at hd; subst hd; rfl
    rw [this]
    exact Steps.refl P _
  | cons r rs ihr =>
    intro w fr cs hm hd hn hall S E
    obtain ⟨hBr, hh, hf⟩ := hall r (by simp)
    have hlt := blk_lt hh
    have hstep := s_collected (P := P) (cs := cs) (ds := rs.map mark) hm (by rw [hd]; rfl) hh
    have hother : ∀ j, j ≠ r → (w.heap.setIfInBounds r (.deferred none))[j]? = w.heap[j]? := fun j hj => by simp [Ne.symm hj]
    have S' : Sim CC ρ h { w with heap := w.heap.setIfInBounds r (.deferred none) } := by
      refine ⟨fun b rr hb => ⟨(S.low b rr hb).1, by simpa using (S.low b rr hb).2⟩, ?_, S.inj, S.wf⟩
      intro b rr o hb ho
      exact ObjOk.mono ρ.le_refl (hother _ (hf b rr o hb ho)) (S.obj b rr o hb ho)
    have E' : Ext ρ₀ h₀ w₀ ρ h { w with heap := w.heap.setIfInBounds r (.deferred none) } := by
      refine ⟨E.le, E.next, by simpa using E.size, E.os, E.tape, E.output, ?_, E.own, E.new, E.live⟩
      intro k hk hkk
      rw [← E.keep k hk hkk]
      exact hother k (by omega)
    obtain ⟨w', hsteps, S'', E''⟩ := ihr { w with heap := w.heap.setIfInBounds r (.deferred none) } { fr with defers := rs.map mark } cs hm rfl (List.nodup_cons.1 hn).2
      (fun q hq => by
        obtain ⟨g1, g2, g3⟩ := hall q (by simp [hq])
        refine ⟨g1, ?_, g3⟩
        rw [← g2]
        exact hother q (fun e => (List.nodup_cons.1 hn).1 (e ▸ hq))) S' E'
    exact ⟨w', .head hstep hsteps, S'', E''⟩

/-- A function that is called. -/
theorem callF_sound (hF : FOk P T ng dr F) (hT : TabOk P T) (hI : RunOk P T ng dr ih) {f : Nat} {args cargs : List Value} {h h' : Heap} {v : Value} (hc : callF F ih f args h = some (v, h'))
    {ρ : Rho} {w : World} (S : Sim (CCof T ng dr) ρ h w) (hG : Globs ng ρ) (ha : All2 (VR ρ) args cargs) (cs : List Frame) :
    ∃ fn ρ' w' c fr, P.funcs[f]? = some fn ∧ fn.body.isSome = true ∧ (fn.name == "runtime.NumGoroutine") = false ∧
      Steps P (lone (Frame.enter P f ⟨cargs⟩ .normal) cs w) (lone fr cs w') ∧ fr.fn = f ∧ fr.leaving P w' (.returned c) ∧ VR ρ' v c ∧ Sim (CCof T ng dr) ρ' h' w' ∧ Ext ρ h w ρ' h' w' := by
  unfold callF callG at hc
  split at hc
  · cases hc
  · rename_i af haf
    have hFf := hF f af haf
    split at hc
    · cases hc
    · rename_i p hp heq
      rw [heq] at hFf
      exact hFf args h v h' hc cargs ρ w S hG ha cs
    rename_i heq
    rw [heq] at hFf
    obtain ⟨fn, c, hfn, hbody, hname, hres, hcode⟩ := hFf
    let b : Frame := { (default : Frame) with fn := f, kind := .normal }
    let a : Act := { tmps := (⟨cargs⟩ : Array Value) ++ Array.replicate (fn.ntmps - cargs.length) undef, defers := [] }
    have henter : Frame.enter P f ⟨cargs⟩ .normal = on b a [.code c] := by
      simp [Frame.enter, on, hfn, hbody, b, a]
      rfl
    have hER : ER ρ (params .nil 0 args) a.tmps := params_er ha _
    have hsz : fn.ntmps ≤ a.tmps.size := by simp [a]; omega
    have hd0 : DefOk w.heap.size ρ h w a.defers := ⟨[], rfl, List.nodup_nil, fun r hr => by simp at hr⟩
    rw [hcode] at hc
    -- the way out, alike for both ends
    have out : ∀ (e' : Env) (h1 : Heap) (ρ' : Rho) (w' : World) (a' : Act), (∃ k, Steps P (lone (on b a [.code c]) cs w) (lone { on b a' k with mode := .returning } cs w')) →
        After (CCof T ng dr) w.heap.size ρ h w a ρ' e' h1 w' a' →
        (match results e' h1 af.res with | some vs => bif resultOk vs then some (result vs, h1) else none | none => none) = some (v, h') →
        ∃ fn ρ' w' c fr, P.funcs[f]? = some fn ∧ fn.body.isSome = true ∧ (fn.name == "runtime.NumGoroutine") = false ∧
          Steps P (lone (Frame.enter P f ⟨cargs⟩ .normal) cs w) (lone fr cs w') ∧ fr.fn = f ∧ fr.leaving P w' (.returned c) ∧ VR ρ' v c ∧ Sim (CCof T ng dr) ρ' h' w' ∧ Ext ρ h w ρ' h' w' := by
      intro e' h1 ρ' w' a' ⟨k, hsteps⟩ hA hr
      split at hr
      · rename_i vs hvs
        cases hok : resultOk vs with
        | false => simp [hok] at hr
        | true =>
          simp only [hok, cond_true, Option.some.injEq, Prod.mk.injEq] at hr
          obtain ⟨rfl, rfl⟩ := hr
          obtain ⟨rs, hds, hnd, hall⟩ := hA.defs
          obtain ⟨w2, hst2, S2, E2⟩ := unwind_all (P := P) w.heap.size (Nat.le_refl _) rs w' { on b a' k with mode := .returning } cs rfl hds hnd hall hA.sim hA.ext
          obtain ⟨cc, hrun, hvr⟩ := results_run (P := P) hT S2 hA.er hres hvs hok
          refine ⟨fn, ρ', w2, cc, _, hfn, by rw [hbody]; rfl, hname, by rw [henter]; exact hsteps.trans hst2, rfl, ⟨rfl, rfl, rfl, fn, hfn, hrun⟩, hvr, S2, E2⟩
      · cases hr
    split at hc
    · rename_i e' h1 hrun
      obtain ⟨ρ', w', a', hgo, hA⟩ := hI fn.ntmps c _ h _ e' h1 hrun w.heap.size ρ w a b [] cs S hG hER hsz (Nat.le_refl _) hd0 (.inl rfl)
      exact out e' h1 ρ' w' a' ⟨[], Steps.trans hgo (.one (s_end rfl))⟩ hA hc
    · rename_i e' h1 hrun
      obtain ⟨ρ', w', a', hgo, hA⟩ := hI fn.ntmps c _ h _ e' h1 hrun w.heap.size ρ w a b [] cs S hG hER hsz (Nat.le_refl _) hd0 (.inl rfl)
      obtain ⟨k', hst⟩ := hgo
      exact out e' h1 ρ' w' a' ⟨_, hst.trans (.one (s_ret rfl))⟩ hA hc
    · cases hc

/-- the record of a loop turns -/
theorem setLoop_sim {CC : CodeRel} {ρ : Rho} {h : Heap} {w : World} (S : Sim CC ρ h w) {l : Nat} {r : Img} {env env' : Env} {ps ps' : List Nat} {asg asg' body body' : ACode} {st st' : LSt} (hl : ρ l = some r)
    (hg : h.tr.get l = some (.loop env' ps' asg' body' st')) {L : Loop} (hh : w.heap[r.blk]? = some (.loop L)) (L' : Loop) (hok : LoopOk CC ρ r env ps asg body st { w with heap := w.heap.setIfInBounds r.blk (.loop L') }) :
    Sim CC ρ (setLoop h l env ps asg body st) { w with heap := w.heap.setIfInBounds r.blk (.loop L') } ∧ Ext ρ h w ρ (setLoop h l env ps asg body st) { w with heap := w.heap.setIfInBounds r.blk (.loop L') } :=
  Sim.upd (o' := .loop env ps asg body st) S hl hg rfl (At1.obj r.blk (.loop L')) hok h.clock

theorem heap_set (w : World) {k : Nat} {o o' : Obj} (h : w.heap[k]? = some o) : (w.heap.setIfInBounds k o')[k]? = some o' := by
  have := blk_lt h
  simp [this]

/-- A round of a loop over a function. -/
theorem roundF_sound (hI : RunOk P T ng dr ih) {l : Nat} {args cargs : List Value} {h h' : Heap} {v : Value} (hc : roundF ih l args h = some (v, h'))
    {ρ : Rho} {w : World} (S : Sim (CCof T ng dr) ρ h w) (hG : Globs ng ρ) (ha : All2 (VR ρ) args cargs) {r : Img} (hl : ρ l = some r) (c : Frame) (cs : List Frame) :
    ∃ L ρ' w' cv, w.heap[r.blk]? = some (.loop L) ∧ cargs.length = L.params.size ∧
      Steps P (lone (Frame.round r.blk L.fn ((L.params.toList.zip cargs).foldl (fun (tmps : Array Value) (x : Nat × Value) => tmps.setIfInBounds x.1 x.2) L.tmps) L.assign L.body .normal) (c :: cs) w) (lone (c.finish cv) cs w') ∧
      VR ρ' v cv ∧ Sim (CCof T ng dr) ρ' h' w' ∧ Ext ρ h w ρ' h' w' := by
  unfold roundF at hc
  split at hc
  · rename_i env ps asg body hget
    obtain ⟨L, hh, hER, hps, ⟨n1, hn1, hca, hna⟩, ⟨n2, hn2, hcb, hnb⟩, hlt, hst⟩ := S.obj l r _ hl hget
    split at hc
    · cases hc
    · rename_i e0 hset
      obtain ⟨hE0, hsz0, hlen⟩ := setParams_er ps args cargs env e0 L.tmps ha hset hER hlt
      rw [← hps] at hE0 hsz0
      have hcl : cargs.length = L.params.size := by
        have h1 := ha.length
        rw [← hps] at hlen
        simp at hlen; omega
      let b : Frame := { (default : Frame) with fn := L.fn, kind := .normal, roundOf := some r.blk }
      let a : Act := { tmps := (L.params.toList.zip cargs).foldl (fun (tmps : Array Value) (x : Nat × Value) => tmps.setIfInBounds x.1 x.2) L.tmps, defers := [] }
      have hround : Frame.round r.blk L.fn a.tmps L.assign L.body .normal = on b a [.code L.assign, .beginRound, .code L.body] := rfl
      refine ⟨L, ?_⟩
      have hasz : a.tmps.size = L.tmps.size := hsz0
      split at hc
      · rename_i e1 h1 hrun1
        rw [hca] at hrun1
        obtain ⟨ρ1, w1, a1, hgo1, hA1⟩ := hI n1 L.assign e0 h _ e1 h1 hrun1 w.heap.size ρ w a b [.beginRound, .code L.body] (c :: cs) S hG hE0 (by omega) (Nat.le_refl _)
          ⟨[], rfl, List.nodup_nil, fun r hr => by simp at hr⟩ (.inr hna)
        have hl1 := hA1.ext.le l r hl
        unfold roundB at hc
        split at hc
        · rename_i env1 ps1 asg1 body1 hget1
          have hl1ok := hA1.sim.obj l r _ hl1 hget1
          obtain ⟨L1, hh1, hER1, hp1, hc1, hc2, hlt1, hst1, hpend1⟩ := hl1ok
          have hbeg := s_beginRound (P := P) (b := b) (a := a1) (k := [.code L.body]) (cs := c :: cs) (w := w1) rfl hh1 hst1
          obtain ⟨S2, E2⟩ := setLoop_sim (st := .busy) hA1.sim hl1 hget1 hh1 { L1 with state := .busy } ⟨{ L1 with state := .busy }, heap_set w1 hh1, hER1, hp1, hc1, hc2, hlt1, rfl⟩
          have E02 := hA1.ext.trans E2
          have hd2 := hA1.defs.ext E2
          have tail : ∀ (x : AExit) (e3 : Env) (h3 : Heap) (st : LSt) (bv : Bool) (pend : Option Code) (lst : LoopState), JumpIs st { L1 with state := lst, pending := pend } →
              (∀ L3 : Loop, JumpIs st { L3 with state := lst, pending := pend }) →
              ih (cmpCode T ng n2 dr L.body) e1 (setLoop h1 l env1 ps1 asg1 body1 .busy) = some (x, e3, h3) → roundE l h3 st bv = some (v, h') →
              (∀ a3 w3 L3, w3.heap[r.blk]? = some (.loop L3) → Goes P b [] (c :: cs) (lone (on b a1 [.code L.body]) (c :: cs) { w1 with heap := w1.heap.setIfInBounds r.blk (.loop { L1 with state := .busy }) }) x a3 w3 →
                Steps P (lone (on b a1 [.code L.body]) (c :: cs) { w1 with heap := w1.heap.setIfInBounds r.blk (.loop { L1 with state := .busy }) })
                  (lone (c.finish (.bool bv)) cs { w3 with heap := w3.heap.setIfInBounds r.blk (.loop { L3 with state := lst, pending := pend }) })) →
              ∃ ρ' w' cv, w.heap[r.blk]? = some (.loop L) ∧ cargs.length = L.params.size ∧
                Steps P (lone (Frame.round r.blk L.fn ((L.params.toList.zip cargs).foldl (fun (tmps : Array Value) (x : Nat × Value) => tmps.setIfInBounds x.1 x.2) L.tmps) L.assign L.body .normal) (c :: cs) w) (lone (c.finish cv) cs w') ∧
                VR ρ' v cv ∧ Sim (CCof T ng dr) ρ' h' w' ∧ Ext ρ h w ρ' h' w' := by
            intro x e3 h3 st bv pend lst _ hj hrun3 hend hlast
            obtain ⟨ρ3, w3, a3, hgo3, hA3⟩ := hI n2 L.body e1 _ x e3 h3 hrun3 w.heap.size ρ1 _ a1 b [] (c :: cs) S2 (hG.mono hA1.ext.le) hA1.er (by rw [hA1.size]; omega) (by simpa using hA1.ext.size) hd2 (.inr hnb)
            have hl3 := hA3.ext.le l r hl1
            unfold roundE at hend
            split at hend
            · rename_i env3 ps3 asg3 body3 hget3
              cases hend
              obtain ⟨L3, hh3, hER3, hp3, hc3, hc4, hlt3, hst3⟩ := hA3.sim.obj l r _ hl3 hget3
              obtain ⟨S4, E4⟩ := setLoop_sim (st := st) hA3.sim hl3 hget3 hh3 { L3 with state := lst, pending := pend } ⟨{ L3 with state := lst, pending := pend }, heap_set w3 hh3, hER3, hp3, hc3, hc4, hlt3, hj L3⟩
              refine ⟨ρ3, _, .bool bv, hh, hcl, ?_, VR.bool bv, S4, (E02.trans hA3.ext).trans E4⟩
              rw [hround]
              exact (Steps.trans hgo1 (.head hbeg (hlast a3 w3 L3 hh3 hgo3)))
            · cases hend
          rw [hcb] at hc
          split at hc
          · rename_i e3 h3 hrun3
            refine tail .normal e3 h3 .ready true none .ready ⟨rfl, rfl⟩ (fun _ => ⟨rfl, rfl⟩) hrun3 hc ?_
            intro a3 w3 L3 hh3 hgo
            exact Steps.trans hgo (.one (s_round_end rfl rfl hh3))
          · rename_i e3 h3 hrun3
            refine tail .ret e3 h3 (.done none) false (some .ret) .done ⟨rfl, rfl⟩ (fun _ => ⟨rfl, rfl⟩) hrun3 hc ?_
            intro a3 w3 L3 hh3 ⟨k', hgo⟩
            exact Steps.trans hgo (.one (s_round_ret rfl rfl hh3))
          · rename_i id e3 h3 hrun3
            refine tail (.exit id) e3 h3 (.done (some id)) false (some (.exit id)) .done ⟨rfl, rfl⟩ (fun _ => ⟨rfl, rfl⟩) hrun3 hc ?_
            intro a3 w3 L3 hh3 ⟨k', hgo, hex⟩
            exact Steps.trans hgo (.one (s_round_exit rfl rfl hh3 hex))
          · cases hc
        · cases hc
      · cases hc
  · cases hc
end
end Go.AI
