/- Every piece of code, the order that a region draws given. -/
import Derived.Test.YtigniafapkbbbaaGreatDoorAiRun3
import Derived.Test.YtigniafapkbbbaaGreatDoorAiDraw1
namespace Go.AI

/-- What is asked of the regions that draw their order. -/
def DrawsOk (P : Program) (T : Tab) (ng : Nat) (dr : Draws) (F : Nat → Option AFunc) : Prop :=
  ∀ (ih : ACode → Env → Heap → R), KeepsAll ih → RunOk P T ng dr ih → ∀ (n : Nat) (ops : Array Oper) (e : Env) (h : Heap) (e' : Env) (h' : Heap),
    drawF F ih h.clock (dr n ops.toList) e { h with clock := h.clock + 1 } = some (e', h') →
    ∀ (mixed : Bool) (t : Nat) (ρ : Rho) (w : World) (a : Act) (b : Frame) (k : List Item) (cs : List Frame), Sim (CCof T ng dr) ρ h w → Globs ng ρ → ER ρ e a.tmps → n ≤ a.tmps.size →
    ∃ ρ' w' a', Steps P (lone (on b a (.inRegion ops (Region.schedule mixed ops t) :: k)) cs w) (lone (on b a' (.inRegion ops [] :: k)) cs w') ∧
      Sim (CCof T ng dr) ρ' h' w' ∧ ER ρ' e' a'.tmps ∧ a'.tmps.size = a.tmps.size ∧ a'.defers = a.defers ∧ Ext ρ h w ρ' h' w'

theorem steps_tail {P : Program} {m m1 t : Machine} (h : Steps P m t) (hs : step P m = .next m1) (hne : t ≠ m) : Steps P m1 t := by
  obtain ⟨n, hn⟩ := h
  cases n with
  | zero => simp only [runN] at hn; cases hn; exact absurd rfl hne
  | succ n => simp only [runN, hs] at hn; exact ⟨n, hn⟩

theorem lone_todo {b b' : Frame} {cs cs' : List Frame} {w w' : World} (h : lone b cs w = lone b' cs' w') : b.todo = b'.todo := by
  have h2 := congrArg (fun m : Machine => (m.gs[0]?).map (fun g => g.frame.todo)) h
  simpa [lone] using h2

section
variable {P : Program} {T : Tab} {ng : Nat} {dr : Draws} {F : Nat → Option AFunc} {ih : ACode → Env → Heap → R}

/-- a block that nothing knows of is new -/
theorem Sim.hidden {CC : CodeRel} {ρ : Rho} {h : Heap} {w : World} (S : Sim CC ρ h w) (o : Obj) : Sim CC ρ h (w.alloc o) ∧ Ext ρ h w ρ h (w.alloc o) := by
  have hsz : (w.alloc o).heap.size = w.heap.size + 1 := Array.size_push _
  have hold : ∀ k, k < w.heap.size → (w.alloc o).heap[k]? = w.heap[k]? := by
    intro k hk
    show (w.heap.push o)[k]? = _
    rw [Array.getElem?_push, if_neg (by omega)]
  refine ⟨⟨fun b r hb => ⟨(S.low b r hb).1, by have := (S.low b r hb).2; omega⟩, fun b r x hb hx => ObjOk.mono ρ.le_refl (hold _ (S.low b r hb).2) (S.obj b r x hb hx), S.inj, S.wf⟩,
    ⟨ρ.le_refl, Nat.le_refl _, by omega, rfl, rfl, rfl, fun k hk _ => hold k hk, fun b r hb hw => .inr ⟨b, r, hb, hw, rfl⟩, fun b r h h' => (by rw [h] at h'; cases h'), fun b r x hb hx => .inr ⟨b, r, x, hb, hx, rfl⟩⟩⟩

theorem alloc_size (w : World) (o : Obj) : (w.alloc o).heap.size = w.heap.size + 1 := Array.size_push _

theorem After.same {CC : CodeRel} {B : Nat} {ρ : Rho} {e : Env} {h : Heap} {w : World} {a : Act} (S : Sim CC ρ h w) (hE : ER ρ e a.tmps) (hd : DefOk B ρ h w a.defers) : After CC B ρ h w a ρ e h w a :=
  ⟨S, hE, rfl, .refl ρ h w, hd⟩

theorem After.trans {CC : CodeRel} {B : Nat} {ρ ρ1 ρ2 : Rho} {e1 e2 : Env} {h h1 h2 : Heap} {w w1 w2 : World} {a a1 a2 : Act} (x : After CC B ρ h w a ρ1 e1 h1 w1 a1) (y : After CC B ρ1 h1 w1 a1 ρ2 e2 h2 w2 a2) :
    After CC B ρ h w a ρ2 e2 h2 w2 a2 := ⟨y.sim, y.er, y.size.trans x.size, x.ext.trans y.ext, y.defs⟩

theorem VR.fnv {ρ : Rho} {g : FuncId} {first caps : Array Value} {c : Value} (h : VR ρ (.func (.func g) first caps) c) : ∃ l m, first = #[] ∧ caps = ⟨l⟩ ∧ c = .func (.func g) #[] ⟨m⟩ ∧ All2 (CR ρ) l m := by
  cases h with
  | val h => cases h with
    | cell h => cases h with
      | cell h => cases h
      | fn g h => exact ⟨_, _, rfl, rfl, rfl, h⟩

/-- one object that can be written goes, and its place turns -/
theorem Sim.off {CC : CodeRel} {ρ : Rho} {h : Heap} {w w' : World} (S : Sim CC ρ h w) {b : Nat} {r : Img} {o : AObj} (hb : ρ b = some r) (ho : h.tr.get b = some o) (hrw : o.rw = true) (ha : At1 r.blk w w') :
    Sim CC ρ { h with tr := h.tr.del b } w' ∧ Ext ρ h w ρ { h with tr := h.tr.del b } w' := by
  have hwr : writable h b := ⟨o, ho, hrw⟩
  have hget : ∀ x p, ({ h with tr := h.tr.del b } : Heap).tr.get x = some p → x ≠ b ∧ h.tr.get x = some p := by
    intro x p hx
    simp only [Tr.get_del] at hx
    by_cases e : x = b
    · rw [if_pos e] at hx; cases hx
    · rw [if_neg e] at hx; exact ⟨e, hx⟩
  have hback : ∀ x, writable { h with tr := h.tr.del b } x → writable h x := fun x ⟨p, hp, hpr⟩ => ⟨p, (hget x p hp).2, hpr⟩
  refine ⟨⟨fun x rx hx => ⟨(S.low x rx hx).1, by rw [ha.size]; exact (S.low x rx hx).2⟩, ?_, ?_, fun x p hp => S.wf x p (hget x p hp).2⟩, ⟨ρ.le_refl, Nat.le_refl _, Nat.le_of_eq ha.size.symm, ha.os, ha.tape, ha.output, ?_, ?_, ?_, ?_⟩⟩
  · intro x rx p hx hp
    obtain ⟨hne, hp⟩ := hget x p hp
    exact ObjOk.mono ρ.le_refl (ha.other _ (S.inj b x r rx p hb hx hwr hp (Ne.symm hne)).symm) (S.obj x rx p hx hp)
  · intro x y rx ry p hx hy hw hp hne
    exact S.inj x y rx ry p hx hy (hback x hw) (hget y p hp).2 hne
  · intro k _ hk
    exact ha.other k (fun e => hk b r hb hwr e.symm)
  · intro x rx hx hw
    exact .inr ⟨x, rx, hx, hback x hw, rfl⟩
  · intro x rx h1 h2; rw [h1] at h2; cases h2
  · intro x rx p hx hp
    exact .inr ⟨x, rx, p, hx, (hget x p hp).2, rfl⟩

theorem def_ext {ρ ρ' : Rho} {h h' : Heap} {w w' : World} {r : Nat} (hh : w.heap[r]? = some (.deferred (some []))) (hf : Free ρ h r) (E : Ext ρ h w ρ' h' w') : w'.heap[r]? = some (.deferred (some [])) ∧ Free ρ' h' r := by
  have hlt := blk_lt hh
  refine ⟨?_, hf.ext E hlt⟩
  rw [E.keep r hlt, hh]
  rintro x rx hx ⟨o, ho, _⟩
  exact hf x rx o hx ho

/-- A loop over a function. -/
theorem rng_sound (hF : FOk P T ng dr F) (hT : TabOk P T) (hI : RunOk P T ng dr ih) {n : Nat} {f : Operand} {ps : Array Tmp} {asg body : Code}
    (hopf : opdOk ng f = true) (hps : ps.toList.all (Nat.blt · n) = true) (hna : noRng asg = true) (hnb : noRng body = true)
    {e : Env} {h : Heap} {x : AExit} {e' : Env} {h' : Heap} (hc : stepC F ih (.rng f ps.toList (cmpCode T ng n dr asg) (cmpCode T ng n dr body)) e h = some (x, e', h'))
    {B : Nat} {ρ : Rho} {w : World} {a : Act} (b : Frame) (k : List Item) (cs : List Frame) (S : Sim (CCof T ng dr) ρ h w) (hG : Globs ng ρ) (hE : ER ρ e a.tmps) (hn : n ≤ a.tmps.size) (hB : B ≤ w.heap.size) (hD : DefOk B ρ h w a.defers)
    (hr : b.roundOf = none) :
    ∃ ρ' w' a', Goes P b k cs (lone (on b a (.code (.rangeFunc f ps asg body) :: k)) cs w) x a' w' ∧ After (CCof T ng dr) B ρ h w a ρ' e' h' w' a' := by
  simp only [stepC] at hc
  split at hc
  · rename_i g first caps hev
    have hvf := hE.eval hG hopf
    rw [hev] at hvf
    obtain ⟨l, m, rfl, rfl, hcf, hlm⟩ := hvf.fnv
    split at hc
    · rename_i v h1 hcall
      -- the loop's own two blocks
      obtain ⟨S1, E1⟩ := S.hidden (.deferred (some []))
      let L : Loop := { state := .ready, pending := none, fn := b.fn, tmps := a.tmps, params := ps, assign := asg, body := body, defers := w.heap.size }
      let im : Img := { blk := w.heap.size + 1, base := 0, len := 0, opn := 0, room := 0 }
      have hok : ObjOk (CCof T ng dr) (updR ρ h.next im) im (.loop e ps.toList (cmpCode T ng n dr asg) (cmpCode T ng n dr body) .ready) ((w.alloc (.deferred (some []))).alloc (.loop L)) := by
        refine ⟨L, ?_, hE.mono (updR_le S.fresh), rfl, ⟨n, hn, rfl, hna⟩, ⟨n, hn, rfl, hnb⟩, ?_, rfl, rfl⟩
        · show ((w.alloc (.deferred (some []))).heap.push (.loop L))[w.heap.size + 1]? = _
          rw [← alloc_size w (.deferred (some [])), Array.getElem?_push, if_pos rfl]
        · intro t ht
          have := List.all_eq_true.1 hps t ht
          exact Nat.lt_of_lt_of_le (blt_iff.1 this) hn
      obtain ⟨S2, E2⟩ := S1.add (im := im) (alloc_size w _).symm hok
      have E02 := E1.trans E2
      have hG2 := hG.mono E02.le
      have hat : updR ρ h.next im h.next = some im := by simp [updR]
      have hargs : All2 (VR (updR ρ h.next im)) ([] ++ [.func (.yield h.next) #[] #[]] ++ l) ([.func (.yield (w.heap.size + 1)) #[] #[]] ++ m) := by
        refine All2.cons (.val (.cell (.yield hat))) ?_
        exact hlm.mono fun _ _ q => (q.mono E02.le).vr
      have hcall' : callF F ih g ([] ++ [.func (.yield h.next) #[] #[]] ++ l) (h.new (.loop e ps.toList (cmpCode T ng n dr asg) (cmpCode T ng n dr body) .ready)) = some (v, h1) := hcall
      let a2 : Act := { a with defers := mark w.heap.size :: a.defers }
      let bb : Frame := on b a2 (.inRangeFunc (w.heap.size + 1) :: k)
      obtain ⟨fn, ρ3, w3, c, fr, q1, q2, q3, q4, q5, q6, q7, q8, q9⟩ := callF_sound hF hT hI hcall' S2 hG2 hargs (bb :: cs)
      have hrun := call_run (P := P) (ρ := a.eval) (w := (w.alloc (.deferred (some []))).alloc (.loop L)) (args := #[.const (.func (.yield (w.heap.size + 1)) #[] #[])]) (ats := #[]) (ty := 0) hcf q1 q2 q3
      have hgo := s_rng (P := P) (b := b) (a := a) (k := k) (cs := cs) (w := w) (f := f) (ps := ps) (asg := asg) (body := body) hr hrun
      have hargs' : (#[] ++ (#[Operand.const (.func (.yield (w.heap.size + 1)) #[] #[])] : Array Operand).map a.eval ++ ⟨m⟩ : Array Value) = ⟨[.func (.yield (w.heap.size + 1)) #[] #[]] ++ m⟩ := by
        apply Array.ext'; simp [Act.eval]
      rw [hargs'] at hgo
      have hst3 : Steps P (lone (on b a (.code (.rangeFunc f ps asg body) :: k)) cs w) (lone (on b a2 (.endRangeFunc (w.heap.size + 1) :: k)) cs w3) := by
        refine .head hgo (q4.trans (.one ?_))
        rw [step_leave_returned q6]
        rfl
      have E03 := E02.trans q9
      -- the loop as it stands now
      have hl3 : ρ3 h.next = some im := q9.le _ _ hat
      -- the frame's own deferred block
      have hDn : DefOk B ρ3 h1 w3 a2.defers := by
        obtain ⟨rs, h4, h5, h6⟩ := hD
        have hlow : ∀ r ∈ rs, r < w.heap.size := fun r hr => blk_lt (h6 r hr).2.1
        refine ⟨w.heap.size :: rs, by simp [a2, h4], List.nodup_cons.2 ⟨fun hm => by have := hlow _ hm; omega, h5⟩, ?_⟩
        intro r hr
        rcases List.mem_cons.1 hr with rfl | hr
        · have hfree2 : Free (updR ρ h.next im) (h.new (.loop e ps.toList (cmpCode T ng n dr asg) (cmpCode T ng n dr body) .ready)) w.heap.size := by
            intro y ry o hy _ he
            unfold updR at hy
            by_cases hyn : y = h.next
            · rw [if_pos hyn] at hy; cases hy
              simp [im] at he
            · rw [if_neg hyn] at hy
              have := (S.low y ry hy).2
              omega
          refine ⟨hB, def_ext ?_ hfree2 q9⟩
          show ((w.heap.push (.deferred (some []))).push (.loop L))[w.heap.size]? = _
          rw [Array.getElem?_push, if_neg (by simp), Array.getElem?_push, if_pos rfl]
        · exact ⟨(h6 r hr).1, def_ext (h6 r hr).2.1 (h6 r hr).2.2 E03⟩
      -- its end
      have fin : ∀ (env3 : Env) (ps3 : List Nat) (asg3 body3 : ACode) (st : LSt), h1.tr.get h.next = some (.loop env3 ps3 asg3 body3 st) → st ≠ .busy →
          ∃ w', (∃ L3 : Loop, JumpIs st L3 ∧ Steps P (lone (on b a (.code (.rangeFunc f ps asg body) :: k)) cs w) (lone (on b a2 ((L3.pending.map Item.code).toList ++ k)) cs w')) ∧
            After (CCof T ng dr) B ρ h w a ρ3 e { h1 with tr := h1.tr.del h.next } w' a2 := by
        intro env3 ps3 asg3 body3 st hget hst
        obtain ⟨L3, hh3, hE3, hp3, hc3, hc4, hlt3, hj3⟩ := q8.obj h.next im _ hl3 hget
        have hnb3 : (L3.state == .busy) = false := by
          cases st with
          | ready => rw [hj3.1]; rfl
          | busy => exact absurd rfl hst
          | done j => cases j <;> (rw [hj3.1]; rfl)
        have hstep := s_endRng (P := P) (b := b) (a := a2) (k := k) (cs := cs) hh3 hnb3
        obtain ⟨S4, E4⟩ := q8.off hl3 hget rfl (At1.obj im.blk (.loop { L3 with state := .exhausted }))
        have E04 := E03.trans E4
        exact ⟨_, ⟨L3, hj3, hst3.trans (.one hstep)⟩, ⟨S4, hE.mono E04.le, rfl, E04, hDn.ext E4⟩⟩
      split at hc
      · rename_i env3 ps3 asg3 body3 hget
        cases hc
        obtain ⟨w', ⟨L3, hj, hs⟩, hA⟩ := fin _ _ _ _ _ hget (by simp)
        refine ⟨ρ3, w', a2, ?_, hA⟩
        rw [hj.2] at hs
        exact hs
      · rename_i env3 ps3 asg3 body3 hget
        cases hc
        obtain ⟨w', ⟨L3, hj, hs⟩, hA⟩ := fin _ _ _ _ _ hget (by simp)
        refine ⟨ρ3, w', a2, ⟨k, ?_⟩, hA⟩
        rw [hj.2] at hs
        exact hs
      · rename_i env3 ps3 asg3 body3 id hget
        cases hc
        obtain ⟨w', ⟨L3, hj, hs⟩, hA⟩ := fin _ _ _ _ _ hget (by simp)
        refine ⟨ρ3, w', a2, ⟨k, ?_, rfl⟩, hA⟩
        rw [hj.2] at hs
        exact hs
      · cases hc
    · cases hc
  · cases hc
end
end Go.AI
