/- A block that the true run makes later than the abstract one. -/
import Derived.Test.YtigniafapkbbbaaGreatDoorAiDraw6
namespace Go.AI

theorem VR.mkA_inv {ρ : Rho} {s : Mk} {N : Nat} {c : Value} (h : VR ρ (mkA s N) c) : ∃ im, ρ N = some im ∧ ∀ (ρ2 : Rho) (M : Nat), ρ2 M = some im → VR ρ2 (mkA s M) c := by
  cases s with
  | ptr =>
    cases h with
    | val h => cases h with
      | cell h => cases h with
        | cell h => cases h with
          | @ptr _ _ r h => exact ⟨r, h, fun ρ2 M hM => .val (.cell (.cell (.ptr hM)))⟩
  | sl l cp =>
    cases h with
    | val h => cases h with
      | cell h => cases h with
        | cell h => cases h with
          | @slice _ _ _ _ _ _ r h hs => exact ⟨r, h, fun ρ2 M hM => .val (.cell (.cell (.slice hM hs)))⟩
  | mp =>
    cases h with
    | val h => cases h with
      | cell h => cases h with
        | cell h => cases h with
          | @map _ r h => exact ⟨r, h, fun ρ2 M hM => .val (.cell (.cell (.map hM)))⟩

theorem leads_mkA (s : Mk) (N : Nat) : leads (mkA s N) = some N := by
  cases s <;> rfl

/-- all that stood stands -/
structure Stood (w w' : World) : Prop where
  size : w.heap.size ≤ w'.heap.size
  os : w'.os = w.os
  tape : w'.tape = w.tape
  output : w'.output = w.output
  keep : ∀ k, k < w.heap.size → w'.heap[k]? = w.heap[k]?

theorem Sim.stood {CC : CodeRel} {ρ : Rho} {h : Heap} {w w' : World} (S : Sim CC ρ h w) (W : Stood w w') : Sim CC ρ h w' :=
  ⟨fun b r hb => ⟨(S.low b r hb).1, Nat.lt_of_lt_of_le (S.low b r hb).2 W.size⟩, fun b r o hb ho => ObjOk.mono ρ.le_refl (W.keep _ (S.low b r hb).2) (S.obj b r o hb ho), S.inj, S.wf⟩

theorem Ext.stood {ρ0 ρ ρ' : Rho} {h0 h : Heap} {w0 w w' : World} (X : Ext ρ0 h0 w0 ρ h w) (W : Stood w w') {N : Nat} (hl : ρ.le ρ') (hnew : ∀ x r, ρ' x = some r → ρ x = none → x = N ∧ w.heap.size ≤ r.blk) (hN : h0.next ≤ N) : Ext ρ0 h0 w0 ρ' h w' := by
  have hcase : ∀ x r, ρ' x = some r → ρ x = some r ∨ (x = N ∧ w.heap.size ≤ r.blk) := by
    intro x r hx
    cases hp : ρ x with
    | none => exact .inr (hnew x r hx hp)
    | some r' => have := hl x r' hp; rw [hx] at this; exact .inl this.symm
  refine ⟨Rho.le_trans X.le hl, X.next, Nat.le_trans X.size W.size, W.os.trans X.os, W.tape.trans X.tape, W.output.trans X.output, ?_, ?_, ?_, ?_⟩
  · intro k hk hkk
    rw [W.keep k (Nat.lt_of_lt_of_le hk X.size)]
    exact X.keep k hk hkk
  · intro x r hx hw
    rcases hcase x r hx with h | ⟨_, h⟩
    · exact X.own x r h hw
    · exact .inl (Nat.le_trans X.size h)
  · intro x r hx hn
    rcases hcase x r hx with h | ⟨rfl, _⟩
    · exact X.new x r h hn
    · exact hN
  · intro x r o hx ho
    rcases hcase x r hx with h | ⟨_, h⟩
    · exact X.live x r o h ho
    · exact .inl (Nat.le_trans X.size h)

section
variable {P : Program} {T : Tab} {ng : Nat} {dr : Draws} {F : Nat → Option AFunc} {ih : ACode → Env → Heap → R}

theorem cmpOper_same {n : Nat} {ops : List Oper} {o : Oper} (hk : (cmpOper T ng n ops o).op.kind ≠ 3) : cmpOper T ng n ops o = { dst := o.dst, guard := guardOf ops o, op := cmpOp T o.op } := by
  unfold cmpOper at hk ⊢
  cases hb : operOk ng n ops o with
  | true => rfl
  | false => rw [hb] at hk; exact absurd rfl hk

theorem alloc_late (hF : FOk P T ng dr F) (hT : TabOk P T) (hI : RunOk P T ng dr ih) {n : Nat} {ops : Array Oper} {i : Nat} {o : Oper} (ho : ops[i]? = some o) {e e' e2 : Env} {h0 h1 hq : Heap}
    (hk : (cmpOper T ng n ops.toList o).op.kind = 2)
    (hc : operF F ih (cmpOper T ng n ops.toList o) e h0 = some (e', h1)) {ρ : Rho} {w : World} (S : Sim (CCof T ng dr) ρ hq w) (hG : Globs ng ρ) {a a2 : Act} (hE : ER ρ e2 a2.tmps) (hn : n ≤ a.tmps.size)
    (hx : ∀ x ∈ o.op.operands.toList, ev e x = ev e2 x ∧ a.eval x = a2.eval x) (hwr : Region.wanted o (yielded ops a.tmps) = wanted e (guardOf ops.toList o))
    (hfree : h0.next < h1.next → ρ h0.next = none) (hsame : o.dst.isSome = true → h0.next < h1.next → hq.tr.get h0.next = h1.tr.get h0.next) (hle : h1.next ≤ hq.next)
    (b : Frame) (k : List Item) (cs : List Frame) (rest : List Nat) :
    ∃ ρ' w' c v, Steps P (lone (on b a (.inRegion ops (i :: rest) :: k)) cs w) (lone (on b (a.put o.dst c) (.inRegion ops rest :: k)) cs w') ∧ e' = putE e o.dst v ∧ VR ρ' v c ∧
      (∀ d, o.dst = some d → d < a.tmps.size) ∧ Sim (CCof T ng dr) ρ' hq w' ∧ ρ.le ρ' ∧ (∀ x, ρ x = none → (h0.next < h1.next → x ≠ h0.next) → ρ' x = none) ∧
      (∀ (ρ0 : Rho) (hh : Heap) (w0 : World), hh.next ≤ h0.next → Ext ρ0 hh w0 ρ hq w → Ext ρ0 hh w0 ρ' hq w') := by
  have hcm := cmpOper_same (T := T) (ng := ng) (n := n) (ops := ops.toList) (o := o) (by rw [hk]; decide)
  have hnc := kind_not_call (o := (cmpOper T ng n ops.toList o).op) (by omega)
  cases hw : wanted e (cmpOper T ng n ops.toList o).guard with
  | false =>
    have hc2 : operF F ih (cmpOper T ng n ops.toList o) e hq = some (e', hq) := by
      unfold operF at hc ⊢
      simp only [hw, cond_false, Option.some.injEq, Prod.mk.injEq] at hc ⊢
      exact ⟨hc.1, trivial⟩
    obtain ⟨ρ1, w1, cv, v, s1, hE1, hv1, hdst, S1, X1⟩ := operF_gen hF hT hI ho hc2 S hG (a := a) (a2 := a2) hE hn hx hwr b k cs rest
    refine ⟨ρ1, w1, cv, v, s1, hE1, hv1, hdst, S1, X1.le, ?_, fun ρ0 hh w0 _ X => X.trans X1⟩
    intro x hx _
    cases hp : ρ1 x with
    | none => rfl
    | some r =>
      have g1 := X1.new x r hp hx
      have g2 := (S1.low x r hp).1
      omega
  | true =>
    have hc' := hc
    unfold operF at hc'
    simp only [hw, cond_true] at hc'
    split at hc'
    · rename_i v0 h1' hov
      simp only [Option.some.injEq, Prod.mk.injEq] at hc'
      obtain ⟨he', rfl⟩ := hc'
      obtain ⟨s, cells, rfl, rfl, hind⟩ := opV_alloc hk hov
      have hlt : h0.next < (h0.new (mkO s cells)).next := by simp [Heap.new]
      have hnone := hfree hlt
      let N := hq.next + (cells.map topK).foldl (· + ·) 0
      let Z : Heap := ⟨N, 0, .nil⟩
      have SZ : Sim (CCof T ng dr) ρ Z w := by
        refine ⟨fun x r hb => ⟨?_, (S.low x r hb).2⟩, fun x r y _ hy => ?_, fun x y r r' z _ _ _ hz _ => ?_, fun x y hy => ?_⟩
        · have := (S.low x r hb).1
          show x < hq.next + _
          omega
        · simp [Z, Tr.get] at hy
        · simp [Z, Tr.get] at hz
        · simp [Z, Tr.get] at hy
      have hcZ : operF F ih (cmpOper T ng n ops.toList o) e Z = some (putE e (cmpOper T ng n ops.toList o).dst (mkA s N), Z.new (mkO s cells)) := by
        unfold operF
        simp only [hw, cond_true]
        rw [hind Z]
      obtain ⟨ρ1, w1, cv, v, s1, hE1, hv1, hdst, S1, X1⟩ := operF_gen hF hT hI ho hcZ SZ hG (a := a) (a2 := a2) hE hn hx hwr b k cs rest
      have hWS : Stood w w1 := ⟨X1.size, X1.os, X1.tape, X1.output, fun j hj => X1.keep j hj (fun x r _ ⟨y, hy, _⟩ => by simp [Z, Tr.get] at hy)⟩
      have hdd : (cmpOper T ng n ops.toList o).dst = o.dst := by rw [hcm]
      rw [hdd] at hE1 he'
      cases hd : o.dst with
      | none =>
        rw [hd] at s1 he'
        refine ⟨ρ, w1, undef, .tuple #[], s1, he'.symm, VR.undef, fun d h => (by cases h), S.stood hWS, ρ.le_refl, fun x hx _ => hx, ?_⟩
        intro ρ0 hh w0 hle0 X
        exact X.stood hWS (N := h0.next) ρ.le_refl (fun x r g1 g2 => by rw [g1] at g2; cases g2) hle0
      | some d =>
        rw [hd] at s1 he' hE1
        have hvN : v = mkA s N := by
          have := congrArg (fun en : Env => Env.get en d) hE1
          simp only [putE, Env.get_set, if_true] at this
          exact this.symm
        rw [hvN] at hv1
        obtain ⟨im, him, hmk⟩ := hv1.mkA_inv
        have hle1 := updR_le (r := im) hnone
        have hgetN : (Z.new (mkO s cells)).tr.get N = some (mkO s cells) := by
          simp only [Heap.new, Tr.get_set]
          rw [if_pos rfl]
        have hgetq : hq.tr.get h0.next = some (mkO s cells) := by
          rw [hsame (by rw [hd]; rfl) hlt]
          simp only [Heap.new, Tr.get_set, if_true]
        have hblk : w.heap.size ≤ im.blk := by
          rcases X1.live N im _ him hgetN with h | ⟨_, _, _, _, h, _⟩
          · exact h
          · simp [Z, Tr.get] at h
        have hρ1 : ∀ x, x ≠ N → ρ1 x = ρ x := by
          intro x hxN
          cases hp : ρ x with
          | some r => exact X1.le x r hp
          | none =>
            cases hq1 : ρ1 x with
            | none => rfl
            | some r =>
              have g1 := X1.new x r hq1 hp
              have g2 := (S1.low x r hq1).1
              simp only [Heap.new, Z] at g1 g2
              omega
        have hobj : ObjOk (CCof T ng dr) (updR ρ h0.next im) im (mkO s cells) w1 := by
          have hO := S1.obj N im _ him hgetN
          have hB : ObjOk (CCof T ng dr) ρ1 im (.blk cells false 0 0) w1 → ObjOk (CCof T ng dr) (updR ρ h0.next im) im (.blk cells false 0 0) w1 := by
            rintro ⟨ccs, el, fr, q1, q2, q3, q5, q6, q7⟩
            refine ⟨ccs, el, fr, q1, q2, q3, q5, q6, fun j v' hj => ?_⟩
            obtain ⟨c', hc', hr'⟩ := q7 j v' hj
            refine ⟨c', hc', KR.mono hle1 (hr'.off hρ1 ?_)⟩
            have := (foldl_add (cells.map topK) 0).2 (topK v') (List.mem_map.2 ⟨v', List.mem_of_getElem? hj, rfl⟩)
            show topK v' ≤ hq.next + _
            omega
          cases s with
          | ptr => exact hB hO
          | sl l c => exact hB hO
          | mp =>
            obtain ⟨ces, cl, q1, q2⟩ := hO
            refine ⟨ces, cl, q1, ?_⟩
            generalize ces.toList = L at q2 ⊢
            cases q2
            exact .nil
        have hcase : ∀ x r, updR ρ h0.next im x = some r → (x = h0.next ∧ r = im) ∨ (x ≠ h0.next ∧ ρ x = some r) := by
          intro x r hx
          unfold updR at hx
          by_cases e : x = h0.next
          · rw [if_pos e] at hx; cases hx; exact .inl ⟨e, rfl⟩
          · rw [if_neg e] at hx; exact .inr ⟨e, hx⟩
        refine ⟨updR ρ h0.next im, w1, cv, mkA s h0.next, s1, he'.symm, hmk _ _ (by simp [updR]), fun d' h => hdst d' (by rw [hd]; exact h), ?_, hle1, ?_, ?_⟩
        · refine ⟨fun x r hb => ?_, fun x r y hb hy => ?_, fun x y r r' z hb hb' hwz hz hne => ?_, S.wf⟩
          · rcases hcase x r hb with ⟨rfl, rfl⟩ | ⟨_, hb⟩
            · exact ⟨by omega, (S1.low N r him).2⟩
            · exact ⟨(S.low x r hb).1, Nat.lt_of_lt_of_le (S.low x r hb).2 hWS.size⟩
          · rcases hcase x r hb with ⟨rfl, rfl⟩ | ⟨_, hb⟩
            · rw [hgetq] at hy; cases hy; exact hobj
            · exact ObjOk.mono hle1 (hWS.keep _ (S.low x r hb).2) (S.obj x r y hb hy)
          · rcases hcase x r hb with ⟨ex, er⟩ | ⟨_, hb⟩ <;> rcases hcase y r' hb' with ⟨ey, er'⟩ | ⟨_, hb'⟩
            · exact absurd (ex.trans ey.symm) hne
            · have := (S.low y r' hb').2; rw [er]; omega
            · have := (S.low x r hb).2; rw [er']; omega
            · exact S.inj x y r r' z hb hb' hwz hz hne
        · intro x hx hxn
          unfold updR
          rw [if_neg (hxn hlt)]; exact hx
        · intro ρ0 hh w0 hle0 X
          refine X.stood hWS (N := h0.next) hle1 (fun x r g1 g2 => ?_) hle0
          rcases hcase x r g1 with ⟨ex, er⟩ | ⟨_, g3⟩
          · exact ⟨ex, by rw [er]; exact hblk⟩
          · rw [g3] at g2; cases g2
    · cases hc'
end
end Go.AI
