/- Each operation: what the abstract one comes to, the true one comes to. -/
import Derived.Test.YtigniafapkbbbaaGreatDoorAiMem
import Derived.Laws.StructEq
import Derived.Laws.Append
import Derived.ChangeKeysEq
import Derived.Laws.Slices
namespace Go.AI

/-- An operation has come to a value (or to none, where none is asked), and the memories stand together again. -/
def Out (CC : CodeRel) (ρ : Rho) (h : Heap) (w : World) (v : Value) (h' : Heap) (r : Result Next) : Prop :=
  ∃ ρ' w' c, (r = .ok (.value c) w' ∨ (c = undef ∧ r = .ok .skip w')) ∧ VR ρ' v c ∧ Sim CC ρ' h' w' ∧ Ext ρ h w ρ' h' w'

section
variable {P : Program} {CC : CodeRel} {ρ : Rho} {h : Heap} {w : World} {T : Tab} {ng : Nat} {e : Env} {a : Act}

theorem Out.same (S : Sim CC ρ h w) {v c : Value} {r : Result Next} (hr : r = .ok (.value c) w) (hv : VR ρ v c) : Out CC ρ h w v h r :=
  ⟨ρ, w, c, .inl hr, hv, S, .refl ρ h w⟩

theorem run_v {s : Sem Value} {c : Value} {w' : World} (hs : s.run P w = .ok c w') : ((do pure (Next.value (← s))) : Sem Next).run P w = .ok (.value c) w' := by
  simp [hs]

theorem blk_lt {α : Type} {l : Array α} {i : Nat} {x : α} (h : l[i]? = some x) : i < l.size := (Array.getElem?_eq_some_iff.1 h).1

theorem alloc_new (w : World) (o : Obj) : (w.alloc o).heap[w.heap.size]? = some o := by
  show (w.heap.push o)[w.heap.size]? = some o
  simp

/-- A new block. -/
theorem new_blk (S : Sim CC ρ h w) {cs ccs rest : List Value} (hv : All2 (KR ρ) cs ccs) (el : Nat) (opn : Nat) (hrest : opn ≠ 0 → ∀ c ∈ rest, constCell c = true) :
    ∃ im : Img, im.blk = w.heap.size ∧ im.base = 0 ∧ im.len = cs.length ∧ im.opn = opn ∧ im.room = (ccs ++ rest).length ∧
      Sim CC (updR ρ h.next im) (newBlk h cs opn) (w.alloc (.cells ⟨ccs ++ rest⟩ el)) ∧ Ext ρ h w (updR ρ h.next im) (newBlk h cs opn) (w.alloc (.cells ⟨ccs ++ rest⟩ el)) := by
  refine ⟨⟨w.heap.size, 0, cs.length, opn, (ccs ++ rest).length⟩, rfl, rfl, rfl, rfl, rfl, ?_⟩
  refine Sim.add S rfl ?_
  refine ⟨_, _, _, alloc_new w _, rfl, rfl, ⟨Nat.zero_add _, ?_⟩, fun _ => rfl, ?_⟩
  · intro hop j c hj hc
    dsimp only at hj hc
    rw [show (⟨ccs ++ rest⟩ : Array Value)[0 + j]? = (ccs ++ rest)[0 + j]? by simp, Nat.zero_add, List.getElem?_append_right (by rw [← hv.length]; exact hj)] at hc
    exact hrest hop c (List.mem_of_getElem? hc)
  intro j v hj
  obtain ⟨c, hc, hk⟩ := hv.get hj
  refine ⟨c, ?_, hk.mono (updR_le S.fresh)⟩
  show (⟨ccs ++ rest⟩ : Array Value)[0 + j]? = some c
  rw [show (⟨ccs ++ rest⟩ : Array Value)[0 + j]? = (ccs ++ rest)[0 + j]? by simp, Nat.zero_add, List.getElem?_append_left (List.getElem?_eq_some_iff.1 hc).1, hc]

theorem updR_self (ρ : Rho) (b : Nat) (r : Img) : updR ρ b r b = some r := by simp [updR]

theorem ptr_new {im : Img} (hb : im.blk = w.heap.size) (h0 : im.base = 0) : VR (updR ρ h.next im) (.pointer (some ⟨h.next, 0, none⟩)) (.pointer (some ⟨w.heap.size, 0, none⟩)) := by
  have := CR.ptr (ρ := updR ρ h.next im) (o := 0) (updR_self ρ h.next im)
  rw [hb, h0] at this
  exact this.vr

theorem run_newVar (el : TypeId) (v : Value) : (newVar el v).run P w = .ok ⟨w.heap.size, 0, none⟩ (w.alloc (.cells v.cells el)) := rfl
theorem run_newRow (el : TypeId) (cs : Array Value) : (newRow el cs).run P w = .ok ⟨w.heap.size, 0, none⟩ (w.alloc (.cells cs el)) := rfl

theorem zero_run {t : Nat} {i : TI} (hi : TabOk1 P t i) : ∃ z, (zeroValue t).run P w = .ok z w ∧ z.cells.toList = i.zero := by
  obtain ⟨ti, h1, _, _, z, h2, h3⟩ := hi.info
  exact ⟨z, by simp [zeroValue, typeInfo, h1, h2], h3⟩

theorem size_run {t : Nat} {i : TI} (hi : TabOk1 P t i) : (sizeOf t).run P w = .ok i.size w ∧ P.cellsOf t = i.size := by
  obtain ⟨ti, h1, h2, _⟩ := hi.info
  exact ⟨by simp [sizeOf, typeInfo, h1, h2], by simp [Program.cellsOf, h1, h2]⟩

theorem isAgg_run {t : Nat} {i : TI} (hi : TabOk1 P t i) : (isAgg t).run P w = .ok i.agg w := by
  simp only [isAgg, Sem.run_bind, run_underlying hi.u, Result.andThen_ok, hi.agg]
  cases i.u <;> rfl

theorem arr_of (v : Value) (l : List Value) (h : v.cells.toList = l) : v.cells = ⟨l ++ []⟩ := by
  cases hc : v.cells with
  | mk x => rw [hc] at h; simp at h; simp [h]

/-- op: alloc -/
theorem op_alloc (S : Sim CC ρ h w) {t : Nat} {i : TI} (hi : TabOk1 P t i) :
    Out CC ρ h w (.pointer (some ⟨h.next, 0, none⟩)) (newBlk h i.zero 0) (((do pure (Next.value (← Instr.alloc t true (.tuple #[])))) : Sem Next).run P w) := by
  obtain ⟨z, hz, hzc⟩ := zero_run (w := w) hi
  obtain ⟨im, h1, h2, _, _, _, h3, h4⟩ := new_blk (rest := []) S (constCells_rel hi.zero) t 0 (fun h => absurd rfl h)
  rw [← arr_of z _ hzc] at h3 h4
  refine ⟨_, _, _, .inl (run_v ?_), ptr_new h1 h2, h3, h4⟩
  simp [Instr.alloc, hz, run_newVar]

theorem op_box (S : Sim CC ρ h w) {t : Nat} {v c : Value} {vs : List Value} (hv : VR ρ v c) (hf : flat v = some vs) :
    Out CC ρ h w (.pointer (some ⟨h.next, 0, none⟩)) (newBlk h vs 0) (((do pure (Next.value (← Instr.box t c))) : Sem Next).run P w) := by
  obtain ⟨im, h1, h2, _, _, _, h3, h4⟩ := new_blk (rest := []) S (flat_rel hv hf) t 0 (fun h => absurd rfl h)
  rw [← arr_of c _ rfl] at h3 h4
  refine ⟨_, _, _, .inl (run_v ?_), ptr_new h1 h2, h3, h4⟩
  simp [Instr.box, run_newVar]

/-- reading a value of a type -/
theorem op_load (S : Sim CC ρ h w) {t : Nat} {i : TI} (hi : TabOk1 P t i) {b off : Nat} {r : Img} {cs : List Value} {v : Value} (hb : ρ b = some r)
    (hr : readAt h b off (width (aggN i)) = some cs) (hv : agg (aggN i) cs = some v) :
    ∃ c, (loadVar t ⟨r.blk, r.base + off, none⟩).run P w = .ok c w ∧ VR ρ v c := by
  obtain ⟨hl, ccs, hk, hc⟩ := read_rel S hb hr
  have hsz := (size_run (w := w) hi).1
  cases hag : i.agg with
  | true =>
    simp only [aggN, hag, cond_true, width] at hl hv
    have hlen := hk.length
    simp only [agg, hl, Nat.beq_refl, if_true, Option.some.injEq] at hv
    subst hv
    refine ⟨.agg ccs.toArray, ?_, .val (.agg hk)⟩
    simp only [loadVar, Sem.run_bind, isAgg_run hi, hag, Result.andThen_ok, if_true, hsz]
    rw [← hl, hlen, run_loadCells_list w _ ccs hc]
    rfl
  | false =>
    simp only [aggN, hag, cond_false, width] at hl hv
    match cs, ccs, hk, hl with
    | [x], [y], .cons hxy .nil, _ =>
      simp only [agg, Option.some.injEq] at hv
      subst hv
      have h0 := hc 0 y rfl
      rw [addr_add, Nat.add_zero] at h0
      refine ⟨y, ?_, hxy.vr⟩
      simp [loadVar, isAgg_run hi, hag, h0]

/-- writing a value of a type -/
theorem op_store (S : Sim CC ρ h w) {t : Nat} {i : TI} (hi : TabOk1 P t i) {b off : Nat} {r : Img} {v c : Value} {vs : List Value} {h' : Heap} (hb : ρ b = some r)
    (hv : VR ρ v c) (hf : flat v = some vs) (hl : vs.length = i.size) (hw : writeAt h b off vs = some h') :
    ∃ w', (storeVar t ⟨r.blk, r.base + off, none⟩ c).run P w = .ok () w' ∧ Sim CC ρ h' w' ∧ Ext ρ h w ρ h' w' := by
  have hk := flat_rel hv hf
  obtain ⟨w', hrun, S', E'⟩ := write_rel S hb hw hk
  refine ⟨w', ?_, S', E'⟩
  have hsz := (size_run (w := w) hi).1
  have hcs : c.cells.size = i.size := by rw [← hl, hk.length]; simp
  simp only [storeVar, Sem.run_bind, hsz, Result.andThen_ok, hcs, ne_eq, not_true_eq_false, if_false]
  simpa using hrun

theorem part_run {t : Nat} {i : TI} (hi : TabOk1 P t i) {l m : List Value} {off : Nat} {v : Value} (hk : All2 (KR ρ) l m)
    (hv : agg (aggN i) ((l.drop off).take (width (aggN i))) = some v) : ∃ c, (part t ⟨m⟩ off).run P w = .ok c w ∧ VR ρ v c := by
  have hk' := (hk.drop off).take (width (aggN i))
  cases hag : i.agg with
  | true =>
    simp only [aggN, hag, cond_true, width, agg] at hv hk'
    split at hv
    · cases hv
      refine ⟨.agg ⟨(m.drop off).take i.size⟩, ?_, .val (.agg hk')⟩
      simp only [part, Sem.run_bind, isAgg_run hi, hag, Result.andThen_ok, if_true, (size_run (w := w) hi).1, Sem.run_pure]
      congr 2
      simp
    · cases hv
  | false =>
    simp only [aggN, hag, cond_false, width, agg] at hv hk'
    split at hv
    · rename_i x hx
      cases hv
      rw [hx] at hk'
      match hm : (m.drop off).take 1, hk' with
      | [y], .cons hxy .nil =>
        refine ⟨y, ?_, hxy.vr⟩
        have hy : m[off]? = some y := by
          have : ((m.drop off).take 1)[0]? = some y := by rw [hm]; rfl
          simpa [List.getElem?_take, List.getElem?_drop] using this
        simp [part, isAgg_run hi, hag, hy]
    · cases hv

theorem tab {P : Program} {T : Tab} (hT : TabOk P T) {t : Nat} {i : TI} (h : T t = some i) : TabOk1 P t i := hT t i h

theorem fill_rel (hE : ER ρ e a.tmps) (hG : Globs ng ρ) (place : Nat → Option (Nat × Nat)) :
    ∀ (ps : List (Nat × Operand)) (qs : List (Nat × Nat × Operand)) (l m : List Value) (r : List Value), ps.all (fun p => opdOk ng p.2) = true →
      All2 (fun (p : Nat × Operand) (q : Nat × Nat × Operand) => place p.1 = some (q.1, q.2.1) ∧ q.2.2 = p.2) ps qs →
      All2 (KR ρ) l m → fillIn e l qs = some r → ∃ s : List Value, Instr.fill place ⟨m⟩ (ps.map fun p => (p.1, a.eval p.2)) = some ⟨s⟩ ∧ All2 (KR ρ) r s := by
  intro ps
  induction ps with
  | nil =>
    intro qs l m r _ hpq hk hr
    cases hpq
    simp only [fillIn, Option.some.injEq] at hr
    subst hr
    exact ⟨m, rfl, hk⟩
  | cons p ps ih =>
    intro qs l m r hok hpq hk hr
    obtain ⟨j, x⟩ := p
    cases hpq with
    | @cons _ q _ qs hq hqs =>
    obtain ⟨off, n, y⟩ := q
    obtain ⟨hp, rfl⟩ := hq
    simp only [List.all_cons, Bool.and_eq_true] at hok
    simp only [fillIn] at hr
    split at hr
    · rename_i vs hf
      split at hr
      · rename_i hcond
        simp only [Bool.and_eq_true] at hcond
        have hn := Nat.eq_of_beq_eq_true hcond.1
        have hle := Nat.le_of_ble_eq_true hcond.2
        have hv := flat_rel (hE.eval hG hok.1) hf
        have hlm := hk.length
        have hlv := hv.length
        have hspl : All2 (KR ρ) (splice l off vs) (splice m off (a.eval y).cells.toList) := by
          unfold splice
          rw [← hlv]
          exact ((hk.take off).app hv).app (hk.drop _)
        obtain ⟨s, hs, hrs⟩ := ih qs _ _ r hok.2 hqs hspl hr
        refine ⟨s, ?_, hrs⟩
        rw [← hs]
        simp only [List.map_cons, Instr.fill, hp]
        have hsz : (a.eval y).cells.size = n := by rw [← hn, hlv]; simp
        rw [if_neg (by simp [hsz]; omega)]
        congr 1
        have key : ∀ (vs : List Value) (k : Nat) (m : List Value), off + k + vs.length ≤ m.length →
            (vs.zipIdx k).foldl (fun (cs : Array Value) (x : Value × Nat) => cs.setIfInBounds (off + x.2) x.1) ⟨m⟩ = ⟨splice m (off + k) vs⟩ := by
          intro vs
          induction vs with
          | nil => intro k m _; simp [splice]
          | cons v vs ih =>
            intro k m hm
            simp only [List.zipIdx_cons, List.foldl_cons]
            have : (Array.setIfInBounds ⟨m⟩ (off + k) v) = ⟨m.set (off + k) v⟩ := by simp
            rw [this, ih (k + 1) (m.set (off + k) v) (by simp at hm ⊢; omega)]
            congr 1
            simp at hm
            apply List.ext_getElem?
            intro i
            rw [splice_get (by simp; omega), splice_get (by simp; omega)]
            by_cases h1 : off + (k + 1) ≤ i ∧ i < off + (k + 1) + vs.length
            · rw [if_pos h1, if_pos (by simp; omega)]
              rw [show i - (off + k) = (i - (off + (k + 1))) + 1 by omega]
              simp
            · rw [if_neg h1]
              by_cases h2 : i = off + k
              · subst h2
                rw [if_pos (by simp)]
                simp [List.getElem?_set_self (show off + k < m.length by omega)]
              · rw [if_neg (by simp; omega), List.getElem?_set_ne (Ne.symm h2)]
        have := key (a.eval y).cells.toList 0 m (by rw [Nat.add_zero, ← hlv, hn, ← hlm]; exact hle)
        rw [← Array.foldl_toList]
        simpa using this
      · cases hr
    · cases hr
end
end Go.AI
