/- Reading, writing and making memory: the abstract side and the true one stay together. -/
import Derived.Test.YtigniafapkbbbaaGreatDoorAiCmp
import Derived.Laws.Rows
import Derived.Laws.CopyRow
namespace Go.AI

theorem oneCell_of_plain {v : Value} (h : plain v = true) : v.oneCell' = true := by
  cases v <;> first | rfl | (simp [plain] at h)

theorem addr_add (b o n : Nat) : (⟨b, o, none⟩ : Addr).add n = ⟨b, o + n, none⟩ := by
  unfold Addr.add; split <;> simp_all

section
variable {P : Program} {CC : CodeRel} {ρ ρ' : Rho} {h : Heap} {w w' : World}

theorem ObjOk.mono {r : Img} {o : AObj} (hl : ρ.le ρ') (hw : w'.heap[r.blk]? = w.heap[r.blk]?) (hk : ObjOk CC ρ r o w) : ObjOk CC ρ' r o w' := by
  cases o with
  | blk cs ro op s =>
    obtain ⟨ccs, el, fr, h1, h2, h3, h5, h6, h7⟩ := hk
    exact ⟨ccs, el, fr, hw.trans h1, h2, h3, h5, h6, fun j v hv => let ⟨c, hc, hr⟩ := h7 j v hv; ⟨c, hc, hr.mono hl⟩⟩
  | loop env ps asg body st =>
    obtain ⟨L, h1, h2, h3⟩ := hk
    exact ⟨L, hw.trans h1, h2.mono hl, h3⟩
  | map es =>
    obtain ⟨ces, cl, h1, h2⟩ := hk
    exact ⟨ces, cl, hw.trans h1, h2.mono fun _ _ ⟨a, b⟩ => ⟨a.mono hl, b.mono hl⟩⟩
  | itr => exact ⟨hk.1, hw.trans hk.2⟩

theorem Globs.mono {ng : Nat} (hl : ρ.le ρ') (hg : Globs ng ρ) : Globs ng ρ' := fun g hlt => let ⟨r, h, x⟩ := hg g hlt; ⟨r, hl _ _ h, x⟩

/-- The world has turned at one block alone. -/
structure At1 (k : Nat) (w w' : World) : Prop where
  os : w'.os = w.os
  tape : w'.tape = w.tape
  output : w'.output = w.output
  size : w'.heap.size = w.heap.size
  other : ∀ j, j ≠ k → w'.heap[j]? = w.heap[j]?

theorem At1.row (g : Nat) (cs : Array Value) : At1 g w (w.setRow g cs) := ⟨rfl, rfl, rfl, by simp, fun j hj => setRow_other w g j cs hj⟩

theorem At1.obj (g : Nat) (o : Obj) : At1 g w { w with heap := w.heap.setIfInBounds g o } :=
  ⟨rfl, rfl, rfl, by simp, fun j hj => by simp [Ne.symm hj]⟩

/-- A draw turns nothing of this. -/
theorem Sim.drawn (S : Sim CC ρ h w) (n : Nat) : Sim CC ρ h { w with drawn := n } :=
  ⟨S.low, fun b r o hb ho => ObjOk.mono ρ.le_refl (w' := { w with drawn := n }) rfl (S.obj b r o hb ho), S.inj, S.wf⟩

theorem Ext.drawn (n : Nat) : Ext ρ h w ρ h { w with drawn := n } :=
  ⟨ρ.le_refl, Nat.le_refl _, Nat.le_refl _, rfl, rfl, rfl, fun _ _ _ => rfl, fun b r hb hw => .inr ⟨b, r, hb, hw, rfl⟩, fun b r h h' => (by rw [h] at h'; cases h'), fun b r o hb ho => .inr ⟨b, r, o, hb, ho, rfl⟩⟩

theorem Sim.clock (S : Sim CC ρ h w) (n : Nat) : Sim CC ρ { h with clock := n } w := ⟨S.low, S.obj, S.inj, S.wf⟩
theorem Ext.clock (n : Nat) : Ext ρ h w ρ { h with clock := n } w :=
  ⟨ρ.le_refl, Nat.le_refl _, Nat.le_refl _, rfl, rfl, rfl, fun _ _ _ => rfl, fun b r hb hw => .inr ⟨b, r, hb, hw, rfl⟩, fun b r h h' => (by rw [h] at h'; cases h'), fun b r o hb ho => .inr ⟨b, r, o, hb, ho, rfl⟩⟩

/-- One object that can be written is another one now. -/
theorem Sim.upd (S : Sim CC ρ h w) {b : Nat} {r : Img} {o o' : AObj} (hb : ρ b = some r) (ho : h.tr.get b = some o) (hrw : o.rw = true) 
    (ha : At1 r.blk w w') (hob : ObjOk CC ρ r o' w') (n : Nat) : Sim CC ρ { h with clock := n, tr := h.tr.set b o' } w' ∧ Ext ρ h w ρ { h with clock := n, tr := h.tr.set b o' } w' := by
  have hwr : writable h b := ⟨o, ho, hrw⟩
  have hback : ∀ x, writable { h with clock := n, tr := h.tr.set b o' } x → writable h x := by
    rintro x ⟨p, hp, hpr⟩
    simp only [Tr.get_set] at hp
    by_cases hx : x = b
    · subst hx; exact hwr
    · rw [if_neg hx] at hp; exact ⟨p, hp, hpr⟩
  refine ⟨⟨fun x rx hx => ⟨(S.low x rx hx).1, by rw [ha.size]; exact (S.low x rx hx).2⟩, ?_, ?_, fun x p hp => ?_⟩, ⟨ρ.le_refl, Nat.le_refl _, Nat.le_of_eq ha.size.symm, ha.os, ha.tape, ha.output, ?_, ?_, ?_, ?_⟩⟩
  rotate_left 2
  · simp only [Tr.get_set] at hp
    by_cases hx : x = b
    · subst hx; exact S.wf _ _ ho
    · rw [if_neg hx] at hp; exact S.wf x p hp
  rotate_left 4
  · intro x rx p hx hp
    simp only [Tr.get_set] at hp
    by_cases hxb : x = b
    · subst hxb
      rw [if_pos rfl] at hp
      cases hp
      rw [hb] at hx; cases hx
      exact hob
    · rw [if_neg hxb] at hp
      exact ObjOk.mono ρ.le_refl (ha.other _ (S.inj b x r rx p hb hx hwr hp (Ne.symm hxb)).symm) (S.obj x rx p hx hp)
  · intro x y rx ry p hx hy hw hp hne
    simp only [Tr.get_set] at hp
    by_cases hyb : y = b
    · subst hyb
      exact S.inj x y rx ry o hx hy (hback x hw) ho hne
    · rw [if_neg hyb] at hp
      exact S.inj x y rx ry p hx hy (hback x hw) hp hne
  · intro k _ hk
    exact ha.other k (fun e => hk b r hb hwr e.symm)
  · intro x rx hx hw
    exact .inr ⟨x, rx, hx, hback x hw, rfl⟩
  · intro x rx h1 h2; rw [h1] at h2; cases h2
  · intro x rx p hx hp
    simp only [Tr.get_set] at hp
    by_cases hxb : x = b
    · subst hxb; exact .inr ⟨x, rx, o, hx, ho, rfl⟩
    · rw [if_neg hxb] at hp; exact .inr ⟨x, rx, p, hx, hp, rfl⟩

def updR (ρ : Rho) (b : Nat) (r : Img) : Rho := fun x => if x = b then some r else ρ x

theorem updR_le {b : Nat} {r : Img} (hn : ρ b = none) : ρ.le (updR ρ b r) := by
  intro x rx hx
  unfold updR
  by_cases h : x = b
  · subst h; rw [hn] at hx; cases hx
  · rw [if_neg h]; exact hx

theorem Sim.fresh (S : Sim CC ρ h w) : ρ h.next = none := by
  cases e : ρ h.next with
  | none => rfl
  | some r => have := (S.low _ _ e).1; omega

/-- A new object. -/
theorem Sim.add (S : Sim CC ρ h w) {o : AObj} {co : Obj} {im : Img} (him : im.blk = w.heap.size) (hob : ObjOk CC (updR ρ h.next im) im o (w.alloc co)) :
    Sim CC (updR ρ h.next im) (h.new o) (w.alloc co) ∧ Ext ρ h w (updR ρ h.next im) (h.new o) (w.alloc co) := by
  have hle := updR_le (r := im) S.fresh
  have hsz : (w.alloc co).heap.size = w.heap.size + 1 := Array.size_push _
  have hold : ∀ k, k < w.heap.size → (w.alloc co).heap[k]? = w.heap[k]? := by
    intro k hk
    show (w.heap.push co)[k]? = _
    rw [Array.getElem?_push, if_neg (by omega)]
  have hcase : ∀ x rx, updR ρ h.next im x = some rx → (x = h.next ∧ rx = im) ∨ (x ≠ h.next ∧ ρ x = some rx) := by
    intro x rx hx
    unfold updR at hx
    by_cases e : x = h.next
    · rw [if_pos e] at hx; cases hx; exact .inl ⟨e, rfl⟩
    · rw [if_neg e] at hx; exact .inr ⟨e, hx⟩
  have hget : ∀ x, (h.new o).tr.get x = if x = h.next then some o else h.tr.get x := fun x => Tr.get_set _ _ _ _
  refine ⟨⟨?_, ?_, ?_, fun x p hp => ?_⟩, ⟨hle, ?_, by omega, rfl, rfl, rfl, fun k hk _ => hold k hk, ?_, ?_, ?_⟩⟩
  rotate_left 3
  · rw [hget] at hp
    by_cases e : x = h.next
    · subst e; simp [Heap.new]
    · rw [if_neg e] at hp
      have := S.wf x p hp
      simp only [Heap.new]; omega
  rotate_left 4
  · intro x rx hx
    rcases hcase x rx hx with ⟨rfl, rfl⟩ | ⟨hne, hx⟩
    · exact ⟨by simp [Heap.new], by rw [hsz, him]; omega⟩
    · have := S.low x rx hx
      exact ⟨by simp only [Heap.new]; omega, by omega⟩
  · intro x rx p hx hp
    rw [hget] at hp
    rcases hcase x rx hx with ⟨rfl, rfl⟩ | ⟨hne, hx⟩
    · rw [if_pos rfl] at hp; cases hp; exact hob
    · rw [if_neg hne] at hp
      exact ObjOk.mono hle (hold _ (S.low x rx hx).2) (S.obj x rx p hx hp)
  · intro x y rx ry p hx hy hw hp hne
    rw [hget] at hp
    rcases hcase x rx hx with ⟨ex, er⟩ | ⟨hnx, hx2⟩ <;> rcases hcase y ry hy with ⟨ey, er'⟩ | ⟨hny, hy2⟩
    · exact absurd (ex.trans ey.symm) hne
    · have := (S.low y ry hy2).2; rw [er, him]; omega
    · have := (S.low x rx hx2).2; rw [er', him]; omega
    · rw [if_neg hny] at hp
      obtain ⟨q, hq, hqr⟩ := hw
      rw [hget, if_neg hnx] at hq
      exact S.inj x y rx ry p hx2 hy2 ⟨q, hq, hqr⟩ hp hne
  · simp [Heap.new]
  · intro x rx hx hw
    rcases hcase x rx hx with ⟨rfl, rfl⟩ | ⟨hne, hx⟩
    · exact .inl (by omega)
    · obtain ⟨q, hq, hqr⟩ := hw
      rw [hget, if_neg hne] at hq
      exact .inr ⟨x, rx, hx, ⟨q, hq, hqr⟩, rfl⟩
  · intro x rx hx hn
    rcases hcase x rx hx with ⟨rfl, rfl⟩ | ⟨hne, hx⟩
    · exact Nat.le_refl _
    · rw [hx] at hn; cases hn
  · intro x rx p hx hp
    rcases hcase x rx hx with ⟨rfl, rfl⟩ | ⟨hne, hx⟩
    · exact .inl (by omega)
    · rw [hget, if_neg hne] at hp
      exact .inr ⟨x, rx, p, hx, hp, rfl⟩

/-- One object less. -/
theorem Sim.less (S : Sim CC ρ h w) (b : Nat) : Sim CC ρ { h with tr := h.tr.del b } w ∧ Ext ρ h w ρ { h with tr := h.tr.del b } w := by
  have hget : ∀ x p, ({ h with tr := h.tr.del b } : Heap).tr.get x = some p → h.tr.get x = some p := by
    intro x p hx
    simp only [Tr.get_del] at hx
    by_cases e : x = b
    · rw [if_pos e] at hx; cases hx
    · rwa [if_neg e] at hx
  refine ⟨⟨S.low, fun x r o hx ho => S.obj x r o hx (hget x o ho), fun x y rx ry p hx hy ⟨q, hq, hqr⟩ hp hne => S.inj x y rx ry p hx hy ⟨q, hget x q hq, hqr⟩ (hget y p hp) hne, fun x p hp => S.wf x p (hget x p hp)⟩,
    ⟨ρ.le_refl, Nat.le_refl _, Nat.le_refl _, rfl, rfl, rfl, fun _ _ _ => rfl, fun x r hx ⟨q, hq, hqr⟩ => .inr ⟨x, r, hx, ⟨q, hget x q hq, hqr⟩, rfl⟩, fun x r h1 h2 => (by rw [h1] at h2; cases h2), fun x r p hx hp => .inr ⟨x, r, p, hx, hget x p hp, rfl⟩⟩⟩

/-- A block gives its place to a new one. -/
theorem Sim.move (S : Sim CC ρ h w) {b : Nat} {r im : Img} {o o' : AObj} (hb : ρ b = some r) (ho : h.tr.get b = some o) (hrw : o.rw = true)
    (him : im.blk = r.blk) (ha : At1 r.blk w w') (hob : ObjOk CC (updR ρ h.next im) im o' w') :
    Sim CC (updR ρ h.next im) (({ h with tr := h.tr.del b } : Heap).new o') w' ∧ Ext ρ h w (updR ρ h.next im) (({ h with tr := h.tr.del b } : Heap).new o') w' := by
  have hwr : writable h b := ⟨o, ho, hrw⟩
  have hle := updR_le (r := im) S.fresh
  have hcase : ∀ x rx, updR ρ h.next im x = some rx → (x = h.next ∧ rx = im) ∨ (x ≠ h.next ∧ ρ x = some rx) := by
    intro x rx hx
    unfold updR at hx
    by_cases e : x = h.next
    · rw [if_pos e] at hx; cases hx; exact .inl ⟨e, rfl⟩
    · rw [if_neg e] at hx; exact .inr ⟨e, hx⟩
  have hget : ∀ x, (({ h with tr := h.tr.del b } : Heap).new o').tr.get x = if x = h.next then some o' else if x = b then none else h.tr.get x := by
    intro x
    simp only [Heap.new, Tr.get_set, Tr.get_del]
  have hold : ∀ x p, x ≠ h.next → (({ h with tr := h.tr.del b } : Heap).new o').tr.get x = some p → x ≠ b ∧ h.tr.get x = some p := by
    intro x p hx hp
    rw [hget, if_neg hx] at hp
    by_cases e : x = b
    · rw [if_pos e] at hp; cases hp
    · rw [if_neg e] at hp; exact ⟨e, hp⟩
  refine ⟨⟨?_, ?_, ?_, fun x p hp => ?_⟩, ⟨hle, by simp [Heap.new], Nat.le_of_eq ha.size.symm, ha.os, ha.tape, ha.output, ?_, ?_, ?_, ?_⟩⟩
  rotate_left 3
  · rw [hget] at hp
    by_cases e : x = h.next
    · subst e; simp [Heap.new]
    · rw [if_neg e] at hp
      by_cases e2 : x = b
      · rw [if_pos e2] at hp; cases hp
      · rw [if_neg e2] at hp
        have := S.wf x p hp
        simp only [Heap.new]; omega
  rotate_left 4
  · intro x rx hx
    rcases hcase x rx hx with ⟨rfl, rfl⟩ | ⟨hne, hx⟩
    · exact ⟨by simp [Heap.new], by rw [him, ha.size]; exact (S.low b r hb).2⟩
    · have := S.low x rx hx
      exact ⟨by simp only [Heap.new]; omega, by rw [ha.size]; exact this.2⟩
  · intro x rx p hx hp
    rcases hcase x rx hx with ⟨rfl, rfl⟩ | ⟨hne, hx⟩
    · rw [hget, if_pos rfl] at hp; cases hp; exact hob
    · obtain ⟨hxb, hp⟩ := hold x p hne hp
      exact ObjOk.mono hle (ha.other _ (S.inj b x r rx p hb hx hwr hp (Ne.symm hxb)).symm) (S.obj x rx p hx hp)
  · intro x y rx ry p hx hy hw hp hne
    obtain ⟨q, hq, hqr⟩ := hw
    rcases hcase x rx hx with ⟨ex, er⟩ | ⟨hnx, hx2⟩ <;> rcases hcase y ry hy with ⟨ey, er'⟩ | ⟨hny, hy2⟩
    · exact absurd (ex.trans ey.symm) hne
    · obtain ⟨hyb, hp⟩ := hold y p hny hp
      rw [er, him]
      exact S.inj b y r ry p hb hy2 hwr hp (Ne.symm hyb)
    · obtain ⟨hxb, hq⟩ := hold x q hnx hq
      rw [er', him]
      exact S.inj x b rx r o hx2 hb ⟨q, hq, hqr⟩ ho hxb
    · obtain ⟨hxb, hq⟩ := hold x q hnx hq
      obtain ⟨hyb, hp⟩ := hold y p hny hp
      exact S.inj x y rx ry p hx2 hy2 ⟨q, hq, hqr⟩ hp hne
  · intro k _ hk
    exact ha.other k (fun e => hk b r hb hwr e.symm)
  · intro x rx hx hw
    obtain ⟨q, hq, hqr⟩ := hw
    rcases hcase x rx hx with ⟨rfl, rfl⟩ | ⟨hne, hx⟩
    · exact .inr ⟨b, r, hb, hwr, him.symm⟩
    · obtain ⟨_, hq⟩ := hold x q hne hq
      exact .inr ⟨x, rx, hx, ⟨q, hq, hqr⟩, rfl⟩
  · intro x rx hx hn
    rcases hcase x rx hx with ⟨rfl, rfl⟩ | ⟨hne, hx⟩
    · exact Nat.le_refl _
    · rw [hx] at hn; cases hn
  · intro x rx p hx hp
    rcases hcase x rx hx with ⟨rfl, rfl⟩ | ⟨hne, hx⟩
    · exact .inr ⟨b, r, o, hb, ho, him.symm⟩
    · obtain ⟨_, hp⟩ := hold x p hne hp
      exact .inr ⟨x, rx, p, hx, hp, rfl⟩

/-- What is read at a place of the abstract memory stands in the true one. -/
theorem read_rel (S : Sim CC ρ h w) {b off n : Nat} {r : Img} {cs : List Value} (hb : ρ b = some r) (hr : readAt h b off n = some cs) :
    cs.length = n ∧ ∃ ccs : List Value, All2 (KR ρ) cs ccs ∧ ∀ (j : Nat) (v : Value), ccs[j]? = some v → w.cell? ((⟨r.blk, r.base + off, none⟩ : Addr).add j) = some v := by
  unfold readAt at hr
  split at hr
  · rename_i cells ro op s ho
    by_cases hl : ((cells.drop off).take n).length = n
    · simp only [hl, Nat.beq_refl] at hr
      simp only [if_true, Option.some.injEq] at hr
      subst hr
      refine ⟨hl, ?_⟩
      obtain ⟨ccs, el, fr, h1, _, _, _, _, h7⟩ := S.obj b r _ hb ho
      have hj : ∀ (j : Nat) (v : Value), ((cells.drop off).take n)[j]? = some v → ∃ c, ccs[r.base + off + j]? = some c ∧ KR ρ v c := by
        intro j v hv
        rw [List.getElem?_take] at hv
        split at hv
        · rw [List.getElem?_drop] at hv
          obtain ⟨c, hc, hk⟩ := h7 _ _ hv
          exact ⟨c, by rw [← hc]; congr 1; omega, hk⟩
        · cases hv
      refine ⟨(ccs.toList.drop (r.base + off)).take n, ?_, ?_⟩
      · refine All2.of_get ?_ ?_
        · rw [hl]
          by_cases h0 : n = 0
          · subst h0; simp
          · have : ((cells.drop off).take n)[n - 1]? = some ((cells.drop off).take n)[n - 1] := List.getElem?_eq_getElem (by omega)
            obtain ⟨c, hc, _⟩ := hj _ _ this
            have hlt := (Array.getElem?_eq_some_iff.1 hc).1
            simp; omega
        · intro i a c ha hc
          obtain ⟨c', hc', hk⟩ := hj i a ha
          rw [List.getElem?_take] at hc
          split at hc
          · rw [List.getElem?_drop] at hc
            have : ccs.toList[r.base + off + i]? = some c' := by simpa using hc'
            rw [this] at hc; cases hc; exact hk
          · cases hc
      · intro j v hv
        rw [List.getElem?_take] at hv
        split at hv
        · rw [List.getElem?_drop] at hv
          rw [addr_add]
          have : ccs[r.base + off + j]? = some v := by simpa using hv
          simp [World.cell?, h1, this]
        · cases hv
    · have : Nat.beq ((cells.drop off).take n).length n = false := by
        cases hb : Nat.beq ((cells.drop off).take n).length n with
        | false => rfl
        | true => exact absurd (Nat.eq_of_beq_eq_true hb) hl
      simp only [this] at hr
      simp at hr
  · cases hr

theorem splice_length {cs vs : List Value} {off : Nat} (h : off + vs.length ≤ cs.length) : (splice cs off vs).length = cs.length := by
  simp [splice]; omega

theorem splice_get {cs vs : List Value} {off j : Nat} (h : off + vs.length ≤ cs.length) : (splice cs off vs)[j]? = if off ≤ j ∧ j < off + vs.length then vs[j - off]? else cs[j]? := by
  unfold splice
  by_cases h1 : j < off
  · rw [if_neg (by omega), List.append_assoc, List.getElem?_append_left (by simp; omega), List.getElem?_take, if_pos h1]
  · by_cases h2 : j < off + vs.length
    · rw [if_pos ⟨by omega, h2⟩, List.append_assoc, List.getElem?_append_right (by simp; omega), List.length_take, Nat.min_eq_left (by omega), List.getElem?_append_left (by omega)]
    · rw [if_neg (by omega), List.getElem?_append_right (by simp; omega), List.length_append, List.length_take, Nat.min_eq_left (by omega), List.getElem?_drop]
      congr 1; omega

/-- Cells are written. -/
theorem write_rel (S : Sim CC ρ h w) {b off : Nat} {r : Img} {vs cvs : List Value} {h' : Heap} (hb : ρ b = some r) (hw : writeAt h b off vs = some h') (hv : All2 (KR ρ) vs cvs) :
    ∃ w', (storeCells ⟨r.blk, r.base + off, none⟩ cvs).run P w = .ok () w' ∧ Sim CC ρ h' w' ∧ Ext ρ h w ρ h' w' := by
  unfold writeAt at hw
  split at hw
  · rename_i cells op s ho
    by_cases hl : off + vs.length ≤ cells.length
    · rw [if_pos (Nat.ble_eq_true_of_le hl)] at hw
      cases hw
      obtain ⟨ccs, el, fr, h1, h2, h3, h5, h6, h7⟩ := S.obj b r _ hb ho
      have hfr : fr = (0, 0) := h6 rfl
      subst hfr
      have hlen := hv.length
      by_cases h0 : vs.length = 0
      · have hv0 : vs = [] := List.eq_nil_of_length_eq_zero h0
        have hc0 : cvs = [] := List.eq_nil_of_length_eq_zero (by omega)
        subst hv0; subst hc0
        refine ⟨w, rfl, Sim.upd S hb ho rfl ⟨rfl, rfl, rfl, rfl, fun _ _ => rfl⟩ ?_ _⟩
        have : splice cells off [] = cells := by simp [splice]
        rw [this]
        exact ⟨ccs, el, (0, 0), h1, h2, h3, h5, h6, h7⟩
      have hfit : r.base + off + 0 + cvs.length ≤ ccs.size := by
        have : cells[off + vs.length - 1]? = some cells[off + vs.length - 1] := List.getElem?_eq_getElem (by omega)
        obtain ⟨c, hc, _⟩ := h7 _ _ this
        have hlt := (Array.getElem?_eq_some_iff.1 hc).1
        omega
      have hrun := run_storeCells_at (P := P) r.blk (r.base + off) el cvs 0 ccs w h1 hfit (fun v hm => by
        obtain ⟨i, hi⟩ := List.getElem?_of_mem hm
        have hx : vs[i]? = some (vs[i]'(by rw [hlen]; exact (List.getElem?_eq_some_iff.1 hi).1)) := List.getElem?_eq_getElem _
        obtain ⟨c, hc, hk⟩ := hv.get hx
        rw [hi] at hc; cases hc
        exact oneCell_of_plain hk.plain.2)
      refine ⟨_, hrun, ?_⟩
      refine Sim.upd S hb ho rfl (At1.row _ _) ?_ _
      have hspl : ccs.toList.take (r.base + off + 0) ++ cvs ++ ccs.toList.drop (r.base + off + 0 + cvs.length) = splice ccs.toList (r.base + off) cvs := by simp [splice]
      refine ⟨_, el, (0, 0), setRow_heap w r.blk ccs _ el _ h1, by rw [splice_length hl]; exact h2, h3, ⟨?_, ?_⟩, fun _ => rfl, ?_⟩
      rotate_left 1
      · intro hop j c hj hc
        rw [hspl] at hc
        simp only [List.getElem?_toArray] at hc
        rw [splice_get (by simpa using hfit), if_neg (by omega)] at hc
        exact h5.2 hop j c hj (by simpa using hc)
      rotate_left 1
      · rw [h5.1]
        simp only [List.size_toArray, List.length_append, List.length_take, List.length_drop, Array.length_toList]
        omega
      intro j v hj
      rw [splice_get hl] at hj
      rw [hspl]
      have hg := splice_get (cs := ccs.toList) (vs := cvs) (off := r.base + off) (j := r.base + j) (by simpa using hfit)
      simp only [List.getElem?_toArray]
      rw [hg]
      by_cases hin : off ≤ j ∧ j < off + vs.length
      · rw [if_pos hin] at hj
        rw [if_pos (by omega)]
        obtain ⟨c, hc, hk⟩ := hv.get hj
        exact ⟨c, by rw [← hc]; congr 1; omega, hk⟩
      · rw [if_neg hin] at hj
        rw [if_neg (by omega)]
        obtain ⟨c, hc, hk⟩ := h7 j v hj
        exact ⟨c, by simpa using hc, hk⟩
    · have : Nat.ble (off + vs.length) cells.length = false := by
        cases hb : Nat.ble (off + vs.length) cells.length with
        | false => rfl
        | true => exact absurd (Nat.le_of_ble_eq_true hb) hl
      rw [this] at hw
      simp at hw
  · cases hw
end
end Go.AI
