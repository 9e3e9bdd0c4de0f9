import Derived.Test.YtkhnhflbgkndjaaT3
namespace Go.Proofs.Ytkhnhflbgkndjaa
open Go.AI

/-- A slice of the walk's own block. -/
def OwnS (h : Heap) (v : Value) (b : Nat) (ys : List Mv) (n : Nat) : Prop :=
  v = .slice (some ⟨b, 0, none⟩) n ys.length ∧ n ≤ ys.length ∧ ∃ o s, h.tr.get b = some (.blk (encMv.flat ys) false o s) ∧ (o = 0 ∨ o = 3)

theorem OwnS.sl {h : Heap} {v : Value} {b n : Nat} {ys : List Mv} (s : OwnS h v b ys n) : SliceOf encMv h v (ys.take n) := by
  obtain ⟨rfl, hn, o, st, hb, _⟩ := s
  have hl : (ys.take n).length = n := by simp; omega
  refine ⟨_, _, by rw [hl], .inr ⟨b, 0, _, _, _, _, rfl, hb, by rw [hl, Enc.length_flat]; simp; omega, ?_⟩⟩
  rw [hl, List.drop_zero, Enc.take_flat]

theorem clone_does {h : Heap} (ok : HOk h) {v : Value} {xs : List Mv} (hs : SliceOf encMv h v xs) (hn : xs.length < 1000000) :
    Does FF 17 [v] h (fun r h' => Grows Nob h h' ∧ ((xs = [] ∧ SliceOf encMv h' r []) ∨ ∃ b, h.next ≤ b ∧ OwnS h' r b xs xs.length)) := by
  obtain ⟨a, cap, rfl, hs'⟩ := id hs
  refine Does.of code17 ?_
  unfold body17
  cases a with
  | none =>
    have hx : xs = [] := by
      rcases hs' with ⟨h, _⟩ | ⟨b, off, cs, ro, o, st, h, _⟩
      · exact h
      · cases h
    subst hx
    simp
    exact ⟨.refl ok, .inl (.nil _ _ _)⟩
  | some a =>
    have hnews := news_sl (E := encMv) (z := [.int .i64 0, .bool false, .int .i64 0]) rfl (hs.nob ok (grow_newBlk ok [] 0))
    cases xs with
    | nil =>
      have hnews' : news (newBlk h [] 0) [.int .i64 0, .bool false, .int .i64 0] false (.slice (some a) 0 cap) = some (0, []) := by simpa using hnews
      simp [hnews', appendF, appendV, repl]
      exact ⟨grow_newBlk ok _ _, .inl (.nil' _ _ _ _ _)⟩
    | cons x xs =>
      have hnews' : news (newBlk h [] 0) [.int .i64 0, .bool false, .int .i64 0] false (.slice (some a) (xs.length + 1) cap) = some (xs.length + 1, encMv.flat (x :: xs)) := by simpa using hnews
      have h1 : xs.length + 1 ≤ 1099511627776 := by simp at hn; omega
      have h2 : (xs.length + 1) * 24 ≤ 1099511627776 := by simp at hn; omega
      simp [hnews', appendF, appendV, repl, roomy, h1, h2, -Enc.flat_cons]
      refine ⟨((grow_newBlk ok _ _).new _ _), h.next + 1, by omega, by simp, by simp, 3, 0, by simp, .inr rfl⟩

def zero : Mv := ⟨0, false, 0⟩
theorem repl_flat (k : Nat) : repl [.int .i64 0, .bool false, .int .i64 0] k = encMv.flat (List.replicate k zero) := by
  induction k with
  | zero => rfl
  | succ k ih => rw [List.replicate_succ, Enc.flat_cons, ← ih]; rfl

theorem splice_flats (ys zs : List Mv) (i : Nat) : splice (encMv.flat ys) (i * 3) (encMv.flat zs) = encMv.flat (ys.take i ++ zs ++ ys.drop (i + zs.length)) := by
  unfold splice
  rw [show i * 3 = i * encMv.sz from rfl, Enc.take_flat, Enc.length_flat, ← Nat.add_mul, Enc.drop_flat, Enc.flat_append, Enc.flat_append]

/-- what a function without memory is to do -/
def TellsAll (fv : Value) (p : Mv → Bool) : Prop := ∀ h1, HOk h1 → ∀ x, DoesV FF fv [.agg ⟨encMv.enc x⟩] h1 (fun v h2 => v = .bool (p x) ∧ Grows Nob h1 h2)

/-- slices.Delete of one element -/
theorem delete_does {h : Heap} (ok : HOk h) {v : Value} {b n i j : Nat} {ys : List Mv} (hs : OwnS h v b ys n) (hbig : n < 1000000) (hi : i < n) (hj : j = i + 1) :
    Does FF 22 [v, .int .i64 i, .int .i64 j] h (fun r h' => Grows (· = b) h h' ∧ ∃ ys', ys'.take (n - 1) = (ys.take n).eraseIdx i ∧ OwnS h' r b ys' (n - 1)) := by
  obtain ⟨rfl, hn, o, st, hb, ho⟩ := hs
  refine Does.of code22 ?_
  unfold body22
  have h1 : j ≤ n := by omega
  have ho' : (o.beq 0 || o.beq 3) = true := by rcases ho with rfl | rfl <;> rfl
  have hz : ¬ (i : Int) = (j : Int) := by omega
  have hij : i ≤ j := by omega
  have hi' : i ≤ n := by omega
  have hi2 : i ≤ ys.length := by omega
  have hjl : j ≤ ys.length := by omega
  have hnews : news (tick h) [.int .i64 0, .bool false, .int .i64 0] false (.slice (some ⟨b, j * 3, none⟩) (n - j) (ys.length - j)) = some (n - j, encMv.flat ((ys.take n).drop j)) := by
    have hl : ((ys.take n).drop j).length = n - j := by simp; omega
    have := news_sl (E := encMv) (h := tick h) (z := [.int .i64 0, .bool false, .int .i64 0]) rfl (v := .slice (some ⟨b, j * 3, none⟩) ((ys.take n).drop j).length (ys.length - j)) (ys := (ys.take n).drop j)
      ⟨_, _, rfl, .inr ⟨b, j * 3, _, _, _, _, rfl, hb, by rw [hl, Enc.length_flat]; simp; omega, by rw [show j * 3 = j * encMv.sz from rfl, Enc.drop_flat, Enc.take_flat, hl, List.drop_take]⟩⟩
    rw [hl] at this
    exact this
  have hl1 : ((ys.take n).drop j).length = n - j := by simp; omega
  have happ : ∃ h2, appendV (tick h) [.int .i64 0, .bool false, .int .i64 0] 24 (.slice (some ⟨b, 0, none⟩) i ys.length) (n - j) (encMv.flat ((ys.take n).drop j)) = some (.slice (some ⟨b, 0, none⟩) (n - 1) ys.length, h2) ∧
      Grows (· = b) h h2 ∧ ∃ s, h2.tr.get b = some (.blk (encMv.flat (ys.take i ++ (ys.take n).drop j ++ ys.drop (n - 1))) false o s) := by
    by_cases hnj : n - j = 0
    · refine ⟨tick h, ?_, (grow_tick ok).nob, st, ?_⟩
      · rw [hnj]; simp [appendV, hi2, show n - 1 = i by omega]
      · rw [tr_tick, hb, show (ys.take n).drop j = [] from List.drop_eq_nil_of_le (by simp; omega), show n - 1 = i by omega, List.append_nil, List.take_append_drop]
    · have e1 : n - j + i = n - 1 := by omega
      have e2 : i + (n - j) = n - 1 := by omega
      have r1 : roomy (n - 1) = true := by simp [roomy]; omega
      have r2 : roomy ((n - 1) * 24) = true := by simp [roomy]; omega
      have hw : writeAt (tick h) b (i * 3) (encMv.flat ((ys.take n).drop j)) = some (put (tick h) b (i * 3) (encMv.flat ys) (encMv.flat ((ys.take n).drop j)) o) :=
        writeAt_eq hb (by rw [Enc.length_flat, Enc.length_flat, hl1]; simp; omega)
      have hcap : n - 1 ≤ ys.length := by omega
      refine ⟨put (tick h) b (i * 3) (encMv.flat ys) (encMv.flat ((ys.take n).drop j)) o, ?_, ((grow_tick ok).nob (S := (· = b))).put ⟨st, hb⟩ (.inr rfl), h.clock + 1, ?_⟩
      · simp [appendV, hnj, e2, r1, r2, hb, hcap, hw, -writeAt_def]
      · rw [get_put_same, splice_flats, hl1, e2]; rfl
  obtain ⟨h2, ha, g2, s2, hb2⟩ := happ
  have hylen : (ys.take i ++ (ys.take n).drop j ++ ys.drop (n - 1)).length = ys.length := by simp; omega
  have hyt : (ys.take i ++ (ys.take n).drop j ++ ys.drop (n - 1)).take (n - 1) = (ys.take n).eraseIdx i := by
    have hl2 : (ys.take i ++ (ys.take n).drop j).length = n - 1 := by simp; omega
    rw [List.take_append_of_le_length (by omega), ← hl2, List.take_length, List.eraseIdx_eq_take_drop_succ, List.take_take, Nat.min_eq_left (by omega), hj]
  generalize (ys.take i ++ (ys.take n).drop j ++ ys.drop (n - 1)) = ys1 at hb2 hylen hyt
  have c1 : n - 1 ≤ n := by omega
  have c2 : n - (n - 1) = 1 := by omega
  have c3 : n - 1 ≤ ys.length := by omega
  have hfit : (n - 1) * 3 + 3 ≤ ys.length * 3 := by omega
  simp [h1, hn, hb, ho', hz, hi', hi2, hij, hjl, appendF, hnews, ha, hb2, c1, c2, c3, repl, hylen, hfit]
  refine ⟨g2.put ⟨s2, hb2⟩ (.inr rfl), ys1.set (n - 1) zero, ?_, by simp [hylen], by simp; omega, o, h2.clock, ?_, ho⟩
  · rw [List.take_set_of_le (Nat.le_refl _)]; exact hyt
  · rw [get_put_same]
    have := encMv.splice_flat ys1 (n - 1) zero (by omega)
    simp only [encMv_sz] at this
    rw [← this]
    rfl

theorem take_set_self (l : List Mv) (i : Nat) (x : Mv) (h : i < l.length) : (l.set i x).take (i + 1) = l.take i ++ [x] := by
  rw [List.set_eq_take_append_cons_drop, if_pos h, List.take_append, List.length_take, Nat.min_eq_left (by omega), show i + 1 - i = 1 by omega]
  rw [List.take_of_length_le (by simp; omega)]
  simp

/-- slices.DeleteFunc -/
theorem deleteFunc_does {h : Heap} (ok : HOk h) {v fv : Value} {b : Nat} {ys : List Mv} {p : Mv → Bool} (hs : OwnS h v b ys ys.length) (hbig : ys.length < 1000000) (hf : TellsAll fv p) :
    Does FF 16 [v, fv] h (fun r h' => Grows (· = b) h h' ∧ ∃ ys' n, ys'.take n = ys.filter (fun x => !p x) ∧ OwnS h' r b ys' n) := by
  obtain ⟨rfl, _, o, st, hb, ho⟩ := id hs
  have hsl := hs.sl
  rw [List.take_length] at hsl
  refine Does.of code16 ?_
  unfold body16
  simp
  refine OpsR.call (by simpa using index_does ok hsl hbig (fun h1 g x _ => hf h1 g.ok x)) ?_
  rintro _ h1 ⟨rfl, g1⟩
  have hb1 : h1.tr.get b = some (.blk (encMv.flat ys) false o st) := g1.get ok hb (fun h => h)
  cases hx : ys.findIdx? p with
  | none =>
    rw [List.findIdx?_eq_none_iff] at hx
    simp
    refine ⟨g1.nob, ys, ys.length, ?_, rfl, Nat.le_refl _, o, st, hb1, ho⟩
    rw [List.take_length, List.filter_eq_self.mpr]
    intro x hx'; simp [hx x hx']
  | some i0 =>
    rw [List.findIdx?_eq_some_iff_getElem] at hx
    obtain ⟨hi0, hp0, hpl⟩ := hx
    have hz : ¬ (i0 : Int) = -1 := by omega
    have hw := wrap_i64 (i0 + 1) (by omega) (by omega)
    simp [hz, hw]
    have ho' : (o.beq 0 || o.beq 3) = true := by rcases ho with rfl | rfl <;> rfl
    refine Runs.loop (fun n e h2 => ∃ i j zs s, i < j ∧ j ≤ ys.length ∧ n = ys.length - j ∧ Env.get e 5 = .int .i64 (i : Nat) ∧ Env.get e 6 = .int .i64 (j : Nat) ∧ Env.get e 0 = .slice (some ⟨b, 0, none⟩) ys.length ys.length ∧ Env.get e 1 = fv ∧
      zs.length = ys.length ∧ zs.take i = (ys.take j).filter (fun x => !p x) ∧ zs.drop j = ys.drop j ∧ h2.tr.get b = some (.blk (encMv.flat zs) false o s) ∧ Grows (· = b) h h2) ?_ (n := ys.length - (i0 + 1))
      ⟨i0, i0 + 1, ys, st, by omega, by omega, rfl, by simp, by simp, by simp, by simp, rfl, ?_, rfl, hb1, g1.nob⟩
    · rintro n e h2 ⟨i, j, zs, s, hij, hj, rfl, e5, e6, e0, e1, hzl, hzt, hzd, hb2, g⟩
      unfold round16_0
      by_cases hlt : j < ys.length
      · have hlz : j < zs.length := by omega
        have hx : zs[j]? = some ys[j] := by
          have : (zs.drop j)[0]? = (ys.drop j)[0]? := by rw [hzd]
          simpa [hlt] using this
        have hne : ¬ b = h2.next := by have := g.ok.wf _ _ hb2; omega
        have hlt2 : b < h2.next := g.ok.wf _ _ hb2
        have hr := (Enc.part_flat encMv zs j 0 3 _ hx (by simp))
        simp only [encMv_sz, Nat.add_zero] at hr
        have hfit : j * 3 + 3 ≤ ys.length * 3 := by omega
        simp [e5, e6, e0, e1, hlt, hb2, hr, hzl, hfit, hne]
        have g3 := ((grow_newBlk g.ok [.int .i64 0, .bool false, .int .i64 0] 0).put (b := h2.next) (off := 0) (cs := [.int .i64 0, .bool false, .int .i64 0]) (vs := [.int .i64 ys[j].to, .bool ys[j].reg, .int .i64 ys[j].n]) (o := 0) ⟨0, by simp⟩ (.inl (Nat.le_refl _)))
        have hb3 := g3.get g.ok hb2 (fun h => h)
        have hl3 : (put (newBlk h2 [.int .i64 0, .bool false, .int .i64 0] 0) h2.next 0 [.int .i64 0, .bool false, .int .i64 0] [.int .i64 ys[j].to, .bool ys[j].reg, .int .i64 ys[j].n] 0).tr.get h2.next = some (.blk [.int .i64 ys[j].to, .bool ys[j].reg, .int .i64 ys[j].n] false 0 h2.clock) := by simp
        generalize hgen : put (newBlk h2 [.int .i64 0, .bool false, .int .i64 0] 0) h2.next 0 [.int .i64 0, .bool false, .int .i64 0] [.int .i64 ys[j].to, .bool ys[j].reg, .int .i64 ys[j].n] 0 = h3 at *
        refine OpsR.callV (V := fun v h4 => v = .bool (p ys[j]) ∧ Grows Nob h3 h4) (by simpa using hf h3 g3.ok _) ?_
        rintro _ h4 ⟨rfl, g4⟩
        have hb4 := g4.get g3.ok hb3 (fun h => h)
        have hl4 := g4.get g3.ok hl3 (fun h => h)
        have gg : Grows (· = b) h h4 := (g.trans g3.nob).trans g4.nob
        have hwj := wrap_i64 (j + 1) (by omega) (by omega)
        have hfilt : (ys.take (j + 1)).filter (fun x => !p x) = (ys.take j).filter (fun x => !p x) ++ (if p ys[j] then [] else [ys[j]]) := by
          rw [List.take_succ_eq_append_getElem hlt, List.filter_append]
          by_cases hq : p ys[j] = true <;> simp [hq]
        cases hp : p ys[j] with
        | true =>
          simp [e5, e6, e0, e1, hwj]
          refine ⟨ys.length - (j + 1), by omega, i, j + 1, by omega, by omega, rfl, rfl, by simp, zs, hzl, ?_, ?_, ⟨s, hb4⟩, gg⟩
          · rw [hfilt, hp, hzt]; simp
          · rw [← List.drop_drop, hzd, List.drop_drop]
        | false =>
          have hwi := wrap_i64 (i + 1) (by omega) (by omega)
          have hfi : i * 3 + 3 ≤ ys.length * 3 := by omega
          have hiy : i < ys.length := by omega
          simp [e5, e6, e0, e1, hwj, hwi, hl4, hb4, hfi, hiy, hzl, -get_put']
          refine ⟨ys.length - (j + 1), by omega, i + 1, j + 1, by omega, by omega, rfl, rfl, rfl, zs.set i ys[j], by simp [hzl], ?_, ?_, ?_, gg.put ⟨s, hb4⟩ (.inr rfl)⟩
          · rw [hfilt, hp, ← hzt, take_set_self _ _ _ (by omega)]; simp
          · rw [List.drop_set_of_lt (by omega), ← List.drop_drop, hzd, List.drop_drop]
          · have := encMv.splice_flat zs i ys[j] (by omega)
            simp only [encMv_sz] at this
            rw [← this]; rfl
      · have hjl : j = ys.length := by omega
        subst hjl
        have hil : i ≤ ys.length := by omega
        have hiy : i ≤ zs.length := by omega
        have hlen2 : i * 3 + (ys.length - i) * 3 ≤ ys.length * 3 := by omega
        have hrl : (repl [Value.int .i64 0, .bool false, .int .i64 0] (ys.length - i)).length = (ys.length - i) * 3 := by rw [repl_flat, Enc.length_flat]; simp
        have hk : ¬ ys.length - i = 0 := by omega
        have hcl : (Nat.beq (ys.length - i) 0) = false := by
          cases h : Nat.beq (ys.length - i) 0 with
          | true => exact absurd (Nat.eq_of_beq_eq_true h) hk
          | false => rfl
        have ho2 : ∀ h3 : Heap, True := fun _ => trivial
        simp [e5, e6, e0, e1, hb2, ho', hil, hrl, hlen2, hzl, hk, -get_put']
        refine ⟨g.put ⟨s, hb2⟩ (.inr rfl), zs.take i ++ List.replicate (ys.length - i) zero ++ zs.drop (i + (ys.length - i)), i, ?_, by simp [hzl]; omega, by simp [hzl]; omega, o, h2.clock, ?_, ho⟩
        · rw [List.append_assoc, List.take_append_of_le_length (by simp; omega), List.take_take, Nat.min_self, hzt, List.take_length]
        · rw [get_put_same, repl_flat, splice_flats]
          simp
    · rw [List.take_succ_eq_append_getElem hi0, List.filter_append, List.filter_eq_self.mpr]
      · simp [hp0]
      · intro x hx
        obtain ⟨k, hk, rfl⟩ := List.mem_iff_getElem.mp hx
        simp at hk
        simpa using hpl k (by omega)
end Go.Proofs.Ytkhnhflbgkndjaa
