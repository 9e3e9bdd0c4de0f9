import Derived.Test.YtkhnhflbgkndjaaT12
namespace Go.Proofs.Ytkhnhflbgkndjaa
open Go.AI

theorem faultGo_some {s : Int} : ∀ {ms pre : List (Int × Int)} {i : Nat} {f : Int × Int}, faultGo s i pre ms = some f → f.1 ≠ 0
  | [], _, _, _, h => by simp [faultGo] at h
  | m :: r, pre, i, f, h => by
    unfold faultGo at h
    split at h
    · cases h; simp
    · split at h
      · cases h; simp
      · exact faultGo_some h

theorem faultGo_none {s : Int} : ∀ {ms pre : List (Int × Int)} {i : Nat}, faultGo s i pre ms = none → ∀ m ∈ ms, badM s m = false
  | [], _, _, _ => by simp
  | m :: r, pre, i, h => by
    unfold faultGo at h
    split at h
    · cases h
    · rename_i hb
      split at h
      · cases h
      · intro x hx
        rcases List.mem_cons.mp hx with rfl | hx
        · simpa using hb
        · exact faultGo_none h x hx

theorem fault_zero {ms : List (Int × Int)} {s : Int} (h : (faultM ms s).1 = 0) : faultM ms s = (0, 0) ∧ ms.length ≤ 100 ∧ faultGo s 0 [] ms = none ∧ 0 ≤ s ∧ s ≤ 100 := by
  unfold faultM at h ⊢
  split at h
  · simp at h
  · rename_i hl
    rw [if_neg hl]
    split at h
    · rename_i f hf; exact absurd h (faultGo_some hf)
    · rename_i hf
      split at h
      · simp at h
      · rename_i hs
        rw [hf]
        simp only [hs, if_false, true_and]
        omega

def OwnI (h : Heap) (a : Option Addr) (cap : Nat) (s : Int) (l5 : Value) (t6 t7 : Nat) (lp : List (Int × Int)) (ms : List (Int × Int)) (n : Nat) (e : Env) (h1 : Heap) : Prop :=
  ∃ i w, n = ms.length - i ∧ i ≤ ms.length ∧ Env.get e 9 = .int .i64 (i : Nat) ∧ Env.get e 0 = .slice a ms.length cap ∧ Env.get e 1 = .int .i64 s ∧ Env.get e 5 = l5 ∧
    Env.get e 6 = .pointer (some ⟨t6, 0, none⟩) ∧ Env.get e 7 = .pointer (some ⟨t7, 0, none⟩) ∧ Env.get e 8 = w ∧ AccOf encMv h.next h1 w ((ms.take i).map toMv) ∧ Grows Nob h h1

theorem own_loop {h h1 : Heap} {s : Int} {ms lp : List (Int × Int)} {a : Option Addr} {cap t6 t7 : Nat} {l5 : Value} (ok : HOk h) (hs : SliceOf encP h (.slice a ms.length cap) ms) (hl : ms.length ≤ 100) {n : Nat} {e : Env} (H : OwnI h a cap s l5 t6 t7 lp ms n e h1) {Q : AExit → Env → Heap → Prop}
    (hQ : ∀ e h2 w, Env.get e 0 = .slice a ms.length cap → Env.get e 1 = .int .i64 s → Env.get e 5 = l5 → Env.get e 6 = .pointer (some ⟨t6, 0, none⟩) → Env.get e 7 = .pointer (some ⟨t7, 0, none⟩) → Env.get e 8 = w → AccOf encMv h.next h2 w (ms.map toMv) → Grows Nob h h2 → Q (.exit 0) e h2) :
    Runs FF (.loop round3_1) e h1 Q := by
  refine Runs.loop (OwnI h a cap s l5 t6 t7 lp ms) ?_ H
  rintro n e h2 ⟨i, w, rfl, hi, e9, e0, e1, e5, e6, e7, e8, hA, g⟩
  unfold round3_1
  by_cases hlt : i < ms.length
  · have hx : ms[i]? = some ms[i] := List.getElem?_eq_getElem hlt
    obtain ⟨b', off, cap', hv', _, _, hr⟩ := (hs.nob ok g).read hx
    cases hv'
    have hr0 := hr 0 1 (by simp)
    have hr1 := hr 1 1 (by simp)
    simp only [encP_sz, Nat.add_zero, encP_enc] at hr0 hr1
    have ht (b o n) : readAt (tick h2) b o n = readAt h2 b o n := rfl
    have hw := wrap_i64 (i + 1) (by omega) (by omega)
    have gt : Grows Nob h2 (tick h2) := grow_tick g.ok
    have g8 := grow_newBlk gt.ok (encMv.enc (toMv ms[i])) 0
    have hw8 : SliceOf encMv (newBlk (tick h2) (encMv.enc (toMv ms[i])) 0) (.slice (some ⟨h2.next, 0, none⟩) 1 1) [toMv ms[i]] := ⟨_, _, rfl, .inr ⟨h2.next, 0, _, _, _, _, rfl, get_newBlk (tick h2) _ _, by simp, by simp⟩⟩
    have hA8 := (hA.grow g.ok gt (fun _ _ h => h)).grow gt.ok g8 (fun _ _ h => h)
    have hnx : h.next ≤ (newBlk (tick h2) (encMv.enc (toMv ms[i])) 0).next := by have := g.next; simp; omega
    obtain ⟨w', h9, ha, hA9, g9, hd9⟩ := acc_append (bytes := 24) g8.ok (z := [.int .i64 0, .bool false, .int .i64 0]) rfl hA8 hw8 (by simp; omega) (by decide) hnx
    rw [encMv_enc] at ha
    simp only [toMv] at ha
    have g10 : Grows Nob h h9 := ((g.trans gt).trans g8).trans' g9 (fun _ _ h => h) (fun x hx h => absurd (hA8.of h) (by omega))
    simp [e9, e0, e1, e5, e6, e7, e8, hlt, ht, hr0, hr1, ha, hw, -readAt_def]
    refine ⟨ms.length - (i + 1), by omega, i + 1, w', rfl, by omega, by simp, by simp [e0], by simp [e1], by simp [e5], by simp [e6], by simp [e7], by simp, ?_, g10⟩
    rw [List.take_succ_eq_append_getElem hlt, List.map_append]; exact hA9
  · have : i = ms.length := by omega
    subst this
    simp [e9, e0]
    rw [List.take_length] at hA
    exact hQ _ _ w (by simp [e0]) (by simp [e1]) (by simp [e5]) (by simp [e6]) (by simp [e7]) (by simp [e8]) hA g

theorem one_fault : faultM [(1, 0)] 2 = (0, 0) := by decide
theorem one_row : (rowP [(1, 0)] 2).length = 1 := by decide

theorem outMoves_does {h : Heap} (ok : HOk h) {v : Value} {ms : List (Int × Int)} {s : Int} (hs : SliceOf encP h v ms) :
    Does FF 3 [v, .int .i64 s] h (fun r h' => r = .bool true ∧ Grows Nob h h') := by
  obtain ⟨a, cap, rfl, hs'⟩ := id hs
  refine Does.of code3 ?_
  unfold body3
  simp
  refine OpsR.call (by simpa using moves_does ok hs) ?_
  rintro _ h1 ⟨g1, l, rfl, hl⟩
  have g2 : Grows Nob h1 (put (newBlk h1 [.int .i64 0, .int .i64 0] 0) h1.next 0 [.int .i64 0, .int .i64 0] [.int .i64 (faultM ms s).1, .int .i64 (faultM ms s).2] 0) := (grow_newBlk g1.ok _ _).put ⟨_, get_newBlk _ _ _⟩ (.inl (Nat.le_refl _))
  have hT2 : (put (newBlk h1 [.int .i64 0, .int .i64 0] 0) h1.next 0 [.int .i64 0, .int .i64 0] [.int .i64 (faultM ms s).1, .int .i64 (faultM ms s).2] 0).tr.get h1.next = some (.blk [.int .i64 (faultM ms s).1, .int .i64 (faultM ms s).2] false 0 h1.clock) := by simp
  simp
  generalize put (newBlk h1 [.int .i64 0, .int .i64 0] 0) h1.next 0 [.int .i64 0, .int .i64 0] [.int .i64 (faultM ms s).1, .int .i64 (faultM ms s).2] 0 = h2 at *
  refine OpsR.call (by simpa using movesFault_does g2.ok (hs.nob ok (g1.trans g2))) ?_
  rintro _ h3 ⟨rfl, g3⟩
  have hT3 := g3.get g2.ok hT2 (fun h => h)
  have g4 : Grows Nob h3 (put (newBlk h3 [.int .i64 0, .int .i64 0] 0) h3.next 0 [.int .i64 0, .int .i64 0] [.int .i64 (faultM ms s).1, .int .i64 (faultM ms s).2] 0) := (grow_newBlk g3.ok _ _).put ⟨_, get_newBlk _ _ _⟩ (.inl (Nat.le_refl _))
  have hU4 : (put (newBlk h3 [.int .i64 0, .int .i64 0] 0) h3.next 0 [.int .i64 0, .int .i64 0] [.int .i64 (faultM ms s).1, .int .i64 (faultM ms s).2] 0).tr.get h3.next = some (.blk [.int .i64 (faultM ms s).1, .int .i64 (faultM ms s).2] false 0 h3.clock) := by simp
  have hrU : readAt (put (newBlk h3 [.int .i64 0, .int .i64 0] 0) h3.next 0 [.int .i64 0, .int .i64 0] [.int .i64 (faultM ms s).1, .int .i64 (faultM ms s).2] 0) h3.next 0 1 = some [.int .i64 (faultM ms s).1] := by simp
  have hg34 : Grows Nob h (put (newBlk h3 [.int .i64 0, .int .i64 0] 0) h3.next 0 [.int .i64 0, .int .i64 0] [.int .i64 (faultM ms s).1, .int .i64 (faultM ms s).2] 0) := ((g1.trans g2).trans g3).trans g4
  rcases hl with ⟨hc, rfl⟩ | ⟨hc, hA⟩
  · have hne : ¬ h1.next = h3.next := by have := g3.ok.wf _ _ hT3; omega
    simp [hc, hT3, hne]
    exact hg34
  · obtain ⟨hf, hlen, hgo, hs0, hs1⟩ := fault_zero hc
    have hgood := faultGo_none hgo
    rw [hf] at hT3 hU4 hrU g4 hg34
    simp [hf, hrU, -readAt_def]
    have hA4 := (((hA.grow g1.ok g2 (fun _ _ h => h)).grow g2.ok g3 (fun _ _ h => h)).grow g3.ok g4 (fun _ _ h => h))
    have hT4 := g4.get g3.ok hT3 (fun h => h)
    generalize put (newBlk h3 [.int .i64 0, .int .i64 0] 0) h3.next 0 [.int .i64 0, .int .i64 0] [.int .i64 0, .int .i64 0] 0 = h4 at *
    refine own_loop (s := s) (ms := ms) (lp := rowP ms s) (a := a) (cap := cap) (t6 := h1.next) (t7 := h3.next) (l5 := l) hg34.ok (hs.nob ok hg34) hlen (n := ms.length) ⟨0, .slice none 0 0, rfl, by omega, by simp, by simp, by simp, by simp, by simp, by simp, by simp, .inl ⟨rfl, rfl⟩, .refl hg34.ok⟩ ?_
    intro e h5 w e0 e1 e5 e6 e7 e8 hW5 g5
    have hT5 := g5.get hg34.ok hT4 (fun h => h)
    have hU5 := g5.get hg34.ok hU4 (fun h => h)
    have hA5 := hA4.grow hg34.ok g5 (fun _ _ h => h)
    simp
    refine OpsR.call (by simpa [e8, e1] using refRow_does g5.ok hW5.sl (s := s) (by simp; omega) (fun m hm => by
      obtain ⟨p, hp, rfl⟩ := List.mem_map.mp hm
      have := good_case (hgood p hp)
      simpa [toMv] using this.2.2.2.2.2.2.2.2.1)) ?_
    rintro r h6 ⟨g6, hR6⟩
    have hT6 := g6.get g5.ok hT5 (fun h => h)
    have hU6 := g6.get g5.ok hU5 (fun h => h)
    have hA6 := hA5.grow g5.ok g6 (fun _ _ h => h)
    have hgoal : rowP ms s = (rowM s ((ms.map toMv).filter fun m => !selfy m)).map ofMv := rfl
    have hrl : (rowM s ((ms.map toMv).filter fun m => !selfy m)).length ≤ 201 := by
      have h1 := rowN_length (s := s) (2 * ((ms.map toMv).filter fun m => !selfy m).length + 1) ((ms.map toMv).filter fun m => !selfy m) []
      have h2 := List.length_filter_le (fun m => !selfy m) (ms.map toMv)
      rw [List.length_map] at h2
      unfold rowM
      simp at h1 ⊢
      omega
    rw [hgoal] at hA6
    generalize rowM s ((ms.map toMv).filter fun m => !selfy m) = rows at *
    obtain ⟨al, capl, hvl, _⟩ := id hA6.sl
    obtain ⟨ar, capr, hvr, _⟩ := id hR6.sl
    subst hvl hvr
    have hT6' : readAt h6 h1.next 0 2 = some [.int .i64 0, .int .i64 0] := by simp [hT6]
    have hU6' : readAt h6 h3.next 0 2 = some [.int .i64 0, .int .i64 0] := by simp [hU6]
    simp [e0, e1, e5, e6, e7, e8, hT6', hU6', -readAt_def]
    have gg6 : Grows Nob h h6 := (hg34.trans g5).trans g6
    have hSA := hA6.sl
    have hSR := hR6.sl
    rw [List.length_map] at hSA
    refine Runs.loop (fun n e h1 => ∃ j, n = rows.length - j ∧ j ≤ rows.length ∧ Env.get e 11 = .int .i64 (j : Nat) ∧ Env.get e 5 = .slice al rows.length capl ∧ Env.get e 10 = .slice ar rows.length capr ∧ Grows Nob h6 h1) ?_ (n := rows.length)
      ⟨0, rfl, by omega, by simp, by simp [e5], by simp, .refl g6.ok⟩
    rintro n e' h7 ⟨j, rfl, hj, f11, f5, f10, g7⟩
    unfold round3_0
    by_cases hjl : j < rows.length
    · have hx : rows[j]? = some rows[j] := List.getElem?_eq_getElem hjl
      have hx' : (rows.map ofMv)[j]? = some (ofMv rows[j]) := by rw [List.getElem?_map, hx]; rfl
      obtain ⟨b1, off1, cap1, hv1, _, _, hr1⟩ := (hSR.nob g6.ok g7).read hx
      cases hv1
      obtain ⟨b2, off2, cap2, hv2, _, _, hr2⟩ := (hSA.nob g6.ok g7).read hx'
      rw [List.length_map] at hv2
      cases hv2
      have ht (b o n) : readAt (tick h7) b o n = readAt h7 b o n := rfl
      have hq1 := hr1 0 1 (by simp)
      have hq2 := hr1 2 1 (by simp)
      have hq3 := hr2 0 2 (by simp)
      simp only [encMv_sz, encP_sz, Nat.add_zero, encMv_enc, encP_enc] at hq1 hq2 hq3
      have hw := wrap_i64 (j + 1) (by omega) (by omega)
      have hq2' : readAt h7 b1 (off1 + j * 3 + 1 + 1) 1 = some [.int .i64 rows[j].n] := hq2
      simp [f11, f5, f10, hjl, ht, hq1, hq2', hq3, ofMv, hw, -readAt_def]
      exact ⟨rows.length - (j + 1), by omega, j + 1, rfl, by omega, by simp, g7.tick⟩
    · have : j = rows.length := by omega
      subst this
      simp [f11, f5]
      have g8 := grow_newBlk g7.ok (encP.enc (1, 0)) 0
      have hw8 : SliceOf encP (newBlk h7 (encP.enc (1, 0)) 0) (.slice (some ⟨h7.next, 0, none⟩) 1 1) [(1, 0)] := ⟨_, _, rfl, .inr ⟨h7.next, 0, _, _, _, _, rfl, get_newBlk _ _ _, by simp, by simp⟩⟩
      rw [encP_enc] at g8 hw8
      have hm := moves_does g8.ok hw8 (s := 2)
      rw [one_fault] at hm
      refine OpsR.call (by simpa using hm) ?_
      rintro _ h9 ⟨g9, l9, rfl, hl9⟩
      rw [show rowP [(1, 0)] 2 = [(1, 0)] by decide] at hl9
      obtain ⟨a9, cap9, hv9, _⟩ := id hl9.sl
      subst hv9
      simp
      exact (((gg6.trans g7).trans g8).trans g9).new _ _ |>.put ⟨_, get_newBlk _ _ _⟩ (.inl (by have := (((gg6.trans g7).trans g8).trans g9).next; simpa using this))
end Go.Proofs.Ytkhnhflbgkndjaa
