import Derived.Test.YtkhnhflbgkndjaaT11
namespace Go.Proofs.Ytkhnhflbgkndjaa
open Go.AI

def toMv (p : Int × Int) : Mv := ⟨p.1, true, p.2⟩
def ofMv (m : Mv) : Int × Int := (m.to, m.n)
/-- the row of moves, as pairs -/
def rowP (ms : List (Int × Int)) (s : Int) : List (Int × Int) := (rowM s ((ms.map toMv).filter fun m => !selfy m)).map ofMv

def MovI (h : Heap) (a : Option Addr) (cap : Nat) (s : Int) (ms : List (Int × Int)) (n : Nat) (e : Env) (h1 : Heap) : Prop :=
  ∃ i w sR, n = ms.length - i ∧ i ≤ ms.length ∧ Env.get e 18 = .int .i64 (i : Nat) ∧ Env.get e 17 = .int .i64 ms.length ∧ Env.get e 16 = .slice a ms.length cap ∧ Env.get e 0 = .slice a ms.length cap ∧ Env.get e 1 = .int .i64 s ∧
    Env.get e 5 = .pointer (some ⟨h.next, 0, none⟩) ∧ Env.get e 6 = w ∧ h1.tr.get h.next = some (.blk [.int .i64 0, .int .i64 0] false 0 sR) ∧ AccOf encMv (h.next + 1) h1 w ((ms.take i).map toMv) ∧
    faultGo s 0 [] ms = faultGo s i (ms.take i) (ms.drop i) ∧ (∀ m ∈ ms.take i, badM s m = false) ∧ Grows Nob h h1

def ConvI (h : Heap) (v : Value) (rows : List Mv) (n : Nat) (e : Env) (h1 : Heap) : Prop :=
  ∃ j w sR, n = rows.length - j ∧ j ≤ rows.length ∧ Env.get e 70 = .int .i64 (j : Nat) ∧ Env.get e 69 = .int .i64 rows.length ∧ Env.get e 68 = v ∧ Env.get e 5 = .pointer (some ⟨h.next, 0, none⟩) ∧ Env.get e 9 = w ∧
    h1.tr.get h.next = some (.blk [.int .i64 0, .int .i64 0] false 0 sR) ∧ AccOf encMv (h.next + 1) h1 v rows ∧ AccOf encP (h.next + 1) h1 w ((rows.take j).map ofMv) ∧ (∀ x, BlkOf w x → ¬ BlkOf v x) ∧ Grows Nob h h1

theorem rowN_length {s : Int} : ∀ (n : Nat) (l out : List Mv), (rowN s n l out).length ≤ out.length + n
  | 0, _, out => by simp [rowN]
  | n + 1, l, out => by
    unfold rowN
    split
    · omega
    · have := rowN_length (s := s) n (rowStep s l out).1 (rowStep s l out).2
      have h2 : (rowStep s l out).2.length = out.length + 1 := by unfold rowStep; split <;> simp
      omega

theorem moves_does {h : Heap} (ok : HOk h) {v : Value} {ms : List (Int × Int)} {s : Int} (hs : SliceOf encP h v ms) :
    Does FF 5 [v, .int .i64 s] h (fun r h' => Grows Nob h h' ∧ ∃ l, r = .tuple #[l, .agg #[.int .i64 (faultM ms s).1, .int .i64 (faultM ms s).2]] ∧
      (((faultM ms s).1 ≠ 0 ∧ l = .slice none 0 0) ∨ ((faultM ms s).1 = 0 ∧ AccOf encP h.next h' l (rowP ms s)))) := by
  obtain ⟨a, cap, rfl, hs'⟩ := id hs
  refine Does.of code5 ?_
  unfold body5
  have g1 := grow_newBlk ok [.int .i64 0, .int .i64 0] 0
  have hR1 := get_newBlk h [.int .i64 0, .int .i64 0] 0
  by_cases hlen : 100 < ms.length
  · have hlen' : (100 : Int) < ms.length := by omega
    simp [hlen']
    generalize newBlk h [.int .i64 0, .int .i64 0] 0 = h1 at *
    refine OpsR.call (by simpa using fault8_does h1 g1.ok 2 0) ?_
    rintro _ h2 ⟨rfl, g2⟩
    have hR2 := g2.get g1.ok hR1 (fun h => h)
    simp [hR2, faultM, hlen]
    exact (g1.trans g2).put ⟨_, hR2⟩ (.inl (Nat.le_refl _))
  · have hlen' : (ms.length : Int) ≤ 100 := by omega
    have hlen2 : ¬ (100 : Int) < ms.length := by omega
    simp [hlen', hlen2]
    generalize newBlk h [.int .i64 0, .int .i64 0] 0 = h1 at *
    refine Runs.loop (MovI h a cap s ms) ?_ (n := ms.length) ⟨0, .slice none 0 0, 0, rfl, by omega, by simp, by simp, by simp, by simp, by simp, by simp, by simp, hR1, .inl ⟨rfl, rfl⟩, by simp, by simp, g1⟩
    rintro n e h2 ⟨i, w, sR, rfl, hi, e18, e17, e16, e0, e1, e5, e6, hR2, hA, hgo, hgood, g2⟩
    unfold round5_1
    by_cases hlt : i < ms.length
    · have hx : ms[i]? = some ms[i] := List.getElem?_eq_getElem hlt
      obtain ⟨b', off, cap', hv', _, _, hr⟩ := (hs.nob ok g2).read hx
      cases hv'
      have hr0 := hr 0 2 (by simp)
      simp only [encP_sz, Nat.add_zero, encP_enc] at hr0
      rw [List.drop_eq_getElem_cons hlt, faultGo] at hgo
      have hT3 : (put (newBlk h2 [.int .i64 0, .int .i64 0] 0) h2.next 0 [.int .i64 0, .int .i64 0] [.int .i64 ms[i].1, .int .i64 ms[i].2] 0).tr.get h2.next = some (.blk [.int .i64 ms[i].1, .int .i64 ms[i].2] false 0 h2.clock) := by simp
      have g3 : Grows Nob h2 (put (newBlk h2 [.int .i64 0, .int .i64 0] 0) h2.next 0 [.int .i64 0, .int .i64 0] [.int .i64 ms[i].1, .int .i64 ms[i].2] 0) := (grow_newBlk g2.ok _ _).put ⟨_, get_newBlk _ _ _⟩ (.inl (Nat.le_refl _))
      have hrT : readAt (put (newBlk h2 [.int .i64 0, .int .i64 0] 0) h2.next 0 [.int .i64 0, .int .i64 0] [.int .i64 ms[i].1, .int .i64 ms[i].2] 0) h2.next 0 1 = some [.int .i64 ms[i].1] := by simp
      simp [e18, e17, e16, hlt, hr0, hrT, -readAt_def]
      generalize put (newBlk h2 [.int .i64 0, .int .i64 0] 0) h2.next 0 [.int .i64 0, .int .i64 0] [.int .i64 ms[i].1, .int .i64 ms[i].2] 0 = h3 at *
      have hrT1 : readAt h3 h2.next 1 1 = some [.int .i64 ms[i].2] := by simp [hT3]
      have hR3 := g3.get g2.ok hR2 (fun h => h)
      have hA3 := hA.grow g2.ok g3 (fun _ _ h => h)
      have g23 := g2.trans g3
      have hbadf : badM s ms[i] = true → faultM ms s = (3, (i : Int)) := fun hb => by
        unfold faultM; rw [if_neg hlen, hgo, hb]; simp
      refine OpsR.call (by simpa using within_does h3 ms[i].1 0 99) ?_
      rintro _ h3' ⟨rfl, he⟩
      rw [he]
      cases hp0 : (decide (0 ≤ ms[i].1) && decide (ms[i].1 ≤ 99)) with
      | false =>
        have hf := hbadf (by simp [badM]; simp at hp0; omega)
        simp [e18, e17, e16, e0, e1, e5, e6]
        refine OpsR.call (V := fun v h' => v = .agg #[.int .i64 3, .int .i64 (i : Nat)] ∧ Grows Nob _ h') (by simpa using fault8_does _ g3.ok 3 i) ?_
        rintro _ h8 ⟨rfl, g8⟩
        have hR8 := g8.get g3.ok hR3 (fun h => h)
        simp [e5, hR8, hf]
        exact ((g23).trans g8).put ⟨_, hR8⟩ (.inl (Nat.le_refl _))
      | true =>
        simp [e18, e17, e16, e0, e1, e5, e6, hrT1, -readAt_def]
        refine OpsR.call (by simpa using within_does h3 ms[i].2 0 99) ?_
        rintro _ h3'' ⟨rfl, he⟩
        rw [he]
        cases hp1 : (decide (0 ≤ ms[i].2) && decide (ms[i].2 ≤ 99)) with
        | false =>
          have hf := hbadf (by simp [badM]; simp at hp1; omega)
          simp [e18, e17, e16, e0, e1, e5, e6]
          refine OpsR.call (V := fun v h' => v = .agg #[.int .i64 3, .int .i64 (i : Nat)] ∧ Grows Nob _ h') (by simpa using fault8_does _ g3.ok 3 i) ?_
          rintro _ h8 ⟨rfl, g8⟩
          have hR8 := g8.get g3.ok hR3 (fun h => h)
          simp [e5, hR8, hf]
          exact ((g23).trans g8).put ⟨_, hR8⟩ (.inl (Nat.le_refl _))
        | true =>
          have hrT' : readAt h3 h2.next 0 1 = some [.int .i64 ms[i].1] := by simp [hT3]
          cases hq0 : (ms[i].1 == s) with
          | true =>
            have hf := hbadf (by simp [badM, hq0])
            simp [e18, e17, e16, e0, e1, e5, e6, hrT', hq0, -readAt_def]
            refine OpsR.call (V := fun v h' => v = .agg #[.int .i64 3, .int .i64 (i : Nat)] ∧ Grows Nob _ h') (by simpa using fault8_does _ g3.ok 3 i) ?_
            rintro _ h8 ⟨rfl, g8⟩
            have hR8 := g8.get g3.ok hR3 (fun h => h)
            simp [e5, hR8, hf]
            exact ((g23).trans g8).put ⟨_, hR8⟩ (.inl (Nat.le_refl _))
          | false =>
            cases hq1 : (ms[i].2 == s) with
            | true =>
              have hf := hbadf (by simp [badM, hq1])
              simp [e18, e17, e16, e0, e1, e5, e6, hrT', hrT1, hq0, hq1, -readAt_def]
              refine OpsR.call (V := fun v h' => v = .agg #[.int .i64 3, .int .i64 (i : Nat)] ∧ Grows Nob _ h') (by simpa using fault8_does _ g3.ok 3 i) ?_
              rintro _ h8 ⟨rfl, g8⟩
              have hR8 := g8.get g3.ok hR3 (fun h => h)
              simp [e5, hR8, hf]
              exact ((g23).trans g8).put ⟨_, hR8⟩ (.inl (Nat.le_refl _))
            | false =>
              have hb : badM s ms[i] = false := by
                simp at hp0 hp1 hq0 hq1
                simp [badM]
                omega
              simp [e18, e17, e16, e0, e1, e5, e6, hrT', hrT1, hq0, hq1, -readAt_def]
              have hany : ((ms.take i).map toMv).any (fun m => m.to == ms[i].1) = (ms.take i).any (fun p => p.1 == ms[i].1) := by rw [List.any_map]; rfl
              refine OpsR.call (V := fun r h' => r = .bool ((ms.take i).any fun p => p.1 == ms[i].1) ∧ Grows Nob h3 h') ?_ ?_
              · have := contains_does (p := fun m => m.to == ms[i].1) (fv := .func (.func 11) #[] #[.pointer (some ⟨h2.next, 0, none⟩)]) g3.ok hA3.sl (by simp; omega) (fun h7 g7 x _ => by
                  rw [doesV_func]
                  simpa using same_does g7.ok (x := x) (g7.get g3.ok hT3 (fun h => h)))
                rw [hany] at this
                simpa [e6] using this
              · rintro _ h4 ⟨rfl, g4⟩
                have hR4 := g4.get g3.ok hR3 (fun h => h)
                have hT4 := g4.get g3.ok hT3 (fun h => h)
                have hA4 := hA3.grow g3.ok g4 (fun _ _ h => h)
                cases hq : (ms.take i).any (fun p => p.1 == ms[i].1) with
                | true =>
                  have hf : faultM ms s = (7, (i : Int)) := by
                    unfold faultM; rw [if_neg hlen, hgo, hb, hq]; simp
                  simp [e18, e17, e16, e0, e1, e5, e6]
                  refine OpsR.call (V := fun v h' => v = .agg #[.int .i64 7, .int .i64 (i : Nat)] ∧ Grows Nob _ h') (by simpa using fault8_does _ g4.ok 7 i) ?_
                  rintro _ h8 ⟨rfl, g8⟩
                  have hR8 := g8.get g4.ok hR4 (fun h => h)
                  simp [e5, hR8, hf]
                  exact ((g23.trans g4).trans g8).put ⟨_, hR8⟩ (.inl (Nat.le_refl _))
                | false =>
                  have hrT4 : readAt h4 h2.next 0 1 = some [.int .i64 ms[i].1] := by simp [hT4]
                  have hrT5 : readAt h4 h2.next 1 1 = some [.int .i64 ms[i].2] := by simp [hT4]
                  have hw := wrap_i64 (i + 1) (by omega) (by omega)
                  have g5 := grow_newBlk g4.ok (encMv.enc (toMv ms[i])) 0
                  have hw5 : SliceOf encMv (newBlk h4 (encMv.enc (toMv ms[i])) 0) (.slice (some ⟨h4.next, 0, none⟩) 1 1) [toMv ms[i]] := ⟨_, _, rfl, .inr ⟨h4.next, 0, _, _, _, _, rfl, get_newBlk _ _ _, by simp, by simp⟩⟩
                  have hA5 := hA4.grow g4.ok g5 (fun _ _ h => h)
                  have hlt4 : h.next < h4.next := g4.ok.wf _ _ hR4
                  have hnx5 : (newBlk h4 (encMv.enc (toMv ms[i])) 0).next = h4.next + 1 := rfl
                  obtain ⟨w', h6, ha, hA6, g6, hd6⟩ := acc_append (bytes := 24) g5.ok (z := [.int .i64 0, .bool false, .int .i64 0]) rfl hA5 hw5 (by simp; omega) (by decide) (by omega)
                  have hR6 := g6.get g5.ok (g5.get g4.ok hR4 (fun h => h)) (fun hx => by have := hA5.of hx; omega)
                  have hg6 : Grows Nob h h6 := ((g23.trans g4).trans g5).trans' g6 (fun _ _ h => h) (fun x hx hx' => absurd (hA5.of hx') (by omega))
                  rw [encMv_enc] at ha
                  simp only [toMv] at ha
                  simp [e18, e17, e16, e0, e1, e5, e6, hrT4, hrT5, ha, hw, -readAt_def]
                  refine ⟨ms.length - (i + 1), by omega, i + 1, w', sR, rfl, by omega, by simp, by simp [e17], by simp [e16], by simp [e0], by simp [e1], by simp [e5], by simp, hR6, ?_, ?_, ?_, hg6⟩
                  · rw [List.take_succ_eq_append_getElem hlt, List.map_append]; exact hA6
                  · rw [hgo, hb, hq, ← List.take_succ_eq_append_getElem hlt]; simp
                  · intro m hm
                    rw [List.take_succ_eq_append_getElem hlt, List.mem_append, List.mem_singleton] at hm
                    rcases hm with hm | rfl
                    · exact hgood m hm
                    · exact hb
    · have : i = ms.length := by omega
      subst this
      have hgo' : faultGo s 0 [] ms = none := by rw [hgo]; simp [faultGo]
      rw [List.take_length] at hA hgood
      simp [e18, e17]
      refine OpsR.call (by simpa [e1] using within_does h2 s 0 100) ?_
      rintro _ h2' ⟨rfl, he⟩
      rw [he]
      cases hp0 : (decide (0 ≤ s) && decide (s ≤ 100)) with
      | false =>
        have hf : faultM ms s = (3, -1) := by
          unfold faultM; rw [if_neg hlen, hgo']; simp at hp0 ⊢; omega
        simp [e18, e17, e16, e0, e1, e5, e6]
        refine OpsR.call (V := fun v h' => v = .agg #[.int .i64 3, .int .i64 (-1)] ∧ Grows Nob _ h') (by simpa using fault8_does _ g2.ok 3 (-1)) ?_
        rintro _ h8 ⟨rfl, g8⟩
        have hR8 := g8.get g2.ok hR2 (fun h => h)
        simp [e5, hR8, hf]
        exact (g2.trans g8).put ⟨_, hR8⟩ (.inl (Nat.le_refl _))
      | true =>
        have hf : faultM ms s = (0, 0) := by
          unfold faultM; rw [if_neg hlen, hgo']; simp at hp0 ⊢; omega
        simp [e18, e17, e16, e0, e1, e5, e6]
        have hlt2 : h.next < h2.next := g2.ok.wf _ _ hR2
        refine OpsR.call (by simpa [e1, e6] using row_does g2.ok hA.sl (s := s) (by simp; omega) (fun m hm => by
          obtain ⟨p, hp, rfl⟩ := List.mem_map.mp hm
          have := good_case (hgood p hp)
          simpa [toMv] using this.2.2.2.2.2.2.2.2.1)) ?_
        rintro r h3 ⟨g3, hA3⟩
        have hR3 := g3.get g2.ok hR2 (fun h => h)
        have hrl : (rowM s ((ms.map toMv).filter fun m => !selfy m)).length ≤ 201 := by
          have h1 := rowN_length (s := s) (2 * ((ms.map toMv).filter fun m => !selfy m).length + 1) ((ms.map toMv).filter fun m => !selfy m) []
          have h2 := List.length_filter_le (fun m => !selfy m) (ms.map toMv)
          rw [List.length_map] at h2
          unfold rowM
          simp at h1 ⊢
          omega
        have hgoal : rowP ms s = (rowM s ((ms.map toMv).filter fun m => !selfy m)).map ofMv := rfl
        rw [hgoal, hf]
        generalize rowM s ((ms.map toMv).filter fun m => !selfy m) = rows at *
        have hA3' : AccOf encMv (h.next + 1) h3 r rows := by
          rcases hA3 with ⟨e1, e2⟩ | ⟨b, s, e1, e2, e3, e4⟩
          · exact .inl ⟨e1, e2⟩
          · exact .inr ⟨b, s, e1, e2, e3, by omega⟩
        obtain ⟨ar, capr, hv, _⟩ := id hA3'.sl
        subst hv
        simp [e1]
        refine Runs.loop (ConvI h (.slice ar rows.length capr) rows) ?_ (n := rows.length)
          ⟨0, .slice none 0 0, _, rfl, by omega, by simp, by simp, by simp, by simp [e5], by simp, hR3, hA3', .inl ⟨rfl, rfl⟩, (by rintro x ⟨_, _, _, e⟩; cases e), g2.trans g3⟩
        clear hA3
        rintro n e' h4 ⟨j, w4, sR4, rfl, hj, f70, f69, f68, f5, f9, hR4, hA4, hW4, hdd, g4⟩
        unfold round5_0
        by_cases hjl : j < rows.length
        · have hx : rows[j]? = some rows[j] := List.getElem?_eq_getElem hjl
          obtain ⟨b', off, cap', hv', _, _, hr⟩ := hA4.sl.read hx
          cases hv'
          have hr0 := hr 0 3 (by simp)
          simp only [encMv_sz, Nat.add_zero, encMv_enc] at hr0
          have g5 : Grows Nob h4 (put (newBlk h4 [.int .i64 0, .bool false, .int .i64 0] 0) h4.next 0 [.int .i64 0, .bool false, .int .i64 0] [.int .i64 rows[j].to, .bool rows[j].reg, .int .i64 rows[j].n] 0) := (grow_newBlk g4.ok _ _).put ⟨_, get_newBlk _ _ _⟩ (.inl (Nat.le_refl _))
          have hT5 : (put (newBlk h4 [.int .i64 0, .bool false, .int .i64 0] 0) h4.next 0 [.int .i64 0, .bool false, .int .i64 0] [.int .i64 rows[j].to, .bool rows[j].reg, .int .i64 rows[j].n] 0).tr.get h4.next = some (.blk [.int .i64 rows[j].to, .bool rows[j].reg, .int .i64 rows[j].n] false 0 h4.clock) := by simp
          have hnx : (put (newBlk h4 [.int .i64 0, .bool false, .int .i64 0] 0) h4.next 0 [.int .i64 0, .bool false, .int .i64 0] [.int .i64 rows[j].to, .bool rows[j].reg, .int .i64 rows[j].n] 0).next = h4.next + 1 := by simp
          have hr50 : readAt (put (newBlk h4 [.int .i64 0, .bool false, .int .i64 0] 0) h4.next 0 [.int .i64 0, .bool false, .int .i64 0] [.int .i64 rows[j].to, .bool rows[j].reg, .int .i64 rows[j].n] 0) h4.next 0 1 = some [.int .i64 rows[j].to] := by simp
          have hr52 : readAt (put (newBlk h4 [.int .i64 0, .bool false, .int .i64 0] 0) h4.next 0 [.int .i64 0, .bool false, .int .i64 0] [.int .i64 rows[j].to, .bool rows[j].reg, .int .i64 rows[j].n] 0) h4.next 2 1 = some [.int .i64 rows[j].n] := by simp
          have hW5 := hW4.grow g4.ok g5 (fun _ _ h => h)
          have hA5 := hA4.grow g4.ok g5 (fun _ _ h => h)
          have hR5 := g5.get g4.ok hR4 (fun h => h)
          have g6 := grow_newBlk g5.ok (encP.enc (ofMv rows[j])) 0
          have hw6 : SliceOf encP (newBlk (put (newBlk h4 [.int .i64 0, .bool false, .int .i64 0] 0) h4.next 0 [.int .i64 0, .bool false, .int .i64 0] [.int .i64 rows[j].to, .bool rows[j].reg, .int .i64 rows[j].n] 0) (encP.enc (ofMv rows[j])) 0) (.slice (some ⟨h4.next + 1, 0, none⟩) 1 1) [ofMv rows[j]] := by
            have := get_newBlk (put (newBlk h4 [.int .i64 0, .bool false, .int .i64 0] 0) h4.next 0 [.int .i64 0, .bool false, .int .i64 0] [.int .i64 rows[j].to, .bool rows[j].reg, .int .i64 rows[j].n] 0) (encP.enc (ofMv rows[j])) 0
            rw [hnx] at this
            exact ⟨_, _, rfl, .inr ⟨h4.next + 1, 0, _, _, _, _, rfl, this, by simp, by simp⟩⟩
          have hlt4 : h.next < h4.next := g4.ok.wf _ _ hR4
          obtain ⟨w7, h7, ha, hW7, g7, hd7⟩ := acc_append (bytes := 16) g6.ok (z := [.int .i64 0, .int .i64 0]) (E := encP) rfl (hW5.grow g5.ok g6 (fun _ _ h => h)) hw6 (by simp; omega) (by decide) (by simp; omega)
          have hnoR : ¬ BlkOf w4 h.next := fun hx => by have := hW4.of hx; omega
          have hR7 := g7.get g6.ok (g6.get g5.ok hR5 (fun h => h)) hnoR
          have hA7 := (hA5.grow g5.ok g6 (fun _ _ h => h)).grow g6.ok g7 (fun x hx hx' => hdd x hx' hx)
          have hg7 : Grows Nob h h7 := ((g4.trans g5).trans g6).trans' g7 (fun _ _ h => h) (fun x hx hx' => absurd (hW4.of hx') (by omega))
          have hw := wrap_i64 (j + 1) (by omega) (by omega)
          rw [encP_enc] at ha
          simp only [ofMv] at ha
          simp [f70, f69, f68, f5, f9, hjl, hr0, hr50, hr52, ha, hw, -readAt_def]
          refine ⟨rows.length - (j + 1), by omega, j + 1, w7, sR4, rfl, by omega, by simp, by simp [f69], by simp [f68], by simp [f5], by simp, hR7, hA7, ?_, ?_, hg7⟩
          · rw [List.take_succ_eq_append_getElem hjl, List.map_append]; exact hW7
          · intro x hx hx'
            have h1 := hd7 x hx
            have h2 := acc_lt g4.ok hA4 hx'
            simp at h1
            omega
        · have : j = rows.length := by omega
          subst this
          rw [List.take_length] at hW4
          obtain ⟨aw, cw, hv4, _⟩ := id hW4.sl
          subst hv4
          simp [f70, f69, f9, f5, hR4]
          have gp := grow_put g4.ok (off := 0) (vs := [.int .i64 0, .int .i64 0]) hR4
          refine ⟨g4.put ⟨_, hR4⟩ (.inl (Nat.le_refl _)), ?_⟩
          have := hW4.grow g4.ok gp (fun x hx e => by have := hW4.of hx; omega)
          rw [List.length_map] at this
          rcases this with ⟨e1, e2⟩ | ⟨b, s, e1, e2, e3, e4⟩
          · exact .inl ⟨e1, e2⟩
          · exact .inr ⟨b, s, e1, e2, e3, by omega⟩
end Go.Proofs.Ytkhnhflbgkndjaa
