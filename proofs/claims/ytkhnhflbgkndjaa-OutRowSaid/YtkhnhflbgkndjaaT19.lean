import Derived.Test.YtkhnhflbgkndjaaT18
namespace Go.Proofs.Ytkhnhflbgkndjaa
open Go.AI

/-- the looks at all registers -/
def LookI (h : Heap) (a : Option Addr) (cap : Nat) (s : Int) (b : Nat) (ms : List (Int × Int)) (n : Nat) (e : Env) (h1 : Heap) : Prop :=
  ∃ r, n = 101 - r ∧ r ≤ 101 ∧ Env.get e 10 = .int .i64 (r : Nat) ∧ Env.get e 0 = .slice a ms.length cap ∧ Env.get e 1 = .int .i64 s ∧ Env.get e 7 = .slice (some ⟨b, 0, none⟩) 101 101 ∧ Grows Nob h h1

theorem outRow_does {h : Heap} (ok : HOk h) {v : Value} {ms : List (Int × Int)} {s : Int} (hs : SliceOf encP h v ms) :
    Does FF 4 [v, .int .i64 s] h (fun r h' => r = .bool true ∧ Grows Nob h h') := by
  obtain ⟨a, cap, rfl, hs'⟩ := id hs
  refine Does.of code4 ?_
  unfold body4
  simp
  refine OpsR.call (by simpa using moves_does ok hs) ?_
  rintro _ h1 ⟨g1, l, rfl, hl⟩
  have g2 : Grows Nob h1 (put (newBlk h1 [.int .i64 0, .int .i64 0] 0) h1.next 0 [.int .i64 0, .int .i64 0] [.int .i64 (faultM ms s).1, .int .i64 (faultM ms s).2] 0) := (grow_newBlk g1.ok _ _).put ⟨_, get_newBlk _ _ _⟩ (.inl (Nat.le_refl _))
  have hT2 : (put (newBlk h1 [.int .i64 0, .int .i64 0] 0) h1.next 0 [.int .i64 0, .int .i64 0] [.int .i64 (faultM ms s).1, .int .i64 (faultM ms s).2] 0).tr.get h1.next = some (.blk [.int .i64 (faultM ms s).1, .int .i64 (faultM ms s).2] false 0 h1.clock) := by simp
  rcases hl with ⟨hc, rfl⟩ | ⟨hc, hA⟩
  · simp [hc]
    exact g1.trans g2
  · obtain ⟨hf, hlen, hgo, hs0, hs1⟩ := fault_zero hc
    obtain ⟨al, capl, hvl, _⟩ := id hA.sl
    subst hvl
    have hA2 := hA.grow g1.ok g2 (fun _ _ h => h)
    rw [hf] at g2 hT2 hA2
    simp [hf]
    simp only at g2 hT2 hA2
    generalize put (newBlk h1 [.int .i64 0, .int .i64 0] 0) h1.next 0 [.int .i64 0, .int .i64 0] [.int .i64 0, .int .i64 0] 0 = h2 at *
    refine OpsR.call (by simpa using movesFault_does g2.ok (hs.nob ok (g1.trans g2))) ?_
    rintro _ h3 ⟨rfl, g3⟩
    have hle := row_le hgo
    have hlr : (rowP ms s).length ≤ 150 := by omega
    have hw2 : IntKind.i64.wrap (2 * ((rowP ms s).length : Int)) = 2 * ((rowP ms s).length : Int) := wrap_i64 _ (by omega) (by omega)
    have hw3 : IntKind.i64.wrap (3 * (ms.length : Int)) = 3 * (ms.length : Int) := wrap_i64 _ (by omega) (by omega)
    have hcmp : ¬ 3 * (ms.length : Int) < 2 * ((rowP ms s).length : Int) := by omega
    have hcmp' : 2 * ((rowP ms s).length : Int) ≤ 3 * (ms.length : Int) := by omega
    have hA3 := hA2.grow g2.ok g3 (fun _ _ h => h)
    have hg3 := (g1.trans g2).trans g3
    simp [hf, hw2, hw3, hcmp, hcmp']
    refine reg_loop (h := h3) (s := s) (a := a) (al := al) (cap := cap) (capl := capl) (nm := ms.length) (nl := (rowP ms s).length) (n := 101) ⟨0, .slice none 0 0, rfl, by omega, by simp, by simp, by simp, by simp, by simp, .inl ⟨rfl, rfl⟩, .refl g3.ok⟩ ?_
    intro e h4 w e0 e1 e5 e7 hV g4
    rcases hV with ⟨e', _⟩ | ⟨b, st, rfl, hb, _, hbn⟩
    · exact absurd (congrArg List.length e') (by simp [regs])
    have hlen' : regs.length = 101 := by simp [regs]
    rw [hlen'] at e7
    have hA4 := hA3.grow g3.ok g4 (fun _ _ h => h)
    have hbl : ∀ x, BlkOf (.slice al (rowP ms s).length capl) x → x < h3.next := fun x hx => acc_lt g3.ok hA3 hx
    simp
    refine do_loop (h := h4) (s := s) (a := a) (al := al) (cap := cap) (capl := capl) (nm := ms.length) (b := b) (lp := rowP ms s) g4.ok hA4.sl (by omega) (fun off e => by
      have := hbl b ⟨off, _, _, by rw [e]⟩; omega) (row_bound hgo ⟨hs0, hs1⟩) (n := (rowP ms s).length) ⟨0, rfl, by omega, by simp, by simp [e0], by simp [e1], by simp [e5], by simp [e7], ⟨hlen', st, hb⟩, .refl g4.ok⟩ ?_
    clear e0 e1 e5 e7
    intro e h5 e0 e1 e7 hV5 g5
    have gg5 : Grows Nob h h5 := (hg3.trans g4).trans' g5 (fun _ _ h => h) (fun x hx e => by subst e; have := hg3.next; omega)
    simp
    refine Runs.loop (LookI h5 a cap s b ms) ?_ (n := 101) ⟨0, rfl, by omega, by simp, by simp [e0], by simp [e1], by simp [e7], .refl g5.ok⟩
    clear e0 e1 e7
    rintro n e h6 ⟨r, rfl, hr, e10, e0, e1, e7, g6⟩
    have hV6 := hV5.grow g5.ok g6 (fun h => h)
    unfold round4_1
    by_cases hr1 : r ≤ 100
    · have hr1' : (r : Int) ≤ 100 := by omega
      simp [e10, hr1']
      refine want_loop (h := h6) (s := s) (a := a) (cap := cap) (b := b) (r := r) (ms := ms) g6.ok (hs.nob ok (gg5.trans g6)) hlen (n := ms.length) ⟨0, rfl, by omega, by simp, by simp [wantGo], by simp [e10], by simp [e0], by simp [e1], by simp [e7], .refl g6.ok⟩ ?_
      clear e10 e0 e1 e7
      intro e h7 e11 e10 e0 e1 e7 g7
      have hV7 := hV6.grow g6.ok g7 (fun h => h)
      have hrv := hV7.read hr1
      have hw := wrap_i64 (r + 1) (by omega) (by omega)
      have hr2 : r < 101 := by omega
      by_cases hne : (r : Int) = s
      · have hq : ((r : Int) == s) = true := by simpa using hne
        have hq' : ((r : Int) != s) = false := by simp [hne]
        simp [e11, e10, e0, e1, e7, hq, hq', hw]
        exact ⟨101 - (r + 1), by omega, r + 1, rfl, by omega, by simp, by simp [e0], by simp [e1], by simp [e7], g6.trans g7⟩
      · have hq' : ((r : Int) != s) = true := by simp [hne]
        have hval := row_does_it hgo ⟨hs0, hs1⟩ r hr1 hne
        rw [hval] at hrv
        simp [e11, e10, e0, e1, e7, hq', hne, hw, hrv, hr2, -readAt_def]
        exact ⟨101 - (r + 1), by omega, r + 1, rfl, by omega, by simp, by simp [e0], by simp [e1], by simp [e7], g6.trans g7⟩
    · have : r = 101 := by omega
      subst this
      simp [e10]
      have g8 := grow_newBlk g6.ok (encP.enc (1, 0)) 0
      have hw8 : SliceOf encP (newBlk h6 (encP.enc (1, 0)) 0) (.slice (some ⟨h6.next, 0, none⟩) 1 1) [(1, 0)] := ⟨_, _, rfl, .inr ⟨h6.next, 0, _, _, _, _, rfl, get_newBlk _ _ _, by simp, by simp⟩⟩
      rw [encP_enc] at g8 hw8
      have hm := moves_does g8.ok hw8 (s := 2)
      rw [one_fault] at hm
      refine OpsR.call (by simpa using hm) ?_
      rintro _ h9 ⟨g9, l9, rfl, hl9⟩
      rw [show rowP [(1, 0)] 2 = [(1, 0)] by decide] at hl9
      obtain ⟨a9, cap9, hv9, _⟩ := id hl9.sl
      subst hv9
      simp
      exact (((gg5.trans g6).trans g8).trans g9).new _ _ |>.put ⟨_, get_newBlk _ _ _⟩ (.inl (by have := (((gg5.trans g6).trans g8).trans g9).next; simpa using this))
end Go.Proofs.Ytkhnhflbgkndjaa
