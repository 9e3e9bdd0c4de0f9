import Derived.Test.YtkhnhflbgkndjaaT5
namespace Go.Proofs.Ytkhnhflbgkndjaa
open Go.AI

/-- The slice of moves that are still to do. -/
def LS (h : Heap) (v : Value) (l : List Mv) (b : Nat) : Prop := (l = [] ∧ SliceOf encMv h v []) ∨ ∃ ys, OwnS h v b ys l.length ∧ ys.take l.length = l

theorem LS.sl {h : Heap} {v : Value} {l : List Mv} {b : Nat} (s : LS h v l b) : SliceOf encMv h v l := by
  rcases s with ⟨rfl, s⟩ | ⟨ys, s, e⟩
  · exact s
  · have := s.sl; rw [e] at this; exact this

theorem LS.grow {S : Nat → Prop} {h h' : Heap} {v : Value} {l : List Mv} {b : Nat} (s : LS h v l b) (ok : HOk h) (g : Grows S h h') (hb : ¬ S b) : LS h' v l b := by
  rcases s with ⟨rfl, s⟩ | ⟨ys, ⟨hv, hn, o, st, hg, ho⟩, e⟩
  · left
    obtain ⟨a, cap, hv, hc⟩ := s
    refine ⟨rfl, a, cap, hv, ?_⟩
    rcases hc with hc | ⟨b', off, cs, ro, o, st, ha, hb', hl, he⟩
    · exact .inl hc
    · exact .inl ⟨rfl, .inr ⟨_, _, ha⟩⟩
  · exact .inr ⟨ys, ⟨hv, hn, o, st, g.get ok hg hb, ho⟩, e⟩

/-- An append of one element onto a slice of the walk's own. -/
theorem acc_append {α : Type} {E : Enc α} {h : Heap} (ok : HOk h) {n0 bytes : Nat} {z : List Value} {v w : Value} {xs : List α} {y : α} (hz : z.length = E.sz) (a : AccOf E n0 h v xs) (hw : SliceOf E h w [y])
    (hl : xs.length < 1000000) (hby : bytes ≤ 1000) (hn : n0 ≤ h.next) :
    ∃ v' h', appendF h z bytes false v w = some (v', h') ∧
      AccOf E n0 h' v' (xs ++ [y]) ∧ Grows (BlkOf v) h h' ∧ ∀ b, BlkOf v' b → b = h.next := by
  unfold appendF
  rw [news_sl hz hw]
  dsimp only
  have r1 : roomy (xs.length + 1) = true := by simp [roomy]; omega
  have r2 : roomy ((xs.length + 1) * bytes) = true := by
    have : (xs.length + 1) * bytes ≤ 1000000 * 1000 := Nat.mul_le_mul (by omega) hby
    simp [roomy]; omega
  have hp := E.pos
  have hp' : E.sz ≠ 0 := by omega
  rcases a with ⟨rfl, rfl⟩ | ⟨b, s, rfl, hb, hx, hb0⟩
  · have r3 : roomy bytes = true := by simp [roomy]; omega
    refine ⟨.slice (some ⟨h.next, 0, none⟩) 1 1, newBlk h (E.flat [y]) E.sz, ?_, .inr ⟨h.next, 0, rfl, by simp, by simp, hn⟩, (grow_newBlk ok _ _).nob, ?_⟩
    · have r4 : roomy 1 = true := rfl
      simp [appendV, hz, hp, r3, r4]
    · rintro b ⟨off, n, cap, e⟩; cases e; rfl
  · refine ⟨.slice (some ⟨h.next, 0, none⟩) (xs.length + 1) (xs.length + 1), newBlk { h with tr := h.tr.del b } (E.flat xs ++ E.flat [y]) E.sz, ?_, .inr ⟨h.next, 0, by simp, ?_, by simp, hn⟩, ?_, ?_⟩
    · have e1 : ¬ xs.length + 1 ≤ xs.length := by omega
      have e2 : (E.flat xs).take (xs.length * E.sz) = E.flat xs := List.take_of_length_le (by simp)
      simp [appendV, hz, hp, r1, r2, hb, e1, e2, hp']
    · have := get_newBlk { h with tr := h.tr.del b } (E.flat xs ++ E.flat [y]) E.sz
      rw [Enc.flat_append]
      exact this
    · refine ((grow_del ok b).weak ?_).trans (grow_newBlk (grow_del ok b).ok _ _).nob
      rintro x _ rfl
      exact ⟨_, _, _, rfl⟩
    · rintro b' ⟨off, n, cap, e⟩; cases e; rfl
end Go.Proofs.Ytkhnhflbgkndjaa
