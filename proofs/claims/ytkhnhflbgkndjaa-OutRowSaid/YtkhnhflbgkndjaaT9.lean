import Derived.Test.YtkhnhflbgkndjaaT8
namespace Go.Proofs.Ytkhnhflbgkndjaa
open Go.AI

theorem acc_ls {n0 : Nat} {h : Heap} {v : Value} {l : List Mv} (a : AccOf encMv n0 h v l) : ∃ b, n0 ≤ b ∧ LS h v l b := by
  rcases a with ⟨rfl, rfl⟩ | ⟨b, s, rfl, hb, hx, h0⟩
  · exact ⟨n0, Nat.le_refl _, .inl ⟨rfl, .nil _ _ _⟩⟩
  · exact ⟨b, h0, .inr ⟨l, ⟨rfl, Nat.le_refl _, 3, s, hb, .inr rfl⟩, List.take_length⟩⟩

def FiltI (h : Heap) (a : Option Addr) (cap : Nat) (s : Int) (xs : List Mv) (n : Nat) (e : Env) (h1 : Heap) : Prop :=
  ∃ i w, n = xs.length - i ∧ i ≤ xs.length ∧ Env.get e 6 = .int .i64 (i : Nat) ∧ Env.get e 0 = .slice a xs.length cap ∧ Env.get e 1 = .int .i64 s ∧ Env.get e 5 = w ∧
    AccOf encMv h.next h1 w ((xs.take i).filter fun m => !selfy m) ∧ Grows Nob h h1

theorem filt_loop {h h1 : Heap} {s : Int} {xs : List Mv} {a : Option Addr} {cap : Nat} (ok : HOk h) (hs : SliceOf encMv h (.slice a xs.length cap) xs) (hl : xs.length ≤ 100) {n : Nat} {e : Env} (H : FiltI h a cap s xs n e h1) {Q : AExit → Env → Heap → Prop}
    (hQ : ∀ e h2 w, Env.get e 1 = .int .i64 s → Env.get e 5 = w → AccOf encMv h.next h2 w (xs.filter fun m => !selfy m) → Grows Nob h h2 → Q (.exit 0) e h2) :
    Runs FF (.loop round7_3) e h1 Q := by
  refine Runs.loop (FiltI h a cap s xs) ?_ H
  rintro n e h2 ⟨i, w, rfl, hi, e6, e0, e1, e5, hA, g⟩
  unfold round7_3
  by_cases hlt : i < xs.length
  · have hx : xs[i]? = some xs[i] := List.getElem?_eq_getElem hlt
    obtain ⟨b', off, cap', hv', _, _, hr⟩ := (hs.nob ok g).read hx
    cases hv'
    have hr0 := hr 0 1 (by simp)
    have hr1 := hr 1 2 (by simp)
    have hr2 := hr 0 3 (by simp)
    simp only [encMv_sz, Nat.add_zero] at hr0 hr1 hr2
    have ht (b o n) : readAt (tick h2) b o n = readAt h2 b o n := rfl
    have hw := wrap_i64 (i + 1) (by omega) (by omega)
    have hfl : (xs.take (i + 1)).filter (fun m => !selfy m) = (xs.take i).filter (fun m => !selfy m) ++ (if selfy xs[i] then [] else [xs[i]]) := by
      rw [List.take_succ_eq_append_getElem hlt, List.filter_append]
      by_cases hq : selfy xs[i] = true <;> simp [hq]
    cases hc : selfy xs[i] with
    | true =>
      have hc' : xs[i].reg = true ∧ xs[i].n = xs[i].to := by simpa [selfy] using hc
      simp [e6, e0, e1, e5, hlt, ht, hr0, hr1, hc', hw, -readAt_def]
      refine ⟨xs.length - (i + 1), by omega, i + 1, w, rfl, by omega, by simp, by simp [e0], by simp [e1], by simp [e5], ?_, g.tick⟩
      rw [hfl, hc]
      simpa using hA.grow g.ok (grow_tick g.ok) (fun _ _ h => h)
    | false =>
      have hc' : xs[i].reg = false ∨ ¬ xs[i].n = xs[i].to := by
        cases hreg : xs[i].reg with
        | false => exact .inl rfl
        | true => right; simpa [selfy, hreg] using hc
      have gt : Grows Nob h2 (tick h2) := grow_tick g.ok
      have g8 := grow_newBlk gt.ok (encMv.enc xs[i]) 0
      have hw8 : SliceOf encMv (newBlk (tick h2) (encMv.enc xs[i]) 0) (.slice (some ⟨h2.next, 0, none⟩) 1 1) [xs[i]] := ⟨_, _, rfl, .inr ⟨h2.next, 0, _, _, _, _, rfl, get_newBlk (tick h2) _ _, by simp, by simp⟩⟩
      have hA8 := (hA.grow g.ok gt (fun _ _ h => h)).grow gt.ok g8 (fun _ _ h => h)
      have hfle := List.length_filter_le (fun m => !selfy m) (xs.take i)
      have hnx : h.next ≤ (newBlk (tick h2) (encMv.enc xs[i]) 0).next := by have := g.next; simp; omega
      obtain ⟨w', h9, ha, hA9, g9, hd9⟩ := acc_append (bytes := 24) g8.ok (z := [.int .i64 0, .bool false, .int .i64 0]) rfl hA8 hw8 (by simp at hfle; omega) (by decide) hnx
      rw [encMv_enc] at ha
      have g10 : Grows Nob h h9 := ((g.trans gt).trans g8).trans' g9 (fun _ _ h => h) (fun x hx h => absurd (hA8.of h) (by omega))
      have hfin : ∀ e' : Env, Env.get e' 6 = .int .i64 (i + 1 : Nat) → Env.get e' 0 = .slice (some ⟨b', off, none⟩) xs.length cap → Env.get e' 1 = .int .i64 s → Env.get e' 5 = w' → ∃ m, m < xs.length - i ∧ FiltI h (some ⟨b', off, none⟩) cap s xs m e' h9 := by
        intro e' f6 f0 f1 f5
        refine ⟨xs.length - (i + 1), by omega, i + 1, w', rfl, by omega, f6, f0, f1, f5, ?_, g10⟩
        rw [hfl, hc]; exact hA9
      rcases hc' with hc' | hc' <;> (try rw [hc'] at ha) <;> simp [e6, e0, e1, e5, hlt, ht, hr0, hr1, hr2, hc', ha, hw, -readAt_def] <;> refine hfin _ ?_ ?_ ?_ ?_ <;> simp [e0, e1]
  · have : i = xs.length := by omega
    subst this
    simp [e6, e0]
    rw [List.take_length] at hA
    exact hQ _ _ w (by simp [e1]) (by simp [e5]) hA g
end Go.Proofs.Ytkhnhflbgkndjaa
