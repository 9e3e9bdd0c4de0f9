import Derived.Test.YtkhnhflbgkndjaaT9
namespace Go.Proofs.Ytkhnhflbgkndjaa
open Go.AI

theorem swap2_loop {h9 h1 : Heap} {s r : Int} {T b ysl o : Nat} {l : List Mv} {w : Value} {oT sT : Nat} {roT : Bool} (ok : HOk h9) (hT : h9.tr.get T = some (.blk [.bool true, .int .i64 r] roT oT sT)) (hTb : ¬ T = b) (hl : l.length ≤ 100) (hyl : l.length ≤ ysl)
    {n : Nat} {e : Env} (H : SwapI2 h9 s r T b l ysl o w n e h1) {Q : AExit → Env → Heap → Prop}
    (hQ : ∀ e h2 zs st, Env.get e 5 = .slice (some ⟨b, 0, none⟩) l.length ysl → Env.get e 1 = .int .i64 s → Env.get e 7 = w → zs.length = ysl → zs.take l.length = l.map (swapIn s r) → h2.tr.get b = some (.blk (encMv.flat zs) false o st) → Grows (· = b) h9 h2 → Q (.exit 6) e h2) :
    Runs FF (.loop round7_0) e h1 Q := by
  refine Runs.loop (SwapI2 h9 s r T b l ysl o w) ?_ H
  rintro n e h11 ⟨j, zs, st, rfl, hj, e11, e5, e1, e7, e10, hzl, hzt, hzd, hg11, g11⟩
  have hT11 := g11.get ok hT hTb
  unfold round7_0
  by_cases hjl : j < l.length
  · have hx : zs[j]? = some l[j] := by
      have : ((zs.take l.length).drop j)[0]? = (l.drop j)[0]? := by rw [hzd]
      simpa [hjl, List.getElem?_take] using this
    have hjz : j < zs.length := by omega
    have hr1 : readAt (tick h11) b (j * 3 + 1) 2 = some [.bool l[j].reg, .int .i64 l[j].n] := by
      rw [readAt_tick, readAt_eq hg11 (by rw [Enc.length_flat]; simp; omega)]
      have := Enc.part_flat encMv zs j 1 2 _ hx (by simp)
      simpa using this
    have hrT : readAt (tick h11) T 0 2 = some [.bool true, .int .i64 r] := by simp [hT11]
    have hw := wrap_i64 (j + 1) (by omega) (by omega)
    have gt := grow_tick g11.ok
    have gg : Grows (· = b) h9 (tick h11) := g11.trans gt.nob
    have hgt : (tick h11).tr.get b = some (.blk (encMv.flat zs) false o st) := hg11
    have hmt : (l.take (j + 1)).map (swapIn s r) = (l.take j).map (swapIn s r) ++ [swapIn s r l[j]] := by
      rw [List.take_succ_eq_append_getElem hjl, List.map_append]; rfl
    have hzj : zs.take (j + 1) = zs.take j ++ [l[j]] := by
      rw [List.take_add_one, hx]; rfl
    have hdd : (zs.take l.length).drop (j + 1) = l.drop (j + 1) := by rw [← List.drop_drop, hzd, List.drop_drop]
    cases hc : needs r l[j] with
    | true =>
      have hc' : l[j].reg = true ∧ l[j].n = r := by simpa [needs] using hc
      have hfit : j * 3 + 1 + 2 ≤ ysl * 3 := by omega
      simp [e11, e5, e1, e7, e10, hjl, hr1, hw, hc', hrT, hg11, hzl, hfit, -readAt_def]
      refine ⟨l.length - (j + 1), by omega, j + 1, zs.set j ⟨l[j].to, true, s⟩, (tick h11).clock, rfl, by omega, by simp, by simp [e5], by simp [e1], by simp [e7], by simp [e10], by simp [hzl], ?_, ?_, ?_, gg.put ⟨_, hgt⟩ (.inr rfl)⟩
      · rw [take_set_self _ _ _ hjz, hzt, hmt]
        simp [swapIn, hc]
      · rw [List.take_set, List.drop_set_of_lt (by omega), hdd]
      · rw [get_put_same, splice_cons (c := .int .i64 l[j].to), ← encMv.splice_flat zs j ⟨l[j].to, true, s⟩ hjz]
        · rfl
        · have h0 := Enc.part_flat encMv zs j 0 1 _ hx (by simp)
          have h1 : ((encMv.flat zs).drop (j * 3))[0]? = some (.int .i64 l[j].to) := by
            have := congrArg (·[0]?) h0
            simpa [List.getElem?_take] using this
          simpa using h1
    | false =>
      have hc' : l[j].reg = false ∨ ¬ l[j].n = r := by
        cases hreg : l[j].reg with
        | false => exact .inl rfl
        | true => right; simpa [needs, hreg] using hc
      have hfin : ∀ e' : Env, Env.get e' 11 = .int .i64 (j + 1 : Nat) → Env.get e' 5 = .slice (some ⟨b, 0, none⟩) l.length ysl → Env.get e' 1 = .int .i64 s →
          Env.get e' 7 = w → Env.get e' 10 = .pointer (some ⟨T, 0, none⟩) → ∃ m, m < l.length - j ∧ SwapI2 h9 s r T b l ysl o w m e' (tick h11) := by
        intro e' f1 f2 f3 f4 f5
        refine ⟨l.length - (j + 1), by omega, j + 1, zs, st, rfl, by omega, f1, f2, f3, f4, f5, hzl, ?_, hdd, hgt, gg⟩
        rw [hzj, hzt, hmt]
        simp [swapIn, hc]
      rcases hc' with hc' | hc' <;> simp [e11, e5, e1, e7, e10, hjl, hr1, hw, hc', hrT, -readAt_def] <;>
        exact hfin _ (by simp) (by simp [e5]) (by simp [e1]) (by simp [e7]) (by simp [e10])
  · have hjl' : j = l.length := by omega
    subst hjl'
    simp [e11, e5]
    exact hQ _ _ zs st (by simp [e5]) (by simp [e1]) (by simp [e7]) hzl (by simpa using hzt) hg11 g11

theorem refRow_does {h : Heap} (ok : HOk h) {v : Value} {xs : List Mv} (hs : SliceOf encMv h v xs) (hn : xs.length ≤ 100) {s : Int} (ht : ∀ m ∈ xs, m.to ≠ s) :
    Does FF 7 [v, .int .i64 s] h (fun r h' => Grows Nob h h' ∧ AccOf encMv h.next h' r (rowM s (xs.filter fun m => !selfy m))) := by
  obtain ⟨a, cap, rfl, hs'⟩ := id hs
  refine Does.of code7 ?_
  unfold body7
  simp
  refine filt_loop (s := s) ok hs hn (n := xs.length) ⟨0, _, rfl, by omega, by simp, by simp, by simp, by simp, .inl ⟨by simp, rfl⟩, .refl ok⟩ ?_
  rintro e h1 w e1 e5 hA g1
  simp [e1, e5]
  have hl0 : (xs.filter fun m => !selfy m).length ≤ 100 := Nat.le_trans (List.length_filter_le _ _) hn
  have ht0 : ∀ m ∈ (xs.filter fun m => !selfy m), m.to ≠ s := fun m hm => ht m (List.mem_filter.mp hm).1
  generalize xs.filter (fun m => !selfy m) = l0 at *
  obtain ⟨b, hb, hL⟩ := acc_ls hA
  refine Runs.loop (RowI2 h s (rowM s l0) (2 * l0.length + 1)) ?_ (n := 2 * l0.length + 1)
    ⟨l0, [], w, .slice none 0 0, b, by simp [e1], by simp [e5], by simp, hL, hb, .inl ⟨rfl, rfl⟩, (by rintro x ⟨_, _, _, e⟩; cases e), rfl, mu_le _, by simp, ht0, hl0, g1⟩
  clear hL hA hb e1 e5
  rintro n e h5 ⟨l, out, v, w, b, e1, e5, e7, hL5, hb5, hA, hd, hR, hmu, hK, ht5, hl5, g5⟩
  unfold round7_2
  obtain ⟨av, capv, hv, _⟩ := id hL5.sl
  by_cases hl : l = []
  · subst hl
    subst hv
    rw [rowN_nil] at hR
    simp [e1, e5, e7]
    subst hR
    exact ⟨g5, hA⟩
  · have hpos : 0 < l.length := List.length_pos_iff.mpr hl
    subst hv
    have hw0 : IntKind.i64.wrap ((l.length : Int) - 1) = (l.length : Int) - 1 := wrap_i64 _ (by omega) (by omega)
    simp [e1, e5, e7, hpos, hw0]
    refine find_loop (s := s) (v := .slice av l.length capv) (w := w) (l := l) g5.ok hL5.sl hl5 (n := l.length) ⟨Nat.le_refl _, by simp, by simp, by simp [e5], by simp [e1], by simp [e7], .refl g5.ok⟩ ?_
    rintro e' h7 f8 f5 f1 f7 g7
    have hL7 := hL5.grow g5.ok g7 (fun h => h)
    have hA7 := hA.grow g5.ok g7 (fun _ _ h => h)
    have gg : Grows Nob h h7 := g5.trans g7
    obtain ⟨k, rfl⟩ : ∃ k, n = k + 1 := ⟨n - 1, by unfold mu at hmu; omega⟩
    have hstep := mu_step (out := out) hl ht5
    have hto := rowStep_to (out := out) ht5
    have hR' : rowN s k (rowStep s l out).1 (rowStep s l out).2 = rowM s l0 := by rw [← hR]; simp [rowN, hl]
    cases hf : firstFree l with
    | some i =>
      rw [hf] at f8
      have hst : rowStep s l out = (l.eraseIdx i, out ++ [l.getD i zero]) := by unfold rowStep; rw [hf]
      rw [hst] at hstep hto hR'
      have hi : i < l.length := by
        unfold firstFree at hf
        rw [List.findIdx?_eq_some_iff_getElem] at hf
        exact hf.1
      obtain ⟨ys, hO, hys⟩ := hL7.resolve_left (fun h => hl h.1)
      have hx : l[i]? = some l[i] := List.getElem?_eq_getElem hi
      obtain ⟨b', off, cap', hv', _, _, hr⟩ := hL7.sl.read hx
      have hr0 := hr 0 3 (by simp)
      simp only [encMv_sz, Nat.add_zero] at hr0
      cases hv'
      have g8 := grow_newBlk g7.ok (encMv.enc l[i]) 0
      have hw8 : SliceOf encMv (newBlk h7 (encMv.enc l[i]) 0) (.slice (some ⟨h7.next, 0, none⟩) 1 1) [l[i]] := ⟨_, _, rfl, .inr ⟨h7.next, 0, _, _, _, _, rfl, get_newBlk _ _ _, by simp, by simp⟩⟩
      have hA8 := hA7.grow g7.ok g8 (fun _ _ h => h)
      have hO8 : LS (newBlk h7 (encMv.enc l[i]) 0) (.slice (some ⟨b', off, none⟩) l.length capv) l b := hL7.grow g7.ok g8 (fun h => h)
      have hnx8 : h.next ≤ (newBlk h7 (encMv.enc l[i]) 0).next := (gg.trans g8).next
      obtain ⟨w', h9, ha, hA9, g9, hd9⟩ := acc_append (bytes := 24) g8.ok (z := [.int .i64 0, .bool false, .int .i64 0]) rfl hA8 hw8 (by omega) (by decide) hnx8
      have hL9 := hO8.grow g8.ok g9 (fun hx => (hd _ hx) rfl)
      have hw1 := wrap_i64 (i + 1) (by omega) (by omega)
      have hbn : b < h9.next := by
        rcases hL9 with ⟨h, _⟩ | ⟨_, ⟨_, _, o, st, hg, _⟩, _⟩
        · exact absurd h hl
        · exact g9.ok.wf _ _ hg
      obtain ⟨ys9, hO9, hys9⟩ := hL9.resolve_left (fun h => hl h.1)
      obtain ⟨hv9, hle9, o9, st9, hg9, ho9⟩ := hO9
      cases hv9
      rw [encMv_enc] at ha
      simp only [Nat.zero_add] at hr0
      -- the two appends
      obtain ⟨j, hj⟩ : ∃ j, j = i + 1 := ⟨_, rfl⟩
      have hw1 : IntKind.i64.wrap ((i : Int) + 1) = (j : Int) := by rw [wrap_i64 _ (by omega) (by omega)]; omega
      have g10 := (grow_tick g9.ok).trans (grow_newBlk (grow_tick g9.ok).ok [] 0)
      have hg10 := g10.get g9.ok hg9 (fun h => h)
      have hst9 := g9.ok.st _ _ _ _ _ hg9
      have hz10 : (newBlk (tick h9) [] 0).tr.get h9.next = some (.blk [] false 0 0) := get_newBlk (tick h9) [] 0
      have hnx10 : (newBlk (tick h9) [] 0).next = h9.next + 1 := rfl
      have hsl1 : SliceOf encMv (newBlk (tick h9) [] 0) (.slice (some ⟨b, 0, none⟩) i ys9.length) (l.take i) := by
        have hli : (l.take i).length = i := by simp; omega
        refine ⟨_, _, by rw [hli], .inr ⟨b, 0, _, _, _, _, rfl, hg10, by rw [hli, Enc.length_flat]; simp; omega, ?_⟩⟩
        rw [List.drop_zero, Enc.take_flat, hli, ← hys9, List.take_take, Nat.min_eq_left (by omega)]
      obtain ⟨v11, h11, ha11, hZ11, g11⟩ := accz_append (bytes := 24) (n0 := h9.next) (z := [.int .i64 0, .bool false, .int .i64 0]) (E := encMv) (xs := []) g10.ok rfl (.inl ⟨rfl, h9.next, 0, rfl, hz10, Nat.le_refl _⟩) hsl1 (by simp; omega) (by decide) (by omega)
      have hg11 := g11.get g10.ok hg10 (by rintro ⟨_, _, _, e⟩; cases e; omega)
      have hsl2 : SliceOf encMv h11 (.slice (some ⟨b, j * 3, none⟩) (l.length - j) (ys9.length - j)) (l.drop j) := by
        have hli : (l.drop j).length = l.length - j := by simp
        refine ⟨_, _, by rw [hli], .inr ⟨b, j * 3, _, _, _, _, rfl, hg11, by rw [hli, Enc.length_flat]; simp; omega, ?_⟩⟩
        rw [show j * 3 = j * encMv.sz from rfl, Enc.drop_flat, Enc.take_flat, hli, ← hys9, List.drop_take, hys9]
      obtain ⟨v12, h12, ha12, hZ12, g12⟩ := accz_append (bytes := 24) (n0 := h9.next) (z := [.int .i64 0, .bool false, .int .i64 0]) (E := encMv) g11.ok rfl hZ11 hsl2 (by simp; omega) (by decide) (by have := g11.next; omega)
      have ho' : (o9.beq 0 || o9.beq 3) = true := by rcases ho9 with rfl | rfl <;> rfl
      have hil : i ≤ l.length := by omega
      have hjl : j ≤ l.length := by omega
      have hly : l.length ≤ ys9.length := hle9
      have hiy : i ≤ ys9.length := by omega
      have hbn9 : ¬ b = h9.next := by omega
      simp [f1, f5, f7, f8, hi, hr0, ha, hw1, hg9, hbn9, ho', hil, hjl, hly, hiy, ha11, hg11, hst9, ha12, -readAt_def]
      obtain ⟨b12, hb12, hL12⟩ := hZ12.ls
      have hnn : h.next ≤ h9.next := Nat.le_trans hnx8 g9.next
      have hA12 : AccOf encMv h.next h12 w' (out ++ [l[i]]) := by
        refine ((hA9.grow g9.ok g10 (fun _ _ h => h)).grow g10.ok g11 ?_).grow g11.ok g12 ?_
        · rintro x hx ⟨_, _, _, e⟩
          cases e
          exact absurd (acc_lt g9.ok hA9 hx) (by omega)
        · intro x hx hx'
          have h1 := hZ11.of hx'
          have h2 := acc_lt g9.ok hA9 hx
          omega
      have g13 : Grows Nob h h12 := by
        have a1 : Grows (fun x => h.next ≤ x) h7 h9 := g8.trans' g9 (fun _ _ h => h.elim) (fun x _ hx => hA8.of hx)
        have a2 : Grows (fun x => h9.next ≤ x) (newBlk (tick h9) [] 0) h12 := g11.trans' g12 (by rintro x _ ⟨_, _, _, e⟩; cases e; exact Nat.le_refl _) (fun x _ hx => hZ11.of hx)
        exact ((gg.trans' a1 (fun _ _ h => h) (fun x hx h => absurd hx (by omega))).trans g10).trans' a2 (fun _ _ h => h) (fun x hx h => absurd hx (by omega))
      have hel : ([] ++ l.take i) ++ l.drop j = l.eraseIdx i := by rw [List.nil_append, List.eraseIdx_eq_take_drop_succ, hj]
      have hlen10 : (l.eraseIdx i).length = l.length - 1 := List.length_eraseIdx_of_lt hi
      rw [hel] at hL12
      refine ⟨k, by omega, l.eraseIdx i, out ++ [l.getD i zero], v12, w', b12, by simp [f1], by simp, by simp, hL12, by omega, ?_, ?_, hR', (by dsimp only at hstep; omega), (by simp; omega), hto, (by omega), g13⟩
      · simpa [hi] using hA12
      · intro x hx
        have := acc_lt g9.ok hA9 hx
        omega
    | none =>
      rw [hf] at f8
      have hst : rowStep s l out = (l.map (swapIn s (headTo l)), out ++ [⟨s, true, headTo l⟩]) := by unfold rowStep; rw [hf]
      rw [hst] at hstep hto hR'
      obtain ⟨ys, hO, hys⟩ := hL7.resolve_left (fun h => hl h.1)
      have hx : l[0]? = some l[0] := List.getElem?_eq_getElem hpos
      obtain ⟨b', off, cap', hv', _, _, hr⟩ := hL7.sl.read hx
      have hr0 := hr 0 1 (by simp)
      have hhd : headTo l = l[0].to := by
        cases l with
        | nil => exact absurd rfl hl
        | cons x l => rfl
      simp only [encMv_sz, Nat.add_zero, Nat.zero_mul] at hr0
      cases hv'
      have g8 := (grow_newBlk g7.ok [.bool false, .int .i64 0] 0).put (b := h7.next) (off := 0) (vs := [.bool true, .int .i64 l[0].to]) ⟨_, get_newBlk _ _ _⟩ (.inl (Nat.le_refl _))
      have hT8 : (put (newBlk h7 [.bool false, .int .i64 0] 0) h7.next 0 [.bool false, .int .i64 0] [.bool true, .int .i64 l[0].to] 0).tr.get h7.next = some (.blk [.bool true, .int .i64 l[0].to] false 0 h7.clock) := by simp
      have hnx8 : (put (newBlk h7 [.bool false, .int .i64 0] 0) h7.next 0 [.bool false, .int .i64 0] [.bool true, .int .i64 l[0].to] 0).next = h7.next + 1 := by simp
      simp [f1, f5, f7, f8, hpos, hr0, -readAt_def]
      generalize hg8 : put (newBlk h7 [.bool false, .int .i64 0] 0) h7.next 0 [.bool false, .int .i64 0] [.bool true, .int .i64 l[0].to] 0 = h8 at *
      have hA8 := hA7.grow g7.ok g8 (fun _ _ h => h)
      have hL8 := hL7.grow g7.ok g8 (fun h => h)
      have hrT8 : readAt h8 h7.next 0 2 = some [.bool true, .int .i64 l[0].to] := by simp [hT8]
      have g9 := grow_newBlk g8.ok (encMv.enc ⟨s, true, l[0].to⟩) 0
      have hw9 : SliceOf encMv (newBlk h8 (encMv.enc ⟨s, true, l[0].to⟩) 0) (.slice (some ⟨h8.next, 0, none⟩) 1 1) [⟨s, true, l[0].to⟩] := ⟨_, _, rfl, .inr ⟨h8.next, 0, _, _, _, _, rfl, get_newBlk _ _ _, by simp, by simp⟩⟩
      have hA9 := hA8.grow g8.ok g9 (fun _ _ h => h)
      have hT9 := g9.get g8.ok hT8 (fun h => h)
      have hL9 := hL8.grow g8.ok g9 (fun h => h)
      have hnx9' : (newBlk h8 (encMv.enc ⟨s, true, l[0].to⟩) 0).next = h8.next + 1 := rfl
      have hnn : h.next ≤ h7.next := gg.next
      obtain ⟨w', h10, ha, hA10, g10, hd10⟩ := acc_append (bytes := 24) g9.ok (z := [.int .i64 0, .bool false, .int .i64 0]) rfl hA9 hw9 (by omega) (by decide) (by omega)
      have hT10 := g10.get g9.ok hT9 (fun hx => absurd (acc_lt g7.ok hA7 hx) (by omega))
      have hL10 := hL9.grow g9.ok g10 (fun hx => (hd _ hx) rfl)
      have hgg10 : Grows (BlkOf w) h7 h10 := (g8.nob.trans g9.nob).trans g10
      rw [encMv_enc] at ha
      obtain ⟨ys10, hO10, hys10⟩ := hL10.resolve_left (fun h => hl h.1)
      obtain ⟨hv10, hle10, o10, st10, hg10, ho10⟩ := hO10
      cases hv10
      have hbT : ¬ h7.next = b := by
        rcases hL7 with ⟨h, _⟩ | ⟨_, ⟨_, _, o, st, hg, _⟩, _⟩
        · exact absurd h hl
        · have := g7.ok.wf _ _ hg; omega
      have hb9 : b < (newBlk h8 (encMv.enc ⟨s, true, l[0].to⟩) 0).next := by
        rcases hL9 with ⟨h, _⟩ | ⟨_, ⟨_, _, o, st, hg, _⟩, _⟩
        · exact absurd h hl
        · exact g9.ok.wf _ _ hg
      have hbw : ∀ x, BlkOf w' x → x ≠ b ∧ h.next ≤ x := by
        intro x hx
        have := hd10 x hx
        omega
      simp [f1, f5, f7, f8, hpos, hr0, hrT8, ha, -readAt_def]
      refine swap2_loop (s := s) (r := l[0].to) (T := h7.next) (b := b) (ysl := ys10.length) (o := o10) (l := l) (w := w') g10.ok hT10 hbT hl5 hle10 (n := l.length)
        ⟨0, ys10, st10, by simp, by simp, by simp, by simp [f5], by simp [f1], by simp, by simp, rfl, by simp, by simpa using hys10, hg10, .refl g10.ok⟩ ?_
      intro e'' h11 zs st j5 j1 j7 hzl hzt hg11 g11
      simp
      have hml : (l.map (swapIn s (headTo l))).length = l.length := by simp
      have g12 : Grows Nob h h11 := by
        have : Grows (fun x => h.next ≤ x) h7 h11 := hgg10.trans' g11 (fun x _ hx => hA7.of hx) (fun x _ hx => by omega)
        exact gg.trans' this (fun _ _ h => h) (fun x hx h => absurd hx (by omega))
      refine ⟨k, by omega, l.map (swapIn s (headTo l)), out ++ [⟨s, true, headTo l⟩], _, w', b, j1, j5, j7, .inr ⟨zs, ⟨by rw [hml, hzl], by omega, o10, st, hg11, ho10⟩, ?_⟩, hb5, ?_, fun x hx => (hbw x hx).1, hR', (by dsimp only at hstep; omega), (by simp; omega), hto, (by omega), g12⟩
      · rw [hml, hzt, hhd]
      · rw [hhd]; exact hA10.grow g10.ok g11 (fun x hx => (hbw x hx).1)
end Go.Proofs.Ytkhnhflbgkndjaa
