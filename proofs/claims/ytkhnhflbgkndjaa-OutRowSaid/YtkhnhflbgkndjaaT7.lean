import Derived.Test.YtkhnhflbgkndjaaT6
namespace Go.Proofs.Ytkhnhflbgkndjaa
open Go.AI

/-- What holds at each beginning of the row's loop. -/
def RowI (h : Heap) (s : Int) (R : List Mv) (K : Nat) (n : Nat) (e : Env) (h1 : Heap) : Prop :=
  ∃ l out v w b sB, Env.get e 1 = .int .i64 s ∧ Env.get e 2 = .pointer (some ⟨h.next, 0, none⟩) ∧ Env.get e 5 = w ∧
    h1.tr.get h.next = some (.blk [v] false 0 sB) ∧ LS h1 v l b ∧ h.next < b ∧ AccOf encMv h.next h1 w out ∧ (∀ x, BlkOf w x → x ≠ b ∧ x ≠ h.next) ∧ rowN s n l out = R ∧ mu l ≤ n ∧ out.length + n ≤ K ∧
    (∀ m ∈ l, m.to ≠ s) ∧ l.length ≤ 100 ∧ Grows Nob h h1

theorem rowN_nil (s : Int) (n : Nat) (out : List Mv) : rowN s n [] out = out := by cases n <;> simp [rowN]

theorem splice_cons {cs vs : List Value} {k : Nat} {c : Value} (h : cs[k]? = some c) : splice cs (k + 1) vs = splice cs k (c :: vs) := by
  unfold splice
  have hk := (List.getElem?_eq_some_iff.mp h)
  rw [List.take_add_one, h, List.length_cons, Nat.add_assoc k 1, Nat.add_comm 1]
  simp

theorem acc_lt {α : Type} {E : Enc α} {n0 : Nat} {h : Heap} {v : Value} {xs : List α} (ok : HOk h) (a : AccOf E n0 h v xs) {b : Nat} (o : BlkOf v b) : b < h.next := by
  obtain ⟨off, n, cap, rfl⟩ := o
  rcases a with ⟨_, e⟩ | ⟨b', s, e, hb, _, _⟩
  · cases e
  · cases e; exact ok.wf _ _ hb

/-- the loop that puts the spare register in place of a saved one -/
def SwapI (h9 : Heap) (s r : Int) (B T b : Nat) (l : List Mv) (ysl o : Nat) (w : Value) (n : Nat) (e : Env) (h1 : Heap) : Prop :=
  ∃ j zs st, n = l.length - j ∧ j ≤ l.length ∧ Env.get e 48 = .int .i64 (j : Nat) ∧ Env.get e 47 = .int .i64 l.length ∧ Env.get e 46 = .slice (some ⟨b, 0, none⟩) l.length ysl ∧ Env.get e 1 = .int .i64 s ∧
    Env.get e 2 = .pointer (some ⟨B, 0, none⟩) ∧ Env.get e 5 = w ∧ Env.get e 8 = .pointer (some ⟨T, 0, none⟩) ∧ zs.length = ysl ∧ zs.take j = (l.take j).map (swapIn s r) ∧ (zs.take l.length).drop j = l.drop j ∧
    h1.tr.get b = some (.blk (encMv.flat zs) false o st) ∧ Grows (· = b) h9 h1

theorem row_does {h : Heap} (ok : HOk h) {v : Value} {xs : List Mv} (hs : SliceOf encMv h v xs) (hn : xs.length ≤ 100) {s : Int} (ht : ∀ m ∈ xs, m.to ≠ s) :
    Does FF 12 [v, .int .i64 s] h (fun r h' => Grows Nob h h' ∧ AccOf encMv h.next h' r (rowM s (xs.filter fun m => !selfy m))) := by
  obtain ⟨a, cap, rfl, hs'⟩ := id hs
  refine Does.of code12 ?_
  unfold body12
  simp
  have g1 := grow_newBlk ok [.slice a xs.length cap] 0
  have hB := get_newBlk h [.slice a xs.length cap] 0
  have hnx := next_newBlk h [.slice a xs.length cap] 0
  generalize newBlk h [.slice a xs.length cap] 0 = h1 at *
  refine OpsR.call (by simpa using clone_does g1.ok (hs.nob ok g1) (by omega)) ?_
  rintro v2 h2 ⟨g2, H⟩
  simp
  refine OpsR.call (V := fun r h' => Grows Nob h1 h' ∧ ∃ b, h.next < b ∧ LS h' r (xs.filter fun m => !selfy m) b) ?_ ?_
  · simp
    rcases H with ⟨rfl, H⟩ | ⟨b, hb, H⟩
    · refine (deleteFunc_nil g2.ok H).mono ?_
      rintro _ h3 ⟨rfl, g3⟩
      exact ⟨g2.trans g3, h.next + 1, by omega, .inl ⟨rfl, H.nob g2.ok g3⟩⟩
    · refine (deleteFunc_does g2.ok H (by omega) (p := selfy) (fun h3 ok3 x => by rw [doesV_func]; simpa using selfy_does ok3 x)).mono ?_
      rintro r h3 ⟨g3, ys', n, he, hO⟩
      refine ⟨g2.trans' g3 (fun _ _ h => h) (by rintro x hx rfl; exact absurd hx (by omega)), b, by omega, .inr ⟨ys', ?_, ?_⟩⟩
      · have : (xs.filter fun m => !selfy m).length = n := by rw [← he, List.length_take]; have := hO.2.1; omega
        rw [this]; exact hO
      · have : (xs.filter fun m => !selfy m).length = n := by rw [← he, List.length_take]; have := hO.2.1; omega
        rw [this]; exact he
  · rintro r h3 ⟨g3, b, hb, hL⟩
    have hB3 := g3.get g1.ok hB (fun h => h)
    have hl0 : (xs.filter fun m => !selfy m).length ≤ 100 := Nat.le_trans (List.length_filter_le _ _) hn
    have ht0 : ∀ m ∈ (xs.filter fun m => !selfy m), m.to ≠ s := fun m hm => ht m (List.mem_filter.mp hm).1
    generalize xs.filter (fun m => !selfy m) = l0 at *
    obtain ⟨ar, capr, hr, hL'⟩ := id hL.sl
    simp [hB3, hr]
    have g4 : Grows Nob h (put h3 h.next 0 [.slice a xs.length cap] [.slice ar l0.length capr] 0) := (g1.trans g3).put ⟨_, hB3⟩ (.inl (Nat.le_refl _))
    have hB4 : (put h3 h.next 0 [.slice a xs.length cap] [.slice ar l0.length capr] 0).tr.get h.next = some (.blk [.slice ar l0.length capr] false 0 h3.clock) := by simp
    have hL4 := hL.grow (g3.ok) (grow_put g3.ok (off := 0) (vs := [.slice ar l0.length capr]) hB3) (show ¬ b = h.next by omega)
    generalize put h3 h.next 0 [.slice a xs.length cap] [.slice ar l0.length capr] 0 = h4 at *
    refine Runs.loop (RowI h s (rowM s l0) (2 * l0.length + 1)) ?_ (n := 2 * l0.length + 1)
      ⟨l0, [], r, .slice none 0 0, b, _, by simp, by simp, by simp, hr ▸ hB4, hL4, hb, .inl ⟨rfl, rfl⟩, (by rintro x ⟨_, _, _, e⟩; cases e), rfl, mu_le _, by simp, ht0, hl0, g4⟩
    rintro n e h5 ⟨l, out, v, w, b, sB, e1, e2, e5, hB5, hL5, hb5, hA, hd, hR, hmu, hK, ht5, hl5, g5⟩
    unfold round12_1
    obtain ⟨av, capv, hv, _⟩ := id hL5.sl
    by_cases hl : l = []
    · subst hl
      subst hv
      rw [rowN_nil] at hR
      simp [e1, e2, e5, hB5]
      subst hR
      exact ⟨g5, hA⟩
    · have hpos : 0 < l.length := List.length_pos_iff.mpr hl
      subst hv
      have hneB : ¬ h.next = h5.next := by have := g5.ok.wf _ _ hB5; omega
      simp [e1, e2, e5, hB5, hpos, hneB]
      have g6 : Grows Nob h5 (put (newBlk h5 [.nilFunc] 0) h5.next 0 [.nilFunc] [.func (.func 19) #[] #[.pointer (some ⟨h.next, 0, none⟩)]] 0) := (grow_newBlk g5.ok _ _).put ⟨_, get_newBlk _ _ _⟩ (.inl (Nat.le_refl _))
      have hT6 : (put (newBlk h5 [.nilFunc] 0) h5.next 0 [.nilFunc] [.func (.func 19) #[] #[.pointer (some ⟨h.next, 0, none⟩)]] 0).tr.get h5.next = some (.blk [.func (.func 19) #[] #[.pointer (some ⟨h.next, 0, none⟩)]] false 0 h5.clock) := by simp
      have hB6 := g6.get g5.ok hB5 (fun h => h)
      have hL6 := hL5.grow g5.ok g6 (fun h => h)
      have hA6 := hA.grow g5.ok g6 (fun _ _ h => h)
      have hT5 : h5.next < (put (newBlk h5 [.nilFunc] 0) h5.next 0 [.nilFunc] [.func (.func 19) #[] #[.pointer (some ⟨h.next, 0, none⟩)]] 0).next := by simp
      generalize put (newBlk h5 [.nilFunc] 0) h5.next 0 [.nilFunc] [.func (.func 19) #[] #[.pointer (some ⟨h.next, 0, none⟩)]] 0 = h6 at *
      refine OpsR.call (by simpa using index_does (p := fun m => !asks l m.to) (fv := .func (.func 21) #[] #[.pointer (some ⟨h5.next, 0, none⟩)]) g6.ok hL6.sl (by omega) (fun h7 g7 x _ => by
        rw [doesV_func]
        simpa using unneeded_does g7.ok (m := x) (g7.get g6.ok hB6 (fun h => h)) (g7.get g6.ok hT6 (fun h => h)) (hL6.sl.nob g6.ok g7) (by omega))) ?_
      rintro _ h7 ⟨rfl, g7⟩
      have hB7 := g7.get g6.ok hB6 (fun h => h)
      have hL7 := hL6.grow g6.ok g7 (fun h => h)
      have hA7 := hA6.grow g6.ok g7 (fun _ _ h => h)
      have gg : Grows Nob h h7 := (g5.trans g6).trans g7
      obtain ⟨k, rfl⟩ : ∃ k, n = k + 1 := ⟨n - 1, by unfold mu at hmu; omega⟩
      have hstep := mu_step (out := out) hl ht5
      have hto := rowStep_to (out := out) ht5
      have hR' : rowN s k (rowStep s l out).1 (rowStep s l out).2 = rowM s l0 := by rw [← hR]; simp [rowN, hl]
      have hff : l.findIdx? (fun m => !asks l m.to) = firstFree l := rfl
      rw [hff]
      cases hf : firstFree l with
      | some i =>
        have hst : rowStep s l out = (l.eraseIdx i, out ++ [l.getD i zero]) := by unfold rowStep; rw [hf]
        rw [hst] at hstep hto hR'
        have hi : i < l.length := by
          unfold firstFree at hf
          rw [List.findIdx?_eq_some_iff_getElem] at hf
          exact hf.1
        obtain ⟨ys, hO, hys⟩ := hL7.resolve_left (fun h => hl h.1)
        have hx : l[i]? = some l[i] := List.getElem?_eq_getElem hi
        obtain ⟨b', off, cap', hv', _, _, hr⟩ := hL7.sl.read hx
        have hr0 := hr 0 3 (by simp)
        simp only [encMv_sz, Nat.add_zero] at hr0
        cases hv'
        have hrB : readAt h7 h.next 0 1 = some [.slice (some ⟨b', off, none⟩) l.length capv] := by simp [hB7]
        have g8 := grow_newBlk g7.ok (encMv.enc l[i]) 0
        have hw8 : SliceOf encMv (newBlk h7 (encMv.enc l[i]) 0) (.slice (some ⟨h7.next, 0, none⟩) 1 1) [l[i]] := ⟨_, _, rfl, .inr ⟨h7.next, 0, _, _, _, _, rfl, get_newBlk _ _ _, by simp, by simp⟩⟩
        have hA8 := hA7.grow g7.ok g8 (fun _ _ h => h)
        have hB8 := g8.get g7.ok hB7 (fun h => h)
        have hO8 : LS (newBlk h7 (encMv.enc l[i]) 0) (.slice (some ⟨b', off, none⟩) l.length capv) l b := hL7.grow g7.ok g8 (fun h => h)
        have hnx8 : h.next < (newBlk h7 (encMv.enc l[i]) 0).next := g8.ok.wf _ _ hB8
        obtain ⟨w', h9, ha, hA9, g9, hd9⟩ := acc_append (bytes := 24) g8.ok (z := [.int .i64 0, .bool false, .int .i64 0]) rfl hA8 hw8 (by omega) (by decide) (by omega)
        have hB9 := g9.get g8.ok hB8 (fun hx => (hd _ hx).2 rfl)
        have hL9 := hO8.grow g8.ok g9 (fun hx => (hd _ hx).1 rfl)
        have hrB9 : readAt h9 h.next 0 1 = some [.slice (some ⟨b', off, none⟩) l.length capv] := by simp [hB9]
        have hw1 := wrap_i64 (i + 1) (by omega) (by omega)
        have hgg9 : Grows (BlkOf w) h7 h9 := g8.nob.trans g9
        rw [encMv_enc] at ha
        simp [e1, e2, e5, hrB, hi, hr0, ha, hrB9, hw1, -readAt_def]
        obtain ⟨ys9, hO9, hys9⟩ := hL9.resolve_left (fun h => hl h.1)
        refine OpsR.call (by simpa using delete_does g9.ok hO9 (by omega) hi rfl) ?_
        rintro _ h10 ⟨g10, ys10, hys10, hO10⟩
        have hB10 := g10.get g9.ok hB9 (show ¬ h.next = b by omega)
        have hA10 := hA9.grow g9.ok g10 (fun x hx => by rintro rfl; have := hd9 _ hx; have := g8.ok.wf; have := hO8; rcases hO8 with ⟨h, _⟩ | ⟨_, ⟨_, _, o, st, hg, _⟩, _⟩; exact hl h; have := g8.ok.wf _ _ hg; omega)
        have hlen10 : (l.eraseIdx i).length = l.length - 1 := List.length_eraseIdx_of_lt hi
        rw [hys9] at hys10
        have hL10 : LS h10 _ (l.eraseIdx i) b := .inr ⟨ys10, by rw [hlen10]; exact hO10, by rw [hlen10]; exact hys10⟩
        obtain ⟨rfl, hle10, hg10⟩ := id hO10
        have g11 : Grows Nob h (put h10 h.next 0 [.slice (some ⟨b', off, none⟩) l.length capv] [.slice (some ⟨b, 0, none⟩) (l.length - 1) ys10.length] 0) := by
          have hg : Grows Nob h h10 := (gg.trans' g8 (fun _ _ h => h) (fun _ _ h => h.elim)).trans' (g9.trans' g10 (S := fun x => h.next ≤ x) (fun x _ hx => hA8.of hx) (fun x _ hx => by omega)) (fun _ _ h => h) (fun x hx h => absurd hx (by omega))
          exact hg.put ⟨_, hB10⟩ (.inl (Nat.le_refl _))
        have hL11 := hL10.grow g10.ok (grow_put g10.ok (off := 0) (vs := [.slice (some ⟨b, 0, none⟩) (l.length - 1) ys10.length]) hB10) (show ¬ b = h.next by omega)
        have hA11 := hA10.grow g10.ok (grow_put g10.ok (off := 0) (vs := [.slice (some ⟨b, 0, none⟩) (l.length - 1) ys10.length]) hB10) (fun x hx => by have := hd9 _ hx; omega)
        simp [e1, e2, e5, hB10]
        refine ⟨k, by omega, l.eraseIdx i, out ++ [l.getD i zero], .slice (some ⟨b, 0, none⟩) (l.length - 1) ys10.length, w', b, h10.clock, ?_⟩
        refine ⟨by simp [e1], by simp [e2], by simp, by simp, hL11, hb5, ?_, ?_, hR', (by dsimp only at hstep; omega), (by simp; omega), hto, by omega, g11⟩
        · simpa [hi] using hA11
        · intro x hx
          have := hd9 _ hx
          rcases hO8 with ⟨h, _⟩ | ⟨_, ⟨_, _, o, st, hg, _⟩, _⟩
          · exact absurd h hl
          · have := g8.ok.wf _ _ hg; omega
      | none =>
        have hst : rowStep s l out = (l.map (swapIn s (headTo l)), out ++ [⟨s, true, headTo l⟩]) := by unfold rowStep; rw [hf]
        rw [hst] at hstep hto hR'
        obtain ⟨ys, hO, hys⟩ := hL7.resolve_left (fun h => hl h.1)
        have hx : l[0]? = some l[0] := List.getElem?_eq_getElem hpos
        obtain ⟨b', off, cap', hv', _, _, hr⟩ := hL7.sl.read hx
        have hr0 := hr 0 1 (by simp)
        have hhd : headTo l = l[0].to := by
          cases l with
          | nil => exact absurd rfl hl
          | cons x l => rfl
        simp only [encMv_sz, Nat.add_zero, Nat.zero_mul] at hr0
        cases hv'
        have hrB : readAt h7 h.next 0 1 = some [.slice (some ⟨b', off, none⟩) l.length capv] := by simp [hB7]
        -- the saved value's cell
        have g8 := (grow_newBlk g7.ok [.bool false, .int .i64 0] 0).put (b := h7.next) (off := 0) (vs := [.bool true, .int .i64 l[0].to]) ⟨_, get_newBlk _ _ _⟩ (.inl (Nat.le_refl _))
        have hT8 : (put (newBlk h7 [.bool false, .int .i64 0] 0) h7.next 0 [.bool false, .int .i64 0] [.bool true, .int .i64 l[0].to] 0).tr.get h7.next = some (.blk [.bool true, .int .i64 l[0].to] false 0 h7.clock) := by simp
        have hnx8 : (put (newBlk h7 [.bool false, .int .i64 0] 0) h7.next 0 [.bool false, .int .i64 0] [.bool true, .int .i64 l[0].to] 0).next = h7.next + 1 := by simp
        simp [e1, e2, e5, hrB, hpos, hr0, -readAt_def]
        generalize hg8 : put (newBlk h7 [.bool false, .int .i64 0] 0) h7.next 0 [.bool false, .int .i64 0] [.bool true, .int .i64 l[0].to] 0 = h8 at *
        have hA8 := hA7.grow g7.ok g8 (fun _ _ h => h)
        have hB8 := g8.get g7.ok hB7 (fun h => h)
        have hL8 := hL7.grow g7.ok g8 (fun h => h)
        have hrT8 : readAt h8 h7.next 0 2 = some [.bool true, .int .i64 l[0].to] := by simp [hT8]
        have hrB8 : readAt h8 h.next 0 1 = some [.slice (some ⟨b', off, none⟩) l.length capv] := by simp [hB8]
        have g9 := grow_newBlk g8.ok (encMv.enc ⟨s, true, l[0].to⟩) 0
        have hw9 : SliceOf encMv (newBlk h8 (encMv.enc ⟨s, true, l[0].to⟩) 0) (.slice (some ⟨h8.next, 0, none⟩) 1 1) [⟨s, true, l[0].to⟩] := ⟨_, _, rfl, .inr ⟨h8.next, 0, _, _, _, _, rfl, get_newBlk _ _ _, by simp, by simp⟩⟩
        have hA9 := hA8.grow g8.ok g9 (fun _ _ h => h)
        have hB9 := g9.get g8.ok hB8 (fun h => h)
        have hT9 := g9.get g8.ok hT8 (fun h => h)
        have hL9 := hL8.grow g8.ok g9 (fun h => h)
        have hnx9 : h.next < (newBlk h8 (encMv.enc ⟨s, true, l[0].to⟩) 0).next := g9.ok.wf _ _ hB9
        have hnx9' : (newBlk h8 (encMv.enc ⟨s, true, l[0].to⟩) 0).next = h8.next + 1 := rfl
        obtain ⟨w', h10, ha, hA10, g10, hd10⟩ := acc_append (bytes := 24) g9.ok (z := [.int .i64 0, .bool false, .int .i64 0]) rfl hA9 hw9 (by omega) (by decide) (by omega)
        have hB10 := g10.get g9.ok hB9 (fun hx => (hd _ hx).2 rfl)
        have hT10 := g10.get g9.ok hT9 (fun hx => absurd (acc_lt g7.ok hA7 hx) (by omega))
        have hL10 := hL9.grow g9.ok g10 (fun hx => (hd _ hx).1 rfl)
        have hrB10 : readAt h10 h.next 0 1 = some [.slice (some ⟨b', off, none⟩) l.length capv] := by simp [hB10]
        have hgg10 : Grows (BlkOf w) h7 h10 := (g8.nob.trans g9.nob).trans g10
        rw [encMv_enc] at ha
        simp [e1, e2, e5, hrB, hpos, hr0, hrT8, hrB8, ha, hrB10, -readAt_def]
        obtain ⟨ys10, hO10, hys10⟩ := hL10.resolve_left (fun h => hl h.1)
        obtain ⟨hv10, hle10, o10, st10, hg10, ho10⟩ := hO10
        cases hv10
        have hbT : ¬ b = h7.next := by
          rcases hL7 with ⟨h, _⟩ | ⟨_, ⟨_, _, o, st, hg, _⟩, _⟩
          · exact absurd h hl
          · have := g7.ok.wf _ _ hg; omega
        have hbw : ∀ x, BlkOf w' x → x ≠ b ∧ x ≠ h.next ∧ h.next ≤ x := by
          intro x hx
          have := hd10 x hx
          rcases hL9 with ⟨h, _⟩ | ⟨_, ⟨_, _, o, st, hg, _⟩, _⟩
          · exact absurd h hl
          · have := g9.ok.wf _ _ hg; omega
        refine Runs.loop (SwapI h10 s l[0].to h.next h7.next b l ys10.length o10 w') ?_ (n := l.length)
          ⟨0, ys10, st10, by simp, by simp, by simp, by simp, by simp, by simp [e1], by simp [e2], by simp, by simp, rfl, by simp, by simpa using hys10, hg10, .refl g10.ok⟩
        rintro n e h11 ⟨j, zs, st, rfl, hj, e48, e47, e46, e1, e2, e5, e8, hzl, hzt, hzd, hg11, g11⟩
        have hB11 := g11.get g10.ok hB10 (show ¬ h.next = b by omega)
        have hT11 := g11.get g10.ok hT10 (fun e => hbT e.symm)
        unfold round12_0
        by_cases hjl : j < l.length
        · have hx : zs[j]? = some l[j] := by
            have : ((zs.take l.length).drop j)[0]? = (l.drop j)[0]? := by rw [hzd]
            simpa [hjl, List.getElem?_take] using this
          have hjz : j < zs.length := by omega
          have hr1 : readAt h11 b (j * 3) 3 = some (encMv.enc l[j]) := by
            rw [readAt_eq hg11 (by rw [Enc.length_flat]; simp; omega)]
            have := Enc.part_flat encMv zs j 0 3 _ hx (by simp)
            simpa using this
          have hnB : ¬ h.next = h11.next := by have := g11.ok.wf _ _ hB11; omega
          have hnT : ¬ h7.next = h11.next := by have := g11.ok.wf _ _ hT11; omega
          have hnb : ¬ b = h11.next := by have := g11.ok.wf _ _ hg11; omega
          have hw := wrap_i64 (j + 1) (by omega) (by omega)
          rw [encMv_enc] at hr1
          have g12 : Grows Nob h11 (put (newBlk h11 [.int .i64 0, .bool false, .int .i64 0] 0) h11.next 0 [.int .i64 0, .bool false, .int .i64 0] [.int .i64 l[j].to, .bool l[j].reg, .int .i64 l[j].n] 0) := (grow_newBlk g11.ok _ _).put ⟨_, get_newBlk _ _ _⟩ (.inl (Nat.le_refl _))
          have hr12 : readAt (put (newBlk h11 [.int .i64 0, .bool false, .int .i64 0] 0) h11.next 0 [.int .i64 0, .bool false, .int .i64 0] [.int .i64 l[j].to, .bool l[j].reg, .int .i64 l[j].n] 0) h11.next 1 2 = some [.bool l[j].reg, .int .i64 l[j].n] := by simp
          simp [e48, e47, e46, e1, e2, e5, e8, hjl, hr1, -readAt_def]
          generalize put (newBlk h11 [.int .i64 0, .bool false, .int .i64 0] 0) h11.next 0 [.int .i64 0, .bool false, .int .i64 0] [.int .i64 l[j].to, .bool l[j].reg, .int .i64 l[j].n] 0 = h12 at *
          have hB12 := g12.get g11.ok hB11 (fun h => h)
          have hT12 := g12.get g11.ok hT11 (fun h => h)
          have hg12 := g12.get g11.ok hg11 (fun h => h)
          have hrB12 : readAt h12 h.next 0 1 = some [.slice (some ⟨b, 0, none⟩) l.length ys10.length] := by simp [hB12]
          have hrT12 : readAt h12 h7.next 0 2 = some [.bool true, .int .i64 l[0].to] := by simp [hT12]
          have gg12 : Grows (· = b) h10 h12 := g11.trans g12.nob
          have hmt : (l.take (j + 1)).map (swapIn s l[0].to) = (l.take j).map (swapIn s l[0].to) ++ [swapIn s l[0].to l[j]] := by
            rw [List.take_succ_eq_append_getElem hjl, List.map_append]; rfl
          have hzj : zs.take (j + 1) = zs.take j ++ [l[j]] := by
            rw [List.take_add_one, hx]; rfl
          have hdd : (zs.take l.length).drop (j + 1) = l.drop (j + 1) := by rw [← List.drop_drop, hzd, List.drop_drop]
          cases hc : needs l[0].to l[j] with
          | true =>
            have hc' : l[j].reg = true ∧ l[j].n = l[0].to := by simpa [needs] using hc
            have hfit : j * 3 + 1 + 2 ≤ ys10.length * 3 := by omega
            simp [e48, e47, e46, e1, e2, e5, e8, hjl, hr12, hw, hc', hrB12, hrT12, hg12, hzl, hfit, -readAt_def]
            refine ⟨l.length - (j + 1), by omega, j + 1, zs.set j ⟨l[j].to, true, s⟩, h12.clock, rfl, by omega, by simp, by simp [e47], by simp [e46], by simp [e1], by simp [e2], by simp [e5], by simp [e8], by simp [hzl], ?_, ?_, ?_, gg12.put ⟨_, hg12⟩ (.inr rfl)⟩
            · rw [take_set_self _ _ _ hjz, hzt, hmt]
              simp [swapIn, hc]
            · rw [List.take_set, List.drop_set_of_lt (by omega), hdd]
            · rw [get_put_same, splice_cons (c := .int .i64 l[j].to), ← encMv.splice_flat zs j ⟨l[j].to, true, s⟩ hjz]
              · rfl
              · have h0 := Enc.part_flat encMv zs j 0 1 _ hx (by simp)
                have h1 : ((encMv.flat zs).drop (j * 3))[0]? = some (.int .i64 l[j].to) := by
                  have := congrArg (·[0]?) h0
                  simpa [List.getElem?_take] using this
                simpa using h1
          | false =>
            have hc' : l[j].reg = false ∨ ¬ l[j].n = l[0].to := by
              cases hreg : l[j].reg with
              | false => exact .inl rfl
              | true => right; simpa [needs, hreg] using hc
            have hfin : ∀ e' : Env, Env.get e' 48 = .int .i64 (j + 1 : Nat) → Env.get e' 47 = .int .i64 l.length → Env.get e' 46 = .slice (some ⟨b, 0, none⟩) l.length ys10.length → Env.get e' 1 = .int .i64 s →
                Env.get e' 2 = .pointer (some ⟨h.next, 0, none⟩) → Env.get e' 5 = w' → Env.get e' 8 = .pointer (some ⟨h7.next, 0, none⟩) → ∃ m, m < l.length - j ∧ SwapI h10 s l[0].to h.next h7.next b l ys10.length o10 w' m e' h12 := by
              intro e' f1 f2 f3 f4 f5 f6 f7
              refine ⟨l.length - (j + 1), by omega, j + 1, zs, st, rfl, by omega, f1, f2, f3, f4, f5, f6, f7, hzl, ?_, hdd, hg12, gg12⟩
              rw [hzj, hzt, hmt]
              simp [swapIn, hc]
            rcases hc' with hc' | hc' <;> simp [e48, e47, e46, e1, e2, e5, e8, hjl, hr12, hw, hc', hrT12, -readAt_def] <;>
              exact hfin _ (by simp) (by simp [e47]) (by simp [e46]) (by simp [e1]) (by simp [e2]) (by simp [e5]) (by simp [e8])
        · have hjl' : j = l.length := by omega
          subst hjl'
          simp [e48, e47]
          have hml : (l.map (swapIn s (headTo l))).length = l.length := by simp
          have g12 : Grows Nob h h11 := by
            have : Grows (fun x => h.next ≤ x) h7 h11 := hgg10.trans' g11 (fun x _ hx => hA7.of hx) (fun x _ hx => by omega)
            exact gg.trans' this (fun _ _ h => h) (fun x hx h => absurd hx (by omega))
          refine ⟨k, by omega, l.map (swapIn s (headTo l)), out ++ [⟨s, true, headTo l⟩], _, w', b, _, by simp [e1], by simp [e2], by simp [e5], hB11, .inr ⟨zs, ⟨by rw [hml, hzl], by omega, o10, st, hg11, ho10⟩, ?_⟩, hb5, ?_, fun x hx => ⟨(hbw x hx).1, (hbw x hx).2.1⟩, hR', (by dsimp only at hstep; omega), (by simp; omega), hto, (by omega), g12⟩
          · rw [hml, hzt, hhd]; simp
          · rw [hhd]; exact hA10.grow g10.ok g11 (fun x hx => (hbw x hx).1)
end Go.Proofs.Ytkhnhflbgkndjaa
