import Derived.Test.YtkhnhflbgkndjaaT7
namespace Go.Proofs.Ytkhnhflbgkndjaa
open Go.AI

def RowI2 (h : Heap) (s : Int) (R : List Mv) (K : Nat) (n : Nat) (e : Env) (h1 : Heap) : Prop :=
  ∃ l out v w b, Env.get e 1 = .int .i64 s ∧ Env.get e 5 = v ∧ Env.get e 7 = w ∧ LS h1 v l b ∧ h.next ≤ b ∧ AccOf encMv h.next h1 w out ∧ (∀ x, BlkOf w x → x ≠ b) ∧
    rowN s n l out = R ∧ mu l ≤ n ∧ out.length + n ≤ K ∧ (∀ m ∈ l, m.to ≠ s) ∧ l.length ≤ 100 ∧ Grows Nob h h1

def SwapI2 (h9 : Heap) (s r : Int) (T b : Nat) (l : List Mv) (ysl o : Nat) (w : Value) (n : Nat) (e : Env) (h1 : Heap) : Prop :=
  ∃ j zs st, n = l.length - j ∧ j ≤ l.length ∧ Env.get e 11 = .int .i64 (j : Nat) ∧ Env.get e 5 = .slice (some ⟨b, 0, none⟩) l.length ysl ∧ Env.get e 1 = .int .i64 s ∧
    Env.get e 7 = w ∧ Env.get e 10 = .pointer (some ⟨T, 0, none⟩) ∧ zs.length = ysl ∧ zs.take j = (l.take j).map (swapIn s r) ∧ (zs.take l.length).drop j = l.drop j ∧
    h1.tr.get b = some (.blk (encMv.flat zs) false o st) ∧ Grows (· = b) h9 h1

/-- the search for the first free move, from the end on -/
def FindI (h9 : Heap) (s : Int) (v w : Value) (l : List Mv) (n : Nat) (e : Env) (h1 : Heap) : Prop :=
  n ≤ l.length ∧ Env.get e 9 = .int .i64 ((n : Int) - 1) ∧ Env.get e 8 = .int .i64 (match (l.drop n).findIdx? (fun m => !asks l m.to) with | some i => ((n + i : Nat) : Int) | none => -1) ∧
    Env.get e 5 = v ∧ Env.get e 1 = .int .i64 s ∧ Env.get e 7 = w ∧ Grows Nob h9 h1

theorem find_loop {h9 h1 : Heap} {s : Int} {v w : Value} {l : List Mv} (ok : HOk h9) (hs : SliceOf encMv h9 v l) (hl : l.length ≤ 100) {n : Nat} {e : Env} (H : FindI h9 s v w l n e h1) {Q : AExit → Env → Heap → Prop}
    (hQ : ∀ e h2, Env.get e 8 = .int .i64 (match firstFree l with | some i => (i : Int) | none => -1) → Env.get e 5 = v → Env.get e 1 = .int .i64 s → Env.get e 7 = w → Grows Nob h9 h2 → Q (.exit 4) e h2) :
    Runs FF (.loop round7_1) e h1 Q := by
  refine Runs.loop (FindI h9 s v w l) ?_ H
  rintro n e h2 ⟨hn, e9, e8, e5, e1, e7, g⟩
  unfold round7_1
  obtain ⟨a, cap, hv, _⟩ := id hs
  subst hv
  cases n with
  | zero =>
    simp [e9]
    refine hQ _ _ ?_ (by simp [e5]) (by simp [e1]) (by simp [e7]) g
    simpa [firstFree] using e8
  | succ j =>
    have hj : j < l.length := by omega
    have hx : l[j]? = some l[j] := List.getElem?_eq_getElem hj
    obtain ⟨b', off, cap', hv', _, _, hr⟩ := (hs.nob ok g).read hx
    cases hv'
    have hr0 := hr 0 1 (by simp)
    simp only [encMv_sz, Nat.add_zero] at hr0
    have e9' : Env.get e 9 = .int .i64 (j : Nat) := by rw [e9]; congr 1; omega
    have hw : IntKind.i64.wrap ((j : Int) - 1) = (j : Int) - 1 := wrap_i64 _ (by omega) (by omega)
    simp [e9', e5, hj, hr0, -readAt_def]
    refine OpsR.call (V := fun x h3 => x = .bool (asks l l[j].to) ∧ Grows Nob h2 h3) (by simpa using asked_does g.ok (hs.nob ok g) (by omega)) ?_
    rintro _ h3 ⟨rfl, g3⟩
    have hdj : l.drop j = l[j] :: l.drop (j + 1) := List.drop_eq_getElem_cons hj
    cases ha : asks l l[j].to with
    | true =>
      simp [e9', e5, hw]
      refine ⟨j, by omega, by omega, by simp, ?_, by simp [e5], by simp [e1], by simp [e7], g.trans g3⟩
      simp [e8]
      rw [hdj, List.findIdx?_cons]
      simp [ha]
      cases (l.drop (j + 1)).findIdx? (fun m => !asks l m.to) with
      | none => rfl
      | some i => simp; omega
    | false =>
      simp [e9', e5, hw]
      refine ⟨j, by omega, by omega, by simp, ?_, by simp [e5], by simp [e1], by simp [e7], g.trans g3⟩
      simp
      rw [hdj, List.findIdx?_cons]
      simp [ha]
/-- A slice of the walk's own, full to the brim, or an empty one over an empty block. -/
def AccZ {α : Type} (E : Enc α) (n0 : Nat) (h : Heap) (v : Value) (xs : List α) : Prop :=
  (xs = [] ∧ ∃ Z s, v = .slice (some ⟨Z, 0, none⟩) 0 0 ∧ h.tr.get Z = some (.blk [] false 0 s) ∧ n0 ≤ Z) ∨
    ∃ b s, v = .slice (some ⟨b, 0, none⟩) xs.length xs.length ∧ h.tr.get b = some (.blk (E.flat xs) false E.sz s) ∧ xs ≠ [] ∧ n0 ≤ b

theorem accz_append {α : Type} {E : Enc α} {h : Heap} (ok : HOk h) {n0 bytes : Nat} {z : List Value} {v w : Value} {xs ys : List α} (hz : z.length = E.sz) (a : AccZ E n0 h v xs) (hw : SliceOf E h w ys)
    (hl : xs.length + ys.length < 1000000) (hby : bytes ≤ 1000) (hn : n0 ≤ h.next) :
    ∃ v' h', appendF h z bytes false v w = some (v', h') ∧ AccZ E n0 h' v' (xs ++ ys) ∧ Grows (BlkOf v) h h' := by
  unfold appendF
  rw [news_sl hz hw]
  dsimp only
  have hp := E.pos
  have hp' : E.sz ≠ 0 := by omega
  cases ys with
  | nil =>
    refine ⟨v, h, ?_, by simpa using a, .refl ok⟩
    rcases a with ⟨_, Z, s, rfl, _, _⟩ | ⟨b, s, rfl, _, _, _⟩
    · simp [appendV, hz, hp]
    · simp [appendV, hz, hp]
  | cons y ys =>
    have r1 : roomy (xs.length + (ys.length + 1)) = true := by simp [roomy]; simp at hl; omega
    have r2 : roomy ((xs.length + (ys.length + 1)) * bytes) = true := by
      have : (xs.length + (ys.length + 1)) * bytes ≤ 1000000 * 1000 := Nat.mul_le_mul (by simp at hl; omega) hby
      simp [roomy]; omega
    rcases a with ⟨rfl, Z, s, rfl, hZ, hz0⟩ | ⟨b, s, rfl, hb, hx, hb0⟩
    · simp only [List.length_nil, Nat.zero_add] at r1 r2
      refine ⟨.slice (some ⟨h.next, 0, none⟩) (ys.length + 1) (ys.length + 1), newBlk h (E.flat (y :: ys)) E.sz, ?_, .inr ⟨h.next, 0, by simp, by simp, by simp, hn⟩, (grow_newBlk ok _ _).nob⟩
      simp [appendV, hz, hp, r1, r2, hZ]
    · refine ⟨.slice (some ⟨h.next, 0, none⟩) (xs.length + (ys.length + 1)) (xs.length + (ys.length + 1)), newBlk { h with tr := h.tr.del b } (E.flat xs ++ E.flat (y :: ys)) E.sz, ?_, .inr ⟨h.next, 0, by simp, ?_, by simp, hn⟩, ?_⟩
      · have e1 : ¬ xs.length + (ys.length + 1) ≤ xs.length := by omega
        have e2 : (E.flat xs).take (xs.length * E.sz) = E.flat xs := List.take_of_length_le (by simp)
        simp [appendV, hz, hp, r1, r2, hb, e1, e2, hp']
      · have := get_newBlk { h with tr := h.tr.del b } (E.flat xs ++ E.flat (y :: ys)) E.sz
        rw [Enc.flat_append]
        exact this
      · refine ((grow_del ok b).weak ?_).trans (grow_newBlk (grow_del ok b).ok _ _).nob
        rintro x _ rfl
        exact ⟨_, _, _, rfl⟩

theorem AccZ.of {α : Type} {E : Enc α} {n0 : Nat} {h : Heap} {v : Value} {xs : List α} (a : AccZ E n0 h v xs) {b : Nat} (o : BlkOf v b) : n0 ≤ b := by
  obtain ⟨off, n, cap, rfl⟩ := o
  rcases a with ⟨_, Z, s, e, _, hn⟩ | ⟨b', s, e, _, _, hn⟩
  · cases e; exact hn
  · cases e; exact hn

theorem AccZ.ls {n0 : Nat} {h : Heap} {v : Value} {l : List Mv} (a : AccZ encMv n0 h v l) : ∃ b, n0 ≤ b ∧ LS h v l b := by
  rcases a with ⟨rfl, Z, s, rfl, hb, h0⟩ | ⟨b, s, rfl, hb, hx, h0⟩
  · exact ⟨Z, h0, .inl ⟨rfl, .nil' _ _ _ _ _⟩⟩
  · exact ⟨b, h0, .inr ⟨l, ⟨rfl, Nat.le_refl _, 3, s, hb, .inr rfl⟩, List.take_length⟩⟩
end Go.Proofs.Ytkhnhflbgkndjaa
