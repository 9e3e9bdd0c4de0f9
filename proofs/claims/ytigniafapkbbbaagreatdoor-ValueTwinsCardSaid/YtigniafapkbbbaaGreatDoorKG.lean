/- Small things that the texts use; the model of one pass of value. -/
import Derived.Test.YtigniafapkbbbaaGreatDoorKF
namespace Go.Proofs.YtigniafapkbbbaaGreatDoor
open Go.AI

theorem read_i {h : Heap} {W : Nat} {ws : List Int} {o s : Nat} {ro : Bool} (hW : h.tr.get W = some (.blk (encI.flat ws) ro o s)) {k : Nat} {x : Int} (hk : ws[k]? = some x) : readAt h W k 1 = some [.int .i64 x] := by
  have hl := (List.getElem?_eq_some_iff.mp hk).1
  rw [readAt_eq hW (by rw [encI.length_flat]; show k + 1 ≤ ws.length * 1; omega)]
  have := encI.part_flat ws k 0 1 x hk (by decide)
  simp only [Nat.add_zero] at this
  rw [show k = k * encI.sz from (Nat.mul_one k).symm, this]
  rfl

theorem blk_get {h : Heap} {blocks phis list to : SV} {r : Bool} {n : Int} (hB : OneB h blocks phis list r n to) : ∃ b ro o s, blocks.a = some ⟨b, 0, none⟩ ∧ blocks.l = 1 ∧ h.tr.get b = some (.blk [.slice phis.a phis.l phis.c, .slice list.a list.l list.c, .int .i64 1, .bool r, .int .i64 n, .slice to.a to.l to.c] ro o s) := by
  obtain ⟨h1, b, ro, o, s, h2, h3⟩ := hB
  exact ⟨b, ro, o, s, h2, h1, h3⟩

theorem acc_one {α : Type} {E : Enc α} {h : Heap} (ok : HOk h) {n0 bytes : Nat} {z : List Value} {v w : Value} {xs : List α} {y : α} (hz : z.length = E.sz) (a : AccOf E n0 h v xs) (hw : SliceOf E h w [y])
    (hl : xs.length < 1000000) (hby : bytes ≤ 1000) (hn : n0 ≤ h.next) :
    ∃ v' h', appendF h z bytes false v w = some (v', h') ∧
      AccOf E n0 h' v' (xs ++ [y]) ∧ Grows (BlkOf v) h h' ∧ ∀ b, BlkOf v' b → b = h.next := by
  unfold appendF
  rw [news_sl hz hw]
  dsimp only
  have r1 : roomy (xs.length + 1) = true := by simp [roomy]; omega
  have r2 : roomy ((xs.length + 1) * bytes) = true := by
    have : (xs.length + 1) * bytes ≤ 1000000 * 1000 := Nat.mul_le_mul (by omega) hby
    simp [roomy]; omega
  have hp := E.pos
  have hp' : E.sz ≠ 0 := by omega
  rcases a with ⟨rfl, rfl⟩ | ⟨b, s, rfl, hb, hx, hb0⟩
  · have r3 : roomy bytes = true := by simp [roomy]; omega
    refine ⟨.slice (some ⟨h.next, 0, none⟩) 1 1, newBlk h (E.flat [y]) E.sz, ?_, .inr ⟨h.next, 0, rfl, by simp, by simp, hn⟩, (grow_newBlk ok _ _).nob, ?_⟩
    · have r4 : roomy 1 = true := rfl
      simp [appendV, hz, hp, r3, r4]
    · rintro b ⟨off, n, cap, e⟩; cases e; rfl
  · refine ⟨.slice (some ⟨h.next, 0, none⟩) (xs.length + 1) (xs.length + 1), newBlk { h with tr := h.tr.del b } (E.flat xs ++ E.flat [y]) E.sz, ?_, .inr ⟨h.next, 0, by simp, ?_, by simp, hn⟩, ?_, ?_⟩
    · have e1 : ¬ xs.length + 1 ≤ xs.length := by omega
      have e2 : (E.flat xs).take (xs.length * E.sz) = E.flat xs := List.take_of_length_le (by simp)
      simp [appendV, hz, hp, r1, r2, hb, e1, e2, hp']
    · have := get_newBlk { h with tr := h.tr.del b } (E.flat xs ++ E.flat [y]) E.sz
      rw [Enc.flat_append]
      exact this
    · refine ((grow_del ok b).weak ?_).trans (grow_newBlk (grow_del ok b).ok _ _).nob
      rintro x _ rfl
      exact ⟨_, _, _, rfl⟩
    · rintro b' ⟨off, n, cap, e⟩; cases e; rfl

theorem AccOf.sv {α : Type} {E : Enc α} {n0 : Nat} {h : Heap} {v : Value} {xs : List α} (a : AccOf E n0 h v xs) : ∃ L : SV, v = L.v := by
  rcases a with ⟨_, rfl⟩ | ⟨b, s, rfl, _⟩
  · exact ⟨⟨none, 0, 0⟩, rfl⟩
  · exact ⟨⟨some ⟨b, 0, none⟩, xs.length, xs.length⟩, rfl⟩

theorem AccOf.weak {α : Type} {E : Enc α} {n0 n1 : Nat} {h : Heap} {v : Value} {xs : List α} (a : AccOf E n0 h v xs) (hn : n1 ≤ n0) : AccOf E n1 h v xs := by
  rcases a with a | ⟨b, s, e, hb, hx, h2⟩
  · exact .inl a
  · exact .inr ⟨b, s, e, hb, hx, Nat.le_trans hn h2⟩

/-- what is named there is a register -/
structure Valid (N : Nat) (x : Own) : Prop where
  dst : ∃ k : Nat, x.dst = k ∧ k < N
  a : x.ar = true → ∃ k : Nat, x.an = k ∧ k < N
  b : x.br = true → ∃ k : Nat, x.bn = k ∧ k < N

/-- a key: an Op and two values -/
abbrev Key := Int × Bool × Int × Bool × Int
def turnsM (op : Int) : Bool := op == 2 || (op == 4 || (op == 7 || (op == 8 || (op == 9 || (op == 12 || op == 13)))))
def aheadM (a b : Bool × Int) : Bool := if a.1 = b.1 then decide (a.2 < b.2) else b.1
def keyM (op : Int) (a b : Bool × Int) : Key := if turnsM op = true ∧ aheadM b a = true then (op, b.1, b.2, a.1, a.2) else (op, a.1, a.2, b.1, b.2)
def idT (N : Nat) : List (Bool × Int) := (List.range N).map fun i : Nat => (true, (i : Int))
@[simp] theorem length_idT (N : Nat) : (idT N).length = N := by simp [idT]
theorem get_idT {N i : Nat} (h : i < N) : (idT N)[i]? = some (true, (i : Int)) := by simp [idT, h]
/-- a value, with what stands in place of its register -/
def curM (T : List (Bool × Int)) (r : Bool) (n : Int) : Bool × Int := if r then (T[n.toNat]?).getD (true, n) else (false, n)

structure VS where
  now : List (Bool × Int)
  keys : List (Key × Int)
  kept : List Own
  more : Bool

def keyAt (T : List (Bool × Int)) (x : Own) : Key := keyM x.op (curM T x.ar x.an) (curM T x.br x.bn)
def resM (T : List (Bool × Int)) (x : Own) : Own := ⟨x.op, x.dst, (curM T x.ar x.an).1, (curM T x.ar x.an).2, (curM T x.br x.bn).1, (curM T x.br x.bn).2⟩

/-- one instruction of a pass -/
def stepV (s : VS) (x : Own) : VS :=
  match s.keys.lookup (keyAt s.now x) with
  | some r => { s with now := s.now.set x.dst.toNat (true, r), more := true }
  | none => { s with keys := s.keys ++ [(keyAt s.now x, x.dst)], kept := s.kept ++ [resM s.now x] }

def runV (s : VS) (xs : List Own) : VS := xs.foldl stepV s
def initV (N : Nat) : VS := ⟨idT N, [], [], false⟩

theorem runV_take {s : VS} {xs : List Own} {j : Nat} {x : Own} (hx : xs[j]? = some x) : runV s (xs.take (j + 1)) = stepV (runV s (xs.take j)) x := by
  unfold runV
  rw [List.take_add_one, hx, List.foldl_append]
  rfl

/-- what holds of a pass that has come so far that all registers below cur have been written -/
structure Inv (N cur : Nat) (s : VS) : Prop where
  len : s.now.length = N
  ent : ∀ i, i < N → ∃ j : Nat, s.now[i]? = some (true, (j : Int)) ∧ s.now[j]? = some (true, (j : Int)) ∧ (cur ≤ i → j = i) ∧ j ≤ i
  key : ∀ c r, (c, r) ∈ s.keys → ∃ k : Nat, r = k ∧ k < cur ∧ s.now[k]? = some (true, (k : Int))
  pair : s.kept.Pairwise (fun x y => x.dst < y.dst)
  val : ∀ y ∈ s.kept, Valid N y ∧ y.dst < cur

theorem inv_init (N : Nat) : Inv N 0 (initV N) := by
  refine ⟨by simp [initV], fun i hi => ⟨i, get_idT hi, get_idT hi, fun _ => rfl, Nat.le_refl _⟩, fun c r h => ?_, .nil, fun y h => ?_⟩
  · simp [initV] at h
  · simp [initV] at h

theorem Inv.up {N c d : Nat} {s : VS} (h : Inv N c s) (hcd : c ≤ d) : Inv N d s := by
  refine ⟨h.len, fun i hi => ?_, fun c r hm => ?_, h.pair, fun y hy => ?_⟩
  · obtain ⟨j, h1, h2, h3, h4⟩ := h.ent i hi
    exact ⟨j, h1, h2, fun e => h3 (by omega), h4⟩
  · obtain ⟨k, h1, h2, h3⟩ := h.key c r hm
    exact ⟨k, h1, by omega, h3⟩
  · obtain ⟨h1, h2⟩ := h.val y hy
    exact ⟨h1, by omega⟩

theorem val_reg {N cur : Nat} {s : VS} (h : Inv N cur s) {r : Bool} {n : Int} (hr : r = true → ∃ k : Nat, n = k ∧ k < N) : (curM s.now r n).1 = r ∧ ((curM s.now r n).1 = true → ∃ k : Nat, (curM s.now r n).2 = k ∧ k < N) := by
  cases r with
  | false => exact ⟨rfl, fun e => by cases e⟩
  | true =>
    obtain ⟨k, rfl, hk⟩ := hr rfl
    obtain ⟨j, h1, _, _, h4⟩ := h.ent k hk
    simp only [curM, if_true, Int.toNat_natCast, h1, Option.getD_some]
    exact ⟨trivial, fun _ => ⟨j, rfl, by omega⟩⟩

theorem lookup_mem {α β : Type} [BEq α] [LawfulBEq α] {l : List (α × β)} {a : α} {b : β} (h : l.lookup a = some b) : (a, b) ∈ l := by
  induction l with
  | nil => simp at h
  | cons x l ih =>
    obtain ⟨c, d⟩ := x
    rw [List.lookup_cons] at h
    split at h
    · rename_i e
      cases h
      rw [eq_of_beq e]
      exact List.mem_cons_self ..
    · exact List.mem_cons_of_mem _ (ih h)

theorem inv_step {N cur : Nat} {s : VS} (h : Inv N cur s) {x : Own} (hv : Valid N x) (hc : (cur : Int) ≤ x.dst) : ∃ d : Nat, x.dst = d ∧ Inv N (d + 1) (stepV s x) := by
  obtain ⟨d, hd, hdN⟩ := hv.dst
  have hcd : cur ≤ d := by omega
  have h := h.up hcd
  refine ⟨d, hd, ?_⟩
  unfold stepV
  cases hl : s.keys.lookup (keyAt s.now x) with
  | some r =>
    obtain ⟨k, rfl, hk, hkk⟩ := h.key _ _ (lookup_mem hl)
    dsimp only
    rw [hd, Int.toNat_natCast]
    have hne : ¬ d = k := by omega
    have hset : ∀ i, (s.now.set d (true, (k : Int)))[i]? = if i = d then some (true, (k : Int)) else s.now[i]? := by
      intro i
      rw [List.getElem?_set]
      by_cases e : d = i
      · subst e; rw [if_pos rfl, if_pos rfl, if_pos (by rw [h.len]; exact hdN)]
      · rw [if_neg e, if_neg (Ne.symm e)]
    refine ⟨by simp [h.len], fun i hi => ?_, fun c r hm => ?_, h.pair, fun y hy => ?_⟩
    · by_cases e : i = d
      · subst e
        exact ⟨k, by rw [hset, if_pos rfl], by rw [hset, if_neg (Ne.symm hne)]; exact hkk, fun e => by omega, by omega⟩
      · obtain ⟨j, h1, h2, h3, h4⟩ := h.ent i hi
        have hj : ¬ j = d := by
          intro e2
          subst e2
          have := h3 (by omega)
          omega
        exact ⟨j, by rw [hset, if_neg e]; exact h1, by rw [hset, if_neg hj]; exact h2, fun e2 => h3 (by omega), h4⟩
    · obtain ⟨k', h1, h2, h3⟩ := h.key c r hm
      exact ⟨k', h1, by omega, by show (s.now.set d (true, (k : Int)))[k']? = _; rw [hset, if_neg (by omega)]; exact h3⟩
    · obtain ⟨h1, h2⟩ := h.val y hy
      exact ⟨h1, by omega⟩
  | none =>
    dsimp only
    have h' := h.up (Nat.le_succ d)
    obtain ⟨j, h1, h2, h3, h4⟩ := h.ent d hdN
    have hj := h3 (Nat.le_refl _)
    subst hj
    refine ⟨h.len, h'.ent, fun c r hm => ?_, ?_, fun y hy => ?_⟩
    · rcases List.mem_append.1 hm with hm | hm
      · exact h'.key c r hm
      · simp at hm
        exact ⟨j, by rw [hm.2, hd], by omega, h1⟩
    · refine List.pairwise_append.2 ⟨h.pair, List.pairwise_singleton _ _, fun a ha b hb => ?_⟩
      simp at hb
      subst hb
      have := (h.val a ha).2
      show a.dst < x.dst
      omega
    · rcases List.mem_append.1 hy with hy | hy
      · exact h'.val y hy
      · simp at hy
        subst hy
        refine ⟨⟨hv.dst, (val_reg h hv.a).2, (val_reg h hv.b).2⟩, ?_⟩
        show x.dst < _
        omega

theorem inv_run {N cur : Nat} {s : VS} {xs : List Own} (hv : ∀ x ∈ xs, Valid N x) (hp : xs.Pairwise (fun x y => x.dst < y.dst)) (hc : ∀ x ∈ xs, (cur : Int) ≤ x.dst) (h : Inv N cur s) : ∀ j, j ≤ xs.length → ∃ c, Inv N c (runV s (xs.take j)) ∧ ∀ x ∈ xs.drop j, (c : Int) ≤ x.dst
  | 0, _ => ⟨cur, by simpa [runV] using h, by simpa using hc⟩
  | j + 1, hj => by
    obtain ⟨c, h1, h2⟩ := inv_run hv hp hc h j (by omega)
    have hx : xs[j]? = some xs[j] := List.getElem?_eq_getElem (by omega)
    have hm := List.getElem_mem (show j < xs.length by omega)
    have hdr : xs.drop j = xs[j] :: xs.drop (j + 1) := List.drop_eq_getElem_cons (by omega)
    have hpd : (xs.drop j).Pairwise (fun x y => x.dst < y.dst) := hp.sublist (List.drop_sublist _ _)
    generalize xs[j] = x at hx hm hdr
    rw [hdr] at h2 hpd
    obtain ⟨d, hd, h3⟩ := inv_step h1 (hv x hm) (h2 x (List.mem_cons_self ..))
    refine ⟨d + 1, by rw [runV_take hx]; exact h3, fun y hy => ?_⟩
    have := (List.pairwise_cons.1 hpd).1 y hy
    omega
end Go.Proofs.YtigniafapkbbbaaGreatDoor

/- The plain law of a pass of value: what is repeated is known; a second pass changes nothing. -/
namespace Go.Proofs.YtigniafapkbbbaaGreatDoor
open Go.AI

/-- so many registers farther on -/
def shiftV (w : Nat) (r : Bool) (n : Int) : Int := if r = true ∧ 0 < n then n + w else n
def shiftO (w : Nat) (x : Own) : Own := ⟨x.op, x.dst + w, x.ar, shiftV w x.ar x.an, x.br, shiftV w x.br x.bn⟩

theorem runV_append (s : VS) (xs ys : List Own) : runV s (xs ++ ys) = runV (runV s xs) ys := by simp [runV, List.foldl_append]
theorem runV_cons (s : VS) (x : Own) (xs : List Own) : runV s (x :: xs) = runV (stepV s x) xs := rfl

/-- two passes with tables of other lengths that agree ahead -/
structure Agree (n : Nat) (s t : VS) : Prop where
  keys : s.keys = t.keys
  kept : s.kept = t.kept
  more : s.more = t.more
  now : ∀ i, i < n → s.now[i]? = t.now[i]?

theorem Agree.val {n : Nat} {s t : VS} (h : Agree n s t) {r : Bool} {k : Int} (hr : r = true → ∃ i : Nat, k = i ∧ i < n) : curM s.now r k = curM t.now r k := by
  cases r with
  | false => rfl
  | true =>
    obtain ⟨i, rfl, hi⟩ := hr rfl
    simp only [curM, if_true, Int.toNat_natCast, h.now i hi]

theorem Agree.step {n : Nat} {s t : VS} (h : Agree n s t) (hs : n ≤ s.now.length) (ht : n ≤ t.now.length) {x : Own} (hx : Valid n x) : Agree n (stepV s x) (stepV t x) := by
  have ea := h.val hx.a
  have eb := h.val hx.b
  have ek : keyAt s.now x = keyAt t.now x := by unfold keyAt; rw [ea, eb]
  have er : resM s.now x = resM t.now x := by unfold resM; rw [ea, eb]
  unfold stepV
  rw [← h.keys, ← ek]
  cases s.keys.lookup (keyAt s.now x) with
  | none => exact ⟨rfl, by show s.kept ++ _ = t.kept ++ _; rw [h.kept, er], h.more, h.now⟩
  | some r =>
    refine ⟨rfl, h.kept, rfl, fun i hi => ?_⟩
    dsimp only
    rw [List.getElem?_set, List.getElem?_set, h.now i hi]
    by_cases e : x.dst.toNat = i
    · rw [if_pos e, if_pos e, if_pos (by omega), if_pos (by omega)]
    · rw [if_neg e, if_neg e]

theorem step_len (s : VS) (x : Own) : (stepV s x).now.length = s.now.length := by
  unfold stepV; split <;> simp

theorem Agree.run {n : Nat} : ∀ {xs : List Own} {s t : VS}, Agree n s t → n ≤ s.now.length → n ≤ t.now.length → (∀ x ∈ xs, Valid n x) → Agree n (runV s xs) (runV t xs)
  | [], _, _, h, _, _, _ => h
  | x :: xs, s, t, h, hs, ht, hx => by
    rw [runV_cons, runV_cons]
    exact (h.step hs ht (hx x (List.mem_cons_self ..))).run (by rw [step_len]; exact hs) (by rw [step_len]; exact ht) (fun y hy => hx y (List.mem_cons_of_mem _ hy))

theorem agree_init {n m : Nat} (h : n ≤ m) : Agree n (initV n) (initV m) :=
  ⟨rfl, rfl, rfl, fun i hi => by show (idT n)[i]? = (idT m)[i]?; rw [get_idT hi, get_idT (by omega)]⟩

theorem lookup_app {α β : Type} [BEq α] {l m : List (α × β)} {a : α} {b : β} (h : l.lookup a = some b) : (l ++ m).lookup a = some b := by
  induction l with
  | nil => simp at h
  | cons x l ih =>
    obtain ⟨c, d⟩ := x
    rw [List.cons_append, List.lookup_cons]
    rw [List.lookup_cons] at h
    split at h
    · exact h
    · exact ih h
theorem lookup_new {α β : Type} [BEq α] [LawfulBEq α] {l : List (α × β)} {a : α} {b : β} (h : l.lookup a = none) : (l ++ [(a, b)]).lookup a = some b := by
  induction l with
  | nil => simp
  | cons x l ih =>
    obtain ⟨c, d⟩ := x
    rw [List.cons_append, List.lookup_cons]
    rw [List.lookup_cons] at h
    split at h
    · cases h
    · exact ih h

/-- what the first half leaves: each instruction's key is known, with what stands in its register's place -/
structure Half (M : Nat) (xs : List Own) (j : Nat) (s : VS) : Prop where
  len : s.now.length = M
  ids : ∀ i, j + 1 ≤ i → i < M → s.now[i]? = some (true, (i : Int))
  found : ∀ i, i < j → ∀ x, xs[i]? = some x → ∃ r, s.keys.lookup (keyAt s.now x) = some r ∧ s.now[i + 1]? = some (true, r)

/-- an instruction that names only what stands ahead of it; one parameter -/
structure Ord1 (j : Nat) (x : Own) : Prop where
  dst : x.dst = ((j + 1 : Nat) : Int)
  a : x.ar = true → ∃ k : Nat, x.an = k ∧ k < j + 1
  b : x.br = true → ∃ k : Nat, x.bn = k ∧ k < j + 1

theorem key_set {T : List (Bool × Int)} {j d : Nat} {v : Bool × Int} {x : Own} (h : Ord1 j x) (hd : j + 1 ≤ d) : keyAt (T.set d v) x = keyAt T x := by
  have e : ∀ (r : Bool) (n : Int), (r = true → ∃ k : Nat, n = k ∧ k < j + 1) → curM (T.set d v) r n = curM T r n := by
    intro r n hr
    cases r with
    | false => rfl
    | true =>
      obtain ⟨k, rfl, hk⟩ := hr rfl
      simp only [curM, if_true, Int.toNat_natCast]
      rw [List.getElem?_set, if_neg (by omega)]
  unfold keyAt
  rw [e _ _ h.a, e _ _ h.b]

theorem Half.step {M j : Nat} {xs : List Own} {s : VS} (h : Half M xs j s) (hxs : ∀ i x, xs[i]? = some x → Ord1 i x) {x : Own} (hx : xs[j]? = some x) (hM : j + 1 < M) : Half M xs (j + 1) (stepV s x) := by
  have ho := hxs j x hx
  have hd : x.dst.toNat = j + 1 := by rw [ho.dst, Int.toNat_natCast]
  have e : stepV s x = match s.keys.lookup (keyAt s.now x) with
      | some r => { s with now := s.now.set (j + 1) (true, r), more := true }
      | none => { s with keys := s.keys ++ [(keyAt s.now x, x.dst)], kept := s.kept ++ [resM s.now x] } := by
    unfold stepV; rw [hd] <;> rfl
  refine ⟨by rw [step_len]; exact h.len, fun i h1 h2 => ?_, fun i hi y hy => ?_⟩
  · rw [e]
    cases s.keys.lookup (keyAt s.now x) with
    | some r =>
      dsimp only
      rw [List.getElem?_set, if_neg (by omega)]
      exact h.ids i (by omega) h2
    | none => exact h.ids i (by omega) h2
  · have hy1 := hxs i y hy
    rw [e]
    cases hl : s.keys.lookup (keyAt s.now x) with
    | some r =>
      dsimp only
      rw [key_set hy1 (by omega)]
      by_cases e2 : i = j
      · subst e2
        rw [hx] at hy; cases hy
        exact ⟨r, hl, by rw [List.getElem?_set, if_pos rfl, if_pos (by rw [h.len]; exact hM)]⟩
      · obtain ⟨r', h1, h2⟩ := h.found i (by omega) y hy
        exact ⟨r', h1, by rw [List.getElem?_set, if_neg (by omega)]; exact h2⟩
    | none =>
      dsimp only
      by_cases e2 : i = j
      · subst e2
        rw [hx] at hy; cases hy
        exact ⟨x.dst, lookup_new hl, by rw [h.ids (i + 1) (Nat.le_refl _) hM, ho.dst]⟩
      · obtain ⟨r', h1, h2⟩ := h.found i (by omega) y hy
        exact ⟨r', lookup_app h1, h2⟩

theorem half_run {M : Nat} {xs : List Own} (hxs : ∀ i x, xs[i]? = some x → Ord1 i x) (hM : xs.length < M) : ∀ j, j ≤ xs.length → Half M xs j (runV (initV M) (xs.take j))
  | 0, _ => ⟨by simp [runV, initV], fun i _ h2 => by simpa [runV, initV] using get_idT h2, fun i hi => by omega⟩
  | j + 1, hj => by
    have hx : xs[j]? = some xs[j] := List.getElem?_eq_getElem (by omega)
    rw [runV_take hx]
    exact (half_run hxs hM j (by omega)).step hxs hx (by omega)

/-- the second half: all is known, nothing is kept -/
theorem second_half {n : Nat} {xs : List Own} (hn : xs.length = n) (hxs : ∀ i x, xs[i]? = some x → Ord1 i x) (s : VS) (h : Half (2 * n + 1) xs n s) :
    ∀ j, j ≤ n → ∃ t, runV s ((xs.map (shiftO n)).take j) = t ∧ t.keys = s.keys ∧ t.kept = s.kept ∧ t.now.length = 2 * n + 1 ∧ (∀ i, i < n + 1 → t.now[i]? = s.now[i]?) ∧ ∀ i, i < j → t.now[i + 1 + n]? = s.now[i + 1]?
  | 0, _ => ⟨s, by simp [runV], rfl, rfl, h.len, fun _ _ => rfl, fun i hi => by omega⟩
  | j + 1, hj => by
    obtain ⟨t, ht, h1, h2, h3, h4, h5⟩ := second_half hn hxs s h j (by omega)
    have hx : xs[j]? = some xs[j] := List.getElem?_eq_getElem (by omega)
    generalize xs[j] = x at hx
    have hx' : (xs.map (shiftO n))[j]? = some (shiftO n x) := by simp [hx]
    have ho := hxs j x hx
    rw [runV_take hx', ht]
    have e : ∀ (r : Bool) (k : Int), (r = true → ∃ i : Nat, k = i ∧ i < j + 1) → curM t.now r (shiftV n r k) = curM s.now r k := by
      intro r k hr
      cases r with
      | false => rfl
      | true =>
        obtain ⟨i, rfl, hi⟩ := hr rfl
        have key : ∀ (a b : Nat), t.now[a]? = s.now[b]? → b < 2 * n + 1 → curM t.now true (a : Int) = curM s.now true (b : Int) := by
          intro a b e hb
          simp only [curM, if_true, Int.toNat_natCast, e]
          rw [List.getElem?_eq_getElem (by rw [h.len]; exact hb)]
          rfl
        cases i with
        | zero => exact key 0 0 (h4 0 (by omega)) (by omega)
        | succ i =>
          have : shiftV n true ((i + 1 : Nat) : Int) = ((i + 1 + n : Nat) : Int) := by
            unfold shiftV; rw [if_pos ⟨rfl, by omega⟩]; omega
          rw [this]
          exact key _ _ (h5 i (by omega)) (by omega)
    have ek : keyAt t.now (shiftO n x) = keyAt s.now x := by
      unfold keyAt shiftO
      dsimp only
      rw [e _ _ ho.a, e _ _ ho.b]
    obtain ⟨r, hr, hr2⟩ := h.found j (by omega) x hx
    have hd : (shiftO n x).dst.toNat = j + 1 + n := by
      show (x.dst + n).toNat = _
      rw [ho.dst]; omega
    have es : stepV t (shiftO n x) = { t with now := t.now.set (j + 1 + n) (true, r), more := true } := by
      unfold stepV; rw [ek, h1, hr, hd]
    refine ⟨_, es, h1, h2, by simpa using h3, fun i hi => ?_, fun i hi => ?_⟩
    · dsimp only
      rw [List.getElem?_set, if_neg (by omega)]
      exact h4 i hi
    · dsimp only
      rw [List.getElem?_set]
      by_cases e2 : i = j
      · subst e2
        rw [if_pos rfl, if_pos (by omega), hr2]
      · rw [if_neg (by omega)]
        exact h5 i (by omega)

/-- what a list keeps when it is repeated is what it keeps once -/
theorem kept_twice {n : Nat} {xs : List Own} (hn : xs.length = n) (hxs : ∀ i x, xs[i]? = some x → Ord1 i x) : (runV (initV (2 * n + 1)) (xs ++ xs.map (shiftO n))).kept = (runV (initV (n + 1)) xs).kept := by
  have h := half_run hxs (M := 2 * n + 1) (by omega) xs.length (Nat.le_refl _)
  rw [List.take_length, hn] at h
  obtain ⟨t, ht, _, hk, _⟩ := second_half hn hxs _ h n (Nat.le_refl _)
  rw [List.take_of_length_le (by simp [hn])] at ht
  rw [runV_append, ht, hk]
  have hv : ∀ x ∈ xs, Valid (n + 1) x := by
    intro x hx
    obtain ⟨i, hi, rfl⟩ := List.getElem_of_mem hx
    have ho := hxs i _ (List.getElem?_eq_getElem hi)
    refine ⟨⟨i + 1, ho.dst, by omega⟩, fun hr => ?_, fun hr => ?_⟩
    · obtain ⟨k, e, hk⟩ := ho.a hr; exact ⟨k, e, by omega⟩
    · obtain ⟨k, e, hk⟩ := ho.b hr; exact ⟨k, e, by omega⟩
  exact (((agree_init (show n + 1 ≤ 2 * n + 1 by omega)).run (by simp [initV]) (by simp [initV]; omega) hv).kept).symm

/-- what is kept stands as it is, and its keys are known and differ -/
structure Still (N : Nat) (s : VS) : Prop where
  keys : s.keys = s.kept.map fun y => (keyAt (idT N) y, y.dst)
  res : ∀ y ∈ s.kept, resM (idT N) y = y
  new : s.keys.Pairwise (fun a b => (b.1 == a.1) = false)

theorem cur_idem {N cur : Nat} {s : VS} (h : Inv N cur s) {r : Bool} {n : Int} (hr : r = true → ∃ k : Nat, n = k ∧ k < N) : curM (idT N) (curM s.now r n).1 (curM s.now r n).2 = curM s.now r n := by
  cases r with
  | false => rfl
  | true =>
    obtain ⟨k, rfl, hk⟩ := hr rfl
    obtain ⟨j, h1, _, _, h4⟩ := h.ent k hk
    have e : curM s.now true (k : Int) = (true, (j : Int)) := by simp only [curM, if_true, Int.toNat_natCast, h1, Option.getD_some]
    rw [e]
    simp only [curM, if_true, Int.toNat_natCast, get_idT (show j < N by omega), Option.getD_some]

theorem lookup_none {α β : Type} [BEq α] {l : List (α × β)} {a : α} (h : l.lookup a = none) : ∀ x ∈ l, (a == x.1) = false := by
  induction l with
  | nil => simp
  | cons x l ih =>
    obtain ⟨c, d⟩ := x
    rw [List.lookup_cons] at h
    intro y hy
    split at h
    · cases h
    · rename_i e
      rcases List.mem_cons.1 hy with rfl | hy
      · exact e
      · exact ih h y hy
theorem none_lookup {α β : Type} [BEq α] {l : List (α × β)} {a : α} (h : ∀ x ∈ l, (a == x.1) = false) : l.lookup a = none := by
  induction l with
  | nil => rfl
  | cons x l ih =>
    obtain ⟨c, d⟩ := x
    rw [List.lookup_cons, h _ (List.mem_cons_self ..)]
    exact ih fun y hy => h y (List.mem_cons_of_mem _ hy)

theorem Still.step {N cur : Nat} {s : VS} (h : Still N s) (hI : Inv N cur s) {x : Own} (hv : Valid N x) : Still N (stepV s x) := by
  unfold stepV
  cases hl : s.keys.lookup (keyAt s.now x) with
  | some r => exact ⟨h.keys, h.res, h.new⟩
  | none =>
    have ea := cur_idem hI hv.a
    have eb := cur_idem hI hv.b
    have ek : keyAt (idT N) (resM s.now x) = keyAt s.now x := by
      show keyM x.op (curM (idT N) _ _) (curM (idT N) _ _) = _
      show keyM x.op (curM (idT N) (curM s.now x.ar x.an).1 (curM s.now x.ar x.an).2) (curM (idT N) (curM s.now x.br x.bn).1 (curM s.now x.br x.bn).2) = _
      rw [ea, eb]; rfl
    have er : resM (idT N) (resM s.now x) = resM s.now x := by
      show (⟨x.op, x.dst, (curM (idT N) (curM s.now x.ar x.an).1 (curM s.now x.ar x.an).2).1, (curM (idT N) (curM s.now x.ar x.an).1 (curM s.now x.ar x.an).2).2, (curM (idT N) (curM s.now x.br x.bn).1 (curM s.now x.br x.bn).2).1, (curM (idT N) (curM s.now x.br x.bn).1 (curM s.now x.br x.bn).2).2⟩ : Own) = _
      rw [ea, eb]; rfl
    refine ⟨?_, fun y hy => ?_, ?_⟩
    · show s.keys ++ [_] = (s.kept ++ [_]).map _
      rw [List.map_append, ← h.keys, List.map_singleton, ek]
      rfl
    · rcases List.mem_append.1 hy with hy | hy
      · exact h.res y hy
      · simp at hy; rw [hy]; exact er
    · refine List.pairwise_append.2 ⟨h.new, List.pairwise_singleton _ _, fun a ha b hb => ?_⟩
      simp at hb
      subst hb
      exact lookup_none hl a ha

theorem still_run {N : Nat} {xs : List Own} (hv : ∀ x ∈ xs, Valid N x) (hp : xs.Pairwise (fun x y => x.dst < y.dst)) (hc : ∀ x ∈ xs, (0 : Int) ≤ x.dst) : ∀ j, j ≤ xs.length → Still N (runV (initV N) (xs.take j))
  | 0, _ => ⟨by simp [runV, initV], by simp [runV, initV], by simp [runV, initV]⟩
  | j + 1, hj => by
    have hx : xs[j]? = some xs[j] := List.getElem?_eq_getElem (by omega)
    have hm := List.getElem_mem (show j < xs.length by omega)
    rw [runV_take hx]
    obtain ⟨c, hI, _⟩ := inv_run hv hp (by simpa using hc) (inv_init N) j (by omega)
    exact (still_run hv hp hc j (by omega)).step hI (hv _ hm)

/-- a second pass changes nothing -/
theorem again {N : Nat} {s : VS} (h : Still N s) : ∀ j, j ≤ s.kept.length → runV (initV N) (s.kept.take j) = ⟨idT N, s.keys.take j, s.kept.take j, false⟩
  | 0, _ => by simp [runV, initV]
  | j + 1, hj => by
    have hx : s.kept[j]? = some s.kept[j] := List.getElem?_eq_getElem (by omega)
    have hm := List.getElem_mem (show j < s.kept.length by omega)
    generalize s.kept[j] = x at hx hm
    rw [runV_take hx, again h j (by omega)]
    have hk : s.keys[j]? = some (keyAt (idT N) x, x.dst) := by rw [h.keys]; simp [hx]
    have hl : (s.keys.take j).lookup (keyAt (idT N) x) = none := by
      refine none_lookup fun y hy => ?_
      obtain ⟨i, hi, e⟩ := List.getElem_of_mem hy
      simp at hi
      rw [List.getElem_take] at e
      have := List.pairwise_iff_getElem.1 h.new i j (by omega) (by rw [h.keys]; simp; omega) (by omega)
      rw [e] at this
      rw [List.getElem?_eq_getElem (by rw [h.keys]; simp; omega)] at hk
      injection hk with hk
      rw [hk] at this
      exact this
    unfold stepV
    dsimp only
    rw [hl]
    dsimp only
    rw [h.res x hm, List.take_add_one, List.take_add_one, hk, hx]
    rfl

theorem kept_again {N : Nat} {xs : List Own} (hv : ∀ x ∈ xs, Valid N x) (hp : xs.Pairwise (fun x y => x.dst < y.dst)) : (runV (initV N) (runV (initV N) xs).kept).kept = (runV (initV N) xs).kept ∧ (runV (initV N) (runV (initV N) xs).kept).more = false := by
  have hc : ∀ x ∈ xs, (0 : Int) ≤ x.dst := fun x hx => by obtain ⟨k, e, _⟩ := (hv x hx).dst; omega
  have h := still_run hv hp hc xs.length (Nat.le_refl _)
  rw [List.take_length] at h
  have e := again h _ (Nat.le_refl _)
  rw [List.take_length] at e
  rw [e]
  exact ⟨rfl, rfl⟩

theorem kept_le : ∀ (xs : List Own) (s : VS), (runV s xs).kept.length ≤ s.kept.length + xs.length
  | [], s => by simp [runV]
  | x :: xs, s => by
    have h1 := kept_le xs (stepV s x)
    have h2 : (stepV s x).kept.length ≤ s.kept.length + 1 := by unfold stepV; split <;> simp
    rw [runV_cons]
    simp; omega
end Go.Proofs.YtigniafapkbbbaaGreatDoor

/- Contracts: tidy.Keep, tidy.ChainsOf of a function of one block that returns; tidy.namer's name and val. -/
namespace Go.Proofs.YtigniafapkbbbaaGreatDoor
open Go.AI

def nilS : SV := ⟨none, 0, 0⟩

/-- the one block of a function, into which can be written -/
def OneW (n0 : Nat) (h : Heap) (blocks list : SV) (r : Bool) (n : Int) : Prop := blocks.l = 1 ∧ ∃ b o s, blocks.a = some ⟨b, 0, none⟩ ∧ n0 ≤ b ∧ h.tr.get b = some (.blk [.slice none 0 0, list.v, .int .i64 1, .bool r, .int .i64 n, .slice none 0 0] false o s)

theorem OneW.one {n0 : Nat} {h : Heap} {blocks list : SV} {r : Bool} {n : Int} (w : OneW n0 h blocks list r n) : OneB h blocks nilS list r n nilS := by
  obtain ⟨h1, b, o, s, h2, _, h3⟩ := w
  exact ⟨h1, b, false, o, s, h2, h3⟩

theorem keep_one {h : Heap} (ok : HOk h) {name : ByteArray} {p N : Int} {blocks list : SV} {r : Bool} {n : Int} {od oc : Nat} {o1 s1 : Nat} {r1 : Bool} (hB : OneB h blocks nilS list r n nilS) (hod : h.tr.get od = some (.blk [.int .i64 0] r1 o1 s1)) :
    Does FF n_tidy_Keep [.agg ⟨fnCells name p N blocks⟩, .slice (some ⟨od, 0, none⟩) 1 oc] h (fun v h' => Grows Nob h h' ∧ ∃ blocks' : SV, v = .agg ⟨fnCells name p N blocks'⟩ ∧ OneW h.next h' blocks' list r n) := by
  obtain ⟨hl, b, ro, o, s, ha, hb⟩ := id hB
  have w1 : IntKind.i64.wrap (0 + 1) = 1 := wrap_i64 _ (by omega) (by omega)
  have w1' : IntKind.i64.wrap 1 = 1 := wrap_i64 _ (by omega) (by omega)
  have oB := ok.old hb
  have oD := ok.old hod
  have hb' : h.tr.get b = some (.blk [.slice none 0 0, .slice list.a list.l list.c, .int .i64 1, .bool r, .int .i64 n, .slice none 0 0] ro o s) := by rw [hb]; simp [blkCells, nilS]
  refine Does.of c_tidy_Keep ?_
  unfold b_tidy_Keep
  have e2 : ¬ h.next = h.next + 1 + 1 := by omega
  simp [fnCells, hl, ha, repl, e2]
  refine OpsR.cut (fun h1 => Grows Nob h h1 ∧ h1.tr.get h.next = some (.blk [.string name, .int .i64 p, .int .i64 N, .slice (some ⟨b, 0, none⟩) 1 blocks.c] false 0 0) ∧ h1.tr.get (h.next + 1) = some (.blk [.string ⟨⟨[]⟩⟩, .int .i64 0, .int .i64 0, .slice none 0 0] false 0 0) ∧ (∃ o s, h1.tr.get (h.next + 1 + 1) = some (.blk [.int .i64 (-1)] false o s))) ?_ ?_
  · exact ⟨(((Grows.refl ok).new _ _).new _ _).new _ _, by simp [Nat.add_assoc], by simp [Nat.add_assoc], 0, 0, by simp [Nat.add_assoc]⟩
  rintro h1 ⟨g1, hF1, hR1, o2, s2, hM1⟩
  refine OpsR.call (V := fun v h' => Grows Nob h1 h' ∧ ∃ d s, v = .slice (some ⟨d, 0, none⟩) 1 1 ∧ h1.next ≤ d ∧ h'.tr.get d = some (.blk [.int .i64 (-1)] false 0 s)) (by simpa using repeat_i g1.ok 1 (by omega) hM1) ?_
  rintro _ h2 ⟨g2, at_, s3, rfl, hat, hA2⟩
  have gg2 := g1.trans g2
  have hod2 := gg2.get ok hod (fun h => h)
  simp
  rw [runs_loop]
  unfold r_tidy_Keep_5
  simp [hod2, hA2, w1, w1']
  rw [runs_loop]
  have hF2 := g2.get g1.ok hF1 (fun h => h)
  have lt1 := g1.next
  have oF1 := (g1.ok.old hF1).lt
  have nF : ¬ h.next = at_ := by omega
  simp [hF2, nF]
  refine OpsR.cut (fun h3 => Grows Nob h h3 ∧ h3.next = h2.next ∧ (∃ s, h3.tr.get at_ = some (.blk [.int .i64 0] false 0 s)) ∧ Grows (· = at_) h2 h3) ?_ ?_
  · exact ⟨gg2.put ⟨_, hA2⟩ (.inl (by omega)), rfl, ⟨h2.clock, by simp⟩, grow_put gg2.ok hA2⟩
  rintro h3 ⟨g3, hn3, ⟨s4, hA3⟩, g23⟩
  have nR : ¬ h.next + 1 = at_ := by have := (g1.ok.old hR1).lt; omega
  have hF3 := g23.get gg2.ok hF2 nF
  have hR3 := g23.get gg2.ok (g2.get g1.ok hR1 (fun h => h)) nR
  refine OpsR.call (by simpa [fnCells, hl, ha] using gahead_one g3.ok (name := name) (params := p) (regs := N) (hB.grow ok g3) rfl) ?_
  rintro _ h4 ⟨g4, ah, rfl, hah, s5, hAh4⟩
  have gg4 := g3.trans g4
  have hod4 := gg4.get ok hod (fun h => h)
  have hb4 := gg4.get ok hb' (fun h => h)
  have hF4 := g4.get g3.ok hF3 (fun h => h)
  have hR4 := g4.get g3.ok hR3 (fun h => h)
  have ob4 := gg4.ok.old hb4
  simp
  rw [runs_loop]
  unfold r_tidy_Keep_4
  simp [hod4, hF4, hb4, ob4]
  rw [runs_loop]
  unfold r_tidy_Keep_3
  simp
  rw [runs_loop]
  unfold r_tidy_Keep_0
  simp [appendF, news, appendV, roomy, w1, w1', repl]
  rw [runs_loop]
  have oF4 := gg4.ok.old hF4
  have oR4 := gg4.ok.old hR4
  have nA : ¬ h.next = h4.next + 1 + 1 := by have := oF4.lt; omega
  have nB : ¬ h.next = h4.next + 1 := by have := oF4.lt; omega
  simp [hF4, hR4, oF4, oR4, nA, nB]
  refine ⟨?_, ⟨some ⟨h4.next + 1 + 1, 0, none⟩, 1, 1⟩, ⟨rfl, rfl, rfl⟩, rfl, h4.next + 1 + 1, 6, 0, rfl, by have := gg4.next; omega, ?_⟩
  · refine Grows.put (Grows.put (((gg4.var _ _).new _ _).new _ _) ⟨0, ?_⟩ (.inl (Nat.le_refl _))) ⟨0, ?_⟩ (.inl (by omega))
    · simp [nA, nB, oF4, hF4]
    · simp [nA, nB, oR4, hR4]
      have := oF4.lt; omega
  · have nA' : ¬ h4.next + 1 + 1 = h.next := fun e => nA e.symm
    have nB' : ¬ h4.next + 1 = h.next := fun e => nB e.symm
    simp [nA', nB']

theorem chains_one {h : Heap} (ok : HOk h) {name : ByteArray} {p N : Int} {blocks list : SV} {r : Bool} {n : Int} (hB : OneB h blocks nilS list r n nilS) :
    Does FF n_tidy_ChainsOf [.agg ⟨fnCells name p N blocks⟩] h (fun v h' => Grows Nob h h' ∧ v = .agg ⟨fnCells name p N blocks⟩) := by
  obtain ⟨hl, b, ro, o, s, ha, hb⟩ := id hB
  have w1 : IntKind.i64.wrap (0 + 1) = 1 := wrap_i64 _ (by omega) (by omega)
  have w1' : IntKind.i64.wrap 1 = 1 := wrap_i64 _ (by omega) (by omega)
  have oB := ok.old hb
  have hb' : h.tr.get b = some (.blk [.slice none 0 0, .slice list.a list.l list.c, .int .i64 1, .bool r, .int .i64 n, .slice none 0 0] ro o s) := by rw [hb]; simp [blkCells, nilS]
  refine Does.of c_tidy_ChainsOf ?_
  unfold b_tidy_ChainsOf
  simp [fnCells, hl, ha]
  rw [runs_loop]
  unfold r_tidy_ChainsOf_1
  simp
  rw [runs_loop]
  unfold r_tidy_ChainsOf_0
  simp [hb', oB, w1, w1']
  rw [runs_loop]
  simp
  refine Grows.put (((Grows.refl ok).new _ _).new _ _) ⟨0, by simp⟩ (.inl (by omega))


/-- A namer: of as many registers as it has named it has told numbers. -/
def Nmr (h : Heap) (Nm now N : Nat) (many : Nat) : Prop := ∃ (ws : List Int) (s1 s2 : Nat), h.tr.get Nm = some (.blk [.slice (some ⟨now, 0, none⟩) N N, .int .i64 many] false 0 s1) ∧ h.tr.get now = some (.blk (encI.flat ws) false 0 s2) ∧ ws.length = N ∧ many = ws.countP (fun z => decide (0 ≤ z)) ∧ Nm ≠ now

theorem Nmr.le {h : Heap} {Nm now N many : Nat} (k : Nmr h Nm now N many) : many ≤ N := by
  obtain ⟨ws, _, _, _, _, h3, h4, _⟩ := k
  rw [h4, ← h3]
  exact List.countP_le_length

theorem Nmr.grow {S : Nat → Prop} {h h' : Heap} {Nm now N many : Nat} (k : Nmr h Nm now N many) (ok : HOk h) (g : Grows S h h') (h1 : ¬ S Nm) (h2 : ¬ S now) : Nmr h' Nm now N many := by
  obtain ⟨ws, s1, s2, a, b, c, d, e⟩ := k
  exact ⟨ws, s1, s2, g.get ok a h1, g.get ok b h2, c, d, e⟩

theorem name_does {h : Heap} (ok : HOk h) {Nm now N many r : Nat} (hN : N < 100000) (hr : r < N) (k : Nmr h Nm now N many) :
    Does FF n_tidy_namer_name [.pointer (some ⟨Nm, 0, none⟩), .int .i64 r] h (fun v h' => Grows (fun x => x = Nm ∨ x = now) h h' ∧ ∃ (m : Int) (many' : Nat), v = .int .i64 m ∧ Nmr h' Nm now N many') := by
  obtain ⟨ws, s1, s2, hm, hw, hl, hc, hne⟩ := k
  obtain ⟨x, hx⟩ : ∃ x, ws[r]? = some x := ⟨_, List.getElem?_eq_getElem (by omega)⟩
  have hrd := read_i hw hx
  have hlen : (encI.flat ws).length = N := by rw [encI.length_flat, hl]; exact Nat.mul_one _
  have hr1 : r + 1 ≤ N := hr
  have hne' : ¬ now = Nm := Ne.symm hne
  have hle : many ≤ N := by rw [hc, ← hl]; exact List.countP_le_length
  have wm : IntKind.i64.wrap ((many : Int) + 1) = ((many + 1 : Nat) : Int) := by rw [wrap_i64 _ (by omega) (by omega)]; omega
  refine Does.of c_tidy_namer_name ?_
  unfold b_tidy_namer_name
  by_cases hx0 : x < 0
  · have hsp : splice (encI.flat ws) r [.int .i64 many] = encI.flat (ws.set r many) := by
      have := encI.splice_flat ws r (many : Int) (by omega)
      simpa using this
    have hcnt : (ws.set r (many : Int)).countP (fun z => decide (0 ≤ z)) = many + 1 := by
      have hge : ws[r] = x := by have := (List.getElem?_eq_some_iff.mp hx).2; exact this
      rw [List.countP_set (by omega), hge, ← hc]
      have e1 : decide ((0 : Int) ≤ x) = false := by simp; omega
      have e2 : decide ((0 : Int) ≤ (many : Int)) = true := by simp
      rw [e1, e2]
      simp
    have hx2 : (ws.set r (many : Int))[r]? = some (many : Int) := by rw [List.getElem?_set, if_pos rfl, if_pos (by omega)]
    have hat : (List.drop r (encI.flat (ws.set r (many : Int)))).take 1 = [.int .i64 many] := by
      have := encI.at_flat (ws.set r (many : Int)) r many hx2
      simpa using this
    have hlen2 : (encI.flat (ws.set r (many : Int))).length = N := by rw [encI.length_flat, List.length_set, hl]; exact Nat.mul_one _
    simp [readAt_get hm, hr, hrd, hx0, readAt_tick, readAt_put, readAt_put_same, hw, hlen, hr1, hm, hne, hne', wm, hsp, hat, hlen2, -readAt_def]
    refine ⟨?_, many + 1, ws.set r many, h.clock + 1 + 1, h.clock + 1, ?_, ?_, by simp [hl], hcnt.symm, hne⟩
    · refine Grows.put (Grows.put (Grows.refl ok).tick ⟨s2, ?_⟩ (.inr (.inr rfl))) ⟨s1, ?_⟩ (.inr (.inl rfl))
      · simp [hw]
      · simp [hne, hm]
    · simp
    · simp [hne', hsp]
  · simp [readAt_get hm, hr, hrd, hx0, -readAt_def]
    exact ⟨.refl ok, many, ws, s1, s2, hm, hw, hl, hc, hne⟩

theorem nval_does {h : Heap} (ok : HOk h) {Nm now N many : Nat} (hN : N < 100000) {r : Bool} {n : Int} (hr : r = true → ∃ i : Nat, n = i ∧ i < N) (k : Nmr h Nm now N many) :
    Does FF n_tidy_namer_val [.pointer (some ⟨Nm, 0, none⟩), .agg ⟨[.bool r, .int .i64 n]⟩] h (fun v h' => Grows (fun x => x = Nm ∨ x = now) h h' ∧ ∃ (m : Int) (many' : Nat), v = .agg ⟨[.bool r, .int .i64 m]⟩ ∧ (r = false → m = n) ∧ Nmr h' Nm now N many') := by
  cases r with
  | false =>
    refine Does.of c_tidy_namer_val ?_
    unfold b_tidy_namer_val
    simp
    have g : Grows Nob h (put (newBlk (newBlk h [.bool false, .int .i64 n] 0) [.bool false, .int .i64 0] 0) (h.next + 1) 0 [.bool false, .int .i64 0] [.bool false, .int .i64 n] 0) := Grows.put (((Grows.refl ok).new _ _).new _ _) ⟨0, by simp⟩ (.inl (by omega))
    exact ⟨g.nob, many, k.grow ok g id id⟩
  | true =>
    obtain ⟨i, rfl, hi⟩ := hr rfl
    refine Does.of c_tidy_namer_val ?_
    unfold b_tidy_namer_val
    simp
    refine OpsR.cut (fun h1 => Grows Nob h h1 ∧ h1.tr.get h.next = some (.blk [.bool true, .int .i64 i] false 0 0) ∧ h1.tr.get (h.next + 1) = some (.blk [.bool false, .int .i64 0] false 0 0)) ⟨((Grows.refl ok).new _ _).new _ _, by simp, by simp⟩ ?_
    rintro h1 ⟨g1, hX1, hR1⟩
    obtain ⟨ws0, t1, t2, q1, q2, _⟩ := id k
    have lN := (ok.old q1).lt
    have ln := (ok.old q2).lt
    refine OpsR.call (name_does g1.ok hN hi (k.grow ok g1 id id)) ?_
    rintro _ h2 ⟨g2, m, many', rfl, k2⟩
    have hX2 := g2.get g1.ok hX1 (by omega)
    have hR2 := g2.get g1.ok hR1 (by omega)
    have n1 : ¬ h.next + 1 = h.next := by omega
    simp [hX2, hR2, n1]
    have g02 : Grows (fun x => x = Nm ∨ x = now) h h2 := g1.nob.trans g2
    have g3 : Grows (fun x => x = Nm ∨ x = now) h (put (put h2 h.next 1 [.bool true, .int .i64 i] [.int .i64 m] 0) (h.next + 1) 0 [.bool false, .int .i64 0] [.bool true, .int .i64 m] 0) := by
      refine Grows.put (Grows.put g02 ⟨0, hX2⟩ (.inl (Nat.le_refl _))) ⟨0, ?_⟩ (.inl (by omega))
      simp [n1, hR2]
    have g23 : Grows (fun x => x = h.next ∨ x = h.next + 1) h2 (put (put h2 h.next 1 [.bool true, .int .i64 i] [.int .i64 m] 0) (h.next + 1) 0 [.bool false, .int .i64 0] [.bool true, .int .i64 m] 0) := by
      refine Grows.put (Grows.put (Grows.refl g2.ok) ⟨0, hX2⟩ (.inr (.inl rfl))) ⟨0, ?_⟩ (.inr (.inr rfl))
      simp [n1, hR2]
    exact ⟨g3, many', k2.grow g2.ok g23 (by omega) (by omega)⟩
end Go.Proofs.YtigniafapkbbbaaGreatDoor
