/- The abstract memory, as walks use it: what grows, what stands; slices of encoded elements. -/
import Derived.Test.YtkhnhflbgkndjaaAiWp
namespace Go.AI

/-- A memory in order. -/
structure HOk (h : Heap) : Prop where
  wf : ∀ b o, h.tr.get b = some o → b < h.next
  st : ∀ b cs ro o s, h.tr.get b = some (.blk cs ro o s) → s ≤ h.clock

/-- What stood stands, but for some. -/
structure Grows (S : Nat → Prop) (h h' : Heap) : Prop where
  next : h.next ≤ h'.next
  clock : h.clock ≤ h'.clock
  same : ∀ b, b < h.next → ¬ S b → h'.tr.get b = h.tr.get b
  ok : HOk h'

def Nob : Nat → Prop := fun _ => False

theorem Grows.refl {S : Nat → Prop} {h : Heap} (ok : HOk h) : Grows S h h := ⟨Nat.le_refl _, Nat.le_refl _, fun _ _ _ => rfl, ok⟩

theorem Grows.trans' {S S₁ S₂ : Nat → Prop} {h h₁ h₂ : Heap} (a : Grows S₁ h h₁) (b : Grows S₂ h₁ h₂) (h1 : ∀ b, b < h.next → S₁ b → S b) (h2 : ∀ b, b < h.next → S₂ b → S b) : Grows S h h₂ :=
  ⟨Nat.le_trans a.next b.next, Nat.le_trans a.clock b.clock, fun x hx hn => by
    rw [b.same x (Nat.lt_of_lt_of_le hx a.next) (fun hs => hn (h2 x hx hs)), a.same x hx (fun hs => hn (h1 x hx hs))], b.ok⟩

theorem Grows.trans {S : Nat → Prop} {h h₁ h₂ : Heap} (a : Grows S h h₁) (b : Grows S h₁ h₂) : Grows S h h₂ := a.trans' b (fun _ _ h => h) (fun _ _ h => h)
theorem Grows.weak {S S' : Nat → Prop} {h h₁ : Heap} (a : Grows S h h₁) (hs : ∀ b, b < h.next → S b → S' b) : Grows S' h h₁ :=
  ⟨a.next, a.clock, fun b hb hn => a.same b hb (fun h => hn (hs b hb h)), a.ok⟩
theorem Grows.nob {S : Nat → Prop} {h h₁ : Heap} (a : Grows Nob h h₁) : Grows S h h₁ := a.weak fun _ _ h => h.elim

theorem Grows.get {S : Nat → Prop} {h h' : Heap} (g : Grows S h h') (ok : HOk h) {b : Nat} {o : AObj} (hb : h.tr.get b = some o) (hs : ¬ S b) : h'.tr.get b = some o := by
  rw [g.same b (ok.wf b o hb) hs, hb]

theorem grow_tick {h : Heap} (ok : HOk h) : Grows Nob h (tick h) :=
  ⟨Nat.le_refl _, Nat.le_succ _, fun _ _ _ => rfl, ⟨ok.wf, fun b cs ro o s hb => Nat.le_succ_of_le (ok.st b cs ro o s hb)⟩⟩

theorem grow_newBlk {h : Heap} (ok : HOk h) (cs : List Value) (o : Nat) : Grows Nob h (newBlk h cs o) := by
  refine ⟨Nat.le_succ _, Nat.le_refl _, fun b hb _ => ?_, ⟨fun b ob hb => ?_, fun b cs' ro o' s hb => ?_⟩⟩
  · simp only [newBlk, Heap.new, Tr.get_set]
    rw [if_neg (by omega)]
  · simp only [newBlk, Heap.new, Tr.get_set] at hb ⊢
    by_cases e : b = h.next
    · omega
    · rw [if_neg e] at hb; exact Nat.lt_succ_of_lt (ok.wf b ob hb)
  · simp only [newBlk, Heap.new, Tr.get_set] at hb ⊢
    by_cases e : b = h.next
    · rw [if_pos e] at hb; cases hb; exact Nat.zero_le _
    · rw [if_neg e] at hb; exact ok.st b cs' ro o' s hb

@[simp] theorem get_newBlk (h : Heap) (cs : List Value) (o : Nat) : (newBlk h cs o).tr.get h.next = some (.blk cs false o 0) := by
  simp [newBlk, Heap.new, Tr.get_set]
@[simp] theorem next_newBlk (h : Heap) (cs : List Value) (o : Nat) : (newBlk h cs o).next = h.next + 1 := rfl
@[simp] theorem clock_newBlk (h : Heap) (cs : List Value) (o : Nat) : (newBlk h cs o).clock = h.clock := rfl
@[simp] theorem next_tick (h : Heap) : (tick h).next = h.next := rfl
@[simp] theorem tr_tick (h : Heap) : (tick h).tr = h.tr := rfl

theorem readAt_eq {h : Heap} {b off n : Nat} {cs : List Value} {ro : Bool} {o s : Nat} (hb : h.tr.get b = some (.blk cs ro o s)) (hl : off + n ≤ cs.length) :
    readAt h b off n = some ((cs.drop off).take n) := by
  unfold readAt
  rw [hb]
  have : ((cs.drop off).take n).length = n := by simp; omega
  simp [this]

theorem readAt_tick (h : Heap) (b off n : Nat) : readAt (tick h) b off n = readAt h b off n := rfl

/-- the memory behind a writing -/
def put (h : Heap) (b off : Nat) (cs vs : List Value) (o : Nat) : Heap := { h with clock := h.clock + 1, tr := h.tr.set b (.blk (splice cs off vs) false o h.clock) }

theorem writeAt_eq {h : Heap} {b off : Nat} {cs vs : List Value} {o s : Nat} (hb : h.tr.get b = some (.blk cs false o s)) (hl : off + vs.length ≤ cs.length) :
    writeAt h b off vs = some (put h b off cs vs o) := by
  unfold writeAt
  rw [hb]
  simp [hl, put]

@[simp] theorem get_put_same (h : Heap) (b off : Nat) (cs vs : List Value) (o : Nat) : (put h b off cs vs o).tr.get b = some (.blk (splice cs off vs) false o h.clock) := by simp [put, Tr.get_set]

theorem grow_put {h : Heap} (ok : HOk h) {b off : Nat} {cs vs : List Value} {o s : Nat} (hb : h.tr.get b = some (.blk cs false o s)) : Grows (· = b) h (put h b off cs vs o) := by
  refine ⟨Nat.le_refl _, Nat.le_succ _, fun x hx hn => ?_, ⟨fun x ob hx => ?_, fun x cs' ro o' s' hx => ?_⟩⟩
  · simp only [put, Tr.get_set]; rw [if_neg hn]
  · simp only [put, Tr.get_set] at hx ⊢
    by_cases e : x = b
    · subst e; exact ok.wf _ _ hb
    · rw [if_neg e] at hx; exact ok.wf x ob hx
  · simp only [put, Tr.get_set] at hx ⊢
    by_cases e : x = b
    · rw [if_pos e] at hx; cases hx; exact Nat.le_succ _
    · rw [if_neg e] at hx; exact Nat.le_succ_of_le (ok.st x cs' ro o' s' hx)

theorem grow_del {h : Heap} (ok : HOk h) (b : Nat) : Grows (· = b) h { h with tr := h.tr.del b } := by
  refine ⟨Nat.le_refl _, Nat.le_refl _, fun x hx hn => ?_, ⟨fun x ob hx => ?_, fun x cs' ro o' s' hx => ?_⟩⟩
  · simp only [Tr.get_del]; rw [if_neg hn]
  · simp only [Tr.get_del] at hx ⊢
    by_cases e : x = b
    · rw [if_pos e] at hx; cases hx
    · rw [if_neg e] at hx; exact ok.wf x ob hx
  · simp only [Tr.get_del] at hx ⊢
    by_cases e : x = b
    · rw [if_pos e] at hx; cases hx
    · rw [if_neg e] at hx; exact ok.st x cs' ro o' s' hx

/-- How elements of a kind lie in cells. -/
structure Enc (α : Type) where
  enc : α → List Value
  sz : Nat
  len : ∀ x, (enc x).length = sz
  pos : 0 < sz
  plain : ∀ x, (enc x).all plain = true

namespace Enc
variable {α : Type} (E : Enc α)
def flat (xs : List α) : List Value := xs.flatMap E.enc
@[simp] theorem flat_nil : E.flat [] = [] := rfl
@[simp] theorem flat_cons (x : α) (xs : List α) : E.flat (x :: xs) = E.enc x ++ E.flat xs := by simp [flat]
@[simp] theorem flat_append (xs ys : List α) : E.flat (xs ++ ys) = E.flat xs ++ E.flat ys := by simp [flat]
@[simp] theorem length_flat (xs : List α) : (E.flat xs).length = xs.length * E.sz := by
  induction xs with
  | nil => simp
  | cons x xs ih => simp [E.len, ih, Nat.add_mul, Nat.add_comm]
theorem drop_flat (xs : List α) (i : Nat) : (E.flat xs).drop (i * E.sz) = E.flat (xs.drop i) := by
  induction xs generalizing i with
  | nil => simp
  | cons x xs ih =>
    cases i with
    | zero => simp
    | succ i =>
      rw [flat_cons, List.drop_succ_cons, ← ih i, List.drop_append, E.len, show (i + 1) * E.sz - E.sz = i * E.sz by rw [Nat.add_mul]; omega]
      have : (E.enc x).drop ((i + 1) * E.sz) = [] := by
        apply List.drop_eq_nil_of_le; rw [E.len, Nat.add_mul]; omega
      rw [this, List.nil_append]
theorem take_flat (xs : List α) (i : Nat) : (E.flat xs).take (i * E.sz) = E.flat (xs.take i) := by
  induction xs generalizing i with
  | nil => simp
  | cons x xs ih =>
    cases i with
    | zero => simp
    | succ i =>
      rw [flat_cons, List.take_succ_cons, flat_cons, ← ih i, List.take_append, E.len, show (i + 1) * E.sz - E.sz = i * E.sz by rw [Nat.add_mul]; omega]
      have : (E.enc x).take ((i + 1) * E.sz) = E.enc x := by
        apply List.take_of_length_le; rw [E.len, Nat.add_mul]; omega
      rw [this]
theorem at_flat (xs : List α) (i : Nat) (x : α) (h : xs[i]? = some x) : ((E.flat xs).drop (i * E.sz)).take E.sz = E.enc x := by
  rw [drop_flat]
  have hl := (List.getElem?_eq_some_iff.mp h).1
  rw [List.drop_eq_getElem_cons hl, flat_cons, List.take_append, E.len, Nat.sub_self, List.take_zero, List.append_nil, (List.getElem?_eq_some_iff.mp h).2]
  exact List.take_of_length_le (by rw [E.len]; exact Nat.le_refl _)
/-- some cells of an element -/
theorem part_flat (xs : List α) (i off n : Nat) (x : α) (h : xs[i]? = some x) (hn : off + n ≤ E.sz) : ((E.flat xs).drop (i * E.sz + off)).take n = ((E.enc x).drop off).take n := by
  rw [← at_flat E xs i x h, ← List.drop_drop, List.drop_take, List.take_take, Nat.min_eq_left (by omega)]
theorem splice_flat (xs : List α) (i : Nat) (x : α) (h : i < xs.length) : splice (E.flat xs) (i * E.sz) (E.enc x) = E.flat (xs.set i x) := by
  unfold splice
  rw [take_flat, E.len, show i * E.sz + E.sz = (i + 1) * E.sz by rw [Nat.add_mul]; omega, drop_flat, List.set_eq_take_append_cons_drop, if_pos h, flat_append, flat_cons, List.append_assoc]
theorem plain_flat (xs : List α) : (E.flat xs).all Go.AI.plain = true := by
  induction xs with
  | nil => rfl
  | cons x xs ih => simp only [flat_cons, List.all_append, E.plain, ih, Bool.and_self]
end Enc

/-- The value is a slice of these elements. -/
def SliceOf {α : Type} (E : Enc α) (h : Heap) (v : Value) (xs : List α) : Prop :=
  ∃ a cap, v = .slice a xs.length cap ∧ ((xs = [] ∧ (a = none ∨ ∃ b off, a = some ⟨b, off, none⟩)) ∨ ∃ b off cs ro o s, a = some ⟨b, off, none⟩ ∧ h.tr.get b = some (.blk cs ro o s) ∧ off + xs.length * E.sz ≤ cs.length ∧ (cs.drop off).take (xs.length * E.sz) = E.flat xs)

/-- the block of a slice -/
def BlkOf (v : Value) (b : Nat) : Prop := ∃ off n cap, v = .slice (some ⟨b, off, none⟩) n cap

theorem SliceOf.grow {α : Type} {E : Enc α} {S : Nat → Prop} {h h' : Heap} {v : Value} {xs : List α} (s : SliceOf E h v xs) (ok : HOk h) (g : Grows S h h') (hs : ∀ b, BlkOf v b → ¬ S b) : SliceOf E h' v xs := by
  obtain ⟨a, cap, rfl, s⟩ := s
  refine ⟨a, cap, rfl, ?_⟩
  rcases s with s | ⟨b, off, cs, ro, o, st, rfl, hb, hl, hc⟩
  · exact .inl s
  · exact .inr ⟨b, off, cs, ro, o, st, rfl, g.get ok hb (hs b ⟨_, _, _, rfl⟩), hl, hc⟩

theorem SliceOf.nob {α : Type} {E : Enc α} {h h' : Heap} {v : Value} {xs : List α} (s : SliceOf E h v xs) (ok : HOk h) (g : Grows Nob h h') : SliceOf E h' v xs := s.grow ok g fun _ _ h => h

theorem SliceOf.nil {α : Type} (E : Enc α) (h : Heap) (cap : Nat) : SliceOf E h (.slice none 0 cap) [] := ⟨none, cap, rfl, .inl ⟨rfl, .inl rfl⟩⟩
theorem SliceOf.nil' {α : Type} (E : Enc α) (h : Heap) (b off cap : Nat) : SliceOf E h (.slice (some ⟨b, off, none⟩) 0 cap) [] := ⟨_, cap, rfl, .inl ⟨rfl, .inr ⟨b, off, rfl⟩⟩⟩

/-- what is read of an element -/
theorem SliceOf.read {α : Type} {E : Enc α} {h : Heap} {v : Value} {xs : List α} (s : SliceOf E h v xs) {i : Nat} {x : α} (hi : xs[i]? = some x) :
    ∃ b off cap, v = .slice (some ⟨b, off, none⟩) xs.length cap ∧ i < xs.length ∧ (∃ cs ro o s, h.tr.get b = some (.blk cs ro o s)) ∧ ∀ o n, o + n ≤ E.sz → readAt h b (off + i * E.sz + o) n = some (((E.enc x).drop o).take n) := by
  obtain ⟨a, cap, rfl, s⟩ := s
  have hl := (List.getElem?_eq_some_iff.mp hi).1
  rcases s with s | ⟨b, off, cs, ro, o, st, rfl, hb, hlen, hc⟩
  · rw [s.1] at hl; simp at hl
  · refine ⟨b, off, cap, rfl, hl, ⟨_, _, _, _, hb⟩, fun o' n hn => ?_⟩
    have h1 : (i + 1) * E.sz ≤ xs.length * E.sz := Nat.mul_le_mul_right _ hl
    rw [Nat.add_mul] at h1
    rw [readAt_eq hb (by omega)]
    congr 1
    rw [← E.part_flat xs i o' n x hi hn, ← hc, List.drop_take, List.take_take, List.drop_drop, Nat.min_eq_left (by omega), Nat.add_assoc]

/-- A slice of the walk's own, full to the brim; its block lies from a place on. -/
def AccOf {α : Type} (E : Enc α) (n0 : Nat) (h : Heap) (v : Value) (xs : List α) : Prop :=
  (xs = [] ∧ v = .slice none 0 0) ∨ ∃ b s, v = .slice (some ⟨b, 0, none⟩) xs.length xs.length ∧ h.tr.get b = some (.blk (E.flat xs) false E.sz s) ∧ xs ≠ [] ∧ n0 ≤ b

theorem AccOf.sl {α : Type} {E : Enc α} {n0 : Nat} {h : Heap} {v : Value} {xs : List α} (a : AccOf E n0 h v xs) : SliceOf E h v xs := by
  rcases a with ⟨rfl, rfl⟩ | ⟨b, s, rfl, hb, _, _⟩
  · exact .nil E h _
  · exact ⟨_, _, rfl, .inr ⟨b, 0, _, _, _, _, rfl, hb, by simp, by simp [List.take_of_length_le]⟩⟩

theorem AccOf.grow {α : Type} {E : Enc α} {n0 : Nat} {S : Nat → Prop} {h h' : Heap} {v : Value} {xs : List α} (a : AccOf E n0 h v xs) (ok : HOk h) (g : Grows S h h') (hs : ∀ b, BlkOf v b → ¬ S b) : AccOf E n0 h' v xs := by
  rcases a with a | ⟨b, s, rfl, hb, hx, hn⟩
  · exact .inl a
  · exact .inr ⟨b, s, rfl, g.get ok hb (hs b ⟨_, _, _, rfl⟩), hx, hn⟩

theorem AccOf.of {α : Type} {E : Enc α} {n0 : Nat} {h : Heap} {v : Value} {xs : List α} (a : AccOf E n0 h v xs) {b : Nat} (o : BlkOf v b) : n0 ≤ b := by
  obtain ⟨off, n, cap, rfl⟩ := o
  rcases a with ⟨_, h⟩ | ⟨b', s, h, _, _, hn⟩
  · cases h
  · cases h; exact hn

/-- What an append adds: the cells of a slice. -/
theorem news_sl {α : Type} {E : Enc α} {h : Heap} {v : Value} {ys : List α} {z : List Value} (hz : z.length = E.sz) (s : SliceOf E h v ys) : news h z false v = some (ys.length, E.flat ys) := by
  obtain ⟨a, cap, rfl, s⟩ := s
  rcases s with ⟨rfl, rfl | ⟨b, off, rfl⟩⟩ | ⟨b, off, cs, ro, o, st, rfl, hb, hlen, hc⟩
  · simp [news]
  · simp [news]
  · cases ys with
    | nil => simp [news]
    | cons y ys =>
      unfold news
      dsimp only
      rw [show Nat.beq (y :: ys).length 0 = false from rfl, hz, readAt_eq hb hlen, hc]
      rfl
end Go.AI
