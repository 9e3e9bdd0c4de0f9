/- How the abstract memory stands for the true one. -/
import Derived.Test.YtigniafapkbbbaaGreatDoorAiBase
namespace Go.AI

namespace Tr
variable {α : Type}
theorem get_nil (k : Nat) : (Tr.nil : Tr α).get k = none := rfl

theorem get_put (x : Option α) : ∀ (f : Nat) (t : Tr α) (k j : Nat), k < f → (put f t k x).get j = if j = k then x else t.get j := by
  intro f
  induction f with
  | zero => intro t k j h; omega
  | succ f ih =>
    intro t k j h
    cases t with
    | nil =>
      cases k with
      | zero => cases j with
        | zero => simp [put, get]
        | succ j => simp [put, get]
      | succ k =>
        have hk : k / 2 < f := by omega
        cases j with
        | zero =>
          have : ¬ (0 = k + 1) := by omega
          unfold put; dsimp only
          cases hb : Nat.beq (k % 2) 0 <;> simp [get]
        | succ j =>
          unfold put; dsimp only
          cases hb : Nat.beq (k % 2) 0 <;> cases hj : Nat.beq (j % 2) 0 <;> simp only [get, hj, cond_true, cond_false, ih _ _ _ hk]
          · have h1 : k % 2 ≠ 0 := by intro h; rw [h] at hb; cases hb
            have h2 : j % 2 ≠ 0 := by intro h; rw [h] at hj; cases hj
            by_cases e : j = k
            · subst e; simp
            · have : j / 2 ≠ k / 2 := by omega
              simp [e, this]
          · have h1 : k % 2 ≠ 0 := by intro h; rw [h] at hb; cases hb
            have h2 := Nat.eq_of_beq_eq_true hj
            have : j ≠ k := by rintro rfl; omega
            simp [this]
          · have h1 := Nat.eq_of_beq_eq_true hb
            have h2 : j % 2 ≠ 0 := by intro h; rw [h] at hj; cases hj
            have : j ≠ k := by rintro rfl; omega
            simp [this]
          · have h1 := Nat.eq_of_beq_eq_true hb
            have h2 := Nat.eq_of_beq_eq_true hj
            by_cases e : j = k
            · subst e; simp
            · have : j / 2 ≠ k / 2 := by omega
              simp [e, this]
    | node v l r =>
      cases k with
      | zero => cases j with
        | zero => simp [put, get]
        | succ j => simp [put, get]
      | succ k =>
        have hk : k / 2 < f := by omega
        cases j with
        | zero =>
          unfold put; dsimp only
          cases hb : Nat.beq (k % 2) 0 <;> simp [get]
        | succ j =>
          unfold put; dsimp only
          cases hb : Nat.beq (k % 2) 0 <;> cases hj : Nat.beq (j % 2) 0 <;> simp only [get, hj, cond_true, cond_false, ih _ _ _ hk]
          · have h1 : k % 2 ≠ 0 := by intro h; rw [h] at hb; cases hb
            have h2 : j % 2 ≠ 0 := by intro h; rw [h] at hj; cases hj
            by_cases e : j = k
            · subst e; simp
            · have : j / 2 ≠ k / 2 := by omega
              simp [e, this]
          · have h1 : k % 2 ≠ 0 := by intro h; rw [h] at hb; cases hb
            have h2 := Nat.eq_of_beq_eq_true hj
            have : j ≠ k := by rintro rfl; omega
            simp [this]
          · have h1 := Nat.eq_of_beq_eq_true hb
            have h2 : j % 2 ≠ 0 := by intro h; rw [h] at hj; cases hj
            have : j ≠ k := by rintro rfl; omega
            simp [this]
          · have h1 := Nat.eq_of_beq_eq_true hb
            have h2 := Nat.eq_of_beq_eq_true hj
            by_cases e : j = k
            · subst e; simp
            · have : j / 2 ≠ k / 2 := by omega
              simp [e, this]

theorem get_set (t : Tr α) (k j : Nat) (x : α) : (t.set k x).get j = if j = k then some x else t.get j := get_put (some x) _ t k j (by omega)
theorem get_del (t : Tr α) (k j : Nat) : (t.del k).get j = if j = k then none else t.get j := get_put none _ t k j (by omega)
end Tr

theorem Env.get_set (e : Env) (k j : Nat) (v : Value) : Env.get (Tr.set e k v) j = if j = k then v else Env.get e j := by
  unfold Env.get
  rw [Tr.get_set]
  split <;> rfl

/-- Two lists, each of one related to each of the other. -/
inductive All2 {α β : Type} (R : α → β → Prop) : List α → List β → Prop
  | nil : All2 R [] []
  | cons {a b as' bs} (h : R a b) (hs : All2 R as' bs) : All2 R (a :: as') (b :: bs)

namespace All2
variable {α β : Type} {R S : α → β → Prop}
theorem length {l : List α} {m : List β} (h : All2 R l m) : l.length = m.length := by
  induction h with
  | nil => rfl
  | cons _ _ ih => simp [ih]
theorem mono {l : List α} {m : List β} (hm : ∀ a b, R a b → S a b) (h : All2 R l m) : All2 S l m := by
  induction h with
  | nil => exact .nil
  | cons h _ ih => exact .cons (hm _ _ h) ih
theorem app {l l' : List α} {m m' : List β} (h : All2 R l m) (h' : All2 R l' m') : All2 R (l ++ l') (m ++ m') := by
  induction h with
  | nil => exact h'
  | cons h _ ih => exact .cons h ih
theorem take {l : List α} {m : List β} (h : All2 R l m) : ∀ n, All2 R (l.take n) (m.take n) := by
  induction h with
  | nil => intro n; simpa using .nil
  | cons h _ ih => intro n; cases n with
    | zero => simpa using .nil
    | succ n => simpa using .cons h (ih n)
theorem drop {l : List α} {m : List β} (h : All2 R l m) : ∀ n, All2 R (l.drop n) (m.drop n) := by
  induction h with
  | nil => intro n; simpa using .nil
  | cons h hs ih => intro n; cases n with
    | zero => simpa using .cons h hs
    | succ n => simpa using ih n
theorem get {l : List α} {m : List β} (h : All2 R l m) : ∀ {i : Nat} {a : α}, l[i]? = some a → ∃ b, m[i]? = some b ∧ R a b := by
  induction h with
  | nil => intro i a h; simp at h
  | cons h _ ih =>
    intro i a hi
    cases i with
    | zero => simp at hi; subst hi; exact ⟨_, rfl, h⟩
    | succ i => simp at hi; simpa using ih hi
theorem of_get {l : List α} : ∀ {m : List β}, l.length = m.length → (∀ (i : Nat) (a : α) (b : β), l[i]? = some a → m[i]? = some b → R a b) → All2 R l m := by
  induction l with
  | nil => intro m h _; cases m with
    | nil => exact .nil
    | cons => simp at h
  | cons a l ih => intro m h hg; cases m with
    | nil => simp at h
    | cons b m => exact .cons (hg 0 a b rfl rfl) (ih (by simpa using h) fun i x y hx hy => hg (i + 1) x y (by simpa using hx) (by simpa using hy))
theorem map_left {γ : Type} {f : γ → α} {l : List γ} {m : List β} (h : All2 (fun c b => R (f c) b) l m) : All2 R (l.map f) m := by
  induction h with
  | nil => exact .nil
  | cons h _ ih => exact .cons h ih
theorem map2 {γ : Type} {f : γ → α} {g : γ → β} (l : List γ) (h : ∀ c, R (f c) (g c)) : All2 R (l.map f) (l.map g) := by
  induction l with
  | nil => exact .nil
  | cons c l ih => exact .cons (h c) ih
end All2

/-- Where an abstract block lies in the true memory. -/
structure Img where
  blk : Nat
  base : Nat
  len : Nat
  opn : Nat
  room : Nat

abbrev Rho := Nat → Option Img

def SliceOk (r : Img) (o len cap : Nat) (ca : Addr) (ccap : Nat) : Prop :=
  (ca = ⟨r.blk, r.base + o, none⟩ ∨ (ccap = 0 ∧ cap = 0)) ∧ (ccap = cap ∨ (r.opn ≠ 0 ∧ cap ≤ ccap ∧ o + cap * r.opn = r.len ∧ o + ccap * r.opn ≤ r.room)) ∧ len ≤ cap

/-- Cells that are no functions. -/
inductive CR (ρ : Rho) : Value → Value → Prop
  | bool (b : Bool) : CR ρ (.bool b) (.bool b)
  | int (k : IntKind) (n : Int) : CR ρ (.int k n) (.int k n)
  | str (s : ByteArray) : CR ρ (.string s) (.string s)
  | nilptr : CR ρ (.pointer none) (.pointer none)
  | ptr {b o : Nat} {r : Img} (h : ρ b = some r) : CR ρ (.pointer (some ⟨b, o, none⟩)) (.pointer (some ⟨r.blk, r.base + o, none⟩))
  | nilslice (n c : Nat) : CR ρ (.slice none n c) (.slice none n c)
  | slice {b o len cap ccap : Nat} {ca : Addr} {r : Img} (h : ρ b = some r) (hs : SliceOk r o len cap ca ccap) : CR ρ (.slice (some ⟨b, o, none⟩) len cap) (.slice (some ca) len ccap)
  | nilmap : CR ρ (.map none) (.map none)
  | map {m : Nat} {r : Img} (h : ρ m = some r) : CR ρ (.map (some m)) (.map (some r.blk))
  | nilfunc : CR ρ .nilFunc .nilFunc
  | niliface : CR ρ .nilIface .nilIface

/-- Cells. -/
inductive KR (ρ : Rho) : Value → Value → Prop
  | cell {v c : Value} (h : CR ρ v c) : KR ρ v c
  | fn (f : FuncId) {l m : List Value} (h : All2 (CR ρ) l m) : KR ρ (.func (.func f) #[] ⟨l⟩) (.func (.func f) #[] ⟨m⟩)
  | yield {l : Nat} {r : Img} (h : ρ l = some r) : KR ρ (.func (.yield l) #[] #[]) (.func (.yield r.blk) #[] #[])

/-- Cells, and aggregates of cells. -/
inductive AR (ρ : Rho) : Value → Value → Prop
  | cell {v c : Value} (h : KR ρ v c) : AR ρ v c
  | agg {l m : List Value} (h : All2 (KR ρ) l m) : AR ρ (.agg ⟨l⟩) (.agg ⟨m⟩)

/-- All values of slots. -/
inductive VR (ρ : Rho) : Value → Value → Prop
  | val {v c : Value} (h : AR ρ v c) : VR ρ v c
  | tuple {l m : List Value} (h : All2 (AR ρ) l m) : VR ρ (.tuple ⟨l⟩) (.tuple ⟨m⟩)
  | atl {n m : Nat} (h : n ≤ m) : VR ρ (.chan (some n)) (.int .i64 m)

def Rho.le (ρ ρ' : Rho) : Prop := ∀ b r, ρ b = some r → ρ' b = some r
theorem Rho.le_refl (ρ : Rho) : ρ.le ρ := fun _ _ h => h
theorem Rho.le_trans {a b c : Rho} (h : a.le b) (h' : b.le c) : a.le c := fun _ _ x => h' _ _ (h _ _ x)

section
variable {ρ ρ' : Rho} {v c : Value}
theorem CR.mono (hl : ρ.le ρ') (h : CR ρ v c) : CR ρ' v c := by
  cases h with
  | bool b => exact .bool b
  | int k n => exact .int k n
  | str s => exact .str s
  | nilptr => exact .nilptr
  | ptr h => exact .ptr (hl _ _ h)
  | nilslice n c => exact .nilslice n c
  | slice h hs => exact .slice (hl _ _ h) hs
  | nilmap => exact .nilmap
  | map h => exact .map (hl _ _ h)
  | nilfunc => exact .nilfunc
  | niliface => exact .niliface
theorem KR.mono (hl : ρ.le ρ') (h : KR ρ v c) : KR ρ' v c := by
  cases h with
  | cell h => exact .cell (h.mono hl)
  | fn f h => exact .fn f (h.mono fun _ _ => CR.mono hl)
  | yield h => exact .yield (hl _ _ h)
theorem AR.mono (hl : ρ.le ρ') (h : AR ρ v c) : AR ρ' v c := by
  cases h with
  | cell h => exact .cell (h.mono hl)
  | agg h => exact .agg (h.mono fun _ _ => KR.mono hl)
theorem VR.mono (hl : ρ.le ρ') (h : VR ρ v c) : VR ρ' v c := by
  cases h with
  | val h => exact .val (h.mono hl)
  | tuple h => exact .tuple (h.mono fun _ _ => AR.mono hl)
  | atl h => exact .atl h

theorem CR.vr (h : CR ρ v c) : VR ρ v c := .val (.cell (.cell h))
theorem KR.vr (h : KR ρ v c) : VR ρ v c := .val (.cell h)
theorem VR.undef : VR ρ (.tuple #[]) (.tuple #[]) := .tuple .nil
theorem VR.bool (b : Bool) : VR ρ (.bool b) (.bool b) := (CR.bool b).vr
theorem VR.int (k : IntKind) (n : Int) : VR ρ (.int k n) (.int k n) := (CR.int k n).vr

/-- A cell is neither an aggregate nor a tuple, on either side. -/
theorem KR.plain (h : KR ρ v c) : AI.plain v = true ∧ AI.plain c = true := by
  cases h with
  | cell h => cases h <;> exact ⟨rfl, rfl⟩
  | fn => exact ⟨rfl, rfl⟩
  | yield => exact ⟨rfl, rfl⟩
theorem CR.of_simple (h : VR ρ v c) (hs : simple v = true) : CR ρ v c := by
  cases h with
  | tuple => simp [simple] at hs
  | atl => simp [simple] at hs
  | val h => cases h with
    | agg => simp [simple] at hs
    | cell h => cases h with
      | cell h => exact h
      | fn => simp [simple] at hs
      | yield => simp [simple] at hs
theorem KR.of_plain (h : VR ρ v c) (hs : AI.plain v = true) : KR ρ v c := by
  cases h with
  | tuple => simp [AI.plain] at hs
  | atl => simp [AI.plain] at hs
  | val h => cases h with
    | agg => simp [AI.plain] at hs
    | cell h => exact h

theorem cells_of_KR (h : KR ρ v c) : cellsOf v = [v] ∧ c.cells = #[c] := by
  have := h.plain
  constructor
  · cases v <;> first | rfl | (simp [AI.plain] at this)
  · cases c <;> first | rfl | (simp [AI.plain] at this)

/-- The cells of a flat value are those of the true one. -/
theorem flat_rel {vs : List Value} (h : VR ρ v c) (hf : flat v = some vs) : All2 (KR ρ) vs c.cells.toList := by
  unfold flat at hf
  cases hp : (cellsOf v).all AI.plain with
  | false => simp [hp] at hf
  | true =>
    simp [hp] at hf
    subst hf
    cases h with
    | tuple => simp [cellsOf, AI.plain] at hp
    | atl => simp [cellsOf, AI.plain] at hp
    | val h => cases h with
      | agg h => simpa [cellsOf, Value.cells] using h
      | cell h =>
        obtain ⟨h1, h2⟩ := cells_of_KR h
        rw [h1, h2]
        exact .cons h .nil
end

/-- An abstract object into which can be written. -/
def AObj.rw : AObj → Bool
  | .blk _ ro _ _ => !ro
  | _ => true

def writable (h : Heap) (b : Nat) : Prop := ∃ o, h.tr.get b = some o ∧ o.rw = true
end Go.AI
