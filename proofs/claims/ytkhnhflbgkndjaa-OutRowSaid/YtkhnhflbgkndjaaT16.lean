/- The row of moves, in plain words: what it does to registers, and how long it is. -/
import Derived.Test.YtkhnhflbgkndjaaT13
namespace Go.Proofs.Ytkhnhflbgkndjaa

/-- Moves that may be brought into a row. -/
structure Good (s : Int) (l : List Mv) : Prop where
  nodup : (l.map Mv.to).Nodup
  reg : ∀ m ∈ l, m.reg = true
  to : ∀ m ∈ l, m.to ≠ s
  self : ∀ m ∈ l, m.n ≠ m.to

def rowT (s : Int) : Nat → List Mv → List Mv
  | 0, _ => []
  | k + 1, l => if l = [] then [] else (rowStep s l []).2 ++ rowT s k (rowStep s l []).1

theorem rowStep_out (s : Int) (l out : List Mv) : rowStep s l out = ((rowStep s l []).1, out ++ (rowStep s l []).2) := by
  unfold rowStep
  split <;> simp

theorem rowN_eq (s : Int) : ∀ (n : Nat) (l out : List Mv), rowN s n l out = out ++ rowT s n l
  | 0, l, out => by simp [rowN, rowT]
  | n + 1, l, out => by
    unfold rowN rowT
    by_cases h : l = []
    · simp [h]
    · rw [if_neg h, if_neg h, rowStep_out, rowN_eq s n]
      simp

theorem needs_reg {r : Int} {m : Mv} (h : m.reg = true) : needs r m = (m.n == r) := by simp [needs, h]

theorem asks_iff {s : Int} {l : List Mv} (g : Good s l) (r : Int) : asks l r = true ↔ ∃ m ∈ l, m.n = r := by
  unfold asks
  rw [List.any_eq_true]
  constructor
  · rintro ⟨m, hm, h⟩
    rw [needs_reg (g.reg m hm)] at h
    exact ⟨m, hm, by simpa using h⟩
  · rintro ⟨m, hm, h⟩
    exact ⟨m, hm, by rw [needs_reg (g.reg m hm)]; simpa using h⟩

theorem to_inj {s : Int} {l : List Mv} (g : Good s l) {i j : Nat} (hi : i < l.length) (hj : j < l.length) (h : l[i].to = l[j].to) : i = j := by
  have h2 : (l.map Mv.to)[i]'(by simpa using hi) = (l.map Mv.to)[j]'(by simpa using hj) := by simpa using h
  have hp := List.pairwise_iff_getElem.mp g.nodup
  rcases Nat.lt_trichotomy i j with hij | hij | hij
  · exact absurd h2 (hp i j (by simpa using hi) (by simpa using hj) hij)
  · exact hij
  · exact absurd h2.symm (hp j i (by simpa using hj) (by simpa using hi) hij)

theorem to_inj' {s : Int} {l : List Mv} (g : Good s l) {x y : Mv} (hx : x ∈ l) (hy : y ∈ l) (h : x.to = y.to) : x = y := by
  obtain ⟨i, hi, rfl⟩ := List.mem_iff_getElem.mp hx
  obtain ⟨j, hj, rfl⟩ := List.mem_iff_getElem.mp hy
  have := to_inj g hi hj h
  subst this
  rfl

/-- a list that holds all of as many different things holds nothing else -/
theorem pigeon : ∀ {t n : List Int}, t.Nodup → (∀ x ∈ t, x ∈ n) → n.length ≤ t.length → ∀ x ∈ n, x ∈ t
  | [], n, _, _, hl, x, hx => by
    have : n = [] := List.eq_nil_of_length_eq_zero (by simpa using hl)
    rw [this] at hx
    exact hx
  | a :: t, n, hd, hs, hl, x, hx => by
    rw [List.nodup_cons] at hd
    have ha : a ∈ n := hs a (List.mem_cons_self ..)
    by_cases e : x = a
    · rw [e]; exact List.mem_cons_self ..
    · refine List.mem_cons_of_mem _ (pigeon (n := n.erase a) hd.2 (fun y hy => ?_) ?_ x ((List.mem_erase_of_ne e).mpr hx))
      · have : y ≠ a := by rintro rfl; exact hd.1 hy
        exact (List.mem_erase_of_ne this).mpr (hs y (List.mem_cons_of_mem _ hy))
      · rw [List.length_erase_of_mem ha]; simp at hl; omega

/-- where none is free, all go round -/
theorem all_round {s : Int} {l : List Mv} (g : Good s l) (h : firstFree l = none) : (∀ m ∈ l, ∃ x ∈ l, x.n = m.to) ∧ ∀ m ∈ l, ∃ x ∈ l, m.n = x.to := by
  unfold firstFree at h
  rw [List.findIdx?_eq_none_iff] at h
  have h1 : ∀ m ∈ l, ∃ x ∈ l, x.n = m.to := by
    intro m hm
    have := h m hm
    rw [Bool.not_eq_false'] at this
    exact (asks_iff g m.to).mp this
  refine ⟨h1, fun m hm => ?_⟩
  have := pigeon (t := l.map Mv.to) (n := l.map Mv.n) g.nodup (fun t ht => by
    obtain ⟨x, hx, rfl⟩ := List.mem_map.mp ht
    obtain ⟨y, hy, e⟩ := h1 x hx
    exact List.mem_map.mpr ⟨y, hy, e⟩) (by simp) m.n (List.mem_map.mpr ⟨m, hm, rfl⟩)
  obtain ⟨x, hx, e⟩ := List.mem_map.mp this
  exact ⟨x, hx, e.symm⟩

theorem swapIn_to (s r : Int) (m : Mv) : (swapIn s r m).to = m.to := by unfold swapIn; split <;> rfl

theorem good_erase {s : Int} {l : List Mv} (g : Good s l) (i : Nat) : Good s (l.eraseIdx i) := by
  refine ⟨?_, fun m hm => g.reg m (List.mem_of_mem_eraseIdx hm), fun m hm => g.to m (List.mem_of_mem_eraseIdx hm), fun m hm => g.self m (List.mem_of_mem_eraseIdx hm)⟩
  exact List.Nodup.sublist ((List.eraseIdx_sublist l i).map Mv.to) g.nodup

theorem good_swap {s r : Int} {l : List Mv} (g : Good s l) : Good s (l.map (swapIn s r)) := by
  refine ⟨?_, fun m hm => ?_, fun m hm => ?_, fun m hm => ?_⟩
  · rw [List.map_map, show Mv.to ∘ swapIn s r = Mv.to from funext (swapIn_to s r)]
    exact g.nodup
  · obtain ⟨x, hx, rfl⟩ := List.mem_map.mp hm
    unfold swapIn
    split
    · rfl
    · exact g.reg x hx
  · obtain ⟨x, hx, rfl⟩ := List.mem_map.mp hm
    rw [swapIn_to]; exact g.to x hx
  · obtain ⟨x, hx, rfl⟩ := List.mem_map.mp hm
    rw [swapIn_to]
    unfold swapIn
    split
    · exact fun e => g.to x hx e.symm
    · exact g.self x hx

theorem good_step {s : Int} {l : List Mv} (g : Good s l) : Good s (rowStep s l []).1 := by
  unfold rowStep
  split
  · exact good_erase g _
  · exact good_swap g

/-! what moves do -/
def upd (σ : Int → Int) (a b : Int) : Int → Int := fun r => if r = a then σ b else σ r
def exec : (Int → Int) → List Mv → Int → Int
  | σ, [] => σ
  | σ, m :: l => exec (upd σ m.to m.n) l
def par (σ : Int → Int) (l : List Mv) (r : Int) : Int := match l.find? (fun m => m.to == r) with | some m => σ m.n | none => σ r

theorem par_of {s : Int} {σ : Int → Int} {l : List Mv} (g : Good s l) {m : Mv} (hm : m ∈ l) : par σ l m.to = σ m.n := by
  unfold par
  cases h : l.find? (fun x => x.to == m.to) with
  | none =>
    rw [List.find?_eq_none] at h
    exact absurd (h m hm) (by simp)
  | some x =>
    have hx := List.mem_of_find?_eq_some h
    have := List.find?_some h
    rw [to_inj' g hx hm (by simpa using this)]

theorem par_none {σ : Int → Int} {l : List Mv} {r : Int} (h : ∀ m ∈ l, m.to ≠ r) : par σ l r = σ r := by
  unfold par
  rw [List.find?_eq_none.mpr fun m hm => by simpa using h m hm]

theorem par_cases {s : Int} (σ : Int → Int) {l : List Mv} (g : Good s l) (r : Int) : (∃ m ∈ l, m.to = r ∧ par σ l r = σ m.n) ∨ ((∀ m ∈ l, m.to ≠ r) ∧ par σ l r = σ r) := by
  by_cases h : ∃ m ∈ l, m.to = r
  · obtain ⟨m, hm, rfl⟩ := h
    exact .inl ⟨m, hm, rfl, par_of g hm⟩
  · right
    have h' : ∀ m ∈ l, m.to ≠ r := fun m hm e => h ⟨m, hm, e⟩
    exact ⟨h', par_none h'⟩

/-- ONE BY ONE IS AT ONCE. -/
theorem exec_row {s : Int} : ∀ (n : Nat) (l : List Mv) (σ : Int → Int), Good s l → mu l ≤ n → ∀ r, r ≠ s → exec σ (rowT s n l) r = par σ l r := by
  intro n
  induction n with
  | zero =>
    intro l σ g hmu r hr
    have : l = [] := by
      unfold mu at hmu
      exact List.eq_nil_of_length_eq_zero (by omega)
    subst this
    rfl
  | succ n ih =>
    intro l σ g hmu r hr
    unfold rowT
    by_cases hl : l = []
    · subst hl; rfl
    rw [if_neg hl]
    have hstep := mu_step (s := s) (out := []) hl g.to
    have gs := good_step g
    unfold rowStep at hstep gs ⊢
    split at hstep
    · rename_i i hi
      have hlt : i < l.length := by
        unfold firstFree at hi
        rw [List.findIdx?_eq_some_iff_getElem] at hi
        exact hi.1
      have hfree : ∀ x ∈ l, x.n ≠ l[i].to := by
        unfold firstFree at hi
        rw [List.findIdx?_eq_some_iff_getElem] at hi
        have h1 := hi.2.1
        intro x hx e
        have := (asks_iff g l[i].to).mpr ⟨x, hx, e⟩
        rw [this] at h1
        cases h1
      simp only [hi] at gs ⊢
      have hgd : l.getD i zero = l[i] := by simp [hlt]
      rw [hgd]
      show exec (upd σ l[i].to l[i].n) (rowT s n (l.eraseIdx i)) r = _
      rw [ih _ _ gs (by dsimp only at hstep; omega) r hr]
      have hmem : l[i] ∈ l := List.getElem_mem hlt
      have hers : ∀ x ∈ l.eraseIdx i, x ∈ l ∧ x.to ≠ l[i].to := by
        intro x hx
        refine ⟨List.mem_of_mem_eraseIdx hx, fun e => ?_⟩
        have hxl := List.mem_of_mem_eraseIdx hx
        have := to_inj' g hxl hmem e
        subst this
        have hnd := g.nodup
        obtain ⟨j, hj, hje⟩ := List.mem_iff_getElem.mp hx
        rw [List.getElem_eraseIdx] at hje
        have hjl : j < l.length - 1 := by rw [List.length_eraseIdx_of_lt hlt] at hj; exact hj
        split at hje
        · rename_i h1; have := to_inj g (i := j) (j := i) (by omega) hlt (by rw [hje]); omega
        · rename_i h1; have := to_inj g (i := j + 1) (j := i) (by omega) hlt (by rw [hje]); omega
      have hback : ∀ x ∈ l, x.to ≠ l[i].to → x ∈ l.eraseIdx i := by
        intro x hx hne
        obtain ⟨j, hj, rfl⟩ := List.mem_iff_getElem.mp hx
        have hji : j ≠ i := by rintro rfl; exact hne rfl
        rw [List.mem_eraseIdx_iff_getElem]
        exact ⟨j, hj, hji, rfl⟩
      rcases par_cases (upd σ l[i].to l[i].n) gs r with ⟨m, hm, rfl, e⟩ | ⟨hno, e⟩
      · rw [e, par_of g (hers m hm).1]
        unfold upd
        rw [if_neg (hfree m (hers m hm).1)]
      · rw [e]
        by_cases hri : r = l[i].to
        · rw [hri, par_of g hmem]; simp [upd]
        · rw [par_none (fun x hx e' => by
            by_cases hxi : x.to = l[i].to
            · exact hri (e'.symm.trans hxi)
            · exact hno x (hback x hx hxi) e')]
          simp [upd, hri]
    · rename_i hn
      obtain ⟨h1, h2⟩ := all_round g hn
      simp only [hn] at gs ⊢
      show exec (upd σ s (headTo l)) (rowT s n (l.map (swapIn s (headTo l)))) r = _
      rw [ih _ _ gs (by dsimp only at hstep; omega) r hr]
      have hns : ∀ m ∈ l, m.n ≠ s := by
        intro m hm e
        obtain ⟨x, hx, e'⟩ := h2 m hm
        exact g.to x hx (e'.symm.trans e)
      rcases par_cases (upd σ s (headTo l)) gs r with ⟨m', hm', rfl, e⟩ | ⟨hno, e⟩
      · obtain ⟨m, hm, rfl⟩ := List.mem_map.mp hm'
        rw [e, swapIn_to, par_of g hm]
        unfold swapIn
        split
        · rename_i hnd
          rw [needs_reg (g.reg m hm)] at hnd
          simp [upd]
          rw [(by simpa using hnd : m.n = headTo l)]
        · unfold upd
          rw [if_neg (hns m hm)]
      · rw [e, par_none (fun x hx e' => hno _ (List.mem_map.mpr ⟨x, hx, rfl⟩) (by rw [swapIn_to]; exact e'))]
        simp [upd, hr]

/-- no more than half as many again -/
theorem row_short {s : Int} : ∀ (n : Nat) (l : List Mv), Good s l → 2 * (rowT s n l).length + (if ∃ m ∈ l, m.n = s then 1 else 0) ≤ 3 * l.length := by
  intro n
  induction n using Nat.strongRecOn with
  | ind n ih =>
    intro l g
    cases n with
    | zero =>
      simp only [rowT, List.length_nil]
      split
      · rename_i h
        obtain ⟨m, hm, _⟩ := h
        have := List.length_pos_iff.mpr (List.ne_nil_of_mem hm)
        omega
      · omega
    | succ n =>
      unfold rowT
      by_cases hl : l = []
      · subst hl; simp
      rw [if_neg hl]
      have hpos := List.length_pos_iff.mpr hl
      cases hf : firstFree l with
      | some i =>
        have hlt : i < l.length := by
          unfold firstFree at hf
          rw [List.findIdx?_eq_some_iff_getElem] at hf
          exact hf.1
        have hst : rowStep s l [] = (l.eraseIdx i, [l.getD i zero]) := by unfold rowStep; rw [hf]; rfl
        rw [hst]
        have := ih n (by omega) (l.eraseIdx i) (good_erase g i)
        rw [List.length_eraseIdx_of_lt hlt] at this
        simp only [List.length_append, List.length_cons, List.length_nil]
        split <;> split at this <;> omega
      | none =>
        obtain ⟨h1, h2⟩ := all_round g hf
        have hns : ¬ ∃ m ∈ l, m.n = s := by
          rintro ⟨m, hm, e⟩
          obtain ⟨x, hx, e'⟩ := h2 m hm
          exact g.to x hx (e'.symm.trans e)
        have hst : rowStep s l [] = (l.map (swapIn s (headTo l)), [⟨s, true, headTo l⟩]) := by unfold rowStep; rw [hf]; rfl
        rw [hst, if_neg hns]
        simp only [List.length_append, List.length_cons, List.length_nil]
        obtain ⟨a, t, rfl⟩ : ∃ a t, l = a :: t := by cases l with
          | nil => exact absurd rfl hl
          | cons a t => exact ⟨a, t, rfl⟩
        have hhd : headTo (a :: t) = a.to := rfl
        rw [hhd]
        have g1 : Good s ((a :: t).map (swapIn s a.to)) := good_swap g
        have hsa : swapIn s a.to a = a := by
          unfold swapIn
          rw [needs_reg (g.reg a (List.mem_cons_self ..))]
          have := g.self a (List.mem_cons_self ..)
          simp [this]
        cases n with
        | zero => simp [rowT]; omega
        | succ n =>
          have hff : firstFree ((a :: t).map (swapIn s a.to)) = some 0 := by
            unfold firstFree
            rw [List.map_cons, List.findIdx?_cons, hsa]
            have : asks (a :: t.map (swapIn s a.to)) a.to = false := by
              cases h : asks (a :: t.map (swapIn s a.to)) a.to with
              | false => rfl
              | true =>
                rw [List.map_cons, hsa] at g1
                obtain ⟨m, hm, e⟩ := (asks_iff g1 a.to).mp h
                rcases List.mem_cons.mp hm with rfl | hm
                · exact absurd e (g.self m (List.mem_cons_self ..))
                · obtain ⟨x, hx, rfl⟩ := List.mem_map.mp hm
                  unfold swapIn at e
                  split at e
                  · exact absurd e.symm (g.to a (List.mem_cons_self ..))
                  · rename_i hnd
                    rw [needs_reg (g.reg x (List.mem_cons_of_mem _ hx))] at hnd
                    exact absurd (by simpa using e) hnd
            simp [this]
          have hst2 : rowStep s ((a :: t).map (swapIn s a.to)) [] = (t.map (swapIn s a.to), [a]) := by
            unfold rowStep; rw [hff]
            rw [List.map_cons, hsa]; rfl
          unfold rowT
          rw [if_neg (by simp), hst2]
          have gt : Good s (t.map (swapIn s a.to)) := by
            have := good_erase g1 0
            rw [List.map_cons] at this
            simpa using this
          have hex : ∃ m ∈ t.map (swapIn s a.to), m.n = s := by
            obtain ⟨x, hx, e⟩ := h1 a (List.mem_cons_self ..)
            rcases List.mem_cons.mp hx with rfl | hx
            · exact absurd e (g.self x (List.mem_cons_self ..))
            · refine ⟨_, List.mem_map.mpr ⟨x, hx, rfl⟩, ?_⟩
              unfold swapIn
              rw [if_pos (by rw [needs_reg (g.reg x (List.mem_cons_of_mem _ hx))]; simpa using e)]
          have := ih n (by omega) _ gt
          rw [if_pos hex] at this
          simp only [List.length_append, List.length_cons, List.length_nil, List.length_map] at this ⊢
          omega

/-- each register is one of those that there are -/
theorem row_in {s : Int} {lo hi : Int} (hs : lo ≤ s ∧ s ≤ hi) : ∀ (n : Nat) (l : List Mv), (∀ m ∈ l, (lo ≤ m.to ∧ m.to ≤ hi) ∧ (lo ≤ m.n ∧ m.n ≤ hi)) → ∀ m ∈ rowT s n l, (lo ≤ m.to ∧ m.to ≤ hi) ∧ (lo ≤ m.n ∧ m.n ≤ hi)
  | 0, l, _, m, hm => by simp [rowT] at hm
  | n + 1, l, h, m, hm => by
    unfold rowT at hm
    split at hm
    · simp at hm
    · rename_i hl
      rw [List.mem_append] at hm
      obtain ⟨a, t, rfl⟩ : ∃ a t, l = a :: t := by cases l with
        | nil => exact absurd rfl hl
        | cons a t => exact ⟨a, t, rfl⟩
      cases hf : firstFree (a :: t) with
      | some i =>
        have hlt : i < (a :: t).length := by
          unfold firstFree at hf
          rw [List.findIdx?_eq_some_iff_getElem] at hf
          exact hf.1
        have hst : rowStep s (a :: t) [] = ((a :: t).eraseIdx i, [(a :: t).getD i zero]) := by unfold rowStep; rw [hf]; rfl
        rw [hst] at hm
        rcases hm with hm | hm
        · have hgd : (a :: t).getD i zero = (a :: t)[i] := by rw [List.getD_eq_getElem?_getD, List.getElem?_eq_getElem hlt]; rfl
          rw [List.mem_singleton, hgd] at hm
          rw [hm]
          exact h _ (List.getElem_mem hlt)
        · exact row_in hs n _ (fun x hx => h x (List.mem_of_mem_eraseIdx hx)) m hm
      | none =>
        have hst : rowStep s (a :: t) [] = ((a :: t).map (swapIn s a.to), [⟨s, true, a.to⟩]) := by unfold rowStep; rw [hf]; rfl
        rw [hst] at hm
        rcases hm with hm | hm
        · rw [List.mem_singleton] at hm
          rw [hm]
          exact ⟨hs, (h a (List.mem_cons_self ..)).1⟩
        · refine row_in hs n _ (fun x hx => ?_) m hm
          obtain ⟨y, hy, rfl⟩ := List.mem_map.mp hx
          unfold swapIn
          split
          · exact ⟨(h y hy).1, hs⟩
          · exact h y hy
end Go.Proofs.Ytkhnhflbgkndjaa
