/- The row of moves of a list without fault: what it leaves in a list of registers. -/
import Derived.Test.YtkhnhflbgkndjaaT16
namespace Go.Proofs.Ytkhnhflbgkndjaa

theorem faultGo_nodup {s : Int} : ∀ {ms pre : List (Int × Int)} {i : Nat}, faultGo s i pre ms = none → (ms.map (·.1)).Nodup ∧ ∀ m ∈ ms, ∀ p ∈ pre, p.1 ≠ m.1
  | [], _, _, _ => by simp
  | m :: r, pre, i, h => by
    unfold faultGo at h
    split at h
    · cases h
    · split at h
      · cases h
      · rename_i hany
        obtain ⟨h1, h2⟩ := faultGo_nodup h
        have hp : ∀ p ∈ pre, p.1 ≠ m.1 := fun p hp e => hany (List.any_eq_true.mpr ⟨p, hp, by simpa using e⟩)
        refine ⟨?_, ?_⟩
        · rw [List.map_cons, List.nodup_cons]
          refine ⟨fun hm => ?_, h1⟩
          obtain ⟨x, hx, e⟩ := List.mem_map.mp hm
          exact h2 x hx m (by simp) e.symm
        · intro x hx p hpp
          rcases List.mem_cons.mp hx with rfl | hx
          · exact hp p hpp
          · exact h2 x hx p (by simp [hpp])

def movesOf (ms : List (Int × Int)) : List Mv := (ms.map toMv).filter fun m => !selfy m

theorem mem_movesOf {ms : List (Int × Int)} {m : Mv} : m ∈ movesOf ms ↔ ∃ p ∈ ms, m = toMv p ∧ p.2 ≠ p.1 := by
  unfold movesOf
  rw [List.mem_filter, List.mem_map]
  constructor
  · rintro ⟨⟨p, hp, rfl⟩, h⟩
    exact ⟨p, hp, rfl, by simpa [selfy, toMv] using h⟩
  · rintro ⟨p, hp, rfl, h⟩
    exact ⟨⟨p, hp, rfl⟩, by simpa [selfy, toMv] using h⟩

theorem good_moves {s : Int} {ms : List (Int × Int)} (h : faultGo s 0 [] ms = none) : Good s (movesOf ms) := by
  refine ⟨?_, fun m hm => ?_, fun m hm => ?_, fun m hm => ?_⟩
  · have h1 : ((ms.map toMv).map Mv.to).Nodup := by
      rw [List.map_map]
      exact (faultGo_nodup h).1
    exact List.Nodup.sublist (List.filter_sublist.map _) h1
  · obtain ⟨p, _, rfl, _⟩ := mem_movesOf.mp hm; rfl
  · obtain ⟨p, hp, rfl, _⟩ := mem_movesOf.mp hm
    have := good_case (faultGo_none h p hp)
    simpa [toMv] using this.2.2.2.2.2.2.2.2.1
  · obtain ⟨p, hp, rfl, e⟩ := mem_movesOf.mp hm; exact e

/-- what a register is to have -/
def wantGo (r : Int) : Int → List (Int × Int) → Int
  | w, [] => w
  | w, m :: ms => wantGo r (if m.1 = r then m.2 else w) ms
def wantM (ms : List (Int × Int)) (r : Int) : Int := wantGo r r ms

theorem wantGo_append (r : Int) : ∀ (a b : List (Int × Int)) (w : Int), wantGo r w (a ++ b) = wantGo r (wantGo r w a) b
  | [], b, w => rfl
  | m :: a, b, w => by simp [wantGo, wantGo_append r a b]

theorem wantGo_no {r : Int} : ∀ {ms : List (Int × Int)} {w : Int}, (∀ m ∈ ms, m.1 ≠ r) → wantGo r w ms = w
  | [], w, _ => rfl
  | m :: ms, w, h => by
    unfold wantGo
    rw [if_neg (h m (List.mem_cons_self ..)), wantGo_no fun x hx => h x (List.mem_cons_of_mem _ hx)]

theorem wantGo_yes {r : Int} : ∀ {ms : List (Int × Int)} {w : Int} {m : Int × Int}, (ms.map (·.1)).Nodup → m ∈ ms → m.1 = r → wantGo r w ms = m.2
  | x :: ms, w, m, hd, hm, e => by
    rw [List.map_cons, List.nodup_cons] at hd
    unfold wantGo
    rcases List.mem_cons.mp hm with rfl | hm
    · rw [if_pos e]
      exact wantGo_no fun y hy ey => hd.1 (List.mem_map.mpr ⟨y, hy, ey.trans e.symm⟩)
    · exact wantGo_yes hd.2 hm e

theorem par_want {s : Int} {ms : List (Int × Int)} (h : faultGo s 0 [] ms = none) (r : Int) : par id (movesOf ms) r = wantM ms r := by
  have hd := (faultGo_nodup h).1
  rcases par_cases id (good_moves h) r with ⟨m, hm, rfl, e⟩ | ⟨hno, e⟩
  · obtain ⟨p, hp, rfl, _⟩ := mem_movesOf.mp hm
    rw [e]
    exact (wantGo_yes hd hp rfl).symm
  · rw [e]
    by_cases hx : ∃ m ∈ ms, m.1 = r
    · obtain ⟨m, hm, rfl⟩ := hx
      by_cases hs : m.2 = m.1
      · unfold wantM
        rw [wantGo_yes hd hm rfl, hs]; rfl
      · exact absurd rfl (hno (toMv m) (mem_movesOf.mpr ⟨m, hm, rfl, hs⟩))
    · unfold wantM
      rw [wantGo_no fun m hm e => hx ⟨m, hm, e⟩]
      rfl

/-- moves, done in a list of registers -/
def foldV : List Int → List (Int × Int) → List Int
  | vs, [] => vs
  | vs, p :: l => foldV (vs.set p.1.toNat (vs.getD p.2.toNat 0)) l

theorem foldV_append : ∀ (vs : List Int) (a b : List (Int × Int)), foldV vs (a ++ b) = foldV (foldV vs a) b
  | vs, [], b => rfl
  | vs, p :: a, b => by simp [foldV, foldV_append _ a b]

theorem foldV_length : ∀ (vs : List Int) (l : List (Int × Int)), (foldV vs l).length = vs.length
  | vs, [] => rfl
  | vs, p :: l => by unfold foldV; rw [foldV_length]; simp

theorem foldV_exec : ∀ (l : List Mv) (vs : List Int) (σ : Int → Int), vs.length = 101 → (∀ k : Nat, k ≤ 100 → vs.getD k 0 = σ k) → (∀ m ∈ l, (0 ≤ m.to ∧ m.to ≤ 100) ∧ (0 ≤ m.n ∧ m.n ≤ 100)) →
    ∀ k : Nat, k ≤ 100 → (foldV vs (l.map ofMv)).getD k 0 = exec σ l k
  | [], vs, σ, _, h, _, k, hk => h k hk
  | m :: l, vs, σ, hl, h, hb, k, hk => by
    obtain ⟨⟨h1, h2⟩, h3, h4⟩ := hb m (List.mem_cons_self ..)
    rw [List.map_cons, foldV, exec]
    refine foldV_exec l _ _ (by simpa using hl) (fun j hj => ?_) (fun x hx => hb x (List.mem_cons_of_mem _ hx)) k hk
    have hn := h m.n.toNat (by omega)
    rw [Int.toNat_of_nonneg h3] at hn
    show (vs.set m.to.toNat (vs.getD m.n.toNat 0)).getD j 0 = upd σ m.to m.n j
    rw [hn]
    unfold upd
    rw [List.getD_eq_getElem?_getD, List.getElem?_set]
    by_cases e : m.to.toNat = j
    · rw [if_pos e, if_pos (by omega), if_pos (by omega)]; rfl
    · rw [if_neg e, if_neg (by omega), ← List.getD_eq_getElem?_getD]
      exact h j hj

def regs : List Int := (List.range 101).map fun (k : Nat) => (k : Int)

theorem row_does_it {s : Int} {ms : List (Int × Int)} (h : faultGo s 0 [] ms = none) (hs : 0 ≤ s ∧ s ≤ 100) (k : Nat) (hk : k ≤ 100) (hne : (k : Int) ≠ s) : (foldV regs (rowP ms s)).getD k 0 = wantM ms k := by
  have g := good_moves h
  have hr : rowM s (movesOf ms) = rowT s (2 * (movesOf ms).length + 1) (movesOf ms) := by unfold rowM; rw [rowN_eq]; rfl
  have hin := row_in (s := s) (lo := 0) (hi := 100) hs (2 * (movesOf ms).length + 1) (movesOf ms) (fun m hm => by
    obtain ⟨p, hp, rfl, _⟩ := mem_movesOf.mp hm
    have := good_case (faultGo_none h p hp)
    exact ⟨⟨this.2.1, by have := this.2.2.2.1; show p.1 ≤ 100; omega⟩, this.2.2.2.2.2.1, by have := this.2.2.2.2.2.2.2.1; show p.2 ≤ 100; omega⟩)
  have he : rowP ms s = (rowT s (2 * (movesOf ms).length + 1) (movesOf ms)).map ofMv := by rw [← hr]; rfl
  rw [he, foldV_exec _ _ id (by simp [regs]) (fun j hj => by
    simp [regs, List.getD_eq_getElem?_getD, show j < 101 by omega]) hin k hk,
    exec_row _ _ _ g (mu_le _) _ hne, par_want h]

theorem row_le {s : Int} {ms : List (Int × Int)} (h : faultGo s 0 [] ms = none) : 2 * (rowP ms s).length ≤ 3 * ms.length := by
  have g := good_moves h
  have hr : rowM s (movesOf ms) = rowT s (2 * (movesOf ms).length + 1) (movesOf ms) := by unfold rowM; rw [rowN_eq]; rfl
  have he : rowP ms s = (rowT s (2 * (movesOf ms).length + 1) (movesOf ms)).map ofMv := by rw [← hr]; rfl
  have h1 := row_short (2 * (movesOf ms).length + 1) (movesOf ms) g
  have h2 : (movesOf ms).length ≤ ms.length := by
    have := List.length_filter_le (fun m => !selfy m) (ms.map toMv)
    simpa [movesOf] using this
  rw [he, List.length_map]
  split at h1 <;> omega

theorem row_bound {s : Int} {ms : List (Int × Int)} (h : faultGo s 0 [] ms = none) (hs : 0 ≤ s ∧ s ≤ 100) : ∀ p ∈ rowP ms s, (0 ≤ p.1 ∧ p.1 ≤ 100) ∧ (0 ≤ p.2 ∧ p.2 ≤ 100) := by
  have hr : rowM s (movesOf ms) = rowT s (2 * (movesOf ms).length + 1) (movesOf ms) := by unfold rowM; rw [rowN_eq]; rfl
  have hin := row_in (s := s) (lo := 0) (hi := 100) hs (2 * (movesOf ms).length + 1) (movesOf ms) (fun m hm => by
    obtain ⟨p, hp, rfl, _⟩ := mem_movesOf.mp hm
    have := good_case (faultGo_none h p hp)
    exact ⟨⟨this.2.1, by have := this.2.2.2.1; show p.1 ≤ 100; omega⟩, this.2.2.2.2.2.1, by have := this.2.2.2.2.2.2.2.1; show p.2 ≤ 100; omega⟩)
  have he : rowP ms s = (rowT s (2 * (movesOf ms).length + 1) (movesOf ms)).map ofMv := by rw [← hr]; rfl
  intro p hp
  rw [he] at hp
  obtain ⟨m, hm, rfl⟩ := List.mem_map.mp hp
  exact hin m hm
end Go.Proofs.Ytkhnhflbgkndjaa
