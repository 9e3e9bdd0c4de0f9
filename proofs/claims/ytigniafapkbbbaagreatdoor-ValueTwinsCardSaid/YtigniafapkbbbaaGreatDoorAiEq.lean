/- Equality of values: cell by cell on the abstract side, type by type on the true one. -/
import Derived.Test.YtigniafapkbbbaaGreatDoorAiOps
import Derived.ChangeKeysEq
namespace Go.AI

theorem eqCells_append : ∀ {ks ks' : List Nat} {a a' b b' : List Value} {x : Bool}, a.length = ks.length → a'.length = ks.length → eqCells (ks ++ ks') (a ++ b) (a' ++ b') = some x →
    ∃ y z, eqCells ks a a' = some y ∧ eqCells ks' b b' = some z ∧ x = (y && z) := by
  intro ks
  induction ks with
  | nil =>
    intro ks' a a' b b' x hl hl' h
    cases a with
    | cons => simp at hl
    | nil => cases a' with
      | cons => simp at hl'
      | nil => exact ⟨true, x, rfl, h, by simp⟩
  | cons k ks ih =>
    intro ks' a a' b b' x hl hl' h
    cases a with
    | nil => simp at hl
    | cons v a => cases a' with
      | nil => simp at hl'
      | cons v' a' =>
        simp only [List.cons_append, eqCells] at h
        cases h1 : eqCell k v v' with
        | none => simp [h1] at h
        | some p =>
          cases h2 : eqCells (ks ++ ks') (a ++ b) (a' ++ b') with
          | none => simp [h1, h2] at h
          | some q =>
            simp only [h1, h2, Option.some.injEq] at h
            obtain ⟨y, z, hy, hz, rfl⟩ := ih (by simpa using hl) (by simpa using hl') h2
            refine ⟨p && y, z, by simp [eqCells, h1, hy], hz, ?_⟩
            rw [← h, Bool.and_assoc]

theorem eqCells_length : ∀ {ks : List Nat} {a b : List Value} {x : Bool}, eqCells ks a b = some x → a.length = ks.length ∧ b.length = ks.length := by
  intro ks
  induction ks with
  | nil => intro a b x h; cases a with
    | nil => cases b with
      | nil => exact ⟨rfl, rfl⟩
      | cons => simp [eqCells] at h
    | cons => cases b <;> simp [eqCells] at h
  | cons k ks ih =>
    intro a b x h
    cases a with
    | nil => simp [eqCells] at h
    | cons v a => cases b with
      | nil => simp [eqCells] at h
      | cons v' b =>
        simp only [eqCells] at h
        cases h1 : eqCell k v v' with
        | none => simp [h1] at h
        | some p =>
          cases h2 : eqCells ks a b with
          | none => simp [h1, h2] at h
          | some q => have := ih h2; simp [this.1, this.2]

section
variable {P : Program} {T : Tab} {ρ : Rho}

theorem eqCell_rel {k : Nat} {v v' c c' : Value} {x : Bool} (h : KR ρ v c) (h' : KR ρ v' c') (he : eqCell k v v' = some x) : eqCell k c c' = some x := by
  have : c = v ∧ c' = v' := by
    unfold eqCell at he
    split at he
    · cases h with
      | cell h => cases h; cases h' with
        | cell h' => cases h'; exact ⟨rfl, rfl⟩
    · cases h with
      | cell h => cases h; cases h' with
        | cell h' => cases h'; exact ⟨rfl, rfl⟩
    · cases h with
      | cell h => cases h; cases h' with
        | cell h' => cases h'; exact ⟨rfl, rfl⟩
    · cases he
  rw [this.1, this.2, he]

theorem eqCells_rel : ∀ {ks : List Nat} {l m l' m' : List Value} {x : Bool}, All2 (KR ρ) l m → All2 (KR ρ) l' m' → eqCells ks l l' = some x → eqCells ks m m' = some x := by
  intro ks
  induction ks with
  | nil =>
    intro l m l' m' x h h' he
    cases h with
    | nil => cases h' with
      | nil => exact he
      | cons => simp [eqCells] at he
    | cons => cases h' <;> simp [eqCells] at he
  | cons k ks ih =>
    intro l m l' m' x h h' he
    cases h with
    | nil => simp [eqCells] at he
    | @cons v c l m hk hs => cases h' with
      | nil => simp [eqCells] at he
      | @cons v' c' l' m' hk' hs' =>
        simp only [eqCells] at he ⊢
        cases h1 : eqCell k v v' with
        | none => simp [h1] at he
        | some p =>
          cases h2 : eqCells ks l l' with
          | none => simp [h1, h2] at he
          | some q =>
            rw [eqCell_rel hk hk' h1, ih hs hs' h2]
            simpa [h1, h2] using he

/-- a value of a type out of its cells -/
def valOf (i : TI) (l : List Value) : Value := bif i.agg then .agg ⟨l⟩ else l.headD (.tuple #[])

theorem part_list {t : Nat} {i : TI} (hi : TabOk1 P t i) {m : List Value} {off : Nat} (hl : off + i.size ≤ m.length) (w : World) :
    (part t ⟨m⟩ off).run P w = .ok (valOf i ((m.drop off).take i.size)) w := by
  cases hag : i.agg with
  | true =>
    simp only [part, Sem.run_bind, isAgg_run hi, hag, Result.andThen_ok, if_true, (size_run (w := w) hi).1, Sem.run_pure, valOf, cond_true]
    congr 2
    simp
  | false =>
    have h1 := hi.plain hag
    have hlt : off < m.length := by omega
    simp only [part, Sem.run_bind, isAgg_run hi, hag, Result.andThen_ok, valOf, cond_false, h1]
    rw [List.drop_eq_getElem_cons hlt]
    have hg : (⟨m⟩ : Array Value)[off]? = some m[off] := by
      rw [show (⟨m⟩ : Array Value)[off]? = m[off]? by simp, List.getElem?_eq_getElem hlt]
    rw [hg]
    rfl

theorem contig_le : ∀ {fs : List Field} {off n : Nat}, contig T off fs = some n → off ≤ n := by
  intro fs
  induction fs with
  | nil => intro off n h; simp [contig] at h; omega
  | cons f fs ih =>
    intro off n h
    simp only [contig] at h
    cases hb : Nat.beq f.offset off with
    | false => simp [hb] at h
    | true =>
      simp only [hb, cond_true] at h
      cases ht : T f.type with
      | none => simp [ht] at h
      | some i => simp only [ht] at h; have := ih h; omega

theorem kindsOf_cons {k : Nat → Option (List Nat)} {f : Field} {fs : List Field} {ks : List Nat} (h : kindsOf k (f :: fs) = some ks) :
    f.name ≠ "_" ∧ ∃ a b, k f.type = some a ∧ kindsOf k fs = some b ∧ ks = a ++ b := by
  simp only [kindsOf] at h
  cases hn : f.name != "_" with
  | false => simp [hn] at h
  | true =>
    simp only [hn, cond_true] at h
    refine ⟨by simpa using hn, ?_⟩
    split at h
    · rename_i a b h1 h2
      cases h
      exact ⟨a, b, h1, h2, rfl⟩
    · cases h

theorem repK_length (ks : List Nat) : ∀ n, (repK ks n).length = n * ks.length
  | 0 => by simp [repK]
  | n + 1 => by simp [repK, repK_length ks n, Nat.add_mul, Nat.add_comm]

theorem kinds_length : ∀ {d t : Nat} {i : TI} {ks : List Nat}, T t = some i → TabOk P T → kinds T d t = some ks → ks.length = i.size := by
  intro d
  induction d with
  | zero => intro t i ks _ _ h; simp [kinds] at h
  | succ d ih =>
    intro t i ks hti hT h
    have hi := hT t i hti
    simp only [kinds, hti] at h
    have hag := hi.agg
    split at h
    · rename_i hu; rw [hu] at hag; cases h; exact (hi.plain hag).symm
    · rename_i hu; rw [hu] at hag; cases h; exact (hi.plain hag).symm
    · rename_i hu; rw [hu] at hag; cases h; exact (hi.plain hag).symm
    · rename_i fs hu
      split at h
      · rename_i n hc
        cases hb : Nat.beq n i.size with
        | false => simp [hb] at h
        | true =>
          simp only [hb, cond_true] at h
          rw [← Nat.eq_of_beq_eq_true hb]
          have key : ∀ (gs : List Field) (off n : Nat) (ks : List Nat), contig T off gs = some n → kindsOf (kinds T d) gs = some ks → off + ks.length = n := by
            intro gs
            induction gs with
            | nil => intro off n ks h1 h2; simp [contig] at h1; simp [kindsOf] at h2; subst h2; simpa using h1
            | cons f gs ihg =>
              intro off n ks h1 h2
              simp only [contig] at h1
              cases hb : Nat.beq f.offset off with
              | false => simp [hb] at h1
              | true =>
                simp only [hb, cond_true] at h1
                cases ht : T f.type with
                | none => simp [ht] at h1
                | some j =>
                  simp only [ht] at h1
                  obtain ⟨_, a, b, ha, hb', rfl⟩ := kindsOf_cons h2
                  have e1 := ih ht hT ha
                  have e2 := ihg _ _ _ h1 hb'
                  rw [List.length_append, e1]
                  omega
          have := key fs.toList 0 n ks hc h
          omega
      · cases h
    · rename_i n el hu
      split at h
      · rename_i e he
        cases hb : Nat.beq (n * e.size) i.size with
        | false => simp [hb] at h
        | true =>
          simp only [hb, cond_true] at h
          split at h
          · rename_i ks' hk
            cases h
            rw [repK_length, ih he hT hk, Nat.eq_of_beq_eq_true hb]
          · cases h
      · cases h
    · cases h

/-- Equality of two values of a type that is compared cell by cell. -/
theorem equal_run (hT : TabOk P T) : ∀ (d t : Nat) (i : TI) (dep : Nat) (ks : List Nat), T t = some i → kinds T d t = some ks → d ≤ dep → ∀ (l m : List Value) (x : Bool),
    eqCells ks l m = some x → ∀ w, (Op.equalIn dep t (valOf i l) (valOf i m)).run P w = .ok x w := by
  intro d
  induction d with
  | zero => intro t i dep ks _ h; simp [kinds] at h
  | succ d ih =>
    intro t i dep ks hti hfl hd l m x he w
    obtain ⟨dep, rfl⟩ : ∃ k, dep = k + 1 := ⟨dep - 1, by omega⟩
    have hi := hT t i hti
    simp only [kinds, hti] at hfl
    have hag := hi.agg
    have one : ∀ k : Nat, eqCells [k] l m = some x → ∃ p q, l = [p] ∧ m = [q] ∧ eqCell k p q = some x := by
      intro k he
      obtain ⟨h1, h2⟩ := eqCells_length he
      match l, m, h1, h2 with
      | [p], [q], _, _ =>
        refine ⟨p, q, rfl, rfl, ?_⟩
        simp only [eqCells] at he
        cases hpq : eqCell k p q with
        | none => simp [hpq] at he
        | some y => simpa [hpq] using he
    split at hfl
    · rename_i hu
      rw [hu] at hag
      cases hfl
      obtain ⟨p, q, rfl, rfl, hpq⟩ := one _ he
      simp only [valOf, hag, isAggD, cond_false, List.headD_cons]
      unfold eqCell at hpq
      split at hpq
      · cases hpq
        exact run_equalIn_bool' w dep t _ _ (by rw [hi.u, hu])
      · omega
      · omega
      · cases hpq
    · rename_i k hu
      rw [hu] at hag
      cases hfl
      obtain ⟨p, q, rfl, rfl, hpq⟩ := one _ he
      simp only [valOf, hag, isAggD, cond_false, List.headD_cons]
      unfold eqCell at hpq
      split at hpq
      · omega
      · split at hpq
        · rename_i hk; subst hk
          cases hpq
          exact run_equalIn_int w dep t _ k _ _ (by rw [hi.u, hu])
        · cases hpq
      · omega
      · cases hpq
    · rename_i hu
      rw [hu] at hag
      cases hfl
      obtain ⟨p, q, rfl, rfl, hpq⟩ := one _ he
      simp only [valOf, hag, isAggD, cond_false, List.headD_cons]
      unfold eqCell at hpq
      split at hpq
      · omega
      · omega
      · cases hpq
        rw [run_equalIn_string w dep t _ _ (by rw [hi.u, hu]), beq_toListBytes]
      · cases hpq
    · rename_i fs hu
      rw [hu] at hag
      have hut : P.underlying t = some (.struct fs) := by rw [hi.u, hu]
      have hfo : P.fieldsOf t = fs := by simp [Program.fieldsOf, hut]
      simp only [valOf, hag, isAggD, cond_true]
      rw [run_equalIn_struct w dep t _ _ (by rw [hfo]; exact hut) (hi.held fs hu), hfo]
      split at hfl
      · rename_i n hc
        cases hb : Nat.beq n i.size with
        | false => simp [hb] at hfl
        | true =>
          simp only [hb, cond_true] at hfl
          have key : ∀ (gs : List Field) (off : Nat) (ks : List Nat), contig T off gs = some n → kindsOf (kinds T d) gs = some ks → n = l.length → n = m.length →
              ∀ y, eqCells ks (l.drop off) (m.drop off) = some y → ∀ w, (Op.eqFields dep ⟨l⟩ ⟨m⟩ gs).run P w = .ok y w := by
            intro gs
            induction gs with
            | nil =>
              intro off ks hc hk hn hm y hy w
              simp only [contig, Option.some.injEq] at hc
              simp only [kindsOf, Option.some.injEq] at hk
              subst hk
              have h1 : l.drop off = [] := List.drop_eq_nil_of_le (by omega)
              have h2 : m.drop off = [] := List.drop_eq_nil_of_le (by omega)
              rw [h1, h2] at hy
              simp only [eqCells, Option.some.injEq] at hy
              subst hy
              rfl
            | cons f gs ihg =>
              intro off ks hc hk hn hm y hy w
              simp only [contig] at hc
              cases hb : Nat.beq f.offset off with
              | false => simp [hb] at hc
              | true =>
                simp only [hb, cond_true] at hc
                have hoff := Nat.eq_of_beq_eq_true hb
                cases ht : T f.type with
                | none => simp [ht] at hc
                | some j =>
                  simp only [ht] at hc
                  obtain ⟨hname, a, b, ha, hbk, rfl⟩ := kindsOf_cons hk
                  have hj := hT _ _ ht
                  have hle := contig_le hc
                  have hal := kinds_length ht hT ha
                  have hspl : ∀ z : List Value, z.drop off = (z.drop off).take j.size ++ z.drop (off + j.size) := by
                    intro z
                    rw [← List.drop_drop, List.take_append_drop]
                  rw [hspl l, hspl m] at hy
                  obtain ⟨p, q, hp, hq, rfl⟩ := eqCells_append (by simp; omega) (by simp; omega) hy
                  simp only [Op.eqFields, ne_eq, hname, not_false_eq_true, if_true, Sem.run_bind, hoff, part_list hj (m := l) (show off + j.size ≤ l.length by omega),
                    part_list hj (m := m) (show off + j.size ≤ m.length by omega), Result.andThen_ok]
                  rw [ih f.type j dep a ht ha (by omega) _ _ p hp]
                  simp only [Result.andThen_ok]
                  cases p with
                  | true =>
                    simp only [Bool.not_true, Bool.false_eq_true, if_false, Bool.true_and]
                    exact ihg _ _ hc hbk hn hm q hq w
                  | false => simp
          have hkl := kinds_length (d := d + 1) hti hT (ks := ks) (by simp only [kinds, hti, hu, hc, hb, cond_true]; exact hfl)
          obtain ⟨h1, h2⟩ := eqCells_length he
          have hn := Nat.eq_of_beq_eq_true hb
          exact key fs.toList 0 ks hc hfl (by omega) (by omega) x (by simpa using he) w
      · cases hfl
    · rename_i n el hu
      rw [hu] at hag
      have hut : P.underlying t = some (.array n el) := by rw [hi.u, hu]
      simp only [valOf, hag, isAggD, cond_true]
      split at hfl
      · rename_i e hel
        cases hb : Nat.beq (n * e.size) i.size with
        | false => simp [hb] at hfl
        | true =>
          simp only [hb, cond_true] at hfl
          split at hfl
          · rename_i ks' hk
            cases hfl
            have hE := hT el e hel
            obtain ⟨ti, hti', hsz, _, _⟩ := hE.info
            have hce : P.cellsOf el = e.size := by rw [← hsz]; simp [Program.cellsOf, hti']
            rw [run_equalIn_array w dep ⟨l⟩ ⟨m⟩ hut hti', hce, List.range_eq_range']
            have hkl := kinds_length hel hT hk
            obtain ⟨h1, h2⟩ := eqCells_length he
            rw [repK_length, hkl] at h1 h2
            have key : ∀ (k j : Nat), j + k = n → ∀ y, eqCells (repK ks' k) (l.drop (j * e.size)) (m.drop (j * e.size)) = some y → ∀ w, (Op.eqItems dep el e.size ⟨l⟩ ⟨m⟩ (List.range' j k)).run P w = .ok y w := by
              intro k
              induction k with
              | zero =>
                intro j hj y hy w
                have hz1 : l.drop (j * e.size) = [] := List.drop_eq_nil_of_le (by rw [h1]; exact Nat.mul_le_mul_right _ (by omega))
                have hz2 : m.drop (j * e.size) = [] := List.drop_eq_nil_of_le (by rw [h2]; exact Nat.mul_le_mul_right _ (by omega))
                rw [hz1, hz2] at hy
                simp only [repK, eqCells, Option.some.injEq] at hy
                subst hy
                rfl
              | succ k ihk =>
                intro j hj y hy w
                have hle : (j + 1) * e.size ≤ n * e.size := Nat.mul_le_mul_right _ (by omega)
                rw [Nat.add_mul, Nat.one_mul] at hle
                have hspl : ∀ z : List Value, z.drop (j * e.size) = (z.drop (j * e.size)).take e.size ++ z.drop ((j + 1) * e.size) := by
                  intro z
                  rw [Nat.add_mul, Nat.one_mul, ← List.drop_drop, List.take_append_drop]
                rw [hspl l, hspl m] at hy
                obtain ⟨p, q, hp, hq, rfl⟩ := eqCells_append (ks := ks') (by simp; omega) (by simp; omega) hy
                simp only [List.range'_succ, Op.eqItems, Sem.run_bind, part_list hE (m := l) (show j * e.size + e.size ≤ l.length by omega),
                  part_list hE (m := m) (show j * e.size + e.size ≤ m.length by omega), Result.andThen_ok]
                rw [ih el e dep ks' hel hk (by omega) _ _ p hp]
                simp only [Result.andThen_ok]
                cases p with
                | true =>
                  simp only [Bool.not_true, Bool.false_eq_true, if_false, Bool.true_and]
                  exact ihk (j + 1) (by omega) q hq w
                | false => simp
            exact key n 0 (by omega) x (by simpa using he) w
          · cases hfl
      · cases hfl
    · cases hfl

theorem eqGuardType_kinds (hT : TabOk P T) : ∀ (d t : Nat) (dep : Nat) (ks : List Nat), kinds T d t = some ks → d ≤ dep → P.eqGuardType dep t = false := by
  intro d
  induction d with
  | zero => intro t dep ks h; simp [kinds] at h
  | succ d ih =>
    intro t dep ks hfl hd
    obtain ⟨dep, rfl⟩ : ∃ k, dep = k + 1 := ⟨dep - 1, by omega⟩
    simp only [kinds] at hfl
    split at hfl
    · cases hfl
    · rename_i i hti
      have hi := hT t i hti
      simp only [Program.eqGuardType, hi.u]
      split at hfl
      · rename_i hu; rw [hu]
      · rename_i hu; rw [hu]
      · rename_i hu; rw [hu]
      · rename_i fs hu
        rw [hu]
        split at hfl
        · rename_i n hc
          cases hb : Nat.beq n i.size with
          | false => simp [hb] at hfl
          | true =>
            simp only [hb, cond_true] at hfl
            dsimp only
            rw [← Array.any_toList]
            have key : ∀ (gs : List Field) (ks : List Nat), kindsOf (kinds T d) gs = some ks → (gs.any fun f => f.name != "_" && P.eqGuardType dep f.type) = false := by
              intro gs
              induction gs with
              | nil => intro _ _; rfl
              | cons f gs ihg =>
                intro ks hk
                obtain ⟨_, a, b, ha, hbk, _⟩ := kindsOf_cons hk
                rw [List.any_cons, ihg b hbk, ih f.type dep a ha (by omega)]
                simp
            exact key _ _ hfl
        · cases hfl
      · rename_i n el hu
        rw [hu]
        dsimp only
        split at hfl
        · rename_i e he
          cases hb : Nat.beq (n * e.size) i.size with
          | false => simp [hb] at hfl
          | true =>
            simp only [hb, cond_true] at hfl
            split at hfl
            · rename_i ks' hk
              exact ih el dep ks' hk (by omega)
            · cases hfl
        · cases hfl
      · cases hfl
end
end Go.AI
