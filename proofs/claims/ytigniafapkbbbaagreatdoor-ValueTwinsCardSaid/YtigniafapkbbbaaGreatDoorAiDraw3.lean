/- The check of a region that draws its order. -/
import Derived.Test.YtigniafapkbbbaaGreatDoorAiDraw2
namespace Go.AI

def maskOf (A : Tr Nat) : List Nat → Nat
  | [] => 0
  | j :: r => (maskOf A r ||| (1 <<< j)) ||| (Tr.get A j).getD 0

def ancGo : List Oper → Nat → Tr Nat → Tr Nat
  | [], _, A => A
  | o :: r, i, A => ancGo r (i + 1) (A.set i (maskOf A (edgesOf .any o)))

def bitA (A : Tr Nat) (j i : Nat) : Bool := Nat.testBit ((Tr.get A j).getD 0) i

/-- Anc ops i j: operation i hangs on operation j, near or far -/
inductive Anc (ops : Array Oper) : Nat → Nat → Prop
  | edge {i k : Nat} {o : Oper} (ho : ops[i]? = some o) (h : k ∈ edgesOf .any o) : Anc ops i k
  | far {i k j : Nat} {o : Oper} (ho : ops[i]? = some o) (h : k ∈ edgesOf .any o) (hj : Anc ops k j) : Anc ops i j

theorem maskOf_spec {A : Tr Nat} : ∀ {es : List Nat} {k : Nat}, Nat.testBit (maskOf A es) k = true → ∃ e ∈ es, k = e ∨ bitA A e k = true
  | [], k, h => by simp [maskOf] at h
  | j :: r, k, h => by
    rw [maskOf, Nat.testBit_or, Bool.or_eq_true] at h
    rcases h with h | h
    · rcases bit_add.1 h with h | h
      · obtain ⟨e, he, hk⟩ := maskOf_spec h
        exact ⟨e, List.mem_cons_of_mem _ he, hk⟩
      · exact ⟨j, List.mem_cons_self .., .inl h⟩
    · exact ⟨j, List.mem_cons_self .., .inr h⟩

theorem ancGo_spec {ops : Array Oper} : ∀ (l : List Oper) (i : Nat) (A : Tr Nat), (∀ j o, l[j]? = some o → ops[i + j]? = some o) → (∀ j k, bitA A j k = true → Anc ops j k) → ∀ j k, bitA (ancGo l i A) j k = true → Anc ops j k
  | [], _, _, _, hA => hA
  | o :: r, i, A, hl, hA => by
    refine ancGo_spec r (i + 1) _ (fun j o' ho => by have := hl (j + 1) o' (by simpa using ho); rwa [Nat.add_assoc, Nat.add_comm 1 j]) ?_
    intro j k hb
    unfold bitA at hb
    rw [Tr.get_set] at hb
    by_cases e : j = i
    · subst e
      rw [if_pos rfl] at hb
      obtain ⟨q, hq, hk⟩ := maskOf_spec hb
      have ho := hl 0 o rfl
      rcases hk with rfl | hk
      · exact .edge ho hq
      · exact .far ho hq (hA _ _ hk)
    · rw [if_neg e] at hb
      exact hA j k hb

theorem Anc.closed {ops : Array Oper} {D : Nat → Prop} (hD : ∀ i o, ops[i]? = some o → D i → ∀ k ∈ edgesOf .any o, D k) {i j : Nat} (h : Anc ops i j) : (∀ o, ops[i]? = some o → ∀ k ∈ edgesOf .any o, D k) → D j := by
  induction h with
  | edge ho h => intro hi; exact hi _ ho _ h
  | far ho h _ ih =>
    intro hi
    have hk := hi _ ho _ h
    exact ih fun o' ho' k' hk' => hD _ o' ho' hk k' hk'

theorem Anc.lt {ops : Array Oper} (hl : ∀ i o, ops[i]? = some o → ∀ k ∈ edgesOf .any o, k < i) {i j : Nat} (h : Anc ops i j) : j < i := by
  induction h with
  | edge ho h => exact hl _ _ ho _ h
  | far ho h _ ih => exact Nat.lt_trans ih (hl _ _ ho _ h)

def dstGo : List Oper → Nat → Tr Nat → Option (Tr Nat)
  | [], _, M => some M
  | o :: r, i, M => match o.dst with
    | none => dstGo r (i + 1) M
    | some d => match Tr.get M d with
      | none => dstGo r (i + 1) (M.set d i)
      | some _ => none

theorem dstGo_spec : ∀ (l : List Oper) (i : Nat) (M M' : Tr Nat), dstGo l i M = some M' → (∀ d k, Tr.get M d = some k → Tr.get M' d = some k) ∧ ∀ j o d, l[j]? = some o → o.dst = some d → Tr.get M' d = some (i + j)
  | [], _, M, M', h => by
    simp only [dstGo, Option.some.injEq] at h
    subst h
    exact ⟨fun _ _ h => h, fun j o d h => by simp at h⟩
  | o :: r, i, M, M', h => by
    simp only [dstGo] at h
    split at h
    · rename_i hn
      obtain ⟨h1, h2⟩ := dstGo_spec r (i + 1) M M' h
      refine ⟨h1, fun j o' d hj hd => ?_⟩
      cases j with
      | zero => simp only [List.getElem?_cons_zero, Option.some.injEq] at hj; subst hj; rw [hn] at hd; cases hd
      | succ j => rw [h2 j o' d (by simpa using hj) hd]; congr 1; omega
    · rename_i d0 hs
      split at h
      · rename_i hg
        obtain ⟨h1, h2⟩ := dstGo_spec r (i + 1) _ M' h
        refine ⟨fun d k hk => h1 d k ?_, fun j o' d hj hd => ?_⟩
        · rw [Tr.get_set]
          by_cases e : d = d0
          · subst e; rw [hg] at hk; cases hk
          · rw [if_neg e]; exact hk
        · cases j with
          | zero =>
            simp only [List.getElem?_cons_zero, Option.some.injEq] at hj; subst hj
            rw [hs] at hd; cases hd
            exact h1 _ _ (by rw [Tr.get_set, if_pos rfl]; rfl)
          | succ j => rw [h2 j o' d (by simpa using hj) hd]; congr 1; omega
      · cases h

/-- the places of operations of a kind -/
def places (p : Nat → Bool) : List AOper → Nat → List Nat
  | [], _ => []
  | o :: r, i => bif p o.op.kind then i :: places p r (i + 1) else places p r (i + 1)

theorem places_spec {p : Nat → Bool} : ∀ (l : List AOper) (i j : Nat) (o : AOper), l[j]? = some o → p o.op.kind = true → i + j ∈ places p l i
  | [], _, j, o, h, _ => by simp at h
  | o :: r, i, j, o', hj, hp => by
    simp only [places]
    cases j with
    | zero =>
      simp only [List.getElem?_cons_zero, Option.some.injEq] at hj; subst hj
      rw [hp]; exact List.mem_cons_self ..
    | succ j =>
      have := places_spec r (i + 1) j o' (by simpa using hj) hp
      rw [Nat.add_assoc, Nat.add_comm 1 j] at this
      cases p o.op.kind
      · exact this
      · exact List.mem_cons_of_mem _ this

/-- How many of the effects an operation hangs on. -/
def level (A : Tr Nat) (i : Nat) : List Nat → Nat
  | [] => 0
  | u :: r => bif bitA A i u then level A i r + 1 else level A i r

/-- The order in which the abstract interpreter runs: ahead of each effect all that does not hang on it. -/
def orderGo (A : Tr Nat) (effs rest : List Nat) : List Nat → Nat → List Nat
  | [], s => rest.filter fun i => Nat.beq (level A i effs) s
  | u :: r, s => (rest.filter fun i => Nat.beq (level A i effs) s) ++ u :: orderGo A effs rest r (s + 1)

def orderOf (A : Tr Nat) (effs others : List Nat) : List Nat := orderGo A effs others effs 0

def posGo : List Nat → Nat → Tr Nat → Option (Tr Nat)
  | [], _, Q => some Q
  | i :: r, p, Q => match Tr.get Q i with
    | none => posGo r (p + 1) (Q.set i p)
    | some _ => none

theorem posGo_spec : ∀ (l : List Nat) (p : Nat) (Q Q' : Tr Nat), posGo l p Q = some Q' → (∀ i k, Tr.get Q i = some k → Tr.get Q' i = some k) ∧ (∀ j i, l[j]? = some i → Tr.get Q' i = some (p + j)) ∧
    (∀ i k, Tr.get Q' i = some k → Tr.get Q i = some k ∨ ∃ j, l[j]? = some i ∧ k = p + j)
  | [], _, Q, Q', h => by
    simp only [posGo, Option.some.injEq] at h
    subst h
    exact ⟨fun _ _ h => h, fun j i h => by simp at h, fun i k h => .inl h⟩
  | i0 :: r, p, Q, Q', h => by
    simp only [posGo] at h
    split at h
    · rename_i hn
      obtain ⟨h1, h2, h3⟩ := posGo_spec r (p + 1) _ Q' h
      refine ⟨fun i k hk => h1 i k ?_, fun j i hj => ?_, fun i k hk => ?_⟩
      · rw [Tr.get_set]
        by_cases e : i = i0
        · subst e; rw [hn] at hk; cases hk
        · rw [if_neg e]; exact hk
      · cases j with
        | zero =>
          simp only [List.getElem?_cons_zero, Option.some.injEq] at hj; subst hj
          exact h1 _ _ (by rw [Tr.get_set, if_pos rfl]; rfl)
        | succ j => rw [h2 j i (by simpa using hj)]; congr 1; omega
      · rcases h3 i k hk with h | ⟨j, hj, hkj⟩
        · rw [Tr.get_set] at h
          by_cases e : i = i0
          · rw [if_pos e] at h; cases h
            exact .inr ⟨0, by simp [e], rfl⟩
          · rw [if_neg e] at h; exact .inl h
        · exact .inr ⟨j + 1, by simpa using hj, by omega⟩
    · cases h

def rowsGo (ops : List Oper) : List Nat → Option (List (Nat × Oper))
  | [] => some []
  | i :: r => match ops[i]?, rowsGo ops r with
    | some o, some l => some ((i, o) :: l)
    | _, _ => none

theorem rowsGo_spec {ops : List Oper} : ∀ (l : List Nat) (rows : List (Nat × Oper)), rowsGo ops l = some rows → rows.length = l.length ∧ ∀ (p i : Nat) (o : Oper), rows[p]? = some (i, o) → l[p]? = some i ∧ ops[i]? = some o
  | [], rows, h => by
    simp only [rowsGo, Option.some.injEq] at h
    subst h
    exact ⟨rfl, fun p i o h => by simp at h⟩
  | i :: r, rows, h => by
    simp only [rowsGo] at h
    split at h
    · rename_i o l ho hl
      cases h
      obtain ⟨h1, h2⟩ := rowsGo_spec r l hl
      refine ⟨by simp [h1], fun p i' o' hp => ?_⟩
      cases p with
      | zero =>
        simp only [List.getElem?_cons_zero, Option.some.injEq, Prod.mk.injEq] at hp
        obtain ⟨rfl, rfl⟩ := hp
        exact ⟨rfl, ho⟩
      | succ p => simpa using h2 p i' o' (by simpa using hp)
    · cases h

/-- What an operation at a place asks of those at other places. -/
def rowOk (A M Q : Tr Nat) (effs : List Nat) (p i : Nat) (o : Oper) : Bool :=
  (edgesOf .any o).all (fun e => match Tr.get Q e with | some pe => Nat.blt pe p | none => false) &&
  (match o.guard with | none => true | some (g, _) => bitA A i g) &&
  o.op.operands.toList.all (fun x => match x with
    | .tmp t => match Tr.get M t with
      | none => true
      | some k => bitA A i k || bitA A k i
    | _ => true) &&
  effs.all fun u => match Tr.get Q u with
    | some pu => !Nat.blt pu p || bitA A i u
    | none => false

def rowsOk (A M Q : Tr Nat) (effs : List Nat) : List (Nat × Oper) → Nat → Bool
  | [], _ => true
  | (i, o) :: r, p => rowOk A M Q effs p i o && rowsOk A M Q effs r (p + 1)

theorem rowsOk_spec {A M Q : Tr Nat} {effs : List Nat} : ∀ (l : List (Nat × Oper)) (p : Nat), rowsOk A M Q effs l p = true → ∀ j i o, l[j]? = some (i, o) → rowOk A M Q effs (p + j) i o = true
  | [], _, _, j, i, o, h => by simp at h
  | (i, o) :: r, p, h, j, i', o', hj => by
    simp only [rowsOk, Bool.and_eq_true] at h
    cases j with
    | zero =>
      simp only [List.getElem?_cons_zero, Option.some.injEq, Prod.mk.injEq] at hj
      obtain ⟨rfl, rfl⟩ := hj
      exact h.1
    | succ j => have := rowsOk_spec r (p + 1) h.2 j i' o' (by simpa using hj); rwa [Nat.add_assoc, Nat.add_comm 1 j] at this

/-- the places of the effects behind that do not hang on an operation -/
def floats (A Q : Tr Nat) (p i : Nat) : List Nat → List Nat
  | [] => []
  | u :: r => match Tr.get Q u with
    | some pu => bif Nat.blt p pu && !bitA A u i then pu :: floats A Q p i r else floats A Q p i r
    | none => floats A Q p i r

theorem floats_spec {A Q : Tr Nat} {p i : Nat} : ∀ {l : List Nat} {u pu : Nat}, u ∈ l → Tr.get Q u = some pu → p < pu → bitA A u i = false → pu ∈ floats A Q p i l
  | [], u, pu, h, _, _, _ => by simp at h
  | v :: r, u, pu, h, hq, hp, hb => by
    have hrest : u ∈ r → pu ∈ floats A Q p i (v :: r) := fun hr => by
      have := floats_spec hr hq hp hb
      simp only [floats]
      split
      · rename_i pv _
        cases (Nat.blt p pv && !bitA A v i)
        · exact this
        · exact List.mem_cons_of_mem _ this
      · exact this
    rcases List.mem_cons.1 h with rfl | hr
    · simp only [floats, hq]
      rw [blt_iff.2 hp, hb]
      exact List.mem_cons_self ..
    · exact hrest hr

/-- the slot by which a reader or a maker knows its block -/
def slotFor (A M : Tr Nat) (i : Nat) (o : AOper) : Option Nat :=
  bif Nat.beq o.op.kind 1 then match o.op.through with
    | some (.tmp t) => match Tr.get M t with
      | none => some t
      | some k => bif bitA A i k then some t else none
    | _ => none
  else o.dst

def needsGo (A M Q : Tr Nat) (effs : List Nat) (f : Oper → AOper) : List (Nat × Oper) → Nat → Option (List (Nat × Nat))
  | [], _ => some []
  | (i, o) :: r, p => match needsGo A M Q effs f r (p + 1) with
    | none => none
    | some ps => bif Nat.beq (f o).op.kind 1 || Nat.beq (f o).op.kind 2 then match floats A Q p i effs with
        | [] => some ps
        | u :: us => match slotFor A M i (f o) with
          | some t => some (((u :: us).foldl Nat.max p, t) :: ps)
          | none => none
      else some ps

theorem foldl_max : ∀ (l : List Nat) (i : Nat), i ≤ l.foldl Nat.max i ∧ (∀ u ∈ l, u ≤ l.foldl Nat.max i) ∧ (l.foldl Nat.max i = i ∨ l.foldl Nat.max i ∈ l)
  | [], i => ⟨Nat.le_refl _, fun _ h => by simp at h, .inl rfl⟩
  | u :: l, i => by
    obtain ⟨h1, h2, h3⟩ := foldl_max l (Nat.max i u)
    simp only [List.foldl_cons]
    refine ⟨Nat.le_trans (Nat.le_max_left i u) h1, ?_, ?_⟩
    · intro x hx
      rcases List.mem_cons.1 hx with rfl | hx
      · exact Nat.le_trans (Nat.le_max_right i x) h1
      · exact h2 x hx
    · rcases h3 with h3 | h3
      · rw [h3]
        rcases Nat.le_total i u with h | h
        · right; rw [show Nat.max i u = u from Nat.max_eq_right h]; exact List.mem_cons_self ..
        · left; exact Nat.max_eq_left h
      · exact .inr (List.mem_cons_of_mem _ h3)

theorem floats_mem {A Q : Tr Nat} {p i : Nat} : ∀ {l : List Nat} {x : Nat}, x ∈ floats A Q p i l → ∃ u ∈ l, Tr.get Q u = some x
  | [], x, h => by simp [floats] at h
  | v :: r, x, h => by
    simp only [floats] at h
    have hr : x ∈ floats A Q p i r → ∃ u ∈ v :: r, Tr.get Q u = some x := fun h => by
      obtain ⟨u, hu, hq⟩ := floats_mem h
      exact ⟨u, List.mem_cons_of_mem _ hu, hq⟩
    split at h
    · rename_i pv hpv
      cases hb : (Nat.blt p pv && !bitA A v i) <;> rw [hb] at h
      · exact hr h
      · rcases List.mem_cons.1 h with rfl | h
        · exact ⟨v, List.mem_cons_self .., hpv⟩
        · exact hr h
    · exact hr h

theorem needsGo_spec {A M Q : Tr Nat} {effs : List Nat} {f : Oper → AOper} : ∀ (l : List (Nat × Oper)) (p : Nat) (ps : List (Nat × Nat)), needsGo A M Q effs f l p = some ps → ∀ j i o, l[j]? = some (i, o) → ((f o).op.kind = 1 ∨ (f o).op.kind = 2) →
    floats A Q (p + j) i effs = [] ∨ ∃ c t, slotFor A M i (f o) = some t ∧ p + j ≤ c ∧ (∀ u ∈ floats A Q (p + j) i effs, u ≤ c) ∧ (c = p + j ∨ ∃ u ∈ effs, Tr.get Q u = some c) ∧ (c, t) ∈ ps
  | [], _, _, _, j, i, o, h, _ => by simp at h
  | (i, o) :: r, p, ps, h, j, i', o', hj, hk => by
    simp only [needsGo] at h
    split at h
    · cases h
    · rename_i ps' hr
      cases j with
      | succ j =>
        have := needsGo_spec r (p + 1) ps' hr j i' o' (by simpa using hj) hk
        rw [Nat.add_assoc, Nat.add_comm 1 j] at this
        refine this.imp_right fun ⟨c, t, h1, h2, h3, h4, h5⟩ => ⟨c, t, h1, h2, h3, h4, ?_⟩
        cases hb : (Nat.beq (f o).op.kind 1 || Nat.beq (f o).op.kind 2) <;> rw [hb] at h
        · cases h; exact h5
        · simp only [cond_true] at h
          split at h
          · cases h; exact h5
          · split at h
            · cases h; exact List.mem_cons_of_mem _ h5
            · cases h
      | zero =>
        simp only [List.getElem?_cons_zero, Option.some.injEq, Prod.mk.injEq] at hj
        obtain ⟨rfl, rfl⟩ := hj
        have hb : (Nat.beq (f o).op.kind 1 || Nat.beq (f o).op.kind 2) = true := by rcases hk with hk | hk <;> rw [hk] <;> rfl
        rw [hb] at h
        simp only [cond_true] at h
        split at h
        · rename_i hf; exact .inl hf
        · rename_i u us hf
          split at h
          · rename_i t ht
            cases h
            obtain ⟨h1, h2, h3⟩ := foldl_max (u :: us) p
            refine .inr ⟨_, t, ht, h1, by rw [Nat.add_zero, hf]; exact h2, h3.imp_right fun q => ?_, List.mem_cons_self ..⟩
            have q' : ∀ x, x ∈ u :: us → ∃ v ∈ effs, Tr.get Q v = some x := fun x hx => floats_mem (hf ▸ hx : x ∈ floats A Q p i effs)
            exact q' _ q
          · cases h

def attach (ps : List (Nat × Nat)) (f : Oper → AOper) : List (Nat × Oper) → Nat → List (AOper × List Nat)
  | [], _ => []
  | (_, o) :: r, p => (f o, (ps.filter fun x => Nat.beq x.1 p).map (·.2)) :: attach ps f r (p + 1)

theorem attach_spec {ps : List (Nat × Nat)} {f : Oper → AOper} : ∀ (l : List (Nat × Oper)) (p j : Nat), (attach ps f l p)[j]? = (l[j]?).map fun x => (f x.2, (ps.filter fun x => Nat.beq x.1 (p + j)).map (·.2))
  | [], _, j => by simp [attach]
  | (_, o) :: r, p, j => by
    cases j with
    | zero => simp [attach]
    | succ j =>
      simp only [attach, List.getElem?_cons_succ]
      rw [attach_spec r (p + 1) j, Nat.add_assoc, Nat.add_comm 1 j]

theorem attach_len {ps : List (Nat × Nat)} {f : Oper → AOper} : ∀ (l : List (Nat × Oper)) (p : Nat), (attach ps f l p).length = l.length
  | [], _ => rfl
  | (_, _) :: r, p => by simp [attach, attach_len r]

def badDraw : List (AOper × List Nat) := [({ dst := none, guard := none, op := .bad }, [])]

/-- the parts of the check, one behind the other -/
def drawWith (T : Tab) (ng n : Nat) (ops : List Oper) (M A : Tr Nat) (effs ord : List Nat) : List (AOper × List Nat) :=
  match posGo ord 0 .nil, rowsGo ops ord with
  | some Q, some rows => match needsGo A M Q effs (cmpOper T ng n ops) rows 0 with
    | some ps => bif Nat.beq ord.length ops.length && (List.range ops.length).all (fun i => (Tr.get Q i).isSome) && topo .any ops && topo .text ops && topo .gc ops && rowsOk A M Q effs rows 0 then attach ps (cmpOper T ng n ops) rows 0 else badDraw
    | none => badDraw
  | _, _ => badDraw

/-- The region's operations, with what must be still behind each; a text that fails if its orders might not come to the same. -/
def drawOf (T : Tab) (ng n : Nat) (ops : List Oper) : List (AOper × List Nat) :=
  match dstGo ops 0 .nil with
  | none => badDraw
  | some M => match ancGo ops 0 .nil, ops.map (cmpOper T ng n ops) with
    | A, as => match places (Nat.beq 3) as 0, places (fun k => Nat.blt k 3) as 0 with
      | effs, others => drawWith T ng n ops M A effs (orderOf A effs others)

structure DrawGood (T : Tab) (ng n : Nat) (ops : Array Oper) (σ : Nat → Nat) (l : List (AOper × List Nat)) : Prop where
  any : topo .any ops.toList = true
  text : topo .text ops.toList = true
  gc : topo .gc ops.toList = true
  bound : ∀ p, p < ops.size → σ p < ops.size
  onto : ∀ i, i < ops.size → ∃ p, p < ops.size ∧ σ p = i
  inj : ∀ p q, p < ops.size → q < ops.size → σ p = σ q → p = q
  get : ∀ (p : Nat) (o : Oper), p < ops.size → ops[σ p]? = some o → ∃ chk, l[p]? = some (cmpOper T ng n ops.toList o, chk)
  len : l.length = ops.size
  lower : ∀ (p : Nat) (o : Oper), p < ops.size → ops[σ p]? = some o → ∀ k ∈ edgesOf .any o, ∃ pk, pk < p ∧ σ pk = k
  guard : ∀ (j : Nat) (o : Oper) (g : Nat) (b : Bool), ops[j]? = some o → o.guard = some (g, b) → Anc ops j g
  reads : ∀ (j : Nat) (o : Oper) (t : Nat), ops[j]? = some o → Operand.tmp t ∈ o.op.operands.toList → ∀ (i : Nat) (o' : Oper), ops[i]? = some o' → o'.dst = some t → Anc ops j i ∨ Anc ops i j
  once : ∀ (i j : Nat) (o o' : Oper) (d : Nat), ops[i]? = some o → ops[j]? = some o' → o.dst = some d → o'.dst = some d → i = j
  eager : ∀ (p u : Nat) (o' : Oper), u < p → p < ops.size → ops[σ u]? = some o' → (cmpOper T ng n ops.toList o').op.kind = 3 → Anc ops (σ p) (σ u)
  still : ∀ (p : Nat) (o : Oper), p < ops.size → ops[σ p]? = some o → ((cmpOper T ng n ops.toList o).op.kind = 1 ∨ (cmpOper T ng n ops.toList o).op.kind = 2) →
    (∀ (u : Nat) (o' : Oper), p < u → u < ops.size → ops[σ u]? = some o' → (cmpOper T ng n ops.toList o').op.kind = 3 → Anc ops (σ u) (σ p)) ∨
    ∃ (c t : Nat) (ao : AOper) (chk : List Nat), p ≤ c ∧ c < ops.size ∧ l[c]? = some (ao, chk) ∧ t ∈ chk ∧
      (((cmpOper T ng n ops.toList o).op.kind = 1 ∧ (cmpOper T ng n ops.toList o).op.through = some (.tmp t) ∧ ∀ (i : Nat) (o' : Oper), ops[i]? = some o' → o'.dst = some t → Anc ops (σ p) i) ∨
        ((cmpOper T ng n ops.toList o).op.kind = 2 ∧ (cmpOper T ng n ops.toList o).dst = some t)) ∧
      ∀ (u : Nat) (o' : Oper), p < u → u < ops.size → ops[σ u]? = some o' → (cmpOper T ng n ops.toList o').op.kind = 3 → ¬ Anc ops (σ u) (σ p) → u ≤ c

theorem drawOf_good {T : Tab} {ng n : Nat} {ops : Array Oper} (hb : drawOf T ng n ops.toList ≠ badDraw) : ∃ σ, DrawGood T ng n ops σ (drawOf T ng n ops.toList) := by
  revert hb
  unfold drawOf
  split
  · intro h; exact absurd rfl h
  · rename_i M hM
    dsimp only
    unfold drawWith
    generalize hord : orderOf (ancGo ops.toList 0 .nil) (places (Nat.beq 3) (ops.toList.map (cmpOper T ng n ops.toList)) 0) (places (fun k => Nat.blt k 3) (ops.toList.map (cmpOper T ng n ops.toList)) 0) = ord
    generalize heffs : places (Nat.beq 3) (ops.toList.map (cmpOper T ng n ops.toList)) 0 = effs
    split
    · rename_i Q rows hQ hrows
      split
      · rename_i ps hps
        cases hc : (Nat.beq ord.length ops.toList.length && (List.range ops.toList.length).all (fun i => (Tr.get Q i).isSome) && topo .any ops.toList && topo .text ops.toList && topo .gc ops.toList && rowsOk (ancGo ops.toList 0 .nil) M Q effs rows 0) with
        | false => intro h; exact absurd rfl h
        | true =>
          intro _
          simp only [cond_true]
          simp only [Bool.and_eq_true] at hc
          obtain ⟨⟨⟨⟨⟨c0, c9⟩, c1⟩, c2⟩, c3⟩, c4⟩ := hc
          have hlen : ord.length = ops.size := by simpa using Nat.eq_of_beq_eq_true c0
          obtain ⟨hrl, hrs⟩ := rowsGo_spec ord rows hrows
          obtain ⟨_, hQ1, hQ2⟩ := posGo_spec ord 0 .nil Q hQ
          have hA : ∀ j k, bitA (ancGo ops.toList 0 .nil) j k = true → Anc ops j k :=
            ancGo_spec ops.toList 0 .nil (fun j o h => by simpa using h) (fun j k h => by simp [bitA, Tr.get] at h)
          have hMs := (dstGo_spec ops.toList 0 .nil M hM).2
          -- the row at a place
          have hrow : ∀ p, p < ops.size → ∃ i o, rows[p]? = some (i, o) ∧ ord[p]? = some i ∧ ops[i]? = some o ∧ Tr.get Q i = some p := by
            intro p hp
            have hlt : p < rows.length := by omega
            have hr : rows[p]? = some (rows[p].1, rows[p].2) := List.getElem?_eq_getElem hlt
            obtain ⟨h1, h2⟩ := hrs p _ _ hr
            have h3 := hQ1 p _ h1
            rw [Nat.zero_add] at h3
            exact ⟨_, _, hr, h1, by simpa using h2, h3⟩
          let σ : Nat → Nat := fun p => ord.getD p 0
          have hσ : ∀ p i, ord[p]? = some i → σ p = i := fun p i h => by simp [σ, List.getD, h]
          have hsize : ∀ i o, ops[i]? = some o → i < ops.size := fun i o h => (Array.getElem?_eq_some_iff.1 h).1
          -- all are listed
          have hbound : ∀ p, p < ops.size → σ p < ops.size := fun p hp => by
            obtain ⟨i, o, _, h2, h3, _⟩ := hrow p hp
            rw [hσ p i h2]; exact hsize i o h3
          have hinj : ∀ p q, p < ops.size → q < ops.size → σ p = σ q → p = q := by
            intro p q hp hq he
            obtain ⟨i, o, _, h2, _, h4⟩ := hrow p hp
            obtain ⟨j, o', _, g2, _, g4⟩ := hrow q hq
            rw [hσ p i h2, hσ q j g2] at he
            subst he
            rw [h4] at g4
            exact Option.some.inj g4
          have honto : ∀ i, i < ops.size → ∃ p, p < ops.size ∧ σ p = i := by
            intro i hi
            have h1 := List.all_eq_true.1 c9 i (List.mem_range.2 (by simpa using hi))
            obtain ⟨p, hp⟩ := Option.isSome_iff_exists.1 h1
            rcases hQ2 i p hp with h | ⟨j, hj, hkj⟩
            · simp [Tr.get] at h
            · have hlt := (List.getElem?_eq_some_iff.1 hj).1
              exact ⟨p, by omega, hσ p i (by rw [hkj, Nat.zero_add]; exact hj)⟩
          have hrowOk : ∀ p i o, p < ops.size → ops[σ p]? = some o → σ p = i → rowOk (ancGo ops.toList 0 .nil) M Q effs p i o = true ∧ rows[p]? = some (i, o) := by
            intro p i o hp ho hi
            obtain ⟨i', o', h1, h2, h3, h4⟩ := hrow p hp
            have := hσ p i' h2
            rw [this] at ho hi
            subst hi
            rw [h3] at ho; cases ho
            have := rowsOk_spec rows 0 c4 p _ _ h1
            rw [Nat.zero_add] at this
            exact ⟨this, h1⟩
          have hpos : ∀ p, p < ops.size → Tr.get Q (σ p) = some p := by
            intro p hp
            obtain ⟨i, o, _, h2, _, h4⟩ := hrow p hp
            rw [hσ p i h2]; exact h4
          have heff : ∀ i o, ops[i]? = some o → (cmpOper T ng n ops.toList o).op.kind = 3 → i ∈ effs := by
            intro i o h hk
            have hget : (ops.toList.map (cmpOper T ng n ops.toList))[i]? = some (cmpOper T ng n ops.toList o) := by
              have h' : ops.toList[i]? = some o := by simpa using h
              rw [List.getElem?_map, h']; rfl
            have := places_spec (p := Nat.beq 3) _ 0 i _ hget (by rw [hk]; rfl)
            rw [Nat.zero_add, heffs] at this
            exact this
          have hat : ∀ j o, ops[j]? = some o → ∃ p, p < ops.size ∧ σ p = j := fun j o h => honto j (hsize j o h)
          refine ⟨σ, c1, c2, c3, hbound, honto, hinj, ?_, ?_, ?_, ?_, ?_, ?_, ?_, ?_⟩
          · intro p o hp ho
            obtain ⟨_, h1⟩ := hrowOk p (σ p) o hp ho rfl
            rw [attach_spec, h1]
            exact ⟨_, rfl⟩
          · rw [attach_len]; omega
          · intro p o hp ho k hk
            have h1 := (hrowOk p (σ p) o hp ho rfl).1
            simp only [rowOk, Bool.and_eq_true] at h1
            have h2 := List.all_eq_true.1 h1.1.1.1 k hk
            split at h2
            · rename_i pe hpe
              rcases hQ2 k pe hpe with h | ⟨j, hj, hkj⟩
              · simp [Tr.get] at h
              · refine ⟨pe, blt_iff.1 h2, ?_⟩
                rw [hkj, Nat.zero_add]
                exact hσ j k hj
            · cases h2
          · intro j o g b h hg
            obtain ⟨p, hp, hpj⟩ := hat j o h
            have h1 := (hrowOk p j o hp (by rw [hpj]; exact h) hpj).1
            simp only [rowOk, Bool.and_eq_true, hg] at h1
            exact hA _ _ h1.1.1.2
          · intro j o t h ht i o' hi hd
            obtain ⟨p, hp, hpj⟩ := hat j o h
            have h1 := (hrowOk p j o hp (by rw [hpj]; exact h) hpj).1
            simp only [rowOk, Bool.and_eq_true] at h1
            have h2 := List.all_eq_true.1 h1.1.2 _ ht
            have h3 := hMs i o' t (by simpa using hi) hd
            rw [Nat.zero_add] at h3
            simp only [h3, Bool.or_eq_true] at h2
            exact h2.imp (hA _ _) (hA _ _)
          · intro i j o o' d hi hj hd hd'
            have h1 := hMs i o d (by simpa using hi) hd
            have h2 := hMs j o' d (by simpa using hj) hd'
            rw [h1] at h2
            simpa using h2
          · intro p u o' hup hp ho' hk
            have hu : u < ops.size := by omega
            obtain ⟨o, ho⟩ : ∃ o, ops[σ p]? = some o := ⟨_, Array.getElem?_eq_getElem (hbound p hp)⟩
            have h1 := (hrowOk p (σ p) o hp ho rfl).1
            simp only [rowOk, Bool.and_eq_true] at h1
            have h2 := List.all_eq_true.1 h1.2 _ (heff _ _ ho' hk)
            rw [hpos u hu] at h2
            simp only [Bool.or_eq_true, blt_iff.2 hup, Bool.not_true, Bool.false_eq_true, false_or] at h2
            exact hA _ _ h2
          · intro p o hp ho hk
            obtain ⟨_, hr⟩ := hrowOk p (σ p) o hp ho rfl
            have hfl : ∀ (u : Nat) (o' : Oper), p < u → u < ops.size → ops[σ u]? = some o' → (cmpOper T ng n ops.toList o').op.kind = 3 → ¬ Anc ops (σ u) (σ p) → u ∈ floats (ancGo ops.toList 0 .nil) Q p (σ p) effs := by
              intro u o' hpu hu ho' hk' hna
              refine floats_spec (heff _ _ ho' hk') (hpos u hu) hpu ?_
              cases hb : bitA (ancGo ops.toList 0 .nil) (σ u) (σ p) with
              | false => rfl
              | true => exact absurd (hA _ _ hb) hna
            rcases needsGo_spec rows 0 ps hps p _ _ hr hk with h | ⟨c, t, h1, h2, h3, h4, h5⟩
            · left
              rw [Nat.zero_add] at h
              intro u o' hpu hu ho' hk'
              apply Classical.byContradiction
              intro hne
              have := hfl u o' hpu hu ho' hk' hne
              rw [h] at this; cases this
            · right
              rw [Nat.zero_add] at h2 h3 h4
              have hcm : c < ops.size := by
                rcases h4 with rfl | ⟨u, _, hu⟩
                · exact hp
                · rcases hQ2 u c hu with h | ⟨j, hj, hcj⟩
                  · simp [Tr.get] at h
                  · have := (List.getElem?_eq_some_iff.1 hj).1
                    omega
              obtain ⟨ic, oc, hrc, _, _, _⟩ := hrow c hcm
              refine ⟨c, t, cmpOper T ng n ops.toList oc, (ps.filter fun x => Nat.beq x.1 (0 + c)).map (·.2), h2, hcm, by rw [attach_spec, hrc]; rfl, ?_, ?_, fun u o' hpu hu ho' hk' hna => h3 u (hfl u o' hpu hu ho' hk' hna)⟩
              · rw [List.mem_map]
                exact ⟨(c, t), List.mem_filter.2 ⟨h5, by simp⟩, rfl⟩
              · unfold slotFor at h1
                rcases hk with hk | hk
                · left
                  rw [hk] at h1
                  simp only [Nat.beq_refl, cond_true] at h1
                  split at h1
                  · rename_i t' ht'
                    split at h1
                    · rename_i hMt
                      cases h1
                      refine ⟨hk, ht', fun i o' hi hd => ?_⟩
                      have := hMs i o' t (by simpa using hi) hd
                      rw [hMt] at this; cases this
                    · rename_i k hMt
                      cases hbk : bitA (ancGo ops.toList 0 .nil) (σ p) k <;> rw [hbk] at h1 <;> cases h1
                      refine ⟨hk, ht', fun i o' hi hd => ?_⟩
                      have := hMs i o' t (by simpa using hi) hd
                      rw [hMt, Nat.zero_add] at this
                      cases this
                      exact hA _ _ hbk
                  · cases h1
                · right
                  rw [hk] at h1
                  exact ⟨hk, h1⟩
      · intro h; exact absurd rfl h
    · intro h; exact absurd rfl h
end Go.AI
