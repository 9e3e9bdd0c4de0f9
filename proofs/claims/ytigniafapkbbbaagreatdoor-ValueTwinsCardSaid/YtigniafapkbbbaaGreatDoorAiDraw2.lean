/- The orders that a region may draw, and the check that they come to the same. -/
import Derived.Test.YtigniafapkbbbaaGreatDoorAiRun5
import Derived.Orders
namespace Go.AI

def edgesOf (md : Region.Mode) (o : Oper) : List Nat := (o.after.toList.filter (Region.binds md)).map (·.on)

def pass : List (List Nat) → Nat → Nat → Nat
  | [], _, mask => mask
  | e :: r, i, mask => pass r (i + 1) (bif e.all (Nat.testBit mask) then mask ||| (1 <<< i) else mask)

def peel (full : Nat) (es : List (List Nat)) : Nat → Nat → Bool
  | 0, _ => false
  | f + 1, mask => bif Nat.beq mask full then true else peel full es f (pass es 0 mask)

def topo (md : Region.Mode) (ops : List Oper) : Bool := peel (2 ^ ops.length - 1) (ops.map (edgesOf md)) (ops.length + 1) 0

theorem bit_add {mask i j : Nat} : Nat.testBit (mask ||| (1 <<< i)) j = true ↔ Nat.testBit mask j = true ∨ j = i := by
  rw [Nat.testBit_or, Bool.or_eq_true, Nat.one_shiftLeft, Nat.testBit_two_pow, decide_eq_true_eq]
  exact ⟨Or.imp_right Eq.symm, Or.imp_right Eq.symm⟩

theorem pass_sound {D : Nat → Prop} : ∀ (es : List (List Nat)) (i mask : Nat), (∀ j e, es[j]? = some e → (∀ k ∈ e, D k) → D (i + j)) → (∀ k, Nat.testBit mask k = true → D k) → ∀ k, Nat.testBit (pass es i mask) k = true → D k
  | [], _, _, _, hm => hm
  | e :: r, i, mask, hD, hm => by
    refine pass_sound r (i + 1) _ (fun j e' hj hk => by have := hD (j + 1) e' (by simpa using hj) hk; rwa [Nat.add_assoc, Nat.add_comm 1 j]) ?_
    intro k hk
    cases hb : e.all (Nat.testBit mask) <;> simp only [hb, cond_true, cond_false] at hk
    · exact hm k hk
    · rcases bit_add.1 hk with h | rfl
      · exact hm k h
      · exact hD 0 e rfl fun q hq => hm q (List.all_eq_true.1 hb q hq)

theorem peel_sound {D : Nat → Prop} {full : Nat} {es : List (List Nat)} (hD : ∀ j e, es[j]? = some e → (∀ k ∈ e, D k) → D j) : ∀ (f mask : Nat), peel full es f mask = true → (∀ k, Nat.testBit mask k = true → D k) → ∀ k, Nat.testBit full k = true → D k
  | 0, _, h, _ => by cases h
  | f + 1, mask, h, hm => by
    simp only [peel] at h
    cases hb : Nat.beq mask full with
    | true => rw [Nat.eq_of_beq_eq_true hb] at hm; exact hm
    | false =>
      rw [hb] at h
      exact peel_sound hD f _ h (pass_sound es 0 mask (fun j e hj hk => by rw [Nat.zero_add]; exact hD j e hj hk) hm)

theorem topo_sound {D : Nat → Prop} {md : Region.Mode} {ops : List Oper} (h : topo md ops = true) (hD : ∀ (j : Nat) (o : Oper), ops[j]? = some o → (∀ k ∈ edgesOf md o, D k) → D j) : ∀ k, k < ops.length → D k := by
  intro k hk
  refine peel_sound (D := D) (fun j e hj hke => ?_) _ _ h (fun q hq => by simp at hq) k ?_
  · rw [List.getElem?_map] at hj
    cases ho : ops[j]? with
    | none => rw [ho] at hj; cases hj
    | some o => rw [ho] at hj; cases hj; exact hD j o ho hke
  · rw [Nat.testBit_two_pow_sub_one]; simpa using hk

/-- An order of a region's operations: each once, behind those that it hangs on. -/
inductive Ord (ops : Array Oper) : (Nat → Prop) → List Nat → Prop
  | nil {D : Nat → Prop} (h : ∀ i, i < ops.size → D i) : Ord ops D []
  | cons {D : Nat → Prop} {i : Nat} {L : List Nat} {o : Oper} (ho : ops[i]? = some o) (hn : ¬ D i) (he : ∀ k ∈ edgesOf .any o, D k) (hl : Ord ops (fun j => D j ∨ j = i) L) : Ord ops D (i :: L)

theorem edges_any {md : Region.Mode} {o : Oper} {k : Nat} (h : k ∈ edgesOf .any o) : k ∈ edgesOf md o := by
  unfold edgesOf at h ⊢
  simp only [List.mem_map, List.mem_filter] at h ⊢
  obtain ⟨e, ⟨h1, h2⟩, h3⟩ := h
  refine ⟨e, ⟨h1, ?_⟩, h3⟩
  unfold Region.binds at h2 ⊢
  split at h2 <;> simp_all

theorem go_ord {md : Region.Mode} {ops : Array Oper} (ht : topo md ops.toList = true) : ∀ (fuel t : Nat) (listed : Array Bool) (D : Nat → Prop), listed.size = ops.size → (∀ i, D i ↔ listed.getD i false = true) → listed.toList.count false = fuel →
    Ord ops D (Region.linearise.go md ops fuel t listed []) := by
  intro fuel
  induction fuel with
  | zero =>
    intro t listed D hs hD hc
    refine .nil fun i hi => (hD i).2 ?_
    have hlt : i < listed.size := by omega
    rw [List.count_eq_zero] at hc
    cases hv : listed[i] with
    | true => simp [Array.getD, hlt, hv]
    | false => exact absurd (Array.mem_toList_iff.2 (hv ▸ Array.getElem_mem hlt)) hc
  | succ f ihf =>
    intro t listed D hs hD hc
    simp only [Region.linearise.go]
    generalize hrs : ((List.range ops.size).filter fun i => !listed.getD i true && ((ops[i]?).map (·.after.all fun e => !Region.binds md e || listed.getD e.on false)).getD false) = rs
    have hmem : ∀ i, i ∈ rs ↔ i < ops.size ∧ listed.getD i true = false ∧ ((ops[i]?).map (·.after.all fun e => !Region.binds md e || listed.getD e.on false)).getD false = true := by
      intro i
      rw [← hrs]
      simp [and_assoc]
    have hne : rs ≠ [] := by
      intro hnil
      have hall : ∀ k, k < ops.toList.length → D k := by
        refine topo_sound ht fun j o hj hk => ?_
        have hjo : ops[j]? = some o := by simpa using hj
        have hlt : j < ops.size := (Array.getElem?_eq_some_iff.1 hjo).1
        cases hv : listed.getD j true with
        | true => 
          refine (hD j).2 ?_
          have hlt' : j < listed.size := by omega
          simpa [Array.getD, hlt'] using hv
        | false =>
          have : j ∈ rs := by
            refine (hmem j).2 ⟨hlt, hv, ?_⟩
            rw [hjo]
            simp only [Option.map_some, Option.getD_some, Array.all_eq_true']
            intro e he
            cases hb : Region.binds md e with
            | false => rfl
            | true =>
              refine (hD e.on).1 (hk e.on ?_)
              unfold edgesOf
              simp only [List.mem_map, List.mem_filter]
              exact ⟨e, ⟨by simpa using he, hb⟩, rfl⟩
          rw [hnil] at this; cases this
      have : listed.toList.count false = 0 := by
        rw [List.count_eq_zero]
        intro hm
        obtain ⟨i, hi, hv⟩ := List.getElem_of_mem hm
        have hi' : i < listed.size := by simpa using hi
        have := (hD i).1 (hall i (by simp; omega))
        simp [Array.getD, hi'] at this
        simp at hv
        rw [this] at hv; cases hv
      omega
    have hlen : 0 < rs.length := List.length_pos_iff.2 hne
    have hget : rs[t % rs.length]? = some (rs[t % rs.length]'(Nat.mod_lt _ hlen)) := List.getElem?_eq_getElem _
    rw [hget]
    dsimp only
    generalize hi : rs[t % rs.length]'(Nat.mod_lt _ hlen) = i
    have him : i ∈ rs := hi ▸ List.getElem_mem _
    obtain ⟨h1, h2, h3⟩ := (hmem i).1 him
    rw [linearise_go_acc, List.reverse_singleton, List.singleton_append]
    have ho : ops[i]? = some ops[i] := Array.getElem?_eq_getElem h1
    have hi2 : i < listed.size := by omega
    have hvi : listed[i] = false := by simpa [Array.getD, hi2] using h2
    refine .cons ho ?_ ?_ (ihf _ _ _ (by simp [hs]) ?_ ?_)
    · intro hd
      have := (hD i).1 hd
      simp [Array.getD, hi2, hvi] at this
    · intro k hk
      rw [ho] at h3
      simp only [Option.map_some, Option.getD_some, Array.all_eq_true'] at h3
      have hk' := edges_any (md := md) hk
      unfold edgesOf at hk'
      simp only [List.mem_map, List.mem_filter] at hk'
      obtain ⟨e, ⟨q1, q2⟩, q3⟩ := hk'
      have := h3 e (by simpa using q1)
      rw [q2] at this
      rw [← q3]
      exact (hD e.on).2 (by simpa using this)
    · intro j
      constructor
      · rintro (hj | rfl)
        · have := (hD j).1 hj
          by_cases hji : j = i
          · subst hji; simp [Array.getD, hi2]
          · simp only [Array.getD_eq_getD_getElem?] at this ⊢
            rw [Array.getElem?_setIfInBounds_ne (Ne.symm hji)]
            exact this
        · simp [Array.getD, hi2]
      · intro hj
        by_cases hji : j = i
        · exact .inr hji
        · refine .inl ((hD j).2 ?_)
          simp only [Array.getD_eq_getD_getElem?] at hj ⊢
          rwa [Array.getElem?_setIfInBounds_ne (Ne.symm hji)] at hj
    · rw [Array.toList_setIfInBounds, List.count_set (by simpa using hi2)]
      simp [hvi, hc]

theorem schedule_ord {ops : Array Oper} (h0 : topo .any ops.toList = true) (h1 : topo .text ops.toList = true) (h2 : topo .gc ops.toList = true) (mixed : Bool) (t : Nat) :
    Ord ops (fun _ => False) (Region.schedule mixed ops t) := by
  have key : ∀ (md : Region.Mode) (t : Nat), topo md ops.toList = true → Ord ops (fun _ => False) (Region.linearise md ops t) := by
    intro md t ht
    refine go_ord ht _ _ _ _ (by simp) (fun i => ?_) (by simp)
    simp [Array.getD_eq_getD_getElem?, Array.getElem?_replicate]
    split <;> simp
  unfold Region.schedule
  split
  · exact key _ _ h0
  · split
    · exact key _ _ h1
    · exact key _ _ h2
end Go.AI
