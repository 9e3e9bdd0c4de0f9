/- A region that draws its order: the memory between its effects. -/
import Derived.Test.YtigniafapkbbbaaGreatDoorAiDraw5
namespace Go.AI

theorem Sim.grow {CC : CodeRel} {ρ : Rho} {h : Heap} {w : World} (S : Sim CC ρ h w) (o : AObj) : Sim CC ρ (h.new o) w ∧ Ext ρ h w ρ (h.new o) w := by
  have hget : ∀ b r, ρ b = some r → (h.new o).tr.get b = h.tr.get b := by
    intro b r hb
    have := (S.low b r hb).1
    simp only [Heap.new, Tr.get_set]
    rw [if_neg (by omega)]
  have hwr : ∀ b r, ρ b = some r → writable (h.new o) b → writable h b := fun b r hb ⟨x, hx, hr⟩ => ⟨x, by rwa [hget b r hb] at hx, hr⟩
  refine ⟨⟨fun b r hb => ⟨?_, (S.low b r hb).2⟩, fun b r x hb hx => S.obj b r x hb (by rwa [hget b r hb] at hx), fun b b' r r' x hb hb' hw hx hne => S.inj b b' r r' x hb hb' (hwr b r hb hw) (by rwa [hget b' r' hb'] at hx) hne, ?_⟩,
    ⟨ρ.le_refl, by simp [Heap.new], Nat.le_refl _, rfl, rfl, rfl, fun _ _ _ => rfl, fun b r hb hw => .inr ⟨b, r, hb, hwr b r hb hw, rfl⟩, fun b r h1 h2 => (by rw [h1] at h2; cases h2), fun b r x hb hx => .inr ⟨b, r, x, hb, by rwa [hget b r hb] at hx, rfl⟩⟩⟩
  · have := (S.low b r hb).1
    simp only [Heap.new]; omega
  · intro b x hx
    simp only [Heap.new, Tr.get_set] at hx ⊢
    by_cases e : b = h.next
    · omega
    · rw [if_neg e] at hx
      have := S.wf b x hx
      omega

section
variable {P : Program} {T : Tab} {ng : Nat} {dr : Draws} {F : Nat → Option AFunc} {ih : ACode → Env → Heap → R} {n c : Nat} {ops : Array Oper} {σ : Nat → Nat} {l : List (AOper × List Nat)} {E : Nat → Env} {H : Nat → Heap}

def SeqOk (F : Nat → Option AFunc) (ih : ACode → Env → Heap → R) (T : Tab) (ng n : Nat) (ops : Array Oper) (σ : Nat → Nat) (E : Nat → Env) (H : Nat → Heap) : Prop :=
  ∀ (p : Nat) (o : Oper), p < ops.size → ops[σ p]? = some o → operF F ih (cmpOper T ng n ops.toList o) (E p) (H p) = some (E (p + 1), H (p + 1))

theorem cmpOper_dst {o : Oper} {d : Nat} (h : (cmpOper T ng n ops.toList o).dst = some d) : o.dst = some d := by
  unfold cmpOper at h
  cases hb : operOk ng n ops.toList o <;> rw [hb] at h
  · cases h
  · exact h

theorem DrawGood.op (hg : DrawGood T ng n ops σ l) {p : Nat} (hp : p < ops.size) : ∃ o, ops[σ p]? = some o := ⟨_, Array.getElem?_eq_getElem (hg.bound p hp)⟩

theorem DrawGood.anc_lt (hg : DrawGood T ng n ops σ l) {i j : Nat} (h : Anc ops i j) : ∀ p, p < ops.size → σ p = i → ∃ q, q < p ∧ σ q = j := by
  induction h with
  | edge ho h => intro p hp hi; subst hi; exact hg.lower p _ hp ho _ h
  | far ho h _ ih =>
    intro p hp hi
    subst hi
    obtain ⟨pk, hlt, hk⟩ := hg.lower p _ hp ho _ h
    obtain ⟨q, hq, hj⟩ := ih pk (by omega) hk
    exact ⟨q, by omega, hj⟩

theorem seq_env (hq : SeqOk F ih T ng n ops σ E H) (hg : DrawGood T ng n ops σ l) {a t : Nat} : ∀ (b : Nat), a ≤ b → b ≤ ops.size → (∀ (k : Nat) (o : Oper), a ≤ k → k < b → ops[σ k]? = some o → o.dst ≠ some t) → Env.get (E b) t = Env.get (E a) t := by
  intro b
  induction b with
  | zero => intro h _ _; rw [Nat.le_zero.1 h]
  | succ b ihb =>
    intro hab hb hn
    by_cases he : a = b + 1
    · rw [he]
    · obtain ⟨o, ho⟩ := hg.op (p := b) (by omega)
      obtain ⟨v, hv⟩ := operF_env (hq b _ (by omega) ho)
      rw [hv, ← ihb (by omega) (by omega) (fun k o h1 h2 h3 => hn k o h1 (by omega) h3)]
      cases hd : (cmpOper T ng n ops.toList o).dst with
      | none => rfl
      | some d =>
        simp only [putE, Env.get_set]
        have := hn b _ (by omega) (by omega) ho
        rw [cmpOper_dst hd] at this
        rw [if_neg (fun (e : t = d) => this (by rw [e]))]

def NoEff (T : Tab) (ng n : Nat) (ops : Array Oper) (σ : Nat → Nat) (a b : Nat) : Prop :=
  ∀ (k : Nat) (o : Oper), a ≤ k → k < b → ops[σ k]? = some o → (cmpOper T ng n ops.toList o).op.kind ≠ 3

theorem kind_lt {o : AOp} (h : o.kind ≠ 3) : o.kind ≤ 2 := by have := kind_le o; omega

theorem seq_grow (hq : SeqOk F ih T ng n ops σ E H) (hg : DrawGood T ng n ops σ l) {a x : Nat} (hx : x < (H a).next) : ∀ (b : Nat), a ≤ b → b ≤ ops.size → NoEff T ng n ops σ a b →
    (H b).tr.get x = (H a).tr.get x ∧ (H a).next ≤ (H b).next := by
  intro b
  induction b with
  | zero => intro h _ _; rw [Nat.le_zero.1 h]; exact ⟨rfl, Nat.le_refl _⟩
  | succ b ihb =>
    intro hab hb hn
    by_cases he : a = b + 1
    · rw [he]; exact ⟨rfl, Nat.le_refl _⟩
    · obtain ⟨o, ho⟩ := hg.op (p := b) (by omega)
      obtain ⟨h1, h2⟩ := ihb (by omega) (by omega) (fun k o h1 h2 h3 => hn k o h1 (by omega) h3)
      rcases operF_grow (kind_lt (hn b _ (by omega) (by omega) ho)) (hq b _ (by omega) ho) with hh | ⟨y, hh⟩
      · rw [hh]; exact ⟨h1, h2⟩
      · rw [hh, ← h1]
        simp only [Heap.new, Tr.get_set]
        rw [if_neg (by omega)]
        exact ⟨rfl, by omega⟩

theorem seq_sim {CC : CodeRel} {ρ : Rho} {w : World} (hq : SeqOk F ih T ng n ops σ E H) (hg : DrawGood T ng n ops σ l) {a : Nat} (S : Sim CC ρ (H a) w) : ∀ (b : Nat), a ≤ b → b ≤ ops.size → NoEff T ng n ops σ a b →
    Sim CC ρ (H b) w ∧ Ext ρ (H a) w ρ (H b) w := by
  intro b
  induction b with
  | zero => intro h _ _; rw [← Nat.le_zero.1 h]; exact ⟨S, .refl _ _ _⟩
  | succ b ihb =>
    intro hab hb hn
    by_cases he : a = b + 1
    · rw [← he]; exact ⟨S, .refl _ _ _⟩
    · obtain ⟨o, ho⟩ := hg.op (p := b) (by omega)
      obtain ⟨S1, X1⟩ := ihb (by omega) (by omega) (fun k o h1 h2 h3 => hn k o h1 (by omega) h3)
      rcases operF_grow (kind_lt (hn b _ (by omega) (by omega) ho)) (hq b _ (by omega) ho) with hh | ⟨y, hh⟩
      · rw [hh]; exact ⟨S1, X1⟩
      · rw [hh]
        obtain ⟨S2, X2⟩ := S1.grow y
        exact ⟨S2, X1.trans X2⟩

theorem seq_keeps (hK : KeepsAll ih) (hq : SeqOk F ih T ng n ops σ E H) (hg : DrawGood T ng n ops σ l) {a : Nat} : ∀ (b : Nat), a ≤ b → b ≤ ops.size → Keeps (H a) (H b) := by
  intro b
  induction b with
  | zero => intro h _; rw [Nat.le_zero.1 h]; exact .refl _
  | succ b ihb =>
    intro hab hb
    by_cases he : a = b + 1
    · rw [he]; exact .refl _
    · obtain ⟨o, ho⟩ := hg.op (p := b) (by omega)
      exact (ihb (by omega) (by omega)).trans (operF_keeps hK (hq b _ (by omega) ho))

/-- What a reader reads, or a maker has made, stands alike where the true run has come to. -/
theorem block_same (hK : KeepsAll ih) (hq : SeqOk F ih T ng n ops σ E H) (hg : DrawGood T ng n ops σ l)
    (hstill : ∀ (k : Nat) (ao : AOper) (chk : List Nat), l[k]? = some (ao, chk) → still (E (k + 1)) (H (k + 1)) c chk = true) (hc0 : c < (H 0).clock)
    {p q : Nat} {o : Oper} (hp : p < q) (hqm : q ≤ ops.size) (ho : ops[σ p]? = some o)
    (hk : (cmpOper T ng n ops.toList o).op.kind = 1 ∨ (cmpOper T ng n ops.toList o).op.kind = 2)
    (hna : ∀ (u : Nat) (o' : Oper), p < u → u < q → ops[σ u]? = some o' → (cmpOper T ng n ops.toList o').op.kind = 3 → ¬ Anc ops (σ u) (σ p)) {b : Nat}
    (h1 : (cmpOper T ng n ops.toList o).op.kind = 1 → ∀ t, (cmpOper T ng n ops.toList o).op.through = some (.tmp t) → (∀ (i : Nat) (o' : Oper), ops[i]? = some o' → o'.dst = some t → Anc ops (σ p) i) → leads (Env.get (E p) t) = some b)
    (h2 : (cmpOper T ng n ops.toList o).op.kind = 2 → ∀ t, (cmpOper T ng n ops.toList o).dst = some t → leads (Env.get (E (p + 1)) t) = some b)
    (hb : b < (H (p + 1)).next) : (H q).tr.get b = (H (p + 1)).tr.get b := by
  by_cases hnone : NoEff T ng n ops σ (p + 1) q
  · exact (seq_grow hq hg hb q (by omega) hqm hnone).1
  · have hex : ∃ (u : Nat) (o' : Oper), p < u ∧ u < q ∧ ops[σ u]? = some o' ∧ (cmpOper T ng n ops.toList o').op.kind = 3 := by
      apply Classical.byContradiction
      intro hne
      exact hnone fun u o' g1 g2 g3 g4 => hne ⟨u, o', by omega, g2, g3, g4⟩
    obtain ⟨u, o', g1, g2, g3, g4⟩ := hex
    rcases hg.still p o (by omega) ho hk with hall | ⟨cc, t, ao, chk, k1, k2, k3, k4, k5, k6⟩
    · exact absurd (hall u o' g1 (by omega) g3 g4) (hna u o' g1 g2 g3 g4)
    · have hslot : leads (Env.get (E (cc + 1)) t) = some b := by
        rcases k5 with ⟨kk, ht, hw⟩ | ⟨kk, hd⟩
        · rw [seq_env hq hg (a := p) (cc + 1) (by omega) (by omega) (fun k ok hk1 hk2 hok hd => ?_)]
          · exact h1 kk t ht hw
          · obtain ⟨q', hq', he⟩ := hg.anc_lt (hw (σ k) ok hok hd) p (by omega) rfl
            have := hg.inj q' k (by omega) (by omega) he
            omega
        · rw [seq_env hq hg (a := p + 1) (cc + 1) (by omega) (by omega) (fun k ok hk1 hk2 hok hd' => ?_)]
          · exact h2 kk t hd
          · have := hg.inj p k (by omega) (by omega) (hg.once (σ p) (σ k) o ok t ho hok (cmpOper_dst hd) hd')
            omega
      obtain ⟨ob, hs1, hs2⟩ := still_spec (hstill cc ao chk k3) t k4 b hslot
      have back : ∀ a, a ≤ cc + 1 → b < (H a).next → (H a).tr.get b = some ob := by
        intro a ha hba
        have hka := seq_keeps hK hq hg (a := a) (cc + 1) ha (by omega)
        have hk0 := seq_keeps hK hq hg (a := 0) a (by omega) (by omega)
        rcases hs2 with ⟨cs, ro, op, s, rfl, hs2⟩ | rfl
        · exact hka.old b cs ro op s hba hs1 (by have := hk0.clock; omega)
        · exact hka.mp b hba hs1
      rw [back (p + 1) (by omega) hb]
      have hnx : ∀ a, p + 1 ≤ a → a ≤ ops.size → b < (H a).next := fun a h1 h2 => by
        have := (seq_keeps hK hq hg (a := p + 1) a h1 h2).next
        omega
      by_cases hqc : q ≤ cc + 1
      · exact back q hqc (hnx q (by omega) hqm)
      · have := (seq_grow hq hg (hnx (cc + 1) (by omega) (by omega)) q (by omega) hqm (fun k o'' h6 h7 h8 h9 => by
          have := k6 k o'' (by omega) (by omega) h8 h9 (hna k o'' (by omega) h7 h8 h9)
          omega)).1
        rw [this, hs1]

/-- the greatest number that a cell names, and one more -/
def topC : Value → Nat
  | .pointer (some ⟨b, _, _⟩) => b + 1
  | .slice (some ⟨b, _, _⟩) _ _ => b + 1
  | .map (some m) => m + 1
  | _ => 0

def topK : Value → Nat
  | .func (.yield l) _ _ => l + 1
  | .func _ _ caps => (caps.toList.map topC).foldl (· + ·) 0
  | v => topC v

theorem foldl_add : ∀ (l : List Nat) (a : Nat), a ≤ l.foldl (· + ·) a ∧ ∀ x ∈ l, x ≤ l.foldl (· + ·) a
  | [], a => ⟨Nat.le_refl _, fun _ h => by simp at h⟩
  | y :: l, a => by
    obtain ⟨h1, h2⟩ := foldl_add l (a + y)
    simp only [List.foldl_cons]
    refine ⟨by omega, fun x hx => ?_⟩
    rcases List.mem_cons.1 hx with rfl | hx
    · omega
    · exact h2 x hx

theorem CR.off {ρ1 ρ2 : Rho} {N : Nat} (hr : ∀ x, x ≠ N → ρ1 x = ρ2 x) {v c : Value} (hN : topC v ≤ N) (h : CR ρ1 v c) : CR ρ2 v c := by
  cases h with
  | bool => exact .bool _
  | int => exact .int _ _
  | str => exact .str _
  | nilptr => exact .nilptr
  | ptr h => simp only [topC] at hN; exact .ptr (by rw [← hr _ (by omega)]; exact h)
  | nilslice => exact .nilslice _ _
  | slice h hs => simp only [topC] at hN; exact .slice (by rw [← hr _ (by omega)]; exact h) hs
  | nilmap => exact .nilmap
  | map h => simp only [topC] at hN; exact .map (by rw [← hr _ (by omega)]; exact h)
  | nilfunc => exact .nilfunc
  | niliface => exact .niliface

theorem KR.off {ρ1 ρ2 : Rho} {N : Nat} (hr : ∀ x, x ≠ N → ρ1 x = ρ2 x) {v c : Value} (hN : topK v ≤ N) (h : KR ρ1 v c) : KR ρ2 v c := by
  cases h with
  | cell h =>
    refine .cell (h.off hr ?_)
    cases h <;> first | exact hN | exact Nat.zero_le _
  | @fn f l m h =>
    simp only [topK] at hN
    refine .fn f ?_
    have hb : ∀ x ∈ l, topC x ≤ N := fun x hx => Nat.le_trans ((foldl_add (l.map topC) 0).2 _ (List.mem_map.2 ⟨x, hx, rfl⟩)) hN
    clear hN
    induction h with
    | nil => exact .nil
    | cons h1 _ ih => exact .cons (h1.off hr (hb _ (List.mem_cons_self ..))) (ih fun x hx => hb x (List.mem_cons_of_mem _ hx))
  | yield h => simp only [topK] at hN; exact .yield (by rw [← hr _ (by omega)]; exact h)
end
end Go.AI
