/- What an operation of the abstract interpreter reads, and what it leaves alone. -/
import Derived.Test.YtigniafapkbbbaaGreatDoorAiRel
namespace Go.AI

def AOp.opds : AOp → List Operand
  | .mv x => [x]
  | .pick c a b => [c, a, b]
  | .alloc _ => []
  | .box x => [x]
  | .build _ ps => ps.map (·.2.2)
  | .bslice _ _ ps => ps.map (·.2.2)
  | .load _ a => [a]
  | .store _ a v => [a, v]
  | .nilChk x => [x]
  | .bin _ _ x y => [x, y]
  | .un _ x => [x]
  | .conv _ x => [x]
  | .mkfn _ caps => caps
  | .mkmap => []
  | .mkslice _ _ l c => [l, c]
  | .slice _ x lo hi mx => x :: (lo.toList ++ hi.toList ++ mx.toList)
  | .faddr _ x => [x]
  | .iaddr _ _ x i => [x, i]
  | .field _ _ x => [x]
  | .index _ x i => [x, i]
  | .look _ _ _ x i => [x, i]
  | .mupd _ m k v => [m, k, v]
  | .rngNil x => [x]
  | .nxt x => [x]
  | .ext _ x => [x]
  | .call f args => f :: args
  | .blen x => [x]
  | .bcap x => [x]
  | .slen x => [x]
  | .append _ _ _ s x => [s, x]
  | .copy _ d s => [d, s]
  | .clear _ x => [x]
  | .bmin x y => [x, y]
  | .bad => []

/-- 0: reads no memory; 1: reads one block; 2: makes one object; 3: all else -/
def AOp.kind : AOp → Nat
  | .mv _ | .pick .. | .build .. | .nilChk _ | .bin .. | .un .. | .conv .. | .mkfn .. | .faddr .. | .iaddr .. | .field .. | .index .. | .ext .. | .blen _ | .slen _ | .bmin .. => 0
  | .load .. | .slice .. => 1
  | .alloc _ | .box _ | .bslice .. | .mkslice .. | .mkmap => 2
  | _ => 3

theorem fillIn_congr {e e' : Env} : ∀ (ps : List (Nat × Nat × Operand)) (cs : List Value), (∀ x ∈ ps.map (·.2.2), ev e x = ev e' x) → fillIn e cs ps = fillIn e' cs ps
  | [], _, _ => rfl
  | (off, n, x) :: r, cs, h => by
    have hx : ev e x = ev e' x := h x (by simp)
    simp only [fillIn, hx]
    split
    · split
      · exact fillIn_congr r _ (fun y hy => h y (by simp only [List.map_cons, List.mem_cons]; exact .inr hy))
      · rfl
    · rfl

theorem vals_congr {e e' : Env} {l : List Operand} (h : ∀ x ∈ l, ev e x = ev e' x) : vals e l = vals e' l := List.map_congr_left h

theorem bound_congr {e e' : Env} (x : Option Operand) (d t : Nat) (h : ∀ y ∈ x.toList, ev e y = ev e' y) : bound e x d t = bound e' x d t := by
  cases x with
  | none => rfl
  | some y => simp only [bound, h y (by simp)]

theorem opV_congr {e e' : Env} {h : Heap} (op : AOp) (hx : ∀ x ∈ op.opds, ev e x = ev e' x) : opV e h op = opV e' h op := by
  cases op with
  | build z ps => simp only [opV, fillIn_congr ps z hx]
  | bslice n z ps => simp only [opV, fillIn_congr ps z hx]
  | mkfn f caps =>
    simp only [AOp.opds] at hx
    simp only [opV, vals_congr hx]
  | slice s x lo hi mx =>
    simp only [AOp.opds, List.mem_cons, List.mem_append, or_assoc] at hx
    have h0 := hx x (.inl rfl)
    have h1 : ∀ d t, bound e lo d t = bound e' lo d t := fun d t => bound_congr lo d t fun y hy => hx y (.inr (.inl hy))
    have h2 : ∀ d t, bound e hi d t = bound e' hi d t := fun d t => bound_congr hi d t fun y hy => hx y (.inr (.inr (.inl hy)))
    have h3 : ∀ d t, bound e mx d t = bound e' mx d t := fun d t => bound_congr mx d t fun y hy => hx y (.inr (.inr (.inr hy)))
    simp only [opV, h0, h1, h2, h3]
  | pick c a b =>
    simp only [AOp.opds, List.mem_cons, List.not_mem_nil, or_false, forall_eq_or_imp, forall_eq] at hx
    simp only [opV, hx.1, hx.2.1, hx.2.2]
  | mupd n c a b =>
    simp only [AOp.opds, List.mem_cons, List.not_mem_nil, or_false, forall_eq_or_imp, forall_eq] at hx
    simp only [opV, hx.1, hx.2.1, hx.2.2]
  | alloc | mkmap | call | bad => rfl
  | store _ x y | bin _ _ x y | mkslice _ _ x y | iaddr _ _ x y | index _ x y | look _ _ _ x y | append _ _ _ x y | copy _ x y | bmin x y =>
    simp only [AOp.opds, List.mem_cons, List.not_mem_nil, or_false, forall_eq_or_imp, forall_eq] at hx
    simp only [opV, hx.1, hx.2]
  | mv x | box x | load _ x | nilChk x | rngNil x | nxt x | un _ x | conv _ x | faddr _ x | field _ _ x | ext _ x | blen x | bcap x | slen x | clear _ x =>
    simp only [AOp.opds, List.mem_cons, List.not_mem_nil, or_false, forall_eq] at hx
    simp only [opV, hx]

/-- the block that an address or a slice leads to -/
def leads : Value → Option Nat
  | .pointer (some ⟨b, _, _⟩) => some b
  | .slice (some ⟨b, _, _⟩) _ _ => some b
  | .map (some b) => some b
  | _ => none

def AOp.through : AOp → Option Operand
  | .load _ a => some a
  | .slice _ x _ _ _ => some x
  | _ => none

theorem opV_pure {e : Env} {h h' : Heap} {op : AOp} {v : Value} (hk : op.kind = 0) (hv : opV e h op = some (v, h')) : h' = h ∧ ∀ h2, opV e h2 op = some (v, h2) := by
  cases op with
  | mkfn f caps =>
    simp only [opV] at hv ⊢
    cases hb : (vals e caps).all simple <;> simp only [hb, cond_true, cond_false] at hv ⊢ <;> cases hv
    exact ⟨rfl, fun h2 => rfl⟩
  | bmin x y =>
    simp only [opV] at hv ⊢
    split at hv
    · by_cases hkk : ‹IntKind› = ‹IntKind› <;> skip
      all_goals
        split at hv
        · cases hv
          refine ⟨rfl, fun h2 => ?_⟩
          simp_all
        · cases hv
    · cases hv
  | _ =>
    simp only [AOp.kind] at hk
    first
      | (exact absurd hk (by decide))
      | (simp only [opV] at hv ⊢
         repeat' split at hv
         all_goals first
           | (cases hv; refine ⟨rfl, fun h2 => ?_⟩; first | rfl | (simp_all; done))
           | (cases hv; done))

theorem opV_reader {e : Env} {h h' : Heap} {op : AOp} {v : Value} (hk : op.kind = 1) (hv : opV e h op = some (v, h')) :
    h' = h ∧ ∃ x, op.through = some x ∧ (∀ h2, (∀ b, leads (ev e x) = some b → h2.tr.get b = h.tr.get b) → opV e h2 op = some (v, h2)) ∧ (∀ b, leads (ev e x) = some b → ∃ cs ro o s, h.tr.get b = some (.blk cs ro o s)) := by
  cases op <;> simp only [AOp.kind] at hk <;> first | (exact absurd hk (by decide)) | skip
  case load n a =>
    simp only [opV] at hv
    split at hv
    · rename_i b off heq
      split at hv
      · rename_i cs hr
        split at hv
        · rename_i v' hg
          cases hv
          refine ⟨rfl, a, rfl, ?_, ?_⟩
          · intro h2 hb
            have := hb b (by rw [heq]; rfl)
            have hr2 : readAt h2 b off (width n) = some cs := by
              unfold readAt at hr ⊢
              rw [this]; exact hr
            simp only [opV, heq, hr2, hg]
          · intro b' hb'
            rw [heq] at hb'
            cases hb'
            unfold readAt at hr
            split at hr
            · exact ⟨_, _, _, _, by assumption⟩
            · cases hr
        · cases hv
      · cases hv
    · cases hv
  case slice sz x lo hi mx =>
    simp only [opV] at hv
    split at hv
    · rename_i a len cap heq
      split at hv
      · cases hv
      · rename_i m hm
        split at hv
        · cases hv
        · rename_i hh hhi
          split at hv
          · cases hv
          · rename_i l hl
            split at hv
            · cases hv
              refine ⟨rfl, x, rfl, fun h2 _ => ?_, fun b hb => ?_⟩
              · simp only [opV, heq, hm, hhi, hl]
              · rw [heq] at hb; cases hb
            · rename_i b off
              split at hv
              · rename_i cs ro o s hg
                cases hc : (Nat.beq o 0 || Nat.beq o sz) with
                | false => rw [hc] at hv; cases hv
                | true =>
                  rw [hc] at hv
                  cases hv
                  refine ⟨rfl, x, rfl, fun h2 hb => ?_, fun b' hb => ?_⟩
                  · have := hb b (by rw [heq]; rfl)
                    simp only [opV, heq, hm, hhi, hl, this, hg, hc, cond_true]
                  · rw [heq] at hb; cases hb
                    exact ⟨_, _, _, _, hg⟩
              · cases hv
            · cases hv
    · cases hv

theorem Keeps.refl (h : Heap) : Keeps h h := ⟨Nat.le_refl _, Nat.le_refl _, fun _ _ _ _ _ _ h _ => h, id, fun _ _ h => h⟩
theorem Keeps.trans {h h1 h2 : Heap} (x : Keeps h h1) (y : Keeps h1 h2) : Keeps h h2 :=
  ⟨Nat.le_trans x.next y.next, Nat.le_trans x.clock y.clock, fun b cs ro o s hb hg hs => x.old b cs ro o s hb (y.old b cs ro o s (Nat.lt_of_lt_of_le hb x.next) hg (Nat.lt_of_lt_of_le hs x.clock)) hs, y.wf ∘ x.wf, fun b hb hg => x.mp b hb (y.mp b (Nat.lt_of_lt_of_le hb x.next) hg)⟩

theorem Keeps.new (h : Heap) (o : AObj) : Keeps h (h.new o) := by
  refine ⟨by simp [Heap.new], Nat.le_refl _, fun b cs ro op s hb hg _ => ?_, fun hw b x hb => ?_, fun b hb hg => ?_⟩
  · simp only [Heap.new, Tr.get_set] at hg
    rwa [if_neg (by omega)] at hg
  · simp only [Heap.new, Tr.get_set] at hb ⊢
    by_cases e : b = h.next
    · omega
    · rw [if_neg e] at hb
      have := hw b x hb
      omega
  · simp only [Heap.new, Tr.get_set] at hg
    rwa [if_neg (by omega)] at hg

theorem Keeps.del (h : Heap) (l : Nat) : Keeps h { h with tr := h.tr.del l } := by
  refine ⟨Nat.le_refl _, Nat.le_refl _, fun b cs ro op s hb hg _ => ?_, fun hw b x hb => ?_, fun b hb hg => ?_⟩
  · simp only [Tr.get_del] at hg
    by_cases e : b = l
    · rw [if_pos e] at hg; cases hg
    · rwa [if_neg e] at hg
  · simp only [Tr.get_del] at hb
    by_cases e : b = l
    · rw [if_pos e] at hb; cases hb
    · rw [if_neg e] at hb; exact hw b x hb
  · simp only [Tr.get_del] at hg
    by_cases e : b = l
    · rw [if_pos e] at hg; cases hg
    · rwa [if_neg e] at hg

theorem Keeps.other {h : Heap} {o : AObj} (l : Nat) (c : Nat) (hc : h.clock ≤ c) (hl : ∃ x, h.tr.get l = some x) (ho : ∀ cs ro op s, o = .blk cs ro op s → h.clock ≤ s) (hm : o ≠ .map []) : Keeps h { h with clock := c, tr := h.tr.set l o } := by
  refine ⟨Nat.le_refl _, hc, fun b cs ro op s hb hg hs => ?_, fun hw b x hb => ?_, fun b hb hg => ?_⟩
  · simp only [Tr.get_set] at hg
    by_cases e : b = l
    · rw [if_pos e] at hg; cases hg
      have := ho _ _ _ _ rfl
      omega
    · rwa [if_neg e] at hg
  · simp only [Tr.get_set] at hb
    by_cases e : b = l
    · obtain ⟨y, hy⟩ := hl
      rw [e]; exact hw l y hy
    · rw [if_neg e] at hb; exact hw b x hb
  · simp only [Tr.get_set] at hg
    by_cases e : b = l
    · rw [if_pos e] at hg; cases hg; exact absurd rfl hm
    · rwa [if_neg e] at hg

theorem Keeps.write {h h' : Heap} {b off : Nat} {vs : List Value} (hw : writeAt h b off vs = some h') : Keeps h h' := by
  unfold writeAt at hw
  split at hw
  · rename_i hg
    split at hw
    · cases hw
      exact Keeps.other b (h.clock + 1) (Nat.le_succ _) ⟨_, hg⟩ (fun cs ro op s e => by cases e; exact Nat.le_refl _) (fun e => by cases e)
    · cases hw
  · cases hw

/-- what leads to a new object -/
inductive Mk where
  | ptr
  | sl (l c : Nat)
  | mp
/-- a pointer to a block, or a slice of it, or a map -/
def mkA : Mk → Nat → Value
  | .ptr, N => .pointer (some ⟨N, 0, none⟩)
  | .sl l c, N => .slice (some ⟨N, 0, none⟩) l c
  | .mp, N => .map (some N)
/-- the new object -/
def mkO : Mk → List Value → AObj
  | .mp, _ => .map []
  | _, cells => .blk cells false 0 0

theorem opV_alloc {e : Env} {h h' : Heap} {op : AOp} {v : Value} (hk : op.kind = 2) (hv : opV e h op = some (v, h')) :
    ∃ s cells, v = mkA s h.next ∧ h' = h.new (mkO s cells) ∧ ∀ h2, opV e h2 op = some (mkA s h2.next, h2.new (mkO s cells)) := by
  cases op with
  | alloc z =>
    simp only [opV, Option.some.injEq, Prod.mk.injEq] at hv
    exact ⟨.ptr, z, hv.1.symm, hv.2.symm, fun h2 => rfl⟩
  | mkmap =>
    simp only [opV, Option.some.injEq, Prod.mk.injEq] at hv
    exact ⟨.mp, [], hv.1.symm, hv.2.symm, fun h2 => rfl⟩
  | box x =>
    simp only [opV] at hv
    split at hv
    · rename_i vs hf
      cases hv
      exact ⟨.ptr, vs, rfl, rfl, fun h2 => by simp only [opV, hf]; rfl⟩
    · cases hv
  | bslice n z ps =>
    simp only [opV] at hv
    split at hv
    · rename_i cs hf
      cases hv
      exact ⟨.sl n n, cs, rfl, rfl, fun h2 => by simp only [opV, hf]; rfl⟩
    · cases hv
  | mkslice z n l c =>
    simp only [opV] at hv
    split at hv
    · rename_i ll cc h1 h2
      split at hv
      · rename_i hb
        cases hv
        exact ⟨.sl ll cc, repl z cc, rfl, rfl, fun h3 => by simp only [opV, h1, h2, hb, if_true]; rfl⟩
      · cases hv
    · cases hv
  | _ => simp only [AOp.kind] at hk; cases hk

theorem append_keeps {h h' : Heap} {z : List Value} {bytes : Nat} {s : Value} {n : Nat} {cs : List Value} {v : Value} (hv : appendV h z bytes s n cs = some (v, h')) : Keeps h h' := by
  unfold appendV at hv
  dsimp only at hv
  repeat' split at hv
  all_goals first
    | (cases hv; done)
    | (cases hv; exact Keeps.refl _)
    | (cases hv; exact Keeps.new _ _)
    | (rename_i hw; cases hv; exact Keeps.write hw)
    | (cases hv; exact (Keeps.del _ _).trans (Keeps.new _ _))
    | skip

theorem updIn_ne {n : List Nat} {k v : Value} {es es' : List (Value × Value)} (h : updIn n k v es = some es') : es' ≠ [] := by
  cases es with
  | nil =>
    simp only [updIn] at h
    split at h <;> cases h
    exact List.cons_ne_nil _ _
  | cons x r =>
    obtain ⟨k', v'⟩ := x
    simp only [updIn] at h
    repeat' split at h
    all_goals (cases h; try exact List.cons_ne_nil _ _)

theorem opV_keeps {e : Env} {h h' : Heap} {op : AOp} {v : Value} (hv : opV e h op = some (v, h')) : Keeps h h' := by
  by_cases h0 : op.kind = 0
  · rw [(opV_pure h0 hv).1]; exact .refl h
  by_cases h1 : op.kind = 1
  · rw [(opV_reader h1 hv).1]; exact .refl h
  by_cases h2 : op.kind = 2
  · obtain ⟨_, cs, _, rfl, _⟩ := opV_alloc h2 hv; exact .new h _
  cases op with
  | store n a x =>
    simp only [opV] at hv
    repeat' split at hv
    all_goals first
      | (cases hv; done)
      | (rename_i hw; cases hv; exact Keeps.write hw)
  | look n z ok x i =>
    simp only [opV] at hv
    cases hko : keyOk n (ev e i) with
    | false => rw [hko] at hv; cases hv
    | true =>
    simp only [hko, cond_true] at hv
    repeat' split at hv
    all_goals first
      | (cases hv; done)
      | (cases hv; exact .refl h)
  | mupd n m k x =>
    simp only [opV] at hv
    cases hko : keyOk n (ev e k) with
    | false => rw [hko] at hv; cases hv
    | true =>
    simp only [hko, cond_true] at hv
    repeat' split at hv
    all_goals first
      | (cases hv; done)
      | (rename_i hg _ _ _; cases hv; exact Keeps.other _ _ (Nat.le_succ _) ⟨_, hg⟩ (fun _ _ _ _ e => by cases e) (fun e => by cases e; exact updIn_ne (by assumption) rfl))
  | rngNil x =>
    simp only [opV] at hv
    split at hv
    · cases hv; exact .new h _
    · cases hv
  | nxt x =>
    simp only [opV] at hv
    repeat' split at hv
    all_goals first
      | (cases hv; done)
      | (cases hv; exact .refl h)
  | append z bytes zs s x =>
    simp only [opV] at hv
    split at hv
    · exact append_keeps hv
    · cases hv
  | copy sz d s =>
    simp only [opV] at hv
    repeat' split at hv
    all_goals first
      | (cases hv; done)
      | (cases hv; exact .refl h)
      | (rename_i hw; cases hv; exact Keeps.write hw)
  | clear z x =>
    simp only [opV] at hv
    repeat' split at hv
    all_goals first
      | (cases hv; done)
      | (cases hv; exact .refl h)
      | (rename_i hw; cases hv; exact Keeps.write hw)
  | bcap x =>
    simp only [opV] at hv
    repeat' split at hv
    all_goals first
      | (cases hv; done)
      | (cases hv; exact .refl h)
  | call f args => simp [opV] at hv
  | bad => simp [opV] at hv
  | _ => first | exact absurd rfl h0 | exact absurd rfl h1 | exact absurd rfl h2

section
variable {F : Nat → Option AFunc} {ih : ACode → Env → Heap → R}

/-- a run leaves alone what it does not write -/
def KeepsAll (ih : ACode → Env → Heap → R) : Prop := ∀ c e h x e' h', ih c e h = some (x, e', h') → Keeps h h'

theorem callF_keeps (hK : KeepsAll ih) {f : Nat} {args : List Value} {h h' : Heap} {v : Value} (hc : callF F ih f args h = some (v, h')) : Keeps h h' := by
  unfold callF callG at hc
  split at hc
  · cases hc
  · split at hc
    · cases hc
    · rename_i hp _; exact hp _ _ _ _ hc
    split at hc
    all_goals first
      | (cases hc; done)
      | (rename_i hr
         split at hc
         · rename_i vs _
           cases hb : resultOk vs <;> simp only [hb, cond_true, cond_false] at hc <;> cases hc
           exact hK _ _ _ _ _ _ hr
         · cases hc)

theorem setLoop_keeps {h : Heap} {l : Nat} {x : AObj} (hx : h.tr.get l = some x) (env : Env) (ps : List Nat) (asg body : ACode) (st : LSt) : Keeps h (setLoop h l env ps asg body st) :=
  Keeps.other l h.clock (Nat.le_refl _) ⟨x, hx⟩ (fun _ _ _ _ e => by cases e) (fun e => by cases e)

theorem roundE_keeps {l : Nat} {h h' : Heap} {st : LSt} {b : Bool} {v : Value} (hc : roundE l h st b = some (v, h')) : Keeps h h' := by
  unfold roundE at hc
  split at hc
  · rename_i hg; cases hc; exact setLoop_keeps hg ..
  · cases hc

theorem roundF_keeps (hK : KeepsAll ih) {l : Nat} {args : List Value} {h h' : Heap} {v : Value} (hc : roundF ih l args h = some (v, h')) : Keeps h h' := by
  unfold roundF at hc
  split at hc
  · split at hc
    · cases hc
    · split at hc
      · rename_i hr
        refine (hK _ _ _ _ _ _ hr).trans ?_
        unfold roundB at hc
        split at hc
        · rename_i hg
          split at hc
          all_goals first
            | (cases hc; done)
            | (rename_i hr2; exact (setLoop_keeps hg _ _ _ _ _).trans ((hK _ _ _ _ _ _ hr2).trans (roundE_keeps hc)))
        · cases hc
      · cases hc
  · cases hc

theorem callV_keeps (hK : KeepsAll ih) {fv : Value} {args : List Value} {h h' : Heap} {v : Value} (hc : callV F ih fv args h = some (v, h')) : Keeps h h' := by
  unfold callV at hc
  split at hc
  · rcases callG_true hc with hc | ⟨_, _, _, hc⟩
    · exact callF_keeps hK hc
    · rw [(ovlV_same hc).2.1]; exact .refl h
  · exact roundF_keeps hK hc
  · cases hc

theorem operF_keeps (hK : KeepsAll ih) {o : AOper} {e e' : Env} {h h' : Heap} (hc : operF F ih o e h = some (e', h')) : Keeps h h' := by
  unfold operF at hc
  cases hw : wanted e o.guard <;> simp only [hw, cond_true, cond_false] at hc
  · cases hc; exact .refl h
  · split at hc
    · split at hc
      · rename_i hv; cases hc; exact callV_keeps hK hv
      · cases hc
    · split at hc
      · rename_i hv; cases hc; exact opV_keeps hv
      · cases hc

theorem opsF_keeps (hK : KeepsAll ih) : ∀ (l : List AOper) {e e' : Env} {h h' : Heap}, opsF F ih l e h = some (e', h') → Keeps h h'
  | [], _, _, _, _, hc => by simp only [opsF] at hc; cases hc; exact .refl _
  | o :: r, _, _, _, _, hc => by
    simp only [opsF] at hc
    split at hc
    · rename_i ho; exact (operF_keeps hK ho).trans (opsF_keeps hK r hc)
    · cases hc

theorem drawF_keeps (hK : KeepsAll ih) (c : Nat) : ∀ (l : List (AOper × List Nat)) {e e' : Env} {h h' : Heap}, drawF F ih c l e h = some (e', h') → Keeps h h'
  | [], _, _, _, _, hc => by simp only [drawF] at hc; cases hc; exact .refl _
  | (o, chk) :: r, _, _, _, _, hc => by
    simp only [drawF] at hc
    split at hc
    · rename_i e1 h1 ho
      cases hs : still e1 h1 c chk <;> simp only [hs, cond_true, cond_false] at hc
      · cases hc
      · exact (operF_keeps hK ho).trans (drawF_keeps hK c r hc)
    · cases hc

theorem stepC_keeps (hK : KeepsAll ih) : KeepsAll (stepC F ih) := by
  intro c e h x e' h' hc
  cases c with
  | skip | exit | ret => simp only [stepC] at hc; cases hc; exact .refl h
  | ops l =>
    simp only [stepC] at hc
    split at hc
    · rename_i ho; cases hc; exact opsF_keeps hK l ho
    · cases hc
  | draw l =>
    simp only [stepC] at hc
    split at hc
    · rename_i ho; cases hc
      have h1 : Keeps h { h with clock := h.clock + 1 } := ⟨Nat.le_refl _, Nat.le_succ _, fun _ _ _ _ _ _ q _ => q, id, fun _ _ q => q⟩
      exact h1.trans (drawF_keeps hK _ l ho)
    · cases hc
  | seq a b =>
    simp only [stepC] at hc
    split at hc
    · rename_i ho; exact (hK _ _ _ _ _ _ ho).trans (hK _ _ _ _ _ _ hc)
    · exact hK _ _ _ _ _ _ hc
  | cond q a b =>
    simp only [stepC] at hc
    split at hc
    · exact hK _ _ _ _ _ _ hc
    · exact hK _ _ _ _ _ _ hc
    · cases hc
  | block id a =>
    simp only [stepC] at hc
    split at hc
    · rename_i i _ _ ho
      cases hb : Nat.beq i id <;> simp only [hb, cond_true, cond_false] at hc <;> cases hc <;> exact hK _ _ _ _ _ _ ho
    · exact hK _ _ _ _ _ _ hc
  | loop a =>
    simp only [stepC] at hc
    split at hc
    · rename_i ho; exact (hK _ _ _ _ _ _ ho).trans (hK _ _ _ _ _ _ hc)
    · exact hK _ _ _ _ _ _ hc
  | rng f ps asg body =>
    simp only [stepC] at hc
    split at hc
    · split at hc
      · rename_i hcall
        have h1 := (Keeps.new h (.loop e ps asg body .ready)).trans (callF_keeps hK hcall)
        split at hc
        all_goals first
          | (cases hc; done)
          | (cases hc; exact h1.trans (Keeps.del _ _))
      · cases hc
    · cases hc
  | bad => simp [stepC] at hc

theorem run_keeps : ∀ fuel, KeepsAll (run F fuel) := by
  intro fuel
  induction fuel with
  | zero => intro c e h x e' h' hc; cases hc
  | succ m ihm => exact stepC_keeps ihm
end
end Go.AI
