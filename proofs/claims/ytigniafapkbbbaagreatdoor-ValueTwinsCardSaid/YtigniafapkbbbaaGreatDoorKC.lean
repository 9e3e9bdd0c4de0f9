/- Contract: dom.TreeOf of a function of one block that returns; ssa's Repeat. -/
import Derived.Test.YtigniafapkbbbaaGreatDoorKB
namespace Go.Proofs.YtigniafapkbbbaaGreatDoor
open Go.AI

def encI : Enc Int := ⟨fun x => [.int .i64 x], 1, fun _ => rfl, by decide, fun _ => rfl⟩
@[simp] theorem encI_sz : encI.sz = 1 := rfl
@[simp] theorem encI_enc (x : Int) : encI.enc x = [.int .i64 x] := rfl
def encW : Enc (Int × Int) := ⟨fun x => [.int .i64 x.1, .int .i64 x.2], 2, fun _ => rfl, by decide, fun _ => rfl⟩
@[simp] theorem encW_sz : encW.sz = 2 := rfl
@[simp] theorem encW_enc (x : Int × Int) : encW.enc x = [.int .i64 x.1, .int .i64 x.2] := rfl

theorem slice_one {α : Type} {E : Enc α} {h : Heap} {b : Nat} {ro : Bool} {o s c : Nat} {x : α} (hb : h.tr.get b = some (.blk (E.enc x) ro o s)) : SliceOf E h (.slice (some ⟨b, 0, none⟩) 1 c) [x] :=
  ⟨_, c, rfl, .inr ⟨b, 0, _, ro, o, s, rfl, hb, by simp [E.len], by simp [List.take_of_length_le, E.len]⟩⟩

theorem repeat_ints {h : Heap} (ok : HOk h) (n : Nat) (hn : 0 < n ∧ n < 1000000) {b ro o s c : Nat} {rb : Bool} {x : Int} (hb : h.tr.get b = some (.blk [.int .i64 x] rb o s)) :
    Does FF n_slices_Repeat_int_int [.slice (some ⟨b, 0, none⟩) 1 c, .int .i64 n] h (fun v h' => Grows Nob h h' ∧ ∃ d s, v = .slice (some ⟨d, 0, none⟩) n n ∧ h.next ≤ d ∧ h'.tr.get d = some (.blk (encI.flat (List.replicate n x)) false 0 s)) :=
  repeat_does encI (z := [.int .i64 0]) (bytes := 8) c_slices_Repeat_int_int (by decide) 0 x rfl ok n hn (slice_one hb)

theorem repeat_written {h : Heap} (ok : HOk h) (n : Nat) (hn : 0 < n ∧ n < 1000000) {b ro o s c : Nat} {rb : Bool} {x : Int × Int} (hb : h.tr.get b = some (.blk [.int .i64 x.1, .int .i64 x.2] rb o s)) :
    Does FF n_slices_Repeat_ssa_written_ssa_written [.slice (some ⟨b, 0, none⟩) 1 c, .int .i64 n] h (fun v h' => Grows Nob h h' ∧ ∃ d s, v = .slice (some ⟨d, 0, none⟩) n n ∧ h.next ≤ d ∧ h'.tr.get d = some (.blk (encW.flat (List.replicate n x)) false 0 s)) :=
  repeat_does encW (z := [.int .i64 0, .int .i64 0]) (bytes := 16) c_slices_Repeat_ssa_written_ssa_written (by decide) (0, 0) x rfl ok n hn (slice_one hb)

theorem tree_one {h : Heap} (ok : HOk h) {name : ByteArray} {params regs : Int} {blocks phis list to : SV} {r : Bool} {n : Int} (hB : OneB h blocks phis list r n to) (hto : to.l = 0) :
    Does FF n_dom_TreeOf [.agg ⟨fnCells name params regs blocks⟩] h (fun v h' => Grows Nob h h' ∧ ∃ d, v = .slice (some ⟨d, 0, none⟩) 1 1 ∧ h.next ≤ d ∧ ∃ s, h'.tr.get d = some (.blk [.int .i64 (-1)] false 0 s)) := by
  obtain ⟨hl, b, ro, o, s, ha, hb⟩ := id hB
  have w1 : IntKind.i64.wrap (0 + 1) = 1 := wrap_i64 _ (by omega) (by omega)
  have w1' : IntKind.i64.wrap 1 = 1 := wrap_i64 _ (by omega) (by omega)
  have oB := ok.old hb
  refine Does.of c_dom_TreeOf ?_
  unfold b_dom_TreeOf
  simp [fnCells, hl, ha]
  have g0 := grow_newBlk ok (fnCells name params regs blocks) 0
  have hF0 := get_newBlk h (fnCells name params regs blocks) 0
  have e0 : newBlk h [.string name, .int .i64 params, .int .i64 regs, .slice (some ⟨b, 0, none⟩) 1 blocks.c] 0 = newBlk h (fnCells name params regs blocks) 0 := by simp [fnCells, hl, ha]
  rw [e0]
  generalize newBlk h (fnCells name params regs blocks) 0 = h0 at *
  refine OpsR.call (by simpa [fnCells, hl, ha] using order_does g0.ok (name := name) (params := params) (regs := regs) (hB.grow ok g0) hto) ?_
  rintro _ h1 ⟨g1, d1, rfl, hd1, s1, hdd1⟩
  have hF1 := g1.get g0.ok hF0 (fun h => h)
  have hF1' : h1.tr.get h.next = some (.blk [.string name, .int .i64 params, .int .i64 regs, .slice (some ⟨b, 0, none⟩) 1 blocks.c] false 0 0) := by rw [hF1]; simp [fnCells, hl, ha]
  have oF1 := g1.ok.old hF1
  have od1 := g1.ok.old hdd1
  simp [hF1', oF1, roomy, repl]
  refine OpsR.cut (fun h2 => Grows Nob h1 h2 ∧ (∃ s, h2.tr.get h1.next = some (.blk [.int .i64 0] false 0 s)) ∧ ∃ o s, h2.tr.get (h1.next + 1) = some (.blk [.int .i64 (-1)] false o s)) ⟨((Grows.refl g1.ok).new _ _).new _ _, ⟨0, by simp⟩, ⟨0, 0, by simp⟩⟩ ?_
  rintro h2 ⟨g2, ⟨s2, hA2⟩, o3, s3, hM2⟩
  refine OpsR.call (by simpa using repeat_ints g2.ok 1 (by omega) (ro := 0) hM2) ?_
  rintro _ h3 ⟨g3, up, rfl, hup, s4, hU3⟩
  have hA3 := g3.get g2.ok hA2 (fun h => h)
  have hF3 := (g2.trans g3).get g1.ok hF1' (fun h => h)
  have hd3 := (g2.trans g3).get g1.ok hdd1 (fun h => h)
  have hU3' : h3.tr.get up = some (.blk [.int .i64 (-1)] false 0 s4) := by simpa using hU3
  have n1 : ¬ up = h1.next := by have := g2.next; have := g2.ok.old hA2; have := this.lt; omega
  have n2 : ¬ h.next = h1.next := by have := oF1.lt; omega
  have n3 : ¬ h.next = up := by have := oF1.lt; have := g2.next; omega
  have n4 : ¬ d1 = h1.next := by have := od1.lt; omega
  simp
  rw [runs_loop]
  unfold r_dom_TreeOf_3
  simp [hd3, hA3, w1, w1', n4]
  rw [runs_loop]
  simp [hU3', n1, n2, n3, hF3]
  refine OpsR.cut (fun h4 => Grows Nob h1 h4 ∧ (∃ s, h4.tr.get up = some (.blk [.int .i64 0] false 0 s))) ⟨((g2.trans g3).put ⟨_, hA3⟩ (.inl (Nat.le_refl _))).put ⟨s4, by simp [hU3', n1]⟩ (.inl (by have := g2.next; omega)), ⟨_, by simp; rfl⟩⟩ ?_
  rintro h4 ⟨g4, s5, hU4⟩
  have gg4 := (g0.trans g1).trans g4
  refine OpsR.call (by simpa [fnCells, hl, ha] using gahead_one gg4.ok (name := name) (params := params) (regs := regs) (hB.grow ok gg4) hto) ?_
  rintro _ h5 ⟨g5, ah, rfl, hah, s6, hA5⟩
  have hU5 := g5.get gg4.ok hU4 (fun h => h)
  have hd5 := (g4.trans g5).get g1.ok hdd1 (fun h => h)
  simp
  rw [runs_loop]
  unfold r_dom_TreeOf_2
  simp [hd5]
  rw [runs_loop]
  unfold r_dom_TreeOf_1
  simp
  rw [runs_loop]
  simp [hU5]
  refine ⟨(gg4.trans g5).put ⟨_, hU5⟩ (.inl ?_), ?_⟩
  · have := g2.next; have := g1.next; have := g0.next; omega
  · have := g2.next; have := g1.next; have := g0.next; omega
end Go.Proofs.YtigniafapkbbbaaGreatDoor

/- A rule: loops over core.Vals of an instruction that reckons with two. -/
namespace Go.Proofs.YtigniafapkbbbaaGreatDoor
open Go.AI

theorem grow_setLoop {h : Heap} (ok : HOk h) {l : Nat} {ob : AObj} (hl : h.tr.get l = some ob) (env : Env) (ps : List Nat) (asg body : ACode) (st : LSt) : Grows (· = l) h (setLoop h l env ps asg body st) := by
  refine ⟨Nat.le_refl _, Nat.le_refl _, fun x hx hn => ?_, ⟨fun x o hx => ?_, fun x cs ro o s hx => ?_⟩⟩
  · simp only [setLoop, Tr.get_set]; rw [if_neg hn]
  · simp only [setLoop, Tr.get_set] at hx ⊢
    by_cases e : x = l
    · subst e; exact ok.wf _ _ hl
    · rw [if_neg e] at hx; exact ok.wf x o hx
  · simp only [setLoop, Tr.get_set] at hx ⊢
    by_cases e : x = l
    · rw [if_pos e] at hx; cases hx
    · rw [if_neg e] at hx; exact ok.st x cs ro o s hx

theorem get_setLoop (h : Heap) (l : Nat) (env : Env) (ps : List Nat) (asg body : ACode) (st : LSt) : (setLoop h l env ps asg body st).tr.get l = some (.loop env ps asg body st) := by
  simp [setLoop, Tr.get_set]

/-- one round -/
theorem round_one {S : Nat → Prop} {h1 : Heap} (ok : HOk h1) {l p : Nat} {e : Env} {asg body : ACode} {v : Value} {K : Heap → Prop} (hS : ¬ S l) (hl : h1.tr.get l = some (.loop e [p] asg body .ready))
    (H : Runs FF asg (Tr.set e p v) h1 (fun x e2 h2 => x = .normal ∧ Grows Nob h1 h2 ∧ ∀ h3, Grows (· = l) h2 h3 → Runs FF body e2 h3 (fun x _ h4 => x = .normal ∧ Grows S h3 h4 ∧ K h4)))
    (hK : ∀ h4 h5, K h4 → HOk h4 → Grows (· = l) h4 h5 → K h5) :
    DoesV FF (.func (.yield l) #[] #[]) [v] h1 (fun r h5 => r = .bool true ∧ Grows (fun x => S x ∨ x = l) h1 h5 ∧ h5.tr.get l = some (.loop e [p] asg body .ready) ∧ K h5) := by
  refine DoesV.yield hl (by simp [setParams]; rfl) ?_
  refine H.mono ?_
  rintro x e2 h2 ⟨rfl, g2, H2⟩
  have hl2 := g2.get ok hl (fun h => h)
  refine ⟨rfl, hl2, ?_⟩
  have gs := grow_setLoop g2.ok hl2 e [p] asg body .busy
  refine (H2 _ gs).mono ?_
  rintro x e3 h4 ⟨rfl, g4, k4⟩
  have hl4 := g4.get gs.ok (get_setLoop h2 l e [p] asg body .busy) hS
  have gt := grow_setLoop g4.ok hl4 e [p] asg body .ready
  refine ⟨⟨_, _, _, _, hl4, rfl, rfl, rfl, rfl⟩, rfl, ?_, get_setLoop _ _ _ _ _ _ _, hK _ _ k4 g4.ok gt⟩
  exact ((g2.nob.trans' gs (fun _ _ h => h) (fun _ _ h => .inr h)).trans' g4 (fun _ _ h => h) (fun _ _ h => .inl h)).trans' gt (fun _ _ h => h) (fun _ _ h => .inr h)

/-- A loop over the values of an instruction. S: old blocks that the rounds change; B: from there on are blocks that the first round made. -/
theorem rng_vals {Q : AExit → Env → Heap → Prop} {e : Env} {h : Heap} (ok : HOk h) {f : Operand} {p X : Nat} {asg body : ACode} {op dst an bn fn : Int} {ar br : Bool} {args : SV} {ro : Bool} {o s : Nat} (J0 : Heap → Prop) (J1 : Nat → Heap → Prop) (J2 : Heap → Prop) (S : Nat → Prop)
    (hf : ev e f = .func (.func n_core_Vals_1) #[] #[.pointer (some ⟨X, 0, none⟩)]) (hX : h.tr.get X = some (.blk (insCells op dst ar an br bn fn args.v) ro o s)) (hop : 2 ≤ op ∧ op ≤ 15) (hargs : args.l = 0) (hS : ∀ x, S x → x < h.next ∧ x ≠ X)
    (j0 : J0 h) (hJ0 : ∀ h1 h2, J0 h1 → HOk h1 → Grows (· = h.next) h1 h2 → J0 h2) (hJ1 : ∀ B h1 h2, h.next < B → J1 B h1 → HOk h1 → Grows (· = h.next) h1 h2 → J1 B h2) (hJ2 : ∀ h1 h2, J2 h1 → HOk h1 → Grows (· = h.next) h1 h2 → J2 h2)
    (hstep0 : ∀ h1, HOk h1 → Grows Nob h h1 → h.next < h1.next → J0 h1 → Runs FF asg (Tr.set e p (.agg ⟨[.bool ar, .int .i64 an]⟩)) h1 (fun x e2 h2 => x = .normal ∧ Grows Nob h1 h2 ∧ ∀ h3, Grows (· = h.next) h2 h3 → Runs FF body e2 h3 (fun x _ h4 => x = .normal ∧ Grows S h3 h4 ∧ J1 h1.next h4)))
    (hstep1 : ∀ B h1, HOk h1 → h.next < B → B ≤ h1.next → Grows S h h1 → J1 B h1 → Runs FF asg (Tr.set e p (.agg ⟨[.bool br, .int .i64 bn]⟩)) h1 (fun x e2 h2 => x = .normal ∧ Grows Nob h1 h2 ∧ ∀ h3, Grows (· = h.next) h2 h3 → Runs FF body e2 h3 (fun x _ h4 => x = .normal ∧ Grows (fun x => S x ∨ B ≤ x) h3 h4 ∧ J2 h4)))
    (hQ : ∀ h', Grows S h h' → J2 h' → Q .normal e h') : Runs FF (.rng f [p] asg body) e h Q := by
  have oX := ok.old hX
  have g0 : Grows Nob h (h.new (.loop e [p] asg body .ready)) := by
    refine ⟨Nat.le_succ _, Nat.le_refl _, fun b hb _ => get_new_ne _ hb, ⟨fun b ob hb => ?_, fun b cs ro op s hb => ?_⟩⟩
    · simp only [Heap.new, Tr.get_set] at hb ⊢
      by_cases e : b = h.next
      · omega
      · rw [if_neg e] at hb; exact Nat.lt_succ_of_lt (ok.wf b ob hb)
    · simp only [Heap.new, Tr.get_set] at hb ⊢
      by_cases e : b = h.next
      · rw [if_pos e] at hb; cases hb
      · rw [if_neg e] at hb; exact ok.st b cs ro op s hb
  have hl0 : (h.new (.loop e [p] asg body .ready)).tr.get h.next = some (.loop e [p] asg body .ready) := by simp [Heap.new, Tr.get_set]
  have hX0 := g0.get ok hX (fun h => h)
  have hn0 : (h.new (.loop e [p] asg body .ready)).next = h.next + 1 := rfl
  have J0' : J0 (h.new (.loop e [p] asg body .ready)) := hJ0 _ _ j0 ok (g0.weak fun _ _ h => h.elim)
  refine Runs.rng (first := #[]) (caps := #[.pointer (some ⟨X, 0, none⟩)]) hf ?_
  generalize h.new (.loop e [p] asg body .ready) = h0 at *
  have hsh := shape_two hop
  refine Does.of c_core_Vals_1 ?_
  unfold b_core_Vals_1
  have hX0' : h0.tr.get X = some (.blk [.int .i64 op, .int .i64 dst, .bool ar, .int .i64 an, .bool br, .int .i64 bn, .int .i64 fn, .slice args.a 0 args.c] ro o s) := by rw [hX0]; simp [insCells, hargs]
  simp [hX0']
  refine OpsR.call (V := fun v h' => v = .agg #[.bool true, .bool true, .bool true] ∧ Grows Nob h0 h') (by have := shapes_does h0 g0.ok op; rw [hsh] at this; simpa using this) ?_
  rintro _ h1 ⟨rfl, g1⟩
  have hX1 := g1.get g0.ok hX0' (fun h => h)
  have oX1 := g1.ok.old hX1
  simp [hX1, oX1]
  refine OpsR.cut (fun h2 => Grows Nob h0 h2 ∧ h2.tr.get h1.next = some (.blk [.bool true, .bool true, .bool true] false 0 h1.clock)) ⟨g1.var _ _, by simp⟩ ?_
  rintro h2 ⟨g2, hS2⟩
  have hl2 := g2.get g0.ok hl0 (fun h => h)
  have hX2 := g2.get g0.ok hX0' (fun h => h)
  have lt1 : h.next < h1.next := by have := g1.next; omega
  have lt2 : h1.next < h2.next := g2.ok.old hS2
  have hSl : ¬ S h.next := fun hs => by have := (hS _ hs).1; omega
  refine OpsR.callV (V := fun r h5 => r = .bool true ∧ Grows (fun x => S x ∨ x = h.next) h2 h5 ∧ h5.tr.get h.next = some (.loop e [p] asg body .ready) ∧ J1 h2.next h5) ?_ ?_
  · simp
    exact round_one g2.ok hSl hl2 (hstep0 h2 g2.ok (g0.trans g2) (by omega) (hJ0 _ _ J0' g0.ok (g2.weak fun _ _ h => h.elim))) (fun _ _ k ok g => hJ1 _ _ _ (by omega) k ok g)
  rintro _ h3 ⟨rfl, g3, hl3, j3⟩
  have hX3 := g3.get g2.ok hX2 (by rintro (hs | he); exact (hS _ hs).2 rfl; exact absurd he (Nat.ne_of_lt oX.lt))
  have hS3 := g3.get g2.ok hS2 (by rintro (hs | he); have := (hS _ hs).1; omega; omega)
  simp [hX3, hS3]
  have gg3 : Grows S h h3 := ((g0.trans g2).nob.trans' g3 (fun _ _ h => h) (by rintro x hx (hs | he); exact hs; omega))
  refine OpsR.callV (V := fun r h5 => r = .bool true ∧ Grows (fun x => (S x ∨ h2.next ≤ x) ∨ x = h.next) h3 h5 ∧ h5.tr.get h.next = some (.loop e [p] asg body .ready) ∧ J2 h5) ?_ ?_
  · simp
    refine round_one g3.ok (by rintro (hs | he); exact hSl hs; omega) hl3 (hstep1 h2.next h3 g3.ok (by omega) g3.next gg3 j3) (fun _ _ k ok g => hJ2 _ _ k ok g)
  rintro _ h4 ⟨rfl, g4, hl4, j4⟩
  have hX4 := g4.get g3.ok hX3 (by rintro ((hs | he) | he); exact (hS _ hs).2 rfl; have := oX.lt; omega; exact absurd he (Nat.ne_of_lt oX.lt))
  simp [hX4]
  rw [runs_loop]
  unfold r_core_Vals_1_0
  simp
  have gg4 : Grows S h h4 := gg3.trans' g4 (fun _ _ h => h) (by rintro x hx ((hs | he) | he); exact hs; omega; omega)
  refine RngEnd.ready hl4 ?_
  have gd : Grows (· = h.next) h4 (dropL h4 h.next) := grow_del g4.ok h.next
  exact hQ _ (gg4.trans' gd (fun _ _ h => h) (by rintro x hx rfl; omega)) (hJ2 _ _ j4 g4.ok gd)

/-- The same, of an instruction of one value. -/
theorem rng_one {Q : AExit → Env → Heap → Prop} {e : Env} {h : Heap} (ok : HOk h) {f : Operand} {p X : Nat} {asg body : ACode} {op dst an bn fn : Int} {ar br : Bool} {args : SV} {ro : Bool} {o s : Nat} (J0 : Heap → Prop) (J2 : Heap → Prop) (S : Nat → Prop)
    (hf : ev e f = .func (.func n_core_Vals_1) #[] #[.pointer (some ⟨X, 0, none⟩)]) (hX : h.tr.get X = some (.blk (insCells op dst ar an br bn fn args.v) ro o s)) (hop : op = 1 ∨ op = 16 ∨ op = 17) (hargs : args.l = 0) (hS : ∀ x, S x → x < h.next ∧ x ≠ X)
    (j0 : J0 h) (hJ0 : ∀ h1 h2, J0 h1 → HOk h1 → Grows (· = h.next) h1 h2 → J0 h2) (hJ2 : ∀ h1 h2, J2 h1 → HOk h1 → Grows (· = h.next) h1 h2 → J2 h2)
    (hstep0 : ∀ h1, HOk h1 → Grows Nob h h1 → h.next < h1.next → J0 h1 → Runs FF asg (Tr.set e p (.agg ⟨[.bool ar, .int .i64 an]⟩)) h1 (fun x e2 h2 => x = .normal ∧ Grows Nob h1 h2 ∧ ∀ h3, Grows (· = h.next) h2 h3 → Runs FF body e2 h3 (fun x _ h4 => x = .normal ∧ Grows S h3 h4 ∧ J2 h4)))
    (hQ : ∀ h', Grows S h h' → J2 h' → Q .normal e h') : Runs FF (.rng f [p] asg body) e h Q := by
  have oX := ok.old hX
  have g0 : Grows Nob h (h.new (.loop e [p] asg body .ready)) := by
    refine ⟨Nat.le_succ _, Nat.le_refl _, fun b hb _ => get_new_ne _ hb, ⟨fun b ob hb => ?_, fun b cs ro op s hb => ?_⟩⟩
    · simp only [Heap.new, Tr.get_set] at hb ⊢
      by_cases e : b = h.next
      · omega
      · rw [if_neg e] at hb; exact Nat.lt_succ_of_lt (ok.wf b ob hb)
    · simp only [Heap.new, Tr.get_set] at hb ⊢
      by_cases e : b = h.next
      · rw [if_pos e] at hb; cases hb
      · rw [if_neg e] at hb; exact ok.st b cs ro op s hb
  have hl0 : (h.new (.loop e [p] asg body .ready)).tr.get h.next = some (.loop e [p] asg body .ready) := by simp [Heap.new, Tr.get_set]
  have hX0 := g0.get ok hX (fun h => h)
  have hn0 : (h.new (.loop e [p] asg body .ready)).next = h.next + 1 := rfl
  have J0' : J0 (h.new (.loop e [p] asg body .ready)) := hJ0 _ _ j0 ok (g0.weak fun _ _ h => h.elim)
  refine Runs.rng (first := #[]) (caps := #[.pointer (some ⟨X, 0, none⟩)]) hf ?_
  generalize h.new (.loop e [p] asg body .ready) = h0 at *
  have hsh := shape_one hop
  refine Does.of c_core_Vals_1 ?_
  unfold b_core_Vals_1
  have hX0' : h0.tr.get X = some (.blk [.int .i64 op, .int .i64 dst, .bool ar, .int .i64 an, .bool br, .int .i64 bn, .int .i64 fn, .slice args.a 0 args.c] ro o s) := by rw [hX0]; simp [insCells, hargs]
  simp [hX0']
  refine OpsR.call (V := fun v h' => v = .agg #[.bool true, .bool true, .bool false] ∧ Grows Nob h0 h') (by have := shapes_does h0 g0.ok op; rw [hsh] at this; simpa using this) ?_
  rintro _ h1 ⟨rfl, g1⟩
  have hX1 := g1.get g0.ok hX0' (fun h => h)
  have oX1 := g1.ok.old hX1
  simp [hX1, oX1]
  refine OpsR.cut (fun h2 => Grows Nob h0 h2 ∧ h2.tr.get h1.next = some (.blk [.bool true, .bool true, .bool false] false 0 h1.clock)) ⟨g1.var _ _, by simp⟩ ?_
  rintro h2 ⟨g2, hS2⟩
  have hl2 := g2.get g0.ok hl0 (fun h => h)
  have hX2 := g2.get g0.ok hX0' (fun h => h)
  have lt1 : h.next < h1.next := by have := g1.next; omega
  have lt2 : h1.next < h2.next := g2.ok.old hS2
  have hSl : ¬ S h.next := fun hs => by have := (hS _ hs).1; omega
  refine OpsR.callV (V := fun r h5 => r = .bool true ∧ Grows (fun x => S x ∨ x = h.next) h2 h5 ∧ h5.tr.get h.next = some (.loop e [p] asg body .ready) ∧ J2 h5) ?_ ?_
  · simp
    exact round_one g2.ok hSl hl2 (hstep0 h2 g2.ok (g0.trans g2) (by omega) (hJ0 _ _ J0' g0.ok (g2.weak fun _ _ h => h.elim))) (fun _ _ k ok g => hJ2 _ _ k ok g)
  rintro _ h3 ⟨rfl, g3, hl3, j3⟩
  have hX3 := g3.get g2.ok hX2 (by rintro (hs | he); exact (hS _ hs).2 rfl; exact absurd he (Nat.ne_of_lt oX.lt))
  have hS3 := g3.get g2.ok hS2 (by rintro (hs | he); have := (hS _ hs).1; omega; omega)
  simp [hX3, hS3]
  have gg3 : Grows S h h3 := ((g0.trans g2).nob.trans' g3 (fun _ _ h => h) (by rintro x hx (hs | he); exact hs; omega))
  rw [runs_loop]
  unfold r_core_Vals_1_0
  simp
  refine RngEnd.ready hl3 ?_
  have gd : Grows (· = h.next) h3 (dropL h3 h.next) := grow_del g3.ok h.next
  exact hQ _ (gg3.trans' gd (fun _ _ h => h) (by rintro x hx rfl; omega)) (hJ2 _ _ j3 g3.ok gd)
end Go.Proofs.YtigniafapkbbbaaGreatDoor

/- Contracts: ssa.checker's known, write, of a function of one block. -/
namespace Go.Proofs.YtigniafapkbbbaaGreatDoor
open Go.AI

/-- the cells of a checker -/
def scCells (name : ByteArray) (params regs : Int) (blocks up by_ : SV) : List Value := [.string name, .int .i64 params, .int .i64 regs, blocks.v, up.v, by_.v]

theorem read_w {h : Heap} {W : Nat} {ws : List (Int × Int)} {o s : Nat} {ro : Bool} (hW : h.tr.get W = some (.blk (encW.flat ws) ro o s)) {k : Nat} {x : Int × Int} (hk : ws[k]? = some x) (off n : Nat) (hn : off + n ≤ 2) :
    readAt h W (k * 2 + off) n = some (([.int .i64 x.1, .int .i64 x.2].drop off).take n) := by
  have hl := (List.getElem?_eq_some_iff.mp hk).1
  rw [readAt_eq hW (by rw [encW.length_flat]; show k * 2 + off + n ≤ ws.length * 2; omega)]
  have := encW.part_flat ws k off n x hk hn
  simp only [encW_sz, encW_enc] at this
  rw [this]

theorem known_does {h : Heap} (ok : HOk h) {C W : Nat} {name : ByteArray} {params regs : Int} {blocks up : SV} {wc s1 s2 o1 o2 : Nat} {ro1 ro2 : Bool} {ws : List (Int × Int)} (hC : h.tr.get C = some (.blk (scCells name params regs blocks up ⟨some ⟨W, 0, none⟩, ws.length, wc⟩) ro1 o1 s1))
    (hW : h.tr.get W = some (.blk (encW.flat ws) ro2 o2 s2)) {r : Bool} {n at_ : Int} (hk : r = true → ∃ (k : Nat) (a : Int), n = k ∧ ws[k]? = some (0, a) ∧ a < at_) :
    Does FF n_ssa_checker_known [.pointer (some ⟨C, 0, none⟩), .agg ⟨[.bool r, .int .i64 n]⟩, .int .i64 0, .int .i64 at_] h (fun v h' => v = .bool true ∧ Grows Nob h h') := by
  have oC := ok.old hC
  have oW := ok.old hW
  refine Does.of c_ssa_checker_known ?_
  unfold b_ssa_checker_known
  cases r with
  | false => simp; exact grow_newBlk ok _ _
  | true =>
    obtain ⟨k, a, rfl, hw, hlt⟩ := hk rfl
    have hl := (List.getElem?_eq_some_iff.mp hw).1
    have hr := read_w hW hw 0 2 (by omega)
    simp only [Nat.add_zero, List.drop_zero] at hr
    have hC' : h.tr.get C = some (.blk [.string name, .int .i64 params, .int .i64 regs, .slice blocks.a blocks.l blocks.c, .slice up.a up.l up.c, .slice (some ⟨W, 0, none⟩) ws.length wc] ro1 o1 s1) := hC
    simp [oC, oW, readAt_get hC', readAt_newBlk, readAt_newBlk_same, readAt_put_same, readAt_put, readAt_tick, hl, hr, -readAt_def, get_newBlk_old, hlt]
    exact (((Grows.refl ok).new _ _).tick).var _ _

theorem write_does {h : Heap} (ok : HOk h) {C W : Nat} {name : ByteArray} {params regs : Int} {blocks up : SV} {wc s1 s2 o1 o2 : Nat} {ro1 : Bool} {ws : List (Int × Int)} (hC : h.tr.get C = some (.blk (scCells name params regs blocks up ⟨some ⟨W, 0, none⟩, ws.length, wc⟩) ro1 o1 s1))
    (hW : h.tr.get W = some (.blk (encW.flat ws) false o2 s2)) {k : Nat} {at_ x : Int} (hk : ws[k]? = some (-1, x)) :
    Does FF n_ssa_checker_write [.pointer (some ⟨C, 0, none⟩), .int .i64 k, .int .i64 0, .int .i64 at_] h (fun v h' => v = .bool true ∧ Grows (· = W) h h' ∧ ∃ s, h'.tr.get W = some (.blk (encW.flat (ws.set k (0, at_))) false o2 s)) := by
  have hl := (List.getElem?_eq_some_iff.mp hk).1
  have hC' : h.tr.get C = some (.blk [.string name, .int .i64 params, .int .i64 regs, .slice blocks.a blocks.l blocks.c, .slice up.a up.l up.c, .slice (some ⟨W, 0, none⟩) ws.length wc] ro1 o1 s1) := hC
  have hr := read_w hW hk 0 1 (by omega)
  simp only [Nat.add_zero, List.drop_zero] at hr
  have hlen : k * 2 + 2 ≤ ws.length * 2 := by omega
  refine Does.of c_ssa_checker_write ?_
  unfold b_ssa_checker_write
  simp [readAt_get hC', hl, hr, -readAt_def, hW, hlen]
  refine ⟨grow_put ok hW, ?_⟩
  have := encW.splice_flat ws k (0, at_) hl
  simpa using this
end Go.Proofs.YtigniafapkbbbaaGreatDoor
