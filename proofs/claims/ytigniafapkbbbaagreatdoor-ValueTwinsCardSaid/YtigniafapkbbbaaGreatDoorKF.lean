/- Contract: ssa.Check of a unit of main and one function, each of one block, in order. -/
import Derived.Test.YtigniafapkbbbaaGreatDoorKE
namespace Go.Proofs.YtigniafapkbbbaaGreatDoor
open Go.AI

theorem checkof_ok {h : Heap} (ok : HOk h) {name : ByteArray} {p N : Nat} {blocks : SV} {r : Bool} {n : Int} {xs : List Own} (f : FnOk h p N blocks r n xs) (hN : N < 100000) :
    Does FF n_ssa_CheckOf [.agg ⟨fnCells name p N blocks⟩] h (fun v h' => v = .int .i64 0 ∧ Grows Nob h h') :=
  checkof_one ok (name := name) f.one f.hph f.hto f.sl f.ord (by omega) f.cnt f.on

theorem ssa_two {h : Heap} (ok : HOk h) (hw : Ways h) {gl mB fB : SV} {Fb fc o s N : Nat} {ro : Bool} {n1 n2 : Int} {r1 r2 : Bool} {xs : List Own} (hgl : gl.l = 0) (m : FnOk h 0 0 mB r1 n1 []) (f : FnOk h 1 N fB r2 n2 xs) (hN : N ≤ 100)
    (hF : h.tr.get Fb = some (.blk (fnCells sMain 0 0 mB ++ fnCells sF 1 N fB) ro o s)) :
    Does FF n_ssa_Check [.agg ⟨[gl.v, .slice (some ⟨Fb, 0, none⟩) 2 fc]⟩] h (fun v h' => v = .agg #[.int .i64 0, .int .i64 0] ∧ Grows Nob h h') := by
  have w1 : IntKind.i64.wrap (0 + 1) = 1 := wrap_i64 _ (by omega) (by omega)
  have w1' : IntKind.i64.wrap 1 = 1 := wrap_i64 _ (by omega) (by omega)
  have w2 : IntKind.i64.wrap (1 + 1) = 2 := wrap_i64 _ (by omega) (by omega)
  have w2' : IntKind.i64.wrap 2 = 2 := wrap_i64 _ (by omega) (by omega)
  have hF' : h.tr.get Fb = some (.blk [.string sMain, .int .i64 0, .int .i64 0, .slice mB.a mB.l mB.c, .string sF, .int .i64 1, .int .i64 N, .slice fB.a fB.l fB.c] ro o s) := hF
  refine Does.of c_ssa_Check ?_
  unfold b_ssa_Check
  simp [hgl]
  refine OpsR.cut (fun h1 => Grows Nob h h1 ∧ h1.tr.get h.next = some (.blk [.slice gl.a 0 gl.c, .slice (some ⟨Fb, 0, none⟩) 2 fc] false 0 0) ∧ h1.tr.get (h.next + 1) = some (.blk [.int .i64 0, .int .i64 0] false 0 0)) ?_ ?_
  · exact ⟨((Grows.refl ok).new _ _).new _ _, by simp, by simp⟩
  rintro h1 ⟨g1, hU1, hR1⟩
  refine OpsR.call (by simpa [hgl] using check_two g1.ok (hw.grow ok g1) (gl := gl) hgl (m.grow ok g1) (f.grow ok g1) hN (fc := fc) (g1.get ok hF (fun h => h))) ?_
  rintro _ h2 ⟨rfl, g2⟩
  have gg2 := g1.trans g2
  have hF2 := gg2.get ok hF' (fun h => h)
  have hU2 := g2.get g1.ok hU1 (fun h => h)
  have hR2 := g2.get g1.ok hR1 (fun h => h)
  have oF2 := gg2.ok.old hF2
  have oU2 := gg2.ok.old hU2
  simp [hU2, oU2]
  refine Runs.cut (fun h3 => Grows Nob h2 h3) ?_ ?_
  · repeat (first | exact .refl gg2.ok | apply Grows.new | refine Grows.put ?_ (by simp) (by simp))
  intro h3 g3
  have gg3 := gg2.trans g3
  have hF3 := g3.get gg2.ok hF2 (fun h => h)
  have hR3 := g3.get gg2.ok hR2 (fun h => h)
  have oF3 := gg3.ok.old hF3
  rw [runs_loop]
  unfold r_ssa_Check_0
  simp [hF3, oF3]
  refine OpsR.cut (fun h4 => Grows Nob h3 h4) ?_ ?_
  · repeat (first | exact .refl gg3.ok | apply Grows.new | refine Grows.put ?_ (by simp) (by simp))
  intro h4 g4
  have gg4 := gg3.trans g4
  refine OpsR.call (by simpa [fnCells] using checkof_ok gg4.ok (name := sMain) (m.grow ok gg4) (by omega)) ?_
  rintro _ h5 ⟨rfl, g5⟩
  have gg5 := gg4.trans g5
  have hF5 := (g4.trans g5).get gg3.ok hF3 (fun h => h)
  have hR5 := (g4.trans g5).get gg3.ok hR3 (fun h => h)
  have oF5 := gg5.ok.old hF5
  simp [w1, w1']
  rw [runs_loop]
  try unfold r_ssa_Check_0
  simp [hF5, oF5]
  refine OpsR.cut (fun h6 => Grows Nob h5 h6) ?_ ?_
  · repeat (first | exact .refl gg5.ok | apply Grows.new | refine Grows.put ?_ (by simp) (by simp))
  intro h6 g6
  have gg6 := gg5.trans g6
  refine OpsR.call (by simpa [fnCells] using checkof_ok gg6.ok (name := sF) (f.grow ok gg6) (by omega)) ?_
  rintro _ h7 ⟨rfl, g7⟩
  have gg7 := gg6.trans g7
  have hR7 := (g6.trans g7).get gg5.ok hR5 (fun h => h)
  simp [w2, w2']
  rw [runs_loop]
  try unfold r_ssa_Check_0
  simp [hR7]
  exact gg7.put ⟨_, hR7⟩ (.inl (by omega))
end Go.Proofs.YtigniafapkbbbaaGreatDoor

/- Contracts: slices.Clone, live.Words. -/
namespace Go.Proofs.YtigniafapkbbbaaGreatDoor
open Go.AI

/-- the code of slices.Clone -/
def cloneBody (z : List Value) (bytes : Nat) : ACode := (.seq (.ops [⟨(some 2), none, (.mv (.const (.slice none 0 0)))⟩]) (.seq (.seq (.ops [⟨(some 3), none, (.mv (.tmp 0))⟩, ⟨(some 4), none, (.bin .eql [3] (.tmp 3) (.const (.slice none 0 0)))⟩]) (.cond (.tmp 4) (.seq (.ops [⟨(some 2), none, (.mv (.const (.slice none 0 0)))⟩]) .ret) .skip)) (.seq (.ops [⟨(some 5), none, (.bslice 0 [] [])⟩, ⟨(some 6), none, (.mv (.tmp 0))⟩, ⟨(some 7), none, (.append z bytes false (.tmp 5) (.tmp 6))⟩, ⟨(some 2), none, (.mv (.tmp 7))⟩]) .ret)))

/-- A slice whose block, if it has elements, has been made since. -/
def NewOf {α : Type} (E : Enc α) (n0 : Nat) (h : Heap) (v : SV) (xs : List α) : Prop :=
  v.l = xs.length ∧ ((xs = [] ∧ (v.a = none ∨ ∃ d, v.a = some ⟨d, 0, none⟩)) ∨ (xs ≠ [] ∧ ∃ d s, v.a = some ⟨d, 0, none⟩ ∧ n0 ≤ d ∧ h.tr.get d = some (.blk (E.flat xs) false E.sz s)))

theorem NewOf.sl {α : Type} {E : Enc α} {n0 : Nat} {h : Heap} {v : SV} {xs : List α} (w : NewOf E n0 h v xs) : SliceOf E h v.v xs := by
  obtain ⟨e, w⟩ := w
  refine ⟨v.a, v.c, by simp [e], ?_⟩
  rcases w with ⟨rfl, h | ⟨d, h⟩⟩ | ⟨_, d, s, h, _, hd⟩
  · exact .inl ⟨rfl, .inl h⟩
  · exact .inl ⟨rfl, .inr ⟨d, 0, h⟩⟩
  · exact .inr ⟨d, 0, _, _, _, _, h, hd, by simp, by simp [List.take_of_length_le]⟩

theorem NewOf.grow {α : Type} {E : Enc α} {n0 : Nat} {S : Nat → Prop} {h h' : Heap} {v : SV} {xs : List α} (w : NewOf E n0 h v xs) (ok : HOk h) (g : Grows S h h') (hS : ∀ x, n0 ≤ x → ¬ S x) : NewOf E n0 h' v xs := by
  obtain ⟨e, w⟩ := w
  refine ⟨e, ?_⟩
  rcases w with w | ⟨h1, d, s, h2, h3, hd⟩
  · exact .inl w
  · exact .inr ⟨h1, d, s, h2, h3, g.get ok hd (hS d h3)⟩

theorem clone_does {α : Type} (E : Enc α) {f bytes : Nat} {z : List Value} (hf : FF f = some ⟨[.tmp 2], cloneBody z bytes, .no⟩) (hz : z.length = E.sz) (hby : bytes ≤ 1000) {h : Heap} (ok : HOk h) {v : SV} {xs : List α} (hs : SliceOf E h v.v xs) (hlen : xs.length < 1000000) :
    Does FF f [v.v] h (fun r h' => Grows Nob h h' ∧ ∃ w : SV, r = w.v ∧ NewOf E h.next h' w xs ∧ (v.a = none → w.a = none) ∧ (xs = [] → w.c = 0)) := by
  have hp := E.pos
  have hll : v.l = xs.length := by obtain ⟨a, cap, e, _⟩ := hs; simp at e; exact e.2.1
  refine Does.of hf ?_
  unfold cloneBody
  cases ha : v.a with
  | none =>
    have hx : xs = [] := by
      obtain ⟨a, cap, e, h2⟩ := hs
      simp [ha] at e
      rcases h2 with h2 | ⟨b, off, cs, ro, o, st, e2, _⟩
      · exact h2.1
      · rw [e2] at e; simp at e
    subst hx
    simp [ha]
    exact ⟨.refl ok, ⟨none, 0, 0⟩, ⟨rfl, rfl, rfl⟩, ⟨rfl, .inl ⟨rfl, .inl rfl⟩⟩, rfl, rfl⟩
  | some a0 =>
    have g0 := grow_newBlk ok [] 0
    have hn := news_sl hz (hs.nob ok g0)
    simp [ha, hll] at hn
    simp [ha, hll, repl, appendF, hn]
    cases xs with
    | nil =>
      simp [appendV, hz, hp]
      exact ⟨g0, ⟨some ⟨h.next, 0, none⟩, 0, 0⟩, ⟨rfl, rfl, rfl⟩, ⟨rfl, .inl ⟨rfl, .inr ⟨_, rfl⟩⟩⟩, rfl⟩
    | cons x xs =>
      have r1 : roomy (xs.length + 1) = true := by simp [roomy]; simp at hlen; omega
      have r2 : roomy ((xs.length + 1) * bytes) = true := by
        have : (xs.length + 1) * bytes ≤ 1000000 * 1000 := Nat.mul_le_mul (by simp at hlen; omega) hby
        simp [roomy]; omega
      simp [appendV, hz, hp, r1, r2]
      refine ⟨g0.new _ _, ⟨some ⟨h.next + 1, 0, none⟩, xs.length + 1, xs.length + 1⟩, ⟨rfl, rfl, rfl⟩, ⟨rfl, .inr ⟨by simp, h.next + 1, 0, rfl, by omega, ?_⟩⟩⟩
      simp

theorem words_nil {h : Heap} (ok : HOk h) {gl : SV} (hgl : gl.l = 0) (fs : SV) : Does FF n_live_Words [.agg ⟨[gl.v, fs.v]⟩] h (fun v h' => v = .int .i64 0 ∧ Grows Nob h h') := by
  refine Does.of c_live_Words ?_
  unfold b_live_Words
  simp [hgl]
  rw [runs_loop]
  unfold r_live_Words_0
  simp
  exact grow_newBlk ok _ _
end Go.Proofs.YtigniafapkbbbaaGreatDoor

/- Contract: graph.Copy of a function of one block. -/
namespace Go.Proofs.YtigniafapkbbbaaGreatDoor
open Go.AI

theorem clone_nil {f bytes : Nat} {z : List Value} (hf : FF f = some ⟨[.tmp 2], cloneBody z bytes, .no⟩) (h : Heap) (c : Nat) : Does FF f [.slice none 0 c] h (fun r h' => r = .slice none 0 0 ∧ h' = h) := by
  refine Does.of hf ?_
  unfold cloneBody
  simp

def encB : Enc (SV × SV × Bool × Int × SV) := ⟨fun x => blkCells x.1 x.2.1 x.2.2.1 x.2.2.2.1 x.2.2.2.2, 6, fun _ => rfl, by decide, fun _ => rfl⟩
@[simp] theorem encB_sz : encB.sz = 6 := rfl

/-- A function's own block, with a list of its own. -/
structure OwnFn (n0 : Nat) (h : Heap) (blocks : SV) (r : Bool) (n : Int) (xs : List Own) where
  list : SV
  b : Nat
  s : Nat
  bl : blocks.a = some ⟨b, 0, none⟩ ∧ blocks.l = 1
  fr : n0 ≤ b
  blk : h.tr.get b = some (.blk (blkCells ⟨none, 0, 0⟩ list r n ⟨none, 0, 0⟩) false 6 s)
  sl : NewOf encOwn n0 h list xs
  ne : ∀ d, list.a = some ⟨d, 0, none⟩ → xs ≠ [] → d ≠ b

theorem own_args (x : Own) : (encOwn.enc x).drop 7 = [.slice none 0 0] := rfl

theorem splice_args (xs : List Own) (j : Nat) (hj : j < xs.length) : splice (encOwn.flat xs) (j * 8 + 7) [.slice none 0 0] = encOwn.flat xs := by
  have h1 := encOwn.part_flat xs j 7 1 xs[j] (List.getElem?_eq_getElem hj) (by decide)
  have h2 : ((encOwn.flat xs).drop (j * 8 + 7)).take 1 = [.slice none 0 0] := h1
  unfold splice
  have h3 : encOwn.flat xs = (encOwn.flat xs).take (j * 8 + 7) ++ (((encOwn.flat xs).drop (j * 8 + 7)).take 1 ++ ((encOwn.flat xs).drop (j * 8 + 7)).drop 1) := by
    rw [List.take_append_drop, List.take_append_drop]
  rw [h2, List.drop_drop] at h3
  rw [List.append_assoc]
  exact h3.symm

theorem copy_one {h : Heap} (ok : HOk h) {name : ByteArray} {p N : Nat} {blocks : SV} {r : Bool} {n : Int} {xs : List Own} (f : FnOk h p N blocks r n xs) (hN : N < 100000) :
    Does FF n_graph_Copy [.agg ⟨fnCells name p N blocks⟩] h (fun v h' => Grows Nob h h' ∧ ∃ blocks' : SV, v = .agg ⟨fnCells name p N blocks'⟩ ∧ Nonempty (OwnFn h.next h' blocks' r n xs)) := by
  obtain ⟨hl, b, ro, o, s, ha, hb⟩ := id f.one
  have w1 : IntKind.i64.wrap (0 + 1) = 1 := wrap_i64 _ (by omega) (by omega)
  have w1' : IntKind.i64.wrap 1 = 1 := wrap_i64 _ (by omega) (by omega)
  have hcnt := f.cnt
  refine Does.of c_graph_Copy ?_
  unfold b_graph_Copy
  simp [fnCells, hl, ha]
  refine OpsR.cut (fun h1 => Grows Nob h h1 ∧ (∃ s, h1.tr.get h.next = some (.blk [.string name, .int .i64 p, .int .i64 N, .slice (some ⟨b, 0, none⟩) 1 blocks.c] false 0 s)) ∧ (∃ s, h1.tr.get (h.next + 1) = some (.blk [.string ⟨⟨[]⟩⟩, .int .i64 0, .int .i64 0, .slice none 0 0] false 0 s))) ?_ ?_
  · exact ⟨((Grows.refl ok).new _ _).new _ _, ⟨0, by simp⟩, ⟨0, by simp⟩⟩
  rintro h1 ⟨g1, ⟨s1, hF1⟩, s2, hR1⟩
  have hb1 := g1.get ok hb (fun h => h)
  have hsB : SliceOf encB h1 (SV.v ⟨some ⟨b, 0, none⟩, 1, blocks.c⟩) [(f.phis, f.list, r, n, f.to)] := slice_one (x := (f.phis, f.list, r, n, f.to)) hb1
  refine OpsR.call (V := fun v h' => Grows Nob h1 h' ∧ ∃ w : SV, v = w.v ∧ NewOf encB h1.next h' w [(f.phis, f.list, r, n, f.to)]) ?_ ?_
  · have C := (clone_does encB (bytes := 96) c_slices_Clone_api_Block_api_Block rfl (by decide) g1.ok hsB (by simp)).mono (R' := fun v h' => Grows Nob h1 h' ∧ ∃ w : SV, v = w.v ∧ NewOf encB h1.next h' w [(f.phis, f.list, r, n, f.to)]) (fun v h' ⟨g, w, e, k, _⟩ => ⟨g, w, e, k⟩)
    simpa using C
  rintro _ h2 ⟨g2, w, rfl, hw⟩
  have gg2 := g1.trans g2
  obtain ⟨hwl, hw⟩ := hw
  rcases hw with ⟨e, _⟩ | ⟨_, d, s3, hwa, hwd, hD2⟩
  · cases e
  have hF2 := g2.get g1.ok hF1 (fun h => h)
  have hR2 := g2.get g1.ok hR1 (fun h => h)
  have hwl1 : w.l = 1 := hwl
  have oF2 := gg2.ok.old hF2
  have hD2' : h2.tr.get d = some (.blk [.slice none 0 0, f.list.v, .int .i64 1, .bool r, .int .i64 n, .slice none 0 0] false 6 s3) := by
    rw [hD2]; simp [encB, blkCells, f.hpn, f.htn]
  have nd1 : ¬ d = h.next := by have := g1.next; have := g1.ok.old hF1; have := this.lt; omega
  have nd2 : ¬ d = h.next + 1 := by have := g1.ok.old hR1; have := this.lt; omega
  simp [hF2, hwl1, hwa, hD2', nd1]
  refine Runs.cut (fun h3 => Grows Nob h h3 ∧ h3.next = h2.next ∧ (∃ s, h3.tr.get h.next = some (.blk [.string name, .int .i64 p, .int .i64 N, .slice (some ⟨d, 0, none⟩) 1 w.c] false 0 s)) ∧ (∃ s, h3.tr.get (h.next + 1) = some (.blk [.string ⟨⟨[]⟩⟩, .int .i64 0, .int .i64 0, .slice none 0 0] false 0 s)) ∧
      h3.tr.get d = some (.blk [.slice none 0 0, f.list.v, .int .i64 1, .bool r, .int .i64 n, .slice none 0 0] false 6 s3)) ?_ ?_
  · exact ⟨gg2.put ⟨_, hF2⟩ (.inl (Nat.le_refl _)), rfl, ⟨h2.clock, by simp⟩, ⟨s2, by simpa using hR2⟩, by simpa [nd1] using hD2'⟩
  rintro h3 ⟨g3, hn3, ⟨s4, hF3⟩, ⟨s5, hR3⟩, hD3⟩
  have oD3 := g3.ok.old hD3
  have lt3 : h.next + 1 < h3.next := g3.ok.old hR3
  rw [runs_loop]
  unfold r_graph_Copy_2
  simp [hD3, oD3]
  refine OpsR.cut (fun h4 => Grows Nob h3 h4 ∧ (∃ s, h4.tr.get h3.next = some (.blk [.slice none 0 0, .slice f.list.a f.list.l f.list.c, .int .i64 1, .bool r, .int .i64 n, .slice none 0 0] false 0 s))) ?_ ?_
  · exact ⟨(Grows.refl g3.ok).var _ _, h3.clock, by simp⟩
  rintro h4 ⟨g4, s6, hV4⟩
  refine OpsR.call (V := fun v h' => v = .slice none 0 0 ∧ h' = h4) (by simpa using clone_nil (bytes := 32) c_slices_Clone_api_Phi_api_Phi h4 0) ?_
  rintro _ h4' ⟨rfl, e4⟩
  rw [e4]
  simp [hV4]
  rw [runs_loop]
  unfold r_graph_Copy_1
  simp
  refine OpsR.cut (fun h5 => Grows Nob h3 h5 ∧ (∃ s, h5.tr.get h3.next = some (.blk [.slice none 0 0, .slice f.list.a f.list.l f.list.c, .int .i64 1, .bool r, .int .i64 n, .slice none 0 0] false 0 s))) ?_ ?_
  · exact ⟨g4.put ⟨_, hV4⟩ (.inl (Nat.le_refl _)), h4.clock, by simp⟩
  rintro h5 ⟨g5, s7, hV5⟩
  have gg5 := g3.trans g5
  refine OpsR.call (V := fun v h' => Grows Nob h5 h' ∧ ∃ w : SV, v = w.v ∧ NewOf encOwn h5.next h' w xs) ?_ ?_
  · have C := (clone_does encOwn (bytes := 80) c_slices_Clone_api_Ins_api_Ins rfl (by decide) gg5.ok (f.sl.nob ok gg5) (by omega)).mono (R' := fun v h' => Grows Nob h5 h' ∧ ∃ w : SV, v = w.v ∧ NewOf encOwn h5.next h' w xs) (fun v h' ⟨g, w, e, k, _⟩ => ⟨g, w, e, k⟩)
    simpa using C
  rintro _ h6 ⟨g6, L, rfl, hL⟩
  have hLl : L.l = xs.length := hL.1
  have hV6 := g6.get gg5.ok hV5 (fun h => h)
  have gg6 := gg5.trans g6
  have lt5 : h3.next < h5.next := gg5.ok.old hV5
  simp [hV6, hLl]
  refine Runs.cut (fun h7 => Grows Nob h3 h7 ∧ (∃ s, h7.tr.get h3.next = some (.blk [.slice none 0 0, .slice L.a xs.length L.c, .int .i64 1, .bool r, .int .i64 n, .slice none 0 0] false 0 s)) ∧ NewOf encOwn h5.next h7 L xs) ?_ ?_
  · exact ⟨(g5.trans g6).put ⟨_, hV6⟩ (.inl (Nat.le_refl _)), ⟨h6.clock, by simp⟩, hL.grow gg6.ok (grow_put gg6.ok hV6) (by rintro x hx rfl; omega)⟩
  rintro h7 ⟨g7, ⟨s8, hV7⟩, hL7⟩
  refine Runs.loop (fun m e h8 => ∃ j : Nat, m = xs.length - j ∧ j ≤ xs.length ∧ Env.get e 1 = .pointer (some ⟨h.next, 0, none⟩) ∧ Env.get e 2 = .pointer (some ⟨h.next + 1, 0, none⟩) ∧ Env.get e 3 = .int .i64 0 ∧ Env.get e 4 = .pointer (some ⟨h3.next, 0, none⟩) ∧ Env.get e 14 = .slice (some ⟨d, 0, none⟩) 1 w.c ∧ Env.get e 15 = .int .i64 1 ∧ Env.get e 16 = .int .i64 0 ∧
      Env.get e 47 = .slice L.a xs.length L.c ∧ Env.get e 48 = .int .i64 xs.length ∧ Env.get e 49 = .int .i64 j ∧ Grows Nob h3 h8 ∧ (∃ s, h8.tr.get h3.next = some (.blk [.slice none 0 0, .slice L.a xs.length L.c, .int .i64 1, .bool r, .int .i64 n, .slice none 0 0] false 0 s)) ∧ NewOf encOwn h5.next h8 L xs) ?_ (n := xs.length)
    ⟨0, rfl, by omega, by simp, by simp, by simp, by simp, by simp, by simp, by simp, by simp, by simp, by simp, g7, ⟨s8, hV7⟩, hL7⟩
  rintro m e h8 ⟨j, rfl, hj, f1, f2, f3, f4, f14, f15, f16, f47, f48, f49, g8, ⟨s9, hV8⟩, hL8⟩
  have gg8 := g3.trans g8
  unfold r_graph_Copy_0
  by_cases hjl : j < xs.length
  · have hxj : xs[j]? = some xs[j] := List.getElem?_eq_getElem hjl
    obtain ⟨_, hL9⟩ := id hL8
    rcases hL9 with ⟨e, _⟩ | ⟨hne, d', s10, hLa, hLd, hLb⟩
    · subst e; simp at hjl
    obtain ⟨b', off, cap', hv', _, ⟨csb, rob, obb, sbb, hbb⟩, hrd⟩ := hL8.sl.read hxj
    have hr0 := hrd 0 8 (by simp)
    simp [hLl, hLa] at hv'
    obtain ⟨⟨rfl, rfl⟩, rfl⟩ := hv'
    simp only [encOwn_sz, Nat.add_zero, Nat.zero_add] at hr0
    obtain ⟨j', hj'⟩ : ∃ j', j' = j + 1 := ⟨_, rfl⟩
    have wj : IntKind.i64.wrap ((j : Int) + 1) = (j' : Int) := by rw [wrap_i64 _ (by omega) (by omega)]; omega
    have oL := gg8.ok.old hLb
    have oV := gg8.ok.old hV8
    have hst : s9 ≤ h8.clock := gg8.ok.st _ _ _ _ _ hV8
    have hst' : s9 ≤ h8.clock + 1 := by omega
    simp [f1, f2, f3, f4, f47, f48, f49, hjl, hLa, hr0, readAt_get hV8, readAt_put_same, readAt_put, readAt_newBlk, readAt_tick, oV, -readAt_def]
    refine DrawR.call (by simpa using clone_nil (bytes := 16) c_slices_Clone_api_Val_api_Val _ 0) ?_
    rintro _ hq ⟨rfl, eq⟩
    subst eq
    have nL : ¬ d' = h8.next := by have := oL.lt; omega
    have hlen8 : j * 8 + 7 + 1 ≤ xs.length * 8 := by omega
    have nV : ¬ h3.next = d' := by omega
    simp [hV8, oV, hst', hjl, hLb, oL, hlen8, nL, f1, f2, f3, f4, f14, f15, f16, f47, f48, f49, wj, hLa]
    refine ⟨xs.length - j', by omega, j', rfl, by omega, rfl, ?_, ?_, ?_⟩
    · exact Grows.put ((g8.var _ _).tick) ⟨s10, by simp [hLb, nL]⟩ (.inl (by omega))
    · simp [nV, hV8, oV]
    · refine ⟨hLl, .inr ⟨hne, d', h8.clock + 1 + 1, hLa, hLd, ?_⟩⟩
      have := splice_args xs j hjl
      simp [this]
  · have : j = xs.length := by omega
    subst this
    have hV9 := hV8
    have hD8 := g8.get g3.ok hD3 (fun h => h)
    have hF8 := g8.get g3.ok hF3 (fun h => h)
    have hR8 := g8.get g3.ok hR3 (fun h => h)
    have oD8 := gg8.ok.old hD8
    have nV : ¬ h3.next = d := by have := oD3.lt; omega
    have nF : ¬ h3.next = h.next := by omega
    simp [f1, f2, f3, f4, f14, f15, f16, f47, f48, f49, hV8]
    refine OpsR.call (V := fun v h' => v = .slice none 0 0 ∧ h' = h8) (by simpa using clone_nil (bytes := 8) c_slices_Clone_int_int h8 0) ?_
    rintro _ h8' ⟨rfl, e8⟩
    rw [e8]
    have nD : ¬ d = h3.next := fun e => nV e.symm
    have nF' : ¬ h.next = h3.next := fun e => nF e.symm
    simp [f1, f2, f3, f4, f14, f15, f16, hV8, hF8, hD8, nD, nF', w1, w1']
    rw [runs_loop]
    have nR : ¬ h.next + 1 = d := fun e => nd2 e.symm
    have nR' : ¬ h.next + 1 = h3.next := by omega
    have nF2 : ¬ h.next = d := fun e => nd1 e.symm
    simp [f1, f2, f15, hF8, hR8, nF', nF2, nR, nR']
    have nL8 : ∀ x, h5.next ≤ x → ¬ (x = h.next + 1 ∨ x = d ∨ x = h3.next) := by
      rintro x hx (e | e | e)
      · omega
      · have := oD3.lt; omega
      · omega
    have gA : Grows (fun x => x = h.next + 1 ∨ x = d ∨ x = h3.next) h8 (put h8 h3.next 5 [.slice none 0 0, .slice L.a xs.length L.c, .int .i64 1, .bool r, .int .i64 n, .slice none 0 0] [.slice none 0 0] 0) := (Grows.refl gg8.ok).put ⟨_, hV8⟩ (.inr (.inr (.inr rfl)))
    have gB := gA.put (b := d) (off := 0) (cs := [.slice none 0 0, .slice f.list.a f.list.l f.list.c, .int .i64 1, .bool r, .int .i64 n, .slice none 0 0]) (o := 6) (vs := [.slice none 0 0, .slice L.a xs.length L.c, .int .i64 1, .bool r, .int .i64 n, .slice none 0 0]) ⟨s3, by simp [hD8, nD]⟩ (.inr (.inr (.inl rfl)))
    have gC := gB.put (b := h.next + 1) (off := 0) (cs := [.string ⟨⟨[]⟩⟩, .int .i64 0, .int .i64 0, .slice none 0 0]) (o := 0) (vs := [.string name, .int .i64 p, .int .i64 N, .slice (some ⟨d, 0, none⟩) 1 w.c]) ⟨s5, by simp [hR8, nR, nR']⟩ (.inr (.inl rfl))
    have hLn : NewOf encOwn h5.next h8 ⟨L.a, xs.length, L.c⟩ xs := ⟨rfl, hL8.2⟩
    have hLg := hLn.grow gg8.ok gC nL8
    have ltd : h.next ≤ d := by have := g1.next; omega
    have lt35 : h.next ≤ h5.next := gg5.next
    refine ⟨gg8.trans' gC (fun _ _ h => h) (by rintro x hx (e | e | e) <;> omega), ⟨some ⟨d, 0, none⟩, 1, w.c⟩, ⟨rfl, rfl, rfl⟩, ⟨⟨⟨L.a, xs.length, L.c⟩, d, h8.clock + 1, ⟨rfl, rfl⟩, ltd, ?_, ?_, ?_⟩⟩⟩
    · simp [blkCells, fun e => nR (Eq.symm e), Ne.symm nR]
    · exact ⟨rfl, hLg.2.imp id (fun ⟨a, d', s', b', c', e'⟩ => ⟨a, d', s', b', by omega, e'⟩)⟩
    · intro d2 hd2 hne
      rcases hLn.2 with ⟨e, _⟩ | ⟨_, d', s', e1, e2, _⟩
      · exact absurd e hne
      · simp only at e1 hd2
        rw [hd2] at e1
        cases e1
        have := oD3.lt
        omega
end Go.Proofs.YtigniafapkbbbaaGreatDoor
