/- Contract: once of package value, over a function of one block. -/
import Derived.Test.YtigniafapkbbbaaGreatDoorKK
import Derived.Test.YtigniafapkbbbaaGreatDoorKG
namespace Go.Proofs.YtigniafapkbbbaaGreatDoor
open Go.AI

theorem idT_succ (i : Nat) : idT (i + 1) = idT i ++ [(true, (i : Int))] := by simp [idT, List.range_succ]

theorem sl_grow {α : Type} {E : Enc α} {S : Nat → Prop} {h h' : Heap} {v : Value} {xs : List α} (s : SliceOf E h v xs) (ok : HOk h) (g : Grows S h h') (hs : xs ≠ [] → ∀ b, BlkOf v b → ¬ S b) : SliceOf E h' v xs := by
  by_cases hx : xs = []
  · obtain ⟨a, cap, rfl, s⟩ := s
    refine ⟨a, cap, rfl, .inl ?_⟩
    rcases s with s | ⟨b, off, cs, ro, o, st, rfl, _⟩
    · exact s
    · exact ⟨hx, .inr ⟨b, off, rfl⟩⟩
  · exact s.grow ok g (hs hx)

theorem once_does {h : Heap} (ok : HOk h) {f N n0 : Nat} {blocks list : SV} {name : ByteArray} {p n : Int} {xs : List Own} (hf : ∃ o s, h.tr.get f = some (.blk (fnCells name p N blocks) false o s)) (hB : OneW n0 h blocks list false n)
    (hsl : SliceOf encOwn h list.v xs) (hlen : xs.length < 100000) (hN : N < 100000) (hv : ∀ x ∈ xs, Valid N x) (hop : ∀ x ∈ xs, 2 ≤ x.op ∧ x.op ≤ 15) (hp : xs.Pairwise (fun x y => x.dst < y.dst)) (d2 : xs ≠ [] → ∀ b, BlkOf list.v b → b < h.next ∧ ¬ BlkOf blocks.v b) (d4 : ¬ BlkOf blocks.v f) :
    Does FF n_value_once [.int .i64 0, .pointer (some ⟨f, 0, none⟩)] h (fun v h' => v = .bool (runV (initV N) xs).more ∧ Grows (BlkOf blocks.v) h h' ∧ ∃ L : SV, AccOf encOwn h.next h' L.v (runV (initV N) xs).kept ∧ OneW n0 h' blocks L false n) := by
  obtain ⟨o1, s1, hf⟩ := hf
  obtain ⟨hbl, B, o2, s2, ha, hn0, hBk⟩ := id hB
  have of := ok.old hf
  have oB := ok.old hBk
  simp [fnCells] at hf
  refine Does.of c_value_once ?_
  unfold b_value_once
  have w1 : IntKind.i64.wrap (0 + 1) = 1 := wrap_i64 _ (by omega) (by omega)
  have w1' : IntKind.i64.wrap 1 = 1 := wrap_i64 _ (by omega) (by omega)
  simp [hf, hbl, roomy, repl, of, oB]
  refine OpsR.cut (fun h1 => Grows Nob h h1 ∧ h1.tr.get h.next = some (.blk [.slice none 0 0] false 0 0) ∧ h1.tr.get (h.next + 1) = some (.blk [.int .i64 0, .pointer (some ⟨f, 0, none⟩), .slice (some ⟨h.next, 0, none⟩) 1 1, .slice none 0 0, .bool false] false 0 0)) ?_ ?_
  · exact ⟨((Grows.refl ok).new _ _).new _ _, by simp, by simp⟩
  rintro h1 ⟨g1, hkb1, hK1⟩
  have hB1 : OneB h1 blocks nilS list false n nilS := hB.one.grow ok g1
  refine OpsR.call (by simpa [fnCells, hbl] using tree_one g1.ok (name := name) (params := p) (regs := N) hB1 rfl) ?_
  rintro _ h2 ⟨g2, d, rfl, hd, s3, hd2⟩
  have gg2 := g1.trans g2
  have hkb2 := g2.get g1.ok hkb1 (fun h => h)
  have hK2 := g2.get g1.ok hK1 (fun h => h)
  have hf2 := gg2.get ok hf (fun h => h)
  simp
  rw [runs_loop]
  unfold r_value_once_4
  simp [hd2, w1, w1']
  rw [runs_loop]
  try unfold r_value_once_4
  simp [hf2, of]
  have lK := (g1.ok.old hK1).lt
  have l2 := g2.next
  refine Runs.loop (fun m e h3 => ∃ (j : Nat) (w : SV), m = N - j ∧ j ≤ N ∧ Env.get e 1 = .pointer (some ⟨f, 0, none⟩) ∧ Env.get e 5 = .pointer (some ⟨h.next + 1, 0, none⟩) ∧ Env.get e 57 = .int .i64 N ∧ Env.get e 58 = .int .i64 j ∧ Env.get e 4 = .bool false ∧ Grows (fun b => b = h.next + 1) h2 h3 ∧ (∃ s, h3.tr.get (h.next + 1) = some (.blk [.int .i64 0, .pointer (some ⟨f, 0, none⟩), .slice (some ⟨h.next, 0, none⟩) 1 1, w.v, .bool false] false 0 s)) ∧ AccOf encR h2.next h3 w.v (idT j)) ?_ (n := N)
    ⟨0, ⟨none, 0, 0⟩, rfl, by omega, by simp, by simp, by simp, by simp, by simp, .refl gg2.ok, ⟨_, hK2⟩, .inl ⟨rfl, rfl⟩⟩
  rintro m e h3 ⟨j, w, rfl, hj, f1, f5, f57, f58, f4, g3, ⟨s4, hK3⟩, hA⟩
  simp at hK3
  unfold r_value_once_3
  by_cases hjl : j < N
  · obtain ⟨j', hj'⟩ : ∃ j', j' = j + 1 := ⟨_, rfl⟩
    have wj : IntKind.i64.wrap ((j : Int) + 1) = (j' : Int) := by rw [wrap_i64 _ (by omega) (by omega)]; omega
    simp [f1, f5, f57, f58, hjl, hK3]
    have g4 := grow_newBlk g3.ok (encR.enc (true, (j : Int))) 0
    have hA4 := hA.grow g3.ok g4 (fun _ _ h => h)
    have hw4 : SliceOf encR (newBlk h3 (encR.enc (true, (j : Int))) 0) (.slice (some ⟨h3.next, 0, none⟩) 1 1) [(true, (j : Int))] := ⟨_, _, rfl, .inr ⟨h3.next, 0, _, _, _, _, rfl, get_newBlk _ _ _, by simp, by simp⟩⟩
    have l3 := g3.next
    obtain ⟨w', h5, ha5, hA5, g5, hd5⟩ := acc_one (bytes := 16) (z := [.bool false, .int .i64 0]) g4.ok rfl hA4 hw4 (by simp; omega) (by decide) (by show h2.next ≤ h3.next + 1; omega)
    refine nextR_of ha5 ?_
    obtain ⟨W, rfl⟩ := AccOf.sv hA5
    have hKw : ¬ BlkOf w.v (h.next + 1) := fun e => by have := hA.of e; omega
    have hK5 := g5.get g4.ok (g4.get g3.ok hK3 (fun h => h)) hKw
    have g25 : Grows (fun b => b = h.next + 1) h2 h5 := (g3.trans g4.nob).trans' g5 (fun _ _ h => h) (fun b hb e => by have := hA.of e; omega)
    simp [hK5, wj, f1, f5, f57, f58, f4]
    have hq : Grows (fun b => b = h.next + 1) h5 (put h5 (h.next + 1) 3 [.int .i64 0, .pointer (some ⟨f, 0, none⟩), .slice (some ⟨h.next, 0, none⟩) 1 1, .slice w.a w.l w.c, .bool false] [.slice W.a W.l W.c] 0) := grow_put g25.ok hK5
    refine ⟨N - j', by omega, j', rfl, by omega, rfl, g25.trans hq, W, ⟨rfl, rfl, rfl⟩, ?_⟩
    rw [hj', idT_succ]
    refine hA5.grow g25.ok hq (fun b hb e => ?_)
    have := hd5 b hb
    simp at this
    omega
  · have : j = N := by omega
    subst this
    simp [f1, f5, f57, f58]
    have kA : ∀ b, BlkOf w.v b → h2.next ≤ b := fun b hb => hA.of hb
    have kn : Kn h3 (h.next + 1) f ⟨some ⟨h.next, 0, none⟩, 1, 1⟩ w (idT j) false := by
      refine ⟨⟨s4, hK3⟩, ?_, ?_⟩
      · rcases hA with ⟨e1, e2⟩ | ⟨b, s, e, _⟩
        · simp at e2; rw [e1, e2.2.1]; rfl
        · simp at e; simp [e.2.1]
      · rcases hA with ⟨e1, e2⟩ | ⟨b, s, e, hb, _, hlb⟩
        · simp at e2; exact .inl ⟨e1, e2.1⟩
        · simp at e; exact .inr ⟨b, s, e.1, hb, by omega⟩
    have kf : ∀ b, KnB (h.next + 1) w b → h.next + 1 ≤ b := by
      rintro b (e | e)
      · omega
      · have := kA b e; omega
    have lB := oB.lt
    have lf := of.lt
    have hBof : ∀ b, BlkOf blocks.v b → b = B := by rintro b ⟨off, m, cap, e⟩; simp [ha] at e; omega
    have gS : Grows (fun b => h.next + 1 ≤ b) h h3 := gg2.nob.trans' g3 (fun _ _ h => h) (fun b hb e => by omega)
    have hf3 := gS.get ok hf (by omega)
    have hB3 := gS.get ok hBk (by omega)
    have hkb3 := g3.get gg2.ok hkb2 (by omega)
    have hsl3 : SliceOf encOwn h3 list.v xs := sl_grow hsl ok gS (fun hx b hb e => by have := (d2 hx b hb).1; omega)
    have WD := walk_does g3.ok kn ⟨_, _, hf3⟩ ⟨hbl, B, o2, s2, ha, hn0, hB3⟩ hsl3 hlen hN hv hop hp ⟨h.next, _, _, rfl, rfl, hkb3⟩ (fun b hb e => by have := kf b e; have := hBof b hb; omega) (fun hx b hb => ⟨fun e => by have := kf b e; have := (d2 hx b hb).1; omega, (d2 hx b hb).2⟩) (fun b hb => by
      obtain ⟨off, m, cap, e⟩ := hb
      simp at e
      have e := e.1.1
      exact ⟨fun e2 => by have := kf b e2; omega, fun e2 => by have := hBof b e2; omega⟩) ⟨fun e => by have := kf f e; omega, d4⟩
    refine OpsR.call (by simpa [-SV.v_def] using WD) ?_
    rintro _ h4 ⟨rfl, g4, L, hA4, hB4, k4⟩
    generalize runV (initV j) xs = s at *
    have hf4 := g4.get g3.ok hf3 (fun e => e.elim (fun e => by have := kf f e; omega) d4)
    obtain ⟨_, B', o5, s5, ha', _, hBk4⟩ := id hB4
    rw [ha] at ha'
    cases ha'
    obtain ⟨⟨s6, hK4⟩, _, _⟩ := id k4
    simp at hK4 hBk4
    have oB4 := g4.ok.old hBk4
    have oK4 := g4.ok.old hK4
    simp [f1, f5, hf4, hbl]
    rw [runs_loop]
    unfold r_value_once_2
    simp [ha, hBk4]
    rw [runs_loop]
    unfold r_value_once_1
    have oF4 := g4.ok.old hf4
    have nfB : ¬ f = B := fun e => d4 ⟨0, blocks.l, blocks.c, by simp [ha, e]⟩
    have nKB : ¬ h.next + 1 = B := by omega
    simp [f1, hf4, oF4, hBk4, oB4, hbl, ha, w1, w1']
    rw [runs_loop]
    try unfold r_value_once_2
    simp [f5, hK4, oK4, nKB]
    have hBB : BlkOf (Value.slice (some { block := B, off := 0 }) 1 blocks.c) B := ⟨_, _, _, rfl⟩
    have nB4 : ¬ B = h4.next := by have := oB4.lt; omega
    have gX := ((((Grows.refl (S := fun b => b = B) g4.ok).new [.slice none 0 0, .slice none 0 0, .int .i64 0, .bool false, .int .i64 0, .slice none 0 0] 0).put (b := h4.next) (off := 0) (cs := [.slice none 0 0, .slice none 0 0, .int .i64 0, .bool false, .int .i64 0, .slice none 0 0]) (o := 0) (vs := [.slice none 0 0, .slice L.a L.l L.c, .int .i64 1, .bool false, .int .i64 n, .slice none 0 0]) ⟨0, by simp⟩ (.inl (Nat.le_refl _))).tick).put (b := B) (off := 0) (cs := [.slice none 0 0, .slice L.a L.l L.c, .int .i64 1, .bool false, .int .i64 n, .slice none 0 0]) (o := o5) (vs := [.slice none 0 0, .slice L.a L.l L.c, .int .i64 1, .bool false, .int .i64 n, .slice none 0 0]) ⟨s5, by simp [nB4, hBk4]⟩ (.inr rfl)
    refine ⟨?_, L, ?_, ⟨hbl, B, o5, h4.clock + 1 + 1, ha, hn0, by simp⟩⟩
    · have q1 : Grows (BlkOf (Value.slice (some { block := B, off := 0 }) 1 blocks.c)) h h4 := gS.trans' g4 (fun b hb e => by omega) (fun b hb e => e.elim (fun e => by have := kf b e; omega) (fun e => by have := hBof b e; exact this ▸ hBB))
      exact q1.trans' gX (fun _ _ h => h) (fun b _ e => e ▸ hBB)
    · exact AccOf.weak (AccOf.grow hA4 g4.ok gX (fun b hb e => by have := AccOf.of hA4 hb; have := gS.next; omega)) (by have := gS.next; omega)
end Go.Proofs.YtigniafapkbbbaaGreatDoor

/- Contract: DoOf of package value, over a function of one block. -/
namespace Go.Proofs.YtigniafapkbbbaaGreatDoor
open Go.AI

theorem kept_op : ∀ (xs : List Own) (s : VS), ∀ y ∈ (runV s xs).kept, y ∈ s.kept ∨ ∃ x ∈ xs, y.op = x.op
  | [], s, y, hy => .inl (by simpa [runV] using hy)
  | x :: xs, s, y, hy => by
    rw [runV_cons] at hy
    rcases kept_op xs _ y hy with h | ⟨z, hz, e⟩
    · unfold stepV at h
      split at h
      · exact .inl h
      · rcases List.mem_append.1 h with h | h
        · exact .inl h
        · simp at h
          exact .inr ⟨x, List.mem_cons_self .., by rw [h]; rfl⟩
    · exact .inr ⟨z, List.mem_cons_of_mem _ hz, e⟩

/-- a list that a pass may walk -/
structure Walkable (N : Nat) (xs : List Own) : Prop where
  v : ∀ x ∈ xs, Valid N x
  op : ∀ x ∈ xs, 2 ≤ x.op ∧ x.op ≤ 15
  p : xs.Pairwise (fun x y => x.dst < y.dst)

theorem Walkable.kept {N : Nat} {xs : List Own} (h : Walkable N xs) : Walkable N (runV (initV N) xs).kept := by
  obtain ⟨c, hI, _⟩ := inv_run h.v h.p (fun x hx => by obtain ⟨k, e, _⟩ := (h.v x hx).dst; show ((0 : Nat) : Int) ≤ _; omega) (inv_init N) xs.length (Nat.le_refl _)
  rw [List.take_length] at hI
  refine ⟨fun y hy => (hI.val y hy).1, fun y hy => ?_, hI.pair⟩
  rcases kept_op xs _ y hy with e | ⟨x, hx, e⟩
  · simp [initV] at e
  · rw [e]; exact h.op x hx

/-- how far DoOf is: at its first pass, or at its second -/
def DoI (h : Heap) (n0 p N : Nat) (name : ByteArray) (blocks : SV) (n : Int) (xs : List Own) (m : Nat) (e : Env) (h2 : Heap) : Prop :=
  ∃ (ys : List Own) (L : SV), Env.get e 0 = .int .i64 0 ∧ Env.get e 3 = .pointer (some ⟨h.next, 0, none⟩) ∧ Env.get e 4 = .pointer (some ⟨h.next + 1, 0, none⟩) ∧ Grows (BlkOf blocks.v) h h2 ∧ (∃ s, h2.tr.get h.next = some (.blk (fnCells name p N blocks) false 0 s)) ∧
      (∃ s, h2.tr.get (h.next + 1) = some (.blk [.string ⟨⟨[]⟩⟩, .int .i64 0, .int .i64 0, .slice none 0 0] false 0 s)) ∧ OneW n0 h2 blocks L false n ∧ SliceOf encOwn h2 L.v ys ∧ (ys ≠ [] → ∀ c, BlkOf L.v c → c < h2.next ∧ ¬ BlkOf blocks.v c) ∧ ((m = 1 ∧ ys = xs) ∨ (m = 0 ∧ ys = (runV (initV N) xs).kept))

theorem doof_does {h : Heap} (ok : HOk h) {n0 p N : Nat} {name : ByteArray} {blocks : SV} {n : Int} {xs : List Own} (w : OwnFn n0 h blocks false n xs) (hw : Walkable N xs) (hpN : p ≤ N) (hN : N < 1000) (hlen : xs.length < 1000) :
    Does FF n_value_DoOf [.int .i64 0, .agg ⟨fnCells name p N blocks⟩] h (fun v h' => Grows (BlkOf blocks.v) h h' ∧ ∃ (B L : SV) (R : Nat), v = .agg ⟨fnCells name p R B⟩ ∧ R ≤ N ∧ OneW h.next h' B L false n ∧ L.l = (runV (initV N) xs).kept.length) := by
  obtain ⟨list, b, s, bl, fr, hb, hsl, hne⟩ := w
  have lb := ok.old hb
  have hbb : ∀ c, BlkOf blocks.v c → c = b := by rintro c ⟨off, m, cap, e⟩; simp [bl.1] at e; omega
  have hBB : BlkOf blocks.v b := ⟨0, blocks.l, blocks.c, by simp [bl.1]⟩
  refine Does.of c_value_DoOf ?_
  unfold b_value_DoOf
  simp [fnCells]
  refine Runs.loop (DoI h n0 p N name blocks n xs) ?_ (n := 1)
    ⟨xs, list, by simp, by simp, by simp, ?_, ⟨0, by simp [fnCells]⟩, ⟨0, by simp⟩, ?_, ?_, ?_, .inl ⟨rfl, rfl⟩⟩
  rotate_left
  · exact ((Grows.refl ok).new _ _).new _ _
  · exact ⟨bl.2, b, 6, s, bl.1, fr, by simpa [lb, blkCells] using hb⟩
  · exact sl_grow hsl.sl ok (((Grows.refl ok).new _ _).new _ _ : Grows Nob h _) (fun _ _ _ h => h)
  · intro hx c ⟨off, m, cap, e⟩
    simp at e
    rcases hsl.2 with ⟨e2, _⟩ | ⟨_, d, s', e1, e3, hd⟩
    · exact absurd e2 hx
    · rw [e1] at e
      have e := e.1
      cases e
      have := (ok.old hd).lt
      exact ⟨by simp; omega, fun e4 => hne _ e1 hx (hbb _ e4)⟩
  rintro m e h2 ⟨ys, L, f0, f3, f4, g2, ⟨s1, hF2⟩, ⟨s2, hR2⟩, hB2, hs2, hd2, hm⟩
  unfold r_value_DoOf_0
  have hy : Walkable N ys ∧ ys.length < 1000 ∧ (runV (initV N) ys).kept = (runV (initV N) xs).kept ∧ (m = 0 → (runV (initV N) ys).more = false) := by
    have hk := kept_again hw.v hw.p
    have hl := kept_le xs (initV N)
    simp [initV] at hl
    rcases hm with ⟨rfl, rfl⟩ | ⟨rfl, rfl⟩
    · exact ⟨hw, hlen, rfl, fun e => by cases e⟩
    · exact ⟨hw.kept, by simp [initV]; omega, hk.1, fun _ => hk.2⟩
  obtain ⟨hwy, hly, hky, hmy⟩ := hy
  have nf : ¬ BlkOf blocks.v h.next := fun e => by have := hbb _ e; have := lb.lt; omega
  have nr : ¬ BlkOf blocks.v (h.next + 1) := fun e => by have := hbb _ e; have := lb.lt; omega
  have O := once_does g2.ok ⟨_, _, hF2⟩ hB2 hs2 (by omega) (by omega) hwy.v hwy.op hwy.p hd2 nf
  simp [f0, f3]
  refine OpsR.call (by simpa [f0, f3, -SV.v_def] using O) ?_
  rintro _ h3 ⟨rfl, g3, L', hA3, hB3⟩
  have gg3 := g2.trans g3
  have hF3 := g3.get g2.ok hF2 nf
  have hR3 := g3.get g2.ok hR2 nr
  rw [hky] at hA3
  have hsl3 := AccOf.sl hA3
  cases hmo : (runV (initV N) ys).more with
  | true =>
    have hm1 : m = 1 := by
      rcases hm with ⟨e, _⟩ | ⟨e, _⟩
      · exact e
      · rw [hmy e] at hmo; cases hmo
    subst hm1
    simp
    refine ⟨_, L', by simp [f0], by simp [f3], by simp [f4], gg3, ⟨_, hF3⟩, ⟨_, hR3⟩, hB3, hsl3, fun hx c hc => ?_, .inr ⟨rfl, rfl⟩⟩
    have hcb := AccOf.of hA3 hc
    refine ⟨?_, fun e => by have := hbb _ e; have := lb.lt; have := g2.next; omega⟩
    rcases hA3 with ⟨e, _⟩ | ⟨d, s', e1, hd, _⟩
    · exact absurd e hx
    · obtain ⟨off, k, cap, e⟩ := hc
      rw [e1] at e; cases e
      exact (g3.ok.old hd).lt
  | false =>
    simp only [fnCells] at hF3
    simp [f3, hF3]
    have hk0 := kept_le xs (initV N)
    simp [initV] at hk0
    have hk1 : (runV (initV N) xs).kept.length < 1000 := by simp [initV]; omega
    have T := tidy_one g3.ok (name := name) (p := p) (N := N) hB3.one hA3 hpN (by omega) (by omega) hw.kept.v (fun e => by cases e)
    refine OpsR.call (V := fun v h' => Grows (fun b => BlkOf L'.v b) h3 h' ∧ ∃ (B : SV) (R : Nat), v = .agg ⟨fnCells name p R B⟩ ∧ R ≤ N ∧ OneW h3.next h' B L' false n) (by simpa [fnCells] using T) ?_
    rintro _ h4 ⟨g4, B, R, rfl, hR, hB4⟩
    have lo : ∀ c, BlkOf L'.v c → h2.next ≤ c := fun c hc => AccOf.of hA3 hc
    have lR := (g2.ok.old hR2).lt
    have g34 : Grows (BlkOf blocks.v) h h4 := gg3.trans' g4 (fun _ _ h => h) (fun c hc e => by have := lo c e; have := g2.next; omega)
    have hR4 := g4.get g3.ok hR3 (fun e => by have := lo _ e; omega)
    obtain ⟨eB, b4, o4, s4, aB, lB, hB4⟩ := hB4
    have l3 := gg3.next
    have l2 := g2.next
    have l32 := g3.next
    have nb : ¬ b4 = h.next + 1 := by omega
    have hll : L'.l = (runV (initV N) xs).kept.length := by
      rcases hA3 with ⟨e1, e2⟩ | ⟨d, s', e, _⟩
      · simp at e2; rw [e1, e2.2.1]; rfl
      · simp at e; exact e.2.1
    simp [fnCells, f4, hR4]
    exact ⟨g34.put ⟨_, hR4⟩ (.inl (by omega)), B, L', R, ⟨rfl, rfl, rfl, rfl⟩, hR, ⟨eB, b4, o4, s4, aB, by omega, by simpa [nb] using hB4⟩, hll⟩
end Go.Proofs.YtigniafapkbbbaaGreatDoor
