/- Contracts: sparse.state's now, turn. -/
import Derived.Test.YtehbhfobjechpaaGreatDoorKI
namespace Go.Proofs.YtehbhfobjechpaaGreatDoor
open Go.AI

theorem acc_one {α : Type} {E : Enc α} {h : Heap} (ok : HOk h) {n0 bytes : Nat} {z : List Value} {v w : Value} {xs : List α} {y : α} (hz : z.length = E.sz) (a : AccOf E n0 h v xs) (hw : SliceOf E h w [y])
    (hl : xs.length < 1000000) (hby : bytes ≤ 1000) (hn : n0 ≤ h.next) :
    ∃ v' h', appendF h z bytes false v w = some (v', h') ∧
      AccOf E n0 h' v' (xs ++ [y]) ∧ Grows (BlkOf v) h h' ∧ ∀ b, BlkOf v' b → b = h.next := by
  unfold appendF
  rw [news_sl hz hw]
  dsimp only
  have r1 : roomy (xs.length + 1) = true := by simp [roomy]; omega
  have r2 : roomy ((xs.length + 1) * bytes) = true := by
    have : (xs.length + 1) * bytes ≤ 1000000 * 1000 := Nat.mul_le_mul (by omega) hby
    simp [roomy]; omega
  have hp := E.pos
  have hp' : E.sz ≠ 0 := by omega
  rcases a with ⟨rfl, rfl⟩ | ⟨b, s, rfl, hb, hx, hb0⟩
  · have r3 : roomy bytes = true := by simp [roomy]; omega
    refine ⟨.slice (some ⟨h.next, 0, none⟩) 1 1, newBlk h (E.flat [y]) E.sz, ?_, .inr ⟨h.next, 0, rfl, by simp, by simp, hn⟩, (grow_newBlk ok _ _).nob, ?_⟩
    · have r4 : roomy 1 = true := rfl
      simp [appendV, hz, hp, r3, r4]
    · rintro b ⟨off, n, cap, e⟩; cases e; rfl
  · refine ⟨.slice (some ⟨h.next, 0, none⟩) (xs.length + 1) (xs.length + 1), newBlk { h with tr := h.tr.del b } (E.flat xs ++ E.flat [y]) E.sz, ?_, .inr ⟨h.next, 0, by simp, ?_, by simp, hn⟩, ?_, ?_⟩
    · have e1 : ¬ xs.length + 1 ≤ xs.length := by omega
      have e2 : (E.flat xs).take (xs.length * E.sz) = E.flat xs := List.take_of_length_le (by simp)
      simp [appendV, hz, hp, r1, r2, hb, e1, e2, hp']
    · have := get_newBlk { h with tr := h.tr.del b } (E.flat xs ++ E.flat [y]) E.sz
      rw [Enc.flat_append]
      exact this
    · refine ((grow_del ok b).weak ?_).trans (grow_newBlk (grow_del ok b).ok _ _).nob
      rintro x _ rfl
      exact ⟨_, _, _, rfl⟩
    · rintro b' ⟨off, n, cap, e⟩; cases e; rfl


/-- a value, as a number if it is one -/
def nowM (F : List (Int × Int)) (r : Bool) (n : Int) : Bool × Int := if r = true ∧ (ofM F r n).1 = 1 then (false, (ofM F r n).2) else (r, n)
def turnedM (F : List (Int × Int)) (x : Own) : Own := ⟨x.op, x.dst, (nowM F x.ar x.an).1, (nowM F x.ar x.an).2, (nowM F x.br x.bn).1, (nowM F x.br x.bn).2⟩
/-- what is left of an instruction -/
def keepF (F : List (Int × Int)) (x : Own) : Option Own :=
  if ((F[x.dst.toNat]?).getD (0, 0)).1 = 1 ∧ quietM 0 x.op (turnedM F x).ar (turnedM F x).an (turnedM F x).br (turnedM F x).bn = true then none else some (turnedM F x)

section
variable {h : Heap} {p FB N : Nat} {mB ah : SV} {mp : Nat} {more : Bool} {F : List (Int × Int)}

theorem now_does (ok : HOk h) (k : St h p FB N mB ah mp more F) {r : Bool} {n : Int} (hr : r = true → ∃ i : Nat, n = i ∧ i < N) :
    Does FF n_sparse_state_now [.pointer (some ⟨p, 0, none⟩), .agg ⟨[.bool r, .int .i64 n]⟩] h (fun v h' => v = .agg ⟨[.bool (nowM F r n).1, .int .i64 (nowM F r n).2]⟩ ∧ Grows Nob h h') := by
  refine Does.of c_sparse_state_now ?_
  unfold b_sparse_state_now
  simp
  refine OpsR.cut (fun h1 => Grows Nob h h1 ∧ h1.tr.get h.next = some (.blk [.bool r, .int .i64 n] false 0 0) ∧ h1.tr.get (h.next + 1) = some (.blk [.bool false, .int .i64 0] false 0 0)) ⟨((Grows.refl ok).new _ _).new _ _, by simp, by simp⟩ ?_
  rintro h1 ⟨g1, hX1, hR1⟩
  refine OpsR.call (by simpa using of_does g1.ok (k.grow ok g1 ⟨id, id⟩) hr) ?_
  rintro _ h2 ⟨rfl, g2⟩
  have gg2 := g1.trans g2
  have hX2 := g2.get g1.ok hX1 (fun h => h)
  have hR2 := g2.get g1.ok hR1 (fun h => h)
  have oX2 := gg2.ok.old hX2
  have oR2 := gg2.ok.old hR2
  have l2 : h.next + 1 < h2.next := oR2
  have nA : ¬ h2.next = h.next := by omega
  have nB : ¬ h2.next = h.next + 1 := by omega
  have nC : ¬ h.next + 1 = h2.next := by omega
  have nD : ¬ h.next = h2.next := by omega
  have nE : ¬ h.next = h.next + 1 := by omega
  unfold nowM
  generalize ofM F r n = a
  have fin : ∀ vs : List Value, Grows Nob h (put (put (newBlk h2 [.int .i64 0, .int .i64 0] 0) h2.next 0 [.int .i64 0, .int .i64 0] [.int .i64 a.1, .int .i64 a.2] 0) (h.next + 1) 0 [.bool false, .int .i64 0] vs 0) := fun vs =>
    (gg2.var _ _).put ⟨0, by simp [hR2, nC]⟩ (.inl (by omega))
  cases r with
  | false =>
    simp [hX2, hR2, oX2, oR2, nA, nB, nC, nD, nE]
    exact fin _
  | true =>
    by_cases h1 : a.1 = 1
    · simp [hX2, hR2, oX2, oR2, nA, nB, nC, nD, nE, h1]
      rw [← h1]
      exact fin _
    · have b1 := beq_no h1
      simp [hX2, hR2, oX2, oR2, nA, nB, nC, nD, nE, h1, b1]
      exact fin _
end
end Go.Proofs.YtehbhfobjechpaaGreatDoor

/- Contract: sparse.state's turn. -/
namespace Go.Proofs.YtehbhfobjechpaaGreatDoor
open Go.AI

theorem delphi_nil {h : Heap} (f : Value) : Does FF n_slices_DeleteFunc_api_Phi_api_Phi [.slice none 0 0, f] h (fun v h' => v = .slice none 0 0 ∧ h' = h) := by
  refine Does.of c_slices_DeleteFunc_api_Phi_api_Phi ?_
  unfold b_slices_DeleteFunc_api_Phi_api_Phi
  simp
  refine OpsR.call (V := fun v h' => v = .int .i64 (-1) ∧ h' = h) ?_ ?_
  · refine Does.of c_slices_IndexFunc_api_Phi_api_Phi ?_
    unfold b_slices_IndexFunc_api_Phi_api_Phi
    simp
    rw [runs_loop]
    unfold r_slices_IndexFunc_api_Phi_api_Phi_0
    simp
  · rintro _ h' ⟨rfl, e⟩
    rw [e]
    simp

theorem filterMap_take {α β : Type} (f : α → Option β) {xs : List α} {j : Nat} {x : α} (hx : xs[j]? = some x) : (xs.take (j + 1)).filterMap f = (xs.take j).filterMap f ++ (f x).toList := by
  rw [List.take_add_one, hx, List.filterMap_append]
  congr 1

theorem AccOf.sv {α : Type} {E : Enc α} {n0 : Nat} {h : Heap} {v : Value} {xs : List α} (a : AccOf E n0 h v xs) : ∃ L : SV, v = L.v := by
  rcases a with ⟨_, rfl⟩ | ⟨b, s, rfl, _⟩
  · exact ⟨⟨none, 0, 0⟩, rfl⟩
  · exact ⟨⟨some ⟨b, 0, none⟩, xs.length, xs.length⟩, rfl⟩

theorem AccOf.weak {α : Type} {E : Enc α} {n0 n1 : Nat} {h : Heap} {v : Value} {xs : List α} (a : AccOf E n0 h v xs) (hn : n1 ≤ n0) : AccOf E n1 h v xs := by
  rcases a with a | ⟨b, s, e, hb, hx, h2⟩
  · exact .inl a
  · exact .inr ⟨b, s, e, hb, hx, Nat.le_trans hn h2⟩

section
variable {h0 h : Heap} {p FB N : Nat} {mB ah : SV} {mp : Nat} {more : Bool} {F : List (Int × Int)}

theorem turn_does (ok0 : HOk h0) (g : Grows Nob h0 h) {r1 : Bool} {n1 : Int} {xs : List Own} (m : FnOk h0 0 N mB r1 n1 xs) (hN : N < 100000) (k : St h p FB N mB ah mp more F) :
    Does FF n_sparse_state_turn [.pointer (some ⟨p, 0, none⟩), .int .i64 0, .int .i64 0] h (fun v h' => Grows Nob h h' ∧ ∃ L : SV, v = .agg ⟨blkCells ⟨none, 0, 0⟩ L (nowM F r1 n1).1 (nowM F r1 n1).2 ⟨none, 0, 0⟩⟩ ∧ AccOf encOwn h.next h' L.v (xs.filterMap (keepF F))) := by
  have ok := g.ok
  have hlenN : xs.length ≤ N := by have := m.cnt; omega
  obtain ⟨b, ro, o, s, ha, hl, hb0⟩ := blk_get m.one
  have hb := g.get ok0 hb0 (fun h => h)
  have hll := m.llen
  replace hb : h.tr.get b = some (.blk [.slice none 0 0, .slice m.list.a xs.length m.list.c, .int .i64 1, .bool r1, .int .i64 n1, .slice none 0 0] ro o s) := by rw [hb, hll, m.hpn, m.htn]
  obtain ⟨s1, hp⟩ := k.st
  have hp' : h.tr.get p = some (.blk [.string sMain, .int .i64 0, .int .i64 N, .slice (some ⟨b, 0, none⟩) 1 mB.c, .slice ah.a ah.l ah.c, .slice (some ⟨FB, 0, none⟩) N N, .map (some mp), .bool more] false 0 s1) := by rw [hp]; simp [stCells, ha, hl]
  have ob := ok.old hb
  have op := ok.old hp'
  refine Does.of c_sparse_state_turn ?_
  unfold b_sparse_state_turn
  have e2 : ¬ h.next = h.next + 1 + 1 := by omega
  simp [hp', hb, op, ob, Nat.add_assoc]
  refine OpsR.cut (fun h1 => Grows Nob h h1 ∧ h1.tr.get h.next = some (.blk [.pointer (some ⟨p, 0, none⟩)] false 0 0) ∧ h1.tr.get (h.next + 1) = some (.blk [.slice none 0 0, .slice none 0 0, .int .i64 0, .bool false, .int .i64 0, .slice none 0 0] false 0 0) ∧
      h1.tr.get (h.next + 2) = some (.blk [.slice none 0 0, .slice m.list.a xs.length m.list.c, .int .i64 1, .bool r1, .int .i64 n1, .slice none 0 0] false 0 h.clock)) ?_ ?_
  · refine ⟨Grows.put ((((Grows.refl ok).new _ _).new _ _).new _ _) ⟨0, ?_⟩ (.inl (by omega)), ?_, ?_, ?_⟩ <;> simp [Nat.add_assoc]
  rintro h1 ⟨g1, hP1, hR1, hT1⟩
  refine OpsR.call (by simpa using delphi_nil (h := h1) (.func (.func 54) #[] #[.pointer (some ⟨h.next, 0, none⟩)])) ?_
  rintro _ h1' ⟨rfl, e1⟩
  rw [e1]
  simp [hT1]
  rw [runs_loop]
  unfold r_sparse_state_turn_3
  simp
  have e3 : ¬ h.next = h.next + 2 := by omega
  have e4 : ¬ h.next + 1 = h.next + 2 := by omega
  refine Runs.cut (fun h2 => Grows Nob h h2 ∧ h2.tr.get h.next = some (.blk [.pointer (some ⟨p, 0, none⟩)] false 0 0) ∧ h2.tr.get (h.next + 1) = some (.blk [.slice none 0 0, .slice none 0 0, .int .i64 0, .bool false, .int .i64 0, .slice none 0 0] false 0 0) ∧
      h2.tr.get (h.next + 2) = some (.blk [.slice none 0 0, .slice m.list.a xs.length m.list.c, .int .i64 1, .bool r1, .int .i64 n1, .slice none 0 0] false 0 h1.clock)) ?_ ?_
  · exact ⟨g1.put ⟨_, hT1⟩ (.inl (by omega)), by simp [hP1, e3], by simp [hR1, e4], by simp⟩
  rintro h2 ⟨g2, hP2, hR2, hT2⟩
  refine Runs.loop (fun mm e hh => ∃ (j : Nat) (w : SV), mm = xs.length - j ∧ j ≤ xs.length ∧ Env.get e 1 = .int .i64 0 ∧ Env.get e 3 = .pointer (some ⟨h.next, 0, none⟩) ∧ Env.get e 6 = .pointer (some ⟨h.next + 1, 0, none⟩) ∧ Env.get e 7 = .pointer (some ⟨h.next + 2, 0, none⟩) ∧ Env.get e 12 = w.v ∧
      Env.get e 55 = .slice m.list.a xs.length m.list.c ∧ Env.get e 56 = .int .i64 xs.length ∧ Env.get e 57 = .int .i64 j ∧ Grows Nob h2 hh ∧ AccOf encOwn h2.next hh w.v ((xs.take j).filterMap (keepF F))) ?_ (n := xs.length)
    ⟨0, ⟨none, 0, 0⟩, rfl, by omega, by simp, by simp, by simp, by simp, by simp, by simp, by simp, by simp, .refl g2.ok, .inl ⟨by simp, rfl⟩⟩
  rintro mm e hh ⟨j, w, rfl, hj, f1, f3, f6, f7, f12, f55, f56, f57, gh, hA⟩
  unfold r_sparse_state_turn_1
  have gh0 : Grows Nob h0 hh := (g.trans g2).trans gh
  have ghh : Grows Nob h hh := g2.trans gh
  have kh := k.grow ok ghh ⟨id, id⟩
  have hPh := gh.get g2.ok hP2 (fun h => h)
  have hRh := gh.get g2.ok hR2 (fun h => h)
  have hTh := gh.get g2.ok hT2 (fun h => h)
  have oPh := gh.ok.old hPh
  have oRh := gh.ok.old hRh
  have oTh := gh.ok.old hTh
  by_cases hjl : j < xs.length
  · have hx : xs[j]? = some xs[j] := List.getElem?_eq_getElem hjl
    generalize xs[j] = x at hx
    have q := m.ord j x hx
    have hdst : x.dst = (j : Int) := q.dst
    have hs2 : SliceOf encOwn hh (.slice m.list.a xs.length m.list.c) xs := by have := m.sl.nob ok0 gh0; rw [SV.v_def, m.llen] at this; exact this
    obtain ⟨b', off, cap', hv', _, ⟨csb, rob, obb, sbb, hbb⟩, hrd⟩ := hs2.read hx
    injection hv' with hv1 hv2 hv3
    have hr0 := hrd 0 8 (by simp)
    simp only [encOwn_sz, Nat.add_zero] at hr0
    have oB := gh0.ok.old hbb
    obtain ⟨j', hj'⟩ : ∃ j', j' = j + 1 := ⟨_, rfl⟩
    have wj : IntKind.i64.wrap ((j : Int) + 1) = (j' : Int) := by rw [wrap_i64 _ (by omega) (by omega)]; omega
    simp [f1, f3, f6, f7, f12, f55, f56, f57, hjl, hv1, hr0, hdst, readAt_get hPh, readAt_put, readAt_put_same, readAt_newBlk, readAt_tick, oB, oPh, -readAt_def]
    refine DrawR.cut (fun h3 => Grows Nob hh h3 ∧ h3.tr.get hh.next = some (.blk [.int .i64 x.op, .int .i64 j, .bool x.ar, .int .i64 x.an, .bool x.br, .int .i64 x.bn, .int .i64 0, .slice none 0 0] false 0 hh.clock)) ⟨((Grows.refl gh.ok).var _ _).tick, by simp⟩ ?_
    rintro h3 ⟨g3, hX3⟩
    have qa : x.ar = true → ∃ i : Nat, x.an = i ∧ i < N := fun e => by obtain ⟨i, h1, h2⟩ := q.a e; exact ⟨i, h1, by omega⟩
    have qb : x.br = true → ∃ i : Nat, x.bn = i ∧ i < N := fun e => by obtain ⟨i, h1, h2⟩ := q.b e; exact ⟨i, h1, by omega⟩
    refine DrawR.call (by simpa using now_does g3.ok (kh.grow gh.ok g3 ⟨id, id⟩) qa) ?_
    rintro _ h4 ⟨rfl, g4⟩
    have g34 := g3.trans g4
    have hX4 := g4.get g3.ok hX3 (fun h => h)
    have hP4 := g34.get gh.ok hPh (fun h => h)
    simp [hX4, hP4, f3]
    refine DrawR.call (by simpa using now_does g34.ok (kh.grow gh.ok g34 ⟨id, id⟩) qb) ?_
    rintro _ h5 ⟨rfl, g5⟩
    have g35 := g34.trans g5
    have hX5 := g5.get g34.ok hX4 (fun h => h)
    simp [hX5]
    refine Runs.cut (fun h6 => Grows Nob hh h6 ∧ ∃ s, h6.tr.get hh.next = some (.blk [.int .i64 x.op, .int .i64 j, .bool (turnedM F x).ar, .int .i64 (turnedM F x).an, .bool (turnedM F x).br, .int .i64 (turnedM F x).bn, .int .i64 0, .slice none 0 0] false 0 s)) ?_ ?_
    · refine ⟨(g35.put ⟨_, hX5⟩ (.inl (Nat.le_refl _))).put ⟨h5.clock, ?_⟩ (.inl (Nat.le_refl _)), h5.clock + 1, ?_⟩ <;> simp [turnedM]
    rintro h6 ⟨g6, s6, hX6⟩
    rw [runs_loop]
    unfold r_sparse_state_turn_0
    have gX6 := gh.trans g6
    have g06 : Grows Nob h h6 := ghh.trans g6
    have k6 := kh.grow gh.ok g6 ⟨id, id⟩
    obtain ⟨s7, hp6⟩ := k6.st
    obtain ⟨s8, hf6⟩ := k6.fa
    have hp6' : h6.tr.get p = some (.blk [.string sMain, .int .i64 0, .int .i64 N, .slice mB.a mB.l mB.c, .slice ah.a ah.l ah.c, .slice (some ⟨FB, 0, none⟩) N N, .map (some mp), .bool more] false 0 s7) := hp6
    obtain ⟨y, hy⟩ : ∃ y, F[j]? = some y := ⟨_, List.getElem?_eq_getElem (by rw [kh.ln]; omega)⟩
    have hrd6 := read_w hf6 hy 0 1 (by omega)
    simp only [Nat.add_zero, List.drop_zero] at hrd6
    have hrd6' : readAt h6 FB (j * 2) 1 = some [.int .i64 y.1] := hrd6
    have hP6 := g6.get gh.ok hPh (fun h => h)
    have h0j : ¬ (j : Int) < 0 := by omega
    have hjN : j < N := by omega
    have hFj : ((F[x.dst.toNat]?).getD (0, 0)).1 = y.1 := by rw [hdst, Int.toNat_natCast, hy]; rfl
    -- one more is kept
    have fin : ∀ (hX : Heap) (nx : Nat), Grows Nob h6 hX → hX.next = nx → ∃ (w' : SV) (h9 : Heap), appendF (newBlk hX [.int .i64 x.op, .int .i64 j, .bool (turnedM F x).ar, .int .i64 (turnedM F x).an, .bool (turnedM F x).br, .int .i64 (turnedM F x).bn, .int .i64 0, .slice none 0 0] 0) [.int .i64 0, .int .i64 0, .bool false, .int .i64 0, .bool false, .int .i64 0, .int .i64 0, .slice none 0 0] 80 false (.slice w.a w.l w.c) (.slice (some ⟨nx, 0, none⟩) 1 1) = some (.slice w'.a w'.l w'.c, h9) ∧
        AccOf encOwn h2.next h9 w'.v ((xs.take j).filterMap (keepF F) ++ [turnedM F x]) ∧ Grows Nob h2 h9 := by
      rintro hX _ gX rfl
      have gX2 := gX6.trans gX
      have e1 : ([.int .i64 x.op, .int .i64 j, .bool (turnedM F x).ar, .int .i64 (turnedM F x).an, .bool (turnedM F x).br, .int .i64 (turnedM F x).bn, .int .i64 0, .slice none 0 0] : List Value) = encOwn.enc (turnedM F x) := by
        simp [turnedM, hdst]
      rw [e1]
      have g8 := grow_newBlk gX2.ok (encOwn.enc (turnedM F x)) 0
      have hw8 : SliceOf encOwn (newBlk hX (encOwn.enc (turnedM F x)) 0) (.slice (some ⟨hX.next, 0, none⟩) 1 1) [turnedM F x] := ⟨_, _, rfl, .inr ⟨hX.next, 0, _, _, _, _, rfl, get_newBlk _ _ _, by simp, by simp⟩⟩
      have hA8 := (hA.grow gh.ok (g6.trans gX) (fun _ _ h => h)).grow gX2.ok g8 (fun _ _ h => h)
      have hnx : h2.next ≤ (newBlk hX (encOwn.enc (turnedM F x)) 0).next := by have := gX2.next; simp; omega
      have hlk : ((xs.take j).filterMap (keepF F)).length ≤ j := Nat.le_trans (List.length_filterMap_le _ _) (by simp; omega)
      obtain ⟨w', h9, ha, hA9, g9, hd9⟩ := acc_one (bytes := 80) g8.ok (z := [.int .i64 0, .int .i64 0, .bool false, .int .i64 0, .bool false, .int .i64 0, .int .i64 0, .slice none 0 0]) rfl hA8 hw8 (by omega) (by decide) hnx
      obtain ⟨L', rfl⟩ := AccOf.sv hA9
      exact ⟨L', h9, ha, hA9, (gX2.trans g8).trans' g9 (fun _ _ h => h) (fun x hx h => absurd (hA8.of h) (by omega))⟩
    by_cases hy1 : y.1 = 1
    · have by1 : (y.1 != 1) = false := by simp [hy1]
      have hq : ∃ b, quietM 0 x.op (turnedM F x).ar (turnedM F x).an (turnedM F x).br (turnedM F x).bn = b := ⟨_, rfl⟩
      obtain ⟨qb, hqb⟩ := hq
      simp [f1, f3, f6, f7, f12, f55, f56, f57, readAt_get hX6, readAt_get hP6, readAt_get hp6', hrd6', h0j, hjN, by1, hy1, readAt_tick, wj, -readAt_def]
      refine DrawR.call (V := fun v h' => v = .bool qb ∧ Grows Nob (tick h6) h') (by have := quiet_does (tick h6) (grow_tick g6.ok).ok 0 x.op j (turnedM F x).an (turnedM F x).bn 0 (turnedM F x).ar (turnedM F x).br none 0 0 (by omega); rw [hqb] at this; simpa [insCells] using this) ?_
      rintro _ h7 ⟨rfl, g7⟩
      have g67 : Grows Nob h6 h7 := (grow_tick g6.ok).trans g7
      have hX7 := g67.get g6.ok hX6 (fun h => h)
      cases qb with
      | true =>
        have hkeep : keepF F x = none := by unfold keepF; rw [if_pos ⟨by rw [hFj]; exact hy1, hqb⟩]
        simp [f1, f3, f6, f7, f12, f55, f56, f57, wj]
        refine ⟨xs.length - j', by omega, j', rfl, by omega, w, ⟨rfl, rfl, rfl⟩, hv1, rfl, gX6.trans g67, ?_⟩
        rw [hj', filterMap_take _ hx, hkeep]
        simpa using hA.grow gh.ok (g6.trans g67) (fun _ _ h => h)
      | false =>
        have hkeep : keepF F x = some (turnedM F x) := by unfold keepF; rw [if_neg (by rw [hqb]; exact fun e => by cases e.2)]
        obtain ⟨w', h9, ha9, hA9, g9⟩ := fin h7 h7.next g67 rfl
        simp [f1, f3, f6, f7, f12, f55, f56, f57, hX7, ha9, wj]
        refine ⟨xs.length - j', by omega, j', rfl, by omega, w', ⟨rfl, rfl, rfl⟩, hv1, rfl, g9, ?_⟩
        rw [hj', filterMap_take _ hx, hkeep]
        exact hA9
    · have by1 : (y.1 != 1) = true := by simpa using hy1
      have hkeep : keepF F x = some (turnedM F x) := by unfold keepF; rw [if_neg (by rw [hFj]; exact fun e => hy1 e.1)]
      obtain ⟨w', h9, ha9, hA9, g9⟩ := fin (tick h6) h6.next (Grows.refl g6.ok).tick rfl
      simp [f1, f3, f6, f7, f12, f55, f56, f57, readAt_get hX6, readAt_get hP6, readAt_get hp6', hrd6', h0j, hjN, by1, hy1, readAt_tick, ha9, wj, -readAt_def]
      refine ⟨xs.length - j', by omega, j', rfl, by omega, w', ⟨rfl, rfl, rfl⟩, hv1, rfl, g9, ?_⟩
      rw [hj', filterMap_take _ hx, hkeep]
      exact hA9
  · have : j = xs.length := by omega
    subst this
    simp [f1, f3, f6, f7, f12, f55, f56, f57, hPh, hTh]
    have l2 : h.next + 2 < hh.next := oTh
    have k8 : St (put hh (h.next + 2) 1 [.slice none 0 0, .slice m.list.a xs.length m.list.c, .int .i64 1, .bool r1, .int .i64 n1, .slice none 0 0] [.slice w.a w.l w.c] 0) p FB N mB ah mp more F := by
      refine k.grow ok (ghh.put ⟨_, hTh⟩ (.inl (by omega))) ⟨id, id⟩
    have g8 : Grows Nob h (put hh (h.next + 2) 1 [.slice none 0 0, .slice m.list.a xs.length m.list.c, .int .i64 1, .bool r1, .int .i64 n1, .slice none 0 0] [.slice w.a w.l w.c] 0) := ghh.put ⟨_, hTh⟩ (.inl (by omega))
    refine OpsR.call (by simpa using now_does g8.ok k8 (fun e => by obtain ⟨i, h1, h2⟩ := m.on e; exact ⟨i, h1, by omega⟩)) ?_
    rintro _ h9 ⟨rfl, g9⟩
    have hT9 := g9.get g8.ok (get_put_same _ _ _ _ _ _) (fun h => h)
    have hR9 := g9.get g8.ok (by rw [get_put', if_neg e4]; exact hRh) (fun h => h)
    have e5 : ¬ h.next + 2 = h.next + 1 := by omega
    simp [f6, f7, hT9, hR9, e4, e5]
    have S2 : Grows (fun b => b = h.next + 1 ∨ b = h.next + 2) hh h9 := (Grows.put (Grows.refl gh.ok) ⟨_, hTh⟩ (.inr (.inr rfl))).trans g9.nob
    have lh2 : h.next + 2 < h2.next := g2.ok.old hT2
    have hR9' : (put h9 (h.next + 2) 3 [.slice none 0 0, .slice w.a w.l w.c, .int .i64 1, .bool r1, .int .i64 n1, .slice none 0 0] [.bool (nowM F r1 n1).1, .int .i64 (nowM F r1 n1).2] 0).tr.get (h.next + 1) = some (.blk [.slice none 0 0, .slice none 0 0, .int .i64 0, .bool false, .int .i64 0, .slice none 0 0] false 0 0) := by
      rw [get_put', if_neg e4]; exact hR9
    refine ⟨((g8.trans g9).put ⟨_, hT9⟩ (.inl (by omega))).put ⟨_, hR9'⟩ (.inl (by omega)), w, rfl, ?_⟩
    rw [List.take_length] at hA
    exact AccOf.weak (hA.grow gh.ok (Grows.put (Grows.put S2 ⟨_, hT9⟩ (.inr (.inr rfl))) ⟨_, hR9'⟩ (.inr (.inl rfl))) (fun b hb hs => by have := hA.of hb; omega)) (by omega)
end
end Go.Proofs.YtehbhfobjechpaaGreatDoor
