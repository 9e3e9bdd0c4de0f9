/- Contracts: tidy.Keep, tidy.ChainsOf of a function of one block that returns; tidy.namer's name and val. -/
import Derived.Test.YtehbhfobjechpaaGreatDoorKJ
namespace Go.Proofs.YtehbhfobjechpaaGreatDoor
open Go.AI

def nilS : SV := ⟨none, 0, 0⟩

/-- the one block of a function, into which can be written -/
def OneW (n0 : Nat) (h : Heap) (blocks list : SV) (r : Bool) (n : Int) : Prop := blocks.l = 1 ∧ ∃ b o s, blocks.a = some ⟨b, 0, none⟩ ∧ n0 ≤ b ∧ h.tr.get b = some (.blk [.slice none 0 0, list.v, .int .i64 1, .bool r, .int .i64 n, .slice none 0 0] false o s)

theorem OneW.one {n0 : Nat} {h : Heap} {blocks list : SV} {r : Bool} {n : Int} (w : OneW n0 h blocks list r n) : OneB h blocks nilS list r n nilS := by
  obtain ⟨h1, b, o, s, h2, _, h3⟩ := w
  exact ⟨h1, b, false, o, s, h2, h3⟩

theorem keep_one {h : Heap} (ok : HOk h) {name : ByteArray} {p N : Int} {blocks list : SV} {r : Bool} {n : Int} {od oc : Nat} {o1 s1 : Nat} {r1 : Bool} (hB : OneB h blocks nilS list r n nilS) (hod : h.tr.get od = some (.blk [.int .i64 0] r1 o1 s1)) :
    Does FF n_tidy_Keep [.agg ⟨fnCells name p N blocks⟩, .slice (some ⟨od, 0, none⟩) 1 oc] h (fun v h' => Grows Nob h h' ∧ ∃ blocks' : SV, v = .agg ⟨fnCells name p N blocks'⟩ ∧ OneW h.next h' blocks' list r n) := by
  obtain ⟨hl, b, ro, o, s, ha, hb⟩ := id hB
  have w1 : IntKind.i64.wrap (0 + 1) = 1 := wrap_i64 _ (by omega) (by omega)
  have w1' : IntKind.i64.wrap 1 = 1 := wrap_i64 _ (by omega) (by omega)
  have oB := ok.old hb
  have oD := ok.old hod
  have hb' : h.tr.get b = some (.blk [.slice none 0 0, .slice list.a list.l list.c, .int .i64 1, .bool r, .int .i64 n, .slice none 0 0] ro o s) := by rw [hb]; simp [blkCells, nilS]
  refine Does.of c_tidy_Keep ?_
  unfold b_tidy_Keep
  have e2 : ¬ h.next = h.next + 1 + 1 := by omega
  simp [fnCells, hl, ha, repl, e2]
  refine OpsR.cut (fun h1 => Grows Nob h h1 ∧ h1.tr.get h.next = some (.blk [.string name, .int .i64 p, .int .i64 N, .slice (some ⟨b, 0, none⟩) 1 blocks.c] false 0 0) ∧ h1.tr.get (h.next + 1) = some (.blk [.string ⟨⟨[]⟩⟩, .int .i64 0, .int .i64 0, .slice none 0 0] false 0 0) ∧ (∃ o s, h1.tr.get (h.next + 1 + 1) = some (.blk [.int .i64 (-1)] false o s))) ?_ ?_
  · exact ⟨(((Grows.refl ok).new _ _).new _ _).new _ _, by simp [Nat.add_assoc], by simp [Nat.add_assoc], 0, 0, by simp [Nat.add_assoc]⟩
  rintro h1 ⟨g1, hF1, hR1, o2, s2, hM1⟩
  refine OpsR.call (V := fun v h' => Grows Nob h1 h' ∧ ∃ d s, v = .slice (some ⟨d, 0, none⟩) 1 1 ∧ h1.next ≤ d ∧ h'.tr.get d = some (.blk [.int .i64 (-1)] false 0 s)) (by simpa using repeat_i g1.ok 1 (by omega) hM1) ?_
  rintro _ h2 ⟨g2, at_, s3, rfl, hat, hA2⟩
  have gg2 := g1.trans g2
  have hod2 := gg2.get ok hod (fun h => h)
  simp
  rw [runs_loop]
  unfold r_tidy_Keep_5
  simp [hod2, hA2, w1, w1']
  rw [runs_loop]
  have hF2 := g2.get g1.ok hF1 (fun h => h)
  have lt1 := g1.next
  have oF1 := (g1.ok.old hF1).lt
  have nF : ¬ h.next = at_ := by omega
  simp [hF2, nF]
  refine OpsR.cut (fun h3 => Grows Nob h h3 ∧ h3.next = h2.next ∧ (∃ s, h3.tr.get at_ = some (.blk [.int .i64 0] false 0 s)) ∧ Grows (· = at_) h2 h3) ?_ ?_
  · exact ⟨gg2.put ⟨_, hA2⟩ (.inl (by omega)), rfl, ⟨h2.clock, by simp⟩, grow_put gg2.ok hA2⟩
  rintro h3 ⟨g3, hn3, ⟨s4, hA3⟩, g23⟩
  have nR : ¬ h.next + 1 = at_ := by have := (g1.ok.old hR1).lt; omega
  have hF3 := g23.get gg2.ok hF2 nF
  have hR3 := g23.get gg2.ok (g2.get g1.ok hR1 (fun h => h)) nR
  refine OpsR.call (by simpa [fnCells, hl, ha] using gahead_one g3.ok (name := name) (params := p) (regs := N) (hB.grow ok g3) rfl) ?_
  rintro _ h4 ⟨g4, ah, rfl, hah, s5, hAh4⟩
  have gg4 := g3.trans g4
  have hod4 := gg4.get ok hod (fun h => h)
  have hb4 := gg4.get ok hb' (fun h => h)
  have hF4 := g4.get g3.ok hF3 (fun h => h)
  have hR4 := g4.get g3.ok hR3 (fun h => h)
  have ob4 := gg4.ok.old hb4
  simp
  rw [runs_loop]
  unfold r_tidy_Keep_4
  simp [hod4, hF4, hb4, ob4]
  rw [runs_loop]
  unfold r_tidy_Keep_3
  simp
  rw [runs_loop]
  unfold r_tidy_Keep_0
  simp [appendF, news, appendV, roomy, w1, w1', repl]
  rw [runs_loop]
  have oF4 := gg4.ok.old hF4
  have oR4 := gg4.ok.old hR4
  have nA : ¬ h.next = h4.next + 1 + 1 := by have := oF4.lt; omega
  have nB : ¬ h.next = h4.next + 1 := by have := oF4.lt; omega
  simp [hF4, hR4, oF4, oR4, nA, nB]
  refine ⟨?_, ⟨some ⟨h4.next + 1 + 1, 0, none⟩, 1, 1⟩, ⟨rfl, rfl, rfl⟩, rfl, h4.next + 1 + 1, 6, 0, rfl, by have := gg4.next; omega, ?_⟩
  · refine Grows.put (Grows.put (((gg4.var _ _).new _ _).new _ _) ⟨0, ?_⟩ (.inl (Nat.le_refl _))) ⟨0, ?_⟩ (.inl (by omega))
    · simp [nA, nB, oF4, hF4]
    · simp [nA, nB, oR4, hR4]
      have := oF4.lt; omega
  · have nA' : ¬ h4.next + 1 + 1 = h.next := fun e => nA e.symm
    have nB' : ¬ h4.next + 1 = h.next := fun e => nB e.symm
    simp [nA', nB']

theorem chains_one {h : Heap} (ok : HOk h) {name : ByteArray} {p N : Int} {blocks list : SV} {r : Bool} {n : Int} (hB : OneB h blocks nilS list r n nilS) :
    Does FF n_tidy_ChainsOf [.agg ⟨fnCells name p N blocks⟩] h (fun v h' => Grows Nob h h' ∧ v = .agg ⟨fnCells name p N blocks⟩) := by
  obtain ⟨hl, b, ro, o, s, ha, hb⟩ := id hB
  have w1 : IntKind.i64.wrap (0 + 1) = 1 := wrap_i64 _ (by omega) (by omega)
  have w1' : IntKind.i64.wrap 1 = 1 := wrap_i64 _ (by omega) (by omega)
  have oB := ok.old hb
  have hb' : h.tr.get b = some (.blk [.slice none 0 0, .slice list.a list.l list.c, .int .i64 1, .bool r, .int .i64 n, .slice none 0 0] ro o s) := by rw [hb]; simp [blkCells, nilS]
  refine Does.of c_tidy_ChainsOf ?_
  unfold b_tidy_ChainsOf
  simp [fnCells, hl, ha]
  rw [runs_loop]
  unfold r_tidy_ChainsOf_1
  simp
  rw [runs_loop]
  unfold r_tidy_ChainsOf_0
  simp [hb', oB, w1, w1']
  rw [runs_loop]
  simp
  refine Grows.put (((Grows.refl ok).new _ _).new _ _) ⟨0, by simp⟩ (.inl (by omega))


/-- A namer: of as many registers as it has named it has told numbers. -/
def Nmr (h : Heap) (Nm now N : Nat) (many : Nat) : Prop := ∃ (ws : List Int) (s1 s2 : Nat), h.tr.get Nm = some (.blk [.slice (some ⟨now, 0, none⟩) N N, .int .i64 many] false 0 s1) ∧ h.tr.get now = some (.blk (encI.flat ws) false 0 s2) ∧ ws.length = N ∧ many = ws.countP (fun z => decide (0 ≤ z)) ∧ Nm ≠ now

theorem Nmr.le {h : Heap} {Nm now N many : Nat} (k : Nmr h Nm now N many) : many ≤ N := by
  obtain ⟨ws, _, _, _, _, h3, h4, _⟩ := k
  rw [h4, ← h3]
  exact List.countP_le_length

theorem Nmr.grow {S : Nat → Prop} {h h' : Heap} {Nm now N many : Nat} (k : Nmr h Nm now N many) (ok : HOk h) (g : Grows S h h') (h1 : ¬ S Nm) (h2 : ¬ S now) : Nmr h' Nm now N many := by
  obtain ⟨ws, s1, s2, a, b, c, d, e⟩ := k
  exact ⟨ws, s1, s2, g.get ok a h1, g.get ok b h2, c, d, e⟩

theorem name_does {h : Heap} (ok : HOk h) {Nm now N many r : Nat} (hN : N < 100000) (hr : r < N) (k : Nmr h Nm now N many) :
    Does FF n_tidy_namer_name [.pointer (some ⟨Nm, 0, none⟩), .int .i64 r] h (fun v h' => Grows (fun x => x = Nm ∨ x = now) h h' ∧ ∃ (m : Int) (many' : Nat), v = .int .i64 m ∧ Nmr h' Nm now N many') := by
  obtain ⟨ws, s1, s2, hm, hw, hl, hc, hne⟩ := k
  obtain ⟨x, hx⟩ : ∃ x, ws[r]? = some x := ⟨_, List.getElem?_eq_getElem (by omega)⟩
  have hrd := read_i hw hx
  have hlen : (encI.flat ws).length = N := by rw [encI.length_flat, hl]; exact Nat.mul_one _
  have hr1 : r + 1 ≤ N := hr
  have hne' : ¬ now = Nm := Ne.symm hne
  have hle : many ≤ N := by rw [hc, ← hl]; exact List.countP_le_length
  have wm : IntKind.i64.wrap ((many : Int) + 1) = ((many + 1 : Nat) : Int) := by rw [wrap_i64 _ (by omega) (by omega)]; omega
  refine Does.of c_tidy_namer_name ?_
  unfold b_tidy_namer_name
  by_cases hx0 : x < 0
  · have hsp : splice (encI.flat ws) r [.int .i64 many] = encI.flat (ws.set r many) := by
      have := encI.splice_flat ws r (many : Int) (by omega)
      simpa using this
    have hcnt : (ws.set r (many : Int)).countP (fun z => decide (0 ≤ z)) = many + 1 := by
      have hge : ws[r] = x := by have := (List.getElem?_eq_some_iff.mp hx).2; exact this
      rw [List.countP_set (by omega), hge, ← hc]
      have e1 : decide ((0 : Int) ≤ x) = false := by simp; omega
      have e2 : decide ((0 : Int) ≤ (many : Int)) = true := by simp
      rw [e1, e2]
      simp
    have hx2 : (ws.set r (many : Int))[r]? = some (many : Int) := by rw [List.getElem?_set, if_pos rfl, if_pos (by omega)]
    have hat : (List.drop r (encI.flat (ws.set r (many : Int)))).take 1 = [.int .i64 many] := by
      have := encI.at_flat (ws.set r (many : Int)) r many hx2
      simpa using this
    have hlen2 : (encI.flat (ws.set r (many : Int))).length = N := by rw [encI.length_flat, List.length_set, hl]; exact Nat.mul_one _
    simp [readAt_get hm, hr, hrd, hx0, readAt_tick, readAt_put, readAt_put_same, hw, hlen, hr1, hm, hne, hne', wm, hsp, hat, hlen2, -readAt_def]
    refine ⟨?_, many + 1, ws.set r many, h.clock + 1 + 1, h.clock + 1, ?_, ?_, by simp [hl], hcnt.symm, hne⟩
    · refine Grows.put (Grows.put (Grows.refl ok).tick ⟨s2, ?_⟩ (.inr (.inr rfl))) ⟨s1, ?_⟩ (.inr (.inl rfl))
      · simp [hw]
      · simp [hne, hm]
    · simp
    · simp [hne', hsp]
  · simp [readAt_get hm, hr, hrd, hx0, -readAt_def]
    exact ⟨.refl ok, many, ws, s1, s2, hm, hw, hl, hc, hne⟩

theorem nval_does {h : Heap} (ok : HOk h) {Nm now N many : Nat} (hN : N < 100000) {r : Bool} {n : Int} (hr : r = true → ∃ i : Nat, n = i ∧ i < N) (k : Nmr h Nm now N many) :
    Does FF n_tidy_namer_val [.pointer (some ⟨Nm, 0, none⟩), .agg ⟨[.bool r, .int .i64 n]⟩] h (fun v h' => Grows (fun x => x = Nm ∨ x = now) h h' ∧ ∃ (m : Int) (many' : Nat), v = .agg ⟨[.bool r, .int .i64 m]⟩ ∧ (r = false → m = n) ∧ Nmr h' Nm now N many') := by
  cases r with
  | false =>
    refine Does.of c_tidy_namer_val ?_
    unfold b_tidy_namer_val
    simp
    have g : Grows Nob h (put (newBlk (newBlk h [.bool false, .int .i64 n] 0) [.bool false, .int .i64 0] 0) (h.next + 1) 0 [.bool false, .int .i64 0] [.bool false, .int .i64 n] 0) := Grows.put (((Grows.refl ok).new _ _).new _ _) ⟨0, by simp⟩ (.inl (by omega))
    exact ⟨g.nob, many, k.grow ok g id id⟩
  | true =>
    obtain ⟨i, rfl, hi⟩ := hr rfl
    refine Does.of c_tidy_namer_val ?_
    unfold b_tidy_namer_val
    simp
    refine OpsR.cut (fun h1 => Grows Nob h h1 ∧ h1.tr.get h.next = some (.blk [.bool true, .int .i64 i] false 0 0) ∧ h1.tr.get (h.next + 1) = some (.blk [.bool false, .int .i64 0] false 0 0)) ⟨((Grows.refl ok).new _ _).new _ _, by simp, by simp⟩ ?_
    rintro h1 ⟨g1, hX1, hR1⟩
    obtain ⟨ws0, t1, t2, q1, q2, _⟩ := id k
    have lN := (ok.old q1).lt
    have ln := (ok.old q2).lt
    refine OpsR.call (name_does g1.ok hN hi (k.grow ok g1 id id)) ?_
    rintro _ h2 ⟨g2, m, many', rfl, k2⟩
    have hX2 := g2.get g1.ok hX1 (by omega)
    have hR2 := g2.get g1.ok hR1 (by omega)
    have n1 : ¬ h.next + 1 = h.next := by omega
    simp [hX2, hR2, n1]
    have g02 : Grows (fun x => x = Nm ∨ x = now) h h2 := g1.nob.trans g2
    have g3 : Grows (fun x => x = Nm ∨ x = now) h (put (put h2 h.next 1 [.bool true, .int .i64 i] [.int .i64 m] 0) (h.next + 1) 0 [.bool false, .int .i64 0] [.bool true, .int .i64 m] 0) := by
      refine Grows.put (Grows.put g02 ⟨0, hX2⟩ (.inl (Nat.le_refl _))) ⟨0, ?_⟩ (.inl (by omega))
      simp [n1, hR2]
    have g23 : Grows (fun x => x = h.next ∨ x = h.next + 1) h2 (put (put h2 h.next 1 [.bool true, .int .i64 i] [.int .i64 m] 0) (h.next + 1) 0 [.bool false, .int .i64 0] [.bool true, .int .i64 m] 0) := by
      refine Grows.put (Grows.put (Grows.refl g2.ok) ⟨0, hX2⟩ (.inr (.inl rfl))) ⟨0, ?_⟩ (.inr (.inr rfl))
      simp [n1, hR2]
    exact ⟨g3, many', k2.grow g2.ok g23 (by omega) (by omega)⟩
end Go.Proofs.YtehbhfobjechpaaGreatDoor

/- Contract: tidy.NamesOf of a function of one block: the first walk over it, which names. -/
namespace Go.Proofs.YtehbhfobjechpaaGreatDoor
open Go.AI

/-- what is named there is a register -/
structure Valid (N : Nat) (x : Own) : Prop where
  dst : ∃ k : Nat, x.dst = k ∧ k < N
  a : x.ar = true → ∃ k : Nat, x.an = k ∧ k < N
  b : x.br = true → ∃ k : Nat, x.bn = k ∧ k < N

def NvQ (Nm now N : Nat) (r : Bool) (n : Int) (h : Heap) (v : Value) (h' : Heap) : Prop := Grows (fun x => x = Nm ∨ x = now) h h' ∧ ∃ (m : Int) (many' : Nat), v = .agg ⟨[.bool r, .int .i64 m]⟩ ∧ (r = false → m = n) ∧ Nmr h' Nm now N many'
def NaQ (Nm now N : Nat) (h : Heap) (v : Value) (h' : Heap) : Prop := Grows (fun x => x = Nm ∨ x = now) h h' ∧ ∃ (m : Int) (many' : Nat), v = .int .i64 m ∧ Nmr h' Nm now N many'
theorem nval_q {h : Heap} (ok : HOk h) {Nm now N many : Nat} (hN : N < 100000) {r : Bool} {n : Int} (hr : r = true → ∃ i : Nat, n = i ∧ i < N) (k : Nmr h Nm now N many) :
    Does FF n_tidy_namer_val [.pointer (some ⟨Nm, 0, none⟩), .agg ⟨[.bool r, .int .i64 n]⟩] h (NvQ Nm now N r n h) := nval_does ok hN hr k
theorem name_q {h : Heap} (ok : HOk h) {Nm now N many r : Nat} (hN : N < 100000) (hr : r < N) (k : Nmr h Nm now N many) :
    Does FF n_tidy_namer_name [.pointer (some ⟨Nm, 0, none⟩), .int .i64 r] h (NaQ Nm now N h) := name_does ok hN hr k

/-- one round of the first walk over a list -/
theorem walk_round {hh : Heap} {Nm now N many j len : Nat} {e : Env} {la : Option Addr} {lc b' off : Nat} {x : Own} {Q : AExit → Env → Heap → Prop} (okh : HOk hh) (hN : N < 100000) (hjl : j < len) (hlen : len < 100000) (hv1 : la = some ⟨b', off, none⟩) (hr0 : readAt hh b' (off + j * 8) 8 = some (encOwn.enc x)) (hold : Old b' hh) (hx : Valid N x) (k : Nmr hh Nm now N many)
    (f3 : Env.get e 3 = .pointer (some ⟨Nm, 0, none⟩)) (f62 : Env.get e 62 = .slice la len lc) (f63 : Env.get e 63 = .int .i64 len) (f64 : Env.get e 64 = .int .i64 j)
    (K : ∀ (e' : Env) (h' : Heap) (many' : Nat), (∀ t, t ∉ ([10, 12, 64, 65, 66, 67, 68, 69, 70, 71, 72, 73, 74, 75, 76, 77, 78, 79, 80, 81, 82, 83, 84, 85, 86, 87, 88, 89, 90, 91, 92, 93, 94] : List Nat) → Env.get e' t = Env.get e t) → Env.get e' 64 = .int .i64 ((j + 1 : Nat) : Int) → Grows (fun x => x = Nm ∨ x = now) hh h' → Nmr h' Nm now N many' → Q .normal e' h') :
    Runs FF r_tidy_NamesOf_6 e hh Q := by
  obtain ⟨j', hj'⟩ : ∃ j', j' = j + 1 := ⟨_, rfl⟩
  have wj : IntKind.i64.wrap ((j : Int) + 1) = (j' : Int) := by rw [wrap_i64 _ (by omega) (by omega)]; omega
  have hjl' : (j : Int) < (len : Int) := by omega
  simp only [encOwn_enc] at hr0
  unfold r_tidy_NamesOf_6
  subst hv1
  obtain ⟨ws0, t1, t2, q1, q2, _⟩ := id k
  have oN := okh.old q1
  have on := okh.old q2
  simp [f3, f62, f63, f64, hjl, hjl', hr0, readAt_put_same, readAt_put, readAt_newBlk, hold, -readAt_def]
  refine OpsR.cut (fun h1 => Grows Nob hh h1 ∧ ∃ s, h1.tr.get hh.next = some (.blk [.int .i64 x.op, .int .i64 x.dst, .bool x.ar, .int .i64 x.an, .bool x.br, .int .i64 x.bn, .int .i64 0, .slice none 0 0] false 0 s)) ⟨(Grows.refl okh).var _ _, hh.clock, by simp⟩ ?_
  rintro h1 ⟨g1, s1, hX1⟩
  have nXN : ¬ (hh.next = Nm ∨ hh.next = now) := by have := oN.lt; have := on.lt; omega
  refine OpsR.call (V := NvQ Nm now N x.ar x.an h1) (by simpa using nval_q g1.ok hN hx.a (k.grow okh g1 id id)) ?_
  rintro _ h2 ⟨g2, m2, many2, rfl, _, k2⟩
  have hX2 := g2.get g1.ok hX1 nXN
  simp [hX2, f3]
  refine OpsR.call (V := NvQ Nm now N x.br x.bn h2) (by simpa using nval_q g2.ok hN hx.b k2) ?_
  rintro _ h3 ⟨g3, m3, many3, rfl, _, k3⟩
  have hX3 := g3.get g2.ok hX2 nXN
  obtain ⟨kd, hd, hkd⟩ := hx.dst
  have h0d : (0 : Int) ≤ x.dst := by omega
  simp [hX3, f3]
  rw [runs_loop]
  unfold r_tidy_NamesOf_5
  simp [hX3, f3, hd]
  refine OpsR.call (V := NaQ Nm now N h3) (by simpa using name_q g3.ok hN hkd k3) ?_
  rintro _ h4 ⟨g4, m4, many4, rfl, k4⟩
  have wj2 : IntKind.i64.wrap ((j : Int) + 1) = (j : Int) + 1 := by rw [wrap_i64 _ (by omega) (by omega)]
  simp [f64, wj2]
  refine K _ h4 many4 ?_ ?_ (((g1.nob.trans g2).trans g3).trans g4) k4
  · intro t ht
    simp at ht
    simp [Env.get_set, ht]
  · simp
end Go.Proofs.YtehbhfobjechpaaGreatDoor

/- Contract: tidy.NamesOf of a function of one block: the second walk over it, which writes. -/
namespace Go.Proofs.YtehbhfobjechpaaGreatDoor
open Go.AI

/-- one round of the second walk over a list -/
theorem write_round {hh : Heap} {Nm now N many j len T d lc s0 s9 : Nat} {r : Bool} {n : Int} {ys : List Own} {e : Env} {x : Own} {Q : AExit → Env → Heap → Prop} (okh : HOk hh) (hN : N < 100000) (hjl : j < len) (hlen : len < 100000) (hyl : ys.length = len) (hyj : ys[j]? = some x) (hx : Valid N x) (k : Nmr hh Nm now N many)
    (hT : hh.tr.get T = some (.blk [.slice none 0 0, .slice (some ⟨d, 0, none⟩) len lc, .int .i64 1, .bool r, .int .i64 n, .slice none 0 0] false 0 s0)) (hL : hh.tr.get d = some (.blk (encOwn.flat ys) false 8 s9)) (n1 : T ≠ Nm) (n2 : T ≠ now) (n3 : d ≠ Nm) (n4 : d ≠ now) (n5 : T ≠ d)
    (f3 : Env.get e 3 = .pointer (some ⟨Nm, 0, none⟩)) (f14 : Env.get e 14 = .pointer (some ⟨T, 0, none⟩)) (f144 : Env.get e 144 = .slice (some ⟨d, 0, none⟩) len lc) (f145 : Env.get e 145 = .int .i64 len) (f146 : Env.get e 146 = .int .i64 j)
    (K : ∀ (e' : Env) (h' : Heap) (many' : Nat) (y : Own), (∀ t, (t < 19 ∨ (100 ≤ t ∧ t < 146)) → Env.get e' t = Env.get e t) → Env.get e' 146 = .int .i64 ((j + 1 : Nat) : Int) → Grows (fun x => (x = Nm ∨ x = now) ∨ x = d) hh h' → Nmr h' Nm now N many' → (∃ s, h'.tr.get d = some (.blk (encOwn.flat (ys.set j y)) false 8 s)) → Q .normal e' h') :
    Runs FF r_tidy_NamesOf_1 e hh Q := by
  have wj : IntKind.i64.wrap ((j : Int) + 1) = (j : Int) + 1 := by rw [wrap_i64 _ (by omega) (by omega)]
  have hsL : SliceOf encOwn hh (.slice (some ⟨d, 0, none⟩) len lc) ys := ⟨_, _, by rw [hyl], .inr ⟨d, 0, _, _, _, _, rfl, hL, by simp, by simp [List.take_of_length_le]⟩⟩
  obtain ⟨b', off, cap', hv', _, _, hrd⟩ := hsL.read hyj
  have hr0 := hrd 0 8 (by simp)
  injection hv' with hv1 hv2 hv3
  cases hv1
  simp only [encOwn_sz, Nat.add_zero, encOwn_enc, Nat.zero_add] at hr0
  obtain ⟨ws0, t1, t2, q1, q2, _⟩ := id k
  have oN := okh.old q1
  have on := okh.old q2
  have oT := okh.old hT
  have od := okh.old hL
  unfold r_tidy_NamesOf_1
  simp [f3, f14, f144, f145, f146, hjl, hr0, readAt_put_same, readAt_put, readAt_newBlk, readAt_tick, od, -readAt_def]
  refine DrawR.cut (fun h1 => Grows Nob hh h1 ∧ h1.tr.get hh.next = some (.blk [.int .i64 x.op, .int .i64 x.dst, .bool x.ar, .int .i64 x.an, .bool x.br, .int .i64 x.bn, .int .i64 0, .slice none 0 0] false 0 hh.clock)) ⟨((Grows.refl okh).var _ _).tick, by simp⟩ ?_
  rintro h1 ⟨g1, hX1⟩
  have nXN : ¬ (hh.next = Nm ∨ hh.next = now) := by have := oN.lt; have := on.lt; omega
  refine DrawR.call (V := NvQ Nm now N x.ar x.an h1) (by simpa using nval_q g1.ok hN hx.a (k.grow okh g1 id id)) ?_
  rintro _ h2 ⟨g2, m2, many2, rfl, _, k2⟩
  have hX2 := g2.get g1.ok hX1 nXN
  simp [hX2, f3]
  refine DrawR.call (V := NvQ Nm now N x.br x.bn h2) (by simpa using nval_q g2.ok hN hx.b k2) ?_
  rintro _ h3 ⟨g3, m3, many3, rfl, _, k3⟩
  have hX3 := g3.get g2.ok hX2 nXN
  obtain ⟨kd, hd, hkd⟩ := hx.dst
  simp [hX3, f3]
  have g03 : Grows (fun x => x = Nm ∨ x = now) hh h3 := (g1.nob.trans g2).trans g3
  refine Runs.cut (fun h4 => Grows (fun x => x = Nm ∨ x = now) hh h4 ∧ Nmr h4 Nm now N many3 ∧ ∃ s, h4.tr.get hh.next = some (.blk [.int .i64 x.op, .int .i64 kd, .bool x.ar, .int .i64 m2, .bool x.br, .int .i64 m3, .int .i64 0, .slice none 0 0] false 0 s)) ?_ ?_
  · have G : Grows (fun z => z = hh.next) h3 (put (put h3 hh.next 2 [.int .i64 x.op, .int .i64 x.dst, .bool x.ar, .int .i64 x.an, .bool x.br, .int .i64 x.bn, .int .i64 0, .slice none 0 0] [.bool x.ar, .int .i64 m2] 0) hh.next 4 [.int .i64 x.op, .int .i64 x.dst, .bool x.ar, .int .i64 m2, .bool x.br, .int .i64 x.bn, .int .i64 0, .slice none 0 0] [.bool x.br, .int .i64 m3] 0) := by
      refine Grows.put (Grows.put (Grows.refl g3.ok) ⟨_, hX3⟩ (.inr rfl)) ⟨h3.clock, ?_⟩ (.inr rfl)
      simp
    refine ⟨g03.trans' G (fun _ _ h => h) (by rintro z hz rfl; omega), k3.grow g3.ok G (by omega) (by omega), h3.clock + 1, by simp [hd]⟩
  rintro h4 ⟨g4, k4, s4, hX4⟩
  rw [runs_loop]
  unfold r_tidy_NamesOf_0
  simp [hX4, f3]
  refine OpsR.call (V := NaQ Nm now N h4) (by simpa using name_q g4.ok hN hkd k4) ?_
  rintro _ h5 ⟨g5, m5, many5, rfl, k5⟩
  have hX5 := g5.get g4.ok hX4 nXN
  have g05 := g4.trans g5
  have hT5 := g05.get okh hT (by rintro (e | e) <;> omega)
  have hL5 := g05.get okh hL (by rintro (e | e) <;> omega)
  have hlf : (encOwn.flat ys).length = len * 8 := by rw [encOwn.length_flat, hyl]; rfl
  have hlj : j * 8 + 8 ≤ len * 8 := by omega
  have nXT : ¬ T = hh.next := by have := oT.lt; omega
  have nXd : ¬ d = hh.next := by have := od.lt; omega
  simp [hX5, f3, f14, f146, hT5, hL5, nXT, nXd, hlf, hlj, hjl, wj]
  have hsp : splice (encOwn.flat ys) (j * 8) [.int .i64 x.op, .int .i64 m5, .bool x.ar, .int .i64 m2, .bool x.br, .int .i64 m3, .int .i64 0, .slice none 0 0] = encOwn.flat (ys.set j ⟨x.op, m5, x.ar, m2, x.br, m3⟩) :=
    encOwn.splice_flat ys j ⟨x.op, m5, x.ar, m2, x.br, m3⟩ (by omega)
  have nXd' : ¬ hh.next = d := fun e => nXd e.symm
  refine K _ _ many5 ⟨x.op, m5, x.ar, m2, x.br, m3⟩ ?_ ?_ ?_ ?_ ?_
  · intro t ht
    have ht2 : ∀ u ∈ ([146, 147, 148, 149, 150, 20, 19, 151, 152, 153, 155, 156, 157, 154, 159, 158, 160, 161, 162, 163, 164, 165, 177, 178, 179, 180, 181, 182, 183, 184, 185, 186, 187, 188, 189, 190] : List Nat), t ≠ u := by
      intro u hu
      simp at hu
      omega
    simp at ht2
    simp [Env.get_set, ht2]
  · simp
  · refine Grows.put (Grows.put (g05.weak fun _ _ h => .inl h) ⟨s4, hX5⟩ (.inl (Nat.le_refl _))) ⟨s9, ?_⟩ (.inr (.inr rfl))
    simp [nXd, hL5]
  · have G : Grows (fun z => z = hh.next ∨ z = d) h5 (put (put h5 hh.next 1 [.int .i64 x.op, .int .i64 kd, .bool x.ar, .int .i64 m2, .bool x.br, .int .i64 m3, .int .i64 0, .slice none 0 0] [.int .i64 m5] 0) d (j * 8) (encOwn.flat ys) [.int .i64 x.op, .int .i64 m5, .bool x.ar, .int .i64 m2, .bool x.br, .int .i64 m3, .int .i64 0, .slice none 0 0] 8) := by
      refine Grows.put (Grows.put (Grows.refl g5.ok) ⟨s4, hX5⟩ (.inr (.inl rfl))) ⟨s9, ?_⟩ (.inr (.inr rfl))
      simp [nXd, hL5]
    exact k5.grow g5.ok G (by rintro (e | e) <;> omega) (by rintro (e | e) <;> omega)
  · exact ⟨_, by rw [get_put_same, hsp]⟩
end Go.Proofs.YtehbhfobjechpaaGreatDoor
