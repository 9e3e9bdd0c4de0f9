/- Contract: tidy.NamesOf of a function of one block: the first walk over it, which names. -/
import Derived.Test.YtigniafapkbbbaaGreatDoorKG
namespace Go.Proofs.YtigniafapkbbbaaGreatDoor
open Go.AI

def NvQ (Nm now N : Nat) (r : Bool) (n : Int) (h : Heap) (v : Value) (h' : Heap) : Prop := Grows (fun x => x = Nm ∨ x = now) h h' ∧ ∃ (m : Int) (many' : Nat), v = .agg ⟨[.bool r, .int .i64 m]⟩ ∧ (r = false → m = n) ∧ Nmr h' Nm now N many'
def NaQ (Nm now N : Nat) (h : Heap) (v : Value) (h' : Heap) : Prop := Grows (fun x => x = Nm ∨ x = now) h h' ∧ ∃ (m : Int) (many' : Nat), v = .int .i64 m ∧ Nmr h' Nm now N many'
theorem nval_q {h : Heap} (ok : HOk h) {Nm now N many : Nat} (hN : N < 100000) {r : Bool} {n : Int} (hr : r = true → ∃ i : Nat, n = i ∧ i < N) (k : Nmr h Nm now N many) :
    Does FF n_tidy_namer_val [.pointer (some ⟨Nm, 0, none⟩), .agg ⟨[.bool r, .int .i64 n]⟩] h (NvQ Nm now N r n h) := nval_does ok hN hr k
theorem name_q {h : Heap} (ok : HOk h) {Nm now N many r : Nat} (hN : N < 100000) (hr : r < N) (k : Nmr h Nm now N many) :
    Does FF n_tidy_namer_name [.pointer (some ⟨Nm, 0, none⟩), .int .i64 r] h (NaQ Nm now N h) := name_does ok hN hr k

/-- one round of the first walk over a list -/
theorem walk_round {hh : Heap} {Nm now N many j len : Nat} {e : Env} {la : Option Addr} {lc b' off : Nat} {x : Own} {Q : AExit → Env → Heap → Prop} (okh : HOk hh) (hN : N < 100000) (hjl : j < len) (hlen : len < 100000) (hv1 : la = some ⟨b', off, none⟩) (hr0 : readAt hh b' (off + j * 8) 8 = some (encOwn.enc x)) (hold : Old b' hh) (hx : Valid N x) (k : Nmr hh Nm now N many)
    (f3 : Env.get e 3 = .pointer (some ⟨Nm, 0, none⟩)) (f62 : Env.get e 62 = .slice la len lc) (f63 : Env.get e 63 = .int .i64 len) (f64 : Env.get e 64 = .int .i64 j)
    (K : ∀ (e' : Env) (h' : Heap) (many' : Nat), (∀ t, t ∉ ([10, 12, 64, 65, 66, 67, 68, 69, 70, 71, 72, 73, 74, 75, 76, 77, 78, 79, 80, 81, 82, 83, 84, 85, 86, 87, 88, 89, 90, 91, 92, 93, 94] : List Nat) → Env.get e' t = Env.get e t) → Env.get e' 64 = .int .i64 ((j + 1 : Nat) : Int) → Grows (fun x => x = Nm ∨ x = now) hh h' → Nmr h' Nm now N many' → Q .normal e' h') :
    Runs FF r_tidy_NamesOf_6 e hh Q := by
  obtain ⟨j', hj'⟩ : ∃ j', j' = j + 1 := ⟨_, rfl⟩
  have wj : IntKind.i64.wrap ((j : Int) + 1) = (j' : Int) := by rw [wrap_i64 _ (by omega) (by omega)]; omega
  have hjl' : (j : Int) < (len : Int) := by omega
  simp only [encOwn_enc] at hr0
  unfold r_tidy_NamesOf_6
  subst hv1
  obtain ⟨ws0, t1, t2, q1, q2, _⟩ := id k
  have oN := okh.old q1
  have on := okh.old q2
  simp [f3, f62, f63, f64, hjl, hjl', hr0, readAt_put_same, readAt_put, readAt_newBlk, hold, -readAt_def]
  refine OpsR.cut (fun h1 => Grows Nob hh h1 ∧ ∃ s, h1.tr.get hh.next = some (.blk [.int .i64 x.op, .int .i64 x.dst, .bool x.ar, .int .i64 x.an, .bool x.br, .int .i64 x.bn, .int .i64 0, .slice none 0 0] false 0 s)) ⟨(Grows.refl okh).var _ _, hh.clock, by simp⟩ ?_
  rintro h1 ⟨g1, s1, hX1⟩
  have nXN : ¬ (hh.next = Nm ∨ hh.next = now) := by have := oN.lt; have := on.lt; omega
  refine OpsR.call (V := NvQ Nm now N x.ar x.an h1) (by simpa using nval_q g1.ok hN hx.a (k.grow okh g1 id id)) ?_
  rintro _ h2 ⟨g2, m2, many2, rfl, _, k2⟩
  have hX2 := g2.get g1.ok hX1 nXN
  simp [hX2, f3]
  refine OpsR.call (V := NvQ Nm now N x.br x.bn h2) (by simpa using nval_q g2.ok hN hx.b k2) ?_
  rintro _ h3 ⟨g3, m3, many3, rfl, _, k3⟩
  have hX3 := g3.get g2.ok hX2 nXN
  obtain ⟨kd, hd, hkd⟩ := hx.dst
  have h0d : (0 : Int) ≤ x.dst := by omega
  simp [hX3, f3]
  rw [runs_loop]
  unfold r_tidy_NamesOf_5
  simp [hX3, f3, hd]
  refine OpsR.call (V := NaQ Nm now N h3) (by simpa using name_q g3.ok hN hkd k3) ?_
  rintro _ h4 ⟨g4, m4, many4, rfl, k4⟩
  have wj2 : IntKind.i64.wrap ((j : Int) + 1) = (j : Int) + 1 := by rw [wrap_i64 _ (by omega) (by omega)]
  simp [f64, wj2]
  refine K _ h4 many4 ?_ ?_ (((g1.nob.trans g2).trans g3).trans g4) k4
  · intro t ht
    simp at ht
    simp [Env.get_set, ht]
  · simp
end Go.Proofs.YtigniafapkbbbaaGreatDoor

/- Contract: tidy.NamesOf of a function of one block: the second walk over it, which writes. -/
namespace Go.Proofs.YtigniafapkbbbaaGreatDoor
open Go.AI

/-- one round of the second walk over a list -/
theorem write_round {hh : Heap} {Nm now N many j len T d lc s0 s9 : Nat} {r : Bool} {n : Int} {ys : List Own} {e : Env} {x : Own} {Q : AExit → Env → Heap → Prop} (okh : HOk hh) (hN : N < 100000) (hjl : j < len) (hlen : len < 100000) (hyl : ys.length = len) (hyj : ys[j]? = some x) (hx : Valid N x) (k : Nmr hh Nm now N many)
    (hT : hh.tr.get T = some (.blk [.slice none 0 0, .slice (some ⟨d, 0, none⟩) len lc, .int .i64 1, .bool r, .int .i64 n, .slice none 0 0] false 0 s0)) (hL : hh.tr.get d = some (.blk (encOwn.flat ys) false 8 s9)) (n1 : T ≠ Nm) (n2 : T ≠ now) (n3 : d ≠ Nm) (n4 : d ≠ now) (n5 : T ≠ d)
    (f3 : Env.get e 3 = .pointer (some ⟨Nm, 0, none⟩)) (f14 : Env.get e 14 = .pointer (some ⟨T, 0, none⟩)) (f144 : Env.get e 144 = .slice (some ⟨d, 0, none⟩) len lc) (f145 : Env.get e 145 = .int .i64 len) (f146 : Env.get e 146 = .int .i64 j)
    (K : ∀ (e' : Env) (h' : Heap) (many' : Nat) (y : Own), (∀ t, (t < 19 ∨ (100 ≤ t ∧ t < 146)) → Env.get e' t = Env.get e t) → Env.get e' 146 = .int .i64 ((j + 1 : Nat) : Int) → Grows (fun x => (x = Nm ∨ x = now) ∨ x = d) hh h' → Nmr h' Nm now N many' → (∃ s, h'.tr.get d = some (.blk (encOwn.flat (ys.set j y)) false 8 s)) → Q .normal e' h') :
    Runs FF r_tidy_NamesOf_1 e hh Q := by
  have wj : IntKind.i64.wrap ((j : Int) + 1) = (j : Int) + 1 := by rw [wrap_i64 _ (by omega) (by omega)]
  have hsL : SliceOf encOwn hh (.slice (some ⟨d, 0, none⟩) len lc) ys := ⟨_, _, by rw [hyl], .inr ⟨d, 0, _, _, _, _, rfl, hL, by simp, by simp [List.take_of_length_le]⟩⟩
  obtain ⟨b', off, cap', hv', _, _, hrd⟩ := hsL.read hyj
  have hr0 := hrd 0 8 (by simp)
  injection hv' with hv1 hv2 hv3
  cases hv1
  simp only [encOwn_sz, Nat.add_zero, encOwn_enc, Nat.zero_add] at hr0
  obtain ⟨ws0, t1, t2, q1, q2, _⟩ := id k
  have oN := okh.old q1
  have on := okh.old q2
  have oT := okh.old hT
  have od := okh.old hL
  unfold r_tidy_NamesOf_1
  simp [f3, f14, f144, f145, f146, hjl, hr0, readAt_put_same, readAt_put, readAt_newBlk, readAt_tick, od, -readAt_def]
  refine DrawR.cut (fun h1 => Grows Nob hh h1 ∧ h1.tr.get hh.next = some (.blk [.int .i64 x.op, .int .i64 x.dst, .bool x.ar, .int .i64 x.an, .bool x.br, .int .i64 x.bn, .int .i64 0, .slice none 0 0] false 0 hh.clock)) ⟨((Grows.refl okh).var _ _).tick, by simp⟩ ?_
  rintro h1 ⟨g1, hX1⟩
  have nXN : ¬ (hh.next = Nm ∨ hh.next = now) := by have := oN.lt; have := on.lt; omega
  refine DrawR.call (V := NvQ Nm now N x.ar x.an h1) (by simpa using nval_q g1.ok hN hx.a (k.grow okh g1 id id)) ?_
  rintro _ h2 ⟨g2, m2, many2, rfl, _, k2⟩
  have hX2 := g2.get g1.ok hX1 nXN
  simp [hX2, f3]
  refine DrawR.call (V := NvQ Nm now N x.br x.bn h2) (by simpa using nval_q g2.ok hN hx.b k2) ?_
  rintro _ h3 ⟨g3, m3, many3, rfl, _, k3⟩
  have hX3 := g3.get g2.ok hX2 nXN
  obtain ⟨kd, hd, hkd⟩ := hx.dst
  simp [hX3, f3]
  have g03 : Grows (fun x => x = Nm ∨ x = now) hh h3 := (g1.nob.trans g2).trans g3
  refine Runs.cut (fun h4 => Grows (fun x => x = Nm ∨ x = now) hh h4 ∧ Nmr h4 Nm now N many3 ∧ ∃ s, h4.tr.get hh.next = some (.blk [.int .i64 x.op, .int .i64 kd, .bool x.ar, .int .i64 m2, .bool x.br, .int .i64 m3, .int .i64 0, .slice none 0 0] false 0 s)) ?_ ?_
  · have G : Grows (fun z => z = hh.next) h3 (put (put h3 hh.next 2 [.int .i64 x.op, .int .i64 x.dst, .bool x.ar, .int .i64 x.an, .bool x.br, .int .i64 x.bn, .int .i64 0, .slice none 0 0] [.bool x.ar, .int .i64 m2] 0) hh.next 4 [.int .i64 x.op, .int .i64 x.dst, .bool x.ar, .int .i64 m2, .bool x.br, .int .i64 x.bn, .int .i64 0, .slice none 0 0] [.bool x.br, .int .i64 m3] 0) := by
      refine Grows.put (Grows.put (Grows.refl g3.ok) ⟨_, hX3⟩ (.inr rfl)) ⟨h3.clock, ?_⟩ (.inr rfl)
      simp
    refine ⟨g03.trans' G (fun _ _ h => h) (by rintro z hz rfl; omega), k3.grow g3.ok G (by omega) (by omega), h3.clock + 1, by simp [hd]⟩
  rintro h4 ⟨g4, k4, s4, hX4⟩
  rw [runs_loop]
  unfold r_tidy_NamesOf_0
  simp [hX4, f3]
  refine OpsR.call (V := NaQ Nm now N h4) (by simpa using name_q g4.ok hN hkd k4) ?_
  rintro _ h5 ⟨g5, m5, many5, rfl, k5⟩
  have hX5 := g5.get g4.ok hX4 nXN
  have g05 := g4.trans g5
  have hT5 := g05.get okh hT (by rintro (e | e) <;> omega)
  have hL5 := g05.get okh hL (by rintro (e | e) <;> omega)
  have hlf : (encOwn.flat ys).length = len * 8 := by rw [encOwn.length_flat, hyl]; rfl
  have hlj : j * 8 + 8 ≤ len * 8 := by omega
  have nXT : ¬ T = hh.next := by have := oT.lt; omega
  have nXd : ¬ d = hh.next := by have := od.lt; omega
  simp [hX5, f3, f14, f146, hT5, hL5, nXT, nXd, hlf, hlj, hjl, wj]
  have hsp : splice (encOwn.flat ys) (j * 8) [.int .i64 x.op, .int .i64 m5, .bool x.ar, .int .i64 m2, .bool x.br, .int .i64 m3, .int .i64 0, .slice none 0 0] = encOwn.flat (ys.set j ⟨x.op, m5, x.ar, m2, x.br, m3⟩) :=
    encOwn.splice_flat ys j ⟨x.op, m5, x.ar, m2, x.br, m3⟩ (by omega)
  have nXd' : ¬ hh.next = d := fun e => nXd e.symm
  refine K _ _ many5 ⟨x.op, m5, x.ar, m2, x.br, m3⟩ ?_ ?_ ?_ ?_ ?_
  · intro t ht
    have ht2 : ∀ u ∈ ([146, 147, 148, 149, 150, 20, 19, 151, 152, 153, 155, 156, 157, 154, 159, 158, 160, 161, 162, 163, 164, 165, 177, 178, 179, 180, 181, 182, 183, 184, 185, 186, 187, 188, 189, 190] : List Nat), t ≠ u := by
      intro u hu
      simp at hu
      omega
    simp at ht2
    simp [Env.get_set, ht2]
  · simp
  · refine Grows.put (Grows.put (g05.weak fun _ _ h => .inl h) ⟨s4, hX5⟩ (.inl (Nat.le_refl _))) ⟨s9, ?_⟩ (.inr (.inr rfl))
    simp [nXd, hL5]
  · have G : Grows (fun z => z = hh.next ∨ z = d) h5 (put (put h5 hh.next 1 [.int .i64 x.op, .int .i64 kd, .bool x.ar, .int .i64 m2, .bool x.br, .int .i64 m3, .int .i64 0, .slice none 0 0] [.int .i64 m5] 0) d (j * 8) (encOwn.flat ys) [.int .i64 x.op, .int .i64 m5, .bool x.ar, .int .i64 m2, .bool x.br, .int .i64 m3, .int .i64 0, .slice none 0 0] 8) := by
      refine Grows.put (Grows.put (Grows.refl g5.ok) ⟨s4, hX5⟩ (.inr (.inl rfl))) ⟨s9, ?_⟩ (.inr (.inr rfl))
      simp [nXd, hL5]
    exact k5.grow g5.ok G (by rintro (e | e) <;> omega) (by rintro (e | e) <;> omega)
  · exact ⟨_, by rw [get_put_same, hsp]⟩
end Go.Proofs.YtigniafapkbbbaaGreatDoor
