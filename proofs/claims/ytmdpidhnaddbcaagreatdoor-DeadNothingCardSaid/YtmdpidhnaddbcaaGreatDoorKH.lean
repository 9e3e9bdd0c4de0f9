/- Contracts: tidy.Keep, tidy.ChainsOf of a function of one empty block that returns. -/
import Derived.Test.YtmdpidhnaddbcaaGreatDoorKG
namespace Go.Proofs.YtmdpidhnaddbcaaGreatDoor
open Go.AI

def nilS : SV := ⟨none, 0, 0⟩

/-- the one block of a function, into which can be written -/
def OneW (n0 : Nat) (h : Heap) (blocks list : SV) (n : Int) : Prop := blocks.l = 1 ∧ ∃ b o s, blocks.a = some ⟨b, 0, none⟩ ∧ n0 ≤ b ∧ h.tr.get b = some (.blk [.slice none 0 0, list.v, .int .i64 1, .bool false, .int .i64 n, .slice none 0 0] false o s)

theorem OneW.one {n0 : Nat} {h : Heap} {blocks list : SV} {n : Int} (w : OneW n0 h blocks list n) : OneB h blocks nilS list false n nilS := by
  obtain ⟨h1, b, o, s, h2, _, h3⟩ := w
  exact ⟨h1, b, false, o, s, h2, h3⟩

theorem keep_empty {h : Heap} (ok : HOk h) {name : ByteArray} {p N : Int} {blocks list : SV} {n : Int} {od oc : Nat} {o1 s1 : Nat} {r1 : Bool} (hB : OneB h blocks nilS list false n nilS) (hll : list.l = 0) (hod : h.tr.get od = some (.blk [.int .i64 0] r1 o1 s1)) :
    Does FF n_tidy_Keep [.agg ⟨fnCells name p N blocks⟩, .slice (some ⟨od, 0, none⟩) 1 oc] h (fun v h' => Grows Nob h h' ∧ ∃ blocks' : SV, v = .agg ⟨fnCells name p N blocks'⟩ ∧ OneW h.next h' blocks' list n) := by
  obtain ⟨hl, b, ro, o, s, ha, hb⟩ := id hB
  have w1 : IntKind.i64.wrap (0 + 1) = 1 := wrap_i64 _ (by omega) (by omega)
  have w1' : IntKind.i64.wrap 1 = 1 := wrap_i64 _ (by omega) (by omega)
  have oB := ok.old hb
  have oD := ok.old hod
  have hb' : h.tr.get b = some (.blk [.slice none 0 0, .slice list.a 0 list.c, .int .i64 1, .bool false, .int .i64 n, .slice none 0 0] ro o s) := by rw [hb]; simp [blkCells, nilS, hll]
  refine Does.of c_tidy_Keep ?_
  unfold b_tidy_Keep
  have e2 : ¬ h.next = h.next + 1 + 1 := by omega
  simp [fnCells, hl, ha, repl, e2]
  refine OpsR.cut (fun h1 => Grows Nob h h1 ∧ h1.tr.get h.next = some (.blk [.string name, .int .i64 p, .int .i64 N, .slice (some ⟨b, 0, none⟩) 1 blocks.c] false 0 0) ∧ h1.tr.get (h.next + 1) = some (.blk [.string ⟨⟨[]⟩⟩, .int .i64 0, .int .i64 0, .slice none 0 0] false 0 0) ∧ (∃ o s, h1.tr.get (h.next + 1 + 1) = some (.blk [.int .i64 (-1)] false o s))) ?_ ?_
  · exact ⟨(((Grows.refl ok).new _ _).new _ _).new _ _, by simp [Nat.add_assoc], by simp [Nat.add_assoc], 0, 0, by simp [Nat.add_assoc]⟩
  rintro h1 ⟨g1, hF1, hR1, o2, s2, hM1⟩
  refine OpsR.call (V := fun v h' => Grows Nob h1 h' ∧ ∃ d s, v = .slice (some ⟨d, 0, none⟩) 1 1 ∧ h1.next ≤ d ∧ h'.tr.get d = some (.blk [.int .i64 (-1)] false 0 s)) (by simpa using repeat_i g1.ok 1 (by omega) hM1) ?_
  rintro _ h2 ⟨g2, at_, s3, rfl, hat, hA2⟩
  have gg2 := g1.trans g2
  have hod2 := gg2.get ok hod (fun h => h)
  simp
  rw [runs_loop]
  unfold r_tidy_Keep_5
  simp [hod2, hA2, w1, w1']
  rw [runs_loop]
  have hF2 := g2.get g1.ok hF1 (fun h => h)
  have lt1 := g1.next
  have oF1 := (g1.ok.old hF1).lt
  have nF : ¬ h.next = at_ := by omega
  simp [hF2, nF]
  refine OpsR.cut (fun h3 => Grows Nob h h3 ∧ h3.next = h2.next ∧ (∃ s, h3.tr.get at_ = some (.blk [.int .i64 0] false 0 s)) ∧ Grows (· = at_) h2 h3) ?_ ?_
  · exact ⟨gg2.put ⟨_, hA2⟩ (.inl (by omega)), rfl, ⟨h2.clock, by simp⟩, grow_put gg2.ok hA2⟩
  rintro h3 ⟨g3, hn3, ⟨s4, hA3⟩, g23⟩
  have nR : ¬ h.next + 1 = at_ := by have := (g1.ok.old hR1).lt; omega
  have hF3 := g23.get gg2.ok hF2 nF
  have hR3 := g23.get gg2.ok (g2.get g1.ok hR1 (fun h => h)) nR
  refine OpsR.call (by simpa [fnCells, hl, ha] using gahead_one g3.ok (name := name) (params := p) (regs := N) (hB.grow ok g3) rfl) ?_
  rintro _ h4 ⟨g4, ah, rfl, hah, s5, hAh4⟩
  have gg4 := g3.trans g4
  have hod4 := gg4.get ok hod (fun h => h)
  have hb4 := gg4.get ok hb' (fun h => h)
  have hF4 := g4.get g3.ok hF3 (fun h => h)
  have hR4 := g4.get g3.ok hR3 (fun h => h)
  have ob4 := gg4.ok.old hb4
  simp
  rw [runs_loop]
  unfold r_tidy_Keep_4
  simp [hod4, hF4, hb4, ob4]
  rw [runs_loop]
  unfold r_tidy_Keep_3
  simp
  rw [runs_loop]
  unfold r_tidy_Keep_0
  simp [appendF, news, appendV, roomy, w1, w1', repl]
  rw [runs_loop]
  have oF4 := gg4.ok.old hF4
  have oR4 := gg4.ok.old hR4
  have nA : ¬ h.next = h4.next + 1 + 1 := by have := oF4.lt; omega
  have nB : ¬ h.next = h4.next + 1 := by have := oF4.lt; omega
  simp [hF4, hR4, oF4, oR4, nA, nB]
  refine ⟨?_, ⟨some ⟨h4.next + 1 + 1, 0, none⟩, 1, 1⟩, ⟨rfl, rfl, rfl⟩, rfl, h4.next + 1 + 1, 6, 0, rfl, by have := gg4.next; omega, ?_⟩
  · refine Grows.put (Grows.put (((gg4.var _ _).new _ _).new _ _) ⟨0, ?_⟩ (.inl (Nat.le_refl _))) ⟨0, ?_⟩ (.inl (by omega))
    · simp [nA, nB, oF4, hF4]
    · simp [nA, nB, oR4, hR4]
      have := oF4.lt; omega
  · have nA' : ¬ h4.next + 1 + 1 = h.next := fun e => nA e.symm
    have nB' : ¬ h4.next + 1 = h.next := fun e => nB e.symm
    simp [nA', nB', hll]

theorem chains_empty {h : Heap} (ok : HOk h) {name : ByteArray} {p N : Int} {blocks list : SV} {n : Int} (hB : OneB h blocks nilS list false n nilS) :
    Does FF n_tidy_ChainsOf [.agg ⟨fnCells name p N blocks⟩] h (fun v h' => Grows Nob h h' ∧ v = .agg ⟨fnCells name p N blocks⟩) := by
  obtain ⟨hl, b, ro, o, s, ha, hb⟩ := id hB
  have w1 : IntKind.i64.wrap (0 + 1) = 1 := wrap_i64 _ (by omega) (by omega)
  have w1' : IntKind.i64.wrap 1 = 1 := wrap_i64 _ (by omega) (by omega)
  have oB := ok.old hb
  have hb' : h.tr.get b = some (.blk [.slice none 0 0, .slice list.a list.l list.c, .int .i64 1, .bool false, .int .i64 n, .slice none 0 0] ro o s) := by rw [hb]; simp [blkCells, nilS]
  refine Does.of c_tidy_ChainsOf ?_
  unfold b_tidy_ChainsOf
  simp [fnCells, hl, ha]
  rw [runs_loop]
  unfold r_tidy_ChainsOf_1
  simp
  rw [runs_loop]
  unfold r_tidy_ChainsOf_0
  simp [hb', oB, w1, w1']
  rw [runs_loop]
  simp
  refine Grows.put (((Grows.refl ok).new _ _).new _ _) ⟨0, by simp⟩ (.inl (by omega))
end Go.Proofs.YtmdpidhnaddbcaaGreatDoor

/- Contracts: tidy.NamesOf, tidy.DoOf of a function of one empty block that returns a number. -/
namespace Go.Proofs.YtmdpidhnaddbcaaGreatDoor
open Go.AI

/-- registers' names, when the first i have theirs -/
def nowD (N i : Nat) : List Int := (List.range N).map fun k => if k < i then (k : Int) else -1
@[simp] theorem length_nowD (N i : Nat) : (nowD N i).length = N := by simp [nowD]
theorem get_nowD {N i k : Nat} (h : k < N) : (nowD N i)[k]? = some (if k < i then (k : Int) else -1) := by simp [nowD, h]
theorem nowD_zero (N : Nat) : nowD N 0 = List.replicate N (-1) := by simp [nowD, List.map_const']
theorem set_nowD {N i : Nat} (h : i < N) : (nowD N i).set i (i : Int) = nowD N (i + 1) := by
  apply List.ext_getElem?
  intro k
  by_cases hk : k < N
  · rw [get_nowD hk, List.getElem?_set]
    by_cases e : i = k
    · subst e; simp [h]
    · rw [if_neg e, get_nowD hk]
      by_cases h1 : k < i
      · simp [h1, show k < i + 1 by omega]
      · simp [h1, show ¬ k < i + 1 by omega]
  · rw [List.getElem?_eq_none (by simp; omega), List.getElem?_eq_none (by simp; omega)]

theorem read_i {h : Heap} {W : Nat} {ws : List Int} {o s : Nat} {ro : Bool} (hW : h.tr.get W = some (.blk (encI.flat ws) ro o s)) {k : Nat} {x : Int} (hk : ws[k]? = some x) : readAt h W k 1 = some [.int .i64 x] := by
  have hl := (List.getElem?_eq_some_iff.mp hk).1
  rw [readAt_eq hW (by rw [encI.length_flat]; show k + 1 ≤ ws.length * 1; omega)]
  have := encI.part_flat ws k 0 1 x hk (by decide)
  simpa using this

theorem name_fresh {h : Heap} (ok : HOk h) {Nm now N i c s1 s2 o2 : Nat} (hN : N < 100000) (hi : i < N) (hm : h.tr.get Nm = some (.blk [.slice (some ⟨now, 0, none⟩) N c, .int .i64 i] false 0 s1)) (hw : h.tr.get now = some (.blk (encI.flat (nowD N i)) false o2 s2)) (hne : ¬ Nm = now) :
    Does FF n_tidy_namer_name [.pointer (some ⟨Nm, 0, none⟩), .int .i64 i] h (fun v h' => Grows (fun x => x = Nm ∨ x = now) h h' ∧ (∃ s, h'.tr.get Nm = some (.blk [.slice (some ⟨now, 0, none⟩) N c, .int .i64 ((i + 1 : Nat) : Int)] false 0 s)) ∧ ∃ s, h'.tr.get now = some (.blk (encI.flat (nowD N (i + 1))) false o2 s)) := by
  obtain ⟨i', hi'⟩ : ∃ i', i' = i + 1 := ⟨_, rfl⟩
  have wi : IntKind.i64.wrap ((i : Int) + 1) = (i' : Int) := by rw [wrap_i64 _ (by omega) (by omega)]; omega
  have hg := get_nowD (i := i) hi
  rw [if_neg (by omega)] at hg
  have hr := read_i hw hg
  have hlen : i + 1 ≤ N * 1 := by omega
  have hsp := encI.splice_flat (nowD N i) i (i : Int) (by simpa using hi)
  rw [set_nowD hi] at hsp
  simp only [encI_sz, Nat.mul_one, encI_enc] at hsp
  have hne' : ¬ now = Nm := fun e => hne e.symm
  refine Does.of c_tidy_namer_name ?_
  unfold b_tidy_namer_name
  rw [← hi'] at hsp ⊢
  simp [readAt_get hm, hi, hr, -readAt_def, readAt_tick]
  have hg2 := get_nowD (N := N) (i := i') hi
  rw [if_pos (by omega)] at hg2
  have hi1 : i + 1 ≤ N := hi
  have hat := encI.at_flat (nowD N i') i i hg2
  simp only [encI_sz, Nat.mul_one, encI_enc] at hat
  simp [hw, hi1, hsp, hm, hne, hne', wi, readAt_put, readAt_get hm, readAt_tick, readAt_put_same, hi, hat, -readAt_def]
  refine Grows.put (Grows.put (Grows.refl ok).tick ⟨s2, by simpa using hw⟩ (.inr (.inr rfl))) ⟨s1, by simp [hne, hm]⟩ (.inr (.inl rfl))

theorem val_number {h : Heap} (ok : HOk h) (n : Int) (a : Value) : Does FF n_tidy_namer_val [a, .agg ⟨[.bool false, .int .i64 n]⟩] h (fun v h' => v = .agg ⟨[.bool false, .int .i64 n]⟩ ∧ Grows Nob h h') := by
  refine Does.of c_tidy_namer_val ?_
  unfold b_tidy_namer_val
  simp
  refine Grows.put (((Grows.refl ok).new _ _).new _ _) ⟨0, by simp⟩ (.inl (by omega))

theorem names_empty {h : Heap} (ok : HOk h) {name : ByteArray} {p N : Nat} {blocks list : SV} {n : Int} (hB : OneB h blocks nilS list false n nilS) (hll : list.l = 0) (hpN : p ≤ N) (hN : N < 100000) :
    Does FF n_tidy_NamesOf [.agg ⟨fnCells name p N blocks⟩] h (fun v h' => Grows Nob h h' ∧ ∃ blocks' : SV, v = .agg ⟨fnCells name p p blocks'⟩ ∧ OneW h.next h' blocks' list n) := by
  have w1 : IntKind.i64.wrap (0 + 1) = 1 := wrap_i64 _ (by omega) (by omega)
  have w1' : IntKind.i64.wrap 1 = 1 := wrap_i64 _ (by omega) (by omega)
  refine Does.of c_tidy_NamesOf ?_
  unfold b_tidy_NamesOf
  simp [fnCells]
  refine DrawR.cut (fun h1 => Grows Nob h h1 ∧ h1.tr.get h.next = some (.blk (fnCells name p N blocks) false 0 0) ∧ h1.tr.get (h.next + 1) = some (.blk [.string ⟨⟨[]⟩⟩, .int .i64 0, .int .i64 0, .slice none 0 0] false 0 0)) ?_ ?_
  · exact ⟨(((Grows.refl ok).new _ _).new _ _).tick, by simp [fnCells], by simp⟩
  rintro h1 ⟨g1, hF1, hR1⟩
  refine DrawR.call (by simpa [fnCells] using order_does g1.ok (name := name) (params := p) (regs := N) (hB.grow ok g1) rfl) ?_
  rintro _ h2 ⟨g2, od, rfl, hod, s2, hod2⟩
  have gg2 := g1.trans g2
  have hF2 := g2.get g1.ok hF1 (fun h => h)
  have hR2 := g2.get g1.ok hR1 (fun h => h)
  simp [hF2]
  refine DrawR.call (V := fun v h' => Grows Nob h2 h' ∧ ∃ blocks' : SV, v = .agg ⟨fnCells name p N blocks'⟩ ∧ OneW h2.next h' blocks' list n) (by simpa [fnCells] using keep_empty gg2.ok (name := name) (p := p) (N := N) (hB.grow ok gg2) hll (oc := 1) hod2) ?_
  rintro _ h3 ⟨g3, B, rfl, hB3⟩
  have gg3 := gg2.trans g3
  have hF3 := g3.get gg2.ok hF2 (fun h => h)
  have hR3 := g3.get gg2.ok hR2 (fun h => h)
  have hF3' : h3.tr.get h.next = some (.blk [.string name, .int .i64 p, .int .i64 N, .slice blocks.a blocks.l blocks.c] false 0 0) := hF3
  have lt2 : h.next + 1 < h2.next := gg2.ok.old hR2
  obtain ⟨hBl, b, o3, s3, hBa, hbn, hb3⟩ := hB3
  have oF3 := gg3.ok.old hF3
  have lt3 : h2.next ≤ h3.next := g3.next
  simp [fnCells, hF3', hBl, hBa, repl, oF3]
  refine OpsR.cut (fun h4 => Grows Nob h h4 ∧ h3.next ≤ h4.next ∧ (∃ s, h4.tr.get h.next = some (.blk [.string name, .int .i64 p, .int .i64 N, .slice (some ⟨b, 0, none⟩) 1 B.c] false 0 s)) ∧ h4.tr.get (h.next + 1) = some (.blk [.string ⟨⟨[]⟩⟩, .int .i64 0, .int .i64 0, .slice none 0 0] false 0 0) ∧
      (∃ o s, h4.tr.get b = some (.blk [.slice none 0 0, list.v, .int .i64 1, .bool false, .int .i64 n, .slice none 0 0] false o s)) ∧ ∃ o s, h4.tr.get h3.next = some (.blk [.int .i64 (-1)] false o s)) ?_ ?_
  · have e1 : ¬ h.next + 1 = h3.next := by omega
    have e2 : ¬ b = h.next := by omega
    have e3 : ¬ b = h3.next := by have := (gg3.ok.old hb3).lt; omega
    exact ⟨(gg3.put ⟨0, by simpa [fnCells] using hF3⟩ (.inl (Nat.le_refl _))).new _ _, by simp, ⟨h3.clock, by simp [oF3]⟩, by simp [e1, hR3], ⟨o3, s3, by simp [e2, e3, hb3]⟩, 0, 0, by simp⟩
  rintro h4 ⟨g4, lt4, ⟨s4, hF4⟩, hR4, ⟨o5, s5, hb4⟩, o6, s6, hM4⟩
  refine OpsR.call (V := fun v h' => Grows Nob h4 h' ∧ ∃ d s, v = .slice (some ⟨d, 0, none⟩) N N ∧ h4.next ≤ d ∧ h'.tr.get d = some (.blk (encI.flat (List.replicate N (-1))) false 0 s)) (by simpa using repeat_i g4.ok N (by omega) hM4) ?_
  rintro _ h5 ⟨g5, now, s7, rfl, hnow, hnw5⟩
  have gg5 := g4.trans g5
  have hF5 := g5.get g4.ok hF4 (fun h => h)
  have hR5 := g5.get g4.ok hR4 (fun h => h)
  have hb5 := g5.get g4.ok hb4 (fun h => h)
  have oF5 := gg5.ok.old hF5
  have ltb : b < h4.next := g4.ok.wf _ _ hb4
  rw [← nowD_zero] at hnw5
  simp [hF5, oF5]
  have on5 := gg5.ok.old hnw5
  refine Runs.cut (fun h6 => Grows Nob h5 h6 ∧ h6.tr.get h5.next = some (.blk [.slice (some ⟨now, 0, none⟩) N N, .int .i64 0] false 0 0)) ?_ ?_
  · exact ⟨(Grows.refl gg5.ok).new _ _, by simp⟩
  rintro h6 ⟨g6, hm6⟩
  have ltn : now < h5.next := on5.lt
  refine Runs.loop (fun m e h7 => ∃ i : Nat, m = p - i ∧ i ≤ p ∧ Env.get e 1 = .pointer (some ⟨h.next, 0, none⟩) ∧ Env.get e 2 = .pointer (some ⟨h.next + 1, 0, none⟩) ∧ Env.get e 3 = .pointer (some ⟨h5.next, 0, none⟩) ∧ Env.get e 34 = .int .i64 p ∧ Env.get e 35 = .int .i64 i ∧ Grows (fun x => x = h5.next ∨ x = now) h6 h7 ∧
    (∃ s, h7.tr.get h5.next = some (.blk [.slice (some ⟨now, 0, none⟩) N N, .int .i64 i] false 0 s)) ∧ ∃ s, h7.tr.get now = some (.blk (encI.flat (nowD N i)) false 0 s)) ?_ (n := p)
    ⟨0, rfl, by omega, by simp, by simp, by simp, by simp, by simp, .refl g6.ok, ⟨0, hm6⟩, s7, g6.get gg5.ok hnw5 (fun h => h)⟩
  rintro m e h7 ⟨i, rfl, hi, f1, f2, f3, f34, f35, g7, ⟨s8, hm7⟩, s9, hnw7⟩
  unfold r_tidy_NamesOf_9
  by_cases hip : i < p
  · obtain ⟨i', hi'⟩ : ∃ i', i' = i + 1 := ⟨_, rfl⟩
    have wi : IntKind.i64.wrap ((i : Int) + 1) = (i' : Int) := by rw [wrap_i64 _ (by omega) (by omega)]; omega
    simp [f1, f2, f3, f34, f35, hip]
    refine OpsR.call (V := fun v h' => Grows (fun x => x = h5.next ∨ x = now) h7 h' ∧ (∃ s, h'.tr.get h5.next = some (.blk [.slice (some ⟨now, 0, none⟩) N N, .int .i64 ((i + 1 : Nat) : Int)] false 0 s)) ∧ ∃ s, h'.tr.get now = some (.blk (encI.flat (nowD N (i + 1))) false 0 s)) ?_ ?_
    · simpa using name_fresh g7.ok hN (by omega) hm7 hnw7 (by omega)
    rintro v h8 ⟨g8, hm8, hnw8⟩
    rw [← hi'] at hm8 hnw8
    simp [f1, f2, f3, f34, f35, wi]
    exact ⟨p - i', by omega, i', rfl, by omega, rfl, g7.trans g8, hm8, hnw8⟩
  · have : i = p := by omega
    subst this
    have g57 : Grows (fun x => x = h5.next ∨ x = now) h5 h7 := g6.nob.trans g7
    have hF7 := g57.get gg5.ok hF5 (by omega)
    have hR7 := g57.get gg5.ok hR5 (by omega)
    have hb7 := g57.get gg5.ok hb5 (by omega)
    have ob7 := g7.ok.old hb7
    have gg7 : Grows Nob h h7 := gg5.trans' g57 (fun _ _ h => h) (by rintro x hx (rfl | rfl) <;> omega)
    have hb7' : h7.tr.get b = some (.blk [.slice none 0 0, .slice list.a 0 list.c, .int .i64 1, .bool false, .int .i64 n, .slice none 0 0] false o5 s5) := by rw [hb7]; simp [hll]
    simp [f1, f2, f3, f34, f35, hF7]
    rw [runs_loop]
    unfold r_tidy_NamesOf_8
    simp [hb7', ob7]
    rw [runs_loop]
    unfold r_tidy_NamesOf_7
    simp
    rw [runs_loop]
    unfold r_tidy_NamesOf_6
    simp [f3]
    refine OpsR.cut (fun h8 => Grows Nob h7 h8) ?_ ?_
    · exact (Grows.refl g7.ok).var _ _
    intro h8 g8
    refine OpsR.call (V := fun v h' => v = .agg ⟨[.bool false, .int .i64 n]⟩ ∧ Grows Nob h8 h') (by simpa using val_number g8.ok n (.pointer (some ⟨h5.next, 0, none⟩))) ?_
    rintro _ h9 ⟨rfl, g9⟩
    have t9 := g8.trans g9
    have gg9 := gg7.trans t9
    have hF9 := t9.get g7.ok hF7 (fun h => h)
    have hR9 := t9.get g7.ok hR7 (fun h => h)
    have hm9 := t9.get g7.ok hm7 (fun h => h)
    have hb9 := t9.get g7.ok hb7' (fun h => h)
    have ob9 := gg9.ok.old hb9
    simp [f1, f2, f3, w1, w1']
    rw [runs_loop]
    try unfold r_tidy_NamesOf_8
    simp [f1, f2, f3, hF9]
    rw [runs_loop]
    unfold r_tidy_NamesOf_4
    simp [hb9, ob9]
    rw [runs_loop]
    unfold r_tidy_NamesOf_3
    simp
    rw [runs_loop]
    unfold r_tidy_NamesOf_1
    have oF9 := gg9.ok.old hF9
    simp [f1, f2, f3, hF9, oF9]
    refine DrawR.cut (fun h10 => Grows Nob h9 h10) ?_ ?_
    · exact ((Grows.refl gg9.ok).var _ _).tick
    intro h10 g10
    have gg10 := gg9.trans g10
    refine DrawR.call (V := fun v h' => v = .agg ⟨[.bool false, .int .i64 n]⟩ ∧ Grows Nob h10 h') (by simpa using val_number gg10.ok n (.pointer (some ⟨h5.next, 0, none⟩))) ?_
    rintro _ h11 ⟨rfl, g11⟩
    have t11 := g10.trans g11
    have gg11 := gg9.trans t11
    have hF11 := t11.get gg9.ok hF9 (fun h => h)
    have hR11 := t11.get gg9.ok hR9 (fun h => h)
    have hm11 := t11.get gg9.ok hm9 (fun h => h)
    have hb11 := t11.get gg9.ok hb9 (fun h => h)
    have hst : s4 ≤ h9.clock + 1 := by have := gg9.ok.st _ _ _ _ _ hF9; omega
    have nbF : ¬ b = h.next := by omega
    have nFb : ¬ h.next = b := by omega
    have nRb : ¬ h.next + 1 = b := by omega
    have nmb : ¬ h5.next = b := by omega
    simp [f1, f2, f3, hF11, hst, hb11, w1, w1']
    rw [runs_loop]
    have nmF : ¬ h5.next = h.next := by omega
    have nRF : ¬ h.next + 1 = h.next := by omega
    have nbR : ¬ b = h.next + 1 := by omega
    simp [f1, f2, f3, hF11, hR11, hm11, nmb, nFb, nRb, nmF]
    refine ⟨?_, ⟨some ⟨b, 0, none⟩, 1, B.c⟩, ⟨rfl, rfl, rfl⟩, rfl, b, o5, h11.clock, rfl, by omega, by simp [nbF, nbR, hll]⟩
    refine Grows.put (Grows.put (gg11.put ⟨_, hb11⟩ (.inl (by omega))) ⟨s4, ?_⟩ (.inl (Nat.le_refl _))) ⟨0, ?_⟩ (.inl (by omega))
    · simp [nFb, hF11]
    · simp [nRb, nRF, hR11]

theorem tidy_empty {h : Heap} (ok : HOk h) {name : ByteArray} {p N : Nat} {blocks list : SV} {n : Int} (hB : OneB h blocks nilS list false n nilS) (hll : list.l = 0) (hpN : p ≤ N) (hN : N < 100000) :
    Does FF n_tidy_DoOf [.agg ⟨fnCells name p N blocks⟩] h (fun v h' => Grows Nob h h' ∧ ∃ blocks' : SV, v = .agg ⟨fnCells name p p blocks'⟩ ∧ OneW h.next h' blocks' list n) := by
  refine Does.of c_tidy_DoOf ?_
  unfold b_tidy_DoOf
  simp [fnCells]
  refine DrawR.cut (fun h1 => Grows Nob h h1 ∧ h1.tr.get h.next = some (.blk (fnCells name p N blocks) false 0 0) ∧ h1.tr.get (h.next + 1) = some (.blk [.string ⟨⟨[]⟩⟩, .int .i64 0, .int .i64 0, .slice none 0 0] false 0 0)) ?_ ?_
  · exact ⟨(((Grows.refl ok).new _ _).new _ _).tick, by simp [fnCells], by simp⟩
  rintro h1 ⟨g1, hF1, hR1⟩
  refine DrawR.call (by simpa [fnCells] using order_does g1.ok (name := name) (params := p) (regs := N) (hB.grow ok g1) rfl) ?_
  rintro _ h2 ⟨g2, od, rfl, hod, s2, hod2⟩
  have gg2 := g1.trans g2
  have hF2 := g2.get g1.ok hF1 (fun h => h)
  have hR2 := g2.get g1.ok hR1 (fun h => h)
  simp [hF2]
  refine DrawR.call (V := fun v h' => Grows Nob h2 h' ∧ ∃ blocks' : SV, v = .agg ⟨fnCells name p N blocks'⟩ ∧ OneW h2.next h' blocks' list n) (by simpa [fnCells] using keep_empty gg2.ok (name := name) (p := p) (N := N) (hB.grow ok gg2) hll (oc := 1) hod2) ?_
  rintro _ h3 ⟨g3, B, rfl, hB3⟩
  have gg3 := gg2.trans g3
  simp
  refine DrawR.call (V := fun v h' => Grows Nob h3 h' ∧ v = .agg ⟨fnCells name p N B⟩) (by simpa [fnCells] using chains_empty gg3.ok (name := name) (p := p) (N := N) hB3.one) ?_
  rintro _ h4 ⟨g4, rfl⟩
  have gg4 := gg3.trans g4
  simp
  refine DrawR.call (V := fun v h' => Grows Nob h4 h' ∧ ∃ blocks' : SV, v = .agg ⟨fnCells name p p blocks'⟩ ∧ OneW h4.next h' blocks' list n) (by simpa [fnCells] using names_empty gg4.ok (name := name) (p := p) (N := N) (hB3.one.grow gg3.ok g4) hll hpN hN) ?_
  rintro _ h5 ⟨g5, B5, rfl, hB5⟩
  have gg5 := gg4.trans g5
  have hR5 := ((g3.trans g4).trans g5).get gg2.ok hR2 (fun h => h)
  obtain ⟨e1, b5, o5, s5, e2, e3, e4⟩ := hB5
  have lt4 : h.next + 1 < h4.next := gg4.ok.old ((g3.trans g4).get gg2.ok hR2 (fun h => h))
  have nb : ¬ b5 = h.next + 1 := by omega
  simp [fnCells, hR5]
  refine ⟨gg5.put ⟨_, hR5⟩ (.inl (by omega)), B5, ⟨rfl, rfl, rfl⟩, e1, b5, o5, s5, e2, by omega, by simp [nb, e4]⟩

theorem large_empty {h : Heap} (ok : HOk h) {name : ByteArray} {p N : Int} {blocks list : SV} {n : Int} (hB : OneB h blocks nilS list false n nilS) (hll : list.l = 0) (hN : N ≤ 100) :
    Does FF n_graph_Large [.agg ⟨fnCells name p N blocks⟩] h (fun v h' => v = .bool false ∧ Grows Nob h h') := by
  obtain ⟨hl, b, ro, o, s, ha, hb⟩ := id hB
  have w1 : IntKind.i64.wrap (0 + 1) = 1 := wrap_i64 _ (by omega) (by omega)
  have w1' : IntKind.i64.wrap 1 = 1 := wrap_i64 _ (by omega) (by omega)
  have w0 : IntKind.i64.wrap 0 = 0 := wrap_i64 _ (by omega) (by omega)
  have oB := ok.old hb
  have hN' : ¬ 100 < N := by omega
  have hb' : h.tr.get b = some (.blk [.slice none 0 0, .slice list.a 0 list.c, .int .i64 1, .bool false, .int .i64 n, .slice none 0 0] ro o s) := by rw [hb]; simp [blkCells, nilS, hll]
  refine Does.of c_graph_Large ?_
  unfold b_graph_Large
  simp [fnCells, hl, ha]
  rw [runs_loop]
  unfold r_graph_Large_0
  simp [hb', oB, w0, w1, w1']
  rw [runs_loop]
  simp [hN']
  exact ((Grows.refl ok).new _ _).var _ _
end Go.Proofs.YtmdpidhnaddbcaaGreatDoor
