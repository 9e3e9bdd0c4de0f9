/- Contracts: turns, ahead, keyOf of package value. -/
import Derived.Test.YtigniafapkbbbaaGreatDoorKI
namespace Go.Proofs.YtigniafapkbbbaaGreatDoor
open Go.AI

theorem index_i {h : Heap} {b c o s : Nat} {ro : Bool} {ws : List Int} (hb : h.tr.get b = some (.blk (encI.flat ws) ro o s)) (hlen : ws.length < 1000000) (x : Int) :
    Does FF n_slices_Index_int_int [.slice (some ⟨b, 0, none⟩) ws.length c, .int .i64 x] h (fun v h' => h' = h ∧ ∃ i : Int, v = .int .i64 i ∧ (0 ≤ i ↔ x ∈ ws)) := by
  refine Does.of c_slices_Index_int_int ?_
  unfold b_slices_Index_int_int
  simp
  refine Runs.loop (fun m e h2 => ∃ j : Nat, m = ws.length - j ∧ j ≤ ws.length ∧ Env.get e 0 = .slice (some ⟨b, 0, none⟩) ws.length c ∧ Env.get e 1 = .int .i64 x ∧ Env.get e 7 = .int .i64 ws.length ∧ Env.get e 8 = .int .i64 j ∧ h2 = h ∧ ∀ i, i < j → ws[i]? ≠ some x) ?_ (n := ws.length)
    ⟨0, rfl, by omega, by simp, by simp, by simp, by simp, rfl, fun i hi => by omega⟩
  rintro m e h2 ⟨j, rfl, hj, f0, f1, f7, f8, rfl, hn⟩
  unfold r_slices_Index_int_int_0
  by_cases hjl : j < ws.length
  · have hx : ws[j]? = some ws[j] := List.getElem?_eq_getElem hjl
    generalize ws[j] = y at hx
    have hr := read_i hb hx
    obtain ⟨j', hj'⟩ : ∃ j', j' = j + 1 := ⟨_, rfl⟩
    have wj : IntKind.i64.wrap ((j : Int) + 1) = (j' : Int) := by rw [wrap_i64 _ (by omega) (by omega)]; omega
    by_cases hxy : x = y
    · subst hxy
      simp [f0, f1, f7, f8, hjl, hr, -readAt_def]
      exact List.mem_of_getElem? hx
    · have hxy' : (x == y) = false := by simpa using hxy
      simp [f0, f1, f7, f8, hjl, hr, hxy', wj, -readAt_def]
      refine ⟨ws.length - j', by omega, j', rfl, by omega, rfl, fun i hi => ?_⟩
      by_cases e : i = j
      · subst e; rw [hx]; intro e; cases e; exact hxy rfl
      · exact hn i (by omega)
  · have : j = ws.length := by omega
    subst this
    simp [f0, f1, f7, f8]
    intro hm
    obtain ⟨i, hi, e⟩ := List.getElem_of_mem hm
    exact hn i hi (by rw [List.getElem?_eq_getElem hi, e])

theorem contains_i {h : Heap} {b c o s : Nat} {ro : Bool} {ws : List Int} (hb : h.tr.get b = some (.blk (encI.flat ws) ro o s)) (hlen : ws.length < 1000000) (x : Int) :
    Does FF n_slices_Contains_int_int [.slice (some ⟨b, 0, none⟩) ws.length c, .int .i64 x] h (fun v h' => h' = h ∧ v = .bool (decide (x ∈ ws))) := by
  refine Does.of c_slices_Contains_int_int ?_
  unfold b_slices_Contains_int_int
  simp
  refine OpsR.call (by simpa using index_i hb hlen x) ?_
  rintro _ h2 ⟨rfl, i, rfl, hi⟩
  by_cases hm : x ∈ ws
  · have := hi.2 hm
    simp [this, hm]
  · have : ¬ 0 ≤ i := fun e => hm (hi.1 e)
    have h2 : i < 0 := by omega
    simp [this, hm, h2]

theorem turns_does {h : Heap} (ok : HOk h) (op : Int) : Does FF n_value_turns [.int .i64 op] h (fun v h' => v = .bool (turnsM op) ∧ Grows Nob h h') := by
  refine Does.of c_value_turns ?_
  unfold b_value_turns
  simp
  have g := grow_newBlk ok (encI.flat [2, 4, 7, 8, 9, 12, 13]) 0
  refine OpsR.call (by simpa using contains_i (c := 7) (get_newBlk h (encI.flat [2, 4, 7, 8, 9, 12, 13]) 0) (by simp) op) ?_
  rintro _ h2 ⟨rfl, rfl⟩
  simp [turnsM]
  refine ⟨?_, by simpa using g⟩
  rw [Bool.eq_iff_iff]
  simp

theorem ahead_does {h : Heap} (ok : HOk h) (a b : Bool × Int) : Does FF n_value_ahead [.agg ⟨[.bool a.1, .int .i64 a.2]⟩, .agg ⟨[.bool b.1, .int .i64 b.2]⟩] h (fun v h' => v = .bool (aheadM a b) ∧ Grows Nob h h') := by
  obtain ⟨ar, an⟩ := a
  obtain ⟨br, bn⟩ := b
  refine Does.of c_value_ahead ?_
  unfold b_value_ahead
  have g : Grows Nob h (newBlk (newBlk h [.bool ar, .int .i64 an] 0) [.bool br, .int .i64 bn] 0) := ((Grows.refl ok).new _ _).new _ _
  cases ar <;> cases br <;> by_cases hl : an < bn <;> simp [aheadM, hl] <;> exact g

/-- a key as it lies in cells -/
def keyV (c : Key) : List Value := [.int .i64 c.1, .bool c.2.1, .int .i64 c.2.2.1, .bool c.2.2.2.1, .int .i64 c.2.2.2.2]

theorem keyOf_does {h : Heap} (ok : HOk h) (K : Value) {op dst : Int} (hop : 2 ≤ op ∧ op ≤ 15) (a b : Bool × Int) :
    Does FF n_value_known_keyOf [K, .agg ⟨insCells op dst a.1 a.2 b.1 b.2 0 (.slice none 0 0)⟩] h (fun v h' => v = .tuple #[.agg ⟨keyV (keyM op a b)⟩, .bool true] ∧ Grows Nob h h') := by
  obtain ⟨ar, an⟩ := a
  obtain ⟨br, bn⟩ := b
  have h17 : op ≤ 17 := by omega
  have h18 : (op == 18) = false := by have : ¬ op = 18 := by omega
                                      simpa using this
  refine Does.of c_value_known_keyOf ?_
  unfold b_value_known_keyOf
  simp [insCells]
  refine DrawR.cut (fun h1 => Grows Nob h h1 ∧ h1.tr.get h.next = some (.blk [.int .i64 op, .int .i64 dst, .bool ar, .int .i64 an, .bool br, .int .i64 bn, .int .i64 0, .slice none 0 0] false 0 0) ∧ h1.tr.get (h.next + 1) = some (.blk [.int .i64 0, .bool false, .int .i64 0, .bool false, .int .i64 0] false 0 0)) ?_ ?_
  · exact ⟨(((Grows.refl ok).new _ _).new _ _).tick, by simp, by simp⟩
  rintro h1 ⟨g1, hX1, hR1⟩
  have oX1 := g1.ok.old hX1
  have oR1 := g1.ok.old hR1
  refine DrawR.call (by simpa using within_does h1 op 2 17) ?_
  rintro _ h2 ⟨rfl, eh⟩
  rw [eh]
  simp [hop.1, h17, hX1, h18, oX1]
  refine OpsR.cut (fun h3 => Grows Nob h h3 ∧ h3.tr.get h.next = some (.blk [.int .i64 op, .int .i64 dst, .bool ar, .int .i64 an, .bool br, .int .i64 bn, .int .i64 0, .slice none 0 0] false 0 0) ∧ h3.tr.get (h.next + 1) = some (.blk [.int .i64 0, .bool false, .int .i64 0, .bool false, .int .i64 0] false 0 0) ∧ ∃ s, h3.tr.get h1.next = some (.blk (keyV (op, ar, an, br, bn)) false 0 s)) ?_ ?_
  · exact ⟨(g1.new _ _).put ⟨0, by simp⟩ (.inl g1.next), by simp [oX1, hX1], by simp [oR1, hR1], h1.clock, by simp [keyV]⟩
  rintro h3 ⟨g3, hX3, hR3, s3, hC3⟩
  have nCX : ¬ h1.next = h.next := by have := oX1.lt; omega
  have nCR : ¬ h1.next = h.next + 1 := by have := oR1.lt; omega
  refine OpsR.call (turns_does g3.ok op) ?_
  rintro _ h4 ⟨rfl, g4⟩
  have gg4 := g3.trans g4
  have hX4 := g4.get g3.ok hX3 (fun h => h)
  have hR4 := g4.get g3.ok hR3 (fun h => h)
  have hC4 := g4.get g3.ok hC3 (fun h => h)
  simp only [keyV] at hC4
  have e0 : keyM op (ar, an) (br, bn) = if turnsM op = true ∧ aheadM (br, bn) (ar, an) = true then (op, br, bn, ar, an) else (op, ar, an, br, bn) := rfl
  have nRX : ¬ h.next + 1 = h.next := by omega
  cases ht : turnsM op with
  | false =>
    rw [ht] at e0
    simp at e0
    simp [hC4, hR4, e0, keyV]
    exact gg4.put ⟨_, hR4⟩ (.inl (by omega))
  | true =>
    simp [hX4]
    refine OpsR.call (by simpa using ahead_does gg4.ok (br, bn) (ar, an)) ?_
    rintro _ h5 ⟨rfl, g5⟩
    have gg5 := gg4.trans g5
    have hR5 := g5.get gg4.ok hR4 (fun h => h)
    have hC5 := g5.get gg4.ok hC4 (fun h => h)
    cases ha : aheadM (br, bn) (ar, an) with
    | false =>
      rw [ht, ha] at e0
      simp at e0
      simp [hC5, hR5, e0, keyV]
      exact gg5.put ⟨_, hR5⟩ (.inl (by omega))
    | true =>
      rw [ht, ha] at e0
      simp at e0
      simp [hC5, hR5, e0, keyV, nCR, Ne.symm nCR]
      refine ((gg5.put ⟨_, hC5⟩ (.inl g1.next)).put ⟨_, get_put_same _ _ _ _ _ _⟩ (.inl g1.next)).put ⟨0, by simp [nCR, Ne.symm nCR, hR5]⟩ (.inl (by omega))
end Go.Proofs.YtigniafapkbbbaaGreatDoor

/- Contracts: val, same, phis of none. -/
namespace Go.Proofs.YtigniafapkbbbaaGreatDoor
open Go.AI

/-- values as they lie in cells -/
def encR : Enc (Bool × Int) := ⟨fun x => [.bool x.1, .int .i64 x.2], 2, fun _ => rfl, by decide, fun _ => rfl⟩
@[simp] theorem encR_sz : encR.sz = 2 := rfl
@[simp] theorem encR_enc (x : Bool × Int) : encR.enc x = [.bool x.1, .int .i64 x.2] := rfl

/-- what a pass knows: its block K, the function's block f, its kids, the table in block nb -/
structure Kn (h : Heap) (K f : Nat) (kids now : SV) (T : List (Bool × Int)) (more : Bool) : Prop where
  blk : ∃ s, h.tr.get K = some (.blk [.int .i64 0, .pointer (some ⟨f, 0, none⟩), kids.v, now.v, .bool more] false 0 s)
  len : now.l = T.length
  tab : (T = [] ∧ now.a = none) ∨ ∃ nb s, now.a = some ⟨nb, 0, none⟩ ∧ h.tr.get nb = some (.blk (encR.flat T) false 2 s) ∧ nb ≠ K

/-- the blocks that a pass writes to -/
def KnB (K : Nat) (now : SV) (b : Nat) : Prop := b = K ∨ BlkOf now.v b

theorem Kn.grow {S : Nat → Prop} {h h' : Heap} {K f : Nat} {kids now : SV} {T : List (Bool × Int)} {more : Bool} (k : Kn h K f kids now T more) (ok : HOk h) (g : Grows S h h') (hs : ∀ b, KnB K now b → ¬ S b) : Kn h' K f kids now T more := by
  obtain ⟨⟨s, hK⟩, hl, ht⟩ := k
  refine ⟨⟨s, g.get ok hK (hs _ (.inl rfl))⟩, hl, ht.imp id ?_⟩
  rintro ⟨nb, s2, ha, hb, hn⟩
  refine ⟨nb, s2, ha, g.get ok hb (hs _ (.inr ⟨0, now.l, now.c, by simp [ha]⟩)), hn⟩

theorem read_r {h : Heap} {W : Nat} {ws : List (Bool × Int)} {o s : Nat} {ro : Bool} (hW : h.tr.get W = some (.blk (encR.flat ws) ro o s)) {k : Nat} {x : Bool × Int} (hk : ws[k]? = some x) : readAt h W (k * 2) 2 = some [.bool x.1, .int .i64 x.2] := by
  have hl := (List.getElem?_eq_some_iff.mp hk).1
  rw [readAt_eq hW (by rw [encR.length_flat]; show k * 2 + 2 ≤ ws.length * 2; omega)]
  have := encR.part_flat ws k 0 2 x hk (by decide)
  simp only [Nat.add_zero] at this
  rw [show k * 2 = k * encR.sz from rfl, this]
  rfl

/-- a register's place in the table -/
def Ent (T : List (Bool × Int)) (r : Bool) (n : Int) : Prop := r = true → ∃ k j : Nat, n = k ∧ T[k]? = some (true, (j : Int)) ∧ T[j]? = some (true, (j : Int))

theorem kval_does {h : Heap} (ok : HOk h) {K f : Nat} {kids now : SV} {T : List (Bool × Int)} {more : Bool} (k : Kn h K f kids now T more) {r : Bool} {n : Int} (he : Ent T r n) (hT : T.length < 1000000) :
    Does FF n_value_known_val [.pointer (some ⟨K, 0, none⟩), .agg ⟨[.bool r, .int .i64 n]⟩] h (fun v h' => v = .agg ⟨[.bool (curM T r n).1, .int .i64 (curM T r n).2]⟩ ∧ Grows Nob h h') := by
  refine Does.of c_value_known_val ?_
  unfold b_value_known_val
  simp
  refine Runs.loop (fun m e h2 => ∃ (r' : Bool) (n' : Int), Grows Nob h h2 ∧ Env.get e 0 = .pointer (some ⟨K, 0, none⟩) ∧ Env.get e 3 = .pointer (some ⟨h.next, 0, none⟩) ∧ Env.get e 4 = .pointer (some ⟨h.next + 1, 0, none⟩) ∧
      (∃ s, h2.tr.get h.next = some (.blk [.bool r', .int .i64 n'] false 0 s)) ∧ (∃ s, h2.tr.get (h.next + 1) = some (.blk [.bool false, .int .i64 0] false 0 s)) ∧ ((m = 1 ∧ r' = r ∧ n' = n) ∨ (m = 0 ∧ r = true ∧ r' = true ∧ curM T r n = (true, n') ∧ ∃ j : Nat, n' = j ∧ T[j]? = some (true, (j : Int))))) ?_ (n := 1)
    ⟨r, n, ((Grows.refl ok).new _ _).new _ _, by simp, by simp, by simp, ⟨0, by simp⟩, ⟨0, by simp⟩, .inl ⟨rfl, rfl, rfl⟩⟩
  rintro m e h2 ⟨r', n', g2, f0, f3, f4, ⟨s1, hV⟩, ⟨s2, hR⟩, hm⟩
  unfold r_value_known_val_0
  have oV := g2.ok.old hV
  have oR := g2.ok.old hR
  have nRV : ¬ h.next + 1 = h.next := by omega
  cases r' with
  | false =>
    rcases hm with ⟨rfl, rfl, rfl⟩ | ⟨_, _, e, _⟩
    · simp [f0, f3, f4, hV, hR, curM, oV, oR]
      exact g2.tick.put ⟨_, hR⟩ (.inl (by omega))
    · cases e
  | true =>
    have hk : ∃ k j : Nat, n' = k ∧ T[k]? = some (true, (j : Int)) ∧ T[j]? = some (true, (j : Int)) ∧ ((m = 1 ∧ r = true ∧ curM T r n = (true, (j : Int))) ∨ (m = 0 ∧ j = k ∧ curM T r n = (true, (j : Int)))) := by
      rcases hm with ⟨rfl, rfl, rfl⟩ | ⟨rfl, rfl, _, e, j, rfl, hj⟩
      · obtain ⟨k, j, rfl, h1, h2⟩ := he rfl
        exact ⟨k, j, rfl, h1, h2, .inl ⟨rfl, rfl, by simp [curM, h1]⟩⟩
      · exact ⟨j, j, rfl, hj, hj, .inr ⟨rfl, rfl, e⟩⟩
    obtain ⟨k', j, rfl, hk1, hk2, hm⟩ := hk
    have kk := k.grow ok g2 (fun _ _ h => h)
    obtain ⟨⟨s3, hK⟩, hl, ht⟩ := kk
    have hkl := (List.getElem?_eq_some_iff.mp hk1).1
    rcases ht with ⟨rfl, _⟩ | ⟨nb, s4, ha, hb, hnb⟩
    · simp at hk1
    have hr := read_r hb hk1
    simp [-readAt_def] at hr
    have hkl' : k' < now.l := by omega
    by_cases e : j = k'
    · subst e
      have hc : curM T r n = (true, (j : Int)) := by rcases hm with ⟨_, _, e⟩ | ⟨_, _, e⟩ <;> exact e
      simp [f0, f3, f4, hV, hR, hK, ha, hkl', hr, -readAt_def, oV, oR, readAt_tick, readAt_get hK, readAt_get hV, readAt_get hR, readAt_put_same, hc]
      exact g2.tick.put ⟨_, hR⟩ (.inl (by omega))
    · rcases hm with ⟨rfl, rfl, hc⟩ | ⟨_, e2, _⟩
      · have e' : ((j : Int) == (k' : Int)) = false := by simp; omega
        simp [f0, f3, f4, hV, hR, hK, ha, hkl', hr, -readAt_def, oV, oR, readAt_tick, readAt_get hK, readAt_get hV, readAt_get hR, readAt_put_same, hc, e']
        exact ⟨g2.tick.tick.put ⟨_, hV⟩ (.inl (by omega)), j, rfl, hk2⟩
      · exact absurd e2 e

theorem same_does {h : Heap} (ok : HOk h) {K f : Nat} {kids now : SV} {T : List (Bool × Int)} {more : Bool} (k : Kn h K f kids now T more) {d : Nat} (hd : d < T.length) (r : Bool) (v : Int) :
    Does FF n_value_known_same [.pointer (some ⟨K, 0, none⟩), .int .i64 d, .agg ⟨[.bool r, .int .i64 v]⟩] h (fun u h' => u = .tuple #[] ∧ Grows (KnB K now) h h' ∧ Kn h' K f kids now (T.set d (r, v)) true) := by
  obtain ⟨⟨s, hK⟩, hl, ht⟩ := k
  rcases ht with ⟨rfl, _⟩ | ⟨nb, s4, ha, hb, hnb⟩
  · simp at hd
  have hdl : d < now.l := by omega
  have oK := ok.old hK
  have oB := ok.old hb
  have hKn : KnB K now K := .inl rfl
  have hBn : KnB K now nb := .inr ⟨0, now.l, now.c, by simp [ha]⟩
  refine Does.of c_value_known_same ?_
  unfold b_value_known_same
  have h2l : d * 2 + 2 ≤ T.length * 2 := by omega
  have hsp : splice (encR.flat T) (d * 2) [.bool r, .int .i64 v] = encR.flat (T.set d (r, v)) := encR.splice_flat T d (r, v) hd
  have nKB : ¬ K = nb := fun e => hnb e.symm
  simp [hK, ha, hdl, oK, oB, hb, hnb, h2l, nKB]
  refine ⟨(((Grows.refl ok).nob.new _ _).tick.put ⟨s4, by simp [oB, hb]⟩ (.inr hBn)).put ⟨s, by simp [nKB, oK, hK, ha]⟩ (.inr hKn), ⟨h.clock + 1 + 1, by simp [ha]⟩, by simp [hl], .inr ⟨nb, h.clock + 1, ha, ?_, hnb⟩⟩
  simp [hnb, hsp]

theorem phis_none {h : Heap} (ok : HOk h) {K f : Nat} {kids now : SV} {T : List (Bool × Int)} {more : Bool} (k : Kn h K f kids now T more) {name : ByteArray} {p N : Int} {blocks list : SV} {n0 : Nat} {r : Bool} {n : Int} (hf : ∃ o s, h.tr.get f = some (.blk (fnCells name p N blocks) false o s)) (hB : OneW n0 h blocks list r n) :
    Does FF n_value_known_phis [.pointer (some ⟨K, 0, none⟩), .int .i64 0] h (fun u h' => u = .tuple #[] ∧ Grows (BlkOf blocks.v) h h' ∧ OneW n0 h' blocks list r n) := by
  obtain ⟨⟨s, hK⟩, hl, ht⟩ := k
  obtain ⟨of, sf, hf⟩ := hf
  obtain ⟨hbl, b, o, s1, ha, hn0, hb⟩ := hB
  have oK := ok.old hK
  have oB := ok.old hb
  have of := ok.old hf
  simp [fnCells] at hf
  simp at hb
  refine Does.of c_value_known_phis ?_
  unfold b_value_known_phis
  simp [hK, hf, ha, hbl, hb]
  rw [runs_loop]
  unfold r_value_known_phis_1
  simp [hb]
  exact ⟨(Grows.refl ok).nob.put ⟨_, hb⟩ (.inr ⟨0, 1, blocks.c, by simp [ha, hbl]⟩), hbl, b, o, h.clock, ha, hn0, by simp⟩
end Go.Proofs.YtigniafapkbbbaaGreatDoor
