/- Contract: core.Two. -/
import Derived.Test.YtehbhfobjechpaaGreatDoorKA
import Derived.Test.YtehbhfobjechpaaGreatDoorKE
namespace Go.Proofs.YtehbhfobjechpaaGreatDoor
open Go.AI

def m63 (b : Int) : Int := IntKind.i64.wrap (((b % 2 ^ IntKind.i64.bits).toNat &&& 63 % 2 ^ IntKind.i64.bits : Nat) : Int)
theorem m63_nonneg (b : Int) : ¬ m63 b < 0 := by
  unfold m63
  have h1 : ((b % 2 ^ IntKind.i64.bits).toNat &&& 63 % 2 ^ IntKind.i64.bits) ≤ 63 := Nat.le_trans Nat.and_le_right (by decide)
  rw [wrap_i64 _ (by omega) (by omega)]
  omega
def y01 (b : Bool) : Int := if b then 1 else 0

/-- what core.Two tells of an Op from 1 to 17 -/
def twoM (op a b : Int) : Int × Bool :=
  if op = 1 then (a, true) else
  if op = 2 then (IntKind.i64.wrap (a + b), true) else
  if op = 3 then (IntKind.i64.wrap (a - b), true) else
  if op = 4 then (IntKind.i64.wrap (a * b), true) else
  if op = 5 then (if b = 0 then (0, false) else (IntKind.i64.wrap (a.tdiv b), true)) else
  if op = 6 then (if b = 0 then (0, false) else (a.tmod b, true)) else
  if op = 7 then (IntKind.i64.wrap (((a % 2 ^ IntKind.i64.bits).toNat &&& (b % 2 ^ IntKind.i64.bits).toNat : Nat) : Int), true) else
  if op = 8 then (IntKind.i64.wrap (((a % 2 ^ IntKind.i64.bits).toNat ||| (b % 2 ^ IntKind.i64.bits).toNat : Nat) : Int), true) else
  if op = 9 then (IntKind.i64.wrap (((a % 2 ^ IntKind.i64.bits).toNat ^^^ (b % 2 ^ IntKind.i64.bits).toNat : Nat) : Int), true) else
  if op = 10 then (IntKind.i64.wrap (a * 2 ^ (min (m63 b).toNat IntKind.i64.bits)), true) else
  if op = 11 then (a.fdiv (2 ^ (min (m63 b).toNat IntKind.i64.bits)), true) else
  if op = 12 then (y01 (a == b), true) else
  if op = 13 then (y01 (a != b), true) else
  if op = 14 then (y01 (decide (a < b)), true) else
  if op = 15 then (y01 (decide (a ≤ b)), true) else
  if op = 16 then (IntKind.i64.wrap (-a), true) else
  (IntKind.i64.wrap ((((if IntKind.i64.signed = true then (-1 : Int) else 9223372036854775807) % 2 ^ IntKind.i64.bits).toNat ^^^ (a % 2 ^ IntKind.i64.bits).toNat : Nat) : Int), true)

theorem bits64 : IntKind.i64.bits = 64 := rfl
theorem signed64 : IntKind.i64.signed = true := rfl

theorem yes_does (h : Heap) (b : Bool) : DoesV FF (.func (.func n_core_Two_1) #[] #[]) [.bool b] h (fun v h' => v = .int .i64 (y01 b) ∧ h' = h) := by
  refine DoesV.func ?_
  refine Does.of c_core_Two_1 ?_
  unfold b_core_Two_1
  cases b <;> simp [y01]

theorem two_does (h : Heap) {op : Int} (a b : Int) (hop : 1 ≤ op ∧ op ≤ 17) : Does FF n_core_Two [.int .i64 op, .int .i64 a, .int .i64 b] h (fun v h' => v = .tuple #[.int .i64 (twoM op a b).1, .bool (twoM op a b).2] ∧ h' = h) := by
  refine Does.of c_core_Two ?_
  unfold b_core_Two
  have hn := m63_nonneg b
  unfold m63 at hn
  have hc : op = 1 ∨ op = 2 ∨ op = 3 ∨ op = 4 ∨ op = 5 ∨ op = 6 ∨ op = 7 ∨ op = 8 ∨ op = 9 ∨ op = 10 ∨ op = 11 ∨ op = 12 ∨ op = 13 ∨ op = 14 ∨ op = 15 ∨ op = 16 ∨ op = 17 := by omega
  rcases hc with rfl | rfl | rfl | rfl | rfl | rfl | rfl | rfl | rfl | rfl | rfl | rfl | rfl | rfl | rfl | rfl | rfl
  · simp [twoM]
  · simp [twoM]
  · simp [twoM]
  · simp [twoM]
  · by_cases hb : b = 0
    · subst hb; simp [twoM]
    · simp [twoM, hb]
  · by_cases hb : b = 0
    · subst hb; simp [twoM]
    · simp [twoM, hb]
  · simp [twoM]
  · simp [twoM]
  · simp [twoM]
  · simp [twoM, shiftBin, hn, m63]
  · simp [twoM, shiftBin, hn, m63]
  · simp [twoM]
    refine OpsR.callV (V := fun v h' => v = .int .i64 (y01 (a == b)) ∧ h' = h) (by simpa using yes_does h (a == b)) ?_
    rintro _ h' ⟨rfl, rfl⟩
    simp
  · simp [twoM]
    refine OpsR.callV (V := fun v h' => v = .int .i64 (y01 (a != b)) ∧ h' = h) (by simpa using yes_does h (a != b)) ?_
    rintro _ h' ⟨rfl, rfl⟩
    simp
  · simp [twoM]
    refine OpsR.callV (V := fun v h' => v = .int .i64 (y01 (decide (a < b))) ∧ h' = h) (by simpa using yes_does h (decide (a < b))) ?_
    rintro _ h' ⟨rfl, rfl⟩
    simp
  · simp [twoM]
    refine OpsR.callV (V := fun v h' => v = .int .i64 (y01 (decide (a ≤ b))) ∧ h' = h) (by simpa using yes_does h (decide (a ≤ b))) ?_
    rintro _ h' ⟨rfl, rfl⟩
    simp
  · simp [twoM]
  · simp [twoM]

theorem ite_snd {c : Prop} [Decidable c] {x : Int} {y : Int × Bool} (h : (if c then (x, true) else y).2 = false) : y.2 = false := by
  split at h
  · cases h
  · exact h

theorem two_bad {op a b : Int} (h : (twoM op a b).2 = false) : (op = 5 ∨ op = 6) ∧ b = 0 := by
  by_cases h5 : op = 5
  · subst h5
    by_cases hb : b = 0
    · exact ⟨.inl rfl, hb⟩
    · simp [twoM, hb] at h
  by_cases h6 : op = 6
  · subst h6
    by_cases hb : b = 0
    · exact ⟨.inr rfl, hb⟩
    · simp [twoM, hb] at h
  unfold twoM at h
  rw [if_neg h5, if_neg h6] at h
  iterate 14 replace h := ite_snd h
  cases h

theorem two_ok {op a b : Int} (h : (twoM op a b).2 = true) (hop : op = 5 ∨ op = 6) : b ≠ 0 := by
  rintro rfl
  rcases hop with rfl | rfl <;> simp [twoM] at h
end Go.Proofs.YtehbhfobjechpaaGreatDoor

/- Contracts: run.walker's top, val, set, stop. -/
namespace Go.Proofs.YtehbhfobjechpaaGreatDoor
open Go.AI

/-- the cells of a walker -/
def wkCells (fs ah : SV) (st val steps : Int) (fr cnt : SV) : List Value := [.slice none 0 0, fs.v, ah.v, .slice none 0 0, .slice none 0 0, .int .i64 st, .int .i64 val, .slice none 0 0, .int .i64 steps, fr.v, cnt.v]
/-- the cells of main's frame -/
def frCells (at_ : Int) (rg : SV) : List Value := [.int .i64 0, .int .i64 0, .int .i64 at_, rg.v, .int .i64 (-1)]

/-- A walker that is in main. -/
structure Wk (h : Heap) (w FR RG : Nat) (fs ah cnt : SV) (fc : Nat) (st val steps at_ : Int) (regs : List Int) : Prop where
  wk : ∃ s, h.tr.get w = some (.blk (wkCells fs ah st val steps ⟨some ⟨FR, 0, none⟩, 1, fc⟩ cnt) false 0 s)
  fr : ∃ s, h.tr.get FR = some (.blk (frCells at_ ⟨some ⟨RG, 0, none⟩, regs.length, regs.length⟩) false 5 s)
  rg : ∃ s, h.tr.get RG = some (.blk (encI.flat regs) false 0 s)
  n1 : w ≠ FR
  n2 : w ≠ RG
  n3 : FR ≠ RG

theorem Wk.grow {S : Nat → Prop} {h h' : Heap} {w FR RG : Nat} {fs ah cnt : SV} {fc : Nat} {st val steps at_ : Int} {regs : List Int} (k : Wk h w FR RG fs ah cnt fc st val steps at_ regs) (ok : HOk h) (g : Grows S h h') (hS : ¬ S w ∧ ¬ S FR ∧ ¬ S RG) : Wk h' w FR RG fs ah cnt fc st val steps at_ regs := by
  obtain ⟨⟨s1, a⟩, ⟨s2, b⟩, ⟨s3, c⟩, n1, n2, n3⟩ := k
  exact ⟨⟨s1, g.get ok a hS.1⟩, ⟨s2, g.get ok b hS.2.1⟩, ⟨s3, g.get ok c hS.2.2⟩, n1, n2, n3⟩

theorem read_i {h : Heap} {W : Nat} {ws : List Int} {o s : Nat} {ro : Bool} (hW : h.tr.get W = some (.blk (encI.flat ws) ro o s)) {k : Nat} {x : Int} (hk : ws[k]? = some x) : readAt h W k 1 = some [.int .i64 x] := by
  have hl := (List.getElem?_eq_some_iff.mp hk).1
  rw [readAt_eq hW (by rw [encI.length_flat]; show k + 1 ≤ ws.length * 1; omega)]
  have := encI.part_flat ws k 0 1 x hk (by decide)
  simp only [Nat.add_zero] at this
  rw [show k = k * encI.sz from (Nat.mul_one k).symm, this]
  rfl

section
variable {h : Heap} {w FR RG : Nat} {fs ah cnt : SV} {fc : Nat} {st val steps at_ : Int} {regs : List Int}

theorem top_does (ok : HOk h) (k : Wk h w FR RG fs ah cnt fc st val steps at_ regs) :
    Does FF n_run_walker_top [.pointer (some ⟨w, 0, none⟩)] h (fun v h' => v = .pointer (some ⟨FR, 0, none⟩) ∧ Grows Nob h h') := by
  obtain ⟨s, hw⟩ := k.wk
  have hw' : h.tr.get w = some (.blk [.slice none 0 0, .slice fs.a fs.l fs.c, .slice ah.a ah.l ah.c, .slice none 0 0, .slice none 0 0, .int .i64 st, .int .i64 val, .slice none 0 0, .int .i64 steps, .slice (some ⟨FR, 0, none⟩) 1 fc, .slice cnt.a cnt.l cnt.c] false 0 s) := hw
  have w0 : IntKind.i64.wrap (1 - 1) = 0 := wrap_i64 _ (by omega) (by omega)
  have w0' : IntKind.i64.wrap 0 = 0 := wrap_i64 _ (by omega) (by omega)
  refine Does.of c_run_walker_top ?_
  unfold b_run_walker_top
  simp [hw', w0, w0']
  exact grow_tick ok

/-- a value, where the registers are as they are -/
def valOf (regs : List Int) (r : Bool) (n : Int) : Int := if r then (regs[n.toNat]?).getD 0 else n

theorem wval_does (ok : HOk h) (k : Wk h w FR RG fs ah cnt fc st val steps at_ regs) {r : Bool} {n : Int} (hr : r = true → ∃ i : Nat, n = i ∧ i < regs.length) :
    Does FF n_run_walker_val [.pointer (some ⟨w, 0, none⟩), .agg ⟨[.bool r, .int .i64 n]⟩] h (fun v h' => v = .int .i64 (valOf regs r n) ∧ Grows Nob h h') := by
  refine Does.of c_run_walker_val ?_
  unfold b_run_walker_val
  cases r with
  | false => simp [valOf]; exact grow_newBlk ok _ _
  | true =>
    obtain ⟨i, rfl, hi⟩ := hr rfl
    have hri : regs[i]? = some regs[i] := List.getElem?_eq_getElem hi
    simp
    refine DrawR.cut (fun h1 => Grows Nob h h1 ∧ h1.tr.get h.next = some (.blk [.bool true, .int .i64 i] false 0 0)) ⟨((Grows.refl ok).new _ _).tick, by simp⟩ ?_
    rintro h1 ⟨g1, hX1⟩
    refine DrawR.call (by simpa using top_does g1.ok (k.grow ok g1 ⟨id, id, id⟩)) ?_
    rintro _ h2 ⟨rfl, g2⟩
    have gg2 := g1.trans g2
    have hX2 := g2.get g1.ok hX1 (fun h => h)
    have k2 := k.grow ok gg2 ⟨id, id, id⟩
    obtain ⟨s2, hf⟩ := k2.fr
    obtain ⟨s3, hg⟩ := k2.rg
    have hf' : h2.tr.get FR = some (.blk [.int .i64 0, .int .i64 0, .int .i64 at_, .slice (some ⟨RG, 0, none⟩) regs.length regs.length, .int .i64 (-1)] false 5 s2) := hf
    have hrd := read_i hg hri
    simp [hX2, readAt_get hf', hi, hrd, -readAt_def, valOf]
    exact gg2

theorem set_does (ok : HOk h) (k : Wk h w FR RG fs ah cnt fc st val steps at_ regs) {i : Nat} (hi : i < regs.length) (n : Int) :
    Does FF n_run_walker_set [.pointer (some ⟨w, 0, none⟩), .int .i64 i, .int .i64 n] h (fun _ h' => Grows (· = RG) h h' ∧ Wk h' w FR RG fs ah cnt fc st val steps at_ (regs.set i n)) := by
  refine Does.of c_run_walker_set ?_
  unfold b_run_walker_set
  have h0 : (0 : Int) ≤ i := by omega
  simp [h0]
  refine OpsR.call (by simpa using top_does ok k) ?_
  rintro _ h1 ⟨rfl, g1⟩
  have k1 := k.grow ok g1 ⟨id, id, id⟩
  obtain ⟨s1, hw⟩ := k1.wk
  obtain ⟨s2, hf⟩ := k1.fr
  obtain ⟨s3, hg⟩ := k1.rg
  have hf' : h1.tr.get FR = some (.blk [.int .i64 0, .int .i64 0, .int .i64 at_, .slice (some ⟨RG, 0, none⟩) regs.length regs.length, .int .i64 (-1)] false 5 s2) := hf
  have hl : (encI.flat regs).length = regs.length := by rw [encI.length_flat]; exact Nat.mul_one _
  have hlen : i + 1 ≤ regs.length := hi
  simp [readAt_get hf', hi, hg, hl, hlen, -readAt_def]
  have hs := encI.splice_flat regs i n hi
  have hs' : splice (encI.flat regs) i [.int .i64 n] = encI.flat (regs.set i n) := by
    rw [← hs, show i * encI.sz = i from Nat.mul_one i]; rfl
  refine ⟨(g1.nob (S := (· = RG))).trans (grow_put g1.ok hg), ⟨s1, ?_⟩, ⟨s2, ?_⟩, ⟨h1.clock, ?_⟩, k.n1, k.n2, k.n3⟩
  · simpa [k.n2] using hw
  · simpa [k.n3] using hf
  · simp [hs']

theorem stop_does (ok : HOk h) (k : Wk h w FR RG fs ah cnt fc st val steps at_ regs) (x : Int) :
    Does FF n_run_walker_stop [.pointer (some ⟨w, 0, none⟩), .int .i64 x] h (fun v h' => v = .bool false ∧ Grows (· = w) h h' ∧ Wk h' w FR RG fs ah cnt fc x val steps at_ regs) := by
  obtain ⟨s1, hw⟩ := k.wk
  obtain ⟨s2, hf⟩ := k.fr
  obtain ⟨s3, hg⟩ := k.rg
  have hw' : h.tr.get w = some (.blk [.slice none 0 0, .slice fs.a fs.l fs.c, .slice ah.a ah.l ah.c, .slice none 0 0, .slice none 0 0, .int .i64 st, .int .i64 val, .slice none 0 0, .int .i64 steps, .slice (some ⟨FR, 0, none⟩) 1 fc, .slice cnt.a cnt.l cnt.c] false 0 s1) := hw
  refine Does.of c_run_walker_stop ?_
  unfold b_run_walker_stop
  simp [hw']
  refine ⟨grow_put ok hw, ⟨h.clock, ?_⟩, ⟨s2, ?_⟩, ⟨s3, ?_⟩, k.n1, k.n2, k.n3⟩
  · simp [wkCells]
  · simpa [Ne.symm k.n1] using hf
  · simpa [Ne.symm k.n2] using hg
end
end Go.Proofs.YtehbhfobjechpaaGreatDoor

/- Contracts: run.walker's ins, end, step. -/
namespace Go.Proofs.YtehbhfobjechpaaGreatDoor
open Go.AI

section
variable {h : Heap} {w FR RG : Nat} {fs ah cnt : SV} {fc : Nat} {st val steps at_ : Int} {regs : List Int}

theorem ins_pre (ok : HOk h) (k : Wk h w FR RG fs ah cnt fc st val steps at_ regs) {op an bn : Int} {d : Nat} {ar br : Bool} (hop : 1 ≤ op ∧ op ≤ 17) (hd : d < regs.length)
    (ha : ar = true → ∃ i : Nat, an = i ∧ i < regs.length) (hb : br = true → ∃ i : Nat, bn = i ∧ i < regs.length) :
    Does FF n_run_walker_ins [.pointer (some ⟨w, 0, none⟩), .agg ⟨insCells op d ar an br bn 0 (.slice none 0 0)⟩] h (fun v h' =>
      if (twoM op (valOf regs ar an) (valOf regs br bn)).2 then v = .bool true ∧ Grows (· = RG) h h' ∧ Wk h' w FR RG fs ah cnt fc st val steps at_ (regs.set d (twoM op (valOf regs ar an) (valOf regs br bn)).1)
      else v = .bool false ∧ Grows (· = w) h h' ∧ Wk h' w FR RG fs ah cnt fc 2 val steps at_ regs) := by
  refine Does.of c_run_walker_ins ?_
  unfold b_run_walker_ins
  simp [insCells]
  refine DrawR.cut (fun h1 => Grows Nob h h1 ∧ h1.tr.get h.next = some (.blk [.int .i64 op, .int .i64 d, .bool ar, .int .i64 an, .bool br, .int .i64 bn, .int .i64 0, .slice none 0 0] false 0 0)) ⟨((Grows.refl ok).new _ _).tick, by simp⟩ ?_
  rintro h1 ⟨g1, hX1⟩
  refine DrawR.call (by simpa using wval_does g1.ok (k.grow ok g1 ⟨id, id, id⟩) ha) ?_
  rintro _ h2 ⟨rfl, g2⟩
  have gg2 := g1.trans g2
  have hX2 := g2.get g1.ok hX1 (fun h => h)
  simp [hX2]
  refine DrawR.call (by simpa using wval_does gg2.ok (k.grow ok gg2 ⟨id, id, id⟩) hb) ?_
  rintro _ h3 ⟨rfl, g3⟩
  have gg3 := gg2.trans g3
  have hX3 := g3.get gg2.ok hX2 (fun h => h)
  have b18 : (op == 18) = false := beq_no (by omega)
  have b19 : (op == 19) = false := beq_no (by omega)
  have b20 : (op == 20) = false := beq_no (by omega)
  have b21 : (op == 21) = false := beq_no (by omega)
  have b22 : (op == 22) = false := beq_no (by omega)
  simp [hX3, b18, b19, b20, b21, b22]
  refine OpsR.call (by simpa using two_does h3 (valOf regs ar an) (valOf regs br bn) hop) ?_
  rintro _ h3' ⟨rfl, e⟩
  rw [e]
  have k3 := k.grow ok gg3 ⟨id, id, id⟩
  generalize twoM op (valOf regs ar an) (valOf regs br bn) = t
  obtain ⟨n, yes⟩ := t
  cases yes with
  | false =>
    simp
    refine OpsR.call (by simpa using stop_does gg3.ok k3 2) ?_
    rintro _ h4 ⟨rfl, g4, k4⟩
    simp
    exact ⟨gg3.nob.trans g4, k4⟩
  | true =>
    simp [hX3]
    refine OpsR.call (by simpa using set_does gg3.ok k3 hd n) ?_
    rintro _ h4 ⟨g4, k4⟩
    simp
    exact ⟨gg3.nob.trans g4, k4⟩

theorem end_done (ok : HOk h) (k : Wk h w FR RG fs ah cnt fc st val steps at_ regs) {r : Bool} {n : Int} {to : SV} (hr : r = true → ∃ i : Nat, n = i ∧ i < regs.length) :
    Does FF n_run_walker_end [.pointer (some ⟨w, 0, none⟩), .agg ⟨[.int .i64 1, .bool r, .int .i64 n, to.v]⟩] h (fun v h' => v = .bool false ∧ Grows (· = w) h h' ∧
      ∃ s, h'.tr.get w = some (.blk (wkCells fs ah 0 (valOf regs r n) steps ⟨some ⟨FR, 0, none⟩, 0, fc⟩ cnt) false 0 s)) := by
  have w0 : IntKind.i64.wrap (1 - 1) = 0 := wrap_i64 _ (by omega) (by omega)
  have w0' : IntKind.i64.wrap 0 = 0 := wrap_i64 _ (by omega) (by omega)
  refine Does.of c_run_walker_end ?_
  unfold b_run_walker_end
  simp
  refine DrawR.cut (fun h1 => Grows Nob h h1 ∧ h1.tr.get h.next = some (.blk [.int .i64 1, .bool r, .int .i64 n, .slice to.a to.l to.c] false 0 0)) ⟨((Grows.refl ok).new _ _).tick, by simp⟩ ?_
  rintro h1 ⟨g1, hX1⟩
  refine DrawR.call (by simpa using wval_does g1.ok (k.grow ok g1 ⟨id, id, id⟩) hr) ?_
  rintro _ h2 ⟨rfl, g2⟩
  have gg2 := g1.trans g2
  simp
  refine DrawR.call (by simpa using top_does gg2.ok (k.grow ok gg2 ⟨id, id, id⟩)) ?_
  rintro _ h3 ⟨rfl, g3⟩
  have gg3 := gg2.trans g3
  have k3 := k.grow ok gg3 ⟨id, id, id⟩
  obtain ⟨s1, hw⟩ := k3.wk
  obtain ⟨s2, hf⟩ := k3.fr
  have hf' : h3.tr.get FR = some (.blk [.int .i64 0, .int .i64 0, .int .i64 at_, .slice (some ⟨RG, 0, none⟩) regs.length regs.length, .int .i64 (-1)] false 5 s2) := hf
  have hw' : h3.tr.get w = some (.blk [.slice none 0 0, .slice fs.a fs.l fs.c, .slice ah.a ah.l ah.c, .slice none 0 0, .slice none 0 0, .int .i64 st, .int .i64 val, .slice none 0 0, .int .i64 steps, .slice (some ⟨FR, 0, none⟩) 1 fc, .slice cnt.a cnt.l cnt.c] false 0 s1) := hw
  have n1' : ¬ FR = w := Ne.symm k.n1
  simp [hf', hw', w0, w0', n1']
  refine OpsR.cut (fun h4 => Grows (· = w) h h4 ∧ ∃ s, h4.tr.get w = some (.blk (wkCells fs ah st (valOf regs r n) steps ⟨some ⟨FR, 0, none⟩, 0, fc⟩ cnt) false 0 s)) ?_ ?_
  · refine ⟨?_, h3.clock + 1 + 1, by simp [wkCells]⟩
    refine Grows.put (Grows.put gg3.nob.tick ⟨s1, by simpa using hw'⟩ (.inr rfl)) ⟨h3.clock + 1, ?_⟩ (.inr rfl)
    simp
  rintro h4 ⟨g4, s4, hw4⟩
  have hw4' : h4.tr.get w = some (.blk [.slice none 0 0, .slice fs.a fs.l fs.c, .slice ah.a ah.l ah.c, .slice none 0 0, .slice none 0 0, .int .i64 st, .int .i64 (valOf regs r n), .slice none 0 0, .int .i64 steps, .slice (some ⟨FR, 0, none⟩) 0 fc, .slice cnt.a cnt.l cnt.c] false 0 s4) := hw4
  refine OpsR.call (V := fun v h' => v = .bool false ∧ h' = put h4 w 5 (wkCells fs ah st (valOf regs r n) steps ⟨some ⟨FR, 0, none⟩, 0, fc⟩ cnt) [.int .i64 0] 0) ?_ ?_
  · refine Does.of c_run_walker_stop ?_
    unfold b_run_walker_stop
    simp [hw4', wkCells]
  rintro _ h5 ⟨rfl, rfl⟩
  simp [wkCells]
  exact g4.put ⟨_, hw4⟩ (.inr rfl)

theorem blk_get {h : Heap} {blocks phis list to : SV} {r : Bool} {n : Int} (hB : OneB h blocks phis list r n to) : ∃ b ro o s, blocks.a = some ⟨b, 0, none⟩ ∧ blocks.l = 1 ∧ h.tr.get b = some (.blk [.slice phis.a phis.l phis.c, .slice list.a list.l list.c, .int .i64 1, .bool r, .int .i64 n, .slice to.a to.l to.c] ro o s) := by
  obtain ⟨h1, b, ro, o, s, h2, h3⟩ := hB
  exact ⟨b, ro, o, s, h2, h1, h3⟩

/-- A walker in main's one block. -/
structure In (h0 h : Heap) (w FR RG Fb : Nat) (N : Nat) (mB : SV) (r1 : Bool) (n1 : Int) (xs : List Own) : Prop where
  ok0 : HOk h0
  g : Grows Nob h0 h
  fn : Nonempty (FnOk h0 0 N mB r1 n1 xs)
  hF : ∃ ro o s, h0.tr.get Fb = some (.blk (fnCells sMain 0 N mB) ro o s)
  lw : h0.next ≤ w
  lf : h0.next ≤ FR
  lr : h0.next ≤ RG

theorem step_does {h0 : Heap} {Fb N fcc : Nat} {mB : SV} {r1 : Bool} {n1 : Int} {xs : List Own} {ah cnt : SV} {fc : Nat} {j : Nat} {steps : Int} {regs : List Int} (I : In h0 h w FR RG Fb N mB r1 n1 xs) (k : Wk h w FR RG ⟨some ⟨Fb, 0, none⟩, 1, fcc⟩ ah cnt fc 0 0 steps j regs) (hreg : regs.length = N) (hsteps : 0 ≤ steps ∧ steps < 1000)
    (hN : N < 1000) (hj : j ≤ xs.length) :
    Does FF n_run_walker_step [.pointer (some ⟨w, 0, none⟩)] h (fun v h' => Grows Nob h0 h' ∧
      match xs[j]? with
      | some x => if (twoM x.op (valOf regs x.ar x.an) (valOf regs x.br x.bn)).2 then v = .bool true ∧ Wk h' w FR RG ⟨some ⟨Fb, 0, none⟩, 1, fcc⟩ ah cnt fc 0 0 (steps + 1) (j + 1 : Nat) (regs.set j (twoM x.op (valOf regs x.ar x.an) (valOf regs x.br x.bn)).1)
        else v = .bool false ∧ Wk h' w FR RG ⟨some ⟨Fb, 0, none⟩, 1, fcc⟩ ah cnt fc 2 0 (steps + 1) (j + 1 : Nat) regs
      | none => v = .bool false ∧ ∃ s, h'.tr.get w = some (.blk (wkCells ⟨some ⟨Fb, 0, none⟩, 1, fcc⟩ ah 0 (valOf regs r1 n1) (steps + 1) ⟨some ⟨FR, 0, none⟩, 0, fc⟩ cnt) false 0 s)) := by
  obtain ⟨f0⟩ := I.fn
  have ok : HOk h := I.g.ok
  have hlenN : xs.length ≤ N := by have := f0.cnt; omega
  obtain ⟨b, ro, o, s, ha, hl, hb⟩ := blk_get (f0.one.grow I.ok0 I.g)
  obtain ⟨roF, oF, sF', hF0⟩ := I.hF
  have hF := I.g.get I.ok0 hF0 (fun h => h)
  have hF' : h.tr.get Fb = some (.blk [.string sMain, .int .i64 0, .int .i64 N, .slice (some ⟨b, 0, none⟩) 1 mB.c] roF oF sF') := by rw [hF]; simp [fnCells, ha, hl]
  have hll := f0.llen
  have hb' : h.tr.get b = some (.blk [.slice f0.phis.a f0.phis.l f0.phis.c, .slice f0.list.a xs.length f0.list.c, .int .i64 1, .bool r1, .int .i64 n1, .slice f0.to.a f0.to.l f0.to.c] ro o s) := by rw [hb, hll]
  have ltF : Fb < h0.next := I.ok0.wf _ _ hF0
  have ltb : b < h0.next := by
    obtain ⟨b', ro', o', s', ha', hl', hb'⟩ := blk_get f0.one
    rw [ha] at ha'; cases ha'
    exact I.ok0.wf _ _ hb'
  have lw := I.lw
  have lf := I.lf
  have lr := I.lr
  have nFw : ¬ Fb = w := by omega
  have nFf : ¬ Fb = FR := by omega
  have nbw : ¬ b = w := by omega
  have nbf : ¬ b = FR := by omega
  refine Does.of c_run_walker_step ?_
  unfold b_run_walker_step
  simp
  refine OpsR.call (by simpa using top_does ok k) ?_
  rintro _ h1 ⟨rfl, g1⟩
  have k1 := k.grow ok g1 ⟨id, id, id⟩
  obtain ⟨s1, hw⟩ := k1.wk
  obtain ⟨s2, hf⟩ := k1.fr
  obtain ⟨s3, hg⟩ := k1.rg
  have hf' : h1.tr.get FR = some (.blk [.int .i64 0, .int .i64 0, .int .i64 j, .slice (some ⟨RG, 0, none⟩) regs.length regs.length, .int .i64 (-1)] false 5 s2) := hf
  have hw' : h1.tr.get w = some (.blk [.slice none 0 0, .slice (some ⟨Fb, 0, none⟩) 1 fcc, .slice ah.a ah.l ah.c, .slice none 0 0, .slice none 0 0, .int .i64 0, .int .i64 0, .slice none 0 0, .int .i64 steps, .slice (some ⟨FR, 0, none⟩) 1 fc, .slice cnt.a cnt.l cnt.c] false 0 s1) := hw
  have hF1 := g1.get ok hF' (fun h => h)
  have hb1 := g1.get ok hb' (fun h => h)
  have ws : IntKind.i64.wrap (steps + 1) = steps + 1 := wrap_i64 _ (by omega) (by omega)
  have nfw : ¬ FR = w := Ne.symm k.n1
  have ow := g1.ok.old hw
  have of := g1.ok.old hf
  have og := g1.ok.old hg
  simp [hw', hf', hF1, hb1, ws, ow, of, nfw]
  refine Runs.cut (fun h2 => Grows Nob h0 h2 ∧ Grows (· = w) h1 h2 ∧ Wk h2 w FR RG ⟨some ⟨Fb, 0, none⟩, 1, fcc⟩ ah cnt fc 0 0 (steps + 1) j regs ∧ ∃ s, h2.tr.get h1.next = some (.blk [.slice f0.phis.a f0.phis.l f0.phis.c, .slice f0.list.a xs.length f0.list.c, .int .i64 1, .bool r1, .int .i64 n1, .slice f0.to.a f0.to.l f0.to.c] false 0 s)) ?_ ?_
  · have nw : ¬ h1.next = w := by have := ow.lt; omega
    have gA : Grows (· = w) h1 (tick (put (put (newBlk (tick h1) [Value.slice none 0 0, Value.slice none 0 0, Value.int IntKind.i64 0, Value.bool false, Value.int IntKind.i64 0, Value.slice none 0 0] 0) h1.next 0 [Value.slice none 0 0, Value.slice none 0 0, Value.int IntKind.i64 0, Value.bool false, Value.int IntKind.i64 0, Value.slice none 0 0] [.slice f0.phis.a f0.phis.l f0.phis.c, .slice f0.list.a xs.length f0.list.c, .int .i64 1, .bool r1, .int .i64 n1, .slice f0.to.a f0.to.l f0.to.c] 0) w 8 [.slice none 0 0, .slice (some ⟨Fb, 0, none⟩) 1 fcc, .slice ah.a ah.l ah.c, .slice none 0 0, .slice none 0 0, .int .i64 0, .int .i64 0, .slice none 0 0, .int .i64 steps, .slice (some ⟨FR, 0, none⟩) 1 fc, .slice cnt.a cnt.l cnt.c] [.int .i64 (steps + 1)] 0)) :=
by
      refine Grows.tick (Grows.put ((Grows.refl g1.ok).tick.var _ _) ⟨s1, ?_⟩ (.inr rfl))
      simp [ow, hw']
    refine ⟨(I.g.trans g1).trans' gA (fun _ _ h => h) (by rintro x hx rfl; omega), gA, ⟨⟨h1.clock + 1 + 1, by simp [wkCells]⟩, ⟨s2, by simpa [nfw, of, frCells] using hf'⟩, ⟨s3, by simpa [Ne.symm k.n2, og] using hg⟩, k.n1, k.n2, k.n3⟩, h1.clock + 1, by simp [nw]⟩
  rintro h2 ⟨g2, gw2, k2, sV, hV2⟩
  have hnx : ¬ h1.next = FR := by have := of.lt; omega
  have ok2 := g2.ok
  by_cases hjl : j < xs.length
  · have hx : xs[j]? = some xs[j] := List.getElem?_eq_getElem hjl
    rw [hx]
    generalize xs[j] = x at hx
    have q := f0.ord j x hx
    have hdst : x.dst = (j : Int) := q.dst
    have bj : ((j : Int) == (xs.length : Int)) = false := beq_no (by omega)
    obtain ⟨s4, hw4⟩ := k2.wk
    obtain ⟨s5, hf5⟩ := k2.fr
    obtain ⟨s6, hg6⟩ := k2.rg
    have hf5' : h2.tr.get FR = some (.blk [.int .i64 0, .int .i64 0, .int .i64 j, .slice (some ⟨RG, 0, none⟩) regs.length regs.length, .int .i64 (-1)] false 5 s5) := hf5
    have wj : IntKind.i64.wrap ((j : Int) + 1) = ((j : Int) + 1) := wrap_i64 _ (by omega) (by omega)
    have wj' : IntKind.i64.wrap ((j : Int) + 1 - 1) = (j : Int) := by rw [wrap_i64 _ (by omega) (by omega)]; omega
    have wj'' : IntKind.i64.wrap (j : Int) = (j : Int) := wrap_i64 _ (by omega) (by omega)
    have hs2 : SliceOf encOwn h2 (.slice f0.list.a xs.length f0.list.c) xs := by have := f0.sl.nob I.ok0 g2; rw [SV.v_def, f0.llen] at this; exact this
    obtain ⟨b', off, cap', hv', _, ⟨csb, rob, obb, sbb, hbb⟩, hrd⟩ := hs2.read hx
    injection hv' with hv1 hv2 hv3
    have hr0 := hrd 0 8 (by simp)
    simp only [encOwn_sz, Nat.add_zero] at hr0
    have nB : ¬ b' = FR := by
      obtain ⟨a, cap, e, h2⟩ := f0.sl
      simp at e
      rcases h2 with ⟨rfl, _⟩ | ⟨b2, off2, cs2, ro2, o2, st2, e5, hb2, _⟩
      · simp at hjl
      · have e6 : f0.list.a = some ⟨b2, off2, none⟩ := by rw [e.1, e5]
        rw [e6] at hv1
        cases hv1
        have := I.ok0.wf _ _ hb2
        omega
    simp [bj, readAt_get hf5', readAt_get hV2, hf5', hV2, readAt_put_same, wj, wj', wj'', hnx, hjl, hv1, hr0, hdst, readAt_put, nB, readAt_tick, -readAt_def]
    refine DrawR.cut (fun h3 => Grows Nob h0 h3 ∧ Wk h3 w FR RG ⟨some ⟨Fb, 0, none⟩, 1, fcc⟩ ah cnt fc 0 0 (steps + 1) (j + 1 : Nat) regs) ?_ ?_
    · have gF : Grows (· = FR) h2 (tick (put h2 FR 2 [.int .i64 0, .int .i64 0, .int .i64 j, .slice (some ⟨RG, 0, none⟩) regs.length regs.length, .int .i64 (-1)] [.int .i64 ((j : Int) + 1)] 5)) := (Grows.put (S := (· = FR)) (Grows.refl ok2) ⟨s5, hf5'⟩ (.inr rfl)).tick
      exact ⟨g2.trans' gF (fun _ _ h => h) (by rintro x hx rfl; omega), ⟨s4, by have e : ¬ w = FR := Ne.symm nfw; simp [e]; exact hw4⟩, ⟨h2.clock, by simp [frCells]⟩, ⟨s6, by simpa [Ne.symm k.n3] using hg6⟩, k.n1, k.n2, k.n3⟩
    rintro h3 ⟨g3, k3⟩
    have hb1 : x.ar = true → ∃ i : Nat, x.an = i ∧ i < regs.length := fun e => by obtain ⟨i, h1, h2⟩ := q.a e; exact ⟨i, h1, by omega⟩
    have hb2 : x.br = true → ∃ i : Nat, x.bn = i ∧ i < regs.length := fun e => by obtain ⟨i, h1, h2⟩ := q.b e; exact ⟨i, h1, by omega⟩
    refine DrawR.call (by simpa [insCells] using ins_pre g3.ok k3 (op := x.op) (an := x.an) (bn := x.bn) (ar := x.ar) (br := x.br) (d := j) q.op.le (by omega) hb1 hb2) ?_
    rintro v4 h4 hv4
    split at hv4
    · rename_i ht
      obtain ⟨rfl, g4, k4⟩ := hv4
      simp [ht]
      exact ⟨g3.trans' g4 (fun _ _ h => h) (by rintro x hx rfl; omega), k4⟩
    · rename_i ht
      obtain ⟨rfl, g4, k4⟩ := hv4
      simp [ht]
      exact ⟨g3.trans' g4 (fun _ _ h => h) (by rintro x hx rfl; omega), k4⟩
  · have : j = xs.length := by omega
    subst this
    rw [List.getElem?_eq_none (Nat.le_refl _)]
    simp [hV2]
    refine OpsR.call (by simpa using end_done ok2 k2 (to := f0.to) (fun e => by obtain ⟨i, h1, h2⟩ := f0.on e; exact ⟨i, h1, by have := f0.cnt; omega⟩)) ?_
    rintro _ h3 ⟨rfl, g3, hw3⟩
    simp
    exact ⟨g2.trans' g3 (fun _ _ h => h) (by rintro x hx rfl; omega), hw3⟩
end
end Go.Proofs.YtehbhfobjechpaaGreatDoor
