/- Contracts: core.Fault, core.Within, core.Shapes, live.QuietIn. -/
import Derived.Test.YtigniafapkbbbaaGreatDoorCode
import Derived.Test.YtigniafapkbbbaaGreatDoorAiWalk2
namespace Go.Proofs.YtigniafapkbbbaaGreatDoor
open Go.AI

theorem within_does (h : Heap) (a b c : Int) : Does FF n_core_Within [.int .i64 a, .int .i64 b, .int .i64 c] h (fun v h' => v = .bool (decide (b ≤ a) && decide (a ≤ c)) ∧ h' = h) := by
  refine Does.of c_core_Within ?_
  unfold b_core_Within
  by_cases h1 : b ≤ a <;> by_cases h2 : a ≤ c <;> simp [h1, h2]

theorem fault_does (h : Heap) (ok : HOk h) (a b : Int) : Does FF n_core_Fault [.int .i64 a, .int .i64 b] h (fun v h' => v = .agg #[.int .i64 a, .int .i64 b] ∧ Grows Nob h h') := by
  refine Does.of c_core_Fault ?_
  unfold b_core_Fault
  simp
  repeat (first | exact .refl ok | apply Grows.new | refine Grows.put ?_ (by simp) (by simp))

/-- what an instruction of a kind has: Dst, A, B -/
def shapeM (op : Int) : Bool × Bool × Bool :=
  if op = 1 ∨ op = 16 ∨ op = 17 ∨ op = 18 then (true, true, false) else
  if 2 ≤ op ∧ op ≤ 15 then (true, true, true) else
  if op = 19 then (false, true, true) else
  if op = 20 ∨ op = 21 then (true, false, false) else
  if op = 22 then (false, true, false) else (false, false, false)

theorem beq_no {a b : Int} (h : ¬ a = b) : (a == b) = false := by simpa using h

theorem shapes_does (h : Heap) (ok : HOk h) (op : Int) : Does FF n_core_Shapes [.int .i64 op] h (fun v h' => v = .agg #[.bool (shapeM op).1, .bool (shapeM op).2.1, .bool (shapeM op).2.2] ∧ Grows Nob h h') := by
  refine Does.of c_core_Shapes ?_
  unfold b_core_Shapes
  by_cases k1 : op = 1
  · subst k1; simp [shapeM]; repeat (first | exact .refl ok | apply Grows.new | refine Grows.put ?_ (by simp) (by simp))
  by_cases k2 : op = 16
  · subst k2; simp [shapeM]; repeat (first | exact .refl ok | apply Grows.new | refine Grows.put ?_ (by simp) (by simp))
  by_cases k3 : op = 17
  · subst k3; simp [shapeM]; repeat (first | exact .refl ok | apply Grows.new | refine Grows.put ?_ (by simp) (by simp))
  by_cases k4 : op = 18
  · subst k4; simp [shapeM]; repeat (first | exact .refl ok | apply Grows.new | refine Grows.put ?_ (by simp) (by simp))
  by_cases k6 : op = 19
  · subst k6; simp [shapeM]; repeat (first | exact .refl ok | apply Grows.new | refine Grows.put ?_ (by simp) (by simp))
  by_cases k7 : op = 20
  · subst k7; simp [shapeM]; repeat (first | exact .refl ok | apply Grows.new | refine Grows.put ?_ (by simp) (by simp))
  by_cases k8 : op = 21
  · subst k8; simp [shapeM]; repeat (first | exact .refl ok | apply Grows.new | refine Grows.put ?_ (by simp) (by simp))
  by_cases k9 : op = 22
  · subst k9; simp [shapeM]; repeat (first | exact .refl ok | apply Grows.new | refine Grows.put ?_ (by simp) (by simp))
  have b1 := beq_no k1
  have b2 := beq_no k2
  have b3 := beq_no k3
  have b4 := beq_no k4
  have b6 := beq_no k6
  have b7 := beq_no k7
  have b8 := beq_no k8
  have b9 := beq_no k9
  by_cases l1 : 2 ≤ op
  · by_cases l2 : op ≤ 15
    · have : shapeM op = (true, true, true) := by unfold shapeM; rw [if_neg (by omega), if_pos ⟨l1, l2⟩]
      simp [b1, b2, b3, b4, k1, k2, k3, k4, l1, l2, this]
      repeat (first | exact .refl ok | apply Grows.new | refine Grows.put ?_ (by simp) (by simp))
    · have l2' : 15 < op := by omega
      have : shapeM op = (false, false, false) := by unfold shapeM; rw [if_neg (by omega), if_neg (by omega), if_neg k6, if_neg (by omega), if_neg k9]
      simp [b1, b2, b3, b4, b6, b7, b8, b9, k1, k2, k3, k4, k6, k7, k8, k9, l1, l2, l2', this]
      repeat (first | exact .refl ok | apply Grows.new | refine Grows.put ?_ (by simp) (by simp))
  · have l1' : op < 2 := by omega
    have : shapeM op = (false, false, false) := by unfold shapeM; rw [if_neg (by omega), if_neg (by omega), if_neg k6, if_neg (by omega), if_neg k9]
    simp [b1, b2, b3, b4, b6, b7, b8, b9, k1, k2, k3, k4, k6, k7, k8, k9, l1, l1', this]
    repeat (first | exact .refl ok | apply Grows.new | refine Grows.put ?_ (by simp) (by simp))

/-- the cells of an instruction -/
def insCells (op dst : Int) (ar : Bool) (an : Int) (br : Bool) (bn : Int) (fn : Int) (args : Value) : List Value := [.int .i64 op, .int .i64 dst, .bool ar, .int .i64 an, .bool br, .int .i64 bn, .int .i64 fn, args]

/-- may an instruction go or come without being seen? -/
def quietM (words op : Int) (ar : Bool) (an : Int) (br : Bool) (bn : Int) : Bool :=
  if op = 5 ∨ op = 6 then !br && decide (bn ≠ 0) else if op = 18 then !ar && (decide (0 ≤ an) && decide (an ≤ words - 1)) else decide (1 ≤ op) && decide (op ≤ 17)

theorem quiet_does (h : Heap) (ok : HOk h) (words op dst an bn fn : Int) (ar br : Bool) (aa : Option Addr) (al ac : Nat) (hw : 0 ≤ words ∧ words < 1000000000) :
    Does FF n_live_QuietIn [.int .i64 words, .agg ⟨insCells op dst ar an br bn fn (.slice aa al ac)⟩] h (fun v h' => v = .bool (quietM words op ar an br bn) ∧ Grows Nob h h') := by
  refine Does.of c_live_QuietIn ?_
  unfold b_live_QuietIn
  have hw1 := wrap_i64 (words - 1) (by omega) (by omega)
  by_cases k5 : op = 5
  · subst k5
    cases br with
    | true => simp [insCells, quietM]; exact grow_newBlk ok _ _
    | false =>
      by_cases hb : bn = 0
      · subst hb; simp [insCells, quietM]; exact grow_newBlk ok _ _
      · simp [insCells, quietM, hb]; exact grow_newBlk ok _ _
  by_cases k6 : op = 6
  · subst k6
    cases br with
    | true => simp [insCells, quietM]; exact grow_newBlk ok _ _
    | false =>
      by_cases hb : bn = 0
      · subst hb; simp [insCells, quietM]; exact grow_newBlk ok _ _
      · simp [insCells, quietM, hb]; exact grow_newBlk ok _ _
  have b5 := beq_no k5
  have b6 := beq_no k6
  by_cases k18 : op = 18
  · subst k18
    cases ar with
    | true => simp [insCells, quietM]; exact grow_newBlk ok _ _
    | false =>
      simp [insCells, quietM, hw1]
      refine OpsR.call (by simpa using within_does _ an 0 (words - 1)) ?_
      rintro _ h' ⟨rfl, rfl⟩
      simp
      exact grow_newBlk ok _ _
  · have b18 := beq_no k18
    simp [insCells, b5, b6, b18, k5, k6, k18]
    refine OpsR.call (by simpa using within_does _ op 1 17) ?_
    rintro _ h' ⟨rfl, rfl⟩
    simp [quietM, k5, k6, k18]
    exact grow_newBlk ok _ _
/-- what an instruction that reckons has: two values, or one and none else -/
def opOk (op : Int) (br : Bool) (bn : Int) : Prop := (2 ≤ op ∧ op ≤ 15) ∨ ((op = 1 ∨ op = 16 ∨ op = 17) ∧ br = false ∧ bn = 0)
theorem shape_two {op : Int} (h : 2 ≤ op ∧ op ≤ 15) : shapeM op = (true, true, true) := by unfold shapeM; rw [if_neg (by omega), if_pos h]
theorem shape_one {op : Int} (h : op = 1 ∨ op = 16 ∨ op = 17) : shapeM op = (true, true, false) := by unfold shapeM; rw [if_pos (by omega)]
theorem opOk.le {op : Int} {br : Bool} {bn : Int} (h : opOk op br bn) : 1 ≤ op ∧ op ≤ 17 := by
  rcases h with h | ⟨h, _⟩ <;> omega
end Go.Proofs.YtigniafapkbbbaaGreatDoor

/- Contracts: code.checker's val, dst, the closures of ins. -/
namespace Go.Proofs.YtigniafapkbbbaaGreatDoor
open Go.AI

/-- A slice's value. -/
structure SV where
  a : Option Addr
  l : Nat
  c : Nat
def SV.v (s : SV) : Value := .slice s.a s.l s.c
@[simp] theorem SV.v_def (s : SV) : s.v = .slice s.a s.l s.c := rfl

/-- the cells of a checker: its unit, its function, the blocks ahead -/
def ckCells (gs fs : SV) (name : ByteArray) (params regs : Int) (blocks ah : SV) : List Value := [gs.v, fs.v, .string name, .int .i64 params, .int .i64 regs, blocks.v, ah.v]

/-- may a value stand? -/
def valM (regs : Int) (r : Bool) (n : Int) : Int := if r = true ∧ ¬ (0 ≤ n ∧ n ≤ regs - 1) then 3 else 0
def dstM (regs n : Int) : Int := if ¬ (0 ≤ n ∧ n ≤ regs - 1) then 3 else 0

section
variable {gs fs blocks ah : SV} {name : ByteArray} {params regs : Int}

theorem val_does (h : Heap) (ok : HOk h) (hr : 0 ≤ regs ∧ regs < 1000000) (r : Bool) (n : Int) :
    Does FF n_code_checker_val [.agg ⟨ckCells gs fs name params regs blocks ah⟩, .agg ⟨[.bool r, .int .i64 n]⟩] h (fun v h' => v = .int .i64 (valM regs r n) ∧ Grows Nob h h') := by
  refine Does.of c_code_checker_val ?_
  unfold b_code_checker_val
  have hw := wrap_i64 (regs - 1) (by omega) (by omega)
  have g1 := (grow_newBlk ok (ckCells gs fs name params regs blocks ah) 0)
  have g2 := g1.new [.bool r, .int .i64 n] 0
  cases r with
  | false => simp [ckCells, valM]; simpa [ckCells] using g2
  | true =>
    simp [ckCells, hw]
    refine OpsR.call (by simpa using within_does _ n 0 (regs - 1)) ?_
    rintro _ h' ⟨rfl, he⟩
    subst he
    by_cases h1 : 0 ≤ n
    · by_cases h2 : n ≤ regs - 1
      · simp [h1, h2, valM]; simpa [ckCells] using g2
      · have h2' : regs - 1 < n := by omega
        simp [h1, h2, h2', valM]; simpa [ckCells] using g2
    · have h1' : n < 0 := by omega
      simp [h1, h1', valM]; simpa [ckCells] using g2

theorem dst_does (h : Heap) (ok : HOk h) (hr : 0 ≤ regs ∧ regs < 1000000) (n : Int) :
    Does FF n_code_checker_dst [.agg ⟨ckCells gs fs name params regs blocks ah⟩, .int .i64 n] h (fun v h' => v = .int .i64 (dstM regs n) ∧ Grows Nob h h') := by
  refine Does.of c_code_checker_dst ?_
  unfold b_code_checker_dst
  have hw := wrap_i64 (regs - 1) (by omega) (by omega)
  have g1 := (grow_newBlk ok (ckCells gs fs name params regs blocks ah) 0)
  simp [ckCells, hw]
  refine OpsR.call (by simpa using within_does _ n 0 (regs - 1)) ?_
  rintro _ h' ⟨rfl, he⟩
  subst he
  by_cases h1 : 0 ≤ n
  · by_cases h2 : n ≤ regs - 1
    · simp [h1, h2, dstM]; simpa [ckCells] using g1
    · have h2' : regs - 1 < n := by omega
      simp [h1, h2, h2', dstM]; simpa [ckCells] using g1
  · have h1' : n < 0 := by omega
    simp [h1, h1', dstM]; simpa [ckCells] using g1

/-- the look at A -/
theorem ins1_does {h : Heap} (ok : HOk h) (hr : 0 ≤ regs ∧ regs < 1000000) {C X : Nat} {op dst an bn fn : Int} {ar br : Bool} {args : SV} {s1 s2 : Nat} (hC : h.tr.get C = some (.blk (ckCells gs fs name params regs blocks ah) false 0 s1))
    (hX : h.tr.get X = some (.blk (insCells op dst ar an br bn fn args.v) false 0 s2)) :
    Does FF n_code_checker_ins_1 [.pointer (some ⟨C, 0, none⟩), .pointer (some ⟨X, 0, none⟩)] h (fun v h' => v = .int .i64 (valM regs ar an) ∧ Grows Nob h h') := by
  refine Does.of c_code_checker_ins_1 ?_
  unfold b_code_checker_ins_1
  simp [hC, hX, ckCells, insCells]
  refine OpsR.call (by simpa [ckCells] using val_does (gs := gs) (fs := fs) (name := name) (params := params) (blocks := blocks) (ah := ah) h ok hr ar an) ?_
  rintro _ h' ⟨rfl, g⟩
  simp
  exact g

/-- the look at B -/
theorem ins2_does {h : Heap} (ok : HOk h) (hr : 0 ≤ regs ∧ regs < 1000000) {C X : Nat} {op dst an bn fn : Int} {ar br : Bool} {args : SV} {s1 s2 : Nat} (hC : h.tr.get C = some (.blk (ckCells gs fs name params regs blocks ah) false 0 s1))
    (hX : h.tr.get X = some (.blk (insCells op dst ar an br bn fn args.v) false 0 s2)) :
    Does FF n_code_checker_ins_2 [.pointer (some ⟨C, 0, none⟩), .pointer (some ⟨X, 0, none⟩)] h (fun v h' => v = .int .i64 (valM regs br bn) ∧ Grows Nob h h') := by
  refine Does.of c_code_checker_ins_2 ?_
  unfold b_code_checker_ins_2
  simp [hC, hX, ckCells, insCells]
  refine OpsR.call (by simpa [ckCells] using val_does (gs := gs) (fs := fs) (name := name) (params := params) (blocks := blocks) (ah := ah) h ok hr br bn) ?_
  rintro _ h' ⟨rfl, g⟩
  simp
  exact g

/-- the look at a call, of what is none -/
theorem ins3_does {h : Heap} (ok : HOk h) {K : Nat} {a b : Value} {s1 : Nat} (hK : h.tr.get K = some (.blk [.bool false] false 0 s1)) :
    Does FF n_code_checker_ins_3 [.pointer (some ⟨K, 0, none⟩), a, b] h (fun v h' => v = .int .i64 0 ∧ Grows Nob h h') := by
  refine Does.of c_code_checker_ins_3 ?_
  unfold b_code_checker_ins_3
  simp [hK]
  exact .refl ok

theorem first_does {h : Heap} (ok : HOk h) {b s : Nat} {f1 f2 f3 : Value} {e1 e2 e3 : Int} (hb : h.tr.get b = some (.blk [f1, f2, f3] false 0 s))
    (H1 : ∀ h1, Grows Nob h h1 → DoesV FF f1 [] h1 (fun v h' => v = .int .i64 e1 ∧ Grows Nob h1 h')) (H2 : ∀ h1, Grows Nob h h1 → DoesV FF f2 [] h1 (fun v h' => v = .int .i64 e2 ∧ Grows Nob h1 h'))
    (H3 : ∀ h1, Grows Nob h h1 → DoesV FF f3 [] h1 (fun v h' => v = .int .i64 e3 ∧ Grows Nob h1 h')) :
    Does FF n_code_first [.slice (some ⟨b, 0, none⟩) 3 3] h (fun v h' => v = .int .i64 (if e1 ≠ 0 then e1 else if e2 ≠ 0 then e2 else e3) ∧ Grows Nob h h') := by
  refine Does.of c_code_first ?_
  unfold b_code_first
  simp
  have w1 : IntKind.i64.wrap (0 + 1) = 1 := wrap_i64 _ (by omega) (by omega)
  have w1' : IntKind.i64.wrap 1 = 1 := wrap_i64 _ (by omega) (by omega)
  have w2 : IntKind.i64.wrap (1 + 1) = 2 := wrap_i64 _ (by omega) (by omega)
  have w2' : IntKind.i64.wrap 2 = 2 := wrap_i64 _ (by omega) (by omega)
  have w3 : IntKind.i64.wrap (2 + 1) = 3 := wrap_i64 _ (by omega) (by omega)
  have w3' : IntKind.i64.wrap 3 = 3 := wrap_i64 _ (by omega) (by omega)
  refine Runs.loop (fun n e h1 => ∃ i : Nat, n = 3 - i ∧ i ≤ 3 ∧ Env.get e 8 = .int .i64 (i : Nat) ∧ Env.get e 7 = .int .i64 3 ∧ Env.get e 6 = .slice (some ⟨b, 0, none⟩) 3 3 ∧ (0 < i → e1 = 0) ∧ (1 < i → e2 = 0) ∧ (2 < i → e3 = 0) ∧ Grows Nob h h1) ?_ (n := 3)
    ⟨0, rfl, by omega, by simp, by simp, by simp, by simp, by simp, by simp, .refl ok⟩
  rintro n e h1 ⟨i, rfl, hi, f8, f7, f6, p1, p2, p3, g⟩
  have hb1 := g.get ok hb (fun h => h)
  unfold r_code_first_0
  rcases (show i = 0 ∨ i = 1 ∨ i = 2 ∨ i = 3 by omega) with rfl | rfl | rfl | rfl
  · simp [f8, f7, f6, hb1]
    refine OpsR.callV (V := fun v h' => v = .int .i64 e1 ∧ Grows Nob h1 h') (by simpa using H1 h1 g) ?_
    rintro _ h2 ⟨rfl, g2⟩
    by_cases he : e1 = 0
    · subst he
      simp [f8, f7, f6, w1, w1']
      exact ⟨2, by omega, 1, rfl, by omega, rfl, by omega, by omega, g.trans g2⟩
    · simp [he]
      exact g.trans g2
  · have q1 := p1 (by omega)
    subst q1
    simp [f8, f7, f6, hb1]
    refine OpsR.callV (V := fun v h' => v = .int .i64 e2 ∧ Grows Nob h1 h') (by simpa using H2 h1 g) ?_
    rintro _ h2 ⟨rfl, g2⟩
    by_cases he : e2 = 0
    · subst he
      simp [f8, f7, f6, w2, w2']
      exact ⟨1, by omega, 2, rfl, by omega, rfl, by omega, g.trans g2⟩
    · simp [he]
      exact g.trans g2
  · have q1 := p1 (by omega)
    have q2 := p2 (by omega)
    subst q1; subst q2
    simp [f8, f7, f6, hb1]
    refine OpsR.callV (V := fun v h' => v = .int .i64 e3 ∧ Grows Nob h1 h') (by simpa using H3 h1 g) ?_
    rintro _ h2 ⟨rfl, g2⟩
    by_cases he : e3 = 0
    · subst he
      simp [f8, f7, f6, w3, w3']
      exact ⟨3, by omega, by omega, rfl, g.trans g2⟩
    · simp [he]
      exact g.trans g2
  · have q1 := p1 (by omega)
    have q2 := p2 (by omega)
    have q3 := p3 (by omega)
    subst q1; subst q2; subst q3
    simp [f8, f7]
    exact g
end
end Go.Proofs.YtigniafapkbbbaaGreatDoor

/- Contracts: code.checker's ins, of an instruction that reckons and is in order. -/
namespace Go.Proofs.YtigniafapkbbbaaGreatDoor
open Go.AI

section
variable {gs fs blocks ah : SV} {name : ByteArray} {params regs : Int}

theorem ins_good2 {h : Heap} (ok : HOk h) (hr : 0 ≤ regs ∧ regs < 1000000) {op dst an bn : Int} {ar br : Bool} {args : SV} (hop : 2 ≤ op ∧ op ≤ 15) (hd : dstM regs dst = 0) (ha : valM regs ar an = 0) (hb : valM regs br bn = 0) (hargs : args.l = 0) :
    Does FF n_code_checker_ins [.agg ⟨ckCells gs fs name params regs blocks ah⟩, .agg ⟨insCells op dst ar an br bn 0 args.v⟩] h (fun v h' => v = .int .i64 0 ∧ Grows Nob h h') := by
  have hsh := shape_two hop
  refine Does.of c_code_checker_ins ?_
  unfold b_code_checker_ins
  have g1 := grow_newBlk ok (ckCells gs fs name params regs blocks ah) 0
  have hC1 := get_newBlk h (ckCells gs fs name params regs blocks ah) 0
  have g2 := grow_newBlk g1.ok (insCells op dst ar an br bn 0 args.v) 0
  have hX2 := get_newBlk (newBlk h (ckCells gs fs name params regs blocks ah) 0) (insCells op dst ar an br bn 0 args.v) 0
  have hC2 := g2.get g1.ok hC1 (fun h => h)
  rw [next_newBlk] at hX2
  have hn2 : (newBlk (newBlk h (ckCells gs fs name params regs blocks ah) 0) (insCells op dst ar an br bn 0 args.v) 0).next = h.next + 2 := rfl
  have gg2 := g1.trans g2
  have e1 : newBlk h [gs.v, fs.v, .string name, .int .i64 params, .int .i64 regs, blocks.v, ah.v] 0 = newBlk h (ckCells gs fs name params regs blocks ah) 0 := rfl
  simp only [SV.v_def] at e1
  simp [ckCells, insCells]
  have e2 : newBlk (newBlk h [.slice gs.a gs.l gs.c, .slice fs.a fs.l fs.c, .string name, .int .i64 params, .int .i64 regs, .slice blocks.a blocks.l blocks.c, .slice ah.a ah.l ah.c] 0) [.int .i64 op, .int .i64 dst, .bool ar, .int .i64 an, .bool br, .int .i64 bn, .int .i64 0, .slice args.a args.l args.c] 0 = newBlk (newBlk h (ckCells gs fs name params regs blocks ah) 0) (insCells op dst ar an br bn 0 args.v) 0 := rfl
  rw [e2]
  generalize newBlk (newBlk h (ckCells gs fs name params regs blocks ah) 0) (insCells op dst ar an br bn 0 args.v) 0 = h2 at *
  refine OpsR.call (by simpa using within_does h2 op 1 22) ?_
  rintro _ h2' ⟨rfl, he⟩
  rw [he]
  have o1 : (1 : Int) ≤ op := by omega
  have o2 : op ≤ 22 := by omega
  simp [o1, o2, hX2, insCells]
  refine OpsR.call (by simpa using shapes_does h2 gg2.ok op) ?_
  rintro _ h3 ⟨rfl, g3⟩
  rw [hsh]
  have hC3 := g3.get gg2.ok hC2 (fun h => h)
  have hX3 := g3.get gg2.ok hX2 (fun h => h)
  have g4 := (grow_newBlk g3.ok [.bool false, .bool false, .bool false] 0).put (b := h3.next) (off := 0) (vs := [.bool true, .bool true, .bool true]) ⟨_, get_newBlk _ _ _⟩ (.inl (Nat.le_refl _))
  have hS4 : (put (newBlk h3 [.bool false, .bool false, .bool false] 0) h3.next 0 [.bool false, .bool false, .bool false] [.bool true, .bool true, .bool true] 0).tr.get h3.next = some (.blk [.bool true, .bool true, .bool true] false 0 h3.clock) := by simp
  have hC4 := g4.get g3.ok hC3 (fun h => h)
  have hX4 := g4.get g3.ok hX3 (fun h => h)
  have hnX : ¬ h.next + 1 = h3.next := by have := g3.ok.wf _ _ hX3; omega
  have hnC : ¬ h.next = h3.next := by have := g3.ok.wf _ _ hC3; omega
  have hX3' : h3.tr.get (h.next + 1) = some (.blk [.int .i64 op, .int .i64 dst, .bool ar, .int .i64 an, .bool br, .int .i64 bn, .int .i64 0, .slice args.a args.l args.c] false 0 0) := hX3
  have b20 : (op == 20) = false := beq_no (by omega)
  have hlt3 : h.next + 1 < h3.next := g3.ok.wf _ _ hX3
  have hnX1 : ¬ h.next + 1 = h3.next + 1 := by omega
  have hnC1 : ¬ h.next = h3.next + 1 := by omega
  have hC3' : h3.tr.get h.next = some (.blk [.slice gs.a gs.l gs.c, .slice fs.a fs.l fs.c, .string name, .int .i64 params, .int .i64 regs, .slice blocks.a blocks.l blocks.c, .slice ah.a ah.l ah.c] false 0 0) := hC3
  simp [hX3', hC3', hnX, hnC, hnX1, hnC1, b20, hargs]
  -- the memory from here on
  have g5 : Grows Nob h3 (put (newBlk (put (newBlk h3 [.bool false, .bool false, .bool false] 0) h3.next 0 [.bool false, .bool false, .bool false] [.bool true, .bool true, .bool true] 0) [.bool false] 0) (h3.next + 1) 0 [.bool false] [.bool false] 0) :=
    (g4.new [.bool false] 0).put ⟨0, by simp⟩ (.inl (by omega))
  have hX5 := g5.get g3.ok hX3 (fun h => h)
  have hC5 := g5.get g3.ok hC3 (fun h => h)
  have hK5 : (put (newBlk (put (newBlk h3 [.bool false, .bool false, .bool false] 0) h3.next 0 [.bool false, .bool false, .bool false] [.bool true, .bool true, .bool true] 0) [.bool false] 0) (h3.next + 1) 0 [.bool false] [.bool false] 0).tr.get (h3.next + 1) = some (.blk [.bool false] false 0 (h3.clock + 1)) := by simp
  have hS5 : (put (newBlk (put (newBlk h3 [.bool false, .bool false, .bool false] 0) h3.next 0 [.bool false, .bool false, .bool false] [.bool true, .bool true, .bool true] 0) [.bool false] 0) (h3.next + 1) 0 [.bool false] [.bool false] 0).tr.get h3.next = some (.blk [.bool true, .bool true, .bool true] false 0 h3.clock) := by simp
  generalize put (newBlk (put (newBlk h3 [.bool false, .bool false, .bool false] 0) h3.next 0 [.bool false, .bool false, .bool false] [.bool true, .bool true, .bool true] 0) [.bool false] 0) (h3.next + 1) 0 [.bool false] [.bool false] 0 = h5 at *
  have gg5 := (gg2.trans g3).trans g5
  refine OpsR.call (by simpa [ckCells] using dst_does (gs := gs) (fs := fs) (name := name) (params := params) (blocks := blocks) (ah := ah) h5 gg5.ok hr dst) ?_
  rintro _ h6 ⟨rfl, g6⟩
  rw [hd]
  have hX6 := g6.get gg5.ok hX5 (fun h => h)
  have hC6 := g6.get gg5.ok hC5 (fun h => h)
  have hK6 := g6.get gg5.ok hK5 (fun h => h)
  have gg6 := gg5.trans g6
  simp
  have g7 := grow_newBlk gg6.ok [.func (.func n_code_checker_ins_1) #[] #[.pointer (some ⟨h.next, 0, none⟩), .pointer (some ⟨h.next + 1, 0, none⟩)], .func (.func n_code_checker_ins_2) #[] #[.pointer (some ⟨h.next, 0, none⟩), .pointer (some ⟨h.next + 1, 0, none⟩)],
    .func (.func n_code_checker_ins_3) #[] #[.pointer (some ⟨h3.next + 1, 0, none⟩), .pointer (some ⟨h.next + 1, 0, none⟩), .pointer (some ⟨h.next, 0, none⟩)]] 0
  have hF7 := get_newBlk h6 [.func (.func n_code_checker_ins_1) #[] #[.pointer (some ⟨h.next, 0, none⟩), .pointer (some ⟨h.next + 1, 0, none⟩)], .func (.func n_code_checker_ins_2) #[] #[.pointer (some ⟨h.next, 0, none⟩), .pointer (some ⟨h.next + 1, 0, none⟩)],
    .func (.func n_code_checker_ins_3) #[] #[.pointer (some ⟨h3.next + 1, 0, none⟩), .pointer (some ⟨h.next + 1, 0, none⟩), .pointer (some ⟨h.next, 0, none⟩)]] 0
  have hX7 := g7.get gg6.ok hX6 (fun h => h)
  have hC7 := g7.get gg6.ok hC6 (fun h => h)
  have hK7 := g7.get gg6.ok hK6 (fun h => h)
  have gg7 := gg6.trans g7
  refine OpsR.call (V := fun v h' => v = .int .i64 0 ∧ Grows Nob h h') ?_ ?_
  · have := first_does (e1 := 0) (e2 := 0) (e3 := 0) g7.ok hF7 (fun h1 g => by
        refine DoesV.func ?_
        have := ins1_does g.ok hr (g.get g7.ok hC7 (fun h => h)) (g.get g7.ok hX7 (fun h => h))
        rw [ha] at this
        simpa using this) (fun h1 g => by
        refine DoesV.func ?_
        have := ins2_does g.ok hr (g.get g7.ok hC7 (fun h => h)) (g.get g7.ok hX7 (fun h => h))
        rw [hb] at this
        simpa using this) (fun h1 g => by
        refine DoesV.func ?_
        have := ins3_does g.ok (a := .pointer (some ⟨h.next + 1, 0, none⟩)) (b := .pointer (some ⟨h.next, 0, none⟩)) (g.get g7.ok hK7 (fun h => h))
        simpa using this)
    refine Does.mono (by simpa using this) ?_
    rintro v h' ⟨rfl, g⟩
    exact ⟨rfl, gg7.trans g⟩
  · rintro _ h8 ⟨rfl, g8⟩
    simp
    exact g8

theorem ins_good1 {h : Heap} (ok : HOk h) (hr : 0 ≤ regs ∧ regs < 1000000) {op dst an : Int} {ar : Bool} {args : SV} (hop : op = 1 ∨ op = 16 ∨ op = 17) (hd : dstM regs dst = 0) (ha : valM regs ar an = 0) (hb : valM regs false 0 = 0) (hargs : args.l = 0) :
    Does FF n_code_checker_ins [.agg ⟨ckCells gs fs name params regs blocks ah⟩, .agg ⟨insCells op dst ar an false 0 0 args.v⟩] h (fun v h' => v = .int .i64 0 ∧ Grows Nob h h') := by
  have hsh := shape_one hop
  refine Does.of c_code_checker_ins ?_
  unfold b_code_checker_ins
  have g1 := grow_newBlk ok (ckCells gs fs name params regs blocks ah) 0
  have hC1 := get_newBlk h (ckCells gs fs name params regs blocks ah) 0
  have g2 := grow_newBlk g1.ok (insCells op dst ar an false 0 0 args.v) 0
  have hX2 := get_newBlk (newBlk h (ckCells gs fs name params regs blocks ah) 0) (insCells op dst ar an false 0 0 args.v) 0
  have hC2 := g2.get g1.ok hC1 (fun h => h)
  rw [next_newBlk] at hX2
  have hn2 : (newBlk (newBlk h (ckCells gs fs name params regs blocks ah) 0) (insCells op dst ar an false 0 0 args.v) 0).next = h.next + 2 := rfl
  have gg2 := g1.trans g2
  have e1 : newBlk h [gs.v, fs.v, .string name, .int .i64 params, .int .i64 regs, blocks.v, ah.v] 0 = newBlk h (ckCells gs fs name params regs blocks ah) 0 := rfl
  simp only [SV.v_def] at e1
  simp [ckCells, insCells]
  have e2 : newBlk (newBlk h [.slice gs.a gs.l gs.c, .slice fs.a fs.l fs.c, .string name, .int .i64 params, .int .i64 regs, .slice blocks.a blocks.l blocks.c, .slice ah.a ah.l ah.c] 0) [.int .i64 op, .int .i64 dst, .bool ar, .int .i64 an, .bool false, .int .i64 0, .int .i64 0, .slice args.a args.l args.c] 0 = newBlk (newBlk h (ckCells gs fs name params regs blocks ah) 0) (insCells op dst ar an false 0 0 args.v) 0 := rfl
  rw [e2]
  generalize newBlk (newBlk h (ckCells gs fs name params regs blocks ah) 0) (insCells op dst ar an false 0 0 args.v) 0 = h2 at *
  refine OpsR.call (by simpa using within_does h2 op 1 22) ?_
  rintro _ h2' ⟨rfl, he⟩
  rw [he]
  have o1 : (1 : Int) ≤ op := by omega
  have o2 : op ≤ 22 := by omega
  simp [o1, o2, hX2, insCells]
  refine OpsR.call (by simpa using shapes_does h2 gg2.ok op) ?_
  rintro _ h3 ⟨rfl, g3⟩
  rw [hsh]
  have hC3 := g3.get gg2.ok hC2 (fun h => h)
  have hX3 := g3.get gg2.ok hX2 (fun h => h)
  have g4 := (grow_newBlk g3.ok [.bool false, .bool false, .bool false] 0).put (b := h3.next) (off := 0) (vs := [.bool true, .bool true, .bool false]) ⟨_, get_newBlk _ _ _⟩ (.inl (Nat.le_refl _))
  have hS4 : (put (newBlk h3 [.bool false, .bool false, .bool false] 0) h3.next 0 [.bool false, .bool false, .bool false] [.bool true, .bool true, .bool false] 0).tr.get h3.next = some (.blk [.bool true, .bool true, .bool false] false 0 h3.clock) := by simp
  have hC4 := g4.get g3.ok hC3 (fun h => h)
  have hX4 := g4.get g3.ok hX3 (fun h => h)
  have hnX : ¬ h.next + 1 = h3.next := by have := g3.ok.wf _ _ hX3; omega
  have hnC : ¬ h.next = h3.next := by have := g3.ok.wf _ _ hC3; omega
  have hX3' : h3.tr.get (h.next + 1) = some (.blk [.int .i64 op, .int .i64 dst, .bool ar, .int .i64 an, .bool false, .int .i64 0, .int .i64 0, .slice args.a args.l args.c] false 0 0) := hX3
  have b20 : (op == 20) = false := beq_no (by omega)
  have hlt3 : h.next + 1 < h3.next := g3.ok.wf _ _ hX3
  have hnX1 : ¬ h.next + 1 = h3.next + 1 := by omega
  have hnC1 : ¬ h.next = h3.next + 1 := by omega
  have hC3' : h3.tr.get h.next = some (.blk [.slice gs.a gs.l gs.c, .slice fs.a fs.l fs.c, .string name, .int .i64 params, .int .i64 regs, .slice blocks.a blocks.l blocks.c, .slice ah.a ah.l ah.c] false 0 0) := hC3
  simp [hX3', hC3', hnX, hnC, hnX1, hnC1, b20, hargs]
  -- the memory from here on
  have g5 : Grows Nob h3 (put (newBlk (put (newBlk h3 [.bool false, .bool false, .bool false] 0) h3.next 0 [.bool false, .bool false, .bool false] [.bool true, .bool true, .bool false] 0) [.bool false] 0) (h3.next + 1) 0 [.bool false] [.bool false] 0) :=
    (g4.new [.bool false] 0).put ⟨0, by simp⟩ (.inl (by omega))
  have hX5 := g5.get g3.ok hX3 (fun h => h)
  have hC5 := g5.get g3.ok hC3 (fun h => h)
  have hK5 : (put (newBlk (put (newBlk h3 [.bool false, .bool false, .bool false] 0) h3.next 0 [.bool false, .bool false, .bool false] [.bool true, .bool true, .bool false] 0) [.bool false] 0) (h3.next + 1) 0 [.bool false] [.bool false] 0).tr.get (h3.next + 1) = some (.blk [.bool false] false 0 (h3.clock + 1)) := by simp
  have hS5 : (put (newBlk (put (newBlk h3 [.bool false, .bool false, .bool false] 0) h3.next 0 [.bool false, .bool false, .bool false] [.bool true, .bool true, .bool false] 0) [.bool false] 0) (h3.next + 1) 0 [.bool false] [.bool false] 0).tr.get h3.next = some (.blk [.bool true, .bool true, .bool false] false 0 h3.clock) := by simp
  generalize put (newBlk (put (newBlk h3 [.bool false, .bool false, .bool false] 0) h3.next 0 [.bool false, .bool false, .bool false] [.bool true, .bool true, .bool false] 0) [.bool false] 0) (h3.next + 1) 0 [.bool false] [.bool false] 0 = h5 at *
  have gg5 := (gg2.trans g3).trans g5
  refine OpsR.call (by simpa [ckCells] using dst_does (gs := gs) (fs := fs) (name := name) (params := params) (blocks := blocks) (ah := ah) h5 gg5.ok hr dst) ?_
  rintro _ h6 ⟨rfl, g6⟩
  rw [hd]
  have hX6 := g6.get gg5.ok hX5 (fun h => h)
  have hC6 := g6.get gg5.ok hC5 (fun h => h)
  have hK6 := g6.get gg5.ok hK5 (fun h => h)
  have gg6 := gg5.trans g6
  simp
  have g7 := grow_newBlk gg6.ok [.func (.func n_code_checker_ins_1) #[] #[.pointer (some ⟨h.next, 0, none⟩), .pointer (some ⟨h.next + 1, 0, none⟩)], .func (.func n_code_checker_ins_2) #[] #[.pointer (some ⟨h.next, 0, none⟩), .pointer (some ⟨h.next + 1, 0, none⟩)],
    .func (.func n_code_checker_ins_3) #[] #[.pointer (some ⟨h3.next + 1, 0, none⟩), .pointer (some ⟨h.next + 1, 0, none⟩), .pointer (some ⟨h.next, 0, none⟩)]] 0
  have hF7 := get_newBlk h6 [.func (.func n_code_checker_ins_1) #[] #[.pointer (some ⟨h.next, 0, none⟩), .pointer (some ⟨h.next + 1, 0, none⟩)], .func (.func n_code_checker_ins_2) #[] #[.pointer (some ⟨h.next, 0, none⟩), .pointer (some ⟨h.next + 1, 0, none⟩)],
    .func (.func n_code_checker_ins_3) #[] #[.pointer (some ⟨h3.next + 1, 0, none⟩), .pointer (some ⟨h.next + 1, 0, none⟩), .pointer (some ⟨h.next, 0, none⟩)]] 0
  have hX7 := g7.get gg6.ok hX6 (fun h => h)
  have hC7 := g7.get gg6.ok hC6 (fun h => h)
  have hK7 := g7.get gg6.ok hK6 (fun h => h)
  have gg7 := gg6.trans g7
  refine OpsR.call (V := fun v h' => v = .int .i64 0 ∧ Grows Nob h h') ?_ ?_
  · have := first_does (e1 := 0) (e2 := 0) (e3 := 0) g7.ok hF7 (fun h1 g => by
        refine DoesV.func ?_
        have := ins1_does g.ok hr (g.get g7.ok hC7 (fun h => h)) (g.get g7.ok hX7 (fun h => h))
        rw [ha] at this
        simpa using this) (fun h1 g => by
        refine DoesV.func ?_
        have := ins2_does g.ok hr (g.get g7.ok hC7 (fun h => h)) (g.get g7.ok hX7 (fun h => h))
        rw [hb] at this
        simpa using this) (fun h1 g => by
        refine DoesV.func ?_
        have := ins3_does g.ok (a := .pointer (some ⟨h.next + 1, 0, none⟩)) (b := .pointer (some ⟨h.next, 0, none⟩)) (g.get g7.ok hK7 (fun h => h))
        simpa using this)
    refine Does.mono (by simpa using this) ?_
    rintro v h' ⟨rfl, g⟩
    exact ⟨rfl, gg7.trans g⟩
  · rintro _ h8 ⟨rfl, g8⟩
    simp
    exact g8

theorem ins_good {h : Heap} (ok : HOk h) (hr : 0 ≤ regs ∧ regs < 1000000) {op dst an bn : Int} {ar br : Bool} {args : SV} (hop : opOk op br bn) (hd : dstM regs dst = 0) (ha : valM regs ar an = 0) (hb : valM regs br bn = 0) (hargs : args.l = 0) :
    Does FF n_code_checker_ins [.agg ⟨ckCells gs fs name params regs blocks ah⟩, .agg ⟨insCells op dst ar an br bn 0 args.v⟩] h (fun v h' => v = .int .i64 0 ∧ Grows Nob h h') := by
  rcases hop with hop | ⟨hop, rfl, rfl⟩
  · exact ins_good2 ok hr hop hd ha hb hargs
  · exact ins_good1 ok hr hop hd ha hb hargs
end
end Go.Proofs.YtigniafapkbbbaaGreatDoor

/- Contracts: code.checker's end, of a block that returns; code.ahead of one block. -/
namespace Go.Proofs.YtigniafapkbbbaaGreatDoor
open Go.AI

def ways : List Value := [.int .i64 0, .int .i64 0, .int .i64 1, .int .i64 2]
/-- the program's variable stands -/
def Ways (h : Heap) : Prop := ∃ ro o s, h.tr.get 0 = some (.blk ways ro o s)
theorem Ways.grow {h h' : Heap} (w : Ways h) (ok : HOk h) (g : Grows Nob h h') : Ways h' := by
  obtain ⟨ro, o, s, hw⟩ := w
  exact ⟨ro, o, s, g.get ok hw (fun h => h)⟩

theorem indexNil_does {h : Heap} (ok : HOk h) (s : SV) (hs : s.l = 0) (f : Value) : Does FF n_slices_IndexFunc_int_int [s.v, f] h (fun v h' => v = .int .i64 (-1) ∧ Grows Nob h h') := by
  refine Does.of c_slices_IndexFunc_int_int ?_
  unfold b_slices_IndexFunc_int_int
  simp [hs]
  rw [runs_loop]
  unfold r_slices_IndexFunc_int_int_0
  simp
  exact .refl ok

theorem containsNil_does {h : Heap} (ok : HOk h) (s : SV) (hs : s.l = 0) (f : Value) : Does FF n_slices_ContainsFunc_int_int [s.v, f] h (fun v h' => v = .bool false ∧ Grows Nob h h') := by
  refine Does.of c_slices_ContainsFunc_int_int ?_
  unfold b_slices_ContainsFunc_int_int
  simp
  refine OpsR.call (by simpa using indexNil_does ok s hs f) ?_
  rintro _ h' ⟨rfl, g⟩
  simp
  exact g

section
variable {gs fs blocks ah : SV} {name : ByteArray} {params regs : Int}

theorem end_ret {h : Heap} (ok : HOk h) (hw : Ways h) (hr : 0 ≤ regs ∧ regs < 1000000) {r : Bool} {n : Int} {to : SV} (hv : valM regs r n = 0) (hto : to.l = 0) :
    Does FF n_code_checker_end [.agg ⟨ckCells gs fs name params regs blocks ah⟩, .agg ⟨[.int .i64 1, .bool r, .int .i64 n, to.v]⟩] h (fun v h' => v = .int .i64 0 ∧ Grows Nob h h') := by
  obtain ⟨ro, o, s, hw0⟩ := hw
  have h0 : 0 < h.next := ok.wf _ _ hw0
  refine Does.of c_code_checker_end ?_
  unfold b_code_checker_end
  have g1 := grow_newBlk ok (ckCells gs fs name params regs blocks ah) 0
  have hC1 := get_newBlk h (ckCells gs fs name params regs blocks ah) 0
  have g2 := grow_newBlk g1.ok [.int .i64 1, .bool r, .int .i64 n, to.v] 0
  have hX2 := get_newBlk (newBlk h (ckCells gs fs name params regs blocks ah) 0) [.int .i64 1, .bool r, .int .i64 n, to.v] 0
  have hC2 := g2.get g1.ok hC1 (fun h => h)
  have hW2 := (g1.trans g2).get ok hw0 (fun h => h)
  rw [next_newBlk] at hX2
  have gg2 := g1.trans g2
  simp [ckCells]
  have e2 : newBlk (newBlk h [.slice gs.a gs.l gs.c, .slice fs.a fs.l fs.c, .string name, .int .i64 params, .int .i64 regs, .slice blocks.a blocks.l blocks.c, .slice ah.a ah.l ah.c] 0) [.int .i64 1, .bool r, .int .i64 n, .slice to.a to.l to.c] 0 = newBlk (newBlk h (ckCells gs fs name params regs blocks ah) 0) [.int .i64 1, .bool r, .int .i64 n, to.v] 0 := rfl
  rw [e2]
  generalize newBlk (newBlk h (ckCells gs fs name params regs blocks ah) 0) [.int .i64 1, .bool r, .int .i64 n, to.v] 0 = h2 at *
  refine OpsR.call (by simpa using within_does h2 1 1 3) ?_
  rintro _ h2' ⟨rfl, he⟩
  rw [he]
  have hC2' : h2.tr.get h.next = some (.blk [.slice gs.a gs.l gs.c, .slice fs.a fs.l fs.c, .string name, .int .i64 params, .int .i64 regs, .slice blocks.a blocks.l blocks.c, .slice ah.a ah.l ah.c] false 0 0) := hC2
  have hX2' : h2.tr.get (h.next + 1) = some (.blk [.int .i64 1, .bool r, .int .i64 n, .slice to.a 0 to.c] false 0 0) := by rw [hX2]; simp [hto]
  have hW2' : h2.tr.get 0 = some (.blk [.int .i64 0, .int .i64 0, .int .i64 1, .int .i64 2] ro o s) := hW2
  simp [hX2', hC2', hW2']
  refine OpsR.call (by simpa [hto] using containsNil_does (grow_tick gg2.ok).ok to hto (.func (.func n_code_checker_end_1) #[] #[.pointer (some ⟨h.next, 0, none⟩)])) ?_
  rintro _ h3 ⟨rfl, g3⟩
  have gt := (grow_tick gg2.ok).trans g3
  have hX3 := gt.get gg2.ok hX2' (fun h => h)
  have hC3 := gt.get gg2.ok hC2' (fun h => h)
  simp [hX3, hC3]
  have gg3 := gg2.trans gt
  refine OpsR.call (by simpa [ckCells] using val_does (gs := gs) (fs := fs) (name := name) (params := params) (blocks := blocks) (ah := ah) (tick h3) (grow_tick gg3.ok).ok hr r n) ?_
  rintro _ h4 ⟨rfl, g4⟩
  rw [hv]
  simp
  exact (gg3.trans (grow_tick gg3.ok)).trans g4
end
end Go.Proofs.YtigniafapkbbbaaGreatDoor
