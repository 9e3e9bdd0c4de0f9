/- copy, clear; every operation that calls nothing. -/
import Derived.Test.YtigniafapkbbbaaGreatDoorAiOps6
import Derived.Test.YtigniafapkbbbaaGreatDoorAiOpsM
namespace Go.AI

section
variable {P : Program} {CC : CodeRel} {ρ : Rho} {h h' : Heap} {w : World} {T : Tab} {ng : Nat} {e : Env} {a : Act} {c v : Value}

theorem op_copy (hT : TabOk P T) {t t' ty el : TypeId} {i ei : TI} {x y : Operand} (hti : T t = some i) (hu : i.u = .slice el) (hel : T el = some ei)
    (S : Sim CC ρ h w) (hE : ER ρ e a.tmps) (hG : Globs ng ρ) (hx : opdOk ng x = true) (hy : opdOk ng y = true) (hv : opV e h (.copy ei.size x y) = some (v, h')) :
    Out CC ρ h w v h' (((do pure (Next.value (← Builtin.copy_ #[t, t'] ty #[a.eval x, a.eval y]))) : Sem Next).run P w) := by
  have hut := (hT t i hti).u
  rw [hu] at hut
  have hsz := (size_run (w := w) (hT _ _ hel)).1
  have hrx := hE.eval hG hx
  have hry := hE.eval hG hy
  simp only [opV] at hv
  split at hv
  · rename_i da dn dc sa sn sc h1 h2
    rw [h1] at hrx; rw [h2] at hry
    split at hv
    · rename_i h0
      have h0 := Nat.eq_of_beq_eq_true h0
      cases hv
      obtain ⟨y1, cc1, e1, _⟩ := hrx.slice_len
      obtain ⟨y2, cc2, e2, _⟩ := hry.slice_len
      rw [e1, e2]
      refine Out.same S (run_v ?_) (VR.int _ _)
      cases y1 <;> cases y2 <;> simp [Builtin.copy_, run_underlying hut, Builtin.lenOf, h0, hsz, Builtin.firstCells, loadCells, loadCellsFrom, storeCells, goInt]
    · rename_i h0
      split at hv
      · rename_i db doff sb soff
        split at hv
        · rename_i cs hr
          split at hv
          · rename_i h'' hw
            cases hv
            obtain ⟨r1, ca1, cc1, hr1, hc1, ok1⟩ := hrx.slice_inv
            obtain ⟨r2, ca2, cc2, hr2, hc2, ok2⟩ := hry.slice_inv
            obtain ⟨hl, ccs, hk, hcells⟩ := read_rel S hr2 hr
            obtain ⟨w', hrun, S', E'⟩ := write_rel (P := P) S hr1 hw hk
            have hn0 : Nat.min sn dn ≠ 0 := by
              intro h; rw [h] at h0; exact h0 rfl
            have hmin : Nat.min sn dn ≤ sn ∧ Nat.min sn dn ≤ dn := ⟨Nat.min_le_left _ _, Nat.min_le_right _ _⟩
            have l1 := ok1.2.2
            have l2 := ok2.2.2
            have c1 := ok1.cap_le
            have c2 := ok2.cap_le
            rw [hc1, hc2]
            have e1 := ok1.addr (by omega)
            have e2 := ok2.addr (by omega)
            have hf := run_firstCells_some (P := P) w ei.size (Nat.min sn dn) ca2 sn cc2 ccs (by rw [← hk.length, hl]) (by rw [e2]; exact hcells)
            refine ⟨ρ, w', .int .i64 (Nat.min sn dn), .inl (run_v ?_), VR.int _ _, S', E'⟩
            rw [← e1] at hrun
            have hf' : (Builtin.firstCells ei.size (min sn dn) (.slice (some ca2) sn cc2)).run P w = .ok ccs.toArray w := hf
            simp [Builtin.copy_, run_underlying hut, Builtin.lenOf, hsz, hf', hrun, goInt]
          · cases hv
        · cases hv
      · cases hv
  · cases hv

theorem op_clear (hT : TabOk P T) {t ty el : TypeId} {i ei : TI} {x : Operand} (hti : T t = some i) (hu : i.u = .slice el) (hel : T el = some ei)
    (S : Sim CC ρ h w) (hE : ER ρ e a.tmps) (hG : Globs ng ρ) (hx : opdOk ng x = true) (hv : opV e h (.clear ei.zero x) = some (v, h')) :
    Out CC ρ h w v h' (((do pure (Next.value (← Builtin.clear_ #[t] ty #[a.eval x]))) : Sem Next).run P w) := by
  have hut := (hT t i hti).u
  rw [hu] at hut
  have hei := hT _ _ hel
  have hrx := hE.eval hG hx
  simp only [opV] at hv
  split at hv
  · rename_i sa n sc h1
    rw [h1] at hrx
    split at hv
    · rename_i h0
      have h0 := Nat.eq_of_beq_eq_true h0
      subst h0
      cases hv
      obtain ⟨y1, cc1, e1, _⟩ := hrx.slice_len
      rw [e1]
      refine Out.same S (c := undef) (run_v ?_) VR.undef
      cases y1 <;> simp [Builtin.clear_, run_underlying hut, undef]
    · rename_i h0
      split at hv
      · rename_i b off
        split at hv
        · rename_i h'' hw
          cases hv
          obtain ⟨r1, ca1, cc1, hr1, hc1, ok1⟩ := hrx.slice_inv
          have hn0 : n ≠ 0 := by
            intro h; subst h; exact h0 rfl
          have l1 := ok1.2.2
          have c1 := ok1.cap_le
          have e1 := ok1.addr (by omega)
          obtain ⟨ti, k1, k2, k3, z, k4, k5⟩ := hei.info
          have hzz : (zeroValue el).run P w = .ok z w := by simp [zeroValue, typeInfo, k1, k4]
          have hk := constCells_rel (ρ := ρ) (constCells_repl hei.zero n)
          obtain ⟨w', hrun, S', E'⟩ := write_rel (P := P) S hr1 hw hk
          rw [hc1]
          refine ⟨ρ, w', undef, .inl (run_v ?_), VR.undef, S', E'⟩
          rw [← e1] at hrun
          have hzc : (Builtin.zeroCells z.cells n).toList = repl ei.zero n := by
            by_cases hz0 : 0 < ei.zero.length
            · rw [repl_made (.inl hz0)]
              have : z.cells = ⟨ei.zero⟩ := by apply Array.ext'; simpa using k5
              simp [Builtin.zeroCells, this]
            · have hzn : ei.zero = [] := List.eq_nil_of_length_eq_zero (by omega)
              have : z.cells = ⟨[]⟩ := by apply Array.ext'; rw [k5, hzn]
              rw [hzn]
              have hrn : repl [] n = [] := List.eq_nil_of_length_eq_zero (by rw [repl_length]; simp)
              rw [hrn]
              simp [Builtin.zeroCells, this]
          have hclr : (Builtin.clear_ #[t] ty #[.slice (some ca1) n cc1]).run P w = .ok undef w' := by
            unfold Builtin.clear_
            simp only [Sem.run_bind]
            simp [run_underlying hut, hzz, hzc, hrun, undef]
          exact hclr
        · cases hv
      · cases hv
  · cases hv

theorem op_mkmap {t : TypeId} (S : Sim CC ρ h w) : Out CC ρ h w (.map (some h.next)) (h.new (.map [])) (((do pure (Next.value (← Instr.makeMap t none))) : Sem Next).run P w) := by
  obtain ⟨S', E'⟩ := Sim.add (im := ⟨w.heap.size, 0, 0, 0, 0⟩) (o := .map []) (co := .map #[] 0) S rfl ⟨#[], 0, alloc_new w _, .nil⟩
  exact ⟨_, _, .map (some w.heap.size), .inl (run_v (by simp [Instr.makeMap])), (CR.map (updR_self _ _ _)).vr, S', E'⟩

theorem aggN_eq (i : TI) : aggN i = (bif i.agg then some i.size else none) := rfl

/-- Every operation that calls nothing. -/
theorem op_sound (hT : TabOk P T) (S : Sim CC ρ h w) (hE : ER ρ e a.tmps) (hG : Globs ng ρ) (o : Oper) (hok : o.op.operands.toList.all (opdOk ng) = true) (hv : opV e h (cmpOp T o.op) = some (v, h')) :
    Out CC ρ h w v h' ((execOp a.eval o).run P w) := by
  obtain ⟨dst, op, ty, pos, aft, gd⟩ := o
  dsimp only at hok hv
  cases op with
  | move x =>
    simp only [cmpOp, opV, Option.some.injEq, Prod.mk.injEq] at hv
    obtain ⟨rfl, rfl⟩ := hv
    exact Out.same S rfl (hE.eval hG (by simpa [Op.operands] using hok))
  | assign x =>
    simp only [cmpOp, opV, Option.some.injEq, Prod.mk.injEq] at hv
    obtain ⟨rfl, rfl⟩ := hv
    exact Out.same S rfl (hE.eval hG (by simpa [Op.operands] using hok))
  | pick x y z =>
    simp [Op.operands] at hok
    exact op_pick S hE hG hok.1 hok.2.1 hok.2.2 hv
  | alloc t =>
    simp only [cmpOp] at hv
    split at hv
    · rename_i i hi
      simp only [opV, Option.some.injEq, Prod.mk.injEq] at hv
      obtain ⟨rfl, rfl⟩ := hv
      exact op_alloc S (hT t i hi)
    · simp [opV] at hv
  | box t x =>
    simp [Op.operands] at hok
    simp only [cmpOp] at hv
    split at hv
    · simp only [opV] at hv
      split at hv
      · rename_i vs hf
        cases hv
        exact op_box S (hE.eval hG hok) hf
      · cases hv
    · simp [opV] at hv
  | build t ps =>
    have hok' : (ps.toList.map (·.2)).all (opdOk ng) = true := by simpa [Op.operands] using hok
    simp only [cmpOp] at hv
    split at hv
    · rename_i i hi
      split at hv
      · rename_i fs hu
        cases hall : fs.toList.all fun f => (T f.type).isSome with
        | false => simp [hall, opV] at hv
        | true =>
          simp only [hall, cond_true] at hv
          split at hv
          · rename_i qs hq
            exact op_build_struct hT hi hu hall hq S hE hG hok' hv
          · simp [opV] at hv
      · rename_i n el hu
        split at hv
        · rename_i ei hel
          exact op_build_array hT hi hu hel S hE hG hok' hv
        · simp [opV] at hv
      · simp [opV] at hv
    · simp [opV] at hv
  | buildSlice t n ps =>
    have hok' : (ps.toList.map (·.2)).all (opdOk ng) = true := by simpa [Op.operands] using hok
    simp only [cmpOp] at hv
    split at hv
    · rename_i i hi
      split at hv
      · rename_i el hu
        split at hv
        · rename_i ei hel
          cases hc : Nat.ble (n * ei.size) 1000000 && Nat.beq ei.zero.length ei.size with
          | false => simp [hc, opV] at hv
          | true =>
            simp only [hc, cond_true] at hv
            simp only [Bool.and_eq_true] at hc
            exact op_bslice hT hi hu hel (Nat.le_of_ble_eq_true hc.1) S hE hG hok' hv
        · simp [opV] at hv
      · simp [opV] at hv
    · simp [opV] at hv
  | load t x =>
    simp [Op.operands] at hok
    simp only [cmpOp] at hv
    split at hv
    · rename_i i hi
      exact op_loadA hT hi S hE hG hok hv
    · simp [opV] at hv
  | store t x y =>
    simp [Op.operands] at hok
    simp only [cmpOp] at hv
    split at hv
    · rename_i i hi
      exact op_storeA hT hi S hE hG hok.1 hok.2 hv
    · simp [opV] at hv
  | nilCheck x =>
    simp [Op.operands] at hok
    exact op_nilChk S hE hG hok hv
  | binOp bo t x y yt =>
    simp [Op.operands] at hok
    by_cases hbo : bo = .eql ∨ bo = .neq
    · have hcm : ∃ ks i, cmpOp T (.binOp bo t x y yt) = .bin bo ks x y ∧ T t = some i ∧ KindsAre T t i.u ks := by
        have hgen : cmpOp T (.binOp bo t x y yt) = (match T t with
            | some i => match i.u with
              | .slice _ => .bin bo [3] x y
              | .pointer _ => .bin bo [4] x y
              | .map _ _ => .bin bo [5] x y
              | .func _ _ _ => .bin bo [6] x y
              | .struct _ => match kinds T 9 t with | some ks => .bin bo (9 :: ks) x y | none => .bad
              | .array _ _ => match kinds T 9 t with | some ks => .bin bo (9 :: ks) x y | none => .bad
              | .bool => .bin bo [0] x y
              | .int _ => .bin bo [1] x y
              | .string => .bin bo [2] x y
              | _ => .bad
            | none => .bad) := by
          rcases hbo with rfl | rfl <;> rfl
        rw [hgen] at hv ⊢
        split at hv
        · rename_i i hi
          simp only [hi]
          split at hv
          · rename_i hu; exact ⟨[3], i, rfl, rfl, .inl ⟨_, hu, rfl⟩⟩
          · rename_i hu; exact ⟨[4], i, rfl, rfl, .inr (.inl ⟨_, hu, rfl⟩)⟩
          · rename_i hu; exact ⟨[5], i, rfl, rfl, .inr (.inr (.inl ⟨_, _, hu, rfl⟩))⟩
          · rename_i hu; exact ⟨[6], i, rfl, rfl, .inr (.inr (.inr (.inl ⟨_, _, _, hu, rfl⟩)))⟩
          · rename_i hu
            split at hv
            · rename_i ks hks
              exact ⟨9 :: ks, i, rfl, rfl, .inr (.inr (.inr (.inr (.inl ⟨(), _, by rw [hu]; rfl, hks, rfl⟩))))⟩
            · simp [opV] at hv
          · rename_i hu
            split at hv
            · rename_i ks hks
              exact ⟨9 :: ks, i, rfl, rfl, .inr (.inr (.inr (.inr (.inl ⟨(), _, by rw [hu]; rfl, hks, rfl⟩))))⟩
            · simp [opV] at hv
          · rename_i hu; exact ⟨[0], i, rfl, rfl, .inr (.inr (.inr (.inr (.inr (.inl ⟨hu, rfl⟩)))))⟩
          · rename_i hu; exact ⟨[1], i, rfl, rfl, .inr (.inr (.inr (.inr (.inr (.inr (.inl ⟨_, hu, rfl⟩))))))⟩
          · rename_i hu; exact ⟨[2], i, rfl, rfl, .inr (.inr (.inr (.inr (.inr (.inr (.inr ⟨hu, rfl⟩))))))⟩
          · simp [opV] at hv
        · simp [opV] at hv
      obtain ⟨ks, i, hcm, hti, hka⟩ := hcm
      rw [hcm] at hv
      exact op_bin_eq hT S hE hG hok.1 hok.2 hbo hti hka hv
    · have hcm : cmpOp T (.binOp bo t x y yt) = .bin bo [] x y := by
        cases bo <;> first | rfl | (exact absurd (.inl rfl) hbo) | (exact absurd (.inr rfl) hbo)
      rw [hcm] at hv
      exact op_bin_int S hE hG hok.1 hok.2 ⟨fun h => hbo (.inl h), fun h => hbo (.inr h)⟩ hv
  | unOp uo t x =>
    simp [Op.operands] at hok
    exact op_un S hE hG hok hv
  | convert s d x =>
    simp [Op.operands] at hok
    simp only [cmpOp] at hv
    split at hv
    · rename_i i j hi hj
      split at hv
      · rename_i h1 h2
        exact op_conv hT hi hj h1 h2 S hE hG hok hv
      · simp [opV] at hv
    · simp [opV] at hv
  | makeFunc fn first caps =>
    cases fn with
    | func f =>
      simp only [cmpOp] at hv
      cases hf : first.isEmpty with
      | false => simp [hf, opV] at hv
      | true =>
        simp only [hf, cond_true] at hv
        have hok' : caps.toList.all (opdOk ng) = true := by
          have hf0 : first = #[] := by simpa using hf
          subst hf0
          simpa [Op.operands] using hok
        exact op_mkfn S hE hG hf hok' hv
    | _ => simp [cmpOp, opV] at hv
  | makeMap t r =>
    cases r with
    | some r => simp [cmpOp, opV] at hv
    | none =>
      simp only [cmpOp, opV, Option.some.injEq, Prod.mk.injEq] at hv
      obtain ⟨rfl, rfl⟩ := hv
      exact op_mkmap S
  | makeSlice t l c =>
    simp [Op.operands] at hok
    simp only [cmpOp] at hv
    split at hv
    · rename_i i hi
      split at hv
      · rename_i el hu
        split at hv
        · rename_i ei hel
          exact op_mkslice hT hi hu hel S hE hG hok.1 hok.2 hv
        · simp [opV] at hv
      · simp [opV] at hv
    · simp [opV] at hv
  | slice t x lo hi mx =>
    simp only [cmpOp] at hv
    split at hv
    · rename_i i hi'
      split at hv
      · rename_i el hu
        split at hv
        · rename_i ei hel
          cases hc : mx.isSome && hi.isNone with
          | true => simp [hc, opV] at hv
          | false =>
            simp only [hc, cond_false] at hv
            have hoks : opdOk ng x = true ∧ lo.toList.all (opdOk ng) = true ∧ hi.toList.all (opdOk ng) = true ∧ mx.toList.all (opdOk ng) = true := by
              simp [Op.operands] at hok
              refine ⟨hok.1, ?_⟩
              cases lo <;> cases hi <;> cases mx <;> simp_all
            exact op_slice hT hi' hu hel hc S hE hG hoks.1 hoks.2.1 hoks.2.2.1 hoks.2.2.2 hv
        · simp [opV] at hv
      · simp [opV] at hv
    · simp [opV] at hv
  | fieldAddr t x k =>
    simp [Op.operands] at hok
    simp only [cmpOp] at hv
    split at hv
    · rename_i i hi
      split at hv
      · rename_i fs hu
        split at hv
        · rename_i f hf
          split at hv
          · rename_i fi hfi
            cases hz : Nat.beq fi.size 0 with
            | true => simp [hz, opV] at hv
            | false =>
              simp only [hz, cond_false] at hv
              exact op_faddr hT hi hu hf hfi (by intro h; rw [h] at hz; cases hz) S hE hG hok hv
          · simp [opV] at hv
        · simp [opV] at hv
      · simp [opV] at hv
    · simp [opV] at hv
  | indexAddr t x y =>
    simp [Op.operands] at hok
    simp only [cmpOp] at hv
    split at hv
    · rename_i i hi
      split at hv
      · rename_i el hu
        split at hv
        · rename_i ei hel
          exact op_iaddr_slice hT hi hu hel S hE hG hok.1 hok.2 hv
        · simp [opV] at hv
      · rename_i n el hu
        split at hv
        · rename_i ei hel
          exact op_iaddr_array hT hi hu hel S hE hG hok.1 hok.2 hv
        · simp [opV] at hv
      · simp [opV] at hv
    · simp [opV] at hv
  | field t x k =>
    simp [Op.operands] at hok
    simp only [cmpOp] at hv
    split at hv
    · rename_i i hi
      split at hv
      · rename_i fs hu
        split at hv
        · rename_i f hf
          split at hv
          · rename_i fi hfi
            exact op_field hT hi hu hf hfi S hE hG hok hv
          · simp [opV] at hv
        · simp [opV] at hv
      · simp [opV] at hv
    · simp [opV] at hv
  | index t x y =>
    simp [Op.operands] at hok
    simp only [cmpOp] at hv
    split at hv
    · rename_i i hi
      split at hv
      · rename_i hu
        exact op_index_str hT hi hu S hE hG hok.1 hok.2 hv
      · rename_i n el hu
        split at hv
        · rename_i ei hel
          exact op_index_arr hT hi hu hel S hE hG hok.1 hok.2 hv
        · simp [opV] at hv
      · simp [opV] at hv
    · simp [opV] at hv
  | extract x i =>
    simp [Op.operands] at hok
    exact op_ext S hE hG hok hv
  | lookup t x y ok =>
    simp [Op.operands] at hok
    simp only [cmpOp] at hv
    split at hv
    · rename_i i hi
      split at hv
      · rename_i kt el hu
        split at hv
        · rename_i ki ei hki hel
          split at hv
          · rename_i kk z hku hz hag
            exact op_look hT hi hu hki hku hel hz hag S hE hG hok.1 hok.2 hv
          · rename_i fs z hku hz hag
            split at hv
            · rename_i ks hkk
              exact op_lookK hT hi hu hki hkk (by rw [(hT kt ki hki).agg, hku]; rfl) (.inl ⟨_, hku⟩) hel hz hag S hE hG hok.1 hok.2 hv
            · simp [opV] at hv
          · rename_i n el' z hku hz hag
            split at hv
            · rename_i ks hkk
              exact op_lookK hT hi hu hki hkk (by rw [(hT kt ki hki).agg, hku]; rfl) (.inr ⟨_, _, hku⟩) hel hz hag S hE hG hok.1 hok.2 hv
            · simp [opV] at hv
          · simp [opV] at hv
        · simp [opV] at hv
      · simp [opV] at hv
    · simp [opV] at hv
  | mapUpdate t x y z =>
    simp [Op.operands] at hok
    simp only [cmpOp] at hv
    split at hv
    · rename_i i hi
      split at hv
      · rename_i kt el hu
        split at hv
        · rename_i ki hki
          split at hv
          · rename_i kk hku
            obtain ⟨w', rfl, hr, S', E'⟩ := op_mupd hT hi hu hki hku S hE hG hok.1 hok.2.1 hok.2.2 hv
            refine ⟨ρ, w', undef, .inr ⟨rfl, ?_⟩, VR.undef, S', E'⟩
            show ((do Instr.mapUpdate t (a.eval x) (a.eval y) (a.eval z); pure Next.skip) : Sem Next).run P w = _
            simp [hr]
          · rename_i fs hku
            split at hv
            · rename_i ks hkk
              obtain ⟨w', rfl, hr, S', E'⟩ := op_mupdK hT hi hu hki hkk (by rw [(hT kt ki hki).agg, hku]; rfl) (.inl ⟨_, hku⟩) S hE hG hok.1 hok.2.1 hok.2.2 hv
              refine ⟨ρ, w', undef, .inr ⟨rfl, ?_⟩, VR.undef, S', E'⟩
              show ((do Instr.mapUpdate t (a.eval x) (a.eval y) (a.eval z); pure Next.skip) : Sem Next).run P w = _
              simp [hr]
            · simp [opV] at hv
          · rename_i n el' hku
            split at hv
            · rename_i ks hkk
              obtain ⟨w', rfl, hr, S', E'⟩ := op_mupdK hT hi hu hki hkk (by rw [(hT kt ki hki).agg, hku]; rfl) (.inr ⟨_, _, hku⟩) S hE hG hok.1 hok.2.1 hok.2.2 hv
              refine ⟨ρ, w', undef, .inr ⟨rfl, ?_⟩, VR.undef, S', E'⟩
              show ((do Instr.mapUpdate t (a.eval x) (a.eval y) (a.eval z); pure Next.skip) : Sem Next).run P w = _
              simp [hr]
            · simp [opV] at hv
          · simp [opV] at hv
        · simp [opV] at hv
      · simp [opV] at hv
    · simp [opV] at hv
  | range t x =>
    simp [Op.operands] at hok
    simp only [cmpOp] at hv
    split at hv
    · rename_i i hi
      split at hv
      · rename_i kt el hu
        exact op_rngNil hT hi hu S hE hG hok hv
      · simp [opV] at hv
    · simp [opV] at hv
  | next x s =>
    simp [Op.operands] at hok
    simp only [cmpOp] at hv
    cases s with
    | true => simp [opV] at hv
    | false => exact op_nxt S hE hG hok hv
  | call c =>
    obtain ⟨cal, args, ats⟩ := c
    have hrun : ∀ b, cal = .builtin b → ∃ cs, ((execOp a.eval { dst := dst, op := .call { callee := cal, args := args, argTypes := ats }, type := ty, pos := pos, after := aft, guard := gd }).run P w) = (builtin b ats ty cs (args.map a.eval)).run P w := by
      rintro b rfl
      exact ⟨_, rfl⟩
    have harr : ∀ {l : List Operand}, args.toList = l → args.map a.eval = (l.map a.eval).toArray := by
      intro l hl
      apply Array.ext'
      simp [← hl]
    have hats : ∀ {l : List TypeId}, ats.toList = l → ats = l.toArray := by
      intro l hl
      apply Array.ext'
      simp [← hl]
    have hoks : args.toList.all (opdOk ng) = true := by
      cases cal <;> simp [Op.operands, Call.operands] at hok <;> simp <;> first | exact hok | exact hok.2
    simp only [cmpOp, cmpCall] at hv
    split at hv
    · simp [opV] at hv
    · -- len
      obtain ⟨cs, hr⟩ := hrun _ rfl
      rw [hr]
      split at hv
      · rename_i x t hx ht
        rw [harr hx, hats ht]
        rw [hx] at hoks
        simp at hoks
        split at hv
        · rename_i i hi
          split at hv
          · rename_i el hu
            exact op_len hT hi hu S hE hG hoks hv
          · rename_i hu
            exact op_slen hT hi hu S hE hG hoks hv
          · simp [opV] at hv
        · simp [opV] at hv
      · simp [opV] at hv
    · -- append
      obtain ⟨cs, hr⟩ := hrun _ rfl
      rw [hr]
      split at hv
      · rename_i x y t t' hx ht
        rw [harr hx, hats ht]
        rw [hx] at hoks
        simp at hoks
        split at hv
        · rename_i i i' hi hi'
          split at hv
          · rename_i el hu
            split at hv
            · rename_i ei hel
              split at hv
              · rename_i k hk
                exact op_append hT hi hu hel hi' (by simpa using ⟨k, hk⟩) S hE hG hoks.1 hoks.2 hv
              · rename_i k hk
                exact op_append hT hi hu hel hi' (by simpa using ⟨k, hk⟩) S hE hG hoks.1 hoks.2 hv
              · simp [opV] at hv
            · simp [opV] at hv
          · simp [opV] at hv
        · simp [opV] at hv
      · simp [opV] at hv
    · -- copy
      obtain ⟨cs, hr⟩ := hrun _ rfl
      rw [hr]
      split at hv
      · rename_i x y t t' hx ht
        rw [harr hx, hats ht]
        rw [hx] at hoks
        simp at hoks
        split at hv
        · rename_i i hi
          split at hv
          · rename_i el hu
            split at hv
            · rename_i ei hel
              exact op_copy hT hi hu hel S hE hG hoks.1 hoks.2 hv
            · simp [opV] at hv
          · simp [opV] at hv
        · simp [opV] at hv
      · simp [opV] at hv
    · -- clear
      obtain ⟨cs, hr⟩ := hrun _ rfl
      rw [hr]
      split at hv
      · rename_i x t hx ht
        rw [harr hx, hats ht]
        rw [hx] at hoks
        simp at hoks
        split at hv
        · rename_i i hi
          split at hv
          · rename_i el hu
            split at hv
            · rename_i ei hel
              exact op_clear hT hi hu hel S hE hG hoks hv
            · simp [opV] at hv
          · simp [opV] at hv
        · simp [opV] at hv
      · simp [opV] at hv
    · -- cap
      obtain ⟨cs, hr⟩ := hrun _ rfl
      rw [hr]
      split at hv
      · rename_i x t hx ht
        rw [harr hx, hats ht]
        rw [hx] at hoks
        simp at hoks
        split at hv
        · rename_i i hi
          split at hv
          · rename_i el hu
            exact op_cap hT hi hu S hE hG hoks hv
          · simp [opV] at hv
        · simp [opV] at hv
      · simp [opV] at hv
    · -- min
      obtain ⟨cs, hr⟩ := hrun _ rfl
      rw [hr]
      split at hv
      · rename_i x y hx
        rw [harr hx]
        rw [hx] at hoks
        simp at hoks
        exact op_min S hE hG hoks.1 hoks.2 hv
      · simp [opV] at hv
    · simp [opV] at hv
  | _ => simp [cmpOp, opV] at hv
end
end Go.AI
