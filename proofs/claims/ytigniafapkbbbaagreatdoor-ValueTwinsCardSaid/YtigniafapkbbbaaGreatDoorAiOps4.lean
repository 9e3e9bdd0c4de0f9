/- Operations on memory: load, store, build, slices, make, append, copy, clear. -/
import Derived.Test.YtigniafapkbbbaaGreatDoorAiOps3
import Derived.Laws.MakeOwn
import Derived.Laws.AppendOwn
namespace Go.AI

section
variable {P : Program} {CC : CodeRel} {ρ : Rho} {h h' : Heap} {w : World} {T : Tab} {ng : Nat} {e : Env} {a : Act} {c v : Value}

theorem op_loadA (hT : TabOk P T) {t : TypeId} {i : TI} {x : Operand} (hti : T t = some i) (S : Sim CC ρ h w) (hE : ER ρ e a.tmps) (hG : Globs ng ρ) (hx : opdOk ng x = true)
    (hv : opV e h (.load (aggN i) x) = some (v, h')) : Out CC ρ h w v h' (((do pure (Next.value (← Instr.loadAt t (a.eval x)))) : Sem Next).run P w) := by
  have hrx := hE.eval hG hx
  simp only [opV] at hv
  split at hv
  · rename_i b off h1
    split at hv
    · rename_i cs h2
      split at hv
      · rename_i u h3
        cases hv
        rw [h1] at hrx
        obtain ⟨r, hr, hc⟩ := hrx.ptr_inv
        obtain ⟨c, hrun, hrel⟩ := op_load S (hT t i hti) hr h2 h3
        rw [hc]
        exact Out.same S (c := c) (run_v (by simp [Instr.loadAt, Instr.sureAddr, hrun])) hrel
      · cases hv
    · cases hv
  · cases hv

theorem op_storeA (hT : TabOk P T) {t : TypeId} {i : TI} {x y : Operand} (hti : T t = some i) (S : Sim CC ρ h w) (hE : ER ρ e a.tmps) (hG : Globs ng ρ) (hx : opdOk ng x = true) (hy : opdOk ng y = true)
    (hv : opV e h (.store i.size x y) = some (v, h')) : Out CC ρ h w v h' (((do Instr.storeAt t (a.eval x) (a.eval y); pure Next.skip) : Sem Next).run P w) := by
  have hrx := hE.eval hG hx
  have hry := hE.eval hG hy
  simp only [opV] at hv
  split at hv
  · rename_i b off h1
    split at hv
    · rename_i vs h2
      split at hv
      · rename_i h3
        split at hv
        · rename_i hh h4
          cases hv
          rw [h1] at hrx
          obtain ⟨r, hr, hc⟩ := hrx.ptr_inv
          obtain ⟨w', hrun, S', E'⟩ := op_store S (hT t i hti) hr hry h2 (Nat.eq_of_beq_eq_true h3) h4
          rw [hc]
          refine ⟨ρ, w', undef, .inr ⟨rfl, ?_⟩, VR.undef, S', E'⟩
          simp [Instr.storeAt, Instr.sureAddr, hrun]
        · cases hv
      · cases hv
    · cases hv
  · cases hv

theorem mapM_go_run {α β : Type} (f : α → Sem β) (g : α → β) : ∀ (l : List α) (w : World), (∀ x ∈ l, (f x).run P w = .ok (g x) w) → (l.mapM f).run P w = .ok (l.map g) w := by
  intro l
  induction l with
  | nil => intro w _; rfl
  | cons x l ih =>
    intro w hx
    rw [List.mapM_cons]
    simp only [Sem.run_bind, hx x (by simp), Result.andThen_ok, ih w (fun y hy => hx y (by simp [hy])), Sem.run_pure, List.map_cons]

theorem bind_map_run {α β : Type} (x : Sem α) (f : α → β) : (f <$> x).run P w = (x.run P w).andThen fun y w' => .ok (f y) w' := Sem.run_map P w x f

theorem arr_mapM_run {α β : Type} (f : α → Sem β) (g : α → β) (l : Array α) (hx : ∀ x ∈ l.toList, (f x).run P w = .ok (g x) w) : (l.mapM f).run P w = .ok (l.map g) w := by
  have key : ∀ (m : List α) (acc : Array β), (∀ x ∈ m, (f x).run P w = .ok (g x) w) → (m.foldlM (fun bs x => bs.push <$> f x) acc).run P w = .ok (acc ++ (m.map g).toArray) w := by
    intro m
    induction m with
    | nil => intro acc _; simp
    | cons x m ih =>
      intro acc hm
      simp only [List.foldlM_cons, Sem.run_bind, bind_map_run, hm x (by simp), Result.andThen_ok]
      rw [ih _ (fun y hy => hm y (by simp [hy]))]
      congr 1
      apply Array.ext'
      simp
  rw [Array.mapM_eq_foldlM, ← Array.foldlM_toList]
  rw [key l.toList #[] hx]
  congr 1
  apply Array.ext'
  simp

theorem partsS_rel {fs : List Field} : ∀ {ps : List (Nat × Operand)} {qs : List (Nat × Nat × Operand)}, partsS T fs ps = some qs → (fs.all fun f => (T f.type).isSome) = true →
    All2 (fun (p : Nat × Operand) (q : Nat × Nat × Operand) => ((fs.map fun f => (f.offset, ((T f.type).map (·.size)).getD 0)).toArray[p.1]?) = some (q.1, q.2.1) ∧ q.2.2 = p.2) ps qs := by
  intro ps
  induction ps with
  | nil => intro qs h _; simp only [partsS, Option.some.injEq] at h; subst h; exact .nil
  | cons p ps ih =>
    intro qs h hall
    obtain ⟨j, x⟩ := p
    simp only [partsS] at h
    split at h
    · cases h
    · rename_i f hf
      split at h
      · rename_i ti l ht hl
        cases h
        refine .cons ⟨?_, rfl⟩ (ih hl hall)
        simp [hf, ht]
      · cases h

theorem op_build_struct (hT : TabOk P T) {t : TypeId} {i : TI} {fs : Array Field} {ps : Array (Nat × Operand)} {qs : List (Nat × Nat × Operand)} (hti : T t = some i) (hu : i.u = .struct fs)
    (hall : (fs.toList.all fun f => (T f.type).isSome) = true) (hq : partsS T fs.toList ps.toList = some qs) (S : Sim CC ρ h w) (hE : ER ρ e a.tmps) (hG : Globs ng ρ)
    (hx : (ps.toList.map (·.2)).all (opdOk ng) = true) (hv : opV e h (.build i.zero qs) = some (v, h')) :
    Out CC ρ h w v h' (((do pure (Next.value (← Instr.build t (ps.map fun p => (p.1, a.eval p.2))))) : Sem Next).run P w) := by
  have hi := hT t i hti
  have hui := hi.u
  rw [hu] at hui
  simp only [opV] at hv
  split at hv
  · rename_i cs h1
    cases hv
    obtain ⟨z, hz, hzc⟩ := zero_run (w := w) hi
    obtain ⟨s, hs, hk⟩ := fill_rel (ρ := ρ) (a := a) (ng := ng) hE hG _ ps.toList qs i.zero i.zero cs (by simpa [List.all_map] using hx) (partsS_rel hq hall) (constCells_rel hi.zero) h1
    refine Out.same S (c := .agg ⟨s⟩) (run_v ?_) (VR.agg hk)
    have hpl : (fs.mapM fun f => (do pure (f.offset, ← sizeOf f.type) : Sem (Nat × Nat))).run P w = .ok (fs.map fun f => (f.offset, ((T f.type).map (·.size)).getD 0)) w := by
      refine arr_mapM_run _ _ fs ?_
      intro f hf
      have hsome := List.all_eq_true.1 hall f hf
      obtain ⟨fi, hfi⟩ := Option.isSome_iff_exists.1 hsome
      simp [(size_run (w := w) (hT _ _ hfi)).1, hfi]
    have hzz : z.cells = ⟨i.zero⟩ := by
      apply Array.ext'; simpa using hzc
    have hpp : (ps.map fun p => (p.1, a.eval p.2)).toList = ps.toList.map fun p => (p.1, a.eval p.2) := by simp
    have hpa : (fs.toList.map fun f => (f.offset, ((T f.type).map (·.size)).getD 0)).toArray = fs.map fun f => (f.offset, ((T f.type).map (·.size)).getD 0) := by
      apply Array.ext'; simp
    rw [hpa] at hs
    simp only [Instr.build, Sem.run_bind, hz, Result.andThen_ok, run_underlying hui, hpl, hzz, hpp, hs, Sem.run_pure]
  · cases hv

theorem arrParts_rel {el : TI} : ∀ ps : List (Nat × Operand),
    All2 (fun (p : Nat × Operand) (q : Nat × Nat × Operand) => (fun i => some (i * el.size, el.size)) p.1 = some (q.1, q.2.1) ∧ q.2.2 = p.2) ps (ps.map fun p => (p.1 * el.size, el.size, p.2))
  | [] => .nil
  | _ :: ps => .cons ⟨rfl, rfl⟩ (arrParts_rel ps)

theorem op_build_array (hT : TabOk P T) {t el : TypeId} {n : Nat} {i ei : TI} {ps : Array (Nat × Operand)} (hti : T t = some i) (hu : i.u = .array n el) (hel : T el = some ei)
    (S : Sim CC ρ h w) (hE : ER ρ e a.tmps) (hG : Globs ng ρ) (hx : (ps.toList.map (·.2)).all (opdOk ng) = true) (hv : opV e h (.build i.zero (ps.toList.map fun p => (p.1 * ei.size, ei.size, p.2))) = some (v, h')) :
    Out CC ρ h w v h' (((do pure (Next.value (← Instr.build t (ps.map fun p => (p.1, a.eval p.2))))) : Sem Next).run P w) := by
  have hi := hT t i hti
  have hui := hi.u
  rw [hu] at hui
  simp only [opV] at hv
  split at hv
  · rename_i cs h1
    cases hv
    obtain ⟨z, hz, hzc⟩ := zero_run (w := w) hi
    obtain ⟨s, hs, hk⟩ := fill_rel (ρ := ρ) (a := a) (ng := ng) hE hG (fun i => some (i * ei.size, ei.size)) ps.toList _ i.zero i.zero cs (by simpa [List.all_map] using hx) (arrParts_rel (el := ei) ps.toList) (constCells_rel hi.zero) h1
    refine Out.same S (c := .agg ⟨s⟩) (run_v ?_) (VR.agg hk)
    have hzz : z.cells = ⟨i.zero⟩ := by
      apply Array.ext'; simpa using hzc
    have hpp : (ps.map fun p => (p.1, a.eval p.2)).toList = ps.toList.map fun p => (p.1, a.eval p.2) := by simp
    simp only [Instr.build, Sem.run_bind, hz, Result.andThen_ok, run_underlying hui, (size_run (w := w) (hT _ _ hel)).1, hzz, hpp, hs, Sem.run_pure]
  · cases hv

theorem repl_length (z : List Value) : ∀ n, (repl z n).length = n * z.length
  | 0 => by simp [repl]
  | n + 1 => by rw [repl, List.length_append, repl_length z n, Nat.add_mul]; omega

theorem repl_get (z : List Value) : ∀ (n i : Nat), i < n * z.length → (repl z n)[i]? = z[i % z.length]?
  | 0, i, h => by simp at h
  | n + 1, i, h => by
    have hz : 0 < z.length := by
      cases hz : z.length with
      | zero => rw [hz] at h; simp at h
      | succ k => omega
    rw [repl]
    by_cases hi : i < z.length
    · rw [List.getElem?_append_left hi, Nat.mod_eq_of_lt hi]
    · rw [List.getElem?_append_right (by omega), repl_get z n _ (by rw [Nat.add_mul] at h; omega)]
      congr 1
      conv => rhs; rw [show i = (i - z.length) + z.length by omega, Nat.add_mod_right]

theorem repl_made {z : List Value} {n : Nat} (hz : 0 < z.length ∨ n = 0) : (repl z n) = ((Array.range (n * z.length)).map (fun i => (⟨z⟩ : Array Value)[i % z.length]!)).toList := by
  apply List.ext_getElem?
  intro i
  by_cases hi : i < n * z.length
  · have hz' : 0 < z.length := by
      rcases hz with h | h
      · exact h
      · subst h; simp at hi
    have hm : i % z.length < z.length := Nat.mod_lt _ hz'
    rw [repl_get z n i hi]
    simp [hi, hm, getElem!_def]
  · rw [List.getElem?_eq_none (by rw [repl_length]; omega), List.getElem?_eq_none (by simp; omega)]

theorem constCells_repl {z : List Value} (hz : z.all constCell = true) : ∀ n, (repl z n).all constCell = true
  | 0 => rfl
  | n + 1 => by rw [repl, List.all_append, hz, constCells_repl hz n]; rfl

theorem op_bslice (hT : TabOk P T) {t el : TypeId} {n : Nat} {i ei : TI} {ps : Array (Nat × Operand)} (hti : T t = some i) (hu : i.u = .slice el) (hel : T el = some ei) (hn : n * ei.size ≤ 1000000)
    (S : Sim CC ρ h w) (hE : ER ρ e a.tmps) (hG : Globs ng ρ) (hx : (ps.toList.map (·.2)).all (opdOk ng) = true)
    (hv : opV e h (.bslice n (repl ei.zero n) (ps.toList.map fun p => (p.1 * ei.size, ei.size, p.2))) = some (v, h')) :
    Out CC ρ h w v h' (((do pure (Next.value (← Instr.buildSlice t n (ps.map fun p => (p.1, a.eval p.2))))) : Sem Next).run P w) := by
  have hi := hT t i hti
  have hui := hi.u
  rw [hu] at hui
  have hei := hT _ _ hel
  simp only [opV] at hv
  split at hv
  · rename_i cs h1
    cases hv
    obtain ⟨z, hz, hzc⟩ := zero_run (w := w) hei
    have hzz : z.cells = ⟨ei.zero⟩ := by
      apply Array.ext'; simpa using hzc
    have hlen := hei.len
    obtain ⟨s, hs, hk⟩ := fill_rel (ρ := ρ) (a := a) (ng := ng) hE hG (fun i => some (i * ei.size, ei.size)) ps.toList _ _ _ cs (by simpa [List.all_map] using hx) (arrParts_rel (el := ei) ps.toList) (constCells_rel (constCells_repl hei.zero n)) h1
    obtain ⟨im, g1, g2, _, _, _, g7, g8⟩ := new_blk (rest := []) S hk el 0 (fun h => absurd rfl h)
    rw [List.append_nil] at g7 g8
    refine ⟨_, _, .slice (some ⟨w.heap.size, 0, none⟩) n n, .inl (run_v ?_), ?_, g7, g8⟩
    · have hpp : (ps.map fun p => (p.1, a.eval p.2)).toList = ps.toList.map fun p => (p.1, a.eval p.2) := by simp
      by_cases h0 : n * ei.size = 0
      · have hr : repl ei.zero n = [] := List.eq_nil_of_length_eq_zero (by rw [repl_length, hlen]; exact h0)
        rw [hr] at hs
        simp only [Instr.buildSlice, Sem.run_bind, run_underlying hui, Result.andThen_ok, (size_run (w := w) hei).1, Sem.run_ite, h0, if_true, Sem.run_pure, hpp]
        have he : ((Array.range 0).map fun i => (#[] : Array Value)[i % (#[] : Array Value).size]!) = ⟨[]⟩ := by
          apply Array.ext'; simp
        rw [he, hs]
        rfl
      · have hlt : ¬ (n * ei.size > 2 ^ 24) := by omega
        have hm := repl_made (z := ei.zero) (n := n) (by
          by_cases hz0 : 0 < ei.zero.length
          · exact .inl hz0
          · right
            have : ei.zero.length = 0 := by omega
            rw [hlen] at this
            rw [this] at h0; simp at h0)
        rw [hlen] at hm
        have hzs : z.cells.size = ei.size := by rw [hzz]; simpa using hlen
        have hmm : ((Array.range (n * ei.size)).map fun i => (⟨ei.zero⟩ : Array Value)[i % ei.size]!) = ⟨repl ei.zero n⟩ := by
          apply Array.ext'
          rw [← hm]
        simp only [Instr.buildSlice, Sem.run_bind, run_underlying hui, Result.andThen_ok, (size_run (w := w) hei).1, Sem.run_ite, hlt, if_false, h0, hz, Sem.run_pure, hpp, hzs]
        rw [hzz, hmm, hs]
        rfl
    · refine (CR.slice (updR_self _ _ _) ⟨.inl ?_, .inl rfl, Nat.le_refl _⟩).vr
      rw [g1, g2]
  · cases hv

theorem op_mkslice (hT : TabOk P T) {t el : TypeId} {i ei : TI} {x y : Operand} (hti : T t = some i) (hu : i.u = .slice el) (hel : T el = some ei) (S : Sim CC ρ h w) (hE : ER ρ e a.tmps) (hG : Globs ng ρ)
    (hx : opdOk ng x = true) (hy : opdOk ng y = true) (hv : opV e h (.mkslice ei.zero ei.bytes x y) = some (v, h')) :
    Out CC ρ h w v h' (((do pure (Next.value (← Instr.makeSlice t (a.eval x) (a.eval y)))) : Sem Next).run P w) := by
  have hi := hT t i hti
  have hui := hi.u
  rw [hu] at hui
  have hei := hT _ _ hel
  have hrx := hE.eval hG hx
  have hry := hE.eval hG hy
  simp only [opV] at hv
  split at hv
  · rename_i l c h1 h2
    split at hv
    · rename_i h3
      cases hv
      simp only [Bool.and_eq_true] at h3
      obtain ⟨⟨⟨hlc, hcb⟩, hz0⟩, hc0⟩ := h3
      have hlc := Nat.le_of_ble_eq_true hlc
      have hcb := Nat.le_of_ble_eq_true hcb
      have hc0 := Nat.le_of_ble_eq_true hc0
      have hz0 : 0 < ei.zero.length := by simpa [Nat.blt_eq] using hz0
      rw [h1] at hrx; rw [h2] at hry
      rw [hrx.int_inv, hry.int_inv]
      obtain ⟨ti, k1, k2, k3, z, k4, k5⟩ := hei.info
      have hzz : z.cells = ⟨ei.zero⟩ := by
        apply Array.ext'; simpa using k5
      have hrun := run_make (P := P) w t el ti z hui k1 k4 .i64 .i64 (Int.ofNat l) (Int.ofNat c) (Int.natCast_nonneg l) (Int.ofNat_le.2 hlc)
        (by rw [k3]; show (ei.bytes : Int) * (c : Int) ≤ _; rw [← Int.natCast_mul, Nat.mul_comm]; exact Int.le_trans (Int.ofNat_le.2 hcb) (by decide)) (by show (c : Int) ≤ _; exact Int.le_trans (Int.ofNat_le.2 hc0) (by decide))
      have hmade : madeCells z.cells ((Int.ofNat c).toNat * ti.size) = ⟨repl ei.zero c ++ []⟩ := by
        apply Array.ext'
        rw [List.append_nil, repl_made (.inl hz0), hzz]
        simp [madeCells, k2, hei.len]
      rw [hmade] at hrun
      obtain ⟨im, g1, g2, _, _, _, g7, g8⟩ := new_blk (rest := []) S (constCells_rel (constCells_repl hei.zero c)) el 0 (fun h => absurd rfl h)
      refine ⟨_, _, .slice (some ⟨w.heap.size, 0, none⟩) l c, .inl (run_v hrun), ?_, g7, g8⟩
      refine (CR.slice (updR_self _ _ _) ⟨.inl ?_, .inl rfl, hlc⟩).vr
      rw [g1, g2]
    · cases hv
  · cases hv
end
end Go.AI
