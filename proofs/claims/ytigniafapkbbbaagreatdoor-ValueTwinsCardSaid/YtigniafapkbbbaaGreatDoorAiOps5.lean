/- Slice expressions, append, copy, clear. -/
import Derived.Test.YtigniafapkbbbaaGreatDoorAiOps4
namespace Go.AI

theorem blt_iff {m n : Nat} : Nat.blt m n = true ↔ m < n := by simp [Nat.blt_eq]

section
variable {P : Program} {CC : CodeRel} {ρ : Rho} {h h' : Heap} {w : World} {T : Tab} {ng : Nat} {e : Env} {a : Act} {c v : Value}

theorem bound_run {x : Operand} {top n : Nat} {d : Nat} (hE : ER ρ e a.tmps) (hG : Globs ng ρ) (hx : opdOk ng x = true) (hb : bound e (some x) d top = some n) (code : BoundsCode) {y : Nat} (hy : top ≤ y) :
    n ≤ top ∧ (Instr.sliceBound (a.eval x) y code).run P w = .ok n w := by
  have hrx := hE.eval hG hx
  simp only [bound] at hb
  split at hb
  · rename_i k i h1
    split at hb
    · rename_i h2
      cases hb
      have hle := Nat.le_of_ble_eq_true h2
      refine ⟨hle, ?_⟩
      rw [h1] at hrx
      rw [hrx.int_inv]
      have hc : (0 : Int) ≤ Int.ofNat n ∧ Int.ofNat n ≤ (y : Int) := ⟨Int.natCast_nonneg n, Int.ofNat_le.2 (by omega)⟩
      simp only [Instr.sliceBound, asIntOf, Sem.run_bind, Sem.run_pure, Result.andThen_ok]
      rw [if_pos hc]
      rfl
    · cases hb
  · cases hb

theorem bounds_run {lo hi mx : Option Operand} (hE : ER ρ e a.tmps) (hG : Globs ng ρ) (hlo : (lo.toList).all (opdOk ng) = true) (hhi : (hi.toList).all (opdOk ng) = true) (hmx : (mx.toList).all (opdOk ng) = true)
    (hm3 : (mx.isSome && hi.isNone) = false) {len cap ccap m hh l : Nat} (hcc : cap ≤ ccap) (h1 : bound e mx cap cap = some m) (h2 : bound e hi len m = some hh) (h3 : bound e lo 0 hh = some l) :
    ∃ m', (Instr.sliceBounds true len ccap (lo.map a.eval) (hi.map a.eval) (mx.map a.eval)).run P w = .ok (l, hh, m') w ∧ l ≤ hh ∧ (hi.isSome → hh ≤ m) ∧
      ((mx.isSome ∧ m' = m ∧ m ≤ cap) ∨ (mx = none ∧ m = cap ∧ m' = ccap)) := by
  have key : ∀ (m' : Nat), m ≤ m' → (mx.isSome → m' = m) → (match mx.map a.eval with
      | some v => Instr.sliceBound v ccap (if true then .slice3Acap else .slice3Alen)
      | none => (pure ccap : Sem Nat)).run P w = .ok m' w →
      (Instr.sliceBounds true len ccap (lo.map a.eval) (hi.map a.eval) (mx.map a.eval)).run P w = .ok (l, hh, m') w ∧ l ≤ hh ∧ (hi.isSome → hh ≤ m) := by
    intro m' hmm hmx' hr1
    have hh2 : (match hi.map a.eval, mx.map a.eval with
        | some v, some _ => Instr.sliceBound v m' .slice3B
        | some v, none => Instr.sliceBound v m' (if true then .sliceAcap else .sliceAlen)
        | none, none => (pure len : Sem Nat)
        | none, some _ => stuck "Slice: max without high").run P w = .ok hh w ∧ (hi.isSome → hh ≤ m) := by
      cases hi with
      | none =>
        cases mx with
        | some _ => simp at hm3
        | none =>
          simp only [bound, Option.some.injEq] at h2
          subst h2
          exact ⟨rfl, by simp⟩
      | some x =>
        have hx : opdOk ng x = true := by simpa using hhi
        cases mx with
        | none =>
          have := bound_run (P := P) (w := w) hE hG hx h2 .sliceAcap hmm
          exact ⟨this.2, fun _ => this.1⟩
        | some y =>
          have := bound_run (P := P) (w := w) hE hG hx h2 .slice3B hmm
          exact ⟨this.2, fun _ => this.1⟩
    have hh3 : (match lo.map a.eval with
        | some v => Instr.sliceBound v hh (if (mx.map a.eval).isSome then .slice3C else .sliceB)
        | none => (pure 0 : Sem Nat)).run P w = .ok l w ∧ l ≤ hh := by
      cases lo with
      | none =>
        simp only [bound, Option.some.injEq] at h3
        subst h3
        exact ⟨rfl, Nat.zero_le _⟩
      | some x =>
        have hx : opdOk ng x = true := by simpa using hlo
        have := bound_run (P := P) (w := w) hE hG hx h3 (if (mx.map a.eval).isSome then .slice3C else .sliceB) (Nat.le_refl hh)
        exact ⟨this.2, this.1⟩
    refine ⟨?_, hh3.2, hh2.2⟩
    have h5 := hh2.1
    have h6 := hh3.1
    clear hh2 hh3 h1 h2 h3
    rcases mx with _ | mx <;> rcases hi with _ | hi <;> rcases lo with _ | lo <;>
      simp only [Option.map_none, Option.map_some, Option.isSome_none, Option.isSome_some, Sem.run_pure, Result.ok.injEq, and_true, run_stuck, reduceCtorEq, if_true, if_false, Bool.false_eq_true] at hr1 h5 h6 <;>
      first
        | (subst hr1; subst h5; subst h6; rfl)
        | (subst hr1; subst h5; simp only [Instr.sliceBounds, Option.map_none, Option.map_some, Option.isSome_none, Option.isSome_some, if_true, if_false, Bool.false_eq_true, Sem.run_bind, Sem.run_pure, h6, Result.andThen_ok]; done)
        | (subst hr1; subst h6; simp only [Instr.sliceBounds, Option.map_none, Option.map_some, Option.isSome_none, Option.isSome_some, if_true, if_false, Bool.false_eq_true, Sem.run_bind, Sem.run_pure, h5, Result.andThen_ok]; done)
        | (subst hr1; simp only [Instr.sliceBounds, Option.map_none, Option.map_some, Option.isSome_none, Option.isSome_some, if_true, if_false, Bool.false_eq_true, Sem.run_bind, Sem.run_pure, h5, h6, Result.andThen_ok]; done)
        | (subst h6; simp only [Instr.sliceBounds, Option.map_none, Option.map_some, Option.isSome_none, Option.isSome_some, if_true, if_false, Bool.false_eq_true, Sem.run_bind, Sem.run_pure, hr1, h5, Result.andThen_ok]; done)
        | (simp only [Instr.sliceBounds, Option.map_none, Option.map_some, Option.isSome_none, Option.isSome_some, if_true, if_false, Bool.false_eq_true, Sem.run_bind, Sem.run_pure, hr1, h5, h6, Result.andThen_ok]; done)
  cases mx with
  | none =>
    simp only [bound, Option.some.injEq] at h1
    subst h1
    obtain ⟨k1, k2, k3⟩ := key ccap hcc (by simp) rfl
    exact ⟨ccap, k1, k2, k3, .inr ⟨rfl, rfl, rfl⟩⟩
  | some x =>
    have hx : opdOk ng x = true := by simpa using hmx
    have hb := bound_run (P := P) (w := w) hE hG hx h1 .slice3Acap hcc
    obtain ⟨k1, k2, k3⟩ := key m (Nat.le_refl m) (fun _ => rfl) hb.2
    exact ⟨m, k1, k2, k3, .inl ⟨rfl, rfl, hb.1⟩⟩

theorem op_slice (hT : TabOk P T) {t el : TypeId} {i ei : TI} {x : Operand} {lo hi mx : Option Operand} (hti : T t = some i) (hu : i.u = .slice el) (hel : T el = some ei) (hm3 : (mx.isSome && hi.isNone) = false)
    (S : Sim CC ρ h w) (hE : ER ρ e a.tmps) (hG : Globs ng ρ) (hx : opdOk ng x = true) (hlo : (lo.toList).all (opdOk ng) = true) (hhi : (hi.toList).all (opdOk ng) = true) (hmx : (mx.toList).all (opdOk ng) = true)
    (hv : opV e h (.slice ei.size x lo hi mx) = some (v, h')) : Out CC ρ h w v h' (((do pure (Next.value (← Instr.sliceAt t (a.eval x) (lo.map a.eval) (hi.map a.eval) (mx.map a.eval)))) : Sem Next).run P w) := by
  have hi' := (hT t i hti).u
  rw [hu] at hi'
  have hsz := (size_run (w := w) (hT _ _ hel)).1
  have hrx := hE.eval hG hx
  simp only [opV] at hv
  split at hv
  · rename_i sa len cap h0
    split at hv
    · cases hv
    · rename_i m h1
      split at hv
      · cases hv
      · rename_i hh h2
        split at hv
        · cases hv
        · rename_i l h3
          rw [h0] at hrx
          split at hv
          · cases hv
            rw [hrx.nilslice_inv]
            obtain ⟨m', hb, hlh, _, hcase⟩ := bounds_run (P := P) (w := w) hE hG hlo hhi hmx hm3 (Nat.le_refl cap) h1 h2 h3
            have hmm : m' = m := by rcases hcase with ⟨_, h, _⟩ | ⟨_, h, h'⟩ <;> omega
            subst hmm
            refine Out.same S (run_v ?_) (CR.nilslice _ _).vr
            simp only [Instr.sliceAt, Instr.slice, Sem.run_bind, run_underlying hi', Result.andThen_ok, hb, hsz, Sem.run_pure, Option.map_none]
            congr 2
            split <;> rfl
          · rename_i b off
            split at hv
            · rename_i cs ro o s ho
              cases hcz : Nat.beq o 0 || Nat.beq o ei.size with
              | false => simp [hcz] at hv
              | true =>
                simp only [hcz, cond_true, Option.some.injEq, Prod.mk.injEq] at hv
                obtain ⟨rfl, rfl⟩ := hv
                obtain ⟨r, ca, ccap, hr, hc, ⟨hca, hcc, hle⟩⟩ := hrx.slice_inv
                obtain ⟨ccs, el', fr, _, hlen, hopn, _, _, _⟩ := S.obj b r _ hr ho
                have hcap : cap ≤ ccap := by rcases hcc with h | ⟨_, h, _, _⟩ <;> omega
                obtain ⟨m', hb, hlh, hhm, hcase⟩ := bounds_run (P := P) (w := w) hE hG hlo hhi hmx hm3 hcap h1 h2 h3
                have hhm' : hh ≤ m := by
                  cases hi with
                  | some y => exact hhm rfl
                  | none =>
                    simp only [bound, Option.some.injEq] at h2
                    rcases hcase with ⟨hs, _⟩ | ⟨_, h, _⟩
                    · rw [hs] at hm3; simp at hm3
                    · omega
                rw [hc]
                refine Out.same S (c := .slice (some (if m' = l then ca else ca.add (l * ei.size))) (hh - l) (m' - l)) (run_v ?_) (CR.slice hr ⟨?_, ?_, ?_⟩).vr
                · simp only [Instr.sliceAt, Instr.slice, Sem.run_bind, run_underlying hi', Result.andThen_ok, hb, hsz, Sem.run_pure]
                  congr 2
                  split <;> simp
                · by_cases hml : m' = l
                  · right
                    rcases hcase with ⟨_, h, _⟩ | ⟨_, h, h'⟩ <;> omega
                  · left
                    rw [if_neg hml]
                    have hca' : ca = ⟨r.blk, r.base + off, none⟩ := by
                      rcases hca with h | ⟨h1, h2⟩
                      · exact h
                      · rcases hcase with ⟨_, h, _⟩ | ⟨_, h, h'⟩ <;> omega
                    rw [hca', addr_add, Nat.add_assoc]
                · rcases hcase with ⟨_, h, _⟩ | ⟨_, h, h'⟩
                  · left; omega
                  · rcases hcc with h5 | ⟨h5, h6, h7, h8⟩
                    · left; omega
                    · right
                      have hosz : r.opn = ei.size := by
                        rw [hopn]
                        simp only [Bool.or_eq_true] at hcz
                        rcases hcz with h | h
                        · exact absurd (hopn.trans (Nat.eq_of_beq_eq_true h)) h5
                        · exact Nat.eq_of_beq_eq_true h
                      refine ⟨h5, by omega, ?_, ?_⟩
                      · rw [← hosz, h, Nat.sub_mul, ← h7]
                        have : l * r.opn ≤ cap * r.opn := Nat.mul_le_mul_right _ (by omega)
                        omega
                      · rw [← hosz, h', Nat.sub_mul]
                        have : l * r.opn ≤ ccap * r.opn := Nat.mul_le_mul_right _ (by omega)
                        omega
                · omega
            · cases hv
          · cases hv
  · cases hv

/-- What an append adds. -/
def AddsCells (P : Program) (w : World) (t' : TypeId) (size : Nat) (el : TypeId) (x : Value) (n : Nat) (ccs : List Value) : Prop :=
  (∃ el' sa cc, P.underlying t' = some (.slice el') ∧ x = .slice sa n cc ∧ ∀ k, (Builtin.firstCells size n x).run P { w with drawn := k } = .ok ⟨ccs⟩ { w with drawn := k }) ∨
  (∃ k kk, P.underlying t' = some (.int kk) ∧ x = .int k (n : Int) ∧ n ≤ 1099511627776 ∧ ∃ z, (∀ w', (zeroValue el).run P w' = .ok z w') ∧ z.cells.toList.length = size ∧ ccs = repl z.cells.toList n)

theorem news_rel (hT : TabOk P T) {el t' : TypeId} {ei i' : TI} (hel : T el = some ei) (hti : T t' = some i') {zeros : Bool} (hz : if zeros then ∃ k, i'.u = .int k else ∃ el', i'.u = .slice el') (S : Sim CC ρ h w) {x y : Value} (hr : VR ρ x y)
    {n : Nat} {cs : List Value} (hn : news h ei.zero zeros x = some (n, cs)) : ∃ ccs, All2 (KR ρ) cs ccs ∧ cs.length = n * ei.size ∧ AddsCells P w t' ei.size el y n ccs := by
  have hei := hT _ _ hel
  have hut := (hT _ _ hti).u
  unfold news at hn
  split at hn
  · -- zeros
    rename_i k m
    split at hn
    · rename_i hroom
      cases hn
      obtain ⟨kk, hkk⟩ := by simpa using hz
      rw [hkk] at hut
      rw [hr.int_inv]
      refine ⟨_, constCells_rel (constCells_repl hei.zero n), by rw [repl_length, hei.len], .inr ⟨k, kk, hut, rfl, Nat.le_of_ble_eq_true hroom, ?_⟩⟩
      obtain ⟨ti, k1, k2, k3, z, k4, k5⟩ := hei.info
      exact ⟨z, fun w' => by simp [zeroValue, typeInfo, k1, k4], by rw [k5]; exact hei.len, by rw [k5]⟩
    · cases hn
  · -- nil
    rename_i m _
    split at hn
    · rename_i h0
      cases hn
      have h0 := Nat.eq_of_beq_eq_true h0
      subst h0
      obtain ⟨el', hel'⟩ := by simpa using hz
      rw [hel'] at hut
      rw [hr.nilslice_inv]
      exact ⟨[], .nil, by simp, .inl ⟨el', none, _, hut, rfl, fun k => by simp [Builtin.firstCells]⟩⟩
    · cases hn
  · -- a slice
    rename_i b off m _
    obtain ⟨el', hel'⟩ := by simpa using hz
    rw [hel'] at hut
    obtain ⟨r, ca, ccap, hb, hc, ⟨hca, hcc, hle⟩⟩ := hr.slice_inv
    rw [hc]
    split at hn
    · rename_i h0
      cases hn
      have h0 := Nat.eq_of_beq_eq_true h0
      subst h0
      exact ⟨[], .nil, by simp, .inl ⟨el', _, _, hut, rfl, fun k => by simp [Builtin.firstCells, loadCells, loadCellsFrom]⟩⟩
    · rename_i h0
      split at hn
      · rename_i cs' hrd
        cases hn
        have hne : n ≠ 0 := by
          intro e
          rw [e] at h0
          exact h0 rfl
        have hca' : ca = ⟨r.blk, r.base + off, none⟩ := by
          rcases hca with h | ⟨_, h⟩
          · exact h
          · omega
        subst hca'
        obtain ⟨hl, ccs, hk, hcells⟩ := read_rel S hb hrd
        refine ⟨ccs, hk, by rw [hl, hei.len], .inl ⟨el', _, _, hut, rfl, fun k => ?_⟩⟩
        have := run_firstCells_some (P := P) { w with drawn := k } ei.size n ⟨r.blk, r.base + off, none⟩ n ccap ccs (by rw [← hk.length, hl, hei.len]) hcells
        exact this
      · cases hn
  · cases hn

theorem matches_int {d : TypeDesc} : (match d with | .int _ => true | _ => false) = true ↔ ∃ k, d = .int k := by
  cases d <;> simp

theorem zeroCells_const {z : Array Value} {m : Nat} {c : Value} (hz : z.toList.all constCell = true) (hc : c ∈ (Builtin.zeroCells z m).toList) : constCell c = true := by
  simp only [Builtin.zeroCells, Array.toList_map, List.mem_map] at hc
  obtain ⟨i, hi, rfl⟩ := hc
  have hi' : i < m * z.size := by simpa using hi
  have hpos : 0 < z.size := by
    rcases Nat.eq_zero_or_pos z.size with h | h
    · rw [h] at hi'; simp at hi'
    · exact h
  have hlt : i % z.size < z.size := Nat.mod_lt _ hpos
  rw [getElem!_pos z _ hlt]
  exact List.all_eq_true.1 hz _ (by simp)

/-- append, the cells at hand: the first steps -/
theorem append_in {t t' ty el : TypeId} {ei : TI} (hei : TabOk1 P el ei) (hut : P.underlying t = some (.slice el)) {sa : Option Addr} {len ccap n : Nat} {x : Value} {ccs : List Value} (ha : AddsCells P w t' ei.size el x n ccs)
    (hl : ccs.length = n * ei.size) (hsz : 0 < ei.size) (hb : n * ei.bytes ≤ 1099511627776) :
    (len + n ≤ ccap → (Builtin.append_ #[t, t'] ty #[.slice sa len ccap, x]).run P w =
      (((match sa with | some ad => storeCells (ad.add (len * ei.size)) ccs | none => pure ()) : Sem Unit).run P w).andThen fun _ w' => .ok (.slice sa (len + n) ccap) w') ∧
    (ccap < len + n → (len + n) * ei.bytes ≤ 1099511627776 → len + n ≤ 1099511627776 → ∀ olds : List Value, olds.length = len * ei.size →
      (∀ k, (Builtin.firstCells ei.size len (.slice sa len ccap)).run P { w with drawn := k } = .ok ⟨olds⟩ { w with drawn := k }) →
      ∃ (ncap : Nat) (rest : List Value), len + n ≤ ncap ∧ rest.length = (ncap - (len + n)) * ei.size ∧ (∀ c ∈ rest, constCell c = true) ∧
      (Builtin.append_ #[t, t'] ty #[.slice sa len ccap, x]).run P w = .ok (.slice (some ⟨w.heap.size, 0, none⟩) (len + n) ncap) (({ w with drawn := w.drawn + 1 } : World).alloc (.cells ⟨(olds ++ ccs) ++ rest⟩ el))) := by
  obtain ⟨ti, k1, k2, k3, z, k4, k5⟩ := hei.info
  have hzl : z.cells.size = ei.size := by
    have := hei.len; rw [← k5] at this; simpa using this
  have hzcon : ∀ (m : Nat), ∀ c ∈ (Builtin.zeroCells z.cells m).toList, constCell c = true := by
    intro m c hc
    have hz := hei.zero
    rw [← k5] at hz
    exact zeroCells_const hz hc
  rcases ha with ⟨el', xa, xc, hut', rfl, hf⟩ | ⟨k, kk, hut', rfl, hn40, z', hz', hzl', hcc⟩
  · have hfw : (Builtin.firstCells ei.size n (.slice xa n xc)).run P w = .ok ⟨ccs⟩ w := by
      have := hf w.drawn; exact this
    constructor
    · intro hroom
      cases sa with
      | none => simp [Builtin.append_, run_underlying hut, run_underlying hut', sizeOf, typeInfo, k1, k2, Builtin.lenOf, hroom, hfw]
      | some ad => simp [Builtin.append_, run_underlying hut, run_underlying hut', sizeOf, typeInfo, k1, k2, Builtin.lenOf, hroom, hfw]
    · intro hg hby h63 olds hol hold
      have hng : ¬ (len + n ≤ ccap) := by omega
      have h63' : ¬ (9223372036854775807 < ((len : Int) + (n : Int))) := by omega
      have h48' : ¬ (281474976710656 < Builtin.nextslicecap (len + n) ccap * ti.bytes) := by
        rw [k3]
        have := growslice_fits (bytes := ei.bytes) hg (by omega)
        omega
      have hf1 : (Builtin.firstCells ei.size n (.slice xa n xc)).run P w.drew = .ok ⟨ccs⟩ w.drew := hf (w.drawn + 1)
      have hf2 : (Builtin.firstCells ei.size len (.slice sa len ccap)).run P w.drew = .ok ⟨olds⟩ w.drew := hold (w.drawn + 1)
      refine ⟨grownCap w (len + n) ccap el, (Builtin.zeroCells z.cells (grownCap w (len + n) ccap el - (len + n))).toList, grownCap_ge w _ _ _, ?_, hzcon _, ?_⟩
      · have := size_zeroCells z.cells (grownCap w (len + n) ccap el - (len + n))
        rw [hzl] at this
        simpa using this
      · simp [Builtin.append_, run_underlying hut, run_underlying hut', sizeOf, typeInfo, zeroValue, k1, k2, k4, Builtin.lenOf, hng, h63', h48', Question.forced, hf1, hf2, newRow, grownCap]
        congr 2
        apply Array.ext'
        simp [List.append_assoc]
  · have hw : IntKind.i64.wrap (n : Int) = n := by rw [IntKind.wrap_i64]; omega
    have hneg : ¬ ((n : Int) < 0) := by omega
    have h48 : ¬ (281474976710656 < (n : Int) * (ei.bytes : Int)) := by
      have : ((n * ei.bytes : Nat) : Int) ≤ 1099511627776 := Int.ofNat_le.2 hb
      rw [Int.natCast_mul] at this
      omega
    have hz1 := hz' w
    have hzz : z' = z := by
      have h1 : (zeroValue el).run P w = .ok z w := by simp [zeroValue, typeInfo, k1, k4]
      rw [hz1] at h1; injection h1
    subst hzz
    have hcz : n * ei.size = 0 → ccs = [] := fun h => List.eq_nil_of_length_eq_zero (by rw [hl, h])
    have hzc : (Builtin.zeroCells z'.cells n) = ⟨ccs⟩ := by
      apply Array.ext'
      rw [hcc, repl_made (.inl (by rw [hzl']; exact hsz)), hzl']
      have : z'.cells = ⟨z'.cells.toList⟩ := rfl
      simp [Builtin.zeroCells, hzl]
    have hn0 : n * ei.size = 0 ↔ n = 0 := by
      constructor
      · intro h
        rcases Nat.mul_eq_zero.1 h with h | h
        · exact h
        · omega
      · rintro rfl; simp
    have hw0 : IntKind.i64.wrap 0 = 0 := by rw [IntKind.wrap_i64]; omega
    by_cases hn : n = 0
    · subst hn
      have hc0 : ccs = [] := hcz (by simp)
      subst hc0
      constructor
      · intro hroom
        have hroom' : len ≤ ccap := by omega
        cases sa with
        | none => simp [Builtin.append_, run_underlying hut, run_underlying hut', sizeOf, typeInfo, k1, k2, asInt, asIntOf, hw0, hroom', storeCells]
        | some ad => simp [Builtin.append_, run_underlying hut, run_underlying hut', sizeOf, typeInfo, k1, k2, asInt, asIntOf, hw0, hroom', storeCells]
      · intro hg hby h63 olds hol hold
        have hng : ¬ (len + 0 ≤ ccap) := by omega
        have hng' : ¬ (len ≤ ccap) := by omega
        have h63' : ¬ (9223372036854775807 < (len : Int)) := by omega
        have h48' : ¬ (281474976710656 < Builtin.nextslicecap len ccap * ti.bytes) := by
          rw [k3]
          have := growslice_fits (bytes := ei.bytes) hg (by omega)
          simp only [Nat.add_zero] at this
          omega
        have hf2 : (Builtin.firstCells ei.size len (.slice sa len ccap)).run P w.drew = .ok ⟨olds⟩ w.drew := hold (w.drawn + 1)
        refine ⟨grownCap w (len + 0) ccap el, (Builtin.zeroCells z'.cells (grownCap w (len + 0) ccap el - (len + 0))).toList, grownCap_ge w _ _ _, ?_, hzcon _, ?_⟩
        · have := size_zeroCells z'.cells (grownCap w (len + 0) ccap el - (len + 0))
          rw [hzl] at this
          simpa using this
        · simp [Builtin.append_, run_underlying hut, run_underlying hut', sizeOf, typeInfo, zeroValue, k1, k2, k4, asInt, asIntOf, hw0, hng', h63', h48', Question.forced, hf2, newRow, grownCap]
          congr 2
          apply Array.ext'
          simp
    · have hns : ¬ (n * ei.size = 0) := fun h => hn (hn0.1 h)
      have hz0 : ¬ (ei.size = 0) := by omega
      constructor
      · intro hroom
        cases sa with
        | none => simp [Builtin.append_, run_underlying hut, run_underlying hut', sizeOf, typeInfo, zeroValue, k1, k2, k3, k4, asInt, asIntOf, hw, hneg, h48, hroom, hn, hz0, hzc]
        | some ad =>
          simp [Builtin.append_, run_underlying hut, run_underlying hut', sizeOf, typeInfo, zeroValue, k1, k2, k3, k4, asInt, asIntOf, hw, hneg, h48, hroom, hn, hz0, hzc]
          intro h0
          exact absurd h0 hns
      · intro hg hby h63 olds hol hold
        have hng : ¬ (len + n ≤ ccap) := by omega
        have h63' : ¬ (9223372036854775807 < ((len : Int) + (n : Int))) := by omega
        have h48' : ¬ (281474976710656 < Builtin.nextslicecap (len + n) ccap * ei.bytes) := by
          have := growslice_fits (bytes := ei.bytes) hg (by omega)
          omega
        have hf2 : (Builtin.firstCells ei.size len (.slice sa len ccap)).run P w.drew = .ok ⟨olds⟩ w.drew := hold (w.drawn + 1)
        refine ⟨grownCap w (len + n) ccap el, (Builtin.zeroCells z'.cells (grownCap w (len + n) ccap el - (len + n))).toList, grownCap_ge w _ _ _, ?_, hzcon _, ?_⟩
        · have := size_zeroCells z'.cells (grownCap w (len + n) ccap el - (len + n))
          rw [hzl] at this
          simpa using this
        · simp [Builtin.append_, run_underlying hut, run_underlying hut', sizeOf, typeInfo, zeroValue, k1, k2, k3, k4, asInt, asIntOf, hw, hneg, h48, hng, h63', h48', hn, hz0, Question.forced, hf2, newRow, grownCap, hzc]
          rw [if_neg hns]
          congr 3
          apply Array.ext'
          simp [List.append_assoc]
end
end Go.AI
