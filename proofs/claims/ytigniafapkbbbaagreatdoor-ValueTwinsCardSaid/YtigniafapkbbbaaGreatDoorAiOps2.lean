/- The operations on values. -/
import Derived.Test.YtigniafapkbbbaaGreatDoorAiEq
namespace Go.AI

section
variable {P : Program} {CC : CodeRel} {ρ : Rho} {h : Heap} {w : World} {T : Tab} {ng : Nat} {e : Env} {a : Act} {c : Value}

theorem VR.int_inv {k : IntKind} {n : Int} (h : VR ρ (.int k n) c) : c = .int k n := by
  cases h with
  | val h => cases h with
    | cell h => cases h with
      | cell h => cases h; rfl
theorem VR.bool_inv {b : Bool} (h : VR ρ (.bool b) c) : c = .bool b := by
  cases h with
  | val h => cases h with
    | cell h => cases h with
      | cell h => cases h; rfl
theorem VR.str_inv {s : ByteArray} (h : VR ρ (.string s) c) : c = .string s := by
  cases h with
  | val h => cases h with
    | cell h => cases h with
      | cell h => cases h; rfl
theorem VR.ptr_inv {b o : Nat} (h : VR ρ (.pointer (some ⟨b, o, none⟩)) c) : ∃ r, ρ b = some r ∧ c = .pointer (some ⟨r.blk, r.base + o, none⟩) := by
  cases h with
  | val h => cases h with
    | cell h => cases h with
      | cell h => cases h with
        | ptr h => exact ⟨_, h, rfl⟩
theorem VR.nilptr_inv (h : VR ρ (.pointer none) c) : c = .pointer none := by
  cases h with
  | val h => cases h with
    | cell h => cases h with
      | cell h => cases h; rfl
theorem VR.ptr_some {x : Addr} (h : VR ρ (.pointer (some x)) c) : ∃ y, c = .pointer (some y) := by
  cases h with
  | val h => cases h with
    | cell h => cases h with
      | cell h => cases h with
        | ptr h => exact ⟨_, rfl⟩
theorem VR.slice_inv {b o n cp : Nat} (h : VR ρ (.slice (some ⟨b, o, none⟩) n cp) c) : ∃ r ca ccap, ρ b = some r ∧ c = .slice (some ca) n ccap ∧ SliceOk r o n cp ca ccap := by
  cases h with
  | val h => cases h with
    | cell h => cases h with
      | cell h => cases h with
        | slice h hs => exact ⟨_, _, _, h, rfl, hs⟩
theorem VR.nilslice_inv {n cp : Nat} (h : VR ρ (.slice none n cp) c) : c = .slice none n cp := by
  cases h with
  | val h => cases h with
    | cell h => cases h with
      | cell h => cases h; rfl
theorem VR.slice_len {x : Option Addr} {n cp : Nat} (h : VR ρ (.slice x n cp) c) : ∃ y ccap, c = .slice y n ccap ∧ y.isNone = x.isNone := by
  cases h with
  | val h => cases h with
    | cell h => cases h with
      | cell h => cases h with
        | nilslice => exact ⟨_, _, rfl, rfl⟩
        | slice h hs => exact ⟨_, _, rfl, rfl⟩
theorem VR.map_len {x : Option Nat} (h : VR ρ (.map x) c) : ∃ y, c = .map y ∧ y.isNone = x.isNone := by
  cases h with
  | val h => cases h with
    | cell h => cases h with
      | cell h => cases h with
        | nilmap => exact ⟨_, rfl, rfl⟩
        | map h => exact ⟨_, rfl, rfl⟩
theorem VR.nilfunc_inv (h : VR ρ .nilFunc c) : c = .nilFunc := by
  cases h with
  | val h => cases h with
    | cell h => cases h with
      | cell h => cases h; rfl
theorem VR.func_inv {fn : Fn} {x y : Array Value} (h : VR ρ (.func fn x y) c) : ∃ fn' x' y', c = .func fn' x' y' := by
  cases h with
  | val h => cases h with
    | cell h => cases h with
      | cell h => cases h
      | fn => exact ⟨_, _, _, rfl⟩
      | yield => exact ⟨_, _, _, rfl⟩
theorem VR.agg_inv {l : Array Value} (h : VR ρ (.agg l) c) : ∃ m, c = .agg ⟨m⟩ ∧ All2 (KR ρ) l.toList m := by
  cases h with
  | val h => cases h with
    | cell h => exact absurd h.plain.1 (by simp [AI.plain])
    | agg h => exact ⟨_, rfl, h⟩
theorem VR.atl_inv {n : Nat} (h : VR ρ (.chan (some n)) c) : ∃ m : Nat, c = .int .i64 m ∧ n ≤ m := by
  cases h with
  | val h => cases h with
    | cell h => cases h with
      | cell h => cases h
  | atl h => exact ⟨_, rfl, h⟩
theorem VR.tuple_inv {l : Array Value} (h : VR ρ (.tuple l) c) : ∃ m, c = .tuple ⟨m⟩ ∧ All2 (AR ρ) l.toList m := by
  cases h with
  | val h => cases h with
    | cell h => exact absurd h.plain.1 (by simp [AI.plain])
  | tuple h => exact ⟨_, rfl, h⟩

theorem VR.agg {l m : List Value} (h : All2 (KR ρ) l m) : VR ρ (.agg ⟨l⟩) (.agg ⟨m⟩) := .val (.agg h)

theorem op_pick {x y z : Operand} {v : Value} (S : Sim CC ρ h w) (hE : ER ρ e a.tmps) (hG : Globs ng ρ) (hx : opdOk ng x = true) (hy : opdOk ng y = true) (hz : opdOk ng z = true) {h' : Heap}
    (hv : opV e h (.pick x y z) = some (v, h')) : Out CC ρ h w v h' (((do pure (.value (if ← asBool (a.eval x) then a.eval y else a.eval z))) : Sem Next).run P w) := by
  have hr := hE.eval hG hx
  simp only [opV] at hv
  split at hv
  · rename_i heq
    cases hv
    rw [heq] at hr
    rw [hr.bool_inv]
    exact Out.same S (by simp [asBool]) (hE.eval hG hy)
  · rename_i heq
    cases hv
    rw [heq] at hr
    rw [hr.bool_inv]
    exact Out.same S (by simp [asBool]) (hE.eval hG hz)
  · cases hv

theorem intBin_run {op : BinOp} {k : IntKind} {t : TypeId} {x y : Int} {v : Value} (hv : intBin op k x y = some v) :
    (binOp op t (.int k x) (.int k y)).run P w = .ok v w ∧ VR ρ v v := by
  cases op <;> simp only [intBin] at hv <;> first
    | (cases hv; exact ⟨by simp [binOp, Op.intBits, Op.intCmp, Op.intArith], CR.vr (by constructor)⟩)
    | (split at hv
       · cases hv
       · rename_i hz
         cases hv
         refine ⟨?_, CR.vr (by constructor)⟩
         simp [binOp, Op.intDiv, hz])
    | (cases hv; done)

theorem shiftBin_run {op : BinOp} {k k' : IntKind} {t : TypeId} {x y : Int} {v : Value} (hop : op = .shl ∨ op = .shr) (hv : shiftBin op k x y = some v) :
    (binOp op t (.int k x) (.int k' y)).run P w = .ok v w ∧ VR ρ v v := by
  unfold shiftBin at hv
  split at hv
  · cases hv
  · rename_i hneg
    rcases hop with rfl | rfl <;> (cases hv; refine ⟨?_, CR.vr (by constructor)⟩; simp [binOp, Op.shift, hneg])

theorem eqGuard_plain {op : BinOp} {t : TypeId} {x y : Operand} {p q : Value} (h1 : p ≠ .nilIface) (h2 : ∀ l, p ≠ .agg l) : (eqGuard op t x y p q).run P w = .ok () w := by
  have h3 : (match p, q with
    | .nilIface, .nilIface => False
    | .agg _, .agg _ => False
    | _, _ => True) := by
    cases p <;> first | trivial | (exact absurd rfl h1) | (exact absurd rfl (h2 _)) | (cases q <;> trivial)
  cases op <;> first
    | rfl
    | (cases p <;> first | rfl | (exact absurd rfl h1) | (exact absurd rfl (h2 _)) | (cases q <;> rfl))

theorem eqGuard_other {op : BinOp} {t : TypeId} {x y : Operand} {p q : Value} (h1 : op ≠ .eql) (h2 : op ≠ .neq) : (eqGuard op t x y p q).run P w = .ok () w := by
  unfold eqGuard
  cases op <;> first | rfl | (exact absurd rfl h1) | (exact absurd rfl h2)

/-- what a type's kinds are -/
def KindsAre (T : Tab) (t : Nat) (u : TypeDesc) (ks : List Nat) : Prop :=
  (∃ el, u = .slice el ∧ ks = [3]) ∨ (∃ el, u = .pointer el ∧ ks = [4]) ∨ (∃ k el, u = .map k el ∧ ks = [5]) ∨ (∃ ps rs vr, u = .func ps rs vr ∧ ks = [6]) ∨
  (∃ (_ : Unit) (ks' : List Nat), isAggD u = true ∧ kinds T 9 t = some ks' ∧ ks = 9 :: ks') ∨ (u = .bool ∧ ks = [0]) ∨ (∃ k, u = .int k ∧ ks = [1]) ∨ (u = .string ∧ ks = [2])

section
variable {t : TypeId} {d : Nat}
theorem eqIn_slice1 {el : TypeId} (hu : P.underlying t = some (.slice el)) (n m n' m' : Nat) (y : Option Addr) : (Op.equalIn (d + 1) t (.slice none n m) (.slice y n' m')).run P w = .ok y.isNone w := by
  simp only [Op.equalIn, Sem.run_bind, run_underlying hu, Result.andThen_ok, Sem.run_pure]
theorem eqIn_slice2 {el : TypeId} (hu : P.underlying t = some (.slice el)) (n m n' m' : Nat) (y : Addr) : (Op.equalIn (d + 1) t (.slice (some y) n m) (.slice none n' m')).run P w = .ok false w := by
  simp only [Op.equalIn, Sem.run_bind, run_underlying hu, Result.andThen_ok, Sem.run_pure]
theorem eqIn_ptr1 {el : TypeId} (hu : P.underlying t = some (.pointer el)) (y : Option Addr) : (Op.equalIn (d + 1) t (.pointer none) (.pointer y)).run P w = .ok y.isNone w := by
  simp only [Op.equalIn, Sem.run_bind, run_underlying hu, Result.andThen_ok, Sem.run_pure]
theorem eqIn_ptr2 {el : TypeId} (hu : P.underlying t = some (.pointer el)) (y : Addr) : (Op.equalIn (d + 1) t (.pointer (some y)) (.pointer none)).run P w = .ok false w := by
  simp only [Op.equalIn, Sem.run_bind, run_underlying hu, Result.andThen_ok, Sem.run_pure]
theorem eqIn_map1 {k el : TypeId} (hu : P.underlying t = some (.map k el)) (y : Option Nat) : (Op.equalIn (d + 1) t (.map none) (.map y)).run P w = .ok y.isNone w := by
  simp only [Op.equalIn, Sem.run_bind, run_underlying hu, Result.andThen_ok, Sem.run_pure]
theorem eqIn_map2 {k el : TypeId} (hu : P.underlying t = some (.map k el)) (y : Nat) : (Op.equalIn (d + 1) t (.map (some y)) (.map none)).run P w = .ok false w := by
  simp only [Op.equalIn, Sem.run_bind, run_underlying hu, Result.andThen_ok, Sem.run_pure]
theorem eqIn_func1 {ps rs : Array TypeId} {vr : Bool} (hu : P.underlying t = some (.func ps rs vr)) : (Op.equalIn (d + 1) t .nilFunc .nilFunc).run P w = .ok true w := by
  simp only [Op.equalIn, Sem.run_bind, run_underlying hu, Result.andThen_ok, Sem.run_pure]
theorem eqIn_func2 {ps rs : Array TypeId} {vr : Bool} (hu : P.underlying t = some (.func ps rs vr)) (f : Fn) (x y : Array Value) : (Op.equalIn (d + 1) t .nilFunc (.func f x y)).run P w = .ok false w := by
  simp only [Op.equalIn, Sem.run_bind, run_underlying hu, Result.andThen_ok, Sem.run_pure]
theorem eqIn_func3 {ps rs : Array TypeId} {vr : Bool} (hu : P.underlying t = some (.func ps rs vr)) (f : Fn) (x y : Array Value) : (Op.equalIn (d + 1) t (.func f x y) .nilFunc).run P w = .ok false w := by
  simp only [Op.equalIn, Sem.run_bind, run_underlying hu, Result.andThen_ok, Sem.run_pure]
end

theorem eq_of_in {t : TypeId} {p q : Value} {b : Bool} (h1 : ∀ k n k' n', ¬ (p = .int k n ∧ q = .int k' n')) (h2 : ∀ k n k' n', ¬ (p = .float k n ∧ q = .float k' n'))
    (h4 : ∀ s s', ¬ (p = .string s ∧ q = .string s')) (h5 : ∀ k n m k' n' m', ¬ (p = .complex k n m ∧ q = .complex k' n' m')) (h3 : (Op.equalIn (9999 + 1) t p q).run P w = .ok b w) :
    (binOp .eql t p q).run P w = .ok (.bool b) w ∧ (binOp .neq t p q).run P w = .ok (.bool (!b)) w := by
  have h3' : (Op.equal t p q).run P w = .ok b w := h3
  constructor
  · unfold binOp
    split <;> first
      | (exact absurd ⟨rfl, rfl⟩ (h1 _ _ _ _))
      | (exact absurd ⟨rfl, rfl⟩ (h2 _ _ _ _))
      | (exact absurd ⟨rfl, rfl⟩ (h4 _ _))
      | (exact absurd ⟨rfl, rfl⟩ (h5 _ _ _ _ _ _))
      | contradiction
      | (simp only [Sem.run_bind, h3', Result.andThen_ok, Sem.run_pure]; done)
  · unfold binOp
    split <;> first
      | (exact absurd ⟨rfl, rfl⟩ (h1 _ _ _ _))
      | (exact absurd ⟨rfl, rfl⟩ (h2 _ _ _ _))
      | (exact absurd ⟨rfl, rfl⟩ (h4 _ _))
      | (exact absurd ⟨rfl, rfl⟩ (h5 _ _ _ _ _ _))
      | contradiction
      | (simp only [Sem.run_bind, h3', Result.andThen_ok, Sem.run_pure]; done)

/-- the values that are compared, on the true side -/
theorem eqVal_run (hT : TabOk P T) {t : Nat} {i : TI} {ks : List Nat} (hti : T t = some i) (hks : KindsAre T t i.u ks)
    {v v' c' : Value} {b : Bool} (hv : VR ρ v c) (hv' : VR ρ v' c') (he : eqVal ks v v' = some b) {x y : Operand} {op : BinOp} :
    (eqGuard op t x y c c').run P w = .ok () w ∧ (binOp .eql t c c').run P w = .ok (.bool b) w ∧ (binOp .neq t c c').run P w = .ok (.bool (!b)) w := by
  have hi := hT t i hti
  have depth : 9 ≤ P.depth := by unfold Program.depth Made.depth; omega
  unfold eqVal at he
  split at he
  · -- aggregates
    rename_i l l'
    obtain ⟨m, rfl, hm⟩ := hv.agg_inv
    obtain ⟨m', rfl, hm'⟩ := hv'.agg_inv
    rcases hks with ⟨_, _, rfl⟩ | ⟨_, _, rfl⟩ | ⟨_, _, _, rfl⟩ | ⟨_, _, _, _, rfl⟩ | ⟨fs, ks', hu, hk, rfl⟩ | ⟨_, rfl⟩ | ⟨_, _, rfl⟩ | ⟨_, rfl⟩
    · cases he
    · cases he
    · cases he
    · cases he
    · have he' := eqCells_rel hm hm' he
      have hag : i.agg = true := by rw [hi.agg, hu]
      have hrun := equal_run hT 9 t i 10000 ks' hti hk (by omega) m m' b he' w
      simp only [valOf, hag, cond_true] at hrun
      refine ⟨run_eqGuard_agg w op t x y _ _ (eqGuardType_kinds hT 9 t P.depth ks' hk depth), ?_, ?_⟩
      · rw [run_eql_struct, hrun]; rfl
      · rw [run_neq_struct, hrun]; rfl
    · cases he
    · cases he
    · cases he
  · rename_i hna
    have hu := hi.u
    split at he
    · -- slices
      have hsl : ∃ el, i.u = .slice el := by
        rcases hks with ⟨el, h, _⟩ | ⟨_, _, h⟩ | ⟨_, _, _, h⟩ | ⟨_, _, _, _, h⟩ | ⟨_, _, _, _, h⟩ | ⟨_, h⟩ | ⟨_, _, h⟩ | ⟨_, h⟩ <;> first | exact ⟨_, h⟩ | (simp at h; done)
      obtain ⟨el, hel⟩ := hsl
      rw [hel] at hu
      split at he
      · cases he
        rw [hv.nilslice_inv]
        obtain ⟨y', cc, rfl, hy⟩ := hv'.slice_len
        refine ⟨eqGuard_plain (by simp) (by simp), eq_of_in (by simp) (by simp) (by simp) (by simp) ?_⟩; rw [← hy]; first | exact eqIn_slice1 hu _ _ _ _ _ | exact eqIn_map1 hu _
      · cases he
        obtain ⟨y', cc, rfl, hy⟩ := hv.slice_len
        rw [hv'.nilslice_inv]
        refine ⟨eqGuard_plain (by simp) (by simp), ?_⟩
        cases y' with
        | none => simp at hy
        | some z => exact eq_of_in (by simp) (by simp) (by simp) (by simp) (by first | exact eqIn_slice1 hu _ _ _ _ _ | exact eqIn_slice2 hu _ _ _ _ _ | exact eqIn_ptr1 hu _ | exact eqIn_ptr2 hu _ | exact eqIn_map2 hu _ | exact eqIn_func1 hu | exact eqIn_func2 hu _ _ _ | exact eqIn_func3 hu _ _ _)
      · cases he
    · -- pointers
      have hsl : ∃ el, i.u = .pointer el := by
        rcases hks with ⟨el, _, h⟩ | ⟨_, h, _⟩ | ⟨_, _, _, h⟩ | ⟨_, _, _, _, h⟩ | ⟨_, _, _, _, h⟩ | ⟨_, h⟩ | ⟨_, _, h⟩ | ⟨_, h⟩ <;> first | exact ⟨_, h⟩ | (simp at h; done)
      obtain ⟨el, hel⟩ := hsl
      rw [hel] at hu
      split at he
      · rename_i z
        cases he
        rw [hv.nilptr_inv]
        cases z with
        | none =>
          rw [hv'.nilptr_inv]
          exact ⟨eqGuard_plain (by simp) (by simp), eq_of_in (by simp) (by simp) (by simp) (by simp) (by first | exact eqIn_slice1 hu _ _ _ _ _ | exact eqIn_slice2 hu _ _ _ _ _ | exact eqIn_ptr1 hu _ | exact eqIn_ptr2 hu _ | exact eqIn_map2 hu _ | exact eqIn_func1 hu | exact eqIn_func2 hu _ _ _ | exact eqIn_func3 hu _ _ _)⟩
        | some z =>
          obtain ⟨y', rfl⟩ := hv'.ptr_some
          exact ⟨eqGuard_plain (by simp) (by simp), eq_of_in (by simp) (by simp) (by simp) (by simp) (by first | exact eqIn_slice1 hu _ _ _ _ _ | exact eqIn_slice2 hu _ _ _ _ _ | exact eqIn_ptr1 hu _ | exact eqIn_ptr2 hu _ | exact eqIn_map2 hu _ | exact eqIn_func1 hu | exact eqIn_func2 hu _ _ _ | exact eqIn_func3 hu _ _ _)⟩
      · cases he
        obtain ⟨y', rfl⟩ := hv.ptr_some
        rw [hv'.nilptr_inv]
        exact ⟨eqGuard_plain (by simp) (by simp), eq_of_in (by simp) (by simp) (by simp) (by simp) (by first | exact eqIn_slice1 hu _ _ _ _ _ | exact eqIn_slice2 hu _ _ _ _ _ | exact eqIn_ptr1 hu _ | exact eqIn_ptr2 hu _ | exact eqIn_map2 hu _ | exact eqIn_func1 hu | exact eqIn_func2 hu _ _ _ | exact eqIn_func3 hu _ _ _)⟩
      · cases he
    · -- maps
      have hsl : ∃ k el, i.u = .map k el := by
        rcases hks with ⟨el, _, h⟩ | ⟨_, _, h⟩ | ⟨_, _, h, _⟩ | ⟨_, _, _, _, h⟩ | ⟨_, _, _, _, h⟩ | ⟨_, h⟩ | ⟨_, _, h⟩ | ⟨_, h⟩ <;> first | exact ⟨_, _, h⟩ | (simp at h; done)
      obtain ⟨k, el, hel⟩ := hsl
      rw [hel] at hu
      split at he
      · cases he
        obtain ⟨y0, rfl, hy0⟩ := hv.map_len
        obtain ⟨y', rfl, hy⟩ := hv'.map_len
        cases y0 with
        | some z => simp at hy0
        | none =>
          refine ⟨eqGuard_plain (by simp) (by simp), eq_of_in (by simp) (by simp) (by simp) (by simp) ?_⟩; rw [← hy]; first | exact eqIn_slice1 hu _ _ _ _ _ | exact eqIn_map1 hu _
      · cases he
        obtain ⟨y0, rfl, hy0⟩ := hv.map_len
        obtain ⟨y', rfl, hy⟩ := hv'.map_len
        cases y0 with
        | none => simp at hy0
        | some z => cases y' with
          | some z => simp at hy
          | none => exact ⟨eqGuard_plain (by simp) (by simp), eq_of_in (by simp) (by simp) (by simp) (by simp) (by first | exact eqIn_slice1 hu _ _ _ _ _ | exact eqIn_slice2 hu _ _ _ _ _ | exact eqIn_ptr1 hu _ | exact eqIn_ptr2 hu _ | exact eqIn_map2 hu _ | exact eqIn_func1 hu | exact eqIn_func2 hu _ _ _ | exact eqIn_func3 hu _ _ _)⟩
      · cases he
    · -- functions
      have hsl : ∃ ps rs vr, i.u = .func ps rs vr := by
        rcases hks with ⟨el, _, h⟩ | ⟨_, _, h⟩ | ⟨_, _, _, h⟩ | ⟨_, _, _, h, _⟩ | ⟨_, _, _, _, h⟩ | ⟨_, h⟩ | ⟨_, _, h⟩ | ⟨_, h⟩ <;> first | exact ⟨_, _, _, h⟩ | (simp at h; done)
      obtain ⟨ps, rs, vr, hel⟩ := hsl
      rw [hel] at hu
      split at he
      · cases he
        rw [hv.nilfunc_inv, hv'.nilfunc_inv]
        exact ⟨eqGuard_plain (by simp) (by simp), eq_of_in (by simp) (by simp) (by simp) (by simp) (by first | exact eqIn_slice1 hu _ _ _ _ _ | exact eqIn_slice2 hu _ _ _ _ _ | exact eqIn_ptr1 hu _ | exact eqIn_ptr2 hu _ | exact eqIn_map2 hu _ | exact eqIn_func1 hu | exact eqIn_func2 hu _ _ _ | exact eqIn_func3 hu _ _ _)⟩
      · cases he
        obtain ⟨_, _, _, rfl⟩ := hv'.func_inv
        rw [hv.nilfunc_inv]
        exact ⟨eqGuard_plain (by simp) (by simp), eq_of_in (by simp) (by simp) (by simp) (by simp) (by first | exact eqIn_slice1 hu _ _ _ _ _ | exact eqIn_slice2 hu _ _ _ _ _ | exact eqIn_ptr1 hu _ | exact eqIn_ptr2 hu _ | exact eqIn_map2 hu _ | exact eqIn_func1 hu | exact eqIn_func2 hu _ _ _ | exact eqIn_func3 hu _ _ _)⟩
      · cases he
        obtain ⟨_, _, _, rfl⟩ := hv.func_inv
        rw [hv'.nilfunc_inv]
        exact ⟨eqGuard_plain (by simp) (by simp), eq_of_in (by simp) (by simp) (by simp) (by simp) (by first | exact eqIn_slice1 hu _ _ _ _ _ | exact eqIn_slice2 hu _ _ _ _ _ | exact eqIn_ptr1 hu _ | exact eqIn_ptr2 hu _ | exact eqIn_map2 hu _ | exact eqIn_func1 hu | exact eqIn_func2 hu _ _ _ | exact eqIn_func3 hu _ _ _)⟩
      · cases he
    · -- one cell
      unfold eqCell at he
      split at he
      · have hb : i.u = .bool := by
          rcases hks with ⟨el, _, h⟩ | ⟨_, _, h⟩ | ⟨_, _, _, h⟩ | ⟨_, _, _, _, h⟩ | ⟨_, _, _, _, h⟩ | ⟨h, _⟩ | ⟨_, _, h⟩ | ⟨_, h⟩ <;> first | exact h | (simp at h; done)
        cases he
        rw [hv.bool_inv, hv'.bool_inv]
        rw [hb] at hu
        exact ⟨eqGuard_plain (by simp) (by simp), eq_of_in (by simp) (by simp) (by simp) (by simp) (run_equalIn_bool' w _ t _ _ hu)⟩
      · rw [hv.int_inv, hv'.int_inv]
        split at he
        · rename_i hk; subst hk
          cases he
          refine ⟨eqGuard_plain (by simp) (by simp), ?_, ?_⟩
          · simp [binOp, Op.intCmp]
          · simp only [binOp, ne_eq, not_true_eq_false, if_false, Op.intCmp, Sem.run_pure]
            rfl
        · cases he
      · cases he
        rw [hv.str_inv, hv'.str_inv]
        refine ⟨eqGuard_plain (by simp) (by simp), ?_, ?_⟩
        · simp [binOp, Op.stringOp, beq_toListBytes]
        · simp [binOp, Op.stringOp, beq_toListBytes]
      · cases he
    · cases he
end
end Go.AI
