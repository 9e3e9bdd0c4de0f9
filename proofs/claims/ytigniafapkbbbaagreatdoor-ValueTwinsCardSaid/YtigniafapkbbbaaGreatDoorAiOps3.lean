/- The operations on values, continued; slices. -/
import Derived.Test.YtigniafapkbbbaaGreatDoorAiOps2
namespace Go.AI

section
variable {P : Program} {CC : CodeRel} {ρ : Rho} {h h' : Heap} {w : World} {T : Tab} {ng : Nat} {e : Env} {a : Act} {c v : Value}

/-- an integer operation that is no comparison for equality -/
theorem op_bin_int {op : BinOp} {t : TypeId} {x y : Operand} (S : Sim CC ρ h w) (hE : ER ρ e a.tmps) (hG : Globs ng ρ) (hx : opdOk ng x = true) (hy : opdOk ng y = true)
    {ks : List Nat} (hn : op ≠ .eql ∧ op ≠ .neq) (hv : opV e h (.bin op ks x y) = some (v, h')) :
    Out CC ρ h w v h' (((do pure (Next.value (← (do eqGuard op t x y (a.eval x) (a.eval y); binOp op t (a.eval x) (a.eval y))))) : Sem Next).run P w) := by
  have hrx := hE.eval hG hx
  have hry := hE.eval hG hy
  simp only [opV] at hv
  split at hv
  · rename_i r hb
    cases hv
    have key : (binOp op t (a.eval x) (a.eval y)).run P w = .ok v w ∧ VR ρ v v := by
      unfold binV at hb
      split at hb
      · split at hb
        · rename_i h1 h2; rw [h1] at hrx; rw [h2] at hry; rw [hrx.int_inv, hry.int_inv]; exact shiftBin_run (.inl rfl) hb
        · cases hb
      · split at hb
        · rename_i h1 h2; rw [h1] at hrx; rw [h2] at hry; rw [hrx.int_inv, hry.int_inv]; exact shiftBin_run (.inr rfl) hb
        · cases hb
      · exact absurd rfl hn.1
      · exact absurd rfl hn.2
      · split at hb
        · rename_i h1 h2
          rw [h1] at hrx; rw [h2] at hry; rw [hrx.int_inv, hry.int_inv]
          split at hb
          · rename_i hk; subst hk; exact intBin_run hb
          · cases hb
        · rename_i x' cap' h1 h2
          rw [h1] at hrx; rw [h2] at hry
          rw [hrx.int_inv]
          obtain ⟨m, hm, hle⟩ := hry.atl_inv
          rw [hm]
          split at hb
          · rename_i hle'
            cases hb
            have hfalse : decide (x' > (m : Int)) = false := by simp; omega
            have := intBin_run (op := .gtr) (t := t) (k := .i64) (x := x') (y := (m : Int)) (P := P) (w := w) (ρ := ρ) (v := .bool false) (by simp only [intBin]; rw [hfalse])
            exact this
          · cases hb
        · cases hb
      · split at hb
        · rename_i h1 h2
          rw [h1] at hrx; rw [h2] at hry; rw [hrx.int_inv, hry.int_inv]
          split at hb
          · rename_i hk; subst hk; exact intBin_run hb
          · cases hb
        · cases hb
    refine Out.same S (run_v ?_) key.2
    simp only [Sem.run_bind, eqGuard_other hn.1 hn.2, Result.andThen_ok, key.1]
  · cases hv

theorem op_bin_eq (hT : TabOk P T) {op : BinOp} {t : TypeId} {i : TI} {x y : Operand} (S : Sim CC ρ h w) (hE : ER ρ e a.tmps) (hG : Globs ng ρ) (hx : opdOk ng x = true) (hy : opdOk ng y = true)
    {ks : List Nat} (hop : op = .eql ∨ op = .neq) (hti : T t = some i) (hks : KindsAre T t i.u ks) (hv : opV e h (.bin op ks x y) = some (v, h')) :
    Out CC ρ h w v h' (((do pure (Next.value (← (do eqGuard op t x y (a.eval x) (a.eval y); binOp op t (a.eval x) (a.eval y))))) : Sem Next).run P w) := by
  have hrx := hE.eval hG hx
  have hry := hE.eval hG hy
  simp only [opV] at hv
  split at hv
  · rename_i r hb
    cases hv
    have key : (eqGuard op t x y (a.eval x) (a.eval y)).run P w = .ok () w ∧ (binOp op t (a.eval x) (a.eval y)).run P w = .ok v w ∧ VR ρ v v := by
      rcases hop with rfl | rfl
      · simp only [binV] at hb
        split at hb
        · rename_i h1 h2
          rw [h1] at hrx; rw [h2] at hry; rw [hrx.int_inv, hry.int_inv]
          split at hb
          · rename_i hk; subst hk; exact ⟨eqGuard_plain (by simp) (by simp), intBin_run hb⟩
          · cases hb
        · split at hb
          · rename_i b he
            cases hb
            have := eqVal_run (w := w) hT hti hks hrx hry he (x := x) (y := y) (op := .eql)
            exact ⟨this.1, this.2.1, VR.bool _⟩
          · cases hb
      · simp only [binV] at hb
        split at hb
        · rename_i h1 h2
          rw [h1] at hrx; rw [h2] at hry; rw [hrx.int_inv, hry.int_inv]
          split at hb
          · rename_i hk; subst hk; exact ⟨eqGuard_plain (by simp) (by simp), intBin_run hb⟩
          · cases hb
        · split at hb
          · rename_i b he
            cases hb
            have := eqVal_run (w := w) hT hti hks hrx hry he (x := x) (y := y) (op := .neq)
            exact ⟨this.1, this.2.2, VR.bool _⟩
          · cases hb
    refine Out.same S (run_v ?_) key.2.2
    simp only [Sem.run_bind, key.1, Result.andThen_ok, key.2.1]
  · cases hv

theorem op_un {op : UnOp} {x : Operand} (S : Sim CC ρ h w) (hE : ER ρ e a.tmps) (hG : Globs ng ρ) (hx : opdOk ng x = true) (hv : opV e h (.un op x) = some (v, h')) :
    Out CC ρ h w v h' (((do pure (Next.value (← Op.unary op (a.eval x)))) : Sem Next).run P w) := by
  have hrx := hE.eval hG hx
  simp only [opV] at hv
  split at hv
  · rename_i r hb
    cases hv
    unfold unV at hb
    split at hb
    · rename_i h1; cases hb; rw [h1] at hrx; rw [hrx.int_inv]; exact Out.same S (run_v (by simp [Op.unary, Op.intArith])) (VR.int _ _)
    · rename_i h1; cases hb; rw [h1] at hrx; rw [hrx.int_inv]; exact Out.same S (run_v (by simp [Op.unary, Op.intBits])) (VR.int _ _)
    · rename_i h1; cases hb; rw [h1] at hrx; rw [hrx.bool_inv]; exact Out.same S (run_v (by simp [Op.unary])) (VR.bool _)
    · cases hb
  · cases hv

theorem op_conv (hT : TabOk P T) {s d : TypeId} {i j : TI} {ks k : IntKind} {x : Operand} (hs : T s = some i) (hd : T d = some j) (hsu : i.u = .int ks) (hdu : j.u = .int k) (S : Sim CC ρ h w) (hE : ER ρ e a.tmps) (hG : Globs ng ρ)
    (hx : opdOk ng x = true) (hv : opV e h (.conv k x) = some (v, h')) : Out CC ρ h w v h' (((do pure (Next.value (← convert s d (a.eval x)))) : Sem Next).run P w) := by
  have hrx := hE.eval hG hx
  simp only [opV] at hv
  split at hv
  · rename_i h1
    cases hv
    rw [h1] at hrx; rw [hrx.int_inv]
    have h2 := (hT s i hs).u; rw [hsu] at h2
    have h3 := (hT d j hd).u; rw [hdu] at h3
    exact Out.same S (run_v (by simp [convert, run_underlying h2, run_underlying h3, Conv.intToInt])) (VR.int _ _)
  · cases hv

theorem vals_rel (hE : ER ρ e a.tmps) (hG : Globs ng ρ) : ∀ l : List Operand, l.all (opdOk ng) = true → All2 (VR ρ) (vals e l) (l.map a.eval)
  | [], _ => .nil
  | x :: l, hl => by
    simp only [List.all_cons, Bool.and_eq_true] at hl
    exact .cons (hE.eval hG hl.1) (vals_rel hE hG l hl.2)

theorem simple_rel {l m : List Value} (h : All2 (VR ρ) l m) : l.all simple = true → All2 (CR ρ) l m := by
  induction h with
  | nil => intro _; exact .nil
  | cons h _ ih =>
    intro hs
    simp only [List.all_cons, Bool.and_eq_true] at hs
    exact .cons (CR.of_simple h hs.1) (ih hs.2)

theorem op_mkfn {f : FuncId} {first caps : Array Operand} (S : Sim CC ρ h w) (hE : ER ρ e a.tmps) (hG : Globs ng ρ) (hf : first.isEmpty = true) (hx : caps.toList.all (opdOk ng) = true)
    (hv : opV e h (.mkfn f caps.toList) = some (v, h')) : Out CC ρ h w v h' (((do pure (Next.value (← Instr.makeFunc (.func f) (first.map a.eval) (caps.map a.eval)))) : Sem Next).run P w) := by
  have hr := vals_rel hE hG caps.toList hx
  simp only [opV] at hv
  cases hs : (vals e caps.toList).all simple with
  | false => simp [hs] at hv
  | true =>
    simp only [hs, cond_true, Option.some.injEq, Prod.mk.injEq] at hv
    obtain ⟨rfl, rfl⟩ := hv
    have hf0 : first = #[] := by simpa using hf
    subst hf0
    refine Out.same S (c := .func (.func f) #[] ⟨caps.toList.map a.eval⟩) (run_v ?_) (KR.fn f (simple_rel hr hs)).vr
    have hm : caps.map a.eval = ⟨caps.toList.map a.eval⟩ := by
      apply Array.ext'
      simp
    simp [Instr.makeFunc, hm]

theorem op_nilChk {x : Operand} (S : Sim CC ρ h w) (hE : ER ρ e a.tmps) (hG : Globs ng ρ) (hx : opdOk ng x = true) {ty : TypeId} {pos : String} {aft : Array Edge} {gd : Option (Nat × Bool)} {dst : Option Tmp}
    (hv : opV e h (.nilChk x) = some (v, h')) : Out CC ρ h w v h' ((execOp a.eval { dst := dst, op := .nilCheck x, type := ty, pos := pos, after := aft, guard := gd }).run P w) := by
  have hrx := hE.eval hG hx
  simp only [opV] at hv
  split at hv
  · rename_i y h1
    cases hv
    rw [h1] at hrx
    obtain ⟨z, hz⟩ := hrx.ptr_some
    refine Out.same S (c := .pointer (some z)) ?_ (by rw [hz] at hrx; exact hrx)
    simp [execOp, hz]
  · cases hv

theorem op_ext {i : Nat} {x : Operand} (S : Sim CC ρ h w) (hE : ER ρ e a.tmps) (hG : Globs ng ρ) (hx : opdOk ng x = true) (hv : opV e h (.ext i x) = some (v, h')) :
    Out CC ρ h w v h' (((do pure (Next.value (← Instr.extract (a.eval x) i))) : Sem Next).run P w) := by
  have hrx := hE.eval hG hx
  simp only [opV] at hv
  split at hv
  · rename_i l h1
    split at hv
    · rename_i u h2
      cases hv
      rw [h1] at hrx
      obtain ⟨m, hm, hk⟩ := hrx.tuple_inv
      obtain ⟨c, hc, hr⟩ := hk.get h2
      rw [hm]
      refine Out.same S (c := c) (run_v ?_) (.val hr)
      have : (⟨m⟩ : Array Value)[i]? = some c := by rw [← hc]; simp
      simp [Instr.extract, this]
    · cases hv
  · cases hv

theorem op_len (hT : TabOk P T) {t el : TypeId} {i : TI} (hti : T t = some i) (hu : i.u = .slice el) {x : Operand} {ty : TypeId} (S : Sim CC ρ h w) (hE : ER ρ e a.tmps) (hG : Globs ng ρ)
    (hx : opdOk ng x = true) (hv : opV e h (.blen x) = some (v, h')) :
    Out CC ρ h w v h' (((do pure (Next.value (← Builtin.len_ #[t] ty #[a.eval x]))) : Sem Next).run P w) := by
  have hrx := hE.eval hG hx
  have hi := (hT t i hti).u
  rw [hu] at hi
  simp only [opV] at hv
  split at hv
  · rename_i h1
    cases hv
    rw [h1] at hrx
    obtain ⟨y, cc, hy, _⟩ := hrx.slice_len
    rw [hy]
    exact Out.same S (run_v (by simp [Builtin.len_, run_underlying hi, goInt])) (VR.int _ _)
  · cases hv

theorem op_cap (hT : TabOk P T) {t el : TypeId} {i : TI} (hti : T t = some i) (hu : i.u = .slice el) {x : Operand} {ty : TypeId} (S : Sim CC ρ h w) (hE : ER ρ e a.tmps) (hG : Globs ng ρ)
    (hx : opdOk ng x = true) (hv : opV e h (.bcap x) = some (v, h')) :
    Out CC ρ h w v h' (((do pure (Next.value (← Builtin.cap_ #[t] ty #[a.eval x]))) : Sem Next).run P w) := by
  have hrx := hE.eval hG hx
  have hi := (hT t i hti).u
  rw [hu] at hi
  simp only [opV] at hv
  split at hv
  · rename_i h1
    cases hv
    rw [h1] at hrx
    rw [hrx.nilslice_inv]
    exact Out.same S (run_v (by simp [Builtin.cap_, run_underlying hi, goInt])) (VR.int _ _)
  · rename_i b off len cp h1
    rw [h1] at hrx
    obtain ⟨r, ca, ccap, hr, hc, hs⟩ := hrx.slice_inv
    rw [hc]
    split at hv
    · rename_i cs ro o st hb
      have hobj := S.obj b r _ hr hb
      obtain ⟨ccs, el', fr, _, _, hopn, _⟩ := hobj
      have hrun : (Builtin.cap_ #[t] ty #[.slice (some ca) len ccap]).run P w = .ok (.int .i64 ccap) w := by simp [Builtin.cap_, run_underlying hi, goInt]
      cases ho : Nat.beq o 0 with
      | true =>
        simp only [ho, if_true] at hv
        cases hv
        have ho0 := Nat.eq_of_beq_eq_true ho
        have : ccap = cp := by
          rcases hs.2.1 with h | ⟨h, _⟩
          · exact h
          · exact absurd (hopn.trans ho0) h
        rw [this] at hrun ⊢
        exact Out.same S (run_v hrun) (VR.int _ _)
      | false =>
        simp only [ho, Bool.false_eq_true, if_false] at hv
        cases hv
        have : cp ≤ ccap := by
          rcases hs.2.1 with h | ⟨_, h, _⟩
          · omega
          · exact h
        exact Out.same S (run_v hrun) (.atl this)
    · cases hv
  · cases hv

theorem op_slen (hT : TabOk P T) {t : TypeId} {i : TI} (hti : T t = some i) (hu : i.u = .string) {x : Operand} {ty : TypeId} (S : Sim CC ρ h w) (hE : ER ρ e a.tmps) (hG : Globs ng ρ)
    (hx : opdOk ng x = true) (hv : opV e h (.slen x) = some (v, h')) :
    Out CC ρ h w v h' (((do pure (Next.value (← Builtin.len_ #[t] ty #[a.eval x]))) : Sem Next).run P w) := by
  have hrx := hE.eval hG hx
  have hi := (hT t i hti).u
  rw [hu] at hi
  simp only [opV] at hv
  split at hv
  · rename_i h1
    cases hv
    rw [h1] at hrx
    rw [hrx.str_inv]
    exact Out.same S (run_v (by simp [Builtin.len_, run_underlying hi, goInt])) (VR.int _ _)
  · cases hv

theorem op_min {x y : Operand} {ts : Array TypeId} {ty : TypeId} (S : Sim CC ρ h w) (hE : ER ρ e a.tmps) (hG : Globs ng ρ) (hx : opdOk ng x = true) (hy : opdOk ng y = true) (hv : opV e h (.bmin x y) = some (v, h')) :
    Out CC ρ h w v h' (((do pure (Next.value (← Builtin.min_ ts ty #[a.eval x, a.eval y]))) : Sem Next).run P w) := by
  have hrx := hE.eval hG hx
  have hry := hE.eval hG hy
  simp only [opV] at hv
  split at hv
  · rename_i h1 h2
    split at hv
    · rename_i hk
      subst hk
      cases hv
      rw [h1] at hrx; rw [h2] at hry; rw [hrx.int_inv, hry.int_inv]
      exact Out.same S (run_v (by simp [Builtin.min_, Builtin.min2])) (VR.int _ _)
    · cases hv
  · cases hv

theorem op_faddr (hT : TabOk P T) {t : TypeId} {i fi : TI} {fs : Array Field} {f : Field} {k : Nat} {x : Operand} (hti : T t = some i) (hu : i.u = .struct fs) (hf : fs[k]? = some f) (hfi : T f.type = some fi) (hz : fi.size ≠ 0)
    (S : Sim CC ρ h w) (hE : ER ρ e a.tmps) (hG : Globs ng ρ) (hx : opdOk ng x = true) (hv : opV e h (.faddr f.offset x) = some (v, h')) :
    Out CC ρ h w v h' (((do pure (Next.value (← Instr.fieldAt t (a.eval x) k))) : Sem Next).run P w) := by
  have hrx := hE.eval hG hx
  have hi := (hT t i hti).u
  rw [hu] at hi
  simp only [opV] at hv
  split at hv
  · rename_i b o h1
    cases hv
    rw [h1] at hrx
    obtain ⟨r, hr, hc⟩ := hrx.ptr_inv
    rw [hc]
    refine Out.same S (c := .pointer (some ⟨r.blk, r.base + (o + f.offset), none⟩)) (run_v ?_) (CR.ptr hr).vr
    simp [Instr.fieldAt, run_underlying hi, hf, Instr.sureAddr, fieldPlace, (size_run (w := w) (hT _ _ hfi)).1, hz, addr_add, Nat.add_assoc]
  · cases hv

theorem op_iaddr_slice (hT : TabOk P T) {t el : TypeId} {i ei : TI} {x y : Operand} (hti : T t = some i) (hu : i.u = .slice el) (hel : T el = some ei) (S : Sim CC ρ h w) (hE : ER ρ e a.tmps) (hG : Globs ng ρ)
    (hx : opdOk ng x = true) (hy : opdOk ng y = true) (hv : opV e h (.iaddr none ei.size x y) = some (v, h')) :
    Out CC ρ h w v h' (((do pure (Next.value (← Instr.indexAt t (a.eval x) (a.eval y)))) : Sem Next).run P w) := by
  have hrx := hE.eval hG hx
  have hry := hE.eval hG hy
  have hi := (hT t i hti).u
  rw [hu] at hi
  simp only [opV] at hv
  split at hv
  · rename_i k n h1
    split at hv
    · contradiction
    · rename_i b o len cp _ h2
      by_cases hlt : n < len
      · have hb : Nat.blt n len = true := by simp [Nat.blt_eq]; exact hlt
        simp only [hb, if_true, Option.some.injEq, Prod.mk.injEq] at hv
        obtain ⟨rfl, rfl⟩ := hv
        rw [h1] at hry; rw [h2] at hrx
        rw [hry.int_inv]
        obtain ⟨r, ca, cc, hr, hc, ⟨hca, hcc, hle⟩⟩ := hrx.slice_inv
        rw [hc]
        have hca' : ca = ⟨r.blk, r.base + o, none⟩ := by
          rcases hca with h | ⟨_, h⟩
          · exact h
          · omega
        subst hca'
        refine Out.same S (c := .pointer (some ⟨r.blk, r.base + (o + n * ei.size), none⟩)) (run_v ?_) (CR.ptr hr).vr
        have hc1 : (0 : Int) ≤ Int.ofNat n ∧ Int.ofNat n < (len : Int) := ⟨Int.natCast_nonneg n, by exact Int.ofNat_lt.2 hlt⟩
        simp only [Instr.indexAt, asIntOf, Sem.run_bind, Sem.run_pure, Result.andThen_ok, run_underlying hi]
        rw [if_pos hc1]
        simp [(size_run (w := w) (hT _ _ hel)).1, addr_add, Nat.add_assoc]
      · have hb : Nat.blt n len = false := by
          cases hb : Nat.blt n len with
          | false => rfl
          | true => exact absurd (by simpa [Nat.blt_eq] using hb) hlt
        simp [hb] at hv
    · cases hv
  · cases hv

theorem op_iaddr_array (hT : TabOk P T) {t el : TypeId} {m : Nat} {i ei : TI} {x y : Operand} (hti : T t = some i) (hu : i.u = .array m el) (hel : T el = some ei) (S : Sim CC ρ h w) (hE : ER ρ e a.tmps) (hG : Globs ng ρ)
    (hx : opdOk ng x = true) (hy : opdOk ng y = true) (hv : opV e h (.iaddr (some m) ei.size x y) = some (v, h')) :
    Out CC ρ h w v h' (((do pure (Next.value (← Instr.indexAt t (a.eval x) (a.eval y)))) : Sem Next).run P w) := by
  have hrx := hE.eval hG hx
  have hry := hE.eval hG hy
  have hi := (hT t i hti).u
  rw [hu] at hi
  simp only [opV] at hv
  split at hv
  · rename_i k n h1
    split at hv
    · rename_i m' b o h2' h2
      cases h2'
      by_cases hlt : n < m
      · have hb : Nat.blt n m = true := by simp [Nat.blt_eq]; exact hlt
        simp only [hb, if_true, Option.some.injEq, Prod.mk.injEq] at hv
        obtain ⟨rfl, rfl⟩ := hv
        rw [h1] at hry; rw [h2] at hrx
        rw [hry.int_inv]
        obtain ⟨r, hr, hc⟩ := hrx.ptr_inv
        rw [hc]
        refine Out.same S (c := .pointer (some ⟨r.blk, r.base + (o + n * ei.size), none⟩)) (run_v ?_) (CR.ptr hr).vr
        have hc1 : (0 : Int) ≤ Int.ofNat n ∧ Int.ofNat n < (m : Int) := ⟨Int.natCast_nonneg n, by exact Int.ofNat_lt.2 hlt⟩
        simp only [Instr.indexAt, asIntOf, Sem.run_bind, Sem.run_pure, Result.andThen_ok, run_underlying hi, Instr.sureAddr]
        rw [if_pos hc1]
        simp [(size_run (w := w) (hT _ _ hel)).1, addr_add, Nat.add_assoc]
      · have hb : Nat.blt n m = false := by
          cases hb : Nat.blt n m with
          | false => rfl
          | true => exact absurd (by simpa [Nat.blt_eq] using hb) hlt
        simp [hb] at hv
    · contradiction
    · cases hv
  · cases hv

theorem op_field (hT : TabOk P T) {t : TypeId} {i fi : TI} {fs : Array Field} {f : Field} {k : Nat} {x : Operand} (hti : T t = some i) (hu : i.u = .struct fs) (hf : fs[k]? = some f) (hfi : T f.type = some fi)
    (S : Sim CC ρ h w) (hE : ER ρ e a.tmps) (hG : Globs ng ρ) (hx : opdOk ng x = true) (hv : opV e h (.field f.offset (aggN fi) x) = some (v, h')) :
    Out CC ρ h w v h' (((do pure (Next.value (← Instr.field t (a.eval x) k))) : Sem Next).run P w) := by
  have hrx := hE.eval hG hx
  have hi := (hT t i hti).u
  rw [hu] at hi
  simp only [opV] at hv
  split at hv
  · rename_i l h1
    split at hv
    · rename_i u h2
      cases hv
      rw [h1] at hrx
      obtain ⟨m, hm, hk⟩ := hrx.agg_inv
      obtain ⟨c, hc, hr⟩ := part_run (w := w) (hT _ _ hfi) hk h2
      rw [hm]
      refine Out.same S (c := c) (run_v ?_) hr
      simp only [Instr.field, Sem.run_bind, run_underlying hi, Result.andThen_ok, hf, asAgg, Sem.run_pure, hc]
    · cases hv
  · cases hv

theorem op_index_str (hT : TabOk P T) {t : TypeId} {i : TI} {x y : Operand} (hti : T t = some i) (hu : i.u = .string) (S : Sim CC ρ h w) (hE : ER ρ e a.tmps) (hG : Globs ng ρ)
    (hx : opdOk ng x = true) (hy : opdOk ng y = true) (hv : opV e h (.index none x y) = some (v, h')) :
    Out CC ρ h w v h' (((do pure (Next.value (← Instr.index t (a.eval x) (a.eval y)))) : Sem Next).run P w) := by
  have hrx := hE.eval hG hx
  have hry := hE.eval hG hy
  have hi := (hT t i hti).u
  rw [hu] at hi
  simp only [opV] at hv
  split at hv
  · rename_i k n h1
    split at hv
    · contradiction
    · rename_i s _ h2
      split at hv
      · rename_i b hb
        cases hv
        rw [h1] at hry; rw [h2] at hrx
        rw [hry.int_inv, hrx.str_inv]
        refine Out.same S (run_v ?_) (VR.int _ _)
        have h0 : (0 : Int) ≤ Int.ofNat n := Int.natCast_nonneg n
        simp only [Instr.index, asIntOf, Sem.run_bind, Sem.run_pure, Result.andThen_ok, run_underlying hi]
        simp only [h0, if_true]
        have : (Int.ofNat n).toNat = n := rfl
        rw [this, hb]
        rfl
      · cases hv
    · cases hv
  · cases hv

theorem op_index_arr (hT : TabOk P T) {t el : TypeId} {len : Nat} {i ei : TI} {x y : Operand} (hti : T t = some i) (hu : i.u = .array len el) (hel : T el = some ei) (S : Sim CC ρ h w) (hE : ER ρ e a.tmps) (hG : Globs ng ρ)
    (hx : opdOk ng x = true) (hy : opdOk ng y = true) (hv : opV e h (.index (some (len, ei.size, aggN ei)) x y) = some (v, h')) :
    Out CC ρ h w v h' (((do pure (Next.value (← Instr.index t (a.eval x) (a.eval y)))) : Sem Next).run P w) := by
  have hrx := hE.eval hG hx
  have hry := hE.eval hG hy
  have hi := (hT t i hti).u
  rw [hu] at hi
  simp only [opV] at hv
  split at hv
  · rename_i k n h1
    split at hv
    · rename_i len' size' n' l h2' h2
      cases h2'
      by_cases hlt : n < len
      · have hb : Nat.blt n len = true := by simp [Nat.blt_eq]; exact hlt
        simp only [hb, if_true] at hv
        split at hv
        · rename_i u hu2
          cases hv
          rw [h1] at hry; rw [h2] at hrx
          rw [hry.int_inv]
          obtain ⟨m, hm, hk⟩ := hrx.agg_inv
          obtain ⟨c, hc, hr⟩ := part_run (w := w) (hT _ _ hel) hk hu2
          rw [hm]
          refine Out.same S (c := c) (run_v ?_) hr
          have hc1 : (0 : Int) ≤ Int.ofNat n ∧ Int.ofNat n < (len : Int) := ⟨Int.natCast_nonneg n, by exact Int.ofNat_lt.2 hlt⟩
          simp only [Instr.index, asIntOf, Sem.run_bind, Sem.run_pure, Result.andThen_ok, run_underlying hi]
          rw [if_pos hc1]
          simp only [Sem.run_bind, (size_run (w := w) (hT _ _ hel)).1, Result.andThen_ok]
          exact hc
        · cases hv
      · have hb : Nat.blt n len = false := by
          cases hb : Nat.blt n len with
          | false => rfl
          | true => exact absurd (by simpa [Nat.blt_eq] using hb) hlt
        simp [hb] at hv
    · contradiction
    · cases hv
  · cases hv
end
end Go.AI
