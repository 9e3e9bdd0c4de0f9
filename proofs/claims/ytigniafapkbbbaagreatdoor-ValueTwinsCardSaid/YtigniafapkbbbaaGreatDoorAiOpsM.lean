/- Maps from numbers: what is looked up, what is set. -/
import Derived.Test.YtigniafapkbbbaaGreatDoorAiOps6
namespace Go.AI

section
variable {P : Program} {CC : CodeRel} {ρ : Rho} {h h' : Heap} {w : World} {T : Tab} {ng : Nat} {e : Env} {a : Act} {c v : Value}

theorem VR.map_inv {x : Nat} (h : VR ρ (.map (some x)) c) : ∃ r, ρ x = some r ∧ c = .map (some r.blk) := by
  have := CR.of_simple h rfl
  cases this with
  | map h' => exact ⟨_, h', rfl⟩

theorem VR.nilmap_inv (h : VR ρ (.map none) c) : c = .map none := by
  have := CR.of_simple h rfl
  cases this with
  | nilmap => rfl

theorem eq_int {x y : Value} {t : Bool} (h : eqVal [1] x y = some t) : ∃ k m n, x = .int k m ∧ y = .int k n ∧ t = (m == n) := by
  cases x with
  | int k m =>
    cases y with
    | int k' n =>
      simp only [eqVal, eqCell] at h
      split at h
      · rename_i hk
        cases h
        subst hk
        exact ⟨k, m, n, rfl, rfl, rfl⟩
      · cases h
    | _ => simp [eqVal, eqCell] at h
  | _ => cases y <;> simp [eqVal, eqCell] at h

def MRel (ρ : Rho) (x : Value × Value) (y : MapEntry) : Prop := AR ρ x.1 y.key ∧ AR ρ x.2 y.val

theorem look_now {kk : IntKind} {k ck : Value} (hk : VR ρ k ck) {es : List (Value × Value)} {ces : List MapEntry} (ha : All2 (MRel ρ) es ces) : ∀ {r : Option Value} (i : Nat), lookIn [1] k es = some r →
    (r = none ∧ Instr.findNow (.int kk) ck ces i = some none) ∨ ∃ v j cv, r = some v ∧ Instr.findNow (.int kk) ck ces i = some (some (j, cv)) ∧ AR ρ v cv := by
  induction ha with
  | nil => intro r i h; cases h; exact .inl ⟨rfl, rfl⟩
  | @cons x y es ces hxy hs ih =>
    obtain ⟨k', v'⟩ := x
    obtain ⟨h1, h2⟩ := hxy
    intro r i h
    simp only [lookIn] at h
    split at h
    · rename_i he
      obtain ⟨kd, m, n, rfl, rfl, ht⟩ := eq_int he
      have e1 := hk.int_inv
      have e2 := (VR.val h1).int_inv
      subst e1
      cases h
      refine .inr ⟨v', i, y.val, rfl, ?_, h2⟩
      simp [Instr.findNow, e2, Instr.sameNow, ← ht]
    · rename_i he
      obtain ⟨kd, m, n, rfl, rfl, ht⟩ := eq_int he
      have e1 := hk.int_inv
      have e2 := (VR.val h1).int_inv
      subst e1
      rcases ih (i + 1) h with ⟨rfl, hf⟩ | ⟨v, j, cv, rfl, hf, hv⟩
      · exact .inl ⟨rfl, by simp [Instr.findNow, e2, Instr.sameNow, ← ht, hf]⟩
      · exact .inr ⟨v, j, cv, rfl, by simp [Instr.findNow, e2, Instr.sameNow, ← ht, hf], hv⟩
    · cases h

theorem AR.of_plainK {k ck : Value} (h : VR ρ k ck) (hp : plainK k = true) : AR ρ k ck := by
  cases k with
  | agg cs =>
    obtain ⟨l⟩ := cs
    obtain ⟨m, rfl, hm⟩ := h.agg_inv
    exact .agg hm
  | _ => exact .cell (KR.of_plain h hp)

theorem upd_now {kk : IntKind} {k ck v cv : Value} (hk : VR ρ k ck) (hv : VR ρ v cv) {es : List (Value × Value)} {ces : List MapEntry} (ha : All2 (MRel ρ) es ces) : ∀ {es' : List (Value × Value)} (i : Nat), updIn [1] k v es = some es' →
    (Instr.findNow (.int kk) ck ces i = some none ∧ ∀ b, All2 (MRel ρ) es' (ces ++ [{ key := ck, val := cv, born := b }])) ∨
    ∃ j y cv', Instr.findNow (.int kk) ck ces i = some (some (i + j, cv')) ∧ ces[j]? = some y ∧ Instr.sameBits 10000 y.key ck = true ∧ All2 (MRel ρ) es' (ces.modify j fun e => { e with key := ck, val := cv }) := by
  induction ha with
  | nil =>
    intro es' i h
    simp only [updIn] at h
    split at h
    · rename_i hc
      simp only [Bool.and_eq_true] at hc
      cases h
      exact .inl ⟨rfl, fun b => .cons ⟨AR.of_plainK hk hc.1, .cell (KR.of_plain hv hc.2)⟩ .nil⟩
    · cases h
  | @cons x y es ces hxy hs ih =>
    obtain ⟨k', v'⟩ := x
    obtain ⟨h1, h2⟩ := hxy
    intro es' i h
    simp only [updIn] at h
    split at h
    · rename_i he
      obtain ⟨kd, m, n, rfl, rfl, ht⟩ := eq_int he
      have e1 := hk.int_inv
      have e2 := (VR.val h1).int_inv
      have hmn : m = n := by simpa using ht.symm
      subst hmn
      subst e1
      split at h
      · rename_i hp
        simp only [Bool.and_eq_true] at hp
        cases h
        refine .inr ⟨0, y, y.val, by simp [Instr.findNow, e2, Instr.sameNow], rfl, by simp [e2, Instr.sameBits], ?_⟩
        exact .cons ⟨.cell (.cell (.int _ _)), .cell (KR.of_plain hv hp.2)⟩ hs
      · cases h
    · rename_i he
      obtain ⟨kd, m, n, rfl, rfl, ht⟩ := eq_int he
      have e1 := hk.int_inv
      have e2 := (VR.val h1).int_inv
      subst e1
      split at h
      · rename_i r' hr
        cases h
        rcases ih (i + 1) hr with ⟨hf, hb⟩ | ⟨j, y', cv', hf, hy, hsb, hb⟩
        · exact .inl ⟨by simp [Instr.findNow, e2, Instr.sameNow, ← ht, hf], fun b => .cons ⟨h1, h2⟩ (hb b)⟩
        · refine .inr ⟨j + 1, y', cv', ?_, by simpa using hy, hsb, ?_⟩
          · simp only [Instr.findNow, e2, Instr.sameNow, ← ht]
            simp [hf]; omega
          · exact .cons ⟨h1, h2⟩ hb
      · cases h
    · cases h

theorem key_run {kk : IntKind} {t : TypeId} (hu : P.underlying t = some (.int kk)) (b : Bool) (v : Value) : (Instr.checkKey b 10000 t v).run P w = .ok () w := by
  unfold Instr.checkKey
  simp [run_underlying hu]

@[simp] theorem keyOk_int (v : Value) : keyOk [1] v = true := rfl

theorem op_look (hT : TabOk P T) {t kt el : TypeId} {i ki ei : TI} {kk : IntKind} {z : Value} {x y : Operand} {ok : Bool} (hti : T t = some i) (hu : i.u = .map kt el) (hki : T kt = some ki) (hku : ki.u = .int kk) (hel : T el = some ei) (hz : ei.zero = [z]) (hag : ei.agg = false)
    (S : Sim CC ρ h w) (hE : ER ρ e a.tmps) (hG : Globs ng ρ) (hx : opdOk ng x = true) (hy : opdOk ng y = true) (hv : opV e h (.look [1] z ok x y) = some (v, h')) :
    Out CC ρ h w v h' (((do pure (Next.value (← Instr.lookup t (a.eval x) (a.eval y) ok))) : Sem Next).run P w) := by
  have hut := (hT t i hti).u
  rw [hu] at hut
  have huk := (hT kt ki hki).u
  rw [hku] at huk
  obtain ⟨z', hz1, hz2⟩ := zero_run (P := P) (w := w) (hT el ei hel)
  have hzz : z' = z := by
    obtain ⟨ti, k1, k2, k3, zz, k4, k5⟩ := (hT el ei hel).info
    have := (hT el ei hel).one hag ti zz k1 k4
    have e1 : zz = z' := by
      have : (zeroValue el).run P w = .ok zz w := by simp [zeroValue, typeInfo, k1, k4]
      rw [this] at hz1; cases hz1; rfl
    subst e1
    have hc : zz.cells.toList = [zz] := by cases zz <;> first | rfl | (simp [AI.plain] at this)
    rw [hc, hz] at hz2
    simpa using hz2
  subst hzz
  have hzc : constCell z' = true := by
    have := (hT el ei hel).zero
    rw [hz] at this
    simpa using this
  have hzr : AR ρ z' z' := .cell (.cell (constCell_rel hzc))
  have hrx := hE.eval hG hx
  have hry := hE.eval hG hy
  have key : ∀ (es : List (Value × Value)) (ces : Array MapEntry), All2 (MRel ρ) es ces.toList → ∀ r, lookIn [1] (ev e y) es = some r → (∀ (body : Sem (Array MapEntry)), body.run P w = .ok ces w → True) →
      ∃ c, (match r with | none => VR ρ (if ok then .tuple #[z', .bool false] else z') c | some v => VR ρ (if ok then .tuple #[v, .bool true] else v) c) ∧
        ((do
          Instr.checkKey ces.isEmpty 10000 kt (a.eval y)
          let (v, ok') ← match ← Instr.findKey kt (a.eval y) ces.toList with
            | some (_, v) => pure (v, true)
            | none => pure (← zeroValue el, false)
          pure (if ok then Value.tuple #[v, .bool ok'] else v)) : Sem Value).run P w = .ok c w := by
    intro es ces ha r hr _
    rcases look_now (kk := kk) hry ha 0 hr with ⟨rfl, hf⟩ | ⟨v, j, cv, rfl, hf, hvc⟩
    · cases ok with
      | false => exact ⟨z', .val hzr, by simp [key_run huk, Instr.findKey, run_underlying huk, hf, hz1]⟩
      | true => exact ⟨.tuple #[z', .bool false], .tuple (.cons hzr (.cons (.cell (.cell (.bool _))) .nil)), by simp [key_run huk, Instr.findKey, run_underlying huk, hf, hz1]⟩
    · cases ok with
      | false => exact ⟨cv, .val hvc, by simp [key_run huk, Instr.findKey, run_underlying huk, hf]⟩
      | true => exact ⟨.tuple #[cv, .bool true], .tuple (.cons hvc (.cons (.cell (.cell (.bool _))) .nil)), by simp [key_run huk, Instr.findKey, run_underlying huk, hf]⟩
  cases hm : ev e x with
  | map m =>
    rw [hm] at hrx
    cases m with
    | none =>
      have e1 := hrx.nilmap_inv
      simp only [opV, hm, keyOk_int, cond_true] at hv
      cases hv
      obtain ⟨c, h1, h2⟩ := key [] #[] .nil none rfl (fun _ _ => trivial)
      refine Out.same S (c := c) (run_v ?_) h1
      rw [e1]
      simp only [Instr.lookup, Sem.run_bind, run_underlying hut, Result.andThen]
      simp [Sem.run_bind, Result.andThen] at h2 ⊢
      exact h2
    | some b =>
      obtain ⟨r, hr, e1⟩ := hrx.map_inv
      simp only [opV, hm, keyOk_int, cond_true] at hv
      cases hg : h.tr.get b with
      | none => simp [hg] at hv
      | some ob =>
        cases ob with
        | map es =>
          simp only [hg] at hv
          obtain ⟨ces, cl, hw, ha⟩ := S.obj b r _ hr hg
          cases hl : lookIn [1] (ev e y) es with
          | none => simp [hl] at hv
          | some q =>
            obtain ⟨c, h1, h2⟩ := key es ces ha q hl (fun _ _ => trivial)
            have hvh : VR ρ v c ∧ h' = h := by
              cases q with
              | none => simp only [hl] at hv; cases hv; exact ⟨h1, rfl⟩
              | some q => simp only [hl] at hv; cases hv; exact ⟨h1, rfl⟩
            obtain ⟨h1, rfl⟩ := hvh
            refine Out.same S (c := c) (run_v ?_) h1
            rw [e1]
            have hgo : (getObj r.blk).run P w = .ok (.map ces cl) w := by simp [getObj, Sem.run, hw]
            simp only [Instr.lookup, Sem.run_bind, run_underlying hut, Result.andThen, hgo]
            simp [Sem.run_bind, Result.andThen] at h2 ⊢
            exact h2
        | _ => simp [hg] at hv
  | _ => simp [opV, hm] at hv

theorem op_mupd (hT : TabOk P T) {t kt el : TypeId} {i ki : TI} {kk : IntKind} {x y z : Operand} (hti : T t = some i) (hu : i.u = .map kt el) (hki : T kt = some ki) (hku : ki.u = .int kk)
    (S : Sim CC ρ h w) (hE : ER ρ e a.tmps) (hG : Globs ng ρ) (hx : opdOk ng x = true) (hy : opdOk ng y = true) (hz : opdOk ng z = true) (hv : opV e h (.mupd [1] x y z) = some (v, h')) :
    ∃ w', v = .tuple #[] ∧ (Instr.mapUpdate t (a.eval x) (a.eval y) (a.eval z)).run P w = .ok () w' ∧ Sim CC ρ h' w' ∧ Ext ρ h w ρ h' w' := by
  have hut := (hT t i hti).u
  rw [hu] at hut
  have huk := (hT kt ki hki).u
  rw [hku] at huk
  have hrx := hE.eval hG hx
  have hry := hE.eval hG hy
  have hrz := hE.eval hG hz
  cases hm : ev e x with
  | map m =>
    rw [hm] at hrx
    cases m with
    | none => simp [opV, hm] at hv
    | some b =>
      obtain ⟨r, hr, e1⟩ := hrx.map_inv
      simp only [opV, hm, keyOk_int, cond_true] at hv
      cases hg : h.tr.get b with
      | none => simp [hg] at hv
      | some ob =>
        cases ob with
        | map es =>
          simp only [hg] at hv
          cases hup : updIn [1] (ev e y) (ev e z) es with
          | none => simp [hup] at hv
          | some es' =>
            simp only [hup] at hv
            cases hv
            obtain ⟨ces, cl, hw, ha⟩ := S.obj b r _ hr hg
            have hgo : (getObj r.blk).run P w = .ok (.map ces cl) w := by simp [getObj, Sem.run, hw]
            have hso : ∀ o, (setObj r.blk o).run P w = .ok () { w with heap := w.heap.setIfInBounds r.blk o } := by intro o; simp [setObj, Sem.run, hw]
            have hset : ∀ o, ({ w with heap := w.heap.setIfInBounds r.blk o } : World).heap[r.blk]? = some o := by
              intro o
              have := blk_lt hw
              simp [this]
            rw [e1]
            rcases upd_now (kk := kk) hry hrz ha 0 hup with ⟨hf, hb⟩ | ⟨j, y', cv', hf, hyj, hsb, hb⟩
            · obtain ⟨S', E'⟩ := S.upd hr hg rfl (At1.obj (w := w) r.blk (.map (ces.push { key := a.eval y, val := a.eval z, born := cl }) (cl + 1))) (o' := .map es') ⟨_, _, hset _, by show All2 (MRel ρ) es' _; simpa using hb cl⟩ (h.clock + 1)
              refine ⟨_, rfl, ?_, S', E'⟩
              simp [Instr.mapUpdate, run_underlying hut, hgo, key_run huk, Instr.findKey, run_underlying huk, hf, hso]
            · obtain ⟨S', E'⟩ := S.upd hr hg rfl (At1.obj (w := w) r.blk (.map (ces.modify j fun e => { e with key := a.eval y, val := a.eval z }) cl)) (o' := .map es') ⟨_, _, hset _, by show All2 (MRel ρ) es' _; simpa using hb⟩ (h.clock + 1)
              refine ⟨_, rfl, ?_, S', E'⟩
              have hyj' : ces[j]? = some y' := by simpa using hyj
              simp [Instr.mapUpdate, run_underlying hut, hgo, key_run huk, Instr.findKey, run_underlying huk, hf, hso, hyj', Instr.keyThatStays, hsb]
        | _ => simp [hg] at hv
  | _ => simp [opV, hm] at hv

/-! keys that are aggregates -/

theorem eq_agg {ks : List Nat} {l : Array Value} {y : Value} {t : Bool} (h : eqVal (9 :: ks) (.agg l) y = some t) : ∃ l', y = .agg l' ∧ eqCells ks l.toList l'.toList = some t := by
  cases y with
  | agg l' => exact ⟨l', rfl, h⟩
  | _ =>
    exfalso
    unfold eqVal at h
    cases ks with
    | nil => simp [eqCell] at h
    | cons a ks => simp at h

theorem same_cell {k : Nat} {p q : Value} (h : eqCell k p q = some true) (n : Nat) : Instr.sameBits n p q = true := by
  unfold eqCell at h
  split at h
  · cases n <;> simpa [Instr.sameBits] using h
  · split at h
    · rename_i hk; subst hk
      cases n <;> simpa [Instr.sameBits] using h
    · cases h
  · cases n <;> simpa [Instr.sameBits] using h
  · cases h

theorem same_cells {n : Nat} : ∀ {ks : List Nat} {l m : List Value}, eqCells ks l m = some true → (l.zip m).all (fun x => Instr.sameBits n x.1 x.2) = true := by
  intro ks
  induction ks with
  | nil =>
    intro l m h
    obtain ⟨h1, h2⟩ := eqCells_length h
    match l, m, h1, h2 with
    | [], [], _, _ => rfl
  | cons k ks ih =>
    intro l m h
    obtain ⟨h1, h2⟩ := eqCells_length h
    match l, m, h1, h2 with
    | p :: l, q :: m, _, _ =>
      simp only [eqCells] at h
      split at h
      · rename_i x y h3 h4
        simp only [Option.some.injEq, Bool.and_eq_true] at h
        obtain ⟨rfl, rfl⟩ := h
        simp only [List.zip_cons_cons, List.all_cons, Bool.and_eq_true]
        exact ⟨same_cell h3 n, ih h4⟩
      · cases h

theorem same_agg {ks : List Nat} {l m : List Value} (h : eqCells ks l m = some true) (n : Nat) : Instr.sameBits (n + 1) (.agg ⟨l⟩) (.agg ⟨m⟩) = true := by
  obtain ⟨h1, h2⟩ := eqCells_length h
  have := same_cells (n := n) h
  simp only [Instr.sameBits, Bool.and_eq_true]
  exact ⟨by simp [h1, h2], this⟩

theorem bytes_comm (a b : ByteArray) : (a == b) = (b == a) := by
  cases a with | mk a => cases b with | mk b =>
  show (a == b) = (b == a)
  exact BEq.comm

theorem eqCells_symm : ∀ {ks : List Nat} {l m : List Value} {t : Bool}, eqCells ks l m = some t → eqCells ks m l = some t := by
  intro ks
  induction ks with
  | nil =>
    intro l m t h
    obtain ⟨h1, h2⟩ := eqCells_length h
    match l, m, h1, h2 with
    | [], [], _, _ => exact h
  | cons k ks ih =>
    intro l m t h
    obtain ⟨h1, h2⟩ := eqCells_length h
    match l, m, h1, h2 with
    | p :: l, q :: m, _, _ =>
      simp only [eqCells] at h ⊢
      split at h
      · rename_i x y h3 h4
        have e : eqCell k q p = some x := by
          unfold eqCell at h3 ⊢
          split at h3
          · cases h3; simp [Bool.beq_comm]
          · split at h3
            · rename_i hk; subst hk
              cases h3
              rw [if_pos rfl]
              refine congrArg some ?_
              rw [Bool.eq_iff_iff]; simp only [beq_iff_eq]; exact eq_comm
            · cases h3
          · rename_i s1 s2
            cases h3
            exact congrArg some (bytes_comm _ _)
          · cases h3
        rw [e, ih h4]
        exact h
      · cases h

/-- A key that is compared cell by cell may be one. -/
theorem key_runK (hT : TabOk P T) : ∀ (d t : Nat) (i : TI) (dep : Nat) (ks : List Nat), T t = some i → kinds T d t = some ks → d ≤ dep → ∀ (l : List Value), l.length = i.size → ∀ (b : Bool) (w : World), (Instr.checkKey b dep t (valOf i l)).run P w = .ok () w := by
  intro d
  induction d with
  | zero => intro t i dep ks _ h; simp [kinds] at h
  | succ d ih =>
    intro t i dep ks hti hfl hd l hl b w
    obtain ⟨dep, rfl⟩ : ∃ k, dep = k + 1 := ⟨dep - 1, by omega⟩
    have hi := hT t i hti
    have hu' := hi.u
    simp only [kinds, hti] at hfl
    have hag := hi.agg
    split at hfl
    · rename_i hu
      rw [hu] at hu'
      unfold Instr.checkKey
      simp [run_underlying hu']
    · rename_i hu
      rw [hu] at hu'
      unfold Instr.checkKey
      simp [run_underlying hu']
    · rename_i hu
      rw [hu] at hu'
      unfold Instr.checkKey
      simp [run_underlying hu']
    · rename_i fs hu
      rw [hu] at hag hu'
      split at hfl
      · rename_i n hc
        cases hb : Nat.beq n i.size with
        | false => simp [hb] at hfl
        | true =>
          simp only [hb, cond_true] at hfl
          have hn := Nat.eq_of_beq_eq_true hb
          have key : ∀ (gs : List Field) (off : Nat) (ks : List Nat), contig T off gs = some n → kindsOf (kinds T d) gs = some ks → ∀ w,
              (forIn gs PUnit.unit (fun f r => do
                if f.name ≠ "_" then do
                  Instr.checkKey b dep f.type (← part f.type ⟨l⟩ f.offset)
                  pure (ForInStep.yield PUnit.unit)
                else pure (ForInStep.yield PUnit.unit)) : Sem PUnit).run P w = .ok PUnit.unit w := by
            intro gs
            induction gs with
            | nil => intro off ks _ _ w; simp
            | cons f gs ihg =>
              intro off ks hc hk w
              simp only [contig] at hc
              cases hbo : Nat.beq f.offset off with
              | false => simp [hbo] at hc
              | true =>
                simp only [hbo, cond_true] at hc
                have hoff := Nat.eq_of_beq_eq_true hbo
                cases htf : T f.type with
                | none => simp [htf] at hc
                | some j =>
                  simp only [htf] at hc
                  obtain ⟨hname, a, b', ha, hb', rfl⟩ := kindsOf_cons hk
                  have hle := contig_le hc
                  have hp := part_list (hT f.type j htf) (m := l) (off := f.offset) (by omega) w
                  have hlen : ((l.drop f.offset).take j.size).length = j.size := by simp; omega
                  have h1 := ih f.type j dep a htf ha (by omega) _ hlen b w
                  have h2 := ihg (off + j.size) b' hc hb' w
                  rw [List.forIn_cons]
                  simp only [hname, ne_eq, not_false_eq_true, if_true, Sem.run_bind, hp, Result.andThen_ok, h1, Sem.run_pure]
                  exact h2
          simp only [valOf, hag, isAggD, cond_true]
          unfold Instr.checkKey
          simp only [Sem.run_bind, run_underlying hu', Result.andThen_ok]
          have h := key fs.toList 0 ks hc hfl w
          rw [Array.forIn_toList] at h
          simp at h
          simp [h]
      · cases hfl
    · rename_i n el hu
      rw [hu] at hag hu'
      split at hfl
      · rename_i e he
        cases hb : Nat.beq (n * e.size) i.size with
        | false => simp [hb] at hfl
        | true =>
          simp only [hb, cond_true] at hfl
          have hn := Nat.eq_of_beq_eq_true hb
          split at hfl
          · rename_i ks' hk
            have key : ∀ (L : List Nat), (∀ j ∈ L, j < n) → ∀ w,
                (forIn L PUnit.unit (fun j r => do
                  Instr.checkKey b dep el (← part el ⟨l⟩ (j * (← sizeOf el)))
                  pure (ForInStep.yield PUnit.unit)) : Sem PUnit).run P w = .ok PUnit.unit w := by
              intro L
              induction L with
              | nil => intro _ w; simp
              | cons j L ihL =>
                intro hL w
                have hj := hL j (List.mem_cons_self ..)
                have hle : j * e.size + e.size ≤ l.length := by
                  have : (j + 1) * e.size ≤ n * e.size := Nat.mul_le_mul_right _ hj
                  rw [Nat.add_mul] at this
                  omega
                have hp := part_list (hT el e he) (m := l) (off := j * e.size) hle w
                have hlen : ((l.drop (j * e.size)).take e.size).length = e.size := by simp; omega
                have h1 := ih el e dep ks' he hk (by omega) _ hlen b w
                have h2 := ihL (fun x hx => hL x (List.mem_cons_of_mem _ hx)) w
                have hs := (size_run (w := w) (hT el e he)).1
                rw [List.forIn_cons]
                simp only [Sem.run_bind, hs, hp, Result.andThen_ok, h1, Sem.run_pure]
                exact h2
            simp only [valOf, hag, isAggD, cond_true]
            unfold Instr.checkKey
            simp only [Sem.run_bind, run_underlying hu', Result.andThen_ok]
            have h := key (List.range' 0 n) (fun j hj => by simp at hj; omega) w
            simp at h
            simp [h]
          · cases hfl
      · cases hfl
    · cases hfl

theorem look_ask (hT : TabOk P T) {kt : Nat} {ki : TI} {ks : List Nat} (hki : T kt = some ki) (hk : kinds T 9 kt = some ks) (hag : ki.agg = true) {l m : List Value} (hlm : All2 (KR ρ) l m) {es : List (Value × Value)} {ces : List MapEntry} (ha : All2 (MRel ρ) es ces) :
    ∀ {r : Option Value} (i : Nat), lookIn (9 :: ks) (.agg ⟨l⟩) es = some r →
      (r = none ∧ ∀ w, (Instr.findAsking kt (.agg ⟨m⟩) ces i).run P w = .ok none w) ∨ ∃ v j cv, r = some v ∧ (∀ w, (Instr.findAsking kt (.agg ⟨m⟩) ces i).run P w = .ok (some (j, cv)) w) ∧ AR ρ v cv := by
  induction ha with
  | nil => intro r i h; cases h; exact .inl ⟨rfl, fun w => by simp [Instr.findAsking]⟩
  | @cons x y es ces hxy hs ih =>
    obtain ⟨k', v'⟩ := x
    obtain ⟨h1, h2⟩ := hxy
    intro r i h
    simp only [lookIn] at h
    have step : ∀ t, eqVal (9 :: ks) (.agg ⟨l⟩) k' = some t → ∀ w, (Op.equal kt (.agg ⟨m⟩) y.key).run P w = .ok t w := by
      intro t he w
      obtain ⟨⟨l'⟩, rfl, he'⟩ := eq_agg he
      obtain ⟨m', e2, hm'⟩ := (VR.val h1).agg_inv
      have hrel := eqCells_rel hlm hm' he'
      have := equal_run hT 9 kt ki 10000 ks hki hk (by omega) m m' t hrel w
      simp only [valOf, hag, cond_true] at this
      rw [e2]
      exact this
    split at h
    · rename_i he
      cases h
      refine .inr ⟨v', i, y.val, rfl, fun w => ?_, h2⟩
      simp [Instr.findAsking, step _ he]
    · rename_i he
      rcases ih (i + 1) h with ⟨rfl, hf⟩ | ⟨v, j, cv, rfl, hf, hv⟩
      · exact .inl ⟨rfl, fun w => by simp [Instr.findAsking, step _ he, hf]⟩
      · exact .inr ⟨v, j, cv, rfl, fun w => by simp [Instr.findAsking, step _ he, hf], hv⟩
    · cases h

theorem upd_ask (hT : TabOk P T) {kt : Nat} {ki : TI} {ks : List Nat} (hki : T kt = some ki) (hk : kinds T 9 kt = some ks) (hag : ki.agg = true) {l m : List Value} (hlm : All2 (KR ρ) l m) {v cv : Value} (hv : VR ρ v cv) {es : List (Value × Value)} {ces : List MapEntry} (ha : All2 (MRel ρ) es ces) :
    ∀ {es' : List (Value × Value)} (i : Nat), updIn (9 :: ks) (.agg ⟨l⟩) v es = some es' →
      ((∀ w, (Instr.findAsking kt (.agg ⟨m⟩) ces i).run P w = .ok none w) ∧ ∀ b, All2 (MRel ρ) es' (ces ++ [{ key := .agg ⟨m⟩, val := cv, born := b }])) ∨
      ∃ j y cv', (∀ w, (Instr.findAsking kt (.agg ⟨m⟩) ces i).run P w = .ok (some (i + j, cv')) w) ∧ ces[j]? = some y ∧ Instr.sameBits 10000 y.key (.agg ⟨m⟩) = true ∧ All2 (MRel ρ) es' (ces.modify j fun e => { e with key := .agg ⟨m⟩, val := cv }) := by
  induction ha with
  | nil =>
    intro es' i h
    simp only [updIn] at h
    split at h
    · rename_i hc
      simp only [Bool.and_eq_true] at hc
      cases h
      exact .inl ⟨fun w => by simp [Instr.findAsking], fun b => .cons ⟨.agg hlm, .cell (KR.of_plain hv hc.2)⟩ .nil⟩
    · cases h
  | @cons x y es ces hxy hs ih =>
    obtain ⟨k', v'⟩ := x
    obtain ⟨h1, h2⟩ := hxy
    intro es' i h
    simp only [updIn] at h
    have step : ∀ t, eqVal (9 :: ks) (.agg ⟨l⟩) k' = some t → (∀ w, (Op.equal kt (.agg ⟨m⟩) y.key).run P w = .ok t w) ∧ (t = true → Instr.sameBits 10000 y.key (.agg ⟨m⟩) = true) := by
      intro t he
      obtain ⟨⟨l'⟩, rfl, he'⟩ := eq_agg he
      obtain ⟨m', e2, hm'⟩ := (VR.val h1).agg_inv
      have hrel := eqCells_rel hlm hm' he'
      refine ⟨fun w => ?_, ?_⟩
      · have := equal_run hT 9 kt ki 10000 ks hki hk (by omega) m m' t hrel w
        simp only [valOf, hag, cond_true] at this
        rw [e2]
        exact this
      · rintro rfl
        rw [e2]
        exact same_agg (eqCells_symm hrel) 9999
    split at h
    · rename_i he
      split at h
      · rename_i hp
        simp only [Bool.and_eq_true] at hp
        cases h
        refine .inr ⟨0, y, y.val, fun w => by simp [Instr.findAsking, (step _ he).1], rfl, (step _ he).2 rfl, ?_⟩
        exact .cons ⟨.agg hlm, .cell (KR.of_plain hv hp.2)⟩ hs
      · cases h
    · rename_i he
      split at h
      · rename_i r' hr
        cases h
        rcases ih (i + 1) hr with ⟨hf, hb⟩ | ⟨j, y', cv', hf, hy, hsb, hb⟩
        · exact .inl ⟨fun w => by simp [Instr.findAsking, (step _ he).1, hf], fun b => .cons ⟨h1, h2⟩ (hb b)⟩
        · refine .inr ⟨j + 1, y', cv', fun w => ?_, by simpa using hy, hsb, ?_⟩
          · simp [Instr.findAsking, (step _ he).1, hf]
            omega
          · exact .cons ⟨h1, h2⟩ hb
      · cases h
    · cases h

theorem find_run {kt : Nat} (hu : (∃ fs, P.underlying kt = some (.struct fs)) ∨ ∃ n el, P.underlying kt = some (.array n el)) {c : Value} {ces : List MapEntry} {r : Option (Nat × Value)} (h : ∀ w, (Instr.findAsking kt c ces 0).run P w = .ok r w) (w : World) : (Instr.findKey kt c ces).run P w = .ok r w := by
  cases ces with
  | nil =>
    have := h w
    simp [Instr.findAsking] at this
    rcases hu with ⟨fs, hu⟩ | ⟨n, el, hu⟩ <;> simp [Instr.findKey, run_underlying hu, Instr.findNow, this]
  | cons x ces =>
    rcases hu with ⟨fs, hu⟩ | ⟨n, el, hu⟩ <;> simp [Instr.findKey, run_underlying hu, Instr.findNow, Instr.sameNow, h]

theorem key_runA (hT : TabOk P T) {kt : Nat} {ki : TI} {ks : List Nat} (hki : T kt = some ki) (hkk : kinds T 9 kt = some ks) (hka : ki.agg = true) {m : List Value} (hm : m.length = ks.length) (b : Bool) (w : World) : (Instr.checkKey b 10000 kt (.agg ⟨m⟩)).run P w = .ok () w := by
  have := key_runK hT 9 kt ki 10000 ks hki hkk (by omega) m (by rw [hm]; exact kinds_length hki hT hkk) b w
  simpa only [valOf, hka, cond_true] using this

theorem All2.lengths {α β : Type} {R : α → β → Prop} {l : List α} {m : List β} (h : All2 R l m) : l.length = m.length := by
  induction h with
  | nil => rfl
  | cons _ _ ih => simp [ih]

theorem op_lookK (hT : TabOk P T) {t kt el : TypeId} {i ki ei : TI} {ks : List Nat} {z : Value} {x y : Operand} {ok : Bool} (hti : T t = some i) (hu : i.u = .map kt el) (hki : T kt = some ki) (hkk : kinds T 9 kt = some ks) (hka : ki.agg = true) (hku : (∃ fs, ki.u = .struct fs) ∨ ∃ n el, ki.u = .array n el) (hel : T el = some ei) (hz : ei.zero = [z]) (hag : ei.agg = false)
    (S : Sim CC ρ h w) (hE : ER ρ e a.tmps) (hG : Globs ng ρ) (hx : opdOk ng x = true) (hy : opdOk ng y = true) (hv : opV e h (.look (9 :: ks) z ok x y) = some (v, h')) :
    Out CC ρ h w v h' (((do pure (Next.value (← Instr.lookup t (a.eval x) (a.eval y) ok))) : Sem Next).run P w) := by
  have hut := (hT t i hti).u
  rw [hu] at hut
  have huk : (∃ fs, P.underlying kt = some (.struct fs)) ∨ ∃ n el, P.underlying kt = some (.array n el) := by
    have := (hT kt ki hki).u
    rcases hku with ⟨fs, e⟩ | ⟨n, el, e⟩
    · exact .inl ⟨fs, by rw [this, e]⟩
    · exact .inr ⟨n, el, by rw [this, e]⟩
  obtain ⟨z', hz1, hz2⟩ := zero_run (P := P) (w := w) (hT el ei hel)
  have hzz : z' = z := by
    obtain ⟨ti, k1, k2, k3, zz, k4, k5⟩ := (hT el ei hel).info
    have := (hT el ei hel).one hag ti zz k1 k4
    have e1 : zz = z' := by
      have : (zeroValue el).run P w = .ok zz w := by simp [zeroValue, typeInfo, k1, k4]
      rw [this] at hz1; cases hz1; rfl
    subst e1
    have hc : zz.cells.toList = [zz] := by cases zz <;> first | rfl | (simp [AI.plain] at this)
    rw [hc, hz] at hz2
    simpa using hz2
  subst hzz
  have hzc : constCell z' = true := by
    have := (hT el ei hel).zero
    rw [hz] at this
    simpa using this
  have hzr : AR ρ z' z' := .cell (.cell (constCell_rel hzc))
  have hrx := hE.eval hG hx
  have hry := hE.eval hG hy
  obtain ⟨l, hky, hll⟩ : ∃ l, ev e y = .agg ⟨l⟩ ∧ l.length = ks.length := by
    cases hky : ev e y with
    | agg lk =>
      obtain ⟨l⟩ := lk
      refine ⟨l, rfl, ?_⟩
      cases hko : keyOk (9 :: ks) (ev e y) with
      | false => simp [opV, hko] at hv
      | true => rw [hky] at hko; exact Nat.eq_of_beq_eq_true hko
    | _ => simp [opV, hky, keyOk] at hv
  have hko : keyOk (9 :: ks) (ev e y) = true := by rw [hky]; show Nat.beq l.length ks.length = true; rw [hll]; exact Nat.beq_refl _
  rw [hky] at hry
  obtain ⟨m, em, hlm⟩ := hry.agg_inv
  have hml : m.length = ks.length := by rw [← hll]; exact (All2.lengths hlm).symm
  have hck := fun b w => key_runA hT hki hkk hka hml b w
  have key : ∀ (es : List (Value × Value)) (ces : Array MapEntry), All2 (MRel ρ) es ces.toList → ∀ r, lookIn (9 :: ks) (ev e y) es = some r → (∀ (body : Sem (Array MapEntry)), body.run P w = .ok ces w → True) →
      ∃ c, (match r with | none => VR ρ (if ok then .tuple #[z', .bool false] else z') c | some v => VR ρ (if ok then .tuple #[v, .bool true] else v) c) ∧
        ((do
          Instr.checkKey ces.isEmpty 10000 kt (a.eval y)
          let (v, ok') ← match ← Instr.findKey kt (a.eval y) ces.toList with
            | some (_, v) => pure (v, true)
            | none => pure (← zeroValue el, false)
          pure (if ok then Value.tuple #[v, .bool ok'] else v)) : Sem Value).run P w = .ok c w := by
    intro es ces ha r hr _
    rw [hky] at hr
    rw [em]
    rcases look_ask hT hki hkk hka hlm ha 0 hr with ⟨rfl, hf⟩ | ⟨v, j, cv, rfl, hf, hvc⟩
    · cases ok with
      | false => exact ⟨z', .val hzr, by simp [hck, find_run huk hf, hz1]⟩
      | true => exact ⟨.tuple #[z', .bool false], .tuple (.cons hzr (.cons (.cell (.cell (.bool _))) .nil)), by simp [hck, find_run huk hf, hz1]⟩
    · cases ok with
      | false => exact ⟨cv, .val hvc, by simp [hck, find_run huk hf]⟩
      | true => exact ⟨.tuple #[cv, .bool true], .tuple (.cons hvc (.cons (.cell (.cell (.bool _))) .nil)), by simp [hck, find_run huk hf]⟩
  cases hm : ev e x with
  | map m =>
    rw [hm] at hrx
    cases m with
    | none =>
      have e1 := hrx.nilmap_inv
      simp only [opV, hm, hko, cond_true] at hv
      cases hv
      obtain ⟨c, h1, h2⟩ := key [] #[] .nil none rfl (fun _ _ => trivial)
      refine Out.same S (c := c) (run_v ?_) h1
      rw [e1]
      simp only [Instr.lookup, Sem.run_bind, run_underlying hut, Result.andThen]
      simp [Sem.run_bind, Result.andThen] at h2 ⊢
      exact h2
    | some b =>
      obtain ⟨r, hr, e1⟩ := hrx.map_inv
      simp only [opV, hm, hko, cond_true] at hv
      cases hg : h.tr.get b with
      | none => simp [hg] at hv
      | some ob =>
        cases ob with
        | map es =>
          simp only [hg] at hv
          obtain ⟨ces, cl, hw, ha⟩ := S.obj b r _ hr hg
          cases hl : lookIn (9 :: ks) (ev e y) es with
          | none => simp [hl] at hv
          | some q =>
            obtain ⟨c, h1, h2⟩ := key es ces ha q hl (fun _ _ => trivial)
            have hvh : VR ρ v c ∧ h' = h := by
              cases q with
              | none => simp only [hl] at hv; cases hv; exact ⟨h1, rfl⟩
              | some q => simp only [hl] at hv; cases hv; exact ⟨h1, rfl⟩
            obtain ⟨h1, rfl⟩ := hvh
            refine Out.same S (c := c) (run_v ?_) h1
            rw [e1]
            have hgo : (getObj r.blk).run P w = .ok (.map ces cl) w := by simp [getObj, Sem.run, hw]
            simp only [Instr.lookup, Sem.run_bind, run_underlying hut, Result.andThen, hgo]
            simp [Sem.run_bind, Result.andThen] at h2 ⊢
            exact h2
        | _ => simp [hg] at hv
  | _ => simp [opV, hm] at hv

theorem op_mupdK (hT : TabOk P T) {t kt el : TypeId} {i ki : TI} {ks : List Nat} {x y z : Operand} (hti : T t = some i) (hu : i.u = .map kt el) (hki : T kt = some ki) (hkk : kinds T 9 kt = some ks) (hka : ki.agg = true) (hku : (∃ fs, ki.u = .struct fs) ∨ ∃ n el, ki.u = .array n el)
    (S : Sim CC ρ h w) (hE : ER ρ e a.tmps) (hG : Globs ng ρ) (hx : opdOk ng x = true) (hy : opdOk ng y = true) (hz : opdOk ng z = true) (hv : opV e h (.mupd (9 :: ks) x y z) = some (v, h')) :
    ∃ w', v = .tuple #[] ∧ (Instr.mapUpdate t (a.eval x) (a.eval y) (a.eval z)).run P w = .ok () w' ∧ Sim CC ρ h' w' ∧ Ext ρ h w ρ h' w' := by
  have hut := (hT t i hti).u
  rw [hu] at hut
  have huk : (∃ fs, P.underlying kt = some (.struct fs)) ∨ ∃ n el, P.underlying kt = some (.array n el) := by
    have := (hT kt ki hki).u
    rcases hku with ⟨fs, e⟩ | ⟨n, el, e⟩
    · exact .inl ⟨fs, by rw [this, e]⟩
    · exact .inr ⟨n, el, by rw [this, e]⟩
  have hrx := hE.eval hG hx
  have hry := hE.eval hG hy
  have hrz := hE.eval hG hz
  obtain ⟨l, hky, hll⟩ : ∃ l, ev e y = .agg ⟨l⟩ ∧ l.length = ks.length := by
    cases hky : ev e y with
    | agg lk =>
      obtain ⟨l⟩ := lk
      refine ⟨l, rfl, ?_⟩
      cases hko : keyOk (9 :: ks) (ev e y) with
      | false => simp [opV, hko] at hv
      | true => rw [hky] at hko; exact Nat.eq_of_beq_eq_true hko
    | _ => simp [opV, hky, keyOk] at hv
  have hko : keyOk (9 :: ks) (ev e y) = true := by rw [hky]; show Nat.beq l.length ks.length = true; rw [hll]; exact Nat.beq_refl _
  rw [hky] at hry
  obtain ⟨m, em, hlm⟩ := hry.agg_inv
  have hml : m.length = ks.length := by rw [← hll]; exact (All2.lengths hlm).symm
  have hck := fun b w => key_runA hT hki hkk hka hml b w
  cases hm : ev e x with
  | map m =>
    rw [hm] at hrx
    cases m with
    | none => simp [opV, hm] at hv
    | some b =>
      obtain ⟨r, hr, e1⟩ := hrx.map_inv
      simp only [opV, hm, hko, cond_true] at hv
      cases hg : h.tr.get b with
      | none => simp [hg] at hv
      | some ob =>
        cases ob with
        | map es =>
          simp only [hg] at hv
          cases hup : updIn (9 :: ks) (ev e y) (ev e z) es with
          | none => simp [hup] at hv
          | some es' =>
            simp only [hup] at hv
            cases hv
            obtain ⟨ces, cl, hw, ha⟩ := S.obj b r _ hr hg
            have hgo : (getObj r.blk).run P w = .ok (.map ces cl) w := by simp [getObj, Sem.run, hw]
            have hso : ∀ o, (setObj r.blk o).run P w = .ok () { w with heap := w.heap.setIfInBounds r.blk o } := by intro o; simp [setObj, Sem.run, hw]
            have hset : ∀ o, ({ w with heap := w.heap.setIfInBounds r.blk o } : World).heap[r.blk]? = some o := by
              intro o
              have := blk_lt hw
              simp [this]
            rw [e1, em]
            rw [hky] at hup
            rcases upd_ask hT hki hkk hka hlm hrz ha 0 hup with ⟨hf, hb⟩ | ⟨j, y', cv', hf, hyj, hsb, hb⟩
            · obtain ⟨S', E'⟩ := S.upd hr hg rfl (At1.obj (w := w) r.blk (.map (ces.push { key := (.agg ⟨m⟩), val := a.eval z, born := cl }) (cl + 1))) (o' := .map es') ⟨_, _, hset _, by show All2 (MRel ρ) es' _; simpa using hb cl⟩ (h.clock + 1)
              refine ⟨_, rfl, ?_, S', E'⟩
              simp [Instr.mapUpdate, run_underlying hut, hgo, hck, find_run huk hf, hso]
            · obtain ⟨S', E'⟩ := S.upd hr hg rfl (At1.obj (w := w) r.blk (.map (ces.modify j fun e => { e with key := (.agg ⟨m⟩), val := a.eval z }) cl)) (o' := .map es') ⟨_, _, hset _, by show All2 (MRel ρ) es' _; simpa using hb⟩ (h.clock + 1)
              refine ⟨_, rfl, ?_, S', E'⟩
              have hyj' : ces[j]? = some y' := by simpa using hyj
              simp [Instr.mapUpdate, run_underlying hut, hgo, hck, find_run huk hf, hso, hyj', Instr.keyThatStays, hsb]
        | _ => simp [hg] at hv
  | _ => simp [opV, hm] at hv


theorem op_rngNil (hT : TabOk P T) {t kt el : TypeId} {i : TI} {x : Operand} (hti : T t = some i) (hu : i.u = .map kt el) (S : Sim CC ρ h w) (hE : ER ρ e a.tmps) (hG : Globs ng ρ) (hx : opdOk ng x = true) (hv : opV e h (.rngNil x) = some (v, h')) :
    Out CC ρ h w v h' (((do pure (Next.value (← Instr.range t (a.eval x)))) : Sem Next).run P w) := by
  have hut := (hT t i hti).u
  rw [hu] at hut
  have hrx := hE.eval hG hx
  simp only [opV] at hv
  split at hv
  · rename_i hm
    cases hv
    rw [hm] at hrx
    have e1 := hrx.nilmap_inv
    obtain ⟨S', E'⟩ := Sim.add (im := ⟨w.heap.size, 0, 0, 0, 0⟩) (o := .itr) (co := .mapIter none 0 #[] 0) S rfl ⟨rfl, alloc_new w _⟩
    refine ⟨_, _, .pointer (some ⟨w.heap.size, 0, none⟩), .inl (run_v ?_), (CR.ptr (o := 0) (updR_self _ _ _)).vr, S', E'⟩
    simp [Instr.range, run_underlying hut, e1]
  · cases hv

theorem op_nxt {t : TypeId} {x : Operand} (S : Sim CC ρ h w) (hE : ER ρ e a.tmps) (hG : Globs ng ρ) (hx : opdOk ng x = true) (hv : opV e h (.nxt x) = some (v, h')) :
    Out CC ρ h w v h' (((do pure (Next.value (← Instr.next (a.eval x) false t))) : Sem Next).run P w) := by
  have hrx := hE.eval hG hx
  simp only [opV] at hv
  split at hv
  · rename_i b hm
    split at hv
    · rename_i hg
      cases hv
      rw [hm] at hrx
      have hc := CR.of_simple hrx rfl
      generalize hev : a.eval x = c at *
      cases hc with
      | @ptr _ _ r hr =>
        obtain ⟨hb0, hw⟩ := S.obj b r _ hr hg
        refine Out.same S (c := .tuple #[.bool false]) (run_v ?_) (.tuple (.cons (.cell (.cell (.bool _))) .nil))
        have hgo : (getObj r.blk).run P w = .ok (.mapIter none 0 #[] 0) w := by simp [getObj, Sem.run, hw]
        simp [Instr.next, hb0, hgo]
    · cases hv
  · cases hv
end
end Go.AI
