/- Maps from numbers: what is looked up, what is set. -/
import Derived.Test.YtehbhfobjechpaaGreatDoorAiOps6
namespace Go.AI

section
variable {P : Program} {CC : CodeRel} {ρ : Rho} {h h' : Heap} {w : World} {T : Tab} {ng : Nat} {e : Env} {a : Act} {c v : Value}

theorem VR.map_inv {x : Nat} (h : VR ρ (.map (some x)) c) : ∃ r, ρ x = some r ∧ c = .map (some r.blk) := by
  have := CR.of_simple h rfl
  cases this with
  | map h' => exact ⟨_, h', rfl⟩

theorem VR.nilmap_inv (h : VR ρ (.map none) c) : c = .map none := by
  have := CR.of_simple h rfl
  cases this with
  | nilmap => rfl

theorem eq_int {x y : Value} {t : Bool} (h : eqVal [1] x y = some t) : ∃ k m n, x = .int k m ∧ y = .int k n ∧ t = (m == n) := by
  cases x with
  | int k m =>
    cases y with
    | int k' n =>
      simp only [eqVal, eqCell] at h
      split at h
      · rename_i hk
        cases h
        subst hk
        exact ⟨k, m, n, rfl, rfl, rfl⟩
      · cases h
    | _ => simp [eqVal, eqCell] at h
  | _ => cases y <;> simp [eqVal, eqCell] at h

def MRel (ρ : Rho) (x : Value × Value) (y : MapEntry) : Prop := AR ρ x.1 y.key ∧ AR ρ x.2 y.val

theorem look_now {kk : IntKind} {k ck : Value} (hk : VR ρ k ck) {es : List (Value × Value)} {ces : List MapEntry} (ha : All2 (MRel ρ) es ces) : ∀ {r : Option Value} (i : Nat), lookIn [1] k es = some r →
    (r = none ∧ Instr.findNow (.int kk) ck ces i = some none) ∨ ∃ v j cv, r = some v ∧ Instr.findNow (.int kk) ck ces i = some (some (j, cv)) ∧ AR ρ v cv := by
  induction ha with
  | nil => intro r i h; cases h; exact .inl ⟨rfl, rfl⟩
  | @cons x y es ces hxy hs ih =>
    obtain ⟨k', v'⟩ := x
    obtain ⟨h1, h2⟩ := hxy
    intro r i h
    simp only [lookIn] at h
    split at h
    · rename_i he
      obtain ⟨kd, m, n, rfl, rfl, ht⟩ := eq_int he
      have e1 := hk.int_inv
      have e2 := (VR.val h1).int_inv
      subst e1
      cases h
      refine .inr ⟨v', i, y.val, rfl, ?_, h2⟩
      simp [Instr.findNow, e2, Instr.sameNow, ← ht]
    · rename_i he
      obtain ⟨kd, m, n, rfl, rfl, ht⟩ := eq_int he
      have e1 := hk.int_inv
      have e2 := (VR.val h1).int_inv
      subst e1
      rcases ih (i + 1) h with ⟨rfl, hf⟩ | ⟨v, j, cv, rfl, hf, hv⟩
      · exact .inl ⟨rfl, by simp [Instr.findNow, e2, Instr.sameNow, ← ht, hf]⟩
      · exact .inr ⟨v, j, cv, rfl, by simp [Instr.findNow, e2, Instr.sameNow, ← ht, hf], hv⟩
    · cases h

theorem upd_now {kk : IntKind} {k ck v cv : Value} (hk : VR ρ k ck) (hv : VR ρ v cv) {es : List (Value × Value)} {ces : List MapEntry} (ha : All2 (MRel ρ) es ces) : ∀ {es' : List (Value × Value)} (i : Nat), updIn [1] k v es = some es' →
    (Instr.findNow (.int kk) ck ces i = some none ∧ ∀ b, All2 (MRel ρ) es' (ces ++ [{ key := ck, val := cv, born := b }])) ∨
    ∃ j y cv', Instr.findNow (.int kk) ck ces i = some (some (i + j, cv')) ∧ ces[j]? = some y ∧ Instr.sameBits 10000 y.key ck = true ∧ All2 (MRel ρ) es' (ces.modify j fun e => { e with key := ck, val := cv }) := by
  induction ha with
  | nil =>
    intro es' i h
    simp only [updIn] at h
    split at h
    · rename_i hc
      simp only [Bool.and_eq_true] at hc
      cases h
      exact .inl ⟨rfl, fun b => .cons ⟨.cell (KR.of_plain hk hc.1), .cell (KR.of_plain hv hc.2)⟩ .nil⟩
    · cases h
  | @cons x y es ces hxy hs ih =>
    obtain ⟨k', v'⟩ := x
    obtain ⟨h1, h2⟩ := hxy
    intro es' i h
    simp only [updIn] at h
    split at h
    · rename_i he
      obtain ⟨kd, m, n, rfl, rfl, ht⟩ := eq_int he
      have e1 := hk.int_inv
      have e2 := (VR.val h1).int_inv
      have hmn : m = n := by simpa using ht.symm
      subst hmn
      subst e1
      split at h
      · rename_i hp
        cases h
        refine .inr ⟨0, y, y.val, by simp [Instr.findNow, e2, Instr.sameNow], rfl, by simp [e2, Instr.sameBits], ?_⟩
        exact .cons ⟨.cell (.cell (.int _ _)), .cell (KR.of_plain hv hp)⟩ hs
      · cases h
    · rename_i he
      obtain ⟨kd, m, n, rfl, rfl, ht⟩ := eq_int he
      have e1 := hk.int_inv
      have e2 := (VR.val h1).int_inv
      subst e1
      split at h
      · rename_i r' hr
        cases h
        rcases ih (i + 1) hr with ⟨hf, hb⟩ | ⟨j, y', cv', hf, hy, hsb, hb⟩
        · exact .inl ⟨by simp [Instr.findNow, e2, Instr.sameNow, ← ht, hf], fun b => .cons ⟨h1, h2⟩ (hb b)⟩
        · refine .inr ⟨j + 1, y', cv', ?_, by simpa using hy, hsb, ?_⟩
          · simp only [Instr.findNow, e2, Instr.sameNow, ← ht]
            simp [hf]; omega
          · exact .cons ⟨h1, h2⟩ hb
      · cases h
    · cases h

theorem key_run {kk : IntKind} {t : TypeId} (hu : P.underlying t = some (.int kk)) (b : Bool) (v : Value) : (Instr.checkKey b 10000 t v).run P w = .ok () w := by
  unfold Instr.checkKey
  simp [run_underlying hu]

theorem op_look (hT : TabOk P T) {t kt el : TypeId} {i ki ei : TI} {kk : IntKind} {z : Value} {x y : Operand} {ok : Bool} (hti : T t = some i) (hu : i.u = .map kt el) (hki : T kt = some ki) (hku : ki.u = .int kk) (hel : T el = some ei) (hz : ei.zero = [z]) (hag : ei.agg = false)
    (S : Sim CC ρ h w) (hE : ER ρ e a.tmps) (hG : Globs ng ρ) (hx : opdOk ng x = true) (hy : opdOk ng y = true) (hv : opV e h (.look [1] z ok x y) = some (v, h')) :
    Out CC ρ h w v h' (((do pure (Next.value (← Instr.lookup t (a.eval x) (a.eval y) ok))) : Sem Next).run P w) := by
  have hut := (hT t i hti).u
  rw [hu] at hut
  have huk := (hT kt ki hki).u
  rw [hku] at huk
  obtain ⟨z', hz1, hz2⟩ := zero_run (P := P) (w := w) (hT el ei hel)
  have hzz : z' = z := by
    obtain ⟨ti, k1, k2, k3, zz, k4, k5⟩ := (hT el ei hel).info
    have := (hT el ei hel).one hag ti zz k1 k4
    have e1 : zz = z' := by
      have : (zeroValue el).run P w = .ok zz w := by simp [zeroValue, typeInfo, k1, k4]
      rw [this] at hz1; cases hz1; rfl
    subst e1
    have hc : zz.cells.toList = [zz] := by cases zz <;> first | rfl | (simp [AI.plain] at this)
    rw [hc, hz] at hz2
    simpa using hz2
  subst hzz
  have hzc : constCell z' = true := by
    have := (hT el ei hel).zero
    rw [hz] at this
    simpa using this
  have hzr : AR ρ z' z' := .cell (.cell (constCell_rel hzc))
  have hrx := hE.eval hG hx
  have hry := hE.eval hG hy
  have key : ∀ (es : List (Value × Value)) (ces : Array MapEntry), All2 (MRel ρ) es ces.toList → ∀ r, lookIn [1] (ev e y) es = some r → (∀ (body : Sem (Array MapEntry)), body.run P w = .ok ces w → True) →
      ∃ c, (match r with | none => VR ρ (if ok then .tuple #[z', .bool false] else z') c | some v => VR ρ (if ok then .tuple #[v, .bool true] else v) c) ∧
        ((do
          Instr.checkKey ces.isEmpty 10000 kt (a.eval y)
          let (v, ok') ← match ← Instr.findKey kt (a.eval y) ces.toList with
            | some (_, v) => pure (v, true)
            | none => pure (← zeroValue el, false)
          pure (if ok then Value.tuple #[v, .bool ok'] else v)) : Sem Value).run P w = .ok c w := by
    intro es ces ha r hr _
    rcases look_now (kk := kk) hry ha 0 hr with ⟨rfl, hf⟩ | ⟨v, j, cv, rfl, hf, hvc⟩
    · cases ok with
      | false => exact ⟨z', .val hzr, by simp [key_run huk, Instr.findKey, run_underlying huk, hf, hz1]⟩
      | true => exact ⟨.tuple #[z', .bool false], .tuple (.cons hzr (.cons (.cell (.cell (.bool _))) .nil)), by simp [key_run huk, Instr.findKey, run_underlying huk, hf, hz1]⟩
    · cases ok with
      | false => exact ⟨cv, .val hvc, by simp [key_run huk, Instr.findKey, run_underlying huk, hf]⟩
      | true => exact ⟨.tuple #[cv, .bool true], .tuple (.cons hvc (.cons (.cell (.cell (.bool _))) .nil)), by simp [key_run huk, Instr.findKey, run_underlying huk, hf]⟩
  cases hm : ev e x with
  | map m =>
    rw [hm] at hrx
    cases m with
    | none =>
      have e1 := hrx.nilmap_inv
      simp only [opV, hm] at hv
      cases hv
      obtain ⟨c, h1, h2⟩ := key [] #[] .nil none rfl (fun _ _ => trivial)
      refine Out.same S (c := c) (run_v ?_) h1
      rw [e1]
      simp only [Instr.lookup, Sem.run_bind, run_underlying hut, Result.andThen]
      simp [Sem.run_bind, Result.andThen] at h2 ⊢
      exact h2
    | some b =>
      obtain ⟨r, hr, e1⟩ := hrx.map_inv
      simp only [opV, hm] at hv
      cases hg : h.tr.get b with
      | none => simp [hg] at hv
      | some ob =>
        cases ob with
        | map es =>
          simp only [hg] at hv
          obtain ⟨ces, cl, hw, ha⟩ := S.obj b r _ hr hg
          cases hl : lookIn [1] (ev e y) es with
          | none => simp [hl] at hv
          | some q =>
            obtain ⟨c, h1, h2⟩ := key es ces ha q hl (fun _ _ => trivial)
            have hvh : VR ρ v c ∧ h' = h := by
              cases q with
              | none => simp only [hl] at hv; cases hv; exact ⟨h1, rfl⟩
              | some q => simp only [hl] at hv; cases hv; exact ⟨h1, rfl⟩
            obtain ⟨h1, rfl⟩ := hvh
            refine Out.same S (c := c) (run_v ?_) h1
            rw [e1]
            have hgo : (getObj r.blk).run P w = .ok (.map ces cl) w := by simp [getObj, Sem.run, hw]
            simp only [Instr.lookup, Sem.run_bind, run_underlying hut, Result.andThen, hgo]
            simp [Sem.run_bind, Result.andThen] at h2 ⊢
            exact h2
        | _ => simp [hg] at hv
  | _ => simp [opV, hm] at hv

theorem op_mupd (hT : TabOk P T) {t kt el : TypeId} {i ki : TI} {kk : IntKind} {x y z : Operand} (hti : T t = some i) (hu : i.u = .map kt el) (hki : T kt = some ki) (hku : ki.u = .int kk)
    (S : Sim CC ρ h w) (hE : ER ρ e a.tmps) (hG : Globs ng ρ) (hx : opdOk ng x = true) (hy : opdOk ng y = true) (hz : opdOk ng z = true) (hv : opV e h (.mupd [1] x y z) = some (v, h')) :
    ∃ w', v = .tuple #[] ∧ (Instr.mapUpdate t (a.eval x) (a.eval y) (a.eval z)).run P w = .ok () w' ∧ Sim CC ρ h' w' ∧ Ext ρ h w ρ h' w' := by
  have hut := (hT t i hti).u
  rw [hu] at hut
  have huk := (hT kt ki hki).u
  rw [hku] at huk
  have hrx := hE.eval hG hx
  have hry := hE.eval hG hy
  have hrz := hE.eval hG hz
  cases hm : ev e x with
  | map m =>
    rw [hm] at hrx
    cases m with
    | none => simp [opV, hm] at hv
    | some b =>
      obtain ⟨r, hr, e1⟩ := hrx.map_inv
      simp only [opV, hm] at hv
      cases hg : h.tr.get b with
      | none => simp [hg] at hv
      | some ob =>
        cases ob with
        | map es =>
          simp only [hg] at hv
          cases hup : updIn [1] (ev e y) (ev e z) es with
          | none => simp [hup] at hv
          | some es' =>
            simp only [hup] at hv
            cases hv
            obtain ⟨ces, cl, hw, ha⟩ := S.obj b r _ hr hg
            have hgo : (getObj r.blk).run P w = .ok (.map ces cl) w := by simp [getObj, Sem.run, hw]
            have hso : ∀ o, (setObj r.blk o).run P w = .ok () { w with heap := w.heap.setIfInBounds r.blk o } := by intro o; simp [setObj, Sem.run, hw]
            have hset : ∀ o, ({ w with heap := w.heap.setIfInBounds r.blk o } : World).heap[r.blk]? = some o := by
              intro o
              have := blk_lt hw
              simp [this]
            rw [e1]
            rcases upd_now (kk := kk) hry hrz ha 0 hup with ⟨hf, hb⟩ | ⟨j, y', cv', hf, hyj, hsb, hb⟩
            · obtain ⟨S', E'⟩ := S.upd hr hg rfl (At1.obj (w := w) r.blk (.map (ces.push { key := a.eval y, val := a.eval z, born := cl }) (cl + 1))) (o' := .map es') ⟨_, _, hset _, by show All2 (MRel ρ) es' _; simpa using hb cl⟩ (h.clock + 1)
              refine ⟨_, rfl, ?_, S', E'⟩
              simp [Instr.mapUpdate, run_underlying hut, hgo, key_run huk, Instr.findKey, run_underlying huk, hf, hso]
            · obtain ⟨S', E'⟩ := S.upd hr hg rfl (At1.obj (w := w) r.blk (.map (ces.modify j fun e => { e with key := a.eval y, val := a.eval z }) cl)) (o' := .map es') ⟨_, _, hset _, by show All2 (MRel ρ) es' _; simpa using hb⟩ (h.clock + 1)
              refine ⟨_, rfl, ?_, S', E'⟩
              have hyj' : ces[j]? = some y' := by simpa using hyj
              simp [Instr.mapUpdate, run_underlying hut, hgo, key_run huk, Instr.findKey, run_underlying huk, hf, hso, hyj', Instr.keyThatStays, hsb]
        | _ => simp [hg] at hv
  | _ => simp [opV, hm] at hv
end
end Go.AI
