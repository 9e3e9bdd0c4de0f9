/- The abstract run and the true one: regions in the text's order, calls, rounds, functions. -/
import Derived.Test.YtigniafapkbbbaaGreatDoorAiOps7
import Derived.Test.YtigniafapkbbbaaGreatDoorAiMach2
namespace Go.AI

abbrev Draws := Nat → List Oper → List (AOper × List Nat)

def cmpRes (T : Tab) : ResultVar → Option ARes
  | .tmp t => some (.tmp t)
  | .cell a t => match T t with
    | some i => some (.cell a (aggN i))
    | none => none

section
variable (P : Program) (T : Tab) (ng : Nat) (dr : Draws) (F : Nat → Option AFunc)

def CCof : CodeRel := fun k ac c => ∃ n, n ≤ k ∧ ac = cmpCode T ng n dr c ∧ noRng c = true

/-- What every true call of a function comes to. -/
def CallOk (f : Nat) (args : List Value) (h : Heap) (v : Value) (h' : Heap) : Prop :=
  ∀ (cargs : List Value) (ρ : Rho) (w : World), Sim (CCof T ng dr) ρ h w → Globs ng ρ → All2 (VR ρ) args cargs → ∀ cs : List Frame,
    ∃ fn ρ' w' c fr, P.funcs[f]? = some fn ∧ fn.body.isSome = true ∧ (fn.name == "runtime.NumGoroutine") = false ∧
      Steps P (lone (Frame.enter P f ⟨cargs⟩ .normal) cs w) (lone fr cs w') ∧ fr.fn = f ∧ fr.leaving P w' (.returned c) ∧ VR ρ' v c ∧ Sim (CCof T ng dr) ρ' h' w' ∧ Ext ρ h w ρ' h' w'

def PrimOk (f : Nat) (p : List Value → Heap → Option (Value × Heap)) : Prop := ∀ args h v h', p args h = some (v, h') → CallOk P T ng dr f args h v h'

/-- The function is slices.overlaps. -/
def OvlOk (f : Nat) : Prop := ∃ fn t el i ei, P.funcs[f]? = some fn ∧ fn.body.isNone = true ∧ (fn.name == "runtime.NumGoroutine") = false ∧ Extern.findNext fn = none ∧
  Extern.find fn = some (Extern.SlicesOverlaps.overlaps fn.params fn.resultTypes) ∧ fn.params[0]? = some t ∧ T t = some i ∧ i.u = .slice el ∧ T el = some ei

/-- The abstract functions are those of the program. -/
def FOk : Prop := ∀ f af, F f = some af → match af.prim with
  | .no => ∃ fn c, P.funcs[f]? = some fn ∧ fn.body = some c ∧ (fn.name == "runtime.NumGoroutine") = false ∧
    All2 (fun r ar => cmpRes T r = some ar) fn.results.toList af.res ∧ af.body = cmpCode T ng fn.ntmps dr c
  | .run p _ => PrimOk P T ng dr f p
  | .ovl => OvlOk P T f
end

def Free (ρ : Rho) (h : Heap) (k : Nat) : Prop := ∀ x r o, ρ x = some r → h.tr.get x = some o → r.blk ≠ k

def mark (r : Nat) : Deferred := { target := .collected r, args := #[] }

/-- The frame's deferred calls: blocks without any, of its own. -/
def DefOk (B : Nat) (ρ : Rho) (h : Heap) (w : World) (ds : List Deferred) : Prop :=
  ∃ rs : List Nat, ds = rs.map mark ∧ rs.Nodup ∧ ∀ r ∈ rs, B ≤ r ∧ w.heap[r]? = some (.deferred (some [])) ∧ Free ρ h r

theorem Free.ext {ρ ρ' : Rho} {h h' : Heap} {w w' : World} {k : Nat} (hf : Free ρ h k) (E : Ext ρ h w ρ' h' w') (hk : k < w.heap.size) : Free ρ' h' k := by
  intro x r o hx ho e
  rcases E.live x r o hx ho with h1 | ⟨b, r0, o0, h1, h2, h3⟩
  · omega
  · exact hf b r0 o0 h1 h2 (h3.trans e)

theorem DefOk.ext {B : Nat} {ρ ρ' : Rho} {h h' : Heap} {w w' : World} {ds : List Deferred} (hd : DefOk B ρ h w ds) (E : Ext ρ h w ρ' h' w') : DefOk B ρ' h' w' ds := by
  obtain ⟨rs, h1, h2, h3⟩ := hd
  refine ⟨rs, h1, h2, fun r hr => ?_⟩
  obtain ⟨h4, h5, h6⟩ := h3 r hr
  have hlt := blk_lt h5
  refine ⟨h4, ?_, h6.ext E hlt⟩
  rw [E.keep r hlt, h5]
  rintro x rx hx ⟨o, ho, _⟩
  exact h6 x rx o hx ho

def Goes (P : Program) (b : Frame) (k : List Item) (cs : List Frame) (m : Machine) : AExit → Act → World → Prop
  | .normal, a, w => Steps P m (lone (on b a k) cs w)
  | .exit id, a, w => ∃ k', Steps P m (lone (on b a (.code (.exit id) :: k')) cs w) ∧ exitTo id k' = exitTo id k
  | .ret, a, w => ∃ k', Steps P m (lone (on b a (.code .ret :: k')) cs w)

theorem Goes.of_steps {P : Program} {b : Frame} {k : List Item} {cs : List Frame} {m m' : Machine} {x : AExit} {a : Act} {w : World} (h : Steps P m m') (g : Goes P b k cs m' x a w) : Goes P b k cs m x a w := by
  cases x with
  | normal => exact Steps.trans h g
  | exit id => obtain ⟨k', h1, h2⟩ := g; exact ⟨k', h.trans h1, h2⟩
  | ret => obtain ⟨k', h1⟩ := g; exact ⟨k', h.trans h1⟩

section
variable {P : Program} {T : Tab} {ng : Nat} {dr : Draws} {F : Nat → Option AFunc} {ih : ACode → Env → Heap → R}

/-- what holds behind a piece of a frame's run -/
structure After (CC : CodeRel) (B : Nat) (ρ : Rho) (h : Heap) (w : World) (a : Act) (ρ' : Rho) (e' : Env) (h' : Heap) (w' : World) (a' : Act) : Prop where
  sim : Sim CC ρ' h' w'
  er : ER ρ' e' a'.tmps
  size : a'.tmps.size = a.tmps.size
  ext : Ext ρ h w ρ' h' w'
  defs : DefOk B ρ' h' w' a'.defers

def RunOk (P : Program) (T : Tab) (ng : Nat) (dr : Draws) (ih : ACode → Env → Heap → R) : Prop :=
  ∀ (n : Nat) (c : Code) (e : Env) (h : Heap) (x : AExit) (e' : Env) (h' : Heap), ih (cmpCode T ng n dr c) e h = some (x, e', h') →
    ∀ (B : Nat) (ρ : Rho) (w : World) (a : Act) (b : Frame) (k : List Item) (cs : List Frame), Sim (CCof T ng dr) ρ h w → Globs ng ρ → ER ρ e a.tmps → n ≤ a.tmps.size → B ≤ w.heap.size → DefOk B ρ h w a.defers →
      (b.roundOf = none ∨ noRng c = true) →
      ∃ ρ' w' a', Goes P b k cs (lone (on b a (.code c :: k)) cs w) x a' w' ∧ After (CCof T ng dr) B ρ h w a ρ' e' h' w' a'

theorem ER.put {ρ : Rho} {e : Env} {a : Act} (hE : ER ρ e a.tmps) {dst : Option Nat} {v c : Value} (hd : ∀ d, dst = some d → d < a.tmps.size) (hv : VR ρ v c) : ER ρ (putE e dst v) (a.put dst c).tmps := by
  cases dst with
  | none => exact hE
  | some d =>
    intro t
    have hlt := hd d rfl
    simp only [putE, Act.put, Env.get_set]
    by_cases ht : t = d
    · subst ht
      simp [Array.getD, hlt, hv]
    · rw [if_neg ht]
      have := hE t
      have he : (a.tmps.setIfInBounds d c).getD t undef = a.tmps.getD t undef := by
        simp [Array.getD_eq_getD_getElem?, Array.getElem?_setIfInBounds, Ne.symm ht]
      rw [he]
      exact this

theorem put_size (a : Act) (dst : Option Nat) (c : Value) : (a.put dst c).tmps.size = a.tmps.size := by
  cases dst <;> simp [Act.put]
theorem put_defers (a : Act) (dst : Option Nat) (c : Value) : (a.put dst c).defers = a.defers := by
  cases dst <;> rfl

theorem VR.of_bool {ρ : Rho} {v : Value} {b : Bool} (h : VR ρ v (.bool b)) : v = .bool b := by
  cases h with
  | val h => cases h with
    | cell h => cases h with
      | cell h => cases h; rfl

theorem wanted_rel {ρ : Rho} {e : Env} {a : Act} (hE : ER ρ e a.tmps) {ops : Array Oper} {o : Oper} {g : Option (Nat × Bool)}
    (hg : (o.guard = none ∧ g = none) ∨ ∃ j b t, o.guard = some (j, b) ∧ slotOf ops.toList j = some t ∧ g = some (t, b)) : Region.wanted o (yielded ops a.tmps) = wanted e g := by
  rcases hg with ⟨h1, rfl⟩ | ⟨j, b, t, h1, h2, rfl⟩
  · simp [Region.wanted, h1, wanted]
  · simp only [Region.wanted, h1, wanted]
    have hy : yielded ops a.tmps j = match a.tmps[t]? with | some (.bool c) => some c | _ => none := by
      unfold slotOf at h2
      split at h2
      · rename_i o' ho'
        have ho'' : ops[j]? = some o' := by simpa using ho'
        simp only [yielded, ho'', Option.bind_some, h2]
        rfl
      · cases h2
    have hr := hE t
    rw [Array.getD_eq_getD_getElem?] at hr
    rw [hy]
    cases hv : a.tmps[t]? with
    | none =>
      rw [hv] at hr
      simp only [Option.getD_none] at hr
      have hx : Env.get e t = .tuple #[] := by
        cases hq : Env.get e t with
        | tuple l =>
          rw [hq] at hr
          obtain ⟨m, hm, hk⟩ := hr.tuple_inv
          have : m = [] := by
            unfold undef at hm; injection hm with hm; injection hm with hm; exact hm.symm
          subst this
          obtain ⟨l⟩ := l
          cases hk; rfl
        | _ => rw [hq] at hr; unfold undef at hr; cases hr with
          | val h => cases h with
            | cell h => exact absurd h.plain.2 (by simp [AI.plain])
      rw [hx]
      simp
    | some u =>
      rw [hv] at hr
      simp only [Option.getD_some] at hr
      cases u with
      | bool c =>
        rw [VR.of_bool hr]
        simp
      | _ =>
        cases hq : Env.get e t with
        | bool c => rw [hq] at hr; have := hr.bool_inv; cases this
        | _ => simp

theorem params_get : ∀ (l : List Value) (e : Env) (i t : Nat), Env.get (params e i l) t = if i ≤ t then (match l[t - i]? with | some v => v | none => Env.get e t) else Env.get e t
  | [], e, i, t => by simp [params]
  | v :: l, e, i, t => by
    rw [params, params_get l _ (i + 1) t]
    by_cases h1 : i + 1 ≤ t
    · rw [if_pos h1, if_pos (by omega), show t - i = (t - (i + 1)) + 1 by omega, List.getElem?_cons_succ]
      split
      · rfl
      · rw [Env.get_set, if_neg (by omega)]
    · rw [if_neg h1, Env.get_set]
      by_cases h2 : t = i
      · subst h2; simp
      · rw [if_neg h2, if_neg (by omega)]

theorem params_er {ρ : Rho} {args cargs : List Value} (h : All2 (VR ρ) args cargs) (m : Nat) : ER ρ (params .nil 0 args) ((⟨cargs⟩ : Array Value) ++ Array.replicate m undef) := by
  intro t
  rw [params_get]
  simp only [Nat.zero_le, if_true, Nat.sub_zero]
  rw [Array.getD_eq_getD_getElem?]
  cases ha : args[t]? with
  | some v =>
    obtain ⟨c, hc, hr⟩ := h.get ha
    have hlt := (List.getElem?_eq_some_iff.1 hc).1
    rw [Array.getElem?_append_left (by simpa using hlt)]
    have : (⟨cargs⟩ : Array Value)[t]? = some c := by rw [← hc]; simp
    rw [this]
    exact hr
  | none =>
    have hge : args.length ≤ t := List.getElem?_eq_none_iff.1 ha
    have hl := h.length
    have : ((⟨cargs⟩ : Array Value) ++ Array.replicate m undef)[t]?.getD undef = undef := by
      by_cases ht : t < cargs.length + m
      · rw [Array.getElem?_append_right (by simp; omega)]
        simp
        by_cases hx : t - cargs.length < m
        · simp [hx]
        · simp [hx]
      · rw [Array.getElem?_eq_none (by simp; omega)]
        rfl
    rw [this]
    exact VR.undef

theorem setParams_er {ρ : Rho} : ∀ (ps : List Nat) (args cargs : List Value) (e e' : Env) (tmps : Array Value), All2 (VR ρ) args cargs → setParams e ps args = some e' → ER ρ e tmps → (∀ t ∈ ps, t < tmps.size) →
    ER ρ e' ((ps.zip cargs).foldl (fun (tmps : Array Value) (x : Nat × Value) => tmps.setIfInBounds x.1 x.2) tmps) ∧ ((ps.zip cargs).foldl (fun (tmps : Array Value) (x : Nat × Value) => tmps.setIfInBounds x.1 x.2) tmps).size = tmps.size ∧ ps.length = args.length := by
  intro ps
  induction ps with
  | nil =>
    intro args cargs e e' tmps ha hs hE _
    cases ha with
    | nil => simp only [setParams, Option.some.injEq] at hs; subst hs; exact ⟨hE, rfl, rfl⟩
    | cons => simp [setParams] at hs
  | cons t ps ihp =>
    intro args cargs e e' tmps ha hs hE hlt
    cases ha with
    | nil => simp [setParams] at hs
    | @cons v c args cargs hv hrest =>
      simp only [setParams] at hs
      have hput := ER.put (a := ⟨tmps, []⟩) (dst := some t) hE (fun d hd => by cases hd; exact hlt t (by simp)) hv
      simp only [putE, Act.put] at hput
      obtain ⟨h1, h2, h3⟩ := ihp args cargs _ e' (tmps.setIfInBounds t c) hrest hs hput (fun u hu => by simpa using hlt u (by simp [hu]))
      exact ⟨h1, by simpa using h2, by simp [h3]⟩

/-- how a result is read -/
def resF (tmps : Array Value) : ResultVar → Sem Value
  | .tmp t => pure (tmps.getD t undef)
  | .cell a t => do loadVar t (← asAddr (tmps.getD a undef))

theorem results_eq (fn : Func) (tmps : Array Value) : Go.results fn tmps = (do
    let vs ← fn.results.mapM (resF tmps)
    pure (if h : vs.size = 1 then vs[0] else .tuple vs)) := by
  unfold Go.results
  congr 1

theorem results_rel {CC : CodeRel} {ρ : Rho} {e : Env} {h : Heap} {w : World} {tmps : Array Value} (hT : TabOk P T) (S : Sim CC ρ h w) (hE : ER ρ e tmps) :
    ∀ (rs : List ResultVar) (ars : List ARes) (vs : List Value), All2 (fun r ar => cmpRes T r = some ar) rs ars → results e h ars = some vs →
      ∃ cs : List Value, All2 (VR ρ) vs cs ∧ ∀ r c, (r, c) ∈ rs.zip cs → (resF tmps r).run P w = .ok c w := by
  intro rs
  induction rs with
  | nil =>
    intro ars vs ha hr
    cases ha
    simp only [results, Option.some.injEq] at hr
    subst hr
    exact ⟨[], .nil, fun r c h => by simp at h⟩
  | cons r rs ihr =>
    intro ars vs ha hr
    cases ha with
    | @cons _ ar _ ars h1 h2 =>
    cases r with
    | tmp t =>
      simp only [cmpRes, Option.some.injEq] at h1
      subst h1
      simp only [results] at hr
      split at hr
      · rename_i l hl
        cases hr
        obtain ⟨cs, hcs, hrun⟩ := ihr ars l h2 hl
        refine ⟨_ :: cs, .cons (hE t) hcs, ?_⟩
        intro r c hm
        simp only [List.zip_cons_cons, List.mem_cons, Prod.mk.injEq] at hm
        rcases hm with ⟨rfl, rfl⟩ | hm
        · rfl
        · exact hrun r c hm
      · cases hr
    | cell ad t =>
      simp only [cmpRes] at h1
      split at h1
      · rename_i i hi
        cases h1
        simp only [results] at hr
        split at hr
        · rename_i b off heq
          split at hr
          · rename_i cells hread
            split at hr
            · rename_i v hv
              split at hr
              · rename_i l hl
                cases hr
                obtain ⟨cs, hcs, hrun⟩ := ihr ars l h2 hl
                have hp := hE ad
                rw [heq] at hp
                obtain ⟨rr, hrr, hc⟩ := hp.ptr_inv
                obtain ⟨c, hload, hvr⟩ := op_load (P := P) S (hT t i hi) hrr hread hv
                refine ⟨c :: cs, .cons hvr hcs, ?_⟩
                intro r c' hm
                simp only [List.zip_cons_cons, List.mem_cons, Prod.mk.injEq] at hm
                rcases hm with ⟨rfl, rfl⟩ | hm
                · simp only [resF, Sem.run_bind, hc, asAddr, Sem.run_pure, Result.andThen_ok, hload]
                · exact hrun r c' hm
              · cases hr
            · cases hr
          · cases hr
        · cases hr
      · cases h1

theorem mapM_zip {α β : Type} (f : α → Sem β) : ∀ (l : List α) (m : List β) (w : World), l.length = m.length → (∀ x y, (x, y) ∈ l.zip m → (f x).run P w = .ok y w) → ∀ acc : Array β,
    (l.foldlM (fun bs x => bs.push <$> f x) acc).run P w = .ok (acc ++ m.toArray) w := by
  intro l
  induction l with
  | nil => intro m w hl _ acc; cases m with
    | nil => simp
    | cons => simp at hl
  | cons x l ihl =>
    intro m w hl hx acc
    cases m with
    | nil => simp at hl
    | cons y m =>
      simp only [List.foldlM_cons, Sem.run_bind, bind_map_run, hx x y (by simp), Result.andThen_ok]
      rw [ihl m w (by simpa using hl) (fun u v huv => hx u v (by simp [huv]))]
      congr 1
      apply Array.ext'
      simp

theorem results_run {CC : CodeRel} {ρ : Rho} {e : Env} {h : Heap} {w : World} {tmps : Array Value} (hT : TabOk P T) (S : Sim CC ρ h w) (hE : ER ρ e tmps) {fn : Func} {ars : List ARes} {vs : List Value}
    (ha : All2 (fun r ar => cmpRes T r = some ar) fn.results.toList ars) (hr : results e h ars = some vs) (hok : resultOk vs = true) : ∃ c, (Go.results fn tmps).run P w = .ok c w ∧ VR ρ (result vs) c := by
  obtain ⟨cs, hcs, hrun⟩ := results_rel hT S hE _ _ _ ha hr
  have hlen : fn.results.toList.length = cs.length := by
    have h1 := ha.length
    have h2 := hcs.length
    have h3 : ∀ (ars : List ARes) (vs : List Value), results e h ars = some vs → vs.length = ars.length := by
      intro ars
      induction ars with
      | nil => intro vs h; simp only [results, Option.some.injEq] at h; subst h; rfl
      | cons r ars ihr =>
        intro vs h
        cases r with
        | tmp t =>
          simp only [results] at h
          split at h
          · rename_i l hl; cases h; simp [ihr l hl]
          · cases h
        | cell ad n =>
          simp only [results] at h
          repeat (split at h <;> try cases h)
          rename_i l hl
          simp [ihr l hl]
    have := h3 _ _ hr
    omega
  have hm : (fn.results.mapM (resF tmps)).run P w = .ok ⟨cs⟩ w := by
    rw [Array.mapM_eq_foldlM, ← Array.foldlM_toList, mapM_zip _ _ cs w hlen hrun]
    congr 1
    apply Array.ext'; simp
  refine ⟨if h : (⟨cs⟩ : Array Value).size = 1 then (⟨cs⟩ : Array Value)[0] else .tuple ⟨cs⟩, ?_, ?_⟩
  · rw [results_eq]
    simp only [Sem.run_bind, hm, Result.andThen_ok, Sem.run_pure]
  · match vs, cs, hcs with
    | [v], [c], .cons hv .nil => simpa [result] using hv
    | [], [], .nil => simpa [result] using VR.tuple (ρ := ρ) .nil
    | v1 :: v2 :: vs, c1 :: c2 :: cs, hh =>
      have hne : ¬ ((⟨c1 :: c2 :: cs⟩ : Array Value).size = 1) := by simp
      rw [dif_neg hne]
      simp only [result]
      have hall : (v1 :: v2 :: vs).all noTuple = true := hok
      have conv : ∀ {l m : List Value}, All2 (VR ρ) l m → l.all noTuple = true → All2 (AR ρ) l m := by
        intro l m h
        induction h with
        | nil => intro _; exact .nil
        | cons hv _ ihh =>
          intro hl
          simp only [List.all_cons, Bool.and_eq_true] at hl
          refine .cons ?_ (ihh hl.2)
          cases hv with
          | val h => exact h
          | tuple => simp [noTuple] at hl
          | atl => simp [noTuple] at hl
      exact VR.tuple (conv hh hall)
end
end Go.AI
