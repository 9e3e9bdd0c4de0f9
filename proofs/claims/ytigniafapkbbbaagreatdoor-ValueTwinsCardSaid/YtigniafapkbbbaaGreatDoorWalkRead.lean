/- A law on arguments that are only read: from the abstract walk to the row. -/
import Derived.Test.YtigniafapkbbbaaGreatDoorAiTop
import Derived.Test.YtigniafapkbbbaaGreatDoorAiWalk2
import Derived.ProofKit
import Derived.WideKeyArgs
import Derived.OpenShut
namespace Go.AI

/-- Nothing that stood is another. -/
def Kept (W W' : World) : Prop := W'.os = W.os ∧ W'.output = W.output ∧ W.heap.size ≤ W'.heap.size ∧ ∀ i, i < W.heap.size → W'.heap[i]? = W.heap[i]?

theorem Kept.keptBut {W W' : World} (h : Kept W W') (may : MemPlace → Prop) : W.keptBut W' may := by
  refine ⟨h.1, h.2.1, fun i hi => ?_⟩
  rw [h.2.2.2 i hi]
  cases hx : W.heap[i]? with
  | none => rfl
  | some o =>
    cases o with
    | cells cc t fr => exact ⟨rfl, rfl, rfl, fun _ _ => rfl⟩
    | map es cl => exact .inr ⟨rfl, rfl⟩
    | _ => rfl

theorem Kept.sameAt {W W' : World} (h : Kept W W') {p : MemPlace} (hp : p.block < W.heap.size) : W.sameAt W' p := by
  cases p with
  | cell b off => simp only [World.sameAt, World.cell?, h.2.2.2 b hp]
  | map b => exact h.2.2.2 b hp

theorem Kept.frozen {W W' : World} (h : Kept W W') {b off : Nat} (hb : b < W.heap.size) : W'.frozen? ⟨b, off, none⟩ = W.frozen? ⟨b, off, none⟩ := by
  simp only [World.frozen?, h.2.2.2 b hb]

section
variable {P : Program} {T : Tab} {ng : Nat} {F : Nat → Option AFunc}

/-- A law that the walk brings to 'true', from a memory into which nothing can be written. -/
theorem law_read (hF : FOk P T ng (drawOf T ng) F) (hT : TabOk P T) {f : Nat} {args cargs : List Value} {h : Heap} (H : Does F f args h (fun v _ => v = .bool true))
    {ρ : Rho} {W : World} (S : Sim (CCof T ng (drawOf T ng)) ρ h W) (hG : Globs ng ρ) (ha : All2 (VR ρ) args cargs) (hro : ∀ b, ¬ writable h b) :
    Calls P f ⟨cargs⟩ W (fun e W' => e = .returned (.bool true) ∧ Kept W W') := by
  obtain ⟨n, v, h', hr, rfl⟩ := H
  intro ccs
  obtain ⟨fn, ρ', w', c, fr, _, _, _, h4, h5, h6, h7, _, h9⟩ := call_sound hF hT hr S hG ha ccs
  have hcb := h7.bool_inv
  subst hcb
  exact ⟨.returned (.bool true), w', fr, ⟨rfl, h9.os, h9.output, h9.size, fun i hi => h9.keep i hi (fun b r _ hw => absurd hw (hro b))⟩, h4, h5, h6⟩
end

section
open Go.ChangeShapes Go.WideShapes Go.ChangeAt
variable {H : Type} {enc : TypeId × Value → H} {P : Program}

/-- what is asked behind a call that wrote nothing of what stood, and hands back nothing that lies in memory -/
theorem post_of_read {f : Func} {s : ChangeSpec} {apart fresh handsOn again : Bool} {W W' : World} {args : Array Value} {v : Value} {ds gs : List (DataW H)} {before : List MemPlace}
    (hW : DataW.Whole enc P f.params.toList s.vars apart W args.toList ds gs before)
    (hres : ∀ (b : Nat) (sp : Nat → Bool) (hd : Bool), DataW.TrodAll enc P W' b sp hd f.resultTypes.toList (v.resultList f.resultTypes.size) (s.fn H (ds ++ gs)).results [])
    (hargs : ∀ sp : Nat → Bool, (∀ p ∈ before, sp p.block = true) → DataW.TrodAll enc P W' 0 sp true f.params.toList args.toList (s.fn H (ds ++ gs)).args before)
    (hvars : ∀ sp : Nat → Bool, (∀ p ∈ before, sp p.block = true) → DataW.TrodVars enc P W' sp s.vars (s.fn H (ds ++ gs)).vars [])
    (hk : Kept W W')
    (hok : ∀ (j : Nat) (t : TypeId) (r : Value), f.resultTypes[j]? = some t → (v.resultList f.resultTypes.size)[j]? = some r → Value.okWide P W' .any 0 t r) :
    s.post enc P f apart fresh handsOn again W args v W' := by
  have hold : ∀ p ∈ before, (fun b => decide (b < W.heap.size)) p.block = true := fun p hp => by simpa using hW.lt p hp
  refine ⟨ds, gs, before, [], before, [], hW, hres _ _ _, hargs _ hold, hvars _ hold, World.keptBut_mono (fun p hp => ⟨hp, .inr (.inl hp)⟩) (hk.keptBut _), fun _ => ?_⟩
  have hlt := hW.lt
  obtain ⟨_, _, _, _, _, hz, hn⟩ := hW
  refine ⟨hok, _, _, ([] ++ before) ++ [], ⟨[] ++ before, [], trodAll_append (hargs _ (fun _ _ => rfl)) (hres _ _ _), hvars _ (fun _ _ => rfl), rfl, ?_, ?_⟩, ?_⟩
  · intro b off hp
    simp only [List.nil_append, List.append_nil] at hp
    rw [hk.frozen (b := b) (hlt (.cell b off) hp)]
    exact hz b off hp
  · intro ha
    simpa using hn ha
  · intro p hp _
    simpa using hp

end
end Go.AI

/- Data that came in, laid into the abstract memory: for every type of bools, integers, strings, structs, arrays and slices of such. -/
namespace Go.AI
open Go.ChangeShapes Go.WideShapes

/-- Types of data, as trees. -/
inductive Ty where
  | bool
  | int (k : IntKind)
  | str
  | unit
  | pair (a b : Ty)
  | sl (e : Ty)

namespace Ty
def sz : Ty → Nat
  | .bool => 1
  | .int _ => 1
  | .str => 1
  | .unit => 0
  | .pair a b => a.sz + b.sz
  | .sl _ => 1
def den : Ty → Type
  | .bool => Bool
  | .int _ => Int
  | .str => ByteArray
  | .unit => Unit
  | .pair a b => a.den × b.den
  | .sl e => List e.den
/-- so often one behind the other -/
def rep (e : Ty) : Nat → Ty
  | 0 => .unit
  | n + 1 => .pair e (e.rep n)
end Ty

/-- The value is a slice, and its elements' cells are so. -/
def SliceR {α : Type} (R : List Value → α → Prop) (sz : Nat) (h : Heap) (v : Value) (xs : List α) : Prop :=
  ∃ a cap, v = .slice a xs.length cap ∧ ((xs = [] ∧ (a = none ∨ ∃ b off, a = some ⟨b, off, none⟩)) ∨
    ∃ b off cs ro o s, a = some ⟨b, off, none⟩ ∧ h.tr.get b = some (.blk cs ro o s) ∧ ∀ i x, xs[i]? = some x → ((cs.drop (off + i * sz)).take sz).length = sz ∧ R ((cs.drop (off + i * sz)).take sz) x)

/-- The cells are these data. -/
def rep : (T : Ty) → Heap → List Value → T.den → Prop
  | .bool, _, cs, b => cs = [.bool b]
  | .int k, _, cs, n => cs = [.int k n]
  | .str, _, cs, s => cs = [.string s]
  | .unit, _, cs, _ => cs = []
  | .pair a b, h, cs, (x, y) => ∃ c1 c2, cs = c1 ++ c2 ∧ rep a h c1 x ∧ rep b h c2 y
  | .sl e, h, cs, xs => ∃ v, cs = [v] ∧ SliceR (rep e h) e.sz h v xs

theorem SliceR.mono {α : Type} {R R' : List Value → α → Prop} {sz : Nat} {h h' : Heap} {v : Value} {xs : List α} (s : SliceR R sz h v xs) (ok : HOk h) (g : Grows Nob h h') (hR : ∀ c x, R c x → R' c x) : SliceR R' sz h' v xs := by
  obtain ⟨a, cap, rfl, s⟩ := s
  refine ⟨a, cap, rfl, ?_⟩
  rcases s with s | ⟨b, off, cs, ro, o, st, rfl, hb, he⟩
  · exact .inl s
  · exact .inr ⟨b, off, cs, ro, o, st, rfl, g.get ok hb (fun h => h), fun i x hx => ⟨(he i x hx).1, hR _ _ (he i x hx).2⟩⟩

theorem rep_mono : ∀ {T : Ty} {h h' : Heap} {cs : List Value} {y : T.den}, HOk h → Grows Nob h h' → rep T h cs y → rep T h' cs y
  | .bool, _, _, _, _, _, _, r => r
  | .int _, _, _, _, _, _, _, r => r
  | .str, _, _, _, _, _, _, r => r
  | .unit, _, _, _, _, _, _, r => r
  | .pair a b, _, _, _, (x, y), ok, g, ⟨c1, c2, e, r1, r2⟩ => ⟨c1, c2, e, rep_mono ok g r1, rep_mono ok g r2⟩
  | .sl e, _, _, _, _, ok, g, ⟨v, hv, s⟩ => ⟨v, hv, s.mono ok g fun _ _ r => rep_mono ok g r⟩

theorem rep_len : ∀ {T : Ty} {h : Heap} {cs : List Value} {y : T.den}, rep T h cs y → cs.length = T.sz
  | .bool, _, _, _, r => by rw [show _ = [_] from r]; rfl
  | .int _, _, _, _, r => by rw [show _ = [_] from r]; rfl
  | .str, _, _, _, r => by rw [show _ = [_] from r]; rfl
  | .unit, _, _, _, r => by rw [show _ = [] from r]; rfl
  | .pair a b, _, _, (x, y), ⟨c1, c2, e, r1, r2⟩ => by rw [e, List.length_append, rep_len r1, rep_len r2]; rfl
  | .sl e, _, _, _, ⟨v, hv, _⟩ => by rw [hv]; rfl

section
variable (P : Program)

/-- fields, one behind the other from a place on -/
def tyFields (f : TypeId → Option Ty) : Nat → List Field → Option (Ty × Nat)
  | off, [] => some (.unit, off)
  | off, x :: xs => bif Nat.beq x.offset off then match f x.type with
      | none => none
      | some a => bif Nat.beq a.sz (P.cellsOf x.type) then match tyFields f (off + a.sz) xs with
          | some (b, n) => some (.pair a b, n)
          | none => none
        else none
    else none

/-- the tree of a type -/
def tyOf : Nat → TypeId → Option Ty
  | 0, _ => none
  | d + 1, t => match P.underlying t with
    | some .bool => some .bool
    | some (.int k) => some (.int k)
    | some .string => some .str
    | some (.slice e) => match tyOf d e with
      | some a => bif Nat.beq a.sz (P.cellsOf e) && Nat.blt 0 a.sz then some (.sl a) else none
      | none => none
    | some (.struct fs) => match tyFields P (tyOf d) 0 fs.toList with
      | some (a, n) => bif Nat.beq n (P.cellsOf t) then some a else none
      | none => none
    | some (.array n e) => match tyOf d e with
      | some a => bif Nat.beq a.sz (P.cellsOf e) && Nat.beq (n * a.sz) (P.cellsOf t) then some (a.rep n) else none
      | none => none
    | _ => none
end

theorem beq_eq' {a b : Nat} (h : Nat.beq a b = true) : a = b := Nat.eq_of_beq_eq_true h

/-- A memory of what came in alone. -/
structure Lain (CC : CodeRel) (ρ : Rho) (h : Heap) (w : World) : Prop where
  ok : HOk h
  ro : ∀ b, ¬ writable h b
  sim : Sim CC ρ h w

section
variable {H : Type} {enc : TypeId × Value → H} {P : Program} {w : World} {held : Bool} {CC : CodeRel}

/-- one block more -/
theorem Lain.add {ρ : Rho} {h : Heap} (L : Lain CC ρ h w) {blk base : Nat} {acs : List Value} {ccs : Array Value} {el : TypeId} {fr : Nat × Nat} (hb : w.heap[blk]? = some (.cells ccs el fr)) (hbase : base ≤ ccs.size)
    (hk : ∀ (j : Nat) (v : Value), acs[j]? = some v → ∃ c, ccs[base + j]? = some c ∧ KR ρ v c) :
    ∃ ρ', ρ.le ρ' ∧ ρ' h.next = some ⟨blk, base, acs.length, 0, ccs.size - base⟩ ∧ Lain CC ρ' (h.new (.blk acs true 0 0)) w ∧ Grows Nob h (h.new (.blk acs true 0 0)) := by
  have hnone : ρ h.next = none := by
    cases hr : ρ h.next with
    | none => rfl
    | some r => exact absurd (L.sim.low _ _ hr).1 (by omega)
  let ρ' : Rho := fun b => if b = h.next then some ⟨blk, base, acs.length, 0, ccs.size - base⟩ else ρ b
  have hle : ρ.le ρ' := by
    intro b r hr
    show (if b = h.next then _ else ρ b) = some r
    rw [if_neg (by rintro rfl; rw [hnone] at hr; cases hr)]
    exact hr
  have hself : ρ' h.next = some ⟨blk, base, acs.length, 0, ccs.size - base⟩ := by show (if h.next = h.next then _ else _) = _; rw [if_pos rfl]
  have hget : ∀ b, (h.new (.blk acs true 0 0)).tr.get b = if b = h.next then some (.blk acs true 0 0) else h.tr.get b := by intro b; simp [Heap.new, Tr.get_set]
  have hok : HOk (h.new (.blk acs true 0 0)) := by
    refine ⟨fun b o hb => ?_, fun b cs ro o s hb => ?_⟩
    · rw [hget] at hb
      show b < h.next + 1
      split at hb
      · omega
      · exact Nat.lt_succ_of_lt (L.ok.wf b o hb)
    · rw [hget] at hb
      split at hb
      · cases hb; exact Nat.zero_le _
      · exact L.ok.st b cs ro o s hb
  have hro : ∀ b, ¬ writable (h.new (.blk acs true 0 0)) b := by
    rintro b ⟨o, ho, hr⟩
    rw [hget] at ho
    split at ho
    · cases ho; cases hr
    · exact L.ro b ⟨o, ho, hr⟩
  have hgr : Grows Nob h (h.new (.blk acs true 0 0)) := by
    refine ⟨Nat.le_succ _, Nat.le_refl _, fun b hb _ => ?_, hok⟩
    rw [hget, if_neg (by omega)]
  refine ⟨ρ', hle, hself, ⟨hok, hro, ⟨fun b r hr => ?_, fun b r o hr ho => ?_, fun b b' r r' o _ _ hw => absurd hw (hro b), fun b o ho => hok.wf b o ho⟩⟩, hgr⟩
  · by_cases e : b = h.next
    · rw [e] at hr
      rw [hself] at hr
      cases hr
      exact ⟨by rw [e]; exact Nat.lt_succ_self _, (Array.getElem?_eq_some_iff.mp hb).1⟩
    · have hr' : ρ b = some r := by
        have : ρ' b = ρ b := by show (if b = h.next then _ else ρ b) = _; rw [if_neg e]
        rw [← this]; exact hr
      exact ⟨Nat.lt_succ_of_lt (L.sim.low _ _ hr').1, (L.sim.low _ _ hr').2⟩
  · rw [hget] at ho
    by_cases e : b = h.next
    · rw [if_pos e] at ho
      cases ho
      rw [e, hself] at hr
      cases hr
      exact ⟨ccs, el, fr, hb, rfl, rfl, ⟨by dsimp only; omega, fun h => absurd rfl h⟩, (fun h => by cases h), fun j v hv => by
        obtain ⟨c, hc, hkr⟩ := hk j v hv
        exact ⟨c, hc, hkr.mono hle⟩⟩
    · rw [if_neg e] at ho
      have hr' : ρ b = some r := by
        have : ρ' b = ρ b := by show (if b = h.next then _ else ρ b) = _; rw [if_neg e]
        rw [← this]; exact hr
      have hobj := L.sim.obj b r o hr' ho
      cases o with
      | blk cs ro op st =>
        obtain ⟨c2, el2, fr2, h1, h2, h3, h4, h5, h6⟩ := hobj
        exact ⟨c2, el2, fr2, h1, h2, h3, h4, h5, fun j v hv => by
          obtain ⟨c, hc, hkr⟩ := h6 j v hv
          exact ⟨c, hc, hkr.mono hle⟩⟩
      | loop => exact absurd ⟨_, ho, rfl⟩ (L.ro b)
      | map => exact absurd ⟨_, ho, rfl⟩ (L.ro b)
      | itr => exact absurd ⟨_, ho, rfl⟩ (L.ro b)

/-- What is wanted of some cells. -/
def Laid (CC : CodeRel) (w : World) (T : Ty) (ρ : Rho) (h : Heap) (cs : List Value) : Prop :=
  ∃ ρ' h' acs y, ρ.le ρ' ∧ Grows Nob h h' ∧ Lain CC ρ' h' w ∧ All2 (KR ρ') acs cs ∧ rep T h' acs y

theorem laid_pair {a b : Ty} {ρ : Rho} {h : Heap} {c1 c2 : List Value} (h1 : Laid CC w a ρ h c1) (h2 : ∀ ρ' h', Lain CC ρ' h' w → Laid CC w b ρ' h' c2) : Laid CC w (.pair a b) ρ h (c1 ++ c2) := by
  obtain ⟨ρ1, m1, a1, y1, l1, g1, L1, k1, r1⟩ := h1
  obtain ⟨ρ2, m2, a2, y2, l2, g2, L2, k2, r2⟩ := h2 ρ1 m1 L1
  exact ⟨ρ2, m2, a1 ++ a2, (y1, y2), Rho.le_trans l1 l2, g1.trans g2, L2, (k1.mono fun _ _ h => h.mono l2).app k2, a1, a2, rfl, rep_mono L1.ok g2 r1, r2⟩

/-- a row of elements -/
theorem laid_row {e : Ty} : ∀ {css : List (List Value)} {ρ : Rho} {h : Heap}, Lain CC ρ h w → (∀ cs ∈ css, ∀ ρ' h', Lain CC ρ' h' w → Laid CC w e ρ' h' cs) →
    ∃ ρ' h' acss ys, ρ.le ρ' ∧ Grows Nob h h' ∧ Lain CC ρ' h' w ∧ All2 (All2 (KR ρ')) acss css ∧ All2 (rep e h') acss ys
  | [], ρ, h, L, _ => ⟨ρ, h, [], [], ρ.le_refl, .refl L.ok, L, .nil, .nil⟩
  | cs :: css, ρ, h, L, H => by
    obtain ⟨ρ1, m1, a1, y1, l1, g1, L1, k1, r1⟩ := H cs (List.mem_cons_self ..) ρ h L
    obtain ⟨ρ2, m2, a2, y2, l2, g2, L2, k2, r2⟩ := laid_row L1 (fun c hc => H c (List.mem_cons_of_mem _ hc))
    exact ⟨ρ2, m2, a1 :: a2, y1 :: y2, Rho.le_trans l1 l2, g1.trans g2, L2, .cons (k1.mono fun _ _ h => h.mono l2) k2, .cons (rep_mono L1.ok g2 r1) r2⟩

theorem all2_flat {α β : Type} {R : α → β → Prop} : ∀ {l : List (List α)} {m : List (List β)}, All2 (All2 R) l m → All2 R l.flatten m.flatten
  | _, _, .nil => .nil
  | _, _, .cons h hs => by simpa using h.app (all2_flat hs)

theorem flat_at {α : Type} {sz : Nat} : ∀ {l : List (List α)} {i : Nat} {c : List α}, (∀ c ∈ l, c.length = sz) → l[i]? = some c → (l.flatten.drop (i * sz)).take sz = c
  | [], i, c, _, h => by simp at h
  | x :: l, 0, c, hl, h => by
    cases h
    have := hl x (List.mem_cons_self ..)
    simp [List.take_append, this]
  | x :: l, i + 1, c, hl, h => by
    have hx := hl x (List.mem_cons_self ..)
    have h' : l[i]? = some c := by simpa using h
    rw [List.flatten_cons, List.drop_append, List.drop_eq_nil_of_le (by rw [hx, Nat.add_mul]; omega), List.nil_append, hx, show (i + 1) * sz - sz = i * sz by rw [Nat.add_mul]; omega]
    exact flat_at (fun c hc => hl c (List.mem_cons_of_mem _ hc)) h'

theorem flat_get {α : Type} {sz : Nat} (hz : 0 < sz) : ∀ {l : List (List α)} {j : Nat} {c : α}, (∀ c ∈ l, c.length = sz) → l.flatten[j]? = some c → ∃ x, l[j / sz]? = some x ∧ x[j % sz]? = some c
  | [], j, c, _, h => by simp at h
  | x :: l, j, c, hl, h => by
    have hx := hl x (List.mem_cons_self ..)
    rw [List.flatten_cons] at h
    by_cases hj : j < sz
    · rw [List.getElem?_append_left (by omega)] at h
      exact ⟨x, by rw [Nat.div_eq_of_lt hj]; rfl, by rw [Nat.mod_eq_of_lt hj]; exact h⟩
    · rw [List.getElem?_append_right (by omega), hx] at h
      obtain ⟨y, hy, hc⟩ := flat_get hz (fun c hc => hl c (List.mem_cons_of_mem _ hc)) h
      refine ⟨y, ?_, ?_⟩
      · rw [Nat.div_eq j sz, if_pos ⟨hz, by omega⟩]; simpa using hy
      · rw [Nat.mod_eq_sub_mod (by omega)]; exact hc

theorem mapM_get {α β : Type} {f : α → Option β} : ∀ {l : List α} {r : List β}, l.mapM f = some r → r.length = l.length ∧ ∀ (i : Nat) (a : α) (b : β), l[i]? = some a → r[i]? = some b → f a = some b
  | [], r, h => by simp at h; subst h; simp
  | a :: l, r, h => by
    rw [List.mapM_cons] at h
    simp only [Option.bind_eq_bind, Option.bind_eq_some_iff, Option.pure_def, Option.some.injEq] at h
    obtain ⟨b, hb, bs, hbs, rfl⟩ := h
    obtain ⟨h1, h2⟩ := mapM_get hbs
    refine ⟨by simp [h1], fun i x y hx hy => ?_⟩
    cases i with
    | zero => simp at hx hy; subst hx; subst hy; exact hb
    | succ i => exact h2 i x y (by simpa using hx) (by simpa using hy)

theorem cells_get {a : Addr} {n : Nat} {cs : List Value} (h : w.cells? 0 a n = some cs) : cs.length = n ∧ ∀ k c, cs[k]? = some c → w.cell? (a.add k) = some c := by
  unfold World.cells? at h
  rw [if_pos (Nat.zero_le _)] at h
  obtain ⟨h1, h2⟩ := mapM_get h
  simp at h1
  refine ⟨h1, fun k c hc => ?_⟩
  have hk := (List.getElem?_eq_some_iff.mp hc).1
  exact h2 k k c (by rw [List.getElem?_range (by omega)]) hc

theorem cell_in {a : Addr} {v : Value} (h : w.cell? a = some v) : a.spot = none ∧ ∃ ccs el fr, w.heap[a.block]? = some (.cells ccs el fr) ∧ ccs[a.off]? = some v := by
  unfold World.cell? at h
  split at h
  · rename_i ccs el fr hh
    split at h
    · cases h
    · rename_i hs
      exact ⟨by cases hsp : a.spot with | none => rfl | some _ => rw [hsp] at hs; simp at hs, ccs, el, fr, hh, h⟩
  · cases h

theorem exists_list {α : Type} {R : Nat → α → Prop} : ∀ {n : Nat}, (∀ i, i < n → ∃ x, R i x) → ∃ l : List α, l.length = n ∧ ∀ i x, l[i]? = some x → R i x
  | 0, _ => ⟨[], rfl, by simp⟩
  | n + 1, h => by
    obtain ⟨l, hl, hr⟩ := exists_list (n := n) fun i hi => h i (by omega)
    obtain ⟨x, hx⟩ := h n (by omega)
    refine ⟨l ++ [x], by simp [hl], fun i y hy => ?_⟩
    by_cases e : i < n
    · rw [List.getElem?_append_left (by omega)] at hy
      exact hr i y hy
    · have hlt := (List.getElem?_eq_some_iff.mp hy).1
      simp [hl] at hlt
      have : i = n := by omega
      subst this
      rw [List.getElem?_append_right (by omega), hl, Nat.sub_self] at hy
      cases hy
      exact hx

theorem tyFields_le {f : TypeId → Option Ty} : ∀ {fl : List Field} {off n : Nat} {T : Ty}, tyFields P f off fl = some (T, n) → off ≤ n
  | [], off, n, T, h => by simp [tyFields] at h; omega
  | x :: fl, off, n, T, h => by
    unfold tyFields at h
    cases hb : Nat.beq x.offset off with
    | false => rw [hb] at h; cases h
    | true =>
      rw [hb] at h
      simp only [cond_true] at h
      cases ha : f x.type with
      | none => rw [ha] at h; cases h
      | some a =>
        rw [ha] at h
        dsimp only at h
        cases hc : Nat.beq a.sz (P.cellsOf x.type) with
        | false => rw [hc] at h; cases h
        | true =>
          rw [hc] at h
          simp only [cond_true] at h
          cases hr : tyFields P f (off + a.sz) fl with
          | none => rw [hr] at h; cases h
          | some q =>
            obtain ⟨b, m⟩ := q
            rw [hr] at h
            cases h
            have := tyFields_le hr
            omega

theorem add_block (a : Addr) (n : Nat) : (a.add n).block = a.block := by unfold Addr.add; split <;> rfl
theorem add_off (a : Addr) (n : Nat) : (a.add n).off = a.off + n := by
  unfold Addr.add
  split
  · rename_i h; rw [h]; rfl
  · rfl

theorem laid_unit {ρ : Rho} {h : Heap} (L : Lain CC ρ h w) : Laid CC w .unit ρ h [] := ⟨ρ, h, [], (), ρ.le_refl, .refl L.ok, L, .nil, rfl⟩

/-- What reads as data lies in the abstract memory. -/
theorem laid_of_trod : ∀ {d : Nat} {t : TypeId} {T : Ty}, tyOf P d t = some T → ∀ {n : Nat} {cs : List Value} {x : DataW H × List MemPlace} {ρ : Rho} {h : Heap},
    DataW.trod enc P w 0 (fun _ => true) held n t cs = some x → Lain CC ρ h w → (∃ (k : Nat) (ccs : Array Value) (el : TypeId) (fr : Nat × Nat), w.heap[k]? = some (.cells ccs el fr)) → Laid CC w T ρ h cs := by
  intro d
  induction d with
  | zero => intro t T hT; simp [tyOf] at hT
  | succ d ih =>
    intro t T hT n cs x ρ h hx L hne
    unfold tyOf at hT
    split at hT
    · rename_i hu
      cases hT
      obtain ⟨b, rfl, _⟩ := DataW.trod_bool hu hx
      exact ⟨ρ, h, [.bool b], b, ρ.le_refl, .refl L.ok, L, .cons (.cell (.bool b)) .nil, rfl⟩
    · rename_i k hu
      cases hT
      obtain ⟨m, rfl, _⟩ := DataW.trod_int hu hx
      exact ⟨ρ, h, [.int k m], m, ρ.le_refl, .refl L.ok, L, .cons (.cell (.int k m)) .nil, rfl⟩
    · rename_i hu
      cases hT
      obtain ⟨s, rfl, _⟩ := DataW.trod_string hu hx
      exact ⟨ρ, h, [.string s], s, ρ.le_refl, .refl L.ok, L, .cons (.cell (.str s)) .nil, rfl⟩
    · rename_i e hu
      split at hT
      · rename_i a ha
        cases hb : (Nat.beq a.sz (P.cellsOf e) && Nat.blt 0 a.sz) with
        | false => rw [hb] at hT; cases hT
        | true =>
          rw [hb] at hT
          cases hT
          simp only [Bool.and_eq_true] at hb
          have hsz := beq_eq' hb.1
          have hpos : 0 < a.sz := by simpa [Nat.blt_eq] using hb.2
          rcases DataW.trod_slice hu hx with ⟨rfl, _⟩ | ⟨ad, len, cap, elems, rest, m, rfl, rfl, _, _, hlc, _, hel, he, hr, _⟩
          · exact ⟨ρ, h, [.slice none 0 0], [], ρ.le_refl, .refl L.ok, L, .cons (.cell (.nilslice 0 0)) .nil, _, rfl, none, 0, rfl, .inl ⟨rfl, .inl rfl⟩⟩
          · obtain ⟨hrl, hr⟩ := hr rfl
            rw [← hsz] at he hr
            have one : ∀ i, i < cap → ∃ ci y, w.cells? 0 (ad.add (i * a.sz)) a.sz = some ci ∧ DataW.trod enc P w 0 (fun _ => true) held m e ci = some y := by
              intro i hi
              have hy : ∃ y, (w.cells? 0 (ad.add (i * a.sz)) a.sz).bind (DataW.trod enc P w 0 (fun _ => true) held m e) = some y := by
                by_cases hil : i < len
                · have h1 := he i hil
                  rw [List.getElem?_eq_getElem (by omega)] at h1
                  exact ⟨_, h1⟩
                · have h1 := hr (i - len) (by omega)
                  rw [show len + (i - len) = i by omega, List.getElem?_eq_getElem (by omega)] at h1
                  exact ⟨_, h1⟩
              obtain ⟨y, hy⟩ := hy
              rw [Option.bind_eq_some_iff] at hy
              obtain ⟨ci, hc, hy⟩ := hy
              exact ⟨ci, y, hc, hy⟩
            by_cases hc0 : cap = 0
            · subst hc0
              have hl0 : len = 0 := by omega
              subst hl0
              obtain ⟨k, ccs, el, fr, hk⟩ := hne
              obtain ⟨ρ', hle, hself, L', g⟩ := L.add (acs := []) hk (Nat.zero_le _) (fun j v hv => by simp at hv)
              exact ⟨ρ', _, [.slice (some ⟨h.next, 0, none⟩) 0 0], [], hle, g, L', .cons (.cell (.slice hself ⟨.inr ⟨rfl, rfl⟩, .inl rfl, Nat.le_refl _⟩)) .nil, _, rfl, _, 0, rfl, .inl ⟨rfl, .inr ⟨_, _, rfl⟩⟩⟩
            · obtain ⟨c0, y0, hc0', _⟩ := one 0 (by omega)
              obtain ⟨hl0, hg0⟩ := cells_get hc0'
              have hcell0 := hg0 0 (c0[0]'(by omega)) (List.getElem?_eq_getElem (by omega))
              have hadd0 : (ad.add (0 * a.sz)).add 0 = ad := by simp [Addr.add]
              rw [hadd0] at hcell0
              obtain ⟨hsp, ccs, el, fr, hblk, hin⟩ := cell_in hcell0
              have hbase : ad.off ≤ ccs.size := Nat.le_of_lt (Array.getElem?_eq_some_iff.mp hin).1
              have had : ad = ⟨ad.block, ad.off, none⟩ := by cases ad; simp at hsp; simp [hsp]
              obtain ⟨css, hcl, hcs⟩ := exists_list (n := len) (R := fun i ci => w.cells? 0 (ad.add (i * a.sz)) a.sz = some ci ∧ ∃ y, DataW.trod enc P w 0 (fun _ => true) held m e ci = some y) (fun i hi => by
                obtain ⟨ci, y, h1, h2⟩ := one i (by omega)
                exact ⟨ci, h1, y, h2⟩)
              have hlen : ∀ c ∈ css, c.length = a.sz := by
                intro c hc
                obtain ⟨i, hi, rfl⟩ := List.mem_iff_getElem.mp hc
                exact (cells_get (hcs i _ (List.getElem?_eq_getElem hi)).1).1
              obtain ⟨ρ1, m1, acss, ys, l1, g1, L1, k1, r1⟩ := laid_row (e := a) L (css := css) (fun c hc ρ' h' L' => by
                obtain ⟨i, hi, rfl⟩ := List.mem_iff_getElem.mp hc
                obtain ⟨_, y, hy⟩ := hcs i _ (List.getElem?_eq_getElem hi)
                exact ih ha hy L' hne)
              have hflat := all2_flat k1
              obtain ⟨ρ2, l2, hself, L2, g2⟩ := L1.add (acs := acss.flatten) hblk hbase (fun j v hv => by
                obtain ⟨c, hc, hkr⟩ := hflat.get hv
                obtain ⟨ci, hci, hck⟩ := flat_get hpos hlen hc
                have hcell := (cells_get (hcs _ _ hci).1).2 _ _ hck
                obtain ⟨_, ccs2, el2, fr2, hb2, hin2⟩ := cell_in hcell
                have hblk2 : ((ad.add (j / a.sz * a.sz)).add (j % a.sz)).block = ad.block := by rw [add_block, add_block]
                have hoff2 : ((ad.add (j / a.sz * a.sz)).add (j % a.sz)).off = ad.off + (j / a.sz * a.sz) + j % a.sz := by rw [add_off, add_off]
                rw [hblk2, hblk] at hb2
                cases hb2
                refine ⟨c, ?_, hkr⟩
                rw [hoff2, Nat.add_assoc, Nat.mul_comm, Nat.div_add_mod] at hin2
                exact hin2)
              have hyl : ys.length = len := by rw [← r1.length, k1.length, hcl]
              refine ⟨ρ2, _, [.slice (some ⟨m1.next, 0, none⟩) len cap], ys, Rho.le_trans l1 l2, g1.trans g2, L2, .cons (.cell (.slice hself ⟨.inl had, .inl rfl, hlc⟩)) .nil, _, rfl, _, cap, by rw [hyl], .inr ⟨m1.next, 0, acss.flatten, true, 0, 0, rfl, by simp [Heap.new, Tr.get_set], fun i y hy => ?_⟩⟩
              have hil := (List.getElem?_eq_some_iff.mp hy).1
              have hai : i < acss.length := by rw [r1.length]; exact hil
              obtain ⟨y', hy', hrep⟩ := r1.get (List.getElem?_eq_getElem hai)
              rw [hy] at hy'
              cases hy'
              have hal : ∀ c ∈ acss, c.length = a.sz := by
                intro c hc
                obtain ⟨i, hi, rfl⟩ := List.mem_iff_getElem.mp hc
                obtain ⟨y, _, hrp⟩ := r1.get (List.getElem?_eq_getElem hi)
                exact rep_len hrp
              have hat := flat_at hal (List.getElem?_eq_getElem hai)
              rw [Nat.zero_add, hat]
              exact ⟨rep_len hrep, rep_mono L1.ok g2 hrep⟩
      · cases hT
    · rename_i fs hu
      split at hT
      · rename_i a m hf
        cases hb : Nat.beq m (P.cellsOf t) with
        | false => rw [hb] at hT; cases hT
        | true =>
          rw [hb] at hT
          cases hT
          obtain ⟨xs, k, rfl, _, hcl, hxl, hxs⟩ := DataW.trod_struct hu hx
          have key : ∀ (fl : List Field) (off m : Nat) (T : Ty) (ρ : Rho) (h : Heap), (∀ f ∈ fl, ∃ y, DataW.trod enc P w 0 (fun _ => true) held k f.type ((cs.drop f.offset).take (P.cellsOf f.type)) = some y) →
              tyFields P (tyOf P d) off fl = some (T, m) → m ≤ cs.length → Lain CC ρ h w → Laid CC w T ρ h ((cs.drop off).take (m - off)) := by
            intro fl
            induction fl with
            | nil =>
              intro off m T ρ h _ hf _ L
              simp only [tyFields, Option.some.injEq, Prod.mk.injEq] at hf
              obtain ⟨rfl, rfl⟩ := hf
              rw [Nat.sub_self, List.take_zero]
              exact laid_unit L
            | cons f fl ihf =>
              intro off m T ρ h hy hf hm L
              unfold tyFields at hf
              cases hb : Nat.beq f.offset off with
              | false => rw [hb] at hf; cases hf
              | true =>
                rw [hb] at hf
                simp only [cond_true] at hf
                have hoff := beq_eq' hb
                cases ha : tyOf P d f.type with
                | none => rw [ha] at hf; cases hf
                | some a =>
                  rw [ha] at hf
                  dsimp only at hf
                  cases hc : Nat.beq a.sz (P.cellsOf f.type) with
                  | false => rw [hc] at hf; cases hf
                  | true =>
                    rw [hc] at hf
                    simp only [cond_true] at hf
                    have hsz := beq_eq' hc
                    cases hr : tyFields P (tyOf P d) (off + a.sz) fl with
                    | none => rw [hr] at hf; cases hf
                    | some q =>
                      obtain ⟨b, m'⟩ := q
                      rw [hr] at hf
                      cases hf
                      have hle := tyFields_le hr
                      obtain ⟨y, hy1⟩ := hy f (List.mem_cons_self ..)
                      rw [hoff, ← hsz] at hy1
                      have hspl : (cs.drop off).take (m - off) = (cs.drop off).take a.sz ++ (cs.drop (off + a.sz)).take (m - (off + a.sz)) := by
                        rw [← List.drop_drop, show m - off = a.sz + (m - (off + a.sz)) by omega, List.take_add]
                      rw [hspl]
                      exact laid_pair (ih ha hy1 L hne) fun ρ' h' L' => ihf _ _ _ _ _ (fun g hg => hy g (List.mem_cons_of_mem _ hg)) hr hm L'
          have := key fs.toList 0 m T ρ h (fun f hf => by
            obtain ⟨i, hi, rfl⟩ := List.mem_iff_getElem.mp hf
            have h1 := hxs i (fs.toList[i]) (by simp)
            rw [List.getElem?_eq_getElem (by rw [hxl]; simpa using hi)] at h1
            exact ⟨_, h1⟩) hf (by rw [hcl, beq_eq' hb]; exact Nat.le_refl _) L
          rw [beq_eq' hb, ← hcl] at this
          simpa using this
      · cases hT
    · rename_i m e hu
      split at hT
      · rename_i a ha
        cases hb : (Nat.beq a.sz (P.cellsOf e) && Nat.beq (m * a.sz) (P.cellsOf t)) with
        | false => rw [hb] at hT; cases hT
        | true =>
          rw [hb] at hT
          cases hT
          simp only [Bool.and_eq_true] at hb
          have hsz := beq_eq' hb.1
          have htot := beq_eq' hb.2
          obtain ⟨xs, k, rfl, _, hcl, hxl, hxs⟩ := DataW.trod_array hu hx
          rw [← hsz] at hxs
          have key : ∀ (q off : Nat) (ρ : Rho) (h : Heap), off + q = m → Lain CC ρ h w → Laid CC w (a.rep q) ρ h (cs.drop (off * a.sz)) := by
            intro q
            induction q with
            | zero =>
              intro off ρ h hoq L
              rw [List.drop_eq_nil_of_le (by rw [hcl, ← htot]; exact Nat.mul_le_mul_right _ (by omega))]
              exact laid_unit L
            | succ q ihq =>
              intro off ρ h hoq L
              have h1 := hxs off (by omega)
              rw [List.getElem?_eq_getElem (by omega)] at h1
              have hspl : cs.drop (off * a.sz) = (cs.drop (off * a.sz)).take a.sz ++ cs.drop ((off + 1) * a.sz) := by
                rw [Nat.add_mul, Nat.one_mul, ← List.drop_drop, List.take_append_drop]
              rw [hspl]
              exact laid_pair (ih ha h1 L hne) fun ρ' h' L' => ihq (off + 1) ρ' h' (by omega) L'
          have := key m 0 ρ h (by omega) L
          simpa using this
      · cases hT
    · cases hT
end
end Go.AI

/- Laws on data: arguments opened, one after another. -/
namespace Go.AI
open Go.ChangeShapes Go.WideShapes Go.ChangeAt

/-- a value out of its cells -/
def valOfCells (agg : Bool) (acs : List Value) : Value := bif agg then .agg ⟨acs⟩ else acs.headD (.tuple #[])

/-- is a type's value an aggregate? -/
def aggT (P : Program) (t : TypeId) : Bool := match P.underlying t with
  | some (.struct _) => true
  | some (.array _ _) => true
  | _ => false

section
variable {H : Type} {enc : TypeId × Value → H} {P : Program} {w : World} {held : Bool} {CC : CodeRel}

/-- What is wanted of an argument. -/
def LaidV (CC : CodeRel) (w : World) (agg : Bool) (T : Ty) (ρ : Rho) (h : Heap) (v : Value) : Prop :=
  ∃ ρ' h' acs y, ρ.le ρ' ∧ Grows Nob h h' ∧ Lain CC ρ' h' w ∧ VR ρ' (valOfCells agg acs) v ∧ rep T h' acs y

theorem laidV_of {d : Nat} {t : TypeId} {T : Ty} {base : Nat} {v : Value} {dd : DataW H} {ps : List MemPlace} {ρ : Rho} {h : Heap} (hT : tyOf P d t = some T) (hval : Value.okWide P w .any base t v) (hx : DataW.Trod enc P w 0 (fun _ => true) held t v dd ps)
    (L : Lain CC ρ h w) (hne : ∃ (k : Nat) (ccs : Array Value) (el : TypeId) (fr : Nat × Nat), w.heap[k]? = some (.cells ccs el fr)) : LaidV CC w (aggT P t) T ρ h v := by
  obtain ⟨n, hx⟩ := hx
  obtain ⟨ρ', h', acs, y, l, g, L', k, r⟩ := laid_of_trod hT hx L hne
  refine ⟨ρ', h', acs, y, l, g, L', ?_, r⟩
  unfold valOfCells
  have plain1 : aggT P t = false → (∀ cs, v ≠ .agg cs) → VR ρ' (bif aggT P t then .agg ⟨acs⟩ else acs.headD (.tuple #[])) v := by
    intro ha hv
    have hc : v.cells.toList = [v] := by
      cases v <;> first | rfl | exact absurd rfl (hv _)
    rw [hc] at k
    rw [ha]
    cases k with
    | cons hk hs => exact hk.vr
  cases d with
  | zero => simp [tyOf] at hT
  | succ d =>
    unfold tyOf at hT
    split at hT
    · rename_i hu
      obtain ⟨b, rfl⟩ := okWide_bool hu hval
      exact plain1 (by simp [aggT, hu]) (fun _ e => by cases e)
    · rename_i k' hu
      obtain ⟨b, rfl⟩ := okWide_int hu hval
      exact plain1 (by simp [aggT, hu]) (fun _ e => by cases e)
    · rename_i hu
      obtain ⟨b, rfl⟩ := okWide_string hu hval
      exact plain1 (by simp [aggT, hu]) (fun _ e => by cases e)
    · rename_i e hu
      obtain ⟨a, len, cap, rfl⟩ := okWide_slice hu hval
      exact plain1 (by simp [aggT, hu]) (fun _ e => by cases e)
    · rename_i fs hu
      simp only [Value.okWide, hu] at hval
      obtain ⟨cs, rfl, _⟩ := hval
      have ha : aggT P t = true := by simp [aggT, hu]
      rw [ha]
      obtain ⟨cl⟩ := cs
      exact .val (.agg k)
    · rename_i m e hu
      simp only [Value.okWide, hu] at hval
      obtain ⟨cs, rfl, _⟩ := hval
      have ha : aggT P t = true := by simp [aggT, hu]
      rw [ha]
      obtain ⟨cl⟩ := cs
      exact .val (.agg k)
    · cases hT

/-- the empty memory -/
theorem lain_empty (w : World) : Lain CC (fun _ => none) ⟨0, 0, .nil⟩ w :=
  ⟨⟨fun b o h => by simp [Tr.get] at h, fun b c ro o s h => by simp [Tr.get] at h⟩, (by rintro b ⟨o, ho, _⟩; simp [Tr.get] at ho),
    ⟨fun b r h => by simp at h, fun b r o h => by simp at h, fun b b' r r' o h => by simp at h, fun b o h => by simp [Tr.get] at h⟩⟩

/-- the memory that holds the program's variable 0, of plain cells -/
theorem lain_heap1 {cs : List Value} (hcs : ∀ v ∈ cs, constCell v = true) {w : World} (hw : ∃ el fr, w.heap[0]? = some (.cells ⟨cs⟩ el fr)) :
    Lain CC (fun b => if b = 0 then some ⟨0, 0, cs.length, 0, cs.length⟩ else none) (heap1 cs) w := by
  obtain ⟨el, fr, hw⟩ := hw
  have hget : ∀ b o, (heap1 cs).tr.get b = some o → b = 0 ∧ o = .blk cs true 0 0 := by
    intro b o h
    cases b with
    | zero => simp only [heap1, Tr.get, Option.some.injEq] at h; exact ⟨rfl, h.symm⟩
    | succ b =>
      simp only [heap1, Tr.get] at h
      cases hb : Nat.beq (b % 2) 0 <;> rw [hb] at h <;> simp at h
  have hro : ∀ b, ¬ writable (heap1 cs) b := by
    rintro b ⟨o, ho, hr⟩
    rw [(hget b o ho).2] at hr; cases hr
  refine ⟨⟨fun b o h => ?_, fun b c ro o s h => ?_⟩, hro, ⟨fun b r h => ?_, fun b r o h ho => ?_, fun b b' r r' o _ _ hw => absurd hw (hro b), fun b o h => ?_⟩⟩
  · rw [(hget b o h).1]; exact Nat.zero_lt_one
  · have := (hget b _ h).2; cases this; exact Nat.le_refl _
  · by_cases e : b = 0
    · simp only [e, if_true, Option.some.injEq] at h
      subst h; subst e
      exact ⟨Nat.zero_lt_one, (Array.getElem?_eq_some_iff.mp hw).1⟩
    · simp [e] at h
  · obtain ⟨rfl, rfl⟩ := hget b o ho
    simp only [if_true, Option.some.injEq] at h
    subst h
    exact ⟨⟨cs⟩, el, fr, hw, rfl, rfl, by simp, (fun h => by cases h), fun j v hv => ⟨v, by simpa using hv, .cell (constCell_rel (hcs v (List.mem_of_getElem? hv)))⟩⟩
  · rw [(hget b o h).1]; exact Nat.zero_lt_one
end
end Go.AI
