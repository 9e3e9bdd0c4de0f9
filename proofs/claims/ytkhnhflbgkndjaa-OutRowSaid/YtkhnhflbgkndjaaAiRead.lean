/- A law on arguments that are only read: from the abstract walk to the row. -/
import Derived.Test.YtkhnhflbgkndjaaAiTop
import Derived.Test.YtkhnhflbgkndjaaAiSimp
import Derived.ProofKit
import Derived.WideKeyArgs
namespace Go.AI

/-- Nothing that stood is another. -/
def Kept (W W' : World) : Prop := W'.os = W.os ∧ W'.output = W.output ∧ W.heap.size ≤ W'.heap.size ∧ ∀ i, i < W.heap.size → W'.heap[i]? = W.heap[i]?

theorem Kept.keptBut {W W' : World} (h : Kept W W') (may : MemPlace → Prop) : W.keptBut W' may := by
  refine ⟨h.1, h.2.1, fun i hi => ?_⟩
  rw [h.2.2.2 i hi]
  cases hx : W.heap[i]? with
  | none => rfl
  | some o =>
    cases o with
    | cells cc t fr => exact ⟨rfl, rfl, rfl, fun _ _ => rfl⟩
    | map es cl => exact .inr ⟨rfl, rfl⟩
    | _ => rfl

theorem Kept.sameAt {W W' : World} (h : Kept W W') {p : MemPlace} (hp : p.block < W.heap.size) : W.sameAt W' p := by
  cases p with
  | cell b off => simp only [World.sameAt, World.cell?, h.2.2.2 b hp]
  | map b => exact h.2.2.2 b hp

theorem Kept.frozen {W W' : World} (h : Kept W W') {b off : Nat} (hb : b < W.heap.size) : W'.frozen? ⟨b, off, none⟩ = W.frozen? ⟨b, off, none⟩ := by
  simp only [World.frozen?, h.2.2.2 b hb]

section
variable {P : Program} {T : Tab} {ng : Nat} {F : Nat → Option AFunc}

/-- A law that the walk brings to 'true', from a memory into which nothing can be written. -/
theorem law_read (hF : FOk P T ng (drawOf T ng) F) (hT : TabOk P T) {f : Nat} {args cargs : List Value} {h : Heap} (H : Does F f args h (fun v _ => v = .bool true))
    {ρ : Rho} {W : World} (S : Sim (CCof T ng (drawOf T ng)) ρ h W) (hG : Globs ng ρ) (ha : All2 (VR ρ) args cargs) (hro : ∀ b, ¬ writable h b) :
    Calls P f ⟨cargs⟩ W (fun e W' => e = .returned (.bool true) ∧ Kept W W') := by
  obtain ⟨n, v, h', hr, rfl⟩ := H
  intro ccs
  obtain ⟨fn, ρ', w', c, fr, _, _, _, h4, h5, h6, h7, _, h9⟩ := call_sound hF hT hr S hG ha ccs
  have hcb := h7.bool_inv
  subst hcb
  exact ⟨.returned (.bool true), w', fr, ⟨rfl, h9.os, h9.output, h9.size, fun i hi => h9.keep i hi (fun b r _ hw => absurd hw (hro b))⟩, h4, h5, h6⟩
end

section
open Go.ChangeShapes Go.WideShapes Go.ChangeAt
variable {H : Type} {enc : TypeId × Value → H} {P : Program}

/-- what is asked behind a call that wrote nothing of what stood, and hands back nothing that lies in memory -/
theorem post_of_read {f : Func} {s : ChangeSpec} {apart fresh handsOn again : Bool} {W W' : World} {args : Array Value} {v : Value} {ds gs : List (DataW H)} {before : List MemPlace}
    (hW : DataW.Whole enc P f.params.toList s.vars apart W args.toList ds gs before)
    (hres : ∀ (b : Nat) (sp : Nat → Bool) (hd : Bool), DataW.TrodAll enc P W' b sp hd f.resultTypes.toList (v.resultList f.resultTypes.size) (s.fn H (ds ++ gs)).results [])
    (hargs : ∀ sp : Nat → Bool, (∀ p ∈ before, sp p.block = true) → DataW.TrodAll enc P W' 0 sp true f.params.toList args.toList (s.fn H (ds ++ gs)).args before)
    (hvars : ∀ sp : Nat → Bool, (∀ p ∈ before, sp p.block = true) → DataW.TrodVars enc P W' sp s.vars (s.fn H (ds ++ gs)).vars [])
    (hk : Kept W W')
    (hok : ∀ (j : Nat) (t : TypeId) (r : Value), f.resultTypes[j]? = some t → (v.resultList f.resultTypes.size)[j]? = some r → Value.okWide P W' .any 0 t r) :
    s.post enc P f apart fresh handsOn again W args v W' := by
  have hold : ∀ p ∈ before, (fun b => decide (b < W.heap.size)) p.block = true := fun p hp => by simpa using hW.lt p hp
  refine ⟨ds, gs, before, [], before, [], hW, hres _ _ _, hargs _ hold, hvars _ hold, World.keptBut_mono (fun p hp => ⟨hp, .inr (.inl hp)⟩) (hk.keptBut _), fun _ => ?_⟩
  have hlt := hW.lt
  obtain ⟨_, _, _, _, _, hz, hn⟩ := hW
  refine ⟨hok, _, _, ([] ++ before) ++ [], ⟨[] ++ before, [], trodAll_append (hargs _ (fun _ _ => rfl)) (hres _ _ _), hvars _ (fun _ _ => rfl), rfl, ?_, ?_⟩, ?_⟩
  · intro b off hp
    simp only [List.nil_append, List.append_nil] at hp
    rw [hk.frozen (b := b) (hlt (.cell b off) hp)]
    exact hz b off hp
  · intro ha
    simpa using hn ha
  · intro p hp _
    simpa using hp

end
end Go.AI
