/- For every two numbers the law StepOne returns true, and what stood in memory stands as it stood; the variable turnery/code.ways holds what the program's text lays. -/
import Derived.Test.YtaimplifmlljlaaGreatDoorRows
import Derived.Test.YtaimplifmlljlaaGreatDoorCards
import Derived.Test.YtaimplifmlljlaaGreatDoorTie
import Derived.Test.YtaimplifmlljlaaGreatDoorRun
import Derived.ProofKit
import Derived.SevenTiedAt
import Derived.LaidLaws
namespace Go.Proofs.YtaimplifmlljlaaGreatDoor
open Go Go.ChangeShapes Go.WideShapes Go.ChangeAt Go.RowKit

theorem Tryz.own : ownKnob Tryz.prog.godebug = none := by kernel_rfl
theorem ways_at : Tryz.prog.globalNamed "turnery/code.ways" = some 0 := by kernel_rfl
theorem ways_type : (Tryz.prog.globals[0]?).map (·.type) = some 144 := by kernel_rfl
theorem ways_cells : Tryz.prog.cellsOf 144 = 4 := by kernel_rfl
theorem int_cells : Tryz.prog.cellsOf 3 = 1 := by kernel_rfl

theorem int_of_trod {H : Type} {enc : TypeId × Value → H} {P : Program} {w : World} {base : Nat} {sp : Nat → Bool} {held : Bool} {fuel : Nat} {t : TypeId} {k : IntKind} {c : Value} {y : DataW H × List MemPlace}
    (ht : P.underlying t = some (.int k)) (h : DataW.trod enc P w base sp held fuel t [c] = some y) : ∃ n, c = .int k n ∧ y = (.lit (.int k n), []) := by
  cases fuel with
  | zero => simp [DataW.trod] at h
  | succ fuel =>
    cases c <;> simp [DataW.trod, ht] at h
    rename_i k' n
    obtain ⟨⟨rfl, _⟩, rfl⟩ := h
    exact ⟨n, rfl, rfl⟩

theorem cells_of_laid {W : World} (h : laidMet Tryz.prog [("turnery/code.ways", Rows.laid_turnery_code_ways)] W) : W.var? Tryz.prog "turnery/code.ways" = some ⟨waysCells⟩ := by
  obtain ⟨ps, ⟨g, t, cs, fuel, p, q, hg, ht, hvar, hd, _, _⟩, _⟩ := h
  obtain rfl := Option.some.inj (ways_at.symm.trans hg)
  obtain rfl := Option.some.inj (ways_type.symm.trans ht)
  rw [hvar]
  congr 1
  obtain ⟨l⟩ := cs
  cases fuel with
  | zero => simp [DataW.trod] at hd
  | succ fuel =>
    simp only [DataW.trod, Tryz.underlying144, ways_cells, int_cells] at hd
    split at hd
    · rename_i hl
      obtain ⟨c0, c1, c2, c3, rfl⟩ : ∃ c0 c1 c2 c3, l = [c0, c1, c2, c3] := by
        match l, hl with
        | [a, b, c, d], _ => exact ⟨a, b, c, d, rfl⟩
      have e : List.range 4 = [0, 1, 2, 3] := rfl
      rw [e] at hd
      simp only [Option.map_eq_some_iff, List.mapM_cons, List.mapM_nil, Option.bind_eq_bind, Option.bind_eq_some_iff, Option.pure_def, Option.some.injEq] at hd
      obtain ⟨xs, ⟨y0, h0, _, ⟨y1, h1, _, ⟨y2, h2, _, ⟨y3, h3, _, rfl, rfl⟩, rfl⟩, rfl⟩, rfl⟩, hx⟩ := hd
      obtain ⟨n0, rfl, rfl⟩ := int_of_trod Tryz.underlying3 h0
      obtain ⟨n1, rfl, rfl⟩ := int_of_trod Tryz.underlying3 h1
      obtain ⟨n2, rfl, rfl⟩ := int_of_trod Tryz.underlying3 h2
      obtain ⟨n3, rfl, rfl⟩ := int_of_trod Tryz.underlying3 h3
      simp [Rows.laid_turnery_code_ways] at hx
      obtain ⟨⟨rfl, rfl, rfl, rfl⟩, _⟩ := hx
      rfl
    · cases hd

theorem heap_of_laid {W : World} (h : laidMetH Tryz.prog Rows.stepOneRow.laid W) : ∃ el fr, W.heap[0]? = some (.cells ⟨waysCells⟩ el fr) := by
  have h' : laidMet Tryz.prog [("turnery/code.ways", Rows.laid_turnery_code_ways)] W := h
  have hv := cells_of_laid h'
  unfold World.var? at hv
  rw [ways_at] at hv
  simp only [Option.bind_some] at hv
  split at hv
  · rename_i cs el fr hh
    cases hv
    exact ⟨el, fr, hh⟩
  · cases hv

/-- A world that meets the condition. -/
noncomputable def laidWorld (os : Os) : World :=
  { World.holding Tryz.prog os ⟨#[], #[], []⟩ with heap := (World.holding Tryz.prog os ⟨#[], #[], []⟩).heap.modify 0 fun
      | .cells _ t frozen => .cells ⟨waysCells⟩ t frozen
      | o => o }

theorem laidWorld_row (os : Os) : ((laidWorld os).forCall (fun _ _ => 0) ⟨#[], #[.int .i64 0, .int .i64 0], []⟩).memory.heap[0]? = some (.cells ⟨waysCells⟩ 144 (0, 0)) := by kernel_rfl

set_option maxRecDepth 100000 in
theorem laidWorld_met (os : Os) : laidMetH Tryz.prog Rows.stepOneRow.laid ((laidWorld os).forCall (fun _ _ => 0) ⟨#[], #[.int .i64 0, .int .i64 0], []⟩).memory := by
  show laidMet Tryz.prog [("turnery/code.ways", Rows.laid_turnery_code_ways)] _
  refine ⟨_, ⟨0, 144, ⟨waysCells⟩, 8, [], [], by kernel_rfl, by kernel_rfl, by kernel_rfl, by kernel_rfl, rfl, rfl⟩, by decide, fun b off h => ?_⟩
  have h' : MemPlace.cell b off ∈ [MemPlace.cell 0 0, .cell 0 1, .cell 0 2, .cell 0 3] := h
  have hb : b = 0 := by
    simp at h'
    omega
  subst hb
  refine ⟨⟨_, _, laidWorld_row os⟩, fun u v hc => ?_⟩
  simp only [World.cell?, laidWorld_row os] at hc
  simp at h'
  rcases h' with rfl | rfl | rfl | rfl <;> simp [waysCells] at hc

set_option maxRecDepth 100000 in
theorem stepOne_lifted (os : Os) (started : os.Started) (H : Type) (enc : TypeId × Value → H) :
    ReturnsInHanded {} Tryz.checked os 3 .any (fun w args => (Rows.stepOneSpec.pre enc Tryz.prog Tryz.f3 [] false w args ∧ laidMetH Tryz.prog Rows.stepOneRow.laid w) ∧ sizedMet enc Tryz.prog Tryz.f3 (OpenSpec.ofChange Rows.stepOneSpec) false w args)
      (Rows.stepOneSpec.post enc Tryz.prog Tryz.f3 false true false false) := by
  refine returnsInHanded_of_change_and (C := Tryz.checked) (X := fun w _ => laidMetH Tryz.prog Rows.stepOneRow.laid w) (fun _ _ _ hh h => h.of_heap hh) Tryz.own started (by kernel_rfl) Tryz.func3
    (ChangeSpec.witness_at (enc := enc) (C := Tryz.checked) (os := os) (X := fun w _ => laidMetH Tryz.prog Rows.stepOneRow.laid w) false (laidWorld os) #[.int .i64 0, .int .i64 0] 8 rfl (by kernel_rfl) (by kernel_rfl) (by kernel_rfl) (by kernel_rfl) (by kernel_rfl) (laidWorld_met os)) ?_
  intro W base args ds gs before hval0 hW _ _ hL _
  have hval : ∀ (j : Nat) t v, Tryz.f3.params[j]? = some t → args[j]? = some v → Value.okWide Tryz.prog W .any base t v := hval0
  have hW' := hW
  obtain ⟨p, q, hA0, hV0, rfl, hfz, hnd⟩ := hW
  have hA : DataW.TrodAll enc Tryz.prog W 0 (fun _ => true) true Tryz.f3.params.toList args.toList ds p := hA0
  have hV : DataW.TrodVars enc Tryz.prog W (fun _ => true) [] gs q := hV0
  rw [Tryz.params3] at hA hval
  obtain ⟨v0, v1, d0, d1, p0, p1, rfl, rfl, rfl, h0, h1⟩ := trodAll_two hA
  obtain ⟨m, rfl, rfl, rfl, hwm⟩ := open_int Tryz.underlying3 (hval 0 3 v0 rfl rfl) h0
  obtain ⟨n, rfl, rfl, rfl, hwn⟩ := open_int Tryz.underlying3 (hval 1 3 v1 rfl rfl) h1
  obtain ⟨rfl, rfl⟩ := trodVars_none hV
  refine (AI.law_laidF FX_ok (by simp [waysCells, AI.constCell]) (stepOne_run m n).choose_spec (by simp [AI.constCell]) W (heap_of_laid hL)).mono fun e W' ⟨he, hk⟩ => ?_
  subst he
  exact ⟨_, rfl, AI.post_of_new hW' (fun _ _ _ => trodAll_mk1 (shut_bool Tryz.underlying4 true)) (fun _ => trodAll_mk2 (shut_int Tryz.underlying3 hwm) (shut_int Tryz.underlying3 hwn)) (fun _ => rfl) hk
    (ok_one (by kernel_rfl) rfl (okWide_bool_mk Tryz.underlying4 true))⟩

theorem stepOne_holds : Rows.StepOneSaid :=
  OpenClaim.holds_of_wide 3 Tryz.f3 rfl rfl rfl rfl rfl rfl rfl ⟨rfl, rfl, rfl, rfl, rfl⟩ rfl rfl rfl rfl rfl (by kernel_rfl) Tryz.func3 (by kernel_rfl)
    (of_decide_eq_true (by kernel_rfl)) (by unfold Func.isWrapper; rw [if_neg (of_decide_eq_false (by kernel_rfl))]; exact ⟨rfl, rfl⟩)
    (fun os started H enc _ => stepOne_lifted os started H enc)

theorem stepOne_card : Rows.StepOneCardSaid :=
  Claim7.holds_tied_plain_at .later [] [.data] true (true, "f3d14f2bf2746eb19e895181275e3e51db81255bcfda4ba7c9a42c7d9dfd27b7") false
    stepOne_holds (fun _ h => by cases h) (by kernel_rfl) (fun _ h => by cases h) stepOne_row_tie rfl ⟨rfl, rfl⟩ (by kernel_rfl) rfl
    (fun f fn hf hfn => by
      obtain rfl : f = 3 := Option.some.inj ((show Tryz.prog.funcNamed "turnery/turnerylaw4.StepOne" = some 3 by kernel_rfl).symm.trans hf) |>.symm
      obtain rfl : fn = Tryz.f3 := (Option.some.inj (Tryz.func3.symm.trans hfn)).symm
      exact ⟨by kernel_rfl, fun j t ht => by
        rw [Tryz.params3] at ht
        have h3 : t = 3 := by
          rcases j with _ | _ | j
          · simpa using ht.symm
          · simpa using ht.symm
          · simp at ht
        subst h3
        exact (show Tryz.prog.wantsStandIn 3 = false by kernel_rfl)⟩)
    (by kernel_rfl)
#print axioms stepOne_card
end Go.Proofs.YtaimplifmlljlaaGreatDoor
