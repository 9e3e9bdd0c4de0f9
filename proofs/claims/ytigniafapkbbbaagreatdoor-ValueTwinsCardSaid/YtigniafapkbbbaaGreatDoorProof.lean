/- For every list of instructions the law ValueTwins returns true, and what stood in memory stands as it stood; the variable turnery/code.ways holds what the program's text lays. -/
import Derived.Test.YtigniafapkbbbaaGreatDoorRows
import Derived.Test.YtigniafapkbbbaaGreatDoorCards
import Derived.Test.YtigniafapkbbbaaGreatDoorTie
import Derived.Test.YtigniafapkbbbaaGreatDoorKN
import Derived.Test.YtigniafapkbbbaaGreatDoorWalkRead
import Derived.OpenShut
import Derived.ProofKit
import Derived.SevenTiedAt
import Derived.LaidLaws
namespace Go.Proofs.YtigniafapkbbbaaGreatDoor
open Go Go.ChangeShapes Go.WideShapes Go.ChangeAt Go.RowKit
open Go.AI (Ty rep SliceR LaidV laidV_of lain_heap1 law_read post_of_read Kept aggT tyOf)

theorem Tryz.laidOut : laidOutB Tryz.prog = true := by kernel_rfl
theorem Tryz.own : ownKnob Tryz.prog.godebug = none := by kernel_rfl
theorem ways_at : Tryz.prog.globalNamed "turnery/code.ways" = some 0 := by kernel_rfl
theorem ways_type : (Tryz.prog.globals[0]?).map (·.type) = some 132 := by kernel_rfl
theorem ways_cells : Tryz.prog.cellsOf 132 = 4 := by kernel_rfl
theorem int_cells : Tryz.prog.cellsOf 3 = 1 := by kernel_rfl

theorem int_of_trod {H : Type} {enc : TypeId × Value → H} {P : Program} {w : World} {base : Nat} {sp : Nat → Bool} {held : Bool} {fuel : Nat} {t : TypeId} {k : IntKind} {c : Value} {y : DataW H × List MemPlace}
    (ht : P.underlying t = some (.int k)) (h : DataW.trod enc P w base sp held fuel t [c] = some y) : ∃ n, c = .int k n ∧ y = (.lit (.int k n), []) := by
  cases fuel with
  | zero => simp [DataW.trod] at h
  | succ fuel =>
    cases c <;> simp [DataW.trod, ht] at h
    rename_i k' n
    obtain ⟨⟨rfl, _⟩, rfl⟩ := h
    exact ⟨n, rfl, rfl⟩

theorem cells_of_laid {W : World} (h : laidMet Tryz.prog [("turnery/code.ways", Rows.laid_turnery_code_ways)] W) : W.var? Tryz.prog "turnery/code.ways" = some ⟨ways⟩ := by
  obtain ⟨ps, ⟨g, t, cs, fuel, p, q, hg, ht, hvar, hd, _, _⟩, _⟩ := h
  obtain rfl := Option.some.inj (ways_at.symm.trans hg)
  obtain rfl := Option.some.inj (ways_type.symm.trans ht)
  rw [hvar]
  congr 1
  obtain ⟨l⟩ := cs
  cases fuel with
  | zero => simp [DataW.trod] at hd
  | succ fuel =>
    simp only [DataW.trod, Tryz.underlying132, ways_cells, int_cells] at hd
    split at hd
    · rename_i hl
      obtain ⟨c0, c1, c2, c3, rfl⟩ : ∃ c0 c1 c2 c3, l = [c0, c1, c2, c3] := by
        match l, hl with
        | [a, b, c, d], _ => exact ⟨a, b, c, d, rfl⟩
      have e : List.range 4 = [0, 1, 2, 3] := rfl
      rw [e] at hd
      simp only [Option.map_eq_some_iff, List.mapM_cons, List.mapM_nil, Option.bind_eq_bind, Option.bind_eq_some_iff, Option.pure_def, Option.some.injEq] at hd
      obtain ⟨xs, ⟨y0, h0, _, ⟨y1, h1, _, ⟨y2, h2, _, ⟨y3, h3, _, rfl, rfl⟩, rfl⟩, rfl⟩, rfl⟩, hx⟩ := hd
      obtain ⟨n0, rfl, rfl⟩ := int_of_trod Tryz.underlying3 h0
      obtain ⟨n1, rfl, rfl⟩ := int_of_trod Tryz.underlying3 h1
      obtain ⟨n2, rfl, rfl⟩ := int_of_trod Tryz.underlying3 h2
      obtain ⟨n3, rfl, rfl⟩ := int_of_trod Tryz.underlying3 h3
      simp [Rows.laid_turnery_code_ways] at hx
      obtain ⟨⟨rfl, rfl, rfl, rfl⟩, _⟩ := hx
      rfl
    · cases hd

theorem heap_of_laid {W : World} (h : laidMetH Tryz.prog Rows.valueTwinsRow.laid W) : ∃ el fr, W.heap[0]? = some (.cells ⟨ways⟩ el fr) := by
  have h' : laidMet Tryz.prog [("turnery/code.ways", Rows.laid_turnery_code_ways)] W := h
  have hv := cells_of_laid h'
  unfold World.var? at hv
  rw [ways_at] at hv
  simp only [Option.bind_some] at hv
  split at hv
  · rename_i cs el fr hh
    cases hv
    exact ⟨el, fr, hh⟩
  · cases hv

/-- A world that meets the condition. -/
noncomputable def laidWorld (os : Os) : World :=
  { World.holding Tryz.prog os ⟨#[], #[], []⟩ with heap := (World.holding Tryz.prog os ⟨#[], #[], []⟩).heap.modify 0 fun
      | .cells _ t frozen => .cells ⟨ways⟩ t frozen
      | o => o }

theorem laidWorld_row (os : Os) : ((laidWorld os).forCall (fun _ _ => 0) ⟨#[], #[.slice none 0 0], []⟩).memory.heap[0]? = some (.cells ⟨ways⟩ 132 (0, 0)) := by kernel_rfl

set_option maxRecDepth 100000 in
theorem laidWorld_met (os : Os) : laidMetH Tryz.prog Rows.valueTwinsRow.laid ((laidWorld os).forCall (fun _ _ => 0) ⟨#[], #[.slice none 0 0], []⟩).memory := by
  show laidMet Tryz.prog [("turnery/code.ways", Rows.laid_turnery_code_ways)] _
  refine ⟨_, ⟨0, 132, ⟨ways⟩, 8, [], [], by kernel_rfl, by kernel_rfl, by kernel_rfl, by kernel_rfl, rfl, rfl⟩, by decide, fun b off h => ?_⟩
  have h' : MemPlace.cell b off ∈ [MemPlace.cell 0 0, .cell 0 1, .cell 0 2, .cell 0 3] := h
  have hb : b = 0 := by
    simp at h'
    omega
  subst hb
  refine ⟨⟨_, _, laidWorld_row os⟩, fun u v hc => ?_⟩
  simp only [World.cell?, laidWorld_row os] at hc
  simp at h'
  rcases h' with rfl | rfl | rfl | rfl <;> simp [ways] at hc

def valTy : Ty := .pair .bool (.pair (.int .i64) .unit)
def insTy : Ty := .pair (.int .i64) (.pair (.int .i64) (.pair valTy (.pair valTy (.pair (.int .i64) (.pair (.sl valTy) .unit)))))
theorem ins_ty : tyOf Tryz.prog 8 22 = some (.sl insTy) := by kernel_rfl
theorem ins_agg : aggT Tryz.prog 22 = false := by kernel_rfl

theorem raw_of {h : AI.Heap} {cs : List Value} {y : insTy.den} (r : rep insTy h cs y) : ∃ x : Raw, rawR cs x := by
  obtain ⟨op, dst, ⟨ar, an, _⟩, ⟨br, bn, _⟩, fn, vs, _⟩ := y
  obtain ⟨c1, _, rfl, e1, c2, _, rfl, e2, c3, _, rfl, ⟨a1, _, rfl, ea1, a2, _, rfl, ea2, ea3⟩, c4, _, rfl, ⟨b1, _, rfl, eb1, b2, _, rfl, eb2, eb3⟩, c5, _, rfl, e5, c6, _, rfl, ⟨v, e6, _⟩, e7⟩ := r
  simp only [rep] at e1 e2 ea1 ea2 ea3 eb1 eb2 eb3 e5 e7
  subst e1 e2 ea1 ea2 ea3 eb1 eb2 eb3 e5 e6 e7
  exact ⟨⟨op, dst, ar, an, br, bn, fn, v⟩, rfl⟩

theorem slice_conv {α β : Type} {R : List Value → α → Prop} {R' : List Value → β → Prop} {sz : Nat} {h : AI.Heap} {v : Value} {xs : List α} (s : SliceR R sz h v xs) (H : ∀ c x, R c x → ∃ y, R' c y) : ∃ ys, SliceR R' sz h v ys := by
  obtain ⟨a, cap, rfl, s⟩ := s
  rcases s with ⟨rfl, s⟩ | ⟨b, off, cs, ro, o, st, rfl, hb, he⟩
  · exact ⟨[], a, cap, rfl, .inl ⟨rfl, s⟩⟩
  · obtain ⟨ys, hl, hy⟩ := AI.exists_list (n := xs.length) (R := fun i y => ((cs.drop (off + i * sz)).take sz).length = sz ∧ R' ((cs.drop (off + i * sz)).take sz) y) (fun i hi => by
      obtain ⟨h1, h2⟩ := he i xs[i] (List.getElem?_eq_getElem hi)
      obtain ⟨y, hy⟩ := H _ _ h2
      exact ⟨y, h1, hy⟩)
    exact ⟨ys, _, cap, by rw [hl], .inr ⟨b, off, cs, ro, o, st, rfl, hb, hy⟩⟩

set_option maxRecDepth 100000 in
theorem law_runs {H : Type} {enc : TypeId × Value → H} {W : World} {base : Nat} {v : Value} {d : DataW H} {ps : List MemPlace} (hW : ∃ el fr, W.heap[0]? = some (.cells ⟨ways⟩ el fr)) (hval : Value.okWide Tryz.prog W .any base 22 v) (h0 : DataW.Trod enc Tryz.prog W 0 (fun _ => true) true 22 v d ps) :
    Calls Tryz.prog 3 ⟨[v]⟩ W (fun e W' => e = .returned (.bool true) ∧ Kept W W') := by
  have hne : ∃ (k : Nat) (ccs : Array Value) (el : TypeId) (fr : Nat × Nat), W.heap[k]? = some (.cells ccs el fr) := by
    obtain ⟨el, fr, h⟩ := hW
    exact ⟨0, _, el, fr, h⟩
  obtain ⟨ρ', h', acs, y, l, g, L, vr, r⟩ := laidV_of (CC := AI.CCof (AI.tabOf Tryz.prog) 1 (AI.drawOf (AI.tabOf Tryz.prog) 1)) ins_ty hval h0 (lain_heap1 (cs := ways) (by simp [ways, AI.constCell]) hW) hne
  obtain ⟨v', rfl, hs⟩ := r
  rw [ins_agg] at vr
  obtain ⟨rs, hr⟩ := slice_conv (R' := rawR) hs (fun c x hx => raw_of hx)
  have hways : Ways h' := ⟨true, 0, 0, g.get (AI.lain_heap1 (CC := AI.CCof (AI.tabOf Tryz.prog) 1 (AI.drawOf (AI.tabOf Tryz.prog) 1)) (cs := ways) (by simp [ways, AI.constCell]) hW).ok (by simp [AI.heap1, AI.Tr.get]) (fun h => h)⟩
  refine law_read (AI.funcsOf_ok funcAt_ok) (AI.tabOf_ok _) ((twins_does L.ok hways hr).mono fun _ _ h => h.1) L.sim ?_ (.cons vr .nil) L.ro
  intro k hk
  have : k = 0 := by omega
  subst this
  exact ⟨_, l 0 _ (if_pos rfl), rfl, rfl⟩

set_option maxRecDepth 100000 in
theorem valueTwins_lifted (os : Os) (started : os.Started) (H : Type) (enc : TypeId × Value → H) :
    ReturnsInHanded {} Tryz.checked os 3 .any (fun w args => (Rows.valueTwinsSpec.pre enc Tryz.prog Tryz.f3 [] false w args ∧ laidMetH Tryz.prog Rows.valueTwinsRow.laid w) ∧ sizedMet enc Tryz.prog Tryz.f3 (OpenSpec.ofChange Rows.valueTwinsSpec) false w args)
      (Rows.valueTwinsSpec.post enc Tryz.prog Tryz.f3 false true false false) := by
  refine returnsInHanded_of_change_and (C := Tryz.checked) (X := fun w _ => laidMetH Tryz.prog Rows.valueTwinsRow.laid w) (fun _ _ _ hh h => h.of_heap hh) Tryz.own started (by kernel_rfl) Tryz.func3
    (ChangeSpec.witness_at (enc := enc) (C := Tryz.checked) (os := os) (X := fun w _ => laidMetH Tryz.prog Rows.valueTwinsRow.laid w) false (laidWorld os) #[.slice none 0 0] 8 rfl (by kernel_rfl) (by kernel_rfl) (by kernel_rfl) (by kernel_rfl) (by kernel_rfl) (laidWorld_met os)) ?_
  intro W base args ds gs before hval0 hW _ _ hL _
  have hval : ∀ (j : Nat) t v, Tryz.f3.params[j]? = some t → args[j]? = some v → Value.okWide Tryz.prog W .any base t v := hval0
  have hW' := hW
  obtain ⟨p, q, hA0, hV0, rfl, hfz, hnd⟩ := hW
  have hA : DataW.TrodAll enc Tryz.prog W 0 (fun _ => true) true Tryz.f3.params.toList args.toList ds p := hA0
  have hV : DataW.TrodVars enc Tryz.prog W (fun _ => true) [] gs q := hV0
  rw [Tryz.params3] at hA hval
  obtain ⟨v0, d0, rfl, rfl, h0⟩ := trodAll_one hA
  obtain ⟨rfl, rfl⟩ := trodVars_none hV
  refine (law_runs (heap_of_laid hL) (hval 0 22 v0 rfl rfl) h0).mono fun e W' ⟨he, hk⟩ => ?_
  subst he
  have hlt : ∀ x ∈ p, x.block < W.heap.size := fun x hx => hW'.lt x (by simpa using hx)
  exact ⟨_, rfl, post_of_read hW' (fun _ _ _ => trodAll_mk1 (shut_bool Tryz.underlying4 true))
    (fun sp hsp => by
      have := trodAll_mk1 (WideElems.Trod_stays (sp' := sp) Tryz.laidOut (by kernel_rfl) (of_decide_eq_true (by kernel_rfl)) h0 (fun x hx => hk.sameAt (hlt x hx)) (fun x hx => hsp x (by simpa using hx)))
      show DataW.TrodAll enc Tryz.prog W' 0 sp true [22] [v0] [d0] (p ++ [])
      rw [List.append_nil]
      exact this)
    (fun _ _ => rfl) hk (ok_one (by kernel_rfl) rfl (okWide_bool_mk Tryz.underlying4 true))⟩

theorem valueTwins_holds : Rows.ValueTwinsSaid :=
  OpenClaim.holds_of_wide 3 Tryz.f3 rfl rfl rfl rfl rfl rfl rfl ⟨rfl, rfl, rfl, rfl, rfl⟩ rfl rfl rfl rfl rfl (by kernel_rfl) Tryz.func3 (by kernel_rfl)
    (of_decide_eq_true (by kernel_rfl)) (by unfold Func.isWrapper; rw [if_neg (of_decide_eq_false (by kernel_rfl))]; exact ⟨rfl, rfl⟩)
    (fun os started H enc _ => valueTwins_lifted os started H enc)

theorem valueTwins_card : Rows.ValueTwinsCardSaid :=
  Claim7.holds_tied_plain_at .later [] [.data] true (true, "dd267b7c8c78b1cdd5200fdcce0930503b04a00beeea74ecfb9d34f0ac7da32b") false
    valueTwins_holds (fun _ h => by cases h) (by kernel_rfl) (fun _ h => by cases h) valueTwins_row_tie rfl ⟨rfl, rfl⟩ (by kernel_rfl) rfl
    (fun f fn hf hfn => by
      obtain rfl : f = 3 := Option.some.inj ((show Tryz.prog.funcNamed "turnery/turnerylaw4.ValueTwins" = some 3 by kernel_rfl).symm.trans hf) |>.symm
      obtain rfl : fn = Tryz.f3 := (Option.some.inj (Tryz.func3.symm.trans hfn)).symm
      exact ⟨by kernel_rfl, fun j t ht => by
        rw [Tryz.params3] at ht
        rcases j with _ | j
        · obtain rfl : t = 22 := by simpa using ht.symm
          exact (show Tryz.prog.wantsStandIn 22 = false by kernel_rfl)
        · simp at ht⟩)
    (by kernel_rfl)
#print axioms valueTwins_card
end Go.Proofs.YtigniafapkbbbaaGreatDoor
