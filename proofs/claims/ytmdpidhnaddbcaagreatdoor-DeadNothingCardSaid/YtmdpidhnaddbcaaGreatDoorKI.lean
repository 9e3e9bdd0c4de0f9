/- Contract: dead.DoOf of a function's own copy, of one block of quiet instructions that returns a number. -/
import Derived.Test.YtmdpidhnaddbcaaGreatDoorKH
namespace Go.Proofs.YtmdpidhnaddbcaaGreatDoor
open Go.AI

theorem dodead {h : Heap} (ok : HOk h) {n0 : Nat} {name : ByteArray} {p N : Nat} {blocks : SV} {n : Int} {xs : List Own} (w : OwnFn n0 h blocks false n xs) (q : ∀ j x, xs[j]? = some x → InOrd p j x) (hN : N = p + xs.length) (hNb : N < 100000) (hq : ∀ (j : Nat) x, xs[j]? = some x → x.op ≠ 5 ∧ x.op ≠ 6) :
    Does FF n_dead_DoOf [.int .i64 0, .agg ⟨fnCells name p N blocks⟩] h (fun v h' => Grows (fun x => x = w.b ∨ (w.list.a = some ⟨x, 0, none⟩ ∧ xs ≠ [])) h h' ∧ ∃ blocks' list' : SV, v = .agg ⟨fnCells name p p blocks'⟩ ∧ OneW h.next h' blocks' list' n ∧ list'.l = 0) := by
  obtain ⟨list, b, s, ⟨ha, hl⟩, hn0, hb, hsl, hne⟩ := w
  have w1 : IntKind.i64.wrap (0 + 1) = 1 := wrap_i64 _ (by omega) (by omega)
  have w1' : IntKind.i64.wrap 1 = 1 := wrap_i64 _ (by omega) (by omega)
  have oB := ok.old hb
  have hll : list.l = xs.length := hsl.1
  have hOne : OneB h blocks nilS list false n nilS := ⟨hl, b, false, 6, s, ha, hb⟩
  have f : FnOk h p N blocks false n xs := ⟨nilS, list, nilS, hOne, rfl, rfl, hsl.sl, q, hN, (by intro e; cases e), rfl, rfl⟩
  have hb' : h.tr.get b = some (.blk [.slice none 0 0, .slice list.a list.l list.c, .int .i64 1, .bool false, .int .i64 n, .slice none 0 0] false 6 s) := by rw [hb]; simp [blkCells]
  refine Does.of c_dead_DoOf ?_
  unfold b_dead_DoOf
  have e2 : ¬ h.next = h.next + 1 + 1 := by omega
  simp [fnCells, hl, ha, e2]
  refine OpsR.cut (fun h1 => Grows Nob h h1 ∧ h1.tr.get h.next = some (.blk [.int .i64 0] false 0 0) ∧ h1.tr.get (h.next + 1) = some (.blk [.string name, .int .i64 p, .int .i64 N, .slice (some ⟨b, 0, none⟩) 1 blocks.c] false 0 0) ∧ h1.tr.get (h.next + 1 + 1) = some (.blk [.string ⟨⟨[]⟩⟩, .int .i64 0, .int .i64 0, .slice none 0 0] false 0 0)) ?_ ?_
  · exact ⟨(((Grows.refl ok).new _ _).new _ _).new _ _, by simp [Nat.add_assoc], by simp [Nat.add_assoc], by simp [Nat.add_assoc]⟩
  rintro h1 ⟨g1, hW1, hF1, hR1⟩
  refine OpsR.call (by simpa [fnCells, hl, ha] using needed_one g1.ok (name := name) (f.grow ok g1) hNb hq) ?_
  rintro _ h2 ⟨g2, nd, rfl, hnd, s2, hnd2⟩
  have gg2 := g1.trans g2
  have hW2 := g2.get g1.ok hW1 (fun h => h)
  have hF2 := g2.get g1.ok hF1 (fun h => h)
  have hR2 := g2.get g1.ok hR1 (fun h => h)
  have oF2 := gg2.ok.old hF2
  simp [hF2, oF2]
  refine Runs.cut (fun h3 => Grows Nob h2 h3 ∧ ∃ s, h3.tr.get h2.next = some (.blk [.slice (some ⟨nd, 0, none⟩) N N] false 0 s)) ?_ ?_
  · exact ⟨(Grows.refl gg2.ok).var _ _, h2.clock, by simp⟩
  rintro h3 ⟨g3, s3, hn3⟩
  have gg3 := gg2.trans g3
  have hb3 := gg3.get ok hb' (fun h => h)
  have ob3 := gg3.ok.old hb3
  have hF3 := g3.get gg2.ok hF2 (fun h => h)
  have hW3 := g3.get gg2.ok hW2 (fun h => h)
  have hR3 := g3.get gg2.ok hR2 (fun h => h)
  have hnd3 := g3.get gg2.ok hnd2 (fun h => h)
  have oF3 := gg3.ok.old hF3
  rw [runs_loop]
  unfold r_dead_DoOf_0
  simp [hb3, ob3, hF3, oF3]
  refine DrawR.cut (fun h4 => Grows Nob h3 h4 ∧ h4.clock = h3.clock + 2 ∧ h4.tr.get h3.next = some (.blk [.slice none 0 0, .slice list.a list.l list.c, .int .i64 1, .bool false, .int .i64 n, .slice none 0 0] false 0 h3.clock)) ?_ ?_
  · exact ⟨((Grows.refl gg3.ok).var _ _).tick, by simp, by simp⟩
  rintro h4 ⟨g4, hc4, hv4⟩
  refine DrawR.call (V := fun v h' => v = .slice none 0 0 ∧ h' = h4) (by simpa using delphi_nil (h := h4) (.func (.func n_dead_DoOf_1) #[] #[.pointer (some ⟨h2.next, 0, none⟩)])) ?_
  rintro _ h4' ⟨rfl, e4⟩
  rw [e4]
  have gg4 := gg3.trans g4
  have hF4 := g4.get gg3.ok hF3 (fun h => h)
  have hb4 := g4.get gg3.ok hb3 (fun h => h)
  have ob4 := gg4.ok.old hb4
  have nbF : ¬ b = h.next + 1 := by have := oB.lt; omega
  have nFb : ¬ h.next + 1 = b := fun e => nbF e.symm
  have nvb : ¬ h3.next = b := by have := ob3.lt; omega
  simp [hF4, hb4, hv4, nFb, nvb]
  have hdlt : ∀ d, list.a = some ⟨d, 0, none⟩ → xs ≠ [] → d < h.next ∧ d ≠ b := by
    intro d e hx
    refine ⟨?_, hne d e hx⟩
    rcases hsl.2 with ⟨e2, _⟩ | ⟨_, d', s', e1, _, hd'⟩
    · exact absurd e2 hx
    · rw [e] at e1; cases e1
      exact (ok.old hd').lt
  refine DrawR.cut (fun h5 => Grows (· = b) h4 h5 ∧ (∃ s, h5.tr.get b = some (.blk [.slice none 0 0, .slice list.a list.l list.c, .int .i64 1, .bool false, .int .i64 n, .slice none 0 0] false 6 s))) ?_ ?_
  · exact ⟨(Grows.put (S := (· = b)) (Grows.refl gg4.ok) ⟨_, hb4⟩ (.inr rfl)).tick, h4.clock, by simp⟩
  rintro h5 ⟨g5, s5, hb5⟩
  have gS5 : Grows (fun x => x = b ∨ (list.a = some ⟨x, 0, none⟩ ∧ xs ≠ [])) h h5 := gg4.nob.trans' g5 (fun _ _ h => h) (by rintro x _ rfl; exact .inl rfl)
  have ltb := oB.lt
  have lt1 := g1.next
  have lt2 : h.next + 1 + 1 < h2.next := gg2.ok.old hR2
  have hL5 : NewOf encOwn n0 h5 list xs := by
    refine ⟨hsl.1, ?_⟩
    rcases hsl.2 with e | ⟨hx, d', s', e1, e2, hd'⟩
    · exact .inl e
    · exact .inr ⟨hx, d', s', e1, e2, g5.get gg4.ok (gg4.get ok hd' (fun h => h)) (hdlt d' e1 hx).2⟩
  have t34 := g3.trans g4
  have hW5 := g5.get gg4.ok (g4.get gg3.ok hW3 (fun h => h)) (by omega)
  have hn5 := g5.get gg4.ok (g4.get gg3.ok hn3 (fun h => h)) (by omega)
  have hnd5 := g5.get gg4.ok (g4.get gg3.ok hnd3 (fun h => h)) (by omega)
  have hF5 := g5.get gg4.ok hF4 nFb
  have hR5 := g5.get gg4.ok (g4.get gg3.ok hR3 (fun h => h)) (by omega)
  have hD5 : DelOk h5 h.next h2.next nd N := ⟨⟨_, _, _, hW5⟩, ⟨_, _, _, hn5⟩, ⟨_, _, _, hnd5⟩⟩
  refine DrawR.call (V := fun v h' => Grows (fun x => list.a = some ⟨x, 0, none⟩ ∧ xs ≠ []) h5 h' ∧ ∃ w : SV, v = w.v ∧ w.l = 0) (by simpa using delete_all g5.ok hL5 hD5 q hN hNb hq) ?_
  rintro _ h6 ⟨g6, w, rfl, hw0⟩
  have hF6 := g6.get g5.ok hF5 (by rintro ⟨e, hx⟩; have := (hdlt _ e hx).1; omega)
  have hR6 := g6.get g5.ok hR5 (by rintro ⟨e, hx⟩; have := (hdlt _ e hx).1; omega)
  have hb6 := g6.get g5.ok hb5 (by rintro ⟨e, hx⟩; exact (hdlt _ e hx).2 rfl)
  have ob6 := g6.ok.old hb6
  simp [hF6, hb6, hw0, w1, w1']
  rw [runs_loop]
  simp [hF6, nFb]
  have gS6 : Grows (fun x => x = b ∨ (list.a = some ⟨x, 0, none⟩ ∧ xs ≠ [])) h h6 := gS5.trans' g6 (fun _ _ h => h) (by rintro x _ ⟨e, hx⟩; exact .inr ⟨e, hx⟩)
  refine OpsR.cut (fun h7 => Grows (· = b) h6 h7 ∧ (∃ s, h7.tr.get b = some (.blk [.slice none 0 0, .slice w.a 0 w.c, .int .i64 1, .bool false, .int .i64 n, .slice none 0 0] false 6 s))) ?_ ?_
  · exact ⟨Grows.put (S := (· = b)) (Grows.refl gS6.ok) ⟨_, hb6⟩ (.inr rfl), h6.clock, by simp⟩
  rintro h7 ⟨g7, s7, hb7⟩
  have gS7 : Grows (fun x => x = b ∨ (list.a = some ⟨x, 0, none⟩ ∧ xs ≠ [])) h h7 := gS6.trans' g7 (fun _ _ h => h) (by rintro x _ rfl; exact .inl rfl)
  have hR7 := g7.get gS6.ok hR6 (by omega)
  have hOne7 : OneB h7 blocks nilS ⟨w.a, 0, w.c⟩ false n nilS := ⟨hl, b, false, 6, s7, ha, hb7⟩
  refine OpsR.call (V := fun v h' => Grows Nob h7 h' ∧ ∃ blocks' : SV, v = .agg ⟨fnCells name p p blocks'⟩ ∧ OneW h7.next h' blocks' ⟨w.a, 0, w.c⟩ n) (by simpa [fnCells, hl, ha] using tidy_empty gS7.ok (name := name) (p := p) (N := N) hOne7 rfl (by omega) hNb) ?_
  rintro _ h8 ⟨g8, B, rfl, hB8⟩
  have hR8 := g8.get gS7.ok hR7 (fun h => h)
  obtain ⟨e1, b8, o8, s8, e3, e4, e5⟩ := hB8
  have lt7 : h.next + 1 + 1 < h7.next := gS7.ok.old hR7
  have nb8 : ¬ b8 = h.next + 1 + 1 := by omega
  simp [fnCells, hR8]
  refine ⟨?_, B, ⟨rfl, rfl, rfl⟩, ⟨w.a, 0, w.c⟩, ⟨e1, b8, o8, s8, e3, by omega, by simp [nb8]; exact e5⟩, rfl⟩
  refine Grows.put (gS7.trans' g8 (fun _ _ h => h) (fun _ _ h => h.elim)) ⟨_, hR8⟩ (.inl (by omega))
end Go.Proofs.YtmdpidhnaddbcaaGreatDoor

/- Contracts: the closure of dead.Do, graph.Each of main and one function of one block of quiet instructions. -/
namespace Go.Proofs.YtmdpidhnaddbcaaGreatDoor
open Go.AI

theorem do_one {h : Heap} (ok : HOk h) {n0 Wd ow sw : Nat} {rw_ : Bool} {name : ByteArray} {p N : Nat} {blocks : SV} {n : Int} {xs : List Own} (hW : h.tr.get Wd = some (.blk [.int .i64 0] rw_ ow sw)) (w : OwnFn n0 h blocks false n xs) (hn : n0 ≤ h.next) (q : ∀ j x, xs[j]? = some x → InOrd p j x) (hN : N = p + xs.length) (hNb : N < 100000) (hq : ∀ (j : Nat) x, xs[j]? = some x → x.op ≠ 5 ∧ x.op ≠ 6) :
    DoesV FF (.func (.func n_dead_Do_1) #[] #[.pointer (some ⟨Wd, 0, none⟩)]) [.agg ⟨fnCells name p N blocks⟩] h (fun v h' => Grows (fun x => n0 ≤ x) h h' ∧ ∃ blocks' list' : SV, v = .agg ⟨fnCells name p p blocks'⟩ ∧ OneW n0 h' blocks' list' n ∧ list'.l = 0) := by
  refine DoesV.func ?_
  refine Does.of c_dead_Do_1 ?_
  unfold b_dead_Do_1
  have oW := ok.old hW
  simp [fnCells, hW, oW]
  refine OpsR.cut (fun h1 => Grows Nob h h1 ∧ h1.tr.get (h.next + 1) = some (.blk [.string ⟨⟨[]⟩⟩, .int .i64 0, .int .i64 0, .slice none 0 0] false 0 0)) ?_ ?_
  · exact ⟨((Grows.refl ok).new _ _).new _ _, by simp [Nat.add_assoc]⟩
  rintro h1 ⟨g1, hR1⟩
  obtain ⟨list, b, s, bl, hn0, hb, hsl, hne⟩ := w
  have C := dodead g1.ok (name := name) (w := ⟨list, b, s, bl, hn0, g1.get ok hb (fun h => h), hsl.grow ok g1 (fun _ _ h => h), hne⟩) q hN hNb hq
  have oB := ok.old hb
  refine OpsR.call (V := fun v h' => Grows (fun x => x = b ∨ (list.a = some ⟨x, 0, none⟩ ∧ xs ≠ [])) h1 h' ∧ ∃ blocks' list' : SV, v = .agg ⟨fnCells name p p blocks'⟩ ∧ OneW h1.next h' blocks' list' n ∧ list'.l = 0) (by simpa [fnCells] using C) ?_
  have hdl : ∀ x, list.a = some ⟨x, 0, none⟩ ∧ xs ≠ [] → n0 ≤ x ∧ x < h.next := by
    rintro x ⟨e, hx⟩
    rcases hsl.2 with ⟨e2, _⟩ | ⟨_, d', s', e1, e3, hd'⟩
    · exact absurd e2 hx
    · rw [e] at e1; cases e1
      exact ⟨e3, (ok.old hd').lt⟩
  rintro _ h2 ⟨g2, B, L, rfl, hB, hL⟩
  have hR2 := g2.get g1.ok hR1 (by rintro (e | e); (have := oB.lt; omega); (have := (hdl _ e).2; omega))
  have lt1 : h.next + 1 < h1.next := g1.ok.old hR1
  obtain ⟨e1, b2, o2, s2, e3, e4, e5⟩ := hB
  have nb : ¬ b2 = h.next + 1 := by omega
  simp [fnCells, hR2]
  refine ⟨?_, B, ⟨rfl, rfl, rfl⟩, L, ⟨e1, b2, o2, s2, e3, by omega, by simp [nb]; exact e5⟩, hL⟩
  refine Grows.put (g1.nob.trans' g2 (fun _ _ h => h) (by rintro x _ (rfl | e); exact hn0; exact (hdl _ e).1)) ⟨_, hR2⟩ (.inl (by omega))

def encF : Enc (ByteArray × Int × Int × SV) := ⟨fun x => fnCells x.1 x.2.1 x.2.2.1 x.2.2.2, 4, fun _ => rfl, by decide, fun _ => rfl⟩
@[simp] theorem encF_sz : encF.sz = 4 := rfl

/-- The closure's promise on one function. -/
def DoOne (n0 : Nat) (h : Heap) (cl : Value) (name : ByteArray) (p N : Nat) (blocks : SV) (n : Int) : Prop :=
  DoesV FF cl [.agg ⟨fnCells name p N blocks⟩] h (fun v h' => Grows (fun x => n0 ≤ x) h h' ∧ ∃ blocks' list' : SV, v = .agg ⟨fnCells name p p blocks'⟩ ∧ OneW n0 h' blocks' list' n ∧ list'.l = 0)

theorem each_two {h : Heap} (ok : HOk h) {Wd ow sw : Nat} {rw_ : Bool} {mB fB : SV} {Fb fc o s N : Nat} {ro : Bool} {n1 n2 : Int} {xs : List Own} (m : FnOk h 0 0 mB false n1 []) (f : FnOk h 1 N fB false n2 xs) (hN : N ≤ 100) (hq : ∀ (j : Nat) x, xs[j]? = some x → x.op ≠ 5 ∧ x.op ≠ 6)
    (hW : h.tr.get Wd = some (.blk [.int .i64 0] rw_ ow sw))
    (hF : h.tr.get Fb = some (.blk (fnCells sMain 0 0 mB ++ fnCells sF 1 N fB) ro o s)) :
    Does FF n_graph_Each [.agg ⟨[.slice none 0 0, .slice (some ⟨Fb, 0, none⟩) 2 fc]⟩, .func (.func n_dead_Do_1) #[] #[.pointer (some ⟨Wd, 0, none⟩)]] h
      (fun v h' => Grows Nob h h' ∧ ∃ d c s, ∃ B1 B2 list : SV, v = .tuple #[.agg ⟨[.slice none 0 0, .slice (some ⟨d, 0, none⟩) 2 c]⟩, .agg #[.int .i64 0, .int .i64 0]] ∧ h.next ≤ d ∧ h'.tr.get d = some (.blk (fnCells sMain 0 0 B1 ++ fnCells sF 1 1 B2) false 4 s) ∧ OneW h.next h' B2 list n2 ∧ list.l = 0) := by
  have w1 : IntKind.i64.wrap (0 + 1) = 1 := wrap_i64 _ (by omega) (by omega)
  have w1' : IntKind.i64.wrap 1 = 1 := wrap_i64 _ (by omega) (by omega)
  have w2 : IntKind.i64.wrap (1 + 1) = 2 := wrap_i64 _ (by omega) (by omega)
  have w2' : IntKind.i64.wrap 2 = 2 := wrap_i64 _ (by omega) (by omega)
  refine Does.of c_graph_Each ?_
  unfold b_graph_Each
  have e2 : ¬ h.next = h.next + 1 + 1 := by omega
  simp [e2]
  refine OpsR.cut (fun h1 => Grows Nob h h1 ∧ (∃ s, h1.tr.get h.next = some (.blk [.slice none 0 0, .slice (some ⟨Fb, 0, none⟩) 2 fc] false 0 s)) ∧ h1.tr.get (h.next + 1) = some (.blk [.slice none 0 0, .slice none 0 0] false 0 0) ∧ h1.tr.get (h.next + 1 + 1) = some (.blk [.int .i64 0, .int .i64 0] false 0 0)) ?_ ?_
  · exact ⟨(((Grows.refl ok).new _ _).new _ _).new _ _, ⟨0, by simp [Nat.add_assoc]⟩, by simp [Nat.add_assoc], by simp [Nat.add_assoc]⟩
  rintro h1 ⟨g1, ⟨s1, hU1⟩, hR1, hE1⟩
  refine OpsR.call (V := fun v h' => v = .slice none 0 0 ∧ h' = h1) (by simpa using clone_nil (bytes := 48) c_slices_Clone_api_Global_api_Global h1 0) ?_
  rintro _ h1' ⟨rfl, eh⟩
  rw [eh]
  have nUR : ¬ h.next + 1 = h.next := by omega
  have nUE : ¬ h.next + 1 + 1 = h.next := by omega
  simp [hU1]
  refine Runs.cut (fun h2 => Grows Nob h h2 ∧ h2.next = h1.next ∧ (∃ s, h2.tr.get h.next = some (.blk [.slice none 0 0, .slice (some ⟨Fb, 0, none⟩) 2 fc] false 0 s)) ∧ h2.tr.get (h.next + 1) = some (.blk [.slice none 0 0, .slice none 0 0] false 0 0) ∧ h2.tr.get (h.next + 1 + 1) = some (.blk [.int .i64 0, .int .i64 0] false 0 0)) ?_ ?_
  · exact ⟨g1.put ⟨_, hU1⟩ (.inl (Nat.le_refl _)), rfl, ⟨h1.clock, by simp⟩, by simpa [nUR] using hR1, by simpa [nUE] using hE1⟩
  rintro h2 ⟨g2, hn2, ⟨s2, hU2⟩, hR2, hE2⟩
  rw [runs_loop]
  unfold r_graph_Each_1
  simp [hU2]
  have m2 := m.grow ok g2
  have f2 := f.grow ok g2
  have hF2 := g2.get ok hF (fun h => h)
  have hsF : SliceOf encF h2 (SV.v ⟨some ⟨Fb, 0, none⟩, 2, fc⟩) [(sMain, 0, 0, mB), (sF, 1, (N : Int), fB)] := ⟨_, fc, rfl, .inr ⟨Fb, 0, _, _, _, _, rfl, hF2, by simp [fnCells], by simp [encF, Enc.flat, fnCells]⟩⟩
  refine OpsR.call (V := fun v h' => Grows Nob h2 h' ∧ ∃ w : SV, v = w.v ∧ NewOf encF h2.next h' w [(sMain, 0, 0, mB), (sF, 1, (N : Int), fB)]) ?_ ?_
  · have C := (clone_does encF (bytes := 56) c_slices_Clone_api_Func_api_Func rfl (by decide) g2.ok hsF (by simp)).mono (R' := fun v h' => Grows Nob h2 h' ∧ ∃ w : SV, v = w.v ∧ NewOf encF h2.next h' w [(sMain, 0, 0, mB), (sF, 1, (N : Int), fB)]) (fun v h' ⟨g, w, e, k, _⟩ => ⟨g, w, e, k⟩)
    simpa using C
  rintro _ h3 ⟨g3, w, rfl, hw⟩
  have gg3 := g2.trans g3
  obtain ⟨hwl, hw⟩ := hw
  rcases hw with ⟨e, _⟩ | ⟨_, d, s3, hwa, hwd, hD3⟩
  · cases e
  have hwl2 : w.l = 2 := hwl
  have hD3' : h3.tr.get d = some (.blk [.string sMain, .int .i64 0, .int .i64 0, .slice mB.a mB.l mB.c, .string sF, .int .i64 1, .int .i64 N, .slice fB.a fB.l fB.c] false 4 s3) := by rw [hD3]; simp [encF, Enc.flat, fnCells]
  have hU3 := g3.get g2.ok hU2 (fun h => h)
  have lt2 : h.next + 1 + 1 < h2.next := g2.ok.old hE2
  have nDU : ¬ d = h.next := by omega
  have nDR : ¬ h.next + 1 = d := by omega
  simp [hU3, hwl2, hwa]
  refine Runs.cut (fun h4 => Grows Nob h h4 ∧ h4.next = h3.next ∧ (∃ s, h4.tr.get h.next = some (.blk [.slice none 0 0, .slice (some ⟨d, 0, none⟩) 2 w.c] false 0 s)) ∧ h4.tr.get (h.next + 1) = some (.blk [.slice none 0 0, .slice none 0 0] false 0 0) ∧ h4.tr.get (h.next + 1 + 1) = some (.blk [.int .i64 0, .int .i64 0] false 0 0) ∧ h4.tr.get d = some (.blk [.string sMain, .int .i64 0, .int .i64 0, .slice mB.a mB.l mB.c, .string sF, .int .i64 1, .int .i64 N, .slice fB.a fB.l fB.c] false 4 s3)) ?_ ?_
  · exact ⟨gg3.put ⟨_, hU3⟩ (.inl (Nat.le_refl _)), rfl, ⟨h3.clock, by simp⟩, by simpa [nUR] using g3.get g2.ok hR2 (fun h => h), by simpa [nUE] using g3.get g2.ok hE2 (fun h => h), by simpa [nDU] using hD3'⟩
  rintro h4 ⟨g4, hn4, ⟨s4, hU4⟩, hR4, hE4, hD4⟩
  have oD4 := g4.ok.old hD4
  rw [runs_loop]
  unfold r_graph_Each_0
  simp [hD4, oD4]
  refine OpsR.cut (fun h5 => Grows Nob h4 h5 ∧ ∃ s, h5.tr.get h4.next = some (.blk [.string sMain, .int .i64 0, .int .i64 0, .slice mB.a mB.l mB.c] false 0 s)) ?_ ?_
  · exact ⟨((Grows.refl g4.ok).new _ _).put ⟨0, by simp⟩ (.inl (by omega)), h4.clock, by simp⟩
  rintro h5 ⟨g5, s5, hV5⟩
  have gg5 := g4.trans g5
  have lt4 := g5.ok.old hV5
  refine OpsR.call (V := fun v h' => Grows Nob h5 h' ∧ ∃ B : SV, v = .agg ⟨fnCells sMain 0 0 B⟩ ∧ Nonempty (OwnFn h5.next h' B false n1 [])) (by simpa [fnCells] using copy_one gg5.ok (name := sMain) (m.grow ok gg5) (by omega)) ?_
  rintro _ h6 ⟨g6, B, rfl, ⟨ow1⟩⟩
  have gg6 := gg5.trans g6
  refine OpsR.callV (V := fun v h' => Grows (fun x => h5.next ≤ x) h6 h' ∧ ∃ B L : SV, v = .agg ⟨fnCells sMain 0 0 B⟩ ∧ OneW h5.next h' B L n1 ∧ L.l = 0) ?_ ?_
  · have C := do_one gg6.ok (name := sMain) (p := 0) (N := 0) (gg6.get ok hW (fun h => h)) ow1 g6.next (by simp) rfl (by omega) (by simp)
    simpa [fnCells] using C
  rintro _ h7 ⟨g7, B1, L1, rfl, hB1, hL1⟩
  have hV7 := g7.get gg6.ok (g6.get gg5.ok hV5 (fun h => h)) (by have := lt4.lt; omega)
  have g47 : Grows Nob h4 h7 := (g5.trans g6).trans' g7 (fun _ _ h => h) (by intro x _ hx; have := lt4.lt; omega)
  simp [fnCells, hV7]
  obtain ⟨eB1, bB1, oB1, sB1, aB1, lB1, hbB1⟩ := hB1
  have ltB1 : ¬ bB1 = h4.next := by have := lt4.lt; omega
  refine OpsR.cut (fun h8 => Grows Nob h4 h8 ∧ (∃ s, h8.tr.get h4.next = some (.blk [.string sMain, .int .i64 0, .int .i64 0, .slice B1.a B1.l B1.c] false 0 s)) ∧ OneW h4.next h8 B1 L1 n1) ?_ ?_
  · exact ⟨g47.put ⟨_, hV7⟩ (.inl (Nat.le_refl _)), ⟨h7.clock, by simp⟩, ⟨eB1, bB1, oB1, sB1, aB1, by have := lt4.lt; omega, by simpa [ltB1] using hbB1⟩⟩
  rintro h8 ⟨g8, ⟨s8, hV8⟩, hB8⟩
  refine OpsR.call (by simpa [fnCells] using large_empty (g4.trans g8).ok (name := sMain) (p := 0) (N := 0) hB8.one hL1 (by omega)) ?_
  rintro _ h9 ⟨rfl, g9⟩
  have g49 := g8.trans g9
  have hV9 := g9.get g8.ok hV8 (fun h => h)
  have hU9 := g49.get g4.ok hU4 (fun h => h)
  have hD9 := g49.get g4.ok hD4 (fun h => h)
  have nDU' : ¬ h.next = d := fun e => nDU e.symm
  have nVD : ¬ h4.next = d := by have := oD4.lt; omega
  have nED : ¬ h.next + 1 + 1 = d := by omega
  simp [hV9, hU9, hD9, w1, w1']
  refine Runs.cut (fun h10 => Grows Nob h h10 ∧ (∃ s, h10.tr.get h.next = some (.blk [.slice none 0 0, .slice (some ⟨d, 0, none⟩) 2 w.c] false 0 s)) ∧ h10.tr.get (h.next + 1) = some (.blk [.slice none 0 0, .slice none 0 0] false 0 0) ∧ h10.tr.get (h.next + 1 + 1) = some (.blk [.int .i64 0, .int .i64 0] false 0 0) ∧ ∃ s, h10.tr.get d = some (.blk [.string sMain, .int .i64 0, .int .i64 0, .slice B1.a B1.l B1.c, .string sF, .int .i64 1, .int .i64 N, .slice fB.a fB.l fB.c] false 4 s)) ?_ ?_
  · exact ⟨(g4.trans g49).put ⟨_, hD9⟩ (.inl (by omega)), ⟨s4, by simpa [nDU'] using hU9⟩, by simpa [nDR] using g49.get g4.ok hR4 (fun h => h), by simpa [nED] using g49.get g4.ok hE4 (fun h => h), h9.clock, by simp⟩
  rintro k4 ⟨gk4, ⟨t4, hU4⟩, hR4, hE4, t5, hD4⟩
  have oD4 := gk4.ok.old hD4
  rw [runs_loop]
  try unfold r_graph_Each_0
  simp [hD4, oD4]
  refine OpsR.cut (fun h5 => Grows Nob k4 h5 ∧ ∃ s, h5.tr.get k4.next = some (.blk [.string sF, .int .i64 1, .int .i64 N, .slice fB.a fB.l fB.c] false 0 s)) ?_ ?_
  · exact ⟨((Grows.refl gk4.ok).new _ _).put ⟨0, by simp⟩ (.inl (by omega)), k4.clock, by simp⟩
  rintro k5 ⟨j5, t5', hY5⟩
  have jj5 := gk4.trans j5
  have lk4 := j5.ok.old hY5
  refine OpsR.call (V := fun v h' => Grows Nob k5 h' ∧ ∃ B : SV, v = .agg ⟨fnCells sF 1 N B⟩ ∧ Nonempty (OwnFn k5.next h' B false n2 xs)) (by simpa [fnCells] using copy_one jj5.ok (name := sF) (f.grow ok jj5) (by omega)) ?_
  rintro _ k6 ⟨j6, B', rfl, ⟨ow2⟩⟩
  have jj6 := jj5.trans j6
  refine OpsR.callV (V := fun v h' => Grows (fun x => k5.next ≤ x) k6 h' ∧ ∃ B L : SV, v = .agg ⟨fnCells sF 1 1 B⟩ ∧ OneW k5.next h' B L n2 ∧ L.l = 0) ?_ ?_
  · have C := do_one jj6.ok (name := sF) (p := 1) (N := N) (jj6.get ok hW (fun h => h)) ow2 j6.next f.ord f.cnt (by omega) hq
    simpa [fnCells] using C
  rintro _ k7 ⟨j7, B2, L2, rfl, hB2, hL2⟩
  have hY7 := j7.get jj6.ok (j6.get jj5.ok hY5 (fun h => h)) (by have := lk4.lt; omega)
  have j47 : Grows Nob k4 k7 := (j5.trans j6).trans' j7 (fun _ _ h => h) (by intro x _ hx; have := lk4.lt; omega)
  simp [fnCells, hY7]
  obtain ⟨eB2, bB2, oB2, sB2, aB2, lB2, hbB2⟩ := hB2
  have ltB2 : ¬ bB2 = k4.next := by have := lk4.lt; omega
  refine OpsR.cut (fun h8 => Grows Nob k4 h8 ∧ (∃ s, h8.tr.get k4.next = some (.blk [.string sF, .int .i64 1, .int .i64 1, .slice B2.a B2.l B2.c] false 0 s)) ∧ OneW k4.next h8 B2 L2 n2) ?_ ?_
  · exact ⟨j47.put ⟨_, hY7⟩ (.inl (Nat.le_refl _)), ⟨k7.clock, by simp⟩, ⟨eB2, bB2, oB2, sB2, aB2, by have := lk4.lt; omega, by simpa [ltB2] using hbB2⟩⟩
  rintro k8 ⟨j8, ⟨t8, hY8⟩, hC8⟩
  refine OpsR.call (by simpa [fnCells] using large_empty (gk4.trans j8).ok (name := sF) (p := 1) (N := 1) hC8.one hL2 (by omega)) ?_
  rintro _ k9 ⟨rfl, j9⟩
  have j49 := j8.trans j9
  have hY9 := j9.get j8.ok hY8 (fun h => h)
  have hU9 := j49.get gk4.ok hU4 (fun h => h)
  have hD9 := j49.get gk4.ok hD4 (fun h => h)
  have hR9 := j49.get gk4.ok hR4 (fun h => h)
  have hE9 := j49.get gk4.ok hE4 (fun h => h)
  have nDU' : ¬ h.next = d := fun e => nDU e.symm
  have nED : ¬ h.next + 1 + 1 = d := by omega
  have nEU : ¬ h.next + 1 + 1 = h.next + 1 := by omega
  have nDR' : ¬ d = h.next + 1 := fun e => nDR e.symm
  have nDE' : ¬ d = h.next + 1 + 1 := fun e => nED e.symm
  obtain ⟨eC, bC, oC, sC, aC, lC, hC⟩ := hC8
  have hC9 := j9.get j8.ok hC (fun h => h)
  have ltk : d < k4.next := oD4.lt
  have nC1 : ¬ bC = d := by omega
  have nC2 : ¬ bC = h.next + 1 := by have := gk4.ok.old hR4; have := this.lt; omega
  have nC3 : ¬ bC = h.next + 1 + 1 := by have := gk4.ok.old hE4; have := this.lt; omega
  simp [hY9, hU9, hD9, w2, w2']
  rw [runs_loop]
  try unfold r_graph_Each_0
  simp [nDU', hU9, nED, nDR, nEU, hR9, hE9]
  have gk9 := gk4.trans j49
  refine ⟨?_, by omega, k9.clock, B1, B2, by simp [nDR', nDE'], L2, ⟨eC, bC, oC, sC, aC, ?_, ?_⟩, hL2⟩
  · exact ((gk9.put ⟨_, hD9⟩ (.inl (by omega))).put ⟨0, by simp [nDR, hR9]⟩ (.inl (by omega))).put ⟨0, by simp [nED, nEU, hE9]⟩ (.inl (by omega))
  · have := gk4.next; omega
  · simpa [nC1, nC2, nC3] using hC9
end Go.Proofs.YtmdpidhnaddbcaaGreatDoor

/- Contract: dead.Do of a unit of main and one function of one block of quiet instructions. -/
namespace Go.Proofs.YtmdpidhnaddbcaaGreatDoor
open Go.AI

theorem dead_two {h : Heap} (ok : HOk h) (hw : Ways h) {mB fB : SV} {Fb fc o s N : Nat} {ro : Bool} {n1 n2 : Int} {xs : List Own} (m : FnOk h 0 0 mB false n1 []) (f : FnOk h 1 N fB false n2 xs) (hN : N ≤ 100) (hq : ∀ (j : Nat) x, xs[j]? = some x → x.op ≠ 5 ∧ x.op ≠ 6)
    (hF : h.tr.get Fb = some (.blk (fnCells sMain 0 0 mB ++ fnCells sF 1 N fB) ro o s)) :
    Does FF n_dead_Do [.agg ⟨[.slice none 0 0, .slice (some ⟨Fb, 0, none⟩) 2 fc]⟩] h
      (fun v h' => Grows Nob h h' ∧ ∃ d c s, ∃ B1 B2 list : SV, v = .tuple #[.agg ⟨[.slice none 0 0, .slice (some ⟨d, 0, none⟩) 2 c]⟩, .agg #[.int .i64 0, .int .i64 0]] ∧ h.next ≤ d ∧ h'.tr.get d = some (.blk (fnCells sMain 0 0 B1 ++ fnCells sF 1 1 B2) false 4 s) ∧ OneW h.next h' B2 list n2 ∧ list.l = 0) := by
  refine Does.of c_dead_Do ?_
  unfold b_dead_Do
  have e2 : ¬ h.next = h.next + 1 + 1 := by omega
  simp [e2]
  refine OpsR.cut (fun h1 => Grows Nob h h1 ∧ (∃ s, h1.tr.get h.next = some (.blk [.slice none 0 0, .slice (some ⟨Fb, 0, none⟩) 2 fc] false 0 s)) ∧ h1.tr.get (h.next + 1) = some (.blk [.slice none 0 0, .slice none 0 0] false 0 0) ∧ h1.tr.get (h.next + 1 + 1) = some (.blk [.int .i64 0, .int .i64 0] false 0 0)) ?_ ?_
  · exact ⟨(((Grows.refl ok).new _ _).new _ _).new _ _, ⟨0, by simp [Nat.add_assoc]⟩, by simp [Nat.add_assoc], by simp [Nat.add_assoc]⟩
  rintro h1 ⟨g1, ⟨s1, hU1⟩, hR1, hE1⟩
  refine OpsR.call (by simpa using ssa_two g1.ok (hw.grow ok g1) (gl := ⟨none, 0, 0⟩) rfl (m.grow ok g1) (f.grow ok g1) hN (fc := fc) (g1.get ok hF (fun h => h))) ?_
  rintro _ h2 ⟨rfl, g2⟩
  have gg2 := g1.trans g2
  have hU2 := g2.get g1.ok hU1 (fun h => h)
  have hR2 := g2.get g1.ok hR1 (fun h => h)
  have hE2 := g2.get g1.ok hE1 (fun h => h)
  have oU2 := gg2.ok.old hU2
  simp [hU2, oU2]
  refine OpsR.cut (fun h3 => Grows Nob h2 h3) ?_ ?_
  · repeat (first | exact .refl gg2.ok | apply Grows.new | refine Grows.put ?_ (by simp) (by simp))
  intro h3 g3
  have gg3 := gg2.trans g3
  refine OpsR.call (by simpa using words_nil gg3.ok (gl := ⟨none, 0, 0⟩) rfl ⟨some ⟨Fb, 0, none⟩, 2, fc⟩) ?_
  rintro _ h4 ⟨rfl, g4⟩
  have gg4 := gg3.trans g4
  have t4 := g3.trans g4
  have hU4 := t4.get gg2.ok hU2 (fun h => h)
  have hR4 := t4.get gg2.ok hR2 (fun h => h)
  have hE4 := t4.get gg2.ok hE2 (fun h => h)
  have oU4 := gg4.ok.old hU4
  simp [hU4, oU4]
  refine OpsR.cut (fun h5 => Grows Nob h4 h5 ∧ (∃ s, h5.tr.get h4.next = some (.blk [.int .i64 0] false 0 s))) ?_ ?_
  · exact ⟨((Grows.refl gg4.ok).new _ _).put ⟨0, by simp⟩ (.inl (by omega)), h4.clock, by simp⟩
  rintro h5 ⟨g5, s5, hW5⟩
  have gg5 := gg4.trans g5
  refine OpsR.call (V := fun v h' => Grows Nob h5 h' ∧ ∃ d c s, ∃ B1 B2 list : SV, v = .tuple #[.agg ⟨[.slice none 0 0, .slice (some ⟨d, 0, none⟩) 2 c]⟩, .agg #[.int .i64 0, .int .i64 0]] ∧ h5.next ≤ d ∧ h'.tr.get d = some (.blk (fnCells sMain 0 0 B1 ++ fnCells sF 1 1 B2) false 4 s) ∧ OneW h5.next h' B2 list n2 ∧ list.l = 0) (by simpa using each_two gg5.ok (fc := fc) (m.grow ok gg5) (f.grow ok gg5) hN hq hW5 (gg5.get ok hF (fun h => h))) ?_
  rintro _ h6 ⟨g6, d, c, s6, B1, B2, L, rfl, hd, hD6, ⟨e1, b, o6, s7, e3, e4, e5⟩, hL⟩
  have t6 := g5.trans g6
  have hR6 := t6.get gg4.ok hR4 (fun h => h)
  have hE6 := t6.get gg4.ok hE4 (fun h => h)
  have lt5 : h.next + 1 + 1 < h5.next := gg5.ok.old (t6.get gg4.ok hE4 (fun h => h) |> fun _ => g5.get gg4.ok hE4 (fun h => h))
  have nER : ¬ h.next + 1 + 1 = h.next + 1 := by omega
  have n1 : ¬ d = h.next + 1 := by omega
  have n2 : ¬ d = h.next + 1 + 1 := by omega
  have n3 : ¬ b = h.next + 1 := by omega
  have n4 : ¬ b = h.next + 1 + 1 := by omega
  simp [hR6, hE6, nER]
  have gg6 := gg5.trans g6
  refine ⟨?_, by omega, s6, B1, B2, by simpa [n1, n2] using hD6, L, ⟨e1, b, o6, s7, e3, by omega, by simpa [n3, n4] using e5⟩, hL⟩
  exact (gg6.put ⟨_, hR6⟩ (.inl (by omega))).put ⟨0, by simp [nER, hE6]⟩ (.inl (by omega))
end Go.Proofs.YtmdpidhnaddbcaaGreatDoor
