import Derived.Test.YtkhnhflbgkndjaaT13
import Derived.Test.YtkhnhflbgkndjaaAiRead
import Derived.OpenShut
import Derived.Test.YtkhnhflbgkndjaaRows
namespace Go.Proofs.Ytkhnhflbgkndjaa
open Go.AI Go Go.ChangeShapes Go.WideShapes Go.ChangeAt Go.RowKit

theorem list_of {α : Type} {R : Nat → α → Prop} : ∀ {n : Nat}, (∀ i, i < n → ∃ x, R i x) → ∃ l : List α, l.length = n ∧ ∀ i x, l[i]? = some x → R i x
  | 0, _ => ⟨[], rfl, by simp⟩
  | n + 1, h => by
    obtain ⟨l, hl, hr⟩ := list_of (n := n) fun i hi => h i (by omega)
    obtain ⟨x, hx⟩ := h n (by omega)
    refine ⟨l ++ [x], by simp [hl], fun i y hy => ?_⟩
    by_cases e : i < n
    · rw [List.getElem?_append_left (by omega)] at hy
      exact hr i y hy
    · have hlt := (List.getElem?_eq_some_iff.mp hy).1
      simp [hl] at hlt
      have : i = n := by omega
      subst this
      rw [List.getElem?_append_right (by omega), hl, Nat.sub_self] at hy
      cases hy
      exact hx

theorem cells_two {w : World} {a : Addr} {cs : List Value} (h : w.cells? 0 a 2 = some cs) : ∃ x y, cs = [x, y] ∧ w.cell? a = some x ∧ w.cell? (a.add 1) = some y := by
  unfold World.cells? at h
  rw [if_pos (Nat.zero_le _)] at h
  have e : List.range 2 = [0, 1] := rfl
  rw [e] at h
  simp only [List.mapM_cons, List.mapM_nil, Option.bind_eq_bind, Option.bind_eq_some_iff, Option.pure_def, Option.some.injEq] at h
  obtain ⟨x, hx, _, ⟨y, hy, _, rfl, rfl⟩, rfl⟩ := h
  exact ⟨x, y, rfl, by simpa [Addr.add] using hx, hy⟩

theorem cell_at {w : World} {a : Addr} {v : Value} {ccs : Array Value} {el : TypeId} {fr : Nat × Nat} (hb : w.heap[a.block]? = some (.cells ccs el fr)) (h : w.cell? a = some v) : ccs[a.off]? = some v := by
  unfold World.cell? at h
  rw [hb] at h
  dsimp only at h
  split at h
  · cases h
  · exact h

section
variable {H : Type} {enc : TypeId × Value → H} {P : Program} {w : World}

/-- A slice of pairs, read. -/
theorem open_pairs {ts ta ti : TypeId} {v : Value} {d : DataW H} {ps : List MemPlace} {held : Bool} {base : Nat} (hs : P.underlying ts = some (.slice ta)) (hta : P.underlying ta = some (.array 2 ti)) (hti : P.underlying ti = some (.int .i64))
    (hca : P.cellsOf ta = 2) (hci : P.cellsOf ti = 1) (hval : Value.okWide P w .any base ts v) (h : DataW.Trod enc P w 0 (fun _ => true) held ts v d ps) :
    v = .slice none 0 0 ∨ ∃ (a : Addr) (len cap : Nat) (ms : List (Int × Int)) (ccs : Array Value) (el : TypeId) (fr : Nat × Nat), v = .slice (some a) len cap ∧ len ≤ cap ∧ ms.length = len ∧ a.spot = none ∧ w.heap[a.block]? = some (.cells ccs el fr) ∧
      (0 < cap → a.off < ccs.size) ∧ ∀ i p, ms[i]? = some p → ccs[a.off + i * 2]? = some (.int .i64 p.1) ∧ ccs[a.off + i * 2 + 1]? = some (.int .i64 p.2) := by
  obtain ⟨a, len, cap, rfl⟩ := okWide_slice hs hval
  obtain ⟨fuel, hf⟩ := h
  rcases DataW.trod_slice hs hf with ⟨h1, _⟩ | ⟨a', len', cap', elems, rest, n, rfl, h1, hx, _, hlc, _, hel, he, hr, _⟩
  · left
    simpa [Value.cells] using h1
  · right
    simp [Value.cells] at h1
    obtain ⟨rfl, rfl, rfl⟩ := h1
    have hok : w.has P .any base a' ta cap := by
      simp only [Value.okWide, hs, Cell.okWide, Cell.ok] at hval
      exact hval.2.2
    obtain ⟨_, hsp, row, cells, hsh, _⟩ := hok
    obtain ⟨hrl, hr⟩ := hr rfl
    have hb : ∃ ccs el fr, w.heap[a'.block]? = some (.cells ccs el fr) := by
      unfold World.shape? at hsh
      split at hsh
      · rename_i c el fr hh; exact ⟨c, el, fr, hh⟩
      · cases hsh
    obtain ⟨ccs, el, fr, hb⟩ := hb
    have one : ∀ i, i < cap → ∃ p : Int × Int, ccs[a'.off + i * 2]? = some (.int .i64 p.1) ∧ ccs[a'.off + i * 2 + 1]? = some (.int .i64 p.2) := by
      intro i hi
      have hy : ∃ y, (w.cells? 0 (a'.add (i * 2)) 2).bind (DataW.trod enc P w 0 (fun _ => true) held n ta) = some y := by
        rw [hca] at he hr
        by_cases hil : i < len
        · have h1 := he i hil
          rw [List.getElem?_eq_getElem (by omega)] at h1
          exact ⟨_, h1⟩
        · have h1 := hr (i - len) (by omega)
          rw [show len + (i - len) = i by omega, List.getElem?_eq_getElem (by omega)] at h1
          exact ⟨_, h1⟩
      obtain ⟨y, hy⟩ := hy
      rw [Option.bind_eq_some_iff] at hy
      obtain ⟨cs', hc, hy⟩ := hy
      obtain ⟨x0, x1, rfl, hx0, hx1⟩ := cells_two hc
      obtain ⟨xs, m, _, _, _, hxl, hxs⟩ := DataW.trod_array hta hy
      rw [hci] at hxs
      have q0 := hxs 0 (by omega)
      have q1 := hxs 1 (by omega)
      rw [List.getElem?_eq_getElem (by omega)] at q0 q1
      obtain ⟨n0, e0, _, _⟩ := DataW.trod_int hti q0
      obtain ⟨n1, e1, _, _⟩ := DataW.trod_int hti q1
      simp at e0 e1
      subst e0; subst e1
      have hblk : (a'.add (i * 2)).block = a'.block := by unfold Addr.add; split <;> rfl
      have hoff : (a'.add (i * 2)).off = a'.off + i * 2 := by unfold Addr.add; split <;> simp_all
      have hblk1 : ((a'.add (i * 2)).add 1).block = a'.block := by simp [Addr.add] ; split <;> rfl
      have hoff1 : ((a'.add (i * 2)).add 1).off = a'.off + i * 2 + 1 := by simp [Addr.add]; split <;> simp_all
      refine ⟨(n0, n1), ?_, ?_⟩
      · rw [← hoff]; exact cell_at (by rw [hblk]; exact hb) hx0
      · rw [← hoff1]; exact cell_at (by rw [hblk1]; exact hb) hx1
    obtain ⟨ms, hml, hms⟩ := list_of (n := len) fun i hi => one i (by omega)
    refine ⟨a', len, cap, ms, ccs, el, fr, rfl, hlc, hml, hsp, hb, fun hc => ?_, hms⟩
    obtain ⟨p, hp, _⟩ := one 0 hc
    have := (Array.getElem?_eq_some_iff.mp hp).1
    omega
end

theorem heap1_get {cs : List Value} {b : Nat} {o : AObj} (h : (heap1 cs).tr.get b = some o) : b = 0 ∧ o = .blk cs true 0 0 := by
  cases b with
  | zero => simp only [heap1, Tr.get, Option.some.injEq] at h; exact ⟨rfl, h.symm⟩
  | succ b =>
    simp only [heap1, Tr.get] at h
    cases hb : Nat.beq (b % 2) 0 <;> rw [hb] at h <;> simp at h

theorem heap1_ok (cs : List Value) : HOk (heap1 cs) := by
  refine ⟨fun b o h => ?_, fun b c ro o s h => ?_⟩
  · rw [(heap1_get h).1]; exact Nat.zero_lt_one
  · have := (heap1_get h).2; cases this; exact Nat.le_refl _

theorem heap1_ro (cs : List Value) : ∀ b, ¬ writable (heap1 cs) b := by
  rintro b ⟨o, ho, hr⟩
  rw [(heap1_get ho).2] at hr; cases hr

def heap0 : Heap := ⟨0, 0, .nil⟩
theorem heap0_ok : HOk heap0 := ⟨fun b o h => by simp [heap0, Tr.get] at h, fun b c ro o s h => by simp [heap0, Tr.get] at h⟩

/-- A law on a slice of pairs and a number: what the walk brings to 'true', every true call brings to 'true'. -/
theorem pairs_law {f : Nat} (Hf : ∀ (h : Heap) (v : Value) (ms : List (Int × Int)) (s : Int), HOk h → SliceOf encP h v ms → Does FF f [v, .int .i64 s] h (fun r h' => r = .bool true ∧ Grows Nob h h'))
    {ts ta ti : TypeId} {H : Type} {enc : TypeId × Value → H} {v : Value} {d : DataW H} {ps : List MemPlace} {base : Nat} {W : World} {s : Int} (hs : Try.prog.underlying ts = some (.slice ta)) (hta : Try.prog.underlying ta = some (.array 2 ti)) (hti : Try.prog.underlying ti = some (.int .i64))
    (hca : Try.prog.cellsOf ta = 2) (hci : Try.prog.cellsOf ti = 1) (hval : Value.okWide Try.prog W .any base ts v) (h : DataW.Trod enc Try.prog W 0 (fun _ => true) true ts v d ps) :
    Calls Try.prog f ⟨[v, .int .i64 s]⟩ W (fun e W' => e = .returned (.bool true) ∧ Kept W W') := by
  rcases open_pairs hs hta hti hca hci hval h with rfl | ⟨a, len, cap, ms, ccs, el, fr, rfl, hlc, hml, hsp, hb, hin, hms⟩
  · refine law_read (funcsOf_ok funcAt_ok) (tabOf_ok _) (h := heap0) (args := [.slice none 0 0, .int .i64 s]) ((Hf heap0 _ [] s heap0_ok (.nil _ _ _)).mono fun _ _ h => h.1) (ρ := fun _ => none) (W := W) ?_ ?_ ?_ ?_
    · exact ⟨fun b r h => by simp at h, fun b r o h => by simp at h, fun b b' r r' o h => by simp at h, fun b o h => by simp [heap0, Tr.get] at h⟩
    · intro g hg; omega
    · exact .cons (CR.nilslice _ _).vr (.cons (VR.int _ _) .nil)
    · rintro b ⟨o, ho, _⟩; simp [heap0, Tr.get] at ho
  · subst hml
    have hab : a = ⟨a.block, a.off, none⟩ := by cases a; simp at hsp; simp [hsp]
    have hsl : SliceOf encP (heap1 (encP.flat ms)) (.slice (some ⟨0, 0, none⟩) ms.length cap) ms := ⟨_, _, rfl, .inr ⟨0, 0, encP.flat ms, true, 0, 0, rfl, rfl, by simp, by simp [List.take_of_length_le]⟩⟩
    have hcell : ∀ (j : Nat) (c : Value), (encP.flat ms)[j]? = some c → ccs[a.off + j]? = some c ∧ constCell c = true := by
      intro j c hc
      have hj := (List.getElem?_eq_some_iff.mp hc).1
      rw [Enc.length_flat] at hj
      simp at hj
      have hi : j / 2 < ms.length := by omega
      have hx : ms[j / 2]? = some ms[j / 2] := List.getElem?_eq_getElem hi
      obtain ⟨h0, h1⟩ := hms _ _ hx
      have hp := Enc.part_flat encP ms (j / 2) 0 2 _ hx (by simp)
      have hd : ((encP.flat ms).drop (j / 2 * 2))[j % 2]? = some c := by
        rw [List.getElem?_drop, show j / 2 * 2 + j % 2 = j by omega]; exact hc
      have ht : (((encP.flat ms).drop (j / 2 * 2)).take 2)[j % 2]? = some c := by
        rw [List.getElem?_take, if_pos (by omega)]; exact hd
      simp at hp
      rw [hp] at ht
      rcases (show j % 2 = 0 ∨ j % 2 = 1 by omega) with hm | hm
      · rw [hm] at ht
        simp at ht
        subst ht
        exact ⟨by rw [← h0]; congr 1; omega, rfl⟩
      · rw [hm] at ht
        simp at ht
        subst ht
        exact ⟨by rw [← h1]; congr 1; omega, rfl⟩
    by_cases hc0 : cap = 0
    · subst hc0
      have hm0 : ms = [] := List.eq_nil_of_length_eq_zero (by omega)
      subst hm0
      refine law_read (funcsOf_ok funcAt_ok) (tabOf_ok _) (h := heap1 []) ((Hf _ _ [] s (heap1_ok _) hsl).mono fun _ _ h => h.1) (ρ := fun b => if b = 0 then some ⟨a.block, 0, 0, 0, ccs.size⟩ else none) (W := W) ?_ ?_ ?_ (heap1_ro _)
      · refine ⟨fun b r h => ?_, fun b r o h ho => ?_, fun b b' r r' o _ _ hw => absurd hw (heap1_ro _ b), fun b o h => by rw [(heap1_get h).1]; exact Nat.zero_lt_one⟩
        · by_cases e : b = 0
          · simp [e] at h; subst h; subst e
            exact ⟨Nat.zero_lt_one, (Array.getElem?_eq_some_iff.mp hb).1⟩
          · simp [e] at h
        · obtain ⟨rfl, rfl⟩ := heap1_get ho
          simp at h; subst h
          exact ⟨ccs, el, fr, hb, rfl, rfl, by simp, (fun h => by cases h), fun j v hv => by simp at hv⟩
      · intro g hg; omega
      · exact .cons (CR.slice (r := ⟨a.block, 0, 0, 0, ccs.size⟩) (by simp) ⟨.inr ⟨rfl, rfl⟩, .inl rfl, Nat.le_refl _⟩).vr (.cons (VR.int _ _) .nil)
    · have hoff := hin (by omega)
      refine law_read (funcsOf_ok funcAt_ok) (tabOf_ok _) (h := heap1 (encP.flat ms)) ((Hf _ _ ms s (heap1_ok _) hsl).mono fun _ _ h => h.1) (ρ := fun b => if b = 0 then some ⟨a.block, a.off, (encP.flat ms).length, 0, ccs.size - a.off⟩ else none) (W := W) ?_ ?_ ?_ (heap1_ro _)
      · refine ⟨fun b r h => ?_, fun b r o h ho => ?_, fun b b' r r' o _ _ hw => absurd hw (heap1_ro _ b), fun b o h => by rw [(heap1_get h).1]; exact Nat.zero_lt_one⟩
        · by_cases e : b = 0
          · simp [e] at h; subst h; subst e
            exact ⟨Nat.zero_lt_one, (Array.getElem?_eq_some_iff.mp hb).1⟩
          · simp [e] at h
        · obtain ⟨rfl, rfl⟩ := heap1_get ho
          simp at h; subst h
          exact ⟨ccs, el, fr, hb, by simp, rfl, by dsimp only; omega, (fun h => by cases h), fun j c hc => ⟨c, (hcell j c hc).1, .cell (constCell_rel (hcell j c hc).2)⟩⟩
      · intro g hg; omega
      · exact .cons (CR.slice (r := ⟨a.block, a.off, (encP.flat ms).length, 0, ccs.size - a.off⟩) (by simp) ⟨.inl hab, .inl rfl, hlc⟩).vr (.cons (VR.int _ _) .nil)
end Go.Proofs.Ytkhnhflbgkndjaa
