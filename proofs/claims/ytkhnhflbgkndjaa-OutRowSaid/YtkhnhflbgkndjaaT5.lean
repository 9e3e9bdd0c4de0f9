import Derived.Test.YtkhnhflbgkndjaaT4
namespace Go.Proofs.Ytkhnhflbgkndjaa
open Go.AI

theorem needed_does {h : Heap} (ok : HOk h) {m : Mv} {l : List Mv} {v : Value} {B : Nat} {ro : Bool} {o s : Nat} (hb : h.tr.get B = some (.blk [v] ro o s)) (hs : SliceOf encMv h v l) (hn : l.length < 1000000) :
    Does FF 19 [.agg ⟨encMv.enc m⟩, .pointer (some ⟨B, 0, none⟩)] h (fun r h' => r = .bool (asks l m.to) ∧ Grows Nob h h') := by
  have hlt := ok.wf _ _ hb
  have hne : ¬ B = h.next := by omega
  refine Does.of code19 ?_
  unfold body19
  simp [hb, hne]
  have g := grow_newBlk ok [.int .i64 m.to, .bool m.reg, .int .i64 m.n] 0
  have hm := get_newBlk h [.int .i64 m.to, .bool m.reg, .int .i64 m.n] 0
  generalize newBlk h [.int .i64 m.to, .bool m.reg, .int .i64 m.n] 0 = h1 at *
  refine OpsR.call (V := fun r h' => r = .bool (asks l m.to) ∧ Grows Nob h1 h') ?_ ?_
  · have := contains_does (p := needs m.to) g.ok (hs.nob ok g) hn (fv := .func (.func 20) #[] #[.pointer (some ⟨h.next, 0, none⟩)]) (fun h2 g2 x _ => by
      rw [doesV_func]
      have hm2 := g2.get g.ok hm (fun h => h)
      simpa using needs_does g2.ok (x := x) (m := m) hm2)
    simpa [asks] using this
  · rintro _ h2 ⟨rfl, g2⟩
    simp
    exact g.trans g2

theorem unneeded_does {h : Heap} (ok : HOk h) {m : Mv} {l : List Mv} {v : Value} {B T : Nat} {ro ro' : Bool} {o s o' s' : Nat} (hb : h.tr.get B = some (.blk [v] ro o s))
    (ht : h.tr.get T = some (.blk [.func (.func 19) #[] #[.pointer (some ⟨B, 0, none⟩)]] ro' o' s')) (hs : SliceOf encMv h v l) (hn : l.length < 1000000) :
    Does FF 21 [.agg ⟨encMv.enc m⟩, .pointer (some ⟨T, 0, none⟩)] h (fun r h' => r = .bool (!asks l m.to) ∧ Grows Nob h h') := by
  have hne : ¬ T = h.next := by have := ok.wf _ _ ht; omega
  refine Does.of code21 ?_
  unfold body21
  simp [ht, hne]
  have g := grow_newBlk ok [.int .i64 m.to, .bool m.reg, .int .i64 m.n] 0
  have hb1 := g.get ok hb (fun h => h)
  generalize newBlk h [.int .i64 m.to, .bool m.reg, .int .i64 m.n] 0 = h1 at *
  refine OpsR.callV (V := fun r h' => r = .bool (asks l m.to) ∧ Grows Nob h1 h') ?_ ?_
  · simp
    rw [doesV_func]
    simpa using needed_does g.ok (m := m) hb1 (hs.nob ok g) hn
  · rintro _ h2 ⟨rfl, g2⟩
    simp
    exact g.trans g2

theorem deleteFunc_nil {h : Heap} (ok : HOk h) {v fv : Value} (hs : SliceOf encMv h v []) : Does FF 16 [v, fv] h (fun r h' => r = v ∧ Grows Nob h h') := by
  refine Does.of code16 ?_
  unfold body16
  simp
  refine OpsR.call (by simpa using index_does (p := fun _ => true) ok hs (by decide) (fun h1 g x hx => by simp at hx)) ?_
  rintro _ h1 ⟨rfl, g1⟩
  simp
  exact g1

/-! the plain row of moves -/
def firstFree (l : List Mv) : Option Nat := l.findIdx? (fun m => !asks l m.to)
def swapIn (s r : Int) (m : Mv) : Mv := if needs r m then ⟨m.to, true, s⟩ else m
def headTo (l : List Mv) : Int := (l.headD zero).to
def rowStep (s : Int) (l out : List Mv) : List Mv × List Mv :=
  match firstFree l with
  | some i => (l.eraseIdx i, out ++ [l.getD i zero])
  | none => (l.map (swapIn s (headTo l)), out ++ [⟨s, true, headTo l⟩])
def rowN (s : Int) : Nat → List Mv → List Mv → List Mv
  | 0, _, out => out
  | k + 1, l, out => if l = [] then out else rowN s k (rowStep s l out).1 (rowStep s l out).2
def mu (l : List Mv) : Nat := 2 * l.length + (match firstFree l with | some _ => 0 | none => 1)
def rowM (s : Int) (l : List Mv) : List Mv := rowN s (2 * l.length + 1) l []

theorem mu_le (l : List Mv) : mu l ≤ 2 * l.length + 1 := by unfold mu; split <;> omega

theorem rowStep_to {s : Int} {l out : List Mv} (ht : ∀ m ∈ l, m.to ≠ s) : ∀ m ∈ (rowStep s l out).1, m.to ≠ s := by
  unfold rowStep
  split
  · intro m hm; exact ht m (List.mem_of_mem_eraseIdx hm)
  · intro m hm
    obtain ⟨x, hx, rfl⟩ := List.mem_map.mp hm
    unfold swapIn
    split
    · exact ht x hx
    · exact ht x hx

theorem mu_step {s : Int} {l out : List Mv} (hl : l ≠ []) (ht : ∀ m ∈ l, m.to ≠ s) : mu (rowStep s l out).1 < mu l := by
  unfold rowStep
  split
  · rename_i i hi
    have hlt : i < l.length := by
      unfold firstFree at hi
      rw [List.findIdx?_eq_some_iff_getElem] at hi
      exact hi.1
    have h1 : (l.eraseIdx i).length = l.length - 1 := List.length_eraseIdx_of_lt hlt
    have h2 := mu_le (l.eraseIdx i)
    have h3 : mu l = 2 * l.length := by unfold mu; rw [hi]; simp
    dsimp only
    omega
  · rename_i hn
    have h3 : mu l = 2 * l.length + 1 := by unfold mu; rw [hn]
    have hf : ∃ i, firstFree (l.map (swapIn s (headTo l))) = some i := by
      cases h : firstFree (l.map (swapIn s (headTo l))) with
      | some i => exact ⟨i, rfl⟩
      | none =>
        exfalso
        unfold firstFree at h
        rw [List.findIdx?_eq_none_iff] at h
        cases l with
        | nil => exact hl rfl
        | cons x l =>
          have := h (swapIn s (headTo (x :: l)) x) (List.mem_map.mpr ⟨x, List.mem_cons_self .., rfl⟩)
          simp only [Bool.not_eq_false', asks] at this
          rw [List.any_eq_true] at this
          obtain ⟨y, hy, hn⟩ := this
          obtain ⟨z, hz, rfl⟩ := List.mem_map.mp hy
          have hto : (swapIn s (headTo (x :: l)) x).to = x.to := by unfold swapIn; split <;> rfl
          have hhd : headTo (x :: l) = x.to := rfl
          rw [hto, hhd] at hn
          unfold swapIn at hn
          split at hn
          · have := ht x (List.mem_cons_self ..)
            simp [needs] at hn
            exact this hn.symm
          · rename_i hc; exact hc hn
    obtain ⟨i, hi⟩ := hf
    have : mu (l.map (swapIn s (headTo l))) = 2 * l.length := by unfold mu; rw [hi]; simp
    dsimp only
    omega
end Go.Proofs.Ytkhnhflbgkndjaa
