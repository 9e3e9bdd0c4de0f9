import Derived.Test.YtkhnhflbgkndjaaCode
import Derived.Test.YtkhnhflbgkndjaaAiSimp
namespace Go.Proofs.Ytkhnhflbgkndjaa
open Go.AI

/-- A move, as its cells lie. -/
structure Mv where
  to : Int
  reg : Bool
  n : Int
  deriving DecidableEq

def encMv : Enc Mv := ⟨fun m => [.int .i64 m.to, .bool m.reg, .int .i64 m.n], 3, fun _ => rfl, by decide, fun _ => rfl⟩
@[simp] theorem encMv_sz : encMv.sz = 3 := rfl
@[simp] theorem encMv_enc (m : Mv) : encMv.enc m = [.int .i64 m.to, .bool m.reg, .int .i64 m.n] := rfl

theorem wrap_i64 (n : Int) (h : -9223372036854775808 ≤ n) (h' : n < 9223372036854775808) : IntKind.i64.wrap n = n := by
  simp only [IntKind.wrap, IntKind.signed, IntKind.bits]
  simp
  omega

/-- what a function over moves is to do -/
def Tells (h : Heap) (fv : Value) (p : Mv → Bool) (xs : List Mv) : Prop :=
  ∀ h1, Grows Nob h h1 → ∀ x ∈ xs, DoesV FF fv [.agg ⟨encMv.enc x⟩] h1 (fun v h2 => v = .bool (p x) ∧ Grows Nob h1 h2)

theorem index_does {h : Heap} (ok : HOk h) {v fv : Value} {xs : List Mv} {p : Mv → Bool} (hs : SliceOf encMv h v xs) (hn : xs.length < 1000000) (hf : Tells h fv p xs) :
    Does FF 15 [v, fv] h (fun r h' => r = .int .i64 (match xs.findIdx? p with | some i => (i : Int) | none => -1) ∧ Grows Nob h h') := by
  obtain ⟨a, cap, rfl, hs'⟩ := id hs
  refine Does.of code15 ?_
  unfold body15
  simp
  refine Runs.loop (fun n e h1 => ∃ i, i ≤ xs.length ∧ n = xs.length - i ∧ Env.get e 8 = .int .i64 (i : Nat) ∧ Env.get e 7 = .int .i64 xs.length ∧ Env.get e 0 = .slice a xs.length cap ∧ Env.get e 1 = fv ∧
    (∀ j x, j < i → xs[j]? = some x → p x = false) ∧ Grows Nob h h1) ?_ (n := xs.length) ⟨0, by simp, by simp, by simp, by simp, by simp, by simp, by simp, .refl ok⟩
  rintro n e h1 ⟨i, hi, rfl, e8, e7, e0, e1, hp, g⟩
  unfold round15_0
  by_cases hlt : i < xs.length
  · have hx : xs[i]? = some xs[i] := List.getElem?_eq_getElem hlt
    obtain ⟨b, off, cap', hv, _, _, hr⟩ := (hs.nob ok g).read hx
    cases hv
    have hr0 := hr 0 3 (by simp)
    simp only [encMv_sz, Nat.add_zero] at hr0
    simp [e8, e7, e0, e1, hlt, hr0, -readAt_def]
    refine OpsR.callV (V := fun v h2 => v = .bool (p xs[i]) ∧ Grows Nob h1 h2) (by simpa using hf h1 g _ (List.getElem_mem hlt)) ?_
    rintro _ h2 ⟨rfl, g2⟩
    cases hpx : p xs[i] with
    | true =>
      simp
      refine ⟨?_, g.trans g2⟩
      have : xs.findIdx? p = some i := by
        rw [List.findIdx?_eq_some_iff_getElem]
        refine ⟨hlt, hpx, fun j hj => by simpa using hp j _ hj (List.getElem?_eq_getElem (by omega))⟩
      rw [this]
    | false =>
      have hw := wrap_i64 (i + 1) (by omega) (by omega)
      simp [e8, e7, e0, e1, hw]
      refine ⟨xs.length - (i + 1), by omega, i + 1, by omega, rfl, by simp, fun j x hj hx' => ?_, g.trans g2⟩
      by_cases hji : j = i
      · subst hji; rw [hx] at hx'; cases hx'; exact hpx
      · exact hp j x (by omega) hx'
  · have : i = xs.length := by omega
    subst this
    simp [e8, e7, e0, e1]
    refine ⟨?_, g⟩
    have : xs.findIdx? p = none := by
      rw [List.findIdx?_eq_none_iff]
      intro x hx
      obtain ⟨j, hj, rfl⟩ := List.mem_iff_getElem.mp hx
      exact hp j _ hj (List.getElem?_eq_getElem hj)
    rw [this]
end Go.Proofs.Ytkhnhflbgkndjaa
