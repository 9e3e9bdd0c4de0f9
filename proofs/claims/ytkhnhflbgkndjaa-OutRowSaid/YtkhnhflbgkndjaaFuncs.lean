/- The functions of the program, one by one, for the abstract interpreter: what stands at a number in this list stands at that number in the program. -/
import Derived.Test.YtkhnhflbgkndjaaProg
import Derived.Test.YtkhnhflbgkndjaaAiTop
namespace Go.Proofs.Ytkhnhflbgkndjaa
open Go.AI

noncomputable def funcAt (f : Nat) : Option Func :=
  bif Nat.beq f 0 then some Try.f0 else
  bif Nat.beq f 1 then some Try.f1 else
  bif Nat.beq f 2 then some Try.f2 else
  bif Nat.beq f 3 then some Try.f3 else
  bif Nat.beq f 4 then some Try.f4 else
  bif Nat.beq f 5 then some Try.f5 else
  bif Nat.beq f 6 then some Try.f6 else
  bif Nat.beq f 7 then some Try.f7 else
  bif Nat.beq f 8 then some Try.f8 else
  bif Nat.beq f 9 then some Try.f9 else
  bif Nat.beq f 10 then some Try.f10 else
  bif Nat.beq f 11 then some Try.f11 else
  bif Nat.beq f 12 then some Try.f12 else
  bif Nat.beq f 13 then some Try.f13 else
  bif Nat.beq f 14 then some Try.f14 else
  bif Nat.beq f 15 then some Try.f15 else
  bif Nat.beq f 16 then some Try.f16 else
  bif Nat.beq f 17 then some Try.f17 else
  bif Nat.beq f 18 then some Try.f18 else
  bif Nat.beq f 19 then some Try.f19 else
  bif Nat.beq f 20 then some Try.f20 else
  bif Nat.beq f 21 then some Try.f21 else
  bif Nat.beq f 22 then some Try.f22 else
  bif Nat.beq f 23 then some Try.f23 else
  bif Nat.beq f 24 then some Try.f24 else
  bif Nat.beq f 25 then some Try.f25 else
  bif Nat.beq f 26 then some Try.f26 else
  bif Nat.beq f 27 then some Try.f27 else
  bif Nat.beq f 28 then some Try.f28 else
  bif Nat.beq f 29 then some Try.f29 else
  bif Nat.beq f 30 then some Try.f30 else
  bif Nat.beq f 31 then some Try.f31 else
  bif Nat.beq f 32 then some Try.f32 else
  bif Nat.beq f 33 then some Try.f33 else
  bif Nat.beq f 34 then some Try.f34 else
  bif Nat.beq f 35 then some Try.f35 else
  bif Nat.beq f 36 then some Try.f36 else
  bif Nat.beq f 37 then some Try.f37 else
  bif Nat.beq f 38 then some Try.f38 else
  none

theorem funcAt_ok : ∀ f fn, funcAt f = some fn → Try.prog.funcs[f]? = some fn := by
  intro f fn h
  unfold funcAt at h
  rcases pick_ok h Try.func0 with h | h
  · exact h
  rcases pick_ok h Try.func1 with h | h
  · exact h
  rcases pick_ok h Try.func2 with h | h
  · exact h
  rcases pick_ok h Try.func3 with h | h
  · exact h
  rcases pick_ok h Try.func4 with h | h
  · exact h
  rcases pick_ok h Try.func5 with h | h
  · exact h
  rcases pick_ok h Try.func6 with h | h
  · exact h
  rcases pick_ok h Try.func7 with h | h
  · exact h
  rcases pick_ok h Try.func8 with h | h
  · exact h
  rcases pick_ok h Try.func9 with h | h
  · exact h
  rcases pick_ok h Try.func10 with h | h
  · exact h
  rcases pick_ok h Try.func11 with h | h
  · exact h
  rcases pick_ok h Try.func12 with h | h
  · exact h
  rcases pick_ok h Try.func13 with h | h
  · exact h
  rcases pick_ok h Try.func14 with h | h
  · exact h
  rcases pick_ok h Try.func15 with h | h
  · exact h
  rcases pick_ok h Try.func16 with h | h
  · exact h
  rcases pick_ok h Try.func17 with h | h
  · exact h
  rcases pick_ok h Try.func18 with h | h
  · exact h
  rcases pick_ok h Try.func19 with h | h
  · exact h
  rcases pick_ok h Try.func20 with h | h
  · exact h
  rcases pick_ok h Try.func21 with h | h
  · exact h
  rcases pick_ok h Try.func22 with h | h
  · exact h
  rcases pick_ok h Try.func23 with h | h
  · exact h
  rcases pick_ok h Try.func24 with h | h
  · exact h
  rcases pick_ok h Try.func25 with h | h
  · exact h
  rcases pick_ok h Try.func26 with h | h
  · exact h
  rcases pick_ok h Try.func27 with h | h
  · exact h
  rcases pick_ok h Try.func28 with h | h
  · exact h
  rcases pick_ok h Try.func29 with h | h
  · exact h
  rcases pick_ok h Try.func30 with h | h
  · exact h
  rcases pick_ok h Try.func31 with h | h
  · exact h
  rcases pick_ok h Try.func32 with h | h
  · exact h
  rcases pick_ok h Try.func33 with h | h
  · exact h
  rcases pick_ok h Try.func34 with h | h
  · exact h
  rcases pick_ok h Try.func35 with h | h
  · exact h
  rcases pick_ok h Try.func36 with h | h
  · exact h
  rcases pick_ok h Try.func37 with h | h
  · exact h
  rcases pick_ok h Try.func38 with h | h
  · exact h
  cases h
end Go.Proofs.Ytkhnhflbgkndjaa
