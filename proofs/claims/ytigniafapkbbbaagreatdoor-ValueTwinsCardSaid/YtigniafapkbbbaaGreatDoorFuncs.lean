/- The functions of the program, one by one, for the abstract interpreter: what stands at a number in this list stands at that number in the program. -/
import Derived.Test.YtigniafapkbbbaaGreatDoorProg
import Derived.Test.YtigniafapkbbbaaGreatDoorAiTop
namespace Go.Proofs.YtigniafapkbbbaaGreatDoor
open Go.AI

noncomputable def funcAt (f : Nat) : Option Func :=
  bif Nat.beq f 0 then some Tryz.f0 else
  bif Nat.beq f 1 then some Tryz.f1 else
  bif Nat.beq f 2 then some Tryz.f2 else
  bif Nat.beq f 3 then some Tryz.f3 else
  bif Nat.beq f 4 then some Tryz.f4 else
  bif Nat.beq f 5 then some Tryz.f5 else
  bif Nat.beq f 6 then some Tryz.f6 else
  bif Nat.beq f 7 then some Tryz.f7 else
  bif Nat.beq f 8 then some Tryz.f8 else
  bif Nat.beq f 9 then some Tryz.f9 else
  bif Nat.beq f 10 then some Tryz.f10 else
  bif Nat.beq f 11 then some Tryz.f11 else
  bif Nat.beq f 12 then some Tryz.f12 else
  bif Nat.beq f 13 then some Tryz.f13 else
  bif Nat.beq f 14 then some Tryz.f14 else
  bif Nat.beq f 15 then some Tryz.f15 else
  bif Nat.beq f 16 then some Tryz.f16 else
  bif Nat.beq f 17 then some Tryz.f17 else
  bif Nat.beq f 18 then some Tryz.f18 else
  bif Nat.beq f 19 then some Tryz.f19 else
  bif Nat.beq f 20 then some Tryz.f20 else
  bif Nat.beq f 21 then some Tryz.f21 else
  bif Nat.beq f 22 then some Tryz.f22 else
  bif Nat.beq f 23 then some Tryz.f23 else
  bif Nat.beq f 24 then some Tryz.f24 else
  bif Nat.beq f 25 then some Tryz.f25 else
  bif Nat.beq f 26 then some Tryz.f26 else
  bif Nat.beq f 27 then some Tryz.f27 else
  bif Nat.beq f 28 then some Tryz.f28 else
  bif Nat.beq f 29 then some Tryz.f29 else
  bif Nat.beq f 30 then some Tryz.f30 else
  bif Nat.beq f 31 then some Tryz.f31 else
  bif Nat.beq f 32 then some Tryz.f32 else
  bif Nat.beq f 33 then some Tryz.f33 else
  bif Nat.beq f 34 then some Tryz.f34 else
  bif Nat.beq f 35 then some Tryz.f35 else
  bif Nat.beq f 36 then some Tryz.f36 else
  bif Nat.beq f 37 then some Tryz.f37 else
  bif Nat.beq f 38 then some Tryz.f38 else
  bif Nat.beq f 39 then some Tryz.f39 else
  bif Nat.beq f 40 then some Tryz.f40 else
  bif Nat.beq f 41 then some Tryz.f41 else
  bif Nat.beq f 42 then some Tryz.f42 else
  bif Nat.beq f 43 then some Tryz.f43 else
  bif Nat.beq f 44 then some Tryz.f44 else
  bif Nat.beq f 45 then some Tryz.f45 else
  bif Nat.beq f 46 then some Tryz.f46 else
  bif Nat.beq f 47 then some Tryz.f47 else
  bif Nat.beq f 48 then some Tryz.f48 else
  bif Nat.beq f 49 then some Tryz.f49 else
  bif Nat.beq f 50 then some Tryz.f50 else
  bif Nat.beq f 51 then some Tryz.f51 else
  bif Nat.beq f 52 then some Tryz.f52 else
  bif Nat.beq f 53 then some Tryz.f53 else
  bif Nat.beq f 54 then some Tryz.f54 else
  bif Nat.beq f 55 then some Tryz.f55 else
  bif Nat.beq f 56 then some Tryz.f56 else
  bif Nat.beq f 57 then some Tryz.f57 else
  bif Nat.beq f 58 then some Tryz.f58 else
  bif Nat.beq f 59 then some Tryz.f59 else
  bif Nat.beq f 60 then some Tryz.f60 else
  bif Nat.beq f 61 then some Tryz.f61 else
  bif Nat.beq f 62 then some Tryz.f62 else
  bif Nat.beq f 63 then some Tryz.f63 else
  bif Nat.beq f 64 then some Tryz.f64 else
  bif Nat.beq f 65 then some Tryz.f65 else
  bif Nat.beq f 66 then some Tryz.f66 else
  bif Nat.beq f 67 then some Tryz.f67 else
  bif Nat.beq f 68 then some Tryz.f68 else
  bif Nat.beq f 69 then some Tryz.f69 else
  bif Nat.beq f 70 then some Tryz.f70 else
  bif Nat.beq f 71 then some Tryz.f71 else
  bif Nat.beq f 72 then some Tryz.f72 else
  bif Nat.beq f 73 then some Tryz.f73 else
  bif Nat.beq f 74 then some Tryz.f74 else
  bif Nat.beq f 75 then some Tryz.f75 else
  bif Nat.beq f 76 then some Tryz.f76 else
  bif Nat.beq f 77 then some Tryz.f77 else
  bif Nat.beq f 78 then some Tryz.f78 else
  bif Nat.beq f 79 then some Tryz.f79 else
  bif Nat.beq f 80 then some Tryz.f80 else
  bif Nat.beq f 81 then some Tryz.f81 else
  bif Nat.beq f 82 then some Tryz.f82 else
  bif Nat.beq f 83 then some Tryz.f83 else
  bif Nat.beq f 84 then some Tryz.f84 else
  bif Nat.beq f 85 then some Tryz.f85 else
  bif Nat.beq f 86 then some Tryz.f86 else
  bif Nat.beq f 87 then some Tryz.f87 else
  bif Nat.beq f 88 then some Tryz.f88 else
  bif Nat.beq f 89 then some Tryz.f89 else
  bif Nat.beq f 90 then some Tryz.f90 else
  bif Nat.beq f 91 then some Tryz.f91 else
  bif Nat.beq f 92 then some Tryz.f92 else
  bif Nat.beq f 93 then some Tryz.f93 else
  bif Nat.beq f 94 then some Tryz.f94 else
  bif Nat.beq f 95 then some Tryz.f95 else
  bif Nat.beq f 96 then some Tryz.f96 else
  bif Nat.beq f 97 then some Tryz.f97 else
  bif Nat.beq f 98 then some Tryz.f98 else
  bif Nat.beq f 99 then some Tryz.f99 else
  bif Nat.beq f 100 then some Tryz.f100 else
  bif Nat.beq f 101 then some Tryz.f101 else
  bif Nat.beq f 102 then some Tryz.f102 else
  bif Nat.beq f 103 then some Tryz.f103 else
  bif Nat.beq f 104 then some Tryz.f104 else
  bif Nat.beq f 105 then some Tryz.f105 else
  bif Nat.beq f 106 then some Tryz.f106 else
  bif Nat.beq f 107 then some Tryz.f107 else
  bif Nat.beq f 108 then some Tryz.f108 else
  bif Nat.beq f 109 then some Tryz.f109 else
  bif Nat.beq f 110 then some Tryz.f110 else
  bif Nat.beq f 111 then some Tryz.f111 else
  bif Nat.beq f 112 then some Tryz.f112 else
  bif Nat.beq f 113 then some Tryz.f113 else
  bif Nat.beq f 114 then some Tryz.f114 else
  bif Nat.beq f 115 then some Tryz.f115 else
  bif Nat.beq f 116 then some Tryz.f116 else
  bif Nat.beq f 117 then some Tryz.f117 else
  bif Nat.beq f 118 then some Tryz.f118 else
  bif Nat.beq f 119 then some Tryz.f119 else
  bif Nat.beq f 120 then some Tryz.f120 else
  bif Nat.beq f 121 then some Tryz.f121 else
  bif Nat.beq f 122 then some Tryz.f122 else
  bif Nat.beq f 123 then some Tryz.f123 else
  bif Nat.beq f 124 then some Tryz.f124 else
  bif Nat.beq f 125 then some Tryz.f125 else
  bif Nat.beq f 126 then some Tryz.f126 else
  bif Nat.beq f 127 then some Tryz.f127 else
  bif Nat.beq f 128 then some Tryz.f128 else
  bif Nat.beq f 129 then some Tryz.f129 else
  bif Nat.beq f 130 then some Tryz.f130 else
  bif Nat.beq f 131 then some Tryz.f131 else
  bif Nat.beq f 132 then some Tryz.f132 else
  bif Nat.beq f 133 then some Tryz.f133 else
  bif Nat.beq f 134 then some Tryz.f134 else
  bif Nat.beq f 135 then some Tryz.f135 else
  bif Nat.beq f 136 then some Tryz.f136 else
  none

theorem funcAt_ok : ∀ f fn, funcAt f = some fn → Tryz.prog.funcs[f]? = some fn := by
  intro f fn h
  unfold funcAt at h
  rcases pick_ok h Tryz.func0 with h | h
  · exact h
  rcases pick_ok h Tryz.func1 with h | h
  · exact h
  rcases pick_ok h Tryz.func2 with h | h
  · exact h
  rcases pick_ok h Tryz.func3 with h | h
  · exact h
  rcases pick_ok h Tryz.func4 with h | h
  · exact h
  rcases pick_ok h Tryz.func5 with h | h
  · exact h
  rcases pick_ok h Tryz.func6 with h | h
  · exact h
  rcases pick_ok h Tryz.func7 with h | h
  · exact h
  rcases pick_ok h Tryz.func8 with h | h
  · exact h
  rcases pick_ok h Tryz.func9 with h | h
  · exact h
  rcases pick_ok h Tryz.func10 with h | h
  · exact h
  rcases pick_ok h Tryz.func11 with h | h
  · exact h
  rcases pick_ok h Tryz.func12 with h | h
  · exact h
  rcases pick_ok h Tryz.func13 with h | h
  · exact h
  rcases pick_ok h Tryz.func14 with h | h
  · exact h
  rcases pick_ok h Tryz.func15 with h | h
  · exact h
  rcases pick_ok h Tryz.func16 with h | h
  · exact h
  rcases pick_ok h Tryz.func17 with h | h
  · exact h
  rcases pick_ok h Tryz.func18 with h | h
  · exact h
  rcases pick_ok h Tryz.func19 with h | h
  · exact h
  rcases pick_ok h Tryz.func20 with h | h
  · exact h
  rcases pick_ok h Tryz.func21 with h | h
  · exact h
  rcases pick_ok h Tryz.func22 with h | h
  · exact h
  rcases pick_ok h Tryz.func23 with h | h
  · exact h
  rcases pick_ok h Tryz.func24 with h | h
  · exact h
  rcases pick_ok h Tryz.func25 with h | h
  · exact h
  rcases pick_ok h Tryz.func26 with h | h
  · exact h
  rcases pick_ok h Tryz.func27 with h | h
  · exact h
  rcases pick_ok h Tryz.func28 with h | h
  · exact h
  rcases pick_ok h Tryz.func29 with h | h
  · exact h
  rcases pick_ok h Tryz.func30 with h | h
  · exact h
  rcases pick_ok h Tryz.func31 with h | h
  · exact h
  rcases pick_ok h Tryz.func32 with h | h
  · exact h
  rcases pick_ok h Tryz.func33 with h | h
  · exact h
  rcases pick_ok h Tryz.func34 with h | h
  · exact h
  rcases pick_ok h Tryz.func35 with h | h
  · exact h
  rcases pick_ok h Tryz.func36 with h | h
  · exact h
  rcases pick_ok h Tryz.func37 with h | h
  · exact h
  rcases pick_ok h Tryz.func38 with h | h
  · exact h
  rcases pick_ok h Tryz.func39 with h | h
  · exact h
  rcases pick_ok h Tryz.func40 with h | h
  · exact h
  rcases pick_ok h Tryz.func41 with h | h
  · exact h
  rcases pick_ok h Tryz.func42 with h | h
  · exact h
  rcases pick_ok h Tryz.func43 with h | h
  · exact h
  rcases pick_ok h Tryz.func44 with h | h
  · exact h
  rcases pick_ok h Tryz.func45 with h | h
  · exact h
  rcases pick_ok h Tryz.func46 with h | h
  · exact h
  rcases pick_ok h Tryz.func47 with h | h
  · exact h
  rcases pick_ok h Tryz.func48 with h | h
  · exact h
  rcases pick_ok h Tryz.func49 with h | h
  · exact h
  rcases pick_ok h Tryz.func50 with h | h
  · exact h
  rcases pick_ok h Tryz.func51 with h | h
  · exact h
  rcases pick_ok h Tryz.func52 with h | h
  · exact h
  rcases pick_ok h Tryz.func53 with h | h
  · exact h
  rcases pick_ok h Tryz.func54 with h | h
  · exact h
  rcases pick_ok h Tryz.func55 with h | h
  · exact h
  rcases pick_ok h Tryz.func56 with h | h
  · exact h
  rcases pick_ok h Tryz.func57 with h | h
  · exact h
  rcases pick_ok h Tryz.func58 with h | h
  · exact h
  rcases pick_ok h Tryz.func59 with h | h
  · exact h
  rcases pick_ok h Tryz.func60 with h | h
  · exact h
  rcases pick_ok h Tryz.func61 with h | h
  · exact h
  rcases pick_ok h Tryz.func62 with h | h
  · exact h
  rcases pick_ok h Tryz.func63 with h | h
  · exact h
  rcases pick_ok h Tryz.func64 with h | h
  · exact h
  rcases pick_ok h Tryz.func65 with h | h
  · exact h
  rcases pick_ok h Tryz.func66 with h | h
  · exact h
  rcases pick_ok h Tryz.func67 with h | h
  · exact h
  rcases pick_ok h Tryz.func68 with h | h
  · exact h
  rcases pick_ok h Tryz.func69 with h | h
  · exact h
  rcases pick_ok h Tryz.func70 with h | h
  · exact h
  rcases pick_ok h Tryz.func71 with h | h
  · exact h
  rcases pick_ok h Tryz.func72 with h | h
  · exact h
  rcases pick_ok h Tryz.func73 with h | h
  · exact h
  rcases pick_ok h Tryz.func74 with h | h
  · exact h
  rcases pick_ok h Tryz.func75 with h | h
  · exact h
  rcases pick_ok h Tryz.func76 with h | h
  · exact h
  rcases pick_ok h Tryz.func77 with h | h
  · exact h
  rcases pick_ok h Tryz.func78 with h | h
  · exact h
  rcases pick_ok h Tryz.func79 with h | h
  · exact h
  rcases pick_ok h Tryz.func80 with h | h
  · exact h
  rcases pick_ok h Tryz.func81 with h | h
  · exact h
  rcases pick_ok h Tryz.func82 with h | h
  · exact h
  rcases pick_ok h Tryz.func83 with h | h
  · exact h
  rcases pick_ok h Tryz.func84 with h | h
  · exact h
  rcases pick_ok h Tryz.func85 with h | h
  · exact h
  rcases pick_ok h Tryz.func86 with h | h
  · exact h
  rcases pick_ok h Tryz.func87 with h | h
  · exact h
  rcases pick_ok h Tryz.func88 with h | h
  · exact h
  rcases pick_ok h Tryz.func89 with h | h
  · exact h
  rcases pick_ok h Tryz.func90 with h | h
  · exact h
  rcases pick_ok h Tryz.func91 with h | h
  · exact h
  rcases pick_ok h Tryz.func92 with h | h
  · exact h
  rcases pick_ok h Tryz.func93 with h | h
  · exact h
  rcases pick_ok h Tryz.func94 with h | h
  · exact h
  rcases pick_ok h Tryz.func95 with h | h
  · exact h
  rcases pick_ok h Tryz.func96 with h | h
  · exact h
  rcases pick_ok h Tryz.func97 with h | h
  · exact h
  rcases pick_ok h Tryz.func98 with h | h
  · exact h
  rcases pick_ok h Tryz.func99 with h | h
  · exact h
  rcases pick_ok h Tryz.func100 with h | h
  · exact h
  rcases pick_ok h Tryz.func101 with h | h
  · exact h
  rcases pick_ok h Tryz.func102 with h | h
  · exact h
  rcases pick_ok h Tryz.func103 with h | h
  · exact h
  rcases pick_ok h Tryz.func104 with h | h
  · exact h
  rcases pick_ok h Tryz.func105 with h | h
  · exact h
  rcases pick_ok h Tryz.func106 with h | h
  · exact h
  rcases pick_ok h Tryz.func107 with h | h
  · exact h
  rcases pick_ok h Tryz.func108 with h | h
  · exact h
  rcases pick_ok h Tryz.func109 with h | h
  · exact h
  rcases pick_ok h Tryz.func110 with h | h
  · exact h
  rcases pick_ok h Tryz.func111 with h | h
  · exact h
  rcases pick_ok h Tryz.func112 with h | h
  · exact h
  rcases pick_ok h Tryz.func113 with h | h
  · exact h
  rcases pick_ok h Tryz.func114 with h | h
  · exact h
  rcases pick_ok h Tryz.func115 with h | h
  · exact h
  rcases pick_ok h Tryz.func116 with h | h
  · exact h
  rcases pick_ok h Tryz.func117 with h | h
  · exact h
  rcases pick_ok h Tryz.func118 with h | h
  · exact h
  rcases pick_ok h Tryz.func119 with h | h
  · exact h
  rcases pick_ok h Tryz.func120 with h | h
  · exact h
  rcases pick_ok h Tryz.func121 with h | h
  · exact h
  rcases pick_ok h Tryz.func122 with h | h
  · exact h
  rcases pick_ok h Tryz.func123 with h | h
  · exact h
  rcases pick_ok h Tryz.func124 with h | h
  · exact h
  rcases pick_ok h Tryz.func125 with h | h
  · exact h
  rcases pick_ok h Tryz.func126 with h | h
  · exact h
  rcases pick_ok h Tryz.func127 with h | h
  · exact h
  rcases pick_ok h Tryz.func128 with h | h
  · exact h
  rcases pick_ok h Tryz.func129 with h | h
  · exact h
  rcases pick_ok h Tryz.func130 with h | h
  · exact h
  rcases pick_ok h Tryz.func131 with h | h
  · exact h
  rcases pick_ok h Tryz.func132 with h | h
  · exact h
  rcases pick_ok h Tryz.func133 with h | h
  · exact h
  rcases pick_ok h Tryz.func134 with h | h
  · exact h
  rcases pick_ok h Tryz.func135 with h | h
  · exact h
  rcases pick_ok h Tryz.func136 with h | h
  · exact h
  cases h
end Go.Proofs.YtigniafapkbbbaaGreatDoor
