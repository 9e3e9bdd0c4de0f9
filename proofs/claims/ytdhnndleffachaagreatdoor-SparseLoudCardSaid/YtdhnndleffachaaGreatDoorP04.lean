/- Parts of the proof. -/
import Derived.KernelRfl
import Derived.Test.YtdhnndleffachaaGreatDoorP03
import Derived.ProofKit
import Derived.WideKeyArgs
import Derived.Test.YtdhnndleffachaaGreatDoorP02
import Derived.OpenShut
set_option linter.all false
namespace Go.Proofs.YtdhnndleffachaaGreatDoor
open Go.AI
set_option maxRecDepth 100000
def tH:ak:=(G_ [B_ 123 .lss 122 121] (J_ (H_ 123 10) (J_ (P_ 11 (G_ [m_ 124 122,a_ 125 1 120 122,l_ 126 125,m_ 21 124,m_ 22 126] (V_ [D_ (f_ 127 2 12),D_ (f_ 128 3 127),D_ (l_ 129 128),D_ (m_ 130 21),D_ (m_ 131 5),D_ (m_ 132 22),D_ (a_ 133 1 131 132),D_ (l_ 134 133),D_ (a_ 135 1 129 130),D_ (s_ 1 135 134)]))) (O_ [C_ 136 .add 122 1,m_ 122 136]))))
def kG:ak:=(G_ [B_ 98 .lss 97 96] (J_ (H_ 98 8) (J_ (P_ 9 (G_ [a_ 99 3 95 97,L_ 100 3 99,o_ 20 (.alloc [(.int .i64 0),(.bool false),(.int .i64 0)]),s_ 3 20 100] (V_ [D_ (f_ 101 0 12),D_ (l_ 102 101),D_ (m_ 103 13),D_ (f_ 104 0 12),D_ (l_ 105 104),D_ (m_ 106 13),D_ (a_ 107 2 105 106),D_ (f_ 108 1 107),D_ (l_ 109 108),D_ (f_ 110 1 20),D_ (L_ 111 2 110),(o_ 112 (.cX 1 [(.bool false),(.int .i64 0)] [(0,(2,(t_ 111)))]),[]),(o_ 113 (.append [(.bool false),(.int .i64 0)] 16 false (t_ 109) (t_ 112)),[101]),D_ (a_ 114 2 102 103),D_ (f_ 115 1 114),D_ (s_ 1 115 113)]))) (O_ [C_ 116 .add 97 1,m_ 97 116]))))
def nQ:ak:=(G_ [B_ 65 .lss 64 63] (J_ (H_ 65 6) (J_ (P_ 7 (G_ [m_ 66 64,a_ 67 2 62 64,L_ 68 2 67,o_ 17 (.alloc [(.bool false),(.int .i64 0)]),m_ 16 66,s_ 2 17 68] (G_ [m_ 69 5,m_ 70 8,m_ 71 11,a_ 72 1 70 71,l_ 73 72,m_ 74 16,a_ 75 1 73 74,l_ 76 75,a_ 77 1 69 76,l_ 78 77,m_ 18 78] (G_ [m_ 79 18,C_ 80 .geq 79 0] (I_ 80 (O_ [m_ 81 15,m_ 82 18,L_ 83 2 17,o_ 84 (.build [(.int .i64 0),(.bool false),(.int .i64 0)] [(0,(1,(t_ 82))),(1,(2,(t_ 83)))]),o_ 85 (.cX 1 [(.int .i64 0),(.bool false),(.int .i64 0)] [(0,(3,(t_ 84)))]),o_ 86 (.append [(.int .i64 0),(.bool false),(.int .i64 0)] 24 false (t_ 81) (t_ 85)),m_ 15 86]) .skip))))) (O_ [C_ 87 .add 64 1,m_ 64 87]))))
def tI:ak:=(G_ [B_ 57 .lss 56 55] (J_ (H_ 57 4) (J_ (P_ 5 (G_ [m_ 58 56,a_ 59 2 54 56,L_ 60 2 59,o_ 14 (.alloc [(.int .i64 0),(.slice none 0 0)]),m_ 13 58,s_ 2 14 60] (G_ [o_ 15 (.mv (.const (.slice none 0 0)))] (J_ (G_ [f_ 61 1 14,l_ 62 61,z_ 63 62,k_ 64 0] (Q_ 6 nQ)) (G_ [m_ 88 15,F_ 89 197 [t_ 88,(.func 198)]] (G_ [f_ 90 0 12,l_ 91 90,m_ 92 13,a_ 93 2 91 92,f_ 94 1 93,u_ (.store 1 (t_ 94) (.const (.slice none 0 0)))] (G_ [m_ 95 15,z_ 96 95,k_ 97 0] (Q_ 8 kG)))))))) (O_ [C_ 117 .add 56 1,m_ 56 117]))))
def tJ:ak:=(G_ [B_ 45 .lss 44 43] (J_ (H_ 45 2) (J_ (P_ 3 (G_ [a_ 46 1 42 44,l_ 47 46,m_ 11 47] (G_ [f_ 48 3 2,l_ 49 48,m_ 50 11,a_ 51 6 49 50,L_ 52 6 51,o_ 12 (.alloc [(.slice none 0 0),(.slice none 0 0),(.int .i64 0),(.bool false),(.int .i64 0),(.slice none 0 0)]),s_ 6 12 52] (J_ (G_ [f_ 53 0 12,l_ 54 53,z_ 55 54,k_ 56 0] (Q_ 4 tI)) (J_ (G_ [f_ 118 2 12,f_ 119 3 118,l_ 120 119,z_ 121 120,k_ 122 0] (Q_ 10 tH)) (O_ [m_ 137 9,L_ 138 6 12,o_ 139 (.cX 1 [(.slice none 0 0),(.slice none 0 0),(.int .i64 0),(.bool false),(.int .i64 0),(.slice none 0 0)] [(0,(6,(t_ 138)))]),o_ 140 (.append [(.slice none 0 0),(.slice none 0 0),(.int .i64 0),(.bool false),(.int .i64 0),(.slice none 0 0)] 96 false (t_ 137) (t_ 139)),m_ 9 140])))))) (O_ [C_ 141 .add 44 1,m_ 44 141]))))
def tK:ak:=(G_ [B_ 31 .lss 30 29] (J_ (H_ 31 0) (J_ (P_ 1 (G_ [m_ 32 30,a_ 33 1 28 30,l_ 34 33,m_ 6 32,m_ 7 34] (O_ [m_ 35 5,m_ 36 7,m_ 37 6,a_ 38 1 35 36,s_ 1 38 37]))) (O_ [C_ 39 .add 30 1,m_ 30 39]))))
abbrev wR:Nat:=137
def BN:ak:=(G_ [x_ 2 0,⟨(some 4),none,(.alloc [(.string ⟨⟨[]⟩⟩),(.int .i64 0),(.int .i64 0),(.slice none 0 0)])⟩] (G_ [o_ 23 (.cX 1 [(.int .i64 0)] [(0,(1,(.const (.int .i64 (Int.negSucc 0)))))]),f_ 24 3 2,l_ 25 24,z_ 26 25,F_ 27 144 [t_ 23,t_ 26],m_ 5 27] (J_ (G_ [m_ 28 1,z_ 29 28,k_ 30 0] (Q_ 0 tK)) (G_ [L_ 40 4 2,F_ 41 101 [t_ 40],m_ 8 41] (G_ [o_ 9 (.mv (.const (.slice none 0 0)))] (J_ (G_ [m_ 42 1,z_ 43 42,k_ 44 0] (Q_ 2 tJ)) (G_ [m_ 142 9,f_ 143 3 2,s_ 1 143 142] (G_ [L_ 144 4 2,s_ 4 4 144] .ret))))))))
theorem Kg:FF wR=some ⟨[(.cell 4 (some 4))],BN,.no⟩:=by kernel_rfl
abbrev pf:Nat:=138
def vo:ak:=(G_ [x_ 1 0,o_ 2 (.mv (.const (.slice none 0 0)))] (G_ [L_ 4 4 1,F_ 5 87 [t_ 4],m_ 3 5] (G_ [m_ 6 3,F_ 7 199 [t_ 6]] (G_ [m_ 8 3,m_ 2 8] .ret))))
theorem CD:FF pf=some ⟨[(.tmp 2)],vo,.no⟩:=by kernel_rfl
def gU:ak:=(G_ [B_ 9 .lss 8 7] (J_ (H_ 9 0) (J_ (P_ 1 (G_ [m_ 10 8,m_ 5 10] (G_ [m_ 11 1,m_ 12 0,m_ 13 5,a_ 14 1 12 13,l_ 15 14,o_ 16 (.bin .eql [2] (t_ 11) (t_ 15))] (I_ 16 (G_ [m_ 17 5,m_ 4 17] .ret) .skip)))) (O_ [C_ 18 .add 8 1,m_ 8 18]))))
abbrev iE:Nat:=139
def iB:ak:=(.seq (.ops [⟨(some 4),none,(.mv (.const (.int .i64 0)))⟩]) (.seq (.seq (.ops [⟨(some 6),none,(.mv (.tmp 0))⟩,⟨(some 7),none,(.uU (.tmp 6))⟩,⟨(some 8),none,(.mv (.const (.int .i64 0)))⟩]) (.block 0 (.loop gU))) (.seq (.ops [⟨(some 4),none,(.mv (.const (.int .i64 (Int.negSucc 0))))⟩]) .ret)))
theorem pb:FF iE=some ⟨[(.tmp 4)],iB,.no⟩:=by kernel_rfl
abbrev kX:Nat:=140
def qw:ak:=(G_ [x_ 2 0,x_ 3 1,k_ 4 0] (J_ (P_ 0 (G_ [f_ 6 0 3,l_ 7 6,F_ 8 80 [t_ 7,(i_ 1),(i_ 3)],o_ 9 (.un .not (t_ 8)),m_ 5 9] (I_ 5 (G_ [k_ 4 4] .ret) (J_ (V_ [D_ (f_ 11 3 3),D_ (l_ 12 11),D_ (z_ 13 12),D_ (f_ 14 0 3),D_ (l_ 15 14),(o_ 16 (.cR (some 4) 1 (.global 0) (t_ 15)),[]),D_ (l_ 17 16),(o_ 18 (.bin .neq [1] (t_ 13) (t_ 17)),[]),D_ (m_ 10 18)]) (I_ 10 (G_ [k_ 4 9] .ret) (G_ [f_ 20 3 3,l_ 21 20,o_ 22 (.uz 201 [t_ 2]),F_ 23 200 [t_ 21,t_ 22],m_ 19 23] (I_ 19 (G_ [k_ 4 3] .ret) (J_ (V_ [D_ (f_ 25 0 3),D_ (l_ 26 25),(o_ 27 (.bin .eql [1] (t_ 26) (i_ 3)),[]),D_ (m_ 28 27),(q_ 29 28 true (.bM 3 (t_ 3)),[]),(q_ 30 28 true (.load none (t_ 29)),[]),(q_ 31 28 true (.cR none 1 (t_ 30) (i_ 0)),[]),(q_ 32 28 true (.load none (t_ 31)),[]),(q_ 33 28 true (.bM 3 (t_ 3)),[]),(q_ 34 28 true (.load none (t_ 33)),[]),(q_ 35 28 true (.cR none 1 (t_ 34) (i_ 1)),[]),(q_ 36 28 true (.load none (t_ 35)),[]),(q_ 37 28 true (.bin .eql [1] (t_ 32) (t_ 36)),[]),(o_ 38 (.pick (t_ 28) (t_ 37) (b_ false)),[]),D_ (m_ 39 38),(q_ 40 39 false (.bM 0 (t_ 3)),[]),(q_ 41 39 false (.load none (t_ 40)),[]),(q_ 42 39 false (.bin .eql [1] (t_ 41) (i_ 2)),[]),(q_ 43 39 false (.mv (t_ 42)),[]),(q_ 44 43 true (.bM 1 (t_ 3)),[]),(q_ 45 43 true (.load (some 2) (t_ 44)),[]),(q_ 46 43 true (.build [(.bool false),(.int .i64 0)] []),[]),(q_ 47 43 true (.bin .neq [9,0,1] (t_ 45) (t_ 46)),[]),(q_ 48 39 false (.pick (t_ 43) (t_ 47) (b_ false)),[]),(o_ 49 (.pick (t_ 39) (b_ true) (t_ 48)),[]),D_ (m_ 24 49)]) (I_ 24 (G_ [k_ 4 5] .ret) .skip))))))))) (G_ [L_ 50 7 2,f_ 51 1 3,L_ 52 2 51,F_ 53 202 [t_ 50,t_ 52],m_ 4 53] .ret)))
theorem yM:FF kX=some ⟨[(.tmp 4)],qw,.no⟩:=by kernel_rfl
def rh:ak:=(G_ [B_ 25 .lss 24 23] (J_ (H_ 25 2) (J_ (P_ 3 (G_ [a_ 26 1 22 24,l_ 27 26,m_ 7 27] (O_ [m_ 28 3,m_ 29 7,m_ 30 3,m_ 31 7,a_ 32 1 30 31,l_ 33 32,m_ 34 4,o_ 35 (.cX 1 [(.int .i64 0)] [(0,(1,(t_ 34)))]),o_ 36 (.append [(.int .i64 0)] 8 false (t_ 33) (t_ 35)),a_ 37 1 28 29,s_ 1 37 36]))) (O_ [C_ 38 .add 24 1,m_ 24 38]))))
def wW:ak:=(G_ [B_ 16 .lss 15 14] (J_ (H_ 16 0) (J_ (P_ 1 (G_ [m_ 17 15,a_ 18 6 13 15,L_ 19 6 18,o_ 5 (.alloc [(.slice none 0 0),(.slice none 0 0),(.int .i64 0),(.bool false),(.int .i64 0),(.slice none 0 0)]),m_ 4 17,s_ 6 5 19] (G_ [f_ 20 2 5,f_ 21 3 20,l_ 22 21,z_ 23 22,k_ 24 0] (Q_ 2 rh)))) (O_ [C_ 39 .add 15 1,m_ 15 39]))))
abbrev Af:Nat:=141
def zy:ak:=(G_ [x_ 1 0,o_ 2 (.mv (.const (.slice none 0 0)))] (G_ [f_ 8 3 1,l_ 9 8,z_ 10 9,o_ 11 (.ik [(.slice none 0 0)] 24 (t_ 10) (t_ 10)),m_ 3 11] (J_ (G_ [f_ 12 3 1,l_ 13 12,z_ 14 13,k_ 15 0] (Q_ 0 wW)) (G_ [m_ 40 3,m_ 2 40] .ret))))
theorem HU:FF Af=some ⟨[(.tmp 2)],zy,.no⟩:=by kernel_rfl
def oH:ak:=(G_ [B_ 34 .lss 33 32] (J_ (H_ 34 0) (J_ (P_ 1 (G_ [a_ 35 2 31 33,L_ 36 2 35,o_ 9 (.alloc [(.bool false),(.int .i64 0)]),s_ 2 9 36] (G_ [L_ 37 7 3,L_ 38 2 9,F_ 39 202 [t_ 37,t_ 38],m_ 10 39] (G_ [m_ 40 10,o_ 41 (.bin .neq [1] (t_ 40) (i_ 0))] (I_ 41 (G_ [m_ 42 10,m_ 6 42] .ret) .skip))))) (O_ [C_ 43 .add 33 1,m_ 33 43]))))
abbrev kY:Nat:=142
def qy:ak:=(G_ [x_ 3 0,x_ 5 2,k_ 6 0] (J_ (G_ [m_ 11 1,o_ 12 (.bin .eql [1] (t_ 11) (i_ 0))] (I_ 12 (G_ [k_ 6 5] .ret) .skip)) (J_ (G_ [L_ 13 7 3,f_ 14 0 5,l_ 15 14,F_ 16 203 [t_ 13,t_ 15],m_ 7 16] (G_ [m_ 17 7,o_ 18 (.bin .neq [1] (t_ 17) (i_ 0))] (I_ 18 (G_ [m_ 19 7,m_ 6 19] .ret) .skip))) (J_ (J_ (V_ [D_ (f_ 20 1 5),D_ (l_ 21 20),D_ (z_ 22 21),D_ (f_ 23 6 3),D_ (l_ 24 23),D_ (m_ 25 1),D_ (a_ 26 1 24 25),D_ (l_ 27 26),D_ (z_ 28 27),(o_ 29 (.bin .neq [1] (t_ 22) (t_ 28)),[])]) (I_ 29 (G_ [k_ 6 9] .ret) .skip)) (J_ (G_ [f_ 30 1 5,l_ 31 30,z_ 32 31,k_ 33 0] (Q_ 0 oH)) (G_ [k_ 6 0] .ret))))))
theorem yO:FF kY=some ⟨[(.tmp 6)],qy,.no⟩:=by kernel_rfl
abbrev qP:Nat:=143
def N8:List bl:=[⟨(some 18),none,(.bM 0 (.tmp 5))⟩,⟨(some 19),none,(.load none (.tmp 18))⟩,⟨(some 20),none,(.un .not (.tmp 19))⟩,⟨(some 21),none,(.mv (.tmp 20))⟩,⟨(some 22),(some (21,true)),(.bM 1 (.tmp 3))⟩,⟨(some 23),(some (21,true)),(.load none (.tmp 22))⟩,⟨(some 24),(some (21,true)),(.bin .neq [1] (.tmp 23) (.const (.int .i64 (Int.negSucc 0))))⟩,⟨(some 25),none,(.pick (.tmp 21) (.tmp 24) (.const (.bool false)))⟩,⟨(some 26),none,(.mv (.tmp 25))⟩,⟨(some 27),(some (26,false)),(.bM 1 (.tmp 5))⟩,⟨(some 28),(some (26,false)),(.load none (.tmp 27))⟩,⟨(some 29),(some (26,false)),(.un .not (.tmp 28))⟩,⟨(some 30),(some (26,false)),(.mv (.tmp 29))⟩,⟨(some 31),(some (30,true)),(.bM 2 (.tmp 3))⟩,⟨(some 32),(some (30,true)),(.load (some 2) (.tmp 31))⟩,⟨(some 33),(some (30,true)),(.build [(.bool false),(.int .i64 0)] [])⟩,⟨(some 34),(some (30,true)),(.bin .neq [9,0,1] (.tmp 32) (.tmp 33))⟩,⟨(some 35),(some (26,false)),(.pick (.tmp 30) (.tmp 34) (.const (.bool false)))⟩,⟨(some 36),none,(.pick (.tmp 26) (.const (.bool true)) (.tmp 35))⟩,⟨(some 37),none,(.mv (.tmp 36))⟩,⟨(some 38),(some (37,false)),(.bM 2 (.tmp 5))⟩,⟨(some 39),(some (37,false)),(.load none (.tmp 38))⟩,⟨(some 40),(some (37,false)),(.un .not (.tmp 39))⟩,⟨(some 41),(some (37,false)),(.mv (.tmp 40))⟩,⟨(some 42),(some (41,true)),(.bM 4 (.tmp 3))⟩,⟨(some 43),(some (41,true)),(.load (some 2) (.tmp 42))⟩,⟨(some 44),(some (41,true)),(.build [(.bool false),(.int .i64 0)] [])⟩,⟨(some 45),(some (41,true)),(.bin .neq [9,0,1] (.tmp 43) (.tmp 44))⟩,⟨(some 46),(some (37,false)),(.pick (.tmp 41) (.tmp 45) (.const (.bool false)))⟩,⟨(some 47),none,(.pick (.tmp 37) (.const (.bool true)) (.tmp 46))⟩,⟨(some 48),none,(.mv (.tmp 47))⟩,⟨(some 49),(some (48,false)),(.load none (.tmp 6))⟩,⟨(some 50),(some (48,false)),(.un .not (.tmp 49))⟩,⟨(some 51),(some (48,false)),(.mv (.tmp 50))⟩,⟨(some 52),(some (51,true)),(.bM 6 (.tmp 3))⟩,⟨(some 53),(some (51,true)),(.load none (.tmp 52))⟩,⟨(some 54),(some (51,true)),(.bin .neq [1] (.tmp 53) (.const (.int .i64 0)))⟩,⟨(some 55),(some (51,true)),(.mv (.tmp 54))⟩,⟨(some 56),(some (55,false)),(.bM 7 (.tmp 3))⟩,⟨(some 57),(some (55,false)),(.load none (.tmp 56))⟩,⟨(some 58),(some (55,false)),(.uU (.tmp 57))⟩,⟨(some 59),(some (55,false)),(.bin .gtr [] (.tmp 58) (.const (.int .i64 0)))⟩,⟨(some 60),(some (51,true)),(.pick (.tmp 55) (.const (.bool true)) (.tmp 59))⟩,⟨(some 61),(some (48,false)),(.pick (.tmp 51) (.tmp 60) (.const (.bool false)))⟩,⟨(some 62),none,(.pick (.tmp 48) (.const (.bool true)) (.tmp 61))⟩]
def I1:ak:=(J_ (G_ [f_ 63 0 5,l_ 64 63,m_ 65 64,q_ 66 65 true (.load none (t_ 6)),q_ 67 65 true (.mv (t_ 66)),q_ 68 67 true (.bM 1 (t_ 3)),q_ 69 67 true (.load none (t_ 68)),q_ 70 67 true (.bin .eql [1] (t_ 69) (.const (.int .i64 (Int.negSucc 0)))),q_ 71 65 true (.pick (t_ 67) (t_ 70) (b_ false)),q_ 72 65 true (.un .not (t_ 71)),o_ 73 (.pick (t_ 65) (t_ 72) (b_ false))] (I_ 73 (G_ [L_ 74 7 2,f_ 75 1 3,l_ 76 75,F_ 77 203 [t_ 74,t_ 76],m_ 7 77] (G_ [m_ 78 7,o_ 79 (.bin .neq [1] (t_ 78) (i_ 0))] (I_ 79 (G_ [m_ 80 7,m_ 4 80] .ret) .skip))) .skip)) (G_ [o_ 81 (.uz 205 [t_ 2,t_ 3]),o_ 82 (.uz 206 [t_ 2,t_ 3]),o_ 83 (.uz 207 [t_ 6,t_ 3,t_ 2]),o_ 84 (.cX 3 [.nilFunc,.nilFunc,.nilFunc] [(0,(1,(t_ 81))),(1,(1,(t_ 82))),(2,(1,(t_ 83)))]),F_ 85 204 [t_ 84],m_ 4 85] .ret))
def qx:ak:=(G_ [x_ 2 0,x_ 3 1,k_ 4 0] (J_ (G_ [f_ 8 0 3,l_ 9 8,F_ 10 80 [t_ 9,(i_ 1),(i_ 22)],o_ 11 (.un .not (t_ 10))] (I_ 11 (G_ [k_ 4 4] .ret) .skip)) (G_ [f_ 12 0 3,l_ 13 12,F_ 14 193 [t_ 13],o_ 5 (.alloc [(.bool false),(.bool false),(.bool false)]),s_ 3 5 14] (G_ [f_ 15 0 3,l_ 16 15,o_ 17 (.bin .eql [1] (t_ 16) (i_ 20)),o_ 6 (.alloc [(.bool false)]),s_ 1 6 17] (J_ (J_ (.ops N8) (I_ 62 (G_ [k_ 4 5] .ret) .skip)) I1)))))
theorem yN:FF qP=some ⟨[(.tmp 4)],qx,.no⟩:=by kernel_rfl
def rW:ak:=(J_ (G_ [m_ 34 8,m_ 35 7,z_ 36 35,B_ 37 .lss 34 36] (H_ 37 0)) (P_ 1 (V_ [D_ (m_ 38 8),D_ (m_ 39 7),D_ (m_ 40 8),(o_ 41 (.slice 1 (t_ 39) (some (t_ 40)) none none),[]),D_ (m_ 42 7),D_ (m_ 43 8),(o_ 44 (.slice 1 (t_ 42) none (some (t_ 43)) none),[]),(o_ 45 (.copy 1 (t_ 41) (t_ 44)),[]),D_ (B_ 46 .add 38 45),D_ (m_ 8 46)])))
abbrev gT:Nat:=144
def tY:ak:=(G_ [o_ 4 (.mv (.const (.slice none 0 0)))] (J_ (G_ [m_ 9 1,C_ 10 .lss 9 0] (I_ 10 (O_ [⟨(some 11),none,.bad⟩,⟨none,none,.bad⟩]) .skip)) (G_ [m_ 13 0,z_ 14 13,o_ 15 (.conv .u64 (t_ 14)),m_ 16 1,o_ 17 (.conv .u64 (t_ 16)),F_ 18 146 [t_ 15,t_ 17],m_ 12 18,o_ 19 (.ext 0 (t_ 12)),o_ 20 (.ext 1 (t_ 12)),m_ 5 19,m_ 6 20] (J_ (G_ [m_ 21 5,o_ 22 (.bin .gtr [] (t_ 21) (.const (.int .u64 0))),m_ 23 22,q_ 24 23 false (.mv (t_ 6)),q_ 25 23 false (.bin .gtr [] (t_ 24) (.const (.int .u64 9223372036854775807))),o_ 26 (.pick (t_ 23) (b_ true) (t_ 25))] (I_ 26 (O_ [⟨(some 27),none,.bad⟩,⟨none,none,.bad⟩]) .skip)) (G_ [m_ 28 6,o_ 29 (.conv .i64 (t_ 28)),o_ 30 (.ik [(.int .i64 0)] 8 (t_ 29) (t_ 29)),m_ 7 30] (G_ [m_ 31 7,m_ 32 0,o_ 33 (.copy 1 (t_ 31) (t_ 32)),m_ 8 33] (J_ (Q_ 0 rW) (G_ [m_ 47 7,m_ 4 47] .ret))))))))
theorem lu:FF gT=some ⟨[(.tmp 4)],tY,.no⟩:=by kernel_rfl
def AA:ak:=(J_ (G_ [m_ 9 2,m_ 10 3,o_ 11 (.bin .neq [1] (t_ 9) (t_ 10))] (H_ 11 0)) (P_ 1 (J_ (J_ (V_ [D_ (m_ 12 1),D_ (m_ 13 2),D_ (a_ 14 1 12 13),D_ (l_ 15 14),D_ (m_ 16 1),D_ (m_ 17 3),D_ (a_ 18 1 16 17),D_ (l_ 19 18),D_ (B_ 20 .lss 15 19)]) (I_ 20 (O_ [m_ 21 3,m_ 22 2,m_ 2 21,m_ 3 22]) .skip)) (O_ [m_ 23 0,m_ 24 2,a_ 25 1 23 24,l_ 26 25,m_ 2 26]))))
abbrev EB:Nat:=145
def DB:ak:=(.seq (.ops [⟨(some 8),none,(.mv (.const (.int .i64 0)))⟩]) (.seq (.block 0 (.loop AA)) (.seq (.ops [⟨(some 27),none,(.mv (.tmp 2))⟩,⟨(some 8),none,(.mv (.tmp 27))⟩]) .ret)))
theorem M6:FF EB=some ⟨[(.tmp 8)],DB,.no⟩:=by kernel_rfl
abbrev kK:Nat:=146
def vq:ak:=(G_ [o_ 4 (.mv (.const (.int .u64 0))),o_ 5 (.mv (.const (.int .u64 0)))] (J_ (.cond (b_ false) (G_ [m_ 11 0,o_ 12 (.conv .u32 (t_ 11)),m_ 13 1,o_ 14 (.conv .u32 (t_ 13)),F_ 15 208 [t_ 12,t_ 14],m_ 10 15,o_ 16 (.ext 0 (t_ 10)),o_ 17 (.ext 1 (t_ 10)),m_ 6 16,m_ 7 17] (G_ [m_ 18 6,o_ 19 (.conv .u64 (t_ 18)),m_ 20 7,o_ 21 (.conv .u64 (t_ 20)),m_ 4 19,m_ 5 21] .ret)) .skip) (G_ [m_ 23 0,m_ 24 1,F_ 25 209 [t_ 23,t_ 24],m_ 22 25,o_ 26 (.ext 0 (t_ 22)),o_ 27 (.ext 1 (t_ 22)),m_ 8 26,m_ 9 27] (G_ [m_ 28 8,m_ 29 9,m_ 4 28,m_ 5 29] .ret))))
theorem CF:FF kK=some ⟨[(.tmp 4),(.tmp 5)],vq,.no⟩:=by kernel_rfl
abbrev jE:Nat:=147
def vW:ak:=(G_ [l_ 8 1,m_ 9 0,a_ 10 1 8 9,u_ (.store 1 (t_ 10) (b_ true))] (J_ (G_ [f_ 11 3 2,l_ 12 11,m_ 13 0,a_ 14 6 12 13,f_ 15 2 14,f_ 16 3 15,l_ 17 16,F_ 18 148 [t_ 17]] (P_ 0 (.Qk (t_ 18) [19,20] (O_ [m_ 7 20]) (P_ 1 (G_ [l_ 21 1,m_ 22 7,a_ 23 1 21 22,l_ 24 23,o_ 25 (.un .not (t_ 24))] (I_ 25 (O_ [l_ 26 3,m_ 27 7,o_ 28 (.call (t_ 26) [t_ 27])]) .skip)))))) (O_ [l_ 29 4,m_ 30 0,o_ 31 (.cX 1 [(.int .i64 0)] [(0,(1,(t_ 30)))]),o_ 32 (.append [(.int .i64 0)] 8 false (t_ 29) (t_ 31)),s_ 1 4 32])))
theorem DH:FF jE=some ⟨[],vW,.no⟩:=by kernel_rfl
abbrev fO:Nat:=148
def jX:ak:=(.seq (.ops [⟨(some 1),none,(.box (.tmp 0))⟩,⟨(some 2),none,(.mv (.const .nilFunc))⟩]) (.seq (.ops [⟨(some 3),none,(.uz 210 [(.tmp 1)])⟩,⟨(some 2),none,(.mv (.tmp 3))⟩]) .ret))
theorem rQ:FF fO=some ⟨[(.tmp 2)],jX,.no⟩:=by kernel_rfl
abbrev ke:Nat:=149
def pG:ak:=(G_ [M_ 8 false] (J_ (G_ [m_ 9 0,o_ 10 (.aY (t_ 9)),f_ 11 5 10,l_ 12 11,m_ 13 1,a_ 14 2 12 13,f_ 15 0 14,l_ 16 15,C_ 17 .geq 16 0] (I_ 17 (G_ [M_ 8 false] .ret) .skip)) (G_ [m_ 18 0,o_ 19 (.aY (t_ 18)),f_ 20 5 19,l_ 21 20,m_ 22 1,m_ 23 2,m_ 24 3,o_ 25 (.build [(.int .i64 0),(.int .i64 0)] [(0,(1,(t_ 23))),(1,(1,(t_ 24)))]),a_ 26 2 21 22,s_ 2 26 25] (G_ [M_ 8 true] .ret))))
theorem xQ:FF ke=some ⟨[(.tmp 8)],pG,.no⟩:=by kernel_rfl
abbrev kc:Nat:=150
def pF:ak:=(G_ [x_ 5 1,M_ 8 false] (J_ (G_ [f_ 10 0 5,l_ 11 10,o_ 12 (.un .not (t_ 11))] (I_ 12 (G_ [M_ 8 true] .ret) .skip)) (J_ (V_ [D_ (m_ 13 0),(o_ 14 (.aY (t_ 13)),[]),D_ (f_ 15 5 14),D_ (l_ 16 15),D_ (f_ 17 1 5),D_ (l_ 18 17),D_ (a_ 19 2 16 18),D_ (L_ 20 2 19),(o_ 9 (.alloc [(.int .i64 0),(.int .i64 0)]),[]),D_ (s_ 2 9 20)]) (J_ (P_ 0 (G_ [f_ 22 0 9,l_ 23 22,C_ 24 .lss 23 0,m_ 21 24] (I_ 21 (G_ [M_ 8 false] .ret) (G_ [f_ 26 0 9,l_ 27 26,m_ 28 2,o_ 29 (.bin .eql [1] (t_ 27) (t_ 28)),m_ 25 29] (I_ 25 (G_ [f_ 30 1 9,l_ 31 30,m_ 32 3,B_ 33 .lss 31 32,m_ 8 33] .ret) .skip))))) (J_ (V_ [D_ (m_ 34 0),(o_ 35 (.aY (t_ 34)),[]),D_ (f_ 36 4 35),D_ (l_ 37 36),D_ (f_ 38 0 9),D_ (l_ 39 38),D_ (m_ 40 2),(F_ 41 211 [t_ 37,t_ 39,t_ 40],[]),D_ (m_ 8 41)]) .ret)))))
theorem xP:FF kc=some ⟨[(.tmp 8)],pF,.no⟩:=by kernel_rfl
def Im:ak:=(V_ [D_ (m_ 53 0),(o_ 54 (.aY (t_ 53)),[]),D_ (f_ 55 3 54),D_ (l_ 56 55),D_ (m_ 57 8),D_ (a_ 58 6 56 57),D_ (f_ 59 0 58),D_ (l_ 60 59),D_ (m_ 61 10),D_ (f_ 62 1 11),D_ (l_ 63 62),D_ (m_ 64 9),D_ (m_ 65 9),D_ (C_ 66 .add 65 1),(F_ 67 167 [t_ 63,t_ 64,t_ 66],[55,59]),D_ (a_ 68 2 60 61),D_ (f_ 69 1 68),D_ (s_ 1 69 67)])
def rJ:ak:=(G_ [B_ 49 .lss 48 47] (J_ (H_ 49 2) (J_ (P_ 3 (G_ [m_ 50 48,a_ 51 2 46 48,L_ 52 2 51,o_ 11 (.alloc [(.int .i64 0),(.slice none 0 0)]),m_ 10 50,s_ 2 11 52] Im)) (O_ [C_ 70 .add 48 1,m_ 48 70]))))
def w_:ak:=(G_ [B_ 27 .lss 26 25] (J_ (H_ 27 0) (J_ (P_ 1 (G_ [a_ 28 1 24 26,l_ 29 28,m_ 8 29] (J_ (G_ [m_ 30 8,m_ 31 2,o_ 32 (.bin .eql [1] (t_ 30) (t_ 31))] (I_ 32 (.exit 1) .skip)) (G_ [m_ 33 6,m_ 34 8,a_ 35 1 33 34,l_ 36 35,m_ 37 1,F_ 38 162 [t_ 36,t_ 37],m_ 9 38] (G_ [m_ 39 0,o_ 40 (.aY (t_ 39)),f_ 41 3 40,l_ 42 41,m_ 43 8,a_ 44 6 42 43,f_ 45 0 44,l_ 46 45,z_ 47 46,k_ 48 0] (Q_ 2 rJ)))))) (O_ [C_ 71 .add 26 1,m_ 26 71]))))
abbrev Ap:Nat:=156
def zJ:ak:=(G_ [m_ 12 0,o_ 13 (.aY (t_ 12)),L_ 14 4 13,F_ 15 101 [t_ 14],m_ 6 15] (J_ (G_ [m_ 16 0,o_ 17 (.aY (t_ 16)),f_ 18 3 17,l_ 19 18,m_ 20 1,a_ 21 6 19 20,f_ 22 2 21,f_ 23 3 22,l_ 24 23,z_ 25 24,k_ 26 0] (Q_ 0 w_)) (O_ [m_ 72 0,o_ 73 (.aY (t_ 72)),f_ 74 3 73,l_ 75 74,m_ 76 1,m_ 77 2,o_ 78 (.cX 1 [(.int .i64 0)] [(0,(1,(t_ 77)))]),o_ 79 (.build [(.int .i64 0),(.bool false),(.int .i64 0),(.slice none 0 0)] [(0,(1,(i_ 2))),(3,(1,(t_ 78)))]),a_ 80 6 75 76,f_ 81 2 80,s_ 4 81 79])))
theorem H8:FF Ap=some ⟨[],zJ,.no⟩:=by kernel_rfl
def kF:ak:=(G_ [B_ 9 .lss 8 7] (J_ (H_ 9 0) (J_ (P_ 1 (G_ [m_ 10 8,m_ 5 10] (G_ [m_ 11 1,m_ 12 0,m_ 13 5,a_ 14 1 12 13,l_ 15 14,o_ 16 (.bin .eql [1] (t_ 11) (t_ 15))] (I_ 16 (G_ [m_ 17 5,m_ 4 17] .ret) .skip)))) (O_ [C_ 18 .add 8 1,m_ 8 18]))))
abbrev mw:Nat:=162
def l9:ak:=(.seq (.ops [⟨(some 4),none,(.mv (.const (.int .i64 0)))⟩]) (.seq (.seq (.ops [⟨(some 6),none,(.mv (.tmp 0))⟩,⟨(some 7),none,(.uU (.tmp 6))⟩,⟨(some 8),none,(.mv (.const (.int .i64 0)))⟩]) (.block 0 (.loop kF))) (.seq (.ops [⟨(some 4),none,(.mv (.const (.int .i64 (Int.negSucc 0))))⟩]) .ret)))
theorem uX:FF mw=some ⟨[(.tmp 4)],l9,.no⟩:=by kernel_rfl
abbrev gJ:Nat:=166
theorem mI:FF gJ=some ⟨[],.bad,.run (ZV 2) fun _ _ _ _=>HD⟩:=by kernel_rfl
abbrev gI:Nat:=167
def gD:ak:=(G_ [o_ 6 (.mv (.const (.slice none 0 0)))] (G_ [m_ 8 0,m_ 9 1,m_ 10 2,m_ 11 0,z_ 12 11,o_ 13 (.slice 2 (t_ 8) (some (t_ 9)) (some (t_ 10)) (some (t_ 12)))] (J_ (G_ [m_ 14 1,m_ 15 2,o_ 16 (.bin .eql [1] (t_ 14) (t_ 15))] (I_ 16 (G_ [m_ 17 0,m_ 6 17] .ret) .skip)) (G_ [m_ 18 0,z_ 19 18,m_ 7 19] (J_ (V_ [D_ (m_ 20 0),D_ (m_ 21 1),(o_ 22 (.slice 2 (t_ 20) none (some (t_ 21)) none),[]),D_ (m_ 23 0),D_ (m_ 24 2),(o_ 25 (.slice 2 (t_ 23) (some (t_ 24)) none none),[]),(o_ 26 (.append [(.bool false),(.int .i64 0)] 16 false (t_ 22) (t_ 25)),[]),D_ (m_ 0 26)]) (G_ [m_ 27 0,m_ 28 0,z_ 29 28,m_ 30 7,o_ 31 (.slice 2 (t_ 27) (some (t_ 29)) (some (t_ 30)) none),u_ (.clear [(.bool false),(.int .i64 0)] (t_ 31))] (G_ [m_ 32 0,m_ 6 32] .ret)))))))
theorem mH:FF gI=some ⟨[(.tmp 6)],gD,.no⟩:=by kernel_rfl
abbrev pO:Nat:=176
def pB:ak:=(G_ [x_ 2 0,x_ 3 1,M_ 4 false] (J_ (V_ [D_ (l_ 5 3),(o_ 6 (.bin .eql [1] (t_ 5) (i_ 0)),[]),D_ (m_ 7 6),(q_ 8 7 false (.load none (t_ 2)),[]),(q_ 9 7 false (.aY (t_ 8)),[]),(q_ 10 7 false (.bM 4 (t_ 9)),[]),(q_ 11 7 false (.load none (t_ 10)),[]),(q_ 12 7 false (.load none (t_ 3)),[]),(q_ 13 7 false (.cR none 1 (t_ 11) (t_ 12)),[]),(q_ 14 7 false (.load none (t_ 13)),[]),(q_ 15 7 false (.uz 223 [t_ 2,t_ 3]),[]),(q_ 16 7 false (.call (.func 200) [t_ 14,t_ 15]),[]),(o_ 17 (.pick (t_ 7) (b_ true) (t_ 16)),[]),D_ (m_ 4 17)]) .ret))
theorem xL:FF pO=some ⟨[(.tmp 4)],pB,.no⟩:=by kernel_rfl
def Xg:ak:=(O_ [f_ 95 2 4,f_ 96 0 95,l_ 97 96,o_ 98 (.bin .eql [1] (t_ 97) (i_ 2)),m_ 99 98,q_ 100 99 false (.bM 0 (t_ 11)),q_ 101 99 false (.load none (t_ 100)),q_ 102 99 false (.bin .eql [1] (t_ 101) (i_ 2)),o_ 103 (.pick (t_ 99) (b_ true) (t_ 102)),m_ 104 103,q_ 105 104 false (.bM 0 (t_ 11)),q_ 106 104 false (.load none (t_ 105)),q_ 107 104 false (.bin .eql [1] (t_ 106) (i_ 1)),q_ 108 104 false (.mv (t_ 107)),q_ 109 108 true (.bM 1 (t_ 11)),q_ 110 108 true (.load none (t_ 109)),q_ 111 108 true (.bin .neq [1] (t_ 110) (i_ 0)),q_ 112 108 true (.mv (t_ 12)),q_ 113 108 true (.bin .eql [1] (t_ 112) (i_ 0)),q_ 114 108 true (.bin .eql [0] (t_ 111) (t_ 113)),q_ 115 104 false (.pick (t_ 108) (t_ 114) (b_ false)),o_ 116 (.pick (t_ 104) (b_ true) (t_ 115))])
def iU:ak:=(G_ [B_ 91 .lss 90 89] (J_ (H_ 91 6) (J_ (P_ 7 (G_ [m_ 92 90,a_ 93 1 88 90,l_ 94 93,m_ 12 92,m_ 13 94] (J_ Xg (I_ 116 (O_ [m_ 117 0,m_ 118 1,m_ 119 13,F_ 120 227 [t_ 117,t_ 118,t_ 119]]) .skip)))) (O_ [C_ 121 .add 90 1,m_ 90 121]))))
def iV:ak:=(G_ [B_ 67 .lss 66 65] (J_ (H_ 67 4) (J_ (P_ 5 (G_ [a_ 68 8 64 66,L_ 69 8 68,o_ 10 (.alloc [(.int .i64 0),(.int .i64 0),(.bool false),(.int .i64 0),(.bool false),(.int .i64 0),(.int .i64 0),(.slice none 0 0)]),s_ 8 10 69] (G_ [f_ 70 1 10,l_ 71 70,C_ 72 .geq 71 0] (I_ 72 (V_ [D_ (m_ 73 0),D_ (f_ 74 1 10),D_ (l_ 75 74),D_ (m_ 76 0),D_ (L_ 77 8 10),(F_ 78 226 [t_ 76,t_ 77],[74]),(F_ 79 224 [t_ 73,t_ 75,t_ 78],[])]) .skip)))) (O_ [C_ 80 .add 66 1,m_ 66 80]))))
def iW:ak:=(G_ [B_ 38 .lss 37 36] (J_ (H_ 38 2) (J_ (P_ 3 (G_ [m_ 39 37,a_ 40 1 35 37,l_ 41 40,m_ 7 39,m_ 8 41] (G_ [m_ 42 0,o_ 43 (.aY (t_ 42)),f_ 44 6 43,l_ 45 44,m_ 46 8,m_ 47 1,o_ 48 (.build [(.int .i64 0),(.int .i64 0)] [(0,(1,(t_ 46))),(1,(1,(t_ 47)))]),o_ 49 (.look [9,1,1] (.bool false) false (t_ 45) (t_ 48))] (I_ 49 (V_ [D_ (m_ 50 0),D_ (f_ 51 0 6),D_ (l_ 52 51),D_ (m_ 53 0),D_ (f_ 54 1 6),D_ (l_ 55 54),D_ (m_ 56 7),D_ (a_ 57 2 55 56),D_ (L_ 58 2 57),(F_ 59 225 [t_ 53,t_ 58],[51]),(F_ 60 224 [t_ 50,t_ 52,t_ 59],[])]) .skip)))) (O_ [C_ 61 .add 37 1,m_ 37 61]))))
def iX:ak:=(G_ [B_ 26 .lss 25 24] (J_ (H_ 26 0) (J_ (P_ 1 (G_ [a_ 27 2 23 25,L_ 28 2 27,o_ 6 (.alloc [(.int .i64 0),(.slice none 0 0)]),s_ 2 6 28] (G_ [m_ 29 0,o_ 30 (.aY (t_ 29)),f_ 31 4 30,l_ 32 31,m_ 33 1,a_ 34 1 32 33,l_ 35 34,z_ 36 35,k_ 37 0] (Q_ 2 iW)))) (O_ [C_ 62 .add 25 1,m_ 25 62]))))
abbrev pQ:Nat:=177
def pD:ak:=(G_ [m_ 14 0,o_ 15 (.aY (t_ 14)),f_ 16 0 15,f_ 17 3 16,l_ 18 17,m_ 19 1,a_ 20 6 18 19,L_ 21 6 20,o_ 4 (.alloc [(.slice none 0 0),(.slice none 0 0),(.int .i64 0),(.bool false),(.int .i64 0),(.slice none 0 0)]),s_ 6 4 21] (J_ (G_ [f_ 22 0 4,l_ 23 22,z_ 24 23,k_ 25 0] (Q_ 0 iX)) (J_ (G_ [f_ 63 1 4,l_ 64 63,z_ 65 64,k_ 66 0] (Q_ 4 iV)) (G_ [m_ 81 0,f_ 82 2 4,f_ 83 1 82,L_ 84 2 83,F_ 85 225 [t_ 81,t_ 84],o_ 11 (.alloc [(.int .i64 0),(.int .i64 0)]),s_ 2 11 85] (G_ [f_ 86 2 4,f_ 87 3 86,l_ 88 87,z_ 89 88,k_ 90 0] (Q_ 6 iU))))))
theorem xN:FF pQ=some ⟨[],pD,.no⟩:=by kernel_rfl
abbrev iO:Nat:=178
def mP:ak:=(G_ [x_ 2 0,M_ 3 false] (J_ (V_ [D_ (l_ 4 1),(o_ 5 (.aY (t_ 4)),[]),D_ (f_ 6 5 5),D_ (l_ 7 6),D_ (f_ 8 0 2),D_ (l_ 9 8),D_ (a_ 10 2 7 9),D_ (f_ 11 0 10),D_ (l_ 12 11),(o_ 13 (.bin .eql [1] (t_ 12) (i_ 1)),[]),D_ (m_ 3 13)]) .ret))
theorem vD:FF iO=some ⟨[(.tmp 3)],mP,.no⟩:=by kernel_rfl
abbrev qQ:Nat:=179
def qB:ak:=(G_ [x_ 3 1,o_ 4 (.alloc [(.bool false),(.int .i64 0)])] (J_ (G_ [m_ 6 0,L_ 7 2 3,F_ 8 225 [t_ 6,t_ 7],o_ 5 (.alloc [(.int .i64 0),(.int .i64 0)]),s_ 2 5 8] (G_ [f_ 9 0 3,l_ 10 9,m_ 11 10,q_ 12 11 true (.bM 0 (t_ 5)),q_ 13 11 true (.load none (t_ 12)),q_ 14 11 true (.bin .eql [1] (t_ 13) (i_ 1)),o_ 15 (.pick (t_ 11) (t_ 14) (b_ false))] (I_ 15 (G_ [f_ 16 1 5,l_ 17 16,o_ 18 (.build [(.bool false),(.int .i64 0)] [(1,(1,(t_ 17)))]),s_ 2 4 18] .ret) .skip))) (G_ [L_ 19 2 3,s_ 2 4 19] .ret)))
theorem yQ:FF qQ=some ⟨[(.cell 4 (some 2))],qB,.no⟩:=by kernel_rfl
def pg:ak:=(G_ [B_ 33 .lss 32 31] (J_ (H_ 33 0) (J_ (P_ 1 (G_ [a_ 34 2 30 32,L_ 35 2 34,o_ 5 (.alloc [(.bool false),(.int .i64 0)]),s_ 2 5 35] (G_ [m_ 36 0,L_ 37 2 5,o_ 38 (.call (t_ 36) [t_ 37]),o_ 39 (.un .not (t_ 38))] (I_ 39 .ret .skip)))) (O_ [C_ 40 .add 32 1,m_ 32 40]))))
abbrev kA:Nat:=192
def x9:ak:=(G_ [f_ 6 0 1,l_ 7 6,F_ 8 193 [t_ 7],o_ 3 (.alloc [(.bool false),(.bool false),(.bool false)]),s_ 3 3 8] (J_ (G_ [f_ 9 1 3,l_ 10 9,m_ 11 10,q_ 12 11 true (.mv (t_ 0)),q_ 13 11 true (.bM 2 (t_ 1)),q_ 14 11 true (.load (some 2) (t_ 13)),q_ 15 11 true (.call (t_ 12) [t_ 14]),q_ 16 11 true (.un .not (t_ 15)),o_ 17 (.pick (t_ 11) (t_ 16) (b_ false)),m_ 18 17,q_ 19 18 false (.bM 2 (t_ 3)),q_ 20 18 false (.load none (t_ 19)),q_ 21 18 false (.mv (t_ 20)),q_ 22 21 true (.mv (t_ 0)),q_ 23 21 true (.bM 4 (t_ 1)),q_ 24 21 true (.load (some 2) (t_ 23)),q_ 25 21 true (.call (t_ 22) [t_ 24]),q_ 26 21 true (.un .not (t_ 25)),q_ 27 18 false (.pick (t_ 21) (t_ 26) (b_ false)),o_ 28 (.pick (t_ 18) (b_ true) (t_ 27))] (I_ 28 .ret .skip)) (G_ [f_ 29 7 1,l_ 30 29,z_ 31 30,k_ 32 0] (Q_ 0 pg))))
theorem FH:FF kA=some ⟨[],x9,.no⟩:=by kernel_rfl
abbrev yu:Nat:=193
def x8:ak:=(G_ [o_ 2 (.alloc [(.bool false),(.bool false),(.bool false)])] (J_ (P_ 0 (G_ [m_ 4 0,o_ 5 (.bin .eql [1] (t_ 4) (i_ 1)),m_ 6 5,q_ 7 6 false (.mv (t_ 0)),q_ 8 6 false (.bin .eql [1] (t_ 7) (i_ 16)),o_ 9 (.pick (t_ 6) (b_ true) (t_ 8)),m_ 10 9,q_ 11 10 false (.mv (t_ 0)),q_ 12 10 false (.bin .eql [1] (t_ 11) (i_ 17)),o_ 13 (.pick (t_ 10) (b_ true) (t_ 12)),m_ 14 13,q_ 15 14 false (.mv (t_ 0)),q_ 16 14 false (.bin .eql [1] (t_ 15) (i_ 18)),o_ 17 (.pick (t_ 14) (b_ true) (t_ 16)),m_ 3 17] (I_ 3 (G_ [o_ 18 (.build [(.bool false),(.bool false),(.bool false)] [(0,(1,(b_ true))),(1,(1,(b_ true))),(2,(1,(b_ false)))]),s_ 3 2 18] .ret) (G_ [m_ 20 0,C_ 21 .geq 20 2,m_ 22 21,q_ 23 22 true (.mv (t_ 0)),q_ 24 22 true (.bin .leq [] (t_ 23) (i_ 15)),o_ 25 (.pick (t_ 22) (t_ 24) (b_ false)),m_ 19 25] (I_ 19 (G_ [o_ 26 (.build [(.bool false),(.bool false),(.bool false)] [(0,(1,(b_ true))),(1,(1,(b_ true))),(2,(1,(b_ true)))]),s_ 3 2 26] .ret) (G_ [m_ 28 0,o_ 29 (.bin .eql [1] (t_ 28) (i_ 19)),m_ 27 29] (I_ 27 (G_ [o_ 30 (.build [(.bool false),(.bool false),(.bool false)] [(0,(1,(b_ false))),(1,(1,(b_ true))),(2,(1,(b_ true)))]),s_ 3 2 30] .ret) (G_ [m_ 32 0,o_ 33 (.bin .eql [1] (t_ 32) (i_ 20)),m_ 34 33,q_ 35 34 false (.mv (t_ 0)),q_ 36 34 false (.bin .eql [1] (t_ 35) (i_ 21)),o_ 37 (.pick (t_ 34) (b_ true) (t_ 36)),m_ 31 37] (I_ 31 (G_ [o_ 38 (.build [(.bool false),(.bool false),(.bool false)] [(0,(1,(b_ true))),(1,(1,(b_ false))),(2,(1,(b_ false)))]),s_ 3 2 38] .ret) (G_ [m_ 40 0,o_ 41 (.bin .eql [1] (t_ 40) (i_ 22)),m_ 39 41] (I_ 39 (G_ [o_ 42 (.build [(.bool false),(.bool false),(.bool false)] [(0,(1,(b_ false))),(1,(1,(b_ true))),(2,(1,(b_ false)))]),s_ 3 2 42] .ret) .skip))))))))))) (G_ [o_ 43 (.build [(.bool false),(.bool false),(.bool false)] []),s_ 3 2 43] .ret)))
theorem FG:FF yu=some ⟨[(.cell 2 (some 3))],x8,.no⟩:=by kernel_rfl
abbrev tc:Nat:=194
def sf:ak:=(G_ [k_ 4 0] (J_ (G_ [m_ 5 0,o_ 6 (.aY (t_ 5)),f_ 7 0 6,l_ 8 7,m_ 9 1,a_ 10 1 8 9,l_ 11 10,C_ 12 .lss 11 0] (I_ 12 (J_ (V_ [D_ (m_ 13 0),(o_ 14 (.aY (t_ 13)),[]),D_ (f_ 15 0 14),D_ (l_ 16 15),D_ (m_ 17 1),D_ (m_ 18 0),(o_ 19 (.aY (t_ 18)),[]),D_ (f_ 20 1 19),D_ (l_ 21 20),D_ (a_ 22 1 16 17),D_ (s_ 1 22 21)]) (O_ [m_ 23 0,o_ 24 (.aY (t_ 23)),f_ 25 1 24,l_ 26 25,C_ 27 .add 26 1,o_ 28 (.aY (t_ 23)),f_ 29 1 28,s_ 1 29 27])) .skip)) (G_ [m_ 30 0,o_ 31 (.aY (t_ 30)),f_ 32 0 31,l_ 33 32,m_ 34 1,a_ 35 1 33 34,l_ 36 35,m_ 4 36] .ret)))
theorem zO:FF tc=some ⟨[(.tmp 4)],sf,.no⟩:=by kernel_rfl
abbrev uA:Nat:=195
def tZ:ak:=(G_ [x_ 3 1,o_ 4 (.alloc [(.bool false),(.int .i64 0)])] (J_ (G_ [f_ 5 0 3,l_ 6 5] (I_ 6 (O_ [m_ 7 0,f_ 8 1 3,l_ 9 8,F_ 10 194 [t_ 7,t_ 9],f_ 11 1 3,s_ 1 11 10]) .skip)) (G_ [L_ 12 2 3,s_ 2 4 12] .ret)))
theorem Bc:FF uA=some ⟨[(.cell 4 (some 2))],tZ,.no⟩:=by kernel_rfl
def Jm:ak:=(V_ [D_ (m_ 79 0),(o_ 80 (.aY (t_ 79)),[]),D_ (f_ 81 3 80),D_ (l_ 82 81),D_ (m_ 83 8),D_ (a_ 84 6 82 83),D_ (f_ 85 0 84),D_ (l_ 86 85),D_ (m_ 87 13),D_ (f_ 88 1 14),D_ (l_ 89 88),D_ (m_ 90 9),D_ (m_ 91 9),D_ (C_ 92 .add 91 1),D_ (m_ 94 10),D_ (L_ 95 2 15),(o_ 96 (.cX 1 [(.bool false),(.int .i64 0)] [(0,(2,(t_ 95)))]),[]),(F_ 93 167 [t_ 89,t_ 90,t_ 92],[15,96]),(F_ 97 166 [t_ 93,t_ 94,t_ 96],[81,85]),D_ (a_ 98 2 86 87),D_ (f_ 99 1 98),D_ (s_ 1 99 97)])
def pw:ak:=(G_ [B_ 70 .lss 69 68] (J_ (H_ 70 4) (J_ (P_ 5 (G_ [m_ 71 69,a_ 72 2 67 69,L_ 73 2 72,o_ 14 (.alloc [(.int .i64 0),(.slice none 0 0)]),m_ 13 71,s_ 2 14 73] (G_ [f_ 74 1 14,l_ 75 74,m_ 76 9,a_ 77 2 75 76,L_ 78 2 77,o_ 15 (.alloc [(.bool false),(.int .i64 0)]),s_ 2 15 78] Jm))) (O_ [C_ 100 .add 69 1,m_ 69 100]))))
def px:ak:=(G_ [B_ 46 .lss 45 44] (J_ (H_ 46 2) (J_ (P_ 3 (G_ [a_ 47 1 43 45,l_ 48 47,m_ 12 48] (G_ [m_ 49 12,m_ 50 2,B_ 51 .lss 49 50,m_ 52 51,q_ 53 52 true (.mv (t_ 12)),q_ 54 52 true (.mv (t_ 1)),q_ 55 52 true (.bin .neq [1] (t_ 53) (t_ 54)),o_ 56 (.pick (t_ 52) (t_ 55) (b_ false))] (I_ 56 (O_ [m_ 57 10,C_ 58 .add 57 1,m_ 10 58]) .skip)))) (O_ [C_ 59 .add 45 1,m_ 45 59]))))
def vz:ak:=(G_ [B_ 31 .lss 30 29] (J_ (H_ 31 0) (J_ (P_ 1 (G_ [a_ 32 1 28 30,l_ 33 32,m_ 8 33] (G_ [m_ 34 6,m_ 35 8,a_ 36 1 34 35,l_ 37 36,m_ 38 1,F_ 39 162 [t_ 37,t_ 38],m_ 9 39] (G_ [k_ 10 0] (J_ (G_ [m_ 40 6,m_ 41 8,a_ 42 1 40 41,l_ 43 42,z_ 44 43,k_ 45 0] (Q_ 2 px)) (G_ [m_ 60 0,o_ 61 (.aY (t_ 60)),f_ 62 3 61,l_ 63 62,m_ 64 8,a_ 65 6 63 64,f_ 66 0 65,l_ 67 66,z_ 68 67,k_ 69 0] (Q_ 4 pw))))))) (O_ [C_ 101 .add 30 1,m_ 30 101]))))
abbrev yB:Nat:=196
def ym:ak:=(G_ [m_ 16 0,o_ 17 (.aY (t_ 16)),L_ 18 4 17,F_ 19 101 [t_ 18],m_ 6 19] (G_ [m_ 20 0,o_ 21 (.aY (t_ 20)),f_ 22 3 21,l_ 23 22,m_ 24 1,a_ 25 6 23 24,f_ 26 2 25,f_ 27 3 26,l_ 28 27,z_ 29 28,k_ 30 0] (Q_ 0 vz)))
theorem FR:FF yB=some ⟨[],ym,.no⟩:=by kernel_rfl
set_option maxRecDepth 100000
abbrev cY:Nat:=197
def cW:ak:=(G_ [m_ 5 0,z_ 6 5,m_ 4 6] (O_ [m_ 7 0,m_ 8 4,m_ 9 4,o_ 10 (.conv .u64 (t_ 9)),F_ 11 245 [t_ 10],m_ 12 1,F_ 13 244 [t_ 7,(i_ 0),t_ 8,t_ 11,t_ 12]]))
theorem eJ:FF cY=some ⟨[],cW,.no⟩:=by kernel_rfl
abbrev tF:Nat:=198
def yl:ak:=(G_ [x_ 2 0,x_ 3 1,k_ 4 0] (G_ [f_ 5 0 2,l_ 6 5,f_ 7 0 3,l_ 8 7,B_ 9 .sub 6 8,m_ 4 9] .ret))
theorem FQ:FF tF=some ⟨[(.tmp 4)],yl,.no⟩:=by kernel_rfl
def fE:ak:=(J_ (G_ [m_ 7 2,m_ 8 3,B_ 9 .lss 7 8] (H_ 9 0)) (J_ (P_ 1 (V_ [D_ (m_ 14 0),D_ (m_ 15 2),D_ (m_ 16 0),D_ (m_ 17 3),D_ (m_ 18 0),D_ (m_ 19 3),D_ (a_ 20 1 18 19),D_ (l_ 21 20),D_ (m_ 22 0),D_ (m_ 23 2),D_ (a_ 24 1 22 23),D_ (l_ 25 24),D_ (a_ 26 1 14 15),D_ (s_ 1 26 21),D_ (a_ 27 1 16 17),D_ (s_ 1 27 25)])) (O_ [m_ 10 2,C_ 11 .add 10 1,m_ 12 3,C_ 13 .sub 12 1,m_ 2 11,m_ 3 13])))
abbrev kC:Nat:=199
def ko:ak:=(G_ [m_ 4 0,z_ 5 4,C_ 6 .sub 5 1,k_ 2 0,m_ 3 6] (Q_ 0 fE))
theorem tw:FF kC=some ⟨[],ko,.no⟩:=by kernel_rfl
abbrev eC:Nat:=200
def h_:ak:=(G_ [M_ 4 false] (G_ [m_ 5 0,m_ 6 1,F_ 7 246 [t_ 5,t_ 6],C_ 8 .geq 7 0,m_ 4 8] .ret))
theorem om:FF eC=some ⟨[(.tmp 4)],h_,.no⟩:=by kernel_rfl
abbrev jD:Nat:=201
def n6:ak:=(G_ [M_ 3 false] (G_ [m_ 4 0,f_ 5 2 1,f_ 6 3 5,l_ 7 6,z_ 8 7,C_ 9 .sub 8 1,F_ 10 80 [t_ 4,(i_ 1),t_ 9],o_ 11 (.un .not (t_ 10)),m_ 3 11] .ret))
theorem v8:FF jD=some ⟨[(.tmp 3)],n6,.no⟩:=by kernel_rfl
abbrev kZ:Nat:=202
def qz:ak:=(G_ [x_ 2 0,x_ 3 1,k_ 4 0] (J_ (G_ [f_ 5 0 3,l_ 6 5,m_ 7 6,q_ 8 7 true (.bM 1 (t_ 3)),q_ 9 7 true (.load none (t_ 8)),q_ 10 7 true (.bM 2 (t_ 2)),q_ 11 7 true (.bM 2 (t_ 10)),q_ 12 7 true (.load none (t_ 11)),q_ 13 7 true (.bin .sub [] (t_ 12) (i_ 1)),q_ 14 7 true (.call (.func 80) [t_ 9,(i_ 0),t_ 13]),q_ 15 7 true (.un .not (t_ 14)),o_ 16 (.pick (t_ 7) (t_ 15) (b_ false))] (I_ 16 (G_ [k_ 4 3] .ret) .skip)) (G_ [k_ 4 0] .ret)))
theorem yP:FF kZ=some ⟨[(.tmp 4)],qz,.no⟩:=by kernel_rfl
abbrev qO:Nat:=203
def qv:ak:=(G_ [x_ 2 0,k_ 4 0] (J_ (G_ [m_ 5 1,f_ 6 2 2,f_ 7 2 6,l_ 8 7,C_ 9 .sub 8 1,F_ 10 80 [t_ 5,(i_ 0),t_ 9],o_ 11 (.un .not (t_ 10))] (I_ 11 (G_ [k_ 4 3] .ret) .skip)) (G_ [k_ 4 0] .ret)))
theorem yL:FF qO=some ⟨[(.tmp 4)],qv,.no⟩:=by kernel_rfl
def wY:ak:=(G_ [B_ 9 .lss 8 7] (J_ (H_ 9 0) (J_ (P_ 1 (G_ [a_ 10 1 6 8,l_ 11 10,m_ 4 11] (G_ [m_ 12 4,o_ 13 (.call (t_ 12) []),m_ 5 13] (G_ [m_ 14 5,o_ 15 (.bin .neq [1] (t_ 14) (i_ 0))] (I_ 15 (G_ [m_ 16 5,m_ 2 16] .ret) .skip))))) (O_ [C_ 17 .add 8 1,m_ 8 17]))))
abbrev vd:Nat:=204
def zA:ak:=(.seq (.ops [⟨(some 2),none,(.mv (.const (.int .i64 0)))⟩]) (.seq (.seq (.ops [⟨(some 6),none,(.mv (.tmp 0))⟩,⟨(some 7),none,(.uU (.tmp 6))⟩,⟨(some 8),none,(.mv (.const (.int .i64 0)))⟩]) (.block 0 (.loop wY))) (.seq (.ops [⟨(some 2),none,(.mv (.const (.int .i64 0)))⟩]) .ret)))
theorem HV:FF vd=some ⟨[(.tmp 2)],zA,.no⟩:=by kernel_rfl
abbrev fY:Nat:=205
def n7:ak:=(G_ [k_ 2 0] (G_ [L_ 3 7 0,f_ 4 2 1,L_ 5 2 4,F_ 6 202 [t_ 3,t_ 5],m_ 2 6] .ret))
theorem v9:FF fY=some ⟨[(.tmp 2)],n7,.no⟩:=by kernel_rfl
abbrev fZ:Nat:=206
def n9:ak:=(G_ [k_ 2 0] (G_ [L_ 3 7 0,f_ 4 4 1,L_ 5 2 4,F_ 6 202 [t_ 3,t_ 5],m_ 2 6] .ret))
theorem v_:FF fZ=some ⟨[(.tmp 2)],n9,.no⟩:=by kernel_rfl
def mz:ak:=(G_ [B_ 37 .lss 36 35] (J_ (H_ 37 1) (J_ (P_ 2 (G_ [a_ 38 2 34 36,L_ 39 2 38,o_ 5 (.alloc [(.bool false),(.int .i64 0)]),s_ 2 5 39] (G_ [L_ 40 7 2,L_ 41 2 5,F_ 42 202 [t_ 40,t_ 41],m_ 6 42] (G_ [m_ 43 6,o_ 44 (.bin .neq [1] (t_ 43) (i_ 0))] (I_ 44 (G_ [m_ 45 6,m_ 3 45] .ret) .skip))))) (O_ [C_ 46 .add 36 1,m_ 36 46]))))
abbrev gf:Nat:=207
def n_:ak:=(G_ [k_ 3 0] (J_ (P_ 0 (G_ [l_ 8 0,o_ 9 (.un .not (t_ 8)),m_ 7 9] (I_ 7 (G_ [k_ 3 0] .ret) (G_ [f_ 11 6 1,l_ 12 11,f_ 13 0 2,f_ 14 1 13,l_ 15 14,z_ 16 15,C_ 17 .sub 16 1,F_ 18 80 [t_ 12,(i_ 0),t_ 17],o_ 19 (.un .not (t_ 18)),m_ 10 19] (I_ 10 (G_ [k_ 3 3] .ret) (J_ (V_ [D_ (f_ 21 7 1),D_ (l_ 22 21),D_ (z_ 23 22),D_ (f_ 24 0 2),D_ (f_ 25 1 24),D_ (l_ 26 25),D_ (f_ 27 6 1),D_ (l_ 28 27),D_ (a_ 29 4 26 28),D_ (f_ 30 1 29),D_ (l_ 31 30),(o_ 32 (.bin .neq [1] (t_ 23) (t_ 31)),[]),D_ (m_ 20 32)]) (I_ 20 (G_ [k_ 3 9] .ret) .skip))))))) (J_ (G_ [f_ 33 7 1,l_ 34 33,z_ 35 34,k_ 36 0] (Q_ 1 mz)) (G_ [k_ 3 0] .ret))))
theorem we:FF gf=some ⟨[(.tmp 3)],n_,.no⟩:=by kernel_rfl
abbrev sZ:Nat:=209
def r_:ak:=(G_ [o_ 4 (.mv (.const (.int .u64 0))),o_ 5 (.mv (.const (.int .u64 0)))] (G_ [m_ 14 0,o_ 15 (.bin .and [] (t_ 14) (.const (.int .u64 4294967295))),m_ 6 15] (G_ [m_ 16 0,o_ 17 (.bin .shr [] (t_ 16) (.const (.int .u64 32))),m_ 7 17] (G_ [m_ 18 1,o_ 19 (.bin .and [] (t_ 18) (.const (.int .u64 4294967295))),m_ 8 19] (G_ [m_ 20 1,o_ 21 (.bin .shr [] (t_ 20) (.const (.int .u64 32))),m_ 9 21] (G_ [m_ 22 6,m_ 23 8,B_ 24 .mul 22 23,m_ 10 24] (G_ [m_ 25 7,m_ 26 8,B_ 27 .mul 25 26,m_ 28 10,o_ 29 (.bin .shr [] (t_ 28) (.const (.int .u64 32))),B_ 30 .add 27 29,m_ 11 30] (G_ [m_ 31 11,o_ 32 (.bin .and [] (t_ 31) (.const (.int .u64 4294967295))),m_ 12 32] (G_ [m_ 33 11,o_ 34 (.bin .shr [] (t_ 33) (.const (.int .u64 32))),m_ 13 34] (G_ [m_ 35 12,m_ 36 6,m_ 37 9,B_ 38 .mul 36 37,B_ 39 .add 35 38,m_ 12 39] (G_ [m_ 40 7,m_ 41 9,B_ 42 .mul 40 41,m_ 43 13,B_ 44 .add 42 43,m_ 45 12,o_ 46 (.bin .shr [] (t_ 45) (.const (.int .u64 32))),B_ 47 .add 44 46,m_ 4 47] (G_ [m_ 48 0,m_ 49 1,B_ 50 .mul 48 49,m_ 5 50] .ret))))))))))))
theorem zM:FF sZ=some ⟨[(.tmp 4),(.tmp 5)],r_,.no⟩:=by kernel_rfl
def ib:ak:=(J_ (G_ [m_ 7 3,C_ 8 .geq 7 0] (H_ 8 0)) (J_ (P_ 1 (G_ [m_ 11 0,m_ 12 3,l_ 13 1,m_ 14 3,a_ 15 1 13 14,l_ 16 15,o_ 17 (.call (t_ 11) [t_ 12,t_ 16]),o_ 18 (.un .not (t_ 17))] (I_ 18 .ret .skip))) (O_ [m_ 9 3,C_ 10 .sub 9 1,m_ 3 10])))
abbrev bD:Nat:=210
def je:ak:=(G_ [l_ 4 1,z_ 5 4,C_ 6 .sub 5 1,m_ 3 6] (Q_ 0 ib))
theorem p9:FF bD=some ⟨[],je,.no⟩:=by kernel_rfl
def yD:ak:=(J_ (G_ [m_ 7 2,C_ 8 .geq 7 0,m_ 9 8,q_ 10 9 true (.mv (t_ 2)),q_ 11 9 true (.mv (t_ 1)),q_ 12 9 true (.bin .neq [1] (t_ 10) (t_ 11)),o_ 13 (.pick (t_ 9) (t_ 12) (b_ false))] (H_ 13 0)) (P_ 1 (O_ [m_ 14 0,m_ 15 2,a_ 16 1 14 15,l_ 17 16,m_ 2 17])))
abbrev Ce:Nat:=211
def BJ:ak:=(G_ [M_ 6 false] (J_ (Q_ 0 yD) (G_ [m_ 18 1,m_ 19 2,o_ 20 (.bin .eql [1] (t_ 18) (t_ 19)),m_ 6 20] .ret)))
theorem Kc:FF Ce=some ⟨[(.tmp 6)],BJ,.no⟩:=by kernel_rfl
abbrev iN:Nat:=223
def mO:ak:=(G_ [M_ 4 false] (J_ (V_ [D_ (l_ 5 1),(o_ 6 (.aY (t_ 5)),[]),D_ (f_ 7 6 6),D_ (l_ 8 7),D_ (m_ 9 0),D_ (l_ 10 2),(o_ 11 (.build [(.int .i64 0),(.int .i64 0)] [(0,(1,(t_ 9))),(1,(1,(t_ 10)))]),[]),(o_ 12 (.look [9,1,1] (.bool false) false (t_ 8) (t_ 11)),[]),D_ (m_ 4 12)]) .ret))
theorem vC:FF iN=some ⟨[(.tmp 4)],mO,.no⟩:=by kernel_rfl
abbrev qR:Nat:=224
def qC:ak:=(G_ [x_ 5 2] (J_ (V_ [D_ (m_ 6 0),(o_ 7 (.aY (t_ 6)),[]),D_ (f_ 8 5 7),D_ (l_ 9 8),D_ (m_ 10 1),D_ (a_ 11 2 9 10),D_ (L_ 12 2 11),D_ (L_ 13 2 5),(F_ 14 254 [t_ 12,t_ 13],[]),D_ (s_ 2 5 14)]) (J_ (V_ [D_ (L_ 15 2 5),D_ (m_ 16 0),(o_ 17 (.aY (t_ 16)),[]),D_ (f_ 18 5 17),D_ (l_ 19 18),D_ (m_ 20 1),D_ (a_ 21 2 19 20),D_ (L_ 22 2 21),(o_ 23 (.bin .neq [9,1,1] (t_ 15) (t_ 22)),[])]) (I_ 23 (V_ [D_ (m_ 24 0),(o_ 25 (.aY (t_ 24)),[]),D_ (f_ 26 5 25),D_ (l_ 27 26),D_ (m_ 28 1),D_ (m_ 29 0),D_ (L_ 30 2 5),D_ (a_ 31 2 27 28),D_ (s_ 2 31 30),(o_ 32 (.aY (t_ 29)),[]),D_ (f_ 33 7 32),(u_ (.store 1 (t_ 33) (b_ true)),[])]) .skip))))
theorem yR:FF qR=some ⟨[],qC,.no⟩:=by kernel_rfl
abbrev ta:Nat:=225
def se:ak:=(G_ [x_ 3 1,o_ 4 (.alloc [(.int .i64 0),(.int .i64 0)])] (J_ (G_ [f_ 5 0 3,l_ 6 5] (I_ 6 (J_ (V_ [D_ (m_ 7 0),(o_ 8 (.aY (t_ 7)),[]),D_ (f_ 9 5 8),D_ (l_ 10 9),D_ (f_ 11 1 3),D_ (l_ 12 11),D_ (a_ 13 2 10 12),D_ (L_ 14 2 13),D_ (s_ 2 4 14)]) .ret) .skip)) (G_ [f_ 15 1 3,l_ 16 15,o_ 17 (.build [(.int .i64 0),(.int .i64 0)] [(0,(1,(i_ 1))),(1,(1,(t_ 16)))]),s_ 2 4 17] .ret)))
theorem zN:FF ta=some ⟨[(.cell 4 (some 2))],se,.no⟩:=by kernel_rfl
abbrev oy:Nat:=226
def oe:ak:=(G_ [x_ 3 1,o_ 4 (.alloc [(.int .i64 0),(.int .i64 0)])] (J_ (G_ [f_ 9 0 3,l_ 10 9,F_ 11 80 [t_ 10,(i_ 1),(i_ 17)],o_ 12 (.un .not (t_ 11))] (I_ 12 (G_ [o_ 13 (.build [(.int .i64 0),(.int .i64 0)] [(0,(1,(i_ 2)))]),s_ 2 4 13] .ret) .skip)) (J_ (V_ [D_ (m_ 14 0),D_ (f_ 15 2 3),D_ (L_ 16 2 15),D_ (m_ 18 0),D_ (f_ 19 4 3),D_ (L_ 20 2 19),(o_ 5 (.alloc [(.int .i64 0),(.int .i64 0)]),[]),(o_ 6 (.alloc [(.int .i64 0),(.int .i64 0)]),[]),(F_ 17 225 [t_ 14,t_ 16],[19]),(F_ 21 225 [t_ 18,t_ 20],[5,6]),D_ (s_ 2 5 17),D_ (s_ 2 6 21)]) (J_ (G_ [f_ 22 0 5,l_ 23 22,o_ 24 (.bin .eql [1] (t_ 23) (i_ 2)),m_ 25 24,q_ 26 25 false (.bM 0 (t_ 6)),q_ 27 25 false (.load none (t_ 26)),q_ 28 25 false (.bin .eql [1] (t_ 27) (i_ 2)),o_ 29 (.pick (t_ 25) (b_ true) (t_ 28))] (I_ 29 (G_ [o_ 30 (.build [(.int .i64 0),(.int .i64 0)] [(0,(1,(i_ 2)))]),s_ 2 4 30] .ret) .skip)) (J_ (G_ [f_ 31 0 5,l_ 32 31,o_ 33 (.bin .eql [1] (t_ 32) (i_ 0)),m_ 34 33,q_ 35 34 false (.bM 0 (t_ 6)),q_ 36 34 false (.load none (t_ 35)),q_ 37 34 false (.bin .eql [1] (t_ 36) (i_ 0)),o_ 38 (.pick (t_ 34) (b_ true) (t_ 37))] (I_ 38 (G_ [o_ 39 (.build [(.int .i64 0),(.int .i64 0)] []),s_ 2 4 39] .ret) .skip)) (G_ [f_ 41 0 3,l_ 42 41,f_ 43 1 5,l_ 44 43,f_ 45 1 6,l_ 46 45,F_ 47 255 [t_ 42,t_ 44,t_ 46],m_ 40 47,o_ 48 (.ext 0 (t_ 40)),o_ 49 (.ext 1 (t_ 40)),m_ 7 48,m_ 8 49] (J_ (G_ [m_ 50 8,o_ 51 (.un .not (t_ 50))] (I_ 51 (G_ [o_ 52 (.build [(.int .i64 0),(.int .i64 0)] [(0,(1,(i_ 2)))]),s_ 2 4 52] .ret) .skip)) (G_ [m_ 53 7,o_ 54 (.build [(.int .i64 0),(.int .i64 0)] [(0,(1,(i_ 1))),(1,(1,(t_ 53)))]),s_ 2 4 54] .ret))))))))
theorem wg:FF oy=some ⟨[(.cell 4 (some 2))],oe,.no⟩:=by kernel_rfl
abbrev pP:Nat:=227
def pC:ak:=(G_ [m_ 6 0,o_ 7 (.aY (t_ 6)),f_ 8 6 7,l_ 9 8,m_ 10 1,m_ 11 2,o_ 12 (.build [(.int .i64 0),(.int .i64 0)] [(0,(1,(t_ 10))),(1,(1,(t_ 11)))]),o_ 13 (.look [9,1,1] (.bool false) false (t_ 9) (t_ 12)),o_ 14 (.un .not (t_ 13))] (I_ 14 (O_ [m_ 15 0,o_ 16 (.aY (t_ 15)),f_ 17 6 16,l_ 18 17,m_ 19 1,m_ 20 2,o_ 21 (.build [(.int .i64 0),(.int .i64 0)] [(0,(1,(t_ 19))),(1,(1,(t_ 20)))]),m_ 22 0,o_ 23 (.Lv [9,1,1] (.bool false) (t_ 18) (t_ 21)),o_ 24 (.ext 1 (t_ 23)),u_ (.Ok (t_ 18) (t_ 24) (b_ true)),o_ 25 (.aY (t_ 22)),f_ 26 7 25,u_ (.store 1 (t_ 26) (b_ true))]) .skip))
theorem xM:FF pP=some ⟨[],pC,.no⟩:=by kernel_rfl
def dv:ak:=(P_ 1 (G_ [m_ 21 2,m_ 22 1,B_ 23 .sub 21 22,m_ 12 23] (J_ (G_ [m_ 24 12,C_ 25 .leq 24 12] (I_ 25 (G_ [m_ 26 0,m_ 27 1,m_ 28 2,m_ 29 4,F_ 30 265 [t_ 26,t_ 27,t_ 28,t_ 29]] .ret) .skip)) (J_ (G_ [m_ 31 3,o_ 32 (.bin .eql [1] (t_ 31) (i_ 0))] (I_ 32 (G_ [m_ 33 0,m_ 34 1,m_ 35 2,m_ 36 4,F_ 37 266 [t_ 33,t_ 34,t_ 35,t_ 36]] .ret) .skip)) (J_ (G_ [m_ 38 10,o_ 39 (.un .not (t_ 38))] (I_ 39 (G_ [m_ 40 0,m_ 41 1,m_ 42 2,m_ 43 4,F_ 44 267 [t_ 40,t_ 41,t_ 42,t_ 43]] (O_ [m_ 45 3,C_ 46 .sub 45 1,m_ 3 46])) .skip)) (G_ [m_ 48 0,m_ 49 1,m_ 50 2,m_ 51 4,F_ 52 268 [t_ 48,t_ 49,t_ 50,t_ 51],m_ 47 52,o_ 53 (.ext 0 (t_ 47)),o_ 54 (.ext 1 (t_ 47)),m_ 13 53,m_ 14 54] (J_ (G_ [m_ 55 14,o_ 56 (.bin .eql [1] (t_ 55) (i_ 2))] (I_ 56 (G_ [m_ 57 0,m_ 58 1,m_ 59 2,m_ 60 4,F_ 61 269 [t_ 57,t_ 58,t_ 59,t_ 60]] (G_ [m_ 62 2,C_ 63 .sub 62 1,m_ 64 13,m_ 65 1,B_ 66 .sub 64 65,B_ 67 .sub 63 66,m_ 13 67] (O_ [k_ 14 1]))) .skip)) (J_ (G_ [m_ 68 10,m_ 69 68,q_ 70 69 true (.mv (t_ 11)),o_ 71 (.pick (t_ 69) (t_ 70) (b_ false)),m_ 72 71,q_ 73 72 true (.mv (t_ 14)),q_ 74 72 true (.bin .eql [1] (t_ 73) (i_ 1)),o_ 75 (.pick (t_ 72) (t_ 74) (b_ false))] (I_ 75 (G_ [m_ 76 0,m_ 77 1,m_ 78 2,m_ 79 4,F_ 80 270 [t_ 76,t_ 77,t_ 78,t_ 79]] (I_ 80 .ret .skip)) .skip)) (J_ (J_ (V_ [D_ (m_ 81 1),D_ (C_ 82 .gtr 81 0),D_ (m_ 83 82),(q_ 84 83 true (.mv (t_ 4)),[]),(q_ 85 83 true (.mv (t_ 0)),[]),(q_ 86 83 true (.mv (t_ 1)),[]),(q_ 87 83 true (.bin .sub [] (t_ 86) (i_ 1)),[]),(q_ 88 83 true (.cR none 3 (t_ 85) (t_ 87)),[]),(q_ 89 83 true (.load (some 3) (t_ 88)),[]),(q_ 90 83 true (.mv (t_ 0)),[]),(q_ 91 83 true (.mv (t_ 13)),[]),(q_ 92 83 true (.cR none 3 (t_ 90) (t_ 91)),[]),(q_ 93 83 true (.load (some 3) (t_ 92)),[]),(q_ 94 83 true (.call (t_ 84) [t_ 89,t_ 93]),[]),(q_ 95 83 true (.bin .lss [] (t_ 94) (i_ 0)),[]),(q_ 96 83 true (.un .not (t_ 95)),[]),(o_ 97 (.pick (t_ 83) (t_ 96) (b_ false)),[])]) (I_ 97 (G_ [m_ 98 0,m_ 99 1,m_ 100 2,m_ 101 13,m_ 102 4,F_ 103 271 [t_ 98,t_ 99,t_ 100,t_ 101,t_ 102],m_ 15 103] (G_ [m_ 104 15,m_ 1 104] (.exit 1))) .skip)) (G_ [m_ 106 0,m_ 107 1,m_ 108 2,m_ 109 13,m_ 110 4,F_ 111 272 [t_ 106,t_ 107,t_ 108,t_ 109,t_ 110],m_ 105 111,o_ 112 (.ext 0 (t_ 105)),o_ 113 (.ext 1 (t_ 105)),m_ 16 112,m_ 17 113] (G_ [m_ 114 17,m_ 11 114] (G_ [m_ 115 16,m_ 116 1,B_ 117 .sub 115 116,m_ 118 2,m_ 119 16,B_ 120 .sub 118 119,m_ 18 117,m_ 19 120] (G_ [m_ 121 12,C_ 122 .quo 121 8,m_ 20 122] (G_ [m_ 123 18,m_ 124 19,B_ 125 .lss 123 124] (I_ 125 (G_ [m_ 126 18,m_ 127 20,B_ 128 .geq 126 127,m_ 10 128] (G_ [m_ 129 0,m_ 130 1,m_ 131 16,m_ 132 3,m_ 133 4,F_ 134 244 [t_ 129,t_ 130,t_ 131,t_ 132,t_ 133]] (O_ [m_ 135 16,C_ 136 .add 135 1,m_ 1 136]))) (G_ [m_ 137 19,m_ 138 20,B_ 139 .geq 137 138,m_ 10 139] (G_ [m_ 140 0,m_ 141 16,C_ 142 .add 141 1,m_ 143 2,m_ 144 3,m_ 145 4,F_ 146 244 [t_ 140,t_ 142,t_ 143,t_ 144,t_ 145]] (O_ [m_ 147 16,m_ 2 147]))))))))))))))))))
abbrev fM:Nat:=244
def dH:ak:=(.seq (.ops [⟨(some 10),none,(.mv (.const (.bool true)))⟩]) (.seq (.ops [⟨(some 11),none,(.mv (.const (.bool true)))⟩]) (.block 0 (.loop dv))))
theorem fJ:FF fM=some ⟨[],dH,.no⟩:=by kernel_rfl
abbrev vv:Nat:=245
def vp:ak:=(G_ [k_ 2 0] (J_ (.cond (b_ false) (G_ [m_ 3 0,o_ 4 (.conv .u32 (t_ 3)),F_ 5 273 [t_ 4],m_ 2 5] .ret) .skip) (G_ [m_ 6 0,F_ 7 274 [t_ 6],m_ 2 7] .ret)))
theorem CE:FF vv=some ⟨[(.tmp 2)],vp,.no⟩:=by kernel_rfl
def iF:ak:=(G_ [B_ 9 .lss 8 7] (J_ (H_ 9 0) (J_ (P_ 1 (G_ [m_ 10 8,m_ 5 10] (G_ [m_ 11 1,m_ 12 0,m_ 13 5,a_ 14 1 12 13,l_ 15 14,o_ 16 (.call (t_ 11) [t_ 15])] (I_ 16 (G_ [m_ 17 5,m_ 4 17] .ret) .skip)))) (O_ [C_ 18 .add 8 1,m_ 8 18]))))
abbrev jF:Nat:=246
def jq:ak:=(.seq (.ops [⟨(some 4),none,(.mv (.const (.int .i64 0)))⟩]) (.seq (.seq (.ops [⟨(some 6),none,(.mv (.tmp 0))⟩,⟨(some 7),none,(.uU (.tmp 6))⟩,⟨(some 8),none,(.mv (.const (.int .i64 0)))⟩]) (.block 0 (.loop iF))) (.seq (.ops [⟨(some 4),none,(.mv (.const (.int .i64 (Int.negSucc 0))))⟩]) .ret)))
theorem qH:FF jF=some ⟨[(.tmp 4)],jq,.no⟩:=by kernel_rfl
abbrev yz:Nat:=254
def yj:ak:=(G_ [x_ 2 0,x_ 3 1,o_ 4 (.alloc [(.int .i64 0),(.int .i64 0)])] (J_ (P_ 0 (G_ [f_ 6 0 2,l_ 7 6,o_ 8 (.bin .eql [1] (t_ 7) (i_ 0)),m_ 9 8,q_ 10 9 false (.load (some 2) (t_ 2)),q_ 11 9 false (.load (some 2) (t_ 3)),q_ 12 9 false (.bin .eql [9,1,1] (t_ 10) (t_ 11)),o_ 13 (.pick (t_ 9) (b_ true) (t_ 12)),m_ 5 13] (I_ 5 (G_ [L_ 14 2 3,s_ 2 4 14] .ret) (G_ [f_ 16 0 3,l_ 17 16,o_ 18 (.bin .eql [1] (t_ 17) (i_ 0)),m_ 15 18] (I_ 15 (G_ [L_ 19 2 2,s_ 2 4 19] .ret) .skip))))) (G_ [o_ 20 (.build [(.int .i64 0),(.int .i64 0)] [(0,(1,(i_ 2)))]),s_ 2 4 20] .ret)))
theorem FN:FF yz=some ⟨[(.cell 4 (some 2))],yj,.no⟩:=by kernel_rfl
abbrev EA:Nat:=255
def DA:ak:=(G_ [k_ 6 0,M_ 7 false] (G_ [o_ 8 (.mv (.func 276))] (J_ (G_ [m_ 9 0] (P_ 0 (G_ [o_ 11 (.bin .eql [1] (t_ 9) (i_ 1)),m_ 10 11] (I_ 10 (G_ [m_ 12 1,m_ 6 12,M_ 7 true] .ret) (G_ [o_ 14 (.bin .eql [1] (t_ 9) (i_ 2)),m_ 13 14] (I_ 13 (G_ [m_ 15 1,m_ 16 2,B_ 17 .add 15 16,m_ 6 17,M_ 7 true] .ret) (G_ [o_ 19 (.bin .eql [1] (t_ 9) (i_ 3)),m_ 18 19] (I_ 18 (G_ [m_ 20 1,m_ 21 2,B_ 22 .sub 20 21,m_ 6 22,M_ 7 true] .ret) (G_ [o_ 24 (.bin .eql [1] (t_ 9) (i_ 4)),m_ 23 24] (I_ 23 (G_ [m_ 25 1,m_ 26 2,B_ 27 .mul 25 26,m_ 6 27,M_ 7 true] .ret) (J_ (G_ [o_ 29 (.bin .eql [1] (t_ 9) (i_ 5)),m_ 28 29] (I_ 28 .skip (O_ [o_ 30 (.bin .eql [1] (t_ 9) (i_ 6)),m_ 28 30]))) (I_ 28 (J_ (G_ [m_ 31 2,o_ 32 (.bin .eql [1] (t_ 31) (i_ 0))] (I_ 32 (G_ [k_ 6 0,M_ 7 false] .ret) .skip)) (J_ (G_ [m_ 33 0,o_ 34 (.bin .eql [1] (t_ 33) (i_ 5))] (I_ 34 (G_ [m_ 35 1,m_ 36 2,B_ 37 .quo 35 36,m_ 6 37,M_ 7 true] .ret) .skip)) (G_ [m_ 38 1,m_ 39 2,B_ 40 .rem 38 39,m_ 6 40,M_ 7 true] .ret))) (G_ [o_ 42 (.bin .eql [1] (t_ 9) (i_ 7)),m_ 41 42] (I_ 41 (G_ [m_ 43 1,m_ 44 2,B_ 45 .and 43 44,m_ 6 45,M_ 7 true] .ret) (G_ [o_ 47 (.bin .eql [1] (t_ 9) (i_ 8)),m_ 46 47] (I_ 46 (G_ [m_ 48 1,m_ 49 2,B_ 50 .or 48 49,m_ 6 50,M_ 7 true] .ret) (G_ [o_ 52 (.bin .eql [1] (t_ 9) (i_ 9)),m_ 51 52] (I_ 51 (G_ [m_ 53 1,m_ 54 2,B_ 55 .xor 53 54,m_ 6 55,M_ 7 true] .ret) (G_ [o_ 57 (.bin .eql [1] (t_ 9) (i_ 10)),m_ 56 57] (I_ 56 (G_ [m_ 58 1,m_ 59 2,C_ 60 .and 59 63,B_ 61 .shl 58 60,m_ 6 61,M_ 7 true] .ret) (G_ [o_ 63 (.bin .eql [1] (t_ 9) (i_ 11)),m_ 62 63] (I_ 62 (G_ [m_ 64 1,m_ 65 2,C_ 66 .and 65 63,B_ 67 .shr 64 66,m_ 6 67,M_ 7 true] .ret) (G_ [o_ 69 (.bin .eql [1] (t_ 9) (i_ 12)),m_ 68 69] (I_ 68 (G_ [m_ 70 8,m_ 71 1,m_ 72 2,o_ 73 (.bin .eql [1] (t_ 71) (t_ 72)),o_ 74 (.call (t_ 70) [t_ 73]),m_ 6 74,M_ 7 true] .ret) (G_ [o_ 76 (.bin .eql [1] (t_ 9) (i_ 13)),m_ 75 76] (I_ 75 (G_ [m_ 77 8,m_ 78 1,m_ 79 2,o_ 80 (.bin .neq [1] (t_ 78) (t_ 79)),o_ 81 (.call (t_ 77) [t_ 80]),m_ 6 81,M_ 7 true] .ret) (G_ [o_ 83 (.bin .eql [1] (t_ 9) (i_ 14)),m_ 82 83] (I_ 82 (G_ [m_ 84 8,m_ 85 1,m_ 86 2,B_ 87 .lss 85 86,o_ 88 (.call (t_ 84) [t_ 87]),m_ 6 88,M_ 7 true] .ret) (G_ [o_ 90 (.bin .eql [1] (t_ 9) (i_ 15)),m_ 89 90] (I_ 89 (G_ [m_ 91 8,m_ 92 1,m_ 93 2,B_ 94 .leq 92 93,o_ 95 (.call (t_ 91) [t_ 94]),m_ 6 95,M_ 7 true] .ret) (G_ [o_ 97 (.bin .eql [1] (t_ 9) (i_ 16)),m_ 96 97] (I_ 96 (G_ [m_ 98 1,o_ 99 (.un .neg (t_ 98)),m_ 6 99,M_ 7 true] .ret) (G_ [o_ 101 (.bin .eql [1] (t_ 9) (i_ 17)),m_ 100 101] (I_ 100 (G_ [m_ 102 1,o_ 103 (.un .xor (t_ 102)),m_ 6 103,M_ 7 true] .ret) .skip)))))))))))))))))))))))))))))))))) (G_ [k_ 6 0,M_ 7 true] .ret))))
theorem M5:FF EA=some ⟨[(.tmp 6),(.tmp 7)],DA,.no⟩:=by kernel_rfl
def cE:ak:=(J_ (J_ (V_ [D_ (m_ 18 9),D_ (m_ 19 1),D_ (B_ 20 .gtr 18 19),D_ (m_ 21 20),(q_ 22 21 true (.mv (t_ 3)),[]),(q_ 23 21 true (.mv (t_ 0)),[]),(q_ 24 21 true (.mv (t_ 9)),[]),(q_ 25 21 true (.cR none 3 (t_ 23) (t_ 24)),[]),(q_ 26 21 true (.load (some 3) (t_ 25)),[]),(q_ 27 21 true (.mv (t_ 0)),[]),(q_ 28 21 true (.mv (t_ 9)),[]),(q_ 29 21 true (.bin .sub [] (t_ 28) (i_ 1)),[]),(q_ 30 21 true (.cR none 3 (t_ 27) (t_ 29)),[]),(q_ 31 21 true (.load (some 3) (t_ 30)),[]),(q_ 32 21 true (.call (t_ 22) [t_ 26,t_ 31]),[]),(q_ 33 21 true (.bin .lss [] (t_ 32) (i_ 0)),[]),(o_ 34 (.pick (t_ 21) (t_ 33) (b_ false)),[])]) (H_ 34 2)) (J_ (P_ 3 (V_ [D_ (m_ 37 0),D_ (m_ 38 9),D_ (m_ 39 0),D_ (m_ 40 9),D_ (C_ 41 .sub 40 1),D_ (m_ 42 0),D_ (m_ 43 9),D_ (C_ 44 .sub 43 1),D_ (a_ 45 3 42 44),D_ (L_ 46 3 45),D_ (m_ 47 0),D_ (m_ 48 9),D_ (a_ 49 3 47 48),D_ (L_ 50 3 49),D_ (a_ 51 3 37 38),D_ (s_ 3 51 46),D_ (a_ 52 3 39 41),D_ (s_ 3 52 50)])) (O_ [m_ 35 9,C_ 36 .sub 35 1,m_ 9 36])))
def cG:ak:=(J_ (G_ [m_ 12 8,m_ 13 2,B_ 14 .lss 12 13] (H_ 14 0)) (J_ (P_ 1 (G_ [m_ 17 8,m_ 9 17] (Q_ 2 cE))) (O_ [m_ 15 8,C_ 16 .add 15 1,m_ 8 16])))
abbrev ep:Nat:=265
def cM:ak:=(.seq (.ops [⟨(some 10),none,(.mv (.tmp 1))⟩,⟨(some 11),none,(.bin .add [] (.tmp 10) (.const (.int .i64 1)))⟩,⟨(some 8),none,(.mv (.tmp 11))⟩]) (.block 0 (.loop cG)))
theorem ee:FF ep=some ⟨[],cM,.no⟩:=by kernel_rfl
def eY:ak:=(J_ (G_ [m_ 32 12,C_ 33 .geq 32 0] (H_ 33 2)) (J_ (P_ 3 (J_ (V_ [D_ (m_ 36 0),D_ (m_ 37 8),D_ (m_ 38 0),D_ (m_ 39 8),D_ (m_ 40 12),D_ (B_ 41 .add 39 40),D_ (m_ 42 0),D_ (m_ 43 8),D_ (m_ 44 12),D_ (B_ 45 .add 43 44),D_ (a_ 46 3 42 45),D_ (L_ 47 3 46),D_ (m_ 48 0),D_ (m_ 49 8),D_ (a_ 50 3 48 49),D_ (L_ 51 3 50),D_ (a_ 52 3 36 37),D_ (s_ 3 52 47),D_ (a_ 53 3 38 41),D_ (s_ 3 53 51)]) (O_ [m_ 54 0,m_ 55 9,m_ 56 12,m_ 57 8,m_ 58 3,F_ 59 277 [t_ 54,t_ 55,t_ 56,t_ 57,t_ 58]]))) (O_ [m_ 34 12,C_ 35 .sub 34 1,m_ 12 35])))
def eZ:ak:=(J_ (G_ [m_ 20 11,C_ 21 .geq 20 0] (H_ 21 0)) (J_ (P_ 1 (O_ [m_ 24 0,m_ 25 11,m_ 26 10,m_ 27 8,m_ 28 3,F_ 29 277 [t_ 24,t_ 25,t_ 26,t_ 27,t_ 28]])) (O_ [m_ 22 11,C_ 23 .sub 22 1,m_ 11 23])))
abbrev fC:Nat:=266
def fy:ak:=(G_ [m_ 13 1,m_ 8 13] (G_ [k_ 9 0] (G_ [m_ 14 2,m_ 15 1,B_ 16 .sub 14 15,m_ 10 16] (J_ (G_ [m_ 17 10,C_ 18 .sub 17 1,C_ 19 .quo 18 2,m_ 11 19] (Q_ 0 eZ)) (G_ [m_ 30 10,C_ 31 .sub 30 1,m_ 12 31] (Q_ 2 eY))))))
theorem kV:FF fC=some ⟨[],fy,.no⟩:=by kernel_rfl
def dQ:ak:=(J_ (G_ [m_ 28 11,m_ 29 1,m_ 30 8,C_ 31 .quo 30 4,C_ 32 .mul 31 2,B_ 33 .add 29 32,C_ 34 .add 33 1,B_ 35 .leq 28 34] (H_ 35 0)) (J_ (P_ 1 (G_ [F_ 38 279 [t_ 9],m_ 39 10,o_ 40 (.bin .sub [] (t_ 39) (.const (.int .u64 1))),B_ 41 .and 38 40,o_ 42 (.conv .i64 (t_ 41)),m_ 12 42] (J_ (G_ [m_ 43 12,m_ 44 8,B_ 45 .geq 43 44] (I_ 45 (O_ [m_ 46 12,m_ 47 8,B_ 48 .sub 46 47,m_ 12 48]) .skip)) (V_ [D_ (m_ 49 0),D_ (m_ 50 11),D_ (m_ 51 0),D_ (m_ 52 1),D_ (m_ 53 12),D_ (B_ 54 .add 52 53),D_ (m_ 55 0),D_ (m_ 56 1),D_ (m_ 57 12),D_ (B_ 58 .add 56 57),D_ (a_ 59 3 55 58),D_ (L_ 60 3 59),D_ (m_ 61 0),D_ (m_ 62 11),D_ (a_ 63 3 61 62),D_ (L_ 64 3 63),D_ (a_ 65 3 49 50),D_ (s_ 3 65 60),D_ (a_ 66 3 51 54),D_ (s_ 3 66 64)])))) (O_ [m_ 36 11,C_ 37 .add 36 1,m_ 11 37])))
abbrev eo:Nat:=267
def ec:ak:=(G_ [m_ 13 2,m_ 14 1,B_ 15 .sub 13 14,m_ 8 15] (G_ [m_ 16 8,C_ 17 .geq 16 8] (I_ 17 (G_ [m_ 18 8,o_ 19 (.conv .u64 (t_ 18)),o_ 9 (.alloc [(.int .u64 0)]),s_ 1 9 19] (G_ [m_ 20 8,F_ 21 278 [t_ 20],m_ 10 21] (G_ [m_ 22 1,m_ 23 8,C_ 24 .quo 23 4,C_ 25 .mul 24 2,B_ 26 .add 22 25,C_ 27 .sub 26 1,m_ 11 27] (Q_ 0 dQ)))) .skip)))
theorem jh:FF eo=some ⟨[],ec,.no⟩:=by kernel_rfl
abbrev eN:Nat:=268
def eI:ak:=(G_ [k_ 8 0,k_ 9 0] (G_ [m_ 15 2,m_ 16 1,B_ 17 .sub 15 16,m_ 10 17] (G_ [o_ 11 (.alloc [(.int .i64 0)])] (G_ [m_ 18 1,m_ 19 10,C_ 20 .quo 19 4,C_ 21 .mul 20 1,B_ 22 .add 18 21,m_ 12 22] (G_ [m_ 23 1,m_ 24 10,C_ 25 .quo 24 4,C_ 26 .mul 25 2,B_ 27 .add 23 26,m_ 13 27] (G_ [m_ 28 1,m_ 29 10,C_ 30 .quo 29 4,C_ 31 .mul 30 3,B_ 32 .add 28 31,m_ 14 32] (J_ (G_ [m_ 33 10,C_ 34 .geq 33 8] (I_ 34 (J_ (G_ [m_ 35 10,C_ 36 .geq 35 50] (I_ 36 (G_ [m_ 37 0,m_ 38 12,m_ 39 3,F_ 40 280 [t_ 37,t_ 38,t_ 11,t_ 39],m_ 12 40] (G_ [m_ 41 0,m_ 42 13,m_ 43 3,F_ 44 280 [t_ 41,t_ 42,t_ 11,t_ 43],m_ 13 44] (O_ [m_ 45 0,m_ 46 14,m_ 47 3,F_ 48 280 [t_ 45,t_ 46,t_ 11,t_ 47],m_ 14 48]))) .skip)) (O_ [m_ 49 0,m_ 50 12,m_ 51 13,m_ 52 14,m_ 53 3,F_ 54 281 [t_ 49,t_ 50,t_ 51,t_ 52,t_ 11,t_ 53],m_ 13 54])) .skip)) (G_ [l_ 55 11] (P_ 0 (G_ [o_ 58 (.bin .eql [1] (t_ 55) (i_ 0)),m_ 57 58] (I_ 57 (G_ [m_ 59 13,m_ 8 59,k_ 9 1] .ret) (G_ [o_ 61 (.bin .eql [1] (t_ 55) (i_ 12)),m_ 60 61] (I_ 60 (G_ [m_ 62 13,m_ 8 62,k_ 9 2] .ret) (G_ [m_ 56 13,m_ 8 56,k_ 9 0] .ret))))))))))))))
theorem jP:FF eN=some ⟨[(.tmp 8),(.tmp 9)],eI,.no⟩:=by kernel_rfl
def dW:ak:=(J_ (G_ [m_ 13 8,m_ 14 9,B_ 15 .lss 13 14] (H_ 15 0)) (P_ 1 (J_ (V_ [D_ (m_ 16 0),D_ (m_ 17 8),D_ (m_ 18 0),D_ (m_ 19 9),D_ (m_ 20 0),D_ (m_ 21 9),D_ (a_ 22 3 20 21),D_ (L_ 23 3 22),D_ (m_ 24 0),D_ (m_ 25 8),D_ (a_ 26 3 24 25),D_ (L_ 27 3 26),D_ (a_ 28 3 16 17),D_ (s_ 3 28 23),D_ (a_ 29 3 18 19),D_ (s_ 3 29 27)]) (G_ [m_ 30 8,C_ 31 .add 30 1,m_ 8 31] (O_ [m_ 32 9,C_ 33 .sub 32 1,m_ 9 33])))))
abbrev eD:Nat:=269
def eA:ak:=(G_ [m_ 10 1,m_ 8 10] (G_ [m_ 11 2,C_ 12 .sub 11 1,m_ 9 12] (Q_ 0 dW)))
theorem jr:FF eD=some ⟨[],eA,.no⟩:=by kernel_rfl
def fP:ak:=(J_ (G_ [m_ 107 12,m_ 108 2,B_ 109 .lss 107 108] (H_ 109 6)) (J_ (P_ 7 (J_ (J_ (V_ [D_ (m_ 112 3),D_ (m_ 113 0),D_ (m_ 114 12),D_ (a_ 115 3 113 114),D_ (L_ 116 3 115),D_ (m_ 117 0),D_ (m_ 118 12),D_ (C_ 119 .sub 118 1),D_ (a_ 120 3 117 119),D_ (L_ 121 3 120),(o_ 122 (.call (t_ 112) [t_ 116,t_ 121]),[]),D_ (C_ 123 .lss 122 0),(o_ 124 (.un .not (t_ 123)),[])]) (I_ 124 (.exit 6) .skip)) (V_ [D_ (m_ 125 0),D_ (m_ 126 12),D_ (m_ 127 0),D_ (m_ 128 12),D_ (C_ 129 .sub 128 1),D_ (m_ 130 0),D_ (m_ 131 12),D_ (C_ 132 .sub 131 1),D_ (a_ 133 3 130 132),D_ (L_ 134 3 133),D_ (m_ 135 0),D_ (m_ 136 12),D_ (a_ 137 3 135 136),D_ (L_ 138 3 137),D_ (a_ 139 3 125 126),D_ (s_ 3 139 134),D_ (a_ 140 3 127 129),D_ (s_ 3 140 138)]))) (O_ [m_ 110 12,C_ 111 .add 110 1,m_ 12 111])))
def fQ:ak:=(J_ (G_ [m_ 68 11,C_ 69 .geq 68 1] (H_ 69 4)) (J_ (P_ 5 (J_ (J_ (V_ [D_ (m_ 72 3),D_ (m_ 73 0),D_ (m_ 74 11),D_ (a_ 75 3 73 74),D_ (L_ 76 3 75),D_ (m_ 77 0),D_ (m_ 78 11),D_ (C_ 79 .sub 78 1),D_ (a_ 80 3 77 79),D_ (L_ 81 3 80),(o_ 82 (.call (t_ 72) [t_ 76,t_ 81]),[]),D_ (C_ 83 .lss 82 0),(o_ 84 (.un .not (t_ 83)),[])]) (I_ 84 (.exit 4) .skip)) (V_ [D_ (m_ 85 0),D_ (m_ 86 11),D_ (m_ 87 0),D_ (m_ 88 11),D_ (C_ 89 .sub 88 1),D_ (m_ 90 0),D_ (m_ 91 11),D_ (C_ 92 .sub 91 1),D_ (a_ 93 3 90 92),D_ (L_ 94 3 93),D_ (m_ 95 0),D_ (m_ 96 11),D_ (a_ 97 3 95 96),D_ (L_ 98 3 97),D_ (a_ 99 3 85 86),D_ (s_ 3 99 94),D_ (a_ 100 3 87 89),D_ (s_ 3 100 98)]))) (O_ [m_ 70 11,C_ 71 .sub 70 1,m_ 11 71])))
def di:ak:=(J_ (J_ (V_ [D_ (m_ 19 9),D_ (m_ 20 2),D_ (B_ 21 .lss 19 20),D_ (m_ 22 21),(q_ 23 22 true (.mv (t_ 3)),[]),(q_ 24 22 true (.mv (t_ 0)),[]),(q_ 25 22 true (.mv (t_ 9)),[]),(q_ 26 22 true (.cR none 3 (t_ 24) (t_ 25)),[]),(q_ 27 22 true (.load (some 3) (t_ 26)),[]),(q_ 28 22 true (.mv (t_ 0)),[]),(q_ 29 22 true (.mv (t_ 9)),[]),(q_ 30 22 true (.bin .sub [] (t_ 29) (i_ 1)),[]),(q_ 31 22 true (.cR none 3 (t_ 28) (t_ 30)),[]),(q_ 32 22 true (.load (some 3) (t_ 31)),[]),(q_ 33 22 true (.call (t_ 23) [t_ 27,t_ 32]),[]),(q_ 34 22 true (.bin .lss [] (t_ 33) (i_ 0)),[]),(q_ 35 22 true (.un .not (t_ 34)),[]),(o_ 36 (.pick (t_ 22) (t_ 35) (b_ false)),[])]) (H_ 36 2)) (P_ 3 (O_ [m_ 37 9,C_ 38 .add 37 1,m_ 9 38])))
def dj:ak:=(J_ (G_ [m_ 15 10,C_ 16 .lss 15 5] (H_ 16 0)) (J_ (P_ 1 (J_ (Q_ 2 di) (J_ (G_ [m_ 39 9,m_ 40 2,o_ 41 (.bin .eql [1] (t_ 39) (t_ 40))] (I_ 41 (G_ [M_ 8 true] .ret) .skip)) (J_ (G_ [m_ 42 2,m_ 43 1,B_ 44 .sub 42 43,C_ 45 .lss 44 50] (I_ 45 (G_ [M_ 8 false] .ret) .skip)) (J_ (V_ [D_ (m_ 46 0),D_ (m_ 47 9),D_ (m_ 48 0),D_ (m_ 49 9),D_ (C_ 50 .sub 49 1),D_ (m_ 51 0),D_ (m_ 52 9),D_ (C_ 53 .sub 52 1),D_ (a_ 54 3 51 53),D_ (L_ 55 3 54),D_ (m_ 56 0),D_ (m_ 57 9),D_ (a_ 58 3 56 57),D_ (L_ 59 3 58),D_ (a_ 60 3 46 47),D_ (s_ 3 60 55),D_ (a_ 61 3 48 50),D_ (s_ 3 61 59)]) (J_ (G_ [m_ 62 9,m_ 63 1,B_ 64 .sub 62 63,C_ 65 .geq 64 2] (I_ 65 (G_ [m_ 66 9,C_ 67 .sub 66 1,m_ 11 67] (Q_ 4 fQ)) .skip)) (G_ [m_ 101 2,m_ 102 9,B_ 103 .sub 101 102,C_ 104 .geq 103 2] (I_ 104 (G_ [m_ 105 9,C_ 106 .add 105 1,m_ 12 106] (Q_ 6 fP)) .skip)))))))) (O_ [m_ 17 10,C_ 18 .add 17 1,m_ 10 18])))
abbrev du:Nat:=270
def dt:ak:=(.seq (.ops [⟨(some 8),none,(.mv (.const (.bool false)))⟩]) (.seq (.ops [⟨(some 13),none,(.mv (.tmp 1))⟩,⟨(some 14),none,(.bin .add [] (.tmp 13) (.const (.int .i64 1)))⟩,⟨(some 9),none,(.mv (.tmp 14))⟩]) (.seq (.seq (.ops [⟨(some 10),none,(.mv (.const (.int .i64 0)))⟩]) (.block 0 (.loop dj))) (.seq (.ops [⟨(some 8),none,(.mv (.const (.bool false)))⟩]) .ret))))
theorem gq:FF du=some ⟨[(.tmp 8)],dt,.no⟩:=by kernel_rfl
def cA:ak:=(J_ (J_ (V_ [D_ (m_ 50 11),D_ (m_ 51 12),D_ (B_ 52 .leq 50 51),D_ (m_ 53 52),(q_ 54 53 true (.mv (t_ 4)),[]),(q_ 55 53 true (.mv (t_ 0)),[]),(q_ 56 53 true (.mv (t_ 1)),[]),(q_ 57 53 true (.cR none 3 (t_ 55) (t_ 56)),[]),(q_ 58 53 true (.load (some 3) (t_ 57)),[]),(q_ 59 53 true (.mv (t_ 0)),[]),(q_ 60 53 true (.mv (t_ 12)),[]),(q_ 61 53 true (.cR none 3 (t_ 59) (t_ 60)),[]),(q_ 62 53 true (.load (some 3) (t_ 61)),[]),(q_ 63 53 true (.call (t_ 54) [t_ 58,t_ 62]),[]),(q_ 64 53 true (.bin .lss [] (t_ 63) (i_ 0)),[]),(o_ 65 (.pick (t_ 53) (t_ 64) (b_ false)),[])]) (H_ 65 4)) (P_ 5 (O_ [m_ 66 12,C_ 67 .sub 66 1,m_ 12 67])))
def cC:ak:=(J_ (J_ (V_ [D_ (m_ 31 11),D_ (m_ 32 12),D_ (B_ 33 .leq 31 32),D_ (m_ 34 33),(q_ 35 34 true (.mv (t_ 4)),[]),(q_ 36 34 true (.mv (t_ 0)),[]),(q_ 37 34 true (.mv (t_ 1)),[]),(q_ 38 34 true (.cR none 3 (t_ 36) (t_ 37)),[]),(q_ 39 34 true (.load (some 3) (t_ 38)),[]),(q_ 40 34 true (.mv (t_ 0)),[]),(q_ 41 34 true (.mv (t_ 11)),[]),(q_ 42 34 true (.cR none 3 (t_ 40) (t_ 41)),[]),(q_ 43 34 true (.load (some 3) (t_ 42)),[]),(q_ 44 34 true (.call (t_ 35) [t_ 39,t_ 43]),[]),(q_ 45 34 true (.bin .lss [] (t_ 44) (i_ 0)),[]),(q_ 46 34 true (.un .not (t_ 45)),[]),(o_ 47 (.pick (t_ 34) (t_ 46) (b_ false)),[])]) (H_ 47 2)) (P_ 3 (O_ [m_ 48 11,C_ 49 .add 48 1,m_ 11 49])))
def dN:ak:=(P_ 1 (J_ (Q_ 2 cC) (J_ (Q_ 4 cA) (J_ (G_ [m_ 68 11,m_ 69 12,B_ 70 .gtr 68 69] (I_ 70 (.exit 0) .skip)) (J_ (V_ [D_ (m_ 71 0),D_ (m_ 72 11),D_ (m_ 73 0),D_ (m_ 74 12),D_ (m_ 75 0),D_ (m_ 76 12),D_ (a_ 77 3 75 76),D_ (L_ 78 3 77),D_ (m_ 79 0),D_ (m_ 80 11),D_ (a_ 81 3 79 80),D_ (L_ 82 3 81),D_ (a_ 83 3 71 72),D_ (s_ 3 83 78),D_ (a_ 84 3 73 74),D_ (s_ 3 84 82)]) (G_ [m_ 85 11,C_ 86 .add 85 1,m_ 11 86] (O_ [m_ 87 12,C_ 88 .sub 87 1,m_ 12 88])))))))
abbrev dV:Nat:=271
def dU:ak:=(G_ [k_ 10 0] (J_ (V_ [D_ (m_ 13 0),D_ (m_ 14 1),D_ (m_ 15 0),D_ (m_ 16 3),D_ (m_ 17 0),D_ (m_ 18 3),D_ (a_ 19 3 17 18),D_ (L_ 20 3 19),D_ (m_ 21 0),D_ (m_ 22 1),D_ (a_ 23 3 21 22),D_ (L_ 24 3 23),D_ (a_ 25 3 13 14),D_ (s_ 3 25 20),D_ (a_ 26 3 15 16),D_ (s_ 3 26 24)]) (G_ [m_ 27 1,C_ 28 .add 27 1,m_ 29 2,C_ 30 .sub 29 1,m_ 11 28,m_ 12 30] (J_ (Q_ 0 dN) (G_ [m_ 89 11,m_ 10 89] .ret)))))
theorem iJ:FF dV=some ⟨[(.tmp 10)],dU,.no⟩:=by kernel_rfl
def c7:ak:=(J_ (J_ (V_ [D_ (m_ 123 12),D_ (m_ 124 13),D_ (B_ 125 .leq 123 124),D_ (m_ 126 125),(q_ 127 126 true (.mv (t_ 4)),[]),(q_ 128 126 true (.mv (t_ 0)),[]),(q_ 129 126 true (.mv (t_ 13)),[]),(q_ 130 126 true (.cR none 3 (t_ 128) (t_ 129)),[]),(q_ 131 126 true (.load (some 3) (t_ 130)),[]),(q_ 132 126 true (.mv (t_ 0)),[]),(q_ 133 126 true (.mv (t_ 1)),[]),(q_ 134 126 true (.cR none 3 (t_ 132) (t_ 133)),[]),(q_ 135 126 true (.load (some 3) (t_ 134)),[]),(q_ 136 126 true (.call (t_ 127) [t_ 131,t_ 135]),[]),(q_ 137 126 true (.bin .lss [] (t_ 136) (i_ 0)),[]),(q_ 138 126 true (.un .not (t_ 137)),[]),(o_ 139 (.pick (t_ 126) (t_ 138) (b_ false)),[])]) (H_ 139 8)) (P_ 9 (O_ [m_ 140 13,C_ 141 .sub 140 1,m_ 13 141])))
def c_:ak:=(J_ (J_ (V_ [D_ (m_ 105 12),D_ (m_ 106 13),D_ (B_ 107 .leq 105 106),D_ (m_ 108 107),(q_ 109 108 true (.mv (t_ 4)),[]),(q_ 110 108 true (.mv (t_ 0)),[]),(q_ 111 108 true (.mv (t_ 12)),[]),(q_ 112 108 true (.cR none 3 (t_ 110) (t_ 111)),[]),(q_ 113 108 true (.load (some 3) (t_ 112)),[]),(q_ 114 108 true (.mv (t_ 0)),[]),(q_ 115 108 true (.mv (t_ 1)),[]),(q_ 116 108 true (.cR none 3 (t_ 114) (t_ 115)),[]),(q_ 117 108 true (.load (some 3) (t_ 116)),[]),(q_ 118 108 true (.call (t_ 109) [t_ 113,t_ 117]),[]),(q_ 119 108 true (.bin .lss [] (t_ 118) (i_ 0)),[]),(o_ 120 (.pick (t_ 108) (t_ 119) (b_ false)),[])]) (H_ 120 6)) (P_ 7 (O_ [m_ 121 12,C_ 122 .add 121 1,m_ 12 122])))
def eO:ak:=(P_ 5 (J_ (Q_ 6 c_) (J_ (Q_ 8 c7) (J_ (G_ [m_ 142 12,m_ 143 13,B_ 144 .gtr 142 143] (I_ 144 (.exit 4) .skip)) (J_ (V_ [D_ (m_ 145 0),D_ (m_ 146 12),D_ (m_ 147 0),D_ (m_ 148 13),D_ (m_ 149 0),D_ (m_ 150 13),D_ (a_ 151 3 149 150),D_ (L_ 152 3 151),D_ (m_ 153 0),D_ (m_ 154 12),D_ (a_ 155 3 153 154),D_ (L_ 156 3 155),D_ (a_ 157 3 145 146),D_ (s_ 3 157 152),D_ (a_ 158 3 147 148),D_ (s_ 3 158 156)]) (G_ [m_ 159 12,C_ 160 .add 159 1,m_ 12 160] (O_ [m_ 161 13,C_ 162 .sub 161 1,m_ 13 162])))))))
def de:ak:=(J_ (J_ (V_ [D_ (m_ 50 12),D_ (m_ 51 13),D_ (B_ 52 .leq 50 51),D_ (m_ 53 52),(q_ 54 53 true (.mv (t_ 4)),[]),(q_ 55 53 true (.mv (t_ 0)),[]),(q_ 56 53 true (.mv (t_ 13)),[]),(q_ 57 53 true (.cR none 3 (t_ 55) (t_ 56)),[]),(q_ 58 53 true (.load (some 3) (t_ 57)),[]),(q_ 59 53 true (.mv (t_ 0)),[]),(q_ 60 53 true (.mv (t_ 1)),[]),(q_ 61 53 true (.cR none 3 (t_ 59) (t_ 60)),[]),(q_ 62 53 true (.load (some 3) (t_ 61)),[]),(q_ 63 53 true (.call (t_ 54) [t_ 58,t_ 62]),[]),(q_ 64 53 true (.bin .lss [] (t_ 63) (i_ 0)),[]),(q_ 65 53 true (.un .not (t_ 64)),[]),(o_ 66 (.pick (t_ 53) (t_ 65) (b_ false)),[])]) (H_ 66 2)) (P_ 3 (O_ [m_ 67 13,C_ 68 .sub 67 1,m_ 13 68])))
def df:ak:=(J_ (J_ (V_ [D_ (m_ 32 12),D_ (m_ 33 13),D_ (B_ 34 .leq 32 33),D_ (m_ 35 34),(q_ 36 35 true (.mv (t_ 4)),[]),(q_ 37 35 true (.mv (t_ 0)),[]),(q_ 38 35 true (.mv (t_ 12)),[]),(q_ 39 35 true (.cR none 3 (t_ 37) (t_ 38)),[]),(q_ 40 35 true (.load (some 3) (t_ 39)),[]),(q_ 41 35 true (.mv (t_ 0)),[]),(q_ 42 35 true (.mv (t_ 1)),[]),(q_ 43 35 true (.cR none 3 (t_ 41) (t_ 42)),[]),(q_ 44 35 true (.load (some 3) (t_ 43)),[]),(q_ 45 35 true (.call (t_ 36) [t_ 40,t_ 44]),[]),(q_ 46 35 true (.bin .lss [] (t_ 45) (i_ 0)),[]),(o_ 47 (.pick (t_ 35) (t_ 46) (b_ false)),[])]) (H_ 47 0)) (P_ 1 (O_ [m_ 48 12,C_ 49 .add 48 1,m_ 12 49])))
abbrev ft:Nat:=272
def fh:ak:=(G_ [k_ 10 0,M_ 11 false] (J_ (V_ [D_ (m_ 14 0),D_ (m_ 15 1),D_ (m_ 16 0),D_ (m_ 17 3),D_ (m_ 18 0),D_ (m_ 19 3),D_ (a_ 20 3 18 19),D_ (L_ 21 3 20),D_ (m_ 22 0),D_ (m_ 23 1),D_ (a_ 24 3 22 23),D_ (L_ 25 3 24),D_ (a_ 26 3 14 15),D_ (s_ 3 26 21),D_ (a_ 27 3 16 17),D_ (s_ 3 27 25)]) (G_ [m_ 28 1,C_ 29 .add 28 1,m_ 30 2,C_ 31 .sub 30 1,m_ 12 29,m_ 13 31] (J_ (Q_ 0 df) (J_ (Q_ 2 de) (J_ (G_ [m_ 69 12,m_ 70 13,B_ 71 .gtr 69 70] (I_ 71 (J_ (V_ [D_ (m_ 72 0),D_ (m_ 73 13),D_ (m_ 74 0),D_ (m_ 75 1),D_ (m_ 76 0),D_ (m_ 77 1),D_ (a_ 78 3 76 77),D_ (L_ 79 3 78),D_ (m_ 80 0),D_ (m_ 81 13),D_ (a_ 82 3 80 81),D_ (L_ 83 3 82),D_ (a_ 84 3 72 73),D_ (s_ 3 84 79),D_ (a_ 85 3 74 75),D_ (s_ 3 85 83)]) (G_ [m_ 86 13,m_ 10 86,M_ 11 true] .ret)) .skip)) (J_ (V_ [D_ (m_ 87 0),D_ (m_ 88 12),D_ (m_ 89 0),D_ (m_ 90 13),D_ (m_ 91 0),D_ (m_ 92 13),D_ (a_ 93 3 91 92),D_ (L_ 94 3 93),D_ (m_ 95 0),D_ (m_ 96 12),D_ (a_ 97 3 95 96),D_ (L_ 98 3 97),D_ (a_ 99 3 87 88),D_ (s_ 3 99 94),D_ (a_ 100 3 89 90),D_ (s_ 3 100 98)]) (G_ [m_ 101 12,C_ 102 .add 101 1,m_ 12 102] (G_ [m_ 103 13,C_ 104 .sub 103 1,m_ 13 104] (J_ (Q_ 4 eO) (J_ (V_ [D_ (m_ 163 0),D_ (m_ 164 13),D_ (m_ 165 0),D_ (m_ 166 1),D_ (m_ 167 0),D_ (m_ 168 1),D_ (a_ 169 3 167 168),D_ (L_ 170 3 169),D_ (m_ 171 0),D_ (m_ 172 13),D_ (a_ 173 3 171 172),D_ (L_ 174 3 173),D_ (a_ 175 3 163 164),D_ (s_ 3 175 170),D_ (a_ 176 3 165 166),D_ (s_ 3 176 174)]) (G_ [m_ 177 13,m_ 10 177,M_ 11 false] .ret))))))))))))
theorem kv:FF ft=some ⟨[(.tmp 10),(.tmp 11)],fh,.no⟩:=by kernel_rfl
set_option maxRecDepth 100000
abbrev mr:Nat:=274
def zI:ak:=(G_ [k_ 2 0] (J_ (G_ [m_ 3 0,o_ 4 (.bin .geq [] (t_ 3) (.const (.int .u64 4294967296)))] (I_ 4 (G_ [m_ 5 0,o_ 6 (.bin .shr [] (t_ 5) (.const (.int .u64 32))),m_ 0 6] (O_ [k_ 2 32])) .skip)) (J_ (G_ [m_ 7 0,o_ 8 (.bin .geq [] (t_ 7) (.const (.int .u64 65536)))] (I_ 8 (G_ [m_ 9 0,o_ 10 (.bin .shr [] (t_ 9) (.const (.int .u64 16))),m_ 0 10] (O_ [m_ 11 2,C_ 12 .add 11 16,m_ 2 12])) .skip)) (J_ (G_ [m_ 13 0,o_ 14 (.bin .geq [] (t_ 13) (.const (.int .u64 256)))] (I_ 14 (G_ [m_ 15 0,o_ 16 (.bin .shr [] (t_ 15) (.const (.int .u64 8))),m_ 0 16] (O_ [m_ 17 2,C_ 18 .add 17 8,m_ 2 18])) .skip)) (G_ [m_ 19 2,m_ 20 0,o_ 21 (.conv .u8 (t_ 20)),⟨(some 22),none,(.index none (.const (.string ⟨⟨[0,1,2,2,3,3,3,3,4,4,4,4,4,4,4,4,5,5,5,5,5,5,5,5,5,5,5,5,5,5,5,5,6,6,6,6,6,6,6,6,6,6,6,6,6,6,6,6,6,6,6,6,6,6,6,6,6,6,6,6,6,6,6,6,7,7,7,7,7,7,7,7,7,7,7,7,7,7,7,7,7,7,7,7,7,7,7,7,7,7,7,7,7,7,7,7,7,7,7,7,7,7,7,7,7,7,7,7,7,7,7,7,7,7,7,7,7,7,7,7,7,7,7,7,7,7,7,7,8,8,8,8,8,8,8,8,8,8,8,8,8,8,8,8,8,8,8,8,8,8,8,8,8,8,8,8,8,8,8,8,8,8,8,8,8,8,8,8,8,8,8,8,8,8,8,8,8,8,8,8,8,8,8,8,8,8,8,8,8,8,8,8,8,8,8,8,8,8,8,8,8,8,8,8,8,8,8,8,8,8,8,8,8,8,8,8,8,8,8,8,8,8,8,8,8,8,8,8,8,8,8,8,8,8,8,8,8,8,8,8,8,8,8,8,8,8,8,8,8,8,8,8,8,8,8,8]⟩⟩)) (t_ 21))⟩,o_ 23 (.conv .i64 (t_ 22)),B_ 24 .add 19 23,m_ 2 24] .ret)))))
theorem zL:FF mr=some ⟨[(.tmp 2)],zI,.no⟩:=by kernel_rfl
abbrev Ai:Nat:=276
def zC:ak:=(.seq (.ops [⟨(some 2),none,(.mv (.const (.int .i64 0)))⟩]) (.seq (.seq (.ops [⟨(some 3),none,(.mv (.tmp 0))⟩]) (.cond (.tmp 3) (.seq (.ops [⟨(some 2),none,(.mv (.const (.int .i64 1)))⟩]) .ret) .skip)) (.seq (.ops [⟨(some 2),none,(.mv (.const (.int .i64 0)))⟩]) .ret)))
theorem HX:FF Ai=some ⟨[(.tmp 2)],zC,.no⟩:=by kernel_rfl
def dp:ak:=(P_ 1 (G_ [m_ 13 10,o_ 14 (.bin .mul [] (i_ 2) (t_ 13)),C_ 15 .add 14 1,m_ 11 15] (J_ (G_ [m_ 16 11,m_ 17 2,B_ 18 .geq 16 17] (I_ 18 (.exit 0) .skip)) (J_ (J_ (V_ [D_ (m_ 19 11),D_ (C_ 20 .add 19 1),D_ (m_ 21 2),D_ (B_ 22 .lss 20 21),D_ (m_ 23 22),(q_ 24 23 true (.mv (t_ 4)),[]),(q_ 25 23 true (.mv (t_ 0)),[]),(q_ 26 23 true (.mv (t_ 3)),[]),(q_ 27 23 true (.mv (t_ 11)),[]),(q_ 28 23 true (.bin .add [] (t_ 26) (t_ 27)),[]),(q_ 29 23 true (.cR none 3 (t_ 25) (t_ 28)),[]),(q_ 30 23 true (.load (some 3) (t_ 29)),[]),(q_ 31 23 true (.mv (t_ 0)),[]),(q_ 32 23 true (.mv (t_ 3)),[]),(q_ 33 23 true (.mv (t_ 11)),[]),(q_ 34 23 true (.bin .add [] (t_ 32) (t_ 33)),[]),(q_ 35 23 true (.bin .add [] (t_ 34) (i_ 1)),[]),(q_ 36 23 true (.cR none 3 (t_ 31) (t_ 35)),[]),(q_ 37 23 true (.load (some 3) (t_ 36)),[]),(q_ 38 23 true (.call (t_ 24) [t_ 30,t_ 37]),[]),(q_ 39 23 true (.bin .lss [] (t_ 38) (i_ 0)),[]),(o_ 40 (.pick (t_ 23) (t_ 39) (b_ false)),[])]) (I_ 40 (O_ [m_ 41 11,C_ 42 .add 41 1,m_ 11 42]) .skip)) (J_ (J_ (V_ [D_ (m_ 43 4),D_ (m_ 44 0),D_ (m_ 45 3),D_ (m_ 46 10),D_ (B_ 47 .add 45 46),D_ (a_ 48 3 44 47),D_ (L_ 49 3 48),D_ (m_ 50 0),D_ (m_ 51 3),D_ (m_ 52 11),D_ (B_ 53 .add 51 52),D_ (a_ 54 3 50 53),D_ (L_ 55 3 54),(o_ 56 (.call (t_ 43) [t_ 49,t_ 55]),[]),D_ (C_ 57 .lss 56 0),(o_ 58 (.un .not (t_ 57)),[])]) (I_ 58 .ret .skip)) (J_ (V_ [D_ (m_ 59 0),D_ (m_ 60 3),D_ (m_ 61 10),D_ (B_ 62 .add 60 61),D_ (m_ 63 0),D_ (m_ 64 3),D_ (m_ 65 11),D_ (B_ 66 .add 64 65),D_ (m_ 67 0),D_ (m_ 68 3),D_ (m_ 69 11),D_ (B_ 70 .add 68 69),D_ (a_ 71 3 67 70),D_ (L_ 72 3 71),D_ (m_ 73 0),D_ (m_ 74 3),D_ (m_ 75 10),D_ (B_ 76 .add 74 75),D_ (a_ 77 3 73 76),D_ (L_ 78 3 77),D_ (a_ 79 3 59 62),D_ (s_ 3 79 72),D_ (a_ 80 3 63 66),D_ (s_ 3 80 78)]) (O_ [m_ 81 11,m_ 10 81])))))))
abbrev fD:Nat:=277
def fz:ak:=(.seq (.ops [⟨(some 12),none,(.mv (.tmp 1))⟩,⟨(some 10),none,(.mv (.tmp 12))⟩]) (.block 0 (.loop dp)))
theorem kW:FF fD=some ⟨[],fz,.no⟩:=by kernel_rfl
abbrev lE:Nat:=278
def lr:ak:=(G_ [o_ 2 (.mv (.const (.int .u64 0)))] (G_ [m_ 3 0,o_ 4 (.conv .u64 (t_ 3)),F_ 5 245 [t_ 4],o_ 6 (.bin .shl [] (.const (.int .u64 1)) (t_ 5)),m_ 2 6] .ret))
theorem ua:FF lE=some ⟨[(.tmp 2)],lr,.no⟩:=by kernel_rfl
abbrev my:Nat:=279
def ma:ak:=(G_ [o_ 2 (.mv (.const (.int .u64 0)))] (J_ (V_ [D_ (m_ 3 0),(o_ 4 (.aY (t_ 3)),[]),D_ (l_ 5 4),D_ (m_ 6 0),(o_ 7 (.aY (t_ 6)),[]),D_ (l_ 8 7),(o_ 9 (.bin .shl [] (t_ 8) (.const (.int .u64 13))),[]),D_ (B_ 10 .xor 5 9),(o_ 11 (.aY (t_ 3)),[]),D_ (s_ 1 11 10)]) (J_ (V_ [D_ (m_ 12 0),(o_ 13 (.aY (t_ 12)),[]),D_ (l_ 14 13),D_ (m_ 15 0),(o_ 16 (.aY (t_ 15)),[]),D_ (l_ 17 16),(o_ 18 (.bin .shr [] (t_ 17) (.const (.int .u64 7))),[]),D_ (B_ 19 .xor 14 18),(o_ 20 (.aY (t_ 12)),[]),D_ (s_ 1 20 19)]) (J_ (V_ [D_ (m_ 21 0),(o_ 22 (.aY (t_ 21)),[]),D_ (l_ 23 22),D_ (m_ 24 0),(o_ 25 (.aY (t_ 24)),[]),D_ (l_ 26 25),(o_ 27 (.bin .shl [] (t_ 26) (.const (.int .u64 17))),[]),D_ (B_ 28 .xor 23 27),(o_ 29 (.aY (t_ 21)),[]),D_ (s_ 1 29 28)]) (G_ [m_ 30 0,o_ 31 (.aY (t_ 30)),l_ 32 31,m_ 2 32] .ret)))))
theorem uY:FF my=some ⟨[(.tmp 2)],ma,.no⟩:=by kernel_rfl
abbrev gh:Nat:=281
def fU:ak:=(G_ [k_ 12 0] (G_ [m_ 14 0,m_ 15 1,m_ 16 2,m_ 17 4,m_ 18 5,F_ 19 282 [t_ 14,t_ 15,t_ 16,t_ 17,t_ 18],m_ 13 19,o_ 20 (.ext 0 (t_ 13)),o_ 21 (.ext 1 (t_ 13)),m_ 1 20,m_ 2 21] (G_ [m_ 23 0,m_ 24 2,m_ 25 3,m_ 26 4,m_ 27 5,F_ 28 282 [t_ 23,t_ 24,t_ 25,t_ 26,t_ 27],m_ 22 28,o_ 29 (.ext 0 (t_ 22)),o_ 30 (.ext 1 (t_ 22)),m_ 2 29,m_ 3 30] (G_ [m_ 32 0,m_ 33 1,m_ 34 2,m_ 35 4,m_ 36 5,F_ 37 282 [t_ 32,t_ 33,t_ 34,t_ 35,t_ 36],m_ 31 37,o_ 38 (.ext 0 (t_ 31)),o_ 39 (.ext 1 (t_ 31)),m_ 1 38,m_ 2 39] (G_ [m_ 40 2,m_ 12 40] .ret)))))
theorem mg:FF gh=some ⟨[(.tmp 12)],fU,.no⟩:=by kernel_rfl
abbrev gk:Nat:=282
def fV:ak:=(G_ [k_ 10 0,k_ 11 0] (J_ (J_ (V_ [D_ (m_ 12 4),D_ (m_ 13 0),D_ (m_ 14 2),D_ (a_ 15 3 13 14),D_ (L_ 16 3 15),D_ (m_ 17 0),D_ (m_ 18 1),D_ (a_ 19 3 17 18),D_ (L_ 20 3 19),(o_ 21 (.call (t_ 12) [t_ 16,t_ 20]),[]),D_ (C_ 22 .lss 21 0)]) (I_ 22 (G_ [m_ 23 3,o_ 24 (.aY (t_ 23)),l_ 25 24,C_ 26 .add 25 1,o_ 27 (.aY (t_ 23)),s_ 1 27 26] (G_ [m_ 28 2,m_ 29 1,m_ 10 28,m_ 11 29] .ret)) .skip)) (G_ [m_ 30 1,m_ 31 2,m_ 10 30,m_ 11 31] .ret)))
theorem mh:FF gk=some ⟨[(.tmp 10),(.tmp 11)],fV,.no⟩:=by kernel_rfl
end Go.Proofs.YtdhnndleffachaaGreatDoor

namespace Go.Proofs.YtdhnndleffachaaGreatDoor
open Go.AI
theorem dG (h:ae) (a b c:Int):aF FF yv [.int .i64 a,.int .i64 b,.int .i64 c] h (fun v h'=>v= .bool (decide (b<=a)&&decide (a<=c))/\h'=h):=by refine aF.of FI ?_;unfold yd;by_cases h1:b<=a<;>by_cases h2:a<=c<;>simp[h1,h2]
theorem jz (h:ae) (ok:bu h) (a b:Int):aF FF Ag [.int .i64 a,.int .i64 b] h (fun v h'=>v= .agg #[.int .i64 a,.int .i64 b]/\ab aG h h'):=by
 refine aF.of HW ?_;unfold zB;simp
 repeat (first|exact .refl ok|apply ab.new|refine ab.put ?_ (by simp) (by simp))
def cH (op:Int):Bool×Bool×Bool:=
 if op=1\/op=16\/op=17\/op=18 then(true,true,false) else
 if 2<=op/\op<=15 then(true,true,true) else
 if op=19 then(false,true,true) else
 if op=20\/op=21 then(true,false,false) else
 if op=22 then(false,true,false) else(false,false,false)
theorem gO {a b:Int} (h: ¬a=b):(a==b)=false:=by simpa using h
theorem Cs (h:ae) (ok:bu h) (op:Int):aF FF yu [.int .i64 op] h (fun v h'=>v= .agg #[.bool (cH op).1,.bool (cH op).2.1,.bool (cH op).2.2]/\ab aG h h'):=by
 refine aF.of FG ?_;unfold x8;by_cases k1:op=1
 .subst k1;simp[cH];repeat (first|exact .refl ok|apply ab.new|refine ab.put ?_ (by simp) (by simp))
 by_cases k2:op=16
 .subst k2;simp[cH];repeat (first|exact .refl ok|apply ab.new|refine ab.put ?_ (by simp) (by simp))
 by_cases k3:op=17
 .subst k3;simp[cH];repeat (first|exact .refl ok|apply ab.new|refine ab.put ?_ (by simp) (by simp))
 by_cases k4:op=18
 .subst k4;simp[cH];repeat (first|exact .refl ok|apply ab.new|refine ab.put ?_ (by simp) (by simp))
 by_cases k6:op=19
 .subst k6;simp[cH];repeat (first|exact .refl ok|apply ab.new|refine ab.put ?_ (by simp) (by simp))
 by_cases k7:op=20
 .subst k7;simp[cH];repeat (first|exact .refl ok|apply ab.new|refine ab.put ?_ (by simp) (by simp))
 by_cases k8:op=21
 .subst k8;simp[cH];repeat (first|exact .refl ok|apply ab.new|refine ab.put ?_ (by simp) (by simp))
 by_cases k9:op=22
 .subst k9;simp[cH];repeat (first|exact .refl ok|apply ab.new|refine ab.put ?_ (by simp) (by simp))
 have b1:=gO k1;have b2:=gO k2;have b3:=gO k3;have b4:=gO k4;have b6:=gO k6;have b7:=gO k7;have b8:=gO k8;have b9:=gO k9;by_cases l1:2<=op
 .by_cases l2:op<=15
  .have:cH op=(true,true,true):=by unfold cH;rw[aT (by omega),aU ⟨l1,l2⟩]
   simp[b1,b2,b3,b4,k1,k2,k3,k4,l1,l2,this]
   repeat (first|exact .refl ok|apply ab.new|refine ab.put ?_ (by simp) (by simp))
  .have l2':15<op:=by omega
   have:cH op=(false,false,false):=by unfold cH;rw[aT (by omega),aT (by omega),aT k6,aT (by omega),aT k9]
   simp[b1,b2,b3,b4,b6,b7,b8,b9,k1,k2,k3,k4,k6,k7,k8,k9,l1,l2,l2',this]
   repeat (first|exact .refl ok|apply ab.new|refine ab.put ?_ (by simp) (by simp))
 .have l1':op<2:=by omega
  have:cH op=(false,false,false):=by unfold cH;rw[aT (by omega),aT (by omega),aT k6,aT (by omega),aT k9]
  simp[b1,b2,b3,b4,b6,b7,b8,b9,k1,k2,k3,k4,k6,k7,k8,k9,l1,l1',this]
  repeat (first|exact .refl ok|apply ab.new|refine ab.put ?_ (by simp) (by simp))
def aC (op dst:Int) (ar:Bool) (an:Int) (br:Bool) (bn:Int) (fn:Int) (args:Value):List Value:=[.int .i64 op,.int .i64 dst,.bool ar,.int .i64 an,.bool br,.int .i64 bn,.int .i64 fn,args]
def cZ (az op:Int) (ar:Bool) (an:Int) (br:Bool) (bn:Int):Bool:=
 if op=5\/op=6 then !br&&decide (bn≠0) else if op=18 then !ar&&(decide (0<=an)&&decide (an<=az-1)) else decide (1<=op)&&decide (op<=17)
theorem OD (h:ae) (ok:bu h) (az op dst an bn fn:Int) (ar br:Bool) (aa:Option Addr) (al ac:Nat) (hw:0<=az/\az<1000000000):
  aF FF wO [.int .i64 az,.agg ⟨aC op dst ar an br bn fn (.slice aa al ac)⟩] h (fun v h'=>v= .bool (cZ az op ar an br bn)/\ab aG h h'):=by
 refine aF.of DI ?_;unfold vX;have hw1:=wrap_i64 (az-1) (by omega) (by omega);by_cases k5:op=5
 .subst k5;cases br with
  |true=>simp[aC,cZ];exact aO ok _ _
  |false=>
   by_cases hb:bn=0
   .subst hb;simp[aC,cZ];exact aO ok _ _
   .simp[aC,cZ,hb];exact aO ok _ _
 by_cases k6:op=6
 .subst k6;cases br with
  |true=>simp[aC,cZ];exact aO ok _ _
  |false=>
   by_cases hb:bn=0
   .subst hb;simp[aC,cZ];exact aO ok _ _
   .simp[aC,cZ,hb];exact aO ok _ _
 have b5:=gO k5;have b6:=gO k6;by_cases X8:op=18
 .subst X8;cases ar with
  |true=>simp[aC,cZ];exact aO ok _ _
  |false=>
   simp[aC,cZ,hw1];refine aE.call (by simpa using dG _ an 0 (az-1)) ?_;rintro _ h' ⟨rfl,rfl⟩;simp;exact aO ok _ _
 .have b18:=gO X8;simp[aC,b5,b6,b18,k5,k6,X8];refine aE.call (by simpa using dG _ op 1 17) ?_;rintro _ h' ⟨rfl,rfl⟩;simp[cZ,k5,k6,X8];exact aO ok _ _
def opOk (op:Int) (br:Bool) (bn:Int):Prop:=(2<=op/\op<=15)\/((op=1\/op=16\/op=17)/\br=false/\bn=0)
end Go.Proofs.YtdhnndleffachaaGreatDoor
namespace Go.AI
def Kept (W W':World):Prop:=W'.os=W.os/\W'.output=W.output/\W.heap.size<=W'.heap.size/\ ∀i,i<W.heap.size->W'.heap[i]? =W.heap[i]?
theorem Kept.keptBut {W W':World} (h:Kept W W') (may:MemPlace->Prop):W.keptBut W' may:=by
 refine⟨h.1,h.2.1,fun i hi=> ?_⟩;rw[h.2.2.2 i hi];cases hx:W.heap[i]? with
 |none=>rfl
 |some o=>
  cases o with
  |cells cc t fr=>exact⟨rfl,rfl,rfl,fun _ _=>rfl⟩
  |map es cl=>exact .inr ⟨rfl,rfl⟩
  |_=>rfl
theorem Kept.sameAt {W W':World} (h:Kept W W') {p:MemPlace} (hp:p.block<W.heap.size):W.sameAt W' p:=by
 cases p with
 |cell b off=>simp only[World.sameAt,World.cell?,h.2.2.2 b hp]
 |map b=>exact h.2.2.2 b hp
theorem Kept.frozen {W W':World} (h:Kept W W') {b off:Nat} (hb:b<W.heap.size):W'.frozen? ⟨b,off,none⟩=W.frozen? ⟨b,off,none⟩:=by simp only[World.frozen?,h.2.2.2 b hb]
section
variable {P:Program} {T:qd} {ng:Nat} {F:Nat->Option bZ}
theorem law_read (hF:Fu P T ng (dZ T ng) F) (hT:cm P T) {f:Nat} {args cw:List Value} {h:ae} (H:aF F f args h (fun v _=>v= .bool true))
  {ρ:dY} {W:World} (S:cQ (fS T ng (dZ T ng)) ρ h W) (hG:bS ng ρ) (ha:All2 (VR ρ) args cw) (JS: ∀b,¬dX h b):
  Calls P f ⟨cw⟩ W (fun e W'=>e= .returned (.bool true)/\Kept W W'):=by
 obtain⟨n,v,h',hr,rfl⟩:=H;intro ez;obtain⟨fn,ρ',w',c,fr,_,_,_,h4,h5,h6,h7,_,h9⟩:=yV hF hT hr S hG ha ez;have MA:=h7.mc;subst MA;exact⟨.returned (.bool true),w',fr,⟨rfl,h9.os,h9.output,h9.size,fun i hi=>h9.tD i hi (fun b r _ hw=>absurd hw (JS b))⟩,h4,h5,h6⟩
end
section
open Go.ChangeShapes Go.WideShapes Go.ChangeAt
variable {H:Type} {enc:TypeId×Value->H} {P:Program}
theorem post_of_read {f:Func} {s:ChangeSpec} {apart fresh handsOn again:Bool} {W W':World} {args:Array Value} {v:Value} {ds gs:List (DataW H)} {before:List MemPlace}
  (hW:DataW.Whole enc P f.params.toList s.vars apart W args.toList ds gs before)
  (Zd: ∀(b:Nat) (sp:Nat->Bool) (hd:Bool),DataW.TrodAll enc P W' b sp hd f.resultTypes.toList (v.resultList f.resultTypes.size) (s.fn H (ds++gs)).results [])
  (zY: ∀sp:Nat->Bool,(∀p∈before,sp p.block=true)->DataW.TrodAll enc P W' 0 sp true f.params.toList args.toList (s.fn H (ds++gs)).args before)
  (aaY: ∀sp:Nat->Bool,(∀p∈before,sp p.block=true)->DataW.TrodVars enc P W' sp s.vars (s.fn H (ds++gs)).vars [])
  (hk:Kept W W')
  (cN: ∀(j:Nat) (t:TypeId) (r:Value),f.resultTypes[j]? =some t->(v.resultList f.resultTypes.size)[j]? =some r->Value.okWide P W' .any 0 t r):
  s.post enc P f apart fresh handsOn again W args v W':=by
 have hold: ∀p∈before,(fun b=>decide (b<W.heap.size)) p.block=true:=fun p hp=>by simpa using hW.lt p hp
 refine⟨ds,gs,before,[],before,[],hW,Zd _ _ _,zY _ hold,aaY _ hold,World.keptBut_mono (fun p hp=>⟨hp,.inr (.inl hp)⟩) (hk.keptBut _),fun _=> ?_⟩;have ef:=hW.lt;obtain⟨_,_,_,_,_,hz,hn⟩:=hW;refine⟨cN,_,_,([]++before)++[],⟨[]++before,[],trodAll_append (zY _ (fun _ _=>rfl)) (Zd _ _ _),aaY _ (fun _ _=>rfl),rfl,?_,?_⟩,?_⟩
 .intro b off hp;simp only[List.nil_append,List.append_nil] at hp;rw[hk.frozen (b:=b) (ef (.cell b off) hp)];exact hz b off hp
 .intro ha;simpa using hn ha
 .intro p hp _;simpa using hp
end
end Go.AI
namespace Go.AI
open Go.ChangeShapes Go.WideShapes
variable {a:Addr} {h:ae} {k:Option Nat} {v:Value} {ρ:dY}
inductive Ty where
 |bool
 |int (k:IntKind)
 |str
 |unit
 |pair (a b:Ty)
 |sl (e:Ty)
namespace Ty
def sz:Ty->Nat
 | .bool=>1
 | .int _=>1
 | .str=>1
 | .unit=>0
 | .pair a b=>a.sz+b.sz
 | .sl _=>1
def den:Ty->Type
 | .bool=>Bool
 | .int _=>Int
 | .str=>ByteArray
 | .unit=>Unit
 | .pair a b=>a.den×b.den
 | .sl e=>List e.den
def rep (e:Ty):Nat->Ty
 |0=> .unit
 |n+1=> .pair e (e.rep n)
end Ty
def SliceR {α:Type} (R:List Value->α->Prop) (sz:Nat) (h:ae) (v:Value) (xs:List α):Prop:=
 ∃a cap,v= .slice a xs.length cap/\((xs=[]/\(a=none\/ ∃b off,a=some ⟨b,off,none⟩))\/
  ∃b off cs ro o s,a=some ⟨b,off,none⟩/\h.tr.get b=some (.aA cs ro o s)/\ ∀i x,xs[i]? =some x->((cs.drop (off+i*sz)).take sz).length=sz/\R ((cs.drop (off+i*sz)).take sz) x)
def rep:(T:Ty)->ae->List Value->T.den->Prop
 | .bool,_,cs,b=>cs=[.bool b]
 | .int k,_,cs,n=>cs=[.int k n]
 | .str,_,cs,s=>cs=[.string s]
 | .unit,_,cs,_=>cs=[]
 | .pair a b,h,cs,(x,y)=> ∃c1 c2,cs=c1++c2/\rep a h c1 x/\rep b h c2 y
 | .sl e,h,cs,xs=> ∃v,cs=[v]/\SliceR (rep e h) e.sz h v xs
theorem SliceR.mono {α:Type} {R R':List Value->α->Prop} {sz:Nat} {h h':ae} {xs:List α} (s:SliceR R sz h v xs) (ok:bu h) (g:ab aG h h') (hR: ∀c x,R c x->R' c x):SliceR R' sz h' v xs:=by
 obtain⟨a,cap,rfl,s⟩:=s;refine⟨a,cap,rfl,?_⟩;rcases s with s|⟨b,off,cs,ro,o,st,rfl,hb,he⟩
 .exact .inl s
 .exact .inr ⟨b,off,cs,ro,o,st,rfl,g.get ok hb (fun h=>h),fun i x hx=>⟨(he i x hx).1,hR _ _ (he i x hx).2⟩⟩
theorem uG: ∀ {T:Ty} {h h':ae} {cs:List Value} {y:T.den},bu h->ab aG h h'->rep T h cs y->rep T h' cs y
 | .bool,_,_,_,_,_,_,r=>r
 | .int _,_,_,_,_,_,_,r=>r
 | .str,_,_,_,_,_,_,r=>r
 | .unit,_,_,_,_,_,_,r=>r
 | .pair a b,_,_,_,(x,y),ok,g,⟨c1,c2,e,r1,r2⟩=>⟨c1,c2,e,uG ok g r1,uG ok g r2⟩
 | .sl e,_,_,_,_,ok,g,⟨v,hv,s⟩=>⟨v,hv,s.mono ok g fun _ _ r=>uG ok g r⟩
theorem De: ∀ {T:Ty} {h:ae} {cs:List Value} {y:T.den},rep T h cs y->cs.length=T.sz
 | .bool,_,_,_,r=>by rw[show _=[_] from r];rfl
 | .int _,_,_,_,r=>by rw[show _=[_] from r];rfl
 | .str,_,_,_,r=>by rw[show _=[_] from r];rfl
 | .unit,_,_,_,r=>by rw[show _=[] from r];rfl
 | .pair a b,_,_,(x,y),⟨c1,c2,e,r1,r2⟩=>by rw[e,IG,De r1,De r2];rfl
 | .sl e,_,_,_,⟨v,hv,_⟩=>by rw[hv];rfl
def Bd (k:Option Nat):(T:Ty)->T.den->Prop
 | .bool,_=>True
 | .int _,_=>True
 | .str,_=>True
 | .unit,_=>True
 | .pair a b,(x,y)=>Bd k a x/\Bd k b y
 | .sl e,(xs:List e.den)=>(∀K,k=some K->xs.length<=K)/\ ∀x∈xs,Bd k e x
section
variable (P:Program)
def kH (f:TypeId->Option Ty):Nat->List Field->Option (Ty×Nat)
 |off,[]=>some (.unit,off)
 |off,x::xs=>bif Nat.beq x.offset off then match f x.type with
   |none=>none
   |some a=>bif Nat.beq a.sz (P.cellsOf x.type) then match kH f (off+a.sz) xs with
     |some (b,n)=>some (.pair a b,n)
     |none=>none
    else none
  else none
def tyOf:Nat->TypeId->Option Ty
 |0,_=>none
 |d+1,t=>match P.underlying t with
  |some .bool=>some .bool
  |some (.int k)=>some (.int k)
  |some .string=>some .str
  |some (.slice e)=>match tyOf d e with
   |some a=>bif Nat.blt 0 (P.bytesOf e)&&(Nat.beq a.sz (P.cellsOf e)&&Nat.blt 0 a.sz) then some (.sl a) else none
   |none=>none
  |some (.struct fs)=>match kH P (tyOf d) 0 fs.toList with
   |some (a,n)=>bif Nat.beq n (P.cellsOf t) then some a else none
   |none=>none
  |some (.array n e)=>match tyOf d e with
   |some a=>bif Nat.beq a.sz (P.cellsOf e)&&Nat.beq (n*a.sz) (P.cellsOf t) then some (a.rep n) else none
   |none=>none
  |_=>none
end
theorem uT {a b:Nat} (h:Nat.beq a b=true):a=b:=nO h
structure yK (CC:cj) (ρ:dY) (h:ae) (w:World):Prop where
 ok:bu h
 ro: ∀b,¬dX h b
 Qp:cQ CC ρ h w
section
variable {H:Type} {enc:TypeId×Value->H} {P:Program} {w:World} {held:Bool} {CC:cj}
theorem yK.add (L:yK CC ρ h w) {aA base:Nat} {acs:List Value} {ez:Array Value} {el:TypeId} {fr:Nat×Nat} (hb:w.heap[aA]? =some (.cells ez el fr)) (aaH:base<=ez.size)
  (hk: ∀(j:Nat) (v:Value),acs[j]? =some v-> ∃c,ez[base+j]? =some c/\KR ρ v c):
  ∃ρ',ρ.le ρ'/\ρ' h.next=some ⟨aA,base,acs.length,0,ez.size-base⟩/\yK CC ρ' (h.new (.aA acs true 0 0)) w/\ab aG h (h.new (.aA acs true 0 0)):=by
 have G9:ρ h.next=none:=by
  cases hr:ρ h.next with
  |none=>rfl
  |some r=>exact absurd (L.Qp.low _ _ hr).1 (by omega)
 let ρ':dY:=fun b=>if b=h.next then some ⟨aA,base,acs.length,0,ez.size-base⟩ else ρ b
 have hle:ρ.le ρ':=by intro b r hr;show(if b=h.next then _ else ρ b)=some r;rw[aT (by rintro rfl;rw[G9] at hr;cases hr)];exact hr
 have Aa:ρ' h.next=some ⟨aA,base,acs.length,0,ez.size-base⟩:=by show(if h.next=h.next then _ else _)=_;rw[aU rfl]
 have dM: ∀b,(h.new (.aA acs true 0 0)).tr.get b=if b=h.next then some (.aA acs true 0 0) else h.tr.get b:=by intro b;simp[ae.new,Tr.aN]
 have cN:bu (h.new (.aA acs true 0 0)):=by
  refine⟨fun b o hb=> ?_,fun b cs ro o s hb=> ?_⟩
  .rw[dM] at hb;show b<h.next+1;split at hb
   .omega
   .exact Nat.lt_succ_of_lt (L.ok.wf b o hb)
  .rw[dM] at hb;split at hb
   .cases hb;exact Nat.zero_le _
   .exact L.ok.st b cs ro o s hb
 have JS: ∀b,¬dX (h.new (.aA acs true 0 0)) b:=by
  rintro b ⟨o,ho,hr⟩;rw[dM] at ho;split at ho
  .cases ho;cases hr
  .exact L.ro b ⟨o,ho,hr⟩
 have hgr:ab aG h (h.new (.aA acs true 0 0)):=by refine⟨Nat.le_succ _,dK _,fun b hb _=> ?_,cN⟩;rw[dM,aT (by omega)]
 refine⟨ρ',hle,Aa,⟨cN,JS,⟨fun b r hr=> ?_,fun b r o hr ho=> ?_,fun b b' r r' o _ _ hw=>absurd hw (JS b),fun b o ho=>cN.wf b o ho⟩⟩,hgr⟩
 .by_cases e:b=h.next
  .rw[e] at hr;rw[Aa] at hr;cases hr;exact⟨by rw[e];exact Nat.lt_succ_self _,(Array.getElem?_eq_some_iff.mp hb).1⟩
  .have wM:ρ b=some r:=by
    have:ρ' b=ρ b:=by show(if b=h.next then _ else ρ b)=_;rw[aT e]
    rw[<-this];exact hr
   exact⟨Nat.lt_succ_of_lt (L.Qp.low _ _ wM).1,(L.Qp.low _ _ wM).2⟩
 .rw[dM] at ho;by_cases e:b=h.next
  .rw[aU e] at ho;cases ho;rw[e,Aa] at hr;cases hr;exact⟨ez,el,fr,hb,rfl,rfl,⟨by dsimp only;omega,fun h=>absurd rfl h⟩,(fun h=>by cases h),fun j v hv=>by obtain⟨c,hc,hkr⟩:=hk j v hv;exact⟨c,hc,hkr.mono hle⟩⟩
  .rw[aT e] at ho;have wM:ρ b=some r:=by
    have:ρ' b=ρ b:=by show(if b=h.next then _ else ρ b)=_;rw[aT e]
    rw[<-this];exact hr
   have Vo:=L.Qp.obj b r o wM ho;cases o with
   |aA cs ro op st=>
    obtain⟨c2,el2,fr2,h1,h2,h3,h4,h5,h6⟩:=Vo;exact⟨c2,el2,fr2,h1,h2,h3,h4,h5,fun j v hv=>by obtain⟨c,hc,hkr⟩:=h6 j v hv;exact⟨c,hc,hkr.mono hle⟩⟩
   |loop=>exact absurd ⟨_,ho,rfl⟩ (L.ro b)
   |map=>exact absurd ⟨_,ho,rfl⟩ (L.ro b)
   |itr=>exact absurd ⟨_,ho,rfl⟩ (L.ro b)
def Laid (k:Option Nat) (CC:cj) (w:World) (T:Ty) (ρ:dY) (h:ae) (cs:List Value):Prop:=
 ∃ρ' h' acs y,ρ.le ρ'/\ab aG h h'/\yK CC ρ' h' w/\All2 (KR ρ') acs cs/\rep T h' acs y/\Bd k T y
def WB (k:Option Nat) (P:Program) (t:TypeId) (d:DataW H):Prop:= ∀K,k=some K-> ∀n∈d.weights P t,n<=K
theorem Pe {k:Option Nat} {P:Program} {e:TypeId} {K:Nat} (hk:k=some K): ∀ {l:List (DataW H)},(∀n∈DataW.weightsAll P e l,n<=K)-> ∀ {i:Nat} {d:DataW H},l[i]? =some d->WB k P e d
 |[],_,_,_,hi=>by simp at hi
 |x::l,h,i,d,hi=>by
  rw[DataW.weightsAll] at h;cases i with
  |zero=>
   simp at hi;subst hi;intro K2 BZ n hn;rw[hk] at BZ;cases BZ;exact h n (List.mem_append_left _ hn)
  |succ i=>exact Pe hk (fun n hn=>h n (List.mem_append_right _ hn)) (by simpa using hi)
theorem Qv {P:Program} {K:Nat} : ∀ {ts:List TypeId} {l:List (DataW H)},(∀n∈DataW.weightsEach P ts l,n<=K)-> ∀ {i:Nat} {t:TypeId} {d:DataW H},ts[i]? =some t->l[i]? =some d-> ∀n∈d.weights P t,n<=K
 |[],_,_,_,_,_,ht,_=>by simp at ht
 |_::_,[],_,_,_,_,_,hi=>by simp at hi
 |u::ts,x::l,h,i,t,d,ht,hi=>by
  rw[DataW.weightsEach] at h;cases i with
  |zero=>
   simp at hi ht;subst hi ht;exact fun n hn=>h n (List.mem_append_left _ hn)
  |succ i=>exact Qv (fun n hn=>h n (List.mem_append_right _ hn)) (by simpa using ht) (by simpa using hi)
theorem Hi {a b:Ty} {c1 c2:List Value} (h1:Laid k CC w a ρ h c1) (h2: ∀ρ' h',yK CC ρ' h' w->Laid k CC w b ρ' h' c2):Laid k CC w (.pair a b) ρ h (c1++c2):=by obtain⟨ρ1,m1,a1,y1,l1,g1,L1,k1,r1,b1⟩:=h1;obtain⟨ρ2,m2,a2,y2,l2,g2,L2,k2,r2,b2⟩:=h2 ρ1 m1 L1;exact⟨ρ2,m2,a1++a2,(y1,y2),dY.le_trans l1 l2,g1.trans g2,L2,(k1.mono fun _ _ h=>h.mono l2).app k2,⟨a1,a2,rfl,uG L1.ok g2 r1,r2⟩,b1,b2⟩
theorem Ll {k:Option Nat} {e:Ty} : ∀ {css:List (List Value)} {ρ:dY} {h:ae},yK CC ρ h w->(∀cs∈css,∀ρ' h',yK CC ρ' h' w->Laid k CC w e ρ' h' cs)->
  ∃ρ' h' MQ ys,ρ.le ρ'/\ab aG h h'/\yK CC ρ' h' w/\All2 (All2 (KR ρ')) MQ css/\All2 (rep e h') MQ ys/\ ∀y∈ys,Bd k e y
 |[],ρ,h,L,_=>⟨ρ,h,[],[],ρ.le_refl,.refl L.ok,L,.nil,.nil,fun y hy=>by cases hy⟩
 |cs::css,ρ,h,L,H=>by
  obtain⟨ρ1,m1,a1,y1,l1,g1,L1,k1,r1,b1⟩:=H cs (D2 ..) ρ h L;obtain⟨ρ2,m2,a2,y2,l2,g2,L2,k2,r2,b2⟩:=Ll L1 (fun c hc=>H c (CZ _ hc));exact⟨ρ2,m2,a1::a2,y1::y2,dY.le_trans l1 l2,g1.trans g2,L2,.cons (k1.mono fun _ _ h=>h.mono l2) k2,.cons (uG L1.ok g2 r1) r2,fun y hy=>by
   rcases List.mem_cons.1 hy with rfl|hy
   .exact b1
   .exact b2 y hy⟩
theorem Gx {α β:Type} {R:α->β->Prop} : ∀ {l:List (List α)} {m:List (List β)},All2 (All2 R) l m->All2 R l.flatten m.flatten
 |_,_,.nil=> .nil
 |_,_,.cons h hs=>by simpa using h.app (Gx hs)
theorem PF {α:Type} {sz:Nat} : ∀ {l:List (List α)} {i:Nat} {c:List α},(∀c∈l,c.length=sz)->l[i]? =some c->(l.flatten.drop (i*sz)).take sz=c
 |[],i,c,_,h=>by simp at h
 |x::l,0,c,hl,h=>by cases h;have:=hl x (D2 ..);simp[List.take_append,this]
 |x::l,i+1,c,hl,h=>by
  have hx:=hl x (D2 ..);have h':l[i]? =some c:=by simpa using h
  rw[List.flatten_cons,List.drop_append,XC (by rw[hx,rU];omega),List.nil_append,hx,show(i+1)*sz-sz=i*sz by rw[rU];omega];exact PF (fun c hc=>hl c (CZ _ hc)) h'
theorem KC {α:Type} {sz:Nat} (hz:0<sz): ∀ {l:List (List α)} {j:Nat} {c:α},(∀c∈l,c.length=sz)->l.flatten[j]? =some c-> ∃x,l[j/sz]? =some x/\x[j%sz]? =some c
 |[],j,c,_,h=>by simp at h
 |x::l,j,c,hl,h=>by
  have hx:=hl x (D2 ..);rw[List.flatten_cons] at h;by_cases hj:j<sz
  .rw[KH (by omega)] at h;exact⟨x,by rw[Nat.div_eq_of_lt hj];rfl,by rw[Nat.mod_eq_of_lt hj];exact h⟩
  .rw[Mv (by omega),hx] at h;obtain⟨y,hy,hc⟩:=KC hz (fun c hc=>hl c (CZ _ hc)) h;refine⟨y,?_,?_⟩
   .rw[Nat.div_eq j sz,aU ⟨hz,by omega⟩];simpa using hy
   .rw[Nat.mod_eq_sub_mod (by omega)];exact hc
theorem Ls {α β:Type} {f:α->Option β} : ∀ {l:List α} {r:List β},l.mapM f=some r->r.length=l.length/\ ∀(i:Nat) (a:α) (b:β),l[i]? =some a->r[i]? =some b->f a=some b
 |[],r,h=>by simp at h;subst h;simp
 |a::l,r,h=>by
  rw[List.mapM_cons] at h;simp only[Option.bind_eq_bind,Option.bind_eq_some_iff,Option.pure_def,kl] at h;obtain⟨b,hb,bs,IP,rfl⟩:=h;obtain⟨h1,h2⟩:=Ls IP;refine⟨by simp[h1],fun i x y hx hy=> ?_⟩;cases i with
  |zero=>simp at hx hy;subst hx;subst hy;exact hb
  |succ i=>exact h2 i x y (by simpa using hx) (by simpa using hy)
theorem Be {n:Nat} {cs:List Value} (h:w.cells? 0 a n=some cs):cs.length=n/\ ∀k c,cs[k]? =some c->w.cell? (a.add k)=some c:=by unfold World.cells? at h;rw[aU (Nat.zero_le _)] at h;obtain⟨h1,h2⟩:=Ls h;simp at h1;refine⟨h1,fun k c hc=> ?_⟩;have hk:=(bY.mp hc).1;exact h2 k k c (by rw[List.getElem?_range (by omega)]) hc
theorem PB (h:w.cell? a=some v):a.spot=none/\ ∃ez el fr,w.heap[a.block]? =some (.cells ez el fr)/\ez[a.off]? =some v:=by
 unfold World.cell? at h;split at h
 .rename_i ez el fr hh;split at h
  .cases h
  .rename_i hs;exact⟨by cases Zf:a.spot with|none=>rfl|some _=>rw[Zf] at hs;simp at hs,ez,el,fr,hh,h⟩
 .cases h
theorem BS {α:Type} {R:Nat->α->Prop} : ∀ {n:Nat},(∀i,i<n-> ∃x,R i x)-> ∃l:List α,l.length=n/\ ∀i x,l[i]? =some x->R i x
 |0,_=>⟨[],rfl,by simp⟩
 |n+1,h=>by
  obtain⟨l,hl,hr⟩:=BS (n:=n) fun i hi=>h i (by omega);obtain⟨x,hx⟩:=h n (by omega);refine⟨l++[x],by simp[hl],fun i y hy=> ?_⟩;by_cases e:i<n
  .rw[KH (by omega)] at hy;exact hr i y hy
  .have ef:=(bY.mp hy).1;simp[hl] at ef;have:i=n:=by omega
   subst this;rw[Mv (by omega),hl,Nat.sub_self] at hy;cases hy;exact hx
theorem Cu {f:TypeId->Option Ty} : ∀ {fl:List Field} {off n:Nat} {T:Ty},kH P f off fl=some (T,n)->off<=n
 |[],off,n,T,h=>by simp[kH] at h;omega
 |x::fl,off,n,T,h=>by
  unfold kH at h;cases hb:Nat.beq x.offset off with
  |false=>rw[hb] at h;cases h
  |true=>
   rw[hb] at h;simp only[cond_true] at h;cases ha:f x.type with
   |none=>rw[ha] at h;cases h
   |some a=>
    rw[ha] at h;dsimp only at h;cases hc:Nat.beq a.sz (P.cellsOf x.type) with
    |false=>rw[hc] at h;cases h
    |true=>
     rw[hc] at h;simp only[cond_true] at h;cases hr:kH P f (off+a.sz) fl with
     |none=>rw[hr] at h;cases h
     |some q=>
      obtain⟨b,m⟩:=q;rw[hr] at h;cases h;have:=Cu hr;omega
theorem Gv (a:Addr) (n:Nat):(a.add n).block=a.block:=by unfold Addr.add;split<;>rfl
theorem Pw (a:Addr) (n:Nat):(a.add n).off=a.off+n:=by
 unfold Addr.add;split
 .rename_i h;rw[h];rfl
 .rfl
theorem Hj (L:yK CC ρ h w):Laid k CC w .unit ρ h []:=⟨ρ,h,[],(),ρ.le_refl,.refl L.ok,L,.nil,rfl,trivial⟩
theorem I6 {k:Option Nat} : ∀ {d:Nat} {t:TypeId} {T:Ty},tyOf P d t=some T-> ∀ {n:Nat} {cs:List Value} {x:DataW H×List MemPlace} {ρ:dY} {h:ae},
  DataW.trod enc P w 0 (fun _=>true) held n t cs=some x->WB k P t x.1->yK CC ρ h w->(∃(k:Nat) (ez:Array Value) (el:TypeId) (fr:Nat×Nat),w.heap[k]? =some (.cells ez el fr))->Laid k CC w T ρ h cs:=by
 intro d;induction d with
 |zero=>intro t T hT;simp[tyOf] at hT
 |succ d ih=>
  intro t T hT n cs x ρ h hx hW L cJ;unfold tyOf at hT;split at hT
  .rename_i hu;cases hT;obtain⟨b,rfl,_⟩:=DataW.trod_bool hu hx;exact⟨ρ,h,[.bool b],b,ρ.le_refl,.refl L.ok,L,.cons (.cell (.bool b)) .nil,rfl,trivial⟩
  .rename_i ki hu;cases hT;obtain⟨m,rfl,_⟩:=DataW.trod_int hu hx;exact⟨ρ,h,[.int ki m],m,ρ.le_refl,.refl L.ok,L,.cons (.cell (.int ki m)) .nil,rfl,trivial⟩
  .rename_i hu;cases hT;obtain⟨s,rfl,_⟩:=DataW.trod_string hu hx;exact⟨ρ,h,[.string s],s,ρ.le_refl,.refl L.ok,L,.cons (.cell (.str s)) .nil,rfl,trivial⟩
  .rename_i e hu;split at hT
   .rename_i a ha;cases hb:(Nat.blt 0 (P.bytesOf e)&&(Nat.beq a.sz (P.cellsOf e)&&Nat.blt 0 a.sz)) with
    |false=>rw[hb] at hT;cases hT
    |true=>
     rw[hb] at hT;cases hT;simp only[uf] at hb;have CM:0<P.bytesOf e:=by simpa [Nat.blt_eq] using hb.1
     have p_:=uT hb.2.1;have NZ:0<a.sz:=by simpa [Nat.blt_eq] using hb.2.2
     rcases DataW.trod_slice hu hx with⟨rfl,_⟩|⟨ad,len,cap,elems,bh,m,rfl,rfl,Zj,_,Vh,_,hH,he,hr,_⟩
     .exact⟨ρ,h,[.slice none 0 0],[],ρ.le_refl,.refl L.ok,L,.cons (.cell (.oE 0 0)) .nil,⟨_,rfl,none,0,rfl,.inl ⟨rfl,.inl rfl⟩⟩,fun _ _=>Nat.zero_le _,fun y hy=>by cases hy⟩
     .obtain⟨uJ,hr⟩:=hr rfl;rw[<-p_] at he hr;have XN: ∀K,k=some K->len<=K/\ ∀n∈DataW.weightsAll P e (elems.map (·.1)),n<=K:=by
       intro K hK;have hw: ∀n∈DataW.weights P t (.slice (elems.map (·.1)) (bh.map (·.1))),n<=K:=by have:=hW K hK;rw[Zj] at this;exact this
       rw[DataW.weights,hu] at hw;simp only[XE,List.mem_cons,tO] at hw;have h1:=hw _ (.inl rfl);refine⟨?_,fun n hn=>hw n (.inr (.inl hn))⟩;have h2:(elems.length+bh.length)*1<=(elems.length+bh.length)*P.bytesOf e:=Nat.mul_le_mul_left _ CM;omega
      have hWe: ∀i,i<len-> ∀y,elems[i]? =some y->WB k P e y.1:=by intro i _ y hy K hK;exact Pe hK (XN K hK).2 (i:=i) (d:=y.1) (by simp[hy]) K hK
      have one: ∀i,i<cap-> ∃ci y,w.cells? 0 (ad.add (i*a.sz)) a.sz=some ci/\DataW.trod enc P w 0 (fun _=>true) held m e ci=some y/\(i<len->WB k P e y.1):=by
       intro i hi;have hy: ∃y,(w.cells? 0 (ad.add (i*a.sz)) a.sz).bind (DataW.trod enc P w 0 (fun _=>true) held m e)=some y/\(i<len->WB k P e y.1):=by
        by_cases ff:i<len
        .have h1:=he i ff;obtain⟨y,hy⟩: ∃y,elems[i]? =some y:=⟨_,aX (by omega)⟩;rw[hy] at h1;exact⟨_,h1,fun hl=>hWe i hl y hy⟩
        .have h1:=hr (i-len) (by omega);rw[show len+(i-len)=i by omega,aX (by omega)] at h1;exact⟨_,h1,fun hl=>absurd hl ff⟩
       obtain⟨y,hy,hwy⟩:=hy;rw[Option.bind_eq_some_iff] at hy;obtain⟨ci,hc,hy⟩:=hy;exact⟨ci,y,hc,hy,hwy⟩
      by_cases C1:cap=0
      .subst C1;have hl0:len=0:=by omega
       subst hl0;obtain⟨kb,ez,el,fr,hk⟩:=cJ;obtain⟨ρ',hle,Aa,L',g⟩:=L.add (acs:=[]) hk (Nat.zero_le _) (fun j v hv=>by simp at hv);exact⟨ρ',_,[.slice (some ⟨h.next,0,none⟩) 0 0],[],hle,g,L',.cons (.cell (.slice Aa ⟨.inr ⟨rfl,rfl⟩,.inl rfl,dK _⟩)) .nil,⟨_,rfl,_,0,rfl,.inl ⟨rfl,.inr ⟨_,_,rfl⟩⟩⟩,fun _ _=>Nat.zero_le _,fun y hy=>by cases hy⟩
      .obtain⟨c0,y0,amW,_⟩:=one 0 (by omega);obtain⟨hl0,hg0⟩:=Be amW;have U7:=hg0 0 (c0[0]'(by omega)) (aX (by omega));have agG:(ad.add (0*a.sz)).add 0=ad:=by simp[Addr.add]
       rw[agG] at U7;obtain⟨Zf,ez,el,fr,NL,tS⟩:=PB U7;have aaH:ad.off<=ez.size:=Nat.le_of_lt (Array.getElem?_eq_some_iff.mp tS).1;have had:ad=⟨ad.block,ad.off,none⟩:=by cases ad;simp at Zf;simp[Zf]
       obtain⟨css,vI,D8⟩:=BS (n:=len) (R:=fun i ci=>w.cells? 0 (ad.add (i*a.sz)) a.sz=some ci/\ ∃y,DataW.trod enc P w 0 (fun _=>true) held m e ci=some y/\WB k P e y.1) (fun i hi=>by obtain⟨ci,y,h1,h2,h3⟩:=one i (by omega);exact⟨ci,h1,y,h2,h3 hi⟩)
       have cn: ∀c∈css,c.length=a.sz:=by intro c hc;obtain⟨i,hi,rfl⟩:=List.mem_iff_getElem.mp hc;exact(Be (D8 i _ (aX hi)).1).1
       obtain⟨ρ1,m1,MQ,ys,l1,g1,L1,k1,r1,b1⟩:=Ll (k:=k) (e:=a) L (css:=css) (fun c hc ρ' h' L'=>by obtain⟨i,hi,rfl⟩:=List.mem_iff_getElem.mp hc;obtain⟨_,y,hy,hwy⟩:=D8 i _ (aX hi);exact ih ha hy hwy L' cJ)
       have PN:=Gx k1;obtain⟨ρ2,l2,Aa,L2,g2⟩:=L1.add (acs:=MQ.flatten) NL aaH (fun j v hv=>by
        obtain⟨c,hc,hkr⟩:=PN.get hv;obtain⟨ci,hci,Ti⟩:=KC NZ cn hc;have agQ:=(Be (D8 _ _ hci).1).2 _ _ Ti;obtain⟨_,ccs2,el2,fr2,dq,ag6⟩:=PB agQ;have agL:((ad.add (j/a.sz*a.sz)).add (j%a.sz)).block=ad.block:=by rw[Gv,Gv]
        have ahm:((ad.add (j/a.sz*a.sz)).add (j%a.sz)).off=ad.off+(j/a.sz*a.sz)+j%a.sz:=by rw[Pw,Pw]
        rw[agL,NL] at dq;cases dq;refine⟨c,?_,hkr⟩;rw[ahm,BU,Nat.mul_comm,Nat.div_add_mod] at ag6;exact ag6)
       have uw:ys.length=len:=by rw[<-r1.length,k1.length,vI]
       refine⟨ρ2,_,[.slice (some ⟨m1.next,0,none⟩) len cap],ys,dY.le_trans l1 l2,g1.trans g2,L2,.cons (.cell (.slice Aa ⟨.inl had,.inl rfl,Vh⟩)) .nil,⟨_,rfl,_,cap,by rw[uw],.inr ⟨m1.next,0,MQ.flatten,true,0,0,rfl,by simp[ae.new,Tr.aN],fun i y hy=> ?_⟩⟩,fun K hK=>by rw[uw];exact(XN K hK).1,b1⟩;have ff:=(bY.mp hy).1;have U2:i<MQ.length:=by rw[r1.length];exact ff
       obtain⟨y',C7,ahv⟩:=r1.get (aX U2);rw[hy] at C7;cases C7;have C0: ∀c∈MQ,c.length=a.sz:=by intro c hc;obtain⟨i,hi,rfl⟩:=List.mem_iff_getElem.mp hc;obtain⟨y,_,hrp⟩:=r1.get (aX hi);exact De hrp
       have BY:=PF C0 (aX U2);rw[Bg,BY];exact⟨De ahv,uG L1.ok g2 ahv⟩
   .cases hT
  .rename_i fs hu;split at hT
   .rename_i a m hf;cases hb:Nat.beq m (P.cellsOf t) with
    |false=>rw[hb] at hT;cases hT
    |true=>
     rw[hb] at hT;cases hT;obtain⟨xs,kf,rfl,Zj,vI,uv,CQ⟩:=DataW.trod_struct hu hx;have key: ∀(fl:List Field) (off m:Nat) (T:Ty) (ρ:dY) (h:ae),(∀f∈fl,∃y,DataW.trod enc P w 0 (fun _=>true) held kf f.type ((cs.drop f.offset).take (P.cellsOf f.type))=some y/\WB k P f.type y.1)->
       kH P (tyOf P d) off fl=some (T,m)->m<=cs.length->yK CC ρ h w->Laid k CC w T ρ h ((cs.drop off).take (m-off)):=by
      intro fl;induction fl with
      |nil=>
       intro off m T ρ h _ hf _ L;simp only[kH,kl,wI] at hf;obtain⟨rfl,rfl⟩:=hf;rw[Nat.sub_self,List.take_zero];exact Hj L
      |cons f fl ihf=>
       intro off m T ρ h hy hf hm L;unfold kH at hf;cases hb:Nat.beq f.offset off with
       |false=>rw[hb] at hf;cases hf
       |true=>
        rw[hb] at hf;simp only[cond_true] at hf;have Y6:=uT hb;cases ha:tyOf P d f.type with
        |none=>rw[ha] at hf;cases hf
        |some a=>
         rw[ha] at hf;dsimp only at hf;cases hc:Nat.beq a.sz (P.cellsOf f.type) with
         |false=>rw[hc] at hf;cases hf
         |true=>
          rw[hc] at hf;simp only[cond_true] at hf;have p_:=uT hc;cases hr:kH P (tyOf P d) (off+a.sz) fl with
          |none=>rw[hr] at hf;cases hf
          |some q=>
           obtain⟨b,m'⟩:=q;rw[hr] at hf;cases hf;have hle:=Cu hr;obtain⟨y,hy1,hwy⟩:=hy f (D2 ..);rw[Y6,<-p_] at hy1;have uq:(cs.drop off).take (m-off)=(cs.drop off).take a.sz++(cs.drop (off+a.sz)).take (m-(off+a.sz)):=by rw[<-List.drop_drop,show m-off=a.sz+(m-(off+a.sz)) by omega,List.take_add]
           rw[uq];exact Hi (ih ha hy1 hwy L cJ) fun ρ' h' L'=>ihf _ _ _ _ _ (fun g hg=>hy g (CZ _ hg)) hr hm L'
     have:=key fs.toList 0 m T ρ h (fun f hf=>by
      obtain⟨i,hi,rfl⟩:=List.mem_iff_getElem.mp hf;have h1:=CQ i (fs.toList[i]) (by simp);obtain⟨y,hy⟩: ∃y,xs[i]? =some y:=⟨_,aX (by rw[uv];simpa using hi)⟩;rw[hy] at h1;refine⟨_,h1,fun K hK=> ?_⟩;have hw: ∀n∈DataW.weights P t (.agg (xs.map (·.1))),n<=K:=by have:=hW K hK;rw[Zj] at this;exact this
      rw[DataW.weights,hu] at hw;exact Qv hw (i:=i) (by simp;exact⟨_,Array.getElem?_eq_getElem (by simpa using hi),by simp⟩) (by simp[hy])) hf (by rw[vI,uT hb];exact dK _) L
     rw[uT hb,<-vI] at this;simpa using this
   .cases hT
  .rename_i m e hu;split at hT
   .rename_i a ha;cases hb:(Nat.beq a.sz (P.cellsOf e)&&Nat.beq (m*a.sz) (P.cellsOf t)) with
    |false=>rw[hb] at hT;cases hT
    |true=>
     rw[hb] at hT;cases hT;simp only[uf] at hb;have p_:=uT hb.1;have an9:=uT hb.2;obtain⟨xs,kf,rfl,Zj,vI,uv,CQ⟩:=DataW.trod_array hu hx;rw[<-p_] at CQ;have key: ∀(q off:Nat) (ρ:dY) (h:ae),off+q=m->yK CC ρ h w->Laid k CC w (a.rep q) ρ h (cs.drop (off*a.sz)):=by
      intro q;induction q with
      |zero=>
       intro off ρ h hoq L;rw[XC (by rw[vI,<-an9];exact CI _ (by omega))];exact Hj L
      |succ q ihq=>
       intro off ρ h hoq L;have h1:=CQ off (by omega);obtain⟨y,hy⟩: ∃y,xs[off]? =some y:=⟨_,aX (by omega)⟩;rw[hy] at h1;have hwy:WB k P e y.1:=by
        intro K hK;have hw: ∀n∈DataW.weights P t (.agg (xs.map (·.1))),n<=K:=by have:=hW K hK;rw[Zj] at this;exact this
        rw[DataW.weights,hu] at hw;exact Pe hK hw (i:=off) (by simp[hy]) K hK
       have uq:cs.drop (off*a.sz)=(cs.drop (off*a.sz)).take a.sz++cs.drop ((off+1)*a.sz):=by rw[rU,Nat.one_mul,<-List.drop_drop,List.take_append_drop]
       rw[uq];exact Hi (ih ha h1 hwy L cJ) fun ρ' h' L'=>ihq (off+1) ρ' h' (by omega) L'
     have:=key m 0 ρ h (by omega) L;simpa using this
   .cases hT
  .cases hT
end
end Go.AI
namespace Go.AI
variable {b:Bool} {op:jk} {t:Nat}
section
variable {F:Nat->Option bZ} {R:Env->ae->Prop} {e:Env} {h:ae} {l:List bl} {d:Option Nat} {k:Nat} {m:List (bl×List Nat)} {lL:List Nat}
theorem Hw {R:Env->ae->Prop} (hg:Env.get e t= .tuple #[]):zw F ⟨d,some (t,b),op⟩ e h R↔R (eX e d (.tuple #[])) h:=by
 have hw:wanted e (some (t,b))=false:=by simp[wanted,hg]
 have key: ∀n,cK F (run F n) ⟨d,some (t,b),op⟩ e h=some (eX e d (.tuple #[]),h):=by intro n;unfold cK;dsimp only;rw[hw];rfl
 constructor
 .rintro⟨n,e',h',hr,hq⟩;rw[key] at hr;cases hr;exact hq
 .intro hq;exact⟨0,_,_,key 0,hq⟩
@[simp ↓] theorem asf (hg:Env.get e t= .tuple #[]):aE F (⟨d,some (t,b),op⟩::l) e h R↔aE F l (eX e d (.tuple #[])) h R:=by rw[qo,Hw hg]
@[simp ↓] theorem apr (hg:Env.get e t= .tuple #[]):aQ F k ((⟨d,some (t,b),op⟩,lL)::m) e h R↔(still (eX e d (.tuple #[])) h k lL=true/\aQ F k m (eX e d (.tuple #[])) h R):=by rw[nf,Hw hg]
end
end Go.AI
namespace Go.Proofs.YtdhnndleffachaaGreatDoor
open Go.AI
variable {ai n:Int} {f:Value} {h:ae} {i sz:Nat} {ns:List Int}
structure SV where
 a:Option Addr
 l:Nat
 c:Nat
def SV.v (s:SV):Value:= .slice s.a s.l s.c
@[simp] theorem SV.abi (s:SV):s.v= .slice s.a s.l s.c:=rfl
def fI:SV:=⟨none,0,0⟩
structure GI where
 op:Int
 dst:Int
 a:Bool×Int
 b:Bool×Int
 fn:Int
 args:List (Bool×Int)
structure GP where
 dst:Int
 row:List (Bool×Int)
structure GB where
 eS:List GP
 list:List GI
 kind:Int
 on:Bool×Int
 to:List Int
structure GF where
 name:ByteArray
 params:Int
 ai:Int
 blocks:List GB
structure GG where
 name:ByteArray
 size:Int
 init:List Int
structure GU where
 globals:List GG
 funcs:List GF
def vR (c:List Value) (v:Bool×Int):Prop:=c=[.bool v.1,.int .i64 v.2]
def nR (c:List Value) (n:Int):Prop:=c=[.int .i64 n]
def iR (h:ae) (c:List Value) (x:GI):Prop:= ∃A:SV,c=aC x.op x.dst x.a.1 x.a.2 x.b.1 x.b.2 x.fn A.v/\SliceR vR 2 h A.v x.args
def pR (h:ae) (c:List Value) (p:GP):Prop:= ∃A:SV,c=[.int .i64 p.dst,A.v]/\SliceR vR 2 h A.v p.row
def bR (h:ae) (c:List Value) (b:GB):Prop:= ∃P L T:SV,c=[P.v,L.v,.int .i64 b.kind,.bool b.on.1,.int .i64 b.on.2,T.v]/\SliceR (pR h) 2 h P.v b.eS/\SliceR (iR h) 8 h L.v b.list/\SliceR nR 1 h T.v b.to
def fR (h:ae) (c:List Value) (f:GF):Prop:= ∃B:SV,c=[.string f.name,.int .i64 f.params,.int .i64 f.ai,B.v]/\SliceR (bR h) 6 h B.v f.blocks
def gR (h:ae) (c:List Value) (g:GG):Prop:= ∃I:SV,c=[.string g.name,.int .i64 g.size,I.v]/\SliceR nR 1 h I.v g.init
def uR (h:ae) (G F:SV) (u:GU):Prop:=SliceR (gR h) 3 h G.v u.globals/\SliceR (fR h) 4 h F.v u.funcs
theorem iR.mono {h h':ae} (ok:bu h) (g:ab aG h h') {c:List Value} {x:GI} (r:iR h c x):iR h' c x:=by obtain⟨A,e,s⟩:=r;exact⟨A,e,s.mono ok g fun _ _ h=>h⟩
theorem pR.mono {h h':ae} (ok:bu h) (g:ab aG h h') {c:List Value} {x:GP} (r:pR h c x):pR h' c x:=by obtain⟨A,e,s⟩:=r;exact⟨A,e,s.mono ok g fun _ _ h=>h⟩
theorem bR.mono {h h':ae} (ok:bu h) (g:ab aG h h') {c:List Value} {x:GB} (r:bR h c x):bR h' c x:=by obtain⟨P,L,T,e,s1,s2,s3⟩:=r;exact⟨P,L,T,e,s1.mono ok g fun _ _ r=>r.mono ok g,s2.mono ok g fun _ _ r=>r.mono ok g,s3.mono ok g fun _ _ h=>h⟩
theorem fR.mono {h h':ae} (ok:bu h) (g:ab aG h h') {c:List Value} {x:GF} (r:fR h c x):fR h' c x:=by obtain⟨A,e,s⟩:=r;exact⟨A,e,s.mono ok g fun _ _ r=>r.mono ok g⟩
theorem gR.mono {h h':ae} (ok:bu h) (g:ab aG h h') {c:List Value} {x:GG} (r:gR h c x):gR h' c x:=by obtain⟨A,e,s⟩:=r;exact⟨A,e,s.mono ok g fun _ _ h=>h⟩
abbrev AU (h:ae) (B:SV) (bs:List GB):Prop:=SliceR (bR h) 6 h B.v bs
theorem AU.mono {h h':ae} {B:SV} {bs:List GB} (s:AU h B bs) (ok:bu h) (g:ab aG h h'):AU h' B bs:=SliceR.mono s ok g fun _ _ r=>r.mono ok g
theorem uR.mono {h h':ae} {G F:SV} {u:GU} (r:uR h G F u) (ok:bu h) (g:ab aG h h'):uR h' G F u:=
 ⟨r.1.mono ok g fun _ _ r=>r.mono ok g,r.2.mono ok g fun _ _ r=>r.mono ok g⟩
structure At {α:Type} (R:List Value->α->Prop) (sz:Nat) (h:ae) (L:SV) (n:Nat) (i:Nat) (x:α) (b off:Nat) (c:List Value):Prop where
 a:L.a=some ⟨b,off,none⟩
 l:L.l=n
 len:c.length=sz
 r:R c x
 bA:Old b h
 rd: ∀h':ae,h'.tr.get b=h.tr.get b-> ∀k m,k+m<=sz->bc h' b (off+i*sz+k) m=some ((c.drop k).take m)
theorem SliceR.len {α:Type} {R:List Value->α->Prop} {L:SV} {xs:List α} (s:SliceR R sz h L.v xs):L.l=xs.length:=by obtain⟨a,cap,e,_⟩:=s;simp at e;exact e.2.1
theorem SliceR.at {α:Type} {R:List Value->α->Prop} {sz:Nat} {h:ae} (ok:bu h) {L:SV} {xs:List α} (s:SliceR R sz h L.v xs) {i:Nat} {x:α} (hi:xs[i]? =some x): ∃b off c,At R sz h L xs.length i x b off c:=by
 obtain⟨a,cap,e,s⟩:=s;simp at e;rcases s with⟨rfl,_⟩|⟨b,off,cs,ro,o,st,rfl,hb,he⟩
 .simp at hi
 .obtain⟨hl,hr⟩:=he i x hi;refine⟨b,off,_,e.1,e.2.1,hl,hr,ok.bA hb,fun h' e' k m hk=> ?_⟩;have IV:=hl;simp at IV;have hle:m=0\/off+i*sz+k+m<=cs.length:=by omega
  rcases hle with rfl|hle
  .unfold bc;rw[e',hb];simp
  .rw[cy (e'.trans hb) hle,List.drop_take,List.take_take,List.drop_drop];congr 2;omega
def fL:List GB->Nat
 |[]=>0
 |b::bs=>b.eS.length+b.list.length+fL bs
theorem Eu {bs:List GB} {j:Nat} {b:GB} (h:bs[j]? =some b):fL (bs.take (j+1))=fL (bs.take j)+(b.eS.length+b.list.length):=by
 induction bs generalizing j with
 |nil=>simp at h
 |cons x bs ih=>
  cases j with
  |zero=>simp at h;subst h;simp[fL]
  |succ j=>
   simp at h;have:=ih h;simp only[List.take_succ_cons,fL];omega
def Fits (bs:List GB):Prop:=bs.length<=140737488355328/\ ∀b∈bs,b.eS.length<=140737488355328/\b.list.length<=140737488355328
theorem wrap_add (a b:Int):IntKind.i64.wrap (IntKind.i64.wrap a+b)=IntKind.i64.wrap (a+b):=by simp only[IntKind.wrap,IntKind.signed,IntKind.bits];simp;omega
theorem Et: ∀ {bs:List GB},Fits bs->fL bs<=bs.length*281474976710656
 |[],_=>by simp[fL]
 |b::bs,h=>by have:=Et (bs:=bs) ⟨by have:=h.1;simp at this;omega,fun b hb=>h.2 b (.tail _ hb)⟩;have:=h.2 b (.head _);simp only[fL,List.length_cons];omega
theorem HK {bs:List GB} (h:Fits bs) (hl:bs.length<=40):IntKind.i64.wrap (fL bs:Int)=(fL bs:Int):=by have:=Et h;exact wrap_i64 _ (by omega) (by omega)
structure Small (u:GU):Prop where
 fs:u.funcs.length<=140737488355328
 bs: ∀f∈u.funcs,Fits f.blocks
def Dp (f:GF):Prop:=f.blocks.length<=24/\fL f.blocks<=120
theorem SliceR.later {α:Type} {R:List Value->α->Prop} (ok:bu h) {L:SV} {xs:List α} (s:SliceR R sz h L.v xs) {x:α} (hi:xs[i]? =some x):
  ∃b off c,L.a=some ⟨b,off,none⟩/\i<xs.length/\c.length=sz/\R c x/\Old b h/\ ∀h':ae,ab aG h h'-> ∀k m,k+m<=sz->bc h' b (off+i*sz+k) m=some ((c.drop k).take m):=by
 obtain⟨b,off,c,w⟩:=SliceR.at ok s hi;exact⟨b,off,c,w.a,(bY.mp hi).1,w.len,w.r,w.bA,fun h' g=>w.rd h' (g.got w.bA)⟩
theorem Q9 {h h2:ae} (ok:bu h) {G F:SV} {u:GU} {B:SV} {f:GF} (hi:u.funcs[i]? =some f) (hF: ∃b off,F.a=some ⟨b,off,none⟩/\F.l=u.funcs.length/\ ∀h',ab aG h h'->bc h' b (off+i*4+3) 1=some [B.v]) (hB:AU h B f.blocks) (hm:Fits f.blocks)
  {U:Nat} (hU:h2.tr.get U=some (.aA [G.v,F.v] false 0 0)) (g2:ab aG h h2) {e:Env} {Q:aP->Env->ae->Prop} (f1:Env.get e 1= .pointer (some ⟨U,0,none⟩)) (f3:Env.get e 3= .int .i64 i) (f4:Env.get e 4= .int .i64 0) (f5:Env.get e 5= .int .i64 0)
  (C: ∀e' h',ab aG h2 h'->Env.get e' 1= .pointer (some ⟨U,0,none⟩)->Env.get e' 3= .int .i64 i->Env.get e' 4= .int .i64 (IntKind.i64.wrap (fL f.blocks:Int))->Q (.exit 2) e' h'):
  aB FF (.loop iw) e h2 Q:=by
 obtain⟨b,off,zl,pJ,dy⟩:=hF;have ew:=SliceR.len hB;refine aB.loop (fun m e h3=> ∃j:Nat,m=f.blocks.length-j/\j<=f.blocks.length/\Env.get e 1= .pointer (some ⟨U,0,none⟩)/\Env.get e 3= .int .i64 i/\Env.get e 4= .int .i64 (IntKind.i64.wrap (fL (f.blocks.take j):Int))/\Env.get e 5= .int .i64 j/\ab aG h2 h3) ?_ (n:=f.blocks.length)
  ⟨0,rfl,by omega,f1,f3,by rw[f4];simp[fL,wrap_i64],f5,.refl g2.ok⟩
 rintro m e h3 ⟨j,rfl,hj,f1,f3,f4,f5,g3⟩;have gg:=g2.trans g3;have D4:=g3.get g2.ok hU (fun h=>h);have hr:=dy h3 gg;have ff:=(bY.mp hi).1;unfold iw;by_cases aS:j<f.blocks.length
 .have hx:f.blocks[j]? =some f.blocks[j]:=aX aS;generalize f.blocks[j]=x at hx;obtain⟨b2,Ot,c,ig,_,vI,hc,oB2,xZ⟩:=SliceR.later ok hB hx;obtain⟨P,L,T,rfl,sP,sL,sT⟩:=hc;have r0:=xZ h3 gg 0 1 (by decide);have r1:=xZ h3 gg 1 1 (by decide);have jl:=SliceR.len sP;have tB:=SliceR.len sL;have hle:=Eu hx;have hf:=hm.2 x (dk hx);have NO:=hm.1;simp[-ag] at r0 r1 hr;obtain⟨j',Ra⟩: ∃j',j'=j+1:=⟨_,rfl⟩;have wj:IntKind.i64.wrap ((j:Int)+1)=(j':Int):=by rw[wrap_i64 _ (by omega) (by omega)];omega
  have oU:=g3.ok.bA D4;have Ei:=g3.ok.st _ _ _ _ _ D4;have w2:IntKind.i64.wrap ((fL (f.blocks.take j):Int)+(x.eS.length:Int)+(x.list.length:Int))=IntKind.i64.wrap ((fL (f.blocks.take j'):Nat):Int):=by rw[Ra,hle];congr 1;omega
  simp[f1,f3,f4,f5,aq D4,ay,zl,pJ,ff,hr,ew,ig,aS,r0,r1,-ag,jl,tB,wrap_add,w2,wj];exact⟨f.blocks.length-j',by omega,j',rfl,by omega,rfl,rfl,g3.tick⟩
 .have:j=f.blocks.length:=by omega
  subst this;rw[xV] at f4;simp[-ag] at hr;simp[f1,f3,f4,f5,aq D4,zl,pJ,ff,hr,ew,-ag];exact C _ _ g3 (by simp[f1]) (by simp[f3]) (by simp[f4])
theorem NM (ok:bu h) {G F:SV} {u:GU} (hu:uR h G F u) (sm:Small u):
  aF FF oD [.agg ⟨[G.v,F.v]⟩] h (fun v h'=>ab aG h h'/\ ∃hv:Bool,v= .bool hv/\(hv=false->u.funcs.length<=10/\ ∀f∈u.funcs,Dp f)):=by
 have pJ:=SliceR.len hu.2;refine aF.of wo ?_;unfold oi;simp;have g0:=aO ok [G.v,F.v] 0;refine aB.loop (fun m e h2=> ∃i:Nat,m=u.funcs.length-i/\i<=u.funcs.length/\Env.get e 1= .pointer (some ⟨h.next,0,none⟩)/\Env.get e 3= .int .i64 i/\ab aG h h2/\h2.tr.get h.next=some (.aA [G.v,F.v] false 0 0)/\ ∀f∈u.funcs.take i,Dp f) ?_ (n:=u.funcs.length)
  ⟨0,rfl,by omega,by simp,by simp,by simpa using g0,by simp,by simp⟩
 rintro m e h2 ⟨i,rfl,hi,f1,f3,g2,hU,hL⟩;unfold mC;have zm:=hU;simp at zm;by_cases ff:i<u.funcs.length
 .have hx:u.funcs[i]? =some u.funcs[i]:=aX ff;have hm:=zk ff;generalize u.funcs[i]=f at hx hm;have hb:=sm.bs f hm;obtain⟨b,off,c,zl,_,_,⟨B,rfl,hB⟩,_,dy⟩:=SliceR.later ok hu.2 hx;simp[f1,f3,zm,pJ,ff];refine Q9 ok hx ⟨b,off,zl,pJ,fun h' g=>dy h' g 3 1 (by decide)⟩ hB hb (G:=G) (U:=h.next) hU g2 (by simp[f1]) (by simp[f3]) (by simp) (by simp) ?_;intro e3 h3 g3 q1 q3 q4;have gg:=g2.trans g3;have D4:=g3.get g2.ok zm (fun h=>h);have hr:=dy h3 gg 3 1 (by decide);have ew:=SliceR.len hB;simp[-ag] at hr;have hs:=D4;have hfs:=sm.fs;have wi:=wrap_i64 (i+1) (by omega) (by omega);have tD: ¬24<f.blocks.length-> ¬120<fL f.blocks-> ∀f∈u.funcs.take (i+1),Dp f:=by
   intro h1 h2 f' XW;rw[yn,hx] at XW;rcases tO.1 XW with h|h
   .exact hL f' h
   .simp at h;subst h;exact⟨by omega,by omega⟩
  by_cases k1:24<f.blocks.length
  .have k1':(24:Int)<f.blocks.length:=by omega
   simp[q1,q3,q4,aq D4,zl,pJ,ff,hr,ew,k1',-ag];exact gg
  .have k1': ¬(24:Int)<f.blocks.length:=by omega
   rw[HK hb (by omega)] at q4;by_cases k2:120<fL f.blocks
   .have k2':(120:Int)<fL f.blocks:=by omega
    simp[q1,q3,q4,aq D4,zl,pJ,ff,hr,ew,k1',k2',-ag];exact gg
   .have k2': ¬(120:Int)<fL f.blocks:=by omega
    simp[q1,q3,q4,aq D4,zl,pJ,ff,hr,ew,k1',k2',wi,-ag];exact⟨u.funcs.length-(i+1),by omega,i+1,rfl,by omega,by simp,gg,by rw[D4,zl,pJ],tD k1 k2⟩
 .have:i=u.funcs.length:=by omega
  subst this;rw[xV] at hL;by_cases k:10<u.funcs.length
  .have k':(10:Int)<u.funcs.length:=by omega
   simp[f1,f3,zm,pJ,k'];exact g2
  .have k': ¬(10:Int)<u.funcs.length:=by omega
   simp[f1,f3,zm,pJ,k'];exact⟨g2,by omega,hL⟩
theorem Hr (ok:bu h) (G F:SV):aF FF qU [.agg ⟨[G.v,F.v]⟩] h (fun v h'=>v= .bool (decide (G.l=0)&&decide (F.l=0))/\ab aG h h'):=by
 refine aF.of yU ?_;unfold qF;have g0:=aO ok [G.v,F.v] 0;simp at g0;by_cases hG:G.l=0
 .by_cases hF:F.l=0
  .simp[hG,hF];simpa [hG,hF] using g0
  .have sD:((F.l:Int)==0)=false:=by simp;omega
   simp[hG,hF,sD];simpa [hG] using g0
 .have hG':((G.l:Int)==0)=false:=by simp;omega
  simp[hG,hG'];exact g0
def aH (gs fs:SV) (name:ByteArray) (params ai:Int) (blocks ah:SV):List Value:=[gs.v,fs.v,.string name,.int .i64 params,.int .i64 ai,blocks.v,ah.v]
def CW (ai:Int) (r:Bool) (n:Int):Int:=if r=true/\ ¬(0<=n/\n<=ai-1) then 3 else 0
def Ip (ai n:Int):Int:=if ¬(0<=n/\n<=ai-1) then 3 else 0
section
variable {gs fs blocks ah:SV} {name:ByteArray} {params ai:Int}
theorem xe (h:ae) (ok:bu h) (hr:0<=ai/\ai<1000000) (r:Bool) (n:Int):
  aF FF kZ [.agg ⟨aH gs fs name params ai blocks ah⟩,.agg ⟨[.bool r,.int .i64 n]⟩] h (fun v h'=>v= .int .i64 (CW ai r n)/\ab aG h h'):=by
 refine aF.of yP ?_;unfold qz;have hw:=wrap_i64 (ai-1) (by omega) (by omega);have g1:=(aO ok (aH gs fs name params ai blocks ah) 0);have g2:=g1.new [.bool r,.int .i64 n] 0;cases r with
 |false=>simp[aH,CW];simpa [aH] using g2
 |true=>
  simp[aH,hw];refine aE.call (by simpa using dG _ n 0 (ai-1)) ?_;rintro _ h' ⟨rfl,he⟩;subst he;by_cases h1:0<=n
  .by_cases h2:n<=ai-1
   .simp[h1,h2,CW];simpa [aH] using g2
   .have JN:ai-1<n:=by omega
    simp[h1,h2,JN,CW];simpa [aH] using g2
  .have II:n<0:=by omega
   simp[h1,II,CW];simpa [aH] using g2
theorem DT (h:ae) (ok:bu h) (hr:0<=ai/\ai<1000000) (n:Int):
  aF FF qO [.agg ⟨aH gs fs name params ai blocks ah⟩,.int .i64 n] h (fun v h'=>v= .int .i64 (Ip ai n)/\ab aG h h'):=by
 refine aF.of yL ?_;unfold qv;have hw:=wrap_i64 (ai-1) (by omega) (by omega);have g1:=(aO ok (aH gs fs name params ai blocks ah) 0);simp[aH,hw];refine aE.call (by simpa using dG _ n 0 (ai-1)) ?_;rintro _ h' ⟨rfl,he⟩;subst he;by_cases h1:0<=n
 .by_cases h2:n<=ai-1
  .simp[h1,h2,Ip];simpa [aH] using g1
  .have JN:ai-1<n:=by omega
   simp[h1,h2,JN,Ip];simpa [aH] using g1
 .have II:n<0:=by omega
  simp[h1,II,Ip];simpa [aH] using g1
theorem Rl (ok:bu h) (hr:0<=ai/\ai<1000000) {C X:Nat} {op dst an bn fn:Int} {ar br:Bool} {args:SV} {s1 s2:Nat} (hC:h.tr.get C=some (.aA (aH gs fs name params ai blocks ah) false 0 s1))
  (hX:h.tr.get X=some (.aA (aC op dst ar an br bn fn args.v) false 0 s2)):
  aF FF fY [.pointer (some ⟨C,0,none⟩),.pointer (some ⟨X,0,none⟩)] h (fun v h'=>v= .int .i64 (CW ai ar an)/\ab aG h h'):=by
 refine aF.of v9 ?_;unfold n7;simp[hC,hX,aH,aC];refine aE.call (by simpa [aH] using xe (gs:=gs) (fs:=fs) (name:=name) (params:=params) (blocks:=blocks) (ah:=ah) h ok hr ar an) ?_;rintro _ h' ⟨rfl,g⟩;simp;exact g
theorem Rm (ok:bu h) (hr:0<=ai/\ai<1000000) {C X:Nat} {op dst an bn fn:Int} {ar br:Bool} {args:SV} {s1 s2:Nat} (hC:h.tr.get C=some (.aA (aH gs fs name params ai blocks ah) false 0 s1))
  (hX:h.tr.get X=some (.aA (aC op dst ar an br bn fn args.v) false 0 s2)):
  aF FF fZ [.pointer (some ⟨C,0,none⟩),.pointer (some ⟨X,0,none⟩)] h (fun v h'=>v= .int .i64 (CW ai br bn)/\ab aG h h'):=by
 refine aF.of v_ ?_;unfold n9;simp[hC,hX,aH,aC];refine aE.call (by simpa [aH] using xe (gs:=gs) (fs:=fs) (name:=name) (params:=params) (blocks:=blocks) (ah:=ah) h ok hr br bn) ?_;rintro _ h' ⟨rfl,g⟩;simp;exact g
end
def ways:List Value:=[.int .i64 0,.int .i64 0,.int .i64 1,.int .i64 2]
def CA (h:ae):Prop:= ∃ro o s,h.tr.get 0=some (.aA ways ro o s)
theorem CA.grow {h h':ae} (w:CA h) (ok:bu h) (g:ab aG h h'):CA h':=by obtain⟨ro,o,s,hw⟩:=w;exact⟨ro,o,s,g.get ok hw (fun h=>h)⟩
theorem El (ok:bu h) {T:SV} (hT:SliceR nR 1 h T.v ns) (hl:ns.length<140737488355329) (p:Int->Bool) (H: ∀h1 n,ab aG h h1->cP FF f [.int .i64 n] h1 (fun v h'=>v= .bool (p n)/\ab aG h1 h')):
  aF FF jF [T.v,f] h (fun v h'=>ab aG h h'/\ ∃i:Int,v= .int .i64 i/\(0<=i↔ ∃n∈ns,p n=true)):=by
 have tC:=SliceR.len hT;refine aF.of qH ?_;unfold jq;simp;refine aB.loop (fun m e h2=> ∃j:Nat,m=ns.length-j/\j<=ns.length/\Env.get e 0=T.v/\Env.get e 1=f/\Env.get e 7= .int .i64 ns.length/\Env.get e 8= .int .i64 j/\ab aG h h2/\ ∀n∈ns.take j,p n=false) ?_ (n:=ns.length)
  ⟨0,rfl,by omega,by simp,by simp,by simp[tC],by simp,.refl ok,by simp⟩
 rintro m e h2 ⟨j,rfl,hj,f0,f1,f7,f8,g2,hp⟩;unfold iF;by_cases aS:j<ns.length
 .have hx:ns[j]? =some ns[j]:=aX aS;have hm:=zk aS;generalize ns[j]=n at hx hm;obtain⟨b,off,c,Bi,_,_,rfl,_,dy⟩:=SliceR.later ok hT hx;have r0:=dy h2 g2 0 1 (by decide);simp[-ag] at r0;have wj:=wrap_i64 (j+1) (by omega) (by omega);simp at f0;simp[f0,f1,f7,f8,Bi,tC,aS,r0,-ag];refine aE.cD (by simpa [f1] using H h2 n g2) ?_;rintro _ h3 ⟨rfl,g3⟩;cases NY:p n with
  |true=>
   simp;exact⟨g2.trans g3,n,hm,NY⟩
  |false=>
   simp[f0,f1,f7,f8,wj];refine⟨ns.length-(j+1),by omega,j+1,rfl,by omega,⟨Bi,tC⟩,by simp,g2.trans g3,?_⟩;intro n' KY;rw[yn,hx] at KY;rcases tO.1 KY with h|h
   .exact hp n' h
   .simp at h;rw[h];exact NY
 .have:j=ns.length:=by omega
  subst this;rw[xV] at hp;simp[f7,f8];exact⟨g2,fun n hn=>hp n hn⟩
theorem sq (ok:bu h) {T:SV} (hT:SliceR nR 1 h T.v ns) (hl:ns.length<140737488355329) (p:Int->Bool) (H: ∀h1 n,ab aG h h1->cP FF f [.int .i64 n] h1 (fun v h'=>v= .bool (p n)/\ab aG h1 h')):
  aF FF eC [T.v,f] h (fun v h'=>v= .bool (ns.any p)/\ab aG h h'):=by
 refine aF.of om ?_;unfold h_;simp;refine aE.call (V:=fun v h'=>ab aG h h'/\ ∃i:Int,v= .int .i64 i/\(0<=i↔ ∃n∈ns,p n=true)) (by simpa using El ok hT hl p H) ?_;rintro _ h2 ⟨g2,i,rfl,hi⟩;have e:ns.any p=decide (0<=i):=by rw[Bool.eq_iff_iff];simp[hi]
 by_cases h0:0<=i
 .simp[h0,e];exact g2
 .have h0':i<0:=by omega
  simp[h0,h0',e];exact g2
section
variable {gs fs blocks ah:SV} {name:ByteArray} {params ai:Int}
def Z8 (n:Nat) (t:Int):Prop:=1<=t/\t<=(n:Int)-1
theorem QQ (ok:bu h) (pc:blocks.l<1000000) {C s1:Nat} (hC:h.tr.get C=some (.aA (aH gs fs name params ai blocks ah) false 0 s1)) (t:Int):
  aF FF jD [.int .i64 t,.pointer (some ⟨C,0,none⟩)] h (fun v h'=>v= .bool (!(decide (1<=t)&&decide (t<=(blocks.l:Int)-1)))/\ab aG h h'):=by
 have w1:=wrap_i64 ((blocks.l:Int)-1) (by omega) (by omega);refine aF.of v8 ?_;unfold n6;simp[hC,aH,w1];refine aE.call (by simpa using dG h t 1 ((blocks.l:Int)-1)) ?_;rintro _ h2 ⟨rfl,rfl⟩;simp;exact .refl ok
structure JW (n:Nat) (ai:Int) (b:GB):Prop where
 kind:(b.kind=1/\b.to=[])\/(b.kind=2/\ ∃t,b.to=[t])\/(b.kind=3/\ ∃t u,b.to=[t,u]/\t≠u)
 to: ∀t∈b.to,Z8 n t
 on:b.on.1=true->0<=b.on.2/\b.on.2<=ai-1
def Ba (n:Nat) (ts:List Int):Bool:=ts.any fun t=> !(decide (1<=t)&&decide (t<=(n:Int)-1))
theorem Gy {n:Nat} {ts:List Int} (h:Ba n ts=false): ∀t∈ts,Z8 n t:=by intro t ht;unfold Ba at h;rw[List.any_eq_false] at h;have:=h t ht;simp at this;exact this
theorem xG {r:Bool} (h:CW ai r n=0):r=true->0<=n/\n<=ai-1:=by
 intro hr;unfold CW at h;split at h
 .cases h
 .rename_i hn;by_cases hh:0<=n/\n<=ai-1
  .exact hh
  .exact absurd ⟨hr,hh⟩ hn
theorem Uy (ok:bu h) (hw:CA h) (hr:0<=ai/\ai<1000000) (pc:blocks.l<1000000) {b:GB} (cn:b.to.length<140737488355329) {T:SV} (hT:SliceR nR 1 h T.v b.to):
  aF FF kX [.agg ⟨aH gs fs name params ai blocks ah⟩,.agg ⟨[.int .i64 b.kind,.bool b.on.1,.int .i64 b.on.2,T.v]⟩] h (fun v h'=>ab aG h h'/\ ∃c:Int,v= .int .i64 c/\(c=0->JW blocks.l ai b)):=by
 obtain⟨ph,li,kind,⟨r,n⟩,to⟩:=b;simp only at hT cn ⊢;obtain⟨ro,o,s,Tu⟩:=hw;have h0:0<h.next:=ok.wf _ _ Tu;have tC:=SliceR.len hT;refine aF.of yM ?_;unfold qw;simp[aH];refine aE.cut (fun h2=>ab aG h h2/\h2.tr.get h.next=some (.aA (aH gs fs name params ai blocks ah) false 0 0)/\h2.tr.get (h.next+1)=some (.aA [.int .i64 kind,.bool r,.int .i64 n,T.v] false 0 0)) ?_ ?_
 .exact⟨((ab.refl ok).new _ _).new _ _,by simp[aH],by simp⟩
 rintro h2 ⟨g2,vF,dS⟩;have XM:=g2.get ok Tu (fun h=>h);simp[ways] at XM;refine aE.call (by simpa using dG h2 kind 1 3) ?_;rintro _ JN ⟨rfl,he⟩;rw[he];have wJ:=vF;simp[aH] at wJ;simp at dS;by_cases hk:1<=kind/\kind<=3
 .have vM:(decide (1<=kind)&&decide (kind<=3))=true:=by simpa using hk
  have mM: ∀h1,ab aG h2 h1->aF FF eC [T.v,.func (.func jD) #[] #[.pointer (some ⟨h.next,0,none⟩)]] h1 (fun v h'=>v= .bool (Ba blocks.l to)/\ab aG h1 h'):=by intro h1 g1;refine sq g1.ok (hT.mono ok (g2.trans g1) fun _ _ h=>h) cn _ fun h3 n g3=> ?_;refine cP.func ?_;have:=QQ g3.ok pc (g3.get g1.ok (g1.get g2.ok vF (fun h=>h)) (fun h=>h)) n;simpa using this
  have KU: ∀h1,ab aG h2 h1->aF FF kZ [.agg ⟨aH gs fs name params ai blocks ah⟩,.agg ⟨[.bool r,.int .i64 n]⟩] h1 (fun v h'=>v= .int .i64 (CW ai r n)/\ab aG h1 h'):=fun h1 g1=>xe h1 g1.ok hr r n;have xn:kind=1\/kind=2\/kind=3:=by omega
  rcases xn with rfl|rfl|rfl
  .by_cases hl:to.length=0
   .have acK:to=[]:=List.length_eq_zero_iff.1 hl;subst acK;have KL:T.l=0:=tC;rw[KL] at dS;simp[dS,XM];refine aE.call (by simpa [KL] using mM (tick h2) (aW g2.ok)) ?_;rintro _ h3 ⟨rfl,g3⟩;have dh:=(aW g2.ok).trans g3;have fK:=dh.get g2.ok dS (fun h=>h);have Mx:=dh.get g2.ok wJ (fun h=>h);simp[Ba,fK,Mx];refine aE.call (by simpa [aH] using KU (tick h3) (dh.trans (aW dh.ok))) ?_;rintro _ h4 ⟨rfl,g4⟩;simp;exact⟨((g2.trans dh).trans (aW dh.ok)).trans g4,fun h=>⟨.inl ⟨rfl,rfl⟩,by simp,xG h⟩⟩
   .have IV:((T.l:Int) !=0)=true:=by simp;omega
    simp[dS,XM,IV];exact g2.tick
  .by_cases hl:to.length=1
   .obtain⟨t,rfl⟩: ∃t,to=[t]:=List.length_eq_one_iff.1 hl;have KL:T.l=1:=tC;rw[KL] at dS;simp[dS,XM];refine aE.call (by simpa [KL] using mM (tick h2) (aW g2.ok)) ?_;rintro _ h3 ⟨rfl,g3⟩;have dh:=(aW g2.ok).trans g3;have fK:=dh.get g2.ok dS (fun h=>h);have Mx:=dh.get g2.ok wJ (fun h=>h);cases aci:Ba blocks.l [t] with
    |true=>
     simp;exact g2.trans dh
    |false=>
     by_cases hz:r=false/\n=0
     .obtain⟨rfl,rfl⟩:=hz;simp[fK,Mx];refine aE.call (by simpa [aH] using KU (tick h3) (dh.trans (aW dh.ok))) ?_;rintro _ h4 ⟨rfl,g4⟩;simp;exact⟨((g2.trans dh).trans (aW dh.ok)).trans g4,fun _=>⟨.inr (.inl ⟨rfl,t,rfl⟩),Gy aci,fun h=>by cases h⟩⟩
     .have Tw:(r|| !(n==0))=true:=by
       cases r
       .simp at hz ⊢;exact hz
       .rfl
      simp[fK,Mx,Tw];exact(g2.trans dh).tick
   .have IV:((T.l:Int) !=1)=true:=by simp;omega
    simp[dS,XM,IV];exact g2.tick
  .by_cases hl:to.length=2
   .obtain⟨t,u,rfl⟩: ∃t u,to=[t,u]:=by
     match to,hl with
     |[t,u],_=>exact⟨t,u,rfl⟩
    have KL:T.l=2:=tC;rw[KL] at dS;obtain⟨b0,off0,c0,Bi,_,_,rfl,_,an0⟩:=SliceR.later ok hT (i:=0) (x:=t) rfl;obtain⟨b1,EF,c1,agt,_,_,rfl,_,qL⟩:=SliceR.later ok hT (i:=1) (x:=u) rfl;rw[Bi] at agt dS;cases agt;simp[dS,XM];refine aE.call (by simpa [KL,Bi] using mM (tick h2) (aW g2.ok)) ?_;rintro _ h3 ⟨rfl,g3⟩;have dh:=(aW g2.ok).trans g3;have fK:=dh.get g2.ok dS (fun h=>h);have Mx:=dh.get g2.ok wJ (fun h=>h);have r0:=an0 h3 (g2.trans dh) 0 1 (by decide);have r1:=qL h3 (g2.trans dh) 0 1 (by decide);simp[-ag] at r0 r1;cases aci:Ba blocks.l [t,u] with
    |true=>
     simp;exact g2.trans dh
    |false=>
     by_cases htu:t=u
     .subst htu;simp[ay,aq fK,r0,r1,-ag];exact(g2.trans dh).tick
     .have aoa:(t==u)=false:=by simpa using htu
      simp[ay,aq fK,aq Mx,r0,r1,aoa,-ag];refine aE.call (by simpa [aH] using KU (tick h3) (dh.trans (aW dh.ok))) ?_;rintro _ h4 ⟨rfl,g4⟩;simp;exact⟨((g2.trans dh).trans (aW dh.ok)).trans g4,fun h=>⟨.inr (.inr ⟨rfl,t,u,rfl,htu⟩),Gy aci,xG h⟩⟩
   .have IV:((T.l:Int) !=2)=true:=by simp;omega
    simp[dS,XM,IV];exact g2.tick
 .have vM:(decide (1<=kind)&&decide (kind<=3))=false:=by simpa using hk
  simp[vM];exact g2
end
def X9 (h:ae) (c:List Value) (l:List Int):Prop:= ∃S:SV,c=[S.v]/\SliceR nR 1 h S.v l
theorem X9.mono {h h':ae} (ok:bu h) (g:ab aG h h') {c:List Value} {x:List Int} (r:X9 h c x):X9 h' c x:=by obtain⟨A,e,s⟩:=r;exact⟨A,e,s.mono ok g fun _ _ h=>h⟩
def r8 (ai:Int) (v:Bool×Int):Prop:=v.1=true->0<=v.2/\v.2<=ai-1
def vP (ai:Int) (n:Int):Prop:=0<=n/\n<=ai-1
theorem Iq (h:Ip ai n=0):vP ai n:=by
 unfold Ip at h;split at h
 .cases h
 .rename_i hn;unfold vP;omega
def nV (ai:Int) (l:List (Bool×Int)):Prop:= ∀v∈l,r8 ai v
theorem nV.nil (ai:Int):nV ai []:=fun _ h=>by simp at h
theorem nV.take {ai:Int} {l:List (Bool×Int)} {j:Nat} {v:Bool×Int} (h:nV ai (l.take j)) (hx:l[j]? =some v) (hv:r8 ai v):nV ai (l.take (j+1)):=by
 intro n hn;rw[yn,hx] at hn;rcases tO.1 hn with h1|h1
 .exact h n h1
 .simp at h1;rw[h1];exact hv
theorem qV {a b:Int} (h: ¬a=b):(a !=b)=true:=by simpa using h
structure Gq (ai:Int) (n:Nat) (p:GP):Prop where
 dst:vP ai p.dst
 len:p.row.length=n
 row:nV ai p.row
section
variable {gs fs blocks ah:SV} {name:ByteArray} {params ai:Int}
theorem WD (ok:bu h) (hr:0<=ai/\ai<1000000) {j4:List (List Int)} (hA:SliceR (X9 h) 1 h ah.v j4) {l:List Int} (hi:j4[i]? =some l) {p:GP} (cn:p.row.length<140737488355329) {W:SV} (hW:SliceR vR 2 h W.v p.row):
  aF FF kY [.agg ⟨aH gs fs name params ai blocks ah⟩,.int .i64 i,.agg ⟨[.int .i64 p.dst,W.v]⟩] h (fun v h'=>ab aG h h'/\ ∃c:Int,v= .int .i64 c/\(c=0->i≠0/\Gq ai l.length p)):=by
 have NK:=SliceR.len hW;have vE:=SliceR.len hA;refine aF.of yO ?_;unfold qy;by_cases h0:i=0
 .subst h0;simp[aH];exact((ab.refl ok).new _ _).new _ _
 have h0':((i:Int)==0)=false:=by simp;omega
 obtain⟨ba,offa,ca,CK,ff,_,⟨S,rfl,hS⟩,oA,hrdA⟩:=SliceR.later ok hA hi;have hSl:=SliceR.len hS;simp[aH,h0',h0];refine aE.cut (fun h2=>ab aG h h2/\h2.tr.get h.next=some (.aA (aH gs fs name params ai blocks ah) false 0 0)/\h2.tr.get (h.next+1)=some (.aA [.int .i64 p.dst,W.v] false 0 0)) ?_ ?_
 .exact⟨((ab.refl ok).new _ _).new _ _,by simp[aH],by simp⟩
 rintro h2 ⟨g2,vF,dS⟩;refine aE.call (by simpa [aH] using DT (gs:=gs) (fs:=fs) (name:=name) (params:=params) (blocks:=blocks) (ah:=ah) h2 g2.ok hr p.dst) ?_;rintro _ h3 ⟨rfl,g3⟩;have dh:=g2.trans g3;have Mx:=g3.get g2.ok vF (fun h=>h);have fK:=g3.get g2.ok dS (fun h=>h);by_cases hd:Ip ai p.dst=0
 .have rA:=hrdA h3 dh 0 1 (by decide);simp[-ag] at rA;simp[aH] at Mx;simp at fK;by_cases Ed:p.row.length=l.length
  .have e1:((W.l:Int) !=(S.l:Int))=false:=by simp;omega
   simp[hd,ay,aq fK,aq Mx,CK,vE,ff,rA,e1,-ag];refine aB.loop (fun m e h4=> ∃j:Nat,m=p.row.length-j/\j<=p.row.length/\Env.get e 3= .pointer (some ⟨h.next,0,none⟩)/\Env.get e 31=W.v/\Env.get e 32= .int .i64 p.row.length/\Env.get e 33= .int .i64 j/\ab aG h3 h4/\nV ai (p.row.take j)) ?_ (n:=p.row.length)
    ⟨0,rfl,by omega,by simp,by simp,by simp[NK],by simp,aW dh.ok,.nil _⟩
   rintro m e h4 ⟨j,rfl,hj,f3,f31,f32,f33,g4,hv⟩;have mK:=dh.trans g4;have US:=g4.get dh.ok Mx (fun h=>h);unfold oH;by_cases aS:j<p.row.length
   .have hx:p.row[j]? =some p.row[j]:=aX aS;generalize p.row[j]=v at hx;obtain⟨b,off,c,hWa,_,_,rfl,oW,dy⟩:=SliceR.later ok hW hx;have r0:=dy h4 mK 0 2 (by decide);simp[-ag] at r0;have wj:=wrap_i64 (j+1) (by omega) (by omega);have oC4:=mK.ok.bA US;simp at f31;simp[f3,f31,f32,f33,hWa,NK,aS,r0,aq US,av,bg,aI,oC4,-ag];refine aE.cut (fun h5=>ab aG h4 h5) ?_ ?_
    .exact((ab.refl mK.ok).new _ _).put ⟨0,by simp⟩ (.inl (dK _))
    rintro h5 g5;have u7:=mK.trans g5;refine aE.call (by simpa [aH] using xe (gs:=gs) (fs:=fs) (name:=name) (params:=params) (blocks:=blocks) (ah:=ah) h5 u7.ok hr v.1 v.2) ?_;rintro _ h6 ⟨rfl,g6⟩;by_cases xp:CW ai v.1 v.2=0
    .simp[f3,f31,f32,f33,xp,wj];refine⟨p.row.length-(j+1),by omega,j+1,rfl,by omega,⟨hWa,NK⟩,by simp,(g4.trans g5).trans g6,hv.take hx (xG xp)⟩
    .have:=qV xp;simp[this];exact⟨u7.trans g6,fun h=>absurd h xp⟩
   .have:j=p.row.length:=by omega
    subst this;rw[xV] at hv;simp[f32,f33];exact⟨mK,⟨Iq hd,Ed,hv⟩⟩
  .have e1:((W.l:Int) !=(S.l:Int))=true:=by simp;omega
   simp[hd,ay,aq fK,aq Mx,CK,vE,ff,rA,e1,-ag];exact dh.tick
 .have:=qV hd;simp[this];exact⟨dh,fun h=>absurd h hd⟩
end
def bq (s:Bool×Bool×Bool) (x:GI) (n:Nat):Bool:=
 (!s.1&&x.dst != -1)||((!s.2.1&& !(!x.a.1&&x.a.2==0))||((!s.2.2&& !(!x.b.1&&x.b.2==0))||(!(x.op==20)&&(x.fn !=0||decide (0<n)))))
theorem Zl {h:ae} {e:Env} {X S K s1 s2 s3:Nat} {s:Bool×Bool×Bool} {x:GI} {A:SV} {R:Env->ae->Prop}
  (hX:h.tr.get X=some (.aA (aC x.op x.dst x.a.1 x.a.2 x.b.1 x.b.2 x.fn A.v) false 0 s1)) (hS:h.tr.get S=some (.aA [.bool s.1,.bool s.2.1,.bool s.2.2] false 0 s2)) (hK:h.tr.get K=some (.aA [.bool (x.op==20)] false 0 s3))
  (f3:Env.get e 3= .pointer (some ⟨X,0,none⟩)) (f5:Env.get e 5= .pointer (some ⟨S,0,none⟩)) (f6:Env.get e 6= .pointer (some ⟨K,0,none⟩))
  (H: ∀e',Env.get e' 2=Env.get e 2->Env.get e' 3=Env.get e 3->Env.get e' 5=Env.get e 5->Env.get e' 6=Env.get e 6->Env.get e' 62= .bool (bq s x A.l)->R e' h):aE FF N8 e h R:=by
 obtain⟨op,dst,⟨ar,an⟩,⟨br,bn⟩,fn,args⟩:=x;obtain⟨sd,sa,sb⟩:=s;simp[aC] at hX hS hK;unfold N8;cases sd with
 |true=>
  cases sa with
  |true=>
   cases sb with
   |true=>
    cases hc:(op==20) with
    |true=>
     simp[f3,f5,f6,hX,hS,hK,bne,hc];refine H _ ?_ ?_ ?_ ?_ ?_<;>simp[bq,f3,f5,f6,bne,hc]
    |false=>
     cases hf:(fn==0) with
     |true=>
      simp[f3,f5,f6,hX,hS,hK,bne,hc,hf];refine H _ ?_ ?_ ?_ ?_ ?_<;>simp[bq,f3,f5,f6,bne,hc,hf]
     |false=>
      simp[f3,f5,f6,hX,hS,hK,bne,hc,hf];refine H _ ?_ ?_ ?_ ?_ ?_<;>simp[bq,f3,f5,f6,bne,hc,hf]
   |false=>
    cases br with
    |true=>
     simp[f3,f5,f6,hX,hS,hK,bne];refine H _ ?_ ?_ ?_ ?_ ?_<;>simp[bq,f3,f5,f6,bne]
    |false=>
     cases hb:(bn==0) with
     |false=>
      simp[f3,f5,f6,hX,hS,hK,bne,hb];refine H _ ?_ ?_ ?_ ?_ ?_<;>simp[bq,f3,f5,f6,bne,hb]
     |true=>
      cases hc:(op==20) with
      |true=>
       simp[f3,f5,f6,hX,hS,hK,bne,hb,hc];refine H _ ?_ ?_ ?_ ?_ ?_<;>simp[bq,f3,f5,f6,bne,hb,hc]
      |false=>
       cases hf:(fn==0) with
       |true=>
        simp[f3,f5,f6,hX,hS,hK,bne,hb,hc,hf];refine H _ ?_ ?_ ?_ ?_ ?_<;>simp[bq,f3,f5,f6,bne,hb,hc,hf]
       |false=>
        simp[f3,f5,f6,hX,hS,hK,bne,hb,hc,hf];refine H _ ?_ ?_ ?_ ?_ ?_<;>simp[bq,f3,f5,f6,bne,hb,hc,hf]
  |false=>
   cases sb with
   |true=>
    cases ar with
    |true=>
     simp[f3,f5,f6,hX,hS,hK,bne];refine H _ ?_ ?_ ?_ ?_ ?_<;>simp[bq,f3,f5,f6,bne]
    |false=>
     cases ha:(an==0) with
     |false=>
      simp[f3,f5,f6,hX,hS,hK,bne,ha];refine H _ ?_ ?_ ?_ ?_ ?_<;>simp[bq,f3,f5,f6,bne,ha]
     |true=>
      cases hc:(op==20) with
      |true=>
       simp[f3,f5,f6,hX,hS,hK,bne,ha,hc];refine H _ ?_ ?_ ?_ ?_ ?_<;>simp[bq,f3,f5,f6,bne,ha,hc]
      |false=>
       cases hf:(fn==0) with
       |true=>
        simp[f3,f5,f6,hX,hS,hK,bne,ha,hc,hf];refine H _ ?_ ?_ ?_ ?_ ?_<;>simp[bq,f3,f5,f6,bne,ha,hc,hf]
       |false=>
        simp[f3,f5,f6,hX,hS,hK,bne,ha,hc,hf];refine H _ ?_ ?_ ?_ ?_ ?_<;>simp[bq,f3,f5,f6,bne,ha,hc,hf]
   |false=>
    cases ar with
    |true=>
     simp[f3,f5,f6,hX,hS,hK,bne];refine H _ ?_ ?_ ?_ ?_ ?_<;>simp[bq,f3,f5,f6,bne]
    |false=>
     cases ha:(an==0) with
     |false=>
      simp[f3,f5,f6,hX,hS,hK,bne,ha];refine H _ ?_ ?_ ?_ ?_ ?_<;>simp[bq,f3,f5,f6,bne,ha]
     |true=>
      cases br with
      |true=>
       simp[f3,f5,f6,hX,hS,hK,bne,ha];refine H _ ?_ ?_ ?_ ?_ ?_<;>simp[bq,f3,f5,f6,bne,ha]
      |false=>
       cases hb:(bn==0) with
       |false=>
        simp[f3,f5,f6,hX,hS,hK,bne,ha,hb];refine H _ ?_ ?_ ?_ ?_ ?_<;>simp[bq,f3,f5,f6,bne,ha,hb]
       |true=>
        cases hc:(op==20) with
        |true=>
         simp[f3,f5,f6,hX,hS,hK,bne,ha,hb,hc];refine H _ ?_ ?_ ?_ ?_ ?_<;>simp[bq,f3,f5,f6,bne,ha,hb,hc]
        |false=>
         cases hf:(fn==0) with
         |true=>
          simp[f3,f5,f6,hX,hS,hK,bne,ha,hb,hc,hf];refine H _ ?_ ?_ ?_ ?_ ?_<;>simp[bq,f3,f5,f6,bne,ha,hb,hc,hf]
         |false=>
          simp[f3,f5,f6,hX,hS,hK,bne,ha,hb,hc,hf];refine H _ ?_ ?_ ?_ ?_ ?_<;>simp[bq,f3,f5,f6,bne,ha,hb,hc,hf]
 |false=>
  cases sa with
  |true=>
   cases sb with
   |true=>
    cases hd:(dst== -1) with
    |false=>
     simp[f3,f5,f6,hX,hS,hK,bne,hd];refine H _ ?_ ?_ ?_ ?_ ?_<;>simp[bq,f3,f5,f6,bne,hd]
    |true=>
     cases hc:(op==20) with
     |true=>
      simp[f3,f5,f6,hX,hS,hK,bne,hd,hc];refine H _ ?_ ?_ ?_ ?_ ?_<;>simp[bq,f3,f5,f6,bne,hd,hc]
     |false=>
      cases hf:(fn==0) with
      |true=>
       simp[f3,f5,f6,hX,hS,hK,bne,hd,hc,hf];refine H _ ?_ ?_ ?_ ?_ ?_<;>simp[bq,f3,f5,f6,bne,hd,hc,hf]
      |false=>
       simp[f3,f5,f6,hX,hS,hK,bne,hd,hc,hf];refine H _ ?_ ?_ ?_ ?_ ?_<;>simp[bq,f3,f5,f6,bne,hd,hc,hf]
   |false=>
    cases hd:(dst== -1) with
    |false=>
     simp[f3,f5,f6,hX,hS,hK,bne,hd];refine H _ ?_ ?_ ?_ ?_ ?_<;>simp[bq,f3,f5,f6,bne,hd]
    |true=>
     cases br with
     |true=>
      simp[f3,f5,f6,hX,hS,hK,bne,hd];refine H _ ?_ ?_ ?_ ?_ ?_<;>simp[bq,f3,f5,f6,bne,hd]
     |false=>
      cases hb:(bn==0) with
      |false=>
       simp[f3,f5,f6,hX,hS,hK,bne,hd,hb];refine H _ ?_ ?_ ?_ ?_ ?_<;>simp[bq,f3,f5,f6,bne,hd,hb]
      |true=>
       cases hc:(op==20) with
       |true=>
        simp[f3,f5,f6,hX,hS,hK,bne,hd,hb,hc];refine H _ ?_ ?_ ?_ ?_ ?_<;>simp[bq,f3,f5,f6,bne,hd,hb,hc]
       |false=>
        cases hf:(fn==0) with
        |true=>
         simp[f3,f5,f6,hX,hS,hK,bne,hd,hb,hc,hf];refine H _ ?_ ?_ ?_ ?_ ?_<;>simp[bq,f3,f5,f6,bne,hd,hb,hc,hf]
        |false=>
         simp[f3,f5,f6,hX,hS,hK,bne,hd,hb,hc,hf];refine H _ ?_ ?_ ?_ ?_ ?_<;>simp[bq,f3,f5,f6,bne,hd,hb,hc,hf]
  |false=>
   cases sb with
   |true=>
    cases hd:(dst== -1) with
    |false=>
     simp[f3,f5,f6,hX,hS,hK,bne,hd];refine H _ ?_ ?_ ?_ ?_ ?_<;>simp[bq,f3,f5,f6,bne,hd]
    |true=>
     cases ar with
     |true=>
      simp[f3,f5,f6,hX,hS,hK,bne,hd];refine H _ ?_ ?_ ?_ ?_ ?_<;>simp[bq,f3,f5,f6,bne,hd]
     |false=>
      cases ha:(an==0) with
      |false=>
       simp[f3,f5,f6,hX,hS,hK,bne,hd,ha];refine H _ ?_ ?_ ?_ ?_ ?_<;>simp[bq,f3,f5,f6,bne,hd,ha]
      |true=>
       cases hc:(op==20) with
       |true=>
        simp[f3,f5,f6,hX,hS,hK,bne,hd,ha,hc];refine H _ ?_ ?_ ?_ ?_ ?_<;>simp[bq,f3,f5,f6,bne,hd,ha,hc]
       |false=>
        cases hf:(fn==0) with
        |true=>
         simp[f3,f5,f6,hX,hS,hK,bne,hd,ha,hc,hf];refine H _ ?_ ?_ ?_ ?_ ?_<;>simp[bq,f3,f5,f6,bne,hd,ha,hc,hf]
        |false=>
         simp[f3,f5,f6,hX,hS,hK,bne,hd,ha,hc,hf];refine H _ ?_ ?_ ?_ ?_ ?_<;>simp[bq,f3,f5,f6,bne,hd,ha,hc,hf]
   |false=>
    cases hd:(dst== -1) with
    |false=>
     simp[f3,f5,f6,hX,hS,hK,bne,hd];refine H _ ?_ ?_ ?_ ?_ ?_<;>simp[bq,f3,f5,f6,bne,hd]
    |true=>
     cases ar with
     |true=>
      simp[f3,f5,f6,hX,hS,hK,bne,hd];refine H _ ?_ ?_ ?_ ?_ ?_<;>simp[bq,f3,f5,f6,bne,hd]
     |false=>
      cases ha:(an==0) with
      |false=>
       simp[f3,f5,f6,hX,hS,hK,bne,hd,ha];refine H _ ?_ ?_ ?_ ?_ ?_<;>simp[bq,f3,f5,f6,bne,hd,ha]
      |true=>
       cases br with
       |true=>
        simp[f3,f5,f6,hX,hS,hK,bne,hd,ha];refine H _ ?_ ?_ ?_ ?_ ?_<;>simp[bq,f3,f5,f6,bne,hd,ha]
       |false=>
        cases hb:(bn==0) with
        |false=>
         simp[f3,f5,f6,hX,hS,hK,bne,hd,ha,hb];refine H _ ?_ ?_ ?_ ?_ ?_<;>simp[bq,f3,f5,f6,bne,hd,ha,hb]
        |true=>
         cases hc:(op==20) with
         |true=>
          simp[f3,f5,f6,hX,hS,hK,bne,hd,ha,hb,hc];refine H _ ?_ ?_ ?_ ?_ ?_<;>simp[bq,f3,f5,f6,bne,hd,ha,hb,hc]
         |false=>
          cases hf:(fn==0) with
          |true=>
           simp[f3,f5,f6,hX,hS,hK,bne,hd,ha,hb,hc,hf];refine H _ ?_ ?_ ?_ ?_ ?_<;>simp[bq,f3,f5,f6,bne,hd,ha,hb,hc,hf]
          |false=>
           simp[f3,f5,f6,hX,hS,hK,bne,hd,ha,hb,hc,hf];refine H _ ?_ ?_ ?_ ?_ ?_<;>simp[bq,f3,f5,f6,bne,hd,ha,hb,hc,hf]
end Go.Proofs.YtdhnndleffachaaGreatDoor
