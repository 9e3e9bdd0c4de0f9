/- Parts of the proof. -/
import Derived.KernelRfl
import Derived.Test.YtdhnndleffachaaGreatDoorP02
import Derived.Test.YtdhnndleffachaaGreatDoorP00
set_option linter.all false
namespace Go.Proofs.YtdhnndleffachaaGreatDoor
open Go.AI
set_option maxRecDepth 100000
def tC:aq:=(N_ 123 122 121 10 11 136 (G_ [m_ 124 122,a_ 125 1 120 122,l_ 126 125,m_ 21 124,m_ 22 126] (V_ [f_ 127 2 12,f_ 128 3 127,l_ 129 128,m_ 130 21,m_ 131 5,m_ 132 22,a_ 133 1 131 132,l_ 134 133,a_ 135 1 129 130,s_ 1 135 134])))
def kq:aq:=(N_ 98 97 96 8 9 116 (G_ [a_ 99 3 95 97,L_ 100 3 99,K_ 20 aax,s_ 3 20 100] (V_ [f_ 101 0 12,l_ 102 101,m_ 103 13,f_ 104 0 12,l_ 105 104,m_ 106 13,a_ 107 2 105 106,f_ 108 1 107,l_ 109 108,f_ 110 1 20,L_ 111 2 110,v_ 112 vx 2 111,(A_ 113 vx 16 109 112,[101]),a_ 114 2 102 103,f_ 115 1 114,s_ 1 115 113])))
def nE:aq:=(N_ 65 64 63 6 7 87 (G_ [m_ 66 64,a_ 67 2 62 64,L_ 68 2 67,K_ 17 vx,m_ 16 66,s_ 2 17 68] (G_ [m_ 69 5,m_ 70 8,m_ 71 11,a_ 72 1 70 71,l_ 73 72,m_ 74 16,a_ 75 1 73 74,l_ 76 75,a_ 77 1 69 76,l_ 78 77,m_ 18 78] (G_ [m_ 79 18,C_ 80 .geq 79 0] (I_ 80 (O_ [m_ 81 15,m_ 82 18,L_ 83 2 17,o_ 84 (.build aax [(0,(1,(t_ 82))),(1,(2,(t_ 83)))]),v_ 85 aax 3 84,A_ 86 aax 24 81 85,m_ 15 86]) .skip)))))
def tD:aq:=(N_ 57 56 55 4 5 117 (G_ [m_ 58 56,a_ 59 2 54 56,L_ 60 2 59,K_ 14 Td,m_ 13 58,s_ 2 14 60] (G_ [Z_ 15] (J_ (G_ [f_ 61 1 14,l_ 62 61,z_ 63 62,k_ 64 0] (Q_ 6 nE)) (G_ [m_ 88 15,F_ 89 197 [t_ 88,(.func 198)]] (G_ [f_ 90 0 12,l_ 91 90,m_ 92 13,a_ 93 2 91 92,f_ 94 1 93,u_ (.store 1 (t_ 94) (.const (.slice none 0 0)))] (G_ [m_ 95 15,z_ 96 95,k_ 97 0] (Q_ 8 kq))))))))
def tE:aq:=(N_ 45 44 43 2 3 141 (G_ [a_ 46 1 42 44,l_ 47 46,m_ 11 47] (G_ [f_ 48 3 2,l_ 49 48,m_ 50 11,a_ 51 6 49 50,L_ 52 6 51,K_ 12 JJ,s_ 6 12 52] (J_ (G_ [f_ 53 0 12,l_ 54 53,z_ 55 54,k_ 56 0] (Q_ 4 tD)) (J_ (G_ [f_ 118 2 12,f_ 119 3 118,l_ 120 119,z_ 121 120,k_ 122 0] (Q_ 10 tC)) (O_ [m_ 137 9,L_ 138 6 12,v_ 139 JJ 6 138,A_ 140 JJ 96 137 139,m_ 9 140]))))))
def tF:aq:=(N_ 31 30 29 0 1 39 (G_ [m_ 32 30,a_ 33 1 28 30,l_ 34 33,m_ 6 32,m_ 7 34] (O_ [m_ 35 5,m_ 36 7,m_ 37 6,a_ 38 1 35 36,s_ 1 38 37])))
abbrev wz:Nat:=137
def BM:aq:=(G_ [x_ 2 0,K_ 4 TL] (G_ [o_ 23 (.fH 1 HA [(0,(1,(.const (.int .i64 (Int.negSucc 0)))))]),f_ 24 3 2,l_ 25 24,z_ 26 25,F_ 27 144 [t_ 23,t_ 26],m_ 5 27] (J_ (G_ [m_ 28 1,z_ 29 28,k_ 30 0] (Q_ 0 tF)) (G_ [L_ 40 4 2,F_ 41 101 [t_ 40],m_ 8 41] (G_ [Z_ 9] (J_ (G_ [m_ 42 1,z_ 43 42,k_ 44 0] (Q_ 2 tE)) (G_ [m_ 142 9,f_ 143 3 2,s_ 1 143 142] (G_ [L_ 144 4 2,s_ 4 4 144] .ret))))))))
theorem J1:FF wz=some ⟨[(.cell 4 (some 4))],BM,.no⟩:=by kernel_rfl
abbrev pb:Nat:=138
def va:aq:=(G_ [x_ 1 0,Z_ 2] (G_ [L_ 4 4 1,F_ 5 87 [t_ 4],m_ 3 5] (G_ [m_ 6 3,F_ 7 199 [t_ 6]] (G_ [m_ 8 3,m_ 2 8] .ret))))
theorem CD:FF pb=some ⟨[(.tmp 2)],va,.no⟩:=by kernel_rfl
def gT:aq:=(N_ 9 8 7 0 1 18 (G_ [m_ 10 8,m_ 5 10] (G_ [m_ 11 1,m_ 12 0,m_ 13 5,a_ 14 1 12 13,l_ 15 14,o_ 16 (.bin .eql [2] (t_ 11) (t_ 15))] (I_ 16 (G_ [m_ 17 5,m_ 4 17] .ret) .skip))))
abbrev iD:Nat:=139
def iz:aq:=(.seq (.ops [⟨(some 4),none,(.mv (.const (.int .i64 0)))⟩]) (.seq (.seq (.ops [⟨(some 6),none,(.mv (.tmp 0))⟩,⟨(some 7),none,(.uC (.tmp 6))⟩,⟨(some 8),none,(.mv (.const (.int .i64 0)))⟩]) (.block 0 (.loop gT))) (.seq (.ops [⟨(some 4),none,(.mv (.const (.int .i64 (Int.negSucc 0))))⟩]) .ret)))
theorem pa:FF iD=some ⟨[(.tmp 4)],iz,.no⟩:=by kernel_rfl
abbrev kN:Nat:=140
def qg:aq:=(G_ [x_ 2 0,x_ 3 1,k_ 4 0] (J_ (P_ 0 (G_ [f_ 6 0 3,l_ 7 6,F_ 8 80 [t_ 7,(i_ 1),(i_ 3)],o_ 9 (.un .not (t_ 8)),m_ 5 9] (I_ 5 (G_ [k_ 4 4] .ret) (J_ (V_ [f_ 11 3 3,l_ 12 11,z_ 13 12,f_ 14 0 3,l_ 15 14,o_ 16 (.dt (some 4) 1 (.global 0) (t_ 15)),l_ 17 16,X_ 18 .neq 13 17,m_ 10 18]) (I_ 10 (G_ [k_ 4 9] .ret) (G_ [f_ 20 3 3,l_ 21 20,o_ 22 (.uM 201 [t_ 2]),F_ 23 200 [t_ 21,t_ 22],m_ 19 23] (I_ 19 (G_ [k_ 4 3] .ret) (J_ (V_ [f_ 25 0 3,l_ 26 25,Y_ 27 .eql 26 3,m_ 28 27,q_ 29 28 true (.cP 3 (t_ 3)),q_ 30 28 true (.load none (t_ 29)),q_ 31 28 true (.dt none 1 (t_ 30) (i_ 0)),q_ 32 28 true (.load none (t_ 31)),q_ 33 28 true (.cP 3 (t_ 3)),q_ 34 28 true (.load none (t_ 33)),q_ 35 28 true (.dt none 1 (t_ 34) (i_ 1)),q_ 36 28 true (.load none (t_ 35)),q_ 37 28 true (.bin .eql [1] (t_ 32) (t_ 36)),o_ 38 (.pick (t_ 28) (t_ 37) (b_ false)),m_ 39 38,q_ 40 39 false (.cP 0 (t_ 3)),q_ 41 39 false (.load none (t_ 40)),q_ 42 39 false (.bin .eql [1] (t_ 41) (i_ 2)),q_ 43 39 false (.mv (t_ 42)),q_ 44 43 true (.cP 1 (t_ 3)),q_ 45 43 true (.load (some 2) (t_ 44)),q_ 46 43 true (.build vx []),q_ 47 43 true (.bin .neq [9,0,1] (t_ 45) (t_ 46)),q_ 48 39 false (.pick (t_ 43) (t_ 47) (b_ false)),o_ 49 (.pick (t_ 39) (b_ true) (t_ 48)),m_ 24 49]) (I_ 24 (G_ [k_ 4 5] .ret) .skip))))))))) (G_ [L_ 50 7 2,f_ 51 1 3,L_ 52 2 51,F_ 53 202 [t_ 50,t_ 52],m_ 4 53] .ret)))
theorem yA:FF kN=some ⟨[(.tmp 4)],qg,.no⟩:=by kernel_rfl
def qV:aq:=(N_ 25 24 23 2 3 38 (G_ [a_ 26 1 22 24,l_ 27 26,m_ 7 27] (O_ [m_ 28 3,m_ 29 7,m_ 30 3,m_ 31 7,a_ 32 1 30 31,l_ 33 32,m_ 34 4,v_ 35 HA 1 34,A_ 36 HA 8 33 35,a_ 37 1 28 29,s_ 1 37 36])))
def wF:aq:=(N_ 16 15 14 0 1 39 (G_ [m_ 17 15,a_ 18 6 13 15,L_ 19 6 18,K_ 5 JJ,m_ 4 17,s_ 6 5 19] (G_ [f_ 20 2 5,f_ 21 3 20,l_ 22 21,z_ 23 22,k_ 24 0] (Q_ 2 qV))))
abbrev Ag:Nat:=141
def zr:aq:=(G_ [x_ 1 0,Z_ 2] (G_ [f_ 8 3 1,l_ 9 8,z_ 10 9,o_ 11 (.ik w9_ 24 (t_ 10) (t_ 10)),m_ 3 11] (J_ (G_ [f_ 12 3 1,l_ 13 12,z_ 14 13,k_ 15 0] (Q_ 0 wF)) (G_ [m_ 40 3,m_ 2 40] .ret))))
theorem HL:FF Ag=some ⟨[(.tmp 2)],zr,.no⟩:=by kernel_rfl
def oH:aq:=(N_ 34 33 32 0 1 43 (G_ [a_ 35 2 31 33,L_ 36 2 35,K_ 9 vx,s_ 2 9 36] (G_ [L_ 37 7 3,L_ 38 2 9,F_ 39 202 [t_ 37,t_ 38],m_ 10 39] (G_ [m_ 40 10,Y_ 41 .neq 40 0] (I_ 41 (G_ [m_ 42 10,m_ 6 42] .ret) .skip)))))
abbrev kO:Nat:=142
def qi:aq:=(G_ [x_ 3 0,x_ 5 2,k_ 6 0] (J_ (G_ [m_ 11 1,Y_ 12 .eql 11 0] (I_ 12 (G_ [k_ 6 5] .ret) .skip)) (J_ (G_ [L_ 13 7 3,f_ 14 0 5,l_ 15 14,F_ 16 203 [t_ 13,t_ 15],m_ 7 16] (G_ [m_ 17 7,Y_ 18 .neq 17 0] (I_ 18 (G_ [m_ 19 7,m_ 6 19] .ret) .skip))) (J_ (J_ (V_ [f_ 20 1 5,l_ 21 20,z_ 22 21,f_ 23 6 3,l_ 24 23,m_ 25 1,a_ 26 1 24 25,l_ 27 26,z_ 28 27,X_ 29 .neq 22 28]) (I_ 29 (G_ [k_ 6 9] .ret) .skip)) (J_ (G_ [f_ 30 1 5,l_ 31 30,z_ 32 31,k_ 33 0] (Q_ 0 oH)) (G_ [k_ 6 0] .ret))))))
theorem yC:FF kO=some ⟨[(.tmp 6)],qi,.no⟩:=by kernel_rfl
abbrev qI:Nat:=143
def Ob:List aY:=[⟨(some 18),none,(.cP 0 (.tmp 5))⟩,⟨(some 19),none,(.load none (.tmp 18))⟩,⟨(some 20),none,(.un .not (.tmp 19))⟩,⟨(some 21),none,(.mv (.tmp 20))⟩,⟨(some 22),(some (21,true)),(.cP 1 (.tmp 3))⟩,⟨(some 23),(some (21,true)),(.load none (.tmp 22))⟩,⟨(some 24),(some (21,true)),(.bin .neq [1] (.tmp 23) (.const (.int .i64 (Int.negSucc 0))))⟩,⟨(some 25),none,(.pick (.tmp 21) (.tmp 24) (.const (.bool false)))⟩,⟨(some 26),none,(.mv (.tmp 25))⟩,⟨(some 27),(some (26,false)),(.cP 1 (.tmp 5))⟩,⟨(some 28),(some (26,false)),(.load none (.tmp 27))⟩,⟨(some 29),(some (26,false)),(.un .not (.tmp 28))⟩,⟨(some 30),(some (26,false)),(.mv (.tmp 29))⟩,⟨(some 31),(some (30,true)),(.cP 2 (.tmp 3))⟩,⟨(some 32),(some (30,true)),(.load (some 2) (.tmp 31))⟩,⟨(some 33),(some (30,true)),(.build vx [])⟩,⟨(some 34),(some (30,true)),(.bin .neq [9,0,1] (.tmp 32) (.tmp 33))⟩,⟨(some 35),(some (26,false)),(.pick (.tmp 30) (.tmp 34) (.const (.bool false)))⟩,⟨(some 36),none,(.pick (.tmp 26) (.const (.bool true)) (.tmp 35))⟩,⟨(some 37),none,(.mv (.tmp 36))⟩,⟨(some 38),(some (37,false)),(.cP 2 (.tmp 5))⟩,⟨(some 39),(some (37,false)),(.load none (.tmp 38))⟩,⟨(some 40),(some (37,false)),(.un .not (.tmp 39))⟩,⟨(some 41),(some (37,false)),(.mv (.tmp 40))⟩,⟨(some 42),(some (41,true)),(.cP 4 (.tmp 3))⟩,⟨(some 43),(some (41,true)),(.load (some 2) (.tmp 42))⟩,⟨(some 44),(some (41,true)),(.build vx [])⟩,⟨(some 45),(some (41,true)),(.bin .neq [9,0,1] (.tmp 43) (.tmp 44))⟩,⟨(some 46),(some (37,false)),(.pick (.tmp 41) (.tmp 45) (.const (.bool false)))⟩,⟨(some 47),none,(.pick (.tmp 37) (.const (.bool true)) (.tmp 46))⟩,⟨(some 48),none,(.mv (.tmp 47))⟩,⟨(some 49),(some (48,false)),(.load none (.tmp 6))⟩,⟨(some 50),(some (48,false)),(.un .not (.tmp 49))⟩,⟨(some 51),(some (48,false)),(.mv (.tmp 50))⟩,⟨(some 52),(some (51,true)),(.cP 6 (.tmp 3))⟩,⟨(some 53),(some (51,true)),(.load none (.tmp 52))⟩,⟨(some 54),(some (51,true)),(.bin .neq [1] (.tmp 53) (.const (.int .i64 0)))⟩,⟨(some 55),(some (51,true)),(.mv (.tmp 54))⟩,⟨(some 56),(some (55,false)),(.cP 7 (.tmp 3))⟩,⟨(some 57),(some (55,false)),(.load none (.tmp 56))⟩,⟨(some 58),(some (55,false)),(.uC (.tmp 57))⟩,⟨(some 59),(some (55,false)),(.bin .gtr [] (.tmp 58) (.const (.int .i64 0)))⟩,⟨(some 60),(some (51,true)),(.pick (.tmp 55) (.const (.bool true)) (.tmp 59))⟩,⟨(some 61),(some (48,false)),(.pick (.tmp 51) (.tmp 60) (.const (.bool false)))⟩,⟨(some 62),none,(.pick (.tmp 48) (.const (.bool true)) (.tmp 61))⟩]
def IQ:aq:=(J_ (G_ [f_ 63 0 5,l_ 64 63,m_ 65 64,q_ 66 65 true (.load none (t_ 6)),q_ 67 65 true (.mv (t_ 66)),q_ 68 67 true (.cP 1 (t_ 3)),q_ 69 67 true (.load none (t_ 68)),q_ 70 67 true (.bin .eql [1] (t_ 69) (.const (.int .i64 (Int.negSucc 0)))),q_ 71 65 true (.pick (t_ 67) (t_ 70) (b_ false)),q_ 72 65 true (.un .not (t_ 71)),o_ 73 (.pick (t_ 65) (t_ 72) (b_ false))] (I_ 73 (G_ [L_ 74 7 2,f_ 75 1 3,l_ 76 75,F_ 77 203 [t_ 74,t_ 76],m_ 7 77] (G_ [m_ 78 7,Y_ 79 .neq 78 0] (I_ 79 (G_ [m_ 80 7,m_ 4 80] .ret) .skip))) .skip)) (G_ [o_ 81 (.uM 205 [t_ 2,t_ 3]),o_ 82 (.uM 206 [t_ 2,t_ 3]),o_ 83 (.uM 207 [t_ 6,t_ 3,t_ 2]),o_ 84 (.fH 3 [.nilFunc,.nilFunc,.nilFunc] [(0,(1,(t_ 81))),(1,(1,(t_ 82))),(2,(1,(t_ 83)))]),F_ 85 204 [t_ 84],m_ 4 85] .ret))
def qh:aq:=(G_ [x_ 2 0,x_ 3 1,k_ 4 0] (J_ (G_ [f_ 8 0 3,l_ 9 8,F_ 10 80 [t_ 9,(i_ 1),(i_ 22)],o_ 11 (.un .not (t_ 10))] (I_ 11 (G_ [k_ 4 4] .ret) .skip)) (G_ [f_ 12 0 3,l_ 13 12,F_ 14 193 [t_ 13],K_ 5 w7_,s_ 3 5 14] (G_ [f_ 15 0 3,l_ 16 15,Y_ 17 .eql 16 20,o_ 6 (.alloc [(.bool false)]),s_ 1 6 17] (J_ (J_ (.ops Ob) (I_ 62 (G_ [k_ 4 5] .ret) .skip)) IQ)))))
theorem yB:FF qI=some ⟨[(.tmp 4)],qh,.no⟩:=by kernel_rfl
def rZ:aq:=(J_ (G_ [m_ 34 8,m_ 35 7,z_ 36 35,B_ 37 .lss 34 36] (H_ 37 0)) (P_ 1 (V_ [m_ 38 8,m_ 39 7,m_ 40 8,o_ 41 (.slice 1 (t_ 39) (some (t_ 40)) none none),m_ 42 7,m_ 43 8,o_ 44 (.slice 1 (t_ 42) none (some (t_ 43)) none),o_ 45 (.copy 1 (t_ 41) (t_ 44)),B_ 46 .add 38 45,m_ 8 46])))
abbrev gQ:Nat:=144
def tM:aq:=(G_ [Z_ 4] (J_ (G_ [m_ 9 1,C_ 10 .lss 9 0] (I_ 10 (O_ [⟨(some 11),none,.bad⟩,⟨none,none,.bad⟩]) .skip)) (G_ [m_ 13 0,z_ 14 13,o_ 15 (.conv .u64 (t_ 14)),m_ 16 1,o_ 17 (.conv .u64 (t_ 16)),F_ 18 146 [t_ 15,t_ 17],m_ 12 18,E_ 19 0 12,E_ 20 1 12,m_ 5 19,m_ 6 20] (J_ (G_ [m_ 21 5,o_ 22 (.bin .gtr [] (t_ 21) (.const (.int .u64 0))),m_ 23 22,q_ 24 23 false (.mv (t_ 6)),q_ 25 23 false (.bin .gtr [] (t_ 24) (.const (.int .u64 9223372036854775807))),o_ 26 (.pick (t_ 23) (b_ true) (t_ 25))] (I_ 26 (O_ [⟨(some 27),none,.bad⟩,⟨none,none,.bad⟩]) .skip)) (G_ [m_ 28 6,o_ 29 (.conv .i64 (t_ 28)),o_ 30 (.ik HA 8 (t_ 29) (t_ 29)),m_ 7 30] (G_ [m_ 31 7,m_ 32 0,o_ 33 (.copy 1 (t_ 31) (t_ 32)),m_ 8 33] (J_ (Q_ 0 rZ) (G_ [m_ 47 7,m_ 4 47] .ret))))))))
theorem kY:FF gQ=some ⟨[(.tmp 4)],tM,.no⟩:=by kernel_rfl
def Ay:aq:=(J_ (G_ [m_ 9 2,m_ 10 3,X_ 11 .neq 9 10] (H_ 11 0)) (P_ 1 (J_ (J_ (V_ [m_ 12 1,m_ 13 2,a_ 14 1 12 13,l_ 15 14,m_ 16 1,m_ 17 3,a_ 18 1 16 17,l_ 19 18,B_ 20 .lss 15 19]) (I_ 20 (O_ [m_ 21 3,m_ 22 2,m_ 2 21,m_ 3 22]) .skip)) (O_ [m_ 23 0,m_ 24 2,a_ 25 1 23 24,l_ 26 25,m_ 2 26]))))
abbrev Ep:Nat:=145
def Dv:aq:=(.seq (.ops [⟨(some 8),none,(.mv (.const (.int .i64 0)))⟩]) (.seq (.block 0 (.loop Ay)) (.seq (.ops [⟨(some 27),none,(.mv (.tmp 2))⟩,⟨(some 8),none,(.mv (.tmp 27))⟩]) .ret)))
theorem M3:FF Ep=some ⟨[(.tmp 8)],Dv,.no⟩:=by kernel_rfl
abbrev kD:Nat:=146
def vc:aq:=(G_ [o_ 4 (.mv (.const (.int .u64 0))),o_ 5 (.mv (.const (.int .u64 0)))] (J_ (.cond (b_ false) (G_ [m_ 11 0,o_ 12 (.conv .u32 (t_ 11)),m_ 13 1,o_ 14 (.conv .u32 (t_ 13)),F_ 15 208 [t_ 12,t_ 14],m_ 10 15,E_ 16 0 10,E_ 17 1 10,m_ 6 16,m_ 7 17] (G_ [m_ 18 6,o_ 19 (.conv .u64 (t_ 18)),m_ 20 7,o_ 21 (.conv .u64 (t_ 20)),m_ 4 19,m_ 5 21] .ret)) .skip) (G_ [m_ 23 0,m_ 24 1,F_ 25 209 [t_ 23,t_ 24],m_ 22 25,E_ 26 0 22,E_ 27 1 22,m_ 8 26,m_ 9 27] (G_ [m_ 28 8,m_ 29 9,m_ 4 28,m_ 5 29] .ret))))
theorem CF:FF kD=some ⟨[(.tmp 4),(.tmp 5)],vc,.no⟩:=by kernel_rfl
abbrev ju:Nat:=147
def vJ:aq:=(G_ [l_ 8 1,m_ 9 0,a_ 10 1 8 9,u_ (.store 1 (t_ 10) (b_ true))] (J_ (G_ [f_ 11 3 2,l_ 12 11,m_ 13 0,a_ 14 6 12 13,f_ 15 2 14,f_ 16 3 15,l_ 17 16,F_ 18 148 [t_ 17]] (P_ 0 (.Qr (t_ 18) [19,20] (O_ [m_ 7 20]) (P_ 1 (G_ [l_ 21 1,m_ 22 7,a_ 23 1 21 22,l_ 24 23,o_ 25 (.un .not (t_ 24))] (I_ 25 (O_ [l_ 26 3,m_ 27 7,o_ 28 (.call (t_ 26) [t_ 27])]) .skip)))))) (O_ [l_ 29 4,m_ 30 0,v_ 31 HA 1 30,A_ 32 HA 8 29 31,s_ 1 4 32])))
theorem DC:FF ju=some ⟨[],vJ,.no⟩:=by kernel_rfl
abbrev fK:Nat:=148
def jQ:aq:=(.seq (.ops [⟨(some 1),none,(.box (.tmp 0))⟩,⟨(some 2),none,(.mv (.const .nilFunc))⟩]) (.seq (.ops [⟨(some 3),none,(.uM 210 [(.tmp 1)])⟩,⟨(some 2),none,(.mv (.tmp 3))⟩]) .ret))
theorem rR:FF fK=some ⟨[(.tmp 2)],jQ,.no⟩:=by kernel_rfl
abbrev j8:Nat:=149
def pz:aq:=(G_ [M_ 8 false] (J_ (G_ [m_ 9 0,n_ 10 9,f_ 11 5 10,l_ 12 11,m_ 13 1,a_ 14 2 12 13,f_ 15 0 14,l_ 16 15,C_ 17 .geq 16 0] (I_ 17 (G_ [M_ 8 false] .ret) .skip)) (G_ [m_ 18 0,n_ 19 18,f_ 20 5 19,l_ 21 20,m_ 22 1,m_ 23 2,m_ 24 3,o_ 25 (.build Jy [(0,(1,(t_ 23))),(1,(1,(t_ 24)))]),a_ 26 2 21 22,s_ 2 26 25] (G_ [M_ 8 true] .ret))))
theorem xz:FF j8=some ⟨[(.tmp 8)],pz,.no⟩:=by kernel_rfl
abbrev j7:Nat:=150
def py:aq:=(G_ [x_ 5 1,M_ 8 false] (J_ (G_ [f_ 10 0 5,l_ 11 10,o_ 12 (.un .not (t_ 11))] (I_ 12 (G_ [M_ 8 true] .ret) .skip)) (J_ (V_ [m_ 13 0,n_ 14 13,f_ 15 5 14,l_ 16 15,f_ 17 1 5,l_ 18 17,a_ 19 2 16 18,L_ 20 2 19,K_ 9 Jy,s_ 2 9 20]) (J_ (P_ 0 (G_ [f_ 22 0 9,l_ 23 22,C_ 24 .lss 23 0,m_ 21 24] (I_ 21 (G_ [M_ 8 false] .ret) (G_ [f_ 26 0 9,l_ 27 26,m_ 28 2,X_ 29 .eql 27 28,m_ 25 29] (I_ 25 (G_ [f_ 30 1 9,l_ 31 30,m_ 32 3,B_ 33 .lss 31 32,m_ 8 33] .ret) .skip))))) (J_ (V_ [m_ 34 0,n_ 35 34,f_ 36 4 35,l_ 37 36,f_ 38 0 9,l_ 39 38,m_ 40 2,F_ 41 211 [t_ 37,t_ 39,t_ 40],m_ 8 41]) .ret)))))
theorem xy:FF j7=some ⟨[(.tmp 8)],py,.no⟩:=by kernel_rfl
abbrev jT:Nat:=161
def jR:aq:=(G_ [M_ 4 false] (G_ [m_ 5 0,m_ 6 1,F_ 7 162 [t_ 5,t_ 6],C_ 8 .geq 7 0,m_ 4 8] .ret))
theorem rS:FF jT=some ⟨[(.tmp 4)],jR,.no⟩:=by kernel_rfl
def gq:aq:=(N_ 9 8 7 0 1 18 (G_ [m_ 10 8,m_ 5 10] (G_ [m_ 11 1,m_ 12 0,m_ 13 5,a_ 14 1 12 13,l_ 15 14,X_ 16 .eql 11 15] (I_ 16 (G_ [m_ 17 5,m_ 4 17] .ret) .skip))))
abbrev il:Nat:=162
def ie:aq:=(.seq (.ops [⟨(some 4),none,(.mv (.const (.int .i64 0)))⟩]) (.seq (.seq (.ops [⟨(some 6),none,(.mv (.tmp 0))⟩,⟨(some 7),none,(.uC (.tmp 6))⟩,⟨(some 8),none,(.mv (.const (.int .i64 0)))⟩]) (.block 0 (.loop gq))) (.seq (.ops [⟨(some 4),none,(.mv (.const (.int .i64 (Int.negSucc 0))))⟩]) .ret)))
theorem lZ:FF il=some ⟨[(.tmp 4)],ie,.no⟩:=by kernel_rfl
abbrev gD:Nat:=166
theorem mC:FF gD=some ⟨[],.bad,.run (rmV 2) fun _ _ _ _=>Hr⟩:=by kernel_rfl
abbrev gC:Nat:=167
def gy:aq:=(G_ [Z_ 6] (G_ [m_ 8 0,m_ 9 1,m_ 10 2,m_ 11 0,z_ 12 11,o_ 13 (.slice 2 (t_ 8) (some (t_ 9)) (some (t_ 10)) (some (t_ 12)))] (J_ (G_ [m_ 14 1,m_ 15 2,X_ 16 .eql 14 15] (I_ 16 (G_ [m_ 17 0,m_ 6 17] .ret) .skip)) (G_ [m_ 18 0,z_ 19 18,m_ 7 19] (J_ (V_ [m_ 20 0,m_ 21 1,o_ 22 (.slice 2 (t_ 20) none (some (t_ 21)) none),m_ 23 0,m_ 24 2,o_ 25 (.slice 2 (t_ 23) (some (t_ 24)) none none),A_ 26 vx 16 22 25,m_ 0 26]) (G_ [m_ 27 0,m_ 28 0,z_ 29 28,m_ 30 7,o_ 31 (.slice 2 (t_ 27) (some (t_ 29)) (some (t_ 30)) none),u_ (.clear vx (t_ 31))] (G_ [m_ 32 0,m_ 6 32] .ret)))))))
theorem mB:FF gC=some ⟨[(.tmp 6)],gy,.no⟩:=by kernel_rfl
def jF:aq:=(N_ 141 140 139 6 7 148 (G_ [a_ 142 1 138 140,l_ 143 142,m_ 20 143] (O_ [m_ 144 0,m_ 145 20,m_ 146 6,F_ 147 171 [t_ 144,t_ 145,t_ 146]])))
def jG:aq:=(N_ 67 66 65 4 5 78 (G_ [m_ 68 66,a_ 69 2 64 66,L_ 70 2 69,K_ 14 vx,m_ 13 68,s_ 2 14 70] (V_ [f_ 71 7 12,l_ 72 71,m_ 73 13,m_ 74 0,L_ 75 2 14,(F_ 76 172 [t_ 74,t_ 75],[71]),a_ 77 2 72 73,s_ 2 77 76])))
def jH:aq:=(N_ 50 49 48 2 3 116 (G_ [a_ 51 8 47 49,L_ 52 8 51,K_ 12 XM,s_ 8 12 52] (J_ (V_ [m_ 53 0,f_ 54 2 12,L_ 55 2 54,m_ 57 0,f_ 58 4 12,L_ 59 2 58,(F_ 56 172 [t_ 53,t_ 55],[58]),f_ 61 2 12,F_ 60 172 [t_ 57,t_ 59],s_ 2 61 56,f_ 62 4 12,s_ 2 62 60]) (J_ (G_ [f_ 63 7 12,l_ 64 63,z_ 65 64,k_ 66 0] (Q_ 4 jG)) (J_ (G_ [f_ 79 0 12,l_ 80 79,Y_ 81 .eql 80 1] (I_ 81 (G_ [m_ 82 0,f_ 83 1 12,l_ 84 83,f_ 85 2 12,L_ 86 2 85,F_ 87 221 [t_ 82,t_ 84,t_ 86]] (.exit 3)) .skip)) (J_ (G_ [m_ 89 0,L_ 90 8 12,F_ 91 222 [t_ 89,t_ 90],m_ 88 91,E_ 92 0 88,E_ 93 1 88,K_ 15 XL,s_ 5 15 92,m_ 16 93] (G_ [m_ 94 16] (I_ 94 (J_ (G_ [m_ 96 6,L_ 97 5 15,o_ 98 (.look [9,1,0,1,0,1] (.int .i64 0) true (t_ 96) (t_ 97)),m_ 95 98,E_ 99 0 95,E_ 100 1 95,m_ 17 99,m_ 18 100] (G_ [m_ 101 18] (I_ 101 (G_ [m_ 102 0,f_ 103 1 12,l_ 104 103,m_ 105 17,o_ 106 (.build vx [(0,(1,(b_ true))),(1,(1,(t_ 105)))]),F_ 107 221 [t_ 102,t_ 104,t_ 106]] (.exit 3)) .skip))) (O_ [m_ 108 6,L_ 109 5 15,f_ 110 1 12,l_ 111 110,u_ (.Eo [9,1,0,1,0,1] (t_ 108) (t_ 109) (t_ 111))])) .skip))) (O_ [m_ 112 10,L_ 113 8 12,v_ 114 XM 8 113,A_ 115 XM 80 112 114,m_ 10 115])))))))
abbrev qO:Nat:=171
def qt:aq:=(G_ [⟨(some 21),none,.En⟩,m_ 6 21] (J_ (.mcp (t_ 2) 6 [9,1,0,1,0,1] [22,23] [26,27,28,7,8,29,30,31] 24 25) (G_ [m_ 32 0,m_ 33 1,F_ 34 220 [t_ 32,t_ 33]] (G_ [m_ 35 0,n_ 36 35,f_ 37 1 36,l_ 38 37,n_ 39 38,f_ 40 3 39,l_ 41 40,m_ 42 1,a_ 43 6 41 42,m_ 9 43] (G_ [Z_ 10] (J_ (G_ [m_ 44 9,n_ 45 44,f_ 46 1 45,l_ 47 46,z_ 48 47,k_ 49 0] (Q_ 2 jH)) (G_ [m_ 117 9,m_ 118 10,n_ 119 117,f_ 120 1 119,s_ 1 120 118] (G_ [m_ 121 9,m_ 122 0,m_ 123 9,n_ 124 123,f_ 125 2 124,f_ 126 1 125,L_ 127 2 126,F_ 128 172 [t_ 122,t_ 127],n_ 129 121,f_ 130 2 129,f_ 131 1 130,s_ 2 131 128] (G_ [m_ 132 0,n_ 133 132,f_ 134 2 133,l_ 135 134,m_ 136 1,a_ 137 1 135 136,l_ 138 137,z_ 139 138,k_ 140 0] (Q_ 6 jF))))))))))
theorem yJ:FF qO=some ⟨[],qt,.no⟩:=by kernel_rfl
def pL:aq:=(J_ (J_ (V_ [f_ 5 0 3,l_ 6 5,m_ 7 6,q_ 8 7 true (.mv (t_ 0)),q_ 9 7 true (.uS (t_ 8)),q_ 10 7 true (.cP 3 (t_ 9)),q_ 11 7 true (.load none (t_ 10)),q_ 12 7 true (.cP 1 (t_ 3)),q_ 13 7 true (.load none (t_ 12)),q_ 14 7 true (.dt none 2 (t_ 11) (t_ 13)),q_ 15 7 true (.load (some 2) (t_ 14)),q_ 16 7 true (.load (some 2) (t_ 3)),q_ 17 7 true (.bin .neq [9,0,1] (t_ 15) (t_ 16)),o_ 18 (.pick (t_ 7) (t_ 17) (b_ false))]) (H_ 18 0)) (P_ 1 (V_ [m_ 19 0,n_ 20 19,f_ 21 3 20,l_ 22 21,f_ 23 1 3,l_ 24 23,a_ 25 2 22 24,L_ 26 2 25,s_ 2 3 26])))
abbrev ta:Nat:=172
def sg:aq:=(G_ [x_ 3 1,K_ 4 vx] (J_ (Q_ 0 pL) (G_ [L_ 27 2 3,s_ 2 4 27] .ret)))
theorem zK:FF ta=some ⟨[(.cell 4 (some 2))],sg,.no⟩:=by kernel_rfl
def pc:aq:=(N_ 33 32 31 0 1 40 (G_ [a_ 34 2 30 32,L_ 35 2 34,K_ 5 vx,s_ 2 5 35] (G_ [m_ 36 0,L_ 37 2 5,o_ 38 (.call (t_ 36) [t_ 37]),o_ 39 (.un .not (t_ 38))] (I_ 39 .ret .skip))))
abbrev km:Nat:=192
def xO:aq:=(G_ [f_ 6 0 1,l_ 7 6,F_ 8 193 [t_ 7],K_ 3 w7_,s_ 3 3 8] (J_ (G_ [f_ 9 1 3,l_ 10 9,m_ 11 10,q_ 12 11 true (.mv (t_ 0)),q_ 13 11 true (.cP 2 (t_ 1)),q_ 14 11 true (.load (some 2) (t_ 13)),q_ 15 11 true (.call (t_ 12) [t_ 14]),q_ 16 11 true (.un .not (t_ 15)),o_ 17 (.pick (t_ 11) (t_ 16) (b_ false)),m_ 18 17,q_ 19 18 false (.cP 2 (t_ 3)),q_ 20 18 false (.load none (t_ 19)),q_ 21 18 false (.mv (t_ 20)),q_ 22 21 true (.mv (t_ 0)),q_ 23 21 true (.cP 4 (t_ 1)),q_ 24 21 true (.load (some 2) (t_ 23)),q_ 25 21 true (.call (t_ 22) [t_ 24]),q_ 26 21 true (.un .not (t_ 25)),q_ 27 18 false (.pick (t_ 21) (t_ 26) (b_ false)),o_ 28 (.pick (t_ 18) (b_ true) (t_ 27))] (I_ 28 .ret .skip)) (G_ [f_ 29 7 1,l_ 30 29,z_ 31 30,k_ 32 0] (Q_ 0 pc))))
theorem Fz:FF km=some ⟨[],xO,.no⟩:=by kernel_rfl
abbrev yd:Nat:=193
def xN:aq:=(G_ [K_ 2 w7_] (J_ (P_ 0 (G_ [m_ 4 0,Y_ 5 .eql 4 1,m_ 6 5,q_ 7 6 false (.mv (t_ 0)),q_ 8 6 false (.bin .eql [1] (t_ 7) (i_ 16)),o_ 9 (.pick (t_ 6) (b_ true) (t_ 8)),m_ 10 9,q_ 11 10 false (.mv (t_ 0)),q_ 12 10 false (.bin .eql [1] (t_ 11) (i_ 17)),o_ 13 (.pick (t_ 10) (b_ true) (t_ 12)),m_ 14 13,q_ 15 14 false (.mv (t_ 0)),q_ 16 14 false (.bin .eql [1] (t_ 15) (i_ 18)),o_ 17 (.pick (t_ 14) (b_ true) (t_ 16)),m_ 3 17] (I_ 3 (G_ [o_ 18 (.build w7_ [(0,(1,(b_ true))),(1,(1,(b_ true))),(2,(1,(b_ false)))]),s_ 3 2 18] .ret) (G_ [m_ 20 0,C_ 21 .geq 20 2,m_ 22 21,q_ 23 22 true (.mv (t_ 0)),q_ 24 22 true (.bin .leq [] (t_ 23) (i_ 15)),o_ 25 (.pick (t_ 22) (t_ 24) (b_ false)),m_ 19 25] (I_ 19 (G_ [o_ 26 (.build w7_ [(0,(1,(b_ true))),(1,(1,(b_ true))),(2,(1,(b_ true)))]),s_ 3 2 26] .ret) (G_ [m_ 28 0,Y_ 29 .eql 28 19,m_ 27 29] (I_ 27 (G_ [o_ 30 (.build w7_ [(0,(1,(b_ false))),(1,(1,(b_ true))),(2,(1,(b_ true)))]),s_ 3 2 30] .ret) (G_ [m_ 32 0,Y_ 33 .eql 32 20,m_ 34 33,q_ 35 34 false (.mv (t_ 0)),q_ 36 34 false (.bin .eql [1] (t_ 35) (i_ 21)),o_ 37 (.pick (t_ 34) (b_ true) (t_ 36)),m_ 31 37] (I_ 31 (G_ [o_ 38 (.build w7_ [(0,(1,(b_ true))),(1,(1,(b_ false))),(2,(1,(b_ false)))]),s_ 3 2 38] .ret) (G_ [m_ 40 0,Y_ 41 .eql 40 22,m_ 39 41] (I_ 39 (G_ [o_ 42 (.build w7_ [(0,(1,(b_ false))),(1,(1,(b_ true))),(2,(1,(b_ false)))]),s_ 3 2 42] .ret) .skip))))))))))) (G_ [o_ 43 (.build w7_ []),s_ 3 2 43] .ret)))
theorem Fy:FF yd=some ⟨[(.cell 2 (some 3))],xN,.no⟩:=by kernel_rfl
abbrev sQ:Nat:=194
def se:aq:=(G_ [k_ 4 0] (J_ (G_ [m_ 5 0,n_ 6 5,f_ 7 0 6,l_ 8 7,m_ 9 1,a_ 10 1 8 9,l_ 11 10,C_ 12 .lss 11 0] (I_ 12 (J_ (V_ [m_ 13 0,n_ 14 13,f_ 15 0 14,l_ 16 15,m_ 17 1,m_ 18 0,n_ 19 18,f_ 20 1 19,l_ 21 20,a_ 22 1 16 17,s_ 1 22 21]) (O_ [m_ 23 0,n_ 24 23,f_ 25 1 24,l_ 26 25,C_ 27 .add 26 1,n_ 28 23,f_ 29 1 28,s_ 1 29 27])) .skip)) (G_ [m_ 30 0,n_ 31 30,f_ 32 0 31,l_ 33 32,m_ 34 1,a_ 35 1 33 34,l_ 36 35,m_ 4 36] .ret)))
theorem zI:FF sQ=some ⟨[(.tmp 4)],se,.no⟩:=by kernel_rfl
abbrev ub:Nat:=195
def tN:aq:=(G_ [x_ 3 1,K_ 4 vx] (J_ (G_ [f_ 5 0 3,l_ 6 5] (I_ 6 (O_ [m_ 7 0,f_ 8 1 3,l_ 9 8,F_ 10 194 [t_ 7,t_ 9],f_ 11 1 3,s_ 1 11 10]) .skip)) (G_ [L_ 12 2 3,s_ 2 4 12] .ret)))
theorem Bc:FF ub=some ⟨[(.cell 4 (some 2))],tN,.no⟩:=by kernel_rfl
def Jc:aq:=(V_ [m_ 79 0,n_ 80 79,f_ 81 3 80,l_ 82 81,m_ 83 8,a_ 84 6 82 83,f_ 85 0 84,l_ 86 85,m_ 87 13,f_ 88 1 14,l_ 89 88,m_ 90 9,m_ 91 9,C_ 92 .add 91 1,m_ 94 10,L_ 95 2 15,v_ 96 vx 2 95,(F_ 93 167 [t_ 89,t_ 90,t_ 92],[15,96]),(F_ 97 166 [t_ 93,t_ 94,t_ 96],[81,85]),a_ 98 2 86 87,f_ 99 1 98,s_ 1 99 97])
def pf:aq:=(N_ 70 69 68 4 5 100 (G_ [m_ 71 69,a_ 72 2 67 69,L_ 73 2 72,K_ 14 Td,m_ 13 71,s_ 2 14 73] (G_ [f_ 74 1 14,l_ 75 74,m_ 76 9,a_ 77 2 75 76,L_ 78 2 77,K_ 15 vx,s_ 2 15 78] Jc)))
def pg:aq:=(N_ 46 45 44 2 3 59 (G_ [a_ 47 1 43 45,l_ 48 47,m_ 12 48] (G_ [m_ 49 12,m_ 50 2,B_ 51 .lss 49 50,m_ 52 51,q_ 53 52 true (.mv (t_ 12)),q_ 54 52 true (.mv (t_ 1)),q_ 55 52 true (.bin .neq [1] (t_ 53) (t_ 54)),o_ 56 (.pick (t_ 52) (t_ 55) (b_ false))] (I_ 56 (O_ [m_ 57 10,C_ 58 .add 57 1,m_ 10 58]) .skip))))
def vp:aq:=(N_ 31 30 29 0 1 101 (G_ [a_ 32 1 28 30,l_ 33 32,m_ 8 33] (G_ [m_ 34 6,m_ 35 8,a_ 36 1 34 35,l_ 37 36,m_ 38 1,F_ 39 162 [t_ 37,t_ 38],m_ 9 39] (G_ [k_ 10 0] (J_ (G_ [m_ 40 6,m_ 41 8,a_ 42 1 40 41,l_ 43 42,z_ 44 43,k_ 45 0] (Q_ 2 pg)) (G_ [m_ 60 0,n_ 61 60,f_ 62 3 61,l_ 63 62,m_ 64 8,a_ 65 6 63 64,f_ 66 0 65,l_ 67 66,z_ 68 67,k_ 69 0] (Q_ 4 pf)))))))
abbrev yi:Nat:=196
def xU:aq:=(G_ [m_ 16 0,n_ 17 16,L_ 18 4 17,F_ 19 101 [t_ 18],m_ 6 19] (G_ [m_ 20 0,n_ 21 20,f_ 22 3 21,l_ 23 22,m_ 24 1,a_ 25 6 23 24,f_ 26 2 25,f_ 27 3 26,l_ 28 27,z_ 29 28,k_ 30 0] (Q_ 0 vp)))
theorem FG:FF yi=some ⟨[],xU,.no⟩:=by kernel_rfl
set_option maxRecDepth 100000
abbrev cW:Nat:=197
def cV:aq:=(G_ [m_ 5 0,z_ 6 5,m_ 4 6] (O_ [m_ 7 0,m_ 8 4,m_ 9 4,o_ 10 (.conv .u64 (t_ 9)),F_ 11 245 [t_ 10],m_ 12 1,F_ 13 244 [t_ 7,(i_ 0),t_ 8,t_ 11,t_ 12]]))
theorem eH:FF cW=some ⟨[],cV,.no⟩:=by kernel_rfl
abbrev tA:Nat:=198
def xT:aq:=(G_ [x_ 2 0,x_ 3 1,k_ 4 0] (G_ [f_ 5 0 2,l_ 6 5,f_ 7 0 3,l_ 8 7,B_ 9 .sub 6 8,m_ 4 9] .ret))
theorem FE:FF tA=some ⟨[(.tmp 4)],xT,.no⟩:=by kernel_rfl
def fx:aq:=(J_ (G_ [m_ 7 2,m_ 8 3,B_ 9 .lss 7 8] (H_ 9 0)) (J_ (P_ 1 (V_ [m_ 14 0,m_ 15 2,m_ 16 0,m_ 17 3,m_ 18 0,m_ 19 3,a_ 20 1 18 19,l_ 21 20,m_ 22 0,m_ 23 2,a_ 24 1 22 23,l_ 25 24,a_ 26 1 14 15,s_ 1 26 21,a_ 27 1 16 17,s_ 1 27 25])) (O_ [m_ 10 2,C_ 11 .add 10 1,m_ 12 3,C_ 13 .sub 12 1,m_ 2 11,m_ 3 13])))
abbrev kn:Nat:=199
def ke:aq:=(G_ [m_ 4 0,z_ 5 4,C_ 6 .sub 5 1,k_ 2 0,m_ 3 6] (Q_ 0 fx))
theorem tp:FF kn=some ⟨[],ke,.no⟩:=by kernel_rfl
abbrev eA:Nat:=200
def hH:aq:=(G_ [M_ 4 false] (G_ [m_ 5 0,m_ 6 1,F_ 7 246 [t_ 5,t_ 6],C_ 8 .geq 7 0,m_ 4 8] .ret))
theorem oh:FF eA=some ⟨[(.tmp 4)],hH,.no⟩:=by kernel_rfl
abbrev jt:Nat:=201
def nO:aq:=(G_ [M_ 3 false] (G_ [m_ 4 0,f_ 5 2 1,f_ 6 3 5,l_ 7 6,z_ 8 7,C_ 9 .sub 8 1,F_ 10 80 [t_ 4,(i_ 1),t_ 9],o_ 11 (.un .not (t_ 10)),m_ 3 11] .ret))
theorem vN:FF jt=some ⟨[(.tmp 3)],nO,.no⟩:=by kernel_rfl
abbrev kQ:Nat:=202
def qk:aq:=(G_ [x_ 2 0,x_ 3 1,k_ 4 0] (J_ (G_ [f_ 5 0 3,l_ 6 5,m_ 7 6,q_ 8 7 true (.cP 1 (t_ 3)),q_ 9 7 true (.load none (t_ 8)),q_ 10 7 true (.cP 2 (t_ 2)),q_ 11 7 true (.cP 2 (t_ 10)),q_ 12 7 true (.load none (t_ 11)),q_ 13 7 true (.bin .sub [] (t_ 12) (i_ 1)),q_ 14 7 true (.call (.func 80) [t_ 9,(i_ 0),t_ 13]),q_ 15 7 true (.un .not (t_ 14)),o_ 16 (.pick (t_ 7) (t_ 15) (b_ false))] (I_ 16 (G_ [k_ 4 3] .ret) .skip)) (G_ [k_ 4 0] .ret)))
theorem yD:FF kQ=some ⟨[(.tmp 4)],qk,.no⟩:=by kernel_rfl
abbrev qH:Nat:=203
def qf:aq:=(G_ [x_ 2 0,k_ 4 0] (J_ (G_ [m_ 5 1,f_ 6 2 2,f_ 7 2 6,l_ 8 7,C_ 9 .sub 8 1,F_ 10 80 [t_ 5,(i_ 0),t_ 9],o_ 11 (.un .not (t_ 10))] (I_ 11 (G_ [k_ 4 3] .ret) .skip)) (G_ [k_ 4 0] .ret)))
theorem yz:FF qH=some ⟨[(.tmp 4)],qf,.no⟩:=by kernel_rfl
def wG:aq:=(N_ 9 8 7 0 1 17 (G_ [a_ 10 1 6 8,l_ 11 10,m_ 4 11] (G_ [m_ 12 4,o_ 13 (.call (t_ 12) []),m_ 5 13] (G_ [m_ 14 5,Y_ 15 .neq 14 0] (I_ 15 (G_ [m_ 16 5,m_ 2 16] .ret) .skip)))))
abbrev uN:Nat:=204
def zt:aq:=(.seq (.ops [⟨(some 2),none,(.mv (.const (.int .i64 0)))⟩]) (.seq (.seq (.ops [⟨(some 6),none,(.mv (.tmp 0))⟩,⟨(some 7),none,(.uC (.tmp 6))⟩,⟨(some 8),none,(.mv (.const (.int .i64 0)))⟩]) (.block 0 (.loop wG))) (.seq (.ops [⟨(some 2),none,(.mv (.const (.int .i64 0)))⟩]) .ret)))
theorem HM:FF uN=some ⟨[(.tmp 2)],zt,.no⟩:=by kernel_rfl
abbrev fT:Nat:=205
def nQ:aq:=(G_ [k_ 2 0] (G_ [L_ 3 7 0,f_ 4 2 1,L_ 5 2 4,F_ 6 202 [t_ 3,t_ 5],m_ 2 6] .ret))
theorem vO:FF fT=some ⟨[(.tmp 2)],nQ,.no⟩:=by kernel_rfl
abbrev fU:Nat:=206
def nS:aq:=(G_ [k_ 2 0] (G_ [L_ 3 7 0,f_ 4 4 1,L_ 5 2 4,F_ 6 202 [t_ 3,t_ 5],m_ 2 6] .ret))
theorem vP:FF fU=some ⟨[(.tmp 2)],nS,.no⟩:=by kernel_rfl
def mo:aq:=(N_ 37 36 35 1 2 46 (G_ [a_ 38 2 34 36,L_ 39 2 38,K_ 5 vx,s_ 2 5 39] (G_ [L_ 40 7 2,L_ 41 2 5,F_ 42 202 [t_ 40,t_ 41],m_ 6 42] (G_ [m_ 43 6,Y_ 44 .neq 43 0] (I_ 44 (G_ [m_ 45 6,m_ 3 45] .ret) .skip)))))
abbrev fV:Nat:=207
def nV:aq:=(G_ [k_ 3 0] (J_ (P_ 0 (G_ [l_ 8 0,o_ 9 (.un .not (t_ 8)),m_ 7 9] (I_ 7 (G_ [k_ 3 0] .ret) (G_ [f_ 11 6 1,l_ 12 11,f_ 13 0 2,f_ 14 1 13,l_ 15 14,z_ 16 15,C_ 17 .sub 16 1,F_ 18 80 [t_ 12,(i_ 0),t_ 17],o_ 19 (.un .not (t_ 18)),m_ 10 19] (I_ 10 (G_ [k_ 3 3] .ret) (J_ (V_ [f_ 21 7 1,l_ 22 21,z_ 23 22,f_ 24 0 2,f_ 25 1 24,l_ 26 25,f_ 27 6 1,l_ 28 27,a_ 29 4 26 28,f_ 30 1 29,l_ 31 30,X_ 32 .neq 23 31,m_ 20 32]) (I_ 20 (G_ [k_ 3 9] .ret) .skip))))))) (J_ (G_ [f_ 33 7 1,l_ 34 33,z_ 35 34,k_ 36 0] (Q_ 1 mo)) (G_ [k_ 3 0] .ret))))
theorem vQ:FF fV=some ⟨[(.tmp 3)],nV,.no⟩:=by kernel_rfl
abbrev sO:Nat:=209
def r_:aq:=(G_ [o_ 4 (.mv (.const (.int .u64 0))),o_ 5 (.mv (.const (.int .u64 0)))] (G_ [m_ 14 0,o_ 15 (.bin .and [] (t_ 14) (.const (.int .u64 4294967295))),m_ 6 15] (G_ [m_ 16 0,o_ 17 (.bin .shr [] (t_ 16) (.const (.int .u64 32))),m_ 7 17] (G_ [m_ 18 1,o_ 19 (.bin .and [] (t_ 18) (.const (.int .u64 4294967295))),m_ 8 19] (G_ [m_ 20 1,o_ 21 (.bin .shr [] (t_ 20) (.const (.int .u64 32))),m_ 9 21] (G_ [m_ 22 6,m_ 23 8,B_ 24 .mul 22 23,m_ 10 24] (G_ [m_ 25 7,m_ 26 8,B_ 27 .mul 25 26,m_ 28 10,o_ 29 (.bin .shr [] (t_ 28) (.const (.int .u64 32))),B_ 30 .add 27 29,m_ 11 30] (G_ [m_ 31 11,o_ 32 (.bin .and [] (t_ 31) (.const (.int .u64 4294967295))),m_ 12 32] (G_ [m_ 33 11,o_ 34 (.bin .shr [] (t_ 33) (.const (.int .u64 32))),m_ 13 34] (G_ [m_ 35 12,m_ 36 6,m_ 37 9,B_ 38 .mul 36 37,B_ 39 .add 35 38,m_ 12 39] (G_ [m_ 40 7,m_ 41 9,B_ 42 .mul 40 41,m_ 43 13,B_ 44 .add 42 43,m_ 45 12,o_ 46 (.bin .shr [] (t_ 45) (.const (.int .u64 32))),B_ 47 .add 44 46,m_ 4 47] (G_ [m_ 48 0,m_ 49 1,B_ 50 .mul 48 49,m_ 5 50] .ret))))))))))))
theorem zH:FF sO=some ⟨[(.tmp 4),(.tmp 5)],r_,.no⟩:=by kernel_rfl
def ia:aq:=(J_ (G_ [m_ 7 3,C_ 8 .geq 7 0] (H_ 8 0)) (J_ (P_ 1 (G_ [m_ 11 0,m_ 12 3,l_ 13 1,m_ 14 3,a_ 15 1 13 14,l_ 16 15,o_ 17 (.call (t_ 11) [t_ 12,t_ 16]),o_ 18 (.un .not (t_ 17))] (I_ 18 .ret .skip))) (O_ [m_ 9 3,C_ 10 .sub 9 1,m_ 3 10])))
abbrev bE:Nat:=210
def iV:aq:=(G_ [l_ 4 1,z_ 5 4,C_ 6 .sub 5 1,m_ 3 6] (Q_ 0 ia))
theorem pO:FF bE=some ⟨[],iV,.no⟩:=by kernel_rfl
def ym:aq:=(J_ (G_ [m_ 7 2,C_ 8 .geq 7 0,m_ 9 8,q_ 10 9 true (.mv (t_ 2)),q_ 11 9 true (.mv (t_ 1)),q_ 12 9 true (.bin .neq [1] (t_ 10) (t_ 11)),o_ 13 (.pick (t_ 9) (t_ 12) (b_ false))] (H_ 13 0)) (P_ 1 (O_ [m_ 14 0,m_ 15 2,a_ 16 1 14 15,l_ 17 16,m_ 2 17])))
abbrev Ci:Nat:=211
def BJ:aq:=(G_ [M_ 6 false] (J_ (Q_ 0 ym) (G_ [m_ 18 1,m_ 19 2,X_ 20 .eql 18 19,m_ 6 20] .ret)))
theorem JY:FF Ci=some ⟨[(.tmp 6)],BJ,.no⟩:=by kernel_rfl
def jD:aq:=(N_ 35 34 33 2 3 46 (G_ [m_ 36 34,a_ 37 2 32 34,L_ 38 2 37,K_ 9 vx,m_ 8 36,s_ 2 9 38] (V_ [f_ 39 1 7,l_ 40 39,m_ 41 8,m_ 42 0,L_ 43 2 9,(F_ 44 172 [t_ 42,t_ 43],[39]),a_ 45 2 40 41,s_ 2 45 44])))
def jE:aq:=(N_ 28 27 26 0 1 78 (G_ [a_ 29 2 25 27,L_ 30 2 29,K_ 7 Td,s_ 2 7 30] (J_ (G_ [f_ 31 1 7,l_ 32 31,z_ 33 32,k_ 34 0] (Q_ 2 jD)) (J_ (G_ [m_ 48 0,L_ 49 2 7,F_ 50 249 [t_ 48,t_ 49],m_ 47 50,E_ 51 0 47,E_ 52 1 47,K_ 10 vx,s_ 2 10 51,m_ 11 52] (G_ [m_ 53 11] (I_ 53 (G_ [m_ 54 0,f_ 55 0 7,l_ 56 55,L_ 57 2 10,F_ 58 221 [t_ 54,t_ 56,t_ 57]] (.exit 1)) .skip))) (G_ [m_ 59 5,o_ 60 (.uM 250 [t_ 7]),F_ 61 133 [t_ 59,t_ 60],m_ 12 61] (J_ (G_ [m_ 62 12,C_ 63 .geq 62 0] (I_ 63 (J_ (V_ [m_ 64 0,f_ 65 0 7,l_ 66 65,m_ 67 5,m_ 68 12,a_ 69 2 67 68,f_ 70 0 69,l_ 71 70,o_ 72 (.build vx [(0,(1,(b_ true))),(1,(1,(t_ 71)))]),F_ 73 221 [t_ 64,t_ 66,t_ 72]]) (.exit 1)) .skip)) (O_ [m_ 74 5,L_ 75 2 7,v_ 76 Td 2 75,A_ 77 Td 32 74 76,m_ 5 77])))))))
abbrev qM:Nat:=220
def qp:aq:=(G_ [m_ 13 0,n_ 14 13,f_ 15 1 14,l_ 16 15,n_ 17 16,f_ 18 3 17,l_ 19 18,m_ 20 1,a_ 21 6 19 20,m_ 4 21] (G_ [Z_ 5] (J_ (G_ [m_ 22 4,n_ 23 22,f_ 24 0 23,l_ 25 24,z_ 26 25,k_ 27 0] (Q_ 0 jE)) (O_ [m_ 79 4,m_ 80 5,n_ 81 79,f_ 82 0 81,s_ 1 82 80]))))
theorem yH:FF qM=some ⟨[],qp,.no⟩:=by kernel_rfl
abbrev qN:Nat:=221
def qq:aq:=(G_ [x_ 5 2] (V_ [m_ 6 0,n_ 7 6,f_ 8 3 7,l_ 9 8,m_ 10 1,m_ 11 0,L_ 12 2 5,a_ 13 2 9 10,s_ 2 13 12,n_ 14 11,f_ 15 4 14,u_ (.store 1 (t_ 15) (b_ true))]))
theorem yI:FF qN=some ⟨[],qq,.no⟩:=by kernel_rfl
abbrev pH:Nat:=222
def IU:aq:=(G_ [f_ 26 0 3,l_ 27 26,f_ 28 2 3,L_ 29 2 28,f_ 30 4 3,L_ 31 2 30,o_ 32 (.build XL [(0,(1,(t_ 27))),(1,(2,(t_ 29))),(3,(2,(t_ 31)))]),K_ 6 XL,s_ 5 6 32] (J_ (G_ [f_ 33 0 3,l_ 34 33,F_ 35 252 [t_ 34],m_ 36 35,q_ 37 36 true (.cP 4 (t_ 3)),q_ 38 36 true (.load (some 2) (t_ 37)),q_ 39 36 true (.cP 2 (t_ 3)),q_ 40 36 true (.load (some 2) (t_ 39)),q_ 41 36 true (.call (.func 253) [t_ 38,t_ 40]),o_ 42 (.pick (t_ 36) (t_ 41) (b_ false))] (I_ 42 (O_ [f_ 43 3 6,L_ 44 2 43,f_ 45 1 6,L_ 46 2 45,f_ 47 1 6,s_ 2 47 44,f_ 48 3 6,s_ 2 48 46]) .skip)) (G_ [L_ 49 5 6,s_ 5 4 49,M_ 5 true] .ret)))
def pA:aq:=(G_ [x_ 3 1,K_ 4 XL,M_ 5 false] (J_ (J_ (V_ [f_ 7 0 3,l_ 8 7,F_ 9 80 [t_ 8,(i_ 2),(i_ 17)],o_ 10 (.un .not (t_ 9)),m_ 11 10,q_ 12 11 true (.mv (t_ 0)),q_ 13 11 true (.uS (t_ 12)),q_ 14 11 true (.cP 0 (t_ 13)),q_ 15 11 true (.load none (t_ 14)),q_ 16 11 true (.load (some 8) (t_ 3)),q_ 17 11 true (.call (.func 76) [t_ 15,t_ 16]),q_ 18 11 true (.un .not (t_ 17)),o_ 19 (.pick (t_ 11) (t_ 18) (b_ false)),m_ 20 19,q_ 21 20 false (.cP 0 (t_ 3)),q_ 22 20 false (.load none (t_ 21)),q_ 23 20 false (.bin .eql [1] (t_ 22) (i_ 18)),o_ 24 (.pick (t_ 20) (b_ true) (t_ 23))]) (I_ 24 (G_ [o_ 25 (.build XL []),s_ 5 4 25,M_ 5 false] .ret) .skip)) IU))
theorem xA:FF pH=some ⟨[(.cell 4 (some 5)),(.tmp 5)],pA,.no⟩:=by kernel_rfl
def dv:aq:=(P_ 1 (G_ [m_ 21 2,m_ 22 1,B_ 23 .sub 21 22,m_ 12 23] (J_ (G_ [m_ 24 12,C_ 25 .leq 24 12] (I_ 25 (G_ [m_ 26 0,m_ 27 1,m_ 28 2,m_ 29 4,F_ 30 265 [t_ 26,t_ 27,t_ 28,t_ 29]] .ret) .skip)) (J_ (G_ [m_ 31 3,Y_ 32 .eql 31 0] (I_ 32 (G_ [m_ 33 0,m_ 34 1,m_ 35 2,m_ 36 4,F_ 37 266 [t_ 33,t_ 34,t_ 35,t_ 36]] .ret) .skip)) (J_ (G_ [m_ 38 10,o_ 39 (.un .not (t_ 38))] (I_ 39 (G_ [m_ 40 0,m_ 41 1,m_ 42 2,m_ 43 4,F_ 44 267 [t_ 40,t_ 41,t_ 42,t_ 43]] (O_ [m_ 45 3,C_ 46 .sub 45 1,m_ 3 46])) .skip)) (G_ [m_ 48 0,m_ 49 1,m_ 50 2,m_ 51 4,F_ 52 268 [t_ 48,t_ 49,t_ 50,t_ 51],m_ 47 52,E_ 53 0 47,E_ 54 1 47,m_ 13 53,m_ 14 54] (J_ (G_ [m_ 55 14,Y_ 56 .eql 55 2] (I_ 56 (G_ [m_ 57 0,m_ 58 1,m_ 59 2,m_ 60 4,F_ 61 269 [t_ 57,t_ 58,t_ 59,t_ 60]] (G_ [m_ 62 2,C_ 63 .sub 62 1,m_ 64 13,m_ 65 1,B_ 66 .sub 64 65,B_ 67 .sub 63 66,m_ 13 67] (O_ [k_ 14 1]))) .skip)) (J_ (G_ [m_ 68 10,m_ 69 68,q_ 70 69 true (.mv (t_ 11)),o_ 71 (.pick (t_ 69) (t_ 70) (b_ false)),m_ 72 71,q_ 73 72 true (.mv (t_ 14)),q_ 74 72 true (.bin .eql [1] (t_ 73) (i_ 1)),o_ 75 (.pick (t_ 72) (t_ 74) (b_ false))] (I_ 75 (G_ [m_ 76 0,m_ 77 1,m_ 78 2,m_ 79 4,F_ 80 270 [t_ 76,t_ 77,t_ 78,t_ 79]] (I_ 80 .ret .skip)) .skip)) (J_ (J_ (V_ [m_ 81 1,C_ 82 .gtr 81 0,m_ 83 82,q_ 84 83 true (.mv (t_ 4)),q_ 85 83 true (.mv (t_ 0)),q_ 86 83 true (.mv (t_ 1)),q_ 87 83 true (.bin .sub [] (t_ 86) (i_ 1)),q_ 88 83 true (.dt none 3 (t_ 85) (t_ 87)),q_ 89 83 true (.load (some 3) (t_ 88)),q_ 90 83 true (.mv (t_ 0)),q_ 91 83 true (.mv (t_ 13)),q_ 92 83 true (.dt none 3 (t_ 90) (t_ 91)),q_ 93 83 true (.load (some 3) (t_ 92)),q_ 94 83 true (.call (t_ 84) [t_ 89,t_ 93]),q_ 95 83 true (.bin .lss [] (t_ 94) (i_ 0)),q_ 96 83 true (.un .not (t_ 95)),o_ 97 (.pick (t_ 83) (t_ 96) (b_ false))]) (I_ 97 (G_ [m_ 98 0,m_ 99 1,m_ 100 2,m_ 101 13,m_ 102 4,F_ 103 271 [t_ 98,t_ 99,t_ 100,t_ 101,t_ 102],m_ 15 103] (G_ [m_ 104 15,m_ 1 104] (.exit 1))) .skip)) (G_ [m_ 106 0,m_ 107 1,m_ 108 2,m_ 109 13,m_ 110 4,F_ 111 272 [t_ 106,t_ 107,t_ 108,t_ 109,t_ 110],m_ 105 111,E_ 112 0 105,E_ 113 1 105,m_ 16 112,m_ 17 113] (G_ [m_ 114 17,m_ 11 114] (G_ [m_ 115 16,m_ 116 1,B_ 117 .sub 115 116,m_ 118 2,m_ 119 16,B_ 120 .sub 118 119,m_ 18 117,m_ 19 120] (G_ [m_ 121 12,C_ 122 .quo 121 8,m_ 20 122] (G_ [m_ 123 18,m_ 124 19,B_ 125 .lss 123 124] (I_ 125 (G_ [m_ 126 18,m_ 127 20,B_ 128 .geq 126 127,m_ 10 128] (G_ [m_ 129 0,m_ 130 1,m_ 131 16,m_ 132 3,m_ 133 4,F_ 134 244 [t_ 129,t_ 130,t_ 131,t_ 132,t_ 133]] (O_ [m_ 135 16,C_ 136 .add 135 1,m_ 1 136]))) (G_ [m_ 137 19,m_ 138 20,B_ 139 .geq 137 138,m_ 10 139] (G_ [m_ 140 0,m_ 141 16,C_ 142 .add 141 1,m_ 143 2,m_ 144 3,m_ 145 4,F_ 146 244 [t_ 140,t_ 142,t_ 143,t_ 144,t_ 145]] (O_ [m_ 147 16,m_ 2 147]))))))))))))))))))
abbrev fG:Nat:=244
def dF:aq:=(.seq (.ops [⟨(some 10),none,(.mv (.const (.bool true)))⟩]) (.seq (.ops [⟨(some 11),none,(.mv (.const (.bool true)))⟩]) (.block 0 (.loop dv))))
theorem fE:FF fG=some ⟨[],dF,.no⟩:=by kernel_rfl
abbrev vk:Nat:=245
def vb:aq:=(G_ [k_ 2 0] (J_ (.cond (b_ false) (G_ [m_ 3 0,o_ 4 (.conv .u32 (t_ 3)),F_ 5 273 [t_ 4],m_ 2 5] .ret) .skip) (G_ [m_ 6 0,F_ 7 274 [t_ 6],m_ 2 7] .ret)))
theorem CE:FF vk=some ⟨[(.tmp 2)],vb,.no⟩:=by kernel_rfl
def iF:aq:=(N_ 9 8 7 0 1 18 (G_ [m_ 10 8,m_ 5 10] (G_ [m_ 11 1,m_ 12 0,m_ 13 5,a_ 14 1 12 13,l_ 15 14,o_ 16 (.call (t_ 11) [t_ 15])] (I_ 16 (G_ [m_ 17 5,m_ 4 17] .ret) .skip))))
abbrev jv:Nat:=246
def jc:aq:=(.seq (.ops [⟨(some 4),none,(.mv (.const (.int .i64 0)))⟩]) (.seq (.seq (.ops [⟨(some 6),none,(.mv (.tmp 0))⟩,⟨(some 7),none,(.uC (.tmp 6))⟩,⟨(some 8),none,(.mv (.const (.int .i64 0)))⟩]) (.block 0 (.loop iF))) (.seq (.ops [⟨(some 4),none,(.mv (.const (.int .i64 (Int.negSucc 0))))⟩]) .ret)))
theorem qx:FF jv=some ⟨[(.tmp 4)],jc,.no⟩:=by kernel_rfl
def oM:aq:=(N_ 19 18 17 0 1 36 (G_ [a_ 20 2 16 18,L_ 21 2 20,K_ 10 vx,s_ 2 10 21] (J_ (G_ [L_ 22 2 10,L_ 23 2 6,o_ 24 (.bin .eql [9,0,1] (t_ 22) (t_ 23)),m_ 25 24,q_ 26 25 false (.mv (t_ 7)),q_ 27 25 false (.mv (t_ 26)),q_ 28 27 true (.load (some 2) (t_ 10)),q_ 29 27 true (.load (some 2) (t_ 8)),q_ 30 27 true (.bin .eql [9,0,1] (t_ 28) (t_ 29)),q_ 31 25 false (.pick (t_ 27) (t_ 30) (b_ false)),o_ 32 (.pick (t_ 25) (b_ true) (t_ 31))] (I_ 32 (.exit 1) .skip)) (J_ (G_ [m_ 33 7] (I_ 33 (G_ [L_ 34 2 8,s_ 2 4 34,M_ 5 false] .ret) .skip)) (V_ [L_ 35 2 10,M_ 7 true,s_ 2 8 35])))))
abbrev qL:Nat:=249
def qo:aq:=(G_ [x_ 3 1,K_ 4 vx,M_ 5 false] (G_ [f_ 11 0 3,l_ 12 11,o_ 13 (.build vx [(0,(1,(b_ true))),(1,(1,(t_ 12)))]),K_ 6 vx,s_ 2 6 13] (G_ [o_ 14 (.build vx []),K_ 8 vx,M_ 7 false,s_ 2 8 14] (J_ (G_ [f_ 15 1 3,l_ 16 15,z_ 17 16,k_ 18 0] (Q_ 0 oM)) (G_ [L_ 37 2 8,m_ 38 7,s_ 2 4 37,m_ 5 38] .ret)))))
theorem yG:FF qL=some ⟨[(.cell 4 (some 2)),(.tmp 5)],qo,.no⟩:=by kernel_rfl
abbrev jw:Nat:=250
def oe:aq:=(G_ [x_ 2 0,M_ 3 false] (G_ [f_ 4 1 2,l_ 5 4,f_ 6 1 1,l_ 7 6,F_ 8 251 [t_ 5,t_ 7],m_ 3 8] .ret))
theorem vU:FF jw=some ⟨[(.tmp 3)],oe,.no⟩:=by kernel_rfl
def fZ:aq:=(N_ 14 13 12 0 1 25 (G_ [m_ 15 13,m_ 5 15] (J_ (V_ [m_ 16 0,m_ 17 5,a_ 18 2 16 17,L_ 19 2 18,m_ 20 1,m_ 21 5,a_ 22 2 20 21,L_ 23 2 22,o_ 24 (.bin .neq [9,0,1] (t_ 19) (t_ 23))]) (I_ 24 (G_ [M_ 4 false] .ret) .skip))))
abbrev gO:Nat:=251
def gI:aq:=(G_ [M_ 4 false] (J_ (G_ [m_ 6 0,z_ 7 6,m_ 8 1,z_ 9 8,X_ 10 .neq 7 9] (I_ 10 (G_ [M_ 4 false] .ret) .skip)) (J_ (G_ [m_ 11 0,z_ 12 11,k_ 13 0] (Q_ 0 fZ)) (G_ [M_ 4 true] .ret))))
theorem mT:FF gO=some ⟨[(.tmp 4)],gI,.no⟩:=by kernel_rfl
abbrev yk:Nat:=252
def xW:aq:=(G_ [M_ 2 false] (G_ [o_ 3 (.fH 7 [(.int .i64 0),(.int .i64 0),(.int .i64 0),(.int .i64 0),(.int .i64 0),(.int .i64 0),(.int .i64 0)] [(0,(1,(i_ 2))),(1,(1,(i_ 4))),(2,(1,(i_ 7))),(3,(1,(i_ 8))),(4,(1,(i_ 9))),(5,(1,(i_ 12))),(6,(1,(i_ 13)))]),m_ 4 0,F_ 5 161 [t_ 3,t_ 4],m_ 2 5] .ret))
theorem FI:FF yk=some ⟨[(.tmp 2)],xW,.no⟩:=by kernel_rfl
abbrev yj:Nat:=253
def xV:aq:=(G_ [x_ 2 0,x_ 3 1,M_ 4 false] (J_ (G_ [f_ 5 0 2,l_ 6 5,f_ 7 0 3,l_ 8 7,o_ 9 (.bin .neq [0] (t_ 6) (t_ 8))] (I_ 9 (G_ [f_ 10 0 3,l_ 11 10,m_ 4 11] .ret) .skip)) (G_ [f_ 12 1 2,l_ 13 12,f_ 14 1 3,l_ 15 14,B_ 16 .lss 13 15,m_ 4 16] .ret)))
theorem FH:FF yj=some ⟨[(.tmp 4)],xV,.no⟩:=by kernel_rfl
def cI:aq:=(J_ (J_ (V_ [m_ 18 9,m_ 19 1,B_ 20 .gtr 18 19,m_ 21 20,q_ 22 21 true (.mv (t_ 3)),q_ 23 21 true (.mv (t_ 0)),q_ 24 21 true (.mv (t_ 9)),q_ 25 21 true (.dt none 3 (t_ 23) (t_ 24)),q_ 26 21 true (.load (some 3) (t_ 25)),q_ 27 21 true (.mv (t_ 0)),q_ 28 21 true (.mv (t_ 9)),q_ 29 21 true (.bin .sub [] (t_ 28) (i_ 1)),q_ 30 21 true (.dt none 3 (t_ 27) (t_ 29)),q_ 31 21 true (.load (some 3) (t_ 30)),q_ 32 21 true (.call (t_ 22) [t_ 26,t_ 31]),q_ 33 21 true (.bin .lss [] (t_ 32) (i_ 0)),o_ 34 (.pick (t_ 21) (t_ 33) (b_ false))]) (H_ 34 2)) (J_ (P_ 3 (V_ [m_ 37 0,m_ 38 9,m_ 39 0,m_ 40 9,C_ 41 .sub 40 1,m_ 42 0,m_ 43 9,C_ 44 .sub 43 1,a_ 45 3 42 44,L_ 46 3 45,m_ 47 0,m_ 48 9,a_ 49 3 47 48,L_ 50 3 49,a_ 51 3 37 38,s_ 3 51 46,a_ 52 3 39 41,s_ 3 52 50])) (O_ [m_ 35 9,C_ 36 .sub 35 1,m_ 9 36])))
def cJ:aq:=(J_ (G_ [m_ 12 8,m_ 13 2,B_ 14 .lss 12 13] (H_ 14 0)) (J_ (P_ 1 (G_ [m_ 17 8,m_ 9 17] (Q_ 2 cI))) (O_ [m_ 15 8,C_ 16 .add 15 1,m_ 8 16])))
abbrev eo:Nat:=265
def cM:aq:=(.seq (.ops [⟨(some 10),none,(.mv (.tmp 1))⟩,⟨(some 11),none,(.bin .add [] (.tmp 10) (.const (.int .i64 1)))⟩,⟨(some 8),none,(.mv (.tmp 11))⟩]) (.block 0 (.loop cJ)))
theorem ef:FF eo=some ⟨[],cM,.no⟩:=by kernel_rfl
def eW:aq:=(J_ (G_ [m_ 32 12,C_ 33 .geq 32 0] (H_ 33 2)) (J_ (P_ 3 (J_ (V_ [m_ 36 0,m_ 37 8,m_ 38 0,m_ 39 8,m_ 40 12,B_ 41 .add 39 40,m_ 42 0,m_ 43 8,m_ 44 12,B_ 45 .add 43 44,a_ 46 3 42 45,L_ 47 3 46,m_ 48 0,m_ 49 8,a_ 50 3 48 49,L_ 51 3 50,a_ 52 3 36 37,s_ 3 52 47,a_ 53 3 38 41,s_ 3 53 51]) (O_ [m_ 54 0,m_ 55 9,m_ 56 12,m_ 57 8,m_ 58 3,F_ 59 277 [t_ 54,t_ 55,t_ 56,t_ 57,t_ 58]]))) (O_ [m_ 34 12,C_ 35 .sub 34 1,m_ 12 35])))
def eX:aq:=(J_ (G_ [m_ 20 11,C_ 21 .geq 20 0] (H_ 21 0)) (J_ (P_ 1 (O_ [m_ 24 0,m_ 25 11,m_ 26 10,m_ 27 8,m_ 28 3,F_ 29 277 [t_ 24,t_ 25,t_ 26,t_ 27,t_ 28]])) (O_ [m_ 22 11,C_ 23 .sub 22 1,m_ 11 23])))
abbrev fu:Nat:=266
def fm:aq:=(G_ [m_ 13 1,m_ 8 13] (G_ [k_ 9 0] (G_ [m_ 14 2,m_ 15 1,B_ 16 .sub 14 15,m_ 10 16] (J_ (G_ [m_ 17 10,C_ 18 .sub 17 1,C_ 19 .quo 18 2,m_ 11 19] (Q_ 0 eX)) (G_ [m_ 30 10,C_ 31 .sub 30 1,m_ 12 31] (Q_ 2 eW))))))
theorem kI:FF fu=some ⟨[],fm,.no⟩:=by kernel_rfl
def dO:aq:=(J_ (G_ [m_ 28 11,m_ 29 1,m_ 30 8,C_ 31 .quo 30 4,C_ 32 .mul 31 2,B_ 33 .add 29 32,C_ 34 .add 33 1,B_ 35 .leq 28 34] (H_ 35 0)) (J_ (P_ 1 (G_ [F_ 38 279 [t_ 9],m_ 39 10,o_ 40 (.bin .sub [] (t_ 39) (.const (.int .u64 1))),B_ 41 .and 38 40,o_ 42 (.conv .i64 (t_ 41)),m_ 12 42] (J_ (G_ [m_ 43 12,m_ 44 8,B_ 45 .geq 43 44] (I_ 45 (O_ [m_ 46 12,m_ 47 8,B_ 48 .sub 46 47,m_ 12 48]) .skip)) (V_ [m_ 49 0,m_ 50 11,m_ 51 0,m_ 52 1,m_ 53 12,B_ 54 .add 52 53,m_ 55 0,m_ 56 1,m_ 57 12,B_ 58 .add 56 57,a_ 59 3 55 58,L_ 60 3 59,m_ 61 0,m_ 62 11,a_ 63 3 61 62,L_ 64 3 63,a_ 65 3 49 50,s_ 3 65 60,a_ 66 3 51 54,s_ 3 66 64])))) (O_ [m_ 36 11,C_ 37 .add 36 1,m_ 11 37])))
abbrev eg:Nat:=267
def ec:aq:=(G_ [m_ 13 2,m_ 14 1,B_ 15 .sub 13 14,m_ 8 15] (G_ [m_ 16 8,C_ 17 .geq 16 8] (I_ 17 (G_ [m_ 18 8,o_ 19 (.conv .u64 (t_ 18)),o_ 9 (.alloc [(.int .u64 0)]),s_ 1 9 19] (G_ [m_ 20 8,F_ 21 278 [t_ 20],m_ 10 21] (G_ [m_ 22 1,m_ 23 8,C_ 24 .quo 23 4,C_ 25 .mul 24 2,B_ 26 .add 22 25,C_ 27 .sub 26 1,m_ 11 27] (Q_ 0 dO)))) .skip)))
theorem iZ:FF eg=some ⟨[],ec,.no⟩:=by kernel_rfl
abbrev eM:Nat:=268
def eE:aq:=(G_ [k_ 8 0,k_ 9 0] (G_ [m_ 15 2,m_ 16 1,B_ 17 .sub 15 16,m_ 10 17] (G_ [K_ 11 HA] (G_ [m_ 18 1,m_ 19 10,C_ 20 .quo 19 4,C_ 21 .mul 20 1,B_ 22 .add 18 21,m_ 12 22] (G_ [m_ 23 1,m_ 24 10,C_ 25 .quo 24 4,C_ 26 .mul 25 2,B_ 27 .add 23 26,m_ 13 27] (G_ [m_ 28 1,m_ 29 10,C_ 30 .quo 29 4,C_ 31 .mul 30 3,B_ 32 .add 28 31,m_ 14 32] (J_ (G_ [m_ 33 10,C_ 34 .geq 33 8] (I_ 34 (J_ (G_ [m_ 35 10,C_ 36 .geq 35 50] (I_ 36 (G_ [m_ 37 0,m_ 38 12,m_ 39 3,F_ 40 280 [t_ 37,t_ 38,t_ 11,t_ 39],m_ 12 40] (G_ [m_ 41 0,m_ 42 13,m_ 43 3,F_ 44 280 [t_ 41,t_ 42,t_ 11,t_ 43],m_ 13 44] (O_ [m_ 45 0,m_ 46 14,m_ 47 3,F_ 48 280 [t_ 45,t_ 46,t_ 11,t_ 47],m_ 14 48]))) .skip)) (O_ [m_ 49 0,m_ 50 12,m_ 51 13,m_ 52 14,m_ 53 3,F_ 54 281 [t_ 49,t_ 50,t_ 51,t_ 52,t_ 11,t_ 53],m_ 13 54])) .skip)) (G_ [l_ 55 11] (P_ 0 (G_ [Y_ 58 .eql 55 0,m_ 57 58] (I_ 57 (G_ [m_ 59 13,m_ 8 59,k_ 9 1] .ret) (G_ [Y_ 61 .eql 55 12,m_ 60 61] (I_ 60 (G_ [m_ 62 13,m_ 8 62,k_ 9 2] .ret) (G_ [m_ 56 13,m_ 8 56,k_ 9 0] .ret))))))))))))))
theorem jL:FF eM=some ⟨[(.tmp 8),(.tmp 9)],eE,.no⟩:=by kernel_rfl
def dV:aq:=(J_ (G_ [m_ 13 8,m_ 14 9,B_ 15 .lss 13 14] (H_ 15 0)) (P_ 1 (J_ (V_ [m_ 16 0,m_ 17 8,m_ 18 0,m_ 19 9,m_ 20 0,m_ 21 9,a_ 22 3 20 21,L_ 23 3 22,m_ 24 0,m_ 25 8,a_ 26 3 24 25,L_ 27 3 26,a_ 28 3 16 17,s_ 3 28 23,a_ 29 3 18 19,s_ 3 29 27]) (G_ [m_ 30 8,C_ 31 .add 30 1,m_ 8 31] (O_ [m_ 32 9,C_ 33 .sub 32 1,m_ 9 33])))))
abbrev eB:Nat:=269
def ew:aq:=(G_ [m_ 10 1,m_ 8 10] (G_ [m_ 11 2,C_ 12 .sub 11 1,m_ 9 12] (Q_ 0 dV)))
theorem je:FF eB=some ⟨[],ew,.no⟩:=by kernel_rfl
def fL:aq:=(J_ (G_ [m_ 107 12,m_ 108 2,B_ 109 .lss 107 108] (H_ 109 6)) (J_ (P_ 7 (J_ (J_ (V_ [m_ 112 3,m_ 113 0,m_ 114 12,a_ 115 3 113 114,L_ 116 3 115,m_ 117 0,m_ 118 12,C_ 119 .sub 118 1,a_ 120 3 117 119,L_ 121 3 120,o_ 122 (.call (t_ 112) [t_ 116,t_ 121]),C_ 123 .lss 122 0,o_ 124 (.un .not (t_ 123))]) (I_ 124 (.exit 6) .skip)) (V_ [m_ 125 0,m_ 126 12,m_ 127 0,m_ 128 12,C_ 129 .sub 128 1,m_ 130 0,m_ 131 12,C_ 132 .sub 131 1,a_ 133 3 130 132,L_ 134 3 133,m_ 135 0,m_ 136 12,a_ 137 3 135 136,L_ 138 3 137,a_ 139 3 125 126,s_ 3 139 134,a_ 140 3 127 129,s_ 3 140 138]))) (O_ [m_ 110 12,C_ 111 .add 110 1,m_ 12 111])))
def fM:aq:=(J_ (G_ [m_ 68 11,C_ 69 .geq 68 1] (H_ 69 4)) (J_ (P_ 5 (J_ (J_ (V_ [m_ 72 3,m_ 73 0,m_ 74 11,a_ 75 3 73 74,L_ 76 3 75,m_ 77 0,m_ 78 11,C_ 79 .sub 78 1,a_ 80 3 77 79,L_ 81 3 80,o_ 82 (.call (t_ 72) [t_ 76,t_ 81]),C_ 83 .lss 82 0,o_ 84 (.un .not (t_ 83))]) (I_ 84 (.exit 4) .skip)) (V_ [m_ 85 0,m_ 86 11,m_ 87 0,m_ 88 11,C_ 89 .sub 88 1,m_ 90 0,m_ 91 11,C_ 92 .sub 91 1,a_ 93 3 90 92,L_ 94 3 93,m_ 95 0,m_ 96 11,a_ 97 3 95 96,L_ 98 3 97,a_ 99 3 85 86,s_ 3 99 94,a_ 100 3 87 89,s_ 3 100 98]))) (O_ [m_ 70 11,C_ 71 .sub 70 1,m_ 11 71])))
def de:aq:=(J_ (J_ (V_ [m_ 19 9,m_ 20 2,B_ 21 .lss 19 20,m_ 22 21,q_ 23 22 true (.mv (t_ 3)),q_ 24 22 true (.mv (t_ 0)),q_ 25 22 true (.mv (t_ 9)),q_ 26 22 true (.dt none 3 (t_ 24) (t_ 25)),q_ 27 22 true (.load (some 3) (t_ 26)),q_ 28 22 true (.mv (t_ 0)),q_ 29 22 true (.mv (t_ 9)),q_ 30 22 true (.bin .sub [] (t_ 29) (i_ 1)),q_ 31 22 true (.dt none 3 (t_ 28) (t_ 30)),q_ 32 22 true (.load (some 3) (t_ 31)),q_ 33 22 true (.call (t_ 23) [t_ 27,t_ 32]),q_ 34 22 true (.bin .lss [] (t_ 33) (i_ 0)),q_ 35 22 true (.un .not (t_ 34)),o_ 36 (.pick (t_ 22) (t_ 35) (b_ false))]) (H_ 36 2)) (P_ 3 (O_ [m_ 37 9,C_ 38 .add 37 1,m_ 9 38])))
def df:aq:=(J_ (G_ [m_ 15 10,C_ 16 .lss 15 5] (H_ 16 0)) (J_ (P_ 1 (J_ (Q_ 2 de) (J_ (G_ [m_ 39 9,m_ 40 2,X_ 41 .eql 39 40] (I_ 41 (G_ [M_ 8 true] .ret) .skip)) (J_ (G_ [m_ 42 2,m_ 43 1,B_ 44 .sub 42 43,C_ 45 .lss 44 50] (I_ 45 (G_ [M_ 8 false] .ret) .skip)) (J_ (V_ [m_ 46 0,m_ 47 9,m_ 48 0,m_ 49 9,C_ 50 .sub 49 1,m_ 51 0,m_ 52 9,C_ 53 .sub 52 1,a_ 54 3 51 53,L_ 55 3 54,m_ 56 0,m_ 57 9,a_ 58 3 56 57,L_ 59 3 58,a_ 60 3 46 47,s_ 3 60 55,a_ 61 3 48 50,s_ 3 61 59]) (J_ (G_ [m_ 62 9,m_ 63 1,B_ 64 .sub 62 63,C_ 65 .geq 64 2] (I_ 65 (G_ [m_ 66 9,C_ 67 .sub 66 1,m_ 11 67] (Q_ 4 fM)) .skip)) (G_ [m_ 101 2,m_ 102 9,B_ 103 .sub 101 102,C_ 104 .geq 103 2] (I_ 104 (G_ [m_ 105 9,C_ 106 .add 105 1,m_ 12 106] (Q_ 6 fL)) .skip)))))))) (O_ [m_ 17 10,C_ 18 .add 17 1,m_ 10 18])))
abbrev du:Nat:=270
def dq:aq:=(.seq (.ops [⟨(some 8),none,(.mv (.const (.bool false)))⟩]) (.seq (.ops [⟨(some 13),none,(.mv (.tmp 1))⟩,⟨(some 14),none,(.bin .add [] (.tmp 13) (.const (.int .i64 1)))⟩,⟨(some 9),none,(.mv (.tmp 14))⟩]) (.seq (.seq (.ops [⟨(some 10),none,(.mv (.const (.int .i64 0)))⟩]) (.block 0 (.loop df))) (.seq (.ops [⟨(some 8),none,(.mv (.const (.bool false)))⟩]) .ret))))
theorem gi:FF du=some ⟨[(.tmp 8)],dq,.no⟩:=by kernel_rfl
def cD:aq:=(J_ (J_ (V_ [m_ 50 11,m_ 51 12,B_ 52 .leq 50 51,m_ 53 52,q_ 54 53 true (.mv (t_ 4)),q_ 55 53 true (.mv (t_ 0)),q_ 56 53 true (.mv (t_ 1)),q_ 57 53 true (.dt none 3 (t_ 55) (t_ 56)),q_ 58 53 true (.load (some 3) (t_ 57)),q_ 59 53 true (.mv (t_ 0)),q_ 60 53 true (.mv (t_ 12)),q_ 61 53 true (.dt none 3 (t_ 59) (t_ 60)),q_ 62 53 true (.load (some 3) (t_ 61)),q_ 63 53 true (.call (t_ 54) [t_ 58,t_ 62]),q_ 64 53 true (.bin .lss [] (t_ 63) (i_ 0)),o_ 65 (.pick (t_ 53) (t_ 64) (b_ false))]) (H_ 65 4)) (P_ 5 (O_ [m_ 66 12,C_ 67 .sub 66 1,m_ 12 67])))
def cE:aq:=(J_ (J_ (V_ [m_ 31 11,m_ 32 12,B_ 33 .leq 31 32,m_ 34 33,q_ 35 34 true (.mv (t_ 4)),q_ 36 34 true (.mv (t_ 0)),q_ 37 34 true (.mv (t_ 1)),q_ 38 34 true (.dt none 3 (t_ 36) (t_ 37)),q_ 39 34 true (.load (some 3) (t_ 38)),q_ 40 34 true (.mv (t_ 0)),q_ 41 34 true (.mv (t_ 11)),q_ 42 34 true (.dt none 3 (t_ 40) (t_ 41)),q_ 43 34 true (.load (some 3) (t_ 42)),q_ 44 34 true (.call (t_ 35) [t_ 39,t_ 43]),q_ 45 34 true (.bin .lss [] (t_ 44) (i_ 0)),q_ 46 34 true (.un .not (t_ 45)),o_ 47 (.pick (t_ 34) (t_ 46) (b_ false))]) (H_ 47 2)) (P_ 3 (O_ [m_ 48 11,C_ 49 .add 48 1,m_ 11 49])))
def dM:aq:=(P_ 1 (J_ (Q_ 2 cE) (J_ (Q_ 4 cD) (J_ (G_ [m_ 68 11,m_ 69 12,B_ 70 .gtr 68 69] (I_ 70 (.exit 0) .skip)) (J_ (V_ [m_ 71 0,m_ 72 11,m_ 73 0,m_ 74 12,m_ 75 0,m_ 76 12,a_ 77 3 75 76,L_ 78 3 77,m_ 79 0,m_ 80 11,a_ 81 3 79 80,L_ 82 3 81,a_ 83 3 71 72,s_ 3 83 78,a_ 84 3 73 74,s_ 3 84 82]) (G_ [m_ 85 11,C_ 86 .add 85 1,m_ 11 86] (O_ [m_ 87 12,C_ 88 .sub 87 1,m_ 12 88])))))))
abbrev dU:Nat:=271
def dR:aq:=(G_ [k_ 10 0] (J_ (V_ [m_ 13 0,m_ 14 1,m_ 15 0,m_ 16 3,m_ 17 0,m_ 18 3,a_ 19 3 17 18,L_ 20 3 19,m_ 21 0,m_ 22 1,a_ 23 3 21 22,L_ 24 3 23,a_ 25 3 13 14,s_ 3 25 20,a_ 26 3 15 16,s_ 3 26 24]) (G_ [m_ 27 1,C_ 28 .add 27 1,m_ 29 2,C_ 30 .sub 29 1,m_ 11 28,m_ 12 30] (J_ (Q_ 0 dM) (G_ [m_ 89 11,m_ 10 89] .ret)))))
theorem iK:FF dU=some ⟨[(.tmp 10)],dR,.no⟩:=by kernel_rfl
def cX:aq:=(J_ (J_ (V_ [m_ 123 12,m_ 124 13,B_ 125 .leq 123 124,m_ 126 125,q_ 127 126 true (.mv (t_ 4)),q_ 128 126 true (.mv (t_ 0)),q_ 129 126 true (.mv (t_ 13)),q_ 130 126 true (.dt none 3 (t_ 128) (t_ 129)),q_ 131 126 true (.load (some 3) (t_ 130)),q_ 132 126 true (.mv (t_ 0)),q_ 133 126 true (.mv (t_ 1)),q_ 134 126 true (.dt none 3 (t_ 132) (t_ 133)),q_ 135 126 true (.load (some 3) (t_ 134)),q_ 136 126 true (.call (t_ 127) [t_ 131,t_ 135]),q_ 137 126 true (.bin .lss [] (t_ 136) (i_ 0)),q_ 138 126 true (.un .not (t_ 137)),o_ 139 (.pick (t_ 126) (t_ 138) (b_ false))]) (H_ 139 8)) (P_ 9 (O_ [m_ 140 13,C_ 141 .sub 140 1,m_ 13 141])))
def cY:aq:=(J_ (J_ (V_ [m_ 105 12,m_ 106 13,B_ 107 .leq 105 106,m_ 108 107,q_ 109 108 true (.mv (t_ 4)),q_ 110 108 true (.mv (t_ 0)),q_ 111 108 true (.mv (t_ 12)),q_ 112 108 true (.dt none 3 (t_ 110) (t_ 111)),q_ 113 108 true (.load (some 3) (t_ 112)),q_ 114 108 true (.mv (t_ 0)),q_ 115 108 true (.mv (t_ 1)),q_ 116 108 true (.dt none 3 (t_ 114) (t_ 115)),q_ 117 108 true (.load (some 3) (t_ 116)),q_ 118 108 true (.call (t_ 109) [t_ 113,t_ 117]),q_ 119 108 true (.bin .lss [] (t_ 118) (i_ 0)),o_ 120 (.pick (t_ 108) (t_ 119) (b_ false))]) (H_ 120 6)) (P_ 7 (O_ [m_ 121 12,C_ 122 .add 121 1,m_ 12 122])))
def eN:aq:=(P_ 5 (J_ (Q_ 6 cY) (J_ (Q_ 8 cX) (J_ (G_ [m_ 142 12,m_ 143 13,B_ 144 .gtr 142 143] (I_ 144 (.exit 4) .skip)) (J_ (V_ [m_ 145 0,m_ 146 12,m_ 147 0,m_ 148 13,m_ 149 0,m_ 150 13,a_ 151 3 149 150,L_ 152 3 151,m_ 153 0,m_ 154 12,a_ 155 3 153 154,L_ 156 3 155,a_ 157 3 145 146,s_ 3 157 152,a_ 158 3 147 148,s_ 3 158 156]) (G_ [m_ 159 12,C_ 160 .add 159 1,m_ 12 160] (O_ [m_ 161 13,C_ 162 .sub 161 1,m_ 13 162])))))))
def cZ:aq:=(J_ (J_ (V_ [m_ 50 12,m_ 51 13,B_ 52 .leq 50 51,m_ 53 52,q_ 54 53 true (.mv (t_ 4)),q_ 55 53 true (.mv (t_ 0)),q_ 56 53 true (.mv (t_ 13)),q_ 57 53 true (.dt none 3 (t_ 55) (t_ 56)),q_ 58 53 true (.load (some 3) (t_ 57)),q_ 59 53 true (.mv (t_ 0)),q_ 60 53 true (.mv (t_ 1)),q_ 61 53 true (.dt none 3 (t_ 59) (t_ 60)),q_ 62 53 true (.load (some 3) (t_ 61)),q_ 63 53 true (.call (t_ 54) [t_ 58,t_ 62]),q_ 64 53 true (.bin .lss [] (t_ 63) (i_ 0)),q_ 65 53 true (.un .not (t_ 64)),o_ 66 (.pick (t_ 53) (t_ 65) (b_ false))]) (H_ 66 2)) (P_ 3 (O_ [m_ 67 13,C_ 68 .sub 67 1,m_ 13 68])))
def c7:aq:=(J_ (J_ (V_ [m_ 32 12,m_ 33 13,B_ 34 .leq 32 33,m_ 35 34,q_ 36 35 true (.mv (t_ 4)),q_ 37 35 true (.mv (t_ 0)),q_ 38 35 true (.mv (t_ 12)),q_ 39 35 true (.dt none 3 (t_ 37) (t_ 38)),q_ 40 35 true (.load (some 3) (t_ 39)),q_ 41 35 true (.mv (t_ 0)),q_ 42 35 true (.mv (t_ 1)),q_ 43 35 true (.dt none 3 (t_ 41) (t_ 42)),q_ 44 35 true (.load (some 3) (t_ 43)),q_ 45 35 true (.call (t_ 36) [t_ 40,t_ 44]),q_ 46 35 true (.bin .lss [] (t_ 45) (i_ 0)),o_ 47 (.pick (t_ 35) (t_ 46) (b_ false))]) (H_ 47 0)) (P_ 1 (O_ [m_ 48 12,C_ 49 .add 48 1,m_ 12 49])))
abbrev ff:Nat:=272
def eZ:aq:=(G_ [k_ 10 0,M_ 11 false] (J_ (V_ [m_ 14 0,m_ 15 1,m_ 16 0,m_ 17 3,m_ 18 0,m_ 19 3,a_ 20 3 18 19,L_ 21 3 20,m_ 22 0,m_ 23 1,a_ 24 3 22 23,L_ 25 3 24,a_ 26 3 14 15,s_ 3 26 21,a_ 27 3 16 17,s_ 3 27 25]) (G_ [m_ 28 1,C_ 29 .add 28 1,m_ 30 2,C_ 31 .sub 30 1,m_ 12 29,m_ 13 31] (J_ (Q_ 0 c7) (J_ (Q_ 2 cZ) (J_ (G_ [m_ 69 12,m_ 70 13,B_ 71 .gtr 69 70] (I_ 71 (J_ (V_ [m_ 72 0,m_ 73 13,m_ 74 0,m_ 75 1,m_ 76 0,m_ 77 1,a_ 78 3 76 77,L_ 79 3 78,m_ 80 0,m_ 81 13,a_ 82 3 80 81,L_ 83 3 82,a_ 84 3 72 73,s_ 3 84 79,a_ 85 3 74 75,s_ 3 85 83]) (G_ [m_ 86 13,m_ 10 86,M_ 11 true] .ret)) .skip)) (J_ (V_ [m_ 87 0,m_ 88 12,m_ 89 0,m_ 90 13,m_ 91 0,m_ 92 13,a_ 93 3 91 92,L_ 94 3 93,m_ 95 0,m_ 96 12,a_ 97 3 95 96,L_ 98 3 97,a_ 99 3 87 88,s_ 3 99 94,a_ 100 3 89 90,s_ 3 100 98]) (G_ [m_ 101 12,C_ 102 .add 101 1,m_ 12 102] (G_ [m_ 103 13,C_ 104 .sub 103 1,m_ 13 104] (J_ (Q_ 4 eN) (J_ (V_ [m_ 163 0,m_ 164 13,m_ 165 0,m_ 166 1,m_ 167 0,m_ 168 1,a_ 169 3 167 168,L_ 170 3 169,m_ 171 0,m_ 172 13,a_ 173 3 171 172,L_ 174 3 173,a_ 175 3 163 164,s_ 3 175 170,a_ 176 3 165 166,s_ 3 176 174]) (G_ [m_ 177 13,m_ 10 177,M_ 11 false] .ret))))))))))))
theorem kg:FF ff=some ⟨[(.tmp 10),(.tmp 11)],eZ,.no⟩:=by kernel_rfl
set_option maxRecDepth 100000
abbrev mj:Nat:=274
def zB:aq:=(G_ [k_ 2 0] (J_ (G_ [m_ 3 0,o_ 4 (.bin .geq [] (t_ 3) (.const (.int .u64 4294967296)))] (I_ 4 (G_ [m_ 5 0,o_ 6 (.bin .shr [] (t_ 5) (.const (.int .u64 32))),m_ 0 6] (O_ [k_ 2 32])) .skip)) (J_ (G_ [m_ 7 0,o_ 8 (.bin .geq [] (t_ 7) (.const (.int .u64 65536)))] (I_ 8 (G_ [m_ 9 0,o_ 10 (.bin .shr [] (t_ 9) (.const (.int .u64 16))),m_ 0 10] (O_ [m_ 11 2,C_ 12 .add 11 16,m_ 2 12])) .skip)) (J_ (G_ [m_ 13 0,o_ 14 (.bin .geq [] (t_ 13) (.const (.int .u64 256)))] (I_ 14 (G_ [m_ 15 0,o_ 16 (.bin .shr [] (t_ 15) (.const (.int .u64 8))),m_ 0 16] (O_ [m_ 17 2,C_ 18 .add 17 8,m_ 2 18])) .skip)) (G_ [m_ 19 2,m_ 20 0,o_ 21 (.conv .u8 (t_ 20)),⟨(some 22),none,(.index none (.const (.string ⟨⟨[0,1,2,2,3,3,3,3,4,4,4,4,4,4,4,4,5,5,5,5,5,5,5,5,5,5,5,5,5,5,5,5,6,6,6,6,6,6,6,6,6,6,6,6,6,6,6,6,6,6,6,6,6,6,6,6,6,6,6,6,6,6,6,6,7,7,7,7,7,7,7,7,7,7,7,7,7,7,7,7,7,7,7,7,7,7,7,7,7,7,7,7,7,7,7,7,7,7,7,7,7,7,7,7,7,7,7,7,7,7,7,7,7,7,7,7,7,7,7,7,7,7,7,7,7,7,7,7,8,8,8,8,8,8,8,8,8,8,8,8,8,8,8,8,8,8,8,8,8,8,8,8,8,8,8,8,8,8,8,8,8,8,8,8,8,8,8,8,8,8,8,8,8,8,8,8,8,8,8,8,8,8,8,8,8,8,8,8,8,8,8,8,8,8,8,8,8,8,8,8,8,8,8,8,8,8,8,8,8,8,8,8,8,8,8,8,8,8,8,8,8,8,8,8,8,8,8,8,8,8,8,8,8,8,8,8,8,8,8,8,8,8,8,8,8,8,8,8,8,8,8,8,8,8,8,8]⟩⟩)) (t_ 21))⟩,o_ 23 (.conv .i64 (t_ 22)),B_ 24 .add 19 23,m_ 2 24] .ret)))))
theorem zG:FF mj=some ⟨[(.tmp 2)],zB,.no⟩:=by kernel_rfl
def dk:aq:=(P_ 1 (G_ [m_ 13 10,o_ 14 (.bin .mul [] (i_ 2) (t_ 13)),C_ 15 .add 14 1,m_ 11 15] (J_ (G_ [m_ 16 11,m_ 17 2,B_ 18 .geq 16 17] (I_ 18 (.exit 0) .skip)) (J_ (J_ (V_ [m_ 19 11,C_ 20 .add 19 1,m_ 21 2,B_ 22 .lss 20 21,m_ 23 22,q_ 24 23 true (.mv (t_ 4)),q_ 25 23 true (.mv (t_ 0)),q_ 26 23 true (.mv (t_ 3)),q_ 27 23 true (.mv (t_ 11)),q_ 28 23 true (.bin .add [] (t_ 26) (t_ 27)),q_ 29 23 true (.dt none 3 (t_ 25) (t_ 28)),q_ 30 23 true (.load (some 3) (t_ 29)),q_ 31 23 true (.mv (t_ 0)),q_ 32 23 true (.mv (t_ 3)),q_ 33 23 true (.mv (t_ 11)),q_ 34 23 true (.bin .add [] (t_ 32) (t_ 33)),q_ 35 23 true (.bin .add [] (t_ 34) (i_ 1)),q_ 36 23 true (.dt none 3 (t_ 31) (t_ 35)),q_ 37 23 true (.load (some 3) (t_ 36)),q_ 38 23 true (.call (t_ 24) [t_ 30,t_ 37]),q_ 39 23 true (.bin .lss [] (t_ 38) (i_ 0)),o_ 40 (.pick (t_ 23) (t_ 39) (b_ false))]) (I_ 40 (O_ [m_ 41 11,C_ 42 .add 41 1,m_ 11 42]) .skip)) (J_ (J_ (V_ [m_ 43 4,m_ 44 0,m_ 45 3,m_ 46 10,B_ 47 .add 45 46,a_ 48 3 44 47,L_ 49 3 48,m_ 50 0,m_ 51 3,m_ 52 11,B_ 53 .add 51 52,a_ 54 3 50 53,L_ 55 3 54,o_ 56 (.call (t_ 43) [t_ 49,t_ 55]),C_ 57 .lss 56 0,o_ 58 (.un .not (t_ 57))]) (I_ 58 .ret .skip)) (J_ (V_ [m_ 59 0,m_ 60 3,m_ 61 10,B_ 62 .add 60 61,m_ 63 0,m_ 64 3,m_ 65 11,B_ 66 .add 64 65,m_ 67 0,m_ 68 3,m_ 69 11,B_ 70 .add 68 69,a_ 71 3 67 70,L_ 72 3 71,m_ 73 0,m_ 74 3,m_ 75 10,B_ 76 .add 74 75,a_ 77 3 73 76,L_ 78 3 77,a_ 79 3 59 62,s_ 3 79 72,a_ 80 3 63 66,s_ 3 80 78]) (O_ [m_ 81 11,m_ 10 81])))))))
abbrev fw:Nat:=277
def fp:aq:=(.seq (.ops [⟨(some 12),none,(.mv (.tmp 1))⟩,⟨(some 10),none,(.mv (.tmp 12))⟩]) (.block 0 (.loop dk)))
theorem kJ:FF fw=some ⟨[],fp,.no⟩:=by kernel_rfl
abbrev lu:Nat:=278
def kW:aq:=(G_ [o_ 2 (.mv (.const (.int .u64 0)))] (G_ [m_ 3 0,o_ 4 (.conv .u64 (t_ 3)),F_ 5 245 [t_ 4],o_ 6 (.bin .shl [] (.const (.int .u64 1)) (t_ 5)),m_ 2 6] .ret))
theorem tO:FF lu=some ⟨[(.tmp 2)],kW,.no⟩:=by kernel_rfl
abbrev mn:Nat:=279
def lO:aq:=(G_ [o_ 2 (.mv (.const (.int .u64 0)))] (J_ (V_ [m_ 3 0,n_ 4 3,l_ 5 4,m_ 6 0,n_ 7 6,l_ 8 7,o_ 9 (.bin .shl [] (t_ 8) (.const (.int .u64 13))),B_ 10 .xor 5 9,n_ 11 3,s_ 1 11 10]) (J_ (V_ [m_ 12 0,n_ 13 12,l_ 14 13,m_ 15 0,n_ 16 15,l_ 17 16,o_ 18 (.bin .shr [] (t_ 17) (.const (.int .u64 7))),B_ 19 .xor 14 18,n_ 20 12,s_ 1 20 19]) (J_ (V_ [m_ 21 0,n_ 22 21,l_ 23 22,m_ 24 0,n_ 25 24,l_ 26 25,o_ 27 (.bin .shl [] (t_ 26) (.const (.int .u64 17))),B_ 28 .xor 23 27,n_ 29 21,s_ 1 29 28]) (G_ [m_ 30 0,n_ 31 30,l_ 32 31,m_ 2 32] .ret)))))
theorem uE:FF mn=some ⟨[(.tmp 2)],lO,.no⟩:=by kernel_rfl
abbrev fW:Nat:=281
def fP:aq:=(G_ [k_ 12 0] (G_ [m_ 14 0,m_ 15 1,m_ 16 2,m_ 17 4,m_ 18 5,F_ 19 282 [t_ 14,t_ 15,t_ 16,t_ 17,t_ 18],m_ 13 19,E_ 20 0 13,E_ 21 1 13,m_ 1 20,m_ 2 21] (G_ [m_ 23 0,m_ 24 2,m_ 25 3,m_ 26 4,m_ 27 5,F_ 28 282 [t_ 23,t_ 24,t_ 25,t_ 26,t_ 27],m_ 22 28,E_ 29 0 22,E_ 30 1 22,m_ 2 29,m_ 3 30] (G_ [m_ 32 0,m_ 33 1,m_ 34 2,m_ 35 4,m_ 36 5,F_ 37 282 [t_ 32,t_ 33,t_ 34,t_ 35,t_ 36],m_ 31 37,E_ 38 0 31,E_ 39 1 31,m_ 1 38,m_ 2 39] (G_ [m_ 40 2,m_ 12 40] .ret)))))
theorem ma:FF fW=some ⟨[(.tmp 12)],fP,.no⟩:=by kernel_rfl
abbrev fY:Nat:=282
def fQ:aq:=(G_ [k_ 10 0,k_ 11 0] (J_ (J_ (V_ [m_ 12 4,m_ 13 0,m_ 14 2,a_ 15 3 13 14,L_ 16 3 15,m_ 17 0,m_ 18 1,a_ 19 3 17 18,L_ 20 3 19,o_ 21 (.call (t_ 12) [t_ 16,t_ 20]),C_ 22 .lss 21 0]) (I_ 22 (G_ [m_ 23 3,n_ 24 23,l_ 25 24,C_ 26 .add 25 1,n_ 27 23,s_ 1 27 26] (G_ [m_ 28 2,m_ 29 1,m_ 10 28,m_ 11 29] .ret)) .skip)) (G_ [m_ 30 1,m_ 31 2,m_ 10 30,m_ 11 31] .ret)))
theorem mc:FF fY=some ⟨[(.tmp 10),(.tmp 11)],fQ,.no⟩:=by kernel_rfl
end Go.Proofs.YtdhnndleffachaaGreatDoor

namespace Go.Proofs.YtdhnndleffachaaGreatDoor
open Go.AI
variable{C K S X i s1 s2 s3 sz:Nat}{QQ:aT->Env->ae->Prop}{a ai an b bn dst fn n op:Int}{ar br:Bool}{e:Env}{f:Value}{h:ae}{ns:List Int}{α:Type}
theorem dD(h:ae)(a b c:Int):aF FF ye [.int .i64 a,.int .i64 b,.int .i64 c] h (fun v h'=>v=.bool (decide (b<=a)&&decide (a<=c))/\h'=h):=by refine aF.of FA ?_;unfold xP;by_cases h1:b<=a<;>by_cases h2:a<=c<;>simp[h1,h2]
theorem jl(h:ae)(ok:bm h)(a b:Int):aF FF Ai [.int .i64 a,.int .i64 b] h (fun v h'=>v=.agg #[.int .i64 a,.int .i64 b]/\ab aK h h'):=by
 refine aF.of HN ?_;unfold zu;simp
 repeat (first|exact .refl ok|apply ab.new|refine ab.put ?_ (by simp) (by simp))
def cz(op:Int):Bool×Bool×Bool:=
 if op=1\/op=16\/op=17\/op=18 then(true,true,false) else
 if 2<=op/\op<=15 then(true,true,true) else
 if op=19 then(false,true,true) else
 if op=20\/op=21 then(true,false,false) else
 if op=22 then(false,true,false) else(false,false,false)
theorem qu(h:¬a=b):(a==b)=false:=by simpa using h
theorem Ct(h:ae)(ok:bm h)(op:Int):aF FF yd [.int .i64 op] h (fun v h'=>v=.agg #[.bool (cz op).1,.bool (cz op).2.1,.bool (cz op).2.2]/\ab aK h h'):=by
 refine aF.of Fy ?_;unfold xN;by_cases k1:op=1
 .subst k1;simp[cz];repeat (first|exact .refl ok|apply ab.new|refine ab.put ?_ (by simp) (by simp))
 by_cases k2:op=16
 .subst k2;simp[cz];repeat (first|exact .refl ok|apply ab.new|refine ab.put ?_ (by simp) (by simp))
 by_cases k3:op=17
 .subst k3;simp[cz];repeat (first|exact .refl ok|apply ab.new|refine ab.put ?_ (by simp) (by simp))
 by_cases k4:op=18
 .subst k4;simp[cz];repeat (first|exact .refl ok|apply ab.new|refine ab.put ?_ (by simp) (by simp))
 by_cases k6:op=19
 .subst k6;simp[cz];repeat (first|exact .refl ok|apply ab.new|refine ab.put ?_ (by simp) (by simp))
 by_cases k7:op=20
 .subst k7;simp[cz];repeat (first|exact .refl ok|apply ab.new|refine ab.put ?_ (by simp) (by simp))
 by_cases k8:op=21
 .subst k8;simp[cz];repeat (first|exact .refl ok|apply ab.new|refine ab.put ?_ (by simp) (by simp))
 by_cases k9:op=22
 .subst k9;simp[cz];repeat (first|exact .refl ok|apply ab.new|refine ab.put ?_ (by simp) (by simp))
 have b1:=qu k1;have b2:=qu k2;have b3:=qu k3;have b4:=qu k4;have b6:=qu k6;have b7:=qu k7;have b8:=qu k8;have b9:=qu k9;by_cases l1:2<=op
 .by_cases l2:op<=15
  .have:cz op=(true,true,true):=by unfold cz;rw[aW (by omega),aZ ⟨l1,l2⟩]
   simp[b1,b2,b3,b4,k1,k2,k3,k4,l1,l2,this]
   repeat (first|exact .refl ok|apply ab.new|refine ab.put ?_ (by simp) (by simp))
  .have l2':15<op:=by omega
   have:cz op=(false,false,false):=by unfold cz;rw[aW (by omega),aW (by omega),aW k6,aW (by omega),aW k9]
   simp[b1,b2,b3,b4,b6,b7,b8,b9,k1,k2,k3,k4,k6,k7,k8,k9,l1,l2,l2',this]
   repeat (first|exact .refl ok|apply ab.new|refine ab.put ?_ (by simp) (by simp))
 .have l1':op<2:=by omega
  have:cz op=(false,false,false):=by unfold cz;rw[aW (by omega),aW (by omega),aW k6,aW (by omega),aW k9]
  simp[b1,b2,b3,b4,b6,b7,b8,b9,k1,k2,k3,k4,k6,k7,k8,k9,l1,l1',this]
  repeat (first|exact .refl ok|apply ab.new|refine ab.put ?_ (by simp) (by simp))
def aI(op dst:Int)(ar:Bool)(an:Int)(br:Bool)(bn:Int)(fn:Int)(args:Value):List Value:=[.int .i64 op,.int .i64 dst,.bool ar,.int .i64 an,.bool br,.int .i64 bn,.int .i64 fn,args]
def nf(bu op:Int)(ar:Bool)(an:Int)(br:Bool)(bn:Int):Bool:=
 if op=5\/op=6 then !br&&decide (bn≠0) else if op=18 then !ar&&(decide (0<=an)&&decide (an<=bu-1)) else decide (1<=op)&&decide (op<=17)
theorem OD(h:ae)(ok:bm h)(bu op dst an bn fn:Int)(ar br:Bool)(aa:Option Addr)(al ac:Nat)(hw:0<=bu/\bu<1000000000):
  aF FF wy [.int .i64 bu,.agg ⟨aI op dst ar an br bn fn (.slice aa al ac)⟩] h (fun v h'=>v=.bool (nf bu op ar an br bn)/\ab aK h h'):=by
 refine aF.of DD ?_;unfold vK;have hw1:=wrap_i64 (bu-1) (by omega) (by omega);by_cases k5:op=5
 .subst k5;cases br with
  |true=>simp[aI,nf];exact aP ok _ _
  |false=>
   by_cases hb:bn=0
   .subst hb;simp[aI,nf];exact aP ok _ _
   .simp[aI,nf,hb];exact aP ok _ _
 by_cases k6:op=6
 .subst k6;cases br with
  |true=>simp[aI,nf];exact aP ok _ _
  |false=>
   by_cases hb:bn=0
   .subst hb;simp[aI,nf];exact aP ok _ _
   .simp[aI,nf,hb];exact aP ok _ _
 have b5:=qu k5;have b6:=qu k6;by_cases k18:op=18
 .subst k18;cases ar with
  |true=>simp[aI,nf];exact aP ok _ _
  |false=>
   simp[aI,nf,hw1];refine aG.call (by simpa using dD _ an 0 (bu-1)) ?_;rintro _ h'⟨rfl,rfl⟩;simp;exact aP ok _ _
 .have b18:=qu k18;simp[aI,b5,b6,b18,k5,k6,k18];refine aG.call (by simpa using dD _ op 1 17) ?_;rintro _ h'⟨rfl,rfl⟩;simp[nf,k5,k6,k18];exact aP ok _ _
structure SV where
 a:Option Addr
 l:Nat
 c:Nat
def SV.v(s:SV):Value:=.slice s.a s.l s.c
@[simp] theorem SV.ajZ(s:SV):s.v=.slice s.a s.l s.c:=rfl
def d_:SV:=⟨none,0,0⟩
structure GI where
 op:Int
 dst:Int
 a:Bool×Int
 b:Bool×Int
 fn:Int
 args:List (Bool×Int)
structure GP where
 dst:Int
 row:List (Bool×Int)
structure GB where
 dQ:List GP
 list:List GI
 kind:Int
 on:Bool×Int
 to:List Int
structure GF where
 name:ByteArray
 params:Int
 ai:Int
 blocks:List GB
structure GG where
 name:ByteArray
 size:Int
 init:List Int
structure GU where
 globals:List GG
 funcs:List GF
def vR(c:List Value)(v:Bool×Int):Prop:=c=[.bool v.1,.int .i64 v.2]
def nR(c:List Value)(n:Int):Prop:=c=[.int .i64 n]
def iR(h:ae)(c:List Value)(x:GI):Prop:=∃A:SV,c=aI x.op x.dst x.a.1 x.a.2 x.b.1 x.b.2 x.fn A.v/\SliceR vR 2 h A.v x.args
def pR(h:ae)(c:List Value)(p:GP):Prop:=∃A:SV,c=[.int .i64 p.dst,A.v]/\SliceR vR 2 h A.v p.row
def bR(h:ae)(c:List Value)(b:GB):Prop:=∃P L T:SV,c=[P.v,L.v,.int .i64 b.kind,.bool b.on.1,.int .i64 b.on.2,T.v]/\SliceR (pR h) 2 h P.v b.dQ/\SliceR (iR h) 8 h L.v b.list/\SliceR nR 1 h T.v b.to
def fR(h:ae)(c:List Value)(f:GF):Prop:=∃B:SV,c=[.string f.name,.int .i64 f.params,.int .i64 f.ai,B.v]/\SliceR (bR h) 6 h B.v f.blocks
def gR(h:ae)(c:List Value)(g:GG):Prop:=∃I:SV,c=[.string g.name,.int .i64 g.size,I.v]/\SliceR nR 1 h I.v g.init
def uR(h:ae)(G F:SV)(u:GU):Prop:=SliceR (gR h) 3 h G.v u.globals/\SliceR (fR h) 4 h F.v u.funcs
theorem iR.mono{h h':ae}(ok:bm h)(g:ab aK h h'){c:List Value}{x:GI}(r:iR h c x):iR h' c x:=by obtain⟨A,e,s⟩:=r;exact⟨A,e,s.mono ok g fun _ _ h=>h⟩
theorem pR.mono{h h':ae}(ok:bm h)(g:ab aK h h'){c:List Value}{x:GP}(r:pR h c x):pR h' c x:=by obtain⟨A,e,s⟩:=r;exact⟨A,e,s.mono ok g fun _ _ h=>h⟩
theorem bR.mono{h h':ae}(ok:bm h)(g:ab aK h h'){c:List Value}{x:GB}(r:bR h c x):bR h' c x:=by obtain⟨P,L,T,e,s1,s2,s3⟩:=r;exact⟨P,L,T,e,s1.mono ok g fun _ _ r=>r.mono ok g,s2.mono ok g fun _ _ r=>r.mono ok g,s3.mono ok g fun _ _ h=>h⟩
theorem fR.mono{h h':ae}(ok:bm h)(g:ab aK h h'){c:List Value}{x:GF}(r:fR h c x):fR h' c x:=by obtain⟨A,e,s⟩:=r;exact⟨A,e,s.mono ok g fun _ _ r=>r.mono ok g⟩
theorem gR.mono{h h':ae}(ok:bm h)(g:ab aK h h'){c:List Value}{x:GG}(r:gR h c x):gR h' c x:=by obtain⟨A,e,s⟩:=r;exact⟨A,e,s.mono ok g fun _ _ h=>h⟩
abbrev CT(h:ae)(B:SV)(bs:List GB):Prop:=SliceR (bR h) 6 h B.v bs
theorem CT.mono{h h':ae}{B:SV}{bs:List GB}(s:CT h B bs)(ok:bm h)(g:ab aK h h'):CT h' B bs:=SliceR.mono s ok g fun _ _ r=>r.mono ok g
theorem uR.mono{h h':ae}{G F:SV}{u:GU}(r:uR h G F u)(ok:bm h)(g:ab aK h h'):uR h' G F u:=
 ⟨r.1.mono ok g fun _ _ r=>r.mono ok g,r.2.mono ok g fun _ _ r=>r.mono ok g⟩
structure At{α:Type}(R:List Value->α->Prop)(sz:Nat)(h:ae)(L:SV)(n:Nat)(i:Nat)(x:α)(b off:Nat)(c:List Value):Prop where
 a:L.a=some ⟨b,off,none⟩
 l:L.l=n
 len:c.length=sz
 r:R c x
 bC:Old b h
 rd:∀h':ae,h'.tr.get b=h.tr.get b->∀k m,k+m<=sz->aV h' b (off+i*sz+k) m=some ((c.drop k).take m)
theorem SliceR.len{R:List Value->α->Prop}{L:SV}{xs:List α}(s:SliceR R sz h L.v xs):L.l=xs.length:=by obtain⟨a,cap,e,_⟩:=s;simp at e;exact e.2.1
theorem SliceR.at{α:Type}{R:List Value->α->Prop}{sz:Nat}{h:ae}(ok:bm h){L:SV}{xs:List α}(s:SliceR R sz h L.v xs){i:Nat}{x:α}(hi:xs[i]?=some x):∃b off c,At R sz h L xs.length i x b off c:=by
 obtain⟨a,cap,e,s⟩:=s;simp at e;rcases s with⟨rfl,_⟩|⟨b,off,cs,ro,o,st,rfl,hb,he⟩
 .simp at hi
 .obtain⟨hl,hr⟩:=he i x hi;refine⟨b,off,_,e.1,e.2.1,hl,hr,ok.bC hb,fun h' e' k m hk=>?_⟩;have FT:=hl;simp at FT;have hle:m=0\/off+i*sz+k+m<=cs.length:=by omega
  rcases hle with rfl|hle
  .unfold aV;rw[e',hb];simp
  .rw[bV (e'.trans hb) hle,List.drop_take,List.take_take,List.drop_drop];congr 2;omega
def fF:List GB->Nat
 |[]=>0
 |b::bs=>b.dQ.length+b.list.length+fF bs
theorem Ej{bs:List GB}{j:Nat}{b:GB}(h:bs[j]?=some b):fF (bs.take (j+1))=fF (bs.take j)+(b.dQ.length+b.list.length):=by
 induction bs generalizing j with
 |nil=>simp at h
 |cons x bs ih=>
  cases j with
  |zero=>simp at h;subst h;simp[fF]
  |succ j=>
   simp at h;have:=ih h;simp only[List.take_succ_cons,fF];omega
def Fits(bs:List GB):Prop:=bs.length<=140737488355328/\∀b∈bs,b.dQ.length<=140737488355328/\b.list.length<=140737488355328
theorem wrap_add(a b:Int):IntKind.i64.wrap (IntKind.i64.wrap a+b)=IntKind.i64.wrap (a+b):=by simp only[IntKind.wrap,IntKind.signed,IntKind.bits];simp;omega
theorem Ei:∀ {bs:List GB},Fits bs->fF bs<=bs.length*281474976710656
 |[],_=>by simp[fF]
 |b::bs,h=>by have:=Ei (bs:=bs) ⟨by have:=h.1;simp at this;omega,fun b hb=>h.2 b (.tail _ hb)⟩;have:=h.2 b (.head _);simp only[fF,List.length_cons];omega
theorem HC{bs:List GB}(h:Fits bs)(hl:bs.length<=40):IntKind.i64.wrap (fF bs:Int)=(fF bs:Int):=by have:=Ei h;exact wrap_i64 _ (by omega) (by omega)
structure Small(u:GU):Prop where
 fs:u.funcs.length<=140737488355328
 bs:∀f∈u.funcs,Fits f.blocks
def Dj(f:GF):Prop:=f.blocks.length<=24/\fF f.blocks<=120
theorem SliceR.later{R:List Value->α->Prop}(ok:bm h){L:SV}{xs:List α}(s:SliceR R sz h L.v xs){x:α}(hi:xs[i]?=some x):
  ∃b off c,L.a=some ⟨b,off,none⟩/\i<xs.length/\c.length=sz/\R c x/\Old b h/\∀h':ae,ab aK h h'->∀k m,k+m<=sz->aV h' b (off+i*sz+k) m=some ((c.drop k).take m):=by
 obtain⟨b,off,c,w⟩:=SliceR.at ok s hi;exact⟨b,off,c,w.a,(cr.mp hi).1,w.len,w.r,w.bC,fun h' g=>w.rd h' (g.got w.bC)⟩
theorem Rl{h h2:ae}(ok:bm h){G F:SV}{u:GU}{B:SV}{f:GF}(hi:u.funcs[i]?=some f)(hF:∃b off,F.a=some ⟨b,off,none⟩/\F.l=u.funcs.length/\∀h',ab aK h h'->aV h' b (off+i*4+3) 1=some [B.v])(hB:CT h B f.blocks)(hm:Fits f.blocks){U:Nat}(hU:h2.tr.get U=some (.aC [G.v,F.v] false 0 0))(g2:ab aK h h2)(f1:ak e 1=.pointer (some ⟨U,0,none⟩))(f3:ak e 3=.int .i64 i)(f4:ak e 4=.int .i64 0)(f5:ak e 5=.int .i64 0)(C:∀e' h',ab aK h2 h'->ak e' 1=.pointer (some ⟨U,0,none⟩)->ak e' 3=.int .i64 i->ak e' 4=.int .i64 (IntKind.i64.wrap (fF f.blocks:Int))->QQ (.exit 2) e' h'):
  aB FF (.loop iw) e h2 QQ:=by
 obtain⟨b,off,zg,pC,dj⟩:=hF;have ez:=SliceR.len hB;refine aB.loop (fun m e h3=>∃j:Nat,m=f.blocks.length-j/\j<=f.blocks.length/\ak e 1=.pointer (some ⟨U,0,none⟩)/\ak e 3=.int .i64 i/\ak e 4=.int .i64 (IntKind.i64.wrap (fF (f.blocks.take j):Int))/\ak e 5=.int .i64 j/\ab aK h2 h3) ?_ (n:=f.blocks.length)
  ⟨0,rfl,by omega,f1,f3,by rw[f4];simp[fF,wrap_i64],f5,.refl g2.ok⟩
 rintro m e h3⟨j,rfl,hj,f1,f3,f4,f5,g3⟩;have gg:=g2.trans g3;have D0:=g3.get g2.ok hU;have hr:=dj h3 gg;have gY:=(cr.mp hi).1;unfold iw;by_cases aS:j<f.blocks.length
 .have hx:f.blocks[j]?=some f.blocks[j]:=fI aS;generalize f.blocks[j]=x at hx;obtain⟨b2,ZV,c,kC,_,CJ,hc,oB2,FU⟩:=SliceR.later ok hB hx;obtain⟨P,L,T,rfl,sP,sL,sT⟩:=hc;have r0:=FU h3 gg 0 1 (by decide);have r1:=FU h3 gg 1 1 (by decide);have kj:=SliceR.len sP;have ui:=SliceR.len sL;have hle:=Ej hx;have hf:=hm.2 x (dG hx);have Tq:=hm.1;simp[-ag] at r0 r1 hr;obtain⟨j',Rm⟩:∃j',j'=j+1:=⟨_,rfl⟩;have wj:IntKind.i64.wrap ((j:Int)+1)=(j':Int):=by rw[wrap_i64 _ (by omega) (by omega)];omega
  have oU:=g3.ok.bC D0;have C0:=g3.ok.st _ _ _ _ _ D0;have w2:IntKind.i64.wrap ((fF (f.blocks.take j):Int)+(x.dQ.length:Int)+(x.list.length:Int))=IntKind.i64.wrap ((fF (f.blocks.take j'):Nat):Int):=by rw[Rm,hle];congr 1;omega
  simp[f1,f3,f4,f5,av D0,ay,zg,pC,gY,hr,ez,kC,aS,r0,r1,-ag,kj,ui,wrap_add,w2,wj];exact⟨f.blocks.length-j',by omega,j',rfl,by omega,rfl,rfl,g3.tick⟩
 .have:j=f.blocks.length:=by omega
  subst this;rw[we] at f4;simp[-ag] at hr;simp[f1,f3,f4,f5,av D0,zg,pC,gY,hr,ez,-ag];exact C _ _ g3 (by simp[f1]) (by simp[f3]) (by simp[f4])
theorem NN(ok:bm h){G F:SV}{u:GU}(hu:uR h G F u)(sm:Small u):
  aF FF oy [.agg ⟨[G.v,F.v]⟩] h (fun v h'=>ab aK h h'/\∃hv:Bool,v=.bool hv/\(hv=false->u.funcs.length<=10/\∀f∈u.funcs,Dj f)):=by
 have pC:=SliceR.len hu.2;refine aF.of vT ?_;unfold n9;simp;have g0:=aP ok [G.v,F.v] 0;refine aB.loop (fun m e h2=>∃i:Nat,m=u.funcs.length-i/\i<=u.funcs.length/\ak e 1=.pointer (some ⟨h.next,0,none⟩)/\ak e 3=.int .i64 i/\ab aK h h2/\h2.tr.get h.next=some (.aC [G.v,F.v] false 0 0)/\∀f∈u.funcs.take i,Dj f) ?_ (n:=u.funcs.length)
  ⟨0,rfl,by omega,by simp,by simp,by simpa using g0,by simp,by simp⟩
 rintro m e h2⟨i,rfl,hi,f1,f3,g2,hU,hL⟩;unfold mw;have yR:=hU;simp at yR;by_cases gY:i<u.funcs.length
 .have hx:u.funcs[i]?=some u.funcs[i]:=fI gY;have hm:=zT gY;generalize u.funcs[i]=f at hx hm;have hb:=sm.bs f hm;obtain⟨b,off,c,zg,_,_,⟨B,rfl,hB⟩,_,dj⟩:=SliceR.later ok hu.2 hx;simp[f1,f3,yR,pC,gY];refine Rl ok hx ⟨b,off,zg,pC,fun h' g=>dj h' g 3 1 (by decide)⟩ hB hb (G:=G) (U:=h.next) hU g2 (by simp[f1]) (by simp[f3]) (by simp) (by simp) ?_;intro e3 h3 g3 q1 q3 q4;have gg:=g2.trans g3;have D0:=g3.get g2.ok yR;have hr:=dj h3 gg 3 1 (by decide);have ez:=SliceR.len hB;simp[-ag] at hr;have hs:=D0;have Zg:=sm.fs;have wi:=wrap_i64 (i+1) (by omega) (by omega);have mE:¬24<f.blocks.length->¬120<fF f.blocks->∀f∈u.funcs.take (i+1),Dj f:=by
   intro h1 h2 f' hf';rw[v9,hx] at hf';rcases lE.1 hf' with h|h
   .exact hL f' h
   .simp at h;subst h;exact⟨by omega,by omega⟩
  by_cases k1:24<f.blocks.length
  .have k1':(24:Int)<f.blocks.length:=by omega
   simp[q1,q3,q4,av D0,zg,pC,gY,hr,ez,k1',-ag];exact gg
  .have k1':¬(24:Int)<f.blocks.length:=by omega
   rw[HC hb (by omega)] at q4;by_cases k2:120<fF f.blocks
   .have k2':(120:Int)<fF f.blocks:=by omega
    simp[q1,q3,q4,av D0,zg,pC,gY,hr,ez,k1',k2',-ag];exact gg
   .have k2':¬(120:Int)<fF f.blocks:=by omega
    simp[q1,q3,q4,av D0,zg,pC,gY,hr,ez,k1',k2',wi,-ag];exact⟨u.funcs.length-(i+1),by omega,i+1,rfl,by omega,by simp,gg,by rw[D0,zg,pC],mE k1 k2⟩
 .have:i=u.funcs.length:=by omega
  subst this;rw[we] at hL;by_cases k:10<u.funcs.length
  .have k':(10:Int)<u.funcs.length:=by omega
   simp[f1,f3,yR,pC,k'];exact g2
  .have k':¬(10:Int)<u.funcs.length:=by omega
   simp[f1,f3,yR,pC,k'];exact⟨g2,by omega,hL⟩
theorem Hg(ok:bm h)(G F:SV):aF FF qK [.agg ⟨[G.v,F.v]⟩] h (fun v h'=>v=.bool (decide (G.l=0)&&decide (F.l=0))/\ab aK h h'):=by
 refine aF.of yF ?_;unfold qn;have g0:=aP ok [G.v,F.v] 0;simp at g0;by_cases hG:G.l=0
 .by_cases hF:F.l=0
  .simp[hG,hF];simpa [hG,hF] using g0
  .have vf:((F.l:Int)==0)=false:=by simp;omega
   simp[hG,hF,vf];simpa [hG] using g0
 .have hG':((G.l:Int)==0)=false:=by simp;omega
  simp[hG,hG'];exact g0
def aL(gs fs:SV)(name:ByteArray)(params ai:Int)(blocks ah:SV):List Value:=[gs.v,fs.v,.string name,.int .i64 params,.int .i64 ai,blocks.v,ah.v]
def CP(ai:Int)(r:Bool)(n:Int):Int:=if r=true/\¬(0<=n/\n<=ai-1) then 3 else 0
def Ic(ai n:Int):Int:=if ¬(0<=n/\n<=ai-1) then 3 else 0
section
variable{gs fs blocks ah:SV}{name:ByteArray}{params ai:Int}
theorem wM(h:ae)(ok:bm h)(hr:0<=ai/\ai<1000000)(r:Bool)(n:Int):
  aF FF kQ [.agg ⟨aL gs fs name params ai blocks ah⟩,.agg ⟨[.bool r,.int .i64 n]⟩] h (fun v h'=>v=.int .i64 (CP ai r n)/\ab aK h h'):=by
 refine aF.of yD ?_;unfold qk;have hw:=wrap_i64 (ai-1) (by omega) (by omega);have g1:=(aP ok (aL gs fs name params ai blocks ah) 0);have g2:=g1.new [.bool r,.int .i64 n] 0;cases r with
 |false=>simp[aL,CP];simpa [aL] using g2
 |true=>
  simp[aL,hw];refine aG.call (by simpa using dD _ n 0 (ai-1)) ?_;rintro _ h'⟨rfl,he⟩;subst he;by_cases h1:0<=n
  .by_cases h2:n<=ai-1
   .simp[h1,h2,CP];simpa [aL] using g2
   .have GK:ai-1<n:=by omega
    simp[h1,h2,GK,CP];simpa [aL] using g2
  .have Iy:n<0:=by omega
   simp[h1,Iy,CP];simpa [aL] using g2
theorem DM(h:ae)(ok:bm h)(hr:0<=ai/\ai<1000000)(n:Int):
  aF FF qH [.agg ⟨aL gs fs name params ai blocks ah⟩,.int .i64 n] h (fun v h'=>v=.int .i64 (Ic ai n)/\ab aK h h'):=by
 refine aF.of yz ?_;unfold qf;have hw:=wrap_i64 (ai-1) (by omega) (by omega);have g1:=(aP ok (aL gs fs name params ai blocks ah) 0);simp[aL,hw];refine aG.call (by simpa using dD _ n 0 (ai-1)) ?_;rintro _ h'⟨rfl,he⟩;subst he;by_cases h1:0<=n
 .by_cases h2:n<=ai-1
  .simp[h1,h2,Ic];simpa [aL] using g1
  .have GK:ai-1<n:=by omega
   simp[h1,h2,GK,Ic];simpa [aL] using g1
 .have Iy:n<0:=by omega
  simp[h1,Iy,Ic];simpa [aL] using g1
theorem RB(ok:bm h)(hr:0<=ai/\ai<1000000){args:SV}(hC:h.tr.get C=some (.aC (aL gs fs name params ai blocks ah) false 0 s1))(hX:h.tr.get X=some (.aC (aI op dst ar an br bn fn args.v) false 0 s2)):
  aF FF fT [.pointer (some ⟨C,0,none⟩),.pointer (some ⟨X,0,none⟩)] h (fun v h'=>v=.int .i64 (CP ai ar an)/\ab aK h h'):=by
 refine aF.of vO ?_;unfold nQ;simp[hC,hX,aL,aI];refine aG.call (by simpa [aL] using wM (gs:=gs) (fs:=fs) (name:=name) (params:=params) (blocks:=blocks) (ah:=ah) h ok hr ar an) ?_;rintro _ h'⟨rfl,g⟩;simp;exact g
theorem RC(ok:bm h)(hr:0<=ai/\ai<1000000){args:SV}(hC:h.tr.get C=some (.aC (aL gs fs name params ai blocks ah) false 0 s1))(hX:h.tr.get X=some (.aC (aI op dst ar an br bn fn args.v) false 0 s2)):
  aF FF fU [.pointer (some ⟨C,0,none⟩),.pointer (some ⟨X,0,none⟩)] h (fun v h'=>v=.int .i64 (CP ai br bn)/\ab aK h h'):=by
 refine aF.of vP ?_;unfold nS;simp[hC,hX,aL,aI];refine aG.call (by simpa [aL] using wM (gs:=gs) (fs:=fs) (name:=name) (params:=params) (blocks:=blocks) (ah:=ah) h ok hr br bn) ?_;rintro _ h'⟨rfl,g⟩;simp;exact g
end
def ways:List Value:=[.int .i64 0,.int .i64 0,.int .i64 1,.int .i64 2]
def CA(h:ae):Prop:=∃ro o s,h.tr.get 0=some (.aC ways ro o s)
theorem CA.grow{h h':ae}(w:CA h)(ok:bm h)(g:ab aK h h'):CA h':=by obtain⟨ro,o,s,hw⟩:=w;exact⟨ro,o,s,g.get ok hw⟩
theorem Ec(ok:bm h){T:SV}(hT:SliceR nR 1 h T.v ns)(hl:ns.length<140737488355329)(p:Int->Bool)(H:∀h1 n,ab aK h h1->c_ FF f [.int .i64 n] h1 (fun v h'=>v=.bool (p n)/\ab aK h1 h')):
  aF FF jv [T.v,f] h (fun v h'=>ab aK h h'/\∃i:Int,v=.int .i64 i/\(0<=i↔ ∃n∈ns,p n=true)):=by
 have xZ:=SliceR.len hT;refine aF.of qx ?_;unfold jc;simp;refine aB.loop (fun m e h2=>∃j:Nat,m=ns.length-j/\j<=ns.length/\ak e 0=T.v/\ak e 1=f/\ak e 7=.int .i64 ns.length/\ak e 8=.int .i64 j/\ab aK h h2/\∀n∈ns.take j,p n=false) ?_ (n:=ns.length)
  ⟨0,rfl,by omega,by simp,by simp,by simp[xZ],by simp,.refl ok,by simp⟩
 rintro m e h2⟨j,rfl,hj,f0,f1,f7,f8,g2,hp⟩;unfold iF;by_cases aS:j<ns.length
 .have hx:ns[j]?=some ns[j]:=fI aS;have hm:=zT aS;generalize ns[j]=n at hx hm;obtain⟨b,off,c,Fj,_,_,rfl,_,dj⟩:=SliceR.later ok hT hx;have r0:=dj h2 g2 0 1 (by decide);simp[-ag] at r0;have wj:=wrap_i64 (j+1) (by omega) (by omega);simp at f0;simp[f0,f1,f7,f8,Fj,xZ,aS,r0,-ag];refine aG.cU (by simpa [f1] using H h2 n g2) ?_;rintro _ h3⟨rfl,g3⟩;cases N1:p n with
  |true=>
   simp;exact⟨g2.trans g3,n,hm,N1⟩
  |false=>
   simp[f0,f1,f7,f8,wj];refine⟨ns.length-(j+1),by omega,j+1,rfl,by omega,⟨Fj,xZ⟩,by simp,g2.trans g3,?_⟩;intro n' Tu;rw[v9,hx] at Tu;rcases lE.1 Tu with h|h
   .exact hp n' h
   .simp at h;rw[h];exact N1
 .have:j=ns.length:=by omega
  subst this;rw[we] at hp;simp[f7,f8];exact⟨g2,fun n hn=>hp n hn⟩
theorem zM(ok:bm h){T:SV}(hT:SliceR nR 1 h T.v ns)(hl:ns.length<140737488355329)(p:Int->Bool)(H:∀h1 n,ab aK h h1->c_ FF f [.int .i64 n] h1 (fun v h'=>v=.bool (p n)/\ab aK h1 h')):
  aF FF eA [T.v,f] h (fun v h'=>v=.bool (ns.any p)/\ab aK h h'):=by
 refine aF.of oh ?_;unfold hH;simp;refine aG.call (V:=fun v h'=>ab aK h h'/\∃i:Int,v=.int .i64 i/\(0<=i↔ ∃n∈ns,p n=true)) (by simpa using Ec ok hT hl p H) ?_;rintro _ h2⟨g2,i,rfl,hi⟩;have e:ns.any p=decide (0<=i):=by rw[Bool.eq_iff_iff];simp[hi]
 by_cases h0:0<=i
 .simp[h0,e];exact g2
 .have h0':i<0:=by omega
  simp[h0,h0',e];exact g2
section
variable{gs fs blocks ah:SV}{name:ByteArray}{params ai:Int}
def aaq(n:Nat)(t:Int):Prop:=1<=t/\t<=(n:Int)-1
theorem Q5(ok:bm h)(vh:blocks.l<1000000)(hC:h.tr.get C=some (.aC (aL gs fs name params ai blocks ah) false 0 s1))(t:Int):
  aF FF jt [.int .i64 t,.pointer (some ⟨C,0,none⟩)] h (fun v h'=>v=.bool (!(decide (1<=t)&&decide (t<=(blocks.l:Int)-1)))/\ab aK h h'):=by
 have w1:=wrap_i64 ((blocks.l:Int)-1) (by omega) (by omega);refine aF.of vN ?_;unfold nO;simp[hC,aL,w1];refine aG.call (by simpa using dD h t 1 ((blocks.l:Int)-1)) ?_;rintro _ h2⟨rfl,rfl⟩;simp;exact .refl ok
structure JK(n:Nat)(ai:Int)(b:GB):Prop where
 kind:(b.kind=1/\b.to=[])\/(b.kind=2/\∃t,b.to=[t])\/(b.kind=3/\∃t u,b.to=[t,u]/\t≠u)
 to:∀t∈b.to,aaq n t
 on:b.on.1=true->0<=b.on.2/\b.on.2<=ai-1
def Bb(n:Nat)(ts:List Int):Bool:=ts.any fun t=> !(decide (1<=t)&&decide (t<=(n:Int)-1))
theorem Gl{n:Nat}{ts:List Int}(h:Bb n ts=false):∀t∈ts,aaq n t:=by intro t ht;unfold Bb at h;rw[List.any_eq_false] at h;have:=h t ht;simp at this;exact this
theorem xq{r:Bool}(h:CP ai r n=0):r=true->0<=n/\n<=ai-1:=by
 intro hr;unfold CP at h;split at h
 .cases h
 .rename_i hn;by_cases hh:0<=n/\n<=ai-1
  .exact hh
  .exact absurd ⟨hr,hh⟩ hn
theorem UD(ok:bm h)(hw:CA h)(hr:0<=ai/\ai<1000000)(vh:blocks.l<1000000){b:GB}(bY:b.to.length<140737488355329){T:SV}(hT:SliceR nR 1 h T.v b.to):
  aF FF kN [.agg ⟨aL gs fs name params ai blocks ah⟩,.agg ⟨[.int .i64 b.kind,.bool b.on.1,.int .i64 b.on.2,T.v]⟩] h (fun v h'=>ab aK h h'/\∃c:Int,v=.int .i64 c/\(c=0->JK blocks.l ai b)):=by
 obtain⟨ph,li,kind,⟨r,n⟩,to⟩:=b;simp only at hT bY⊢;obtain⟨ro,o,s,Tz⟩:=hw;have h0:0<h.next:=ok.wf _ _ Tz;have xZ:=SliceR.len hT;refine aF.of yA ?_;unfold qg;simp[aL];refine aG.cut (fun h2=>ab aK h h2/\h2.tr.get h.next=some (.aC (aL gs fs name params ai blocks ah) false 0 0)/\h2.tr.get (h.next+1)=some (.aC [.int .i64 kind,.bool r,.int .i64 n,T.v] false 0 0)) ?_ ?_
 .exact⟨((ab.refl ok).new _ _).new _ _,by simp[aL],by simp⟩
 rintro h2⟨g2,vv,dX⟩;have XW:=g2.get ok Tz;simp[ways] at XW;refine aG.call (by simpa using dD h2 kind 1 3) ?_;rintro _ GK⟨rfl,he⟩;rw[he];have wg:=vv;simp[aL] at wg;simp at dX;by_cases hk:1<=kind/\kind<=3
 .have wV:(decide (1<=kind)&&decide (kind<=3))=true:=by simpa using hk
  have mD:∀h1,ab aK h2 h1->aF FF eA [T.v,.func (.func jt) #[] #[.pointer (some ⟨h.next,0,none⟩)]] h1 (fun v h'=>v=.bool (Bb blocks.l to)/\ab aK h1 h'):=by intro h1 g1;refine zM g1.ok (hT.mono ok (g2.trans g1) fun _ _ h=>h) bY _ fun h3 n g3=>?_;refine c_.func ?_;have:=Q5 g3.ok vh (g3.get g1.ok (g1.get g2.ok vv (fun h=>h))) n;simpa using this
  have KN:∀h1,ab aK h2 h1->aF FF kQ [.agg ⟨aL gs fs name params ai blocks ah⟩,.agg ⟨[.bool r,.int .i64 n]⟩] h1 (fun v h'=>v=.int .i64 (CP ai r n)/\ab aK h1 h'):=fun h1 g1=>wM h1 g1.ok hr r n;have Bj:kind=1\/kind=2\/kind=3:=by omega
  rcases Bj with rfl|rfl|rfl
  .by_cases hl:to.length=0
   .have adr:to=[]:=List.length_eq_zero_iff.1 hl;subst adr;have KE:T.l=0:=xZ;rw[KE] at dX;simp[dX,XW];refine aG.call (by simpa [KE] using mD (tick h2) (bh g2.ok)) ?_;rintro _ h3⟨rfl,g3⟩;have di:=(bh g2.ok).trans g3;have fe:=di.get g2.ok dX;have Mx:=di.get g2.ok wg;simp[Bb,fe,Mx];refine aG.call (by simpa [aL] using KN (tick h3) (di.trans (bh di.ok))) ?_;rintro _ h4⟨rfl,g4⟩;simp;exact⟨((g2.trans di).trans (bh di.ok)).trans g4,fun h=>⟨.inl ⟨rfl,rfl⟩,by simp,xq h⟩⟩
   .have FT:((T.l:Int) !=0)=true:=by simp;omega
    simp[dX,XW,FT];exact g2.tick
  .by_cases hl:to.length=1
   .obtain⟨t,rfl⟩:∃t,to=[t]:=List.length_eq_one_iff.1 hl;have KE:T.l=1:=xZ;rw[KE] at dX;simp[dX,XW];refine aG.call (by simpa [KE] using mD (tick h2) (bh g2.ok)) ?_;rintro _ h3⟨rfl,g3⟩;have di:=(bh g2.ok).trans g3;have fe:=di.get g2.ok dX;have Mx:=di.get g2.ok wg;cases acV:Bb blocks.l [t] with
    |true=>
     simp;exact g2.trans di
    |false=>
     by_cases hz:r=false/\n=0
     .obtain⟨rfl,rfl⟩:=hz;simp[fe,Mx];refine aG.call (by simpa [aL] using KN (tick h3) (di.trans (bh di.ok))) ?_;rintro _ h4⟨rfl,g4⟩;simp;exact⟨((g2.trans di).trans (bh di.ok)).trans g4,fun _=>⟨.inr (.inl ⟨rfl,t,rfl⟩),Gl acV,fun h=>by cases h⟩⟩
     .have TD:(r|| !(n==0))=true:=by
       cases r
       .simp at hz⊢;exact hz
       .rfl
      simp[fe,Mx,TD];exact(g2.trans di).tick
   .have FT:((T.l:Int) !=1)=true:=by simp;omega
    simp[dX,XW,FT];exact g2.tick
  .by_cases hl:to.length=2
   .obtain⟨t,u,rfl⟩:∃t u,to=[t,u]:=by
     match to,hl with
     |[t,u],_=>exact⟨t,u,rfl⟩
    have KE:T.l=2:=xZ;rw[KE] at dX;obtain⟨b0,off0,c0,Fj,_,_,rfl,_,apy⟩:=SliceR.later ok hT (i:=0) (x:=t) rfl;obtain⟨b1,Sb,c1,aho,_,_,rfl,_,Bn⟩:=SliceR.later ok hT (i:=1) (x:=u) rfl;rw[Fj] at aho dX;cases aho;simp[dX,XW];refine aG.call (by simpa [KE,Fj] using mD (tick h2) (bh g2.ok)) ?_;rintro _ h3⟨rfl,g3⟩;have di:=(bh g2.ok).trans g3;have fe:=di.get g2.ok dX;have Mx:=di.get g2.ok wg;have r0:=apy h3 (g2.trans di) 0 1 (by decide);have r1:=Bn h3 (g2.trans di) 0 1 (by decide);simp[-ag] at r0 r1;cases acV:Bb blocks.l [t,u] with
    |true=>
     simp;exact g2.trans di
    |false=>
     by_cases htu:t=u
     .subst htu;simp[ay,av fe,r0,r1,-ag];exact(g2.trans di).tick
     .have apO:(t==u)=false:=by simpa using htu
      simp[ay,av fe,av Mx,r0,r1,apO,-ag];refine aG.call (by simpa [aL] using KN (tick h3) (di.trans (bh di.ok))) ?_;rintro _ h4⟨rfl,g4⟩;simp;exact⟨((g2.trans di).trans (bh di.ok)).trans g4,fun h=>⟨.inr (.inr ⟨rfl,t,u,rfl,htu⟩),Gl acV,xq h⟩⟩
   .have FT:((T.l:Int) !=2)=true:=by simp;omega
    simp[dX,XW,FT];exact g2.tick
 .have wV:(decide (1<=kind)&&decide (kind<=3))=false:=by simpa using hk
  simp[wV];exact g2
end
def Yo(h:ae)(c:List Value)(l:List Int):Prop:=∃S:SV,c=[S.v]/\SliceR nR 1 h S.v l
theorem Yo.mono{h h':ae}(ok:bm h)(g:ab aK h h'){c:List Value}{x:List Int}(r:Yo h c x):Yo h' c x:=by obtain⟨A,e,s⟩:=r;exact⟨A,e,s.mono ok g fun _ _ h=>h⟩
def r8(ai:Int)(v:Bool×Int):Prop:=v.1=true->0<=v.2/\v.2<=ai-1
def u9(ai:Int)(n:Int):Prop:=0<=n/\n<=ai-1
theorem Ie(h:Ic ai n=0):u9 ai n:=by
 unfold Ic at h;split at h
 .cases h
 .rename_i hn;unfold u9;omega
def nM(ai:Int)(l:List (Bool×Int)):Prop:=∀v∈l,r8 ai v
theorem nM.nil(ai:Int):nM ai []:=fun _ h=>by simp at h
theorem nM.take{ai:Int}{l:List (Bool×Int)}{j:Nat}{v:Bool×Int}(h:nM ai (l.take j))(hx:l[j]?=some v)(hv:r8 ai v):nM ai (l.take (j+1)):=by
 intro n hn;rw[v9,hx] at hn;rcases lE.1 hn with h1|h1
 .exact h n h1
 .simp at h1;rw[h1];exact hv
theorem qP(h:¬a=b):(a !=b)=true:=by simpa using h
structure Gf(ai:Int)(n:Nat)(p:GP):Prop where
 dst:u9 ai p.dst
 len:p.row.length=n
 row:nM ai p.row
section
variable{gs fs blocks ah:SV}{name:ByteArray}{params ai:Int}
theorem WV(ok:bm h)(hr:0<=ai/\ai<1000000){kV:List (List Int)}(hA:SliceR (Yo h) 1 h ah.v kV){l:List Int}(hi:kV[i]?=some l){p:GP}(bY:p.row.length<140737488355329){W:SV}(hW:SliceR vR 2 h W.v p.row):
  aF FF kO [.agg ⟨aL gs fs name params ai blocks ah⟩,.int .i64 i,.agg ⟨[.int .i64 p.dst,W.v]⟩] h (fun v h'=>ab aK h h'/\∃c:Int,v=.int .i64 c/\(c=0->i≠0/\Gf ai l.length p)):=by
 have FP:=SliceR.len hW;have B1:=SliceR.len hA;refine aF.of yC ?_;unfold qi;by_cases h0:i=0
 .subst h0;simp[aL];exact((ab.refl ok).new _ _).new _ _
 have h0':((i:Int)==0)=false:=by simp;omega
 obtain⟨ba,offa,ca,Tk,gY,_,⟨S,rfl,hS⟩,oA,hrdA⟩:=SliceR.later ok hA hi;have hSl:=SliceR.len hS;simp[aL,h0',h0];refine aG.cut (fun h2=>ab aK h h2/\h2.tr.get h.next=some (.aC (aL gs fs name params ai blocks ah) false 0 0)/\h2.tr.get (h.next+1)=some (.aC [.int .i64 p.dst,W.v] false 0 0)) ?_ ?_
 .exact⟨((ab.refl ok).new _ _).new _ _,by simp[aL],by simp⟩
 rintro h2⟨g2,vv,dX⟩;refine aG.call (by simpa [aL] using DM (gs:=gs) (fs:=fs) (name:=name) (params:=params) (blocks:=blocks) (ah:=ah) h2 g2.ok hr p.dst) ?_;rintro _ h3⟨rfl,g3⟩;have di:=g2.trans g3;have Mx:=g3.get g2.ok vv;have fe:=g3.get g2.ok dX;by_cases hd:Ic ai p.dst=0
 .have rA:=hrdA h3 di 0 1 (by decide);simp[-ag] at rA;simp[aL] at Mx;simp at fe;by_cases JF:p.row.length=l.length
  .have e1:((W.l:Int) !=(S.l:Int))=false:=by simp;omega
   simp[hd,ay,av fe,av Mx,Tk,B1,gY,rA,e1,-ag];refine aB.loop (fun m e h4=>∃j:Nat,m=p.row.length-j/\j<=p.row.length/\ak e 3=.pointer (some ⟨h.next,0,none⟩)/\ak e 31=W.v/\ak e 32=.int .i64 p.row.length/\ak e 33=.int .i64 j/\ab aK h3 h4/\nM ai (p.row.take j)) ?_ (n:=p.row.length)
    ⟨0,rfl,by omega,by simp,by simp,by simp[FP],by simp,bh di.ok,.nil _⟩
   rintro m e h4⟨j,rfl,hj,f3,f31,f32,f33,g4,hv⟩;have me:=di.trans g4;have UZ:=g4.get di.ok Mx;unfold oH;by_cases aS:j<p.row.length
   .have hx:p.row[j]?=some p.row[j]:=fI aS;generalize p.row[j]=v at hx;obtain⟨b,off,c,hWa,_,_,rfl,oW,dj⟩:=SliceR.later ok hW hx;have r0:=dj h4 me 0 2 (by decide);simp[-ag] at r0;have wj:=wrap_i64 (j+1) (by omega) (by omega);have oC4:=me.ok.bC UZ;simp at f31;simp[f3,f31,f32,f33,hWa,FP,aS,r0,av UZ,au,aX,aN,oC4,-ag];refine aG.cut (fun h5=>ab aK h4 h5) ?_ ?_
    .exact((ab.refl me.ok).new _ _).put ⟨0,by simp⟩ (.inl (dw _))
    rintro h5 g5;have oS:=me.trans g5;refine aG.call (by simpa [aL] using wM (gs:=gs) (fs:=fs) (name:=name) (params:=params) (blocks:=blocks) (ah:=ah) h5 oS.ok hr v.1 v.2) ?_;rintro _ h6⟨rfl,g6⟩;by_cases x5:CP ai v.1 v.2=0
    .simp[f3,f31,f32,f33,x5,wj];refine⟨p.row.length-(j+1),by omega,j+1,rfl,by omega,⟨hWa,FP⟩,by simp,(g4.trans g5).trans g6,hv.take hx (xq x5)⟩
    .have:=qP x5;simp[this];exact⟨oS.trans g6,fun h=>absurd h x5⟩
   .have:j=p.row.length:=by omega
    subst this;rw[we] at hv;simp[f32,f33];exact⟨me,⟨Ie hd,JF,hv⟩⟩
  .have e1:((W.l:Int) !=(S.l:Int))=true:=by simp;omega
   simp[hd,ay,av fe,av Mx,Tk,B1,gY,rA,e1,-ag];exact di.tick
 .have:=qP hd;simp[this];exact⟨di,fun h=>absurd h hd⟩
end
def bk(s:Bool×Bool×Bool)(x:GI)(n:Nat):Bool:=
 (!s.1&&x.dst != -1)||((!s.2.1&& !(!x.a.1&&x.a.2==0))||((!s.2.2&& !(!x.b.1&&x.b.2==0))||(!(x.op==20)&&(x.fn !=0||decide (0<n)))))
theorem ZE{s:Bool×Bool×Bool}{x:GI}{A:SV}{R:Env->ae->Prop}(hX:h.tr.get X=some (.aC (aI x.op x.dst x.a.1 x.a.2 x.b.1 x.b.2 x.fn A.v) false 0 s1))(hS:h.tr.get S=some (.aC [.bool s.1,.bool s.2.1,.bool s.2.2] false 0 s2))(hK:h.tr.get K=some (.aC [.bool (x.op==20)] false 0 s3))(f3:ak e 3=.pointer (some ⟨X,0,none⟩))(f5:ak e 5=.pointer (some ⟨S,0,none⟩))(f6:ak e 6=.pointer (some ⟨K,0,none⟩))(H:∀e',ak e' 2=ak e 2->ak e' 3=ak e 3->ak e' 5=ak e 5->ak e' 6=ak e 6->ak e' 62=.bool (bk s x A.l)->R e' h):aG FF Ob e h R:=by
 obtain⟨op,dst,⟨ar,an⟩,⟨br,bn⟩,fn,args⟩:=x;obtain⟨sd,sa,sb⟩:=s;simp[aI] at hX hS hK;unfold Ob;cases sd with
 |true=>
  cases sa with
  |true=>
   cases sb with
   |true=>
    cases hc:(op==20) with
    |true=>
     simp[f3,f5,f6,hX,hS,hK,bne,hc];refine H _ ?_ ?_ ?_ ?_ ?_<;>simp[bk,f3,f5,f6,bne,hc]
    |false=>
     cases hf:(fn==0) with
     |true=>
      simp[f3,f5,f6,hX,hS,hK,bne,hc,hf];refine H _ ?_ ?_ ?_ ?_ ?_<;>simp[bk,f3,f5,f6,bne,hc,hf]
     |false=>
      simp[f3,f5,f6,hX,hS,hK,bne,hc,hf];refine H _ ?_ ?_ ?_ ?_ ?_<;>simp[bk,f3,f5,f6,bne,hc,hf]
   |false=>
    cases br with
    |true=>
     simp[f3,f5,f6,hX,hS,hK,bne];refine H _ ?_ ?_ ?_ ?_ ?_<;>simp[bk,f3,f5,f6,bne]
    |false=>
     cases hb:(bn==0) with
     |false=>
      simp[f3,f5,f6,hX,hS,hK,bne,hb];refine H _ ?_ ?_ ?_ ?_ ?_<;>simp[bk,f3,f5,f6,bne,hb]
     |true=>
      cases hc:(op==20) with
      |true=>
       simp[f3,f5,f6,hX,hS,hK,bne,hb,hc];refine H _ ?_ ?_ ?_ ?_ ?_<;>simp[bk,f3,f5,f6,bne,hb,hc]
      |false=>
       cases hf:(fn==0) with
       |true=>
        simp[f3,f5,f6,hX,hS,hK,bne,hb,hc,hf];refine H _ ?_ ?_ ?_ ?_ ?_<;>simp[bk,f3,f5,f6,bne,hb,hc,hf]
       |false=>
        simp[f3,f5,f6,hX,hS,hK,bne,hb,hc,hf];refine H _ ?_ ?_ ?_ ?_ ?_<;>simp[bk,f3,f5,f6,bne,hb,hc,hf]
  |false=>
   cases sb with
   |true=>
    cases ar with
    |true=>
     simp[f3,f5,f6,hX,hS,hK,bne];refine H _ ?_ ?_ ?_ ?_ ?_<;>simp[bk,f3,f5,f6,bne]
    |false=>
     cases ha:(an==0) with
     |false=>
      simp[f3,f5,f6,hX,hS,hK,bne,ha];refine H _ ?_ ?_ ?_ ?_ ?_<;>simp[bk,f3,f5,f6,bne,ha]
     |true=>
      cases hc:(op==20) with
      |true=>
       simp[f3,f5,f6,hX,hS,hK,bne,ha,hc];refine H _ ?_ ?_ ?_ ?_ ?_<;>simp[bk,f3,f5,f6,bne,ha,hc]
      |false=>
       cases hf:(fn==0) with
       |true=>
        simp[f3,f5,f6,hX,hS,hK,bne,ha,hc,hf];refine H _ ?_ ?_ ?_ ?_ ?_<;>simp[bk,f3,f5,f6,bne,ha,hc,hf]
       |false=>
        simp[f3,f5,f6,hX,hS,hK,bne,ha,hc,hf];refine H _ ?_ ?_ ?_ ?_ ?_<;>simp[bk,f3,f5,f6,bne,ha,hc,hf]
   |false=>
    cases ar with
    |true=>
     simp[f3,f5,f6,hX,hS,hK,bne];refine H _ ?_ ?_ ?_ ?_ ?_<;>simp[bk,f3,f5,f6,bne]
    |false=>
     cases ha:(an==0) with
     |false=>
      simp[f3,f5,f6,hX,hS,hK,bne,ha];refine H _ ?_ ?_ ?_ ?_ ?_<;>simp[bk,f3,f5,f6,bne,ha]
     |true=>
      cases br with
      |true=>
       simp[f3,f5,f6,hX,hS,hK,bne,ha];refine H _ ?_ ?_ ?_ ?_ ?_<;>simp[bk,f3,f5,f6,bne,ha]
      |false=>
       cases hb:(bn==0) with
       |false=>
        simp[f3,f5,f6,hX,hS,hK,bne,ha,hb];refine H _ ?_ ?_ ?_ ?_ ?_<;>simp[bk,f3,f5,f6,bne,ha,hb]
       |true=>
        cases hc:(op==20) with
        |true=>
         simp[f3,f5,f6,hX,hS,hK,bne,ha,hb,hc];refine H _ ?_ ?_ ?_ ?_ ?_<;>simp[bk,f3,f5,f6,bne,ha,hb,hc]
        |false=>
         cases hf:(fn==0) with
         |true=>
          simp[f3,f5,f6,hX,hS,hK,bne,ha,hb,hc,hf];refine H _ ?_ ?_ ?_ ?_ ?_<;>simp[bk,f3,f5,f6,bne,ha,hb,hc,hf]
         |false=>
          simp[f3,f5,f6,hX,hS,hK,bne,ha,hb,hc,hf];refine H _ ?_ ?_ ?_ ?_ ?_<;>simp[bk,f3,f5,f6,bne,ha,hb,hc,hf]
 |false=>
  cases sa with
  |true=>
   cases sb with
   |true=>
    cases hd:(dst== -1) with
    |false=>
     simp[f3,f5,f6,hX,hS,hK,bne,hd];refine H _ ?_ ?_ ?_ ?_ ?_<;>simp[bk,f3,f5,f6,bne,hd]
    |true=>
     cases hc:(op==20) with
     |true=>
      simp[f3,f5,f6,hX,hS,hK,bne,hd,hc];refine H _ ?_ ?_ ?_ ?_ ?_<;>simp[bk,f3,f5,f6,bne,hd,hc]
     |false=>
      cases hf:(fn==0) with
      |true=>
       simp[f3,f5,f6,hX,hS,hK,bne,hd,hc,hf];refine H _ ?_ ?_ ?_ ?_ ?_<;>simp[bk,f3,f5,f6,bne,hd,hc,hf]
      |false=>
       simp[f3,f5,f6,hX,hS,hK,bne,hd,hc,hf];refine H _ ?_ ?_ ?_ ?_ ?_<;>simp[bk,f3,f5,f6,bne,hd,hc,hf]
   |false=>
    cases hd:(dst== -1) with
    |false=>
     simp[f3,f5,f6,hX,hS,hK,bne,hd];refine H _ ?_ ?_ ?_ ?_ ?_<;>simp[bk,f3,f5,f6,bne,hd]
    |true=>
     cases br with
     |true=>
      simp[f3,f5,f6,hX,hS,hK,bne,hd];refine H _ ?_ ?_ ?_ ?_ ?_<;>simp[bk,f3,f5,f6,bne,hd]
     |false=>
      cases hb:(bn==0) with
      |false=>
       simp[f3,f5,f6,hX,hS,hK,bne,hd,hb];refine H _ ?_ ?_ ?_ ?_ ?_<;>simp[bk,f3,f5,f6,bne,hd,hb]
      |true=>
       cases hc:(op==20) with
       |true=>
        simp[f3,f5,f6,hX,hS,hK,bne,hd,hb,hc];refine H _ ?_ ?_ ?_ ?_ ?_<;>simp[bk,f3,f5,f6,bne,hd,hb,hc]
       |false=>
        cases hf:(fn==0) with
        |true=>
         simp[f3,f5,f6,hX,hS,hK,bne,hd,hb,hc,hf];refine H _ ?_ ?_ ?_ ?_ ?_<;>simp[bk,f3,f5,f6,bne,hd,hb,hc,hf]
        |false=>
         simp[f3,f5,f6,hX,hS,hK,bne,hd,hb,hc,hf];refine H _ ?_ ?_ ?_ ?_ ?_<;>simp[bk,f3,f5,f6,bne,hd,hb,hc,hf]
  |false=>
   cases sb with
   |true=>
    cases hd:(dst== -1) with
    |false=>
     simp[f3,f5,f6,hX,hS,hK,bne,hd];refine H _ ?_ ?_ ?_ ?_ ?_<;>simp[bk,f3,f5,f6,bne,hd]
    |true=>
     cases ar with
     |true=>
      simp[f3,f5,f6,hX,hS,hK,bne,hd];refine H _ ?_ ?_ ?_ ?_ ?_<;>simp[bk,f3,f5,f6,bne,hd]
     |false=>
      cases ha:(an==0) with
      |false=>
       simp[f3,f5,f6,hX,hS,hK,bne,hd,ha];refine H _ ?_ ?_ ?_ ?_ ?_<;>simp[bk,f3,f5,f6,bne,hd,ha]
      |true=>
       cases hc:(op==20) with
       |true=>
        simp[f3,f5,f6,hX,hS,hK,bne,hd,ha,hc];refine H _ ?_ ?_ ?_ ?_ ?_<;>simp[bk,f3,f5,f6,bne,hd,ha,hc]
       |false=>
        cases hf:(fn==0) with
        |true=>
         simp[f3,f5,f6,hX,hS,hK,bne,hd,ha,hc,hf];refine H _ ?_ ?_ ?_ ?_ ?_<;>simp[bk,f3,f5,f6,bne,hd,ha,hc,hf]
        |false=>
         simp[f3,f5,f6,hX,hS,hK,bne,hd,ha,hc,hf];refine H _ ?_ ?_ ?_ ?_ ?_<;>simp[bk,f3,f5,f6,bne,hd,ha,hc,hf]
   |false=>
    cases hd:(dst== -1) with
    |false=>
     simp[f3,f5,f6,hX,hS,hK,bne,hd];refine H _ ?_ ?_ ?_ ?_ ?_<;>simp[bk,f3,f5,f6,bne,hd]
    |true=>
     cases ar with
     |true=>
      simp[f3,f5,f6,hX,hS,hK,bne,hd];refine H _ ?_ ?_ ?_ ?_ ?_<;>simp[bk,f3,f5,f6,bne,hd]
     |false=>
      cases ha:(an==0) with
      |false=>
       simp[f3,f5,f6,hX,hS,hK,bne,hd,ha];refine H _ ?_ ?_ ?_ ?_ ?_<;>simp[bk,f3,f5,f6,bne,hd,ha]
      |true=>
       cases br with
       |true=>
        simp[f3,f5,f6,hX,hS,hK,bne,hd,ha];refine H _ ?_ ?_ ?_ ?_ ?_<;>simp[bk,f3,f5,f6,bne,hd,ha]
       |false=>
        cases hb:(bn==0) with
        |false=>
         simp[f3,f5,f6,hX,hS,hK,bne,hd,ha,hb];refine H _ ?_ ?_ ?_ ?_ ?_<;>simp[bk,f3,f5,f6,bne,hd,ha,hb]
        |true=>
         cases hc:(op==20) with
         |true=>
          simp[f3,f5,f6,hX,hS,hK,bne,hd,ha,hb,hc];refine H _ ?_ ?_ ?_ ?_ ?_<;>simp[bk,f3,f5,f6,bne,hd,ha,hb,hc]
         |false=>
          cases hf:(fn==0) with
          |true=>
           simp[f3,f5,f6,hX,hS,hK,bne,hd,ha,hb,hc,hf];refine H _ ?_ ?_ ?_ ?_ ?_<;>simp[bk,f3,f5,f6,bne,hd,ha,hb,hc,hf]
          |false=>
           simp[f3,f5,f6,hX,hS,hK,bne,hd,ha,hb,hc,hf];refine H _ ?_ ?_ ?_ ?_ ?_<;>simp[bk,f3,f5,f6,bne,hd,ha,hb,hc,hf]
section
variable{gs fs blocks ah:SV}{name:ByteArray}{params ai:Int}
def tJ(P:Int->Prop)(h:ae)(v:Value)(h':ae):Prop:=ab aK h h'/\∃c:Int,v=.int .i64 c/\P c
theorem YS(ok:bm h){b s:Nat}{f1 f2 f3:Value}{P1 P2 P3:Int->Prop}(hb:h.tr.get b=some (.aC [f1,f2,f3] false 0 s))(H1:∀h1,ab aK h h1->c_ FF f1 [] h1 (tJ P1 h1))(H2:∀h1,ab aK h h1->c_ FF f2 [] h1 (tJ P2 h1))(H3:∀h1,ab aK h h1->c_ FF f3 [] h1 (tJ P3 h1)):
  aF FF uN [.slice (some ⟨b,0,none⟩) 3 3] h (tJ (fun c=>c=0->P1 0/\P2 0/\P3 0) h):=by
 refine aF.of HM ?_;unfold zt;simp;have w1:IntKind.i64.wrap (0+1)=1:=wrap_i64 _ (by omega) (by omega);have w1':IntKind.i64.wrap 1=1:=wrap_i64 _ (by omega) (by omega);have w2:IntKind.i64.wrap (1+1)=2:=wrap_i64 _ (by omega) (by omega);have w2':IntKind.i64.wrap 2=2:=wrap_i64 _ (by omega) (by omega);have w3:IntKind.i64.wrap (2+1)=3:=wrap_i64 _ (by omega) (by omega);have w3':IntKind.i64.wrap 3=3:=wrap_i64 _ (by omega) (by omega);refine aB.loop (fun n e h1=>∃i:Nat,n=3-i/\i<=3/\ak e 8=.int .i64 (i:Nat)/\ak e 7=.int .i64 3/\ak e 6=.slice (some ⟨b,0,none⟩) 3 3/\(0<i->P1 0)/\(1<i->P2 0)/\(2<i->P3 0)/\ab aK h h1) ?_ (n:=3)
  ⟨0,rfl,by omega,by simp,by simp,by simp,by simp,by simp,by simp,.refl ok⟩
 rintro n e h1⟨i,rfl,hi,f8,f7,f6,p1,p2,p3,g⟩;have D1:=g.get ok hb;unfold wG;rcases(show i=0\/i=1\/i=2\/i=3 by omega) with rfl|rfl|rfl|rfl
 .simp[f8,f7,f6,D1];refine aG.cU (V:=tJ P1 h1) (by simpa using H1 h1 g) ?_;rintro _ h2⟨g2,c,rfl,hc⟩;by_cases he:c=0
  .subst he;simp[f8,f7,f6,w1,w1'];exact⟨2,by omega,1,rfl,by omega,rfl,fun _=>hc,by omega,by omega,g.trans g2⟩
  .have:=qP he;simp[this];exact⟨g.trans g2,c,rfl,fun h=>absurd h he⟩
 .simp[f8,f7,f6,D1];refine aG.cU (V:=tJ P2 h1) (by simpa using H2 h1 g) ?_;rintro _ h2⟨g2,c,rfl,hc⟩;by_cases he:c=0
  .subst he;simp[f8,f7,f6,w2,w2'];exact⟨1,by omega,2,rfl,by omega,rfl,fun _=>p1 (by omega),fun _=>hc,by omega,g.trans g2⟩
  .have:=qP he;simp[this];exact⟨g.trans g2,c,rfl,fun h=>absurd h he⟩
 .simp[f8,f7,f6,D1];refine aG.cU (V:=tJ P3 h1) (by simpa using H3 h1 g) ?_;rintro _ h2⟨g2,c,rfl,hc⟩;by_cases he:c=0
  .subst he;simp[f8,f7,f6,w3,w3'];exact⟨3,by omega,by omega,rfl,fun _=>p1 (by omega),fun _=>p2 (by omega),fun _=>hc,g.trans g2⟩
  .have:=qP he;simp[this];exact⟨g.trans g2,c,rfl,fun h=>absurd h he⟩
 .simp[f8,f7];exact⟨g,0,rfl,fun _=>⟨p1 (by omega),p2 (by omega),p3 (by omega)⟩⟩
theorem RE(ok:bm h)(hr:0<=ai/\ai<1000000){cl:Bool}{x:GI}{A:SV}(hK:h.tr.get K=some (.aC [.bool cl] false 0 s3))(hX:h.tr.get X=some (.aC (aI x.op x.dst x.a.1 x.a.2 x.b.1 x.b.2 x.fn A.v) false 0 s2))(hC:h.tr.get C=some (.aC (aL gs fs name params ai blocks ah) false 0 s1)){funcs:List GF}(hF:SliceR (fR h) 4 h fs.v funcs)(iC:funcs.length<1000000/\∀f∈funcs,f.params<=6)(hA:SliceR vR 2 h A.v x.args)(bY:x.args.length<140737488355329):
  aF FF fV [.pointer (some ⟨K,0,none⟩),.pointer (some ⟨X,0,none⟩),.pointer (some ⟨C,0,none⟩)] h (tJ (fun c=>c=0->cl=true->nM ai x.args/\x.args.length<=6) h):=by
 have B1:=SliceR.len hA;have pC:=SliceR.len hF;obtain⟨iC,apn⟩:=iC;have wf:=wrap_i64 ((fs.l:Int)-1) (by omega) (by omega);refine aF.of vQ ?_;unfold nV;simp[aI] at hX;have DZ:=hC;simp[aL] at DZ;cases cl with
 |false=>
  simp[hK];exact⟨.refl ok,0,rfl,trivial⟩
 |true=>
  simp[hK,hX,DZ,wf];refine aG.call (by simpa using dD h x.fn 0 ((fs.l:Int)-1)) ?_;rintro _ h2⟨rfl,eh⟩;rw[eh];by_cases PN:0<=x.fn/\x.fn<=(fs.l:Int)-1
  .obtain⟨k,hk⟩:∃k:Nat,x.fn=k:=⟨x.fn.toNat,by omega⟩;have rN:k<funcs.length:=by omega
   have hx:funcs[k]?=some funcs[k]:=fI rN;generalize funcs[k]=f at hx;have hp6:=apn f (dG hx);obtain⟨bf,offf,cf,zg,_,_,⟨B,rfl,_⟩,_,hrdf⟩:=SliceR.later ok hF hx;have rf:=hrdf (tick h) (bh ok) 1 1 (by decide);simp[-ag,ay] at rf;have hd:(decide (0<=x.fn)&&decide (x.fn<=(fs.l:Int)-1))=true:=by simpa using PN
   rw[hd];rw[hk] at hX;rw[zg,pC] at DZ;by_cases uj:(A.l:Int)=f.params
   .have e1:((A.l:Int) !=f.params)=false:=by simp[uj]
    simp[hk,hX,DZ,pC,ay,av hX,av DZ,rN,rf,e1,-ag];refine aB.loop (fun m e h4=>∃j:Nat,m=x.args.length-j/\j<=x.args.length/\ak e 2=.pointer (some ⟨C,0,none⟩)/\ak e 34=A.v/\ak e 35=.int .i64 x.args.length/\ak e 36=.int .i64 j/\ab aK h h4/\nM ai (x.args.take j)) ?_ (n:=x.args.length)
     ⟨0,rfl,by omega,by simp,by simp,by simp[B1],by simp,bh ok,.nil _⟩
    rintro m e h4⟨j,rfl,hj,f2,f34,f35,f36,g4,hv⟩;have UZ:=g4.get ok DZ;unfold mo;by_cases aS:j<x.args.length
    .have hx:x.args[j]?=some x.args[j]:=fI aS;generalize x.args[j]=v at hx;obtain⟨b,off,c,Tk,_,_,rfl,oW,dj⟩:=SliceR.later ok hA hx;have r0:=dj h4 g4 0 2 (by decide);simp[-ag] at r0;have wj:=wrap_i64 (j+1) (by omega) (by omega);have oC4:=g4.ok.bC UZ;simp at f34;simp[f2,f34,f35,f36,Tk,B1,aS,r0,av UZ,au,aX,aN,oC4,-ag];refine aG.cut (fun h5=>ab aK h4 h5) ?_ ?_
     .exact((ab.refl g4.ok).new _ _).put ⟨0,by simp⟩ (.inl (dw _))
     rintro h5 g5;have oS:=g4.trans g5;refine aG.call (by simpa [aL,zg,pC] using wM (gs:=gs) (fs:=fs) (name:=name) (params:=params) (blocks:=blocks) (ah:=ah) h5 oS.ok hr v.1 v.2) ?_;rintro _ h6⟨rfl,g6⟩;by_cases x5:CP ai v.1 v.2=0
     .simp[f2,f34,f35,f36,x5,wj];exact⟨x.args.length-(j+1),by omega,j+1,rfl,by omega,⟨Tk,B1⟩,by simp,oS.trans g6,hv.take hx (xq x5)⟩
     .have:=qP x5;simp[this];exact⟨oS.trans g6,_,rfl,fun h=>absurd h x5⟩
    .have:j=x.args.length:=by omega
     subst this;rw[we] at hv;simp[f35,f36];exact⟨g4,0,rfl,fun _=>⟨hv,by omega⟩⟩
   .have e1:((A.l:Int) !=f.params)=true:=qP uj;simp[hk,hX,DZ,pC,ay,av hX,av DZ,rN,rf,e1,-ag];exact⟨bh ok,9,rfl,fun h=>by cases h⟩
  .have hd:(decide (0<=x.fn)&&decide (x.fn<=(fs.l:Int)-1))=false:=by simpa using PN
   simp[hd];exact⟨.refl ok,3,rfl,fun h=>by cases h⟩
end
def Oa:aq:=(G_ [o_ 81 (.uM 205 [t_ 2,t_ 3]),o_ 82 (.uM 206 [t_ 2,t_ 3]),o_ 83 (.uM 207 [t_ 6,t_ 3,t_ 2]),o_ 84 (.fH 3 [.nilFunc,.nilFunc,.nilFunc] [(0,(1,(t_ 81))),(1,(1,(t_ 82))),(2,(1,(t_ 83)))]),F_ 85 204 [t_ 84],m_ 4 85] .ret)
theorem aap:IQ=.seq (G_ [f_ 63 0 5,l_ 64 63,m_ 65 64,q_ 66 65 true (.load none (t_ 6)),q_ 67 65 true (.mv (t_ 66)),q_ 68 67 true (.cP 1 (t_ 3)),q_ 69 67 true (.load none (t_ 68)),q_ 70 67 true (.bin .eql [1] (t_ 69) (.const (.int .i64 (Int.negSucc 0)))),q_ 71 65 true (.pick (t_ 67) (t_ 70) (b_ false)),q_ 72 65 true (.un .not (t_ 71)),o_ 73 (.pick (t_ 65) (t_ 72) (b_ false))] (I_ 73 (G_ [L_ 74 7 2,f_ 75 1 3,l_ 76 75,F_ 77 203 [t_ 74,t_ 76],m_ 7 77] (G_ [m_ 78 7,o_ 79 (.bin .neq [1] (t_ 78) (i_ 0))] (I_ 79 (G_ [m_ 80 7,m_ 4 80] .ret) .skip))) .skip)) Oa:=rfl
structure zo(ai:Int)(x:GI):Prop where
 op:1<=x.op/\x.op<=22
 form:bk (cz x.op) x x.args.length=false
 dst:(cz x.op).1=true->¬(x.op=20/\x.dst= -1)->u9 ai x.dst
 a:r8 ai x.a
 b:r8 ai x.b
 args:x.op=20->nM ai x.args/\x.args.length<=6
section
variable{gs fs blocks ah:SV}{name:ByteArray}{params ai:Int}
def agl(ai:Int)(x:GI)(c:Int):Prop:=c=0->((cz x.op).1=true->¬(x.op=20/\x.dst= -1)->u9 ai x.dst)/\r8 ai x.a/\r8 ai x.b/\(x.op=20->nM ai x.args/\x.args.length<=6)
theorem VN(ok:bm h)(hr:0<=ai/\ai<1000000){x:GI}{A:SV}(hK:h.tr.get K=some (.aC [.bool (x.op==20)] false 0 s3))(hX:h.tr.get X=some (.aC (aI x.op x.dst x.a.1 x.a.2 x.b.1 x.b.2 x.fn A.v) false 0 s2))(hC:h.tr.get C=some (.aC (aL gs fs name params ai blocks ah) false 0 s1)){funcs:List GF}(hF:SliceR (fR h) 4 h fs.v funcs)(iC:funcs.length<1000000/\∀f∈funcs,f.params<=6)(hA:SliceR vR 2 h A.v x.args)(bY:x.args.length<140737488355329){b s:Nat}(hb:h.tr.get b=some (.aC [.func (.func fT) #[] #[.pointer (some ⟨C,0,none⟩),.pointer (some ⟨X,0,none⟩)],.func (.func fU) #[] #[.pointer (some ⟨C,0,none⟩),.pointer (some ⟨X,0,none⟩)],.func (.func fV) #[] #[.pointer (some ⟨K,0,none⟩),.pointer (some ⟨X,0,none⟩),.pointer (some ⟨C,0,none⟩)]] false 0 s)):
  aF FF uN [.slice (some ⟨b,0,none⟩) 3 3] h (tJ (fun c=>c=0->r8 ai x.a/\r8 ai x.b/\(x.op=20->nM ai x.args/\x.args.length<=6)) h):=by
 have F:=YS (P1:=fun c=>c=0->r8 ai x.a) (P2:=fun c=>c=0->r8 ai x.b) (P3:=fun c=>c=0->(x.op==20)=true->nM ai x.args/\x.args.length<=6) ok hb (fun h1 g=>by
  refine c_.func ?_;have:=RB g.ok hr (g.get ok hC) (g.get ok hX);refine aF.mono (by simpa using this) ?_;rintro v h'⟨rfl,g'⟩;exact⟨g',_,rfl,fun h=>xq h⟩) (fun h1 g=>by
  refine c_.func ?_;have:=RC g.ok hr (g.get ok hC) (g.get ok hX);refine aF.mono (by simpa using this) ?_;rintro v h'⟨rfl,g'⟩;exact⟨g',_,rfl,fun h=>xq h⟩) (fun h1 g=>by
  refine c_.func ?_;have:=RE g.ok hr (g.get ok hK) (g.get ok hX) (g.get ok hC) (hF.mono ok g fun _ _ r=>r.mono ok g) iC (hA.mono ok g fun _ _ h=>h) bY;simpa using this)
 refine F.mono ?_;rintro v h'⟨g,c,rfl,hc⟩;exact⟨g,c,rfl,fun h=>⟨(hc h).1 rfl,(hc h).2.1 rfl,fun e=>(hc h).2.2 rfl (by simp[e])⟩⟩
theorem VP(ok:bm h)(hr:0<=ai/\ai<1000000){C X K S s1 s2 s3 s4:Nat}{x:GI}{A:SV}(hK:h.tr.get K=some (.aC [.bool (x.op==20)] false 0 s3))(hX:h.tr.get X=some (.aC (aI x.op x.dst x.a.1 x.a.2 x.b.1 x.b.2 x.fn A.v) false 0 s2))(hC:h.tr.get C=some (.aC (aL gs fs name params ai blocks ah) false 0 s1))(hS:h.tr.get S=some (.aC [.bool (cz x.op).1,.bool (cz x.op).2.1,.bool (cz x.op).2.2] false 0 s4)){funcs:List GF}(hF:SliceR (fR h) 4 h fs.v funcs)(iC:funcs.length<1000000/\∀f∈funcs,f.params<=6)(hA:SliceR vR 2 h A.v x.args)(bY:x.args.length<140737488355329)(f2:ak e 2=.pointer (some ⟨C,0,none⟩))(f3:ak e 3=.pointer (some ⟨X,0,none⟩))(f5:ak e 5=.pointer (some ⟨S,0,none⟩))(f6:ak e 6=.pointer (some ⟨K,0,none⟩))(H:∀c e' h',ab aK h h'->ak e' 4=.int .i64 c->agl ai x c->QQ .ret e' h'):
  aB FF IQ e h QQ:=by
 have fin:∀(h5:ae)(e5:Env),ab aK h h5->ak e5 2=.pointer (some ⟨C,0,none⟩)->ak e5 3=.pointer (some ⟨X,0,none⟩)->ak e5 6=.pointer (some ⟨K,0,none⟩)->((cz x.op).1=true->¬(x.op=20/\x.dst= -1)->u9 ai x.dst)->
   aB FF Oa e5 h5 QQ:=by
  intro h5 e5 g5 q2 q3 q6 hd;unfold Oa;simp[q2,q3,q6];refine aG.cut (fun h7=>ab aK h5 h7/\h7.tr.get h5.next=some (.aC [.func (.func fT) #[] #[.pointer (some ⟨C,0,none⟩),.pointer (some ⟨X,0,none⟩)],.func (.func fU) #[] #[.pointer (some ⟨C,0,none⟩),.pointer (some ⟨X,0,none⟩)],.func (.func fV) #[] #[.pointer (some ⟨K,0,none⟩),.pointer (some ⟨X,0,none⟩),.pointer (some ⟨C,0,none⟩)]] false 0 0)) ?_ ?_
  .exact⟨(ab.refl g5.ok).new _ _,by simp⟩
  rintro h7⟨g7,hB7⟩;have gg:=g5.trans g7;refine aG.call (V:=tJ (fun c=>c=0->r8 ai x.a/\r8 ai x.b/\(x.op=20->nM ai x.args/\x.args.length<=6)) h7) (by simpa using VN gg.ok hr (gg.get ok hK) (gg.get ok hX) (gg.get ok hC) (hF.mono ok gg fun _ _ r=>r.mono ok gg) iC (hA.mono ok gg fun _ _ h=>h) bY hB7) ?_;rintro _ h8⟨g8,c,rfl,hc⟩;simp;exact H c _ _ (gg.trans g8) (by simp) (fun h=>⟨hd,hc h⟩)
 rw[aap];have mf:=hX;simp[aI] at mf;cases hsd:(cz x.op).1 with
 |false=>
  rw[hsd] at hS;simp[f5,hS];refine fin h _ (.refl ok) (by simp[f2]) (by simp[f3]) (by simp[f6]) (fun h=>by rw[hsd] at h;cases h)
 |true=>
  rw[hsd] at hS;have after:∀e5,ak e5 2=.pointer (some ⟨C,0,none⟩)->ak e5 3=.pointer (some ⟨X,0,none⟩)->ak e5 6=.pointer (some ⟨K,0,none⟩)->ak e5 76=.int .i64 x.dst->ak e5 74=.agg ⟨aL gs fs name params ai blocks ah⟩->True:=fun _ _ _ _ _ _=>trivial;cases hc:(x.op==20) with
  |true=>
   rw[hc] at hK;cases hd:(x.dst== -1) with
   |true=>
    simp[f5,f6,f3,hS,hK,mf,hd];refine fin h _ (.refl ok) (by simp[f2]) (by simp[f3]) (by simp[f6]) (fun _ h=>absurd ⟨by simpa using hc,by simpa using hd⟩ h)
   |false=>
    simp[f5,f6,f3,f2,hS,hK,mf,hd,hC,aL];refine aG.call (by simpa [aL] using DM (gs:=gs) (fs:=fs) (name:=name) (params:=params) (blocks:=blocks) (ah:=ah) h ok hr x.dst) ?_;rintro _ h3⟨rfl,g3⟩;by_cases Vc:Ic ai x.dst=0
    .simp[Vc];exact fin h3 _ g3 (by simp[f2]) (by simp[f3]) (by simp[f6]) (fun _ _=>Ie Vc)
    .have:=qP Vc;simp[this];exact H _ _ _ g3 (by simp) (fun h=>absurd h Vc)
  |false=>
   rw[hc] at hK;simp[f5,f6,f3,f2,hS,hK,mf,hC,aL];refine aG.call (by simpa [aL] using DM (gs:=gs) (fs:=fs) (name:=name) (params:=params) (blocks:=blocks) (ah:=ah) h ok hr x.dst) ?_;rintro _ h3⟨rfl,g3⟩;by_cases Vc:Ic ai x.dst=0
   .simp[Vc];exact fin h3 _ g3 (by simp[f2]) (by simp[f3]) (by simp[f6]) (fun _ _=>Ie Vc)
   .have:=qP Vc;simp[this];exact H _ _ _ g3 (by simp) (fun h=>absurd h Vc)
theorem VM(ok:bm h)(hr:0<=ai/\ai<1000000){x:GI}{A:SV}{funcs:List GF}(hF:SliceR (fR h) 4 h fs.v funcs)(iC:funcs.length<1000000/\∀f∈funcs,f.params<=6)(hA:SliceR vR 2 h A.v x.args)(bY:x.args.length<140737488355329):
  aF FF qI [.agg ⟨aL gs fs name params ai blocks ah⟩,.agg ⟨aI x.op x.dst x.a.1 x.a.2 x.b.1 x.b.2 x.fn A.v⟩] h (tJ (fun c=>c=0->zo ai x) h):=by
 have B1:=SliceR.len hA;refine aF.of yB ?_;unfold qh;simp[aL,aI];refine aG.cut (fun h2=>ab aK h h2/\h2.tr.get h.next=some (.aC (aL gs fs name params ai blocks ah) false 0 0)/\h2.tr.get (h.next+1)=some (.aC (aI x.op x.dst x.a.1 x.a.2 x.b.1 x.b.2 x.fn A.v) false 0 0)) ?_ ?_
 .exact⟨((ab.refl ok).new _ _).new _ _,by simp[aL],by simp[aI]⟩
 rintro h2⟨g2,vv,dX⟩;refine aG.call (by simpa using dD h2 x.op 1 22) ?_;rintro _ GK⟨rfl,he⟩;rw[he];by_cases rO:1<=x.op/\x.op<=22
 .have hd:(decide (1<=x.op)&&decide (x.op<=22))=true:=by simpa using rO
  have ahx:=dX;simp[aI] at ahx;rw[hd];simp[ahx];refine aG.call (by simpa using Ct h2 g2.ok x.op) ?_;rintro _ h3⟨rfl,g3⟩;have di:=g2.trans g3;have Mx:=g3.get g2.ok vv;have fe:=g3.get g2.ok dX;have oX3:=di.ok.bC fe;have oC3:=di.ok.bC Mx;have FQ:=fe;simp[aI] at FQ;simp[FQ,oX3];refine aG.cut (fun h4=>ab aK h3 h4/\(∃s,h4.tr.get h3.next=some (.aC [.bool (cz x.op).1,.bool (cz x.op).2.1,.bool (cz x.op).2.2] false 0 s))/\∃s,h4.tr.get (h3.next+1)=some (.aC [.bool (x.op==20)] false 0 s)) ?_ ?_
  .exact⟨((((ab.refl di.ok).new _ _).put ⟨0,by simp⟩ (.inl (by omega))).new _ _).put ⟨0,by simp⟩ (.inl (by omega)),⟨h3.clock,by simp⟩,⟨h3.clock+1,by simp⟩⟩
  rintro h4⟨g4,⟨s4,hS4⟩,⟨s5,hK4⟩⟩;have me:=di.trans g4;have UZ:=g4.get di.ok Mx;have vg:=g4.get di.ok fe;refine ZE (x:=x) (s:=cz x.op) vg hS4 hK4 (by simp) (by simp) (by simp) ?_;intro e5 q2 q3 q5 q6 Sz;simp at q2 q3 q5 q6;cases hfb:bk (cz x.op) x A.l with
  |true=>
   rw[hfb] at Sz;simp[Sz];exact⟨me,5,rfl,fun h=>by cases h⟩
  |false=>
   rw[hfb] at Sz;simp[Sz];refine VP me.ok hr hK4 vg UZ hS4 (hF.mono ok me fun _ _ r=>r.mono ok me) iC (hA.mono ok me fun _ _ h=>h) bY q2 q3 q5 q6 ?_;intro c e' h' g' q4 hT;simp[q4];refine⟨me.trans g',c,rfl,fun h=>?_⟩;obtain⟨t1,t2,t3,t4⟩:=hT h;exact⟨rO,by rw[<-B1];exact hfb,t1,t2,t3,t4⟩
 .have hd:(decide (1<=x.op)&&decide (x.op<=22))=false:=by simpa using rO
  rw[hd];simp;exact⟨g2,4,rfl,fun h=>by cases h⟩
end
set_option maxRecDepth 100000
theorem aeu:Pl Tryz.prog (rJ Tryz.prog) 218:=by obtain⟨ei,xF⟩:=Option.isSome_iff_exists.mp (show(rJ Tryz.prog 44).isSome=true by kernel_rfl);exact⟨Tryz.f218,59,44,{ u:=.slice 44,size:=1,bytes:=24,zero:=[.slice none 0 0],agg:=false },ei,Tryz.func218,by kernel_rfl,by kernel_rfl,by kernel_rfl,by kernel_rfl,by kernel_rfl,by kernel_rfl,rfl,xF⟩
theorem ab1:Cy Tryz.prog (rJ Tryz.prog) 1 (dY (rJ Tryz.prog) 1) FF0:=Pe (Ns Q7) aeu
theorem Yy:FF0 166=some ⟨[.tmp 6],sH [.bool false,.int .i64 0] 2 16 218 219,.no⟩:=by kernel_rfl
theorem af3:Cy Tryz.prog (rJ Tryz.prog) 1 (dY (rJ Tryz.prog) 1) FF:=
 Mi ab1 (Mc _) Yy (fov:=⟨[],.bad,.Ox⟩) rfl rfl rfl (by decide) (by decide)
end Go.Proofs.YtdhnndleffachaaGreatDoor
namespace Go.AI.Edge
variable{dp out:List (List Int)}{i u:Nat}{t x:Int}
def tn(out:List (List Int))(i:Nat)(t:Int):List (List Int):=out.set t.toNat (((out[t.toNat]?).getD [])++[(i:Int)])
def iT(out:List (List Int))(i:Nat)(ts:List Int):List (List Int):=ts.foldl (fun o t=>tn o i t) out
def upto(n:Nat)(dy:List (List Int)):Nat->List (List Int)
 |0=>List.replicate n []
 |k+1=>match dy[k]? with
  |some ts=>iT (upto n dy k) k ts
  |none=>upto n dy k
def bD(dy:List (List Int)):List (List Int):=upto dy.length dy dy.length
theorem Dr(out:List (List Int))(i:Nat)(t:Int):(tn out i t).length=out.length:=by simp[tn]
theorem AA(i:Nat):∀(ts:List Int)(out:List (List Int)),(iT out i ts).length=out.length
 |[],_=>rfl
 |t::ts,out=>by show(iT (tn out i t) i ts).length=_;rw[AA i ts,Dr]
theorem rK(n:Nat)(dy:List (List Int)):∀k,(upto n dy k).length=n
 |0=>by simp[upto]
 |k+1=>by
  unfold upto;cases dy[k]? with
  |none=>exact rK n dy k
  |some ts=>exact(AA k ts _).trans (rK n dy k)
theorem eQ(dy:List (List Int)):(bD dy).length=dy.length:=rK _ _ _
theorem Hs{ts:List Int}{j:Nat}(h:ts[j]?=some t):iT out i (ts.take (j+1))=tn (iT out i (ts.take j)) i t:=by unfold iT;rw[v9,h,List.foldl_append];rfl
theorem We(ht:t.toNat<out.length):x∈((tn out i t)[u]?).getD []↔(x∈(out[u]?).getD []\/(u=t.toNat/\x=i)):=by
 unfold tn;rw[fg];by_cases e:t.toNat=u
 .subst e;rw[aZ rfl,aZ ht];simp
 .rw[aW e];constructor
  .exact .inl
  .rintro(h|⟨h,_⟩)
   .exact h
   .exact absurd h.symm e
theorem Lp{i:Nat}{u:Nat}{x:Int} :∀ {ts:List Int} {out:List (List Int)},(∀t∈ts,t.toNat<out.length)->(x∈((iT out i ts)[u]?).getD []↔(x∈(out[u]?).getD []\/(x=i/\∃t∈ts,u=t.toNat)))
 |[],out,_=>by simp[iT]
 |t::ts,out,h=>by
  show x∈((iT (tn out i t) i ts)[u]?).getD []↔_;rw[Lp (ts:=ts) (out:=tn out i t) (fun u hu=>by rw[Dr];exact h u (Bf _ hu)),We (h t (AN ..))];constructor
  .rintro((h|⟨h,k⟩)|⟨k,t',zk,h⟩)
   .exact .inl h
   .exact .inr ⟨k,t,AN ..,h⟩
   .exact .inr ⟨k,t',Bf _ zk,h⟩
  .rintro(h1|⟨k,t',zk,h1⟩)
   .exact .inl (.inl h1)
   .rcases List.mem_cons.1 zk with e|zk
    .exact .inl (.inr ⟨by rw[h1,e],k⟩)
    .exact .inr ⟨k,t',zk,h1⟩
theorem Em{n:Nat}{dy:List (List Int)}(h:∀ts∈dy,∀t∈ts,t.toNat<n){u:Nat}{x:Int} :∀k,x∈((upto n dy k)[u]?).getD []↔ ∃i:Nat,i<k/\x=i/\∃ts,dy[i]?=some ts/\∃t∈ts,u=t.toNat
 |0=>by
  constructor
  .intro hx;unfold upto at hx;rw[UN] at hx;split at hx<;>simp at hx
  .rintro⟨i,hi,_⟩;omega
 |k+1=>by
  unfold upto;cases hk:dy[k]? with
  |none=>
   dsimp only;rw[Em h k];constructor
   .rintro⟨i,hi,r⟩;exact⟨i,by omega,r⟩
   .rintro⟨i,hi,hx,ts,ht,r⟩;by_cases e:i=k
    .subst e;rw[hk] at ht;cases ht
    .exact⟨i,by omega,hx,ts,ht,r⟩
  |some ts=>
   dsimp only;rw[Lp (fun t ht=>by rw[rK];exact h ts (dG hk) t ht),Em h k];constructor
   .rintro(⟨i,hi,r⟩|⟨hx,t,ht,hu⟩)
    .exact⟨i,by omega,r⟩
    .exact⟨k,by omega,hx,ts,hk,t,ht,hu⟩
   .rintro⟨i,hi,hx,Df,zk,r⟩;by_cases e:i=k
    .subst e;rw[hk] at zk;cases zk;exact .inr ⟨hx,r⟩
    .exact .inl ⟨i,by omega,hx,Df,zk,r⟩
theorem w_{dy:List (List Int)}(h:∀ts∈dy,∀t∈ts,t.toNat<dy.length) :x∈((bD dy)[u]?).getD []↔ ∃i:Nat,x=i/\∃ts,dy[i]?=some ts/\∃t∈ts,u=t.toNat:=by
 unfold bD;rw[Em h];constructor
 .rintro⟨i,_,r⟩;exact⟨i,r⟩
 .rintro⟨i,hx,ts,ht,r⟩;exact⟨i,(cr.mp ht).1,hx,ts,ht,r⟩
theorem VY(out:List (List Int))(i:Nat)(t:Int)(u:Nat):(((tn out i t)[u]?).getD []).length<=((out[u]?).getD []).length+1:=by
 unfold tn;rw[fg];by_cases e:t.toNat=u
 .subst e;rw[aZ rfl];split
  .simp
  .simp
 .rw[aW e];omega
theorem Ad(i u:Nat):∀(ts:List Int)(out:List (List Int)),(((iT out i ts)[u]?).getD []).length<=((out[u]?).getD []).length+ts.length
 |[],out=>by simp[iT]
 |t::ts,out=>by have h1:=Ad i u ts (tn out i t);have h2:=VY out i t u;show(((iT (tn out i t) i ts)[u]?).getD []).length<=_;simp only[List.length_cons];omega
theorem ov{n:Nat}{dy:List (List Int)}(h:∀ts∈dy,ts.length<=2)(u:Nat):∀k,(((upto n dy k)[u]?).getD []).length<=2*k
 |0=>by unfold upto;rw[UN];split<;>simp
 |k+1=>by
  have ih:=ov (n:=n) h u k;unfold upto;cases hk:dy[k]? with
  |none=>dsimp only;omega
  |some ts=>
   dsimp only;have:=Ad k u ts (upto n dy k);have:=h ts (dG hk);omega
def rowOf(dp:List (List Int))(u:Nat):Nat->List Int
 |0=>[]
 |k+1=>rowOf dp u k++List.replicate ((((dp[k]?).getD []).map Int.toNat).count u) (k:Int)
theorem LP(i u:Nat):∀(ts:List Int)(out:List (List Int)),(∀t∈ts,t.toNat<out.length)->((iT out i ts)[u]?).getD []=((out[u]?).getD [])++List.replicate ((ts.map Int.toNat).count u) (i:Int)
 |[],out,_=>by simp[iT]
 |t::ts,out,h=>by
  show((iT (tn out i t) i ts)[u]?).getD []=_;rw[LP i u ts (tn out i t) (fun x hx=>by rw[Dr];exact h x (Bf _ hx))];have ht:=h t (AN ..);have e:((tn out i t)[u]?).getD []=((out[u]?).getD [])++(if t.toNat=u then [(i:Int)] else []):=by
   unfold tn;rw[fg];by_cases e:t.toNat=u
   .subst e;rw[aZ rfl,aZ ht,aZ rfl];rfl
   .rw[aW e,aW e,List.append_nil]
  rw[e,BY,List.count_cons,vu];congr 1;by_cases e:t.toNat=u
  .rw[aZ e];simp[e,List.replicate_succ]
  .rw[aW e];simp[e]
theorem E0{dp:List (List Int)}{n:Nat}(h:∀ts∈dp,∀t∈ts,t.toNat<n)(u:Nat):∀k,((upto n dp k)[u]?).getD []=rowOf dp u k
 |0=>by unfold upto rowOf;rw[UN];split<;>rfl
 |k+1=>by
  unfold upto rowOf;cases hk:dp[k]? with
  |none=>
   dsimp only;rw[E0 h u k];simp
  |some ts=>
   dsimp only;rw[LP k u ts _ (fun t ht=>by rw[rK];exact h ts (dG hk) t ht),E0 h u k];rfl
theorem pW(h:∀ts∈dp,∀t∈ts,t.toNat<dp.length){ps:List Int}(hp:(bD dp)[u]?=some ps):ps=rowOf dp u dp.length:=by have:=E0 h u dp.length;unfold bD at hp;rw[hp] at this;exact this
def xC(dp:List (List Int))(u k:Nat):Nat:=(((dp[k]?).getD []).map Int.toNat).count u
theorem uY(dp:List (List Int))(u:Nat)(f:Int->Bool):∀k,((rowOf dp u k).filter f).length=((List.range k).map fun i:Nat=>if f (i:Int) then xC dp u i else 0).sum
 |0=>rfl
 |k+1=>by unfold rowOf;rw[List.filter_append,GJ,uY dp u f k,List.range_succ,List.map_append,List.sum_append_nat];congr 1;simp only[BY,List.map_nil,PF,List.sum_nil,Nu];rw[List.filter_replicate];unfold xC;split<;>simp
theorem p9(dp:List (List Int))(u k:Nat):(rowOf dp u k).length=((List.range k).map fun i=>xC dp u i).sum:=by have:=uY dp u (fun _=>true) k;rw[List.filter_eq_self.2 (fun _ _=>rfl)] at this;simpa using this
theorem zd(f:Nat->Bool)(g:Nat->Nat):∀l:List Nat,(l.map fun i=>if f i then g i else 0).sum=((l.filter f).map g).sum
 |[]=>rfl
 |x::l=>by rw[BY,PF,zd f g l,List.filter_cons];cases f x<;>simp
theorem Ma{l m:List Nat}(h:l.Perm m)(g:Nat->Nat):(l.map g).sum=(m.map g).sum:=by
 induction h with
 |nil=>rfl
 |cons x _ ih=>simp[ih]
 |swap x y l=>simp;omega
 |trans _ _ a b=>exact a.trans b
theorem Ef{dp Jw:List (List Int)}{aO:List Nat}(nd:aO.Nodup)(dS:∀x∈aO,x<dp.length)(hl:Jw.length=aO.length)(qE:∀(i k:Nat),aO[i]?=some k->∃ts Df,dp[k]?=some ts/\Jw[i]?=some Df/\Df.length=ts.length/\∀(j:Nat)(t t':Int),ts[j]?=some t->Df[j]?=some t'->0<=t'/\aO[t'.toNat]?=some t.toNat){i k:Nat}(hk:aO[i]?=some k)(f:Int->Bool)(hf:∀x:Nat,x<dp.length->(f (x:Int)=true↔x∈aO)):(rowOf Jw i Jw.length).length=((rowOf dp k dp.length).filter f).length:=by
 rw[p9,uY,zd (fun i=>f (i:Int))];have e1:(List.range Jw.length).map (fun j=>xC Jw i j)=aO.map (fun j=>xC dp k j):=by
  refine zS fun j=>?_;rw[tT,tT];rcases zf j aO.length with hj|hj
  .have ho:aO[j]?=some aO[j]:=fI hj;rw[List.getElem?_range (by omega),ho];simp only[DY];congr 1;obtain⟨ts,Df,h1,h2,h3,h4⟩:=qE j _ ho;unfold xC;rw[h1,h2];simp only[Option.getD_some];have:Df.map (fun t=>decide (t.toNat=i))=ts.map (fun t=>decide (t.toNat=k)):=by
    refine zS fun q=>?_;rw[tT,tT];rcases zf q ts.length with hq|hq
    .have a1:ts[q]?=some ts[q]:=fI hq;have a2:Df[q]?=some (Df[q]'(by omega)):=fI (by omega);obtain⟨_,b2⟩:=h4 q _ _ a1 a2;rw[a1,a2];simp only[DY];congr 1;refine decide_eq_decide.2 ⟨fun h=>?_,fun h=>?_⟩
     .rw[h,hk] at b2;cases b2;rfl
     .rw[h] at b2;have l1:=(cr.mp b2).1;have l2:=(cr.mp hk).1;have m1:=(cr.mp b2).2;have m2:=(cr.mp hk).2;exact(List.getElem_inj nd).1 (m1.trans m2.symm)
    .rw[tS (by omega),tS (by omega)];rfl
   have c1:∀(l:List Int)(u:Nat),(l.map Int.toNat).count u=(l.map (fun t=>decide (t.toNat=u))).count true:=by
    intro l u;induction l with
    |nil=>rfl
    |cons x l ih=>simp[List.count_cons,ih]
   rw[c1,c1,this]
  .rw[tS (by simp;omega),tS (by omega)];rfl
 rw[e1];refine Ma ?_ _;refine(List.perm_ext_iff_of_nodup nd (List.Pairwise.filter _ List.nodup_range)).2 fun x=>?_;rw[Ms,Kw];constructor
 .intro h;exact⟨dS x h,(hf x (dS x h)).2 h⟩
 .rintro⟨h1,h2⟩;exact(hf x h1).1 h2
end Go.AI.Edge
namespace Go.Proofs.YtdhnndleffachaaGreatDoor
open Go.AI
variable{C d k n n0 sC:Nat}{F:Nat->Option bM}{QQ:aT->Env->ae->Prop}{R:Env->ae->Prop}{e e':Env}{h h1 h2:ae}{kV:List (List Int)}{names ns xs:List ByteArray}{o:Option (Value×ae)}{v:Value}{α:Type}
def bj:Enc Int:=⟨fun x=>[.int .i64 x],1,fun _=>rfl,by decide,fun _=>rfl⟩
@[simp] theorem PC:bj.sz=1:=rfl
@[simp] theorem agG(x:Int):bj.enc x=[.int .i64 x]:=rfl
def rT:Enc SV:=⟨fun w=>[w.v],1,fun _=>rfl,by decide,fun w=>rfl⟩
@[simp] theorem YK:rT.sz=1:=rfl
@[simp] theorem agI(w:SV):rT.enc w=[w.v]:=rfl
theorem bH.Yu{E:Enc α}{xs:List α}(a:bH E n0 h v xs):∃L:SV,v=L.v:=by
 rcases a with⟨_,rfl⟩|⟨b,s,rfl,_⟩
 .exact⟨⟨none,0,0⟩,rfl⟩
 .exact⟨⟨some ⟨b,0,none⟩,xs.length,xs.length⟩,rfl⟩
structure jU{α:Type}(E:Enc α)(n0:Nat)(h:ae)(d:Nat)(ws:List SV)(kV:List (List α)):Prop where
 aC:∃s,h.tr.get d=some (.aC (rT.flat ws) false 0 s)
 len:ws.length=kV.length
 acc:∀(i:Nat)(w:SV)(xs:List α),ws[i]?=some w->kV[i]?=some xs->bH E n0 h w.v xs
 dis:∀(i j:Nat)(wi wj:SV)(b:Nat),ws[i]?=some wi->ws[j]?=some wj->i≠j->ax wi.v b->¬ax wj.v b
 new:n0<=d
 rU:∀(i:Nat)(w:SV),ws[i]?=some w->¬ax w.v d
theorem jU.grow{α:Type}{E:Enc α}{n0:Nat}{S:Nat->Prop}{h h':ae}{d:Nat}{ws:List SV}{kV:List (List α)}(w:jU E n0 h d ws kV)(ok:bm h)(g:ab S h h')(hS:∀b,n0<=b->¬S b):jU E n0 h' d ws kV:=by obtain⟨s,hb⟩:=w.aC;refine⟨⟨s,g.get ok hb (hS _ w.new)⟩,w.len,fun i w' xs h1 h2=>?_,w.dis,w.new,w.rU⟩;have a:=w.acc i w' xs h1 h2;exact a.grow ok g (fun b hb=>hS b (a.of hb))
theorem jU.bl{E:Enc α}{h h':ae}{ws:List SV}{kV:List (List α)}(w:jU E n0 h d ws kV)(ok:bm h)(g:ab aK h h'):jU E n0 h' d ws kV:=w.grow ok g (fun _ _ h=>h)
theorem Xv(ws:List SV)(i:Nat)(x:SV)(h:i<ws.length):aH (rT.flat ws) i [x.v]=rT.flat (ws.set i x):=by have:=rT.eD ws i x h;simpa using this
theorem wJ{ws:List SV}{o s:Nat}{ro:Bool}(hd:h.tr.get d=some (.aC (rT.flat ws) ro o s)){x:SV}(hk:ws[k]?=some x):aV h d k 1=some [x.v]:=by have hl:=(cr.mp hk).1;rw[bV hd (by rw[rT.bI];show k+1<=ws.length*1;omega)];have:=rT.lx ws k 0 1 x hk (by decide);simp only[Nu] at this;rw[show k=k*rT.sz from(Nat.mul_one k).symm,this];rfl
theorem jU.set{α:Type}{E:Enc α}{n0:Nat}{h h2:ae}(ok:bm h){d:Nat}{ws:List SV}{kV:List (List α)}(w:jU E n0 h d ws kV){i:Nat}{wi W:SV}{xs ys:List α}(hi:ws[i]?=some wi)(hx:kV[i]?=some xs)(g:ab (ax wi.v) h h2)(a:bH E n0 h2 W.v ys)(hf:∀b,ax W.v b->h.next<=b):
  ∃s,h2.tr.get d=some (.aC (rT.flat ws) false 0 s)/\jU E n0 (put h2 d i (rT.flat ws) [W.v] 0) d (ws.set i W) (kV.set i ys):=by
 obtain⟨s,hb⟩:=w.aC;have hdl:=(ok.bC hb).lt;have gY:=(cr.mp hi).1;have cA:=g.get ok hb (w.rU i wi hi);refine⟨s,cA,?_⟩;have gp:ab (· =d) h2 (put h2 d i (rT.flat ws) [W.v] 0):=aQ g.ok cA;refine⟨⟨h2.clock,by rw[aD,Xv ws i W gY]⟩,by simp[w.len],fun j w' zs h1 h3=>?_,fun j k wj wk b h1 h3 hjk U8 CV=>?_,w.new,fun j w' h1=>?_⟩
 .rw[fg] at h1 h3;by_cases e:i=j
  .subst e;rw[aZ rfl,aZ gY] at h1;rw[aZ rfl,aZ (by rw[<-w.len];exact gY)] at h3;cases h1;cases h3;exact a.grow g.ok gp (fun b hb e=>by have:=hf b hb;omega)
  .rw[aW e] at h1 h3;have a':=w.acc j w' zs h1 h3;exact(a'.grow ok g (fun b hb cA=>w.dis i j wi w' b hi h1 e cA hb)).grow g.ok gp (fun b hb e2=>w.rU j w' h1 (e2▸hb))
 .rw[fg] at h1 h3;have bC:∀(k:Nat)(w':SV),ws[k]?=some w'->∀b,ax w'.v b->b<h.next:=by
   intro k w' hk b hb;have rN:=(cr.mp hk).1;obtain⟨off,n,cap,e⟩:=hb;rcases w.acc k w' _ hk (fI (by rw[<-w.len];exact rN)) with⟨_,e2⟩|⟨b',s',e2,gk,_⟩
   .rw[e2] at e;cases e
   .rw[e2] at e;cases e;exact ok.wf _ _ gk
  by_cases e:i=j
  .subst e;rw[aZ rfl,aZ gY] at h1;rw[aW hjk] at h3;cases h1;have h4:=hf b U8;have h5:=bC k wk h3 b CV;omega
  .rw[aW e] at h1;by_cases e':i=k
   .subst e';rw[aZ rfl,aZ gY] at h3;cases h3;have:=hf b CV;have:=bC j wj h1 b U8;omega
   .rw[aW e'] at h3;exact w.dis j k wj wk b h1 h3 hjk U8 CV
 .rw[fg] at h1;by_cases e:i=j
  .subst e;rw[aZ rfl,aZ gY] at h1;cases h1;exact fun hb=>by have:=hf d hb;omega
  .rw[aW e] at h1;exact w.rU j w' h1
theorem lJ{E:Enc α}(ok:bm h){n0 bytes:Nat}{z:List Value}{v w:Value}{xs:List α}{y:α}(hz:z.length=E.sz)(a:bH E n0 h v xs)(hw:bc E h w [y])(hl:xs.length<1000000)(CI:bytes<=1000)(hn:n0<=h.next):
  ∃v' h',nD h z bytes false v w=some (v',h')/\
   bH E n0 h' v' (xs++[y])/\ab (ax v) h h'/\∀b,ax v' b->b=h.next:=by
 unfold nD;rw[I2 hz hw];dsimp only;have r1:roomy (xs.length+1)=true:=by simp[roomy];omega
 have r2:roomy ((xs.length+1)*bytes)=true:=by have:(xs.length+1)*bytes<=1000000*1000:=Nat.mul_le_mul (by omega) CI;simp[roomy];omega
 have hp:=E.pos;have hp':E.sz≠0:=by omega
 rcases a with⟨rfl,rfl⟩|⟨b,s,rfl,hb,hx,hb0⟩
 .have r3:roomy bytes=true:=by simp[roomy];omega
  refine⟨.slice (some ⟨h.next,0,none⟩) 1 1,aJ h (E.flat [y]) E.sz,?_,.inr ⟨h.next,0,rfl,by simp,by simp,hn⟩,(aP ok _ _).bl,?_⟩
  .have r4:roomy 1=true:=rfl;simp[ib,hz,hp,r3,r4]
  .rintro b⟨off,n,cap,e⟩;cases e;rfl
 .refine⟨.slice (some ⟨h.next,0,none⟩) (xs.length+1) (xs.length+1),aJ {h with tr:=h.tr.del b} (E.flat xs++E.flat [y]) E.sz,?_,.inr ⟨h.next,0,by simp,?_,by simp,hn⟩,?_,?_⟩
  .have e1:¬xs.length+1<=xs.length:=by omega
   have e2:(E.flat xs).take (xs.length*E.sz)=E.flat xs:=YW (by simp);simp[ib,hz,hp,r1,r2,hb,e1,e2,hp']
  .have:=bS {h with tr:=h.tr.del b} (E.flat xs++E.flat [y]) E.sz;rw[Enc.dN];exact this
  .refine((ou ok b).bU ?_).trans (aP (ou ok b).ok _ _).bl;rintro x _ rfl;exact⟨_,_,_,rfl⟩
  .rintro b'⟨off,n,cap,e⟩;cases e;rfl
def aA(l:List Nat)(e e':Env):Prop:=∀t,t∉l->ak e' t=ak e t
theorem aA.refl(l:List Nat)(e:Env):aA l e e:=fun _ _=>rfl
theorem aA.set{l:List Nat}{e e':Env}{k:Nat}{v:Value}(K:aA l e e')(hk:k∈l:=by decide):aA l e (Tr.set e' k v):=fun t ht=>by rw[Env.az,aW (by rintro rfl;exact ht hk)];exact K t ht
theorem aA.at{l:List Nat}{t:Nat}(K:aA l e e')(f:ak e t=v)(ht:t∉l:=by decide):ak e' t=v:=(K t ht).trans f
theorem aA.trans{l:List Nat}{e e1 e2:Env}(a:aA l e e1)(b:aA l e1 e2):aA l e e2:=fun t ht=>(b t ht).trans (a t ht)
theorem iE{d:Option Nat}{l:List aY}(ho:o=some (v,h))(H:aG F l (cG e d v) h R):Pk F d l e R o:=by rw[ho];exact H
theorem Au{lH:List Nat}{d:Option Nat}{m:List (aY×List Nat)}(ho:o=some (v,h))(H:still (cG e d v) h k lH=true/\aU F k m (cG e d v) h R):Pj F k lH d m e R o:=by rw[ho];exact H
def aw(name:ByteArray)(params ai:Int)(blocks:SV):List Value:=[.string name,.int .i64 params,.int .i64 ai,blocks.v]
theorem Pt{d c:Nat}{ws:List SV}(w:jU bj n0 h d ws kV):SliceR (Yo h) 1 h (SV.v ⟨some ⟨d,0,none⟩,kV.length,c⟩) kV:=by
 obtain⟨s,hb⟩:=w.aC;refine⟨_,c,rfl,.inr ⟨d,0,_,_,_,_,rfl,hb,fun i xs hx=>?_⟩⟩;have gY:=(cr.mp hx).1;obtain⟨wi,hw⟩:=aE ws i (show i<ws.length by rw[w.len];exact gY);have:=rT.lL ws i wi hw;simp only[YK,Nat.mul_one] at this;rw[BX,Nat.mul_one,this];refine⟨rfl,wi,rfl,?_⟩;have a:=w.acc i wi xs hw hx;rcases a with⟨rfl,e⟩|⟨b,s',e,gk,rQ,_⟩
 .rw[e];exact⟨none,0,rfl,.inl ⟨rfl,.inl rfl⟩⟩
 .rw[e];refine⟨_,_,rfl,.inr ⟨b,0,_,_,_,_,rfl,gk,fun k x hk=>?_⟩⟩;have:=bj.lL xs k x hk;simp only[PC,Nat.mul_one] at this;rw[BX,Nat.mul_one,this];exact⟨rfl,rfl⟩
theorem Dq(h:ae)(ok:bm h)(E:Enc α)(n n0:Nat)(hn:n0<=h.next):jU E n0 (aJ h (jP [.slice none 0 0] n) 0) h.next (List.replicate n d_) (List.replicate n []):=by
 have hr:jP [Value.slice none 0 0] n=rT.flat (List.replicate n d_):=by
  have:∀n,jP [Value.slice none 0 0] n=rT.flat (List.replicate n d_):=by
   intro n;induction n with
   |zero=>rfl
   |succ n ih=>rw[List.replicate_succ,Enc.eL,<-ih];rfl
  exact this n
 refine⟨⟨0,by rw[<-hr];exact bS _ _ _⟩,by simp,fun i w xs h1 h2=>?_,fun i j wi wj b h1 _ _ hb=>?_,hn,fun i w h1 hb=>?_⟩
 .rw[UN] at h1 h2;split at h1
  .rename_i hi;rw[aZ hi] at h2;cases h1;cases h2;exact .inl ⟨rfl,rfl⟩
  .cases h1
 .rw[UN] at h1;split at h1<;>cases h1;obtain⟨_,_,_,e⟩:=hb;cases e
 .rw[UN] at h1;split at h1<;>cases h1;obtain⟨_,_,_,e⟩:=hb;cases e
def afX(h h2:ae)(b:GB)(kV:List (List Int))(n0 d k:Nat)(e:Env)(m:Nat)(e':Env)(h3:ae):Prop:=
 ∃(j:Nat) (um:List SV),m=b.to.length-j/\j<=b.to.length/\ak e' 24=.int .i64 j/\aA [25,26,27,7,28,29,30,31,32,33,34,35,36,37,38,24] e e'/\ab aK h h3/\h2.next<=h3.next/\jU bj n0 h3 d um (Edge.iT kV k (b.to.take j))
theorem Nw(ok:bm h){b:GB}{T:SV}(hT:SliceR nR 1 h T.v b.to)(h2l:b.to.length<=2)(hn:n<=1000)(ht:∀t∈b.to,0<=t/\t<n){ws:List SV}(w:jU bj n0 h2 d ws kV)(rV:kV.length=n)(bY:∀u:Nat,((kV[u]?).getD []).length<=2*k)(hk:k<=1000)(g2:ab aK h h2)(wv:n0<=h2.next)(ao8:h.next<=n0)(f3:ak e 3=.slice (some ⟨d,0,none⟩) n n)(f4:ak e 4=.int .i64 k)(f22:ak e 22=T.v)(f23:ak e 23=.int .i64 b.to.length)(f24:ak e 24=.int .i64 0)(C:∀e' h' um,ab aK h h'->h2.next<=h'.next->aA [25,26,27,7,28,29,30,31,32,33,34,35,36,37,38,24] e e'->jU bj n0 h' d um (Edge.iT kV k b.to)->QQ (.exit 2) e' h'):
  aB FF (.loop pd) e h2 QQ:=by
 have xZ:=SliceR.len hT;refine aB.loop (afX h h2 b kV n0 d k e) ?_ (n:=b.to.length)
  ⟨0,ws,rfl,by omega,f24,aA.refl _ _,g2,dw _,by simpa [Edge.iT] using w⟩
 rintro m e' h3⟨j,um,rfl,hj,W0,K,g3,MD,w3⟩;unfold pd;have q3:=K.at f3;have q4:=K.at f4;have q22:=K.at f22;have Yr:=K.at f23;by_cases aS:j<b.to.length
 .have hx:b.to[j]?=some b.to[j]:=fI aS;have hm:=zT aS;generalize b.to[j]=t at hx hm;obtain⟨VD,htn⟩:=ht t hm;obtain⟨u,rfl⟩:∃u:Nat,t=u:=⟨t.toNat,by omega⟩;have Ym:u<n:=by omega
  obtain⟨bT,off,c,Fj,_,_,rfl,_,dj⟩:=SliceR.later ok hT hx;have r0:=dj h3 g3 0 1 (by decide);simp[-ag] at r0;have wj:=wrap_i64 (j+1) (by omega) (by omega);obtain⟨s3,GN⟩:=w3.aC;have adW:(Edge.iT kV k (b.to.take j)).length=n:=by rw[Edge.AA,rV]
  have apU:um.length=n:=by rw[w3.len,adW]
  have hw:um[u]?=some um[u]:=fI (by omega);have AW:(Edge.iT kV k (b.to.take j))[u]?=some (Edge.iT kV k (b.to.take j))[u]:=fI (by omega);generalize um[u]=wu at hw;generalize ZB:(Edge.iT kV k (b.to.take j))[u]=xs at AW;have KV:=wJ GN hw;have adV:xs.length<1000000:=by
   have h1:=Edge.Ad k u (b.to.take j) kV;rw[AW] at h1;have GK:=bY u;simp at h1;have:(b.to.take j).length<=2:=by simp;omega
   simp at this;omega
  simp at q22;simp[-ag] at KV;have od3:=g3.ok.bC GN;simp[q3,q4,q22,Yr,W0,Fj,xZ,aS,r0,Ym,KV,-ag,od3];have g4:=aP g3.ok (bj.enc (k:Int)) 0;have w4:=w3.bl g3.ok g4;have hw4:bc bj (aJ h3 (bj.enc (k:Int)) 0) (.slice (some ⟨h3.next,0,none⟩) 1 1) [(k:Int)]:=⟨_,_,rfl,.inr ⟨h3.next,0,_,_,_,_,rfl,bS _ _ _,by simp,by simp⟩⟩;obtain⟨v',h5,ha,B0,g5,MA⟩:=lJ (bytes:=8) g4.ok (z:=[.int .i64 0]) rfl (w4.acc u wu xs hw AW) hw4 adV (by decide) (by show n0<=h3.next+1;omega);refine iE ha ?_;obtain⟨V,rfl⟩:=bH.Yu B0;obtain⟨s5,Vb,w5⟩:=w4.set g4.ok hw AW g5 B0 (fun b hb=>by rw[MA b hb];exact dw _);have NL:∀b,ax wu.v b->n0<=b:=fun b hb=>(w3.acc u wu xs hw AW).of hb;have hdl:u<=(rT.flat um).length-1:=by simp;omega
  have ac3:u+1<=um.length:=by omega
  simp[Ym,Vb,ac3,wj,W0];refine⟨b.to.length-(j+1),by omega,j+1,um.set u V,rfl,by omega,by simp,?_,?_,?_,?_⟩
  .repeat (refine aA.set ?_)
   exact K
  .have oS:ab aK h h5:=(g3.trans g4).trans' g5 (fun _ _ h=>h) (fun b hb h=>by have:=NL b h;omega);exact oS.put ⟨s5,Vb⟩ (.inl (by have:=w3.new;omega))
  .have:=g5.next;simp at this⊢;omega
  .rw[Edge.Hs hx];have:(Edge.tn (Edge.iT kV k (b.to.take j)) k (u:Int))=(Edge.iT kV k (b.to.take j)).set u (xs++[(k:Int)]):=by unfold Edge.tn;rw[gP_,AW];rfl
   rw[this];simpa using w5
 .have:j=b.to.length:=by omega
  subst this;rw[we] at w3;simp[Yr,W0];exact C _ _ um g3 MD (K.set) w3
def bt(bs:List GB):List (List Int):=bs.map (·.to)
structure jV(bs:List GB):Prop where
 len:bs.length<=1000
 two:∀b∈bs,b.to.length<=2
 to:∀b∈bs,∀t∈b.to,0<=t/\t<bs.length
def AhI(h:ae)(B:SV)(bs:List GB)(d:Nat)(n0:Nat)(m:Nat)(e:Env)(h2:ae):Prop:=
 ∃(j:Nat) (ws:List SV),m=bs.length-j/\j<=bs.length/\ak e 3=.slice (some ⟨d,0,none⟩) bs.length bs.length/\ak e 13=B.v/\ak e 14=.int .i64 bs.length/\ak e 15=.int .i64 j/\ab aK h h2/\n0<=h2.next/\jU bj n0 h2 d ws (Edge.upto bs.length (bt bs) j)
theorem oo(ok:bm h){name:ByteArray}{p r:Int}{B:SV}{bs:List GB}(hB:CT h B bs)(E:jV bs):
  aF FF yf [.agg ⟨aw name p r B⟩] h (fun v h'=>ab aK h h'/\∃d ws,v=.slice (some ⟨d,0,none⟩) bs.length bs.length/\jU bj h.next h' d ws (Edge.bD (bt bs))):=by
 have ez:=SliceR.len hB;have hl:=E.len;have r1:roomy bs.length=true:=by simp[roomy];omega
 have r2:roomy (bs.length*24)=true:=by simp[roomy];omega
 refine aF.of FB ?_;unfold xQ;simp[aw,ez,r1,r2];refine aB.cut (fun h1=>ab aK h h1/\jU bj h.next h1 (h.next+1) (List.replicate bs.length d_) (List.replicate bs.length [])) ?_ ?_
 .have g1:=aP ok (aw name p r B) 0;have:=Dq (aJ h (aw name p r B) 0) g1.ok bj bs.length h.next (Nat.le_succ _);refine⟨?_,by simpa [aw,ez] using this⟩;have g2:=g1.new (jP [.slice none 0 0] bs.length) 0;simpa [aw,ez] using g2
 rintro h1⟨g1,w1⟩;have hn1:h.next+1<h1.next:=by obtain⟨s,hb⟩:=w1.aC;exact g1.ok.bC hb
 refine aB.loop (AhI h B bs (h.next+1) h.next) ?_ (n:=bs.length) ⟨0,_,rfl,by omega,by simp,by simp[ez],by simp[ez],by simp,g1,by omega,by simpa [Edge.upto] using w1⟩;rintro m e h2⟨j,ws,rfl,hj,f3,f13,f14,f15,g2,NV,w2⟩;unfold vn;by_cases aS:j<bs.length
 .have hx:bs[j]?=some bs[j]:=fI aS;have hm:=zT aS;generalize bs[j]=x at hx hm;obtain⟨bb,off,c,kC,_,_,⟨P,L,T,rfl,sP,sL,sT⟩,_,dj⟩:=SliceR.later ok hB hx;have r0:=dj h2 g2 0 6 (by decide);simp[-ag] at r0;have wj:=wrap_i64 (j+1) (by omega) (by omega);have xZ:=SliceR.len sT;simp at f13;have UJ:=f13;rw[kC,ez] at UJ;simp[f3,UJ,f14,f15,aS,r0,-ag,au];refine aB.cut (fun h3=>ab aK h2 h3) ?_ ?_
  .exact(ab.refl g2.ok).var _ _
  rintro h3 g3;have di:=g2.trans g3;refine Nw ok sT (E.two x hm) E.len (E.to x hm) (k:=j) (w2.bl g2.ok g3) (Edge.rK _ _ _) (fun u=>Edge.ov (fun ts qE=>?_) u j) (by omega) di (sD NV g3.next) (dw _) (by simp[f3]) (by simp) (by simp) (by simp[xZ]) (by simp) ?_
  .unfold bt at qE;obtain⟨y,hy,rfl⟩:=dZ.1 qE;exact E.two y hy
  .intro e' h' um g' Tu K w';have Ax:=K.at (t:=15) (by simp;exact f15);have q3:=K.at (t:=3) (by simp;exact f3);have q13:=K.at (t:=13) (by simp;exact f13);have Hq:=K.at (t:=14) (by simp;exact f14);simp[Ax,wj];refine⟨bs.length-(j+1),by omega,j+1,um,rfl,by omega,by simp[q3],by simp[q13],by simp[Hq],by simp,g',sD NV (sD g3.next Tu),?_⟩;have Rm:(bt bs)[j]?=some x.to:=by simp[bt,hx]
   have:Edge.upto bs.length (bt bs) (j+1)=Edge.iT (Edge.upto bs.length (bt bs) j) j x.to:=by show(match(bt bs)[j]? with|some ts=>Edge.iT (Edge.upto bs.length (bt bs) j) j ts|none=>Edge.upto bs.length (bt bs) j)=_;rw[Rm]
   rw[this];exact w'
 .have:j=bs.length:=by omega
  subst this;simp[f3,f14,f15];refine⟨g2,ws,?_⟩;have:Edge.bD (bt bs)=Edge.upto bs.length (bt bs) bs.length:=by simp[Edge.bD,bt]
  rw[this];exact w2
def afZ(h h2:ae)(b:GB)(kV:List (List Int))(n0 d k:Nat)(e:Env)(m:Nat)(e':Env)(h3:ae):Prop:=
 ∃(j:Nat) (um:List SV),m=b.to.length-j/\j<=b.to.length/\ak e' 24=.int .i64 j/\aA [25,26,27,7,28,29,30,31,32,33,34,35,36,37,38,24] e e'/\ab aK h h3/\h2.next<=h3.next/\jU bj n0 h3 d um (Edge.iT kV k (b.to.take j))
theorem M5(ok:bm h){b:GB}{T:SV}(hT:SliceR nR 1 h T.v b.to)(h2l:b.to.length<=2)(hn:n<=1000)(ht:∀t∈b.to,0<=t/\t<n){ws:List SV}(w:jU bj n0 h2 d ws kV)(rV:kV.length=n)(bY:∀u:Nat,((kV[u]?).getD []).length<=2*k)(hk:k<=1000)(g2:ab aK h h2)(wv:n0<=h2.next)(ao8:h.next<=n0)(f3:ak e 3=.slice (some ⟨d,0,none⟩) n n)(f4:ak e 4=.int .i64 k)(f22:ak e 22=T.v)(f23:ak e 23=.int .i64 b.to.length)(f24:ak e 24=.int .i64 0)(C:∀e' h' um,ab aK h h'->h2.next<=h'.next->aA [25,26,27,7,28,29,30,31,32,33,34,35,36,37,38,24] e e'->jU bj n0 h' d um (Edge.iT kV k b.to)->QQ (.exit 2) e' h'):
  aB FF (.loop qV) e h2 QQ:=by
 have xZ:=SliceR.len hT;refine aB.loop (afZ h h2 b kV n0 d k e) ?_ (n:=b.to.length)
  ⟨0,ws,rfl,by omega,f24,aA.refl _ _,g2,dw _,by simpa [Edge.iT] using w⟩
 rintro m e' h3⟨j,um,rfl,hj,W0,K,g3,MD,w3⟩;unfold qV;have q3:=K.at f3;have q4:=K.at f4;have q22:=K.at f22;have Yr:=K.at f23;by_cases aS:j<b.to.length
 .have hx:b.to[j]?=some b.to[j]:=fI aS;have hm:=zT aS;generalize b.to[j]=t at hx hm;obtain⟨VD,htn⟩:=ht t hm;obtain⟨u,rfl⟩:∃u:Nat,t=u:=⟨t.toNat,by omega⟩;have Ym:u<n:=by omega
  obtain⟨bT,off,c,Fj,_,_,rfl,_,dj⟩:=SliceR.later ok hT hx;have r0:=dj h3 g3 0 1 (by decide);simp[-ag] at r0;have wj:=wrap_i64 (j+1) (by omega) (by omega);obtain⟨s3,GN⟩:=w3.aC;have adW:(Edge.iT kV k (b.to.take j)).length=n:=by rw[Edge.AA,rV]
  have apU:um.length=n:=by rw[w3.len,adW]
  have hw:um[u]?=some um[u]:=fI (by omega);have AW:(Edge.iT kV k (b.to.take j))[u]?=some (Edge.iT kV k (b.to.take j))[u]:=fI (by omega);generalize um[u]=wu at hw;generalize ZB:(Edge.iT kV k (b.to.take j))[u]=xs at AW;have KV:=wJ GN hw;have adV:xs.length<1000000:=by
   have h1:=Edge.Ad k u (b.to.take j) kV;rw[AW] at h1;have GK:=bY u;simp at h1;have:(b.to.take j).length<=2:=by simp;omega
   simp at this;omega
  simp at q22;simp[-ag] at KV;have od3:=g3.ok.bC GN;simp[q3,q4,q22,Yr,W0,Fj,xZ,aS,r0,Ym,KV,-ag,od3];have g4:=aP g3.ok (bj.enc (k:Int)) 0;have w4:=w3.bl g3.ok g4;have hw4:bc bj (aJ h3 (bj.enc (k:Int)) 0) (.slice (some ⟨h3.next,0,none⟩) 1 1) [(k:Int)]:=⟨_,_,rfl,.inr ⟨h3.next,0,_,_,_,_,rfl,bS _ _ _,by simp,by simp⟩⟩;obtain⟨v',h5,ha,B0,g5,MA⟩:=lJ (bytes:=8) g4.ok (z:=[.int .i64 0]) rfl (w4.acc u wu xs hw AW) hw4 adV (by decide) (by show n0<=h3.next+1;omega);refine iE ha ?_;obtain⟨V,rfl⟩:=bH.Yu B0;obtain⟨s5,Vb,w5⟩:=w4.set g4.ok hw AW g5 B0 (fun b hb=>by rw[MA b hb];exact dw _);have NL:∀b,ax wu.v b->n0<=b:=fun b hb=>(w3.acc u wu xs hw AW).of hb;have hdl:u<=(rT.flat um).length-1:=by simp;omega
  have ac3:u+1<=um.length:=by omega
  simp[Ym,Vb,ac3,wj,W0];refine⟨b.to.length-(j+1),by omega,j+1,um.set u V,rfl,by omega,by simp,?_,?_,?_,?_⟩
  .repeat (refine aA.set ?_)
   exact K
  .have oS:ab aK h h5:=(g3.trans g4).trans' g5 (fun _ _ h=>h) (fun b hb h=>by have:=NL b h;omega);exact oS.put ⟨s5,Vb⟩ (.inl (by have:=w3.new;omega))
  .have:=g5.next;simp at this⊢;omega
  .rw[Edge.Hs hx];have:(Edge.tn (Edge.iT kV k (b.to.take j)) k (u:Int))=(Edge.iT kV k (b.to.take j)).set u (xs++[(k:Int)]):=by unfold Edge.tn;rw[gP_,AW];rfl
   rw[this];simpa using w5
 .have:j=b.to.length:=by omega
  subst this;rw[we] at w3;simp[Yr,W0];exact C _ _ um g3 MD (K.set) w3
theorem J2(ok:bm h){name:ByteArray}{p r:Int}{B:SV}{bs:List GB}(hB:CT h B bs)(E:jV bs):
  aF FF Ag [.agg ⟨aw name p r B⟩] h (fun v h'=>ab aK h h'/\∃d ws,v=.slice (some ⟨d,0,none⟩) bs.length bs.length/\jU bj h.next h' d ws (Edge.bD (bt bs))):=by
 have ez:=SliceR.len hB;have hl:=E.len;have r1:roomy bs.length=true:=by simp[roomy];omega
 have r2:roomy (bs.length*24)=true:=by simp[roomy];omega
 refine aF.of HL ?_;unfold zr;simp[aw,ez,r1,r2];refine aB.cut (fun h1=>ab aK h h1/\jU bj h.next h1 (h.next+1) (List.replicate bs.length d_) (List.replicate bs.length [])) ?_ ?_
 .have g1:=aP ok (aw name p r B) 0;have:=Dq (aJ h (aw name p r B) 0) g1.ok bj bs.length h.next (Nat.le_succ _);refine⟨?_,by simpa [aw,ez] using this⟩;have g2:=g1.new (jP [.slice none 0 0] bs.length) 0;simpa [aw,ez] using g2
 rintro h1⟨g1,w1⟩;have hn1:h.next+1<h1.next:=by obtain⟨s,hb⟩:=w1.aC;exact g1.ok.bC hb
 refine aB.loop (AhI h B bs (h.next+1) h.next) ?_ (n:=bs.length) ⟨0,_,rfl,by omega,by simp,by simp[ez],by simp[ez],by simp,g1,by omega,by simpa [Edge.upto] using w1⟩;rintro m e h2⟨j,ws,rfl,hj,f3,f13,f14,f15,g2,NV,w2⟩;unfold wF;by_cases aS:j<bs.length
 .have hx:bs[j]?=some bs[j]:=fI aS;have hm:=zT aS;generalize bs[j]=x at hx hm;obtain⟨bb,off,c,kC,_,_,⟨P,L,T,rfl,sP,sL,sT⟩,_,dj⟩:=SliceR.later ok hB hx;have r0:=dj h2 g2 0 6 (by decide);simp[-ag] at r0;have wj:=wrap_i64 (j+1) (by omega) (by omega);have xZ:=SliceR.len sT;simp at f13;have UJ:=f13;rw[kC,ez] at UJ;simp[f3,UJ,f14,f15,aS,r0,-ag,au];refine aB.cut (fun h3=>ab aK h2 h3) ?_ ?_
  .exact(ab.refl g2.ok).var _ _
  rintro h3 g3;have di:=g2.trans g3;refine M5 ok sT (E.two x hm) E.len (E.to x hm) (k:=j) (w2.bl g2.ok g3) (Edge.rK _ _ _) (fun u=>Edge.ov (fun ts qE=>?_) u j) (by omega) di (sD NV g3.next) (dw _) (by simp[f3]) (by simp) (by simp) (by simp[xZ]) (by simp) ?_
  .unfold bt at qE;obtain⟨y,hy,rfl⟩:=dZ.1 qE;exact E.two y hy
  .intro e' h' um g' Tu K w';have Ax:=K.at (t:=15) (by simp;exact f15);have q3:=K.at (t:=3) (by simp;exact f3);have q13:=K.at (t:=13) (by simp;exact f13);have Hq:=K.at (t:=14) (by simp;exact f14);simp[Ax,wj];refine⟨bs.length-(j+1),by omega,j+1,um,rfl,by omega,by simp[q3],by simp[q13],by simp[Hq],by simp,g',sD NV (sD g3.next Tu),?_⟩;have Rm:(bt bs)[j]?=some x.to:=by simp[bt,hx]
   have:Edge.upto bs.length (bt bs) (j+1)=Edge.iT (Edge.upto bs.length (bt bs) j) j x.to:=by show(match(bt bs)[j]? with|some ts=>Edge.iT (Edge.upto bs.length (bt bs) j) j ts|none=>Edge.upto bs.length (bt bs) j)=_;rw[Rm]
   rw[this];exact w'
 .have:j=bs.length:=by omega
  subst this;simp[f3,f14,f15];refine⟨g2,ws,?_⟩;have:Edge.bD (bt bs)=Edge.upto bs.length (bt bs) bs.length:=by simp[Edge.bD,bt]
  rw[this];exact w2
structure uv(b:GB):Prop where
 ph:b.dQ.length<=140737488355328
 li:b.list.length<=140737488355328
 to:b.to.length<=140737488355328
 row:∀p∈b.dQ,p.row.length<=140737488355328
 args:∀x∈b.list,x.args.length<=140737488355328
def vE(n:Nat)(ai:Int)(bs:List GB):Prop:=∀b∈bs,JK n ai b
theorem vE.take{n:Nat}{ai:Int}{bs:List GB}{j:Nat}{b:GB}(h:vE n ai (bs.take j))(hx:bs[j]?=some b)(hb:JK n ai b):vE n ai (bs.take (j+1)):=by
 intro x rQ;rw[v9,hx] at rQ;rcases lE.1 rQ with h1|h1
 .exact h x h1
 .simp at h1;rw[h1];exact hb
theorem vE.ends{ai:Int}{bs:List GB}(h:vE bs.length ai bs)(hl:bs.length<=1000):jV bs:=by
 refine⟨hl,fun b hb=>?_,fun b hb t ht=>?_⟩
 .rcases(h b hb).kind with⟨_,e⟩|⟨_,t,e⟩|⟨_,t,u,e,_⟩<;>rw[e]<;>simp
 .have:=(h b hb).to t ht;unfold aaq at this;omega
section
variable{gs fs blocks ah:SV}{name:ByteArray}{params ai:Int}
def alF(h:ae)(gs fs B ah:SV)(name:ByteArray)(params ai:Int)(bs:List GB)(m:Nat)(e:Env)(h2:ae):Prop:=
 ∃j:Nat,m=bs.length-j/\j<=bs.length/\ak e 1=.pointer (some ⟨h.next,0,none⟩)/\ak e 16=B.v/\ak e 17=.int .i64 bs.length/\ak e 18=.int .i64 j/\ab aK h h2/\h2.tr.get h.next=some (.aC (aL gs fs name params ai B ah) false 0 0)/\vE bs.length ai (bs.take j)
theorem QP(ok:bm h)(hw:CA h)(hr:0<=ai/\ai<1000000){B:SV}{bs:List GB}(hB:CT h B bs)(hl:bs.length<=1000)(sm:∀b∈bs,uv b)(g1:ab aK h h1)(Nz:h1.tr.get h.next=some (.aC (aL gs fs name params ai B ah) false 0 0))(f1:ak e 1=.pointer (some ⟨h.next,0,none⟩))(f16:ak e 16=B.v)(f17:ak e 17=.int .i64 bs.length)(f18:ak e 18=.int .i64 0)(bad:∀c e' h',c≠0->ak e' 2=.int .i64 c->ab aK h h'->QQ .ret e' h')(yQ:∀e' h',ak e' 1=.pointer (some ⟨h.next,0,none⟩)->ab aK h h'->h'.tr.get h.next=some (.aC (aL gs fs name params ai B ah) false 0 0)->vE bs.length ai bs->QQ (.exit 0) e' h'):
  aB FF (.loop iS) e h1 QQ:=by
 have ez:=SliceR.len hB;refine aB.loop (alF h gs fs B ah name params ai bs) ?_ (n:=bs.length) ⟨0,rfl,by omega,f1,f16,f17,f18,g1,Nz,fun b hb=>by simp at hb⟩;rintro m e h2⟨j,rfl,hj,f1,f16,f17,f18,g2,vv,hE⟩;unfold iS;by_cases aS:j<bs.length
 .have hx:bs[j]?=some bs[j]:=fI aS;have hm:=zT aS;generalize bs[j]=x at hx hm;obtain⟨bb,off,c,kC,_,_,⟨P,L,T,rfl,sP,sL,sT⟩,_,dj⟩:=SliceR.later ok hB hx;have r0:=dj h2 g2 0 6 (by decide);simp[-ag] at r0;have wj:=wrap_i64 (j+1) (by omega) (by omega);have oC2:=g2.ok.bC vv;have wg:=vv;simp only[aL] at wg;have acr:=f16;simp at acr;rw[kC,ez] at acr;simp[f1,acr,f17,f18,aS,r0,-ag,au,aX,aN,oC2,av wg];refine aG.cut (fun h3=>ab aK h2 h3) ?_ ?_
  .exact(ab.refl g2.ok).var _ _
  rintro h3 g3;have di:=g2.trans g3;refine aG.call (V:=tJ (fun c=>c=0->JK bs.length ai x) h3) ?_ ?_
  .have E:aF FF kN [.agg ⟨aL gs fs name params ai B ah⟩,.agg ⟨[.int .i64 x.kind,.bool x.on.1,.int .i64 x.on.2,T.v]⟩] h3 (tJ (fun c=>c=0->JK bs.length ai x) h3):=by rw[<-ez];exact UD di.ok (hw.grow ok di) hr (by omega) (b:=x) (by have:=(sm x hm).to;omega) (sT.mono ok di fun _ _ h=>h)
   simpa [aL,ez] using E
  rintro _ h4⟨g4,c,rfl,hc⟩;have me:=di.trans g4;by_cases he:c=0
  .subst he;simp[f18,wj];refine⟨bs.length-(j+1),by omega,j+1,rfl,by omega,by simp[f1],by simp[f16],by simp[f17],by simp,me,(g3.trans g4).get g2.ok vv,hE.take hx (hc rfl)⟩
  .have:=qP he;simp[this];exact bad c _ _ he (by simp) me
 .have:j=bs.length:=by omega
  subst this;rw[we] at hE;simp[f17,f18];exact yQ _ _ (by simp[f1]) g2 vv hE
structure TN(ai:Int)(td:List (List Int))(i:Nat)(b:GB):Prop where
 dQ:∀p∈b.dQ,i≠0/\∃l,td[i]?=some l/\Gf ai l.length p
 list:∀x∈b.list,zo ai x
def MG(ai:Int)(td:List (List Int))(bs:List GB):Prop:=∀(i:Nat) b,bs[i]?=some b->TN ai td i b
def al9(h h1:ae)(e0:Env)(P:SV)(ai:Int)(n:Nat)(i:Nat)(ps:List GP)(C:Nat)(cc:List Value)(sC:Nat)(m:Nat)(e:Env)(h2:ae):Prop:=
 ∃j:Nat,m=ps.length-j/\j<=ps.length/\aA [47,48,49,9,50,51,52,53,10,54,55,56,57,46,2] e0 e/\ak e 46=.int .i64 j/\ab aK h1 h2/\∀p∈ps.take j,i≠0/\Gf ai n p
theorem QS(ok:bm h)(hr:0<=ai/\ai<1000000){B AH:SV}{i:Nat}{l:List Int}(hi:kV[i]?=some l)(hA:SliceR (Yo h1) 1 h1 AH.v kV){P:SV}{ps:List GP}(hP:SliceR (pR h) 2 h P.v ps)(uj:ps.length<=140737488355328)(sm:∀p∈ps,p.row.length<=140737488355328)(g1:ab aK h h1)(Nz:h1.tr.get C=some (.aC (aL gs fs name params ai B AH) false 0 sC))(f1:ak e 1=.pointer (some ⟨C,0,none⟩))(f6:ak e 6=.int .i64 i)(f44:ak e 44=P.v)(f45:ak e 45=.int .i64 ps.length)(f46:ak e 46=.int .i64 0)(bad:∀c e' h',c≠0->ak e' 2=.int .i64 c->ab aK h1 h'->QQ .ret e' h')(yQ:∀e' h',aA [47,48,49,9,50,51,52,53,10,54,55,56,57,46,2] e e'->ab aK h1 h'->(∀p∈ps,i≠0/\Gf ai l.length p)->QQ (.exit 4) e' h'):
  aB FF (.loop iP) e h1 QQ:=by
 have kj:=SliceR.len hP;refine aB.loop (al9 h h1 e P ai l.length i ps C (aL gs fs name params ai B AH) sC) ?_ (n:=ps.length) ⟨0,rfl,by omega,aA.refl _ _,f46,.refl g1.ok,fun p hp=>by simp at hp⟩;rintro m e' h2⟨j,rfl,hj,K,q46,g2,hE⟩;have mz:=g1.trans g2;unfold iP;have q1:=K.at f1;have q6:=K.at f6;have Jb:=K.at f44;have OC:=K.at f45;by_cases aS:j<ps.length
 .have hx:ps[j]?=some ps[j]:=fI aS;have hm:=zT aS;generalize ps[j]=x at hx hm;obtain⟨bb,off,c,rM,_,_,⟨W,rfl,sW⟩,_,dj⟩:=SliceR.later ok hP hx;have r0:=dj h2 mz 0 2 (by decide);simp[-ag] at r0;have wj:=wrap_i64 (j+1) (by omega) (by omega);have vv:=g2.get g1.ok Nz;have oC2:=g2.ok.bC vv;simp only[aL] at vv;simp at Jb;rw[rM,kj] at Jb;simp[q1,q6,Jb,OC,q46,aS,r0,-ag,au,aX,aN,oC2,av vv];refine aG.cut (fun h3=>ab aK h2 h3) ?_ ?_
  .exact(ab.refl g2.ok).var _ _
  rintro h3 g3;have di:=mz.trans g3;have Kv:=g2.trans g3;refine aG.call (V:=tJ (fun c=>c=0->i≠0/\Gf ai l.length x) h3) ?_ ?_
  .have E:aF FF kO [.agg ⟨aL gs fs name params ai B AH⟩,.int .i64 i,.agg ⟨[.int .i64 x.dst,W.v]⟩] h3 (tJ (fun c=>c=0->i≠0/\Gf ai l.length x) h3):=
    WV di.ok hr (hA.mono g1.ok Kv fun _ _ r=>r.mono g1.ok Kv) hi (by have:=sm x hm;omega) (sW.mono ok di fun _ _ h=>h)
   simpa [aL] using E
  rintro _ h4⟨g4,c,rfl,hc⟩;have Tj:=Kv.trans g4;by_cases he:c=0
  .subst he;simp[q46,wj];refine⟨ps.length-(j+1),by omega,j+1,rfl,by omega,?_,by simp,Tj,?_⟩
   .repeat (refine aA.set ?_)
    exact K
   .intro p hp;rw[v9,hx] at hp;rcases lE.1 hp with h|h
    .exact hE p h
    .simp at h;rw[h];exact hc rfl
  .have:=qP he;simp[this];exact bad c _ _ he (by simp) Tj
 .have:j=ps.length:=by omega
  subst this;rw[we] at hE;simp[OC,q46];exact yQ _ _ (K.set) g2 hE
def alO(h h1:ae)(e0:Env)(ai:Int)(xs:List GI)(m:Nat)(e:Env)(h2:ae):Prop:=
 ∃j:Nat,m=xs.length-j/\j<=xs.length/\aA [62,63,64,12,65,66,67,13,68,69,70,71,61,2] e0 e/\ak e 61=.int .i64 j/\ab aK h1 h2/\∀x∈xs.take j,zo ai x
theorem QR(ok:bm h)(hr:0<=ai/\ai<1000000){B AH:SV}{funcs:List GF}(hF:SliceR (fR h) 4 h fs.v funcs)(iC:funcs.length<1000000/\∀f∈funcs,f.params<=6){L:SV}{xs:List GI}(hL:SliceR (iR h) 8 h L.v xs)(rV:xs.length<=140737488355328)(sm:∀x∈xs,x.args.length<=140737488355328)(g1:ab aK h h1)(Nz:h1.tr.get C=some (.aC (aL gs fs name params ai B AH) false 0 sC))(f1:ak e 1=.pointer (some ⟨C,0,none⟩))(f59:ak e 59=L.v)(f60:ak e 60=.int .i64 xs.length)(f61:ak e 61=.int .i64 0)(bad:∀c e' h',c≠0->ak e' 2=.int .i64 c->ab aK h1 h'->QQ .ret e' h')(yQ:∀e' h',aA [62,63,64,12,65,66,67,13,68,69,70,71,61,2] e e'->ab aK h1 h'->(∀x∈xs,zo ai x)->QQ (.exit 6) e' h'):
  aB FF (.loop iO) e h1 QQ:=by
 have ui:=SliceR.len hL;refine aB.loop (alO h h1 e ai xs) ?_ (n:=xs.length) ⟨0,rfl,by omega,aA.refl _ _,f61,.refl g1.ok,fun p hp=>by simp at hp⟩;rintro m e' h2⟨j,rfl,hj,K,q61,g2,hE⟩;have mz:=g1.trans g2;unfold iO;have q1:=K.at f1;have q59:=K.at f59;have q60:=K.at f60;by_cases aS:j<xs.length
 .have hx:xs[j]?=some xs[j]:=fI aS;have hm:=zT aS;generalize xs[j]=x at hx hm;obtain⟨bb,off,c,Y4,_,_,⟨W,rfl,sW⟩,_,dj⟩:=SliceR.later ok hL hx;have r0:=dj h2 mz 0 8 (by decide);simp[aI,-ag] at r0;have wj:=wrap_i64 (j+1) (by omega) (by omega);have vv:=g2.get g1.ok Nz;have oC2:=g2.ok.bC vv;simp only[aL] at vv;simp at q59;rw[Y4,ui] at q59;simp[q1,q59,q60,q61,aS,r0,-ag,au,aX,aN,oC2,av vv];refine aG.cut (fun h3=>ab aK h2 h3) ?_ ?_
  .exact(ab.refl g2.ok).var _ _
  rintro h3 g3;have di:=mz.trans g3;have Kv:=g2.trans g3;refine aG.call (V:=tJ (fun c=>c=0->zo ai x) h3) ?_ ?_
  .have E:=VM (gs:=gs) (fs:=fs) (name:=name) (params:=params) (ai:=ai) (blocks:=B) (ah:=AH) di.ok hr (hF.mono ok di fun _ _ r=>r.mono ok di) iC (x:=x) (sW.mono ok di fun _ _ h=>h) (by have:=sm x hm;omega);simpa [aL,aI] using E
  rintro _ h4⟨g4,c,rfl,hc⟩;have Tj:=Kv.trans g4;by_cases he:c=0
  .subst he;simp[q61,wj];refine⟨xs.length-(j+1),by omega,j+1,rfl,by omega,?_,by simp,Tj,?_⟩
   .repeat (refine aA.set ?_)
    exact K
   .intro p hp;rw[v9,hx] at hp;rcases lE.1 hp with h|h
    .exact hE p h
    .simp at h;rw[h];exact hc rfl
  .have:=qP he;simp[this];exact bad c _ _ he (by simp) Tj
 .have:j=xs.length:=by omega
  subst this;rw[we] at hE;simp[q60,q61];exact yQ _ _ (K.set) g2 hE
end
section
variable{gs fs blocks ah:SV}{name:ByteArray}{params ai:Int}
def BlI(h h1:ae)(C:Nat)(B:SV)(ai:Int)(bs:List GB)(kV:List (List Int))(m:Nat)(e:Env)(h2:ae):Prop:=
 ∃j:Nat,m=bs.length-j/\j<=bs.length/\ak e 1=.pointer (some ⟨C,0,none⟩)/\ak e 36=B.v/\ak e 37=.int .i64 bs.length/\ak e 38=.int .i64 j/\ab aK h1 h2/\MG ai kV (bs.take j)
theorem JV(ok:bm h)(hr:0<=ai/\ai<1000000){B AH:SV}{bs:List GB}(rV:kV.length=bs.length)(hA:SliceR (Yo h1) 1 h1 AH.v kV){funcs:List GF}(hF:SliceR (fR h) 4 h fs.v funcs)(iC:funcs.length<1000000/\∀f∈funcs,f.params<=6)(hB:CT h B bs)(hl:bs.length<=1000)(sm:∀b∈bs,uv b)(g1:ab aK h h1)(Nz:h1.tr.get C=some (.aC (aL gs fs name params ai B AH) false 0 sC))(f1:ak e 1=.pointer (some ⟨C,0,none⟩))(f36:ak e 36=B.v)(f37:ak e 37=.int .i64 bs.length)(f38:ak e 38=.int .i64 0)(bad:∀c e' h',c≠0->ak e' 2=.int .i64 c->ab aK h1 h'->QQ .ret e' h')(yQ:∀e' h',ab aK h1 h'->MG ai kV bs->QQ (.exit 2) e' h'):
  aB FF (.loop iQ) e h1 QQ:=by
 have ez:=SliceR.len hB;refine aB.loop (BlI h h1 C B ai bs kV) ?_ (n:=bs.length) ⟨0,rfl,by omega,f1,f36,f37,f38,.refl g1.ok,fun i b hb=>by simp at hb⟩;rintro m e h2⟨j,rfl,hj,f1,f36,f37,f38,g2,hE⟩;have mz:=g1.trans g2;unfold iQ;by_cases aS:j<bs.length
 .have hx:bs[j]?=some bs[j]:=fI aS;have hm:=zT aS;generalize bs[j]=x at hx hm;obtain⟨bb,off,c,kC,_,_,⟨P,L,T,rfl,sP,sL,sT⟩,_,dj⟩:=SliceR.later ok hB hx;have r0:=dj h2 mz 0 6 (by decide);simp[-ag] at r0;have wj:=wrap_i64 (j+1) (by omega) (by omega);have kj:=SliceR.len sP;have ui:=SliceR.len sL;have acu:=f36;simp at acu;rw[kC,ez] at acu;obtain⟨l,gY⟩:=aE kV j;simp[acu,f37,f38,aS,r0,-ag,au,aX,aN];refine aB.cut (fun h3=>ab aK h2 h3/\∃s,h3.tr.get h2.next=some (.aC [P.v,L.v,.int .i64 x.kind,.bool x.on.1,.int .i64 x.on.2,T.v] false 0 s)) ?_ ?_
  .exact⟨(ab.refl g2.ok).var _ _,h2.clock,by simp⟩
  rintro h3⟨g3,s3,PI⟩;have di:=mz.trans g3;have Kv:=g2.trans g3;refine QS (C:=C) di.ok hr gY (hA.mono g1.ok Kv fun _ _ r=>r.mono g1.ok Kv) (sP.mono ok di fun _ _ r=>r.mono ok di) (sm x hm).ph (sm x hm).row (.refl di.ok) (Kv.get g1.ok Nz) (by simp[f1]) (by simp) (by simp) (by simp[kj]) (by simp) ?_ ?_
  .intro c e' h' hc q g';simp[q];exact bad c _ _ hc q (Kv.trans g')
  .intro e4 h4 K4 g4 hph;have Tj:=Kv.trans g4;have me:=g1.trans Tj;have q7:=K4.at (t:=7) (v:=.pointer (some ⟨h2.next,0,none⟩)) (by simp);have q1:=K4.at (t:=1) (v:=.pointer (some ⟨C,0,none⟩)) (by simp[f1]);have q36:=K4.at (t:=36) (v:=B.v) (by simp;exact f36);have q37:=K4.at (t:=37) (v:=.int .i64 bs.length) (by simp[f37]);have Sx:=K4.at (t:=38) (v:=.int .i64 j) (by simp[f38]);have XZ:=g4.get di.ok PI;simp at XZ;simp[q7,XZ];refine QR (C:=C) me.ok hr (hF.mono ok me fun _ _ r=>r.mono ok me) iC (sL.mono ok me fun _ _ r=>r.mono ok me) (sm x hm).li (sm x hm).args (.refl me.ok) (Tj.get g1.ok Nz) (by simp[q1]) (by simp) (by simp[ui]) (by simp) ?_ ?_
   .intro c e' h' hc q g';simp[q];exact bad c _ _ hc q (Tj.trans g')
   .intro e5 h5 K5 g5 hli;have u1:=K5.at (t:=1) (v:=.pointer (some ⟨C,0,none⟩)) (by simp[q1]);have u36:=K5.at (t:=36) (v:=B.v) (by simp;simpa using q36);have u37:=K5.at (t:=37) (v:=.int .i64 bs.length) (by simp[q37]);have u38:=K5.at (t:=38) (v:=.int .i64 j) (by simp[Sx]);simp[u38,wj];refine⟨bs.length-(j+1),by omega,j+1,rfl,by omega,by simp[u1],by simp;simpa using u36,by simp[u37],by simp,Tj.trans g5,?_⟩;intro i b hb;rw[v9,hx] at hb;by_cases hi:i<j
    .rw[Ky (by simp;omega)] at hb;exact hE i b hb
    .rw[Mu (by simp;omega)] at hb;have wq:i=j:=by have:=(cr.mp hb).1;simp at this;omega
     subst wq;simp at hb;have:i-min i bs.length=0:=by omega
     rw[this] at hb;simp at hb;subst hb;exact⟨fun p hp=>⟨(hph p hp).1,l,gY,(hph p hp).2⟩,hli⟩
 .have:j=bs.length:=by omega
  subst this;rw[we] at hE;simp[f37,f38];exact yQ _ _ g2 hE
structure AZ(ai:Int)(bs:List GB):Prop where
 ends:vE bs.length ai bs
 HJ:MG ai (Edge.bD (bt bs)) bs
theorem QO(ok:bm h)(hw:CA h)(hr:0<=ai/\ai<1000000){B:SV}{bs:List GB}{funcs:List GF}(hF:SliceR (fR h) 4 h fs.v funcs)(iC:funcs.length<1000000/\∀f∈funcs,f.params<=6)(hB:CT h B bs)(hl:bs.length<=1000)(sm:∀b∈bs,uv b):
  aF FF pF [.agg ⟨aL gs fs name params ai B ah⟩] h (tJ (fun c=>c=0->AZ ai bs) h):=by
 have ez:=SliceR.len hB;refine aF.of xv ?_;unfold pw;simp[aL,ez];refine aB.cut (fun h1=>ab aK h h1/\h1.tr.get h.next=some (.aC (aL gs fs name params ai B ah) false 0 0)) ?_ ?_
 .exact⟨(ab.refl ok).new _ _,by simp[aL,ez]⟩
 rintro h1⟨g1,Nz⟩;refine QP ok hw hr hB hl sm g1 Nz (by simp) (by simp[ez]) (by simp) (by simp) ?_ ?_
 .intro c e' h' hc q g';simp[q];exact⟨g',c,rfl,fun h=>absurd h hc⟩
 .intro e2 h2 q1 g2 vv hE;have wg:=vv;simp[aL] at wg;simp[q1,wg];have A:=J2 g2.ok (name:=name) (p:=params) (r:=ai) (hB.mono ok g2) (hE.ends hl);refine aG.call (V:=fun v h'=>ab aK h2 h'/\∃d ws,v=.slice (some ⟨d,0,none⟩) bs.length bs.length/\jU bj h2.next h' d ws (Edge.bD (bt bs))) (by simpa [aw] using A) ?_;rintro _ h3⟨g3,d,ws,rfl,w3⟩;have di:=g2.trans g3;have Mx:=g3.get g2.ok vv;have Y0:=Mx;simp[aL] at Y0;simp[q1,Y0];have rV:(Edge.bD (bt bs)).length=bs.length:=by rw[Edge.eQ];simp[bt]
  have oC3:=(g2.ok.bC vv).lt;refine aB.cut (fun h4=>ab aK h h4/\SliceR (Yo h4) 1 h4 (SV.v ⟨some ⟨d,0,none⟩,bs.length,bs.length⟩) (Edge.bD (bt bs))/\∃s,h4.tr.get h.next=some (.aC (aL gs fs name params ai B ⟨some ⟨d,0,none⟩,bs.length,bs.length⟩) false 0 s)) ?_ ?_
  .have gp:ab (· =h.next) h3 (put h3 h.next 6 [.slice gs.a gs.l gs.c,.slice fs.a fs.l fs.c,.string name,.int .i64 params,.int .i64 ai,.slice B.a B.l B.c,.slice ah.a ah.l ah.c] [.slice (some ⟨d,0,none⟩) bs.length bs.length] 0):=aQ di.ok Y0;refine⟨di.put ⟨_,Y0⟩ (.inl (dw _)),?_,h3.clock,by simp[aL]⟩;have w4:=w3.grow di.ok gp (fun b hb e=>by omega);have:=Pt (c:=bs.length) w4;rw[rV] at this;simpa using this
  rintro h4⟨g4,YY,s4,UZ⟩;refine JV (AH:=⟨some ⟨d,0,none⟩,bs.length,bs.length⟩) ok hr rV YY hF iC hB hl sm g4 UZ (by simp[q1]) (by simp) (by simp[ez]) (by simp) ?_ ?_
  .intro c e' h' hc q g';simp[q];exact⟨g4.trans g',c,rfl,fun h=>absurd h hc⟩
  .intro e' h' g' hb;simp;exact⟨g4.trans g',0,rfl,fun _=>⟨hE,hb⟩⟩
end
def aga(h:ae)(s:ByteArray)(m:Nat)(e:Env)(h2:ae):Prop:=∃j:Nat,m=s.size-j/\ak e 0=.string s/\ak e 14=.int .i64 s.size/\ak e 15=.int .i64 j/\h2=h/\j<=s.size
theorem Hf(h:ae)(s:ByteArray):aF FF Cg [.string s] h (fun v h'=>h'=h/\∃b:Bool,v=.bool b):=by
 refine aF.of JW ?_;unfold BH;by_cases h1:s.size<1
 .have Iy:(s.size:Int)<1:=by omega
  simp[Iy]
 have Iy:¬(s.size:Int)<1:=by omega
 by_cases h2:12<s.size
 .have GK:(12:Int)<s.size:=by omega
  simp[Iy,GK]
 have GK:¬(12:Int)<s.size:=by omega
 simp[Iy,GK];refine aB.loop (aga h s) ?_ (n:=s.size)
  ⟨0,rfl,by simp,by simp,by simp,rfl,by omega⟩
 rintro m e h3⟨j,rfl,f0,f14,f15,rfl,hj⟩;unfold yl;by_cases aS:j<s.size
 .have wj:=wrap_i64 (j+1) (by omega) (by omega);obtain⟨c,hc⟩:∃c:Int,((s[j]'aS).toNat:Int)=c:=⟨_,rfl⟩;by_cases k1:97<=c
  .by_cases k2:c<=122
   .have k3:¬122<c:=by omega
    have k4:¬c<97:=by omega
    simp[f0,f14,f15,aS,hc,k1,k2,k3,k4,wj];exact⟨s.size-(j+1),by omega,j+1,rfl,by simp[f0],by simp[f14],by simp,rfl,by omega⟩
   .have k3:122<c:=by omega
    have k4:¬c<97:=by omega
    by_cases q1:65<=c
    .by_cases q2:c<=90
     .have q3:¬90<c:=by omega
      have q4:¬c<65:=by omega
      simp[f0,f14,f15,aS,hc,k1,k2,k3,k4,q1,q2,q3,q4,wj];exact⟨s.size-(j+1),by omega,j+1,rfl,by simp[f0],by simp[f14],by simp,rfl,by omega⟩
     .have q3:90<c:=by omega
      have q4:¬c<65:=by omega
      by_cases u1:c=95
      .have u2:(c==95)=true:=by simpa using u1
       simp[f0,f14,f15,aS,hc,k1,k2,k3,k4,q1,q2,q3,q4,u2,wj];exact⟨s.size-(j+1),by omega,j+1,rfl,by simp[f0],by simp[f14],by simp,rfl,by omega⟩
      .have u2:(c==95)=false:=by simpa using u1
       by_cases d1:0<j
       .have d2:¬(j=0):=by omega
        by_cases p1:48<=c
        .by_cases p2:c<=57
         .have p3:¬57<c:=by omega
          have p4:¬c<48:=by omega
          simp[f0,f14,f15,aS,hc,k1,k2,k3,k4,q1,q2,q3,q4,u2,d1,d2,p1,p2,p3,p4,wj];exact⟨s.size-(j+1),by omega,j+1,rfl,by simp[f0],by simp[f14],by simp,rfl,by omega⟩
         .have p3:57<c:=by omega
          have p4:¬c<48:=by omega
          simp[f0,f14,f15,aS,hc,k1,k2,k3,k4,q1,q2,q3,q4,u2,d1,d2,p1,p2,p3,p4]
        .have p2:c<48:=by omega
         simp[f0,f14,f15,aS,hc,k1,k2,k3,k4,q1,q2,q3,q4,u2,d1,d2,p1,p2]
       .have d2:j=0:=by omega
        subst d2;simp[f0,f14,f15,aS,hc,k1,k2,k3,k4,q1,q2,q3,q4,u2]
    .have q2:c<65:=by omega
     by_cases u1:c=95
     .have u2:(c==95)=true:=by simpa using u1
      simp[f0,f14,f15,aS,hc,k1,k2,k3,k4,q1,q2,u2,wj];exact⟨s.size-(j+1),by omega,j+1,rfl,by simp[f0],by simp[f14],by simp,rfl,by omega⟩
     .have u2:(c==95)=false:=by simpa using u1
      by_cases d1:0<j
      .have d2:¬(j=0):=by omega
       by_cases p1:48<=c
       .by_cases p2:c<=57
        .have p3:¬57<c:=by omega
         have p4:¬c<48:=by omega
         simp[f0,f14,f15,aS,hc,k1,k2,k3,k4,q1,q2,u2,d1,d2,p1,p2,p3,p4,wj];exact⟨s.size-(j+1),by omega,j+1,rfl,by simp[f0],by simp[f14],by simp,rfl,by omega⟩
        .have p3:57<c:=by omega
         have p4:¬c<48:=by omega
         simp[f0,f14,f15,aS,hc,k1,k2,k3,k4,q1,q2,u2,d1,d2,p1,p2,p3,p4]
       .have p2:c<48:=by omega
        simp[f0,f14,f15,aS,hc,k1,k2,k3,k4,q1,q2,u2,d1,d2,p1,p2]
      .have d2:j=0:=by omega
       subst d2;simp[f0,f14,f15,aS,hc,k1,k2,k3,k4,q1,q2,u2]
  .have k2:c<97:=by omega
   by_cases q1:65<=c
   .by_cases q2:c<=90
    .have q3:¬90<c:=by omega
     have q4:¬c<65:=by omega
     simp[f0,f14,f15,aS,hc,k1,k2,q1,q2,q3,q4,wj];exact⟨s.size-(j+1),by omega,j+1,rfl,by simp[f0],by simp[f14],by simp,rfl,by omega⟩
    .have q3:90<c:=by omega
     have q4:¬c<65:=by omega
     by_cases u1:c=95
     .have u2:(c==95)=true:=by simpa using u1
      simp[f0,f14,f15,aS,hc,k1,k2,q1,q2,q3,q4,u2,wj];exact⟨s.size-(j+1),by omega,j+1,rfl,by simp[f0],by simp[f14],by simp,rfl,by omega⟩
     .have u2:(c==95)=false:=by simpa using u1
      by_cases d1:0<j
      .have d2:¬(j=0):=by omega
       by_cases p1:48<=c
       .by_cases p2:c<=57
        .have p3:¬57<c:=by omega
         have p4:¬c<48:=by omega
         simp[f0,f14,f15,aS,hc,k1,k2,q1,q2,q3,q4,u2,d1,d2,p1,p2,p3,p4,wj];exact⟨s.size-(j+1),by omega,j+1,rfl,by simp[f0],by simp[f14],by simp,rfl,by omega⟩
        .have p3:57<c:=by omega
         have p4:¬c<48:=by omega
         simp[f0,f14,f15,aS,hc,k1,k2,q1,q2,q3,q4,u2,d1,d2,p1,p2,p3,p4]
       .have p2:c<48:=by omega
        simp[f0,f14,f15,aS,hc,k1,k2,q1,q2,q3,q4,u2,d1,d2,p1,p2]
      .have d2:j=0:=by omega
       subst d2;simp[f0,f14,f15,aS,hc,k1,k2,q1,q2,q3,q4,u2]
   .have q2:c<65:=by omega
    by_cases u1:c=95
    .have u2:(c==95)=true:=by simpa using u1
     simp[f0,f14,f15,aS,hc,k1,k2,q1,q2,u2,wj];exact⟨s.size-(j+1),by omega,j+1,rfl,by simp[f0],by simp[f14],by simp,rfl,by omega⟩
    .have u2:(c==95)=false:=by simpa using u1
     by_cases d1:0<j
     .have d2:¬(j=0):=by omega
      by_cases p1:48<=c
      .by_cases p2:c<=57
       .have p3:¬57<c:=by omega
        have p4:¬c<48:=by omega
        simp[f0,f14,f15,aS,hc,k1,k2,q1,q2,u2,d1,d2,p1,p2,p3,p4,wj];exact⟨s.size-(j+1),by omega,j+1,rfl,by simp[f0],by simp[f14],by simp,rfl,by omega⟩
       .have p3:57<c:=by omega
        have p4:¬c<48:=by omega
        simp[f0,f14,f15,aS,hc,k1,k2,q1,q2,u2,d1,d2,p1,p2,p3,p4]
      .have p2:c<48:=by omega
       simp[f0,f14,f15,aS,hc,k1,k2,q1,q2,u2,d1,d2,p1,p2]
     .have d2:j=0:=by omega
      subst d2;simp[f0,f14,f15,aS,hc,k1,k2,q1,q2,u2]
 .have:j=s.size:=by omega
  subst this;simp[f14,f15]
def tq:Enc ByteArray:=⟨fun x=>[.string x],1,fun _=>rfl,by decide,fun _=>rfl⟩
@[simp] theorem afa:tq.sz=1:=rfl
@[simp] theorem acj(x:ByteArray):tq.enc x=[.string x]:=rfl
theorem FX(s:bc tq h v xs)(hl:xs.length<1000000)(x:ByteArray):
  aF FF iD [v,.string x] h (fun v h'=>h'=h/\∃i:Int,v=.int .i64 i):=by
 obtain⟨a,cap,rfl,_⟩:=id s;refine aF.of pa ?_;unfold iz;simp;refine aB.loop (fun m e h2=>∃j:Nat,m=xs.length-j/\j<=xs.length/\ak e 0=.slice a xs.length cap/\ak e 1=.string x/\ak e 7=.int .i64 xs.length/\ak e 8=.int .i64 j/\h2=h) ?_ (n:=xs.length)
  ⟨0,rfl,by omega,by simp,by simp,by simp,by simp,rfl⟩
 rintro m e h2⟨j,rfl,hj,f0,f1,f7,f8,rfl⟩;unfold gT;by_cases aS:j<xs.length
 .have hx:xs[j]?=some xs[j]:=fI aS;generalize xs[j]=y at hx;obtain⟨b,off,c,hv,_,_,dj⟩:=s.read hx;have r0:=dj 0 1 (by decide);cases hv;simp[-ag] at r0;obtain⟨j',Rm⟩:∃j',j'=j+1:=⟨_,rfl⟩;have wj:IntKind.i64.wrap ((j:Int)+1)=(j':Int):=by rw[wrap_i64 _ (by omega) (by omega)];omega
  cases PU:(x==y) with
  |true=>simp[f0,f1,f7,f8,aS,r0,PU,-ag]
  |false=>
   simp[f0,f1,f7,f8,aS,r0,PU,wj,-ag];exact⟨xs.length-j',by omega,j',rfl,by omega,rfl⟩
 .have:j=xs.length:=by omega
  subst this;simp[f7,f8]
theorem tQ(s:bc tq h v xs)(hl:xs.length<1000000)(x:ByteArray):
  aF FF gz [v,.string x] h (fun v h'=>h'=h/\∃b:Bool,v=.bool b):=by
 refine aF.of mA ?_;unfold gu;simp;refine aG.call (by simpa using FX s hl x) ?_;rintro _ h2⟨rfl,i,rfl⟩;by_cases h0:0<=i
 .simp[h0]
 .have h0':i<0:=by omega
  simp[h0,h0']
structure yv(f:GF):Prop where
 params:0<=f.params/\f.params<=6
 ai:f.params<=f.ai/\f.ai<=100
 blocks:1<=f.blocks.length/\f.blocks.length<=40
 many:fF f.blocks<=300
section
variable{gs fs ah:SV}
def af6(h:ae)(gs fs B ah:SV)(f:GF)(v:Value)(m:Nat)(e:Env)(h2:ae):Prop:=
 ∃j:Nat,m=f.blocks.length-j/\j<=f.blocks.length/\ak e 1=v/\ak e 2=.pointer (some ⟨h.next,0,none⟩)/\ak e 5=.int .i64 (IntKind.i64.wrap (fF (f.blocks.take j):Int))/\ak e 10=B.v/\ak e 11=.int .i64 f.blocks.length/\ak e 12=.int .i64 j/\ab aK h h2/\h2.tr.get h.next=some (.aC (aL gs fs f.name f.params f.ai B ah) false 0 0)
theorem Rj(ok:bm h){f:GF}{B:SV}(hB:CT h B f.blocks)(hm:Fits f.blocks)(s:bc tq h v xs)(hl:xs.length<1000000):
  aF FF pG [.agg ⟨aL gs fs f.name f.params f.ai B ah⟩,v] h (tJ (fun c=>c=0->yv f) h):=by
 have ez:=SliceR.len hB;refine aF.of xx ?_;unfold px;simp[aL,ez];refine aB.cut (fun h1=>ab aK h h1/\h1.tr.get h.next=some (.aC (aL gs fs f.name f.params f.ai B ah) false 0 0)) ?_ ?_
 .exact⟨(ab.refl ok).new _ _,by simp[aL,ez]⟩
 rintro h1⟨g1,Nz⟩;refine aB.loop (af6 h gs fs B ah f v) ?_ (n:=f.blocks.length) ⟨0,rfl,by omega,by simp,by simp,by simp[fF,wrap_i64],by simp[ez],by simp,by simp,g1,Nz⟩;rintro m e h2⟨j,rfl,hj,f1,f2,f5,f10,f11,f12,g2,vv⟩;unfold mL;by_cases aS:j<f.blocks.length
 .have hx:f.blocks[j]?=some f.blocks[j]:=fI aS;generalize f.blocks[j]=x at hx;obtain⟨bb,off,c,kC,_,_,⟨P,L,T,rfl,sP,sL,sT⟩,_,dj⟩:=SliceR.later ok hB hx;have r0:=dj h2 g2 0 6 (by decide);simp[-ag] at r0;have kj:=SliceR.len sP;have ui:=SliceR.len sL;have hle:=Ej hx;have hf:=hm.2 x (dG hx);have Tq:=hm.1;have wj:=wrap_i64 (j+1) (by omega) (by omega);have w1:IntKind.i64.wrap ((x.dQ.length:Int)+(x.list.length:Int))=(x.dQ.length:Int)+(x.list.length:Int):=wrap_i64 _ (by omega) (by omega);have w2:IntKind.i64.wrap (IntKind.i64.wrap (fF (f.blocks.take j):Int)+((x.dQ.length:Int)+(x.list.length:Int)))=IntKind.i64.wrap ((fF (f.blocks.take (j+1)):Nat):Int):=by rw[wrap_add,hle];congr 1
  have acq:=f10;simp at acq;rw[kC,ez] at acq;simp[f1,f2,f5,acq,f11,f12,aS,r0,-ag,au,kj,ui,w1,w2,wj];refine⟨f.blocks.length-(j+1),by omega,j+1,rfl,by omega,by simp[f1],by simp[f2],by simp,by simp;simpa using f10,by simp[f11],by simp,g2.var _ _,?_⟩;have oC2:=g2.ok.bC vv;simpa [oC2] using vv
 .have:j=f.blocks.length:=by omega
  subst this;rw[we] at f5;have wg:=vv;simp[aL] at wg;simp[f11,f12,f2,wg];refine aG.call (V:=fun v h'=>h'=h2/\∃b:Bool,v=.bool b) (by simpa using Hf h2 f.name) ?_;rintro _ GK⟨eh,b,rfl⟩;rw[eh];cases b with
  |false=>
   simp;exact⟨g2,12,rfl,fun h=>by cases h⟩
  |true=>
   simp[f1,f2,wg];refine aG.call (V:=fun v h'=>h'=h2/\∃b:Bool,v=.bool b) (by simpa [f1] using tQ (s.bl ok g2) hl f.name) ?_;rintro _ h2''⟨eh',b,rfl⟩;rw[eh'];cases b with
   |true=>
    simp;exact⟨g2,7,rfl,fun h=>by cases h⟩
   |false=>
    simp[f2,wg];refine aG.call (by simpa using dD h2 f.params 0 6) ?_;rintro _ h3⟨rfl,eh3⟩;rw[eh3];by_cases hp:0<=f.params/\f.params<=6
    .have hd:(decide (0<=f.params)&&decide (f.params<=6))=true:=by simpa using hp
     rw[hd];simp[f2,wg];refine aG.call (by simpa using dD h2 f.ai f.params 100) ?_;rintro _ h4⟨rfl,eh4⟩;rw[eh4];by_cases hr:f.params<=f.ai/\f.ai<=100
     .have PL:(decide (f.params<=f.ai)&&decide (f.ai<=100))=true:=by simpa using hr
      rw[PL];simp[f2,wg];refine aG.call (by simpa [ez] using dD h2 (f.blocks.length:Int) 1 40) ?_;rintro _ h5⟨rfl,eh5⟩;rw[eh5];by_cases hb:(1:Int)<=f.blocks.length/\(f.blocks.length:Int)<=40
      .have GN:(decide ((1:Int)<=f.blocks.length)&&decide ((f.blocks.length:Int)<=40))=true:=by simpa using hb
       rw[GN];rw[HC hm (by omega)] at f5;by_cases Zl:(300:Int)<fF f.blocks
       .simp[f5,Zl];exact⟨g2,2,rfl,fun h=>by cases h⟩
       .simp[f5,Zl];exact⟨g2,0,rfl,fun _=>⟨hp,hr,by omega,by omega⟩⟩
      .have GN:(decide ((1:Int)<=f.blocks.length)&&decide ((f.blocks.length:Int)<=40))=false:=by simpa using hb
       rw[GN];simp;exact⟨g2,2,rfl,fun h=>by cases h⟩
     .have PL:(decide (f.params<=f.ai)&&decide (f.ai<=100))=false:=by simpa using hr
      rw[PL];simp;exact⟨g2,3,rfl,fun h=>by cases h⟩
    .have hd:(decide (0<=f.params)&&decide (f.params<=6))=false:=by simpa using hp
     rw[hd];simp;exact⟨g2,3,rfl,fun h=>by cases h⟩
end
theorem Q9(ok:bm h){X sX:Nat}{g:GG}{I:SV}(hX:h.tr.get X=some (.aC [.string g.name,.int .i64 g.size,I.v] false 0 sX))(hI:I.l=g.init.length)(gY:g.init.length<=140737488355328)(s:bc tq h v xs)(hl:xs.length<1000000){W:Int}(hW:0<=W/\W<=200)(f3:ak e 3=v)(f4:ak e 4=.int .i64 W)(f6:ak e 6=.pointer (some ⟨X,0,none⟩))(f7:ak e 7=.int .i64 0)(H:∀c e',aA [37,38,39,40,36,7,42,43,44,45,41,47,48,49,50,46,52,53,54,55,56,57,51,59,60,61,62,63,58] e e'->ak e' 7=.int .i64 c->(c=0->1<=g.size/\(g.size<=200/\(g.init.length:Int)<=g.size)/\W+g.size<=200)->QQ .normal e' h):aB FF DW e h QQ:=by
 unfold DW;simp at hX;simp[f6,hX];refine aG.call (V:=fun v h'=>h'=h/\∃b:Bool,v=.bool b) (by simpa using Hf h g.name) ?_;rintro _ h2⟨eh,b,rfl⟩;rw[eh];cases b with
 |false=>
  simp;exact H 12 _ (by(repeat refine aA.set ?_);exact aA.refl _ _) (by simp) (fun h=>by cases h)
 |true=>
  simp[f3,f6,hX];refine aG.call (V:=fun v h'=>h'=h/\∃b:Bool,v=.bool b) (by simpa [f3] using tQ s hl g.name) ?_;rintro _ h3⟨eh3,b,rfl⟩;rw[eh3];cases b with
  |true=>
   simp;exact H 7 _ (by(repeat refine aA.set ?_);exact aA.refl _ _) (by simp) (fun h=>by cases h)
  |false=>
   simp[f6,hX];refine aG.call (by simpa using dD h g.size 1 200) ?_;rintro _ h4⟨rfl,eh4⟩;rw[eh4];by_cases hp:1<=g.size/\g.size<=200
   .have hd:(decide (1<=g.size)&&decide (g.size<=200))=true:=by simpa using hp
    rw[hd];by_cases hi:g.size<(I.l:Int)
    .simp[f6,hX,hi];exact H 9 _ (by(repeat refine aA.set ?_);exact aA.refl _ _) (by simp) (fun h=>by cases h)
    .have ww:=wrap_i64 (W+g.size) (by omega) (by omega);by_cases hw:200<W+g.size
     .simp[f4,f6,hX,hi,ww,hw];exact H 10 _ (by(repeat refine aA.set ?_);exact aA.refl _ _) (by simp) (fun h=>by cases h)
     .simp[f4,f6,hX,hi,ww,hw];exact H 0 _ (by(repeat refine aA.set ?_);exact aA.refl _ _) (by simp[f7]) (fun _=>⟨hp.1,⟨hp.2,by omega⟩,by omega⟩)
   .have hd:(decide (1<=g.size)&&decide (g.size<=200))=false:=by simpa using hp
    rw[hd];simp;exact H 3 _ (by(repeat refine aA.set ?_);exact aA.refl _ _) (by simp) (fun h=>by cases h)
structure MH(h h2:ae)(G F:SV)(e:Env)(v:Value)(names:List ByteArray):Prop where
 f1:ak e 1=.pointer (some ⟨h.next,0,none⟩)
 f2:ak e 2=.pointer (some ⟨h.next+1,0,none⟩)
 f3:ak e 3=v
 g:ab aK h h2
 U:h2.tr.get h.next=some (.aC [G.v,F.v] false 0 0)
 R:∃s,h2.tr.get (h.next+1)=some (.aC [.int .i64 0,.int .i64 0] false 0 s)
 names:bH tq (h.next+2) h2 v names
theorem MH.grow{h h2 h3:ae}{G F:SV}{e e':Env}{v:Value}{names:List ByteArray}(c:MH h h2 G F e v names)(g:ab aK h2 h3)(k1:ak e' 1=ak e 1)(k2:ak e' 2=ak e 2)(k3:ak e' 3=ak e 3):MH h h3 G F e' v names:=by obtain⟨s,hR⟩:=c.R;exact⟨k1.trans c.f1,k2.trans c.f2,k3.trans c.f3,c.g.trans g,g.get c.g.ok c.U,⟨s,g.get c.g.ok hR⟩,c.names.grow c.g.ok g (fun _ _ h=>h)⟩
def Yw(h:ae)(Q:aT->Env->ae->Prop):Prop:=∀(c a:Int)(e':Env)(h':ae),c≠0->ab aK h h'->(∃s,h'.tr.get (h.next+1)=some (.aC [.int .i64 c,.int .i64 a] false 0 s))->ak e' 2=.pointer (some ⟨h.next+1,0,none⟩)->Q .ret e' h'
theorem Gm{G F:SV}(c:MH h h2 G F e v names)(hl:names.length<1000000)(x:ByteArray):
  ∃v' h5,nD (aJ h2 [.string x] 0) [.string ⟨⟨[]⟩⟩] 16 false v (.slice (some ⟨h2.next,0,none⟩) 1 1)=some (v',h5)/\ab (ax v) h2 h5/\∀e',ak e' 1=ak e 1->ak e' 2=ak e 2->ak e' 3=v'->MH h h5 G F e' v' (names++[x]):=by
 have g4:=aP c.g.ok (tq.enc x) 0;have YY:=c.names.grow c.g.ok g4 (fun _ _ h=>h);have hw4:bc tq (aJ h2 (tq.enc x) 0) (.slice (some ⟨h2.next,0,none⟩) 1 1) [x]:=⟨_,_,rfl,.inr ⟨h2.next,0,_,_,_,_,rfl,bS _ _ _,by simp,by simp⟩⟩;obtain⟨s,hR⟩:=c.R;have dS:=c.g.ok.wf _ _ hR;obtain⟨v',h5,ha,B0,g5,MA⟩:=lJ (bytes:=16) g4.ok (z:=[.string ⟨⟨[]⟩⟩]) rfl YY hw4 hl (by decide) (by show h.next+2<=h2.next+1;omega);have lo:∀b,ax v b->h.next+2<=b:=fun b hb=>c.names.of hb;have ex:ab (ax v) h2 h5:=g4.bl.trans g5;have go:ab aK h h5:=c.g.trans' ex (fun _ _ h=>h) (fun b hb e=>by have:=lo b e;omega);refine⟨v',h5,ha,ex,fun e' k1 k2 k3=>⟨k1.trans c.f1,k2.trans c.f2,k3,go,ex.get c.g.ok c.U (fun e=>by have:=lo _ e;omega),⟨s,ex.get c.g.ok hR (fun e=>by have:=lo _ e;omega)⟩,B0⟩⟩
theorem XA{G F:SV}(c:MH h h2 G F e v names)(bad:Yw h QQ){cc:Int}(hc:cc≠0)(a:Int){h3:ae}(g3:ab aK h2 h3)(k2:ak e' 2=ak e 2):
  (∃s,h3.tr.get (h.next+1)=some (.aC [.int .i64 0,.int .i64 0] false 0 s))/\∀h4,h4=put h3 (h.next+1) 0 [.int .i64 0,.int .i64 0] [.int .i64 cc,.int .i64 a] 0->QQ .ret e' h4:=by
 obtain⟨s,hR⟩:=c.R;have zh:=g3.get c.g.ok hR;refine⟨⟨s,zh⟩,fun h4 e4=>?_⟩;subst e4;refine bad cc a e' _ hc ((c.g.trans g3).put ⟨s,zh⟩ (.inl (by omega))) ⟨h3.clock,by simp⟩ (k2.trans c.f2)
def GlI(h:ae)(G F:SV)(gl:List GG)(m:Nat)(e:Env)(h2:ae):Prop:=
 ∃(j:Nat) (v:Value) (W:Int),m=gl.length-j/\j<=gl.length/\MH h h2 G F e v ((gl.take j).map (·.name))/\ak e 4=.int .i64 W/\0<=W/\W<=200/\ak e 29=G.v/\ak e 30=.int .i64 gl.length/\ak e 31=.int .i64 j/\∀g∈gl.take j,1<=g.size/\g.size<=200/\(g.init.length:Int)<=g.size
theorem FK(ok:bm h){G F:SV}{gl:List GG}(hG:SliceR (gR h) 3 h G.v gl)(hl:gl.length<=10)(sm:∀g∈gl,g.init.length<=140737488355328)(c:MH h h1 G F e (.slice none 0 0) [])(f4:ak e 4=.int .i64 0)(f29:ak e 29=G.v)(f30:ak e 30=.int .i64 gl.length)(f31:ak e 31=.int .i64 0)(bad:Yw h QQ)(yQ:∀e' h' v,MH h h' G F e' v (gl.map (·.name))->(∀g∈gl,1<=g.size/\g.size<=200/\(g.init.length:Int)<=g.size)->QQ (.exit 0) e' h'):aB FF (.loop qU) e h1 QQ:=by
 have U1:=SliceR.len hG;refine aB.loop (GlI h G F gl) ?_ (n:=gl.length) ⟨0,_,0,rfl,by omega,by simpa using c,f4,by omega,by omega,f29,f30,f31,fun g hg=>by simp at hg⟩;rintro m e h2⟨j,v,W,rfl,hj,c,f4,hW0,hW1,f29,f30,f31,hs⟩;unfold qU;by_cases aS:j<gl.length
 .have hx:gl[j]?=some gl[j]:=fI aS;have hm:=zT aS;generalize gl[j]=x at hx hm;obtain⟨bb,off,cc,hGa,_,_,⟨I,rfl,sI⟩,_,dj⟩:=SliceR.later ok hG hx;have r0:=dj h2 c.g 0 3 (by decide);simp[-ag] at r0;have wj:=wrap_i64 (j+1) (by omega) (by omega);have YO:=f29;simp at YO;rw[hGa,U1] at YO;have PS:((gl.take j).map (·.name)).length<1000000:=by simp;omega
  simp[YO,f30,f31,aS,r0,-ag];refine aB.cut (fun h3=>ab aK h2 h3/\∃s,h3.tr.get h2.next=some (.aC [.string x.name,.int .i64 x.size,I.v] false 0 s)) ?_ ?_
  .exact⟨(ab.refl c.g.ok).var _ _,h2.clock,by simp⟩
  rintro h3⟨g3,s3,fe⟩;have di:=c.g.trans g3;have Mw:=c.names.grow c.g.ok g3 (fun _ _ h=>h);refine Q9 di.ok fe (SliceR.len sI) (sm x hm) Mw.sl PS ⟨hW0,hW1⟩ (by simp[c.f3]) (by simp[f4]) (by simp) (by simp) ?_;intro cd e4 K q7 hcd;have k1:=K.at (t:=1) (v:=ak e 1) (by simp);have k2:=K.at (t:=2) (v:=ak e 2) (by simp);have k3:=K.at (t:=3) (v:=ak e 3) (by simp);have k4:=K.at (t:=4) (v:=ak e 4) (by simp);have k5:=K.at (t:=5) (v:=.int .i64 j) (by simp);have k6:=K.at (t:=6) (v:=.pointer (some ⟨h2.next,0,none⟩)) (by simp);have k29:=K.at (t:=29) (v:=ak e 29) (by simp[YO,f29]);have k30:=K.at (t:=30) (v:=ak e 30) (by simp);have k31:=K.at (t:=31) (v:=ak e 31) (by simp);have c3:=c.grow (e':=e4) g3 k1 k2 k3;unfold US;by_cases he:cd=0
  .subst he;obtain⟨w1,w2,w3⟩:=hcd rfl;simp at fe;have ww:=wrap_i64 (W+x.size) (by omega) (by omega);simp[q7,k3,c.f3,k6,fe];obtain⟨v',h5,ha,ex,mk⟩:=Gm c3 PS x.name;refine iE ha ?_;have lt3:=(g3.ok.bC fe).lt;have uL:h5.tr.get h2.next=some (.aC [.string x.name,.int .i64 x.size,.slice I.a I.l I.c] false 0 s3):=by
    refine ex.get c3.g.ok fe (fun e=>?_);obtain⟨o,n,cp,e⟩:=e;rcases c.names with⟨_,e2⟩|⟨b2,s2,e2,cA,_⟩
    .rw[e2] at e;cases e
    .rw[e2] at e;cases e;have:=c.g.ok.wf _ _ cA;omega
   simp[k4,f4,k6,uL,ww,k31,f31,wj];refine⟨gl.length-(j+1),by omega,j+1,v',W+x.size,rfl,by omega,?_,by simp,by omega,by omega,by simp[k29,f29],by simp[k30,f30],by simp,?_⟩
   .have e1:(gl.take (j+1)).map (·.name)=(gl.take j).map (·.name)++[x.name]:=by rw[v9,hx];simp
    rw[e1];exact mk _ (by simp) (by simp) (by simp)
   .intro g hg;rw[v9,hx] at hg;rcases lE.1 hg with h|h
    .exact hs g h
    .simp at h;rw[h];exact⟨w1,w2⟩
  .have cq:=qP he;simp[q7,cq,k5];refine aG.call (by simpa using jl h3 di.ok cd (j:Int)) ?_;rintro _ h4⟨rfl,g4⟩;obtain⟨⟨s4,U5⟩,tb⟩:=XA (QQ:=QQ) c3 bad he (j:Int) g4 (e':=Tr.set (Tr.set (Tr.set (Tr.set (Tr.set e4 64 (.int .i64 cd)) 65 (.bool true)) 66 (.int .i64 cd)) 67 (.int .i64 j)) 68 (.agg #[.int .i64 cd,.int .i64 j])) (by simp);simp[k2,c.f2,U5];exact tb _ rfl
 .have:j=gl.length:=by omega
  subst this;rw[we] at c hs;simp[f30,f31];exact yQ _ _ v (c.grow (.refl c.g.ok) (by simp) (by simp) (by simp)) hs
def HdI(h:ae)(G F:SV)(fl:List GF)(ns:List ByteArray)(m:Nat)(e:Env)(h2:ae):Prop:=
 ∃(j:Nat) (v:Value),m=fl.length-j/\j<=fl.length/\MH h h2 G F e v (ns++(fl.take j).map (·.name))/\ak e 80=F.v/\ak e 81=.int .i64 fl.length/\ak e 82=.int .i64 j/\∀f∈fl.take j,yv f
theorem Kc(ok:bm h){G F:SV}{fl:List GF}(hF:SliceR (fR h) 4 h F.v fl)(hl:fl.length<=10)(sm:∀f∈fl,Fits f.blocks)(hns:ns.length<=10){v0:Value}(c:MH h h1 G F e v0 ns)(f80:ak e 80=F.v)(f81:ak e 81=.int .i64 fl.length)(f82:ak e 82=.int .i64 0)(bad:Yw h QQ)(yQ:∀e' h' v,MH h h' G F e' v (ns++fl.map (·.name))->(∀f∈fl,yv f)->QQ (.exit 3) e' h'):aB FF (.loop qT) e h1 QQ:=by
 have pC:=SliceR.len hF;refine aB.loop (HdI h G F fl ns) ?_ (n:=fl.length) ⟨0,_,rfl,by omega,by simpa using c,f80,f81,f82,fun g hg=>by simp at hg⟩;rintro m e h2⟨j,v,rfl,hj,c,f80,f81,f82,hs⟩;unfold qT;by_cases aS:j<fl.length
 .have hx:fl[j]?=some fl[j]:=fI aS;have hm:=zT aS;generalize fl[j]=x at hx hm;obtain⟨bb,off,cc,zg,_,_,⟨B,rfl,sB⟩,_,dj⟩:=SliceR.later ok hF hx;have r0:=dj h2 c.g 0 4 (by decide);simp[-ag] at r0;have wj:=wrap_i64 (j+1) (by omega) (by omega);have acv:=f80;simp at acv;rw[zg,pC] at acv;have PS:(ns++(fl.take j).map (·.name)).length<1000000:=by simp;omega
  have hU:=c.U;simp at hU;have oU:=c.g.ok.bC hU;simp[acv,f81,f82,c.f1,aS,r0,-ag,au,aX,aN,oU,av hU];refine aG.cut (fun h3=>ab aK h2 h3/\∃s,h3.tr.get h2.next=some (.aC [.string x.name,.int .i64 x.params,.int .i64 x.ai,B.v] false 0 s)) ?_ ?_
  .exact⟨((ab.refl c.g.ok).var _ _).trans (((ab.refl ((ab.refl (S:=aK) c.g.ok).var _ _).ok)).var _ _),h2.clock,by simp⟩
  rintro h3⟨g3,s3,fe⟩;have di:=c.g.trans g3;have Mw:=c.names.grow c.g.ok g3 (fun _ _ h=>h);refine aG.call (V:=tJ (fun c=>c=0->yv x) h3) ?_ ?_
  .have E:=Rj (gs:=G) (fs:=F) (ah:=d_) di.ok (f:=x) (sB.mono ok di fun _ _ r=>r.mono ok di) (sm x hm) Mw.sl PS;simpa [aL,d_,c.f3,zg,pC] using E
  rintro _ h4⟨g4,cd,rfl,hcd⟩;have UM:=g3.trans g4;have vg:=g4.get di.ok fe;simp at vg;have lt2:=(g3.ok.bC fe).lt;by_cases he:cd=0
  .subst he;have c4:=c.grow (e':=e) UM rfl rfl rfl;obtain⟨v',h5,ha,ex,mk⟩:=Gm c4 PS x.name;simp[c.f3,vg];refine iE ha ?_;simp[f82,wj];refine⟨fl.length-(j+1),by omega,j+1,v',rfl,by omega,?_,by simp;exact f80,by simp[f81],by simp,?_⟩
   .have e1:ns++(fl.take (j+1)).map (·.name)=ns++(fl.take j).map (·.name)++[x.name]:=by rw[v9,hx];simp
    rw[e1];exact mk _ (by simp) (by simp) (by simp)
   .intro g hg;rw[v9,hx] at hg;rcases lE.1 hg with h|h
    .exact hs g h
    .simp at h;rw[h];exact hcd rfl
  .have cq:=qP he;simp[cq];refine aG.call (by simpa using jl h4 (di.trans g4).ok cd (j:Int)) ?_;rintro _ h5⟨rfl,g5⟩;obtain⟨s,hR⟩:=c.R;have GM:=(UM.trans g5).get c.g.ok hR;simp[c.f2,GM];exact bad cd j _ _ he (((c.g.trans UM).trans g5).put ⟨s,GM⟩ (.inl (by omega))) ⟨h5.clock,by simp⟩ (by simp[c.f2])
 .have:j=fl.length:=by omega
  subst this;rw[we] at c hs;simp[f81,f82];exact yQ _ _ v (c.grow (.refl c.g.ok) (by simp) (by simp) (by simp)) hs
def BdI(h:ae)(G F:SV)(fl:List GF)(v:Value)(ns:List ByteArray)(m:Nat)(e:Env)(h2:ae):Prop:=
 ∃j:Nat,m=fl.length-j/\j<=fl.length/\MH h h2 G F e v ns/\ak e 105=F.v/\ak e 106=.int .i64 fl.length/\ak e 107=.int .i64 j/\∀f∈fl.take j,AZ f.ai f.blocks
theorem HY(ok:bm h)(hw:CA h){G F:SV}{fl:List GF}(hF:SliceR (fR h) 4 h F.v fl)(hl:fl.length<=10)(sm:∀f∈fl,∀b∈f.blocks,uv b)(hd:∀f∈fl,yv f)(c:MH h h1 G F e v ns)(f105:ak e 105=F.v)(f106:ak e 106=.int .i64 fl.length)(f107:ak e 107=.int .i64 0)(bad:Yw h QQ)(yQ:∀e' h',MH h h' G F e' v ns->(∀f∈fl,AZ f.ai f.blocks)->QQ (.exit 5) e' h'):aB FF (.loop qS) e h1 QQ:=by
 have pC:=SliceR.len hF;refine aB.loop (BdI h G F fl v ns) ?_ (n:=fl.length) ⟨0,rfl,by omega,c,f105,f106,f107,fun g hg=>by simp at hg⟩;rintro m e h2⟨j,rfl,hj,c,f105,f106,f107,hs⟩;unfold qS;by_cases aS:j<fl.length
 .have hx:fl[j]?=some fl[j]:=fI aS;have hm:=zT aS;generalize fl[j]=x at hx hm;obtain⟨bb,off,cc,zg,_,_,⟨B,rfl,sB⟩,_,dj⟩:=SliceR.later ok hF hx;have r0:=dj h2 c.g 0 4 (by decide);simp[-ag] at r0;have wj:=wrap_i64 (j+1) (by omega) (by omega);have UI:=f105;simp at UI;rw[zg,pC] at UI;have hU:=c.U;simp at hU;have oU:=c.g.ok.bC hU;obtain⟨hp,hr,hb,_⟩:=hd x hm;simp[UI,f106,f107,c.f1,aS,r0,-ag,au,aX,aN,oU,av hU];refine aG.cut (fun h3=>ab aK h2 h3) ?_ ?_
  .exact((ab.refl c.g.ok).var _ _).trans (((ab.refl ((ab.refl (S:=aK) c.g.ok).var _ _).ok)).var _ _)
  rintro h3 g3;have di:=c.g.trans g3;refine aG.call (V:=tJ (fun c=>c=0->AZ x.ai x.blocks) h3) ?_ ?_
  .have E:=QO (gs:=G) (fs:=F) (name:=x.name) (params:=x.params) (ai:=x.ai) (ah:=d_) di.ok (hw.grow ok di) (by omega) (hF.mono ok di fun _ _ r=>r.mono ok di) ⟨by omega,fun f hf=>(hd f hf).params.2⟩ (sB.mono ok di fun _ _ r=>r.mono ok di) (by omega) (sm x hm);simpa [aL,d_,zg,pC] using E
  rintro _ h4⟨g4,cd,rfl,hcd⟩;have UM:=g3.trans g4;by_cases he:cd=0
  .subst he;simp[f107,wj];refine⟨fl.length-(j+1),by omega,j+1,rfl,by omega,c.grow UM (by simp) (by simp) (by simp),by simp;exact f105,by simp[f106],by simp,?_⟩;intro g hg;rw[v9,hx] at hg;rcases lE.1 hg with h|h
   .exact hs g h
   .simp at h;rw[h];exact hcd rfl
  .have cq:=qP he;simp[cq];refine aG.call (by simpa using jl h4 (di.trans g4).ok cd (j:Int)) ?_;rintro _ h5⟨rfl,g5⟩;obtain⟨s,hR⟩:=c.R;have GM:=(UM.trans g5).get c.g.ok hR;simp[c.f2,GM];exact bad cd j _ _ he (((c.g.trans UM).trans g5).put ⟨s,GM⟩ (.inl (by omega))) ⟨h5.clock,by simp⟩ (by simp[c.f2])
 .have:j=fl.length:=by omega
  subst this;rw[we] at hs;simp[f106,f107];exact yQ _ _ (c.grow (.refl c.g.ok) (by simp) (by simp) (by simp)) hs
def LQ:ByteArray:=⟨⟨[109,97,105,110]⟩⟩
theorem Ld(h:ae)(ok:bm h)(name:ByteArray)(a b:Int)(s:SV):aF FF jr [.agg ⟨[.string name,.int .i64 a,.int .i64 b,s.v]⟩] h (fun v h'=>v=.bool (name==LQ)/\ab aK h h'):=by refine aF.of DB ?_;unfold vI;simp[LQ];exact(ab.refl ok).new _ _
theorem Ed(ok:bm h){F:SV}{fl:List GF}(hF:SliceR (fR h) 4 h F.v fl)(hl:fl.length<1000000):
  aF FF eV [F.v,.func (.func jr) #[] #[]] h (fun v h'=>ab aK h h'/\∃i:Int,v=.int .i64 i/\(i= -1\/∃j:Nat,i=j/\j<fl.length)):=by
 have pC:=SliceR.len hF;refine aF.of jY ?_;unfold eT;simp;refine aB.loop (fun m e h2=>∃j:Nat,m=fl.length-j/\j<=fl.length/\ak e 0=F.v/\ak e 1=.func (.func jr) #[] #[]/\ak e 7=.int .i64 fl.length/\ak e 8=.int .i64 j/\ab aK h h2) ?_ (n:=fl.length)
  ⟨0,rfl,by omega,by simp,by simp,by simp[pC],by simp,.refl ok⟩
 rintro m e h2⟨j,rfl,hj,f0,f1,f7,f8,g2⟩;unfold eC;by_cases aS:j<fl.length
 .have hx:fl[j]?=some fl[j]:=fI aS;generalize fl[j]=x at hx;obtain⟨bb,off,cc,zg,_,_,⟨B,rfl,sB⟩,_,dj⟩:=SliceR.later ok hF hx;have r0:=dj h2 g2 0 4 (by decide);simp[-ag] at r0;have wj:=wrap_i64 (j+1) (by omega) (by omega);have f0':=f0;simp at f0';rw[zg,pC] at f0';simp[f0',f1,f7,f8,aS,r0,-ag];refine aG.cU (V:=fun v h'=>v=.bool (x.name==LQ)/\ab aK h2 h') ?_ ?_
  .have I:c_ FF (.func (.func jr) #[] #[]) [.agg ⟨[.string x.name,.int .i64 x.params,.int .i64 x.ai,B.v]⟩] h2 (fun v h'=>v=.bool (x.name==LQ)/\ab aK h2 h'):=c_.func (by simpa using Ld h2 g2.ok x.name x.params x.ai B);simpa [f1] using I
  rintro _ h3⟨rfl,g3⟩;cases hmn:(x.name==LQ) with
  |true=>
   simp;exact⟨g2.trans g3,j,rfl,aS⟩
  |false=>
   simp[f8,wj];exact⟨fl.length-(j+1),by omega,j+1,rfl,by omega,by simpa [zg,pC] using f0,by simp[f1],by simp[f7],by simp,g2.trans g3⟩
 .have:j=fl.length:=by omega
  subst this;simp[f7,f8];exact g2
structure Dn(u:GU):Prop where
 gn:u.globals.length<=10
 fn:u.funcs.length<=10
 gs:∀g∈u.globals,1<=g.size/\g.size<=200/\(g.init.length:Int)<=g.size
 head:∀f∈u.funcs,yv f
 body:∀f∈u.funcs,AZ f.ai f.blocks
 one:0<u.funcs.length
structure A8(u:GU):Prop where
 init:∀g∈u.globals,g.init.length<=140737488355328
 fs:∀f∈u.funcs,Fits f.blocks
 bs:∀f∈u.funcs,∀b∈f.blocks,uv b
def Dg(P:Prop)(h:ae)(v:Value)(h':ae):Prop:=ab aK h h'/\∃c a:Int,v=.agg ⟨[.int .i64 c,.int .i64 a]⟩/\(c≠0\/(c=0/\a=0/\P))
theorem Na(ok:bm h)(hw:CA h){G F:SV}{u:GU}(hu:uR h G F u)(sm:A8 u):
  aF FF Af [.agg ⟨[G.v,F.v]⟩] h (Dg (Dn u) h):=by
 have U1:=SliceR.len hu.1;have pC:=SliceR.len hu.2;refine aF.of HK ?_;unfold zq;simp;have fin:∀(c a:Int)(e':Env)(h':ae),c≠0->ab aK h h'->(∃s,h'.tr.get (h.next+1)=some (.aC [.int .i64 c,.int .i64 a] false 0 s))->ak e' 2=.pointer (some ⟨h.next+1,0,none⟩)->vD [.cell 2 (some 2)] (Dg (Dn u) h) .ret e' h':=by intro c a e' h' hc g ⟨s,hR⟩ q2;simp[q2,hR];exact⟨g,c,a,rfl,.inl hc⟩
 refine aG.cut (fun h1=>ab aK h h1/\h1.tr.get h.next=some (.aC [G.v,F.v] false 0 0)/\h1.tr.get (h.next+1)=some (.aC [.int .i64 0,.int .i64 0] false 0 0)) ?_ ?_
 .exact⟨((ab.refl ok).new _ _).new _ _,by simp,by simp⟩
 rintro h1⟨g1,XU,uK⟩;have acP:=XU;simp at acP;have early:∀e l R,ak e 2=.pointer (some ⟨h.next+1,0,none⟩)->(∀e' h',ak e' 2=.pointer (some ⟨h.next+1,0,none⟩)->ab aK h h'->(∃s,h'.tr.get (h.next+1)=some (.aC [.int .i64 0,.int .i64 0] false 0 s))->ak e' 27=.agg #[.int .i64 2,.int .i64 0]->aG FF l e' h' R)->aG FF (⟨(some 27),none,(.call (.func 36) [(.const (.int .i64 2)),(.const (.int .i64 0))])⟩::l) e h1 R:=by intro e l R q2 K;refine aG.call (by simpa using jl h1 g1.ok 2 0) ?_;rintro _ h2⟨rfl,g2⟩;exact K _ _ (by simp[q2]) (g1.trans g2) ⟨_,g2.get g1.ok uK⟩ (by simp)
 by_cases hg:(10:Int)<G.l
 .simp[hg];refine early _ _ _ (by simp) ?_;intro e' h' q2 g' ⟨s,hR⟩ MF;simp[q2,MF,hR];exact⟨g'.put ⟨s,hR⟩ (.inl (by omega)),2,0,rfl,.inl (by decide)⟩
 by_cases hf:(10:Int)<F.l
 .simp[hg,hf,acP];refine early _ _ _ (by simp) ?_;intro e' h' q2 g' ⟨s,hR⟩ MF;simp[q2,MF,hR];exact⟨g'.put ⟨s,hR⟩ (.inl (by omega)),2,0,rfl,.inl (by decide)⟩
 simp[hg,hf,acP];have agW:u.globals.length<=10:=by omega
 have acw:u.funcs.length<=10:=by omega
 refine FK (F:=F) ok hu.1 agW sm.init ⟨by simp,by simp,by simp,g1,XU,⟨0,uK⟩,.inl ⟨rfl,rfl⟩⟩ (by simp) (by simp) (by simp[U1]) (by simp) ?_ ?_
 .intro c a e' h' hc g hR q2;simpa using fin c a e' h' hc g hR q2
 intro e2 h2 v2 c2 hgs;have zU:=c2.U;simp at zU;simp[c2.f1,zU];refine Kc ok hu.2 acw sm.fs (by simp;omega) (c2.grow (.refl c2.g.ok) (by simp) (by simp) (by simp)) (by simp) (by simp[pC]) (by simp) ?_ ?_
 .intro c a e' h' hc g hR q2;simpa using fin c a e' h' hc g hR q2
 intro e3 h3 v3 c3 hhd;have D0:=c3.U;simp at D0;simp[c3.f1,D0];refine HY ok hw hu.2 acw sm.bs hhd (c3.grow (.refl c3.g.ok) (by simp) (by simp) (by simp)) (by simp) (by simp[pC]) (by simp) ?_ ?_
 .intro c a e' h' hc g hR q2;simpa using fin c a e' h' hc g hR q2
 intro e4 h4 c4 hbd;have My:=c4.U;simp at My;simp[c4.f1,My];refine aG.call (V:=fun v h'=>ab aK h4 h'/\∃i:Int,v=.int .i64 i/\(i= -1\/∃j:Nat,i=j/\j<u.funcs.length)) (by simpa using Ed c4.g.ok (hu.2.mono ok c4.g fun _ _ r=>r.mono ok c4.g) (by omega)) ?_;rintro _ h5⟨g5,i,rfl,hi⟩;have c5:=c4.grow (e':=e4) g5 rfl rfl rfl;have hU5:=c5.U;simp at hU5;obtain⟨s5,GM⟩:=c5.R;rcases hi with rfl|⟨j,rfl,hj⟩
 .simp;refine aG.call (by simpa using jl h5 c5.g.ok 6 0) ?_;rintro _ h6⟨rfl,g6⟩;have NF:=g6.get c5.g.ok GM;simp[c5.f2,NF];exact⟨(c5.g.trans g6).put ⟨_,NF⟩ (.inl (by omega)),6,0,rfl,.inl (by decide)⟩
 .have hx:u.funcs[j]?=some u.funcs[j]:=fI hj;generalize u.funcs[j]=x at hx;obtain⟨bb,off,cc,zg,_,_,⟨B,rfl,sB⟩,_,dj⟩:=SliceR.later ok hu.2 hx;have r0:=dj h5 c5.g 1 1 (by decide);simp[-ag] at r0;have GS:¬(j:Int)<0:=by omega
  by_cases hp:0<x.params
  .simp[c5.f1,av hU5,zg,pC,hj,r0,hp,GS,-ag];refine aG.call (by simpa using jl h5 c5.g.ok 5 (j:Int)) ?_;rintro _ h6⟨rfl,g6⟩;have NF:=g6.get c5.g.ok GM;simp[c5.f2,NF];exact⟨(c5.g.trans g6).put ⟨_,NF⟩ (.inl (by omega)),5,j,rfl,.inl (by decide)⟩
  .simp[c5.f1,c5.f2,av hU5,zg,pC,hj,r0,hp,GS,-ag,GM,au];exact⟨c5.g.put ⟨_,GM⟩ (.inl (by omega)),0,0,rfl,.inr ⟨rfl,rfl,agW,acw,hgs,hhd,hbd,by omega⟩⟩
end Go.Proofs.YtdhnndleffachaaGreatDoor
