/- Parts of the proof. -/
import Derived.KernelRfl
import Derived.Test.YtdkdbjecehcekaaGreatDoorP05
import Derived.Test.YtdkdbjecehcekaaGreatDoorP06
import Derived.ProofKit
import Derived.WideKeyArgs
import Derived.Test.YtdkdbjecehcekaaGreatDoorP04
import Derived.OpenShut
set_option linter.all false
set_option linter.unusedSimpArgs false
set_option linter.unusedVariables false
set_option linter.unnecessarySimpa false
namespace Go.Proofs.YtdkdbjecehcekaaGreatDoor
open Go.AI
set_option maxRecDepth 100000
abbrev eT:Nat:=65
def iG:aj:=(.seq (.ops [⟨(some 1),none,(.box (.tmp 0))⟩,⟨(some 2),none,(.mv (.const .nilFunc))⟩]) (.seq (.ops [⟨(some 3),none,(.mH 87 [(.tmp 1)])⟩,⟨(some 2),none,(.mv (.tmp 3))⟩]) .ret))
theorem oq:FF eT=some ⟨[(.tmp 2)],iG,.no⟩:=by kernel_rfl
abbrev iP:Nat:=66
def mE:aj:=(.seq (.ops [o_ 8 (.mv (.const (.bool false)))]) (.seq (.seq (.ops [m_ 9 0,o_ 10 (.bj (t_ 9)),f_ 11 5 10,l_ 12 11,m_ 13 1,a_ 14 2 12 13,f_ 15 0 14,l_ 16 15,C_ 17 .geq 16 0]) (.cond (t_ 17) (.seq (.ops [o_ 8 (.mv (.const (.bool false)))]) .ret) .skip)) (.seq (.ops [m_ 18 0,o_ 19 (.bj (t_ 18)),f_ 20 5 19,l_ 21 20,m_ 22 1,m_ 23 2,m_ 24 3,o_ 25 (.build [(.int .i64 0),(.int .i64 0)] [(0,(1,(t_ 23))),(1,(1,(t_ 24)))]),a_ 26 2 21 22,s_ 2 26 25]) (.seq (.ops [o_ 8 (.mv (.const (.bool true)))]) .ret))))
theorem tx:FF iP=some ⟨[(.tmp 8)],mE,.no⟩:=by kernel_rfl
abbrev iT:Nat:=67
def mu:aj:=(.seq (.ops [x_ 5 1,o_ 8 (.mv (.const (.bool false)))]) (.seq (.seq (.ops [f_ 10 0 5,l_ 11 10,o_ 12 (.un .not (t_ 11))]) (.cond (t_ 12) (.seq (.ops [o_ 8 (.mv (.const (.bool true)))]) .ret) .skip)) (.seq (.draw [D_ (m_ 13 0),(o_ 14 (.bj (t_ 13)),[]),D_ (f_ 15 5 14),D_ (l_ 16 15),D_ (f_ 17 1 5),D_ (l_ 18 17),D_ (a_ 19 2 16 18),D_ (L_ 20 2 19),(o_ 9 (.alloc [(.int .i64 0),(.int .i64 0)]),[]),D_ (s_ 2 9 20)]) (.seq (.block 0 (.seq (.ops [f_ 22 0 9,l_ 23 22,C_ 24 .lss 23 0,m_ 21 24]) (.cond (t_ 21) (.seq (.ops [o_ 8 (.mv (.const (.bool false)))]) .ret) (.seq (.ops [f_ 26 0 9,l_ 27 26,m_ 28 2,o_ 29 (.bin .eql [1] (t_ 27) (t_ 28)),m_ 25 29]) (.cond (t_ 25) (.seq (.ops [f_ 30 1 9,l_ 31 30,m_ 32 3,B_ 33 .lss 31 32,m_ 8 33]) .ret) .skip))))) (.seq (.draw [D_ (m_ 34 0),(o_ 35 (.bj (t_ 34)),[]),D_ (f_ 36 4 35),D_ (l_ 37 36),D_ (f_ 38 0 9),D_ (l_ 39 38),D_ (m_ 40 2),(F_ 41 88 [t_ 37,t_ 39,t_ 40],[]),D_ (m_ 8 41)]) .ret)))))
theorem tB:FF iT=some ⟨[(.tmp 8)],mu,.no⟩:=by kernel_rfl
abbrev jf:Nat:=68
def iU:aj:=(.seq (.ops [⟨(some 2),none,(.mv (.const (.slice none 0 0)))⟩]) (.seq (.ops [⟨(some 3),none,(.mv (.tmp 0))⟩,⟨(some 4),none,(.call (.func 89) [(.const (.slice none 0 0)),(.tmp 3)])⟩,⟨(some 2),none,(.mv (.tmp 4))⟩]) .ret))
theorem pO:FF jf=some ⟨[(.tmp 2)],iU,.no⟩:=by kernel_rfl
def mn:aj:=(.seq (.ops [B_ 33 .lss 32 31]) (.seq (.cond (t_ 33) .skip (.exit 0)) (.seq (.block 1 (.seq (.ops [a_ 34 2 30 32,L_ 35 2 34,o_ 5 (.alloc [(.bool false),(.int .i64 0)]),s_ 2 5 35]) (.seq (.ops [m_ 36 0,L_ 37 2 5,o_ 38 (.call (t_ 36) [t_ 37]),o_ 39 (.un .not (t_ 38))]) (.cond (t_ 39) .ret .skip)))) (.ops [C_ 40 .add 32 1,m_ 32 40]))))
abbrev cO:Nat:=69
def tM:aj:=(.seq (.ops [f_ 6 0 1,l_ 7 6,F_ 8 70 [t_ 7],o_ 3 (.alloc [(.bool false),(.bool false),(.bool false)]),s_ 3 3 8]) (.seq (.seq (.ops [f_ 9 1 3,l_ 10 9,m_ 11 10,q_ 12 11 true (.mv (t_ 0)),q_ 13 11 true (.bw 2 (t_ 1)),q_ 14 11 true (.load (some 2) (t_ 13)),q_ 15 11 true (.call (t_ 12) [t_ 14]),q_ 16 11 true (.un .not (t_ 15)),o_ 17 (.pick (t_ 11) (t_ 16) (.const (.bool false))),m_ 18 17,q_ 19 18 false (.bw 2 (t_ 3)),q_ 20 18 false (.load none (t_ 19)),q_ 21 18 false (.mv (t_ 20)),q_ 22 21 true (.mv (t_ 0)),q_ 23 21 true (.bw 4 (t_ 1)),q_ 24 21 true (.load (some 2) (t_ 23)),q_ 25 21 true (.call (t_ 22) [t_ 24]),q_ 26 21 true (.un .not (t_ 25)),q_ 27 18 false (.pick (t_ 21) (t_ 26) (.const (.bool false))),o_ 28 (.pick (t_ 18) (.const (.bool true)) (t_ 27))]) (.cond (t_ 28) .ret .skip)) (.seq (.ops [f_ 29 7 1,l_ 30 29,z_ 31 30,k_ 32 0]) (.block 0 (.loop mn)))))
theorem zP:FF cO=some ⟨[],tM,.no⟩:=by kernel_rfl
abbrev tH:Nat:=70
def tT:aj:=(.seq (.ops [o_ 2 (.alloc [(.bool false),(.bool false),(.bool false)])]) (.seq (.block 0 (.seq (.ops [m_ 4 0,o_ 5 (.bin .eql [1] (t_ 4) (i_ 1)),m_ 6 5,q_ 7 6 false (.mv (t_ 0)),q_ 8 6 false (.bin .eql [1] (t_ 7) (i_ 16)),o_ 9 (.pick (t_ 6) (.const (.bool true)) (t_ 8)),m_ 10 9,q_ 11 10 false (.mv (t_ 0)),q_ 12 10 false (.bin .eql [1] (t_ 11) (i_ 17)),o_ 13 (.pick (t_ 10) (.const (.bool true)) (t_ 12)),m_ 14 13,q_ 15 14 false (.mv (t_ 0)),q_ 16 14 false (.bin .eql [1] (t_ 15) (i_ 18)),o_ 17 (.pick (t_ 14) (.const (.bool true)) (t_ 16)),m_ 3 17]) (.cond (t_ 3) (.seq (.ops [o_ 18 (.build [(.bool false),(.bool false),(.bool false)] [(0,(1,(.const (.bool true)))),(1,(1,(.const (.bool true)))),(2,(1,(.const (.bool false))))]),s_ 3 2 18]) .ret) (.seq (.ops [m_ 20 0,C_ 21 .geq 20 2,m_ 22 21,q_ 23 22 true (.mv (t_ 0)),q_ 24 22 true (.bin .leq [] (t_ 23) (i_ 15)),o_ 25 (.pick (t_ 22) (t_ 24) (.const (.bool false))),m_ 19 25]) (.cond (t_ 19) (.seq (.ops [o_ 26 (.build [(.bool false),(.bool false),(.bool false)] [(0,(1,(.const (.bool true)))),(1,(1,(.const (.bool true)))),(2,(1,(.const (.bool true))))]),s_ 3 2 26]) .ret) (.seq (.ops [m_ 28 0,o_ 29 (.bin .eql [1] (t_ 28) (i_ 19)),m_ 27 29]) (.cond (t_ 27) (.seq (.ops [o_ 30 (.build [(.bool false),(.bool false),(.bool false)] [(0,(1,(.const (.bool false)))),(1,(1,(.const (.bool true)))),(2,(1,(.const (.bool true))))]),s_ 3 2 30]) .ret) (.seq (.ops [m_ 32 0,o_ 33 (.bin .eql [1] (t_ 32) (i_ 20)),m_ 34 33,q_ 35 34 false (.mv (t_ 0)),q_ 36 34 false (.bin .eql [1] (t_ 35) (i_ 21)),o_ 37 (.pick (t_ 34) (.const (.bool true)) (t_ 36)),m_ 31 37]) (.cond (t_ 31) (.seq (.ops [o_ 38 (.build [(.bool false),(.bool false),(.bool false)] [(0,(1,(.const (.bool true)))),(1,(1,(.const (.bool false)))),(2,(1,(.const (.bool false))))]),s_ 3 2 38]) .ret) (.seq (.ops [m_ 40 0,o_ 41 (.bin .eql [1] (t_ 40) (i_ 22)),m_ 39 41]) (.cond (t_ 39) (.seq (.ops [o_ 42 (.build [(.bool false),(.bool false),(.bool false)] [(0,(1,(.const (.bool false)))),(1,(1,(.const (.bool true)))),(2,(1,(.const (.bool false))))]),s_ 3 2 42]) .ret) .skip))))))))))) (.seq (.ops [o_ 43 (.build [(.bool false),(.bool false),(.bool false)] []),s_ 3 2 43]) .ret)))
theorem z7:FF tH=some ⟨[(.cell 2 (some 3))],tT,.no⟩:=by kernel_rfl
abbrev oz:Nat:=71
def pd:aj:=(.seq (.ops [k_ 4 0]) (.seq (.seq (.ops [m_ 5 0,o_ 6 (.bj (t_ 5)),f_ 7 0 6,l_ 8 7,m_ 9 1,a_ 10 1 8 9,l_ 11 10,C_ 12 .lss 11 0]) (.cond (t_ 12) (.seq (.draw [D_ (m_ 13 0),(o_ 14 (.bj (t_ 13)),[]),D_ (f_ 15 0 14),D_ (l_ 16 15),D_ (m_ 17 1),D_ (m_ 18 0),(o_ 19 (.bj (t_ 18)),[]),D_ (f_ 20 1 19),D_ (l_ 21 20),D_ (a_ 22 1 16 17),D_ (s_ 1 22 21)]) (.ops [m_ 23 0,o_ 24 (.bj (t_ 23)),f_ 25 1 24,l_ 26 25,C_ 27 .add 26 1,o_ 28 (.bj (t_ 23)),f_ 29 1 28,s_ 1 29 27])) .skip)) (.seq (.ops [m_ 30 0,o_ 31 (.bj (t_ 30)),f_ 32 0 31,l_ 33 32,m_ 34 1,a_ 35 1 33 34,l_ 36 35,m_ 4 36]) .ret)))
theorem vM:FF oz=some ⟨[(.tmp 4)],pd,.no⟩:=by kernel_rfl
abbrev qa:Nat:=72
def p7:aj:=(.seq (.ops [x_ 3 1,o_ 4 (.alloc [(.bool false),(.int .i64 0)])]) (.seq (.seq (.ops [f_ 5 0 3,l_ 6 5]) (.cond (t_ 6) (.ops [m_ 7 0,f_ 8 1 3,l_ 9 8,F_ 10 71 [t_ 7,t_ 9],f_ 11 1 3,s_ 1 11 10]) .skip)) (.seq (.ops [L_ 12 2 3,s_ 2 4 12]) .ret)))
theorem v9:FF qa=some ⟨[(.cell 4 (some 2))],p7,.no⟩:=by kernel_rfl
def mr:aj:=(.seq (.ops [B_ 70 .lss 69 68]) (.seq (.cond (t_ 70) .skip (.exit 4)) (.seq (.block 5 (.seq (.ops [m_ 71 69,a_ 72 2 67 69,L_ 73 2 72,o_ 14 (.alloc [(.int .i64 0),(.slice none 0 0)]),m_ 13 71,s_ 2 14 73]) (.seq (.ops [f_ 74 1 14,l_ 75 74,m_ 76 9,a_ 77 2 75 76,L_ 78 2 77,o_ 15 (.alloc [(.bool false),(.int .i64 0)]),s_ 2 15 78]) (.draw [D_ (m_ 79 0),(o_ 80 (.bj (t_ 79)),[]),D_ (f_ 81 3 80),D_ (l_ 82 81),D_ (m_ 83 8),D_ (a_ 84 6 82 83),D_ (f_ 85 0 84),D_ (l_ 86 85),D_ (m_ 87 13),D_ (f_ 88 1 14),D_ (l_ 89 88),D_ (m_ 90 9),D_ (m_ 91 9),D_ (C_ 92 .add 91 1),D_ (m_ 94 10),D_ (L_ 95 2 15),(o_ 96 (.ct 1 [(.bool false),(.int .i64 0)] [(0,(2,(t_ 95)))]),[]),(F_ 93 92 [t_ 89,t_ 90,t_ 92],[15,96]),(F_ 97 91 [t_ 93,t_ 94,t_ 96],[81,85]),D_ (a_ 98 2 86 87),D_ (f_ 99 1 98),D_ (s_ 1 99 97)])))) (.ops [C_ 100 .add 69 1,m_ 69 100]))))
def mq:aj:=(.seq (.ops [B_ 46 .lss 45 44]) (.seq (.cond (t_ 46) .skip (.exit 2)) (.seq (.block 3 (.seq (.ops [a_ 47 1 43 45,l_ 48 47,m_ 12 48]) (.seq (.ops [m_ 49 12,m_ 50 2,B_ 51 .lss 49 50,m_ 52 51,q_ 53 52 true (.mv (t_ 12)),q_ 54 52 true (.mv (t_ 1)),q_ 55 52 true (.bin .neq [1] (t_ 53) (t_ 54)),o_ 56 (.pick (t_ 52) (t_ 55) (.const (.bool false)))]) (.cond (t_ 56) (.ops [m_ 57 10,C_ 58 .add 57 1,m_ 10 58]) .skip)))) (.ops [C_ 59 .add 45 1,m_ 45 59]))))
def qK:aj:=(.seq (.ops [B_ 31 .lss 30 29]) (.seq (.cond (t_ 31) .skip (.exit 0)) (.seq (.block 1 (.seq (.ops [a_ 32 1 28 30,l_ 33 32,m_ 8 33]) (.seq (.ops [m_ 34 6,m_ 35 8,a_ 36 1 34 35,l_ 37 36,m_ 38 1,F_ 39 90 [t_ 37,t_ 38],m_ 9 39]) (.seq (.ops [k_ 10 0]) (.seq (.seq (.ops [m_ 40 6,m_ 41 8,a_ 42 1 40 41,l_ 43 42,z_ 44 43,k_ 45 0]) (.block 2 (.loop mq))) (.seq (.ops [m_ 60 0,o_ 61 (.bj (t_ 60)),f_ 62 3 61,l_ 63 62,m_ 64 8,a_ 65 6 63 64,f_ 66 0 65,l_ 67 66,z_ 68 67,k_ 69 0]) (.block 4 (.loop mr)))))))) (.ops [C_ 101 .add 30 1,m_ 30 101]))))
abbrev tG:Nat:=73
def tI:aj:=(.seq (.ops [m_ 16 0,o_ 17 (.bj (t_ 16)),L_ 18 4 17,F_ 19 61 [t_ 18],m_ 6 19]) (.seq (.ops [m_ 20 0,o_ 21 (.bj (t_ 20)),f_ 22 3 21,l_ 23 22,m_ 24 1,a_ 25 6 23 24,f_ 26 2 25,f_ 27 3 26,l_ 28 27,z_ 29 28,k_ 30 0]) (.block 0 (.loop qK))))
theorem zS:FF tG=some ⟨[],tI,.no⟩:=by kernel_rfl
abbrev cD:Nat:=74
def cI:aj:=(.seq (.ops [m_ 5 0,z_ 6 5,m_ 4 6]) (.ops [m_ 7 0,m_ 8 4,m_ 9 4,o_ 10 (.conv .u64 (t_ 9)),F_ 11 94 [t_ 10],m_ 12 1,F_ 13 93 [t_ 7,(i_ 0),t_ 8,t_ 11,t_ 12]]))
theorem dJ:FF cD=some ⟨[],cI,.no⟩:=by kernel_rfl
abbrev pC:Nat:=75
def tW:aj:=(.seq (.ops [x_ 2 0,x_ 3 1,k_ 4 0]) (.seq (.ops [f_ 5 0 2,l_ 6 5,f_ 7 0 3,l_ 8 7,B_ 9 .sub 6 8,m_ 4 9]) .ret))
theorem zM:FF pC=some ⟨[(.tmp 4)],tW,.no⟩:=by kernel_rfl
def eH:aj:=(.seq (.seq (.ops [m_ 7 2,m_ 8 3,B_ 9 .lss 7 8]) (.cond (t_ 9) .skip (.exit 0))) (.seq (.block 1 (.draw [D_ (m_ 14 0),D_ (m_ 15 2),D_ (m_ 16 0),D_ (m_ 17 3),D_ (m_ 18 0),D_ (m_ 19 3),D_ (a_ 20 1 18 19),D_ (l_ 21 20),D_ (m_ 22 0),D_ (m_ 23 2),D_ (a_ 24 1 22 23),D_ (l_ 25 24),D_ (a_ 26 1 14 15),D_ (s_ 1 26 21),D_ (a_ 27 1 16 17),D_ (s_ 1 27 25)])) (.ops [m_ 10 2,C_ 11 .add 10 1,m_ 12 3,C_ 13 .sub 12 1,m_ 2 11,m_ 3 13])))
abbrev jg:Nat:=76
def ja:aj:=(.seq (.ops [m_ 4 0,z_ 5 4,C_ 6 .sub 5 1,k_ 2 0,m_ 3 6]) (.block 0 (.loop eH)))
theorem pt:FF jg=some ⟨[],ja,.no⟩:=by kernel_rfl
abbrev dz:Nat:=77
def fM:aj:=(.seq (.ops [o_ 4 (.mv (.const (.bool false)))]) (.seq (.ops [m_ 5 0,m_ 6 1,F_ 7 95 [t_ 5,t_ 6],C_ 8 .geq 7 0,m_ 4 8]) .ret))
theorem lC:FF dz=some ⟨[(.tmp 4)],fM,.no⟩:=by kernel_rfl
abbrev ig:Nat:=78
def lE:aj:=(.seq (.ops [o_ 3 (.mv (.const (.bool false)))]) (.seq (.ops [m_ 4 0,f_ 5 2 1,f_ 6 3 5,l_ 7 6,z_ 8 7,C_ 9 .sub 8 1,F_ 10 32 [t_ 4,(i_ 1),t_ 9],o_ 11 (.un .not (t_ 10)),m_ 3 11]) .ret))
theorem r6:FF ig=some ⟨[(.tmp 3)],lE,.no⟩:=by kernel_rfl
abbrev jz:Nat:=79
def nt:aj:=(.seq (.ops [x_ 2 0,x_ 3 1,k_ 4 0]) (.seq (.seq (.ops [f_ 5 0 3,l_ 6 5,m_ 7 6,q_ 8 7 true (.bw 1 (t_ 3)),q_ 9 7 true (.load none (t_ 8)),q_ 10 7 true (.bw 2 (t_ 2)),q_ 11 7 true (.bw 2 (t_ 10)),q_ 12 7 true (.load none (t_ 11)),q_ 13 7 true (.bin .sub [] (t_ 12) (i_ 1)),q_ 14 7 true (.call (.func 32) [t_ 9,(i_ 0),t_ 13]),q_ 15 7 true (.un .not (t_ 14)),o_ 16 (.pick (t_ 7) (t_ 15) (.const (.bool false)))]) (.cond (t_ 16) (.seq (.ops [k_ 4 3]) .ret) .skip)) (.seq (.ops [k_ 4 0]) .ret)))
theorem uA:FF jz=some ⟨[(.tmp 4)],nt,.no⟩:=by kernel_rfl
abbrev ny:Nat:=80
def nv:aj:=(.seq (.ops [x_ 2 0,k_ 4 0]) (.seq (.seq (.ops [m_ 5 1,f_ 6 2 2,f_ 7 2 6,l_ 8 7,C_ 9 .sub 8 1,F_ 10 32 [t_ 5,(i_ 0),t_ 9],o_ 11 (.un .not (t_ 10))]) (.cond (t_ 11) (.seq (.ops [k_ 4 3]) .ret) .skip)) (.seq (.ops [k_ 4 0]) .ret)))
theorem uw:FF ny=some ⟨[(.tmp 4)],nv,.no⟩:=by kernel_rfl
def rT:aj:=(.seq (.ops [B_ 9 .lss 8 7]) (.seq (.cond (t_ 9) .skip (.exit 0)) (.seq (.block 1 (.seq (.ops [a_ 10 1 6 8,l_ 11 10,m_ 4 11]) (.seq (.ops [m_ 12 4,o_ 13 (.call (t_ 12) []),m_ 5 13]) (.seq (.ops [m_ 14 5,o_ 15 (.bin .neq [1] (t_ 14) (i_ 0))]) (.cond (t_ 15) (.seq (.ops [m_ 16 5,m_ 2 16]) .ret) .skip))))) (.ops [C_ 17 .add 8 1,m_ 8 17]))))
abbrev qg:Nat:=81
def vW:aj:=(.seq (.ops [⟨(some 2),none,(.mv (.const (.int .i64 0)))⟩]) (.seq (.seq (.ops [⟨(some 6),none,(.mv (.tmp 0))⟩,⟨(some 7),none,(.nx (.tmp 6))⟩,⟨(some 8),none,(.mv (.const (.int .i64 0)))⟩]) (.block 0 (.loop rT))) (.seq (.ops [⟨(some 2),none,(.mv (.const (.int .i64 0)))⟩]) .ret)))
theorem Bw:FF qg=some ⟨[(.tmp 2)],vW,.no⟩:=by kernel_rfl
abbrev e_:Nat:=82
def l0:aj:=(.seq (.ops [k_ 2 0]) (.seq (.ops [L_ 3 7 0,f_ 4 2 1,L_ 5 2 4,F_ 6 79 [t_ 3,t_ 5],m_ 2 6]) .ret))
theorem rJ:FF e_=some ⟨[(.tmp 2)],l0,.no⟩:=by kernel_rfl
abbrev eZ:Nat:=83
def lI:aj:=(.seq (.ops [k_ 2 0]) (.seq (.ops [L_ 3 7 0,f_ 4 4 1,L_ 5 2 4,F_ 6 79 [t_ 3,t_ 5],m_ 2 6]) .ret))
theorem sq:FF eZ=some ⟨[(.tmp 2)],lI,.no⟩:=by kernel_rfl
def jW:aj:=(.seq (.ops [B_ 37 .lss 36 35]) (.seq (.cond (t_ 37) .skip (.exit 1)) (.seq (.block 2 (.seq (.ops [a_ 38 2 34 36,L_ 39 2 38,o_ 5 (.alloc [(.bool false),(.int .i64 0)]),s_ 2 5 39]) (.seq (.ops [L_ 40 7 2,L_ 41 2 5,F_ 42 79 [t_ 40,t_ 41],m_ 6 42]) (.seq (.ops [m_ 43 6,o_ 44 (.bin .neq [1] (t_ 43) (i_ 0))]) (.cond (t_ 44) (.seq (.ops [m_ 45 6,m_ 3 45]) .ret) .skip))))) (.ops [C_ 46 .add 36 1,m_ 36 46]))))
abbrev fk:Nat:=84
def lO:aj:=(.seq (.ops [k_ 3 0]) (.seq (.block 0 (.seq (.ops [l_ 8 0,o_ 9 (.un .not (t_ 8)),m_ 7 9]) (.cond (t_ 7) (.seq (.ops [k_ 3 0]) .ret) (.seq (.ops [f_ 11 6 1,l_ 12 11,f_ 13 0 2,f_ 14 1 13,l_ 15 14,z_ 16 15,C_ 17 .sub 16 1,F_ 18 32 [t_ 12,(i_ 0),t_ 17],o_ 19 (.un .not (t_ 18)),m_ 10 19]) (.cond (t_ 10) (.seq (.ops [k_ 3 3]) .ret) (.seq (.draw [D_ (f_ 21 7 1),D_ (l_ 22 21),D_ (z_ 23 22),D_ (f_ 24 0 2),D_ (f_ 25 1 24),D_ (l_ 26 25),D_ (f_ 27 6 1),D_ (l_ 28 27),D_ (a_ 29 4 26 28),D_ (f_ 30 1 29),D_ (l_ 31 30),(o_ 32 (.bin .neq [1] (t_ 23) (t_ 31)),[]),D_ (m_ 20 32)]) (.cond (t_ 20) (.seq (.ops [k_ 3 9]) .ret) .skip))))))) (.seq (.seq (.ops [f_ 33 7 1,l_ 34 33,z_ 35 34,k_ 36 0]) (.block 1 (.loop jW))) (.seq (.ops [k_ 3 0]) .ret))))
theorem qW:FF fk=some ⟨[(.tmp 3)],lO,.no⟩:=by kernel_rfl
abbrev pa:Nat:=86
def oE:aj:=(.seq (.ops [o_ 4 (.mv (.const (.int .u64 0))),o_ 5 (.mv (.const (.int .u64 0)))]) (.seq (.ops [m_ 14 0,o_ 15 (.bin .and [] (t_ 14) (.const (.int .u64 4294967295))),m_ 6 15]) (.seq (.ops [m_ 16 0,o_ 17 (.bin .shr [] (t_ 16) (.const (.int .u64 32))),m_ 7 17]) (.seq (.ops [m_ 18 1,o_ 19 (.bin .and [] (t_ 18) (.const (.int .u64 4294967295))),m_ 8 19]) (.seq (.ops [m_ 20 1,o_ 21 (.bin .shr [] (t_ 20) (.const (.int .u64 32))),m_ 9 21]) (.seq (.ops [m_ 22 6,m_ 23 8,B_ 24 .mul 22 23,m_ 10 24]) (.seq (.ops [m_ 25 7,m_ 26 8,B_ 27 .mul 25 26,m_ 28 10,o_ 29 (.bin .shr [] (t_ 28) (.const (.int .u64 32))),B_ 30 .add 27 29,m_ 11 30]) (.seq (.ops [m_ 31 11,o_ 32 (.bin .and [] (t_ 31) (.const (.int .u64 4294967295))),m_ 12 32]) (.seq (.ops [m_ 33 11,o_ 34 (.bin .shr [] (t_ 33) (.const (.int .u64 32))),m_ 13 34]) (.seq (.ops [m_ 35 12,m_ 36 6,m_ 37 9,B_ 38 .mul 36 37,B_ 39 .add 35 38,m_ 12 39]) (.seq (.ops [m_ 40 7,m_ 41 9,B_ 42 .mul 40 41,m_ 43 13,B_ 44 .add 42 43,m_ 45 12,o_ 46 (.bin .shr [] (t_ 45) (.const (.int .u64 32))),B_ 47 .add 44 46,m_ 4 47]) (.seq (.ops [m_ 48 0,m_ 49 1,B_ 50 .mul 48 49,m_ 5 50]) .ret))))))))))))
theorem vi:FF pa=some ⟨[(.tmp 4),(.tmp 5)],oE,.no⟩:=by kernel_rfl
def fL:aj:=(.seq (.seq (.ops [m_ 7 3,C_ 8 .geq 7 0]) (.cond (t_ 8) .skip (.exit 0))) (.seq (.block 1 (.seq (.ops [m_ 11 0,m_ 12 3,l_ 13 1,m_ 14 3,a_ 15 1 13 14,l_ 16 15,o_ 17 (.call (t_ 11) [t_ 12,t_ 16]),o_ 18 (.un .not (t_ 17))]) (.cond (t_ 18) .ret .skip))) (.ops [m_ 9 3,C_ 10 .sub 9 1,m_ 3 10])))
abbrev bk:Nat:=87
def gG:aj:=(.seq (.ops [l_ 4 1,z_ 5 4,C_ 6 .sub 5 1,m_ 3 6]) (.block 0 (.loop fL)))
theorem mM:FF bk=some ⟨[],gG,.no⟩:=by kernel_rfl
def ue:aj:=(.seq (.seq (.ops [m_ 7 2,C_ 8 .geq 7 0,m_ 9 8,q_ 10 9 true (.mv (t_ 2)),q_ 11 9 true (.mv (t_ 1)),q_ 12 9 true (.bin .neq [1] (t_ 10) (t_ 11)),o_ 13 (.pick (t_ 9) (t_ 12) (.const (.bool false)))]) (.cond (t_ 13) .skip (.exit 0))) (.block 1 (.ops [m_ 14 0,m_ 15 2,a_ 16 1 14 15,l_ 17 16,m_ 2 17])))
abbrev wY:Nat:=88
def xb:aj:=(.seq (.ops [o_ 6 (.mv (.const (.bool false)))]) (.seq (.block 0 (.loop ue)) (.seq (.ops [m_ 18 1,m_ 19 2,o_ 20 (.bin .eql [1] (t_ 18) (t_ 19)),m_ 6 20]) .ret)))
theorem Dk:FF wY=some ⟨[(.tmp 6)],xb,.no⟩:=by kernel_rfl
abbrev eI:Nat:=89
def eC:aj:=(.seq (.ops [x_ 2 0,o_ 4 (.mv (.const (.slice none 0 0)))]) (.seq (.seq (.ops [m_ 6 1]) (.block 0 (.AM (t_ 6) [7] (.ops [o_ 5 (.alloc [(.bool false),(.int .i64 0)]),s_ 2 5 7]) (.block 1 (.ops [l_ 8 2,L_ 9 2 5,o_ 10 (.ct 1 [(.bool false),(.int .i64 0)] [(0,(2,(t_ 9)))]),o_ 11 (.append [(.bool false),(.int .i64 0)] 16 false (t_ 8) (t_ 10)),s_ 1 2 11]))))) (.seq (.ops [l_ 12 2,m_ 4 12]) .ret)))
theorem jw:FF eI=some ⟨[(.tmp 4)],eC,.no⟩:=by kernel_rfl
def jh:aj:=(.seq (.ops [B_ 9 .lss 8 7]) (.seq (.cond (t_ 9) .skip (.exit 0)) (.seq (.block 1 (.seq (.ops [m_ 10 8,m_ 5 10]) (.seq (.ops [m_ 11 1,m_ 12 0,m_ 13 5,a_ 14 1 12 13,l_ 15 14,o_ 16 (.bin .eql [1] (t_ 11) (t_ 15))]) (.cond (t_ 16) (.seq (.ops [m_ 17 5,m_ 4 17]) .ret) .skip)))) (.ops [C_ 18 .add 8 1,m_ 8 18]))))
abbrev jT:Nat:=90
def j4:aj:=(.seq (.ops [⟨(some 4),none,(.mv (.const (.int .i64 0)))⟩]) (.seq (.seq (.ops [⟨(some 6),none,(.mv (.tmp 0))⟩,⟨(some 7),none,(.nx (.tmp 6))⟩,⟨(some 8),none,(.mv (.const (.int .i64 0)))⟩]) (.block 0 (.loop jh))) (.seq (.ops [⟨(some 4),none,(.mv (.const (.int .i64 (Int.negSucc 0))))⟩]) .ret)))
theorem qI:FF jT=some ⟨[(.tmp 4)],j4,.no⟩:=by kernel_rfl
abbrev fy:Nat:=91
theorem kj:FF fy=some ⟨[],.bad,.run (LX 2) fun _ _ _ _=>AA⟩:=by kernel_rfl
abbrev fw:Nat:=92
def fx:aj:=(.seq (.ops [o_ 6 (.mv (.const (.slice none 0 0)))]) (.seq (.ops [m_ 8 0,m_ 9 1,m_ 10 2,m_ 11 0,z_ 12 11,o_ 13 (.slice 2 (t_ 8) (some (t_ 9)) (some (t_ 10)) (some (t_ 12)))]) (.seq (.seq (.ops [m_ 14 1,m_ 15 2,o_ 16 (.bin .eql [1] (t_ 14) (t_ 15))]) (.cond (t_ 16) (.seq (.ops [m_ 17 0,m_ 6 17]) .ret) .skip)) (.seq (.ops [m_ 18 0,z_ 19 18,m_ 7 19]) (.seq (.draw [D_ (m_ 20 0),D_ (m_ 21 1),(o_ 22 (.slice 2 (t_ 20) none (some (t_ 21)) none),[]),D_ (m_ 23 0),D_ (m_ 24 2),(o_ 25 (.slice 2 (t_ 23) (some (t_ 24)) none none),[]),(o_ 26 (.append [(.bool false),(.int .i64 0)] 16 false (t_ 22) (t_ 25)),[]),D_ (m_ 0 26)]) (.seq (.ops [m_ 27 0,m_ 28 0,z_ 29 28,m_ 30 7,o_ 31 (.slice 2 (t_ 27) (some (t_ 29)) (some (t_ 30)) none),u_ (.clear [(.bool false),(.int .i64 0)] (t_ 31))]) (.seq (.ops [m_ 32 0,m_ 6 32]) .ret)))))))
theorem km:FF fw=some ⟨[(.tmp 6)],fx,.no⟩:=by kernel_rfl
def cR:aj:=(.block 1 (.seq (.ops [m_ 21 2,m_ 22 1,B_ 23 .sub 21 22,m_ 12 23]) (.seq (.seq (.ops [m_ 24 12,C_ 25 .leq 24 12]) (.cond (t_ 25) (.seq (.ops [m_ 26 0,m_ 27 1,m_ 28 2,m_ 29 4,F_ 30 98 [t_ 26,t_ 27,t_ 28,t_ 29]]) .ret) .skip)) (.seq (.seq (.ops [m_ 31 3,o_ 32 (.bin .eql [1] (t_ 31) (i_ 0))]) (.cond (t_ 32) (.seq (.ops [m_ 33 0,m_ 34 1,m_ 35 2,m_ 36 4,F_ 37 99 [t_ 33,t_ 34,t_ 35,t_ 36]]) .ret) .skip)) (.seq (.seq (.ops [m_ 38 10,o_ 39 (.un .not (t_ 38))]) (.cond (t_ 39) (.seq (.ops [m_ 40 0,m_ 41 1,m_ 42 2,m_ 43 4,F_ 44 100 [t_ 40,t_ 41,t_ 42,t_ 43]]) (.ops [m_ 45 3,C_ 46 .sub 45 1,m_ 3 46])) .skip)) (.seq (.ops [m_ 48 0,m_ 49 1,m_ 50 2,m_ 51 4,F_ 52 101 [t_ 48,t_ 49,t_ 50,t_ 51],m_ 47 52,o_ 53 (.ext 0 (t_ 47)),o_ 54 (.ext 1 (t_ 47)),m_ 13 53,m_ 14 54]) (.seq (.seq (.ops [m_ 55 14,o_ 56 (.bin .eql [1] (t_ 55) (i_ 2))]) (.cond (t_ 56) (.seq (.ops [m_ 57 0,m_ 58 1,m_ 59 2,m_ 60 4,F_ 61 102 [t_ 57,t_ 58,t_ 59,t_ 60]]) (.seq (.ops [m_ 62 2,C_ 63 .sub 62 1,m_ 64 13,m_ 65 1,B_ 66 .sub 64 65,B_ 67 .sub 63 66,m_ 13 67]) (.ops [k_ 14 1]))) .skip)) (.seq (.seq (.ops [m_ 68 10,m_ 69 68,q_ 70 69 true (.mv (t_ 11)),o_ 71 (.pick (t_ 69) (t_ 70) (.const (.bool false))),m_ 72 71,q_ 73 72 true (.mv (t_ 14)),q_ 74 72 true (.bin .eql [1] (t_ 73) (i_ 1)),o_ 75 (.pick (t_ 72) (t_ 74) (.const (.bool false)))]) (.cond (t_ 75) (.seq (.ops [m_ 76 0,m_ 77 1,m_ 78 2,m_ 79 4,F_ 80 103 [t_ 76,t_ 77,t_ 78,t_ 79]]) (.cond (t_ 80) .ret .skip)) .skip)) (.seq (.seq (.draw [D_ (m_ 81 1),D_ (C_ 82 .gtr 81 0),D_ (m_ 83 82),(q_ 84 83 true (.mv (t_ 4)),[]),(q_ 85 83 true (.mv (t_ 0)),[]),(q_ 86 83 true (.mv (t_ 1)),[]),(q_ 87 83 true (.bin .sub [] (t_ 86) (i_ 1)),[]),(q_ 88 83 true (.cw none 3 (t_ 85) (t_ 87)),[]),(q_ 89 83 true (.load (some 3) (t_ 88)),[]),(q_ 90 83 true (.mv (t_ 0)),[]),(q_ 91 83 true (.mv (t_ 13)),[]),(q_ 92 83 true (.cw none 3 (t_ 90) (t_ 91)),[]),(q_ 93 83 true (.load (some 3) (t_ 92)),[]),(q_ 94 83 true (.call (t_ 84) [t_ 89,t_ 93]),[]),(q_ 95 83 true (.bin .lss [] (t_ 94) (i_ 0)),[]),(q_ 96 83 true (.un .not (t_ 95)),[]),(o_ 97 (.pick (t_ 83) (t_ 96) (.const (.bool false))),[])]) (.cond (t_ 97) (.seq (.ops [m_ 98 0,m_ 99 1,m_ 100 2,m_ 101 13,m_ 102 4,F_ 103 104 [t_ 98,t_ 99,t_ 100,t_ 101,t_ 102],m_ 15 103]) (.seq (.ops [m_ 104 15,m_ 1 104]) (.exit 1))) .skip)) (.seq (.ops [m_ 106 0,m_ 107 1,m_ 108 2,m_ 109 13,m_ 110 4,F_ 111 105 [t_ 106,t_ 107,t_ 108,t_ 109,t_ 110],m_ 105 111,o_ 112 (.ext 0 (t_ 105)),o_ 113 (.ext 1 (t_ 105)),m_ 16 112,m_ 17 113]) (.seq (.ops [m_ 114 17,m_ 11 114]) (.seq (.ops [m_ 115 16,m_ 116 1,B_ 117 .sub 115 116,m_ 118 2,m_ 119 16,B_ 120 .sub 118 119,m_ 18 117,m_ 19 120]) (.seq (.ops [m_ 121 12,C_ 122 .quo 121 8,m_ 20 122]) (.seq (.ops [m_ 123 18,m_ 124 19,B_ 125 .lss 123 124]) (.cond (t_ 125) (.seq (.ops [m_ 126 18,m_ 127 20,B_ 128 .geq 126 127,m_ 10 128]) (.seq (.ops [m_ 129 0,m_ 130 1,m_ 131 16,m_ 132 3,m_ 133 4,F_ 134 93 [t_ 129,t_ 130,t_ 131,t_ 132,t_ 133]]) (.ops [m_ 135 16,C_ 136 .add 135 1,m_ 1 136]))) (.seq (.ops [m_ 137 19,m_ 138 20,B_ 139 .geq 137 138,m_ 10 139]) (.seq (.ops [m_ 140 0,m_ 141 16,C_ 142 .add 141 1,m_ 143 2,m_ 144 3,m_ 145 4,F_ 146 93 [t_ 140,t_ 142,t_ 143,t_ 144,t_ 145]]) (.ops [m_ 147 16,m_ 2 147]))))))))))))))))))
abbrev eO:Nat:=93
def cZ:aj:=(.seq (.ops [⟨(some 10),none,(.mv (.const (.bool true)))⟩]) (.seq (.ops [⟨(some 11),none,(.mv (.const (.bool true)))⟩]) (.block 0 (.loop cR))))
theorem eN:FF eO=some ⟨[],cZ,.no⟩:=by kernel_rfl
abbrev qT:Nat:=94
def qP:aj:=(.seq (.ops [k_ 2 0]) (.seq (.cond (.const (.bool false)) (.seq (.ops [m_ 3 0,o_ 4 (.conv .u32 (t_ 3)),F_ 5 106 [t_ 4],m_ 2 5]) .ret) .skip) (.seq (.ops [m_ 6 0,F_ 7 107 [t_ 6],m_ 2 7]) .ret)))
theorem xz:FF qT=some ⟨[(.tmp 2)],qP,.no⟩:=by kernel_rfl
def fY:aj:=(.seq (.ops [B_ 9 .lss 8 7]) (.seq (.cond (t_ 9) .skip (.exit 0)) (.seq (.block 1 (.seq (.ops [m_ 10 8,m_ 5 10]) (.seq (.ops [m_ 11 1,m_ 12 0,m_ 13 5,a_ 14 1 12 13,l_ 15 14,o_ 16 (.call (t_ 11) [t_ 15])]) (.cond (t_ 16) (.seq (.ops [m_ 17 5,m_ 4 17]) .ret) .skip)))) (.ops [C_ 18 .add 8 1,m_ 8 18]))))
abbrev ib:Nat:=95
def il:aj:=(.seq (.ops [⟨(some 4),none,(.mv (.const (.int .i64 0)))⟩]) (.seq (.seq (.ops [⟨(some 6),none,(.mv (.tmp 0))⟩,⟨(some 7),none,(.nx (.tmp 6))⟩,⟨(some 8),none,(.mv (.const (.int .i64 0)))⟩]) (.block 0 (.loop fY))) (.seq (.ops [⟨(some 4),none,(.mv (.const (.int .i64 (Int.negSucc 0))))⟩]) .ret)))
theorem mW:FF ib=some ⟨[(.tmp 4)],il,.no⟩:=by kernel_rfl
def cg:aj:=(.seq (.seq (.draw [D_ (m_ 18 9),D_ (m_ 19 1),D_ (B_ 20 .gtr 18 19),D_ (m_ 21 20),(q_ 22 21 true (.mv (t_ 3)),[]),(q_ 23 21 true (.mv (t_ 0)),[]),(q_ 24 21 true (.mv (t_ 9)),[]),(q_ 25 21 true (.cw none 3 (t_ 23) (t_ 24)),[]),(q_ 26 21 true (.load (some 3) (t_ 25)),[]),(q_ 27 21 true (.mv (t_ 0)),[]),(q_ 28 21 true (.mv (t_ 9)),[]),(q_ 29 21 true (.bin .sub [] (t_ 28) (i_ 1)),[]),(q_ 30 21 true (.cw none 3 (t_ 27) (t_ 29)),[]),(q_ 31 21 true (.load (some 3) (t_ 30)),[]),(q_ 32 21 true (.call (t_ 22) [t_ 26,t_ 31]),[]),(q_ 33 21 true (.bin .lss [] (t_ 32) (i_ 0)),[]),(o_ 34 (.pick (t_ 21) (t_ 33) (.const (.bool false))),[])]) (.cond (t_ 34) .skip (.exit 2))) (.seq (.block 3 (.draw [D_ (m_ 37 0),D_ (m_ 38 9),D_ (m_ 39 0),D_ (m_ 40 9),D_ (C_ 41 .sub 40 1),D_ (m_ 42 0),D_ (m_ 43 9),D_ (C_ 44 .sub 43 1),D_ (a_ 45 3 42 44),D_ (L_ 46 3 45),D_ (m_ 47 0),D_ (m_ 48 9),D_ (a_ 49 3 47 48),D_ (L_ 50 3 49),D_ (a_ 51 3 37 38),D_ (s_ 3 51 46),D_ (a_ 52 3 39 41),D_ (s_ 3 52 50)])) (.ops [m_ 35 9,C_ 36 .sub 35 1,m_ 9 36])))
def b_:aj:=(.seq (.seq (.ops [m_ 12 8,m_ 13 2,B_ 14 .lss 12 13]) (.cond (t_ 14) .skip (.exit 0))) (.seq (.block 1 (.seq (.ops [m_ 17 8,m_ 9 17]) (.block 2 (.loop cg)))) (.ops [m_ 15 8,C_ 16 .add 15 1,m_ 8 16])))
abbrev dx:Nat:=98
def cq:aj:=(.seq (.ops [⟨(some 10),none,(.mv (.tmp 1))⟩,⟨(some 11),none,(.bin .add [] (.tmp 10) (.const (.int .i64 1)))⟩,⟨(some 8),none,(.mv (.tmp 11))⟩]) (.block 0 (.loop b_)))
theorem du:FF dx=some ⟨[],cq,.no⟩:=by kernel_rfl
def dX:aj:=(.seq (.seq (.ops [m_ 32 12,C_ 33 .geq 32 0]) (.cond (t_ 33) .skip (.exit 2))) (.seq (.block 3 (.seq (.draw [D_ (m_ 36 0),D_ (m_ 37 8),D_ (m_ 38 0),D_ (m_ 39 8),D_ (m_ 40 12),D_ (B_ 41 .add 39 40),D_ (m_ 42 0),D_ (m_ 43 8),D_ (m_ 44 12),D_ (B_ 45 .add 43 44),D_ (a_ 46 3 42 45),D_ (L_ 47 3 46),D_ (m_ 48 0),D_ (m_ 49 8),D_ (a_ 50 3 48 49),D_ (L_ 51 3 50),D_ (a_ 52 3 36 37),D_ (s_ 3 52 47),D_ (a_ 53 3 38 41),D_ (s_ 3 53 51)]) (.ops [m_ 54 0,m_ 55 9,m_ 56 12,m_ 57 8,m_ 58 3,F_ 59 109 [t_ 54,t_ 55,t_ 56,t_ 57,t_ 58]]))) (.ops [m_ 34 12,C_ 35 .sub 34 1,m_ 12 35])))
def dS:aj:=(.seq (.seq (.ops [m_ 20 11,C_ 21 .geq 20 0]) (.cond (t_ 21) .skip (.exit 0))) (.seq (.block 1 (.ops [m_ 24 0,m_ 25 11,m_ 26 10,m_ 27 8,m_ 28 3,F_ 29 109 [t_ 24,t_ 25,t_ 26,t_ 27,t_ 28]])) (.ops [m_ 22 11,C_ 23 .sub 22 1,m_ 11 23])))
abbrev eE:Nat:=99
def eD:aj:=(.seq (.ops [m_ 13 1,m_ 8 13]) (.seq (.ops [k_ 9 0]) (.seq (.ops [m_ 14 2,m_ 15 1,B_ 16 .sub 14 15,m_ 10 16]) (.seq (.seq (.ops [m_ 17 10,C_ 18 .sub 17 1,C_ 19 .quo 18 2,m_ 11 19]) (.block 0 (.loop dS))) (.seq (.ops [m_ 30 10,C_ 31 .sub 30 1,m_ 12 31]) (.block 2 (.loop dX)))))))
theorem jr:FF eE=some ⟨[],eD,.no⟩:=by kernel_rfl
def dg:aj:=(.seq (.seq (.ops [m_ 28 11,m_ 29 1,m_ 30 8,C_ 31 .quo 30 4,C_ 32 .mul 31 2,B_ 33 .add 29 32,C_ 34 .add 33 1,B_ 35 .leq 28 34]) (.cond (t_ 35) .skip (.exit 0))) (.seq (.block 1 (.seq (.ops [F_ 38 111 [t_ 9],m_ 39 10,o_ 40 (.bin .sub [] (t_ 39) (.const (.int .u64 1))),B_ 41 .and 38 40,o_ 42 (.conv .i64 (t_ 41)),m_ 12 42]) (.seq (.seq (.ops [m_ 43 12,m_ 44 8,B_ 45 .geq 43 44]) (.cond (t_ 45) (.ops [m_ 46 12,m_ 47 8,B_ 48 .sub 46 47,m_ 12 48]) .skip)) (.draw [D_ (m_ 49 0),D_ (m_ 50 11),D_ (m_ 51 0),D_ (m_ 52 1),D_ (m_ 53 12),D_ (B_ 54 .add 52 53),D_ (m_ 55 0),D_ (m_ 56 1),D_ (m_ 57 12),D_ (B_ 58 .add 56 57),D_ (a_ 59 3 55 58),D_ (L_ 60 3 59),D_ (m_ 61 0),D_ (m_ 62 11),D_ (a_ 63 3 61 62),D_ (L_ 64 3 63),D_ (a_ 65 3 49 50),D_ (s_ 3 65 60),D_ (a_ 66 3 51 54),D_ (s_ 3 66 64)])))) (.ops [m_ 36 11,C_ 37 .add 36 1,m_ 11 37])))
abbrev dy:Nat:=100
def dv:aj:=(.seq (.ops [m_ 13 2,m_ 14 1,B_ 15 .sub 13 14,m_ 8 15]) (.seq (.ops [m_ 16 8,C_ 17 .geq 16 8]) (.cond (t_ 17) (.seq (.ops [m_ 18 8,o_ 19 (.conv .u64 (t_ 18)),o_ 9 (.alloc [(.int .u64 0)]),s_ 1 9 19]) (.seq (.ops [m_ 20 8,F_ 21 110 [t_ 20],m_ 10 21]) (.seq (.ops [m_ 22 1,m_ 23 8,C_ 24 .quo 23 4,C_ 25 .mul 24 2,B_ 26 .add 22 25,C_ 27 .sub 26 1,m_ 11 27]) (.block 0 (.loop dg))))) .skip)))
theorem gK:FF dy=some ⟨[],dv,.no⟩:=by kernel_rfl
abbrev dK:Nat:=101
def dI:aj:=(.seq (.ops [k_ 8 0,k_ 9 0]) (.seq (.ops [m_ 15 2,m_ 16 1,B_ 17 .sub 15 16,m_ 10 17]) (.seq (.ops [o_ 11 (.alloc [(.int .i64 0)])]) (.seq (.ops [m_ 18 1,m_ 19 10,C_ 20 .quo 19 4,C_ 21 .mul 20 1,B_ 22 .add 18 21,m_ 12 22]) (.seq (.ops [m_ 23 1,m_ 24 10,C_ 25 .quo 24 4,C_ 26 .mul 25 2,B_ 27 .add 23 26,m_ 13 27]) (.seq (.ops [m_ 28 1,m_ 29 10,C_ 30 .quo 29 4,C_ 31 .mul 30 3,B_ 32 .add 28 31,m_ 14 32]) (.seq (.seq (.ops [m_ 33 10,C_ 34 .geq 33 8]) (.cond (t_ 34) (.seq (.seq (.ops [m_ 35 10,C_ 36 .geq 35 50]) (.cond (t_ 36) (.seq (.ops [m_ 37 0,m_ 38 12,m_ 39 3,F_ 40 112 [t_ 37,t_ 38,t_ 11,t_ 39],m_ 12 40]) (.seq (.ops [m_ 41 0,m_ 42 13,m_ 43 3,F_ 44 112 [t_ 41,t_ 42,t_ 11,t_ 43],m_ 13 44]) (.ops [m_ 45 0,m_ 46 14,m_ 47 3,F_ 48 112 [t_ 45,t_ 46,t_ 11,t_ 47],m_ 14 48]))) .skip)) (.ops [m_ 49 0,m_ 50 12,m_ 51 13,m_ 52 14,m_ 53 3,F_ 54 113 [t_ 49,t_ 50,t_ 51,t_ 52,t_ 11,t_ 53],m_ 13 54])) .skip)) (.seq (.ops [l_ 55 11]) (.block 0 (.seq (.ops [o_ 58 (.bin .eql [1] (t_ 55) (i_ 0)),m_ 57 58]) (.cond (t_ 57) (.seq (.ops [m_ 59 13,m_ 8 59,k_ 9 1]) .ret) (.seq (.ops [o_ 61 (.bin .eql [1] (t_ 55) (i_ 12)),m_ 60 61]) (.cond (t_ 60) (.seq (.ops [m_ 62 13,m_ 8 62,k_ 9 2]) .ret) (.seq (.ops [m_ 56 13,m_ 8 56,k_ 9 0]) .ret))))))))))))))
theorem iA:FF dK=some ⟨[(.tmp 8),(.tmp 9)],dI,.no⟩:=by kernel_rfl
def dj:aj:=(.seq (.seq (.ops [m_ 13 8,m_ 14 9,B_ 15 .lss 13 14]) (.cond (t_ 15) .skip (.exit 0))) (.block 1 (.seq (.draw [D_ (m_ 16 0),D_ (m_ 17 8),D_ (m_ 18 0),D_ (m_ 19 9),D_ (m_ 20 0),D_ (m_ 21 9),D_ (a_ 22 3 20 21),D_ (L_ 23 3 22),D_ (m_ 24 0),D_ (m_ 25 8),D_ (a_ 26 3 24 25),D_ (L_ 27 3 26),D_ (a_ 28 3 16 17),D_ (s_ 3 28 23),D_ (a_ 29 3 18 19),D_ (s_ 3 29 27)]) (.seq (.ops [m_ 30 8,C_ 31 .add 30 1,m_ 8 31]) (.ops [m_ 32 9,C_ 33 .sub 32 1,m_ 9 33])))))
abbrev dG:Nat:=102
def dH:aj:=(.seq (.ops [m_ 10 1,m_ 8 10]) (.seq (.ops [m_ 11 2,C_ 12 .sub 11 1,m_ 9 12]) (.block 0 (.loop dj))))
theorem iq:FF dG=some ⟨[],dH,.no⟩:=by kernel_rfl
def eR:aj:=(.seq (.seq (.ops [m_ 107 12,m_ 108 2,B_ 109 .lss 107 108]) (.cond (t_ 109) .skip (.exit 6))) (.seq (.block 7 (.seq (.seq (.draw [D_ (m_ 112 3),D_ (m_ 113 0),D_ (m_ 114 12),D_ (a_ 115 3 113 114),D_ (L_ 116 3 115),D_ (m_ 117 0),D_ (m_ 118 12),D_ (C_ 119 .sub 118 1),D_ (a_ 120 3 117 119),D_ (L_ 121 3 120),(o_ 122 (.call (t_ 112) [t_ 116,t_ 121]),[]),D_ (C_ 123 .lss 122 0),(o_ 124 (.un .not (t_ 123)),[])]) (.cond (t_ 124) (.exit 6) .skip)) (.draw [D_ (m_ 125 0),D_ (m_ 126 12),D_ (m_ 127 0),D_ (m_ 128 12),D_ (C_ 129 .sub 128 1),D_ (m_ 130 0),D_ (m_ 131 12),D_ (C_ 132 .sub 131 1),D_ (a_ 133 3 130 132),D_ (L_ 134 3 133),D_ (m_ 135 0),D_ (m_ 136 12),D_ (a_ 137 3 135 136),D_ (L_ 138 3 137),D_ (a_ 139 3 125 126),D_ (s_ 3 139 134),D_ (a_ 140 3 127 129),D_ (s_ 3 140 138)]))) (.ops [m_ 110 12,C_ 111 .add 110 1,m_ 12 111])))
def eS:aj:=(.seq (.seq (.ops [m_ 68 11,C_ 69 .geq 68 1]) (.cond (t_ 69) .skip (.exit 4))) (.seq (.block 5 (.seq (.seq (.draw [D_ (m_ 72 3),D_ (m_ 73 0),D_ (m_ 74 11),D_ (a_ 75 3 73 74),D_ (L_ 76 3 75),D_ (m_ 77 0),D_ (m_ 78 11),D_ (C_ 79 .sub 78 1),D_ (a_ 80 3 77 79),D_ (L_ 81 3 80),(o_ 82 (.call (t_ 72) [t_ 76,t_ 81]),[]),D_ (C_ 83 .lss 82 0),(o_ 84 (.un .not (t_ 83)),[])]) (.cond (t_ 84) (.exit 4) .skip)) (.draw [D_ (m_ 85 0),D_ (m_ 86 11),D_ (m_ 87 0),D_ (m_ 88 11),D_ (C_ 89 .sub 88 1),D_ (m_ 90 0),D_ (m_ 91 11),D_ (C_ 92 .sub 91 1),D_ (a_ 93 3 90 92),D_ (L_ 94 3 93),D_ (m_ 95 0),D_ (m_ 96 11),D_ (a_ 97 3 95 96),D_ (L_ 98 3 97),D_ (a_ 99 3 85 86),D_ (s_ 3 99 94),D_ (a_ 100 3 87 89),D_ (s_ 3 100 98)]))) (.ops [m_ 70 11,C_ 71 .sub 70 1,m_ 11 71])))
def cK:aj:=(.seq (.seq (.draw [D_ (m_ 19 9),D_ (m_ 20 2),D_ (B_ 21 .lss 19 20),D_ (m_ 22 21),(q_ 23 22 true (.mv (t_ 3)),[]),(q_ 24 22 true (.mv (t_ 0)),[]),(q_ 25 22 true (.mv (t_ 9)),[]),(q_ 26 22 true (.cw none 3 (t_ 24) (t_ 25)),[]),(q_ 27 22 true (.load (some 3) (t_ 26)),[]),(q_ 28 22 true (.mv (t_ 0)),[]),(q_ 29 22 true (.mv (t_ 9)),[]),(q_ 30 22 true (.bin .sub [] (t_ 29) (i_ 1)),[]),(q_ 31 22 true (.cw none 3 (t_ 28) (t_ 30)),[]),(q_ 32 22 true (.load (some 3) (t_ 31)),[]),(q_ 33 22 true (.call (t_ 23) [t_ 27,t_ 32]),[]),(q_ 34 22 true (.bin .lss [] (t_ 33) (i_ 0)),[]),(q_ 35 22 true (.un .not (t_ 34)),[]),(o_ 36 (.pick (t_ 22) (t_ 35) (.const (.bool false))),[])]) (.cond (t_ 36) .skip (.exit 2))) (.block 3 (.ops [m_ 37 9,C_ 38 .add 37 1,m_ 9 38])))
def cJ:aj:=(.seq (.seq (.ops [m_ 15 10,C_ 16 .lss 15 5]) (.cond (t_ 16) .skip (.exit 0))) (.seq (.block 1 (.seq (.block 2 (.loop cK)) (.seq (.seq (.ops [m_ 39 9,m_ 40 2,o_ 41 (.bin .eql [1] (t_ 39) (t_ 40))]) (.cond (t_ 41) (.seq (.ops [o_ 8 (.mv (.const (.bool true)))]) .ret) .skip)) (.seq (.seq (.ops [m_ 42 2,m_ 43 1,B_ 44 .sub 42 43,C_ 45 .lss 44 50]) (.cond (t_ 45) (.seq (.ops [o_ 8 (.mv (.const (.bool false)))]) .ret) .skip)) (.seq (.draw [D_ (m_ 46 0),D_ (m_ 47 9),D_ (m_ 48 0),D_ (m_ 49 9),D_ (C_ 50 .sub 49 1),D_ (m_ 51 0),D_ (m_ 52 9),D_ (C_ 53 .sub 52 1),D_ (a_ 54 3 51 53),D_ (L_ 55 3 54),D_ (m_ 56 0),D_ (m_ 57 9),D_ (a_ 58 3 56 57),D_ (L_ 59 3 58),D_ (a_ 60 3 46 47),D_ (s_ 3 60 55),D_ (a_ 61 3 48 50),D_ (s_ 3 61 59)]) (.seq (.seq (.ops [m_ 62 9,m_ 63 1,B_ 64 .sub 62 63,C_ 65 .geq 64 2]) (.cond (t_ 65) (.seq (.ops [m_ 66 9,C_ 67 .sub 66 1,m_ 11 67]) (.block 4 (.loop eS))) .skip)) (.seq (.ops [m_ 101 2,m_ 102 9,B_ 103 .sub 101 102,C_ 104 .geq 103 2]) (.cond (t_ 104) (.seq (.ops [m_ 105 9,C_ 106 .add 105 1,m_ 12 106]) (.block 6 (.loop eR))) .skip)))))))) (.ops [m_ 17 10,C_ 18 .add 17 1,m_ 10 18])))
abbrev cS:Nat:=103
def cP:aj:=(.seq (.ops [⟨(some 8),none,(.mv (.const (.bool false)))⟩]) (.seq (.ops [⟨(some 13),none,(.mv (.tmp 1))⟩,⟨(some 14),none,(.bin .add [] (.tmp 13) (.const (.int .i64 1)))⟩,⟨(some 9),none,(.mv (.tmp 14))⟩]) (.seq (.seq (.ops [⟨(some 10),none,(.mv (.const (.int .i64 0)))⟩]) (.block 0 (.loop cJ))) (.seq (.ops [⟨(some 8),none,(.mv (.const (.bool false)))⟩]) .ret))))
theorem fp:FF cS=some ⟨[(.tmp 8)],cP,.no⟩:=by kernel_rfl
def bV:aj:=(.seq (.seq (.draw [D_ (m_ 50 11),D_ (m_ 51 12),D_ (B_ 52 .leq 50 51),D_ (m_ 53 52),(q_ 54 53 true (.mv (t_ 4)),[]),(q_ 55 53 true (.mv (t_ 0)),[]),(q_ 56 53 true (.mv (t_ 1)),[]),(q_ 57 53 true (.cw none 3 (t_ 55) (t_ 56)),[]),(q_ 58 53 true (.load (some 3) (t_ 57)),[]),(q_ 59 53 true (.mv (t_ 0)),[]),(q_ 60 53 true (.mv (t_ 12)),[]),(q_ 61 53 true (.cw none 3 (t_ 59) (t_ 60)),[]),(q_ 62 53 true (.load (some 3) (t_ 61)),[]),(q_ 63 53 true (.call (t_ 54) [t_ 58,t_ 62]),[]),(q_ 64 53 true (.bin .lss [] (t_ 63) (i_ 0)),[]),(o_ 65 (.pick (t_ 53) (t_ 64) (.const (.bool false))),[])]) (.cond (t_ 65) .skip (.exit 4))) (.block 5 (.ops [m_ 66 12,C_ 67 .sub 66 1,m_ 12 67])))
def bX:aj:=(.seq (.seq (.draw [D_ (m_ 31 11),D_ (m_ 32 12),D_ (B_ 33 .leq 31 32),D_ (m_ 34 33),(q_ 35 34 true (.mv (t_ 4)),[]),(q_ 36 34 true (.mv (t_ 0)),[]),(q_ 37 34 true (.mv (t_ 1)),[]),(q_ 38 34 true (.cw none 3 (t_ 36) (t_ 37)),[]),(q_ 39 34 true (.load (some 3) (t_ 38)),[]),(q_ 40 34 true (.mv (t_ 0)),[]),(q_ 41 34 true (.mv (t_ 11)),[]),(q_ 42 34 true (.cw none 3 (t_ 40) (t_ 41)),[]),(q_ 43 34 true (.load (some 3) (t_ 42)),[]),(q_ 44 34 true (.call (t_ 35) [t_ 39,t_ 43]),[]),(q_ 45 34 true (.bin .lss [] (t_ 44) (i_ 0)),[]),(q_ 46 34 true (.un .not (t_ 45)),[]),(o_ 47 (.pick (t_ 34) (t_ 46) (.const (.bool false))),[])]) (.cond (t_ 47) .skip (.exit 2))) (.block 3 (.ops [m_ 48 11,C_ 49 .add 48 1,m_ 11 49])))
def de:aj:=(.block 1 (.seq (.block 2 (.loop bX)) (.seq (.block 4 (.loop bV)) (.seq (.seq (.ops [m_ 68 11,m_ 69 12,B_ 70 .gtr 68 69]) (.cond (t_ 70) (.exit 0) .skip)) (.seq (.draw [D_ (m_ 71 0),D_ (m_ 72 11),D_ (m_ 73 0),D_ (m_ 74 12),D_ (m_ 75 0),D_ (m_ 76 12),D_ (a_ 77 3 75 76),D_ (L_ 78 3 77),D_ (m_ 79 0),D_ (m_ 80 11),D_ (a_ 81 3 79 80),D_ (L_ 82 3 81),D_ (a_ 83 3 71 72),D_ (s_ 3 83 78),D_ (a_ 84 3 73 74),D_ (s_ 3 84 82)]) (.seq (.ops [m_ 85 11,C_ 86 .add 85 1,m_ 11 86]) (.ops [m_ 87 12,C_ 88 .sub 87 1,m_ 12 88])))))))
abbrev dh:Nat:=104
def dk:aj:=(.seq (.ops [k_ 10 0]) (.seq (.draw [D_ (m_ 13 0),D_ (m_ 14 1),D_ (m_ 15 0),D_ (m_ 16 3),D_ (m_ 17 0),D_ (m_ 18 3),D_ (a_ 19 3 17 18),D_ (L_ 20 3 19),D_ (m_ 21 0),D_ (m_ 22 1),D_ (a_ 23 3 21 22),D_ (L_ 24 3 23),D_ (a_ 25 3 13 14),D_ (s_ 3 25 20),D_ (a_ 26 3 15 16),D_ (s_ 3 26 24)]) (.seq (.ops [m_ 27 1,C_ 28 .add 27 1,m_ 29 2,C_ 30 .sub 29 1,m_ 11 28,m_ 12 30]) (.seq (.block 0 (.loop de)) (.seq (.ops [m_ 89 11,m_ 10 89]) .ret)))))
theorem gy:FF dh=some ⟨[(.tmp 10)],dk,.no⟩:=by kernel_rfl
def cH:aj:=(.seq (.seq (.draw [D_ (m_ 123 12),D_ (m_ 124 13),D_ (B_ 125 .leq 123 124),D_ (m_ 126 125),(q_ 127 126 true (.mv (t_ 4)),[]),(q_ 128 126 true (.mv (t_ 0)),[]),(q_ 129 126 true (.mv (t_ 13)),[]),(q_ 130 126 true (.cw none 3 (t_ 128) (t_ 129)),[]),(q_ 131 126 true (.load (some 3) (t_ 130)),[]),(q_ 132 126 true (.mv (t_ 0)),[]),(q_ 133 126 true (.mv (t_ 1)),[]),(q_ 134 126 true (.cw none 3 (t_ 132) (t_ 133)),[]),(q_ 135 126 true (.load (some 3) (t_ 134)),[]),(q_ 136 126 true (.call (t_ 127) [t_ 131,t_ 135]),[]),(q_ 137 126 true (.bin .lss [] (t_ 136) (i_ 0)),[]),(q_ 138 126 true (.un .not (t_ 137)),[]),(o_ 139 (.pick (t_ 126) (t_ 138) (.const (.bool false))),[])]) (.cond (t_ 139) .skip (.exit 8))) (.block 9 (.ops [m_ 140 13,C_ 141 .sub 140 1,m_ 13 141])))
def cC:aj:=(.seq (.seq (.draw [D_ (m_ 105 12),D_ (m_ 106 13),D_ (B_ 107 .leq 105 106),D_ (m_ 108 107),(q_ 109 108 true (.mv (t_ 4)),[]),(q_ 110 108 true (.mv (t_ 0)),[]),(q_ 111 108 true (.mv (t_ 12)),[]),(q_ 112 108 true (.cw none 3 (t_ 110) (t_ 111)),[]),(q_ 113 108 true (.load (some 3) (t_ 112)),[]),(q_ 114 108 true (.mv (t_ 0)),[]),(q_ 115 108 true (.mv (t_ 1)),[]),(q_ 116 108 true (.cw none 3 (t_ 114) (t_ 115)),[]),(q_ 117 108 true (.load (some 3) (t_ 116)),[]),(q_ 118 108 true (.call (t_ 109) [t_ 113,t_ 117]),[]),(q_ 119 108 true (.bin .lss [] (t_ 118) (i_ 0)),[]),(o_ 120 (.pick (t_ 108) (t_ 119) (.const (.bool false))),[])]) (.cond (t_ 120) .skip (.exit 6))) (.block 7 (.ops [m_ 121 12,C_ 122 .add 121 1,m_ 12 122])))
def dN:aj:=(.block 5 (.seq (.block 6 (.loop cC)) (.seq (.block 8 (.loop cH)) (.seq (.seq (.ops [m_ 142 12,m_ 143 13,B_ 144 .gtr 142 143]) (.cond (t_ 144) (.exit 4) .skip)) (.seq (.draw [D_ (m_ 145 0),D_ (m_ 146 12),D_ (m_ 147 0),D_ (m_ 148 13),D_ (m_ 149 0),D_ (m_ 150 13),D_ (a_ 151 3 149 150),D_ (L_ 152 3 151),D_ (m_ 153 0),D_ (m_ 154 12),D_ (a_ 155 3 153 154),D_ (L_ 156 3 155),D_ (a_ 157 3 145 146),D_ (s_ 3 157 152),D_ (a_ 158 3 147 148),D_ (s_ 3 158 156)]) (.seq (.ops [m_ 159 12,C_ 160 .add 159 1,m_ 12 160]) (.ops [m_ 161 13,C_ 162 .sub 161 1,m_ 13 162])))))))
def cG:aj:=(.seq (.seq (.draw [D_ (m_ 50 12),D_ (m_ 51 13),D_ (B_ 52 .leq 50 51),D_ (m_ 53 52),(q_ 54 53 true (.mv (t_ 4)),[]),(q_ 55 53 true (.mv (t_ 0)),[]),(q_ 56 53 true (.mv (t_ 13)),[]),(q_ 57 53 true (.cw none 3 (t_ 55) (t_ 56)),[]),(q_ 58 53 true (.load (some 3) (t_ 57)),[]),(q_ 59 53 true (.mv (t_ 0)),[]),(q_ 60 53 true (.mv (t_ 1)),[]),(q_ 61 53 true (.cw none 3 (t_ 59) (t_ 60)),[]),(q_ 62 53 true (.load (some 3) (t_ 61)),[]),(q_ 63 53 true (.call (t_ 54) [t_ 58,t_ 62]),[]),(q_ 64 53 true (.bin .lss [] (t_ 63) (i_ 0)),[]),(q_ 65 53 true (.un .not (t_ 64)),[]),(o_ 66 (.pick (t_ 53) (t_ 65) (.const (.bool false))),[])]) (.cond (t_ 66) .skip (.exit 2))) (.block 3 (.ops [m_ 67 13,C_ 68 .sub 67 1,m_ 13 68])))
def cE:aj:=(.seq (.seq (.draw [D_ (m_ 32 12),D_ (m_ 33 13),D_ (B_ 34 .leq 32 33),D_ (m_ 35 34),(q_ 36 35 true (.mv (t_ 4)),[]),(q_ 37 35 true (.mv (t_ 0)),[]),(q_ 38 35 true (.mv (t_ 12)),[]),(q_ 39 35 true (.cw none 3 (t_ 37) (t_ 38)),[]),(q_ 40 35 true (.load (some 3) (t_ 39)),[]),(q_ 41 35 true (.mv (t_ 0)),[]),(q_ 42 35 true (.mv (t_ 1)),[]),(q_ 43 35 true (.cw none 3 (t_ 41) (t_ 42)),[]),(q_ 44 35 true (.load (some 3) (t_ 43)),[]),(q_ 45 35 true (.call (t_ 36) [t_ 40,t_ 44]),[]),(q_ 46 35 true (.bin .lss [] (t_ 45) (i_ 0)),[]),(o_ 47 (.pick (t_ 35) (t_ 46) (.const (.bool false))),[])]) (.cond (t_ 47) .skip (.exit 0))) (.block 1 (.ops [m_ 48 12,C_ 49 .add 48 1,m_ 12 49])))
abbrev ec:Nat:=105
def ed:aj:=(.seq (.ops [k_ 10 0,o_ 11 (.mv (.const (.bool false)))]) (.seq (.draw [D_ (m_ 14 0),D_ (m_ 15 1),D_ (m_ 16 0),D_ (m_ 17 3),D_ (m_ 18 0),D_ (m_ 19 3),D_ (a_ 20 3 18 19),D_ (L_ 21 3 20),D_ (m_ 22 0),D_ (m_ 23 1),D_ (a_ 24 3 22 23),D_ (L_ 25 3 24),D_ (a_ 26 3 14 15),D_ (s_ 3 26 21),D_ (a_ 27 3 16 17),D_ (s_ 3 27 25)]) (.seq (.ops [m_ 28 1,C_ 29 .add 28 1,m_ 30 2,C_ 31 .sub 30 1,m_ 12 29,m_ 13 31]) (.seq (.block 0 (.loop cE)) (.seq (.block 2 (.loop cG)) (.seq (.seq (.ops [m_ 69 12,m_ 70 13,B_ 71 .gtr 69 70]) (.cond (t_ 71) (.seq (.draw [D_ (m_ 72 0),D_ (m_ 73 13),D_ (m_ 74 0),D_ (m_ 75 1),D_ (m_ 76 0),D_ (m_ 77 1),D_ (a_ 78 3 76 77),D_ (L_ 79 3 78),D_ (m_ 80 0),D_ (m_ 81 13),D_ (a_ 82 3 80 81),D_ (L_ 83 3 82),D_ (a_ 84 3 72 73),D_ (s_ 3 84 79),D_ (a_ 85 3 74 75),D_ (s_ 3 85 83)]) (.seq (.ops [m_ 86 13,m_ 10 86,o_ 11 (.mv (.const (.bool true)))]) .ret)) .skip)) (.seq (.draw [D_ (m_ 87 0),D_ (m_ 88 12),D_ (m_ 89 0),D_ (m_ 90 13),D_ (m_ 91 0),D_ (m_ 92 13),D_ (a_ 93 3 91 92),D_ (L_ 94 3 93),D_ (m_ 95 0),D_ (m_ 96 12),D_ (a_ 97 3 95 96),D_ (L_ 98 3 97),D_ (a_ 99 3 87 88),D_ (s_ 3 99 94),D_ (a_ 100 3 89 90),D_ (s_ 3 100 98)]) (.seq (.ops [m_ 101 12,C_ 102 .add 101 1,m_ 12 102]) (.seq (.ops [m_ 103 13,C_ 104 .sub 103 1,m_ 13 104]) (.seq (.block 4 (.loop dN)) (.seq (.draw [D_ (m_ 163 0),D_ (m_ 164 13),D_ (m_ 165 0),D_ (m_ 166 1),D_ (m_ 167 0),D_ (m_ 168 1),D_ (a_ 169 3 167 168),D_ (L_ 170 3 169),D_ (m_ 171 0),D_ (m_ 172 13),D_ (a_ 173 3 171 172),D_ (L_ 174 3 173),D_ (a_ 175 3 163 164),D_ (s_ 3 175 170),D_ (a_ 176 3 165 166),D_ (s_ 3 176 174)]) (.seq (.ops [m_ 177 13,m_ 10 177,o_ 11 (.mv (.const (.bool false)))]) .ret))))))))))))
theorem jc:FF ec=some ⟨[(.tmp 10),(.tmp 11)],ed,.no⟩:=by kernel_rfl
abbrev j9:Nat:=107
def vy:aj:=(.seq (.ops [k_ 2 0]) (.seq (.seq (.ops [m_ 3 0,o_ 4 (.bin .geq [] (t_ 3) (.const (.int .u64 4294967296)))]) (.cond (t_ 4) (.seq (.ops [m_ 5 0,o_ 6 (.bin .shr [] (t_ 5) (.const (.int .u64 32))),m_ 0 6]) (.ops [k_ 2 32])) .skip)) (.seq (.seq (.ops [m_ 7 0,o_ 8 (.bin .geq [] (t_ 7) (.const (.int .u64 65536)))]) (.cond (t_ 8) (.seq (.ops [m_ 9 0,o_ 10 (.bin .shr [] (t_ 9) (.const (.int .u64 16))),m_ 0 10]) (.ops [m_ 11 2,C_ 12 .add 11 16,m_ 2 12])) .skip)) (.seq (.seq (.ops [m_ 13 0,o_ 14 (.bin .geq [] (t_ 13) (.const (.int .u64 256)))]) (.cond (t_ 14) (.seq (.ops [m_ 15 0,o_ 16 (.bin .shr [] (t_ 15) (.const (.int .u64 8))),m_ 0 16]) (.ops [m_ 17 2,C_ 18 .add 17 8,m_ 2 18])) .skip)) (.seq (.ops [m_ 19 2,m_ 20 0,o_ 21 (.conv .u8 (t_ 20)),⟨(some 22),none,(.index none (.const (.string ⟨⟨[0,1,2,2,3,3,3,3,4,4,4,4,4,4,4,4,5,5,5,5,5,5,5,5,5,5,5,5,5,5,5,5,6,6,6,6,6,6,6,6,6,6,6,6,6,6,6,6,6,6,6,6,6,6,6,6,6,6,6,6,6,6,6,6,7,7,7,7,7,7,7,7,7,7,7,7,7,7,7,7,7,7,7,7,7,7,7,7,7,7,7,7,7,7,7,7,7,7,7,7,7,7,7,7,7,7,7,7,7,7,7,7,7,7,7,7,7,7,7,7,7,7,7,7,7,7,7,7,8,8,8,8,8,8,8,8,8,8,8,8,8,8,8,8,8,8,8,8,8,8,8,8,8,8,8,8,8,8,8,8,8,8,8,8,8,8,8,8,8,8,8,8,8,8,8,8,8,8,8,8,8,8,8,8,8,8,8,8,8,8,8,8,8,8,8,8,8,8,8,8,8,8,8,8,8,8,8,8,8,8,8,8,8,8,8,8,8,8,8,8,8,8,8,8,8,8,8,8,8,8,8,8,8,8,8,8,8,8,8,8,8,8,8,8,8,8,8,8,8,8,8,8,8,8,8,8]⟩⟩)) (t_ 21))⟩,o_ 23 (.conv .i64 (t_ 22)),B_ 24 .add 19 23,m_ 2 24]) .ret)))))
theorem vD:FF j9=some ⟨[(.tmp 2)],vy,.no⟩:=by kernel_rfl
def cM:aj:=(.block 1 (.seq (.ops [m_ 13 10,o_ 14 (.bin .mul [] (i_ 2) (t_ 13)),C_ 15 .add 14 1,m_ 11 15]) (.seq (.seq (.ops [m_ 16 11,m_ 17 2,B_ 18 .geq 16 17]) (.cond (t_ 18) (.exit 0) .skip)) (.seq (.seq (.draw [D_ (m_ 19 11),D_ (C_ 20 .add 19 1),D_ (m_ 21 2),D_ (B_ 22 .lss 20 21),D_ (m_ 23 22),(q_ 24 23 true (.mv (t_ 4)),[]),(q_ 25 23 true (.mv (t_ 0)),[]),(q_ 26 23 true (.mv (t_ 3)),[]),(q_ 27 23 true (.mv (t_ 11)),[]),(q_ 28 23 true (.bin .add [] (t_ 26) (t_ 27)),[]),(q_ 29 23 true (.cw none 3 (t_ 25) (t_ 28)),[]),(q_ 30 23 true (.load (some 3) (t_ 29)),[]),(q_ 31 23 true (.mv (t_ 0)),[]),(q_ 32 23 true (.mv (t_ 3)),[]),(q_ 33 23 true (.mv (t_ 11)),[]),(q_ 34 23 true (.bin .add [] (t_ 32) (t_ 33)),[]),(q_ 35 23 true (.bin .add [] (t_ 34) (i_ 1)),[]),(q_ 36 23 true (.cw none 3 (t_ 31) (t_ 35)),[]),(q_ 37 23 true (.load (some 3) (t_ 36)),[]),(q_ 38 23 true (.call (t_ 24) [t_ 30,t_ 37]),[]),(q_ 39 23 true (.bin .lss [] (t_ 38) (i_ 0)),[]),(o_ 40 (.pick (t_ 23) (t_ 39) (.const (.bool false))),[])]) (.cond (t_ 40) (.ops [m_ 41 11,C_ 42 .add 41 1,m_ 11 42]) .skip)) (.seq (.seq (.draw [D_ (m_ 43 4),D_ (m_ 44 0),D_ (m_ 45 3),D_ (m_ 46 10),D_ (B_ 47 .add 45 46),D_ (a_ 48 3 44 47),D_ (L_ 49 3 48),D_ (m_ 50 0),D_ (m_ 51 3),D_ (m_ 52 11),D_ (B_ 53 .add 51 52),D_ (a_ 54 3 50 53),D_ (L_ 55 3 54),(o_ 56 (.call (t_ 43) [t_ 49,t_ 55]),[]),D_ (C_ 57 .lss 56 0),(o_ 58 (.un .not (t_ 57)),[])]) (.cond (t_ 58) .ret .skip)) (.seq (.draw [D_ (m_ 59 0),D_ (m_ 60 3),D_ (m_ 61 10),D_ (B_ 62 .add 60 61),D_ (m_ 63 0),D_ (m_ 64 3),D_ (m_ 65 11),D_ (B_ 66 .add 64 65),D_ (m_ 67 0),D_ (m_ 68 3),D_ (m_ 69 11),D_ (B_ 70 .add 68 69),D_ (a_ 71 3 67 70),D_ (L_ 72 3 71),D_ (m_ 73 0),D_ (m_ 74 3),D_ (m_ 75 10),D_ (B_ 76 .add 74 75),D_ (a_ 77 3 73 76),D_ (L_ 78 3 77),D_ (a_ 79 3 59 62),D_ (s_ 3 79 72),D_ (a_ 80 3 63 66),D_ (s_ 3 80 78)]) (.ops [m_ 81 11,m_ 10 81])))))))
abbrev eB:Nat:=109
def ep:aj:=(.seq (.ops [⟨(some 12),none,(.mv (.tmp 1))⟩,⟨(some 10),none,(.mv (.tmp 12))⟩]) (.block 0 (.loop cM)))
theorem jo:FF eB=some ⟨[],ep,.no⟩:=by kernel_rfl
abbrev jF:Nat:=110
def jG:aj:=(.seq (.ops [o_ 2 (.mv (.const (.int .u64 0)))]) (.seq (.ops [m_ 3 0,o_ 4 (.conv .u64 (t_ 3)),F_ 5 94 [t_ 4],o_ 6 (.bin .shl [] (.const (.int .u64 1)) (t_ 5)),m_ 2 6]) .ret))
theorem p8:FF jF=some ⟨[(.tmp 2)],jG,.no⟩:=by kernel_rfl
abbrev jQ:Nat:=111
def jO:aj:=(.seq (.ops [o_ 2 (.mv (.const (.int .u64 0)))]) (.seq (.draw [D_ (m_ 3 0),(o_ 4 (.bj (t_ 3)),[]),D_ (l_ 5 4),D_ (m_ 6 0),(o_ 7 (.bj (t_ 6)),[]),D_ (l_ 8 7),(o_ 9 (.bin .shl [] (t_ 8) (.const (.int .u64 13))),[]),D_ (B_ 10 .xor 5 9),(o_ 11 (.bj (t_ 3)),[]),D_ (s_ 1 11 10)]) (.seq (.draw [D_ (m_ 12 0),(o_ 13 (.bj (t_ 12)),[]),D_ (l_ 14 13),D_ (m_ 15 0),(o_ 16 (.bj (t_ 15)),[]),D_ (l_ 17 16),(o_ 18 (.bin .shr [] (t_ 17) (.const (.int .u64 7))),[]),D_ (B_ 19 .xor 14 18),(o_ 20 (.bj (t_ 12)),[]),D_ (s_ 1 20 19)]) (.seq (.draw [D_ (m_ 21 0),(o_ 22 (.bj (t_ 21)),[]),D_ (l_ 23 22),D_ (m_ 24 0),(o_ 25 (.bj (t_ 24)),[]),D_ (l_ 26 25),(o_ 27 (.bin .shl [] (t_ 26) (.const (.int .u64 17))),[]),D_ (B_ 28 .xor 23 27),(o_ 29 (.bj (t_ 21)),[]),D_ (s_ 1 29 28)]) (.seq (.ops [m_ 30 0,o_ 31 (.bj (t_ 30)),l_ 32 31,m_ 2 32]) .ret)))))
theorem qu:FF jQ=some ⟨[(.tmp 2)],jO,.no⟩:=by kernel_rfl
abbrev fg:Nat:=113
def eU:aj:=(.seq (.ops [k_ 12 0]) (.seq (.ops [m_ 14 0,m_ 15 1,m_ 16 2,m_ 17 4,m_ 18 5,F_ 19 115 [t_ 14,t_ 15,t_ 16,t_ 17,t_ 18],m_ 13 19,o_ 20 (.ext 0 (t_ 13)),o_ 21 (.ext 1 (t_ 13)),m_ 1 20,m_ 2 21]) (.seq (.ops [m_ 23 0,m_ 24 2,m_ 25 3,m_ 26 4,m_ 27 5,F_ 28 115 [t_ 23,t_ 24,t_ 25,t_ 26,t_ 27],m_ 22 28,o_ 29 (.ext 0 (t_ 22)),o_ 30 (.ext 1 (t_ 22)),m_ 2 29,m_ 3 30]) (.seq (.ops [m_ 32 0,m_ 33 1,m_ 34 2,m_ 35 4,m_ 36 5,F_ 37 115 [t_ 32,t_ 33,t_ 34,t_ 35,t_ 36],m_ 31 37,o_ 38 (.ext 0 (t_ 31)),o_ 39 (.ext 1 (t_ 31)),m_ 1 38,m_ 2 39]) (.seq (.ops [m_ 40 2,m_ 12 40]) .ret)))))
theorem jR:FF fg=some ⟨[(.tmp 12)],eU,.no⟩:=by kernel_rfl
abbrev fm:Nat:=115
def fh:aj:=(.seq (.ops [k_ 10 0,k_ 11 0]) (.seq (.seq (.draw [D_ (m_ 12 4),D_ (m_ 13 0),D_ (m_ 14 2),D_ (a_ 15 3 13 14),D_ (L_ 16 3 15),D_ (m_ 17 0),D_ (m_ 18 1),D_ (a_ 19 3 17 18),D_ (L_ 20 3 19),(o_ 21 (.call (t_ 12) [t_ 16,t_ 20]),[]),D_ (C_ 22 .lss 21 0)]) (.cond (t_ 22) (.seq (.ops [m_ 23 3,o_ 24 (.bj (t_ 23)),l_ 25 24,C_ 26 .add 25 1,o_ 27 (.bj (t_ 23)),s_ 1 27 26]) (.seq (.ops [m_ 28 2,m_ 29 1,m_ 10 28,m_ 11 29]) .ret)) .skip)) (.seq (.ops [m_ 30 1,m_ 31 2,m_ 10 30,m_ 11 31]) .ret)))
theorem jY:FF fm=some ⟨[(.tmp 10),(.tmp 11)],fh,.no⟩:=by kernel_rfl
end Go.Proofs.YtdkdbjecehcekaaGreatDoor

namespace Go.Proofs.YtdkdbjecehcekaaGreatDoor
open Go.AI
theorem df (h:ae) (a b c:Int):aE FF ua [.int .i64 a,.int .i64 b,.int .i64 c] h (fun v h'=>v= .bool (decide (b≤a)&&decide (a≤c))∧h'=h):=by
 refine aE.of z6 ?_
 unfold tO
 by_cases h1:b≤a<;>by_cases h2:a≤c<;>simp[h1,h2]
theorem ie (h:ae) (ok:bh h) (a b:Int):aE FF vm [.int .i64 a,.int .i64 b] h (fun v h'=>v= .agg #[.int .i64 a,.int .i64 b]∧ab aG h h'):=by
 refine aE.of BF ?_
 unfold uV
 simp
 repeat (first|exact .refl ok|apply ab.new|refine ab.put ?_ (by simp) (by simp))
def bS (op:Int):Bool×Bool×Bool:=
 if op=1∨op=16∨op=17∨op=18 then(true,true,false) else
 if 2≤op∧op≤15 then(true,true,true) else
 if op=19 then(false,true,true) else
 if op=20∨op=21 then(true,false,false) else
 if op=22 then(false,true,false) else(false,false,false)
theorem nc {a b:Int} (h: ¬a=b):(a==b)=false:=by simpa using h
theorem w_ (h:ae) (ok:bh h) (op:Int):aE FF tH [.int .i64 op] h (fun v h'=>v= .agg #[.bool (bS op).1,.bool (bS op).2.1,.bool (bS op).2.2]∧ab aG h h'):=by
 refine aE.of z7 ?_
 unfold tT
 by_cases k1:op=1
 ·subst k1;simp[bS];repeat (first|exact .refl ok|apply ab.new|refine ab.put ?_ (by simp) (by simp))
 by_cases k2:op=16
 ·subst k2;simp[bS];repeat (first|exact .refl ok|apply ab.new|refine ab.put ?_ (by simp) (by simp))
 by_cases k3:op=17
 ·subst k3;simp[bS];repeat (first|exact .refl ok|apply ab.new|refine ab.put ?_ (by simp) (by simp))
 by_cases k4:op=18
 ·subst k4;simp[bS];repeat (first|exact .refl ok|apply ab.new|refine ab.put ?_ (by simp) (by simp))
 by_cases k6:op=19
 ·subst k6;simp[bS];repeat (first|exact .refl ok|apply ab.new|refine ab.put ?_ (by simp) (by simp))
 by_cases k7:op=20
 ·subst k7;simp[bS];repeat (first|exact .refl ok|apply ab.new|refine ab.put ?_ (by simp) (by simp))
 by_cases k8:op=21
 ·subst k8;simp[bS];repeat (first|exact .refl ok|apply ab.new|refine ab.put ?_ (by simp) (by simp))
 by_cases k9:op=22
 ·subst k9;simp[bS];repeat (first|exact .refl ok|apply ab.new|refine ab.put ?_ (by simp) (by simp))
 have b1:=nc k1
 have b2:=nc k2
 have b3:=nc k3
 have b4:=nc k4
 have b6:=nc k6
 have b7:=nc k7
 have b8:=nc k8
 have b9:=nc k9
 by_cases l1:2≤op
 ·by_cases l2:op≤15
  ·have:bS op=(true,true,true):=by unfold bS;rw[if_neg (by omega),if_pos ⟨l1,l2⟩]
   simp[b1,b2,b3,b4,k1,k2,k3,k4,l1,l2,this]
   repeat (first|exact .refl ok|apply ab.new|refine ab.put ?_ (by simp) (by simp))
  ·have l2':15<op:=by omega
   have:bS op=(false,false,false):=by unfold bS;rw[if_neg (by omega),if_neg (by omega),if_neg k6,if_neg (by omega),if_neg k9]
   simp[b1,b2,b3,b4,b6,b7,b8,b9,k1,k2,k3,k4,k6,k7,k8,k9,l1,l2,l2',this]
   repeat (first|exact .refl ok|apply ab.new|refine ab.put ?_ (by simp) (by simp))
 ·have l1':op<2:=by omega
  have:bS op=(false,false,false):=by unfold bS;rw[if_neg (by omega),if_neg (by omega),if_neg k6,if_neg (by omega),if_neg k9]
  simp[b1,b2,b3,b4,b6,b7,b8,b9,k1,k2,k3,k4,k6,k7,k8,k9,l1,l1',this]
  repeat (first|exact .refl ok|apply ab.new|refine ab.put ?_ (by simp) (by simp))
def ay (op dst:Int) (ar:Bool) (an:Int) (br:Bool) (bn:Int) (fn:Int) (args:Value):List Value:=[.int .i64 op,.int .i64 dst,.bool ar,.int .i64 an,.bool br,.int .i64 bn,.int .i64 fn,args]
def cY (words op:Int) (ar:Bool) (an:Int) (br:Bool) (bn:Int):Bool:=
 if op=5∨op=6 then !br&&decide (bn≠0) else if op=18 then !ar&&(decide (0≤an)&&decide (an≤words-1)) else decide (1≤op)&&decide (op≤17)
theorem yA (h:ae) (ok:bh h) (words op dst an bn fn:Int) (ar br:Bool) (aa:Option Addr) (al ac:Nat) (hw:0≤words∧words<1000000000):
  aE FF rE [.int .i64 words,.agg ⟨ay op dst ar an br bn fn (.slice aa al ac)⟩] h (fun v h'=>v= .bool (cY words op ar an br bn)∧ab aG h h'):=by
 refine aE.of zh ?_
 unfold rI
 have hw1:=wrap_i64 (words-1) (by omega) (by omega)
 by_cases k5:op=5
 ·subst k5
  cases br with
  |true=>simp[ay,cY];exact aI ok _ _
  |false=>
   by_cases hb:bn=0
   ·subst hb;simp[ay,cY];exact aI ok _ _
   ·simp[ay,cY,hb];exact aI ok _ _
 by_cases k6:op=6
 ·subst k6
  cases br with
  |true=>simp[ay,cY];exact aI ok _ _
  |false=>
   by_cases hb:bn=0
   ·subst hb;simp[ay,cY];exact aI ok _ _
   ·simp[ay,cY,hb];exact aI ok _ _
 have b5:=nc k5
 have b6:=nc k6
 by_cases k18:op=18
 ·subst k18
  cases ar with
  |true=>simp[ay,cY];exact aI ok _ _
  |false=>
   simp[ay,cY,hw1]
   refine aD.call (by simpa using df _ an 0 (words-1)) ?_
   rintro _ h' ⟨rfl,rfl⟩
   simp
   exact aI ok _ _
 ·have b18:=nc k18
  simp[ay,b5,b6,b18,k5,k6,k18]
  refine aD.call (by simpa using df _ op 1 17) ?_
  rintro _ h' ⟨rfl,rfl⟩
  simp[cY,k5,k6,k18]
  exact aI ok _ _
def N1 (op:Int) (br:Bool) (bn:Int):Prop:=(2≤op∧op≤15)∨((op=1∨op=16∨op=17)∧br=false∧bn=0)
theorem N1.le {op:Int} {br:Bool} {bn:Int} (h:N1 op br bn):1≤op∧op≤17:=by
 rcases h with h|⟨h,_⟩<;>omega
end Go.Proofs.YtdkdbjecehcekaaGreatDoor
namespace Go.AI
def Kept (W W':World):Prop:=W'.os=W.os∧W'.output=W.output∧W.heap.size≤W'.heap.size∧ ∀i,i<W.heap.size→W'.heap[i]? =W.heap[i]?
theorem Kept.keptBut {W W':World} (h:Kept W W') (may:MemPlace→Prop):W.keptBut W' may:=by
 refine⟨h.1,h.2.1,fun i hi=> ?_⟩
 rw[h.2.2.2 i hi]
 cases hx:W.heap[i]? with
 |none=>rfl
 |some o=>
  cases o with
  |cells cc t fr=>exact⟨rfl,rfl,rfl,fun _ _=>rfl⟩
  |map es cl=>exact .inr ⟨rfl,rfl⟩
  |_=>rfl
theorem Kept.sameAt {W W':World} (h:Kept W W') {p:MemPlace} (hp:p.block<W.heap.size):W.sameAt W' p:=by
 cases p with
 |cell b off=>simp only[World.sameAt,World.cell?,h.2.2.2 b hp]
 |map b=>exact h.2.2.2 b hp
theorem Kept.frozen {W W':World} (h:Kept W W') {b off:Nat} (hb:b<W.heap.size):W'.frozen? ⟨b,off,none⟩=W.frozen? ⟨b,off,none⟩:=by
 simp only[World.frozen?,h.2.2.2 b hb]
section
variable {P:Program} {T:mV} {ng:Nat} {F:Nat→Option bA}
theorem law_read (hF:zD P T ng (dq T ng) F) (hT:bQ P T) {f:Nat} {args cargs:List Value} {h:ae} (H:aE F f args h (fun v _=>v= .bool true))
  {ρ:dp} {W:World} (S:cu (eY T ng (dq T ng)) ρ h W) (hG:bJ ng ρ) (ha:All2 (VR ρ) args cargs) (hro: ∀b,¬dm h b):
  Calls P f ⟨cargs⟩ W (fun e W'=>e= .returned (.bool true)∧Kept W W'):=by
 obtain⟨n,v,h',hr,rfl⟩:=H
 intro ccs
 obtain⟨fn,ρ',w',c,fr,_,_,_,h4,h5,h6,h7,_,h9⟩:=uQ hF hT hr S hG ha ccs
 have hcb:=h7.j5
 subst hcb
 exact⟨.returned (.bool true),w',fr,⟨rfl,h9.os,h9.output,h9.size,fun i hi=>h9.pK i hi (fun b r _ hw=>absurd hw (hro b))⟩,h4,h5,h6⟩
end
section
open Go.ChangeShapes Go.WideShapes Go.ChangeAt
variable {H:Type} {enc:TypeId×Value→H} {P:Program}
theorem post_of_read {f:Func} {s:ChangeSpec} {apart fresh handsOn again:Bool} {W W':World} {args:Array Value} {v:Value} {ds gs:List (DataW H)} {before:List MemPlace}
  (hW:DataW.Whole enc P f.params.toList s.vars apart W args.toList ds gs before)
  (hres: ∀(b:Nat) (sp:Nat→Bool) (hd:Bool),DataW.TrodAll enc P W' b sp hd f.resultTypes.toList (v.resultList f.resultTypes.size) (s.fn H (ds++gs)).results [])
  (hargs: ∀sp:Nat→Bool,(∀p∈before,sp p.block=true)→DataW.TrodAll enc P W' 0 sp true f.params.toList args.toList (s.fn H (ds++gs)).args before)
  (hvars: ∀sp:Nat→Bool,(∀p∈before,sp p.block=true)→DataW.TrodVars enc P W' sp s.vars (s.fn H (ds++gs)).vars [])
  (hk:Kept W W')
  (hok: ∀(j:Nat) (t:TypeId) (r:Value),f.resultTypes[j]? =some t→(v.resultList f.resultTypes.size)[j]? =some r→Value.okWide P W' .any 0 t r):
  s.post enc P f apart fresh handsOn again W args v W':=by
 have hold: ∀p∈before,(fun b=>decide (b<W.heap.size)) p.block=true:=fun p hp=>by simpa using hW.lt p hp
 refine⟨ds,gs,before,[],before,[],hW,hres _ _ _,hargs _ hold,hvars _ hold,World.keptBut_mono (fun p hp=>⟨hp,.inr (.inl hp)⟩) (hk.keptBut _),fun _=> ?_⟩
 have hlt:=hW.lt
 obtain⟨_,_,_,_,_,hz,hn⟩:=hW
 refine⟨hok,_,_,([]++before)++[],⟨[]++before,[],trodAll_append (hargs _ (fun _ _=>rfl)) (hres _ _ _),hvars _ (fun _ _=>rfl),rfl,?_,?_⟩,?_⟩
 ·intro b off hp
  simp only[List.nil_append,List.append_nil] at hp
  rw[hk.frozen (b:=b) (hlt (.cell b off) hp)]
  exact hz b off hp
 ·intro ha
  simpa using hn ha
 ·intro p hp _
  simpa using hp
end
end Go.AI
namespace Go.AI
open Go.ChangeShapes Go.WideShapes
inductive Ty where
 |bool
 |int (k:IntKind)
 |str
 |unit
 |pair (a b:Ty)
 |sl (e:Ty)
namespace Ty
def sz:Ty→Nat
 | .bool=>1
 | .int _=>1
 | .str=>1
 | .unit=>0
 | .pair a b=>a.sz+b.sz
 | .sl _=>1
def den:Ty→Type
 | .bool=>Bool
 | .int _=>Int
 | .str=>ByteArray
 | .unit=>Unit
 | .pair a b=>a.den×b.den
 | .sl e=>List e.den
def rep (e:Ty):Nat→Ty
 |0=> .unit
 |n+1=> .pair e (e.rep n)
end Ty
def SliceR {α:Type} (R:List Value→α→Prop) (sz:Nat) (h:ae) (v:Value) (xs:List α):Prop:=
 ∃a cap,v= .slice a xs.length cap∧((xs=[]∧(a=none∨ ∃b off,a=some ⟨b,off,none⟩))∨
  ∃b off cs ro o s,a=some ⟨b,off,none⟩∧h.tr.get b=some (.aA cs ro o s)∧ ∀i x,xs[i]? =some x→((cs.drop (off+i*sz)).take sz).length=sz∧R ((cs.drop (off+i*sz)).take sz) x)
def rep:(T:Ty)→ae→List Value→T.den→Prop
 | .bool,_,cs,b=>cs=[.bool b]
 | .int k,_,cs,n=>cs=[.int k n]
 | .str,_,cs,s=>cs=[.string s]
 | .unit,_,cs,_=>cs=[]
 | .pair a b,h,cs,(x,y)=> ∃c1 c2,cs=c1++c2∧rep a h c1 x∧rep b h c2 y
 | .sl e,h,cs,xs=> ∃v,cs=[v]∧SliceR (rep e h) e.sz h v xs
theorem SliceR.mono {α:Type} {R R':List Value→α→Prop} {sz:Nat} {h h':ae} {v:Value} {xs:List α} (s:SliceR R sz h v xs) (ok:bh h) (g:ab aG h h') (hR: ∀c x,R c x→R' c x):SliceR R' sz h' v xs:=by
 obtain⟨a,cap,rfl,s⟩:=s
 refine⟨a,cap,rfl,?_⟩
 rcases s with s|⟨b,off,cs,ro,o,st,rfl,hb,he⟩
 ·exact .inl s
 ·exact .inr ⟨b,off,cs,ro,o,st,rfl,g.get ok hb (fun h=>h),fun i x hx=>⟨(he i x hx).1,hR _ _ (he i x hx).2⟩⟩
theorem pZ: ∀ {T:Ty} {h h':ae} {cs:List Value} {y:T.den},bh h→ab aG h h'→rep T h cs y→rep T h' cs y
 | .bool,_,_,_,_,_,_,r=>r
 | .int _,_,_,_,_,_,_,r=>r
 | .str,_,_,_,_,_,_,r=>r
 | .unit,_,_,_,_,_,_,r=>r
 | .pair a b,_,_,_,(x,y),ok,g,⟨c1,c2,e,r1,r2⟩=>⟨c1,c2,e,pZ ok g r1,pZ ok g r2⟩
 | .sl e,_,_,_,_,ok,g,⟨v,hv,s⟩=>⟨v,hv,s.mono ok g fun _ _ r=>pZ ok g r⟩
theorem xQ: ∀ {T:Ty} {h:ae} {cs:List Value} {y:T.den},rep T h cs y→cs.length=T.sz
 | .bool,_,_,_,r=>by rw[show _=[_] from r];rfl
 | .int _,_,_,_,r=>by rw[show _=[_] from r];rfl
 | .str,_,_,_,r=>by rw[show _=[_] from r];rfl
 | .unit,_,_,_,r=>by rw[show _=[] from r];rfl
 | .pair a b,_,_,(x,y),⟨c1,c2,e,r1,r2⟩=>by rw[e,List.length_append,xQ r1,xQ r2];rfl
 | .sl e,_,_,_,⟨v,hv,_⟩=>by rw[hv];rfl
def Bd (k:Option Nat):(T:Ty)→T.den→Prop
 | .bool,_=>True
 | .int _,_=>True
 | .str,_=>True
 | .unit,_=>True
 | .pair a b,(x,y)=>Bd k a x∧Bd k b y
 | .sl e,(xs:List e.den)=>(∀K,k=some K→xs.length≤K)∧ ∀x∈xs,Bd k e x
section
variable (P:Program)
def iZ (f:TypeId→Option Ty):Nat→List Field→Option (Ty×Nat)
 |off,[]=>some (.unit,off)
 |off,x::xs=>bif Nat.beq x.offset off then match f x.type with
   |none=>none
   |some a=>bif Nat.beq a.sz (P.cellsOf x.type) then match iZ f (off+a.sz) xs with
     |some (b,n)=>some (.pair a b,n)
     |none=>none
    else none
  else none
def tyOf:Nat→TypeId→Option Ty
 |0,_=>none
 |d+1,t=>match P.underlying t with
  |some .bool=>some .bool
  |some (.int k)=>some (.int k)
  |some .string=>some .str
  |some (.slice e)=>match tyOf d e with
   |some a=>bif Nat.blt 0 (P.bytesOf e)&&(Nat.beq a.sz (P.cellsOf e)&&Nat.blt 0 a.sz) then some (.sl a) else none
   |none=>none
  |some (.struct fs)=>match iZ P (tyOf d) 0 fs.toList with
   |some (a,n)=>bif Nat.beq n (P.cellsOf t) then some a else none
   |none=>none
  |some (.array n e)=>match tyOf d e with
   |some a=>bif Nat.beq a.sz (P.cellsOf e)&&Nat.beq (n*a.sz) (P.cellsOf t) then some (a.rep n) else none
   |none=>none
  |_=>none
end
theorem qD {a b:Nat} (h:Nat.beq a b=true):a=b:=Nat.eq_of_beq_eq_true h
structure uE (CC:bI) (ρ:dp) (h:ae) (w:World):Prop where
 ok:bh h
 ro: ∀b,¬dm h b
 GC:cu CC ρ h w
section
variable {H:Type} {enc:TypeId×Value→H} {P:Program} {w:World} {held:Bool} {CC:bI}
theorem uE.add {ρ:dp} {h:ae} (L:uE CC ρ h w) {aA base:Nat} {acs:List Value} {ccs:Array Value} {el:TypeId} {fr:Nat×Nat} (hb:w.heap[aA]? =some (.cells ccs el fr)) (hbase:base≤ccs.size)
  (hk: ∀(j:Nat) (v:Value),acs[j]? =some v→ ∃c,ccs[base+j]? =some c∧KR ρ v c):
  ∃ρ',ρ.le ρ'∧ρ' h.next=some ⟨aA,base,acs.length,0,ccs.size-base⟩∧uE CC ρ' (h.new (.aA acs true 0 0)) w∧ab aG h (h.new (.aA acs true 0 0)):=by
 have hnone:ρ h.next=none:=by
  cases hr:ρ h.next with
  |none=>rfl
  |some r=>exact absurd (L.GC.low _ _ hr).1 (by omega)
 let ρ':dp:=fun b=>if b=h.next then some ⟨aA,base,acs.length,0,ccs.size-base⟩ else ρ b
 have hle:ρ.le ρ':=by
  intro b r hr
  show(if b=h.next then _ else ρ b)=some r
  rw[if_neg (by rintro rfl;rw[hnone] at hr;cases hr)]
  exact hr
 have hself:ρ' h.next=some ⟨aA,base,acs.length,0,ccs.size-base⟩:=by show(if h.next=h.next then _ else _)=_;rw[if_pos rfl]
 have hget: ∀b,(h.new (.aA acs true 0 0)).tr.get b=if b=h.next then some (.aA acs true 0 0) else h.tr.get b:=by intro b;simp[ae.new,Tr.aN]
 have hok:bh (h.new (.aA acs true 0 0)):=by
  refine⟨fun b o hb=> ?_,fun b cs ro o s hb=> ?_⟩
  ·rw[hget] at hb
   show b<h.next+1
   split at hb
   ·omega
   ·exact Nat.lt_succ_of_lt (L.ok.wf b o hb)
  ·rw[hget] at hb
   split at hb
   ·cases hb;exact Nat.zero_le _
   ·exact L.ok.st b cs ro o s hb
 have hro: ∀b,¬dm (h.new (.aA acs true 0 0)) b:=by
  rintro b ⟨o,ho,hr⟩
  rw[hget] at ho
  split at ho
  ·cases ho;cases hr
  ·exact L.ro b ⟨o,ho,hr⟩
 have hgr:ab aG h (h.new (.aA acs true 0 0)):=by
  refine⟨Nat.le_succ _,Nat.le_refl _,fun b hb _=> ?_,hok⟩
  rw[hget,if_neg (by omega)]
 refine⟨ρ',hle,hself,⟨hok,hro,⟨fun b r hr=> ?_,fun b r o hr ho=> ?_,fun b b' r r' o _ _ hw=>absurd hw (hro b),fun b o ho=>hok.wf b o ho⟩⟩,hgr⟩
 ·by_cases e:b=h.next
  ·rw[e] at hr
   rw[hself] at hr
   cases hr
   exact⟨by rw[e];exact Nat.lt_succ_self _,(Array.getElem?_eq_some_iff.mp hb).1⟩
  ·have hr':ρ b=some r:=by
    have:ρ' b=ρ b:=by show(if b=h.next then _ else ρ b)=_;rw[if_neg e]
    rw[←this];exact hr
   exact⟨Nat.lt_succ_of_lt (L.GC.low _ _ hr').1,(L.GC.low _ _ hr').2⟩
 ·rw[hget] at ho
  by_cases e:b=h.next
  ·rw[if_pos e] at ho
   cases ho
   rw[e,hself] at hr
   cases hr
   exact⟨ccs,el,fr,hb,rfl,rfl,⟨by dsimp only;omega,fun h=>absurd rfl h⟩,(fun h=>by cases h),fun j v hv=>by
    obtain⟨c,hc,hkr⟩:=hk j v hv
    exact⟨c,hc,hkr.mono hle⟩⟩
  ·rw[if_neg e] at ho
   have hr':ρ b=some r:=by
    have:ρ' b=ρ b:=by show(if b=h.next then _ else ρ b)=_;rw[if_neg e]
    rw[←this];exact hr
   have hobj:=L.GC.obj b r o hr' ho
   cases o with
   |aA cs ro op st=>
    obtain⟨c2,el2,fr2,h1,h2,h3,h4,h5,h6⟩:=hobj
    exact⟨c2,el2,fr2,h1,h2,h3,h4,h5,fun j v hv=>by
     obtain⟨c,hc,hkr⟩:=h6 j v hv
     exact⟨c,hc,hkr.mono hle⟩⟩
   |loop=>exact absurd ⟨_,ho,rfl⟩ (L.ro b)
   |map=>exact absurd ⟨_,ho,rfl⟩ (L.ro b)
   |Mz=>exact absurd ⟨_,ho,rfl⟩ (L.ro b)
def Laid (k:Option Nat) (CC:bI) (w:World) (T:Ty) (ρ:dp) (h:ae) (cs:List Value):Prop:=
 ∃ρ' h' acs y,ρ.le ρ'∧ab aG h h'∧uE CC ρ' h' w∧All2 (KR ρ') acs cs∧rep T h' acs y∧Bd k T y
def WB (k:Option Nat) (P:Program) (t:TypeId) (d:DataW H):Prop:= ∀K,k=some K→ ∀n∈d.weights P t,n≤K
theorem Ft {k:Option Nat} {P:Program} {e:TypeId} {K:Nat} (hk:k=some K): ∀ {l:List (DataW H)},(∀n∈DataW.weightsAll P e l,n≤K)→ ∀ {i:Nat} {d:DataW H},l[i]? =some d→WB k P e d
 |[],_,_,_,hi=>by simp at hi
 |x::l,h,i,d,hi=>by
  rw[DataW.weightsAll] at h
  cases i with
  |zero=>
   simp at hi
   subst hi
   intro K2 hk2 n hn
   rw[hk] at hk2
   cases hk2
   exact h n (List.mem_append_left _ hn)
  |succ i=>exact Ft hk (fun n hn=>h n (List.mem_append_right _ hn)) (by simpa using hi)
theorem GK {P:Program} {K:Nat} : ∀ {ts:List TypeId} {l:List (DataW H)},(∀n∈DataW.weightsEach P ts l,n≤K)→ ∀ {i:Nat} {t:TypeId} {d:DataW H},ts[i]? =some t→l[i]? =some d→ ∀n∈d.weights P t,n≤K
 |[],_,_,_,_,_,ht,_=>by simp at ht
 |_::_,[],_,_,_,_,_,hi=>by simp at hi
 |u::ts,x::l,h,i,t,d,ht,hi=>by
  rw[DataW.weightsEach] at h
  cases i with
  |zero=>
   simp at hi ht
   subst hi ht
   exact fun n hn=>h n (List.mem_append_left _ hn)
  |succ i=>exact GK (fun n hn=>h n (List.mem_append_right _ hn)) (by simpa using ht) (by simpa using hi)
theorem AE {k:Option Nat} {a b:Ty} {ρ:dp} {h:ae} {c1 c2:List Value} (h1:Laid k CC w a ρ h c1) (h2: ∀ρ' h',uE CC ρ' h' w→Laid k CC w b ρ' h' c2):Laid k CC w (.pair a b) ρ h (c1++c2):=by
 obtain⟨ρ1,m1,a1,y1,l1,g1,L1,k1,r1,b1⟩:=h1
 obtain⟨ρ2,m2,a2,y2,l2,g2,L2,k2,r2,b2⟩:=h2 ρ1 m1 L1
 exact⟨ρ2,m2,a1++a2,(y1,y2),dp.le_trans l1 l2,g1.trans g2,L2,(k1.mono fun _ _ h=>h.mono l2).app k2,⟨a1,a2,rfl,pZ L1.ok g2 r1,r2⟩,b1,b2⟩
theorem CI {k:Option Nat} {e:Ty} : ∀ {css:List (List Value)} {ρ:dp} {h:ae},uE CC ρ h w→(∀cs∈css,∀ρ' h',uE CC ρ' h' w→Laid k CC w e ρ' h' cs)→
  ∃ρ' h' acss ys,ρ.le ρ'∧ab aG h h'∧uE CC ρ' h' w∧All2 (All2 (KR ρ')) acss css∧All2 (rep e h') acss ys∧ ∀y∈ys,Bd k e y
 |[],ρ,h,L,_=>⟨ρ,h,[],[],ρ.le_refl,.refl L.ok,L,.nil,.nil,fun y hy=>by cases hy⟩
 |cs::css,ρ,h,L,H=>by
  obtain⟨ρ1,m1,a1,y1,l1,g1,L1,k1,r1,b1⟩:=H cs (List.mem_cons_self ..) ρ h L
  obtain⟨ρ2,m2,a2,y2,l2,g2,L2,k2,r2,b2⟩:=CI L1 (fun c hc=>H c (List.mem_cons_of_mem _ hc))
  exact⟨ρ2,m2,a1::a2,y1::y2,dp.le_trans l1 l2,g1.trans g2,L2,.cons (k1.mono fun _ _ h=>h.mono l2) k2,.cons (pZ L1.ok g2 r1) r2,fun y hy=>by
   rcases List.mem_cons.1 hy with rfl|hy
   ·exact b1
   ·exact b2 y hy⟩
theorem Ao {α β:Type} {R:α→β→Prop} : ∀ {l:List (List α)} {m:List (List β)},All2 (All2 R) l m→All2 R l.flatten m.flatten
 |_,_,.nil=> .nil
 |_,_,.cons h hs=>by simpa using h.app (Ao hs)
theorem GW {α:Type} {sz:Nat} : ∀ {l:List (List α)} {i:Nat} {c:List α},(∀c∈l,c.length=sz)→l[i]? =some c→(l.flatten.drop (i*sz)).take sz=c
 |[],i,c,_,h=>by simp at h
 |x::l,0,c,hl,h=>by
  cases h
  have:=hl x (List.mem_cons_self ..)
  simp[List.take_append,this]
 |x::l,i+1,c,hl,h=>by
  have hx:=hl x (List.mem_cons_self ..)
  have h':l[i]? =some c:=by simpa using h
  rw[List.flatten_cons,List.drop_append,List.drop_eq_nil_of_le (by rw[hx,Nat.add_mul];omega),List.nil_append,hx,show(i+1)*sz-sz=i*sz by rw[Nat.add_mul];omega]
  exact GW (fun c hc=>hl c (List.mem_cons_of_mem _ hc)) h'
theorem DH {α:Type} {sz:Nat} (hz:0<sz): ∀ {l:List (List α)} {j:Nat} {c:α},(∀c∈l,c.length=sz)→l.flatten[j]? =some c→ ∃x,l[j/sz]? =some x∧x[j%sz]? =some c
 |[],j,c,_,h=>by simp at h
 |x::l,j,c,hl,h=>by
  have hx:=hl x (List.mem_cons_self ..)
  rw[List.flatten_cons] at h
  by_cases hj:j<sz
  ·rw[List.getElem?_append_left (by omega)] at h
   exact⟨x,by rw[Nat.div_eq_of_lt hj];rfl,by rw[Nat.mod_eq_of_lt hj];exact h⟩
  ·rw[List.getElem?_append_right (by omega),hx] at h
   obtain⟨y,hy,hc⟩:=DH hz (fun c hc=>hl c (List.mem_cons_of_mem _ hc)) h
   refine⟨y,?_,?_⟩
   ·rw[Nat.div_eq j sz,if_pos ⟨hz,by omega⟩];simpa using hy
   ·rw[Nat.mod_eq_sub_mod (by omega)];exact hc
theorem CU {α β:Type} {f:α→Option β} : ∀ {l:List α} {r:List β},l.mapM f=some r→r.length=l.length∧ ∀(i:Nat) (a:α) (b:β),l[i]? =some a→r[i]? =some b→f a=some b
 |[],r,h=>by simp at h;subst h;simp
 |a::l,r,h=>by
  rw[List.mapM_cons] at h
  simp only[Option.bind_eq_bind,Option.bind_eq_some_iff,Option.pure_def,Option.some.injEq] at h
  obtain⟨b,hb,bs,hbs,rfl⟩:=h
  obtain⟨h1,h2⟩:=CU hbs
  refine⟨by simp[h1],fun i x y hx hy=> ?_⟩
  cases i with
  |zero=>simp at hx hy;subst hx;subst hy;exact hb
  |succ i=>exact h2 i x y (by simpa using hx) (by simpa using hy)
theorem wG {a:Addr} {n:Nat} {cs:List Value} (h:w.cells? 0 a n=some cs):cs.length=n∧ ∀k c,cs[k]? =some c→w.cell? (a.add k)=some c:=by
 unfold World.cells? at h
 rw[if_pos (Nat.zero_le _)] at h
 obtain⟨h1,h2⟩:=CU h
 simp at h1
 refine⟨h1,fun k c hc=> ?_⟩
 have hk:=(bY.mp hc).1
 exact h2 k k c (by rw[List.getElem?_range (by omega)]) hc
theorem GO {a:Addr} {v:Value} (h:w.cell? a=some v):a.spot=none∧ ∃ccs el fr,w.heap[a.block]? =some (.cells ccs el fr)∧ccs[a.off]? =some v:=by
 unfold World.cell? at h
 split at h
 ·rename_i ccs el fr hh
  split at h
  ·cases h
  ·rename_i hs
   exact⟨by cases hsp:a.spot with|none=>rfl|some _=>rw[hsp] at hs;simp at hs,ccs,el,fr,hh,h⟩
 ·cases h
theorem wS {α:Type} {R:Nat→α→Prop} : ∀ {n:Nat},(∀i,i<n→ ∃x,R i x)→ ∃l:List α,l.length=n∧ ∀i x,l[i]? =some x→R i x
 |0,_=>⟨[],rfl,by simp⟩
 |n+1,h=>by
  obtain⟨l,hl,hr⟩:=wS (n:=n) fun i hi=>h i (by omega)
  obtain⟨x,hx⟩:=h n (by omega)
  refine⟨l++[x],by simp[hl],fun i y hy=> ?_⟩
  by_cases e:i<n
  ·rw[List.getElem?_append_left (by omega)] at hy
   exact hr i y hy
  ·have hlt:=(bY.mp hy).1
   simp[hl] at hlt
   have:i=n:=by omega
   subst this
   rw[List.getElem?_append_right (by omega),hl,Nat.sub_self] at hy
   cases hy
   exact hx
theorem wK {f:TypeId→Option Ty} : ∀ {fl:List Field} {off n:Nat} {T:Ty},iZ P f off fl=some (T,n)→off≤n
 |[],off,n,T,h=>by simp[iZ] at h;omega
 |x::fl,off,n,T,h=>by
  unfold iZ at h
  cases hb:Nat.beq x.offset off with
  |false=>rw[hb] at h;cases h
  |true=>
   rw[hb] at h
   simp only[cond_true] at h
   cases ha:f x.type with
   |none=>rw[ha] at h;cases h
   |some a=>
    rw[ha] at h
    dsimp only at h
    cases hc:Nat.beq a.sz (P.cellsOf x.type) with
    |false=>rw[hc] at h;cases h
    |true=>
     rw[hc] at h
     simp only[cond_true] at h
     cases hr:iZ P f (off+a.sz) fl with
     |none=>rw[hr] at h;cases h
     |some q=>
      obtain⟨b,m⟩:=q
      rw[hr] at h
      cases h
      have:=wK hr
      omega
theorem AQ (a:Addr) (n:Nat):(a.add n).block=a.block:=by unfold Addr.add;split<;>rfl
theorem Gx (a:Addr) (n:Nat):(a.add n).off=a.off+n:=by
 unfold Addr.add
 split
 ·rename_i h;rw[h];rfl
 ·rfl
theorem Af {k:Option Nat} {ρ:dp} {h:ae} (L:uE CC ρ h w):Laid k CC w .unit ρ h []:=⟨ρ,h,[],(),ρ.le_refl,.refl L.ok,L,.nil,rfl,trivial⟩
theorem BG {k:Option Nat} : ∀ {d:Nat} {t:TypeId} {T:Ty},tyOf P d t=some T→ ∀ {n:Nat} {cs:List Value} {x:DataW H×List MemPlace} {ρ:dp} {h:ae},
  DataW.trod enc P w 0 (fun _=>true) held n t cs=some x→WB k P t x.1→uE CC ρ h w→(∃(k:Nat) (ccs:Array Value) (el:TypeId) (fr:Nat×Nat),w.heap[k]? =some (.cells ccs el fr))→Laid k CC w T ρ h cs:=by
 intro d
 induction d with
 |zero=>intro t T hT;simp[tyOf] at hT
 |succ d ih=>
  intro t T hT n cs x ρ h hx hW L hne
  unfold tyOf at hT
  split at hT
  ·rename_i hu
   cases hT
   obtain⟨b,rfl,_⟩:=DataW.trod_bool hu hx
   exact⟨ρ,h,[.bool b],b,ρ.le_refl,.refl L.ok,L,.cons (.cell (.bool b)) .nil,rfl,trivial⟩
  ·rename_i ki hu
   cases hT
   obtain⟨m,rfl,_⟩:=DataW.trod_int hu hx
   exact⟨ρ,h,[.int ki m],m,ρ.le_refl,.refl L.ok,L,.cons (.cell (.int ki m)) .nil,rfl,trivial⟩
  ·rename_i hu
   cases hT
   obtain⟨s,rfl,_⟩:=DataW.trod_string hu hx
   exact⟨ρ,h,[.string s],s,ρ.le_refl,.refl L.ok,L,.cons (.cell (.str s)) .nil,rfl,trivial⟩
  ·rename_i e hu
   split at hT
   ·rename_i a ha
    cases hb:(Nat.blt 0 (P.bytesOf e)&&(Nat.beq a.sz (P.cellsOf e)&&Nat.blt 0 a.sz)) with
    |false=>rw[hb] at hT;cases hT
    |true=>
     rw[hb] at hT
     cases hT
     simp only[Bool.and_eq_true] at hb
     have hby:0<P.bytesOf e:=by simpa [Nat.blt_eq] using hb.1
     have hsz:=qD hb.2.1
     have hpos:0<a.sz:=by simpa [Nat.blt_eq] using hb.2.2
     rcases DataW.trod_slice hu hx with⟨rfl,_⟩|⟨ad,len,cap,elems,rest,m,rfl,rfl,hxe,_,hlc,_,hel,he,hr,_⟩
     ·exact⟨ρ,h,[.slice none 0 0],[],ρ.le_refl,.refl L.ok,L,.cons (.cell (.lZ 0 0)) .nil,⟨_,rfl,none,0,rfl,.inl ⟨rfl,.inl rfl⟩⟩,fun _ _=>Nat.zero_le _,fun y hy=>by cases hy⟩
     ·obtain⟨hrl,hr⟩:=hr rfl
      rw[←hsz] at he hr
      have hWs: ∀K,k=some K→len≤K∧ ∀n∈DataW.weightsAll P e (elems.map (·.1)),n≤K:=by
       intro K hK
       have hw: ∀n∈DataW.weights P t (.slice (elems.map (·.1)) (rest.map (·.1))),n≤K:=by have:=hW K hK;rw[hxe] at this;exact this
       rw[DataW.weights,hu] at hw
       simp only[List.length_map,List.mem_cons,List.mem_append] at hw
       have h1:=hw _ (.inl rfl)
       refine⟨?_,fun n hn=>hw n (.inr (.inl hn))⟩
       have h2:(elems.length+rest.length)*1≤(elems.length+rest.length)*P.bytesOf e:=Nat.mul_le_mul_left _ hby
       omega
      have hWe: ∀i,i<len→ ∀y,elems[i]? =some y→WB k P e y.1:=by
       intro i _ y hy K hK
       exact Ft hK (hWs K hK).2 (i:=i) (d:=y.1) (by simp[hy]) K hK
      have one: ∀i,i<cap→ ∃ci y,w.cells? 0 (ad.add (i*a.sz)) a.sz=some ci∧DataW.trod enc P w 0 (fun _=>true) held m e ci=some y∧(i<len→WB k P e y.1):=by
       intro i hi
       have hy: ∃y,(w.cells? 0 (ad.add (i*a.sz)) a.sz).bind (DataW.trod enc P w 0 (fun _=>true) held m e)=some y∧(i<len→WB k P e y.1):=by
        by_cases hil:i<len
        ·have h1:=he i hil
         obtain⟨y,hy⟩: ∃y,elems[i]? =some y:=⟨_,aQ (by omega)⟩
         rw[hy] at h1
         exact⟨_,h1,fun hl=>hWe i hl y hy⟩
        ·have h1:=hr (i-len) (by omega)
         rw[show len+(i-len)=i by omega,aQ (by omega)] at h1
         exact⟨_,h1,fun hl=>absurd hl hil⟩
       obtain⟨y,hy,hwy⟩:=hy
       rw[Option.bind_eq_some_iff] at hy
       obtain⟨ci,hc,hy⟩:=hy
       exact⟨ci,y,hc,hy,hwy⟩
      by_cases hc0:cap=0
      ·subst hc0
       have hl0:len=0:=by omega
       subst hl0
       obtain⟨kb,ccs,el,fr,hk⟩:=hne
       obtain⟨ρ',hle,hself,L',g⟩:=L.add (acs:=[]) hk (Nat.zero_le _) (fun j v hv=>by simp at hv)
       exact⟨ρ',_,[.slice (some ⟨h.next,0,none⟩) 0 0],[],hle,g,L',.cons (.cell (.slice hself ⟨.inr ⟨rfl,rfl⟩,.inl rfl,Nat.le_refl _⟩)) .nil,⟨_,rfl,_,0,rfl,.inl ⟨rfl,.inr ⟨_,_,rfl⟩⟩⟩,fun _ _=>Nat.zero_le _,fun y hy=>by cases hy⟩
      ·obtain⟨c0,y0,hc0',_⟩:=one 0 (by omega)
       obtain⟨hl0,hg0⟩:=wG hc0'
       have hcell0:=hg0 0 (c0[0]'(by omega)) (aQ (by omega))
       have hadd0:(ad.add (0*a.sz)).add 0=ad:=by simp[Addr.add]
       rw[hadd0] at hcell0
       obtain⟨hsp,ccs,el,fr,hblk,hin⟩:=GO hcell0
       have hbase:ad.off≤ccs.size:=Nat.le_of_lt (Array.getElem?_eq_some_iff.mp hin).1
       have had:ad=⟨ad.block,ad.off,none⟩:=by cases ad;simp at hsp;simp[hsp]
       obtain⟨css,hcl,hcs⟩:=wS (n:=len) (R:=fun i ci=>w.cells? 0 (ad.add (i*a.sz)) a.sz=some ci∧ ∃y,DataW.trod enc P w 0 (fun _=>true) held m e ci=some y∧WB k P e y.1) (fun i hi=>by
        obtain⟨ci,y,h1,h2,h3⟩:=one i (by omega)
        exact⟨ci,h1,y,h2,h3 hi⟩)
       have hlen: ∀c∈css,c.length=a.sz:=by
        intro c hc
        obtain⟨i,hi,rfl⟩:=List.mem_iff_getElem.mp hc
        exact(wG (hcs i _ (aQ hi)).1).1
       obtain⟨ρ1,m1,acss,ys,l1,g1,L1,k1,r1,b1⟩:=CI (k:=k) (e:=a) L (css:=css) (fun c hc ρ' h' L'=>by
        obtain⟨i,hi,rfl⟩:=List.mem_iff_getElem.mp hc
        obtain⟨_,y,hy,hwy⟩:=hcs i _ (aQ hi)
        exact ih ha hy hwy L' hne)
       have hflat:=Ao k1
       obtain⟨ρ2,l2,hself,L2,g2⟩:=L1.add (acs:=acss.flatten) hblk hbase (fun j v hv=>by
        obtain⟨c,hc,hkr⟩:=hflat.get hv
        obtain⟨ci,hci,hck⟩:=DH hpos hlen hc
        have hcell:=(wG (hcs _ _ hci).1).2 _ _ hck
        obtain⟨_,ccs2,el2,fr2,hb2,hin2⟩:=GO hcell
        have hblk2:((ad.add (j/a.sz*a.sz)).add (j%a.sz)).block=ad.block:=by rw[AQ,AQ]
        have hoff2:((ad.add (j/a.sz*a.sz)).add (j%a.sz)).off=ad.off+(j/a.sz*a.sz)+j%a.sz:=by rw[Gx,Gx]
        rw[hblk2,hblk] at hb2
        cases hb2
        refine⟨c,?_,hkr⟩
        rw[hoff2,Nat.add_assoc,Nat.mul_comm,Nat.div_add_mod] at hin2
        exact hin2)
       have hyl:ys.length=len:=by rw[←r1.length,k1.length,hcl]
       refine⟨ρ2,_,[.slice (some ⟨m1.next,0,none⟩) len cap],ys,dp.le_trans l1 l2,g1.trans g2,L2,.cons (.cell (.slice hself ⟨.inl had,.inl rfl,hlc⟩)) .nil,⟨_,rfl,_,cap,by rw[hyl],.inr ⟨m1.next,0,acss.flatten,true,0,0,rfl,by simp[ae.new,Tr.aN],fun i y hy=> ?_⟩⟩,fun K hK=>by rw[hyl];exact(hWs K hK).1,b1⟩
       have hil:=(bY.mp hy).1
       have hai:i<acss.length:=by rw[r1.length];exact hil
       obtain⟨y',hy',hrep⟩:=r1.get (aQ hai)
       rw[hy] at hy'
       cases hy'
       have hal: ∀c∈acss,c.length=a.sz:=by
        intro c hc
        obtain⟨i,hi,rfl⟩:=List.mem_iff_getElem.mp hc
        obtain⟨y,_,hrp⟩:=r1.get (aQ hi)
        exact xQ hrp
       have hat:=GW hal (aQ hai)
       rw[Nat.zero_add,hat]
       exact⟨xQ hrep,pZ L1.ok g2 hrep⟩
   ·cases hT
  ·rename_i fs hu
   split at hT
   ·rename_i a m hf
    cases hb:Nat.beq m (P.cellsOf t) with
    |false=>rw[hb] at hT;cases hT
    |true=>
     rw[hb] at hT
     cases hT
     obtain⟨xs,kf,rfl,hxe,hcl,hxl,hxs⟩:=DataW.trod_struct hu hx
     have key: ∀(fl:List Field) (off m:Nat) (T:Ty) (ρ:dp) (h:ae),(∀f∈fl,∃y,DataW.trod enc P w 0 (fun _=>true) held kf f.type ((cs.drop f.offset).take (P.cellsOf f.type))=some y∧WB k P f.type y.1)→
       iZ P (tyOf P d) off fl=some (T,m)→m≤cs.length→uE CC ρ h w→Laid k CC w T ρ h ((cs.drop off).take (m-off)):=by
      intro fl
      induction fl with
      |nil=>
       intro off m T ρ h _ hf _ L
       simp only[iZ,Option.some.injEq,Prod.mk.injEq] at hf
       obtain⟨rfl,rfl⟩:=hf
       rw[Nat.sub_self,List.take_zero]
       exact Af L
      |cons f fl ihf=>
       intro off m T ρ h hy hf hm L
       unfold iZ at hf
       cases hb:Nat.beq f.offset off with
       |false=>rw[hb] at hf;cases hf
       |true=>
        rw[hb] at hf
        simp only[cond_true] at hf
        have hoff:=qD hb
        cases ha:tyOf P d f.type with
        |none=>rw[ha] at hf;cases hf
        |some a=>
         rw[ha] at hf
         dsimp only at hf
         cases hc:Nat.beq a.sz (P.cellsOf f.type) with
         |false=>rw[hc] at hf;cases hf
         |true=>
          rw[hc] at hf
          simp only[cond_true] at hf
          have hsz:=qD hc
          cases hr:iZ P (tyOf P d) (off+a.sz) fl with
          |none=>rw[hr] at hf;cases hf
          |some q=>
           obtain⟨b,m'⟩:=q
           rw[hr] at hf
           cases hf
           have hle:=wK hr
           obtain⟨y,hy1,hwy⟩:=hy f (List.mem_cons_self ..)
           rw[hoff,←hsz] at hy1
           have hspl:(cs.drop off).take (m-off)=(cs.drop off).take a.sz++(cs.drop (off+a.sz)).take (m-(off+a.sz)):=by
            rw[←List.drop_drop,show m-off=a.sz+(m-(off+a.sz)) by omega,List.take_add]
           rw[hspl]
           exact AE (ih ha hy1 hwy L hne) fun ρ' h' L'=>ihf _ _ _ _ _ (fun g hg=>hy g (List.mem_cons_of_mem _ hg)) hr hm L'
     have:=key fs.toList 0 m T ρ h (fun f hf=>by
      obtain⟨i,hi,rfl⟩:=List.mem_iff_getElem.mp hf
      have h1:=hxs i (fs.toList[i]) (by simp)
      obtain⟨y,hy⟩: ∃y,xs[i]? =some y:=⟨_,aQ (by rw[hxl];simpa using hi)⟩
      rw[hy] at h1
      refine⟨_,h1,fun K hK=> ?_⟩
      have hw: ∀n∈DataW.weights P t (.agg (xs.map (·.1))),n≤K:=by have:=hW K hK;rw[hxe] at this;exact this
      rw[DataW.weights,hu] at hw
      exact GK hw (i:=i) (by simp;exact⟨_,Array.getElem?_eq_getElem (by simpa using hi),by simp⟩) (by simp[hy])) hf (by rw[hcl,qD hb];exact Nat.le_refl _) L
     rw[qD hb,←hcl] at this
     simpa using this
   ·cases hT
  ·rename_i m e hu
   split at hT
   ·rename_i a ha
    cases hb:(Nat.beq a.sz (P.cellsOf e)&&Nat.beq (m*a.sz) (P.cellsOf t)) with
    |false=>rw[hb] at hT;cases hT
    |true=>
     rw[hb] at hT
     cases hT
     simp only[Bool.and_eq_true] at hb
     have hsz:=qD hb.1
     have htot:=qD hb.2
     obtain⟨xs,kf,rfl,hxe,hcl,hxl,hxs⟩:=DataW.trod_array hu hx
     rw[←hsz] at hxs
     have key: ∀(q off:Nat) (ρ:dp) (h:ae),off+q=m→uE CC ρ h w→Laid k CC w (a.rep q) ρ h (cs.drop (off*a.sz)):=by
      intro q
      induction q with
      |zero=>
       intro off ρ h hoq L
       rw[List.drop_eq_nil_of_le (by rw[hcl,←htot];exact Nat.mul_le_mul_right _ (by omega))]
       exact Af L
      |succ q ihq=>
       intro off ρ h hoq L
       have h1:=hxs off (by omega)
       obtain⟨y,hy⟩: ∃y,xs[off]? =some y:=⟨_,aQ (by omega)⟩
       rw[hy] at h1
       have hwy:WB k P e y.1:=by
        intro K hK
        have hw: ∀n∈DataW.weights P t (.agg (xs.map (·.1))),n≤K:=by have:=hW K hK;rw[hxe] at this;exact this
        rw[DataW.weights,hu] at hw
        exact Ft hK hw (i:=off) (by simp[hy]) K hK
       have hspl:cs.drop (off*a.sz)=(cs.drop (off*a.sz)).take a.sz++cs.drop ((off+1)*a.sz):=by
        rw[Nat.add_mul,Nat.one_mul,←List.drop_drop,List.take_append_drop]
       rw[hspl]
       exact AE (ih ha h1 hwy L hne) fun ρ' h' L'=>ihq (off+1) ρ' h' (by omega) L'
     have:=key m 0 ρ h (by omega) L
     simpa using this
   ·cases hT
  ·cases hT
end
end Go.AI
namespace Go.AI
section
variable {F:Nat→Option bA} {R:Env→ae→Prop} {e:Env} {h:ae} {l:List aV} {d:Option Nat} {k:Nat} {m:List (aV×List Nat)} {chk:List Nat}
theorem Al {t:Nat} {b:Bool} {op:ia} {R:Env→ae→Prop} (hg:Env.get e t= .tuple #[]):uW F ⟨d,some (t,b),op⟩ e h R↔R (dW e d (.tuple #[])) h:=by
 have hw:wanted e (some (t,b))=false:=by simp[wanted,hg]
 have key: ∀n,cn F (run F n) ⟨d,some (t,b),op⟩ e h=some (dW e d (.tuple #[]),h):=by
  intro n
  unfold cn
  dsimp only
  rw[hw]
  rfl
 constructor
 ·rintro⟨n,e',h',hr,hq⟩
  rw[key] at hr
  cases hr
  exact hq
 ·intro hq
  exact⟨0,_,_,key 0,hq⟩
@[simp ↓] theorem QW {op:ia} {t:Nat} {b:Bool} (hg:Env.get e t= .tuple #[]):aD F (⟨d,some (t,b),op⟩::l) e h R↔aD F l (dW e d (.tuple #[])) h R:=by
 rw[mQ,Al hg]
@[simp ↓] theorem Px {op:ia} {t:Nat} {b:Bool} (hg:Env.get e t= .tuple #[]):aP F k ((⟨d,some (t,b),op⟩,chk)::m) e h R↔(still (dW e d (.tuple #[])) h k chk=true∧aP F k m (dW e d (.tuple #[])) h R):=by
 rw[kZ,Al hg]
end
end Go.AI
namespace Go.Proofs.YtdkdbjecehcekaaGreatDoor
open Go.AI
structure SV where
 a:Option Addr
 l:Nat
 c:Nat
def SV.v (s:SV):Value:= .slice s.a s.l s.c
@[simp] theorem SV.NZ (s:SV):s.v= .slice s.a s.l s.c:=rfl
def eg:SV:=⟨none,0,0⟩
structure GI where
 op:Int
 dst:Int
 a:Bool×Int
 b:Bool×Int
 fn:Int
 args:List (Bool×Int)
structure GP where
 dst:Int
 row:List (Bool×Int)
structure GB where
 dY:List GP
 list:List GI
 kind:Int
 on:Bool×Int
 to:List Int
structure GF where
 name:ByteArray
 params:Int
 ai:Int
 blocks:List GB
structure GG where
 name:ByteArray
 size:Int
 init:List Int
structure GU where
 globals:List GG
 funcs:List GF
def vR (c:List Value) (v:Bool×Int):Prop:=c=[.bool v.1,.int .i64 v.2]
def nR (c:List Value) (n:Int):Prop:=c=[.int .i64 n]
def iR (h:ae) (c:List Value) (x:GI):Prop:= ∃A:SV,c=ay x.op x.dst x.a.1 x.a.2 x.b.1 x.b.2 x.fn A.v∧SliceR vR 2 h A.v x.args
def pR (h:ae) (c:List Value) (p:GP):Prop:= ∃A:SV,c=[.int .i64 p.dst,A.v]∧SliceR vR 2 h A.v p.row
def bR (h:ae) (c:List Value) (b:GB):Prop:= ∃P L T:SV,c=[P.v,L.v,.int .i64 b.kind,.bool b.on.1,.int .i64 b.on.2,T.v]∧SliceR (pR h) 2 h P.v b.dY∧SliceR (iR h) 8 h L.v b.list∧SliceR nR 1 h T.v b.to
def fR (h:ae) (c:List Value) (f:GF):Prop:= ∃B:SV,c=[.string f.name,.int .i64 f.params,.int .i64 f.ai,B.v]∧SliceR (bR h) 6 h B.v f.blocks
def gR (h:ae) (c:List Value) (g:GG):Prop:= ∃I:SV,c=[.string g.name,.int .i64 g.size,I.v]∧SliceR nR 1 h I.v g.init
def uR (h:ae) (G F:SV) (u:GU):Prop:=SliceR (gR h) 3 h G.v u.globals∧SliceR (fR h) 4 h F.v u.funcs
theorem iR.mono {h h':ae} (ok:bh h) (g:ab aG h h') {c:List Value} {x:GI} (r:iR h c x):iR h' c x:=by
 obtain⟨A,e,s⟩:=r;exact⟨A,e,s.mono ok g fun _ _ h=>h⟩
theorem pR.mono {h h':ae} (ok:bh h) (g:ab aG h h') {c:List Value} {x:GP} (r:pR h c x):pR h' c x:=by
 obtain⟨A,e,s⟩:=r;exact⟨A,e,s.mono ok g fun _ _ h=>h⟩
theorem bR.mono {h h':ae} (ok:bh h) (g:ab aG h h') {c:List Value} {x:GB} (r:bR h c x):bR h' c x:=by
 obtain⟨P,L,T,e,s1,s2,s3⟩:=r;exact⟨P,L,T,e,s1.mono ok g fun _ _ r=>r.mono ok g,s2.mono ok g fun _ _ r=>r.mono ok g,s3.mono ok g fun _ _ h=>h⟩
theorem fR.mono {h h':ae} (ok:bh h) (g:ab aG h h') {c:List Value} {x:GF} (r:fR h c x):fR h' c x:=by
 obtain⟨A,e,s⟩:=r;exact⟨A,e,s.mono ok g fun _ _ r=>r.mono ok g⟩
theorem gR.mono {h h':ae} (ok:bh h) (g:ab aG h h') {c:List Value} {x:GG} (r:gR h c x):gR h' c x:=by
 obtain⟨A,e,s⟩:=r;exact⟨A,e,s.mono ok g fun _ _ h=>h⟩
abbrev wB (h:ae) (B:SV) (bs:List GB):Prop:=SliceR (bR h) 6 h B.v bs
theorem wB.mono {h h':ae} {B:SV} {bs:List GB} (s:wB h B bs) (ok:bh h) (g:ab aG h h'):wB h' B bs:=SliceR.mono s ok g fun _ _ r=>r.mono ok g
theorem uR.mono {h h':ae} {G F:SV} {u:GU} (r:uR h G F u) (ok:bh h) (g:ab aG h h'):uR h' G F u:=
 ⟨r.1.mono ok g fun _ _ r=>r.mono ok g,r.2.mono ok g fun _ _ r=>r.mono ok g⟩
structure At {α:Type} (R:List Value→α→Prop) (sz:Nat) (h:ae) (L:SV) (n:Nat) (i:Nat) (x:α) (b off:Nat) (c:List Value):Prop where
 a:L.a=some ⟨b,off,none⟩
 l:L.l=n
 len:c.length=sz
 r:R c x
 bl:Old b h
 rd: ∀h':ae,h'.tr.get b=h.tr.get b→ ∀k m,k+m≤sz→aT h' b (off+i*sz+k) m=some ((c.drop k).take m)
theorem SliceR.len {α:Type} {R:List Value→α→Prop} {sz:Nat} {h:ae} {L:SV} {xs:List α} (s:SliceR R sz h L.v xs):L.l=xs.length:=by
 obtain⟨a,cap,e,_⟩:=s;simp at e;exact e.2.1
theorem SliceR.at {α:Type} {R:List Value→α→Prop} {sz:Nat} {h:ae} (ok:bh h) {L:SV} {xs:List α} (s:SliceR R sz h L.v xs) {i:Nat} {x:α} (hi:xs[i]? =some x): ∃b off c,At R sz h L xs.length i x b off c:=by
 obtain⟨a,cap,e,s⟩:=s
 simp at e
 rcases s with⟨rfl,_⟩|⟨b,off,cs,ro,o,st,rfl,hb,he⟩
 ·simp at hi
 ·obtain⟨hl,hr⟩:=he i x hi
  refine⟨b,off,_,e.1,e.2.1,hl,hr,ok.bl hb,fun h' e' k m hk=> ?_⟩
  have hl':=hl
  simp at hl'
  have hle:m=0∨off+i*sz+k+m≤cs.length:=by omega
  rcases hle with rfl|hle
  ·unfold aT
   rw[e',hb]
   simp
  ·rw[cN (e'.trans hb) hle,List.drop_take,List.take_take,List.drop_drop]
   congr 2
   omega
end Go.Proofs.YtdkdbjecehcekaaGreatDoor
