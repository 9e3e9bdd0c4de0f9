/- Parts of the proof. -/
import Derived.KernelRfl
import Derived.Test.YtdhnndleffachaaGreatDoorP02
import Derived.Test.YtdhnndleffachaaGreatDoorP01
import Derived.Test.YtdhnndleffachaaGreatDoorP00
open BitVec renaming ofInt->c7
open Go.Proofs.SlLaysF0 renaming n6->Q7
open Go renaming Value->aa
open Int renaming negSucc->bL,toNat->u1
open Nat renaming le_succ->hQ,min->wA,mul_le_mul->wm,mul_one->og,zero_mul->aaf
open Option renaming some->Z,none->K
open Bool renaming false->b9,true->cd
open List renaming length->Y,countP_cons->jj,drop_zero->qA,length_cons->kb,map->nS,mem_cons->bd,mem_reverse->jT,nodup_append->L9,replicate->an,replicate_succ->p9,set_cons_succ->J4,set_cons_zero->w9
open Go.Value renaming slice->c6,bool->dd,pointer->dB,int->dC,string->eT,agg->eU,int->aL,slice->bo
open Go.IntKind renaming i64->ef,bits->Bo,signed->y6,wrap->A6
open Or renaming inl->fc,inr->ft
set_option linter.all false
set_option maxHeartbeats 1000000
namespace Go.Proofs.YtdhnndleffachaaGreatDoor
open Go.AI
set_option maxRecDepth 100000
def iu:aG:=(y_ 29 7 33 0 1 34 (U_ 30 1 1 []) (V_ (fJ 36 1 6 (m_ 38 7::rS 39 1 1 7 4 [L_ 43 4 42,(F_ 44 21 [t_ 43],[36]),a_ 45 4 37 38,s_ 4 45 44]))))
def nr:aG:=(G_ [x_ 1 0,M_ 2 b9] (J_ (G_ [L_ 8 2 1,F_ 9 11 [t_ 8]] (I_ 9 (G_ [M_ 2 cd] .ret) .skip)) (G_ [L_ 11 2 1,F_ 12 20 [t_ 11],m_ 10 12,E_ 13 0 10,E_ 14 1 10,K_ 3 VL,K_ 4 Na,s_ 2 3 13,s_ 2 4 14] (G_ [L_ 15 2 1,F_ 16 13 [t_ 15],K_ 5 Na,s_ 2 5 16] (J_ (G_ (W_ 17 0 5 [Y_ 19 .neq 18 0]) (I_ 19 (G_ (L_ 20 2 4::L_ 21 2 5::o_ 22 (.bin .eql [9,1,1] (t_ 20) (t_ 21))::m_ 23 22::S_ 24 23 cd [.load (Z 2) (t_ 3),.call (.func 14) [t_ 24]] [o_ 26 (.pick (t_ 23) (t_ 25) (b_ b9)),m_ 2 26]) .ret) .skip)) (G_ [L_ 27 2 1,F_ 28 15 [t_ 27],K_ 6 VL,s_ 2 6 28] (J_ (G_ [k_ 7 0] (Q_ 0 iu)) (G_ [L_ 46 2 1,L_ 47 2 3,L_ 48 2 4,L_ 49 2 6,F_ 50 19 [t_ 46,t_ 47,t_ 48,t_ 49],m_ 2 50] .ret))))))))
def xZ:=gp 4 [.tmp 2] nr
def Ip:aG:=(G_ [x_ 1 0,K_ 2 VL,K_ 3 Na] (J_ (G_ [L_ 5 2 1,F_ 6 13 [t_ 5],K_ 4 Na,s_ 2 4 6] (G_ [L_ 7 2 4,o_ 8 (.build Na []),o_ 9 (.bin .neq [9,1,1] (t_ 7) (t_ 8))] (I_ 9 (J_ (V_ [o_ 10 (.build VL []),L_ 11 2 4,(s_ 2 2 10,[4]),s_ 2 3 11]) .ret) .skip))) (G_ [L_ 12 2 1,F_ 13 31 [t_ 12,(.func 48)],E_ 14 0 13,E_ 15 1 13,s_ 2 2 14,s_ 2 3 15] .ret)))
def Tc:=gp 20 [(.cell 2 (Z 2)),(.cell 3 (Z 2))] Ip
def qd:aG:=(J_ (G_ [m_ 5 3,C_ 6 .lss 5 100] (H_ 6 0)) (J_ (P_ 1 (G_ [L_ 9 4 1,F_ 10 49 [t_ 9],F_ 11 17 [t_ 10],s_ 4 1 11] (G_ [L_ 12 4 1,F_ 13 50 [t_ 12],K_ 4 VM,s_ 3 4 13] (J_ (G_ (W_ 14 0 4 [C_ 16 .lss 15 0]) (I_ 16 (G_ [L_ 17 4 1,s_ 4 2 17] .ret) .skip)) (O_ [L_ 18 4 1,L_ 19 3 4,F_ 20 51 [t_ 18,t_ 19],s_ 4 1 20]))))) (O_ [m_ 7 3,C_ 8 .add 7 1,m_ 3 8])))
def su:aG:=(G_ [x_ 1 0,K_ 2 DV] (J_ (G_ [k_ 3 0] (Q_ 0 qd)) (G_ [L_ 21 4 1,F_ 22 49 [t_ 21],F_ 23 17 [t_ 22],s_ 4 2 23] .ret)))
def BJ:=gp 21 [.cell 2 (Z 4)] su
def AG:aG:=(J_ (P_ 1 (G_ [F_ 9 100 [t_ 1]] (G_ [L_ 10 4 1,F_ 11 77 [t_ 10],s_ 4 1 11] (G_ [L_ 12 4 1,F_ 13 101 [t_ 12],m_ 4 13] (G_ [L_ 15 4 1,m_ 16 4,F_ 17 102 [t_ 15,t_ 16],m_ 14 17,E_ 18 0 14,E_ 19 1 14,K_ 5 VM,s_ 3 5 18,m_ 6 19] (J_ (G_ (m_ 20 6::o_ 21 (.un .not (t_ 20))::m_ 22 21::S_ 23 22 b9 [.mv (t_ 3),.bin .eql [1] (t_ 23) (i_ 100)] [o_ 25 (.pick (t_ 22) (b_ cd) (t_ 24))]) (I_ 25 (G_ [L_ 26 4 1,s_ 4 2 26] .ret) .skip)) (O_ [m_ 27 4,L_ 28 3 5,F_ 29 103 [t_ 1,t_ 27,t_ 28]]))))))) (O_ [m_ 7 3,C_ 8 .add 7 1,m_ 3 8]))
def DG:aG:=(.seq (.ops [⟨(Z 1),K,(.box (.tmp 0))⟩,⟨(Z 2),K,(.alloc DV)⟩]) (.seq (.ops [⟨(Z 3),K,(.mv (.const (dC ef 0)))⟩]) (.block 0 (.loop AG))))
def NC:=gp 48 [.cell 2 (Z 4)] DG
def ni:aG:=(y_ 78 11 81 4 5 82 [m_ 79 10,z_ 80 79] (G_ (T_ 84 10 11 3 (W_ 87 0 86 [m_ 89 4,X_ 90 .neq 88 89])) (I_ 90 (O_ (m_ 91 9::T_ 92 10 11 3 [L_ 95 3 94,v_ 96 VN 3 95,A_ 97 VN 24 91 96,m_ 9 97])) .skip)))
def jr:aG:=(y_ 55 8 63 2 3 64 (R_ 56 3 3 7 6 (U_ 60 0 59 [])) (G_ [Z_ 9] (J_ (V_ (L_ 66 4 3::m_ 67 7::rS 68 3 3 7 6 (rS 72 0 71 8 2 [L_ 76 2 75,F_ 77 91 [t_ 66,t_ 67,t_ 76],m_ 10 77]))) (J_ (G_ [k_ 11 0] (Q_ 4 ni)) (V_ (rS 98 3 3 7 6 (fJ 102 0 101 (m_ 104 8::m_ 105 9::fJ 106 3 3 [z_ 108 107,(F_ 109 93 [t_ 105,t_ 108],[98,102]),a_ 110 2 103 104,f_ 111 1 110,s_ 1 111 109]))))))))
def uG:aG:=(y_ 14 4 18 0 1 19 (U_ 15 3 3 []) (G_ (R_ 21 3 3 4 6 [f_ 25 2 24,L_ 26 4 25,K_ 5 Tt,s_ 4 5 26]) (J_ (G_ (W_ 27 0 5 (Y_ 29 .neq 28 3::m_ 30 29::S_ 31 30 b9 [.cD 1 (t_ 5),.cD 0 (t_ 31),.load K (t_ 32)] [o_ 34 (.pick (t_ 30) (b_ cd) (t_ 33))])) (I_ 34 (.exit 1) .skip)) (G_ (W_ 35 3 5 [o_ 37 (.ee K 1 (t_ 36) (i_ 0)),l_ 38 37,m_ 6 38]) (G_ (W_ 39 3 5 [o_ 41 (.ee K 1 (t_ 40) (i_ 1)),l_ 42 41,m_ 7 42]) (J_ (G_ (f_ 43 1 5::W_ 44 1 43 [Y_ 46 .eql 45 0]) (I_ 46 (G_ (W_ 47 3 5 [o_ 49 (.ee K 1 (t_ 48) (i_ 1)),l_ 50 49,m_ 6 50]) (O_ (W_ 51 3 5 [o_ 53 (.ee K 1 (t_ 52) (i_ 0)),l_ 54 53,m_ 7 54]))) .skip)) (J_ (G_ [k_ 8 0] (Q_ 2 jr)) (O_ (W_ 112 3 3 [m_ 114 4,m_ 115 6,v_ 116 Ba 1 115,o_ 117 (.build Tt [(0,(1,(i_ 2))),(3,(1,(t_ 116)))]),a_ 118 6 113 114,f_ 119 2 118,s_ 4 119 117])))))))))
def xx:aG:=(G_ [x_ 1 0,K_ 2 DV] (G_ [L_ 12 4 1,F_ 13 37 [t_ 12],K_ 3 DV,s_ 4 3 13] (J_ (G_ [k_ 4 0] (Q_ 0 uG)) (G_ [L_ 120 4 3,s_ 4 2 120] .ret))))
def FP:=gp 49 [.cell 2 (Z 4)] xx
def iX:aG:=(y_ 13 4 17 2 3 18 (U_ 14 3 1 []) (J_ (G_ (R_ 20 3 1 4 6 (f_ 24 2 23::W_ 25 3 24 [m_ 27 3,F_ 28 104 [t_ 26,t_ 27],o_ 29 (.un .not (t_ 28))])) (I_ 29 (.exit 3) .skip)) (G_ [L_ 30 4 1,m_ 31 4,m_ 32 3,F_ 33 105 [t_ 30,t_ 31,t_ 32],m_ 5 33] (G_ [m_ 34 5,C_ 35 .geq 34 0] (I_ 35 (G_ [m_ 36 4,m_ 37 3,m_ 38 5,o_ 39 (.build VM [(0,(1,(t_ 36))),(1,(1,(t_ 37))),(2,(1,(t_ 38)))]),s_ 3 2 39] .ret) .skip)))))
def iY:aG:=(y_ 6 3 10 0 1 11 (U_ 7 3 1 []) (G_ [k_ 4 0] (Q_ 2 iX)))
def pL:aG:=(.seq (.ops [⟨(Z 1),K,(.box (.tmp 0))⟩,⟨(Z 2),K,(.alloc VM)⟩]) (.seq (.seq (.ops [⟨(Z 3),K,(.mv (.const (dC ef 0)))⟩]) (.block 0 (.loop iY))) (.seq (.ops [⟨(Z 40),K,(.build VM [(0,(1,(.const (dC ef (bL 0))))),(1,(1,(.const (dC ef (bL 0))))),(2,(1,(.const (dC ef (bL 0)))))])⟩,⟨K,K,(.store 3 (.tmp 2) (.tmp 40))⟩]) .ret)))
def zQ:=gp 50 [.cell 2 (Z 3)] pL
def ja:aG:=(y_ 159 14 162 8 9 163 [m_ 160 13,z_ 161 160] (J_ (V_ (Si 165 13 14 1 (l_ 168 167::fJ 169 1 3 [X_ 171 .eql 168 170]))) (I_ 171 (O_ (m_ 172 13::m_ 173 14::W_ 174 2 3 [a_ 176 1 172 173,s_ 1 176 175])) .skip)))
def jb:aG:=(y_ 115 12 118 6 7 119 [m_ 116 11,z_ 117 116] (J_ (V_ (Si 121 11 12 3 (fJ 124 0 123 (fJ 126 0 3 [X_ 128 .neq 125 127])))) (I_ 128 (O_ (m_ 129 10::T_ 130 11 12 3 [L_ 133 3 132,v_ 134 VN 3 133,A_ 135 VN 24 129 134,m_ 10 135])) .skip)))
def jc:aG:=(y_ 89 9 98 4 5 99 (W_ 90 3 5 (W_ 92 1 3 (a_ 94 6 91 93::U_ 95 0 94 []))) (G_ [Z_ 10] (J_ (V_ (L_ 101 4 2::fJ 102 1 3 (fJ 104 3 2 (fJ 106 1 3 (a_ 108 6 105 107::rS 109 0 108 9 2 [L_ 113 2 112,F_ 114 91 [t_ 101,t_ 103,t_ 113],m_ 11 114]))))) (J_ (G_ [k_ 12 0] (Q_ 6 jb)) (V_ (fJ 136 3 5 (fJ 138 1 3 (a_ 140 6 137 139::fJ 141 0 140 (m_ 143 9::m_ 144 10::fJ 145 3 2 [z_ 147 146,(F_ 148 93 [t_ 144,t_ 147],[136,138,141]),a_ 149 2 142 143,f_ 150 1 149,s_ 1 150 148])))))))))
def jd:aG:=(y_ 43 8 46 2 3 47 [m_ 44 7,z_ 45 44] (J_ (V_ (Si 49 7 8 3 (fJ 52 0 51 (fJ 54 1 3 [X_ 56 .eql 53 55])))) (I_ 56 (J_ (V_ (m_ 57 7::fJ 58 0 3 (L_ 60 4 2::fJ 61 1 3 (fJ 63 0 3 (Si 65 7 8 3 [f_ 68 1 67,L_ 69 2 68,(F_ 70 106 [t_ 60,t_ 62,t_ 64,t_ 69],[58]),o_ 71 (.build VN [(0,(1,(t_ 59))),(1,(2,(t_ 70)))]),v_ 72 VN 3 71,A_ 73 VN 24 57 72,m_ 7 73]))))) (.exit 2)) .skip)))
def je:aG:=(y_ 17 6 26 0 1 27 (W_ 18 3 5 (W_ 20 2 3 (a_ 22 6 19 21::U_ 23 0 22 []))) (J_ (V_ (L_ 29 4 2::fJ 30 2 3 (fJ 32 3 2 (fJ 34 2 3 (a_ 36 6 33 35::rS 37 0 36 6 2 [L_ 41 2 40,F_ 42 91 [t_ 29,t_ 31,t_ 41],m_ 7 42]))))) (J_ (G_ [k_ 8 0] (Q_ 2 jd)) (V_ (fJ 74 3 5 (fJ 76 2 3 (a_ 78 6 75 77::fJ 79 0 78 (m_ 81 6::m_ 82 7::fJ 83 3 2 [z_ 85 84,(F_ 86 93 [t_ 82,t_ 85],[74,76,79]),a_ 87 2 80 81,f_ 88 1 87,s_ 1 88 86]))))))))
def pN:aG:=(G_ [x_ 2 0,x_ 3 1,K_ 4 DV] (G_ [L_ 15 4 2,F_ 16 37 [t_ 15],K_ 5 DV,s_ 4 5 16] (J_ (G_ [k_ 6 0] (Q_ 0 je)) (J_ (G_ [k_ 9 0] (Q_ 4 jc)) (G_ (W_ 151 3 5 (W_ 153 0 3 (a_ 155 6 152 154::f_ 156 2 155::W_ 157 3 156 [m_ 13 158]))) (J_ (G_ [k_ 14 0] (Q_ 8 ja)) (G_ [L_ 177 4 5,s_ 4 4 177] .ret)))))))
def zS:=gp 51 [.cell 4 (Z 4)] pN
def zm:aG:=(N_ 10 9 8 0 1 48 (G_ [m_ 11 9,m_ 2 11] (G_ (m_ 12 0::n_ 13 12::R_ 14 3 13 2 6 [f_ 18 2 17,L_ 19 4 18,K_ 3 Tt,s_ 4 3 19]) (P_ 2 (G_ (W_ 28 0 3 (Y_ 30 .neq 29 3::m_ 31 30::S_ 32 31 b9 [.cD 1 (t_ 3),.cD 0 (t_ 32),.load K (t_ 33)] [o_ 35 (.pick (t_ 31) (b_ cd) (t_ 34)),m_ 27 35])) (I_ 27 .skip (G_ (f_ 37 1 3::W_ 38 1 37 [Y_ 40 .neq 39 0,m_ 36 40]) (I_ 36 (O_ (m_ 41 0::m_ 42 2::W_ 43 3 3 [o_ 45 (.ee K 1 (t_ 44) (i_ 0)),l_ 46 45,F_ 47 156 [t_ 41,t_ 42,t_ 46]])) (O_ (m_ 20 0::m_ 21 2::W_ 22 3 3 [o_ 24 (.ee K 1 (t_ 23) (i_ 1)),l_ 25 24,F_ 26 156 [t_ 20,t_ 21,t_ 25]]))))))))))
def Bu:aG:=(G_ (m_ 4 0::n_ 5 4::U_ 6 3 5 [k_ 9 0]) (Q_ 0 zm))
def Km:=gp 100 [] Bu
def rq:aG:=(N_ 42 41 40 2 3 74 (G_ [m_ 43 41,a_ 44 1 39 41,l_ 45 44,m_ 9 43,m_ 10 45] (G_ [L_ 46 6 7,m_ 47 9,F_ 48 160 [t_ 46,t_ 47],m_ 11 48] (G_ (m_ 49 11::C_ 50 .geq 49 0::m_ 51 50::S_ 52 51 cd [.mv (t_ 11),.mv (t_ 6),.bin .neq [1] (t_ 52) (t_ 53)] (o_ 55 (.pick (t_ 51) (t_ 54) (b_ b9))::m_ 56 55::S_ 57 56 cd [.mv (t_ 10),.mv (t_ 6),.bin .neq [1] (t_ 57) (t_ 58)] (o_ 60 (.pick (t_ 56) (t_ 59) (b_ b9))::m_ 61 60::S_ 62 61 cd [.mv (t_ 1),.mv (t_ 11),.ee K 1 (t_ 62) (t_ 63),.load K (t_ 64),.mv (t_ 10),.call (.func 161) [t_ 65,t_ 66],.un .not (t_ 67)] [o_ 69 (.pick (t_ 61) (t_ 68) (b_ b9))]))) (I_ 69 (G_ [m_ 70 10,m_ 71 6,m_ 72 11,o_ 73 (.build VM [(0,(1,(t_ 70))),(1,(1,(t_ 71))),(2,(1,(t_ 72)))]),s_ 3 4 73,M_ 5 cd] .ret) .skip)))))
def rz:aG:=(N_ 16 15 14 0 1 75 (G_ [m_ 17 15,a_ 18 6 13 15,L_ 19 6 18,K_ 7 Fg,m_ 6 17,s_ 6 7 19] (J_ (G_ (m_ 20 6::Y_ 21 .eql 20 0::m_ 22 21::S_ 23 22 b9 [.cD 1 (t_ 7),.load K (t_ 23),.ox (t_ 24),.bin .gtr [] (t_ 25) (i_ 0)] [o_ 27 (.pick (t_ 22) (b_ cd) (t_ 26))]) (I_ 27 (.exit 1) .skip)) (G_ [L_ 28 4 2,m_ 29 1,m_ 30 6,F_ 31 157 [t_ 28,t_ 29,t_ 30],K_ 8 ZD,s_ 1 8 31] (J_ (G_ (W_ 32 0 7 [o_ 34 (.uP 159 [t_ 8]),F_ 35 158 [t_ 33,t_ 34]]) (I_ 35 (.exit 1) .skip)) (G_ (T_ 36 1 6 1 [l_ 39 38,z_ 40 39,k_ 41 0]) (Q_ 2 rq)))))))
def Bv:aG:=(G_ [x_ 2 0,K_ 4 VM,M_ 5 b9] (J_ (G_ (U_ 12 3 2 [k_ 15 0]) (Q_ 0 rz)) (G_ [o_ 76 (.build VM []),s_ 3 4 76,M_ 5 b9] .ret)))
def Kn:=gp 102 [(.cell 4 (Z 3)),(.tmp 5)] Bv
def ahE:aG:=(V_ (l_ 101 7::m_ 102 14::fJ 103 1 15 [l_ 105 6,l_ 106 6,C_ 107 .add 106 1,(F_ 108 167 [t_ 104,t_ 105,t_ 107],[7]),a_ 109 2 101 102,f_ 110 1 109,s_ 1 110 108]))
def mT:aG:=(N_ 97 96 95 2 3 111 (G_ [m_ 98 96,a_ 99 2 94 96,L_ 100 2 99,K_ 15 Wu,m_ 14 98,s_ 2 15 100] ahE))
def ahF:aG:=(V_ (m_ 69 0::n_ 70 69::fJ 71 3 70 (fJ 73 2 5 (a_ 75 6 72 74::fJ 76 0 75 (m_ 78 12::fJ 79 1 13 (m_ 81 10::m_ 82 8::rS 83 1 13 9 2 [L_ 87 2 86,(o_ 88 (.call (t_ 82) [t_ 87]),[79]),v_ 89 va 2 88,(F_ 90 166 [t_ 80,t_ 81,t_ 89],[71,73,76]),a_ 91 2 77 78,f_ 92 1 91,s_ 1 92 90]))))))
def mU:aG:=(N_ 65 64 63 0 1 93 (G_ [m_ 66 64,a_ 67 2 62 64,L_ 68 2 67,K_ 13 Wu,m_ 12 66,s_ 2 13 68] ahF))
def xq:aG:=(G_ [x_ 5 2] (J_ (V_ (m_ 17 1::fJ 18 1 5 (a_ 20 1 17 19::l_ 21 20::fJ 22 0 5 [K_ 6 Ba,(F_ 24 162 [t_ 21,t_ 23],[6]),s_ 1 6 24]))) (J_ (V_ (m_ 25 0::n_ 26 25::fJ 27 3 26 (fJ 29 1 5 (a_ 31 6 28 30::fJ 32 0 31 [K_ 7 ZD,s_ 1 7 33])))) (G_ [o_ 34 (.uP 163 [t_ 7,t_ 6]),m_ 8 34] (J_ (V_ (m_ 35 1::fJ 36 2 5 (a_ 38 1 35 37::l_ 39 38::fJ 40 1 5 [F_ 42 162 [t_ 39,t_ 41],m_ 9 42]))) (J_ (V_ (m_ 44 1::fJ 45 2 5 (a_ 47 1 44 46::l_ 48 47::fJ 49 0 5 [F_ 51 165 [t_ 48,t_ 50],m_ 43 51,E_ 52 0 43,E_ 53 1 43,m_ 10 52,m_ 11 53]))) (J_ (J_ (V_ (m_ 54 0::n_ 55 54::fJ 56 3 55 (fJ 58 2 5 (a_ 60 6 57 59::fJ 61 0 60 [z_ 63 62,k_ 64 0])))) (Q_ 0 mU)) (J_ (G_ [l_ 94 7,z_ 95 94,k_ 96 0] (Q_ 2 mT)) (J_ (V_ (m_ 112 0::n_ 113 112::fJ 114 3 113 (fJ 116 0 5 (a_ 118 6 115 117::f_ 119 2 118::fJ 120 3 119 [m_ 16 121])))) (V_ (m_ 122 16::m_ 123 16::fJ 124 1 5 (fJ 127 2 5 [(F_ 126 162 [t_ 123,t_ 125],[127]),a_ 129 1 122 126,s_ 1 129 128]))))))))))))
def FI:=gp 103 [] xq
def iZ:aG:=(y_ 35 8 39 0 1 40 (U_ 36 0 7 []) (J_ (V_ (L_ 42 4 3::rS 43 0 7 8 2 (fJ 47 0 46 (L_ 50 4 3::m_ 51 2::rS 52 0 7 8 2 (fJ 56 0 55 [(F_ 49 168 [t_ 42,t_ 48],[3,52,56]),F_ 58 169 [t_ 50,t_ 51,t_ 57],X_ 59 .neq 49 58]))))) (I_ 59 (G_ [k_ 6 (bL 0)] .ret) .skip)))
def pM:aG:=(G_ [x_ 3 0,k_ 6 0] (G_ (R_ 11 3 3 2 6 [L_ 15 6 14,K_ 7 Fg,s_ 6 7 15]) (J_ (G_ (m_ 16 2::Y_ 17 .eql 16 0::m_ 18 17::S_ 19 18 b9 [.mv (t_ 1),.mv (t_ 2),.bin .eql [1] (t_ 19) (t_ 20)] (o_ 22 (.pick (t_ 18) (b_ cd) (t_ 21))::m_ 23 22::S_ 24 23 b9 [.cD 1 (t_ 7),.load K (t_ 24),.ox (t_ 25),.bin .gtr [] (t_ 26) (i_ 0)] (o_ 28 (.pick (t_ 23) (b_ cd) (t_ 27))::m_ 29 28::S_ 30 29 b9 [.cD 2 (t_ 7),.cD 0 (t_ 30),.load K (t_ 31),.bin .eql [1] (t_ 32) (i_ 1)] [o_ 34 (.pick (t_ 29) (b_ cd) (t_ 33))]))) (I_ 34 (G_ [k_ 6 (bL 0)] .ret) .skip)) (J_ (G_ [k_ 8 0] (Q_ 0 iZ)) (G_ (f_ 60 2 7::W_ 61 3 60 [o_ 63 (.ee K 1 (t_ 62) (i_ 0)),l_ 64 63,m_ 9 64]) (J_ (G_ (f_ 65 2 7::W_ 66 0 65 [Y_ 68 .eql 67 3]) (I_ 68 (G_ [L_ 69 4 3,m_ 70 2,m_ 71 1,f_ 72 2 7,f_ 73 1 72,L_ 74 2 73,F_ 75 106 [t_ 69,t_ 70,t_ 71,t_ 74],K_ 10 va,s_ 2 10 75] (J_ (G_ (L_ 76 2 10::f_ 77 2 7::f_ 78 1 77::L_ 79 2 78::o_ 80 (.bin .eql [9,0,1] (t_ 76) (t_ 79))::m_ 81 80::S_ 82 81 cd [.load (Z 6) (t_ 7),.load (Z 2) (t_ 10),.call (.func 170) [t_ 82,t_ 83],.un .not (t_ 84)] (o_ 86 (.pick (t_ 81) (t_ 85) (b_ b9))::m_ 87 86::S_ 88 87 b9 [.cD 0 (t_ 10),.load K (t_ 88)] [o_ 90 (.pick (t_ 87) (b_ cd) (t_ 89))])) (I_ 90 (G_ [k_ 6 (bL 0)] .ret) .skip)) (G_ (W_ 91 1 10 [Y_ 93 .eql 92 0]) (I_ 93 (O_ (f_ 94 2 7::W_ 95 3 94 [o_ 97 (.ee K 1 (t_ 96) (i_ 1)),l_ 98 97,m_ 9 98])) .skip)))) .skip)) (J_ (G_ (m_ 99 9::m_ 100 2::X_ 101 .eql 99 100::m_ 102 101::S_ 103 102 b9 [.load (Z 4) (t_ 3),.mv (t_ 9),.call (.func 63) [t_ 103,t_ 104],.mv (t_ 1),.call (.func 104) [t_ 105,t_ 106]] [o_ 108 (.pick (t_ 102) (b_ cd) (t_ 107))]) (I_ 108 (G_ [k_ 6 (bL 0)] .ret) .skip)) (G_ [m_ 109 9,m_ 6 109] .ret))))))))
def zR:=gp 105 [.tmp 6] pM
def lZ:aG:=(y_ 16 10 24 0 1 25 (R_ 17 3 4 1 6 (U_ 21 0 20 [])) (J_ (V_ (L_ 27 2 7::rS 28 3 4 1 6 (rS 32 0 31 10 2 (fJ 36 0 35 [o_ 38 (.build va [(0,(1,(b_ cd))),(1,(1,(t_ 37)))]),o_ 39 (.bin .eql [9,0,1] (t_ 27) (t_ 38))])))) (I_ 39 (G_ (R_ 40 3 4 1 6 (R_ 44 0 43 10 2 (R_ 48 1 47 9 2 [L_ 52 2 51,s_ 2 8 52]))) .ret) .skip)))
def vC:aG:=(G_ [x_ 4 0,x_ 7 3,K_ 8 va] (G_ [L_ 11 4 4,m_ 12 1,F_ 13 63 [t_ 11,t_ 12],m_ 14 2,F_ 15 92 [t_ 13,t_ 14],m_ 9 15] (J_ (G_ [k_ 10 0] (Q_ 0 lZ)) (G_ [L_ 53 2 7,s_ 2 8 53] .ret))))
def Er:=gp 106 [.cell 8 (Z 2)] vC
def QA:aG:=(V_ (m_ 53 0::n_ 54 53::rS 55 3 54 8 6 (fJ 59 0 58 (m_ 61 10::fJ 62 1 11 [m_ 64 9,m_ 65 9,C_ 66 .add 65 1,(F_ 67 167 [t_ 63,t_ 64,t_ 66],[55,59]),a_ 68 2 60 61,f_ 69 1 68,s_ 1 69 67]))))
def wI:aG:=(N_ 49 48 47 2 3 70 (G_ [m_ 50 48,a_ 51 2 46 48,L_ 52 2 51,K_ 11 Wu,m_ 10 50,s_ 2 11 52] QA))
def Ch:aG:=(N_ 27 26 25 0 1 71 (G_ [a_ 28 1 24 26,l_ 29 28,m_ 8 29] (J_ (G_ [m_ 30 8,m_ 31 2,X_ 32 .eql 30 31] (I_ 32 (.exit 1) .skip)) (G_ (T_ 33 6 8 1 [l_ 36 35,m_ 37 1,F_ 38 162 [t_ 36,t_ 37],m_ 9 38]) (G_ (m_ 39 0::n_ 40 39::R_ 41 3 40 8 6 (U_ 45 0 44 [k_ 48 0])) (Q_ 2 wI))))))
def FC:aG:=(G_ [m_ 12 0,n_ 13 12,L_ 14 4 13,F_ 15 101 [t_ 14],m_ 6 15] (J_ (G_ (m_ 16 0::n_ 17 16::R_ 18 3 17 1 6 (f_ 22 2 21::U_ 23 3 22 [k_ 26 0])) (Q_ 0 Ch)) (O_ (m_ 72 0::n_ 73 72::W_ 74 3 73 [m_ 76 1,m_ 77 2,v_ 78 Ba 1 77,o_ 79 (.build Tt [(0,(1,(i_ 2))),(3,(1,(t_ 78)))]),a_ 80 6 75 76,f_ 81 2 80,s_ 4 81 79]))))
def Qk:=gp 156 [] FC
def lg:aG:=(N_ 63 62 61 6 7 72 (G_ [a_ 64 8 60 62,L_ 65 8 64,K_ 16 I1,s_ 8 16 65] (G_ [L_ 66 8 16,F_ 67 132 [t_ 66]] (P_ 8 (.RO (t_ 67) [68] (O_ [K_ 17 va,s_ 2 17 68]) (P_ 9 (O_ [l_ 69 8,L_ 70 2 17,o_ 71 (.call (t_ 69) [t_ 70])])))))))
def lh:aG:=(N_ 41 40 39 4 5 57 (G_ [m_ 42 40,a_ 43 2 38 40,L_ 44 2 43,K_ 14 va,m_ 13 42,s_ 2 14 44] (G_ (T_ 45 1 9 1 [l_ 48 47,m_ 49 13,a_ 50 1 48 49,l_ 51 50,m_ 52 2,X_ 53 .neq 51 52]) (I_ 53 (O_ [l_ 54 8,L_ 55 2 14,o_ 56 (.call (t_ 54) [t_ 55])]) .skip))))
def lq:aG:=(N_ 34 33 32 2 3 58 (G_ [a_ 35 2 31 33,L_ 36 2 35,K_ 12 Wu,s_ 2 12 36] (G_ (U_ 37 1 12 [k_ 40 0]) (Q_ 4 lh))))
def lu:aG:=(N_ 26 25 24 0 1 81 (G_ [m_ 27 25,a_ 28 6 23 25,L_ 29 6 28,K_ 10 Fg,m_ 9 27,s_ 6 10 29] (J_ (G_ (U_ 30 0 10 [k_ 33 0]) (Q_ 2 lq)) (J_ (G_ (U_ 59 1 10 [k_ 62 0]) (Q_ 6 lg)) (G_ [m_ 73 9,m_ 74 2,X_ 75 .neq 73 74] (I_ 75 (O_ [l_ 76 8,f_ 77 2 10,f_ 78 1 77,L_ 79 2 78,o_ 80 (.call (t_ 76) [t_ 79])]) .skip))))))
def vp:aG:=(G_ [x_ 3 0,Z_ 6] (G_ (W_ 18 2 3 [o_ 20 (.iO [(dd b9)] 1 (t_ 19) (t_ 19)),K_ 7 ZD,s_ 1 7 20]) (G_ [o_ 21 (.uP 214 [t_ 7]),o_ 8 (.alloc [.nilFunc]),s_ 1 8 21] (J_ (G_ (U_ 22 3 3 [k_ 25 0]) (Q_ 0 lu)) (G_ [l_ 82 7,m_ 6 82] .ret)))))
def Ed:=gp 157 [.tmp 6] vp
def gJ:aG:=(G_ [M_ 4 b9] (G_ [m_ 5 0,m_ 6 1,F_ 7 133 [t_ 5,t_ 6],C_ 8 .geq 7 0,m_ 4 8] .ret))
def mn:=gp 158 [.tmp 4] gJ
def yK:aG:=(G_ [x_ 2 0,M_ 3 b9] (G_ (l_ 4 1::W_ 5 0 2 [a_ 7 1 4 6,l_ 8 7,m_ 3 8]) .ret))
def Hk:=gp 159 [.tmp 3] yK
def Bw:aG:=(G_ [x_ 2 0,k_ 4 0] (J_ (G_ [f_ 7 2 2,L_ 8 4 7,K_ 5 Tt,s_ 4 5 8] (P_ 0 (G_ (W_ 10 0 5 [Y_ 12 .eql 11 2,m_ 9 12]) (I_ 9 (G_ (W_ 13 3 5 [o_ 15 (.ee K 1 (t_ 14) (i_ 0)),l_ 16 15,m_ 4 16]) .ret) (G_ (W_ 18 0 5 [Y_ 20 .eql 19 3,m_ 17 20]) (I_ 17 (G_ (W_ 21 0 2 [o_ 23 (.uP 215 [t_ 5]),F_ 24 133 [t_ 22,t_ 23],m_ 6 24]) (J_ (G_ (m_ 25 6::C_ 26 .lss 25 0::m_ 27 26::S_ 28 27 b9 [.cD 0 (t_ 2),.load K (t_ 28),.mv (t_ 6),.ee K 2 (t_ 29) (t_ 30),.cD 1 (t_ 31),.load K (t_ 32),.mv (t_ 1),.ee K 2 (t_ 33) (t_ 34),.cD 0 (t_ 35),.load K (t_ 36)] [o_ 38 (.pick (t_ 27) (b_ cd) (t_ 37))]) (I_ 38 (G_ [k_ 4 (bL 0)] .ret) .skip)) (J_ (G_ (R_ 39 0 2 6 2 (R_ 43 1 42 1 2 (W_ 47 1 46 [Y_ 49 .neq 48 0]))) (I_ 49 (G_ (W_ 50 3 5 [o_ 52 (.ee K 1 (t_ 51) (i_ 0)),l_ 53 52,m_ 4 53]) .ret) .skip)) (G_ (W_ 54 3 5 [o_ 56 (.ee K 1 (t_ 55) (i_ 1)),l_ 57 56,m_ 4 57]) .ret)))) .skip)))))) (G_ [k_ 4 (bL 0)] .ret)))
def Ko:=gp 160 [.tmp 4] Bw
def mE:aG:=(G_ [M_ 4 b9] (G_ [m_ 5 0,m_ 6 1,F_ 7 162 [t_ 5,t_ 6],C_ 8 .geq 7 0,m_ 4 8] .ret))
def wS:=gp 161 [.tmp 4] mE
def tZ:aG:=(G_ [x_ 3 0,K_ 4 va] (G_ [l_ 6 1,o_ 7 (.uP 164 [t_ 3]),F_ 8 133 [t_ 6,t_ 7],m_ 5 8] (J_ (G_ [m_ 9 5,C_ 10 .lss 9 0] (I_ 10 (G_ [L_ 11 2 3,s_ 2 4 11] .ret) .skip)) (J_ (V_ (l_ 12 1::m_ 13 5::a_ 14 2 12 13::fJ 15 1 14 [l_ 17 2,a_ 18 2 16 17,L_ 19 2 18,s_ 2 4 19])) .ret))))
def CZ:=gp 163 [.cell 4 (Z 2)] tZ
def qw:aG:=(G_ [x_ 2 0,M_ 3 b9] (G_ (L_ 4 2 1::W_ 5 0 2 [o_ 7 (.build va [(0,(1,(b_ cd))),(1,(1,(t_ 6)))]),o_ 8 (.bin .eql [9,0,1] (t_ 4) (t_ 7)),m_ 3 8]) .ret))
def AN:=gp 164 [.tmp 3] qw
def jl:aG:=(J_ (G_ [m_ 13 7,m_ 14 8,B_ 15 .lss 13 14] (H_ 15 0)) (P_ 1 (G_ [m_ 16 7,m_ 17 8,B_ 18 .add 16 17,o_ 19 (.conv .u64 (t_ 18)),o_ 20 (.bin .shr [] (t_ 19) (.const (.int .u64 1))),o_ 21 (.conv ef (t_ 20)),m_ 9 21] (G_ (T_ 22 0 9 1 [l_ 25 24,m_ 26 1,F_ 27 216 [t_ 25,t_ 26]]) (I_ 27 (O_ [m_ 28 9,C_ 29 .add 28 1,m_ 7 29]) (O_ [m_ 30 9,m_ 8 30]))))))
def jI:aG:=(G_ [k_ 4 0,M_ 5 b9] (G_ [m_ 10 0,z_ 11 10,m_ 6 11] (G_ [m_ 12 6,k_ 7 0,m_ 8 12] (J_ (Q_ 0 jl) (G_ (m_ 31 7::m_ 32 7::m_ 33 6::B_ 34 .lss 32 33::m_ 35 34::S_ 36 35 cd [.mv (t_ 0),.mv (t_ 7),.ee K 1 (t_ 36) (t_ 37),.load K (t_ 38),.mv (t_ 1),.bin .eql [1] (t_ 39) (t_ 40),.mv (t_ 41)] (S_ 43 42 b9 [.mv (t_ 0),.mv (t_ 7),.ee K 1 (t_ 43) (t_ 44),.load K (t_ 45),.call (.func 217) [t_ 46],.mv (t_ 47)] (S_ 49 48 cd [.mv (t_ 1),.call (.func 217) [t_ 49]] [q_ 51 42 b9 (.pick (t_ 48) (t_ 50) (b_ b9)),q_ 52 35 cd (.pick (t_ 42) (b_ cd) (t_ 51)),o_ 53 (.pick (t_ 35) (t_ 52) (b_ b9)),m_ 4 31,m_ 5 53]))) .ret)))))
def sw:=gp 165 [(.tmp 4),(.tmp 5)] jI
def ma:aG:=(y_ 58 11 61 6 7 62 [m_ 59 8,z_ 60 59] (G_ (T_ 64 8 11 2 (W_ 67 0 66 (m_ 69 68::S_ 70 69 cd [.mv (t_ 8),.mv (t_ 11),.ee K 2 (t_ 70) (t_ 71),.cD 1 (t_ 72),.load K (t_ 73),.mv (t_ 1),.bin .eql [1] (t_ 74) (t_ 75)] [o_ 77 (.pick (t_ 69) (t_ 76) (b_ b9))]))) (I_ 77 (O_ [m_ 78 5,C_ 79 .add 78 1,m_ 5 79]) .skip)))
def mb:aG:=(y_ 43 10 47 4 5 48 (U_ 44 0 7 []) (O_ (m_ 50 8::R_ 51 0 7 10 2 (W_ 55 1 54 [A_ 57 va 16 50 56,m_ 8 57]))))
def mc:aG:=(y_ 28 9 32 2 3 33 (U_ 29 1 7 []) (O_ (m_ 35 8::R_ 36 1 7 9 8 [L_ 40 8 39,F_ 41 44 [t_ 40],A_ 42 va 16 35 41,m_ 8 42])))
def me:aG:=(y_ 12 6 16 0 1 17 (U_ 13 3 2 []) (G_ (R_ 19 3 2 6 6 [L_ 23 6 22,K_ 7 Fg,s_ 6 7 23]) (G_ [f_ 24 2 7,f_ 25 1 24,L_ 26 2 25,v_ 27 va 2 26,m_ 8 27] (J_ (G_ [k_ 9 0] (Q_ 2 mc)) (J_ (G_ [k_ 10 0] (Q_ 4 mb)) (G_ [k_ 11 0] (Q_ 6 ma)))))))
def vD:aG:=(.seq (.ops [⟨(Z 2),K,(.box (.tmp 0))⟩,⟨(Z 4),K,(.mv (.const (dC ef 0)))⟩]) (.seq (.ops [⟨(Z 5),K,(.mv (.const (dC ef 0)))⟩]) (.seq (.seq (.ops [⟨(Z 6),K,(.mv (.const (dC ef 0)))⟩]) (.block 0 (.loop me))) (.seq (.ops [⟨(Z 80),K,(.mv (.tmp 5))⟩,⟨(Z 4),K,(.mv (.tmp 80))⟩]) .ret))))
def Es:=gp 168 [.tmp 4] vD
def lS:aG:=(J_ (G_ (m_ 35 10::R_ 36 3 3 8 6 (U_ 40 0 39 (B_ 43 .lss 35 42::m_ 44 43::S_ 45 44 cd [.mv (t_ 9),.bin .geq [] (t_ 45) (i_ 0)] [o_ 47 (.pick (t_ 44) (t_ 46) (b_ b9))]))) (H_ 47 2)) (J_ (P_ 3 (G_ (R_ 50 3 3 8 6 (R_ 54 0 53 10 2 (R_ 58 1 57 9 2 [L_ 62 2 61,m_ 63 2,o_ 64 (.build va [(0,(1,(b_ cd))),(1,(1,(t_ 63)))]),o_ 65 (.bin .eql [9,0,1] (t_ 62) (t_ 64))]))) (I_ 65 (O_ [m_ 66 7,C_ 67 .add 66 1,m_ 7 67]) .skip))) (O_ [m_ 48 10,C_ 49 .add 48 1,m_ 10 49])))
def iP:aG:=(y_ 23 8 27 0 1 28 (U_ 24 3 3 []) (G_ [L_ 30 4 3,m_ 31 8,F_ 32 63 [t_ 30,t_ 31],m_ 33 1,F_ 34 92 [t_ 32,t_ 33],m_ 9 34] (G_ [k_ 10 0] (Q_ 2 lS))))
def vB:aG:=(G_ [x_ 3 0,k_ 6 0] (G_ [k_ 7 0] (J_ (G_ (R_ 11 3 3 1 6 [f_ 15 2 14,f_ 16 1 15,L_ 17 2 16,m_ 18 2,o_ 19 (.build va [(0,(1,(b_ cd))),(1,(1,(t_ 18)))]),o_ 20 (.bin .eql [9,0,1] (t_ 17) (t_ 19))]) (I_ 20 (O_ [m_ 21 7,C_ 22 .add 21 1,m_ 7 22]) .skip)) (J_ (G_ [k_ 8 0] (Q_ 0 iP)) (G_ [m_ 68 7,m_ 6 68] .ret)))))
def Ep:=gp 169 [.tmp 6] vB
def jf:aG:=(y_ 6 5 10 0 1 11 (U_ 7 0 2 []) (J_ (V_ (L_ 13 2 3::rS 14 0 2 5 2 (fJ 18 0 17 [o_ 20 (.build va [(0,(1,(b_ cd))),(1,(1,(t_ 19)))]),o_ 21 (.bin .eql [9,0,1] (t_ 13) (t_ 20))]))) (I_ 21 (G_ [M_ 4 cd] .ret) .skip)))
def pO:aG:=(.seq (.ops [⟨(Z 2),K,(.box (.tmp 0))⟩,⟨(Z 3),K,(.box (.tmp 1))⟩,⟨(Z 4),K,(.mv (.const (dd b9)))⟩]) (.seq (.seq (.ops [⟨(Z 5),K,(.mv (.const (dC ef 0)))⟩]) (.block 0 (.loop jf))) (.seq (.ops [⟨(Z 4),K,(.mv (.const (dd b9)))⟩]) .ret)))
def zT:=gp 170 [.tmp 4] pO
def sq:aG:=(G_ [x_ 2 0] (G_ (W_ 3 0 2 []) (I_ 4 (O_ (l_ 5 1::W_ 6 1 2 [a_ 8 1 5 7,u_ (.store 1 (t_ 8) (b_ cd))])) .skip)))
def BG:=gp 214 [] sq
def yL:aG:=(G_ [x_ 2 0,M_ 3 b9] (G_ (f_ 4 1 1::L_ 5 2 4::W_ 6 0 2 [o_ 8 (.build va [(0,(1,(b_ cd))),(1,(1,(t_ 7)))]),o_ 9 (.bin .eql [9,0,1] (t_ 5) (t_ 8)),m_ 3 9]) .ret))
def Hl:=gp 215 [.tmp 3] yL
def Br:aG:=(G_ [M_ 4 b9] (G_ (m_ 5 0::F_ 6 247 [t_ 5]::m_ 7 6::S_ 8 7 cd [.mv (t_ 1),.call (.func 247) [t_ 8],.un .not (t_ 9)] (o_ 11 (.pick (t_ 7) (t_ 10) (b_ b9))::m_ 12 11::S_ 13 12 b9 [.mv (t_ 0),.mv (t_ 1),.bin .lss [] (t_ 13) (t_ 14)] [o_ 16 (.pick (t_ 12) (b_ cd) (t_ 15)),m_ 4 16])) .ret))
def Kj:=gp 216 [.tmp 4] Br
def vm:aG:=(G_ [M_ 2 b9] (G_ [m_ 3 0,m_ 4 0,X_ 5 .neq 3 4,m_ 2 5] .ret))
def Eb:=gp 217 [.tmp 2] vm
def Av:aG:=(G_ [M_ 2 b9] (G_ [m_ 3 0,m_ 4 0,X_ 5 .neq 3 4,m_ 2 5] .ret))
def Ja:=gp 247 [.tmp 2] Av
end Go.Proofs.YtdhnndleffachaaGreatDoor

namespace Go.Proofs.YtdhnndleffachaaGreatDoor
open Go.AI
variable{C l S X i u t z sz:Nat}{s:bJ->Env->aB->Prop}{a aF r b o dst fn n op:Int}{c p:Bool}{e:Env}{f:aa}{h:aB}{g:List Int}{α:Type}
def g_(h:aB)(a b c:Int):aY FF 80 [dC ef a,dC ef b,dC ef c] h (λv j=>v=dd (decide (b<=a)&&decide (a<=c))/\j=h):=by refine aY.of Ny ?_;unfold DC;by_cases d:b<=a<;>by_cases j:a<=c<;>simp[d,j]
def kP(h:aB)(j:cy h)(a b:Int):aY FF 36 [dC ef a,dC ef b] h (λv m=>v=eU #[dC ef a,dC ef b]/\az aV h m):=by
 refine aY.of Qf ?_;unfold Fx;simp
 repeat (first|exact .refl j|apply az.new|refine az.put ?_ ag ag)
def dP(op:Int):Bool×Bool×Bool:=
 if op=1\/op=16\/op=17\/op=18 then(cd,cd,b9) else
 if 2<=op/\op<=15 then(cd,cd,cd) else
 if op=19 then(b9,cd,cd) else
 if op=20\/op=21 then(cd,b9,b9) else
 if op=22 then(b9,cd,b9) else(b9,b9,b9)
def vI(h:¬a=b):(a==b)=b9:=ak h
def IZ(h:aB)(j:cy h)(op:Int):aY FF 193 [dC ef op] h (λv w=>v=eU #[dd (dP op).1,dd (dP op).2.1,dd (dP op).2.2]/\az aV h w):=by
 refine aY.of Nw ?_;unfold DA;by_cases w:op=1
 .subst w;simp[dP];repeat (first|exact .refl j|apply az.new|refine az.put ?_ ag ag)
 by_cases A:op=16
 .subst A;simp[dP];repeat (first|exact .refl j|apply az.new|refine az.put ?_ ag ag)
 by_cases y:op=17
 .subst y;simp[dP];repeat (first|exact .refl j|apply az.new|refine az.put ?_ ag ag)
 by_cases D:op=18
 .subst D;simp[dP];repeat (first|exact .refl j|apply az.new|refine az.put ?_ ag ag)
 by_cases q:op=19
 .subst q;simp[dP];repeat (first|exact .refl j|apply az.new|refine az.put ?_ ag ag)
 by_cases G:op=20
 .subst G;simp[dP];repeat (first|exact .refl j|apply az.new|refine az.put ?_ ag ag)
 by_cases E:op=21
 .subst E;simp[dP];repeat (first|exact .refl j|apply az.new|refine az.put ?_ ag ag)
 by_cases m:op=22
 .subst m;simp[dP];repeat (first|exact .refl j|apply az.new|refine az.put ?_ ag ag)
 have I:=vI w;have N:=vI A;have a:=vI y;have O:=vI D;have W:=vI q;have c:=vI G;have d:=vI E;have b:=vI m;by_cases H:2<=op
 .by_cases U:op<=15
  .have:dP op=(cd,cd,cd):=by unfold dP;rw[bM J,bH ⟨H,U⟩]
   simp[I,N,a,O,w,A,y,D,H,U,this]
   repeat (first|exact .refl j|apply az.new|refine az.put ?_ ag ag)
  .have M:15<op:=J
   have:dP op=(b9,b9,b9):=by unfold dP;rw[bM J,bM J,bM q,bM J,bM m]
   simp[I,N,a,O,W,c,d,b,w,A,y,D,q,G,E,m,H,U,M,this]
   repeat (first|exact .refl j|apply az.new|refine az.put ?_ ag ag)
 .have M:op<2:=J
  have:dP op=(b9,b9,b9):=by unfold dP;rw[bM J,bM J,bM q,bM J,bM m]
  simp[I,N,a,O,W,c,d,b,w,A,y,D,q,G,E,m,H,M,this]
  repeat (first|exact .refl j|apply az.new|refine az.put ?_ ag ag)
def aQ(op dst:Int)(c:Bool)(r:Int)(p:Bool)(o:Int)(fn:Int)(a:aa):List aa:=[dC ef op,dC ef dst,dd c,dC ef r,dd p,dC ef o,dC ef fn,a]
structure SV where
 a:Option Addr
 l:Nat
 c:Nat
def SV.v(s:SV):aa:=c6 s.a s.l s.c
@[simp] def SV.AK(s:SV):s.v=c6 s.a s.l s.c:=rfl
def cU:SV:=⟨K,0,0⟩
structure GI where
 op:Int
 dst:Int
 a:Bool×Int
 b:Bool×Int
 fn:Int
 args:List (Bool×Int)
structure GP where
 dst:Int
 row:List (Bool×Int)
structure GB where
 aP:List GP
 list:List GI
 kind:Int
 on:Bool×Int
 to:List Int
structure GF where
 name:ByteArray
 params:Int
 aF:Int
 blocks:List GB
structure GG where
 name:ByteArray
 size:Int
 init:List Int
structure GU where
 globals:List GG
 funcs:List GF
def vR(c:List aa)(v:Bool×Int):Prop:=c=[dd v.1,dC ef v.2]
def nR(c:List aa)(n:Int):Prop:=c=[dC ef n]
def iR(h:aB)(c:List aa)(x:GI):Prop:=∃A:SV,c=aQ x.op x.dst x.a.1 x.a.2 x.b.1 x.b.2 x.fn A.v/\ae vR 2 h A.v x.args
def pR(h:aB)(c:List aa)(p:GP):Prop:=∃A:SV,c=[dC ef p.dst,A.v]/\ae vR 2 h A.v p.row
def bR(h:aB)(c:List aa)(b:GB):Prop:=∃P L T:SV,c=[P.v,L.v,dC ef b.kind,dd b.on.1,dC ef b.on.2,T.v]/\ae (pR h) 2 h P.v b.aP/\ae (iR h) 8 h L.v b.list/\ae nR 1 h T.v b.to
def fR(h:aB)(c:List aa)(f:GF):Prop:=∃B:SV,c=[eT f.name,dC ef f.params,dC ef f.aF,B.v]/\ae (bR h) 6 h B.v f.blocks
def gR(h:aB)(c:List aa)(g:GG):Prop:=∃I:SV,c=[eT g.name,dC ef g.size,I.v]/\ae nR 1 h I.v g.init
def uR(h:aB)(G F:SV)(u:GU):Prop:=ae (gR h) 3 h G.v u.globals/\ae (fR h) 4 h F.v u.funcs
def iR.mono{h a:aB}(j:cy h)(g:az aV h a){c:List aa}{x:GI}(r:iR h c x):iR a c x:=by have⟨A,e,s⟩:=r;exact⟨A,e,s.mono j g λ_ _ h=>h⟩
def pR.mono{h a:aB}(j:cy h)(g:az aV h a){c:List aa}{x:GP}(r:pR h c x):pR a c x:=by have⟨A,e,s⟩:=r;exact⟨A,e,s.mono j g λ_ _ h=>h⟩
def bR.mono{h a:aB}(j:cy h)(g:az aV h a){c:List aa}{x:GB}(r:bR h c x):bR a c x:=by have⟨P,L,T,e,u,t,z⟩:=r;exact⟨P,L,T,e,u.mono j g λ_ _ r=>r.mono j g,t.mono j g λ_ _ r=>r.mono j g,z.mono j g λ_ _ h=>h⟩
def fR.mono{h a:aB}(j:cy h)(g:az aV h a){c:List aa}{x:GF}(r:fR h c x):fR a c x:=by have⟨A,e,s⟩:=r;exact⟨A,e,s.mono j g λ_ _ r=>r.mono j g⟩
def gR.mono{h a:aB}(j:cy h)(g:az aV h a){c:List aa}{x:GG}(r:gR h c x):gR a c x:=by have⟨A,e,s⟩:=r;exact⟨A,e,s.mono j g λ_ _ h=>h⟩
abbrev mm(h:aB)(B:SV)(bs:List GB):Prop:=ae (bR h) 6 h B.v bs
def mm.mono{h a:aB}{B:SV}{b:List GB}(s:mm h B b)(j:cy h)(g:az aV h a):mm a B b:=ae.mono s j g λ_ _ r=>r.mono j g
def uR.mono{h a:aB}{G F:SV}{u:GU}(r:uR h G F u)(j:cy h)(g:az aV h a):uR a G F u:=
 ⟨r.1.mono j g λ_ _ r=>r.mono j g,r.2.mono j g λ_ _ r=>r.mono j g⟩
structure At{α:Type}(R:List aa->α->Prop)(sz:Nat)(h:aB)(L:SV)(n:Nat)(i:Nat)(x:α)(b off:Nat)(c:List aa):Prop where
 a:L.a=Z ⟨b,off,K⟩
 l:L.l=n
 len:Y c=sz
 r:R c x
 bU:Old b h
 rd:∀h':aB,h'.tr.get b=h.tr.get b->∀k m,k+m<=sz->cC h' b (off+i*sz+k) m=Z ((c.drop k).take m)
def ae.len{R:List aa->α->Prop}{L:SV}{b:List α}(s:ae R sz h L.v b):L.l=Y b:=by have⟨a,j,e,_⟩:=s;simp at e;exact e.2.1
def ae.at{α:Type}{R:List aa->α->Prop}{sz:Nat}{h:aB}(D:cy h){L:SV}{j:List α}(s:ae R sz h L.v j){i:Nat}{x:α}(y:j[i]?=Z x):∃b d c,At R sz h L (Y j) i x b d c:=by
 have⟨a,H,e,s⟩:=s;simp at e;rcases s with⟨rfl,_⟩|⟨b,d,L,j,o,j,rfl,q,E⟩;simp at y
 .have⟨w,G⟩:=E i x y;refine⟨b,d,_,e.1,e.2.1,w,G,D.bU q,λx x k m I=>?_⟩;have A:=w;simp at A;have j:m=0\/d+i*sz+k+m<=Y L:=J
  rcases j with rfl|j;unfold cC;rw[x,q];simp;rw[fm (x.trans q) j,List.drop_take,List.take_take,List.drop_drop];congr 2;omega
def dw:List GB->Nat
 |[]=>0
 |b::j=>Y b.aP+Y b.list+dw j
def vY{a:List GB}{j:Nat}{b:GB}(h:a[j]?=Z b):dw (a.take (j+1))=dw (a.take j)+(Y b.aP+Y b.list):=by
 induction a generalizing j with
 |nil=>simp at h
 |cons x a m=>
  cases j with
  |zero=>simp at h;subst h;simp[dw]
  |succ j=>
   simp at h;have:=m h;simp only[List.take_succ_cons,dw];omega
def Fits(a:List GB):Prop:=Y a<=140737488355328/\∀b∈a,Y b.aP<=140737488355328/\Y b.list<=140737488355328
def wrap_add(a b:Int):IntKind.i64.wrap (IntKind.i64.wrap a+b)=IntKind.i64.wrap (a+b):=by simp only[A6,y6,Bo];simp;omega
def LF:∀ {bs:List GB},Fits bs->dw bs<=Y bs*281474976710656
 |[],_=>by simp[dw]
 |b::bs,h=>by have:=LF (bs:=bs) ⟨by have:=h.1;simp at this;omega,λb j=>h.2 b (.tail _ j)⟩;have:=h.2 b (.head _);simp only[dw,kb];omega
def PQ{a:List GB}(h:Fits a)(j:Y a<=40):IntKind.i64.wrap (dw a:Int)=(dw a:Int):=by have:=LF h;exact bZ _ J J
structure Small(u:GU):Prop where
 fs:Y u.funcs<=140737488355328
 bs:∀f∈u.funcs,Fits f.blocks
def ZP(f:GF):Prop:=Y f.blocks<=24/\dw f.blocks<=120
def ae.later{R:List aa->α->Prop}(y:cy h){L:SV}{j:List α}(s:ae R sz h L.v j){x:α}(q:j[i]?=Z x):∃b a c,L.a=Z ⟨b,a,K⟩/\i<Y j/\Y c=sz/\R c x/\Old b h/\∀j:aB,az aV h j->∀k m,k+m<=sz->cC j b (a+i*sz+k) m=Z ((c.drop k).take m):=by
 have⟨b,a,c,w⟩:=ae.at y s q;exact⟨b,a,c,w.a,(cR.mp q).1,w.len,w.r,w.bU,λj g=>w.rd j (g.got w.bU)⟩
def abX{h g:aB}(S:cy h){G F:SV}{u:GU}{B:SV}{f:GF}(V:u.funcs[i]?=Z f)(j:∃b l,F.a=Z ⟨b,l,K⟩/\F.l=Y u.funcs/\∀A,az aV h A->cC A b (l+i*4+3) 1=Z [B.v])(n:mm h B f.blocks)(d:Fits f.blocks){U:Nat}(v:dR g U [G.v,F.v] 0)(O:az aV h g)(D:cg e 1 U)(H:bz e 3 i)(w:bz e 4 0)(z:bz e 5 0)(C:∀k A,az aV g A->cg k 1 U->bz k 3 i->bz k 4 (IntKind.i64.wrap (dw f.blocks:Int))->s (.exit 2) k A):aN FF (.loop jY) e g s:=by
 have⟨b,l,r,X,A⟩:=j;have k:=ae.len n;refine aN.loop (λm e E=>∃j:Nat,m=Y f.blocks-j/\j<=Y f.blocks/\cg e 1 U/\bz e 3 i/\bz e 4 (IntKind.i64.wrap (dw (f.blocks.take j):Int))/\bz e 5 j/\az aV g E) ?_ (n:=Y f.blocks)
  ⟨0,Q,J,D,H,by simp[w,dw,bZ],z,.refl O.ok⟩
 rintro m e E⟨j,rfl,g,D,H,w,z,y⟩;have a:=O.trans y;have I:=y.get O.ok v;have M:=A E a;have v:=(cR.mp V).1;unfold jY;by_cases g:j<Y f.blocks
 .have N:f.blocks[j]?=Z f.blocks[j]:=iK g;generalize f.blocks[j]=x at N;obtain⟨l,L,c,T,_,A,m,W,A⟩:=ae.later S n N;obtain⟨P,L,S,rfl,l,q,W⟩:=m;have o:=A E a 0 1 ai;have p:=A E a 1 1 ai;have E:=ae.len l;have t:=ae.len q;have W:=vY N;have n:=d.2 x (cK N);have F:=d.1;simp[-ay] at o p M;have⟨q,L⟩:∃q,q=j+1:=⟨_,Q⟩;have S:IntKind.i64.wrap ((j:Int)+1)=(q:Int):=by rw[bZ _ J J];omega
  have F:=y.ok.bU I;have n:=y.ok.st _ _ _ _ _ I;have d:IntKind.i64.wrap ((dw (f.blocks.take j):Int)+(Y x.aP:Int)+(Y x.list:Int))=IntKind.i64.wrap ((dw (f.blocks.take q):Nat):Int):=by rw[L,W];congr 1;omega
  simp[D,H,w,z,aD I,aK,r,X,v,M,k,T,g,o,p,-ay,E,t,wrap_add,d,S];exact⟨Y f.blocks-q,J,q,Q,J,Q,Q,y.tick⟩
 .have:j=Y f.blocks:=J
  subst this;rw[mI] at w;simp[-ay] at M;simp[D,H,w,z,aD I,r,X,v,M,k,-ay];exact C _ _ y (av D) (av H) (av w)
def XK(A:cy h){G F:SV}{u:GU}(S:uR h G F u)(v:Small u):aY FF 11 [eU ⟨[G.v,F.v]⟩] h (λN W=>az aV h W/\∃z:Bool,N=dd z/\(z=b9->Y u.funcs<=10/\∀f∈u.funcs,ZP f)):=by
 have q:=ae.len S.2;refine aY.of BH ?_;unfold sr;simp;have D:=aZ A [G.v,F.v] 0;refine aN.loop (λm e N=>∃i:Nat,m=Y u.funcs-i/\i<=Y u.funcs/\cg e 1 h.ax/\bz e 3 i/\az aV h N/\N.tr.get h.ax=Z (.ch [G.v,F.v] b9 0 0)/\∀f∈u.funcs.take i,ZP f) ?_ (n:=Y u.funcs)
  ⟨0,Q,J,ag,ag,ak D,ag,ag⟩
 rintro m e N⟨i,rfl,X,I,a,E,F,x⟩;unfold qc;have H:=F;simp at H;by_cases y:i<Y u.funcs
 .have O:u.funcs[i]?=Z u.funcs[i]:=iK y;have d:=IB y;generalize u.funcs[i]=f at O d;have s:=v.bs f d;obtain⟨b,C,c,D,_,_,⟨B,rfl,U⟩,_,l⟩:=ae.later A S.2 O;simp[I,a,H,q,y];refine abX A O ⟨b,C,D,q,λW g=>l W g 3 1 ai⟩ U s (G:=G) (U:=h.ax) F E (av I) (av a) ag ag ?_;intro X j W F r z;have M:=E.trans W;have A:=W.get E.ok H;have C:=l j M 3 1 ai;have p:=ae.len U;simp[-ay] at C;have d:=A;have P:=v.fs;have m:=bZ (i+1) J J;have k:¬24<Y f.blocks->¬120<dw f.blocks->∀f∈u.funcs.take (i+1),ZP f:=by intro w N W P;rw[mw,O] at P;rcases jL.1 P with h|h;exact x W h;simp at h;subst h;exact⟨J,J⟩
  by_cases V:24<Y f.blocks
  .have j:(24:Int)<Y f.blocks:=J
   simp[F,r,z,aD A,D,q,y,C,p,j,-ay];exact M
  .have j:¬(24:Int)<Y f.blocks:=J
   rw[PQ s J] at z;by_cases N:120<dw f.blocks
   .have w:(120:Int)<dw f.blocks:=J
    simp[F,r,z,aD A,D,q,y,C,p,j,w,-ay];exact M
   .have w:¬(120:Int)<dw f.blocks:=J
    simp[F,r,z,aD A,D,q,y,C,p,j,w,m,-ay];exact⟨Y u.funcs-(i+1),J,i+1,Q,J,ag,M,by rw[A,D,q],k V N⟩
 .have:i=Y u.funcs:=J
  subst this;rw[mI] at x;by_cases k:10<Y u.funcs
  .have j:(10:Int)<Y u.funcs:=J
   simp[I,a,H,q,j];exact E
  .have j:¬(10:Int)<Y u.funcs:=J
   simp[I,a,H,q,j];exact⟨E,J,x⟩
def Pm(w:cy h)(G F:SV):aY FF 14 [eU ⟨[G.v,F.v]⟩] h (λv q=>v=dd (decide (G.l=0)&&decide (F.l=0))/\az aV h q):=by
 refine aY.of Ev ?_;unfold vG;have a:=aZ w [G.v,F.v] 0;simp at a;by_cases j:G.l=0
 .by_cases m:F.l=0;simp[j,m];simpa [j,m] using a
  .have A:((F.l:Int)==0)=b9:=by simp;omega
   simp[j,m,A];simpa [j] using a
 .have y:((G.l:Int)==0)=b9:=by simp;omega
  simp[j,y];exact a
def bN(c d:SV)(b:ByteArray)(params aF:Int)(a e:SV):List aa:=[c.v,d.v,eT b,dC ef params,dC ef aF,a.v,e.v]
def Js(aF:Int)(r:Bool)(n:Int):Int:=if r=cd/\¬(0<=n/\n<=aF-1) then 3 else 0
def QB(aF n:Int):Int:=if ¬(0<=n/\n<=aF-1) then 3 else 0
section
variable{gs fs blocks ah:SV}{name:ByteArray}{params aF:Int}
def Cl(h:aB)(y:cy h)(G:0<=aF/\aF<1000000)(r:Bool)(n:Int):aY FF 202 [eU ⟨bN gs fs name params aF blocks ah⟩,eU ⟨[dd r,dC ef n]⟩] h (λv m=>v=dC ef (Js aF r n)/\az aV h m):=by
 refine aY.of Ea ?_;unfold vk;have q:=bZ (aF-1) J J;have w:=(aZ y (bN gs fs name params aF blocks ah) 0);have j:=w.new [dd r,dC ef n] 0;cases r
 simp[bN,Js];simpa [bN] using j
 .simp[bN,q];refine bm.call (ak (g_ _ n 0 (aF-1))) ?_;rintro _ m⟨rfl,A⟩;subst A;by_cases a:0<=n
  .by_cases b:n<=aF-1;simp[a,b,Js];simpa [bN] using j
   .have E:aF-1<n:=J
    simp[a,b,E,Js];simpa [bN] using j
  .have D:n<0:=J
   simp[a,D,Js];simpa [bN] using j
def KA(h:aB)(w:cy h)(E:0<=aF/\aF<1000000)(n:Int):aY FF 203 [eU ⟨bN gs fs name params aF blocks ah⟩,dC ef n] h (λv m=>v=dC ef (QB aF n)/\az aV h m):=by
 refine aY.of D6 ?_;unfold vg;have q:=bZ (aF-1) J J;have j:=(aZ w (bN gs fs name params aF blocks ah) 0);simp[bN,q];refine bm.call (ak (g_ _ n 0 (aF-1))) ?_;rintro _ m⟨rfl,y⟩;subst y;by_cases a:0<=n
 .by_cases b:n<=aF-1;simp[a,b,QB];simpa [bN] using j
  .have D:aF-1<n:=J
   simp[a,b,D,QB];simpa [bN] using j
 .have A:n<0:=J
  simp[a,A,QB];simpa [bN] using j
def acd(q:cy h)(w:0<=aF/\aF<1000000){j:SV}(m:dR h C (bN gs fs name params aF blocks ah) u)(y:dR h X (aQ op dst c r p o fn j.v) t):aY FF 205 [dB (Z ⟨C,0,K⟩),dB (Z ⟨X,0,K⟩)] h (λv j=>v=dC ef (Js aF c r)/\az aV h j):=by
 refine aY.of BA ?_;unfold sf;simp[m,y,bN,aQ];refine bm.call (by simpa [bN] using Cl (gs:=gs) (fs:=fs) (name:=name) (params:=params) (blocks:=blocks) (ah:=ah) h q w c r) ?_;rintro _ j⟨rfl,g⟩;simp;exact g
def ace(q:cy h)(w:0<=aF/\aF<1000000){j:SV}(m:dR h C (bN gs fs name params aF blocks ah) u)(y:dR h X (aQ op dst c r p o fn j.v) t):aY FF 206 [dB (Z ⟨C,0,K⟩),dB (Z ⟨X,0,K⟩)] h (λv j=>v=dC ef (Js aF p o)/\az aV h j):=by
 refine aY.of BB ?_;unfold sg;simp[m,y,bN,aQ];refine bm.call (by simpa [bN] using Cl (gs:=gs) (fs:=fs) (name:=name) (params:=params) (blocks:=blocks) (ah:=ah) h q w p o) ?_;rintro _ j⟨rfl,g⟩;simp;exact g
end
def ways:List aa:=[dC ef 0,dC ef 0,dC ef 1,dC ef 2]
def Hh(h:aB):Prop:=∃a o s,h.tr.get 0=Z (.ch ways a o s)
def Hh.grow{h a:aB}(w:Hh h)(m:cy h)(g:az aV h a):Hh a:=by have⟨a,o,s,j⟩:=w;exact⟨a,o,s,g.get m j⟩
def Lu(U:cy h){T:SV}(W:ae nR 1 h T.v g)(H:Y g<140737488355329)(p:Int->Bool)(H:∀a n,az aV h a->dQ FF f [dC ef n] a (λv G=>v=dd (p n)/\az aV a G)):aY FF 246 [T.v,f] h (λv G=>az aV h G/\∃i:Int,v=dC ef i/\(0<=i↔ ∃n∈g,p n=cd)):=by
 have y:=ae.len W;refine aY.of vK ?_;unfold kJ;simp;refine aN.loop (λm e a=>∃j:Nat,m=Y g-j/\j<=Y g/\bX e 0=T.v/\bX e 1=f/\bz e 7 (Y g)/\bz e 8 j/\az aV h a/\∀n∈g.take j,p n=b9) ?_ (n:=Y g)
  ⟨0,Q,J,ag,ag,av y,ag,.refl U,ag⟩
 rintro m e a⟨j,rfl,m,D,I,E,A,q,M⟩;unfold ka;by_cases v:j<Y g
 .have N:g[j]?=Z g[j]:=iK v;have T:=IB v;generalize g[j]=n at N T;obtain⟨b,m,c,O,_,_,rfl,_,m⟩:=ae.later U W N;have W:=m a q 0 1 ai;simp[-ay] at W;have U:=bZ (j+1) J J;simp at D;simp[D,I,E,A,O,y,v,W,-ay];refine bm.fB (by simpa [I] using H a n q) ?_;rintro _ a⟨rfl,a⟩;cases w:p n
  simp[D,I,E,A,U];refine⟨Y g-(j+1),J,j+1,Q,J,⟨O,y⟩,ag,q.trans a,?_⟩;intro y U;rw[mw,N] at U;rcases jL.1 U with h|h;exact M y h;simp at h;rw[h];exact w;simp;exact⟨q.trans a,n,T,w⟩
 .have:j=Y g:=J
  subst this;rw[mI] at M;simp[E,A];exact⟨q,λn q=>M n q⟩
def FR(w:cy h){T:SV}(A:ae nR 1 h T.v g)(y:Y g<140737488355329)(p:Int->Bool)(H:∀a n,az aV h a->dQ FF f [dC ef n] a (λv j=>v=dd (p n)/\az aV a j)):aY FF 200 [T.v,f] h (λv j=>v=dd (g.any p)/\az aV h j):=by
 refine aY.of sx ?_;unfold jJ;simp;refine bm.call (V:=λv j=>az aV h j/\∃i:Int,v=dC ef i/\(0<=i↔ ∃n∈g,p n=cd)) (ak (Lu w A y p H)) ?_;rintro _ v⟨q,i,rfl,D⟩;have e:g.any p=decide (0<=i):=by rw[Bool.eq_iff_iff];simp[D]
 by_cases v:0<=i;simp[v,e];exact q
 .have m:i<0:=J
  simp[v,m,e];exact q
section
variable{x B d F:SV}{k:ByteArray}{params aF:Int}
def aks(n:Nat)(t:Int):Prop:=1<=t/\t<=(n:Int)-1
def aby(w:cy h)(y:d.l<1000000)(q:dR h C (bN x B k params aF d F) u)(t:Int):aY FF 201 [dC ef t,dB (Z ⟨C,0,K⟩)] h (λv m=>v=dd (!(decide (1<=t)&&decide (t<=(d.l:Int)-1)))/\az aV h m):=by
 have j:=bZ ((d.l:Int)-1) J J;refine aY.of Bz ?_;unfold se;simp[q,bN,j];refine bm.call (ak (g_ h t 1 ((d.l:Int)-1))) ?_;rintro _ j⟨rfl,rfl⟩;simp;exact .refl w
structure SH(n:Nat)(aF:Int)(b:GB):Prop where
 kind:(b.kind=1/\b.to=[])\/(b.kind=2/\∃t,b.to=[t])\/(b.kind=3/\∃t u,b.to=[t,u]/\t≠u)
 to:∀t∈b.to,aks n t
 on:b.on.1=cd->0<=b.on.2/\b.on.2<=aF-1
def Hj(n:Nat)(a:List Int):Bool:=a.any λt=> !(decide (1<=t)&&decide (t<=(n:Int)-1))
def Ot{n:Nat}{a:List Int}(h:Hj n a=b9):∀t∈a,aks n t:=by intro t j;unfold Hj at h;rw[List.any_eq_false] at h;have:=h t j;simp at this;exact this
def CS{r:Bool}(h:Js aF r n=0):r=cd->0<=n/\n<=aF-1:=by intro q;unfold Js at h;split at h;cases h;rename_i m;by_cases j:0<=n/\n<=aF-1;exact j;exact absurd ⟨q,j⟩ m
def ae5(f:cy h)(l:Hh h)(y:0<=aF/\aF<1000000)(W:d.l<1000000){b:GB}(A:Y b.to<140737488355329){T:SV}(O:ae nR 1 h T.v b.to):aY FF 140 [eU ⟨bN x B k params aF d F⟩,eU ⟨[dC ef b.kind,dd b.on.1,dC ef b.on.2,T.v]⟩] h (λv N=>az aV h N/\∃c:Int,v=dC ef c/\(c=0->SH d.l aF b)):=by
 obtain⟨a,a,a,⟨r,n⟩,to⟩:=b;simp only at O A⊢;obtain⟨g,o,s,g⟩:=l;have l:0<h.ax:=f.wf _ _ g;have l:=ae.len O;refine aY.of D7 ?_;unfold vh;simp[bN];refine bm.cut (λe=>az aV h e/\e.tr.get h.ax=Z (.ch (bN x B k params aF d F) b9 0 0)/\e.tr.get (h.ax+1)=Z (.ch [dC ef a,dd r,dC ef n,T.v] b9 0 0)) ?_ ?_
 exact⟨((az.refl f).new _ _).new _ _,by simp[bN],ag⟩;rintro e⟨j,i,w⟩;have q:=j.get f g;simp[ways] at q;refine bm.call (ak (g_ e a 1 3)) ?_;rintro _ g⟨rfl,g⟩;rw[g];have g:=i;simp[bN] at g;simp at w;by_cases z:1<=a/\a<=3
 .have C:(decide (1<=a)&&decide (a<=3))=cd:=ak z
  have p:∀m,az aV e m->aY FF 200 [T.v,.func (.func 201) #[] #[dB (Z ⟨h.ax,0,K⟩)]] m (λv N=>v=dd (Hj d.l to)/\az aV m N):=by intro m M;refine FR M.ok (O.mono f (j.trans M) λ_ _ h=>h) A _ λA n D=>?_;refine dQ.func ?_;have:=aby D.ok W (D.get M.ok (M.get j.ok i (λh=>h))) n;simpa using this
  have i:∀m,az aV e m->aY FF 202 [eU ⟨bN x B k params aF d F⟩,eU ⟨[dd r,dC ef n]⟩] m (λv N=>v=dC ef (Js aF r n)/\az aV m N):=λm M=>Cl m M.ok y r n;have m:a=1\/a=2\/a=3:=J
  rcases m with rfl|rfl|rfl
  .by_cases W:Y to=0;have m:to=[]:=List.length_eq_zero_iff.1 W;subst m;have y:T.l=0:=l;rw[y] at w;simp[w,q];refine bm.call (by simpa [y] using p (tick e) (bk j.ok)) ?_;rintro _ A⟨rfl,D⟩;have m:=(bk j.ok).trans D;have E:=m.get j.ok w;have I:=m.get j.ok g;simp[Hj,E,I];refine bm.call (by simpa [bN] using i (tick A) (m.trans (bk m.ok))) ?_;rintro _ v⟨rfl,U⟩;simp;exact⟨((j.trans m).trans (bk m.ok)).trans U,λh=>⟨fc ⟨Q,Q⟩,ag,CS h⟩⟩
   .have M:((T.l:Int) !=0)=cd:=by simp;omega
    simp[w,q,M];exact j.tick
  .by_cases W:Y to=1
   .obtain⟨t,rfl⟩:∃t,to=[t]:=List.length_eq_one_iff.1 W;have y:T.l=1:=l;rw[y] at w;simp[w,q];refine bm.call (by simpa [y] using p (tick e) (bk j.ok)) ?_;rintro _ A⟨rfl,D⟩;have m:=(bk j.ok).trans D;have E:=m.get j.ok w;have I:=m.get j.ok g;cases G:Hj d.l [t]
    .by_cases N:r=b9/\n=0;obtain⟨rfl,rfl⟩:=N;simp[E,I];refine bm.call (by simpa [bN] using i (tick A) (m.trans (bk m.ok))) ?_;rintro _ v⟨rfl,U⟩;simp;exact⟨((j.trans m).trans (bk m.ok)).trans U,λ_=>⟨ft (fc ⟨Q,t,Q⟩),Ot G,λh=>by cases h⟩⟩
     .have H:(r|| !(n==0))=cd:=by cases r;simp at N⊢;exact N;rfl
      simp[E,I,H];exact(j.trans m).tick
    simp;exact j.trans m
   .have M:((T.l:Int) !=1)=cd:=by simp;omega
    simp[w,q,M];exact j.tick
  .by_cases W:Y to=2
   .obtain⟨t,u,rfl⟩:∃t u,to=[t,u]:=by
     match to,W with
     |[t,u],_=>exact⟨t,u,Q⟩
    have y:T.l=2:=l;rw[y] at w;obtain⟨W,W,W,W,_,_,rfl,_,N⟩:=ae.later f O (i:=0) (x:=t) rfl;obtain⟨l,l,l,l,_,_,rfl,_,H⟩:=ae.later f O (i:=1) (x:=u) rfl;rw[W] at l w;cases l;simp[w,q];refine bm.call (by simpa [y,W] using p (tick e) (bk j.ok)) ?_;rintro _ A⟨rfl,D⟩;have m:=(bk j.ok).trans D;have E:=m.get j.ok w;have I:=m.get j.ok g;have D:=N A (j.trans m) 0 1 ai;have g:=H A (j.trans m) 0 1 ai;simp[-ay] at D g;cases G:Hj d.l [t,u] with
    |true=>
     simp;exact j.trans m
    |false=>
     by_cases H:t=u;subst H;simp[aK,aD E,D,g,-ay];exact(j.trans m).tick
     .have N:(t==u)=b9:=ak H
      simp[aK,aD E,aD I,D,g,N,-ay];refine bm.call (by simpa [bN] using i (tick A) (m.trans (bk m.ok))) ?_;rintro _ v⟨rfl,U⟩;simp;exact⟨((j.trans m).trans (bk m.ok)).trans U,λh=>⟨ft (ft ⟨Q,t,u,Q,H⟩),Ot G,CS h⟩⟩
   .have M:((T.l:Int) !=2)=cd:=by simp;omega
    simp[w,q,M];exact j.tick
 .have C:(decide (1<=a)&&decide (a<=3))=b9:=ak z
  simp[C];exact j
end
def RV(h:aB)(c:List aa)(l:List Int):Prop:=∃S:SV,c=[S.v]/\ae nR 1 h S.v l
def RV.mono{h a:aB}(j:cy h)(g:az aV h a){c:List aa}{x:List Int}(r:RV h c x):RV a c x:=by have⟨A,e,s⟩:=r;exact⟨A,e,s.mono j g λ_ _ h=>h⟩
def xj(aF:Int)(v:Bool×Int):Prop:=v.1=cd->0<=v.2/\v.2<=aF-1
def Bk(aF:Int)(n:Int):Prop:=0<=n/\n<=aF-1
def QC(h:QB aF n=0):Bk aF n:=by unfold QB at h;split at h;cases h;rename_i j;unfold Bk;omega
def rZ(aF:Int)(l:List (Bool×Int)):Prop:=∀v∈l,xj aF v
def rZ.nil(aF:Int):rZ aF []:=λ_ h=>by simp at h
def rZ.take{aF:Int}{l:List (Bool×Int)}{j:Nat}{v:Bool×Int}(h:rZ aF (l.take j))(w:l[j]?=Z v)(q:xj aF v):rZ aF (l.take (j+1)):=by intro n m;rw[mw,w] at m;rcases jL.1 m with a|a;exact h n a;simp at a;rw[a];exact q
def v8(h:¬a=b):(a !=b)=cd:=ak h
structure Ol(aF:Int)(n:Nat)(p:GP):Prop where
 dst:Bk aF p.dst
 len:Y p.row=n
 row:rZ aF p.row
section
variable{gs fs blocks ah:SV}{name:ByteArray}{params aF:Int}
def ag0(O:cy h)(o:0<=aF/\aF<1000000){W:List (List Int)}(M:ae (RV h) 1 h ah.v W){l:List Int}(d:W[i]?=Z l){p:GP}(W:Y p.row<140737488355329){W:SV}(q:ae vR 2 h W.v p.row):aY FF 142 [eU ⟨bN gs fs name params aF blocks ah⟩,dC ef i,eU ⟨[dC ef p.dst,W.v]⟩] h (λv f=>az aV h f/\∃c:Int,v=dC ef c/\(c=0->i≠0/\Ol aF (Y l) p)):=by
 have f:=ae.len q;have u:=ae.len M;refine aY.of D9 ?_;unfold vj;by_cases D:i=0
 subst D;simp[bN];exact((az.refl O).new _ _).new _ _;have y:((i:Int)==0)=b9:=by simp;omega
 obtain⟨t,t,t,t,r,_,⟨S,rfl,E⟩,g,g⟩:=ae.later O M d;have d:=ae.len E;simp[bN,y,D];refine bm.cut (λD=>az aV h D/\D.tr.get h.ax=Z (.ch (bN gs fs name params aF blocks ah) b9 0 0)/\D.tr.get (h.ax+1)=Z (.ch [dC ef p.dst,W.v] b9 0 0)) ?_ ?_
 exact⟨((az.refl O).new _ _).new _ _,by simp[bN],ag⟩;rintro D⟨M,d,E⟩;refine bm.call (by simpa [bN] using KA (gs:=gs) (fs:=fs) (name:=name) (params:=params) (blocks:=blocks) (ah:=ah) D M.ok o p.dst) ?_;rintro _ y⟨rfl,U⟩;have D:=M.trans U;have a:=U.get M.ok d;have d:=U.get M.ok E;by_cases E:QB aF p.dst=0
 .have m:=g y D 0 1 ai;simp[-ay] at m;simp[bN] at a;simp at d;by_cases z:Y p.row=Y l
  .have g:((W.l:Int) !=(S.l:Int))=b9:=by simp;omega
   simp[E,aK,aD d,aD a,t,u,r,m,g,-ay];refine aN.loop (λM e N=>∃j:Nat,M=Y p.row-j/\j<=Y p.row/\cg e 3 h.ax/\bX e 31=W.v/\bz e 32 (Y p.row)/\bz e 33 j/\az aV y N/\rZ aF (p.row.take j)) ?_ (n:=Y p.row)
    ⟨0,Q,J,ag,ag,av f,ag,bk D.ok,.nil _⟩
   rintro M e N⟨j,rfl,M,s,y,w,A,M,k⟩;have G:=D.trans M;have H:=M.get D.ok a;unfold td;by_cases n:j<Y p.row
   .have U:p.row[j]?=Z p.row[j]:=iK n;generalize p.row[j]=v at U;obtain⟨b,I,c,I,_,_,rfl,x,x⟩:=ae.later O q U;have q:=x N G 0 2 ai;simp[-ay] at q;have O:=bZ (j+1) J J;have x:=G.ok.bU H;simp at y;simp[s,y,w,A,I,f,n,q,aD H,aJ,cw,bh,x,-ay];refine bm.cut (λq=>az aV N q) ?_ ?_
    exact((az.refl G.ok).new _ _).put ⟨0,ag⟩ (fc (fE _));rintro q n;have H:=G.trans n;refine bm.call (by simpa [bN] using Cl (gs:=gs) (fs:=fs) (name:=name) (params:=params) (blocks:=blocks) (ah:=ah) q H.ok o v.1 v.2) ?_;rintro _ q⟨rfl,N⟩;by_cases q:Js aF v.1 v.2=0
    simp[s,y,w,A,q,O];refine⟨Y p.row-(j+1),J,j+1,Q,J,⟨I,f⟩,ag,(M.trans n).trans N,k.take U (CS q)⟩;have:=v8 q;simp[this];exact⟨H.trans N,λh=>absurd h q⟩
   .have:j=Y p.row:=J
    subst this;rw[mI] at k;simp[w,A];exact⟨G,⟨QC E,z,k⟩⟩
  .have g:((W.l:Int) !=(S.l:Int))=cd:=by simp;omega
   simp[E,aK,aD d,aD a,t,u,r,m,g,-ay];exact D.tick
 have:=v8 E;simp[this];exact⟨D,λh=>absurd h E⟩
end
def cO(s:Bool×Bool×Bool)(x:GI)(n:Nat):Bool:=
 (!s.1&&x.dst != -1)||((!s.2.1&& !(!x.a.1&&x.a.2==0))||((!s.2.2&& !(!x.b.1&&x.b.2==0))||(!(x.op==20)&&(x.fn !=0||decide (0<n)))))
def ajJ{s:Bool×Bool×Bool}{x:GI}{A:SV}{R:Env->aB->Prop}(G:dR h X (aQ x.op x.dst x.a.1 x.a.2 x.b.1 x.b.2 x.fn A.v) u)(D:dR h S [dd s.1,dd s.2.1,dd s.2.2] t)(E:dR h l [dd (x.op==20)] z)(j:cg e 3 X)(m:cg e 5 S)(q:cg e 6 l)(H:∀y,bX y 2=bX e 2->bX y 3=bX e 3->bX y 5=bX e 5->bX y 6=bX e 6->bX y 62=dd (cO s x A.l)->R y h):bm FF Yc e h R:=by
 have⟨op,dst,⟨c,r⟩,⟨p,o⟩,fn,O⟩:=x;have⟨y,N,b⟩:=s;simp[aQ] at G D E;unfold Yc;cases y;cases N;cases b;cases y:(dst== -1);simp[j,m,q,G,D,E,bne,y];refine H _ ?_ ?_ ?_ ?_ ?_<;>simp[cO,j,m,q,bne,y];cases c;cases I:(r==0);simp[j,m,q,G,D,E,bne,y,I];refine H _ ?_ ?_ ?_ ?_ ?_<;>simp[cO,j,m,q,bne,y,I];cases p;cases M:(o==0);simp[j,m,q,G,D,E,bne,y,I,M];refine H _ ?_ ?_ ?_ ?_ ?_<;>simp[cO,j,m,q,bne,y,I,M];cases w:(op==20);cases a:(fn==0);simp[j,m,q,G,D,E,bne,y,I,M,w,a];refine H _ ?_ ?_ ?_ ?_ ?_<;>simp[cO,j,m,q,bne,y,I,M,w,a];simp[j,m,q,G,D,E,bne,y,I,M,w,a];refine H _ ?_ ?_ ?_ ?_ ?_<;>simp[cO,j,m,q,bne,y,I,M,w,a];simp[j,m,q,G,D,E,bne,y,I,M,w];refine H _ ?_ ?_ ?_ ?_ ?_<;>simp[cO,j,m,q,bne,y,I,M,w];simp[j,m,q,G,D,E,bne,y,I];refine H _ ?_ ?_ ?_ ?_ ?_<;>simp[cO,j,m,q,bne,y,I];simp[j,m,q,G,D,E,bne,y];refine H _ ?_ ?_ ?_ ?_ ?_<;>simp[cO,j,m,q,bne,y];cases y:(dst== -1);simp[j,m,q,G,D,E,bne,y];refine H _ ?_ ?_ ?_ ?_ ?_<;>simp[cO,j,m,q,bne,y];cases c;cases I:(r==0);simp[j,m,q,G,D,E,bne,y,I];refine H _ ?_ ?_ ?_ ?_ ?_<;>simp[cO,j,m,q,bne,y,I];cases w:(op==20);cases a:(fn==0);simp[j,m,q,G,D,E,bne,y,I,w,a];refine H _ ?_ ?_ ?_ ?_ ?_<;>simp[cO,j,m,q,bne,y,I,w,a];simp[j,m,q,G,D,E,bne,y,I,w,a];refine H _ ?_ ?_ ?_ ?_ ?_<;>simp[cO,j,m,q,bne,y,I,w,a];simp[j,m,q,G,D,E,bne,y,I,w];refine H _ ?_ ?_ ?_ ?_ ?_<;>simp[cO,j,m,q,bne,y,I,w];simp[j,m,q,G,D,E,bne,y];refine H _ ?_ ?_ ?_ ?_ ?_<;>simp[cO,j,m,q,bne,y];cases b;cases y:(dst== -1);simp[j,m,q,G,D,E,bne,y];refine H _ ?_ ?_ ?_ ?_ ?_<;>simp[cO,j,m,q,bne,y];cases p;cases M:(o==0);simp[j,m,q,G,D,E,bne,y,M];refine H _ ?_ ?_ ?_ ?_ ?_<;>simp[cO,j,m,q,bne,y,M];cases w:(op==20);cases a:(fn==0);simp[j,m,q,G,D,E,bne,y,M,w,a];refine H _ ?_ ?_ ?_ ?_ ?_<;>simp[cO,j,m,q,bne,y,M,w,a];simp[j,m,q,G,D,E,bne,y,M,w,a];refine H _ ?_ ?_ ?_ ?_ ?_<;>simp[cO,j,m,q,bne,y,M,w,a];simp[j,m,q,G,D,E,bne,y,M,w];refine H _ ?_ ?_ ?_ ?_ ?_<;>simp[cO,j,m,q,bne,y,M,w];simp[j,m,q,G,D,E,bne,y];refine H _ ?_ ?_ ?_ ?_ ?_<;>simp[cO,j,m,q,bne,y];cases y:(dst== -1);simp[j,m,q,G,D,E,bne,y];refine H _ ?_ ?_ ?_ ?_ ?_<;>simp[cO,j,m,q,bne,y];cases w:(op==20);cases a:(fn==0);simp[j,m,q,G,D,E,bne,y,w,a];refine H _ ?_ ?_ ?_ ?_ ?_<;>simp[cO,j,m,q,bne,y,w,a];simp[j,m,q,G,D,E,bne,y,w,a];refine H _ ?_ ?_ ?_ ?_ ?_<;>simp[cO,j,m,q,bne,y,w,a];simp[j,m,q,G,D,E,bne,y,w];refine H _ ?_ ?_ ?_ ?_ ?_<;>simp[cO,j,m,q,bne,y,w];cases N;cases b;cases c;cases I:(r==0);simp[j,m,q,G,D,E,bne,I];refine H _ ?_ ?_ ?_ ?_ ?_<;>simp[cO,j,m,q,bne,I];cases p;cases M:(o==0);simp[j,m,q,G,D,E,bne,I,M];refine H _ ?_ ?_ ?_ ?_ ?_<;>simp[cO,j,m,q,bne,I,M];cases w:(op==20);cases a:(fn==0);simp[j,m,q,G,D,E,bne,I,M,w,a];refine H _ ?_ ?_ ?_ ?_ ?_<;>simp[cO,j,m,q,bne,I,M,w,a];simp[j,m,q,G,D,E,bne,I,M,w,a];refine H _ ?_ ?_ ?_ ?_ ?_<;>simp[cO,j,m,q,bne,I,M,w,a];simp[j,m,q,G,D,E,bne,I,M,w];refine H _ ?_ ?_ ?_ ?_ ?_<;>simp[cO,j,m,q,bne,I,M,w];simp[j,m,q,G,D,E,bne,I];refine H _ ?_ ?_ ?_ ?_ ?_<;>simp[cO,j,m,q,bne,I];simp[j,m,q,G,D,E,bne];refine H _ ?_ ?_ ?_ ?_ ?_<;>simp[cO,j,m,q,bne];cases c;cases I:(r==0);simp[j,m,q,G,D,E,bne,I];refine H _ ?_ ?_ ?_ ?_ ?_<;>simp[cO,j,m,q,bne,I];cases w:(op==20);cases a:(fn==0);simp[j,m,q,G,D,E,bne,I,w,a];refine H _ ?_ ?_ ?_ ?_ ?_<;>simp[cO,j,m,q,bne,I,w,a];simp[j,m,q,G,D,E,bne,I,w,a];refine H _ ?_ ?_ ?_ ?_ ?_<;>simp[cO,j,m,q,bne,I,w,a];simp[j,m,q,G,D,E,bne,I,w];refine H _ ?_ ?_ ?_ ?_ ?_<;>simp[cO,j,m,q,bne,I,w];simp[j,m,q,G,D,E,bne];refine H _ ?_ ?_ ?_ ?_ ?_<;>simp[cO,j,m,q,bne];cases b;cases p;cases M:(o==0);simp[j,m,q,G,D,E,bne,M];refine H _ ?_ ?_ ?_ ?_ ?_<;>simp[cO,j,m,q,bne,M];cases w:(op==20);cases a:(fn==0);simp[j,m,q,G,D,E,bne,M,w,a];refine H _ ?_ ?_ ?_ ?_ ?_<;>simp[cO,j,m,q,bne,M,w,a];simp[j,m,q,G,D,E,bne,M,w,a];refine H _ ?_ ?_ ?_ ?_ ?_<;>simp[cO,j,m,q,bne,M,w,a];simp[j,m,q,G,D,E,bne,M,w];refine H _ ?_ ?_ ?_ ?_ ?_<;>simp[cO,j,m,q,bne,M,w];simp[j,m,q,G,D,E,bne];refine H _ ?_ ?_ ?_ ?_ ?_<;>simp[cO,j,m,q,bne];cases w:(op==20);cases a:(fn==0);simp[j,m,q,G,D,E,bne,w,a];refine H _ ?_ ?_ ?_ ?_ ?_<;>simp[cO,j,m,q,bne,w,a];simp[j,m,q,G,D,E,bne,w,a];refine H _ ?_ ?_ ?_ ?_ ?_<;>simp[cO,j,m,q,bne,w,a];simp[j,m,q,G,D,E,bne,w];refine H _ ?_ ?_ ?_ ?_ ?_<;>simp[cO,j,m,q,bne,w]
section
variable{gs fs blocks ah:SV}{name:ByteArray}{params aF:Int}
def yF(P:Int->Prop)(h:aB)(v:aa)(a:aB):Prop:=az aV h a/\∃c:Int,v=dC ef c/\P c
def ai0(N:cy h){b s:Nat}{M O q:aa}{P1 P2 P3:Int->Prop}(m:dR h b [M,O,q] s)(d:∀a,az aV h a->dQ FF M [] a (yF P1 a))(k:∀a,az aV h a->dQ FF O [] a (yF P2 a))(f:∀a,az aV h a->dQ FF q [] a (yF P3 a)):aY FF 204 [c6 (Z ⟨b,0,K⟩) 3 3] h (yF (λc=>c=0->P1 0/\P2 0/\P3 0) h):=by
 refine aY.of Qe ?_;unfold Fv;simp;have W:IntKind.i64.wrap (0+1)=1:=bZ _ J J;have H:IntKind.i64.wrap 1=1:=bZ _ J J;have l:IntKind.i64.wrap (1+1)=2:=bZ _ J J;have G:IntKind.i64.wrap 2=2:=bZ _ J J;have M:IntKind.i64.wrap (2+1)=3:=bZ _ J J;have D:IntKind.i64.wrap 3=3:=bZ _ J J;refine aN.loop (λn e a=>∃i:Nat,n=3-i/\i<=3/\bz e 8 (i:Nat)/\bz e 7 3/\bX e 6=c6 (Z ⟨b,0,K⟩) 3 3/\(0<i->P1 0)/\(1<i->P2 0)/\(2<i->P3 0)/\az aV h a) ?_ (n:=3)
  ⟨0,Q,J,ag,ag,ag,ag,ag,ag,.refl N⟩
 rintro n e a⟨i,rfl,q,q,w,y,E,O,U,g⟩;have I:=g.get N m;unfold Cg;rcases(show i=0\/i=1\/i=2\/i=3 by omega) with rfl|rfl|rfl|rfl
 simp[q,w,y,I];refine bm.fB (V:=yF P1 a) (ak (d a g)) ?_;rintro _ d⟨m,c,rfl,A⟩;by_cases j:c=0;subst j;simp[q,w,y,W,H];exact⟨2,J,1,Q,J,Q,λ_=>A,J,J,g.trans m⟩;have:=v8 j;simp[this];exact⟨g.trans m,c,Q,λh=>absurd h j⟩
 simp[q,w,y,I];refine bm.fB (V:=yF P2 a) (ak (k a g)) ?_;rintro _ d⟨m,c,rfl,A⟩;by_cases j:c=0;subst j;simp[q,w,y,l,G];exact⟨1,J,2,Q,J,Q,λ_=>E J,λ_=>A,J,g.trans m⟩;have:=v8 j;simp[this];exact⟨g.trans m,c,Q,λh=>absurd h j⟩
 simp[q,w,y,I];refine bm.fB (V:=yF P3 a) (ak (f a g)) ?_;rintro _ d⟨m,c,rfl,A⟩;by_cases j:c=0;subst j;simp[q,w,y,M,D];exact⟨3,J,J,Q,λ_=>E J,λ_=>O J,λ_=>A,g.trans m⟩;have:=v8 j;simp[this];exact⟨g.trans m,c,Q,λh=>absurd h j⟩
 simp[q,w];exact⟨g,0,Q,λ_=>⟨E J,O J,U J⟩⟩
def acf(y:cy h)(P:0<=aF/\aF<1000000){k:Bool}{x:GI}{A:SV}(g:dR h l [dd k] z)(E:dR h X (aQ x.op x.dst x.a.1 x.a.2 x.b.1 x.b.2 x.fn A.v) t)(r:dR h C (bN gs fs name params aF blocks ah) u){q:List GF}(W:ae (fR h) 4 h fs.v q)(D:Y q<1000000/\∀f∈q,f.params<=6)(p:ae vR 2 h A.v x.args)(n:Y x.args<140737488355329):aY FF 207 [dB (Z ⟨l,0,K⟩),dB (Z ⟨X,0,K⟩),dB (Z ⟨C,0,K⟩)] h (yF (λc=>c=0->k=cd->rZ aF x.args/\Y x.args<=6) h):=by
 have n:=ae.len p;have U:=ae.len W;have⟨D,o⟩:=D;have a:=bZ ((fs.l:Int)-1) J J;refine aY.of BC ?_;unfold si;simp[aQ] at E;have D:=r;simp[bN] at D;cases k
 simp[g];exact⟨.refl y,0,Q,trivial⟩
 .simp[g,E,D,a];refine bm.call (ak (g_ h x.fn 0 ((fs.l:Int)-1))) ?_;rintro _ g⟨rfl,g⟩;rw[g];by_cases r:0<=x.fn/\x.fn<=(fs.l:Int)-1
  .have⟨k,g⟩:∃k:Nat,x.fn=k:=⟨x.fn.toNat,J⟩;have a:k<Y q:=J
   have H:q[k]?=Z q[k]:=iK a;generalize q[k]=f at H;have q:=o f (cK H);obtain⟨o,o,o,o,_,_,⟨B,rfl,_⟩,_,N⟩:=ae.later y W H;have q:=N (tick h) (bk y) 1 1 ai;simp[-ay,aK] at q;have W:(decide (0<=x.fn)&&decide (x.fn<=(fs.l:Int)-1))=cd:=ak r
   rw[W];rw[g] at E;rw[o,U] at D;by_cases B:(A.l:Int)=f.params
   .have i:((A.l:Int) !=f.params)=b9:=by simp[B]
    simp[g,E,D,U,aK,aD E,aD D,a,q,i,-ay];refine aN.loop (λm e k=>∃j:Nat,m=Y x.args-j/\j<=Y x.args/\cg e 2 C/\bX e 34=A.v/\bz e 35 (Y x.args)/\bz e 36 j/\az aV h k/\rZ aF (x.args.take j)) ?_ (n:=Y x.args)
     ⟨0,Q,J,ag,ag,av n,ag,bk y,.nil _⟩
    rintro m e k⟨j,rfl,m,s,d,G,I,M,m⟩;have O:=M.get y D;unfold p_;by_cases w:j<Y x.args
    .have H:x.args[j]?=Z x.args[j]:=iK w;generalize x.args[j]=v at H;obtain⟨b,N,c,F,_,_,rfl,N,L⟩:=ae.later y p H;have p:=L k M 0 2 ai;simp[-ay] at p;have L:=bZ (j+1) J J;have N:=M.ok.bU O;simp at d;simp[s,d,G,I,F,n,w,p,aD O,aJ,cw,bh,N,-ay];refine bm.cut (λw=>az aV k w) ?_ ?_
     exact((az.refl M.ok).new _ _).put ⟨0,ag⟩ (fc (fE _));rintro w N;have k:=M.trans N;refine bm.call (by simpa [bN,o,U] using Cl (gs:=gs) (fs:=fs) (name:=name) (params:=params) (blocks:=blocks) (ah:=ah) w k.ok P v.1 v.2) ?_;rintro _ w⟨rfl,o⟩;by_cases w:Js aF v.1 v.2=0
     simp[s,d,G,I,w,L];exact⟨Y x.args-(j+1),J,j+1,Q,J,⟨F,n⟩,ag,k.trans o,m.take H (CS w)⟩;have:=v8 w;simp[this];exact⟨k.trans o,_,Q,λh=>absurd h w⟩
    .have:j=Y x.args:=J
     subst this;rw[mI] at m;simp[G,I];exact⟨M,0,Q,λ_=>⟨m,J⟩⟩
   have i:((A.l:Int) !=f.params)=cd:=v8 B;simp[g,E,D,U,aK,aD E,aD D,a,q,i,-ay];exact⟨bk y,9,Q,λh=>by cases h⟩
  .have W:(decide (0<=x.fn)&&decide (x.fn<=(fs.l:Int)-1))=b9:=ak r
   simp[W];exact⟨.refl y,3,Q,λh=>by cases h⟩
end
def Ya:aG:=(G_ [o_ 81 (.uP 205 [t_ 2,t_ 3]),o_ 82 (.uP 206 [t_ 2,t_ 3]),o_ 83 (.uP 207 [t_ 6,t_ 3,t_ 2]),o_ 84 (.fC 3 [.nilFunc,.nilFunc,.nilFunc] [(0,(1,(t_ 81))),(1,(1,(t_ 82))),(2,(1,(t_ 83)))]),F_ 85 204 [t_ 84],m_ 4 85] .ret)
def akq:Q9=.seq (G_ [f_ 63 0 5,l_ 64 63,m_ 65 64,q_ 66 65 cd (.load K (t_ 6)),q_ 67 65 cd (.mv (t_ 66)),q_ 68 67 cd (.cD 1 (t_ 3)),q_ 69 67 cd (.load K (t_ 68)),q_ 70 67 cd (.bin .eql [1] (t_ 69) (.const (dC ef (bL 0)))),q_ 71 65 cd (.pick (t_ 67) (t_ 70) (b_ b9)),q_ 72 65 cd (.un .not (t_ 71)),o_ 73 (.pick (t_ 65) (t_ 72) (b_ b9))] (I_ 73 (G_ [L_ 74 7 2,f_ 75 1 3,l_ 76 75,F_ 77 203 [t_ 74,t_ 76],m_ 7 77] (G_ [m_ 78 7,o_ 79 (.bin .neq [1] (t_ 78) (i_ 0))] (I_ 79 (G_ [m_ 80 7,m_ 4 80] .ret) .skip))) .skip)) Ya:=Q
structure yG(aF:Int)(x:GI):Prop where
 op:1<=x.op/\x.op<=22
 form:cO (dP x.op) x (Y x.args)=b9
 dst:(dP x.op).1=cd->¬(x.op=20/\x.dst= -1)->Bk aF x.dst
 a:xj aF x.a
 b:xj aF x.b
 args:x.op=20->rZ aF x.args/\Y x.args<=6
section
variable{gs fs blocks ah:SV}{name:ByteArray}{params aF:Int}
def aqN(aF:Int)(x:GI)(c:Int):Prop:=c=0->((dP x.op).1=cd->¬(x.op=20/\x.dst= -1)->Bk aF x.dst)/\xj aF x.a/\xj aF x.b/\(x.op=20->rZ aF x.args/\Y x.args<=6)
def af_(m:cy h)(w:0<=aF/\aF<1000000){x:GI}{A:SV}(E:dR h l [dd (x.op==20)] z)(y:dR h X (aQ x.op x.dst x.a.1 x.a.2 x.b.1 x.b.2 x.fn A.v) t)(q:dR h C (bN gs fs name params aF blocks ah) u){j:List GF}(O:ae (fR h) 4 h fs.v j)(I:Y j<1000000/\∀f∈j,f.params<=6)(N:ae vR 2 h A.v x.args)(H:Y x.args<140737488355329){b s:Nat}(M:dR h b [.func (.func 205) #[] #[dB (Z ⟨C,0,K⟩),dB (Z ⟨X,0,K⟩)],.func (.func 206) #[] #[dB (Z ⟨C,0,K⟩),dB (Z ⟨X,0,K⟩)],.func (.func 207) #[] #[dB (Z ⟨l,0,K⟩),dB (Z ⟨X,0,K⟩),dB (Z ⟨C,0,K⟩)]] s):aY FF 204 [c6 (Z ⟨b,0,K⟩) 3 3] h (yF (λc=>c=0->xj aF x.a/\xj aF x.b/\(x.op=20->rZ aF x.args/\Y x.args<=6)) h):=by
 have F:=ai0 (P1:=λc=>c=0->xj aF x.a) (P2:=λc=>c=0->xj aF x.b) (P3:=λc=>c=0->(x.op==20)=cd->rZ aF x.args/\Y x.args<=6) m M (λx g=>by
  refine dQ.func ?_;have:=acd g.ok w (g.get m q) (g.get m y);refine aY.mono (ak this) ?_;rintro v G⟨rfl,D⟩;exact⟨D,_,Q,λh=>CS h⟩) (λx g=>by
  refine dQ.func ?_;have:=ace g.ok w (g.get m q) (g.get m y);refine aY.mono (ak this) ?_;rintro v G⟨rfl,D⟩;exact⟨D,_,Q,λh=>CS h⟩) (λx g=>by
  refine dQ.func ?_;have:=acf g.ok w (g.get m E) (g.get m y) (g.get m q) (O.mono m g λ_ _ r=>r.mono m g) I (N.mono m g λ_ _ h=>h) H;simpa using this)
 refine F.mono ?_;rintro v G⟨g,c,rfl,E⟩;exact⟨g,c,Q,λh=>⟨(E h).1 Q,(E h).2.1 Q,λe=>(E h).2.2 Q (av e)⟩⟩
def aga(w:cy h)(g:0<=aF/\aF<1000000){C X l S u t z m:Nat}{x:GI}{A:SV}(a:dR h l [dd (x.op==20)] z)(E:dR h X (aQ x.op x.dst x.a.1 x.a.2 x.b.1 x.b.2 x.fn A.v) t)(d:dR h C (bN gs fs name params aF blocks ah) u)(N:dR h S [dd (dP x.op).1,dd (dP x.op).2.1,dd (dP x.op).2.2] m){m:List GF}(k:ae (fR h) 4 h fs.v m)(j:Y m<1000000/\∀f∈m,f.params<=6)(m:ae vR 2 h A.v x.args)(n:Y x.args<140737488355329)(M:cg e 2 C)(I:cg e 3 X)(b:cg e 5 S)(G:cg e 6 l)(H:∀c U y,az aV h y->bz U 4 c->aqN aF x c->s .ret U y):aN FF Q9 e h s:=by
 have y:∀(U:aB)(q:Env),az aV h U->cg q 2 C->cg q 3 X->cg q 6 l->((dP x.op).1=cd->¬(x.op=20/\x.dst= -1)->Bk aF x.dst)->aN FF Ya q U s:=by
  intro U q A i D W O;unfold Ya;simp[i,D,W];refine bm.cut (λW=>az aV U W/\W.tr.get U.ax=Z (.ch [.func (.func 205) #[] #[dB (Z ⟨C,0,K⟩),dB (Z ⟨X,0,K⟩)],.func (.func 206) #[] #[dB (Z ⟨C,0,K⟩),dB (Z ⟨X,0,K⟩)],.func (.func 207) #[] #[dB (Z ⟨l,0,K⟩),dB (Z ⟨X,0,K⟩),dB (Z ⟨C,0,K⟩)]] b9 0 0)) ?_ ?_;exact⟨(az.refl A.ok).new _ _,ag⟩;rintro W⟨U,i⟩;have D:=A.trans U;refine bm.call (V:=yF (λc=>c=0->xj aF x.a/\xj aF x.b/\(x.op=20->rZ aF x.args/\Y x.args<=6)) W) (ak (af_ D.ok g (D.get w a) (D.get w E) (D.get w d) (k.mono w D λ_ _ r=>r.mono w D) j (m.mono w D λ_ _ h=>h) n i)) ?_;rintro _ j⟨j,c,rfl,W⟩;simp;exact H c _ _ (D.trans j) ag (λh=>⟨O,W h⟩)
 rw[akq];have D:=E;simp[aQ] at D;cases E:(dP x.op).1
 rw[E] at N;simp[b,N];refine y h _ (.refl w) (av M) (av I) (av G) (λh=>by rw[E] at h;cases h)
 .rw[E] at N;have E:∀q,cg q 2 C->cg q 3 X->cg q 6 l->bz q 76 x.dst->bX q 74=eU ⟨bN gs fs name params aF blocks ah⟩->True:=λ_ _ _ _ _ _=>trivial;cases W:(x.op==20)
  rw[W] at a;simp[b,G,I,M,N,a,D,d,bN];refine bm.call (by simpa [bN] using KA (gs:=gs) (fs:=fs) (name:=name) (params:=params) (blocks:=blocks) (ah:=ah) h w g x.dst) ?_;rintro _ E⟨rfl,q⟩;by_cases j:QB aF x.dst=0;simp[j];exact y E _ q (av M) (av I) (av G) (λ_ _=>QC j);have:=v8 j;simp[this];exact H _ _ _ q ag (λh=>absurd h j)
  .rw[W] at a;cases O:(x.dst== -1);simp[b,G,I,M,N,a,D,O,d,bN];refine bm.call (by simpa [bN] using KA (gs:=gs) (fs:=fs) (name:=name) (params:=params) (blocks:=blocks) (ah:=ah) h w g x.dst) ?_;rintro _ E⟨rfl,q⟩;by_cases j:QB aF x.dst=0;simp[j];exact y E _ q (av M) (av I) (av G) (λ_ _=>QC j);have:=v8 j;simp[this];exact H _ _ _ q ag (λh=>absurd h j)
   simp[b,G,I,N,a,D,O];refine y h _ (.refl w) (av M) (av I) (av G) (λ_ h=>absurd ⟨ak W,ak O⟩ h)
def af9(b:cy h)(i:0<=aF/\aF<1000000){x:GI}{A:SV}{j:List GF}(e:ae (fR h) 4 h fs.v j)(d:Y j<1000000/\∀f∈j,f.params<=6)(j:ae vR 2 h A.v x.args)(g:Y x.args<140737488355329):aY FF 143 [eU ⟨bN gs fs name params aF blocks ah⟩,eU ⟨aQ x.op x.dst x.a.1 x.a.2 x.b.1 x.b.2 x.fn A.v⟩] h (yF (λc=>c=0->yG aF x) h):=by
 have k:=ae.len j;refine aY.of D8 ?_;unfold vi;simp[bN,aQ];refine bm.cut (λa=>az aV h a/\a.tr.get h.ax=Z (.ch (bN gs fs name params aF blocks ah) b9 0 0)/\a.tr.get (h.ax+1)=Z (.ch (aQ x.op x.dst x.a.1 x.a.2 x.b.1 x.b.2 x.fn A.v) b9 0 0)) ?_ ?_;exact⟨((az.refl b).new _ _).new _ _,by simp[bN],by simp[aQ]⟩;rintro a⟨D,N,I⟩;refine bm.call (ak (g_ a x.op 1 22)) ?_;rintro _ O⟨rfl,O⟩;rw[O];by_cases O:1<=x.op/\x.op<=22
 .have M:(decide (1<=x.op)&&decide (x.op<=22))=cd:=ak O
  have G:=I;simp[aQ] at G;rw[M];simp[G];refine bm.call (ak (IZ a D.ok x.op)) ?_;rintro _ G⟨rfl,a⟩;have w:=D.trans a;have H:=a.get D.ok N;have N:=a.get D.ok I;have U:=w.ok.bU N;have I:=w.ok.bU H;have I:=N;simp[aQ] at I;simp[I,U];refine bm.cut (λI=>az aV G I/\(c_ I G.ax [dd (dP x.op).1,dd (dP x.op).2.1,dd (dP x.op).2.2])/\c_ I (G.ax+1) [dd (x.op==20)]) ?_ ?_
  exact⟨((((az.refl w.ok).new _ _).put ⟨0,ag⟩ (fc J)).new _ _).put ⟨0,ag⟩ (fc J),⟨G.clock,ag⟩,⟨G.clock+1,ag⟩⟩;rintro I⟨I,⟨G,y⟩,⟨G,E⟩⟩;have q:=w.trans I;have W:=I.get w.ok H;have G:=I.get w.ok N;refine ajJ (x:=x) (s:=dP x.op) G y E ag ag ag ?_;intro w a w I N H;simp at a w I N;cases m:cO (dP x.op) x A.l
  rw[m] at H;simp[H];refine aga q.ok i E G W y (e.mono b q λ_ _ r=>r.mono b q) d (j.mono b q λ_ _ h=>h) g a w I N ?_;intro c N N N I a;simp[I];refine⟨q.trans N,c,Q,λh=>?_⟩;have⟨g,N,I,w⟩:=a h;exact⟨O,by rw[<-k];exact m,g,N,I,w⟩;rw[m] at H;simp[H];exact⟨q,5,Q,λh=>by cases h⟩
 .have M:(decide (1<=x.op)&&decide (x.op<=22))=b9:=ak O
  rw[M];simp;exact⟨D,4,Q,λh=>by cases h⟩
end
set_option maxRecDepth 100000
def aoo:ZS Tryz.prog (tB Tryz.prog) 218:=by have⟨j,m⟩:=Option.isSome_iff_exists.mp (show(tB Tryz.prog 44).isSome=cd by kernel_rfl);exact⟨Tryz.f218,59,44,{ u:=.slice 44,size:=1,bytes:=24,zero:=[c6 K 0 0],agg:=b9 },j,Tryz.func218,by kernel_rfl,by kernel_rfl,by kernel_rfl,by kernel_rfl,by kernel_rfl,by kernel_rfl,Q,m⟩
def alP:Ha Tryz.prog (tB Tryz.prog) 1 (eZ (tB Tryz.prog) 1) FF0:=ZH (Xl abF) aoo
def aip:FF0 166=Z ⟨[.tmp 6],jQ [dd b9,dC ef 0] 2 16 218 219,.no⟩:=by kernel_rfl
def alQ:Ha Tryz.prog (tB Tryz.prog) 1 (eZ (tB Tryz.prog) 1) FF1:=
 VO alP (VB _) aip (fov:=⟨[],.bad,.Rx⟩) rfl rfl rfl ai ai
def ahB:Go.Shelf.Ren:=⟨fun|6=>197 |15=>245 |14=>244 |28=>273 |29=>274 |20=>265 |21=>266 |22=>267 |23=>268 |24=>269 |25=>270 |26=>271 |27=>272 |46=>277 |47=>278 |48=>279 |49=>280 |50=>281 |57=>282 |n=>n,fun|22=>235 |24=>237 |25=>239 |3=>3 |39=>173 |0=>0 |53=>245 |55=>248 |4=>4 |46=>299 |45=>298 |50=>189 |5=>5 |9=>9 |66=>308 |70=>312 |76=>314 |77=>209 |n=>n,fun|n=>n⟩
theorem BD{α:Type}{a:Option α}{b c:α}(h:a=Z b)(k:b=c:=by kernel_rfl):a=Z c:=k▸h
def aCE:Q7 Tryz.prog ahB where
 mixed:=by kernel_rfl
 f6:=⟨Tryz.f197.name,ai,BD Tryz.func197⟩
 f14:=⟨Tryz.f244.name,ai,BD Tryz.func244⟩
 f15:=BD Tryz.func245
 f20:=⟨Tryz.f265.name,ai,BD Tryz.func265⟩
 f21:=⟨Tryz.f266.name,ai,BD Tryz.func266⟩
 f22:=⟨Tryz.f267.name,ai,BD Tryz.func267⟩
 f23:=⟨Tryz.f268.name,ai,BD Tryz.func268⟩
 f24:=⟨Tryz.f269.name,ai,BD Tryz.func269⟩
 f25:=⟨Tryz.f270.name,ai,BD Tryz.func270⟩
 f26:=⟨Tryz.f271.name,ai,BD Tryz.func271⟩
 f27:=⟨Tryz.f272.name,ai,BD Tryz.func272⟩
 f28:=BD Tryz.func273
 f29:=BD Tryz.func274
 f46:=⟨Tryz.f277.name,ai,BD Tryz.func277⟩
 f47:=BD Tryz.func278
 f48:=BD Tryz.func279
 f49:=⟨Tryz.f280.name,ai,BD Tryz.func280⟩
 f50:=⟨Tryz.f281.name,ai,BD Tryz.func281⟩
 f57:=⟨Tryz.f282.name,ai,BD Tryz.func282⟩
 t0:=Tryz.underlying0
 a0:=Tryz.isAgg0
 z0:=Tryz.sizeOf0
 v0:=Tryz.zeroValue0
 t3:=Tryz.underlying3
 a3:=Tryz.isAgg3
 z3:=Tryz.sizeOf3
 v3:=Tryz.zeroValue3
 t4:=Tryz.underlying4
 a4:=Tryz.isAgg4
 z4:=Tryz.sizeOf4
 v4:=Tryz.zeroValue4
 t5:=Tryz.underlying5
 a5:=Tryz.isAgg5
 z5:=Tryz.sizeOf5
 v5:=Tryz.zeroValue5
 t9:=Tryz.underlying9
 a9:=Tryz.isAgg9
 z9:=Tryz.sizeOf9
 v9:=Tryz.zeroValue9
 t22:=Tryz.underlying235
 a22:=Tryz.isAgg235
 z22:=Tryz.sizeOf235
 v22:=Tryz.zeroValue235
 t25:=Tryz.underlying239
 a25:=Tryz.isAgg239
 z25:=Tryz.sizeOf239
 v25:=Tryz.zeroValue239
 t39:=Tryz.underlying173
 a39:=Tryz.isAgg173
 z39:=Tryz.sizeOf173
 v39:=Tryz.zeroValue173
 t45:=Tryz.underlying298
 a45:=Tryz.isAgg298
 z45:=Tryz.sizeOf298
 v45:=Tryz.zeroValue298
 t46:=Tryz.underlying299
 a46:=Tryz.isAgg299
 z46:=Tryz.sizeOf299
 v46:=Tryz.zeroValue299
 t50:=Tryz.underlying189
 a50:=Tryz.isAgg189
 z50:=Tryz.sizeOf189
 v50:=Tryz.zeroValue189
 t53:=Tryz.underlying245
 a53:=Tryz.isAgg245
 z53:=Tryz.sizeOf245
 v53:=Tryz.zeroValue245
 t55:=Tryz.underlying248
 a55:=Tryz.isAgg248
 z55:=Tryz.sizeOf248
 v55:=Tryz.zeroValue248
 t66:=Tryz.underlying308
 a66:=Tryz.isAgg308
 z66:=Tryz.sizeOf308
 v66:=Tryz.zeroValue308
 t70:=Tryz.underlying312
 a70:=Tryz.isAgg312
 z70:=Tryz.sizeOf312
 v70:=Tryz.zeroValue312
 t76:=Tryz.underlying314
 a76:=Tryz.isAgg314
 z76:=Tryz.sizeOf314
 v76:=Tryz.zeroValue314
 t77:=Tryz.underlying209
 a77:=Tryz.isAgg209
 z77:=Tryz.sizeOf209
 v77:=Tryz.zeroValue209
open Go.Shelf Go.RowKit Go.Sort in
set_option maxHeartbeats 1000000 in
def ako(x y:SF)(W:World):Calls Tryz.prog 198 #[eU (uJ x).toArray,eU (uJ y).toArray] W λe j=>e=.returned (dC ef (RW x y))/\∃q m,j=Sort.grow (W.drewN q) m:=by
 show Calls Tryz.prog 198 #[eU #[dC ef (x.1.1:Int),dd x.2.1,dC ef x.2.2],eU #[dC ef (y.1.1:Int),dd y.2.1,dC ef y.2.2]] W _;have w:IntKind.i64.wrap ((x.1.1:Int)-(y.1.1:Int))=RW x y:=by
  have:=x.1.2;have:=y.1.2
  simp[A6,Bo,y6,RW];omega
 go_enter Tryz.func198,Tryz.ntmps198
 go_wp2
 go_ret
 exact⟨Q,0,_,by rw[alloc_eq_grow,alloc_eq_grow,grow_grow];rfl⟩
def aqq:Ha Tryz.prog (tB Tryz.prog) 1 (eZ (tB Tryz.prog) 1) FF:=
 VP alQ (adE aCE Q Tryz.isAgg237 Tryz.sizeOf237 (enters_of Tryz.func198 (by kernel_rfl) Q) ako ⟨Tryz.f197,Tryz.func197,by kernel_rfl,by kernel_rfl⟩)
end Go.Proofs.YtdhnndleffachaaGreatDoor
namespace Go.AI.Edge
variable{i u:Nat}{out:List (List Int)}{t x:Int}
def xX(out:List (List Int))(i:Nat)(t:Int):List (List Int):=out.set t.toNat (((out[t.toNat]?).getD [])++[(i:Int)])
def ky(out:List (List Int))(i:Nat)(a:List Int):List (List Int):=a.foldl (λo t=>xX o i t) out
def upto(n:Nat)(a:List (List Int)):Nat->List (List Int)
 |0=>an n []
 |k+1=>match a[k]? with
  |some j=>ky (upto n a k) k j
  |none=>upto n a k
def dm(a:List (List Int)):List (List Int):=upto (Y a) a (Y a)
def J5(out:List (List Int))(i:Nat)(t:Int):Y (xX out i t)=Y out:=by simp[xX]
def GJ(i:Nat):∀(a:List Int)(out:List (List Int)),Y (ky out i a)=Y out
 |[],_=>rfl
 |t::a,out=>by show(ky (xX out i t) i a).length=_;rw[GJ i a,J5]
def wM(n:Nat)(a:List (List Int)):∀k,Y (upto n a k)=n
 |0=>by simp[upto]
 |k+1=>by unfold upto;rcases a[k]? with _|j;exact wM n a k;exact(GJ k j _).trans (wM n a k)
def iV(a:List (List Int)):Y (dm a)=Y a:=wM _ _ _
def PE{a:List Int}{j:Nat}(h:a[j]?=Z t):ky out i (a.take (j+1))=xX (ky out i (a.take j)) i t:=by unfold ky;rw[mw,h,List.foldl_append];rfl
def agq(j:t.toNat<Y out):x∈((xX out i t)[u]?).getD []↔(x∈(out[u]?).getD []\/(u=t.toNat/\x=i)):=by unfold xX;rw[fq];by_cases e:t.toNat=u;subst e;rw[bH Q,bH j];simp;rw[bM e];constructor;exact fc;rintro(h|⟨h,_⟩);exact h;exact absurd h.symm e
def UJ{i:Nat}{u:Nat}{x:Int} :∀ {ts:List Int} {out:List (List Int)},(∀t∈ts,t.toNat<Y out)->(x∈((ky out i ts)[u]?).getD []↔(x∈(out[u]?).getD []\/(x=i/\∃t∈ts,u=t.toNat)))
 |[],out,_=>by simp[ky]
 |t::ts,out,h=>by show x∈((ky (xX out i t) i ts)[u]?).getD []↔_;rw[UJ (ts:=ts) (out:=xX out i t) (λu q=>by rw[J5];exact h u (vU _ q)),agq (h t (iz ..))];constructor;rintro((h|⟨h,k⟩)|⟨k,m,j,h⟩);exact fc h;exact ft ⟨k,t,iz ..,h⟩;exact ft ⟨k,m,vU _ j,h⟩;rintro(h|⟨k,m,j,h⟩);exact fc (fc h);rcases bd.1 j with e|j;exact fc (ft ⟨by rw[h,e],k⟩);exact ft ⟨k,m,j,h⟩
def LN{n:Nat}{r:List (List Int)}(h:∀m∈r,∀t∈m,t.toNat<n){u:Nat}{x:Int} :∀k,x∈((upto n r k)[u]?).getD []↔ ∃i:Nat,i<k/\x=i/\∃m,r[i]?=Z m/\∃t∈m,u=t.toNat
 |0=>by constructor;intro j;unfold upto at j;rw[TV] at j;split at j<;>simp at j;rintro⟨i,y,_⟩;omega
 |k+1=>by unfold upto;rcases w:r[k]? with _|m;dsimp only;rw[LN h k];constructor;rintro⟨i,y,r⟩;exact⟨i,J,r⟩;rintro⟨i,y,j,m,q,r⟩;by_cases e:i=k;subst e;rw[w] at q;cases q;exact⟨i,J,j,m,q,r⟩;dsimp only;rw[UJ (λt q=>by rw[wM];exact h m (cK w) t q),LN h k];constructor;rintro(⟨i,y,r⟩|⟨j,t,q,E⟩);exact⟨i,J,r⟩;exact⟨k,J,j,m,w,t,q,E⟩;rintro⟨i,y,j,D,A,r⟩;by_cases e:i=k;subst e;rw[w] at A;cases A;exact ft ⟨j,r⟩;exact fc ⟨i,J,j,D,A,r⟩
def HO{a:List (List Int)}(h:∀j∈a,∀t∈j,t.toNat<Y a) :x∈((dm a)[u]?).getD []↔ ∃i:Nat,x=i/\∃j,a[i]?=Z j/\∃t∈j,u=t.toNat:=by unfold dm;rw[LN h];constructor;rintro⟨i,_,r⟩;exact⟨i,r⟩;rintro⟨i,q,j,m,r⟩;exact⟨i,(cR.mp m).1,q,j,m,r⟩
def agn(out:List (List Int))(i:Nat)(t:Int)(u:Nat):Y (((xX out i t)[u]?).getD [])<=Y ((out[u]?).getD [])+1:=by unfold xX;rw[fq];by_cases e:t.toNat=u;subst e;rw[bH rfl];split;simp;simp;rw[bM e];omega
def Gm(i u:Nat):∀(a:List Int)(out:List (List Int)),Y (((ky out i a)[u]?).getD [])<=Y ((out[u]?).getD [])+Y a
 |[],out=>by simp[ky]
 |t::a,out=>by have b:=Gm i u a (xX out i t);have b:=agn out i t u;show(((ky (xX out i t) i a)[u]?).getD []).length<=_;simp only[kb];omega
def zc{n:Nat}{tos:List (List Int)}(h:∀j∈tos,Y j<=2)(u:Nat):∀k,Y (((upto n tos k)[u]?).getD [])<=2*k
 |0=>by unfold upto;rw[TV];split<;>simp
 |k+1=>by have q:=zc (n:=n) h u k;unfold upto;rcases m:tos[k]? with _|j;dsimp only;omega;dsimp only;have:=Gm k u j (upto n tos k);have:=h j (cK m);omega
def rowOf(a:List (List Int))(u:Nat):Nat->List Int
 |0=>[]
 |k+1=>rowOf a u k++an ((((a[k]?).getD []).map u1).count u) (k:Int)
def Ve(i u:Nat):∀(e:List Int)(out:List (List Int)),(∀t∈e,t.toNat<Y out)->((ky out i e)[u]?).getD []=((out[u]?).getD [])++an ((e.map u1).count u) (i:Int)
 |[],out,_=>by simp[ky]
 |t::e,out,h=>by
  show((ky (xX out i t) i e)[u]?).getD []=_;rw[Ve i u e (xX out i t) (λx m=>by rw[J5];exact h x (vU _ m))];have j:=h t (iz ..);have e:((xX out i t)[u]?).getD []=((out[u]?).getD [])++(if t.toNat=u then [(i:Int)] else []):=by unfold xX;rw[fq];by_cases e:t.toNat=u;subst e;rw[bH Q,bH j,bH rfl];rfl;rw[bM e,bM e,ye]
  rw[e,zZ,List.count_cons,KN];congr 1;by_cases e:t.toNat=u;rw[bH e];simp[e,p9];rw[bM e];simp[e]
def MS{a:List (List Int)}{n:Nat}(h:∀j∈a,∀t∈j,t.toNat<n)(u:Nat):∀k,((upto n a k)[u]?).getD []=rowOf a u k
 |0=>by unfold upto rowOf;rw[TV];split<;>rfl
 |k+1=>by unfold upto rowOf;rcases m:a[k]? with _|j;dsimp only;rw[MS h u k];simp;dsimp only;rw[Ve k u j _ (λt q=>by rw[wM];exact h j (cK m) t q),MS h u k];rfl
def aba{a:List (List Int)}(h:∀ts∈a,∀t∈ts,t.toNat<Y a){b:List Int}(j:(dm a)[u]?=Z b):b=rowOf a u (Y a):=by have:=MS h u (Y a);unfold dm at j;rw[j] at this;exact this
end Go.AI.Edge
namespace Go.Proofs.YtdhnndleffachaaGreatDoor
open Go.AI
variable{C b bytes c d f k l n n0 o s t:Nat}{F:Nat->Option cY}{QQ:bJ->Env->aB->Prop}{R:Env->aB->Prop}{e e':Env}{h X h2:aB}{names a xs:List ByteArray}{pq:List (List Int)}{i ro:Bool}{v:aa}{x:Int}{z:List aa}{α:Type}
def encI:ly Int:=⟨λx=>[dC ef x],1,λ_=>rfl,ai,λ_=>rfl⟩
@[simp] def aad:encI.sz=1:=rfl
@[simp] def arc(x:Int):encI.enc x=[dC ef x]:=rfl
def zW:ly SV:=⟨λw=>[w.v],1,λ_=>rfl,ai,λw=>rfl⟩
@[simp] def aiS:zW.sz=1:=rfl
@[simp] def ark(w:SV):zW.enc w=[w.v]:=rfl
def bx.Fj{E:ly α}{xs:List α}(a:bx E n0 h v xs):∃L:SV,v=L.v:=by rcases a with⟨_,rfl⟩|⟨b,s,rfl,_⟩;exact⟨⟨K,0,0⟩,Q⟩;exact⟨⟨Z ⟨b,0,K⟩,Y xs,Y xs⟩,Q⟩
structure jm{α:Type}(E:ly α)(n0:Nat)(h:aB)(d:Nat)(ws:List SV)(pq:List (List α)):Prop where
 ch:c_ h d (zW.flat ws)
 len:Y ws=Y pq
 acc:∀(i:Nat)(w:SV)(xs:List α),ws[i]?=Z w->pq[i]?=Z xs->bx E n0 h w.v xs
 dis:∀(i j:Nat)(wi wj:SV)(b:Nat),ws[i]?=Z wi->ws[j]?=Z wj->i≠j->bD wi.v b->¬bD wj.v b
 new:n0<=d
 vP:∀(i:Nat)(w:SV),ws[i]?=Z w->¬bD w.v d
def jm.grow{α:Type}{E:ly α}{n0:Nat}{S:Nat->Prop}{h j:aB}{d:Nat}{y:List SV}{pq:List (List α)}(w:jm E n0 h d y pq)(m:cy h)(g:az S h j)(q:∀b,n0<=b->¬S b):jm E n0 j d y pq:=by have⟨s,j⟩:=w.ch;refine⟨⟨s,g.get m j (q _ w.new)⟩,w.len,λi A xs X h2=>?_,w.dis,w.new,w.vP⟩;have a:=w.acc i A xs X h2;exact a.grow m g (λb j=>q b (a.of j))
def jm.cr{E:ly α}{h a:aB}{j:List SV}{pq:List (List α)}(w:jm E n0 h d j pq)(m:cy h)(g:az aV h a):jm E n0 a d j pq:=w.grow m g aj
def ahz(j:List SV)(i:Nat)(x:SV)(h:i<Y j):bg (zW.flat j) i [x.v]=zW.flat (j.set i x):=by have:=zW.tz j i x h;simpa using this
def tR{j:List SV}(q:h.tr.get d=Z (.ch (zW.flat j) ro o s)){x:SV}(m:j[k]?=Z x):cC h d k 1=Z [x.v]:=by have w:=(cR.mp m).1;rw[fm q (by rw[zW.eN];show k+1<=Y j*1;omega)];have:=zW.rm j k 0 1 x m ai;simp only[Jk] at this;rw[show k=k*zW.sz from(og k).symm,this];rfl
def jm.set{α:Type}{E:ly α}{n0:Nat}{h h2:aB}(O:cy h){d:Nat}{A:List SV}{pq:List (List α)}(w:jm E n0 h d A pq){i:Nat}{I W:SV}{xs q:List α}(c:A[i]?=Z I)(g:pq[i]?=Z xs)(g:az (bD I.v) h h2)(a:bx E n0 h2 W.v q)(N:∀b,bD W.v b->h.ax<=b):∃s,h2.tr.get d=Z (.ch (zW.flat A) b9 0 s)/\jm E n0 (put h2 d i (zW.flat A) [W.v] 0) d (A.set i W) (pq.set i q):=by
 have⟨s,q⟩:=w.ch;have E:=(O.bU q).lt;have G:=(cR.mp c).1;have M:=g.get O q (w.vP i I c);refine⟨s,M,?_⟩;have E:az (· =d) h2 (put h2 d i (zW.flat A) [W.v] 0):=aX g.ok M;refine⟨⟨h2.clock,by rw[bc,ahz A i W G]⟩,by simp[w.len],λj y l X m=>?_,λj k W f b X m H D U=>?_,w.new,λj y X=>?_⟩
 rw[fq] at X m;by_cases e:i=j;subst e;rw[bH Q,bH G] at X;rw[bH Q,bH (by rw[<-w.len];exact G)] at m;cases X;cases m;exact a.grow g.ok E (λb q e=>aw (N b q));rw[bM e] at X m;have o:=w.acc j y l X m;exact(o.grow O g (λb q M=>w.dis i j I y b c X e M q)).grow g.ok E (λb q I=>w.vP j y X (I▸q))
 .rw[fq] at X m;have E:∀(k:Nat)(y:SV),A[k]?=Z y->∀b,bD y.v b->b<h.ax:=by
   intro k y A b q;have g:=(cR.mp A).1;obtain⟨M,n,M,e⟩:=q;rcases w.acc k y _ A (iK (by rw[<-w.len];exact g)) with⟨_,I⟩|⟨b',s',I,iA,_⟩
   rw[I] at e;cases e;rw[I] at e;cases e;exact O.wf _ _ iA
  by_cases e:i=j;subst e;rw[bH Q,bH G] at X;rw[bM H] at m;cases X;have O:=N b D;have O:=E k f m b U;omega
  .rw[bM e] at X;by_cases e':i=k;subst e';rw[bH Q,bH G] at m;cases m;have:=N b U;have:=E j W X b D;omega
   rw[bM e'] at m;exact w.dis j k W f b X m H D U
 .rw[fq] at X;by_cases e:i=j;subst e;rw[bH Q,bH G] at X;cases X;exactλq=>aw (N d q)
  rw[bM e] at X;exact w.vP j y X
def fI{E:ly α}(D:cy h){v w:aa}{xs:List α}{y:α}(A:Y z=E.sz)(a:bx E n0 h v xs)(p:bj E h w [y])(d:Y xs<1000000)(g:bytes<=1000)(H:n0<=h.ax):∃j m,gi h z bytes b9 v w=Z (j,m)/\bx E n0 m j (xs++[y])/\az (bD v) h m/\∀b,bD j b->b=h.ax:=by
 unfold gi;rw[CJ A p];dsimp only;have T:roomy (Y xs+1)=cd:=by simp[roomy];omega
 have U:roomy ((Y xs+1)*bytes)=cd:=by have:(Y xs+1)*bytes<=1000000*1000:=wm J g;simp[roomy];omega
 have G:=E.pos;have W:E.sz≠0:=J
 rcases a with⟨rfl,rfl⟩|⟨b,s,rfl,M,l,q⟩
 .have I:roomy bytes=cd:=by simp[roomy];omega
  refine⟨c6 (Z ⟨h.ax,0,K⟩) 1 1,aM h (E.flat [y]) E.sz,?_,ft ⟨h.ax,0,Q,ag,ag,H⟩,(aZ D _ _).cr,?_⟩;have N:roomy 1=cd:=Q;simp[dz,A,G,I,N];rintro b⟨i,n,q,e⟩;cases e;rfl
 .refine⟨c6 (Z ⟨h.ax,0,K⟩) (Y xs+1) (Y xs+1),aM {h with tr:=h.tr.del b} (E.flat xs++E.flat [y]) E.sz,?_,ft ⟨h.ax,0,ag,?_,ag,H⟩,?_,?_⟩
  .have p:¬(Y xs)+1<=Y xs:=J
   have O:(E.flat xs).take (Y xs*E.sz)=E.flat xs:=nz ag;simp[dz,A,G,T,U,M,p,O,W]
  have:=bY {h with tr:=h.tr.del b} (E.flat xs++E.flat [y]) E.sz;rw[ly.dX];exact this;refine((kT D b).cX ?_).trans (aZ (kT D b).ok _ _).cr;rintro x _ rfl;exact⟨_,_,_,Q⟩;rintro V⟨i,n,q,e⟩;cases e;rfl
def aH(l:List Nat)(e e':Env):Prop:=∀t,t∉l->bX e' t=bX e t
def aH.refl(l:List Nat)(e:Env):aH l e e:=λ_ _=>rfl
def aH.set{l:List Nat}{e e':Env}{k:Nat}{v:aa}(a:aH l e e')(m:k∈l:=by decide):aH l e (Tr.set e' k v):=λt j=>by rw[Env.bS,bM (by rintro rfl;exact j m)];exact a t j
def au {p:Prop} (h:p:=by (repeat (refine aH.set ?_));assumption):p:=h
def aH.at{l:List Nat}{t:Nat}(a:aH l e e')(f:bX e t=v)(j:t∉l:=by decide):bX e' t=v:=(a t j).trans f
def aH.trans{l:List Nat}{e q j:Env}(a:aH l e q)(b:aH l q j):aH l e j:=λt m=>(b t m).trans (a t m)
def df{d:Option Nat}{l:List cn}{o:Option (aa×aB)}(j:o=Z (v,h))(H:bm F l (gG e d v) h R):ZR F d l e R o:=by rw[j];exact H
def kW{j:List Nat}{d:Option Nat}{m:List (cn×List Nat)}{o:Option (aa×aB)}(q:o=Z (v,h))(H:still (gG e d v) h k j=cd/\ck F k m (gG e d v) h R):ZQ F k j d m e R o:=by rw[q];exact H
def aC(a:ByteArray)(params c:Int)(b:SV):List aa:=[eT a,dC ef params,dC ef c,b.v]
def ZY{j:List SV}(w:jm encI n0 h d j pq):ae (RV h) 1 h (SV.v ⟨Z ⟨d,0,K⟩,Y pq,c⟩) pq:=by
 have⟨s,G⟩:=w.ch;refine⟨_,c,Q,ft ⟨d,0,_,_,_,_,Q,G,λi xs y=>?_⟩⟩;have E:=(cR.mp y).1;have⟨m,q⟩:=aR j i (show i<Y j by rw[w.len];exact E);have:=zW.Cq j i m q;simp only[aiS,og] at this;rw[Je,og,this];refine⟨Q,m,Q,?_⟩;have a:=w.acc i m xs q y;rcases a with⟨rfl,e⟩|⟨b,H,e,D,I,_⟩
 rw[e];exact⟨K,0,Q,fc ⟨Q,fc Q⟩⟩;rw[e];refine⟨_,_,Q,ft ⟨b,0,_,_,_,_,Q,D,λk x A=>?_⟩⟩;have:=encI.Cq xs k x A;simp only[aad,og] at this;rw[Je,og,this];exact⟨Q,Q⟩
def SP(h:aB)(H:cy h)(E:ly α)(n n0:Nat)(D:n0<=h.ax):jm E n0 (aM h (jG [c6 K 0 0] n) 0) h.ax (an n cU) (an n []):=by
 have y:jG [bo K 0 0] n=zW.flat (an n cU):=by
  have:∀n,jG [bo K 0 0] n=zW.flat (an n cU):=by
   intro n;induction n with
   |zero=>rfl
   |succ n q=>rw[p9,ly.iJ,<-q];rfl
  exact this n
 refine⟨⟨0,by rw[<-y];exact bY _ _ _⟩,ag,λi w xs X h2=>?_,λi j G I b X _ _ m=>?_,D,λi w X m=>?_⟩;rw[TV] at X h2;split at X;rename_i A;rw[bH A] at h2;cases X;cases h2;exact fc ⟨Q,Q⟩;cases X;rw[TV] at X;split at X<;>cases X;have⟨_,_,_,e⟩:=m;cases e;rw[TV] at X;split at X<;>cases X;have⟨_,_,_,e⟩:=m;cases e
def aqb(h h2:aB)(b:GB)(pq:List (List Int))(n0 d k:Nat)(e:Env)(m:Nat)(e':Env)(q:aB):Prop:=
 ∃(j:Nat) (w:List SV),m=Y b.to-j/\j<=Y b.to/\bz e' 24 j/\aH [25,26,27,7,28,29,30,31,32,33,34,35,36,37,38,24] e e'/\az aV h q/\h2.ax<=q.ax/\jm encI n0 q d w (Edge.ky pq k (b.to.take j))
def Xq(A:cy h){b:GB}{T:SV}(z:ae nR 1 h T.v b.to)(U:Y b.to<=2)(j:n<=1000)(s:∀t∈b.to,0<=t/\t<n){w:List SV}(L:jm encI n0 h2 d w pq)(v:Y pq=n)(f:∀u:Nat,Y ((pq[u]?).getD [])<=2*k)(U:k<=1000)(U:az aV h h2)(S:n0<=h2.ax)(l:h.ax<=n0)(S:bX e 3=c6 (Z ⟨d,0,K⟩) n n)(F:bz e 4 k)(p:bX e 22=T.v)(P:bz e 23 (Y b.to))(j:bz e 24 0)(C:∀e' O q,az aV h O->h2.ax<=O.ax->aH [25,26,27,7,28,29,30,31,32,33,34,35,36,37,38,24] e e'->jm encI n0 O d q (Edge.ky pq k b.to)->QQ (.exit 2) e' O):aN FF (.loop tO) e h2 QQ:=by
 have i:=ae.len z;refine aN.loop (aqb h h2 b pq n0 d k e) ?_ (n:=Y b.to)
  ⟨0,w,Q,J,j,aH.refl _ _,U,fE _,by simpa [Edge.ky] using L⟩
 rintro m e' I⟨j,q,rfl,g,g,G,D,w,y⟩;unfold tO;have a:=G.at S;have r:=G.at F;have m:=G.at p;have T:=G.at P;by_cases x:j<Y b.to
 .have l:b.to[j]?=Z b.to[j]:=iK x;have E:=IB x;generalize b.to[j]=t at l E;have⟨W,N⟩:=s t E;obtain⟨u,rfl⟩:∃u:Nat,t=u:=⟨t.toNat,J⟩;have E:u<n:=J
  obtain⟨P,s,c,M,_,_,rfl,_,F⟩:=ae.later A z l;have o:=F I D 0 1 ai;simp[-ay] at o;have S:=bZ (j+1) J J;have⟨L,B⟩:=y.ch;have U:Y (Edge.ky pq k (b.to.take j))=n:=by rw[Edge.GJ,v]
  have V:Y q=n:=by rw[y.len,U]
  have H:q[u]?=Z q[u]:=iK J;have A:(Edge.ky pq k (b.to.take j))[u]?=Z (Edge.ky pq k (b.to.take j))[u]:=iK J;generalize q[u]=wu at H;generalize L:(Edge.ky pq k (b.to.take j))[u]=xs at A;have F:=tR B H;have p:Y xs<1000000:=by
   have X:=Edge.Gm k u (b.to.take j) pq;rw[A] at X;have O:=f u;simp at X;have:Y (b.to.take j)<=2:=by simp;omega
   simp at this;omega
  simp at m;simp[-ay] at F;have V:=D.ok.bU B;simp[a,r,m,T,g,M,i,x,o,E,F,-ay,V];have a:=aZ D.ok (encI.enc (k:Int)) 0;have r:=y.cr D.ok a;have U:bj encI (aM I (encI.enc (k:Int)) 0) (c6 (Z ⟨I.ax,0,K⟩) 1 1) [(k:Int)]:=⟨_,_,Q,ft ⟨I.ax,0,_,_,_,_,Q,bY _ _ _,ag,ag⟩⟩;have⟨z,s,W,O,L,v⟩:=fI (bytes:=8) a.ok (z:=[dC ef 0]) rfl (r.acc u wu xs H A) U p ai (by show n0<=I.ax+1;omega);refine df W ?_;obtain⟨V,rfl⟩:=bx.Fj O;have⟨m,M,B⟩:=r.set a.ok H A L O (λb N=>by rw[v b N];exact fE _);have W:∀b,bD wu.v b->n0<=b:=λb N=>(y.acc u wu xs H A).of N;have P:u<=Y (zW.flat q)-1:=by simp;omega
  have v:u+1<=Y q:=J
  simp[E,M,v,S,g];refine⟨Y b.to-(j+1),J,j+1,q.set u V,Q,J,ag,?_,?_,?_,?_⟩
  .exact au
  have z:az aV h s:=(D.trans a).trans' L aj (λb N h=>aw (W b h));exact z.put ⟨m,M⟩ (fc (aw y.new));have:=L.ax;simp at this⊢;omega
  .rw[Edge.PE l];have:(Edge.xX (Edge.ky pq k (b.to.take j)) k (u:Int))=(Edge.ky pq k (b.to.take j)).set u (xs++[(k:Int)]):=by unfold Edge.xX;rw[Xn,A];rfl
   rw[this];simpa using B
 .have:j=Y b.to:=J
  subst this;rw[mI] at y;simp[T,g];exact C _ _ q D w (G.set) y
def cx(a:List GB):List (List Int):=a.map (·.to)
structure kg(bs:List GB):Prop where
 len:Y bs<=1000
 two:∀b∈bs,Y b.to<=2
 to:∀b∈bs,∀t∈b.to,0<=t/\t<Y bs
def AhI(h:aB)(B:SV)(a:List GB)(d:Nat)(n0:Nat)(m:Nat)(e:Env)(h2:aB):Prop:=
 ∃(j:Nat) (q:List SV),m=Y a-j/\j<=Y a/\bX e 3=c6 (Z ⟨d,0,K⟩) (Y a) (Y a)/\bX e 13=B.v/\bz e 14 (Y a)/\bz e 15 j/\az aV h h2/\n0<=h2.ax/\jm encI n0 h2 d q (Edge.upto (Y a) (cx a) j)
def kS(U:cy h){name:ByteArray}{p r:Int}{B:SV}{a:List GB}(m:mm h B a)(E:kg a):aY FF 101 [eU ⟨aC name p r B⟩] h (λv N=>az aV h N/\∃d b,v=c6 (Z ⟨d,0,K⟩) (Y a) (Y a)/\jm encI h.ax N d b (Edge.dm (cx a))):=by
 have G:=ae.len m;have z:=E.len;have S:roomy (Y a)=cd:=by simp[roomy];omega
 have O:roomy (Y a*24)=cd:=by simp[roomy];omega
 refine aY.of Nz ?_;unfold DD;simp[aC,G,S,O];refine aN.cut (λX=>az aV h X/\jm encI h.ax X (h.ax+1) (an (Y a) cU) (an (Y a) [])) ?_ ?_;have I:=aZ U (aC name p r B) 0;have:=SP (aM h (aC name p r B) 0) I.ok encI (Y a) h.ax (hQ _);refine⟨?_,by simpa [aC,G] using this⟩;have q:=I.new (jG [c6 K 0 0] (Y a)) 0;simpa [aC,G] using q
 rintro X⟨I,H⟩;have l:h.ax+1<X.ax:=by have⟨s,F⟩:=H.ch;exact I.ok.bU F
 refine aN.loop (AhI h B a (h.ax+1) h.ax) ?_ (n:=Y a) ⟨0,_,Q,J,ag,av G,av G,ag,I,J,by simpa [Edge.upto] using H⟩;rintro H e h2⟨j,b,rfl,g,z,D,w,A,q,B,t⟩;unfold AE;by_cases O:j<Y a
 .have W:a[j]?=Z a[j]:=iK O;have F:=IB O;generalize a[j]=x at W F;obtain⟨C,i,c,C,_,_,⟨P,L,T,rfl,l,u,H⟩,_,l⟩:=ae.later U m W;have o:=l h2 q 0 6 ai;simp[-ay] at o;have S:=bZ (j+1) J J;have l:=ae.len H;simp at D;have P:=D;rw[C,G] at P;simp[z,P,w,A,O,o,-ay,aJ];refine aN.cut (λi=>az aV h2 i) ?_ ?_
  exact(az.refl q.ok).var _ _;rintro i M;have u:=q.trans M;refine Xq U H (E.two x F) E.len (E.to x F) (k:=j) (t.cr q.ok M) (Edge.wM _ _ _) (λi=>Edge.zc (λF m=>?_) i j) J u (wV B M.ax) (fE _) (av z) ag ag (av l) ag ?_
  unfold cx at m;obtain⟨y,V,rfl⟩:=iT.1 m;exact E.two y V
  .intro e' N u k E G U;have T:=G.at (t:=15) (aq A);have m:=G.at (t:=3) (aq z);have g:=G.at (t:=13) (aq D);have N:=G.at (t:=14) (aq w);simp[T,S];refine⟨Y a-(j+1),J,j+1,u,Q,J,av m,av g,av N,ag,k,wV B (wV M.ax E),?_⟩;have M:(cx a)[j]?=Z x.to:=by simp[cx,W]
   have:Edge.upto (Y a) (cx a) (j+1)=Edge.ky (Edge.upto (Y a) (cx a) j) j x.to:=by show(match(cx a)[j]? with|some F=>Edge.ky (Edge.upto (Y a) (cx a) j) j F|none=>Edge.upto (Y a) (cx a) j)=_;rw[M]
   rw[this];exact U
 .have:j=Y a:=J
  subst this;simp[z,w,A];refine⟨q,b,?_⟩;have:Edge.dm (cx a)=Edge.upto (Y a) (cx a) (Y a):=by simp[Edge.dm,cx]
  rw[this];exact t
def aqe(h h2:aB)(b:GB)(pq:List (List Int))(n0 d k:Nat)(e:Env)(m:Nat)(e':Env)(q:aB):Prop:=
 ∃(j:Nat) (w:List SV),m=Y b.to-j/\j<=Y b.to/\bz e' 24 j/\aH [25,26,27,7,28,29,30,31,32,33,34,35,36,37,38,24] e e'/\az aV h q/\h2.ax<=q.ax/\jm encI n0 q d w (Edge.ky pq k (b.to.take j))
def WN(A:cy h){b:GB}{T:SV}(z:ae nR 1 h T.v b.to)(U:Y b.to<=2)(j:n<=1000)(s:∀t∈b.to,0<=t/\t<n){w:List SV}(L:jm encI n0 h2 d w pq)(v:Y pq=n)(f:∀u:Nat,Y ((pq[u]?).getD [])<=2*k)(U:k<=1000)(U:az aV h h2)(S:n0<=h2.ax)(l:h.ax<=n0)(S:bX e 3=c6 (Z ⟨d,0,K⟩) n n)(F:bz e 4 k)(p:bX e 22=T.v)(P:bz e 23 (Y b.to))(j:bz e 24 0)(C:∀e' O q,az aV h O->h2.ax<=O.ax->aH [25,26,27,7,28,29,30,31,32,33,34,35,36,37,38,24] e e'->jm encI n0 O d q (Edge.ky pq k b.to)->QQ (.exit 2) e' O):aN FF (.loop wy) e h2 QQ:=by
 have i:=ae.len z;refine aN.loop (aqe h h2 b pq n0 d k e) ?_ (n:=Y b.to)
  ⟨0,w,Q,J,j,aH.refl _ _,U,fE _,by simpa [Edge.ky] using L⟩
 rintro m e' I⟨j,q,rfl,g,g,G,D,w,y⟩;unfold wy;have a:=G.at S;have r:=G.at F;have m:=G.at p;have T:=G.at P;by_cases x:j<Y b.to
 .have l:b.to[j]?=Z b.to[j]:=iK x;have E:=IB x;generalize b.to[j]=t at l E;have⟨W,N⟩:=s t E;obtain⟨u,rfl⟩:∃u:Nat,t=u:=⟨t.toNat,J⟩;have E:u<n:=J
  obtain⟨P,s,c,M,_,_,rfl,_,F⟩:=ae.later A z l;have o:=F I D 0 1 ai;simp[-ay] at o;have S:=bZ (j+1) J J;have⟨L,B⟩:=y.ch;have U:Y (Edge.ky pq k (b.to.take j))=n:=by rw[Edge.GJ,v]
  have V:Y q=n:=by rw[y.len,U]
  have H:q[u]?=Z q[u]:=iK J;have A:(Edge.ky pq k (b.to.take j))[u]?=Z (Edge.ky pq k (b.to.take j))[u]:=iK J;generalize q[u]=wu at H;generalize L:(Edge.ky pq k (b.to.take j))[u]=xs at A;have F:=tR B H;have p:Y xs<1000000:=by
   have X:=Edge.Gm k u (b.to.take j) pq;rw[A] at X;have O:=f u;simp at X;have:Y (b.to.take j)<=2:=by simp;omega
   simp at this;omega
  simp at m;simp[-ay] at F;have V:=D.ok.bU B;simp[a,r,m,T,g,M,i,x,o,E,F,-ay,V];have a:=aZ D.ok (encI.enc (k:Int)) 0;have r:=y.cr D.ok a;have U:bj encI (aM I (encI.enc (k:Int)) 0) (c6 (Z ⟨I.ax,0,K⟩) 1 1) [(k:Int)]:=⟨_,_,Q,ft ⟨I.ax,0,_,_,_,_,Q,bY _ _ _,ag,ag⟩⟩;have⟨z,s,W,O,L,v⟩:=fI (bytes:=8) a.ok (z:=[dC ef 0]) rfl (r.acc u wu xs H A) U p ai (by show n0<=I.ax+1;omega);refine df W ?_;obtain⟨V,rfl⟩:=bx.Fj O;have⟨m,M,B⟩:=r.set a.ok H A L O (λb N=>by rw[v b N];exact fE _);have W:∀b,bD wu.v b->n0<=b:=λb N=>(y.acc u wu xs H A).of N;have P:u<=Y (zW.flat q)-1:=by simp;omega
  have v:u+1<=Y q:=J
  simp[E,M,v,S,g];refine⟨Y b.to-(j+1),J,j+1,q.set u V,Q,J,ag,?_,?_,?_,?_⟩
  .exact au
  have z:az aV h s:=(D.trans a).trans' L aj (λb N h=>aw (W b h));exact z.put ⟨m,M⟩ (fc (aw y.new));have:=L.ax;simp at this⊢;omega
  .rw[Edge.PE l];have:(Edge.xX (Edge.ky pq k (b.to.take j)) k (u:Int))=(Edge.ky pq k (b.to.take j)).set u (xs++[(k:Int)]):=by unfold Edge.xX;rw[Xn,A];rfl
   rw[this];simpa using B
 .have:j=Y b.to:=J
  subst this;rw[mI] at y;simp[T,g];exact C _ _ q D w (G.set) y
def Tf(U:cy h){name:ByteArray}{p r:Int}{B:SV}{a:List GB}(m:mm h B a)(E:kg a):aY FF 141 [eU ⟨aC name p r B⟩] h (λv N=>az aV h N/\∃d b,v=c6 (Z ⟨d,0,K⟩) (Y a) (Y a)/\jm encI h.ax N d b (Edge.dm (cx a))):=by
 have G:=ae.len m;have z:=E.len;have S:roomy (Y a)=cd:=by simp[roomy];omega
 have O:roomy (Y a*24)=cd:=by simp[roomy];omega
 refine aY.of Qd ?_;unfold Fu;simp[aC,G,S,O];refine aN.cut (λX=>az aV h X/\jm encI h.ax X (h.ax+1) (an (Y a) cU) (an (Y a) [])) ?_ ?_;have I:=aZ U (aC name p r B) 0;have:=SP (aM h (aC name p r B) 0) I.ok encI (Y a) h.ax (hQ _);refine⟨?_,by simpa [aC,G] using this⟩;have q:=I.new (jG [c6 K 0 0] (Y a)) 0;simpa [aC,G] using q
 rintro X⟨I,H⟩;have l:h.ax+1<X.ax:=by have⟨s,F⟩:=H.ch;exact I.ok.bU F
 refine aN.loop (AhI h B a (h.ax+1) h.ax) ?_ (n:=Y a) ⟨0,_,Q,J,ag,av G,av G,ag,I,J,by simpa [Edge.upto] using H⟩;rintro H e h2⟨j,b,rfl,g,z,D,w,A,q,B,t⟩;unfold Cf;by_cases O:j<Y a
 .have W:a[j]?=Z a[j]:=iK O;have F:=IB O;generalize a[j]=x at W F;obtain⟨C,i,c,C,_,_,⟨P,L,T,rfl,l,u,H⟩,_,l⟩:=ae.later U m W;have o:=l h2 q 0 6 ai;simp[-ay] at o;have S:=bZ (j+1) J J;have l:=ae.len H;simp at D;have P:=D;rw[C,G] at P;simp[z,P,w,A,O,o,-ay,aJ];refine aN.cut (λi=>az aV h2 i) ?_ ?_
  exact(az.refl q.ok).var _ _;rintro i M;have u:=q.trans M;refine WN U H (E.two x F) E.len (E.to x F) (k:=j) (t.cr q.ok M) (Edge.wM _ _ _) (λi=>Edge.zc (λF m=>?_) i j) J u (wV B M.ax) (fE _) (av z) ag ag (av l) ag ?_
  unfold cx at m;obtain⟨y,V,rfl⟩:=iT.1 m;exact E.two y V
  .intro e' N u k E G U;have T:=G.at (t:=15) (aq A);have m:=G.at (t:=3) (aq z);have g:=G.at (t:=13) (aq D);have N:=G.at (t:=14) (aq w);simp[T,S];refine⟨Y a-(j+1),J,j+1,u,Q,J,av m,av g,av N,ag,k,wV B (wV M.ax E),?_⟩;have M:(cx a)[j]?=Z x.to:=by simp[cx,W]
   have:Edge.upto (Y a) (cx a) (j+1)=Edge.ky (Edge.upto (Y a) (cx a) j) j x.to:=by show(match(cx a)[j]? with|some F=>Edge.ky (Edge.upto (Y a) (cx a) j) j F|none=>Edge.upto (Y a) (cx a) j)=_;rw[M]
   rw[this];exact U
 .have:j=Y a:=J
  subst this;simp[z,w,A];refine⟨q,b,?_⟩;have:Edge.dm (cx a)=Edge.upto (Y a) (cx a) (Y a):=by simp[Edge.dm,cx]
  rw[this];exact t
structure zJ(b:GB):Prop where
 ph:Y b.aP<=140737488355328
 li:Y b.list<=140737488355328
 to:Y b.to<=140737488355328
 row:∀p∈b.aP,Y p.row<=140737488355328
 args:∀x∈b.list,Y x.args<=140737488355328
def Bl(n:Nat)(a:Int)(c:List GB):Prop:=∀b∈c,SH n a b
def Bl.take{n:Nat}{a:Int}{c:List GB}{j:Nat}{b:GB}(h:Bl n a (c.take j))(q:c[j]?=Z b)(w:SH n a b):Bl n a (c.take (j+1)):=by intro x m;rw[mw,q] at m;rcases jL.1 m with X|X;exact h x X;simp at X;rw[X];exact w
def Bl.ends{j:Int}{a:List GB}(h:Bl (Y a) j a)(m:Y a<=1000):kg a:=by refine⟨m,λb j=>?_,λb j t q=>?_⟩;rcases(h b j).kind with⟨_,e⟩|⟨_,t,e⟩|⟨_,t,u,e,_⟩<;>rw[e]<;>simp;have:=(h b j).to t q;unfold aks at this;omega
section
variable{gs fs j g:SV}{name:ByteArray}{params aF:Int}
def awQ(h:aB)(gs fs B g:SV)(name:ByteArray)(params aF:Int)(a:List GB)(m:Nat)(e:Env)(h2:aB):Prop:=
 ∃j:Nat,m=Y a-j/\j<=Y a/\cg e 1 h.ax/\bX e 16=B.v/\bz e 17 (Y a)/\bz e 18 j/\az aV h h2/\h2.tr.get h.ax=Z (.ch (bN gs fs name params aF B g) b9 0 0)/\Bl (Y a) aF (a.take j)
def abf(U:cy h)(k:Hh h)(L:0<=aF/\aF<1000000){B:SV}{a:List GB}(A:mm h B a)(z:Y a<=1000)(v:∀b∈a,zJ b)(t:az aV h X)(u:dR X h.ax (bN gs fs name params aF B g) 0)(H:cg e 1 h.ax)(y:bX e 16=B.v)(q:bz e 17 (Y a))(w:bz e 18 0)(N:∀c e' G,c≠0->bz e' 2 c->az aV h G->QQ .ret e' G)(P:∀e' G,cg e' 1 h.ax->az aV h G->G.tr.get h.ax=Z (.ch (bN gs fs name params aF B g) b9 0 0)->Bl (Y a) aF a->QQ (.exit 0) e' G):aN FF (.loop kr) e X QQ:=by
 have r:=ae.len A;refine aN.loop (awQ h gs fs B g name params aF a) ?_ (n:=Y a) ⟨0,Q,J,H,y,q,w,t,u,λb s=>by simp at s⟩;rintro m e h2⟨j,rfl,d,H,y,q,w,D,z,f⟩;unfold kr;by_cases O:j<Y a
 .have W:a[j]?=Z a[j]:=iK O;have E:=IB O;generalize a[j]=x at W E;obtain⟨t,i,c,n,_,_,⟨u,p,T,rfl,l,u,s⟩,_,l⟩:=ae.later U A W;have o:=l h2 D 0 6 ai;simp[-ay] at o;have S:=bZ (j+1) J J;have C:=D.ok.bU z;have I:=z;simp only[bN] at I;have A:=y;simp at A;rw[n,r] at A;simp[H,A,q,w,O,o,-ay,aJ,cw,bh,C,aD I];refine bm.cut (λI=>az aV h2 I) ?_ ?_
  exact(az.refl D.ok).var _ _;rintro I o;have M:=D.trans o;refine bm.call (V:=yF (λc=>c=0->SH (Y a) aF x) I) ?_ ?_
  .have u:aY FF 140 [eU ⟨bN gs fs name params aF B g⟩,eU ⟨[dC ef x.kind,dd x.on.1,dC ef x.on.2,T.v]⟩] I (yF (λc=>c=0->SH (Y a) aF x) I):=by rw[<-r];exact ae5 M.ok (k.grow U M) L J (b:=x) (aw ((v x E).to)) (s.mono U M λ_ _ h=>h)
   simpa [bN,r] using u
  rintro _ u⟨O,c,rfl,A⟩;have U:=M.trans O;by_cases p:c=0
  subst p;simp[w,S];refine⟨Y a-(j+1),J,j+1,Q,J,av H,by simp[y],by simp[q],ag,U,(o.trans O).get D.ok z,f.take W (A Q)⟩;have:=v8 p;simp[this];exact N c _ _ p ag U
 .have:j=Y a:=J
  subst this;rw[mI] at f;simp[q,w];exact P _ _ (av H) D z f
structure SE(aF:Int)(xP:List (List Int))(i:Nat)(b:GB):Prop where
 aP:∀p∈b.aP,i≠0/\∃l,xP[i]?=Z l/\Ol aF (Y l) p
 list:∀x∈b.list,yG aF x
def Wv(aF:Int)(j:List (List Int))(a:List GB):Prop:=∀(i:Nat) b,a[i]?=Z b->SE aF j i b
def axk(h X:aB)(q:Env)(P:SV)(aF:Int)(n:Nat)(i:Nat)(a:List GP)(C:Nat)(w:List aa)(t:Nat)(m:Nat)(e:Env)(h2:aB):Prop:=
 ∃j:Nat,m=Y a-j/\j<=Y a/\aH [47,48,49,9,50,51,52,53,10,54,55,56,57,46,2] q e/\bz e 46 j/\az aV X h2/\∀p∈a.take j,i≠0/\Ol aF n p
def abh(S:cy h)(m:0<=aF/\aF<1000000){B O:SV}{i:Nat}{l:List Int}(hi:pq[i]?=Z l)(L:ae (RV X) 1 X O.v pq){P:SV}{a:List GP}(z:ae (pR h) 2 h P.v a)(u:Y a<=140737488355328)(s:∀p∈a,Y p.row<=140737488355328)(D:az aV h X)(u:dR X C (bN gs fs name params aF B O) t)(T:cg e 1 C)(o:bz e 6 i)(U:bX e 44=P.v)(G:bz e 45 (Y a))(H:bz e 46 0)(f:∀c e' A,c≠0->bz e' 2 c->az aV X A->QQ .ret e' A)(n:∀e' A,aH [47,48,49,9,50,51,52,53,10,54,55,56,57,46,2] e e'->az aV X A->(∀p∈a,i≠0/\Ol aF (Y l) p)->QQ (.exit 4) e' A):aN FF (.loop ko) e X QQ:=by
 have d:=ae.len z;refine aN.loop (axk h X e P aF (Y l) i a C (bN gs fs name params aF B O) t) ?_ (n:=Y a) ⟨0,Q,J,aH.refl _ _,H,.refl D.ok,λp I=>by simp at I⟩;rintro H e' h2⟨j,rfl,g,M,q,y,b⟩;have k:=D.trans y;unfold ko;have r:=M.at T;have T:=M.at o;have H:=M.at U;have V:=M.at G;by_cases N:j<Y a
 .have F:a[j]?=Z a[j]:=iK N;have E:=IB N;generalize a[j]=x at F E;obtain⟨G,g,c,v,_,_,⟨g,rfl,P⟩,_,A⟩:=ae.later S z F;have o:=A h2 k 0 2 ai;simp[-ay] at o;have U:=bZ (j+1) J J;have w:=y.get D.ok u;have z:=y.ok.bU w;simp only[bN] at w;simp at H;rw[v,d] at H;simp[r,T,H,V,q,N,o,-ay,aJ,cw,bh,z,aD w];refine bm.cut (λG=>az aV h2 G) ?_ ?_
  exact(az.refl y.ok).var _ _;rintro G W;have u:=k.trans W;have w:=y.trans W;refine bm.call (V:=yF (λc=>c=0->i≠0/\Ol aF (Y l) x) G) ?_ ?_
  .have H:aY FF 142 [eU ⟨bN gs fs name params aF B O⟩,dC ef i,eU ⟨[dC ef x.dst,g.v]⟩] G (yF (λc=>c=0->i≠0/\Ol aF (Y l) x) G):=
    ag0 u.ok m (L.mono D.ok w λ_ _ r=>r.mono D.ok w) hi (aw (s x E)) (P.mono S u λ_ _ h=>h)
   simpa [bN] using H
  rintro _ u⟨O,c,rfl,A⟩;have H:=w.trans O;by_cases d:c=0
  .subst d;simp[q,U];refine⟨Y a-(j+1),J,j+1,Q,J,?_,ag,H,?_⟩
   .exact au
   intro p I;rw[mw,F] at I;rcases jL.1 I with h|h;exact b p h;simp at h;rw[h];exact A rfl
  have:=v8 d;simp[this];exact f c _ _ d ag H
 .have:j=Y a:=J
  subst this;rw[mI] at b;simp[V,q];exact n _ _ (M.set) y b
def awY(h X:aB)(q:Env)(aF:Int)(xs:List GI)(m:Nat)(e:Env)(h2:aB):Prop:=
 ∃j:Nat,m=Y xs-j/\j<=Y xs/\aH [62,63,64,12,65,66,67,13,68,69,70,71,61,2] q e/\bz e 61 j/\az aV X h2/\∀x∈xs.take j,yG aF x
def abg(M:cy h)(n:0<=aF/\aF<1000000){B p:SV}{q:List GF}(r:ae (fR h) 4 h fs.v q)(m:Y q<1000000/\∀f∈q,f.params<=6){L:SV}{xs:List GI}(i:ae (iR h) 8 h L.v xs)(b:Y xs<=140737488355328)(v:∀x∈xs,Y x.args<=140737488355328)(H:az aV h X)(u:dR X C (bN gs fs name params aF B p) t)(T:cg e 1 C)(S:bX e 59=L.v)(W:bz e 60 (Y xs))(F:bz e 61 0)(N:∀c e' G,c≠0->bz e' 2 c->az aV X G->QQ .ret e' G)(P:∀e' G,aH [62,63,64,12,65,66,67,13,68,69,70,71,61,2] e e'->az aV X G->(∀x∈xs,yG aF x)->QQ (.exit 6) e' G):aN FF (.loop km) e X QQ:=by
 have s:=ae.len i;refine aN.loop (awY h X e aF xs) ?_ (n:=Y xs) ⟨0,Q,J,aH.refl _ _,F,.refl H.ok,λa z=>by simp at z⟩;rintro d e' h2⟨j,rfl,g,G,y,A,E⟩;have V:=H.trans A;unfold km;have q:=G.at T;have w:=G.at S;have D:=G.at W;by_cases U:j<Y xs
 .have l:xs[j]?=Z xs[j]:=iK U;have d:=IB U;generalize xs[j]=x at l d;obtain⟨O,g,c,g,_,_,⟨W,rfl,k⟩,_,b⟩:=ae.later M i l;have o:=b h2 V 0 8 ai;simp[aQ,-ay] at o;have S:=bZ (j+1) J J;have b:=A.get H.ok u;have O:=A.ok.bU b;simp only[bN] at b;simp at w;rw[g,s] at w;simp[q,w,D,y,U,o,-ay,aJ,cw,bh,O,aD b];refine bm.cut (λs=>az aV h2 s) ?_ ?_
  exact(az.refl A.ok).var _ _;rintro s W;have I:=V.trans W;have L:=A.trans W;refine bm.call (V:=yF (λc=>c=0->yG aF x) s) ?_ ?_
  have H:=af9 (gs:=gs) (fs:=fs) (name:=name) (params:=params) (aF:=aF) (blocks:=B) (ah:=p) I.ok n (r.mono M I λ_ _ r=>r.mono M I) m (x:=x) (k.mono M I λ_ _ h=>h) (aw (v x d));simpa [bN,aQ] using H;rintro _ u⟨O,c,rfl,M⟩;have H:=L.trans O;by_cases d:c=0
  .subst d;simp[y,S];refine⟨Y xs-(j+1),J,j+1,Q,J,?_,ag,H,?_⟩
   .exact au
   intro a z;rw[mw,l] at z;rcases jL.1 z with h|h;exact E a h;simp at h;rw[h];exact M rfl
  have:=v8 d;simp[this];exact N c _ _ d ag H
 .have:j=Y xs:=J
  subst this;rw[mI] at E;simp[D,y];exact P _ _ (G.set) A E
end
section
variable{gs fs g ah:SV}{name:ByteArray}{params aF:Int}
def BlI(h X:aB)(C:Nat)(B:SV)(aF:Int)(a:List GB)(pq:List (List Int))(m:Nat)(e:Env)(h2:aB):Prop:=
 ∃j:Nat,m=Y a-j/\j<=Y a/\cg e 1 C/\bX e 36=B.v/\bz e 37 (Y a)/\bz e 38 j/\az aV X h2/\Wv aF pq (a.take j)
def SY(N:cy h)(hr:0<=aF/\aF<1000000){B AH:SV}{a:List GB}(E:Y pq=Y a)(q:ae (RV X) 1 X AH.v pq){w:List GF}(hF:ae (fR h) 4 h fs.v w)(np:Y w<1000000/\∀f∈w,f.params<=6)(m:mm h B a)(z:Y a<=1000)(H:∀b∈a,zJ b)(M:az aV h X)(V:dR X C (bN gs fs name params aF B AH) t)(u:cg e 1 C)(G:bX e 36=B.v)(D:bz e 37 (Y a))(A:bz e 38 0)(P:∀c e' I,c≠0->bz e' 2 c->az aV X I->QQ .ret e' I)(EH:∀e' I,az aV X I->Wv aF pq a->QQ (.exit 2) e' I):aN FF (.loop kq) e X QQ:=by
 have E:=ae.len m;refine aN.loop (BlI h X C B aF a pq) ?_ (n:=Y a) ⟨0,Q,J,u,G,D,A,.refl M.ok,λi b y=>by simp at y⟩;rintro d e h2⟨j,rfl,g,u,G,D,A,s,U⟩;have O:=M.trans s;unfold kq;by_cases g:j<Y a
 .have S:a[j]?=Z a[j]:=iK g;have p:=IB g;generalize a[j]=x at S p;obtain⟨r,n,c,n,_,_,⟨r,w,v,rfl,d,F,W⟩,_,k⟩:=ae.later N m S;have o:=k h2 O 0 6 ai;simp[-ay] at o;have wj:=bZ (j+1) J J;have T:=ae.len d;have kA:=ae.len F;have z:=G;simp at z;rw[n,E] at z;have⟨l,L⟩:=aR pq j;simp[z,D,A,g,o,-ay,aJ,cw,bh];refine aN.cut (λn=>az aV h2 n/\c_ n h2.ax [r.v,w.v,dC ef x.kind,dd x.on.1,dC ef x.on.2,v.v]) ?_ ?_
  exact⟨(az.refl s.ok).var _ _,h2.clock,ag⟩;rintro n⟨W,v,Wd⟩;have z:=O.trans W;have E:=s.trans W;refine abh (C:=C) z.ok hr L (q.mono M.ok E λ_ _ r=>r.mono M.ok E) (d.mono N z λ_ _ r=>r.mono N z) (H x p).ph (H x p).row (.refl z.ok) (E.get M.ok V) (av u) ag ag (av T) ag ?_ ?_
  intro c e' I m q k;simp[q];exact P c _ _ m q (E.trans k)
  .intro w n W T w;have v:=E.trans T;have O:=M.trans v;have d:=W.at (t:=7) (v:=dB (Z ⟨h2.ax,0,K⟩)) ag;have n:=W.at (t:=1) (v:=dB (Z ⟨C,0,K⟩)) (av u);have g:=W.at (t:=36) (v:=B.v) (aq G);have q37:=W.at (t:=37) (v:=dC ef a.length) (by simp[D]);have o:=W.at (t:=38) (v:=dC ef j) (by simp[A]);have E:=T.get z.ok Wd;simp at E;simp[d,E];refine abg (C:=C) O.ok hr (hF.mono N O λ_ _ r=>r.mono N O) np (F.mono N O λ_ _ r=>r.mono N O) (H x p).li (H x p).args (.refl O.ok) (v.get M.ok V) (av n) ag (av kA) ag ?_ ?_
   intro c e' I m q k;simp[q];exact P c _ _ m q (v.trans k)
   .intro F k I r V;have z:=I.at (t:=1) (v:=dB (Z ⟨C,0,K⟩)) (av n);have u:=I.at (t:=36) (v:=B.v) (by simp;simpa using g);have G:=I.at (t:=37) (v:=dC ef a.length) (av q37);have m:=I.at (t:=38) (v:=dC ef j) (av o);simp[m,wj];refine⟨Y a-(j+1),J,j+1,Q,J,av z,by simp;simpa using u,av G,ag,v.trans r,?_⟩;intro i b y;rw[mw,S] at y;by_cases B:i<j
    rw[Jf (by simp;omega)] at y;exact U i b y
    .rw[Hv (by simp;omega)] at y;have m:i=j:=by have:=(cR.mp y).1;simp at this;omega
     subst m;simp at y;have:i-min i (Y a)=0:=J
     rw[this] at y;simp at y;subst y;exact⟨λp r=>⟨(w p r).1,l,L,(w p r).2⟩,V⟩
 .have:j=Y a:=J
  subst this;rw[mI] at U;simp[D,A];exact EH _ _ s U
structure G9(aF:Int)(bs:List GB):Prop where
 ends:Bl (Y bs) aF bs
 Ke:Wv aF (Edge.dm (cx bs)) bs
def abe(G:cy h)(y:Hh h)(k:0<=aF/\aF<1000000){B:SV}{a:List GB}{j:List GF}(o:ae (fR h) 4 h fs.v j)(n:Y j<1000000/\∀f∈j,f.params<=6)(H:mm h B a)(U:Y a<=1000)(g:∀b∈a,zJ b):aY FF 82 [eU ⟨bN gs fs name params aF B ah⟩] h (yF (λc=>c=0->G9 aF a) h):=by
 have I:=ae.len H;refine aY.of CV ?_;unfold tV;simp[bN,I];refine aN.cut (λX=>az aV h X/\X.tr.get h.ax=Z (.ch (bN gs fs name params aF B ah) b9 0 0)) ?_ ?_;exact⟨(az.refl G).new _ _,by simp[bN,I]⟩;rintro X⟨q,j⟩;refine abf G y k H U g q j ag (av I) ag ag ?_ ?_;intro c e' y j q E;simp[q];exact⟨E,c,Q,λh=>absurd h j⟩
 .intro O h2 O w M i;have W:=M;simp[bN] at W;simp[O,W];have A:=Tf w.ok (name:=name) (p:=params) (r:=aF) (H.mono G w) (i.ends U);refine bm.call (V:=λv y=>az aV h2 y/\∃d N,v=c6 (Z ⟨d,0,K⟩) (Y a) (Y a)/\jm encI h2.ax y d N (Edge.dm (cx a))) (by simpa [aC] using A) ?_;rintro _ W⟨m,d,N,rfl,A⟩;have N:=w.trans m;have l:=m.get w.ok M;have m:=l;simp[bN] at m;simp[O,m];have l:Y (Edge.dm (cx a))=Y a:=by rw[Edge.iV];simp[cx]
  have D:=(w.ok.bU M).lt;refine aN.cut (λD=>az aV h D/\ae (RV D) 1 D (SV.v ⟨Z ⟨d,0,K⟩,Y a,Y a⟩) (Edge.dm (cx a))/\c_ D h.ax (bN gs fs name params aF B ⟨Z ⟨d,0,K⟩,Y a,Y a⟩)) ?_ ?_;have M:az (· =h.ax) W (put W h.ax 6 [c6 gs.a gs.l gs.c,c6 fs.a fs.l fs.c,eT name,dC ef params,dC ef aF,c6 B.a B.l B.c,c6 ah.a ah.l ah.c] [c6 (Z ⟨d,0,K⟩) (Y a) (Y a)] 0):=aX N.ok m;refine⟨N.put ⟨_,m⟩ (fc (fE _)),?_,W.clock,by simp[bN]⟩;have W:=A.grow N.ok M (λb N e=>J);have:=ZY (c:=Y a) W;rw[l] at this;simpa using this
  rintro D⟨D,M,W,W⟩;refine SY (AH:=⟨Z ⟨d,0,K⟩,Y a,Y a⟩) G k l M o n H U g D W (av O) ag (av I) ag ?_ ?_;intro c e' y j q E;simp[q];exact⟨D.trans E,c,Q,λh=>absurd h j⟩;intro e' y E N;simp;exact⟨D.trans E,0,Q,λ_=>⟨i,N⟩⟩
end
def aqA(h:aB)(s:ByteArray)(m:Nat)(e:Env)(h2:aB):Prop:=∃j:Nat,m=s.size-j/\bX e 0=eT s/\bz e 14 s.size/\bz e 15 j/\h2=h/\j<=s.size
def Pk(h:aB)(s:ByteArray):aY FF 78 [eT s] h (λv j=>j=h/\∃b:Bool,v=dd b):=by
 refine aY.of S7 ?_;unfold Ik;by_cases X:s.size<1
 .have j:(s.size:Int)<1:=J
  simp[j]
 have j:¬(s.size:Int)<1:=J
 by_cases h2:12<s.size
 .have y:(12:Int)<s.size:=J
  simp[j,y]
 have y:¬(12:Int)<s.size:=J
 simp[j,y];refine aN.loop (aqA h s) ?_ (n:=s.size)
  ⟨0,Q,ag,ag,ag,Q,J⟩
 rintro m e j⟨j,rfl,y,q,w,rfl,m⟩;unfold DO;by_cases E:j<s.size
 .have l:=bZ (j+1) J J;have⟨c,M⟩:∃c:Int,((s[j]'E).toNat:Int)=c:=⟨_,Q⟩;by_cases H:97<=c
  .by_cases G:c<=122
   .have i:¬122<c:=J
    have k:¬c<97:=J
    simp[y,q,w,E,M,H,G,i,k,l];exact⟨s.size-(j+1),J,j+1,Q,av y,by simp[q],ag,Q,J⟩
   .have i:122<c:=J
    have k:¬c<97:=J
    by_cases a:65<=c
    .by_cases D:c<=90
     .have W:¬90<c:=J
      have f:¬c<65:=J
      simp[y,q,w,E,M,H,G,i,k,a,D,W,f,l];exact⟨s.size-(j+1),J,j+1,Q,av y,by simp[q],ag,Q,J⟩
     .have W:90<c:=J
      have f:¬c<65:=J
      by_cases m:c=95
      .have A:(c==95)=cd:=ak m
       simp[y,q,w,E,M,H,G,i,k,a,D,W,f,A,l];exact⟨s.size-(j+1),J,j+1,Q,av y,by simp[q],ag,Q,J⟩
      .have A:(c==95)=b9:=ak m
       by_cases U:0<j
       .have I:¬(j=0):=J
        by_cases d:48<=c
        .by_cases N:c<=57
         .have O:¬57<c:=J
          have g:¬c<48:=J
          simp[y,q,w,E,M,H,G,i,k,a,D,W,f,A,U,I,d,N,O,g,l];exact⟨s.size-(j+1),J,j+1,Q,av y,by simp[q],ag,Q,J⟩
         .have O:57<c:=J
          have g:¬c<48:=J
          simp[y,q,w,E,M,H,G,i,k,a,D,W,f,A,U,I,d,N,O,g]
        .have N:c<48:=J
         simp[y,q,w,E,M,H,G,i,k,a,D,W,f,A,U,I,d,N]
       .have I:j=0:=J
        subst I;simp[y,q,w,E,M,H,G,i,k,a,D,W,f,A]
    .have D:c<65:=J
     by_cases m:c=95
     .have A:(c==95)=cd:=ak m
      simp[y,q,w,E,M,H,G,i,k,a,D,A,l];exact⟨s.size-(j+1),J,j+1,Q,av y,by simp[q],ag,Q,J⟩
     .have A:(c==95)=b9:=ak m
      by_cases U:0<j
      .have I:¬(j=0):=J
       by_cases d:48<=c
       .by_cases N:c<=57
        .have O:¬57<c:=J
         have g:¬c<48:=J
         simp[y,q,w,E,M,H,G,i,k,a,D,A,U,I,d,N,O,g,l];exact⟨s.size-(j+1),J,j+1,Q,av y,by simp[q],ag,Q,J⟩
        .have O:57<c:=J
         have g:¬c<48:=J
         simp[y,q,w,E,M,H,G,i,k,a,D,A,U,I,d,N,O,g]
       .have N:c<48:=J
        simp[y,q,w,E,M,H,G,i,k,a,D,A,U,I,d,N]
      .have I:j=0:=J
       subst I;simp[y,q,w,E,M,H,G,i,k,a,D,A]
  .have G:c<97:=J
   by_cases a:65<=c
   .by_cases D:c<=90
    .have W:¬90<c:=J
     have f:¬c<65:=J
     simp[y,q,w,E,M,H,G,a,D,W,f,l];exact⟨s.size-(j+1),J,j+1,Q,av y,by simp[q],ag,Q,J⟩
    .have W:90<c:=J
     have f:¬c<65:=J
     by_cases m:c=95
     .have A:(c==95)=cd:=ak m
      simp[y,q,w,E,M,H,G,a,D,W,f,A,l];exact⟨s.size-(j+1),J,j+1,Q,av y,by simp[q],ag,Q,J⟩
     .have A:(c==95)=b9:=ak m
      by_cases U:0<j
      .have I:¬(j=0):=J
       by_cases d:48<=c
       .by_cases N:c<=57
        .have O:¬57<c:=J
         have g:¬c<48:=J
         simp[y,q,w,E,M,H,G,a,D,W,f,A,U,I,d,N,O,g,l];exact⟨s.size-(j+1),J,j+1,Q,av y,by simp[q],ag,Q,J⟩
        .have O:57<c:=J
         have g:¬c<48:=J
         simp[y,q,w,E,M,H,G,a,D,W,f,A,U,I,d,N,O,g]
       .have N:c<48:=J
        simp[y,q,w,E,M,H,G,a,D,W,f,A,U,I,d,N]
      .have I:j=0:=J
       subst I;simp[y,q,w,E,M,H,G,a,D,W,f,A]
   .have D:c<65:=J
    by_cases m:c=95
    .have A:(c==95)=cd:=ak m
     simp[y,q,w,E,M,H,G,a,D,A,l];exact⟨s.size-(j+1),J,j+1,Q,av y,by simp[q],ag,Q,J⟩
    .have A:(c==95)=b9:=ak m
     by_cases U:0<j
     .have I:¬(j=0):=J
      by_cases d:48<=c
      .by_cases N:c<=57
       .have O:¬57<c:=J
        have g:¬c<48:=J
        simp[y,q,w,E,M,H,G,a,D,A,U,I,d,N,O,g,l];exact⟨s.size-(j+1),J,j+1,Q,av y,by simp[q],ag,Q,J⟩
       .have O:57<c:=J
        have g:¬c<48:=J
        simp[y,q,w,E,M,H,G,a,D,A,U,I,d,N,O,g]
      .have N:c<48:=J
       simp[y,q,w,E,M,H,G,a,D,A,U,I,d,N]
     .have I:j=0:=J
      subst I;simp[y,q,w,E,M,H,G,a,D,A]
 .have:j=s.size:=J
  subst this;simp[q,w]
def encStr:ly ByteArray:=⟨λx=>[eT x],1,λ_=>rfl,ai,λ_=>rfl⟩
@[simp] def apb:encStr.sz=1:=rfl
@[simp] def al6(x:ByteArray):encStr.enc x=[eT x]:=rfl
def N0(s:bj encStr h v xs)(N:Y xs<1000000)(x:ByteArray):aY FF 139 [v,eT x] h (λv N=>N=h/\∃i:Int,v=dC ef i):=by
 obtain⟨a,H,rfl,_⟩:=id s;refine aY.of tE ?_;unfold j4;simp;refine aN.loop (λm e h2=>∃j:Nat,m=Y xs-j/\j<=Y xs/\bX e 0=c6 a (Y xs) H/\bX e 1=eT x/\bz e 7 (Y xs)/\bz e 8 j/\h2=h) ?_ (n:=Y xs)
  ⟨0,Q,J,ag,ag,ag,ag,Q⟩
 rintro m e h2⟨j,rfl,W,M,I,A,D,rfl⟩;unfold jA;by_cases E:j<Y xs
 .have G:xs[j]?=Z xs[j]:=iK E;generalize xs[j]=y at G;obtain⟨b,w,c,w,_,_,O⟩:=s.read G;have G:=O 0 1 ai;cases w;simp[-ay] at G;have⟨w,U⟩:∃w,w=j+1:=⟨_,Q⟩;have U:IntKind.i64.wrap ((j:Int)+1)=(w:Int):=by rw[bZ _ J J];omega
  cases q:(x==y);simp[M,I,A,D,E,G,q,U,-ay];exact⟨Y xs-w,J,w,Q,J,Q⟩;simp[M,I,A,D,E,G,q,-ay]
 .have:j=Y xs:=J
  subst this;simp[A,D]
def yO(s:bj encStr h v xs)(m:Y xs<1000000)(x:ByteArray):aY FF 79 [v,eT x] h (λv q=>q=h/\∃b:Bool,v=dd b):=by
 refine aY.of qp ?_;unfold jh;simp;refine bm.call (ak (N0 s m x)) ?_;rintro _ h2⟨rfl,i,rfl⟩;by_cases a:0<=i;simp[a]
 .have j:i<0:=J
  simp[a,j]
structure DX(f:GF):Prop where
 params:0<=f.params/\f.params<=6
 aF:f.params<=f.aF/\f.aF<=100
 blocks:1<=Y f.blocks/\Y f.blocks<=40
 many:dw f.blocks<=300
section
variable{gs fs ah:SV}
def aqv(h:aB)(gs fs B ah:SV)(f:GF)(v:aa)(m:Nat)(e:Env)(h2:aB):Prop:=
 ∃j:Nat,m=Y f.blocks-j/\j<=Y f.blocks/\bX e 1=v/\cg e 2 h.ax/\bz e 5 (IntKind.i64.wrap (dw (f.blocks.take j):Int))/\bX e 10=B.v/\bz e 11 (Y f.blocks)/\bz e 12 j/\az aV h h2/\h2.tr.get h.ax=Z (.ch (bN gs fs f.name f.params f.aF B ah) b9 0 0)
def abW(i:cy h){f:GF}{B:SV}(U:mm h B f.blocks)(E:Fits f.blocks)(s:bj encStr h v xs)(d:Y xs<1000000):aY FF 81 [eU ⟨bN gs fs f.name f.params f.aF B ah⟩,v] h (yF (λc=>c=0->DX f) h):=by
 have z:=ae.len U;refine aY.of CW ?_;unfold tW;simp[bN,z];refine aN.cut (λX=>az aV h X/\X.tr.get h.ax=Z (.ch (bN gs fs f.name f.params f.aF B ah) b9 0 0)) ?_ ?_;exact⟨(az.refl i).new _ _,by simp[bN,z]⟩;rintro X⟨t,u⟩;refine aN.loop (aqv h gs fs B ah f v) ?_ (n:=Y f.blocks) ⟨0,Q,J,ag,ag,by simp[dw,bZ],av z,ag,ag,t,u⟩;rintro m e h2⟨j,rfl,g,M,y,I,G,w,H,q,W⟩;unfold qF;by_cases g:j<Y f.blocks
 .have N:f.blocks[j]?=Z f.blocks[j]:=iK g;generalize f.blocks[j]=x at N;obtain⟨r,C,c,a,_,_,⟨P,L,T,rfl,l,u,r⟩,_,A⟩:=ae.later i U N;have o:=A h2 q 0 6 ai;simp[-ay] at o;have V:=ae.len l;have T:=ae.len u;have F:=vY N;have n:=E.2 x (cK N);have t:=E.1;have S:=bZ (j+1) J J;have p:IntKind.i64.wrap ((Y x.aP:Int)+(Y x.list:Int))=(Y x.aP:Int)+(Y x.list:Int):=bZ _ J J;have t:IntKind.i64.wrap (IntKind.i64.wrap (dw (f.blocks.take j):Int)+((Y x.aP:Int)+(Y x.list:Int)))=IntKind.i64.wrap ((dw (f.blocks.take (j+1)):Nat):Int):=by rw[wrap_add,F];congr 1
  have A:=G;simp at A;rw[a,z] at A;simp[M,y,I,A,w,H,g,o,-ay,aJ,V,T,p,t,S];refine⟨Y f.blocks-(j+1),J,j+1,Q,J,av M,av y,ag,by simp;simpa using G,by simp[w],ag,q.var _ _,?_⟩;have a:=q.ok.bU W;simpa [a] using W
 .have:j=Y f.blocks:=J
  subst this;rw[mI] at I;have D:=W;simp[bN] at D;simp[w,H,y,D];refine bm.call (V:=λv p=>p=h2/\∃b:Bool,v=dd b) (ak (Pk h2 f.name)) ?_;rintro _ S⟨a,b,rfl⟩;rw[a];cases b
  simp;exact⟨q,12,Q,λh=>by cases h⟩
  .simp[M,y,D];refine bm.call (V:=λv p=>p=h2/\∃b:Bool,v=dd b) (by simpa [M] using yO (s.cr i q) d f.name) ?_;rintro _ F⟨l,b,rfl⟩;rw[l];cases b
   .simp[y,D];refine bm.call (ak (g_ h2 f.params 0 6)) ?_;rintro _ j⟨rfl,a⟩;rw[a];by_cases L:0<=f.params/\f.params<=6
    .have O:(decide (0<=f.params)&&decide (f.params<=6))=cd:=ak L
     rw[O];simp[y,D];refine bm.call (ak (g_ h2 f.aF f.params 100)) ?_;rintro _ u⟨rfl,U⟩;rw[U];by_cases C:f.params<=f.aF/\f.aF<=100
     .have V:(decide (f.params<=f.aF)&&decide (f.aF<=100))=cd:=ak C
      rw[V];simp[y,D];refine bm.call (by simpa [z] using g_ h2 (Y f.blocks:Int) 1 40) ?_;rintro _ k⟨rfl,H⟩;rw[H];by_cases F:(1:Int)<=Y f.blocks/\(Y f.blocks:Int)<=40
      .have m:(decide ((1:Int)<=Y f.blocks)&&decide ((Y f.blocks:Int)<=40))=cd:=ak F
       rw[m];rw[PQ E J] at I;by_cases E:(300:Int)<dw f.blocks;simp[I,E];exact⟨q,2,Q,λh=>by cases h⟩;simp[I,E];exact⟨q,0,Q,λ_=>⟨L,C,J,J⟩⟩
      .have m:(decide ((1:Int)<=Y f.blocks)&&decide ((Y f.blocks:Int)<=40))=b9:=ak F
       rw[m];simp;exact⟨q,2,Q,λh=>by cases h⟩
     .have V:(decide (f.params<=f.aF)&&decide (f.aF<=100))=b9:=ak C
      rw[V];simp;exact⟨q,3,Q,λh=>by cases h⟩
    .have O:(decide (0<=f.params)&&decide (f.params<=6))=b9:=ak L
     rw[O];simp;exact⟨q,3,Q,λh=>by cases h⟩
   simp;exact⟨q,7,Q,λh=>by cases h⟩
end
def abI(U:cy h){X U:Nat}{g:GG}{I:SV}(j:dR h X [eT g.name,dC ef g.size,I.v] U)(U:I.l=Y g.init)(U:Y g.init<=140737488355328)(s:bj encStr h v xs)(U:Y xs<1000000){W:Int}(N:0<=W/\W<=200)(N:bX e 3=v)(M:bz e 4 W)(m:cg e 6 X)(O:bz e 7 0)(H:∀c e',aH [37,38,39,40,36,7,42,43,44,45,41,47,48,49,50,46,52,53,54,55,56,57,51,59,60,61,62,63,58] e e'->bz e' 7 c->(c=0->1<=g.size/\(g.size<=200/\(Y g.init:Int)<=g.size)/\W+g.size<=200)->QQ .normal e' h):aN FF KQ e h QQ:=by
 unfold KQ;simp at j;simp[m,j];refine bm.call (V:=λv A=>A=h/\∃b:Bool,v=dd b) (ak (Pk h g.name)) ?_;rintro _ h2⟨D,b,rfl⟩;rw[D];cases b
 .simp;exact H 12 _ (by(repeat refine aH.set ?_);exact aH.refl _ _) ag (λh=>by cases h)
 .simp[N,m,j];refine bm.call (V:=λv A=>A=h/\∃b:Bool,v=dd b) (by simpa [N] using yO s U g.name) ?_;rintro _ D⟨D,b,rfl⟩;rw[D];cases b
  .simp[m,j];refine bm.call (ak (g_ h g.size 1 200)) ?_;rintro _ y⟨rfl,y⟩;rw[y];by_cases q:1<=g.size/\g.size<=200
   .have w:(decide (1<=g.size)&&decide (g.size<=200))=cd:=ak q
    rw[w];by_cases E:g.size<(I.l:Int)
    .simp[m,j,E];exact H 9 _ (by(repeat refine aH.set ?_);exact aH.refl _ _) ag (λh=>by cases h)
    .have G:=bZ (W+g.size) J J;by_cases I:200<W+g.size
     .simp[M,m,j,E,G,I];exact H 10 _ (by(repeat refine aH.set ?_);exact aH.refl _ _) ag (λh=>by cases h)
     .simp[M,m,j,E,G,I];exact H 0 _ (by(repeat refine aH.set ?_);exact aH.refl _ _) (av O) (λ_=>⟨q.1,⟨q.2,J⟩,J⟩)
   .have w:(decide (1<=g.size)&&decide (g.size<=200))=b9:=ak q
    rw[w];simp;exact H 3 _ (by(repeat refine aH.set ?_);exact aH.refl _ _) ag (λh=>by cases h)
  .simp;exact H 7 _ (by(repeat refine aH.set ?_);exact aH.refl _ _) ag (λh=>by cases h)
structure Ww(h h2:aB)(G F:SV)(e:Env)(v:aa)(names:List ByteArray):Prop where
 f1:cg e 1 h.ax
 f2:cg e 2 (h.ax+1)
 f3:bX e 3=v
 g:az aV h h2
 U:dR h2 h.ax [G.v,F.v] 0
 R:c_ h2 (h.ax+1) [dC ef 0,dC ef 0]
 names:bx encStr (h.ax+2) h2 v names
def Ww.grow{h h2 j:aB}{G F:SV}{e e':Env}{v:aa}{names:List ByteArray}(c:Ww h h2 G F e v names)(g:az aV h2 j)(m:bX e' 1=bX e 1)(q:bX e' 2=bX e 2)(w:bX e' 3=bX e 3):Ww h j G F e' v names:=by have⟨s,y⟩:=c.R;exact⟨m.trans c.f1,q.trans c.f2,w.trans c.f3,c.g.trans g,g.get c.g.ok c.U,⟨s,g.get c.g.ok y⟩,c.names.grow c.g.ok g aj⟩
def ain(h:aB)(b:bJ->Env->aB->Prop):Prop:=∀(c a:Int)(e':Env)(j:aB),c≠0->az aV h j->(c_ j (h.ax+1) [dC ef c,dC ef a])->cg e' 2 (h.ax+1)->b .ret e' j
def Ou{G F:SV}(c:Ww h h2 G F e v names)(D:Y names<1000000)(x:ByteArray):∃m j,gi (aM h2 [eT x] 0) [eT ⟨⟨[]⟩⟩] 16 b9 v (c6 (Z ⟨h2.ax,0,K⟩) 1 1)=Z (m,j)/\az (bD v) h2 j/\∀e',bX e' 1=bX e 1->bX e' 2=bX e 2->bX e' 3=m->Ww h j G F e' m (names++[x]):=by
 have w:=aZ c.g.ok (encStr.enc x) 0;have y:=c.names.grow c.g.ok w aj;have A:bj encStr (aM h2 (encStr.enc x) 0) (c6 (Z ⟨h2.ax,0,K⟩) 1 1) [x]:=⟨_,_,Q,ft ⟨h2.ax,0,_,_,_,_,Q,bY _ _ _,ag,ag⟩⟩;have⟨s,E⟩:=c.R;have W:=c.g.ok.wf _ _ E;have⟨m,j,U,N,M,H⟩:=fI (bytes:=16) w.ok (z:=[eT ⟨⟨[]⟩⟩]) rfl y A D ai (by show h.ax+2<=h2.ax+1;omega);have D:∀b,bD v b->h.ax+2<=b:=λb H=>c.names.of H;have q:az (bD v) h2 j:=w.cr.trans M;have M:az aV h j:=c.g.trans' q aj (λb H e=>aw (D b e));refine⟨m,j,U,q,λe' I U O=>⟨I.trans c.f1,U.trans c.f2,O,M,q.get c.g.ok c.U (λe=>aw (D _ e)),⟨s,q.get c.g.ok E (λe=>aw (D _ e))⟩,N⟩⟩
def ahJ{G F:SV}(c:Ww h h2 G F e v names)(G:ain h QQ){q:Int}(H:q≠0)(a:Int){j:aB}(y:az aV h2 j)(A:bX e' 2=bX e 2):(c_ j (h.ax+1) [dC ef 0,dC ef 0])/\∀m,m=put j (h.ax+1) 0 [dC ef 0,dC ef 0] [dC ef q,dC ef a] 0->QQ .ret e' m:=by
 have⟨s,E⟩:=c.R;have w:=y.get c.g.ok E;refine⟨⟨s,w⟩,λm D=>?_⟩;subst D;refine G q a e' _ H ((c.g.trans y).put ⟨s,w⟩ (fc J)) ⟨j.clock,ag⟩ (A.trans c.f2)
def GlI(h:aB)(G F:SV)(q:List GG)(m:Nat)(e:Env)(h2:aB):Prop:=
 ∃(j:Nat) (v:aa) (W:Int),m=Y q-j/\j<=Y q/\Ww h h2 G F e v ((q.take j).map (·.name))/\bz e 4 W/\0<=W/\W<=200/\bX e 29=G.v/\bz e 30 (Y q)/\bz e 31 j/\∀g∈q.take j,1<=g.size/\g.size<=200/\(Y g.init:Int)<=g.size
def NG(S:cy h){G F:SV}{q:List GG}(f:ae (gR h) 3 h G.v q)(b:Y q<=10)(s:∀g∈q,Y g.init<=140737488355328)(c:Ww h X G F e (c6 K 0 0) [])(O:bz e 4 0)(A:bX e 29=G.v)(y:bz e 30 (Y q))(w:bz e 31 0)(B:ain h QQ)(P:∀e' p v,Ww h p G F e' v (q.map (·.name))->(∀g∈q,1<=g.size/\g.size<=200/\(Y g.init:Int)<=g.size)->QQ (.exit 0) e' p):aN FF (.loop wq) e X QQ:=by
 have U:=ae.len f;refine aN.loop (GlI h G F q) ?_ (n:=Y q) ⟨0,_,0,Q,J,ak c,O,J,J,A,y,w,λg z=>by simp at z⟩;rintro m e h2⟨j,v,i,rfl,d,c,O,T,p,A,y,w,d⟩;unfold wq;by_cases u:j<Y q
 .have N:q[j]?=Z q[j]:=iK u;have l:=IB u;generalize q[j]=x at N l;obtain⟨r,C,V,M,_,_,⟨I,rfl,L⟩,_,b⟩:=ae.later S f N;have W:=b h2 c.g 0 3 ai;simp[-ay] at W;have S:=bZ (j+1) J J;have D:=A;simp at D;rw[M,U] at D;have r:Y ((q.take j).map (·.name))<1000000:=by simp;omega
  simp[D,y,w,u,W,-ay];refine aN.cut (λM=>az aV h2 M/\c_ M h2.ax [eT x.name,dC ef x.size,I.v]) ?_ ?_;exact⟨(az.refl c.g.ok).var _ _,h2.clock,ag⟩;rintro M⟨b,s3,E⟩;have u:=c.g.trans b;have U:=c.names.grow c.g.ok b aj;refine abI u.ok E (ae.len L) (s x l) U.sl r ⟨T,p⟩ (by simp[c.f3]) (av O) ag ag ?_;intro H a G V C;have t:=G.at (t:=1) (v:=bX e 1) ag;have p:=G.at (t:=2) (v:=bX e 2) ag;have f:=G.at (t:=3) (v:=bX e 3) ag;have k4:=G.at (t:=4) (v:=bX e 4) ag;have l:=G.at (t:=5) (v:=dC ef j) ag;have U:=G.at (t:=6) (v:=dB (Z ⟨h2.ax,0,K⟩)) ag;have k:=G.at (t:=29) (v:=bX e 29) (by simp[D,A]);have k30:=G.at (t:=30) (v:=bX e 30) ag;have m:=G.at (t:=31) (v:=bX e 31) ag;have W:=c.grow (e':=a) b t p f;unfold afg;by_cases t:H=0
  .subst t;have⟨D,w2,L⟩:=C rfl;simp at E;have ww:=bZ (i+x.size) J J;simp[V,f,c.f3,U,E];have⟨v',s,L,G,C⟩:=Ou W r x.name;refine df L ?_;have L:=(b.ok.bU E).lt;have f:dR s h2.ax [eT x.name,dC ef x.size,c6 I.a I.l I.c] s3:=by refine G.get W.g.ok E (λe=>?_);have⟨o,n,E,e⟩:=e;rcases c.names with⟨_,T⟩|⟨L,G,T,L,_⟩;rw[T] at e;cases e;rw[T] at e;cases e;have:=c.g.ok.wf _ _ L;omega
   simp[k4,O,U,f,ww,m,w,S];refine⟨Y q-(j+1),J,j+1,v',i+x.size,Q,J,?_,ag,J,J,by simp[k,A],by simp[k30,y],ag,?_⟩
   .have s:(q.take (j+1)).map (·.name)=(q.take j).map (·.name)++[x.name]:=by rw[mw,N];simp
    rw[s];exact C _ ag ag ag
   intro g z;rw[mw,N] at z;rcases jL.1 z with h|h;exact d g h;simp at h;rw[h];exact⟨D,w2⟩
  have m:=v8 t;simp[V,m,l];refine bm.call (ak (kP M u.ok H (j:Int))) ?_;rintro _ u⟨rfl,O⟩;obtain⟨⟨z,z⟩,E⟩:=ahJ (QQ:=QQ) W B t (j:Int) O (e':=Tr.set (Tr.set (Tr.set (Tr.set (Tr.set a 64 (dC ef H)) 65 (dd cd)) 66 (dC ef H)) 67 (dC ef j)) 68 (eU #[dC ef H,dC ef j])) ag;simp[p,c.f2,z];exact E _ rfl
 .have:j=Y q:=J
  subst this;rw[mI] at c d;simp[y,w];exact P _ _ v (c.grow (.refl c.g.ok) ag ag ag) d
def HdI(h:aB)(G F:SV)(q:List GF)(a:List ByteArray)(m:Nat)(e:Env)(h2:aB):Prop:=
 ∃(j:Nat) (v:aa),m=Y q-j/\j<=Y q/\Ww h h2 G F e v (a++(q.take j).map (·.name))/\bX e 80=F.v/\bz e 81 (Y q)/\bz e 82 j/\∀f∈q.take j,DX f
def Tm(d:cy h){G F:SV}{q:List GF}(O:ae (fR h) 4 h F.v q)(n:Y q<=10)(n:∀f∈q,Fits f.blocks)(A:Y a<=10){A:aa}(c:Ww h X G F e A a)(A:bX e 80=F.v)(w:bz e 81 (Y q))(y:bz e 82 0)(o:ain h QQ)(p:∀e' b v,Ww h b G F e' v (a++q.map (·.name))->(∀f∈q,DX f)->QQ (.exit 3) e' b):aN FF (.loop wo) e X QQ:=by
 have H:=ae.len O;refine aN.loop (HdI h G F q a) ?_ (n:=Y q) ⟨0,_,Q,J,ak c,A,w,y,λi b=>by simp at b⟩;rintro m e h2⟨j,v,rfl,m,c,A,w,y,g⟩;unfold wo;by_cases M:j<Y q
 .have N:q[j]?=Z q[j]:=iK M;have l:=IB M;generalize q[j]=x at N l;obtain⟨W,W,W,W,_,_,⟨B,rfl,r⟩,_,m⟩:=ae.later d O N;have O:=m h2 c.g 0 4 ai;simp[-ay] at O;have m:=bZ (j+1) J J;have D:=A;simp at D;rw[W,H] at D;have k:Y (a++(q.take j).map (·.name))<1000000:=by simp;omega
  have U:=c.U;simp at U;have I:=c.g.ok.bU U;simp[D,w,y,c.f1,M,O,-ay,aJ,cw,bh,I,aD U];refine bm.cut (λM=>az aV h2 M/\c_ M h2.ax [eT x.name,dC ef x.params,dC ef x.aF,B.v]) ?_ ?_
  exact⟨((az.refl c.g.ok).var _ _).trans (((az.refl ((az.refl (S:=aV) c.g.ok).var _ _).ok)).var _ _),h2.clock,ag⟩;rintro M⟨O,B,U⟩;have I:=c.g.trans O;have B:=c.names.grow c.g.ok O aj;refine bm.call (V:=yF (λc=>c=0->DX x) M) ?_ ?_
  have E:=abW (gs:=G) (fs:=F) (ah:=cU) I.ok (f:=x) (r.mono d I λ_ _ r=>r.mono d I) (n x l) B.sl k;simpa [bN,cU,c.f3,W,H] using E;rintro _ n⟨W,d,rfl,r⟩;have H:=O.trans W;have G:=W.get I.ok U;simp at G;have E:=(O.ok.bU U).lt;by_cases O:d=0
  .subst O;have M:=c.grow (e':=e) H rfl rfl rfl;obtain⟨l,U,E,B,B⟩:=Ou M k x.name;simp[c.f3,G];refine df E ?_;simp[y,m];refine⟨Y q-(j+1),J,j+1,l,Q,J,?_,aq A,by simp[w],ag,?_⟩
   .have A:a++(q.take (j+1)).map (·.name)=a++(q.take j).map (·.name)++[x.name]:=by rw[mw,N];simp
    rw[A];exact B _ ag ag ag
   intro i b;rw[mw,N] at b;rcases jL.1 b with h|h;exact g i h;simp at h;rw[h];exact r rfl
  have i:=v8 O;simp[i];refine bm.call (ak (kP n (I.trans W).ok d (j:Int))) ?_;rintro _ U⟨rfl,W⟩;have⟨s,n⟩:=c.R;have I:=(H.trans W).get c.g.ok n;simp[c.f2,I];exact o d j _ _ O (((c.g.trans H).trans W).put ⟨s,I⟩ (fc J)) ⟨U.clock,ag⟩ (by simp[c.f2])
 .have:j=Y q:=J
  subst this;rw[mI] at c g;simp[w,y];exact p _ _ v (c.grow (.refl c.g.ok) ag ag ag) g
def BdI(h:aB)(G F:SV)(q:List GF)(v:aa)(a:List ByteArray)(m:Nat)(e:Env)(h2:aB):Prop:=
 ∃j:Nat,m=Y q-j/\j<=Y q/\Ww h h2 G F e v a/\bX e 105=F.v/\bz e 106 (Y q)/\bz e 107 j/\∀f∈q.take j,G9 f.aF f.blocks
def Qp(d:cy h)(u:Hh h){G F:SV}{y:List GF}(r:ae (fR h) 4 h F.v y)(o:Y y<=10)(o:∀f∈y,∀b∈f.blocks,zJ b)(H:∀f∈y,DX f)(c:Ww h X G F e v a)(A:bX e 105=F.v)(w:bz e 106 (Y y))(q:bz e 107 0)(p:ain h QQ)(t:∀e' M,Ww h M G F e' v a->(∀f∈y,G9 f.aF f.blocks)->QQ (.exit 5) e' M):aN FF (.loop wh) e X QQ:=by
 have m:=ae.len r;refine aN.loop (BdI h G F y v a) ?_ (n:=Y y) ⟨0,Q,J,c,A,w,q,λl M=>by simp at M⟩;rintro j e h2⟨j,rfl,g,c,A,w,q,g⟩;unfold wh;by_cases N:j<Y y
 .have i:y[j]?=Z y[j]:=iK N;have U:=IB N;generalize y[j]=x at i U;obtain⟨k,k,k,k,_,_,⟨B,rfl,z⟩,_,n⟩:=ae.later d r i;have W:=n h2 c.g 0 4 ai;simp[-ay] at W;have n:=bZ (j+1) J J;have I:=A;simp at I;rw[k,m] at I;have O:=c.U;simp at O;have D:=c.g.ok.bU O;obtain⟨B,B,B,_⟩:=H x U;simp[I,w,q,c.f1,N,W,-ay,aJ,cw,bh,D,aD O];refine bm.cut (λW=>az aV h2 W) ?_ ?_
  exact((az.refl c.g.ok).var _ _).trans (((az.refl ((az.refl (S:=aV) c.g.ok).var _ _).ok)).var _ _);rintro W O;have D:=c.g.trans O;refine bm.call (V:=yF (λc=>c=0->G9 x.aF x.blocks) W) ?_ ?_
  have E:=abe (gs:=G) (fs:=F) (name:=x.name) (params:=x.params) (aF:=x.aF) (ah:=cU) D.ok (u.grow d D) J (r.mono d D λ_ _ r=>r.mono d D) ⟨J,λf u=>(H f u).params.2⟩ (z.mono d D λ_ _ r=>r.mono d D) J (o x U);simpa [bN,cU,k,m] using E;rintro _ k⟨m,U,rfl,E⟩;have H:=O.trans m;by_cases d:U=0
  subst d;simp[q,n];refine⟨Y y-(j+1),J,j+1,Q,J,c.grow H ag ag ag,aq A,by simp[w],ag,?_⟩;intro l M;rw[mw,i] at M;rcases jL.1 M with h|h;exact g l h;simp at h;rw[h];exact E rfl;have l:=v8 d;simp[l];refine bm.call (ak (kP k (D.trans m).ok U (j:Int))) ?_;rintro _ k⟨rfl,m⟩;have⟨s,l⟩:=c.R;have D:=(H.trans m).get c.g.ok l;simp[c.f2,D];exact p U j _ _ d (((c.g.trans H).trans m).put ⟨s,D⟩ (fc J)) ⟨k.clock,ag⟩ (by simp[c.f2])
 .have:j=Y y:=J
  subst this;rw[mI] at g;simp[w,q];exact t _ _ (c.grow (.refl c.g.ok) ag ag ag) g
def Vn:ByteArray:=⟨⟨[109,97,105,110]⟩⟩
def Uu(h:aB)(j:cy h)(c:ByteArray)(a b:Int)(s:SV):aY FF 84 [eU ⟨[eT c,dC ef a,dC ef b,s.v]⟩] h (λv m=>v=dd (c==Vn)/\az aV h m):=by refine aY.of Kk ?_;unfold Bs;simp[Vn];exact(az.refl j).new _ _
def Lv(U:cy h){F:SV}{q:List GF}(O:ae (fR h) 4 h F.v q)(A:Y q<1000000):aY FF 83 [F.v,.func (.func 84) #[] #[]] h (λv A=>az aV h A/\∃i:Int,v=dC ef i/\(i= -1\/∃j:Nat,i=j/\j<Y q)):=by
 have a:=ae.len O;refine aY.of mP ?_;unfold gO;simp;refine aN.loop (λm e h2=>∃j:Nat,m=Y q-j/\j<=Y q/\bX e 0=F.v/\bX e 1=.func (.func 84) #[] #[]/\bz e 7 (Y q)/\bz e 8 j/\az aV h h2) ?_ (n:=Y q)
  ⟨0,Q,J,ag,ag,av a,ag,.refl U⟩
 rintro m e h2⟨j,rfl,M,M,G,E,D,y⟩;unfold gH;by_cases H:j<Y q
 .have W:q[j]?=Z q[j]:=iK H;generalize q[j]=x at W;obtain⟨N,N,N,N,_,_,⟨B,rfl,w⟩,_,w⟩:=ae.later U O W;have O:=w h2 y 0 4 ai;simp[-ay] at O;have W:=bZ (j+1) J J;have w:=M;simp at w;rw[N,a] at w;simp[w,G,E,D,H,O,-ay];refine bm.fB (V:=λv A=>v=dd (x.name==Vn)/\az aV h2 A) ?_ ?_
  have I:dQ FF (.func (.func 84) #[] #[]) [eU ⟨[eT x.name,dC ef x.params,dC ef x.aF,B.v]⟩] h2 (λv A=>v=dd (x.name==Vn)/\az aV h2 A):=dQ.func (ak (Uu h2 y.ok x.name x.params x.aF B));simpa [G] using I;rintro _ I⟨rfl,A⟩;cases I:(x.name==Vn);simp[D,W];exact⟨Y q-(j+1),J,j+1,Q,J,by simpa [N,a] using M,av G,av E,ag,y.trans A⟩;simp;exact⟨y.trans A,j,Q,H⟩
 .have:j=Y q:=J
  subst this;simp[E,D];exact y
structure J2(u:GU):Prop where
 gn:Y u.globals<=10
 fn:Y u.funcs<=10
 gs:∀g∈u.globals,1<=g.size/\g.size<=200/\(Y g.init:Int)<=g.size
 head:∀f∈u.funcs,DX f
 body:∀f∈u.funcs,G9 f.aF f.blocks
 one:0<Y u.funcs
structure Hf(u:GU):Prop where
 init:∀g∈u.globals,Y g.init<=140737488355328
 fs:∀f∈u.funcs,Fits f.blocks
 bs:∀f∈u.funcs,∀b∈f.blocks,zJ b
def zG(P:Prop)(h:aB)(v:aa)(b:aB):Prop:=az aV h b/\∃c a:Int,v=eU ⟨[dC ef c,dC ef a]⟩/\(c≠0\/(c=0/\a=0/\P))
def WQ(H:cy h)(r:Hh h){G F:SV}{u:GU}(I:uR h G F u)(q:Hf u):aY FF 34 [eU ⟨[G.v,F.v]⟩] h (zG (J2 u) h):=by
 have d:=ae.len I.1;have b:=ae.len I.2;refine aY.of Qc ?_;unfold Ft;simp;have D:∀(c a:Int)(e':Env)(m:aB),c≠0->az aV h m->(c_ m (h.ax+1) [dC ef c,dC ef a])->cg e' 2 (h.ax+1)->Fm [.cell 2 (Z 2)] (zG (J2 u) h) .ret e' m:=by intro c a e' m N g ⟨s,w⟩ y;simp[y,w];exact⟨g,c,a,Q,fc N⟩
 refine bm.cut (λX=>az aV h X/\X.tr.get h.ax=Z (.ch [G.v,F.v] b9 0 0)/\X.tr.get (h.ax+1)=Z (.ch [dC ef 0,dC ef 0] b9 0 0)) ?_ ?_;exact⟨((az.refl H).new _ _).new _ _,ag,ag⟩;rintro X⟨O,U,W⟩;have M:=U;simp at M;have A:∀e l R,cg e 2 (h.ax+1)->(∀e' m,cg e' 2 (h.ax+1)->az aV h m->(c_ m (h.ax+1) [dC ef 0,dC ef 0])->bX e' 27=eU #[dC ef 2,dC ef 0]->bm FF l e' m R)->bm FF (⟨(Z 27),K,(.call (.func 36) [(.const (dC ef 2)),(.const (dC ef 0))])⟩::l) e X R:=by intro e l R y E;refine bm.call (ak (kP X O.ok 2 0)) ?_;rintro _ h2⟨rfl,j⟩;exact E _ _ (av y) (O.trans j) ⟨_,j.get O.ok W⟩ ag
 by_cases j:(10:Int)<G.l;simp[j];refine A _ _ _ ag ?_;intro e' m y G ⟨s,w⟩ q27;simp[y,q27,w];exact⟨G.put ⟨s,w⟩ (fc J),2,0,Q,fc ai⟩;by_cases E:(10:Int)<F.l;simp[j,E,M];refine A _ _ _ ag ?_;intro e' m y G ⟨s,w⟩ q27;simp[y,q27,w];exact⟨G.put ⟨s,w⟩ (fc J),2,0,Q,fc ai⟩;simp[j,E,M];have G:Y u.globals<=10:=J
 have M:Y u.funcs<=10:=J
 refine NG (F:=F) H I.1 G q.init ⟨ag,ag,ag,O,U,⟨0,W⟩,fc ⟨Q,Q⟩⟩ ag ag (av d) ag ?_ ?_;intro c a e' m N g w y;simpa using D c a e' m N g w y;intro d h2 d O d;have U:=O.U;simp at U;simp[O.f1,U];refine Tm H I.2 M q.fs (by simp;omega) (O.grow (.refl O.g.ok) ag ag ag) ag (av b) ag ?_ ?_
 intro c a e' m N g w y;simpa using D c a e' m N g w y;intro O O O O A;have U:=O.U;simp at U;simp[O.f1,U];refine Qp H r I.2 M q.bs A (O.grow (.refl O.g.ok) ag ag ag) ag (av b) ag ?_ ?_
 intro c a e' m N g w y;simpa using D c a e' m N g w y;intro g y O N;have U:=O.U;simp at U;simp[O.f1,U];refine bm.call (V:=λv m=>az aV y m/\∃i:Int,v=dC ef i/\(i= -1\/∃j:Nat,i=j/\j<Y u.funcs)) (ak (Lv O.g.ok (I.2.mono H O.g λ_ _ r=>r.mono H O.g) J)) ?_;rintro _ y⟨m,i,rfl,w⟩;have q:=O.grow (e':=g) m rfl rfl rfl;have E:=q.U;simp at E;obtain⟨m,m⟩:=q.R;rcases w with rfl|⟨j,rfl,w⟩
 simp;refine bm.call (ak (kP y q.g.ok 6 0)) ?_;rintro _ g⟨rfl,O⟩;have W:=O.get q.g.ok m;simp[q.f2,W];exact⟨(q.g.trans O).put ⟨_,W⟩ (fc J),6,0,Q,fc ai⟩
 .have U:u.funcs[j]?=Z u.funcs[j]:=iK w;generalize u.funcs[j]=x at U;obtain⟨u,u,u,u,_,_,⟨B,rfl,r⟩,_,r⟩:=ae.later H I.2 U;have I:=r y q.g 1 1 ai;simp[-ay] at I;have U:¬(j:Int)<0:=J
  by_cases H:0<x.params;simp[q.f1,aD E,u,b,w,I,H,U,-ay];refine bm.call (ak (kP y q.g.ok 5 (j:Int))) ?_;rintro _ g⟨rfl,O⟩;have W:=O.get q.g.ok m;simp[q.f2,W];exact⟨(q.g.trans O).put ⟨_,W⟩ (fc J),5,j,Q,fc ai⟩
  simp[q.f1,q.f2,aD E,u,b,w,I,H,U,-ay,m,aJ];exact⟨q.g.put ⟨_,m⟩ (fc J),0,0,Q,ft ⟨Q,Q,G,M,d,A,N,J⟩⟩
def wrap_u64(n:Int)(h:0<=n)(a:n<18446744073709551616):IntKind.u64.wrap n=n:=by simp only[A6,y6,Bo];simp;omega
def Yu(n:Nat)(h:n<4294967296):(c7 64 (n:Int) &&& c7 64 4294967295).toNat=n:=by
 have m:(c7 64 (n:Int)).toNat=n:=by rw[BitVec.toNat_ofInt];omega
 have j:(c7 64 4294967295).toNat=2^32-1:=ai
 rw[BitVec.toNat_and,m,j,Nat.and_two_pow_sub_one_eq_mod];omega
def YA(h:aB)(n:Nat)(O:n<1000000):aY FF 209 [.int .u64 1,.int .u64 (n:Nat)] h (λv D=>v=.tuple #[.int .u64 0,.int .u64 (n:Nat)]/\D=h):=by
 refine aY.of FH ?_;unfold xp;have j:IntKind.u64.wrap 0=0:=wrap_u64 _ J J;have w:IntKind.u64.wrap 1=1:=wrap_u64 _ J J;have m:IntKind.u64.wrap (n:Int)=n:=wrap_u64 _ J J;have H:jS .and .u64 1 4294967295=Z (.int .u64 1):=by have:=Yu 1 J;show Z (aL .u64 (IntKind.u64.wrap ((c7 64 ((1:Nat):Int) &&& c7 64 4294967295).toNat:Int)))=_;rw[this];simp[w]
 have I:jS .and .u64 (n:Int) 4294967295=Z (.int .u64 n):=by have:=Yu n J;show Z (aL .u64 (IntKind.u64.wrap ((c7 64 (n:Int) &&& c7 64 4294967295).toNat:Int)))=_;rw[this,m]
 have N:jS .and .u64 0 4294967295=Z (.int .u64 0):=by have:=Yu 0 J;show Z (aL .u64 (IntKind.u64.wrap ((c7 64 ((0:Nat):Int) &&& c7 64 4294967295).toNat:Int)))=_;rw[this];simp[j]
 have M:nZ .shr .u64 0 32=Z (.int .u64 0):=by rfl
 have D:nZ .shr .u64 1 32=Z (.int .u64 0):=by rfl
 have A:nZ .shr .u64 (n:Int) 32=Z (.int .u64 0):=by
  have G:(n:Int).fdiv (2^32)=0:=by rw[Int.fdiv_eq_ediv_of_nonneg _ ai];exact Int.ediv_eq_zero_of_lt J J
  show(if(32:Int)<0 then K else Z (aL .u64 ((n:Int).fdiv (2^(min (32:Int).toNat 64)))))=_;rw[bM ai,show min (32:Int).toNat 64=32 by decide,G]
 have G:jS .mul .u64 0 (n:Int)=Z (.int .u64 0):=by simp[j]
 have y:jS .mul .u64 1 (n:Int)=Z (.int .u64 n):=by simp[m]
 have m:jS .mul .u64 1 0=Z (.int .u64 0):=by simp[j]
 have q:jS .mul .u64 0 0=Z (.int .u64 0):=by simp[j]
 have E:jS .add .u64 0 0=Z (.int .u64 0):=by simp[j]
 simp[-jS,H,I,N,M,D,A,G,y,m,q,E]
def UL(h:aB)(n:Nat)(m:n<1000000):aY FF 146 [.int .u64 1,.int .u64 (n:Nat)] h (λv j=>v=.tuple #[.int .u64 0,.int .u64 (n:Nat)]/\j=h):=by refine aY.of Jc ?_;unfold Ax;simp;rw[H0 (t:=b9) rfl];simp;refine bm.call (V:=λv j=>v=.tuple #[.int .u64 0,.int .u64 (n:Nat)]/\j=h) (ak (YA h n m)) ?_;rintro _ j⟨rfl,rfl⟩;simp
def RF(E:ly α)(j:α)(q:z=E.enc j)(n:Nat):jG z n=E.flat (an n j):=by
 induction n with
 |zero=>rfl
 |succ n m=>rw[jG,m,q,p9,E.iJ]
def filled{α:Type}(x z:α)(k n:Nat):List α:=an k x++an (n-k) z
def OI(E:ly α)(x z:α){k m n:Nat}(j:k+m<=n):bg (E.flat (filled x z k n)) (k*E.sz) (E.flat (an m x))=E.flat (filled x z (k+m) n):=by
 have X:(E.flat (filled x z k n)).take (k*E.sz)=E.flat (an k x):=by rw[E.ij];congr 1;simp[filled]
 have h2:(E.flat (filled x z k n)).drop (k*E.sz+m*E.sz)=E.flat (an (n-(k+m)) z):=by rw[<-qB,E.mq];congr 1;simp[filled,List.drop_append];omega
 unfold bg;rw[E.eN,List.length_replicate,X,h2,<-E.dX,<-E.dX,List.replicate_append_replicate];rfl
def Mt(o:Nat):aG:=(J_ (G_ [m_ 34 8,m_ 35 7,z_ 36 35,B_ 37 .lss 34 36] (H_ 37 0)) (P_ 1 (V_ [D_ (m_ 38 8),D_ (m_ 39 7),D_ (m_ 40 8),(o_ 41 (.slice o (t_ 39) (Z (t_ 40)) K K),[]),D_ (m_ 42 7),D_ (m_ 43 8),(o_ 44 (.slice o (t_ 42) K (Z (t_ 43)) K),[]),(o_ 45 (.copy o (t_ 41) (t_ 44)),[]),D_ (B_ 46 .add 38 45),D_ (m_ 8 46)])))
def JM(z:List aa)(o bytes:Nat):aG:=(G_ [o_ 4 (.mv (.const (c6 K 0 0)))] (J_ (G_ [m_ 9 1,C_ 10 .lss 9 0] (I_ 10 (O_ [⟨(Z 11),K,.bad⟩,⟨K,K,.bad⟩]) .skip)) (G_ [m_ 13 0,z_ 14 13,o_ 15 (.conv .u64 (t_ 14)),m_ 16 1,o_ 17 (.conv .u64 (t_ 16)),F_ 18 146 [t_ 15,t_ 17],m_ 12 18,o_ 19 (.ext 0 (t_ 12)),o_ 20 (.ext 1 (t_ 12)),m_ 5 19,m_ 6 20] (J_ (G_ [m_ 21 5,o_ 22 (.bin .gtr [] (t_ 21) (.const (.int .u64 0))),m_ 23 22,q_ 24 23 b9 (.mv (t_ 6)),q_ 25 23 b9 (.bin .gtr [] (t_ 24) (.const (.int .u64 9223372036854775807))),o_ 26 (.pick (t_ 23) (b_ cd) (t_ 25))] (I_ 26 (O_ [⟨(Z 27),K,.bad⟩,⟨K,K,.bad⟩]) .skip)) (G_ [m_ 28 6,o_ 29 (.conv ef (t_ 28)),o_ 30 (.iO z bytes (t_ 29) (t_ 29)),m_ 7 30] (G_ [m_ 31 7,m_ 32 0,o_ 33 (.copy o (t_ 31) (t_ 32)),m_ 8 33] (J_ (P_ 0 (.loop (Mt o))) (G_ [m_ 47 7,m_ 4 47] .ret))))))))
def IP(E:ly α)(a:FF f=Z ⟨[.tmp 4],JM z E.sz bytes,.no⟩)(H:bytes<=1000)(w x:α)(U:z=E.enc w)(W:cy h)(n:Nat)(m:0<n/\n<1000000){b j c:Nat}(B:bj E h (c6 (Z ⟨b,j,K⟩) 1 c) [x]):aY FF f [c6 (Z ⟨b,j,K⟩) 1 c,dC ef n] h (λv q=>az aV h q/\∃d s,v=c6 (Z ⟨d,0,K⟩) n n/\h.ax<=d/\q.tr.get d=Z (.ch (E.flat (an n x)) b9 0 s)):=by
 have F:Y z=E.sz:=by rw[U,E.len]
 have A:=E.pos;have M:IntKind.u64.wrap 1=1:=wrap_u64 _ J J;have l:IntKind.u64.wrap (n:Int)=n:=wrap_u64 _ J J;have D:IntKind.i64.wrap (n:Int)=n:=bZ _ J J;have n0:¬(n:Int)<0:=J
 have r:¬(9223372036854775807:Int)<n:=J
 have u:roomy n=cd:=by simp[roomy];omega
 have N:roomy (n*bytes)=cd:=by have:n*bytes<=1000000*1000:=wm J H;simp[roomy];omega
 obtain⟨C,C,t,e',L,⟨_,_,_,_,I⟩,O⟩:=B.read (i:=0) (x:=x) rfl;injection e' with e1 e2 e3;cases e1;have V:=O 0 E.sz J;simp only[aaf,Jk,qA] at V;have o:cC h b j E.sz=Z (E.enc x):=by rw[V,nz (by rw[E.len];exact fE _)]
 have S:=W.bU I;have y:wA 1 n=1:=by show min 1 n=1;omega
 have H:E.sz<=n*E.sz:=Nat.le_mul_of_pos_left _ m.1;refine aY.of a ?_;unfold JM;simp[n0,M,l];refine bm.call (V:=λv q=>v=.tuple #[.int .u64 0,.int .u64 (n:Nat)]/\q=h) (ak (UL h n m.2)) ?_;rintro _ q⟨rfl,e⟩;subst e;simp[r,D,u,N,F,A,y,bh,S,o,E.len,RF E w U,H,-ay];have g:az aV q (put (aM q (E.flat (an n w)) 0) q.ax 0 (E.flat (an n w)) (E.enc x) 0):=(az.refl W).var _ _;have V:(put (aM q (E.flat (an n w)) 0) q.ax 0 (E.flat (an n w)) (E.enc x) 0).tr.get q.ax=Z (.ch (E.flat (filled x w 1 n)) b9 0 q.clock):=by rw[bc,Qr];have:=OI E x w (k:=0) (m:=1) (n:=n) J;simp only[filled,List.replicate_zero,List.nil_append,Nat.sub_zero,aaf,Je,List.replicate_one,E.iJ,E.afc,ye] at this⊢;rw[this]
 refine aN.cut (λX=>az aV q X/\c_ X q.ax (E.flat (filled x w 1 n))) ⟨g,_,V⟩ ?_;rintro X⟨t,j,H⟩;refine aN.loop (λi e h2=>∃k:Nat,i=n-k/\1<=k/\k<=n/\bX e 7=c6 (Z ⟨q.ax,0,K⟩) n n/\bz e 8 k/\az aV q h2/\c_ h2 q.ax (E.flat (filled x w k n))) ?_ (n:=n-1)
  ⟨1,Q,fE _,m.1,ag,ag,t,j,H⟩
 rintro i e h2⟨k,rfl,r,H,N,M,O,T,A⟩;unfold Mt;by_cases l:k<n
 .have C:wA k (n-k)=min k (n-k):=Q;have⟨j,I⟩:∃j,j=min k (n-k):=⟨_,Q⟩;rw[<-I] at C;have F:¬j=0:=J
  have U:k<=n:=J
  have r:cC h2 q.ax 0 (j*E.sz)=Z (E.flat (an j x)):=by have G:j*E.sz<=Y (filled x w k n)*E.sz:=Gd _ (by simp[filled];omega);rw[fm A (ak G),qA,E.ij];congr 2;rw[filled,List.take_append_of_le_length (by simp;omega),List.take_replicate,Nat.min_eq_left J]
  have i:k*E.sz+j*E.sz<=Y (filled x w k n)*E.sz:=by rw[<-qB];exact Gd _ (by simp[filled];omega)
  have⟨y,B⟩:∃y,y=k+j:=⟨_,Q⟩;have G:IntKind.i64.wrap ((k:Int)+(j:Int))=(y:Int):=by rw[bZ _ J J];omega
  have I:(k:Int)<(n:Int):=J
  simp[N,M,l,I,C,F,U,A,aK,r,i,G,-ay];refine⟨n-y,J,y,Q,J,J,ag,?_,?_⟩;exact az.put O.tick ⟨_,A⟩ (.inl (fE _));rw[B,<-OI E x w J]
 .have:k=n:=J
  subst this;simp[N,M];refine⟨O,T,?_⟩;rw[A];simp[filled]
def x5:ly (Int×Int):=⟨λx=>[dC ef x.1,dC ef x.2],2,λ_=>rfl,ai,λ_=>rfl⟩
@[simp] def aiT:x5.sz=2:=rfl
@[simp] def aro(x:Int×Int):x5.enc x=[dC ef x.1,dC ef x.2]:=rfl
def dx{E:ly α}{x:α}(j:h.tr.get b=Z (.ch (E.enc x) ro o s)):bj E h (c6 (Z ⟨b,0,K⟩) 1 c) [x]:=
 ⟨_,c,Q,ft ⟨b,0,_,ro,o,s,Q,j,by simp[E.len],by simp[nz,E.len]⟩⟩
def U4(m:cy h)(n:Nat)(q:0<n/\n<1000000){b ro o s c:Nat}(w:h.tr.get b=Z (.ch [dC ef x] i o s)):aY FF 144 [c6 (Z ⟨b,0,K⟩) 1 c,dC ef n] h (λv j=>az aV h j/\∃d s,v=c6 (Z ⟨d,0,K⟩) n n/\h.ax<=d/\j.tr.get d=Z (.ch (encI.flat (an n x)) b9 0 s)):=
 IP encI (z:=[dC .i64 0]) (bytes:=8) px ai 0 x rfl m n q (dx w)
def Mv(m:cy h)(n:Nat)(q:0<n/\n<1000000){b ro o s c:Nat}{x:Int×Int}(w:h.tr.get b=Z (.ch [dC ef x.1,dC ef x.2] i o s)):aY FF 86 [c6 (Z ⟨b,0,K⟩) 1 c,dC ef n] h (λv j=>az aV h j/\∃d s,v=c6 (Z ⟨d,0,K⟩) n n/\h.ax<=d/\j.tr.get d=Z (.ch (x5.flat (an n x)) b9 0 s)):=
 IP x5 (z:=[dC ef 0,dC .i64 0]) (bytes:=16) fY ai (0,0) x rfl m n q (dx w)
def acF(h:aB):aY FF 146 [.int .u64 1,.int .u64 0] h (λv j=>v=.tuple #[.int .u64 0,.int .u64 0]/\j=h):=ak (UL h 0 J)
def IQ(E:ly α)(y:FF f=Z ⟨[.tmp 4],JM z E.sz bytes,.no⟩)(H:Y z=E.sz)(A:cy h){b j c:Nat} :aY FF f [c6 (Z ⟨b,j,K⟩) 1 c,dC ef 0] h (λv j=>az aV h j/\∃d s,v=c6 (Z ⟨d,0,K⟩) 0 0/\h.ax<=d/\j.tr.get d=Z (.ch [] b9 0 s)):=by
 have q:=E.pos;have w:IntKind.u64.wrap 1=1:=wrap_u64 _ J J;have D:IntKind.u64.wrap 0=0:=wrap_u64 _ J J;have m:IntKind.i64.wrap 0=0:=bZ _ J J;have G:wA 1 0=0:=Q;refine aY.of y ?_;unfold JM;simp[w,D];refine bm.call (V:=λv j=>v=.tuple #[.int .u64 0,.int .u64 0]/\j=h) (ak (acF h)) ?_;rintro _ j⟨rfl,e⟩;subst e;simp[m,roomy,H,q,jG,G];rw[CP];unfold Mt;simp;exact aZ A _ _
def ahc(j:cy h)(n:Nat)(q:n<1000000){b o s c:Nat}{x:Int×Int}(w:h.tr.get b=Z (.ch [dC ef x.1,dC ef x.2] i o s)):aY FF 86 [c6 (Z ⟨b,0,K⟩) 1 c,dC ef n] h (λv m=>az aV h m/\∃d s,v=c6 (Z ⟨d,0,K⟩) n n/\h.ax<=d/\m.tr.get d=Z (.ch (x5.flat (an n x)) b9 0 s)):=by
 cases n with
 |zero=>exact IQ x5 (z:=[dC ef 0,dC .i64 0]) (bytes:=16) fY rfl j
 |succ n=>exact Mv j (n+1) ⟨J,q⟩ (ro:=0) w
def Mu(j:cy h)(n:Nat)(q:n<1000000){b o s c:Nat}(w:h.tr.get b=Z (.ch [dC ef x] i o s)):aY FF 144 [c6 (Z ⟨b,0,K⟩) 1 c,dC ef n] h (λv m=>az aV h m/\∃d s,v=c6 (Z ⟨d,0,K⟩) n n/\h.ax<=d/\m.tr.get d=Z (.ch (encI.flat (an n x)) b9 0 s)):=by
 cases n with
 |zero=>exact IQ encI (z:=[dC .i64 0]) (bytes:=8) px rfl j
 |succ n=>exact U4 j (n+1) ⟨J,q⟩ (ro:=0) w
def mu(q:cy h){y:qo}(w:h.tr.get l=Z y)(m:Env)(y:List Nat)(j A:aG)(a:Wz):az (· =l) h (gm h l m y j A a):=by refine⟨fE _,fE _,λx j A=>?_,⟨λx o j=>?_,λx y ro o s j=>?_⟩⟩;simp only[gm,Tr.bS];rw[bM A];simp only[gm,Tr.bS] at j⊢;by_cases e:x=l;subst e;exact q.wf _ _ w;rw[bM e] at j;exact q.wf x o j;simp only[gm,Tr.bS] at j⊢;by_cases e:x=l;rw[bH e] at j;cases j;rw[bM e] at j;exact q.st x y ro o s j
def sy(h:aB)(l:Nat)(j:Env)(a:List Nat)(b c:aG)(d:Wz):(gm h l j a b c d).tr.get l=Z (.loop j a b c d):=by simp[gm,Tr.bS]
def Zc{S:Nat->Prop}(O:cy X){l m q:Nat}{b a:aG}{D A:aa}{Kp:aB->Prop}(I:¬S l)(G:X.tr.get l=Z (.loop e [m,q] b a .ready))(H:aN FF b (Tr.set (Tr.set e m D) q A) X (λx M h2=>x=.normal/\az aV X h2/\∀E,az (· =l) h2 E->aN FF a M E (λx _ j=>x=.normal/\az S E j/\Kp j)))(U:∀j w,Kp j->cy j->az (· =l) j w->Kp w):dQ FF (.func (.yield l) #[] #[]) [D,A] X (λr w=>r=dd cd/\az (λx=>S x\/x=l) X w/\w.tr.get l=Z (.loop e [m,q] b a .ready)/\Kp w):=by
 refine dQ.yield G (by simp[fW];rfl) ?_;refine H.mono ?_;rintro x M h2⟨rfl,D,N⟩;have M:=D.get O G;refine⟨Q,M,?_⟩;have w:=mu D.ok M e [m,q] b a .busy;refine(N _ w).mono ?_;rintro x A j⟨rfl,A,W⟩;have y:=A.get w.ok (sy h2 l e [m,q] b a .busy) I;have I:=mu A.ok y e [m,q] b a .ready;refine⟨⟨_,_,_,_,y,Q,Q,Q,Q⟩,Q,?_,sy _ _ _ _ _ _ _,U _ _ W A.ok I⟩;exact((D.cr.trans' w aj (λ_ _ h=>ft h)).trans' A aj (λ_ _ h=>fc h)).trans' I aj (λ_ _ h=>ft h)
def Nv(h:aB)(to:SV):aY FF 148 [to.v] h (λv j=>v=.func (.func 210) #[] #[dB (Z ⟨h.ax,0,K⟩)]/\j=aM h [to.v] 0):=by refine aY.of wR ?_;unfold mD;simp
def BwI(a:List Int)(y:aa)(b:Nat)(I:Nat->aB->Prop)(m:Nat)(e:Env)(h2:aB):Prop:=m<=Y a/\bX e 0=y/\cg e 1 b/\bz e 3 ((m:Int)-1)/\I m h2
def Kb{h0 h:aB}(k:cy h0){T:SV}{a:List Int}(f:ae nR 1 h0 T.v a)(z:Y a<1000000){y:aa}(I:Nat->aB->Prop)(W:∀j h2,I j h2->az aV h0 h2/\c_ h2 b [T.v])(H:∀j x h2,a[j]?=Z x->I (j+1) h2->dQ FF y [dC ef j,dC ef x] h2 (λv A=>v=dd cd/\I j A))(q:I (Y a) h):aY FF 210 [y,dB (Z ⟨b,0,K⟩)] h (λ_ A=>I 0 A):=by
 have N:=ae.len f;have⟨_,O,p⟩:=W _ _ q;simp at p;have w:=bZ ((Y a:Int)-1) J J;refine aY.of uI ?_;unfold kz;simp[p,N,w];refine aN.loop (BwI a y b I) ?_ (n:=Y a) ⟨fE _,ag,ag,ag,q⟩;rintro m e h2⟨g,G,O,D,q⟩;unfold jN;cases m with
 |zero=>
  have:¬(0:Int)<= -1:=J
  simp[D];exact q
 |succ j=>
  have z:a[j]?=Z a[j]:=iK J;generalize a[j]=x at z;have⟨i,s,E⟩:=W _ _ q;simp at E;obtain⟨P,C,c,r,_,_,rfl,_,l⟩:=ae.later k f z;have U:=l h2 i 0 1 ai;simp[-ay] at U;have X:(((j+1:Nat):Int)-1)=(j:Int):=J
  rw[X] at D;have g:j<Y a:=J
  have S:=bZ ((j:Int)-1) J J;rw[r,N] at E;simp[G,O,D,aD E,g,U,-ay];refine bm.fB (V:=λv A=>v=dd cd/\I j A) (by simpa [G] using H j x h2 z q) ?_;rintro _ A⟨rfl,M⟩;simp[D,S];exact⟨j,J,J,av G,av O,ag,M⟩
end Go.Proofs.YtdhnndleffachaaGreatDoor
namespace Go.Proofs.YtdhnndleffachaaGreatDoor
open Go Go.AI
variable{d:List aa}{h:aB}{sz:Nat}{v:aa}{e g:Type}
def Ck:Ty:=.pair .bool (.pair (.int ef) .unit)
def aaB:Ty:=.pair (.int ef) (.pair (.int ef) (.pair Ck (.pair Ck (.pair (.int ef) (.pair (.sl Ck) .unit)))))
def aaR:Ty:=.pair (.int ef) (.pair (.sl Ck) .unit)
def art:Ty:=.pair (.int ef) (.pair Ck (.pair (.sl (.int ef)) .unit))
def Cr:Ty:=.pair (.sl aaR) (.pair (.sl aaB) (.pair art .unit))
def QJ:Ty:=.pair .str (.pair (.int ef) (.pair (.int ef) (.pair (.sl Cr) .unit)))
def Gc:Ty:=.pair .str (.pair (.int ef) (.pair (.sl (.int ef)) .unit))
def Ic:Ty:=.pair (.sl Gc) (.pair (.sl QJ) .unit)
def rL{R:List aa->e->Prop}{w:List aa->g->Prop}{A:List e}(f:e->g)(s:ae R sz h v A)(H:∀c x,R c x->w c (f x)):ae w sz h v (A.map f):=by obtain⟨a,j,rfl,s⟩:=s;refine⟨a,j,by rw[yd],?_⟩;rcases s with⟨rfl,s⟩|⟨b,i,d,A,o,q,rfl,D,m⟩;exact fc ⟨Q,s⟩;refine ft ⟨b,i,d,A,o,q,Q,D,λi y q=>?_⟩;rw[gu,Option.map_eq_some_iff] at q;obtain⟨x,A,rfl⟩:=q;exact⟨(m i x A).1,H _ _ (m i x A).2⟩
def qg{R:List aa->e->Prop}{a:List e}(s:ae R sz h v a):∃S:SV,v=S.v:=by obtain⟨S,j,rfl,_⟩:=s;exact⟨⟨S,Y a,j⟩,Q⟩
def Wa(x:Ck.den):Bool×Int:=(x.1,x.2.1)
def toI(x:aaB.den):GI:=⟨x.1,x.2.1,Wa x.2.2.1,Wa x.2.2.2.1,x.2.2.2.2.1,nS Wa x.2.2.2.2.2.1⟩
def toP(x:aaR.den):GP:=⟨x.1,nS Wa x.2.1⟩
def toB(x:Cr.den):GB:=⟨nS toP x.1,nS toI x.2.1,x.2.2.1.1,Wa x.2.2.1.2.1,nS id x.2.2.1.2.2.1⟩
def toF(x:QJ.den):GF:=⟨x.1,x.2.1,x.2.2.1,nS toB x.2.2.2.1⟩
def toG(x:Gc.den):GG:=⟨x.1,x.2.1,nS id x.2.2.1⟩
def toU(x:Ic.den):GU:=⟨nS toG x.1,nS toF x.2.1⟩
def JP{x:Ck.den}(r:rep Ck h d x):vR d (Wa x):=by have⟨a,b,_⟩:=x;obtain⟨y,_,rfl,j,w,_,rfl,q,m⟩:=r;simp only[rep] at j q m;subst j q m;rfl
def U2{a:List Int}(s:ae (rep (.int ef) h) (Ty.sz (.int ef)) h v a):ae nR 1 h v (nS id a):=
 rL id s λc x r=>by simpa [rep,nR] using r
def U3{a:List Ck.den}(s:ae (rep Ck h) Ck.sz h v a):ae vR 2 h v (nS Wa a):=
 rL Wa s λ_ _ r=>JP r
def akd{x:aaB.den}(r:rep aaB h d x):iR h d (toI x):=by obtain⟨q,q,a,b,q,D,_⟩:=x;obtain⟨q,_,rfl,q,A,_,rfl,y,E,_,rfl,j,I,_,rfl,a,G,_,rfl,m,H,_,rfl,⟨v,rfl,s⟩,w⟩:=r;have j:=JP j;have a:=JP a;simp only[rep,vR] at q y j a m w;subst q y j a m w;obtain⟨S,rfl⟩:=qg s;exact⟨S,Q,U3 s⟩
def ake{x:aaR.den}(r:rep aaR h d x):pR h d (toP x):=by have⟨y,q,_⟩:=x;obtain⟨y,_,rfl,j,w,_,rfl,⟨v,rfl,s⟩,m⟩:=r;simp only[rep] at j m;subst j m;obtain⟨S,rfl⟩:=qg s;exact⟨S,Q,U3 s⟩
def ada{x:Cr.den}(r:rep Cr h d x):bR h d (toB x):=by have⟨H,G,⟨k,on,U,_⟩,_⟩:=x;obtain⟨x,_,rfl,⟨I,rfl,a⟩,M,_,rfl,⟨O,rfl,x⟩,N,_,rfl,⟨w,_,rfl,w,j,_,rfl,j,W,_,rfl,⟨E,rfl,b⟩,q⟩,m⟩:=r;have j:=JP j;simp only[rep,vR] at w j q m;subst w j q m;obtain⟨D,rfl⟩:=qg a;obtain⟨y,rfl⟩:=qg x;obtain⟨A,rfl⟩:=qg b;exact⟨D,y,A,Q,rL toP a λ_ _ r=>ake r,rL toI x λ_ _ r=>akd r,U2 b⟩
def aha{x:QJ.den}(r:rep QJ h d x):fR h d (toF x):=by have⟨n,p,q,E,_⟩:=x;obtain⟨G,_,rfl,j,A,_,rfl,y,D,_,rfl,m,H,_,rfl,⟨v,rfl,s⟩,w⟩:=r;simp only[rep] at j y m w;subst j y m w;obtain⟨S,rfl⟩:=qg s;exact⟨S,Q,rL toB s λ_ _ r=>ada r⟩
def YX{x:Gc.den}(r:rep Gc h d x):gR h d (toG x):=by have⟨n,p,y,_⟩:=x;obtain⟨A,_,rfl,j,w,_,rfl,q,D,_,rfl,⟨v,rfl,s⟩,m⟩:=r;simp only[rep] at j q m;subst j q m;obtain⟨S,rfl⟩:=qg s;exact⟨S,Q,U2 s⟩
def ahb{x:Ic.den}(r:rep Ic h d x):∃G F:SV,d=[G.v,F.v]/\uR h G F (toU x):=by obtain⟨F,F,_⟩:=x;obtain⟨D,_,rfl,⟨A,rfl,F⟩,w,_,rfl,⟨y,rfl,x⟩,j⟩:=r;simp only[rep] at j;subst j;obtain⟨q,rfl⟩:=qg F;obtain⟨m,rfl⟩:=qg x;exact⟨q,m,Q,rL toG F λ_ _ r=>YX r,rL toF x λ_ _ r=>aha r⟩
def map_le(f:e->g)(l:List e)(h:Y l<=140737488351232):Y (nS f l)<=140737488355328:=by rw[yd];omega
def aeR{x:Ic.den}(b:Bd (Z 140737488351232) Ic x):Small (toU x)/\Hf (toU x):=by
 have⟨j,H,_⟩:=x;have⟨⟨G,M⟩,⟨A,U⟩,_⟩:=b;have G:=G _ rfl;have A:=A _ rfl;have w:∀b:Cr.den,Bd (Z 140737488351232) Cr b->zJ (toB b):=by
  rintro⟨D,D,⟨k,on,D,_⟩,_⟩ ⟨⟨D,I⟩,⟨E,W⟩,⟨_,_,⟨y,_⟩,_⟩,_⟩;have D:=D _ rfl;have E:=E _ rfl;have y:=y _ rfl;refine⟨?_,?_,?_,λp O=>?_,λx x=>?_⟩
  exact map_le _ _ D;exact map_le _ _ E;exact map_le _ _ y;obtain⟨y,m,rfl⟩:=iT.1 O;have⟨_,⟨a,_⟩,_⟩:=I y m;have a:=a _ rfl;exact map_le _ _ a
  obtain⟨y,m,rfl⟩:=iT.1 x;have⟨_,_,_,_,_,⟨a,_⟩,_⟩:=W y m;have a:=a _ rfl;exact map_le _ _ a
 have q:∀f∈(toU ⟨j,H,()⟩).funcs,Fits f.blocks/\∀b∈f.blocks,zJ b:=by
  intro f q;obtain⟨y,m,rfl⟩:=iT.1 q;have⟨_,_,_,⟨a,E⟩,_⟩:=U y m;have a:=a _ rfl;have j:∀b∈(toF y).blocks,zJ b:=by intro b H;obtain⟨z,N,rfl⟩:=iT.1 H;exact w z (E z N)
  exact⟨⟨map_le _ _ a,λb w=>⟨(j b w).ph,(j b w).li⟩⟩,j⟩
 refine⟨⟨?_,λf h=>(q f h).1⟩,λg j=>?_,λf h=>(q f h).1,λf h=>(q f h).2⟩;exact map_le _ _ A;obtain⟨y,m,rfl⟩:=iT.1 j;have⟨_,_,⟨a,_⟩,_⟩:=M y m;have a:=a _ rfl;exact map_le _ _ a
end Go.Proofs.YtdhnndleffachaaGreatDoor
namespace Go.AI.Dfs
variable{b n x:Nat}{l:List Nat}
structure DS where
 seen:List Bool
 left:List Nat
def row(a:List (List Nat))(b:Nat):List Nat:=(a[b]?).getD []
def visitM(c:List (List Nat)):Nat->Nat->DS->DS
 |0,_,s=>s
 |k+1,b,s=>
  let a:=(row c b).reverse.foldl (λs t=>if s.seen[t]?=Z cd then s else visitM c k t s) ⟨s.seen.set b cd,s.left⟩
  ⟨a.seen,a.left++[b]⟩
def foldM(a:List (List Nat))(k:Nat)(l:List Nat)(s:DS):DS:=l.foldl (λs t=>if s.seen[t]?=Z cd then s else visitM a k t s) s
def gZ(a:List (List Nat))(k b:Nat)(s:DS):visitM a (k+1) b s=⟨(foldM a k (row a b).reverse ⟨s.seen.set b cd,s.left⟩).seen,(foldM a k (row a b).reverse ⟨s.seen.set b cd,s.left⟩).left++[b]⟩:=Q
def yQ(a:List (List Nat))(k:Nat)(s:DS):foldM a k [] s=s:=Q
def kR(a:List (List Nat))(k t:Nat)(l:List Nat)(s:DS):foldM a k (t::l) s=foldM a k l (if s.seen[t]?=Z cd then s else visitM a k t s):=Q
structure Z5(n:Nat)(s s':DS)(new:List Nat):Prop where
 left:s'.left=s.left++new
 len:Y s'.seen=n
 seen:∀x,s'.seen[x]?=Z cd↔(s.seen[x]?=Z cd\/x∈new)
 fresh:∀x∈new,¬s.seen[x]?=Z cd/\x<n
 nodup:new.Nodup
def zF(l:List Nat)(x p:Nat):Prop:=∃m j,l=m++x::j/\p∈j
def zF.app{x p:Nat}(h:zF l x p)(a b:List Nat):zF (a++l++b) x p:=by obtain⟨m,q,rfl,j⟩:=h;exact⟨a++m,q++b,ag,List.mem_append_left _ j⟩
def zF.last(h:x∈l):zF (l++[b]) x b:=by obtain⟨j,m,rfl⟩:=List.append_of_mem h;exact⟨j,m++[b],ag,ag⟩
def de(s:DS):Nat:=s.seen.countP (λx=> !x)
def Z5.trans{s e j:DS}{m q:List Nat}(c:Z5 n s e m)(a:Z5 n e j q):Z5 n s j (m++q):=by
 refine⟨by rw[a.left,c.left,KN],a.len,λx=>?_,λx j=>?_,?_⟩;rw[a.seen,c.seen,jL,or_assoc];rcases jL.1 j with j|j;exact c.fresh x j;have:=a.fresh x j;exact⟨λe=>this.1 ((c.seen x).2 (fc e)),this.2⟩
 refine L9.2 ⟨c.nodup,a.nodup,λj w b y e=>?_⟩;subst e;exact(a.fresh j y).1 ((c.seen j).2 (ft w))
def countP_set{l:List Bool}(h:l[b]?=Z b9):(l.set b cd).countP (λx=> !x)+1=l.countP (λx=> !x):=by
 induction l generalizing b with
 |nil=>simp at h
 |cons a l j=>
  cases b with
  |zero=>simp at h;subst h;simp[w9]
  |succ b=>
   simp at h;have:=j h;rw[J4,jj,jj];omega
def countP_le{l m:List Bool}(j:Y l=Y m)(h:∀x:Nat,l[x]?=Z cd->m[x]?=Z cd):m.countP (λx=> !x)<=l.countP (λx=> !x):=by
 induction l generalizing m with
 |nil=>cases m with
  |nil=>simp
  |cons b m=>simp at j
 |cons a l q=>
  rcases m with _|⟨b,m⟩;simp at j;simp at j;have:=q j (λx w=>by have:=h (x+1) (ak w);simpa using this);have j:=h 0;simp at j;rw[jj,jj];cases a<;>cases b<;>simp_all<;>omega
section
variable{d:List (List Nat)}{n:Nat}
def ZX(d:List (List Nat))(n b:Nat)(s j:DS):Prop:=
 ∃a,Z5 n s j (a++[b])/\(∀x∈a++[b],∀t∈row d x,j.seen[t]?=Z cd)/\∀x∈a,∃p,x∈row d p/\zF (a++[b]) x p
def alR(d:List (List Nat))(n:Nat)(l:List Nat)(s j:DS):Prop:=
 ∃a,Z5 n s j a/\(∀x∈a,∀t∈row d x,j.seen[t]?=Z cd)/\(∀t∈l,j.seen[t]?=Z cd)/\∀x∈a,x∈l\/∃p,x∈row d p/\zF a x p
def QI(H:∀b t,t∈row d b->t<n){k:Nat}(E:∀b s,Y s.seen=n->b<n->¬s.seen[b]?=Z cd->de s<=k->ZX d n b s (visitM d k b s)):∀(l:List Nat)(s:DS),Y s.seen=n->(∀t∈l,t<n)->de s<=k->alR d n l s (foldM d k l s)
 |[],s,q,_,_=>⟨[],⟨by simp[yQ],q,by simp[yQ],ag,.nil⟩,ag,ag,ag⟩
 |t::l,s,q,A,y=>by
  rw[kR];by_cases w:s.seen[t]?=Z cd;rw[bH w];have⟨e,a,c,h,m⟩:=QI H E l s q (λx j=>A x (vU _ j)) y;refine⟨e,a,c,λx j=>?_,λx j=>?_⟩;rcases bd.1 j with rfl|j;exact(a.seen x).2 (fc w);exact h x j;rcases m x j with h|h;exact fc (vU _ h);exact ft h
  .rw[bM w];have⟨e,m,U,f⟩:=E t s q (A t (iz ..)) w y;have G:de (visitM d k t s)<=k:=wV (countP_le (by rw[q,m.len]) (λx j=>(m.seen x).2 (fc j))) y;have⟨M,D,W,N,O⟩:=QI H E l _ m.len (λx j=>A x (vU _ j)) G;refine⟨e++[t]++M,m.trans D,λx j u I=>?_,λx j=>?_,λx j=>?_⟩
   rcases jL.1 j with j|j;exact(D.seen u).2 (fc (U x j u I));exact W x j u I;rcases bd.1 j with rfl|j;exact(D.seen x).2 (fc ((m.seen x).2 (ft ag)));exact N x j;rcases jL.1 j with j|j;rcases jL.1 j with j|j;have⟨p,a,c⟩:=f x j;exact ft ⟨p,a,ak (c.app [] M)⟩;simp at j;subst j;exact fc (iz ..);rcases O x j with h|⟨p,a,c⟩;exact fc (vU _ h);exact ft ⟨p,a,ak (c.app (e++[t]) [])⟩
def MZ(D:∀b t,t∈row d b->t<n):∀(k b:Nat)(s:DS),Y s.seen=n->b<n->¬s.seen[b]?=Z cd->de s<=k->ZX d n b s (visitM d k b s)
 |0,b,s,I,H,m,y=>by
  exfalso;have w:s.seen[b]?=Z b9:=by rw[iK J] at m⊢;cases h:s.seen[b];rfl;rw[h] at m;exact absurd rfl m
  have:=countP_set w;unfold de at y;omega
 |k+1,b,s,I,H,m,y=>by
  have w:s.seen[b]?=Z b9:=by rw[iK J] at m⊢;cases h:s.seen[b];rfl;rw[h] at m;exact absurd rfl m
  have E:=countP_set w;have⟨z,v,c,t,p⟩:=QI D (MZ D k) (row d b).reverse ⟨s.seen.set b cd,s.left⟩ (ak I) (λx j=>D b x (jT.1 j)) (by unfold de at y⊢;dsimp only;omega);rw[gZ];have A:∀x,(s.seen.set b cd)[x]?=Z cd↔(s.seen[x]?=Z cd\/x=b):=by intro x;rw[fq];by_cases e:b=x;subst e;simp;omega;rw[bM e];simp[Ne.symm e]
  refine⟨z,⟨by rw[v.left];simp,v.len,λx=>?_,λx j=>?_,?_⟩,λx j u G=>?_,λx j=>?_⟩;have:=v.seen x;dsimp only at this⊢;rw[this,A,jL];simp;constructor;rintro((h|h)|h);exact fc h;exact ft (ft h);exact ft (fc h);rintro(h|h|h);exact fc (fc h);exact ft h;exact fc (ft h);rcases jL.1 j with j|j;have:=v.fresh x j;exact⟨λe=>this.1 ((A x).2 (fc e)),this.2⟩;simp at j;subst j;exact⟨m,H⟩
  refine L9.2 ⟨v.nodup,ag,λa z c E e=>?_⟩;simp at E;subst e;subst E;exact(v.fresh a z).1 ((A a).2 (ft Q));rcases jL.1 j with j|j;exact c x j u G;simp at j;subst j;exact t u (jT.2 G);rcases p x j with h|⟨q,s,g⟩;exact⟨b,jT.1 h,zF.last j⟩;exact⟨q,s,ak (g.app [] [b])⟩
end
def oJ{s:DS}(q:b<Y s.seen)(j:¬s.seen[b]?=Z cd):de ⟨s.seen.set b cd,s.left⟩+1=de s:=by
 have m:s.seen[b]?=Z b9:=by rw[iK q] at j⊢;cases h:s.seen[b];rfl;rw[h] at j;exact absurd rfl j
 exact countP_set m
def KL{a:List (List Nat)}{k:Nat}(j:∀b s,Y ((visitM a k b s).seen)=Y s.seen):∀(l:List Nat)(s:DS),Y ((foldM a k l s).seen)=Y s.seen
 |[],s=>rfl
 |t::l,s=>by rw[kR,KL j l];split;rfl;exact j t s
def Ie(a:List (List Nat)):∀(k b:Nat)(s:DS),Y ((visitM a k b s).seen)=Y s.seen
 |0,_,_=>rfl
 |k+1,b,s=>by rw[gZ];dsimp only;rw[KL (Ie a k)];simp
def vQ{a:List (List Nat)}{k n:Nat}(j:∀b s,Y s.seen=n->b<n->¬s.seen[b]?=Z cd->Y ((visitM a k b s).left)+de (visitM a k b s)<=Y s.left+de s):∀(l:List Nat)(s:DS),Y s.seen=n->(∀t∈l,t<n)->Y ((foldM a k l s).left)+de (foldM a k l s)<=Y s.left+de s
 |[],s,_,_=>fE _
 |t::l,s,w,m=>by rw[kR];split;exact vQ j l s w (λx q=>m x (vU _ q));rename_i h;have c:=j t s w (m t (iz ..)) h;have h:=vQ j l (visitM a k t s) (by rw[Ie];exact w) (λx q=>m x (vU _ q));omega
def xU{a:List (List Nat)}{n:Nat}(j:∀b t,t∈row a b->t<n):∀(k b:Nat)(s:DS),Y s.seen=n->b<n->¬s.seen[b]?=Z cd->Y ((visitM a k b s).left)+de (visitM a k b s)<=Y s.left+de s
 |0,_,_,_,_,_=>fE _
 |k+1,b,s,w,y,q=>by have y:=oJ (s:=s) (b:=b) J q;have q:=vQ (xU j k) (row a b).reverse ⟨s.seen.set b cd,s.left⟩ (ak w) (λt m=>j b t (jT.1 m));rw[gZ];dsimp only at q⊢;rw[IA];have:de ⟨(foldM a k (row a b).reverse ⟨s.seen.set b cd,s.left⟩).seen,(foldM a k (row a b).reverse ⟨s.seen.set b cd,s.left⟩).left++[b]⟩=de (foldM a k (row a b).reverse ⟨s.seen.set b cd,s.left⟩):=Q;rw[this];simp only[List.length_singleton];omega
def NJ(l:List Bool)(b:Nat):(l.set b cd).countP (λx=> !x)<=l.countP (λx=> !x):=by
 induction l generalizing b with
 |nil=>simp
 |cons a l j=>
  cases b with
  |zero=>rw[w9,jj,jj];simp
  |succ b=>rw[J4,jj,jj];have:=j b;omega
def xB{a:List (List Nat)}{k:Nat}(j:∀b s,de (visitM a k b s)<=de s):∀(l:List Nat)(s:DS),de (foldM a k l s)<=de s
 |[],s=>fE _
 |t::l,s=>by rw[kR];refine wV (xB j l _) ?_;split;exact fE _;exact j t s
def Au(a:List (List Nat)):∀(k b:Nat)(s:DS),de (visitM a k b s)<=de s
 |0,_,_=>fE _
 |k+1,b,s=>by rw[gZ];have c:=xB (Au a k) (row a b).reverse ⟨s.seen.set b cd,s.left⟩;have a:de ⟨s.seen.set b cd,s.left⟩<=de s:=NJ _ _;exact wV c a
def uD(a:List (List Nat))(n:Nat):List Nat:=(visitM a n 0 ⟨an n b9,[]⟩).left
def JK{tos:List (List Nat)}(q:0<n)(m:∀b t,t∈row tos b->t<n):(uD tos n).Nodup/\(∀x∈uD tos n,x<n)/\(∃h,uD tos n=h++[0])/\(∀x∈uD tos n,∀t∈row tos x,t∈uD tos n)/\∀x∈uD tos n,x≠0->∃p,x∈row tos p/\zF (uD tos n) x p:=by
 have⟨h,v,c,p⟩:=MZ m n 0 ⟨an n b9,[]⟩ ag q (by simp[TV]) (by unfold de;exact wV (List.countP_le_length) ag);have q:uD tos n=h++[0]:=by unfold uD;rw[v.left];simp
 rw[q];refine⟨v.nodup,λx j=>(v.fresh x j).2,⟨h,Q⟩,λx j t m=>?_,λx j h=>?_⟩;have:=(v.seen t).1 (c x j t m);rcases this with h|h;simp[TV] at h;exact h;rcases jL.1 j with j|j;exact p x j;simp at j;exact absurd j h
end Go.AI.Dfs
namespace Go.Proofs.YtdhnndleffachaaGreatDoor
open Go.AI
variable{Fb Lf S V n sb:Nat}{h h0:aB}{name:ByteArray}{p r:Int}
def tG:ly Bool:=⟨λx=>[dd x],1,λ_=>rfl,ai,λ_=>rfl⟩
@[simp] def avd:tG.sz=1:=rfl
@[simp] def arl(x:Bool):tG.enc x=[dd x]:=rfl
def ag8{W:Nat}{j:List Bool}{o s:Nat}{k:Bool}(q:h.tr.get W=Z (.ch (tG.flat j) k o s)){k:Nat}{x:Bool}(m:j[k]?=Z x):cC h W k 1=Z [dd x]:=by have w:=(cR.mp m).1;rw[fm q (by rw[tG.eN];show k+1<=Y j*1;omega)];have:=tG.rm j k 0 1 x m ai;simp only[Jk] at this;rw[show k=k*tG.sz from(og k).symm,this];rfl
def Vw(j:List Bool)(i:Nat)(x:Bool)(h:i<Y j):bg (tG.flat j) i [dd x]=tG.flat (j.set i x):=by have:=tG.tz j i x h;simpa using this
def gT(b:List GB):List (List Nat):=b.map λb=>b.to.map u1
structure JB(h0 h:aB)(n S sb Fb V Lf:Nat)(name:ByteArray)(p r:Int)(B L:SV)(s:Dfs.DS):Prop where
 g:az aV h0 h
 n1:h0.ax<=sb
 n2:h0.ax<=Lf
 hS:c_ h S [c6 (Z ⟨sb,0,K⟩) n n]
 HG:c_ h sb (tG.flat s.seen)
 hF:c_ h Fb (aC name p r B)
 hV:c_ h V [.func (.func 147) #[] #[dB (Z ⟨S,0,K⟩),dB (Z ⟨Fb,0,K⟩),dB (Z ⟨V,0,K⟩),dB (Z ⟨Lf,0,K⟩)]]
 hL:c_ h Lf [L.v]
 acc:bx encI h0.ax h L.v (s.left.map λx:Nat=>(x:Int))
 len:Y s.seen=n
 ll:Y s.left+Dfs.de s<=n
 ne:S≠sb/\S≠Lf/\sb≠Fb/\sb≠V/\sb≠Lf/\Fb≠Lf/\V≠Lf
 vP:∀b,bD L.v b->b≠S/\b≠sb/\b≠Fb/\b≠V/\b≠Lf
def PW(sb Lf:Nat)(L:SV)(x:Nat):Prop:=x=sb\/x=Lf\/bD L.v x
def aeF(S sb Fb V Lf:Nat)(L:SV)(x:Nat):Prop:=x=S\/x=sb\/x=Fb\/x=V\/x=Lf\/bD L.v x
def JB.yZ{h0 h m:aB}{B L:SV}{s:Dfs.DS}(w:JB h0 h n S sb Fb V Lf name p r B L s){a:Nat->Prop}(g:az a h m)(j:∀x,aeF S sb Fb V Lf L x->¬a x)(x:az aV h0 m):JB h0 m n S sb Fb V Lf name p r B L s:=by
 have⟨B,L⟩:=w.hS;have⟨q,s⟩:=w.HG;have⟨y,G⟩:=w.hF;have⟨E,A⟩:=w.hV;have⟨I,D⟩:=w.hL;have m:=w.g.ok;exact⟨x,w.n1,w.n2,⟨B,g.get m L (j _ (fc Q))⟩,⟨q,g.get m s (j _ (ft (fc Q)))⟩,⟨y,g.get m G (j _ (ft (ft (fc Q))))⟩,⟨E,g.get m A (j _ (ft (ft (ft (fc Q)))))⟩,⟨I,g.get m D (j _ (ft (ft (ft (ft (fc Q))))))⟩,w.acc.grow m g (λb H=>j _ (ft (ft (ft (ft (ft H)))))),w.len,w.ll,w.ne,w.vP⟩
def JB.bU{B L:SV}{s:Dfs.DS}(w:JB h0 h n S sb Fb V Lf name p r B L s):∀x,aeF S sb Fb V Lf L x->x<h.ax:=by
 have⟨L,B⟩:=w.hS;have⟨H,L⟩:=w.HG;have⟨I,G⟩:=w.hF;obtain⟨A,A⟩:=w.hV;have⟨N,E⟩:=w.hL;have j:=w.g.ok;rintro x (rfl|rfl|rfl|rfl|rfl|⟨D,m,D,e⟩)
 exact j.wf _ _ B;exact j.wf _ _ L;exact j.wf _ _ G;exact j.wf _ _ A;exact j.wf _ _ E;rcases w.acc with⟨_,q⟩|⟨M,M,q,y,_⟩;rw[q] at e;cases e;rw[q] at e;cases e;exact j.wf _ _ y
def xT:aG:=(P_ 1 (G_ [l_ 21 1,m_ 22 7,a_ 23 1 21 22,l_ 24 23,o_ 25 (.un .not (t_ 24))] (I_ 25 (O_ [l_ 26 3,m_ 27 7,o_ 28 (.call (t_ 26) [t_ 27])]) .skip)))
def Cm:aG:=(.ops [⟨(Z 7),K,(.mv (.tmp 20))⟩])
def Sk:aG:=(.ops [⟨(Z 8),K,(.load K (.tmp 1))⟩,⟨(Z 9),K,(.mv (.tmp 0))⟩,⟨(Z 10),K,(.ee K 1 (.tmp 8) (.tmp 9))⟩,⟨K,K,(.store 1 (.tmp 10) (.const (dd cd)))⟩])
def alJ:aG:=(O_ (R_ 11 3 2 0 6 (f_ 15 2 14::W_ 16 3 15 [F_ 18 148 [t_ 17]])))
def ZB:aG:=(O_ [l_ 29 4,m_ 30 0,v_ 31 Ba 1 30,A_ 32 Ba 8 29 31,s_ 1 4 32])
def ahQ:Bt=.seq Sk (.seq (.seq alJ (.block 0 (.RO (.tmp 18) [19,20] Cm xT))) ZB):=Q
def aeM(h0 h:aB)(n S sb Fb V Lf:Nat)(name:ByteArray)(p r:Int)(B L:SV)(m:Dfs.DS)(x:aB):Prop:=
 ∃j:SV,JB h0 x n S sb Fb V Lf name p r B j m/\az (PW sb Lf L) h x/\∀x,bD j.v x->bD L.v x\/h.ax<=x
def aku{n S sb Fb V Lf b:Nat}{B L:SV}{s:Dfs.DS}(A:n<=1000)(w:JB h0 h n S sb Fb V Lf name p r B L s)(c:Y s.left+1+Dfs.de s<=n){e:Env}(M:bz e 0 b)(P:cg e 4 Lf){X:bJ->Env->aB->Prop}(T:∀k F,aeM h0 h n S sb Fb V Lf name p r B L ⟨s.seen,s.left++[b]⟩ F->X .normal k F):aN FF ZB e h X:=by
 have⟨D,a⟩:=w.hL;have E:=w.g.ok;simp at a;unfold ZB;simp[M,P,a];have U:=aZ E (encI.enc (b:Int)) 0;have I:=w.acc.grow E U aj;have z:bj encI (aM h (encI.enc (b:Int)) 0) (c6 (Z ⟨h.ax,0,K⟩) 1 1) [(b:Int)]:=⟨_,_,Q,ft ⟨h.ax,0,_,_,_,_,Q,bY _ _ _,ag,ag⟩⟩;have M:=w.g.ax;have⟨x,q,y,H,v,B⟩:=fI (bytes:=8) U.ok (z:=[dC ef 0]) rfl I z (by simp;omega) ai (by show h0.ax<=h.ax+1;omega);refine df y ?_;obtain⟨W,rfl⟩:=bx.Fj H;have y:=w.bU;have A:az (bD L.v) h q:=U.cr.trans v;have m:=A.get E a (λe=>(w.vP _ e).2.2.2.2 Q);have X:∀x,bD L.v x->h0.ax<=x:=λx j=>w.acc.of j;have G:az aV h0 q:=w.g.trans' A aj (λx j e=>aw (X x e));simp[m,P];have⟨z,t⟩:=w.hS;have⟨g,c⟩:=w.HG;have⟨X,i⟩:=w.hF;have⟨v,u⟩:=w.hV;have⟨f,I,O,d,P,a,U⟩:=w.ne;have M:az (· =Lf) q (put q Lf 0 [c6 L.a L.l L.c] [c6 W.a W.l W.c] 0):=aX G.ok m;have D:∀x (O:qo),h.tr.get x=Z O->¬bD L.v x->x≠Lf->(put q Lf 0 [c6 L.a L.l L.c] [c6 W.a W.l W.c] 0).tr.get x=Z O:=λx O j o f=>M.get G.ok (A.get E j o) f;have N:∀x,bD W.v x->h.ax+1<=x:=λx j=>by have:=B x j;simp at this;omega
 refine T _ _ ⟨W,⟨G.put ⟨_,m⟩ (fc w.n2),w.n1,w.n2,⟨z,D _ _ t (λe=>(w.vP _ e).1 Q) I⟩,⟨g,D _ _ c (λe=>(w.vP _ e).2.1 Q) P⟩,⟨X,D _ _ i (λe=>(w.vP _ e).2.2.1 Q) a⟩,⟨v,D _ _ u (λe=>(w.vP _ e).2.2.2.1 Q) U⟩,⟨q.clock,ag⟩,?_,w.len,?_,w.ne,λx j=>?_⟩,?_,λx j=>ft (aw (N x j))⟩;have:=H.grow G.ok M (λx j e=>by have:=N x j;have:=y Lf (ft (ft (ft (ft (fc Q)))));omega);simpa using this;have:Dfs.de ⟨s.seen,s.left++[b]⟩=Dfs.de s:=Q;rw[this];simp;omega;have:=N x j;have L:=y S (fc Q);have U:=y sb (ft (fc Q));have O:=y Fb (ft (ft (fc Q)));have t:=y V (ft (ft (ft (fc Q))));have o:=y Lf (ft (ft (ft (ft (fc Q)))));exact⟨J,J,J,J,J⟩
 exact A.trans' M (λx _ h=>ft (ft h)) (λx _ e=>ft (fc e)) |>.cX aj
end Go.Proofs.YtdhnndleffachaaGreatDoor
