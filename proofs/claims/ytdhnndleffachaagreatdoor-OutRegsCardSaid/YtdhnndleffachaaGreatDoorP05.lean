/- Parts of the proof. -/
import Derived.Test.YtdhnndleffachaaGreatDoorP04
import Derived.Test.YtdhnndleffachaaGreatDoorP03
set_option linter.all false
namespace Go.Proofs.YtdhnndleffachaaGreatDoor
open Go.AI
variable{B O:SV}{F X ag b d8 dA j k l n n0 n8 o s sF sX y:Nat}{QQ:aO->Env->ab->Prop}{aQ:List Nat}{ah:List (List Int)}{ats:List Int}{cap sH κ κ0:Nat->Nat}{e:Env}{h:ab}{name:ByteArray}{p rg:Int}{q:Int×SV}{r:XR}{rs xs:List XR}{vs:List (Bool×Int)}{ws:List SV}
def RT(κ cap:Nat->Nat)(m:Nat)(q p:Int×SV):Prop:=q.1=p.1/\VA κ cap q.2/\q.2.l=m
def KO:ak:=(G_ [f_ 90 0 12,l_ 91 90,m_ 92 13,a_ 93 2 91 92,f_ 94 1 93,u_ (.store 1 (t_ 94) (.const (.slice none 0 0)))] (G_ [m_ 95 15,z_ 96 95,k_ 97 0] (Q_ 8 mg)))
theorem UN:uX=G_ [B_ 57 .lss 56 55] (J_ (H_ 57 4) (J_ (P_ 5 (G_ [m_ 58 56,a_ 59 2 54 56,L_ 60 2 59,o_ 14 (.alloc [(.int .i64 0),(.slice none 0 0)]),m_ 13 58,s_ 2 14 60] (G_ [o_ 15 (.mv (.const (.slice none 0 0)))] (J_ (G_ [f_ 61 1 14,l_ 62 61,z_ 63 62,k_ 64 0] (Q_ 6 pN)) (G_ [m_ 88 15,F_ 89 197 [t_ 88,(.func 198)]] KO))))) (O_ [C_ 117 .add 56 1,m_ 56 117]))):=rfl
def KpT:List Nat:=[20,90,91,92,93,94,95,96,97,98,99,100,101,102,103,104,105,106,107,108,109,110,111,112,113,114,115,116]
theorem abS(ok:bl h){P L T:SV}{kind:Int}{on:Bool×Int}{rsD:List XR}{qs:List (Int×SV)}{Lr:SV}{xs:List (Int×(Bool×Int))}(O:cH h n0 ag κ cap rsD)(qk:n0<=h.next)(hP:fS lu h P qs)(hq:qs[j]?=some q)(hX:h.tr.get X=some (.aC [P.v,L.v,.int .i64 kind,.bool on.1,.int .i64 on.2,T.v] false 0 sX))(hPX:¬aw P.v X)(hPκ:∀b,aw P.v b->κ b=3)(hdP:∀(i:Nat)(x:XR),rsD[i]?=some x->∀b,aw P.v b->¬aw x.P.v b)(hL:Lr.v=.slice none 0 0/\xs=[]\/∃d sd,Lr.v=.slice (some ⟨d,0,none⟩) xs.length xs.length/\h.tr.get d=some (.aC (mT.flat xs) false 3 sd)/\¬aw P.v d)(hv:∀x∈xs,h_ ag x.2)(hn:xs.length=n)(LR:n<1000000)(f12:ai e 12=.pointer (some ⟨X,0,none⟩))(f13:ai e 13=.int .i64 j)(f15:ai e 15=Lr.v)(C:∀e' h' κ' iN F,ax KpT e e'->aa (aw P.v) h h'->h'.tr.get X=some (.aC [P.v,L.v,.int .i64 kind,.bool on.1,.int .i64 on.2,T.v] false 0 sX)->Ext κ cap κ' iN->(∀b,b<h.next->κ' b=κ b)->cH h' n0 ag κ' iN rsD->fS lu h' P (qs.set j (q.1,F))->VA κ' iN F->F.l=n->QQ .normal e' h'):az FF KO e h QQ:=by
 have aM:=(bK.mp hq).1;obtain⟨b,cs,o,s,oG,hb,hjA,dV,cS,jh⟩:=hP.el hq;have iF:=hP.len;have ef:=hX;simp at ef;rw[oG,iF] at ef;have hf:=dV 1 1 (by decide);simp at hf;have gw:aa (· =b) h (put h b (j*2+1) cs [.slice none 0 0] o):=aJ ok hb;have gP:aa (aw P.v) h (put h b (j*2+1) cs [.slice none 0 0] o):=gw.bH (fun x _ e=>e▸bC oG);have hP5:=jh (q.1,cJ) 1 [.slice none 0 0] (by simp) rfl (put h b (j*2+1) cs [.slice none 0 0] o) ⟨_,aA _ _ _ _ _ _⟩;have O5:=O.adg ok gP hPκ hdP;have Ao:=gP.get ok hX hPX;unfold KO;rcases hL with⟨e1,rfl⟩|⟨d,sd,e1,hd,hPd⟩
 .rw[e1] at f15;simp at hn;simp[f12,f13,f15,ef,aM,hb,hf];rw[pH];unfold mg;simp;refine C _ _ κ cap cJ ?_ gP Ao (Ext.refl _ _) (fun _ _=>rfl) O5 hP5 ⟨dH _,.inl ⟨rfl,rfl⟩⟩ hn
  repeat (refine ax.set ?_)
  exact ax.refl _ _
 .rw[e1,hn] at f15;have OP:=gP.get ok hd hPd;simp[f12,f13,f15,ef,aM,hb,hf];refine UM gP.ok (ag:=ag) (q0:=q) hP5 hq Ao hPX OP hPd hn LR hv (by simp[f12]) (by simp[f13]) (by simp) (by simp) (by simp) ?_;intro e6 h6 F vl K6 g6 Ap hP6 XB Jc vB;have O6:=O5.adg gP.ok g6 hPκ hdP;obtain⟨κ',iN,O7,hVA,E7,qi,jg⟩:=O5.apE (by have:=gP.next;omega) O6 g6.ok XB vB;simp;refine C _ _ κ' iN F (ax.trans ?_ (K6.bH)) (gP.trans g6) Ap E7 (fun b hb=>jg b hb) O7 hP6 hVA (by omega)
  repeat (refine ax.set ?_)
  exact ax.refl _ _
def KpL:List Nat:=[13,14,15,16,17,18,20,56,57,58,59,60,61,62,63,64,65,66,67,68,69,70,71,72,73,74,75,76,77,78,79,80,81,82,83,84,85,86,87,88,89,90,91,92,93,94,95,96,97,98,99,100,101,102,103,104,105,106,107,108,109,110,111,112,113,114,115,116,117]
def aiS(hS:ab)(κ0 κ1 yR:Nat->Nat)(n0 ag X sX k m0:Nat)(r:XR)(rs:List XR)(xc:List Value)(e:Env)(m:Nat)(e':Env)(h':ab):Prop:=
 ∃(j:Nat) (κ cap:Nat->Nat) (qs:List (Int×SV)),m=r.ps.length-j/\j<=r.ps.length/\ax KpL e e'/\ai e' 56=.int .i64 j/\aa (fun b=>κ0 b=3) hS h'/\h'.tr.get X=some (.aC xc false 0 sX)/\Ext κ1 yR κ cap/\(∀b,b<hS.next->κ b=κ1 b)/\cH h' n0 ag κ cap (rs.set k (QS r))/\fS lu h' r.P qs/\qs.length=r.ps.length/\∀(i:Nat)(q p:Int×SV),qs[i]?=some q->r.ps[i]?=some p->(i<j->RT κ cap m0 q p)/\(j<=i->q=p)
theorem UL{hS:ab}(Io:bl hS){κ0 κ1 yR:Nat->Nat}(B:KB hS κ0 n dA d8 n8 ats ws ah)(hr:rs[k]?=some r)(O:cH hS n0 ag κ1 yR rs)(qk:n0<=hS.next)(h01:∀b,κ0 b≠0->κ1 b=κ0 b)(hP3:∀b,aw r.P.v b->κ0 b=3)(hX:hS.tr.get X=some (.aC [r.P.v,r.L.v,.int .i64 r.kind,.bool r.on.1,.int .i64 r.on.2,r.T.v] false 0 sX))(κX:κ0 X=0){wk:SV}{pk:List Int}(UA:ws[k]?=some wk)(yp:ah[k]?=some pk)(iT:∀p∈r.ps,p.2.l=pk.length)(xh:r.ps.length<1000000)(KF:k<n)(f5:ai e 5=.slice (some ⟨dA,0,none⟩) n n)(f8:ai e 8=.slice (some ⟨d8,0,none⟩) n n)(f11:ai e 11=.int .i64 k)(f12:ai e 12=.pointer (some ⟨X,0,none⟩))(f54:ai e 54=r.P.v)(f55:ai e 55=.int .i64 r.ps.length)(f56:ai e 56=.int .i64 0)(C:∀e' h' κ cap qs,ax KpL e e'->aa (fun b=>κ0 b=3) hS h'->h'.tr.get X=some (.aC [r.P.v,r.L.v,.int .i64 r.kind,.bool r.on.1,.int .i64 r.on.2,r.T.v] false 0 sX)->Ext κ1 yR κ cap->(∀b,b<hS.next->κ b=κ1 b)->cH h' n0 ag κ cap (rs.set k {r with ps:=qs})->qs.length=r.ps.length->(∀(i:Nat)(q p:Int×SV),qs[i]?=some q->r.ps[i]?=some p->RT κ cap (pk.filter (nv ats)).length q p)->QQ (.exit 4) e' h'):az FF (.loop uX) e hS QQ:=by
 have pc:=(bK.mp hr).1;have R:=O.r k r hr;have iF:=R.P.len;have hP1:∀b,aw r.P.v b->κ1 b=3:=fun b hb=>by have:=hP3 b hb;rw[h01 b (by omega),this]
 have hdP:∀(i:Nat)(x:XR),(rs.set k (QS r))[i]?=some x->∀b,aw r.P.v b->¬aw x.P.v b:=by
  intro i x hx b hb;rw[eu] at hx;by_cases e1:k=i
  .rw[aY e1,aY pc] at hx;cases hx;exact fun h=>eV rfl h
  .rw[bc e1] at hx;exact O.dP k i r x b hr hx e1 hb
 refine az.loop (aiS hS κ0 κ1 yR n0 ag X sX k (pk.filter (nv ats)).length r rs [r.P.v,r.L.v,.int .i64 r.kind,.bool r.on.1,.int .i64 r.on.2,r.T.v] e) ?_ (n:=r.ps.length)
  ⟨0,κ1,yR,r.ps,rfl,by omega,ax.refl _ _,f56,.refl Io,hX,Ext.refl _ _,fun _ _=>rfl,O.drop hr,R.P,rfl,fun i q p h1 h2=>⟨fun h=>by omega,fun _=>by rw[h1] at h2;cases h2;rfl⟩⟩
 rintro m e' h'⟨j,κ,cap,qs,rfl,hj,K,q56,g,nt,E1,ady,O',Ud,Qm,H⟩;have cw:=g.ok;have q5:=K.at f5;have q8:=K.at f8;have mP:=K.at f11;have kN:=K.at f12;have OU:=K.at f54;have OV:=K.at f55;have hPκ:∀b,aw r.P.v b->κ b=3:=fun b hb=>by have:=hP1 b hb;rw[(E1 b (by omega)).1,this]
 have B':=B.at Io (g.bH (fun x _ h=>by show κ0 x≠0;omega));rw[UN];by_cases aM:j<r.ps.length
 .have wj:=wrap_i64 ((j:Int)+1) (by omega) (by omega);obtain⟨p,hp⟩:=ay r.ps j aM;obtain⟨q,hq⟩:=ay qs j;have eqp:=(H j q p hq hp).2 (dH _);subst eqp;have Nf:=bU hp;have hql2:=iT q Nf;have hVA:=(R.ps q Nf).2.ext E1;obtain⟨row,rp,rh,hrv⟩:=VA.row hVA O'.V;obtain⟨b,cs,o,s,oG,hb,hjA,dV,cS,jh⟩:=Ud.el hq;have XC:=Ud.len;have r0:=cS 0 2 (by decide);simp[-ae] at r0;simp at OU;rw[oG,XC,Qm] at OU;simp[OU,OV,q56,aM,r0,-ae,au];refine az.cut (fun h1=>aa aG h' h1) ((aa.refl cw).var _ _) ?_;intro h2 g2;have B2:=B'.at cw (g2.bH (fun _ _ h=>h.elim));obtain⟨sA,MW⟩:=B2.hA;obtain⟨s8,h82⟩:=B2.acc.aC;have hpsl:=B.short pk (bU yp);refine Gm g2.ok (n:=n) (c8:=n) (k:=k) (A:=q.2) (ag:=ag) B.nn MW B.al h82 UA KF (JP B2.acc UA yp) ((B.rows.row k pk yp).2) (rp.mono cw g2 fun _ _ h=>h) hrv (by omega) (by omega) (by simp[q5]) (by simp[q8]) (by simp[mP]) (by simp[cJ]) (by simp) (by simp[rh]) (by simp) ?_;intro e3 h3 L rl g3 K3 k15 yW asB hrll;have dw:aa aG h' h3:=g2.trans g3;have iO:=dw.get cw nt;have vk:=dw.get cw hb;have O3:=O'.aX cw dw;have aqG:=Ud.aX cw dw;have OR:=K3.at (t:=12) (by simp;exact kN);have YM:ai e3 13=.int .i64 j:=K3.at (t:=13) (by simp);have m56:=K3.at (t:=56) (by simp;exact q56);have K3':ax KpL e e3:=by
   refine ax.trans ?_ (K3.bH)
   repeat (refine ax.set ?_)
   exact K
  have lP:∀x,aw r.P.v x->x<h'.next:=fun x hx=>Ud.bE cw hx;have lb:=lP b (bC oG);have lX:X<h'.next:=cw.wf _ _ nt;have nXb:¬X=b:=fun e=>by have:=hP3 b (bC oG);rw[e] at κX;omega
  have l3:=dw.next
  
  have behind:∀(h4:ab)(xs:List (Int×(Bool×Int))),aa (fun x=>h'.next<=x) h3 h4->(∀x∈xs,h_ ag x.2)->xs.length=rl.length->(L.v=.slice none 0 0/\xs=[]\/∃d sd,L.v=.slice (some ⟨d,0,none⟩) xs.length xs.length/\h4.tr.get d=some (.aC (mT.flat xs) false 3 sd)/\h'.next<=d)->cH h4 n0 ag κ cap (rs.set k (QS r))/\fS lu h4 r.P qs/\aa (fun b=>κ0 b=3) hS h4/\h4.tr.get X=some (.aC [r.P.v,r.L.v,.int .i64 r.kind,.bool r.on.1,.int .i64 r.on.2,r.T.v] false 0 sX)/\h4.tr.get b=some (.aC cs false o s):=by
   intro h4 xs g4 _ _ _;have hκ:∀x,h'.next<=x->κ x=0:=fun x hx=>by
    rcases uM (κ x) with h|h
    .exact h
    .have:=(O'.new x (by omega)).2;omega
   refine⟨O3.grow dw.ok g4 (fun x hx=>.inl (hκ x hx)),aqG.grow dw.ok g4 (fun x hx h=>by have:=lP x hx;omega),(g.trans (dw.bH (fun _ _ h=>h.elim))).trans' g4 (fun _ _ h=>h) (fun x hx h=>by have:=g.next;omega),g4.get dw.ok iO (by omega),g4.get dw.ok vk (by omega)⟩
  have post:∀(h4:ab)(e4:Env)(xs:List (Int×(Bool×Int)))(Q2:aO->Env->ab->Prop),aa (fun x=>h'.next<=x) h3 h4->(∀x∈xs,h_ ag x.2)->xs.length=rl.length->(L.v=.slice none 0 0/\xs=[]\/∃d sd,L.v=.slice (some ⟨d,0,none⟩) xs.length xs.length/\h4.tr.get d=some (.aC (mT.flat xs) false 3 sd)/\h'.next<=d)->ai e4 12=.pointer (some ⟨X,0,none⟩)->ai e4 13=.int .i64 j->ai e4 15=L.v->ai e4 56=.int .i64 j->ax KpL e e4->(∀e6 h6 κ6 z8 Vm,ai e6 56=.int .i64 j->ax KpL e e6->aa (fun b=>κ0 b=3) hS h6->h6.tr.get X=some (.aC [r.P.v,r.L.v,.int .i64 r.kind,.bool r.on.1,.int .i64 r.on.2,r.T.v] false 0 sX)->Ext κ1 yR κ6 z8->(∀b,b<hS.next->κ6 b=κ1 b)->cH h6 n0 ag κ6 z8 (rs.set k (QS r))->fS lu h6 r.P Vm->Vm.length=r.ps.length->(∀(i:Nat)(q p:Int×SV),Vm[i]?=some q->r.ps[i]?=some p->(i<j+1->RT κ6 z8 (pk.filter (nv ats)).length q p)/\(j+1<=i->q=p))->Q2 .normal e6 h6)->az FF KO e4 h4 Q2:=by
   intro h4 e4 xs Q2 g4 SH u6 hLx Nr k13 atb k56 K4 HQ;obtain⟨O4,hP4,G4,vS,HC⟩:=behind h4 xs g4 SH u6 hLx;refine abS g4.ok (n:=xs.length) O4 (by have:=G4.next;omega) hP4 hq vS (fun h=>by have:=hP3 X h;omega) hPκ hdP (by
    rcases hLx with h|⟨d,sd,h1,h2,h3⟩
    .exact .inl h
    .exact .inr ⟨d,sd,h1,h2,fun h=>by have:=lP d h;omega⟩) SH rfl (by have:=Xs (nv ats) pk;omega) Nr k13 atb ?_
   intro e6 h6 κ6 z8 F K6 g6 Ap E6 ald O6 hP6 hVF qi;refine HQ e6 h6 κ6 z8 (qs.set j (q.1,F)) (K6.at k56) (K4.trans (K6.bH)) (G4.trans (g6.bH (fun x _ h=>hP3 x h))) Ap (E1.trans E6) (fun b hb=>by rw[ald b (by have:=G4.next;omega),ady b hb]) O6 hP6 (by simp[Qm]) (fun i a c h1 h2=>?_);rw[eu] at h1;by_cases ei:j=i
   .subst ei;rw[aY rfl,aY (by omega)] at h1;cases h1;rw[hp] at h2;cases h2;exact⟨fun _=>⟨rfl,hVF,by show F.l=_;omega⟩,fun h=>by omega⟩
   .rw[bc ei] at h1;obtain⟨a1,a2⟩:=H i a c h1 h2;refine⟨fun h=>?_,fun h=>a2 (by omega)⟩;obtain⟨c1,c2,c3⟩:=a1 (by omega);exact⟨c1,c2.ext E6,c3⟩
  have fin:∀(e6:Env)(h6:ab)(κ6 z8:Nat->Nat)(Vm:List (Int×SV)),ai e6 56=.int .i64 j->ax KpL e e6->aa (fun b=>κ0 b=3) hS h6->h6.tr.get X=some (.aC [r.P.v,r.L.v,.int .i64 r.kind,.bool r.on.1,.int .i64 r.on.2,r.T.v] false 0 sX)->Ext κ1 yR κ6 z8->(∀b,b<hS.next->κ6 b=κ1 b)->cH h6 n0 ag κ6 z8 (rs.set k (QS r))->fS lu h6 r.P Vm->Vm.length=r.ps.length->(∀(i:Nat)(q p:Int×SV),Vm[i]?=some q->r.ps[i]?=some p->(i<j+1->RT κ6 z8 (pk.filter (nv ats)).length q p)/\(j+1<=i->q=p))->∃m,m<r.ps.length-j/\aiS hS κ0 κ1 yR n0 ag X sX k (pk.filter (nv ats)).length r rs [r.P.v,r.L.v,.int .i64 r.kind,.bool r.on.1,.int .i64 r.on.2,r.T.v] e m (Tr.set (Tr.set e6 117 (.int .i64 ((j:Int)+1))) 56 (.int .i64 ((j:Int)+1))) h6:=by
   intro e6 h6 κ6 z8 Vm a1 a2 a3 a4 a5 a55 a6 a7 a8 a9;refine⟨r.ps.length-(j+1),by omega,j+1,κ6,z8,Vm,rfl,aM,?_,by simp,a3,a4,a5,a55,a6,a7,a8,a9⟩;exact ax.set (ax.set a2)
  simp;rcases acH yW with⟨e1,rfl⟩|⟨d,sd,e1,hd,hdn⟩
  .rw[e1] at k15;simp[k15];refine aF.call (V:=fun _ h4=>h4=h3) (by simpa using ZY h3 (.func (.func uU) #[] #[])) ?_;rintro v h4 rfl;simp;refine post h4 _ [] _ (.refl dw.ok) (fun x hx=>by simp at hx) rfl (.inl ⟨e1,rfl⟩) (by simp[OR]) (by simp[YM]) (by rw[e1];simp[k15]) (by simp[m56]) (ax.set (ax.set K3')) ?_;intro e6 h6 κ6 z8 Vm a1 a2 a3 a4 a5 a55 a6 a7 a8 a9;simp[a1,wj];exact fin e6 h6 κ6 z8 Vm a1 a2 a3 a4 a5 a55 a6 a7 a8 a9
  .rw[e1] at k15;have Yh:rl.length<50:=by have:=Xs (nv ats) pk;omega
   simp[k15];refine aF.call (V:=fun _ h4=>SA (fun x=>h_ ag x.2) d rl.length 3 h3 h4) (by simpa using VF (P:=fun x=>h_ ag x.2) (d:=d) (n:=rl.length) (o:=3) (c:=rl.length) (h0:=h3) aex Yh (h:=h3) ⟨.refl dw.ok,rl,sd,hd,rfl,asB⟩) ?_;rintro v h4⟨g4,xs,sd4,hd4,u6,SH⟩;simp;refine post h4 _ xs _ (g4.bH (fun x _ e=>by have:=g2.next;omega)) SH u6 (.inr ⟨d,sd4,by rw[u6];exact e1,hd4,by have:=g2.next;omega⟩) (by simp[OR]) (by simp[YM]) (by rw[e1];simp[k15]) (by simp[m56]) (ax.set (ax.set K3')) ?_;intro e6 h6 κ6 z8 Vm a1 a2 a3 a4 a5 a55 a6 a7 a8 a9;simp[a1,wj];exact fin e6 h6 κ6 z8 Vm a1 a2 a3 a4 a5 a55 a6 a7 a8 a9
 .have:j=r.ps.length:=by omega
  subst this;simp[OV,q56];have O2:=O'.atT (i:=k) (r:=QS r) (P:=r.P) (ps:=qs) (by rw[eu,aY rfl,aY pc]) Ud hPκ (fun i x hx ct b hb=>hdP i x hx b hb) (fun q hq=>by obtain⟨i,hi⟩:=oD hq;have fu:=(bK.mp hi).1;have hpi:r.ps[i]?=some (r.ps[i]'(by omega)):=ff (by omega);obtain⟨a1,a2,_⟩:=(H i q _ hi hpi).1 (by omega);have:=(R.ps _ (bU hpi)).1;exact⟨by rw[a1];exact this,a2⟩)
  rw[List.set_set] at O2;exact C _ _ κ cap qs (K.set) g nt E1 ady O2 Qm (fun i q p h1 h2=>(H i q p h1 h2).1 (bK.mp h2).1)
def aoZ(h:ab)(n:Nat)(aQ:List Nat)(d4:Nat)(e:Env)(m:Nat)(e':Env)(h2:ab):Prop:=
 ∃(j:Nat) (qP:List Int),m=aQ.length-j/\j<=aQ.length/\ai e' 30=.int .i64 j/\ax [30,6,7,31,32,33,34,35,36,37,38,39] e e'/\aa (· =d4) h h2/\(∃s,h2.tr.get d4=some (.aC (bg.flat qP) false 0 s))/\qP.length=n/\(∀i x:Nat,i<j->aQ[i]?=some x->qP[x]?=some (i:Int))/\∀x,x<n->x∉aQ.take j->qP[x]?=some (-1)
theorem abP(ok:bl h)(nd:aQ.Nodup)(dQ:∀x∈aQ,x<n)(hr:aQ.length<=n)(hn:n<=1000){d4 s4:Nat}(hO:aL bg h O.v (nI aQ))(hOd:∀b,aw O.v b->aQ≠[]->b≠d4)(hA:h.tr.get d4=some (.aC (bg.flat (List.replicate n (-1:Int))) false 0 s4))(f5:ai e 5=.slice (some ⟨d4,0,none⟩) n n)(f28:ai e 28=O.v)(f29:ai e 29=.int .i64 aQ.length)(f30:ai e 30=.int .i64 0)(C:∀e' h' NT,ax [30,6,7,31,32,33,34,35,36,37,38,39] e e'->aa (· =d4) h h'->(∃s,h'.tr.get d4=some (.aC (bg.flat NT) false 0 s))->NT.length=n->(∀i x:Nat,aQ[i]?=some x->NT[x]?=some (i:Int))->(∀x,x<n->x∉aQ->NT[x]?=some (-1))->QQ (.exit 0) e' h'):az FF (.loop uZ) e h QQ:=by
 have LO:O.l=aQ.length:=by obtain⟨a,cap,e,_⟩:=hO;simp[nI] at e;exact e.2.1
 refine az.loop (aoZ h n aQ d4 e) ?_ (n:=aQ.length) ⟨0,_,rfl,by omega,f30,ax.refl _ _,.refl ok,⟨s4,hA⟩,by simp,fun i x h=>by omega,fun x hx _=>by rw[T7,aY hx]⟩;rintro m e' h2⟨j,pl,rfl,hj,DT,K,g2,⟨s,MW⟩,xh,Dx,hno⟩;have q5:=K.at f5;have JB:=K.at f28;have NZ:=K.at f29;unfold uZ;by_cases aM:j<aQ.length
 .obtain⟨x,hx⟩:=ay aQ j aM;have Jd:=dQ x (bU hx);have hO2:=Ly hO ok g2 (fun ct b hb=>hOd b hb (fun e=>ct (by rw[e];rfl)));obtain⟨bO,agM,aeu,Sr,_,_,cS⟩:=hO2.read (SN hx);have ro:=cS 0 1 (by decide);simp[-ae,nI] at ro Sr;have wj:=wrap_i64 ((j:Int)+1) (by omega) (by omega);have u6:x+1<=pl.length:=by omega
  simp at JB;rw[Sr.1,LO] at JB;simp[q5,JB,NZ,DT,aM,ro,Jd,MW,u6,wj,-ae];have inj:∀i,aQ[i]?=some x->i=j:=fun i hi=>by have h1:=(bK.mp hi).2;have h2:=(bK.mp hx).2;exact(List.getElem_inj nd).1 (h1.trans h2.symm)
  refine⟨aQ.length-(j+1),by omega,j+1,pl.set x j,rfl,aM,by simp,?_,g2.trans (aJ g2.ok MW),⟨h2.clock,by rw[aA,oq pl x j (by omega)]⟩,by simp[xh],fun i y hi hy=>?_,fun y hy Uv=>?_⟩
  .repeat (refine ax.set ?_)
   exact K
  .rw[eu];by_cases e:x=y
   .subst e;rw[aY rfl,aY (by omega),inj i hy]
   .rw[bc e];by_cases e2:i=j
    .subst e2;rw[hx] at hy;cases hy;exact absurd rfl e
    .exact Dx i y (by omega) hy
  .rw[yS,hx] at Uv;rw[eu,bc (fun e=>Uv (by simp[e]))];exact hno y hy (fun h=>Uv (List.mem_append_left _ h))
 .have:j=aQ.length:=by omega
  subst this;rw[xK] at hno;simp[NZ,DT];exact C _ _ pl (K.set) g2 ⟨s,MW⟩ xh (fun i x hx=>Dx i x (bK.mp hx).1 hx) hno
def NK(ats:List Int)(t:Int):Int:=(ats[t.toNat]?).getD (-1)
def KtL:List Nat:=[21,22,122,123,124,125,126,127,128,129,130,131,132,133,134,135,136]
def aoV(h:ab)(n0 ag X sX k:Nat)(κ cap:Nat->Nat)(ats:List Int)(r:XR)(rs:List XR)(xc:List Value)(e:Env)(m:Nat)(e':Env)(h':ab):Prop:=
 ∃(j:Nat) (ts:List Int),m=r.ts.length-j/\j<=r.ts.length/\ax KtL e e'/\ai e' 122=.int .i64 j/\aa (aw r.T.v) h h'/\h'.tr.get X=some (.aC xc false 0 sX)/\cH h' n0 ag κ cap (rs.set k {r with ts:=ts})/\ts=(r.ts.take j).map (NK ats)++r.ts.drop j
theorem abQ(ok:bl h){n dA sA n0 ag X sX k:Nat}(hA:h.tr.get dA=some (.aC (bg.flat ats) false 0 sA))(KA:ats.length=n)(hr:rs[k]?=some r)(O:cH h n0 ag κ cap rs)(nTA:¬aw r.T.v dA)(yr:∀t∈r.ts,0<=t/\t<n)(ku:r.ts.length<1000000)(hn:n<1000000)(hX:h.tr.get X=some (.aC [r.P.v,r.L.v,.int .i64 r.kind,.bool r.on.1,.int .i64 r.on.2,r.T.v] false 0 sX))(nTX:¬aw r.T.v X)(f5:ai e 5=.slice (some ⟨dA,0,none⟩) n n)(f12:ai e 12=.pointer (some ⟨X,0,none⟩))(f120:ai e 120=r.T.v)(f121:ai e 121=.int .i64 r.ts.length)(f122:ai e 122=.int .i64 0)(C:∀e' h',ax KtL e e'->aa (aw r.T.v) h h'->h'.tr.get X=some (.aC [r.P.v,r.L.v,.int .i64 r.kind,.bool r.on.1,.int .i64 r.on.2,r.T.v] false 0 sX)->cH h' n0 ag κ cap (rs.set k {r with ts:=r.ts.map (NK ats)})->QQ (.exit 10) e' h'):az FF (.loop uW) e h QQ:=by
 have pc:=(bK.mp hr).1;have R:=O.r k r hr;have vj:=R.T.len;have alC:rs.set k {r with ts:=r.ts} =rs:=by
  refine yT fun i=>?_;rw[eu];split
  .rename_i e;subst e;exact hr.symm
  .rfl
 refine az.loop (aoV h n0 ag X sX k κ cap ats r rs [r.P.v,r.L.v,.int .i64 r.kind,.bool r.on.1,.int .i64 r.on.2,r.T.v] e) ?_ (n:=r.ts.length) ⟨0,r.ts,rfl,by omega,ax.refl _ _,f122,.refl ok,hX,by rw[alC];exact O,by simp⟩;rintro m e' h'⟨j,ts,rfl,hj,K,amA,g,nt,O',ot⟩;have q5:=K.at f5;have kN:=K.at f12;have ag9:=K.at f120;have amz:=K.at f121;have cw:=g.ok;unfold uW;by_cases aM:j<r.ts.length
 .have wj:=wrap_i64 ((j:Int)+1) (by omega) (by omega);have hx:r.ts[j]?=some r.ts[j]:=ff aM;have hm:=Ai aM;generalize r.ts[j]=t at hx hm;obtain⟨SF,htn⟩:=yr t hm;obtain⟨u,rfl⟩:∃u:Nat,t=u:=⟨t.toNat,by omega⟩;have xg:u<n:=by omega
  have hrk:(rs.set k {r with ts:=ts})[k]?=some {r with ts:=ts} :=by rw[eu,aY rfl,aY pc]
  have R':=O'.r k _ hrk;have hjt:((r.ts.take j).map (NK ats)).length=j:=by simp;omega
  have asN:ts[j]?=some (u:Int):=by rw[ot,HA (by omega),hjt,Nat.sub_self,List.getElem?_drop,IW,hx]
  obtain⟨b,cs,o,s,AM,hb,hjA,dV,cS,jh⟩:=R'.T.el asN;have aqR:=R'.T.len;dsimp only at AM aqR hjA;have r0:=cS 0 1 (by decide);simp[-ae] at r0;have hA':=g.get ok hA nTA;obtain⟨a,ha⟩:=ay ats u;have ra:=iH hA' ha;have htl':ts.length=r.ts.length:=by omega
  have ef:=nt;simp at ef ag9;rw[AM,vj] at ef ag9;have hf:=dV 0 1 (by decide);simp at hf;have hXn:=aq ef;simp[q5,kN,ag9,amz,amA,aM,r0,ef,hXn,xg,ra,hb,hf,wj,aB,-ae];have hTb:aa (aw r.T.v) h' (put (tick h') b j cs [.int .i64 a] o):=by have gt:aa aG h' (tick h'):=(aa.refl cw).tick;exact gt.aX.trans ((aJ gt.ok hb).bH (fun x _ e=>e▸bC AM))
  have akf:=jh a 0 [.int .i64 a] (by simp) rfl (put (tick h') b j cs [.int .i64 a] o) ⟨(tick h').clock,by have:=aA (tick h') b j cs [.int .i64 a] o;simpa using this⟩;have O2:=O'.amU cw hrk hTb akf rfl;rw[List.set_set] at O2;refine⟨r.ts.length-(j+1),by omega,j+1,ts.set j a,rfl,aM,?_,by simp,g.trans hTb,hTb.get cw nt nTX,O2,?_⟩
  .repeat (refine ax.set ?_)
   exact K
  .have hnt:NK ats (u:Int)=a:=by simp[NK,ha]
   rw[ot,List.set_append,bc (by omega),hjt,Nat.sub_self,yS,hx];have hd:r.ts.drop j=(u:Int)::r.ts.drop (j+1):=by rw[List.drop_eq_getElem_cons aM];have:=(bK.mp hx).2;rw[this]
   rw[hd,List.set_cons_zero];simp[hnt]
 .have:j=r.ts.length:=by omega
  subst this;rw[xK,List.drop_length,List.append_nil] at ot;rw[ot] at O';simp[amz,amA];exact C _ _ (K.set) g nt O'
theorem xF{A:SV}{xs ys:List XR}(w:fS eW h A xs)(hl:ys.length=xs.length)(he:∀(i:Nat)(x y:XR),xs[i]?=some x->ys[i]?=some y->eW.enc y=eW.enc x):fS eW h A ys:=by
 have hf:∀bw,eW.flat (ys++bw)=eW.flat (xs++bw):=by
  intro bw;rw[eW.dG,eW.dG];congr 1;clear w;induction xs generalizing ys with
  |nil=>rw[IX hl]
  |cons x xs ih=>
   cases ys with
   |nil=>simp at hl
   |cons y ys=>
    rw[eW.eo,eW.eo,he 0 x y rfl rfl,ih (by simpa using hl) (fun i a b h1 h2=>he (i+1) a b h1 h2)]
 obtain⟨hA,w⟩:=w;refine⟨by omega,?_⟩;rcases w with⟨h1,h2,rfl⟩|⟨b,o,s,bw,h1,h2,h3,h4⟩
 .exact .inl ⟨h1,h2,IX hl⟩
 .exact .inr ⟨b,o,s,bw,h1,by omega,by rw[hf];exact h3,h4⟩
structure KR(ats:List Int)(pk:List Int)(r r':XR):Prop where
 P:r'.P=r.P
 L:r'.L=r.L
 T:r'.T=r.T
 kind:r'.kind=r.kind
 on:r'.on=r.on
 ls:r'.ls=r.ls
 ts:r'.ts=r.ts.map (NK ats)
 pl:r'.ps.length=r.ps.length
 ps:∀(i:Nat)(q p:Int×SV),r'.ps[i]?=some q->r.ps[i]?=some p->q.1=p.1/\q.2.l=(pk.filter (nv ats)).length
def aoY(h1:ab)(κ0 sH:Nat->Nat)(n0 ag n F R:Nat)(fc rc:List Value)(B O:SV)(c5 c8:Value)(ats:List Int)(ah:List (List Int))(aQ:List Nat)(rs:List XR)(m:Nat)(e:Env)(h':ab):Prop:=
 ∃(i:Nat) (κ cap:Nat->Nat) (LZ acc:List XR) (A:SV),m=aQ.length-i/\i<=aQ.length/\ai e 2=.pointer (some ⟨F,0,none⟩)/\ai e 4=.pointer (some ⟨R,0,none⟩)/\ai e 5=c5/\ai e 8=c8/\ai e 42=O.v/\ai e 43=.int .i64 aQ.length/\ai e 44=.int .i64 i/\ai e 9=A.v/\aa (fun b=>κ0 b=3\/κ0 b=5) h1 h'/\Ext κ0 sH κ cap/\(∀b,b<h1.next->κ b=κ0 b)/\cH h' n0 ag κ cap LZ/\(∀b,aw A.v b->κ b=0)/\fS eW h' B LZ/\LZ.length=n/\bJ eW h1.next h' A.v acc/\acc.length=i/\(∀(j k:Nat)(a:XR),aQ[j]?=some k->acc[j]?=some a->LZ[k]?=some a)/\(∀(k:Nat)(r r':XR),rs[k]?=some r->LZ[k]?=some r'->(k∈aQ.take i->∃pk,ah[k]?=some pk/\KR ats pk r r')/\(k∉aQ.take i->r'=r))
theorem Ns{h1:ab}(mN:bl h1){n dA d8 n8 n0 ag F R sF sR:Nat}(WC:KB h1 κ0 n dA d8 n8 ats ws ah)(rh:rs.length=n)(qk:n0<=h1.next)(Os:cH h1 n0 ag κ0 sH rs)(hB:fS eW h1 B rs)(kB:∀b,aw B.v b->κ0 b=2){p r:Int}(hF:h1.tr.get F=some (.aC (aj name p r B) false 0 sF))(κF:κ0 F=0)(hR:h1.tr.get R=some (.aC [.string ⟨⟨[]⟩⟩,.int .i64 0,.int .i64 0,.slice none 0 0] false 0 sR))(κR:κ0 R=0)(nd:aQ.Nodup)(dQ:∀x∈aQ,x<n)(hO:aL bg h1 O.v (nI aQ))(κO:aQ≠[]->∀b,aw O.v b->κ0 b=0)(yr:∀r∈rs,r.ts.length<1000000/\∀t∈r.ts,0<=t/\t<n)(iT:∀(k:Nat)(r:XR)(pk:List Int),rs[k]?=some r->ah[k]?=some pk->∀q∈r.ps,q.2.l=pk.length)(xh:∀r∈rs,r.ps.length<1000000){QQ:aO->Env->ab->Prop}(f2:ai e 2=.pointer (some ⟨F,0,none⟩))(f4:ai e 4=.pointer (some ⟨R,0,none⟩))(f5:ai e 5=.slice (some ⟨dA,0,none⟩) n n)(f8:ai e 8=.slice (some ⟨d8,0,none⟩) n n)(f42:ai e 42=O.v)(f43:ai e 43=.int .i64 aQ.length)(f44:ai e 44=.int .i64 0)(f9:ai e 9=cJ.v)(C:∀e' h' κ cap LZ acc A,ai e' 2=.pointer (some ⟨F,0,none⟩)->ai e' 4=.pointer (some ⟨R,0,none⟩)->ai e' 9=SV.v A->aa (fun b=>κ0 b=3\/κ0 b=5) h1 h'->Ext κ0 sH κ cap->(∀b,b<h1.next->κ b=κ0 b)->cH h' n0 ag κ cap LZ->(∀b,aw (SV.v A) b->κ b=0)->bJ eW h1.next h' (SV.v A) acc->acc.length=aQ.length->(∀(j k:Nat)(a:XR),aQ[j]?=some k->acc[j]?=some a->LZ[k]?=some a)->LZ.length=n->(∀(k:Nat)(r r':XR),rs[k]?=some r->LZ[k]?=some r'->k∈aQ->∃pk,ah[k]?=some pk/\KR ats pk r r')->QQ (.exit 2) e' h'):az FF (.loop uY) e h1 QQ:=by
 have hnn:=WC.nn;have LO:O.l=aQ.length:=by obtain⟨a,cap,e,_⟩:=hO;simp[nI] at e;exact e.2.1
 have X8:aQ.length<=n:=by have:=gK_ nd (l₂:=List.range n) (fun x hx=>PY.2 (dQ x hx));simpa using this
 refine az.loop (aoY h1 κ0 sH n0 ag n F R (aj name p r B) [.string ⟨⟨[]⟩⟩,.int .i64 0,.int .i64 0,.slice none 0 0] B O (.slice (some ⟨dA,0,none⟩) n n) (.slice (some ⟨d8,0,none⟩) n n) ats ah aQ rs) ?_ (n:=aQ.length)
  ⟨0,κ0,sH,rs,[],cJ,rfl,by omega,f2,f4,f5,f8,f42,f43,f44,f9,.refl mN,Ext.refl _ _,fun _ _=>rfl,Os,fun b hb=>(eV rfl hb).elim,hB,rh,.inl ⟨rfl,rfl⟩,rfl,fun j k a _ h=>by simp at h,fun k r r' h1 h2=>⟨fun h=>by simp at h,fun _=>by rw[h1] at h2;cases h2;rfl⟩⟩
 rintro m e' h'⟨i,κ,cap,LZ,acc,A,rfl,hi,q2,q4,q5,q8,q42,N1,Hb,q9,g,E1,κlo,O',κA',hB',abC,yW,M5,Yl,H⟩;have cw:=g.ok;unfold uY;by_cases fu:i<aQ.length
 .have wi:=wrap_i64 ((i:Int)+1) (by omega) (by omega);obtain⟨k,hk⟩:=ay aQ i fu;have KF:=dQ k (bU hk);obtain⟨r0,yq⟩:=ay rs k;obtain⟨r1,qM⟩:=ay LZ k;have ak6:k∉aQ.take i:=by
   intro hm;obtain⟨j,hj⟩:=oD hm;rw[El] at hj;split at hj
   .have h1:=(bK.mp hj).2;have h2:=(bK.mp hk).2;have:=(List.getElem_inj nd).1 (h1.trans h2.symm);omega
   .cases hj
  have er:=(H k r0 r1 yq qM).2 ak6;subst er;have w35:∀x,(κ0 x=3\/κ0 x=5)->κ0 x≠0:=fun x h=>by omega
  have KB':=WC.at mN (g.bH (fun x _ h=>w35 x h));obtain⟨sA,hA'⟩:=KB'.hA;obtain⟨pk,yp⟩:=ay ah k (by rw[WC.rows.len];exact KF);obtain⟨wk,UA⟩:=ay ws k (by rw[WC.acc.len,WC.rows.len];exact KF);have hO':=Ly hO mN g (fun ct b hb h=>w35 b h (κO (fun e=>ct (by rw[e];rfl)) b hb));obtain⟨bO,agM,aeu,Sr,_,_,Yf⟩:=hO'.read (SN hk);have ro:=Yf 0 1 (by decide);simp[-ae,nI] at ro Sr;have u5:=g.get mN hF (fun h=>w35 F h κF);simp[aj] at u5;obtain⟨bB,cs,oB,sB,dZ,Ak,Ur,dV,cS,jh⟩:=hB'.el qM;have cV:=hB'.len;have N2:=cS 0 6 (by decide);simp[-ae] at N2;rw[dZ,cV,abC] at u5;simp at q42;rw[Sr.1,LO] at q42;have R1:=O'.r k r1 qM;have R0:=Os.r k r1 yq;have iF:=R1.P.len;have vj:=R1.T.len;have oF:=cw.bE u5;simp[q2,q42,N1,Hb,fu,ro,u5,KF,N2,-ae,au,aq u5,iF];refine az.cut (fun h2=>aa aG h' h2/\∃s,h2.tr.get h'.next=some (.aC [r1.P.v,r1.L.v,.int .i64 r1.kind,.bool r1.on.1,.int .i64 r1.on.2,r1.T.v] false 0 s)) ?_ ?_
  .refine⟨(aa.refl cw).var _ _,h'.clock,?_⟩;simp[aR,iF]
  rintro h2⟨g2,sX,ef⟩;have ln:=g.next;have κX0:κ0 h'.next=0:=by
   rcases uM (κ0 h'.next) with h|h
   .exact h
   .have:=(Os.new h'.next (by omega)).2;omega
  have G2:aa (fun b=>κ0 b=3\/κ0 b=5) h1 h2:=g.trans (g2.bH (fun _ _ h=>h.elim));have O2:=O'.aX cw g2;have B2:=WC.at mN (G2.bH (fun x _ h=>w35 x h));refine UL g2.ok B2 qM O2 (by have:=G2.next;omega) (fun b hb=>(E1 b hb).1) (fun b hb=>R0.kP b hb) ef κX0 UA yp (iT k r1 pk yq yp) (xh r1 (bU yq)) KF (by simp[q5]) (by simp[q8]) (by simp) (by simp) (by simp[iF]) (by simp) (by simp) ?_;intro e3 h3 κ3 Pz qs K3 g3 iO E3 BA O3 af7 H3;have G3:=G2.trans (g3.bH (fun x _ h=>(.inl h:κ0 x=3\/κ0 x=5)));have k2:=K3.at (t:=2) (by simp;exact q2);have k4:=K3.at (t:=4) (by simp;exact q4);have k5:=K3.at (t:=5) (by simp;exact q5);have k8:=K3.at (t:=8) (by simp;exact q8);have k9:=K3.at (t:=9) (by simp;exact q9);have Nr:ai e3 12=.pointer (some ⟨h'.next,0,none⟩):=K3.at (t:=12) (by simp);have k42:=K3.at (t:=42) (by simp;exact q42);have k43:=K3.at (t:=43) (by simp;exact N1);have k44:=K3.at (t:=44) (by simp;exact Hb);have hkC:k<LZ.length:=by omega
  obtain⟨r3,er3⟩:∃r3:XR,r3= {r1 with ps:=qs} :=⟨_,rfl⟩;rw[<-er3] at O3;have hr3:(LZ.set k r3)[k]?=some r3:=by rw[eu,aY rfl,aY hkC]
  have nT:∀b,κ0 b=0->¬aw r3.T.v b:=fun b hb h=>by rw[er3] at h;have:=R0.kT b h;omega
  obtain⟨sA3,OK⟩:=(WC.at mN (G3.bH (fun x _ h=>w35 x h))).hA;have CD:h3.tr.get h'.next=some (.aC [r3.P.v,r3.L.v,.int .i64 r3.kind,.bool r3.on.1,.int .i64 r3.on.2,r3.T.v] false 0 sX):=by rw[er3];exact iO
  have aqX:r3.T.l=r1.ts.length:=by rw[er3];exact vj
  have agj:r3.ts=r1.ts:=by rw[er3]
  obtain⟨ku,htr⟩:=yr r1 (bU yq);simp at CD;simp[Nr,CD];refine abQ G3.ok (n:=n) OK WC.al hr3 O3 (nT _ WC.κA) (by rw[agj];exact htr) (by rw[agj];exact ku) (by omega) (by simpa using CD) (nT _ κX0) (by simp[k5]) (by simp[Nr]) (by simp) (by simp[aqX,agj]) (by simp) ?_;intro e4 h4 K4 g4 vS O4;have G4:aa (fun b=>κ0 b=3\/κ0 b=5) h1 h4:=G3.trans (g4.bH (fun x _ h=>by rw[er3] at h;have:=R0.kT x h;omega))
  have m2:=K4.at (t:=2) (by simp;exact k2);have m4:=K4.at (t:=4) (by simp;exact k4);have m5:=K4.at (t:=5) (by simp;exact k5);have m8:=K4.at (t:=8) (by simp;exact k8);have m9:=K4.at (t:=9) (by simp;exact k9);have OR:ai e4 12=.pointer (some ⟨h'.next,0,none⟩):=K4.at (t:=12) (by simp;exact Nr);have m42:=K4.at (t:=42) (by simp;exact k42);have m43:=K4.at (t:=43) (by simp;exact k43);have m44:=K4.at (t:=44) (by simp;exact k44);rw[List.set_set] at O4;obtain⟨r4,er4⟩:∃r4:XR,r4= {r3 with ts:=r3.ts.map (NK ats)} :=⟨_,rfl⟩;rw[<-er4] at O4;have Qd:h4.tr.get h'.next=some (.aC (eW.enc r4) false 0 sX):=by rw[er4];exact vS
  simp only[p6] at Qd;simp at Qd m9;simp[m9,OR,Qd];have hG:aa (fun b=>κ0 b=3\/κ0 b=5) h' h4:=(g2.bH (fun _ _ h=>h.elim)).trans ((g3.bH (fun x _ h=>(.inl h:κ0 x=3\/κ0 x=5))).trans (g4.bH (fun x _ h=>by rw[er3] at h;exact .inr (R0.kT x h))))
  
  have aks:bJ eW h1.next h4 A.v acc:=by exact yW.grow cw hG (fun b hb h=>by have:=yW.of hb;have:=(Os.new b (w35 b h)).2;omega)
  have g5:=aH G4.ok (eW.enc r4) 0;have Ds:=aks.grow G4.ok g5 (fun _ _ h=>h);have hw5:aL eW (aD h4 (eW.enc r4) 0) (.slice (some ⟨h4.next,0,none⟩) 1 1) [r4]:=⟨_,_,rfl,.inr ⟨h4.next,0,_,_,_,_,rfl,bq _ _ _,by simp,by simp⟩⟩;simp only[p6] at g5 Ds hw5;simp at g5 Ds hw5;have lG4:=G4.next;obtain⟨v',h6,ha6,XB,g6,hd6⟩:=j4 (bytes:=96) g5.ok (z:=[.slice none 0 0,.slice none 0 0,.int .i64 0,.bool false,.int .i64 0,.slice none 0 0]) rfl Ds hw5 (by omega) (by decide) (by simp;omega);refine gH ha6 ?_;obtain⟨V,rfl⟩:=bJ.Ws XB;have lA:∀b,aw (.slice A.a A.l A.c) b->h1.next<=b:=fun b hb=>yW.of (by simpa using hb);have G6:aa (fun b=>κ0 b=3\/κ0 b=5) h1 h6:=(G4.trans (g5.bH (fun _ _ h=>h.elim))).trans' g6 (fun _ _ h=>h) (fun x hx h=>by have:=lA x h;omega);simp[m44,wi];refine⟨aQ.length-(i+1),by omega,i+1,κ3,Pz,LZ.set k r4,acc++[r4],V,rfl,by omega,by simp[m2],by simp[m4],by simp[m5],by simp[m8],by simp[m42,Sr.1,LO],by simp[m43],by simp,by simp,G6,E1.trans E3,fun b hb=>by rw[BA b (by have:=G2.next;omega),κlo b hb],?_,?_,?_,by simp[abC],XB,by simp[M5],?_,?_⟩
  .refine(O4.aX G4.ok g5).grow g5.ok g6 (fun b hb=>.inl ?_);have jf:aw A.v b:=by simpa using hb
   have XM:=yW.sl;have:b<h'.next:=by
    rcases yW with⟨_,e⟩|⟨b2,s2,e,cC,_⟩
    .rw[e] at jf;obtain⟨_,_,_,e3⟩:=jf;cases e3
    .rw[e] at jf;obtain⟨_,_,_,e3⟩:=jf;cases e3;exact cw.wf _ _ cC
   rw[BA b (by have:=g2.next;omega),κA' b jf]
  .intro b hb;have:=hd6 b hb;simp at this;rcases uM (κ3 b) with h|h
   .exact h
   .have:=(O4.new b (by omega)).2;omega
  .have hBB:∀b,aw B.v b->¬(κ0 b=3\/κ0 b=5):=fun b hb h=>by have:=kB b hb;omega
   have hB4:=hB'.grow cw hG hBB;have hB6:=(hB4.aX G4.ok g5).grow g5.ok g6 (fun b hb h=>by have:=lA b h;have:=hB.bE mN hb;omega);refine xF hB6 (by simp) (fun j x y h1 h2=>?_);rw[eu] at h2;by_cases ej:k=j
   .subst ej;rw[aY rfl,aY hkC] at h2;cases h2;rw[qM] at h1;cases h1;rw[er4,er3];rfl
   .rw[bc ej] at h2;rw[h1] at h2;cases h2;rfl
  .intro j k' a h1 h2;rw[eu];by_cases hj:j<i
   .rw[FX (by omega)] at h2;have ct:¬k=k':=fun e=>by subst e;have a1:=(bK.mp h1).2;have a2:=(bK.mp hk).2;have:=(List.getElem_inj nd).1 (a1.trans a2.symm);omega
    rw[bc ct];exact Yl j k' a h1 h2
   .rw[HA (by omega)] at h2;have hj0:j-acc.length=0:=by have:=(bK.mp h2).1;simp at this;omega
    have Us:j=i:=by omega
    subst Us;rw[hj0] at h2;simp at h2;rw[hk] at h1;cases h1;rw[aY rfl,aY hkC,h2]
  .intro k' a c h1 h2;rw[yS,hk];rw[eu] at h2;by_cases ek:k=k'
   .subst ek;rw[aY rfl,aY hkC] at h2;cases h2;rw[yq] at h1;cases h1;refine⟨fun _=>⟨pk,yp,?_⟩,fun h=>absurd (List.mem_append_right _ (by simp)) h⟩;rw[er4,er3];exact⟨rfl,rfl,rfl,rfl,rfl,rfl,rfl,af7,fun i q p a b=>⟨(H3 i q p a b).1,(H3 i q p a b).2.2⟩⟩
   .rw[bc ek] at h2;obtain⟨c1,c2⟩:=H k' a c h1 h2;refine⟨fun h=>c1 ?_,fun h=>c2 (fun h'=>h (List.mem_append_left _ h'))⟩;rcases rM.1 h with h|h
    .exact h
    .simp at h;exact absurd h.symm ek
 .have:i=aQ.length:=by omega
  subst this;rw[xK] at H;simp[N1,Hb];exact C _ _ κ cap LZ acc A (by simp[q2]) (by simp[q4]) (by simp[q9]) g E1 κlo O' κA' yW M5 Yl abC (fun k r r' h1 h2=>(H k r r' h1 h2).1)
theorem cH.dY(w:cH h n0 ag κ cap rs)(f:Nat->Nat)(hs:∀(i:Nat)(x:XR),xs[i]?=some x->rs[f i]?=some x)(hf:∀i j:Nat,i<xs.length->j<xs.length->f i=f j->i=j):cH h n0 ag κ cap xs:=by
 have dd:∀(g:XR->SV),(∀(i j:Nat)(ri rj:XR)(b:Nat),rs[i]?=some ri->rs[j]?=some rj->i≠j->aw (g ri).v b->¬aw (g rj).v b)->∀(i j:Nat)(ri rj:XR)(b:Nat),xs[i]?=some ri->xs[j]?=some rj->i≠j->aw (g ri).v b->¬aw (g rj).v b:=by intro g d i j ri rj b h1 h2 hn;exact d (f i) (f j) ri rj b (hs i ri h1) (hs j rj h2) (fun e=>hn (hf i j (bK.mp h1).1 (bK.mp h2).1 e))
 exact⟨fun i x hx=>w.r (f i) x (hs i x hx),dd (·.P) w.dP,dd (·.L) w.dL,dd (·.T) w.dT,w.V,w.new⟩
structure aeh(rs:List XR)(aQ:List Nat):Prop where
 T:TOk (bx rs)
 DK:rs.length<=72
 short:∀ps∈Edge.bp (bx rs),ps.length<50
 nd:aQ.Nodup
 lt:∀x∈aQ,x<rs.length
 pl:∀r∈rs,r.ps.length<1000000
 rows:∀(k:Nat)(r:XR)(pk:List Int),rs[k]?=some r->(Edge.bp (bx rs))[k]?=some pk->∀q∈r.ps,q.2.l=pk.length
def aiR(name:ByteArray)(p r:Int)(n0 ag:Nat)(κ0:Nat->Nat)(rs:List XR)(aQ:List Nat)(h:ab)(v:Value)(h':ab):Prop:=
 aa (fun b=>κ0 b=3\/κ0 b=5) h h'/\∃(B':SV) (bD:List XR) (κ cap:Nat->Nat) (ats:List Int),v=.agg ⟨aj name p r B'⟩/\(∀x,x<h.next->κ x=κ0 x)/\kW h' n0 ag κ cap B' bD/\bD.length=aQ.length/\ats.length=rs.length/\(∀i x:Nat,aQ[i]?=some x->ats[x]?=some (i:Int))/\(∀x,x<rs.length->x∉aQ->ats[x]?=some (-1))/\∀(i k:Nat)(a b:XR),aQ[i]?=some k->rs[k]?=some a->bD[i]?=some b->∃pk,(Edge.bp (bx rs))[k]?=some pk/\KR ats pk a b
theorem ZC{bN:List (List Int)}(T:TOk bN):Cq bN.length (Edge.bp bN):=by
 have yr:∀ts∈bN,∀t∈ts,t.toNat<bN.length:=fun ts ot t ht=>by have:=T.to ts ot t ht;omega
 refine⟨Edge.cR _,fun x ps iT=>⟨?_,fun p hp=>?_⟩⟩
 .have h1:=Edge.p9 (n:=bN.length) (dD:=bN) T.two x bN.length;have h2:((Edge.upto bN.length bN bN.length)[x]?).getD []=ps:=by show((Edge.bp bN)[x]?).getD []=ps;rw[iT];rfl
  rw[h2] at h1;have:=T.len;omega
 .have hm:=(Edge.mL yr (u:=x) (x:=p)).1 (by rw[iT];exact hp);obtain⟨i,rfl,ts,ht,_⟩:=hm;have:=(bK.mp ht).1;omega
theorem UK(ok:bl h){name:ByteArray}{p r:Int}(W:kW h n0 ag κ0 sH B rs)(qk:n0<=h.next)(I:aeh rs aQ)(hO:aL bg h O.v (nI aQ))(κO:aQ≠[]->∀b,aw O.v b->κ0 b=0):aE FF xW [.agg ⟨aj name p r B⟩,O.v] h (aiR name p r n0 ag κ0 rs aQ h):=by
 have cV:=W.A.len;have h24:=I.DK;have LO:O.l=aQ.length:=by obtain⟨a,cap,e,_⟩:=hO;simp[nI] at e;exact e.2.1
 have X8:aQ.length<=rs.length:=by have:=gK_ I.nd (l₂:=List.range rs.length) (fun x hx=>PY.2 (I.lt x hx));simpa using this
 have κnew:∀b,h.next<=b->κ0 b=0:=fun b hb=>by
  rcases uM (κ0 b) with h|h
  .exact h
  .have:=(W.os.new b (by omega)).2;omega
 refine aE.of Mt ?_;unfold De;have n2:¬h.next=h.next+1+1:=by omega
 simp[aj,n2];refine aF.cut (fun h1=>aa aG h h1/\(∃s,h1.tr.get h.next=some (.aC (aj name p r B) false 0 s))/\(∃s,h1.tr.get (h.next+1)=some (.aC [.string ⟨⟨[]⟩⟩,.int .i64 0,.int .i64 0,.slice none 0 0] false 0 s))/\(∃s,h1.tr.get (h.next+1+1)=some (.aC [.int .i64 (-1)] false 0 s))) ?_ ?_
 .exact⟨(((aa.refl ok).new _ _).new _ _).new _ _,⟨0,by simp[aj,n2]⟩,⟨0,by simp⟩,⟨0,by simp⟩⟩
 rintro h1⟨g1,⟨sF,ta⟩,⟨sR,yV⟩,⟨s1,X3⟩⟩;refine aF.call (V:=fun v h'=>aa aG h1 h'/\∃d s,v=.slice (some ⟨d,0,none⟩) rs.length rs.length/\h1.next<=d/\h'.tr.get d=some (.aC (bg.flat (List.replicate rs.length (-1:Int))) false 0 s)) (by simpa [cV] using Hd g1.ok rs.length (by omega) (x:= -1) X3) ?_;rintro _ h2⟨g2,dA,sA,rfl,hdA,MW⟩;have jd:=g1.trans g2;have dX:=g2.get g1.ok ta;have Du:=g2.get g1.ok yV;have lR:=g1.ok.wf _ _ yV;simp[LO];refine abP jd.ok (n:=rs.length) I.nd I.lt X8 (by omega) (hO.aX ok jd) (fun b hb ct e=>?_) MW (by simp) (by simp[LO]) (by simp) (by simp) ?_
 .subst e;have dQ:b<h.next:=by
   obtain⟨off,nn,iN,e1⟩:=hb;obtain⟨a,cap,e2,hx⟩:=hO;rcases hx with⟨h1,_⟩|⟨b2,ab8,cs2,ro2,o2,st2,e3,cC,_⟩
   .have:(nI aQ).length=0:=by rw[h1];rfl
    simp[nI] at this;exact absurd this ct
   .rw[e1,e3] at e2;injection e2 with e2;cases e2;exact ok.wf _ _ cC
  have:=g1.next;omega
 intro e3 h3 ats K3 g3 ⟨sA3,OK⟩ KA Dx hno;have dw:aa aG h h3:=jd.trans' g3 (fun _ _ h=>h) (fun x hx e=>by have:=g1.next;omega);have qL:=g3.get jd.ok dX (by omega);have Ky:=g3.get jd.ok Du (by omega);have W3:=W.aX ok dw;obtain⟨bs,Ia,hV⟩:=W3.view;have E:=hV.ends I.T;have As:=hV.dD;have k1:ai e3 1=O.v:=K3.at (t:=1) (by simp[LO]);have k2:ai e3 2=.pointer (some ⟨h.next,0,none⟩):=K3.at (t:=2) (by simp);have k4:ai e3 4=.pointer (some ⟨h.next+1,0,none⟩):=K3.at (t:=4) (by simp);have k5:ai e3 5=.slice (some ⟨dA,0,none⟩) rs.length rs.length:=K3.at (t:=5) (by simp);simp[aj] at qL;simp[k2,qL];refine aF.call (V:=fun v h'=>aa aG h3 h'/\∃d ws,v=.slice (some ⟨d,0,none⟩) bs.length bs.length/\je bg h3.next h' d ws (Edge.bp (bt bs))) (by simpa [aj] using jk dw.ok (name:=name) (p:=p) (r:=r) Ia E) ?_;rintro _ h4⟨g4,d8,ws,rfl,w8⟩;rw[As] at w8;have ma:bs.length=rs.length:=hV.1;rw[ma];have oE:=dw.trans g4;have zt:=g4.get dw.ok qL;have Ue:=g4.get dw.ok Ky;have hA4:=g4.get dw.ok OK;have W4:=W.aX ok oE;have ku:(bx rs).length=rs.length:=by simp[bx]
 have RW:=ZC I.T;rw[ku] at RW;have ln1:=g1.next;have ln3:=dw.next;have WC:KB h4 κ0 rs.length dA d8 h3.next ats ws (Edge.bp (bx rs)):=⟨by omega,⟨sA3,hA4⟩,KA,w8,κnew dA (by omega),fun b hb=>by have:=(W.os.new b hb).2;omega,RW,I.short⟩;have yr:∀x∈rs,x.ts.length<1000000/\∀t∈x.ts,0<=t/\t<rs.length:=by intro x hx;have hm:x.ts∈bx rs:=j_.2 ⟨x,hx,rfl⟩;refine⟨by have:=I.T.two _ hm;omega,fun t ht=>?_⟩;have:=I.T.to _ hm t ht;rw[ku] at this;exact this
 simp[k1,LO];refine Ns oE.ok WC rfl (by have:=oE.next;omega) W4.os W4.A W4.kB zt (κnew _ (by omega)) Ue (κnew _ (by omega)) I.nd I.lt (hO.aX ok oE) κO yr I.rows I.pl (by simp[k2]) (by simp[k4]) (by simp[k5]) (by simp) (by simp[LO]) (by simp) (by simp) (by simp[cJ]) ?_;intro e5 h5 κ cap LZ acc A q2 q4 q9 g5 E5 κlo O5 κA5 yW M5 Yl abC H5;have w35:∀x,(κ0 x=3\/κ0 x=5)->κ0 x≠0:=fun x h=>by omega
 have OL:=g5.get oE.ok zt (fun h=>w35 _ h (κnew _ (by omega)));have HB:=g5.get oE.ok Ue (fun h=>w35 _ h (κnew _ (by omega)));simp at q9;simp[q2,q4,q9,OL,HB];have ln4:=oE.next;have ln5:=g5.next;have κ0n:∀x,h.next<=x->x<h4.next->κ x=0:=fun x h1 h2=>by rw[κlo x h2];exact κnew x h1
 have Ds:fS eW h5 A acc:=by
  rcases yW with⟨e1,e2⟩|⟨b,s,e2,hb,hx,mc⟩
  .simp at e2;exact⟨by rw[e1];exact e2.2.1,.inl ⟨e2.1,e2.2.2,e1⟩⟩
  .simp at e2;exact⟨e2.2.1,.inr ⟨b,_,s,[],e2.1,by simp[e2.2.2],by simpa using hb,.inr rfl⟩⟩
 have auq:∀(i:Nat)(x:XR),acc[i]?=some x->∃k,aQ[i]?=some k/\LZ[k]?=some x:=by
  intro i x hx;have hi:i<aQ.length:=by rw[<-M5];exact(bK.mp hx).1
  exact⟨_,ff hi,Yl i _ x (ff hi) hx⟩
 have OA:=O5.dY (xs:=acc) (fun i=>(aQ[i]?).getD 0) (fun i x hx=>by
  obtain⟨k,h1,h2⟩:=auq i x hx;rw[h1];exact h2) (fun i j hi hj e=>by
  have Dz:i<aQ.length:=by omega
  have Uq:j<aQ.length:=by omega
  rw[ff Dz,ff Uq] at e;exact(List.getElem_inj I.nd).1 e)
 have lA:∀b,aw A.v b->h4.next<=b:=fun b hb=>yW.of hb;obtain⟨κ',w',e'⟩:=cH.own OA g5.ok Ds (dH n0) (fun b hb=>⟨by have:=lA b hb;omega,κA5 b hb⟩);have κ'0:∀x,h.next<=x->x<h4.next->κ' x=0:=fun x h1 h2=>by rw[e' x (fun hb=>by have:=lA x hb;omega)];exact κ0n x h1 h2
 have l2:=g2.next;have l3:=g3.next;have l4:=g4.next;have gw:=((aa.refl g5.ok).put (S:=fun x=>x=h.next\/x=h.next+1) (off:=3) (vs:=[Value.slice A.a A.l A.c]) ⟨_,OL⟩ (.inr (.inl rfl))).put (b:=h.next+1) (off:=0) (cs:=[Value.string ⟨⟨[]⟩⟩,Value.int IntKind.i64 0,Value.int IntKind.i64 0,Value.slice none 0 0]) (o:=0) (vs:=[Value.string name,Value.int IntKind.i64 p,Value.int IntKind.i64 r,Value.slice A.a A.l A.c]) ⟨sR,by simp[HB]⟩ (.inr (.inr rfl));generalize put (put h5 _ _ _ _ _) _ _ _ _ _=h6 at gw⊢;refine⟨?_,A,acc,κ',cap,ats,by simp[aj],fun x hx=>by rw[e' x (fun hb=>by have:=lA x hb;omega),κlo x (by omega)],w'.grow g5.ok gw (fun b hb=>?_),M5,KA,Dx,hno,fun i k a b h1 h2 h3=>?_⟩
 .exact(oE.trans' g5 (S:=fun b=>κ0 b=3\/κ0 b=5) (fun _ _ h=>h.elim) (fun _ _ h=>h)).trans' gw (fun _ _ h=>h) (fun x hx e=>by omega)
 .rcases hb with e|e<;>(rw[e];exact κ'0 _ (by omega) (by omega))
 .exact H5 k a b h2 (Yl i k b h1 h3) (bU h1)
theorem Cb{α:Type}(E:Enc α)(ys zs:List α)(i:Nat):aR (E.flat ys) (i*E.sz) (E.flat zs)=E.flat (ys.take i++zs++ys.drop (i+zs.length)):=by unfold aR;rw[E.fE,E.bh,<-tW,E.jP,E.dG,E.dG]
def IxI(h:ab)(W:SV)(t:Int)(xs:List Int)(m:Nat)(e:Env)(h2:ab):Prop:=
 ∃j:Nat,m=xs.length-j/\j<=xs.length/\ai e 0=W.v/\ai e 1=.int .i64 t/\ai e 7=.int .i64 xs.length/\ai e 8=.int .i64 j/\h2=h/\∀k,k<j->xs[k]? ≠some t
theorem xR{W:SV}{xs:List Int}(hW:aL bg h W.v xs)(hl:xs.length<1000000){t:Int}(ht:t∈xs):aE FF fU [W.v,.int .i64 t] h (fun v h'=>h'=h/\∃k:Nat,v=.int .i64 k/\xs[k]?=some t):=by
 have H7:W.l=xs.length:=by obtain⟨a,cap,e,_⟩:=hW;simp at e;exact e.2.1
 refine aE.of jq ?_;unfold fT;simp[H7];refine az.loop (IxI h W t xs) ?_ (n:=xs.length) ⟨0,rfl,by omega,by simp[H7],by simp,by simp,by simp,rfl,fun k hk=>by omega⟩;rintro m e h2⟨j,rfl,hj,f0,f1,f7,f8,rfl,hn⟩;unfold eZ;have aM:j<xs.length:=by
  rcases Ae j xs.length with h|h
  .exact h
  .obtain⟨k,hk⟩:=oD ht;exact absurd hk (hn k (by have:=(bK.mp hk).1;omega))
 have wj:=wrap_i64 ((j:Int)+1) (by omega) (by omega);obtain⟨x,hx⟩:=ay xs j aM;obtain⟨bW,QV,PA,Dv,_,_,cS⟩:=hW.read hx;have ro:=cS 0 1 (by decide);simp[-ae] at ro Dv;simp at f0;rw[Dv.1,H7] at f0;by_cases e1:t=x
 .subst e1;simp[f0,f1,f7,f8,aM,ro,-ae];exact⟨j,rfl,hx⟩
 .have e2:(t==x)=false:=by simp[e1]
  simp[f0,f1,f7,f8,aM,ro,e2,wj,-ae];refine⟨xs.length-(j+1),by omega,j+1,rfl,by omega,by simp[f0,Dv.1,H7],by simp[f1],by simp[f7],by simp,rfl,fun k hk he=>?_⟩;rcases Ae k j with h|h
  .exact hn k h he
  .have:k=j:=by omega
   subst this;rw[hx] at he;cases he;exact e1 rfl
def WJ(F:SV)(b o:Nat)(vs:List (Bool×Int))(l:Nat)(y:Bool×Int)(h:ab)(v:Value)(h':ab):Prop:=
 ∃(F':SV) (vs':List (Bool×Int)),v=F'.v/\F'.a=F.a/\F'.l=l/\F'.c=F.c/\aa (· =b) h h'/\(∃s',h'.tr.get b=some (.aC (bY.flat vs') false o s'))/\vs'.length=vs.length/\∀v∈vs',v∈vs\/v=y
theorem Xq(y:Bool×Int):bY.flat [y]=[.bool y.1,.int .i64 y.2]:=rfl
theorem UH(ok:bl h){F:SV}(ha:F.a=some ⟨b,0,none⟩)(hc:F.c=vs.length)(dQ:F.l<F.c)(ho:o=0\/o=2)(hb:h.tr.get b=some (.aC (bY.flat vs) false o s)){x xo xc To xs:Nat}{Tn:List Value}{y:Bool×Int}(hx:h.tr.get x=some (.aC Tn false To xs))(hv:aV h x xo 2=some [.bool y.1,.int .i64 y.2])(Wb:b≠x)(i:Nat)(hi:i<=F.l)(cj:F.l<1000000):aE FF iM [F.v,.int .i64 i,.slice (some ⟨x,xo,none⟩) 1 xc] h (WJ F b o vs (F.l+1) y h):=by
 have q1:Nat.ble i F.l=true:=by simpa using hi
 have q2:Nat.blt F.l F.c=true:=by simpa using dQ
 have q3:(Nat.beq o 2||Nat.beq o 0)=true:=by rcases ho with rfl|rfl<;>rfl
 have q4:Nat.ble (0+F.c*2) (bY.flat vs).length=true:=by rw[bY.bh,hc];simp
 have q5:Nat.beq b x=false:=by
  cases e:Nat.beq b x with
  |true=>exact absurd (qW e) Wb
  |false=>rfl
 have q6:Nat.blt F.l 1000000=true:=by simpa using cj
 have e1:Go.AI.aK (bY.flat vs) [.bool y.1,.int .i64 y.2] 0 i F.l 2=bY.flat (vs.take i++[y]++(vs.drop i).take (F.l-i)):=by have a1:=bY.fE vs i;have a2:=bY.jP vs i;have a3:=bY.fE (vs.drop i) (F.l-i);simp only[eB] at a1 a2 a3;unfold Go.AI.aK;rw[List.drop_zero,a1,Ek,a2,a3,bY.dG,bY.dG,Xq]
 have e2:aR (bY.flat vs) 0 (Go.AI.aK (bY.flat vs) [.bool y.1,.int .i64 y.2] 0 i F.l 2)=bY.flat ((vs.take i++[y]++(vs.drop i).take (F.l-i))++vs.drop (F.l+1)):=by have:=Cb bY vs (vs.take i++[y]++(vs.drop i).take (F.l-i)) 0;rw[Nat.zero_mul,List.take_zero,List.nil_append,Ek,<-e1] at this;rw[this];congr 3;simp;omega
 have hp:rmV 2 [F.v,.int .i64 i,.slice (some ⟨x,xo,none⟩) 1 xc] h=some (.slice (some ⟨b,0,none⟩) (F.l+1) F.c,{put h b 0 (bY.flat vs) (Go.AI.aK (bY.flat vs) [.bool y.1,.int .i64 y.2] 0 i F.l 2) o with next:=h.next+8}):=by show rmV 2 [.slice F.a F.l F.c,.int .i64 (.ofNat i),.slice (some ⟨x,xo,none⟩) 1 xc] h=_;rw[ha];simp only[rmV,hb,hx,q1,q2,q3,q4,q5,q6,Nat.beq_refl,Bool.and_true,Bool.not_false,if_true,hv]
 refine aE.run oz hp ⟨⟨F.a,F.l+1,F.c⟩,(vs.take i++[y]++(vs.drop i).take (F.l-i))++vs.drop (F.l+1),by simp[ha],rfl,rfl,rfl,?_,⟨h.clock,by rw[<-e2];simp[put,Tr.aW]⟩,?_,?_⟩
 .have g:=aJ (off:=0) (vs:=Go.AI.aK (bY.flat vs) [.bool y.1,.int .i64 y.2] 0 i F.l 2) ok hb;exact⟨Nat.le_add_right _ _,g.clock,fun b' h1 h2=>g.same b' h1 h2,⟨fun b' o' h'=>En (g.ok.wf b' o' h') (Nat.le_add_right _ _),g.ok.st⟩⟩
 .simp;omega
 .intro v Ge;simp only[rM,List.mem_singleton] at Ge;rcases Ge with((h1|h1)|h1)|h1
  .exact .inl (gQ_ h1)
  .exact .inr h1
  .exact .inl (List.mem_of_mem_drop (gQ_ h1))
  .exact .inl (List.mem_of_mem_drop h1)
theorem Xg(ok:bl h){b o s c l k K N:Nat}(hc:c=vs.length)(hl:l<=c)(hb:h.tr.get b=some (.aC (bY.flat vs) false o s))(hk:k<l)(hK:K=k+1)(hN:N=l-1)(cj:l<1000000):∃h2 vs2,iQ h [.bool false,.int .i64 0] 16 false (.slice (some ⟨b,0,none⟩) k c) (.slice (some ⟨b,K*2,none⟩) (l-K) (c-K))=some (.slice (some ⟨b,0,none⟩) N c,h2)/\aa (· =b) h h2/\(∃s,h2.tr.get b=some (.aC (bY.flat vs2) false o s))/\vs2.length=vs.length/\∀v∈vs2,v∈vs:=by
 have hM:((vs.drop K).take (l-K)).length=l-K:=by simp;omega
 have hw:aL bY h (.slice (some ⟨b,K*2,none⟩) (l-K) (c-K)) ((vs.drop K).take (l-K)):=by
  refine⟨_,_,by rw[hM],.inr ⟨b,K*2,_,_,_,_,rfl,hb,?_,?_⟩⟩
  .rw[hM,bY.bh,eB];omega
  .have a2:=bY.jP vs K;have a3:=bY.fE (vs.drop K) (l-K);simp only[eB] at a2 a3;rw[hM,eB,a2,a3]
 unfold iQ;rw[v5 (E:=bY) (z:=[.bool false,.int .i64 0]) rfl hw,hM];dsimp only;rcases uM (l-K) with h0|h0
 .refine⟨h,vs,?_,.refl ok,⟨s,hb⟩,rfl,fun v hv=>hv⟩;have:N=k:=by omega
  have q:k<=c:=by omega
  rw[h0,this];simp[eA,q]
 .obtain⟨M,hM'⟩:∃M,M=l-K:=⟨_,rfl⟩;rw[<-hM'] at h0 hM⊢;have r1:roomy N=true:=by simp[roomy];omega
  have r2:roomy (N*16)=true:=by simp[roomy];omega
  have q1:N<=c:=by omega
  have q2:¬M=0:=by omega
  have e1:k+M=N:=by omega
  have mV:(bY.flat ((vs.drop K).take M)).length=M*2:=by rw[bY.bh,hM,eB]
  have q3:k*2+M*2<=(bY.flat vs).length:=by rw[bY.bh,eB];omega
  have q4:k*2+M*2<=vs.length*2:=by omega
  refine⟨put h b (k*2) (bY.flat vs) (bY.flat ((vs.drop K).take M)) o,vs.take k++(vs.drop K).take M++vs.drop (k+M),?_,aJ ok hb,⟨h.clock,?_⟩,?_,?_⟩
  .simp[eA,r1,r2,q1,q2,hb,mV,q4,e1]
  .rw[aA];have:=Cb bY vs ((vs.drop K).take M) k;rw[hM] at this;simp only[eB] at this;rw[this]
  .simp;omega
  .intro v hv;simp only[rM] at hv;rcases hv with(h1|h1)|h1
   .exact gQ_ h1
   .exact List.mem_of_mem_drop (gQ_ h1)
   .exact List.mem_of_mem_drop h1
theorem II(ok:bl h){F:SV}(ha:F.a=some ⟨b,0,none⟩)(hc:F.c=vs.length)(hl:F.l<=F.c)(ho:o=0\/o=2)(hb:h.tr.get b=some (.aC (bY.flat vs) false o s))(k:Nat)(hk:k<F.l)(cj:F.l<1000000):aE FF iL [F.v,.int .i64 k,.int .i64 ((k:Int)+1)] h (WJ F b o vs (F.l-1) (false,0) h):=by
 obtain⟨K,hK⟩:∃K,K=k+1:=⟨_,rfl⟩;obtain⟨N,hN⟩:∃N,N=F.l-1:=⟨_,rfl⟩;have eK:((k:Int)+1)=(K:Int):=by omega
 rw[eK];have q1:K<=F.l:=by omega
 have q2:k<=K:=by omega
 have q3:((k:Int)==(K:Int))=false:=by simp;omega
 have q4:K<=F.c:=by omega
 have q5:k<=F.l:=by omega
 have q6:k<=F.c:=by omega
 refine aE.of oy ?_;unfold iJ;have q7:(Nat.beq o 0||Nat.beq o 2)=true:=by rcases ho with rfl|rfl<;>rfl
 simp[ha,q1,q2,q3,q4,q5,q6,q7,hl,hb];obtain⟨h2,vs2,ea,g2,⟨s2,cC⟩,uO,hv2⟩:=Xg (N:=N) (aS ok).ok hc hl (by simpa using hb) hk hK hN cj;refine tw ea ?_;have q8:N<=F.l:=by omega
 have q9:N<=F.c:=by omega
 have AQ:F.l-N=1:=by omega
 have mP:N*2+2<=vs2.length*2:=by omega
 have hr:iP [Value.bool false,Value.int IntKind.i64 0] 1=[.bool false,.int .i64 0]:=rfl;simp[q7,q8,q9,AQ,mP,hl,cC,hr];have g3:=aJ (off:=N*2) (vs:=[.bool false,.int .i64 0]) g2.ok cC;refine⟨⟨some ⟨b,0,none⟩,N,F.c⟩,vs2.set N (false,0),by simp,ha.symm,hN,rfl,((aS ok).aX.trans g2).trans g3,⟨h2.clock,?_⟩,by simp[uO],fun x hx=>?_⟩
 .rw[aA];have:=bY.dS vs2 N (false,0) (by omega);simp only[eB,xG] at this;rw[this]
 .rcases Em hx with h|h
  .exact .inl (hv2 _ h)
  .exact .inr h
section
variable{h h':ab}{n0 ag:Nat}{κ cap:Nat->Nat}{rs:List XR}
theorem cH.CZ(w:cH h n0 ag κ cap rs)(ok:bl h)(hk:κ b=1)(g:aa (· =b) h h')(hb:∃s,h'.tr.get b=some (.aC (bY.flat vs) false o s))(ho:o=0\/o=2)(hl:vs.length=cap b)(hv:∀v∈vs,h_ ag v):cH h' n0 ag κ cap rs:=by
 refine⟨fun i r hr=>(w.r i r hr).adf ok g (fun x hx=>by subst hx;omega),w.dP,w.dL,w.dT,fun x hx=>?_,fun x hx=>by have:=w.new x hx;have:=g.next;omega⟩;by_cases e:x=b
 .subst e;obtain⟨s,hb⟩:=hb;exact⟨vs,o,s,hb,ho,hl,hv⟩
 .obtain⟨vs',o',s',h1,h2⟩:=w.V x hx;exact⟨vs',o',s',g.get ok h1 e,h2⟩
theorem kW.CZ{B:SV}(w:kW h n0 ag κ cap B rs)(ok:bl h){b:Nat}(hk:κ b=1)(g:aa (· =b) h h'){vs:List (Bool×Int)}{o:Nat}(hb:∃s,h'.tr.get b=some (.aC (bY.flat vs) false o s))(ho:o=0\/o=2)(hl:vs.length=cap b)(hv:∀v∈vs,h_ ag v):kW h' n0 ag κ cap B rs:=
 ⟨w.os.CZ ok hk g hb ho hl hv,w.A.grow ok g (fun x hx e=>by have:=w.kB x hx;subst e;omega),w.kB⟩
end
def aph:List Nat:=[79,80,81,82,83,84,85,86,87,88,89,90,91,92,93,94,95,96,97,98,99]
theorem Zw(ok:bl h)(O:kW h n0 ag κ cap B rs){F X1 X2 y i k j sF:Nat}(hF:h.tr.get F=some (.aC (aj name p rg B) false 0 sF))(κF:κ F=0)(hr:rs[y]?=some r)(hq:r.ps[i]?=some q)(qq:∃s,h.tr.get X1=some (.aC [.int .i64 q.1,q.2.v] false 0 s))(κ1:κ X1=0){v:Bool×Int}(ef:∃s,h.tr.get X2=some (.aC [.bool v.1,.int .i64 v.2] false 0 s))(κ2:κ X2=0)(hv:h_ ag v)(hk:k<q.2.l)(hj:j+1<=q.2.l)(Qm:q.2.l<1000000)(fu:r.ps.length<1000000)(f0:ai e 0=.pointer (some ⟨F,0,none⟩))(f8:ai e 8=.int .i64 y)(f9:ai e 9=.int .i64 k)(f10:ai e 10=.int .i64 j)(f13:ai e 13=.int .i64 i)(f14:ai e 14=.pointer (some ⟨X1,0,none⟩))(f15:ai e 15=.pointer (some ⟨X2,0,none⟩))(C:∀e' h' F',ax aph e e'->aa (fun b=>κ b=1\/κ b=3) h h'->F'.l=q.2.l->kW h' n0 ag κ cap B (rs.set y {r with ps:=r.ps.set i (q.1,F')})->QQ .normal e' h'):az FF Lh e h QQ:=by
 obtain⟨s1,qq⟩:=qq;obtain⟨s2,ef⟩:=ef;have R:=O.os.r y r hr;have vC:=(bK.mp hr).1;have afE:=(bK.mp hq).1;obtain⟨bB,cs,oB,sB,dZ,Ak,Ur,dV,cS,jh⟩:=O.A.el hr;have κB:κ bB=2:=O.kB bB (bC dZ);have N2:=cS 0 1 (by decide);simp[-ae] at N2;have P9:=O.A.len;have dX:=hF;simp[aj] at dX;rw[dZ,P9] at dX;have agi:=ok.st _ _ _ _ _ hF;have abF:=ok.st _ _ _ _ _ Ak;have agh:=ok.st _ _ _ _ _ qq;have Ar:=ok.st _ _ _ _ _ ef;have oF:=ok.bE hF;have oX2:=ok.bE ef;obtain⟨hVl,hVA|⟨b,ON,Nn,hVc⟩⟩:=(R.ps q (bU hq)).2
 .omega
 obtain⟨vs,o,s,hb,ho,Jc,vB⟩:=O.os.V b Nn;have iF:=R.P.len;have wk:=wrap_i64 ((k:Int)+1) (by omega) (by omega);simp at qq;rw[ON] at qq;unfold Lh;simp[f0,f8,f9,f10,f13,f14,f15,dX,vC,N2,qq,ef,wk,-ae,aq dX,aq qq,aq ef,aB,aN,oF,oX2];refine aZ.cut (fun h2=>aa aG h h2/\h.clock<=h2.clock/\h2.tr.get h.next=some (.aC [.bool v.1,.int .i64 v.2] false 0 0)) ?_ ?_
 .exact⟨(aS ok).trans (aH (aS ok).ok _ _),Nat.le_succ _,by simp⟩
 rintro h2⟨g2,F9,uN⟩;have cC:=g2.get ok hb;have CA:=g2.get ok Ak;have MY:=g2.get ok dX;have aff:=g2.get ok ef;have O2:=O.aX ok g2;refine aZ.call (V:=WJ q.2 b o vs (q.2.l-1) (false,0) h2) (by simpa [ON] using II g2.ok (F:=q.2) ON (by omega) hVl ho cC k hk Qm) ?_;rintro _ h3⟨F3,vs3,rfl,ha3,XY,hc3,g3,⟨s3,vk⟩,hvl3,hvv3⟩;have O3:=O2.CZ g2.ok Nn g3 ⟨s3,vk⟩ ho (by omega) (fun v hv=>by
  rcases hvv3 v hv with h|h
  .exact vB v h
  .rw[h];intro h;cases h)
 have nb1:¬h.next=b:=fun e=>by have:=ok.wf _ _ hb;omega
 have nb2:¬X2=b:=fun e=>by rw[e] at κ2;omega
 have nbF:¬F=b:=fun e=>by rw[e] at κF;omega
 have nbB:¬bB=b:=fun e=>by rw[e] at κB;omega
 have vT:=g3.get g2.ok uN nb1;have afg:=g3.get g2.ok aff nb2;have qL:=g3.get g2.ok MY nbF;have Al:=g3.get g2.ok CA nbB;simp[f15,afg,vT,Ar];have rY:aV h3 h.next 0 2=some [.bool v.1,.int .i64 v.2]:=by rw[cx vT (by simp)];rfl
 refine aZ.call (V:=WJ F3 b o vs3 (F3.l+1) v h3) (by simpa using UH g3.ok (F:=F3) (by rw[ha3,ON]) (by omega) (by omega) ho vk vT rY (Ne.symm nb1) j (by omega) (by omega)) ?_;rintro _ h4⟨F4,vs4,rfl,ha4,I8,hc4,g4,⟨s4,HC⟩,hvl4,hvv4⟩;have O4:=O3.CZ g3.ok Nn g4 ⟨s4,HC⟩ ho (by omega) (fun w hw=>by
  rcases hvv4 w hw with h|h
  .rcases hvv3 w h with h|h
   .exact vB w h
   .rw[h];intro h;cases h
  .rw[h];exact hv)
 have zt:=g4.get g3.ok qL nbF;have aeU:=g4.get g3.ok Al nbB;have R4:=(O4.os.r y r hr).P;obtain⟨bP,csP,oP,sP,oG,hPb,hjP,Na,Yg,Nj⟩:=R4.el hq;have κP:κ bP=3:=R.kP bP (bC oG);have EG:=Na 1 1 (by decide);simp at EG;have eP:r.P.v=.slice (some ⟨bP,0,none⟩) r.ps.length r.P.c:=by rw[show r.P.v=.slice r.P.a r.P.l r.P.c from rfl,oG,iF]
 have gw:aa (· =bP) h4 (put h4 bP (i*2+1) csP [.slice F4.a F4.l F4.c] oP):=aJ g4.ok hPb;have gw':aa (aw r.P.v) h4 (put h4 bP (i*2+1) csP [.slice F4.a F4.l F4.c] oP):=gw.bH (fun x _ e=>e▸bC oG);have A5:=Nj (q.1,F4) 1 [.slice F4.a F4.l F4.c] (by simp) rfl (put h4 bP (i*2+1) csP [.slice F4.a F4.l F4.c] oP) ⟨_,aA _ _ _ _ _ _⟩;simp[zt,aeU,agi,abF,oG,iF,afE,hPb,EG];refine C _ _ F4 ?_ ?_ (by omega) ⟨O4.os.ZQ g4.ok hr gw' A5 rfl (fun p hp=>?_),?_,O4.kB⟩
 .repeat (refine ax.set ?_)
  exact ax.refl _ _
 .have w1:∀x,x=b->(κ x=1\/κ x=3):=fun x e=>.inl (by rw[e];exact Nn);exact((g2.aX.trans (g3.bH (fun x _ e=>w1 x e))).trans (g4.bH (fun x _ e=>w1 x e))).trans (gw.bH (fun x _ e=>.inr (by rw[e];exact κP)))
 .rcases Em hp with h|h
  .exact R.ps p h
  .rw[h];exact⟨(R.ps q (bU hq)).1,by show F4.l<=F4.c;omega,.inr ⟨b,by show F4.a=_;rw[ha4,ha3,ON],Nn,by show F4.c=_;omega⟩⟩
 .refine xF (O4.A.grow g4.ok gw (fun x hx e=>by have:=O4.kB x hx;rw[e] at this;omega)) (by simp) (fun m a c h1 h2=>?_);rw[eu] at h2;by_cases e1:y=m
  .subst e1;rw[aY rfl,aY vC] at h2;cases h2;rw[hr] at h1;cases h1;rfl
  .rw[bc e1] at h2;rw[h1] at h2;cases h2;rfl
def ai2:List Nat:=[13,14,15,69,70,71,72,73,74,75,76,77,78,79,80,81,82,83,84,85,86,87,88,89,90,91,92,93,94,95,96,97,98,99,100]
def jB(qs ps:List (Int×SV)):Prop:=qs.length=ps.length/\∀(i:Nat)(q p:Int×SV),qs[i]?=some q->ps[i]?=some p->q.1=p.1/\q.2.l=p.2.l
theorem jB.refl(ps:List (Int×SV)):jB ps ps:=⟨rfl,fun i q p a b=>by rw[a] at b;cases b;exact⟨rfl,rfl⟩⟩
theorem jB.trans{a b c:List (Int×SV)}(h:jB a b)(k:jB b c):jB a c:=⟨h.1.trans k.1,fun i q p h1 h2=>by obtain⟨x,hx⟩:=ay b i (by rw[<-h.1];exact(bK.mp h1).1);obtain⟨a1,a2⟩:=h.2 i q x h1 hx;obtain⟨b1,b2⟩:=k.2 i x p hx h2;exact⟨a1.trans b1,a2.trans b2⟩⟩
theorem jB.set{qs ps:List (Int×SV)}(h:jB qs ps){i:Nat}{q:Int×SV}(hq:qs[i]?=some q){F:SV}(hF:F.l=q.2.l):jB (qs.set i (q.1,F)) ps:=by
 refine jB.trans ⟨by simp,fun j a b h1 h2=>?_⟩ h;rw[eu] at h1;by_cases e:i=j
 .subst e;rw[aY rfl,aY (bK.mp hq).1] at h1;cases h1;rw[hq] at h2;cases h2;exact⟨rfl,hF⟩
 .rw[bc e,h2] at h1;cases h1;exact⟨rfl,rfl⟩
def apj(h:ab)(n0 ag:Nat)(κ cap:Nat->Nat)(B:SV)(rs:List XR)(y:Nat)(r:XR)(e:Env)(m:Nat)(e':Env)(h':ab):Prop:=
 ∃(i:Nat) (qs:List (Int×SV)),m=r.ps.length-i/\i<=r.ps.length/\ax ai2 e e'/\ai e' 69=.int .i64 i/\aa (fun b=>κ b=1\/κ b=3) h h'/\kW h' n0 ag κ cap B (rs.set y {r with ps:=qs})/\jB qs r.ps
theorem Zx(ok:bl h)(O:kW h n0 ag κ cap B rs)(qk:n0<=h.next)(hF:h.tr.get F=some (.aC (aj name p rg B) false 0 sF))(κF:κ F=0)(hr:rs[y]?=some r)(hl:∀q∈r.ps,q.2.l=l)(hk:k<l)(hj:j+1<=l)(yZ:l<1000000)(xh:r.ps.length<1000000)(f0:ai e 0=.pointer (some ⟨F,0,none⟩))(f8:ai e 8=.int .i64 y)(f9:ai e 9=.int .i64 k)(f10:ai e 10=.int .i64 j)(f67:ai e 67=r.P.v)(f68:ai e 68=.int .i64 r.ps.length)(f69:ai e 69=.int .i64 0)(C:∀e' h' qs,ax ai2 e e'->aa (fun b=>κ b=1\/κ b=3) h h'->kW h' n0 ag κ cap B (rs.set y {r with ps:=qs})->jB qs r.ps->QQ (.exit 4) e' h'):az FF (.loop qE) e h QQ:=by
 have vC:=(bK.mp hr).1;have xQ:rs.set y {r with ps:=r.ps} =rs:=by
  refine yT fun m=>?_;rw[eu];by_cases e:y=m
  .subst e;rw[aY rfl,aY vC,hr]
  .rw[bc e]
 refine az.loop (apj h n0 ag κ cap B rs y r e) ?_ (n:=r.ps.length) ⟨0,r.ps,rfl,by omega,ax.refl _ _,f69,.refl ok,by rw[xQ];exact O,jB.refl _⟩;rintro m e' h'⟨i,qs,rfl,hi,K,q69,g,O',S⟩;have cw:=g.ok;have q0:=K.at f0;have q8:=K.at f8;have q9:=K.at f9;have AQ:=K.at f10;have q67:=K.at f67;have q68:=K.at f68;unfold qE;by_cases fu:i<r.ps.length
 .have wi:=wrap_i64 ((i:Int)+1) (by omega) (by omega);obtain⟨p0,SD⟩:=ay r.ps i fu;obtain⟨q,hq⟩:=ay qs i (by rw[S.1];exact fu);have Qm:q.2.l=l:=by rw[(S.2 i q p0 hq SD).2];exact hl p0 (bU SD)
  have rq:(rs.set y {r with ps:=qs})[y]?=some {r with ps:=qs} :=by rw[eu,aY rfl,aY vC]
  have R:=O'.os.r y _ rq;have RP:fS lu h' r.P qs:=R.P;obtain⟨hVl,hVA|⟨b,ON,Nn,hVc⟩⟩:=(R.ps q (bU hq)).2
  .omega
  obtain⟨vs,o,s,hb,ho,Jc,vB⟩:=O'.os.V b Nn;obtain⟨v,hv⟩:=ay vs k;obtain⟨bP,csP,oP,sP,oG,hPb,hjP,Na,Yg,Nj⟩:=RP.el hq;have r0:=Yg 0 2 (by decide);simp[-ae] at r0;have iF:=RP.len;have rv:aV h' b (k*2) 2=some [.bool v.1,.int .i64 v.2]:=by rw[cx hb (by rw[bY.bh,eB];omega)];have:=bY.pJ vs k v hv;simp only[eB] at this;rw[this];rfl
  simp at q67;rw[oG,iF,S.1] at q67;have pc:k<q.2.l:=by omega
  have ob:=cw.bE hb;have nb1:¬b=h'.next:=by have:=ob.lt;omega
  have nb2:¬b=h'.next+1:=by have:=ob.lt;omega
  simp[q67,q68,q69,q9,fu,pc,r0,rv,ON,ob,nb1,nb2,-ae,au,bj,aN,aB];refine az.cut (fun h2=>aa aG h' h2/\(∃s,h2.tr.get h'.next=some (.aC [.int .i64 q.1,q.2.v] false 0 s))/\∃s,h2.tr.get (h'.next+1)=some (.aC [.bool v.1,.int .i64 v.2] false 0 s)) ?_ ?_
  .have n1:¬h'.next=h'.next+1:=by omega
   exact⟨((aa.refl cw).var _ _).var _ _,⟨h'.clock,by simp[aR,ON,n1]⟩,⟨h'.clock+1,by simp[aR]⟩⟩
  rintro h2⟨g2,qq,ef⟩;have ln:=g.next;have κn:∀x,h'.next<=x->κ x=0:=fun x hx=>by
   rcases uM (κ x) with h|h
   .exact h
   .have:=(O'.os.new x (by omega)).2;omega
  refine Zw g2.ok (O'.aX cw g2) (F:=F) (X1:=h'.next) (X2:=h'.next+1) (y:=y) (i:=i) (k:=k) (j:=j) (v:=v) (q:=q) (g2.get cw (g.get ok hF (by omega))) κF rq hq qq (κn _ (by omega)) ef (κn _ (by omega)) (vB v (bU hv)) (by omega) (by omega) (by omega) (by show qs.length<_;rw[S.1];exact xh) (by simp[q0]) (by simp[q8]) (by simp[q9]) (by simp[AQ]) (by simp) (by simp) (by simp) ?_;intro e3 h3 F' K3 g3 u5 O3;have k69:=K3.at (t:=69) (by simp;exact q69);rw[List.set_set] at O3;simp[k69,wi];refine⟨r.ps.length-(i+1),by omega,i+1,qs.set i (q.1,F'),rfl,fu,?_,by simp,g.trans (g2.aX.trans g3),O3,S.set hq u5⟩;refine ax.set (ax.set (ax.trans ?_ (K3.bH)))
  repeat (refine ax.set ?_)
  exact K
 .have:i=r.ps.length:=by omega
  subst this;simp[q68,q69];exact C _ _ qs (ax.set K) g O' S
end Go.Proofs.YtdhnndleffachaaGreatDoor
namespace Go.AI.Edge
variable{k p x:Nat}{t:Int}{ts:List Int}
def va(bN:List (List Int))(x:Nat):Prop:=∀S:Nat->Prop,S 0->(∀a ts,S a->bN[a]?=some ts->∀t∈ts,S t.toNat)->S x
theorem va.zero(bN:List (List Int)):va bN 0:=fun _ h _=>h
theorem va.step{bN:List (List Int)}{a:Nat}{ts:List Int}(h:va bN a)(ha:bN[a]?=some ts){t:Int}(ht:t∈ts):va bN t.toNat:=fun S h0 hs=>hs a ts (h S h0 hs) ha t ht
def vZ(bN:List (List Int)):List (List Nat):=bN.map (·.map Int.toNat)
theorem B6{bN:List (List Int)}(h:x∈Dfs.row (vZ bN) p):∃ts t,bN[p]?=some ts/\t∈ts/\x=t.toNat:=by
 unfold Dfs.row vZ at h;rw[tV] at h;cases hp:bN[p]? with
 |none=>rw[hp] at h;simp at h
 |some ts=>
  rw[hp] at h;simp at h;obtain⟨t,ht,e⟩:=h;exact⟨ts,t,rfl,ht,e.symm⟩
theorem Vu{bN:List (List Int)}(hp:bN[p]?=some ts)(ht:t∈ts):t.toNat∈Dfs.row (vZ bN) p:=by unfold Dfs.row vZ;rw[tV,hp];simp;exact⟨t,ht,rfl⟩
theorem NV{bN:List (List Int)}(h0:0<bN.length)(yr:∀ts∈bN,∀t∈ts,t.toNat<bN.length)(x:Nat):x∈Dfs.mO (vZ bN) bN.length↔va bN x:=by
 obtain⟨nd,lt,⟨new,e0⟩,cl,up⟩:=Dfs.yD (dD:=vZ bN) h0 (fun b t ht=>by obtain⟨ts,u,h1,h2,rfl⟩:=B6 ht;exact yr ts (bU h1) u h2)
 constructor
 .
  intro hx;obtain⟨l1,l2,e⟩:=List.append_of_mem hx;have key:∀(n:Nat)(l1 l2:List Nat)(x:Nat),l2.length<=n->Dfs.mO (vZ bN) bN.length=l1++x::l2->va bN x:=by
   intro n;induction n with
   |zero=>
    intro l1 l2 x hl e;have:l2=[]:=IX (by omega);subst this;rw[e0] at e;have:=(List.append_inj' e rfl).2;cases this;exact va.zero _
   |succ n ih=>
    intro l1 l2 x hl e;by_cases Nk:x=0
    .subst Nk;exact va.zero _
    .obtain⟨p,hp,m1,m2,em,LU⟩:=up x (by rw[e];simp) Nk;have e2:l1++x::l2=m1++x::m2:=by rw[<-e,<-em]
     have nd':(l1++x::l2).Nodup:=by rw[<-e];exact nd
     have cj:l1.length=m1.length:=by
      have i1:(l1++x::l2)[l1.length]?=some x:=by simp
      have i2:(l1++x::l2)[m1.length]?=some x:=by rw[e2];simp
      have h1:=(bK.mp i1);have h2:=(bK.mp i2);obtain⟨a1,a2⟩:=h1;obtain⟨b1,b2⟩:=h2;exact(List.getElem_inj nd').1 (a2.trans b2.symm)
     have e3:=(List.append_inj e2 cj).2;cases e3;obtain⟨k1,k2,ek⟩:=List.append_of_mem LU;have hr:=ih (l1++x::k1) k2 p (by rw[ek] at hl;simp at hl;omega) (by rw[e,ek];simp);obtain⟨ts,t,h1,h2,rfl⟩:=B6 hp;exact hr.step h1 h2
  exact key l2.length l1 l2 x (dH _) e
 .intro h;refine h (fun y=>y∈Dfs.mO (vZ bN) bN.length) (by rw[e0];simp) (fun a ts ha ot t ht=>cl a ha _ (Vu ot ht))
theorem va.uQ{bN LG:List (List Int)}{aQ:List Nat}(nd:aQ.Nodup)(h00:aQ[0]?=some 0)(cl:∀x∈aQ,∀ts,bN[x]?=some ts->∀t∈ts,t.toNat∈aQ)(ot:∀(i k:Nat),aQ[i]?=some k->∃ts EX,bN[k]?=some ts/\LG[i]?=some EX/\EX.length=ts.length/\∀(j:Nat)(t t':Int),ts[j]?=some t->EX[j]?=some t'->0<=t'/\aQ[t'.toNat]?=some t.toNat){i k:Nat}(hk:aQ[i]?=some k)(h:va bN k):va LG i:=by
 intro S h0 hs;have:=h (fun x=>∃j,aQ[j]?=some x/\S j) ⟨0,h00,h0⟩ (by rintro a ts⟨j,hj,hS⟩ ha t ht;obtain⟨ts1,EX,e1,e2,e3,e4⟩:=ot j a hj;rw[ha] at e1;cases e1;obtain⟨m,hm⟩:=oD ht;have AO:=(bK.mp hm).1;obtain⟨t',AP⟩:∃t',EX[m]?=some t':=⟨_,ff (by omega)⟩;obtain⟨_,h6⟩:=e4 m t t' hm AP;exact⟨t'.toNat,h6,hs j EX hS e2 t' (bU AP)⟩)
 obtain⟨j,hj,hS⟩:=this;have a1:=bK.mp hk;have a2:=bK.mp hj;obtain⟨b1,b2⟩:=a1;obtain⟨c1,c2⟩:=a2;have:i=j:=(List.getElem_inj nd).1 (b2.trans c2.symm);subst this;exact hS
section
variable{bN:List (List Int)}{b to:Nat}{t:Int}{VI:List Int}
def sJ(bN:List (List Int))(b to:Nat)(VI:List Int):List (List Int):=(bN.set b VI).set to []
theorem rK(hb:bN[b]?=some [(to:Int)])(ht:bN[to]?=some VI)(ct:to≠b)(u i:Nat):lZ (sJ bN b to VI) u i=if i=to then 0 else if i=b then lZ bN u to else lZ bN u i:=by
 have ma:=(bK.mp hb).1;have ku:=(bK.mp ht).1;unfold lZ sJ;by_cases h1:i=to
 .subst h1;rw[aY rfl,eu,aY rfl,aY (by simpa using ku)];rfl
 .rw[bc h1,eu,bc (Ne.symm h1),eu];by_cases h2:i=b
  .subst h2;rw[aY rfl,aY rfl,aY ma,ht]
  .rw[bc (Ne.symm h2),bc h2]
theorem Tf(f g:Nat->Nat)(x y:Nat)(ct:x≠y)(h:∀i,i≠x->i≠y->f i=g i):∀n,((List.range n).map f).sum+(if x<n then g x else 0)+(if y<n then g y else 0)=((List.range n).map g).sum+(if x<n then f x else 0)+(if y<n then f y else 0):=by
 intro n;induction n with
 |zero=>simp
 |succ n ih=>
  rw[List.range_succ,List.map_append,List.map_append,List.sum_append_nat,List.sum_append_nat];simp only[IV,List.map_nil,OI,List.sum_nil,IW];have st:∀(v z:Nat),(if z<n+1 then v else 0)=(if z<n then v else 0)+(if n=z then v else 0):=by
   intro v z;by_cases h1:z<n
   .rw[aY h1,aY (by omega),bc (by omega)];rfl
   .by_cases h2:n=z
    .rw[bc h1,aY (by omega),aY h2];omega
    .rw[bc h1,bc (by omega),bc h2]
  rw[st,st,st,st];by_cases h1:n=x
  .have h2:¬n=y:=by omega
   simp only[aY h1,bc h2];subst h1;omega
  .by_cases h2:n=y
   .simp only[bc h1,aY h2];subst h2;omega
   .have:=h n h1 h2;simp only[bc h1,bc h2];omega
theorem Th(n:Nat)(f g:Nat->Nat)(x y:Nat)(hx:x<n)(hy:y<n)(ct:x≠y)(h:∀i,i≠x->i≠y->f i=g i)(he:f x+f y=g x+g y):((List.range n).map f).sum=((List.range n).map g).sum:=by have:=Tf f g x y ct h n;rw[aY hx,aY hy,aY hx,aY hy] at this;omega
theorem Rm(n:Nat)(f g:Nat->Nat)(x y:Nat)(hx:x<n)(hy:y<n)(ct:x≠y)(h:∀i,i≠x->i≠y->f i=g i)(he:f x+f y<=g x+g y):((List.range n).map f).sum<=((List.range n).map g).sum:=by have:=Tf f g x y ct h n;rw[aY hx,aY hy,aY hx,aY hy] at this;omega
theorem Vt(hb:bN[b]?=some [(to:Int)])(ht:bN[to]?=some VI)(ct:to≠b){u:Nat}(hu:u≠to):(rowOf (sJ bN b to VI) u bN.length).length=(rowOf bN u bN.length).length:=by
 have ma:=(bK.mp hb).1;have ku:=(bK.mp ht).1;rw[kV,kV];refine Th _ _ _ to b ku ma ct (fun i h1 h2=>by rw[rK hb ht ct,bc h1,bc h2]) ?_;rw[rK hb ht ct,rK hb ht ct,aY rfl,bc (Ne.symm ct),aY rfl];have:lZ bN u b=0:=by unfold lZ;rw[hb];show [((to:Int)).toNat].count u=0;rw[gP_,List.count_eq_zero];simpa using hu
 omega
theorem Lm(hb:bN[b]?=some [(to:Int)])(ht:bN[to]?=some VI)(ct:to≠b)(u:Nat):(rowOf (sJ bN b to VI) u bN.length).length<=(rowOf bN u bN.length).length:=by have ma:=(bK.mp hb).1;have ku:=(bK.mp ht).1;rw[kV,kV];refine Rm _ _ _ to b ku ma ct (fun i h1 h2=>by rw[rK hb ht ct,bc h1,bc h2]) ?_;rw[rK hb ht ct,rK hb ht ct,aY rfl,bc (Ne.symm ct),aY rfl];omega
theorem Jt(hb:bN[b]?=some [(to:Int)])(h1:(rowOf bN to bN.length).length<=1){a:Nat}(ha:bN[a]?=some ts)(h:t∈ts)(he:t.toNat=to):a=b:=by
 have ma:=(bK.mp hb).1;have KA:=(bK.mp ha).1;rcases Ae 0 (if a=b then 0 else 1) with hc|hc
 .have ct:a≠b:=by intro e;rw[aY e] at hc;omega
  rw[kV] at h1;have c1:1<=lZ bN to b:=by unfold lZ;rw[hb];simp
  have c2:1<=lZ bN to a:=by unfold lZ;rw[ha];show 1<=(ts.map Int.toNat).count to;exact List.count_pos_iff.2 (j_.2 ⟨t,h,he⟩)
  have:2<=((List.range bN.length).map fun i=>lZ bN to i).sum:=by
   have e1:((List.range bN.length).map fun i=>if i=a then lZ bN to a else if i=b then lZ bN to b else 0).sum<=((List.range bN.length).map fun i=>lZ bN to i).sum:=by
    generalize bN.length=n;induction n with
    |zero=>exact dH _
    |succ n ih=>
     rw[List.range_succ,List.map_append,List.map_append,List.sum_append_nat,List.sum_append_nat];refine Nat.add_le_add ih ?_;simp only[IV,List.map_nil,OI,List.sum_nil,IW];split
     .rename_i e;subst e;exact dH _
     .split
      .rename_i e;subst e;exact dH _
      .exact Nat.zero_le _
   have e2:=Th bN.length (fun i=>if i=a then lZ bN to a else if i=b then lZ bN to b else 0) (fun i=>if i=a then lZ bN to a+lZ bN to b else 0) a b KA ma ct (fun i h1 h2=>by simp only[bc h1,bc h2]) (by simp only[if_true,bc (Ne.symm ct)];omega);have e3:∀n,a<n->lZ bN to a+lZ bN to b<=((List.range n).map fun i=>if i=a then lZ bN to a+lZ bN to b else 0).sum:=by
    intro n hn;induction n with
    |zero=>omega
    |succ n ih=>
     rw[List.range_succ,List.map_append,List.sum_append_nat];simp only[IV,List.map_nil,OI,List.sum_nil,IW];by_cases e:n=a
     .rw[aY e];omega
     .have:=ih (by omega);omega
   have:=e3 _ KA;rw[<-e2] at this;omega
  omega
 .by_cases e:a=b
  .exact e
  .rw[bc e] at hc;omega
theorem va.chain(hb:bN[b]?=some [(to:Int)])(ht:bN[to]?=some VI)(ct:to≠b)(h0:to≠0)(h1:(rowOf bN to bN.length).length<=1)(hx:va bN x)(hxt:x≠to):va (sJ bN b to VI) x:=by
 have ma:=(bK.mp hb).1;have ku:=(bK.mp ht).1;intro S s0 hs;have:=hx (fun y=>if y=to then S b else S y) (by simp only[bc (Ne.symm h0)];exact s0) (by
  intro a ts ha ot t htm;by_cases ea:a=to
  .subst ea;rw[aY rfl] at ha;rw[ht] at ot;cases ot;have hn:t.toNat≠a:=fun e=>ct (Jt hb h1 ht htm e);rw[bc hn];exact hs b VI ha (by unfold sJ;rw[eu,bc ct,eu,aY rfl,aY ma]) t htm
  .rw[bc ea] at ha;by_cases eb:a=b
   .subst eb;rw[hb] at ot;cases ot;simp at htm;subst htm;simp only[gP_,if_true];exact ha
   .have hn:t.toNat≠to:=fun e=>eb (Jt hb h1 ot htm e);rw[bc hn];exact hs a ts ha (by unfold sJ;rw[eu,bc (Ne.symm ea),eu,bc (Ne.symm eb)];exact ot) t htm)
 rw[bc hxt] at this;exact this
end
theorem Tg(f g:Nat->Nat)(b:Nat)(h:∀i,i≠b->f i=g i):∀n,((List.range n).map f).sum+(if b<n then g b else 0)=((List.range n).map g).sum+(if b<n then f b else 0)
 |0=>by simp
 |n+1=>by
  have ih:=Tg f g b h n;rw[List.range_succ,List.map_append,List.map_append,List.sum_append_nat,List.sum_append_nat];simp only[IV,List.map_nil,OI,List.sum_nil,IW];by_cases e:n=b
  .subst e;rw[aY (by omega),aY (by omega)];rw[bc (by omega),bc (by omega)] at ih;omega
  .have:=h n e;by_cases e2:b<n
   .rw[aY (by omega),aY (by omega)];rw[aY e2,aY e2] at ih;omega
   .rw[bc (by omega),bc (by omega)];rw[bc e2,bc e2] at ih;omega
def jY(bN:List (List Int))(b i u:Nat)(ts:List Int):List (List Int):=bN.set b (ts.set i (bN.length:Int))++[[(u:Int)]]
theorem TQ(k x:Nat):([x].count k)=if k=x then 1 else 0:=by
 by_cases e:k=x
 .subst e;simp
 .rw[bc e,List.count_eq_zero];simpa using e
theorem count_set{k:Nat} :∀(l:List Nat)(i a x:Nat),l[i]?=some a->((l.set i x).count k)+(if k=a then 1 else 0)=l.count k+(if k=x then 1 else 0)
 |y::l,0,a,x,h=>by
  simp at h;subst h;rw[List.set_cons_zero,List.count_cons,List.count_cons];simp only[beq_iff_eq];have e1:(if x=k then 1 else 0)=(if k=x then 1 else 0):=by simp only[eq_comm]
  have e2:(if y=k then 1 else 0)=(if k=y then 1 else 0):=by simp only[eq_comm]
  omega
 |y::l,i+1,a,x,h=>by have:=count_set (k:=k) l i a x (by simpa using h);rw[List.set_cons_succ,List.count_cons,List.count_cons];omega
section
variable{bN:List (List Int)}{b i u:Nat}{ts:List Int}
theorem Hp:(jY bN b i u ts).length=bN.length+1:=by simp[jY]
theorem Cc(hb:bN[b]?=some ts):(jY bN b i u ts)[b]?=some (ts.set i (bN.length:Int)):=by have ma:=(bK.mp hb).1;unfold jY;rw[FX (by simpa using ma),eu,aY rfl,aY ma]
theorem C1(hk:k≠b)(hl:k<bN.length):(jY bN b i u ts)[k]?=bN[k]? :=by unfold jY;rw[FX (by simpa using hl),eu,bc (Ne.symm hk)]
theorem Hq:(jY bN b i u ts)[bN.length]?=some [(u:Int)]:=by unfold jY;rw[HA (by simp)];simp
theorem ajm(hb:bN[b]?=some ts)(hi:ts[i]?=some (u:Int))(k:Nat):lZ (jY bN b i u ts) k b+(if k=u then 1 else 0)=lZ bN k b+(if k=bN.length then 1 else 0):=by unfold lZ;rw[Cc hb,hb];have:=count_set (k:=k) (ts.map Int.toNat) i u bN.length (by rw[tV,hi];rfl);simp only[Option.getD_some];rw[List.map_set,gP_];exact this
theorem Vv(hb:bN[b]?=some ts)(hi:ts[i]?=some (u:Int))(yr:∀ts∈bN,∀t∈ts,t.toNat<bN.length)(k:Nat):(rowOf (jY bN b i u ts) k (jY bN b i u ts).length).length=if k=bN.length then 1 else(rowOf bN k bN.length).length:=by
 have ma:=(bK.mp hb).1;have hu:u<bN.length:=by simpa using yr ts (bU hb) u (bU hi)
 rw[kV,kV,Hp,List.range_succ,List.map_append,List.sum_append_nat];have h1:=Tg (fun j=>lZ (jY bN b i u ts) k j) (fun j=>if j<bN.length then lZ bN k j else lZ (jY bN b i u ts) k j) b (fun j hj=>by
  by_cases hl:j<bN.length
  .rw[aY hl];unfold lZ;rw[C1 hj hl]
  .rw[bc hl]) bN.length
 have h2:((List.range bN.length).map fun j=>if j<bN.length then lZ bN k j else lZ (jY bN b i u ts) k j)=(List.range bN.length).map fun j=>lZ bN k j:=List.map_congr_left fun j hj=>by rw[aY (PY.1 hj)]
 rw[h2] at h1;rw[aY ma,aY ma,aY ma] at h1;have h3:=ajm hb hi k;have h4:lZ (jY bN b i u ts) k bN.length=if k=u then 1 else 0:=by unfold lZ;rw[Hq];show [((u:Int)).toNat].count k=_;rw[gP_,TQ]
 simp only[IV,List.map_nil,OI,List.sum_nil,IW];rw[h4];by_cases e:k=bN.length
 .have z:((List.range bN.length).map fun j=>lZ bN k j).sum=0:=by
   rw[<-kV];have:rowOf bN k bN.length=[]:=by
    cases hr:rowOf bN k bN.length with
    |nil=>rfl
    |cons x xs=>
     exfalso;have h5:=Cg yr k bN.length;rw[hr] at h5;have:(upto bN.length bN bN.length)[k]?=none:=qY (by rw[qg];omega);rw[this] at h5;cases h5
   rw[this];rfl
  have zb:lZ bN k b=0:=by unfold lZ;rw[hb,List.count_eq_zero];intro h;obtain⟨t,ht,e2⟩:=j_.1 h;have:=yr ts (bU hb) t ht;omega
  rw[aY e] at h3⊢;rw[bc (by omega)] at h3⊢;omega
 .rw[bc e] at h3⊢;omega
theorem va.split(hb:bN[b]?=some ts)(hi:ts[i]?=some (u:Int))(yr:∀ts∈bN,∀t∈ts,t.toNat<bN.length)(hx:va bN x):va (jY bN b i u ts) x:=by
 intro S s0 hs;refine hx S s0 (fun a VI ha ot t htm=>?_);have KA:=(bK.mp ot).1;by_cases e:a=b
 .subst e;rw[hb] at ot;cases ot;have jf:=Cc (i:=i) (u:=u) hb;obtain⟨j,hj⟩:=oD htm;by_cases e2:j=i
  .subst e2;rw[hi] at hj;cases hj;have fu:=(bK.mp hi).1;have h1:=hs a _ ha jf (bN.length:Int) (bU (by rw[eu,aY rfl,aY fu]));exact hs _ _ h1 (by rw[gP_];exact Hq) (u:Int) (by simp)
  .exact hs a _ ha jf t (bU (by rw[eu,bc (Ne.symm e2)];exact hj))
 .exact hs a VI ha (by rw[C1 e KA];exact ot) t htm
theorem va.acJ(hb:bN[b]?=some ts)(hi:ts[i]?=some (u:Int))(yr:∀ts∈bN,∀t∈ts,t.toNat<bN.length)(hx:va bN b):va (jY bN b i u ts) bN.length:=by have fu:=(bK.mp hi).1;have:=(va.split hb hi yr hx).step (Cc (i:=i) (u:=u) hb) (t:=(bN.length:Int)) (bU (by rw[eu,aY rfl,aY fu]));simpa using this
end
end Go.AI.Edge
namespace Go.Proofs.YtdhnndleffachaaGreatDoor
open Go.AI
variable{A B L':SV}{F N X Y ag b bB i j n0 nb sF sX sY to:Nat}{QQ:aO->Env->ab->Prop}{c_ rs:List XR}{cap sH κ κ0:Nat->Nat}{e:Env}{h h':ab}{name:ByteArray}{now ps:List Int}{p rg:Int}{r rb rt:XR}{u:Bool×Int}{v1 v2:Value}{x:XI}{xc:List Value}{zA:List XI}{α:Type}
def RnC:List Nat:=[10,12,45,46,47,48,49,50,51,52,53,54,55,56,57,58,59]
def K0(bE:Int)(l:List Int):Nat:=(l.filter fun x=> !(x==bE)).length
def ai4(h:ab)(ps:List Int)(bE:Int)(e:Env)(m:Nat)(e':Env)(h':ab):Prop:=
 ∃t j:Nat,m=ps.length-t/\t<=ps.length/\ax RnC e e'/\ai e' 45=.int .i64 t/\ai e' 10=.int .i64 j/\h'=h/\j<=K0 bE (ps.take t)
theorem agZ{bE:Int}(h:bE∈ps):K0 bE ps<ps.length:=by
 obtain⟨l1,l2,rfl⟩:=List.append_of_mem h;unfold K0;have h1:=Xs (fun x:Int=> !(x==bE)) l1;have h2:=Xs (fun x:Int=> !(x==bE)) l2;have h3:(!(bE==bE))=false:=by simp
 rw[List.filter_append,List.filter_cons,h3];simp only[IZ,List.length_cons,Sp,if_false];omega
theorem Vn{W:SV}(hW:aL bg h W.v ps)(hl:ps.length<1000000){bE now:Nat}(f1:ai e 1=.int .i64 bE)(f2:ai e 2=.int .i64 now)(f10:ai e 10=.int .i64 0)(f43:ai e 43=W.v)(f44:ai e 44=.int .i64 ps.length)(f45:ai e 45=.int .i64 0)(C:∀e' j,ax RnC e e'->ai e' 10=.int .i64 (j:Nat)->j<=K0 bE ps->QQ (.exit 2) e' h):az FF (.loop qF) e h QQ:=by
 have H7:W.l=ps.length:=by obtain⟨a,cap,e,_⟩:=hW;simp at e;exact e.2.1
 refine az.loop (ai4 h ps bE e) ?_ (n:=ps.length) ⟨0,0,rfl,by omega,ax.refl _ _,f45,f10,rfl,Nat.zero_le _⟩;rintro m e' h'⟨t,j,rfl,ht,K,Le,AQ,rfl,hj⟩;have q1:=K.at f1;have q2:=K.at f2;have N1:=K.at f43;have Hb:=K.at f44;unfold qF;by_cases ku:t<ps.length
 .have wt:=wrap_i64 ((t:Int)+1) (by omega) (by omega);have hjt:K0 bE (ps.take t)<=t:=xf (Xs _ _) (by simp;omega);have wj:=wrap_i64 ((j:Int)+1) (by omega) (by omega);have hx:ps[t]?=some ps[t]:=ff ku;generalize ps[t]=x at hx;obtain⟨bW,QV,PA,Dv,_,_,cS⟩:=hW.read hx;have r1:=cS 0 1 (by decide);simp[-ae] at r1 Dv N1;rw[Dv.1,H7] at N1;have Uz:ps.take (t+1)=ps.take t++[x]:=by rw[yS,hx];rfl
  have Za:K0 bE (ps.take (t+1))=K0 bE (ps.take t)+(if x==(bE:Int) then 0 else 1):=by unfold K0;rw[Uz,List.filter_append,IZ];by_cases e:x=(bE:Int)<;>simp[e]
  have fin:∀(e2:Env)(j':Nat),ax RnC e e2->ai e2 45=.int .i64 ((t:Int)+1)->ai e2 10=.int .i64 (j':Nat)->j'<=K0 bE (ps.take (t+1))->∃m,m<ps.length-t/\ai4 h' ps bE e m e2 h':=by intro e2 j' K2 k45 k10 Uq;exact⟨ps.length-(t+1),by omega,t+1,j',rfl,ku,K2,by rw[k45];rfl,k10,rfl,Uq⟩
  by_cases c1:x<(now:Int)
  .by_cases c2:x=(bE:Int)
   .have c3:(x !=(bE:Int))=false:=by simp[c2]
    simp[q1,q2,N1,Hb,Le,AQ,ku,r1,c1,c3,wt,-ae];refine fin _ j ?_ (by simp) (by simp[AQ]) (by rw[Za];omega)
    repeat (refine ax.set ?_)
    exact K
   .have c3:(x !=(bE:Int))=true:=by simp[c2]
    have c4:(x==(bE:Int))=false:=by simp[c2]
    rw[c4] at Za;simp at Za;simp[q1,q2,N1,Hb,Le,AQ,ku,r1,c1,c3,wt,wj,-ae];refine fin _ (j+1) ?_ (by simp) (by simp) (by rw[Za];omega)
    repeat (refine ax.set ?_)
    exact K
  .simp[q1,q2,N1,Hb,Le,AQ,ku,r1,c1,wt,-ae];refine fin _ j ?_ (by simp) (by simp[AQ]) (by rw[Za];omega)
   repeat (refine ax.set ?_)
   exact K
 .have:t=ps.length:=by omega
  subst this;simp[Hb,Le];exact C _ j (ax.set K) (by simp[AQ]) (by rw[xK] at hj;exact hj)
def oR(bD rs:List XR):Prop:=bD.length=rs.length/\∀(i:Nat)(r' r:XR),bD[i]?=some r'->rs[i]?=some r->r'= {r with ps:=r'.ps} /\jB r'.ps r.ps
theorem oR.refl(rs:List XR):oR rs rs:=⟨rfl,fun i a b h1 h2=>by rw[h1] at h2;cases h2;exact⟨rfl,jB.refl _⟩⟩
theorem oR.set{bD rs:List XR}(h:oR bD rs){y:Nat}{r:XR}(hr:bD[y]?=some r){qs:List (Int×SV)}(hq:jB qs r.ps):oR (bD.set y {r with ps:=qs}) rs:=by
 refine⟨by simp[h.1],fun i a b h1 h2=>?_⟩;rw[eu] at h1;by_cases e:y=i
 .subst e;rw[aY rfl,aY (bK.mp hr).1] at h1;cases h1;obtain⟨a1,a2⟩:=h.2 y r b hr h2;exact⟨by rw[a1],hq.trans a2⟩
 .rw[bc e] at h1;exact h.2 i a b h1 h2
def ai3(n0 ag:Nat)(κ cap:Nat->Nat)(B:SV)(rs:List XR)(h:ab)(_:Value)(h':ab):Prop:=
 aa (fun b=>κ b=1\/κ b=3) h h'/\∃bD,kW h' n0 ag κ cap B bD/\oR bD rs
def apk(h:ab)(n0 ag:Nat)(κ cap:Nat->Nat)(B:SV)(rs:List XR)(c6:Value)(F:Nat)(bE now:Nat)(T:SV)(l:Nat)(m:Nat)(e:Env)(h':ab):Prop:=
 ∃(i:Nat) (bD:List XR),m=l-i/\i<=l/\ai e 0=.pointer (some ⟨F,0,none⟩)/\ai e 1=.int .i64 bE/\ai e 2=.int .i64 now/\ai e 6=c6/\ai e 28=T.v/\ai e 29=.int .i64 l/\ai e 30=.int .i64 i/\aa (fun b=>κ b=1\/κ b=3) h h'/\kW h' n0 ag κ cap B bD/\oR bD rs
def RowsIn(rs:List XR):Prop:=∀(k:Nat)(r:XR)(pk:List Int),rs[k]?=some r->(Edge.bp (bx rs))[k]?=some pk->∀q∈r.ps,q.2.l=pk.length
theorem N3(ok:bl h)(O:kW h n0 ag κ cap B rs)(qk:n0<=h.next)(hF:h.tr.get F=some (.aC (aj name p rg B) false 0 sF))(κF:κ F=0){bE now:Nat}{ro:XR}(LV:rs[bE]?=some ro)(T:TOk (bx rs))(rows:RowsIn rs)(pl:∀r∈rs,r.ps.length<1000000):aE FF zG [.pointer (some ⟨F,0,none⟩),.int .i64 bE,.int .i64 now] h (ai3 n0 ag κ cap B rs h):=by
 have ku:(bx rs).length=rs.length:=by simp[bx]
 have hn:=T.len;obtain⟨bs,Ia,hV⟩:=O.view;have E:=hV.ends T;have As:=hV.dD;have ma:bs.length=rs.length:=hV.1;have KH:=(bK.mp LV).1;have Ro:=O.os.r bE ro LV;have vj:=Ro.T.len;have κlow:∀b,κ b≠0->b<h.next:=fun b hb=>(O.os.new b hb).2;have dX:=hF;simp[aj] at dX;refine aE.of HU ?_;unfold zp;simp[dX];refine aF.call (V:=fun v h'=>aa aG h h'/\∃d ws,v=.slice (some ⟨d,0,none⟩) bs.length bs.length/\je bg h.next h' d ws (Edge.bp (bt bs))) (by simpa [aj] using jk ok (name:=name) (p:=p) (r:=rg) Ia E) ?_;rintro _ h1⟨g1,d,ws,rfl,w1⟩;rw[As] at w1;have O1:=O.aX ok g1;have ta:=g1.get ok dX;have aeW:=g1.get ok hF;obtain⟨bB,cs,oB,sB,dZ,Ak,Ur,dV,cS,jh⟩:=O1.A.el LV;have N2:=cS 5 1 (by decide);simp[-ae] at N2;have P9:=O1.A.len;rw[dZ,P9] at ta;simp[ta,KH,N2,vj,-ae,aq ta];refine az.loop (apk h1 n0 ag κ cap B rs (.slice (some ⟨d,0,none⟩) bs.length bs.length) F bE now ro.T ro.ts.length) ?_ (n:=ro.ts.length)
  ⟨0,rs,rfl,by omega,by simp,by simp,by simp,by simp,by simp[vj],by simp,by simp,.refl g1.ok,O1,oR.refl _⟩
 rintro m e' h'⟨i,bD,rfl,hi,q0,q1,q2,q6,JB,NZ,DT,g,O',S⟩;have cw:=g.ok;unfold w_;by_cases fu:i<ro.ts.length
 .have wi:=wrap_i64 ((i:Int)+1) (by have:=T.two ro.ts (j_.2 ⟨ro,bU LV,rfl⟩);omega) (by have:=T.two ro.ts (j_.2 ⟨ro,bU LV,rfl⟩);omega);obtain⟨t,ht⟩:=ay ro.ts i fu;obtain⟨SF,htn⟩:=T.to ro.ts (j_.2 ⟨ro,bU LV,rfl⟩) t (bU ht);obtain⟨u,rfl⟩:∃u:Nat,t=u:=⟨t.toNat,by omega⟩;have xg:u<rs.length:=by omega
  obtain⟨r0,yq⟩:=ay rs u xg;obtain⟨r1,qM⟩:=ay bD u (by rw[S.1];exact xg);obtain⟨er,sl⟩:=S.2 u r1 r0 qM yq;obtain⟨pk,yp⟩:=ay (Edge.bp (bx rs)) u (by rw[Edge.cR,ku];exact xg);obtain⟨wk,UA⟩:=ay ws u (by rw[w1.len,Edge.cR,ku];exact xg);have yr:∀ts∈bx rs,∀t∈ts,t.toNat<(bx rs).length:=fun ts h t h2=>by have:=T.to ts h t h2;omega
  have re:(bE:Int)∈pk:=by have:=(Edge.mL yr (u:=u) (x:=(bE:Int))).2 ⟨bE,rfl,ro.ts,by simp[bx,LV],(u:Int),bU ht,by simp⟩;rw[yp] at this;exact this
  have hpkl:pk.length<=2000:=by
   have h1:=Edge.p9 (n:=(bx rs).length) (dD:=bx rs) T.two u (bx rs).length;have h2:((Edge.upto (bx rs).length (bx rs) (bx rs).length)[u]?).getD []=pk:=by show((Edge.bp (bx rs))[u]?).getD []=pk;rw[yp];rfl
   rw[h2] at h1;omega
  have HF:=agZ re;have w':=w1.grow g1.ok g (fun b hb h=>by have:=κlow b (by omega);omega);obtain⟨sd,hd⟩:=w'.aC;have OX:=oh hd UA;have hTs:=Ly Ro.T.sl ok (g1.aX.trans g) (fun _ b hb h=>by have:=Ro.kT b hb;omega);obtain⟨bT,atH,capT,hTv,_,_,Uy⟩:=hTs.read ht;have rt:=Uy 0 1 (by decide);simp[-ae] at rt hTv OX;simp at JB;rw[hTv.1,vj] at JB;have hub:u<bs.length:=by omega
  simp[q6,q1,JB,NZ,DT,fu,rt,OX,hub,-ae];have hWs:aL bg h' wk.v pk:=(w'.acc u wk pk UA yp).sl;refine aF.call (V:=fun v h2=>h2=h'/\∃k:Nat,v=.int .i64 k/\pk[k]?=some (bE:Int)) (by simpa using xR hWs (by omega) re) ?_;rintro _ h2⟨rfl,k,rfl,hk⟩;have pc:=(bK.mp hk).1;have DE:wk.l=pk.length:=by obtain⟨a,cap,e,_⟩:=hWs;simp at e;exact e.2.1
  simp[q6,q1,JB,NZ,DT,OX,hub,-ae];refine Vn (bE:=bE) (now:=now) hWs (by omega) (by simp[q1]) (by simp[q2]) (by simp) (by simp) (by simp[DE]) (by simp) ?_;intro e3 j K3 k10 hj;have k0:=K3.at (t:=0) (by simp;exact q0);have k1:=K3.at (t:=1) (by simp;exact q1);have k2:=K3.at (t:=2) (by simp;exact q2);have k6:=K3.at (t:=6) (by simp;exact q6);have k8:ai e3 8=.int .i64 u:=K3.at (t:=8) (by simp);have k9:ai e3 9=.int .i64 k:=K3.at (t:=9) (by simp);have k28:=K3.at (t:=28) (by simp;exact JB);have k29:=K3.at (t:=29) (by simp;exact NZ);have k30:=K3.at (t:=30) (by simp;exact DT);have u5:=g.get g1.ok ta (by omega);have qL:=g.get g1.ok aeW (by omega);obtain⟨Sf,TR,oB',sB',ir,hBb',hjB',I3,Yc,adG⟩:=O'.A.el qM;rw[dZ] at ir;cases ir;have rd1:=Yc 0 1 (by decide);simp[-ae] at rd1;have R1:=O'.os.r u r1 qM;have iF:=R1.P.len;have Et:u<rs.length:=xg;simp[k0,k8,u5,Et,rd1,iF,-ae,aq u5];refine Zx cw O' (by have:=g1.next;have:=g.next;omega) (F:=F) (y:=u) (k:=k) (j:=j) (l:=pk.length) qL κF qM (fun q hq=>?_) pc (by omega) (by omega) (by rw[sl.1];exact pl r0 (bU yq)) (by simp[k0]) (by simp[k8]) (by simp[k9]) (by simp[k10]) (by simp[iF]) (by simp) (by simp) ?_
  .obtain⟨m,hm⟩:=oD hq;obtain⟨p0,SD⟩:=ay r0.ps m (by rw[<-sl.1];exact(bK.mp hm).1);rw[(sl.2 m q p0 hm SD).2];exact rows u r0 pk yq yp p0 (bU SD)
  intro e4 h4 qs K4 g4 O4 S4;have m0:=K4.at (t:=0) (by simp;exact k0);have m1:=K4.at (t:=1) (by simp;exact k1);have m2:=K4.at (t:=2) (by simp;exact k2);have m6:=K4.at (t:=6) (by simp;exact k6);have m28:=K4.at (t:=28) (by simp;exact k28);have m29:=K4.at (t:=29) (by simp;exact k29);have m30:=K4.at (t:=30) (by simp;exact k30);simp[m30,wi];exact⟨ro.ts.length-(i+1),by omega,i+1,bD.set u {r1 with ps:=qs},rfl,fu,by simp[m0],by simp[m1],by simp[m2],by simp[m6],by simp[m28,hTv.1,vj],by simp[m29],by simp,g.trans g4,O4,S.set qM S4⟩
 .have:i=ro.ts.length:=by omega
  subst this;simp[NZ,DT];exact⟨(g1.aX.trans g),bD,O',S⟩
def eT(r:XR):Nat:=r.ps.length+r.ls.length
abbrev Sh:Type:=Int×(Bool×Int)×(Bool×Int)
def shV(v:Bool×Int):Bool×Int:=(v.1,if v.1 then 0 else v.2)
def shX(x:XI):Sh:=(x.op,shV x.a,shV x.b)
def jG(φ:Sh->Bool)(ls:List XI):Nat:=(ls.filter fun x=>φ (shX x)).length
def gO(φ:Sh->Bool)(rs:List XR):Nat:=(rs.map fun r=>jG φ r.ls).sum
def Ts(r:XR):Prop:=(r.kind=1/\r.ts=[])\/(r.kind=2/\∃t,r.ts=[t])\/(r.kind=3/\∃t u,r.ts=[t,u])
structure TF0(rs:List XR):Prop where
 n1:0<rs.length
 DK:rs.length<=72
 kind:∀r∈rs,Ts r
 to:∀r∈rs,∀t∈r.ts,1<=t/\t<rs.length
 rows:∀(k:Nat)(r:XR),rs[k]?=some r->∀q∈r.ps,q.2.l=(Edge.rowOf (bx rs) k rs.length).length
 sum:(rs.map eT).sum<=100000
 al:∀r∈rs,∀x∈r.ls,x.args.l<=1048576
 short:∀k,k<rs.length->(Edge.rowOf (bx rs) k rs.length).length<50
def Seen(rs:List XR):Prop:=∀(k:Nat)(r:XR),rs[k]?=some r->Edge.va (bx rs) k\/(r.kind=1/\r.ps=[]/\r.ls=[])
structure TF(rs:List XR):Prop extends TF0 rs where
 seen:∀(k:Nat)(r:XR),rs[k]?=some r->Edge.va (bx rs) k\/(r.kind=1/\r.ps=[]/\r.ls=[])
theorem ck(rs:List XR):(bx rs).length=rs.length:=by simp[bx]
theorem jy{k:Nat}(h:rs[k]?=some r):(bx rs)[k]?=some r.ts:=by simp[bx,h]
theorem TF0.two(w:TF0 rs):∀r∈rs,r.ts.length<=2:=fun r hr=>by rcases w.kind r hr with⟨_,h⟩|⟨_,t,h⟩|⟨_,t,u,h⟩<;>rw[h]<;>simp
theorem TF0.tok(w:TF0 rs):TOk (bx rs):=by
 refine⟨by rw[ck];have:=w.DK;omega,fun ts h=>?_,fun ts h t ht=>?_⟩
 .obtain⟨r,hr,rfl⟩:=j_.1 h;exact w.two r hr
 .obtain⟨r,hr,rfl⟩:=j_.1 h;have:=w.to r hr t ht;rw[ck];omega
theorem TF0.nat(w:TF0 rs):∀ts∈bx rs,∀t∈ts,t.toNat<(bx rs).length:=fun ts h t ht=>by have:=w.tok.to ts h t ht;omega
theorem TF0.CY(w:TF0 rs):RowsIn rs:=by intro k r pk hr yp q hq;rw[w.rows k r hr q hq,Edge.rH w.nat yp,ck]
theorem TF0.Hn(w:TF0 rs):∀ps∈Edge.bp (bx rs),ps.length<50:=by intro ps h;obtain⟨k,hk⟩:=oD h;have hl:=(bK.mp hk).1;rw[Edge.cR,ck] at hl;have:=w.short k hl;rw[Edge.rH w.nat hk,ck];exact this
theorem EK{α:Type}{f:α->Nat} :∀ {l:List α} {x:α},x∈l->f x<=(l.map f).sum
 |y::l,x,h=>by
  rw[IV,OI];rcases List.mem_cons.1 h with rfl|h
  .omega
  .have:=EK (f:=f) h;omega
theorem TF0.size(w:TF0 rs):∀r∈rs,r.ps.length<=100000/\r.ls.length<=100000:=fun r hr=>by have h1:=EK (f:=eT) hr;have h2:=w.sum;have h3:eT r=r.ps.length+r.ls.length:=rfl;omega
theorem rE{α:Type}(f:α->Nat):∀(l:List α)(i:Nat)(x y:α),l[i]?=some x->((l.set i y).map f).sum+f x=(l.map f).sum+f y
 |a::l,0,x,y,h=>by simp at h;subst h;simp only[List.set_cons_zero,IV,OI];omega
 |a::l,i+1,x,y,h=>by have:=rE f l i x y (by simpa using h);simp only[List.set_cons_succ,IV,OI];omega
theorem Oo(f:α->Nat){l:List α}{x y x' y':α}(hi:l[i]?=some x)(hj:l[j]?=some y)(ct:i≠j)(he:f x'+f y'=f x+f y):(((l.set i x').set j y').map f).sum=(l.map f).sum:=by have h1:=rE f l i x x' hi;have h2:=rE f (l.set i x') j y y' (by rw[eu,bc ct];exact hj);omega
theorem BF{bD rs:List XR}(S:oR bD rs){β:Type}(f:XR->β)(hf:∀(r:XR)(qs:List (Int×SV)),qs.length=r.ps.length->f {r with ps:=qs} =f r):bD.map f=rs.map f:=by
 refine yT fun i=>?_;rw[tV,tV];rcases Ae i rs.length with hi|hi
 .obtain⟨r,hr⟩:=ay rs i hi;obtain⟨r',DD⟩:=ay bD i (by rw[S.1];exact hi);obtain⟨e,sl⟩:=S.2 i r' r DD hr;rw[hr,DD,e];simp only[EF];rw[hf r r'.ps sl.1]
 .rw[qY hi,qY (by rw[S.1];exact hi)]
def fF:XR:=⟨cJ,cJ,cJ,1,(false,0),[],[],[]⟩
def mQ(rb rt:XR)(L:SV):XR:= {rb with L:=L,ls:=rb.ls++rt.ls,kind:=rt.kind,on:=rt.on,T:=rt.T,ts:=rt.ts}
structure AT(rs:List XR)(b to:Nat)(rb rt:XR):Prop where
 w:TF rs
 hb:rs[b]?=some rb
 ht:rs[to]?=some rt
 ne:to≠b
 h0:to≠0
 kind:rb.kind=2
 ts:rb.ts=[(to:Int)]
 QS:rt.ps=[]
 one:(Edge.rowOf (bx rs) to rs.length).length<=1
def jumps(rs:List XR):Nat:=(rs.map fun r=>if r.kind=2 then 1 else 0).sum
section
variable{rs bD:List XR}{b to:Nat}{rb rt EN:XR}{L:SV}
theorem Rr(rs:List XR)(b to:Nat)(x:XR)(t:List Int)(hx:x.ts=t):bx ((rs.set b x).set to fF)=Edge.sJ (bx rs) b to t:=by unfold bx Edge.sJ;rw[List.map_set,List.map_set,hx];rfl
theorem Xb(c:AT rs b to rb rt)(S:oR bD rs)(jf:bD[b]?=some EN):TF ((bD.set b (mQ EN rt L)).set to fF):=by
 have w:=c.w;have ma:=(bK.mp c.hb).1;have ku:=(bK.mp c.ht).1;have ot:bx bD=bx rs:=BF S (·.ts) (fun _ _ _=>rfl);obtain⟨eb,sb⟩:=S.2 b EN rb jf c.hb;obtain⟨rt',AP⟩:=ay bD to (by rw[S.1];exact ku);obtain⟨et,st⟩:=S.2 to rt' rt AP c.ht;have hT:bx ((bD.set b (mQ EN rt L)).set to fF)=Edge.sJ (bx rs) b to rt.ts:=by rw[Rr bD b to (mQ EN rt L) rt.ts rfl,ot]
 have cj:((bD.set b (mQ EN rt L)).set to fF).length=rs.length:=by simp[S.1]
 have hbT:(bx rs)[b]?=some [(to:Int)]:=by rw[jy c.hb,c.ts]
 have htT:=jy c.ht;have af1:(Edge.rowOf (bx rs) to (bx rs).length).length<=1:=by rw[ck];exact c.one
 have ro:∀k,k≠to->(Edge.rowOf (Edge.sJ (bx rs) b to rt.ts) k rs.length).length=(Edge.rowOf (bx rs) k rs.length).length:=fun k hk=>by have:=Edge.Vt hbT htT c.ne hk;rw[ck] at this;exact this
 
 have at':∀(k:Nat)(x:XR),((bD.set b (mQ EN rt L)).set to fF)[k]?=some x->(k=to/\x=fF)\/(k≠to/\k=b/\x=mQ EN rt L)\/(k≠to/\k≠b/\∃r,rs[k]?=some r/\x= {r with ps:=x.ps} /\jB x.ps r.ps):=by
  intro k x hx;rw[eu] at hx;by_cases e1:to=k
  .subst e1;rw[aY rfl,aY (by simp[S.1];exact ku)] at hx;exact .inl ⟨rfl,(Option.some.inj hx).symm⟩
  .rw[bc e1,eu] at hx;by_cases e2:b=k
   .subst e2;rw[aY rfl,aY (by rw[S.1];exact ma)] at hx;exact .inr (.inl ⟨Ne.symm e1,rfl,(Option.some.inj hx).symm⟩)
   .rw[bc e2] at hx;have hk:k<rs.length:=by rw[<-S.1];exact(bK.mp hx).1
    obtain⟨r,hr⟩:=ay rs k hk;obtain⟨e,s⟩:=S.2 k x r hx hr;exact .inr (.inr ⟨Ne.symm e1,Ne.symm e2,r,hr,e,s⟩)
 have agy:∀x,x∈((bD.set b (mQ EN rt L)).set to fF)->x=fF\/x=mQ EN rt L\/∃r∈rs,x= {r with ps:=x.ps} /\jB x.ps r.ps:=by
  intro x hx;obtain⟨k,hk⟩:=oD hx;rcases at' k x hk with⟨_,e⟩|⟨_,_,e⟩|⟨_,_,r,hr,e,s⟩
  .exact .inl e
  .exact .inr (.inl e)
  .exact .inr (.inr ⟨r,bU hr,e,s⟩)
 have mt:=bU c.ht;have mb:=bU c.hb;refine⟨⟨by rw[cj];exact w.n1,by rw[cj];exact w.DK,fun x hx=>?_,fun x hx t ht=>?_,fun k x hx q hq=>?_,?_,fun x hx y hy=>?_,fun k hk=>?_⟩,fun k x hx=>?_⟩
 .rcases agy x hx with rfl|rfl|⟨r,hr,e,_⟩
  .exact .inl ⟨rfl,rfl⟩
  .exact w.kind rt mt
  .rw[e];exact w.kind r hr
 .rw[cj];rcases agy x hx with rfl|rfl|⟨r,hr,e,_⟩
  .exact absurd ht (FQ)
  .exact w.to rt mt t ht
  .rw[e] at ht;exact w.to r hr t ht
 .rw[hT,cj];rcases at' k x hx with⟨_,rfl⟩|⟨hk,rfl,rfl⟩|⟨hk,_,r,hr,_,s⟩
  .exact absurd hq (FQ)
  .rw[ro _ hk];have hq':q∈EN.ps:=hq;obtain⟨m,hm⟩:=oD hq';obtain⟨p,hp⟩:=ay rb.ps m (by rw[<-sb.1];exact(bK.mp hm).1);rw[(sb.2 m q p hm hp).2];exact w.rows _ rb c.hb p (bU hp)
  .rw[ro _ hk];obtain⟨m,hm⟩:=oD hq;obtain⟨p,hp⟩:=ay r.ps m (by rw[<-s.1];exact(bK.mp hm).1);rw[(s.2 m q p hm hp).2];exact w.rows _ r hr p (bU hp)
 .have e1:=Oo eT (x':=mQ EN rt L) (y':=fF) jf AP (Ne.symm c.ne) (by rw[et];simp only[eT,mQ,fF,IZ,List.length_nil];rw[st.1,c.QS,eb];simp only[List.length_nil];omega)
  rw[e1,BF S eT (fun r qs h=>by simp only[eT,h])];exact w.sum
 .rcases agy x hx with rfl|rfl|⟨r,hr,e,_⟩
  .exact absurd hy (FQ)
  .simp only[mQ,rM] at hy;rcases hy with h|h
   .rw[eb] at h;exact w.al rb mb y h
   .exact w.al rt mt y h
  .rw[e] at hy;exact w.al r hr y hy
 .rw[cj] at hk;rw[hT,cj];have h1:=Edge.Lm hbT htT c.ne k;rw[ck] at h1;exact Nat.lt_of_le_of_lt h1 (w.short k hk)
 .rw[hT];rcases at' k x hx with⟨_,rfl⟩|⟨hk,rfl,rfl⟩|⟨hk,_,r,hr,e,s⟩
  .exact .inr ⟨rfl,rfl,rfl⟩
  .rcases w.seen _ rb c.hb with h|⟨h,_⟩
   .exact .inl (Edge.va.chain hbT htT c.ne c.h0 af1 h hk)
   .rw[c.kind] at h;cases h
  .rcases w.seen k r hr with h|⟨h1,h2,h3⟩
   .exact .inl (Edge.va.chain hbT htT c.ne c.h0 af1 h hk)
   .refine .inr ⟨by rw[e];exact h1,?_,by rw[e];exact h3⟩;refine IX ?_;rw[s.1,h2];rfl
theorem PG(c:AT rs b to rb rt)(S:oR bD rs)(jf:bD[b]?=some EN)(φ:Sh->Bool):gO φ ((bD.set b (mQ EN rt L)).set to fF)=gO φ rs:=by have ku:=(bK.mp c.ht).1;obtain⟨eb,sb⟩:=S.2 b EN rb jf c.hb;obtain⟨rt',AP⟩:=ay bD to (by rw[S.1];exact ku);obtain⟨et,st⟩:=S.2 to rt' rt AP c.ht;unfold gO;rw[Oo (fun r=>jG φ r.ls) (x':=mQ EN rt L) (y':=fF) jf AP (Ne.symm c.ne) ?_,BF S (fun r=>jG φ r.ls) (fun _ _ _=>rfl)];rw[et];simp only[mQ,fF,jG,List.filter_append,IZ,List.filter_nil,List.length_nil];omega
theorem MB(c:AT rs b to rb rt)(S:oR bD rs)(jf:bD[b]?=some EN):jumps ((bD.set b (mQ EN rt L)).set to fF)<jumps rs:=by
 have ku:=(bK.mp c.ht).1;have ma:=(bK.mp c.hb).1;obtain⟨eb,sb⟩:=S.2 b EN rb jf c.hb;obtain⟨rt',AP⟩:=ay bD to (by rw[S.1];exact ku);obtain⟨et,st⟩:=S.2 to rt' rt AP c.ht;have e0:jumps bD=jumps rs:=by unfold jumps;rw[BF S (fun r=>if r.kind=2 then 1 else 0) (fun _ _ _=>rfl)]
 have h1:=rE (fun r:XR=>if r.kind=2 then 1 else 0) bD b EN (mQ EN rt L) jf;have h2:=rE (fun r:XR=>if r.kind=2 then 1 else 0) (bD.set b (mQ EN rt L)) to rt' fF (by rw[eu,bc (Ne.symm c.ne)];exact AP);have k1:EN.kind=2:=by rw[eb];exact c.kind
 have k2:(mQ EN rt L).kind=rt'.kind:=by rw[et];rfl
 have k3:fF.kind=1:=rfl;simp only[k1,k2,k3] at h1 h2;unfold jumps at e0⊢;simp only[if_true,show ¬((1:Int)=2) by decide,if_false] at h1 h2;omega
end
section
variable{h h':ab}{n0 ag:Nat}{κ κ' cap:Nat->Nat}{rs:List XR}
theorem PO{f:XR->SV}{xs:List XR}(d:∀(i j:Nat)(ri rj:XR)(b:Nat),rs[i]?=some ri->rs[j]?=some rj->i≠j->aw (f ri).v b->¬aw (f rj).v b)(g:Nat->Nat)(hg:∀(i:Nat)(x:XR),xs[i]?=some x->(f x).a=none\/∃r,rs[g i]?=some r/\f r=f x)(inj:∀(i j:Nat)(x y:XR),xs[i]?=some x->xs[j]?=some y->i≠j->g i=g j->(f x).a=none\/(f y).a=none):∀(i j:Nat)(ri rj:XR)(b:Nat),xs[i]?=some ri->xs[j]?=some rj->i≠j->aw (f ri).v b->¬aw (f rj).v b:=by
 intro i j x y b hx hy hn Wb Eo;rcases hg i x hx with h1|⟨r1,h1,e1⟩
 .exact eV h1 Wb
 rcases hg j y hy with h2|⟨r2,h2,e2⟩
 .exact eV h2 Eo
 by_cases e:g i=g j
 .rcases inj i j x y hx hy hn e with h|h
  .exact eV h Wb
  .exact eV h Eo
 .exact d (g i) (g j) r1 r2 b h1 h2 e (by rw[e1];exact Wb) (by rw[e2];exact Eo)
theorem cH.agE(w:cH h n0 ag κ cap rs)(ok:bl h)(hr:rs[i]?=some r)(g:aa (aw r.L.v) h h')(hL:fS kh h' L' zA)(ext:∀b,κ b≠0->κ' b=κ b)(e1:∀b,κ' b=1->κ b=1)(hk:∀b,aw L'.v b->κ' b=4)(hd:∀(j:Nat)(x:XR),rs[j]?=some x->i≠j->∀b,aw L'.v b->¬aw x.L.v b)(new:∀b,κ' b≠0->n0<=b/\b<h'.next)(LQ:∀x∈zA,x.dst<ag/\h_ ag x.a/\h_ ag x.b/\VA κ cap x.args):cH h' n0 ag κ' cap (rs.set i {r with L:=L',ls:=zA}):=by
 have hi:=(bK.mp hr).1;have R:=w.r i r hr;have ajA:∀b,κ b≠0->κ' b=κ b/\cap b=cap b:=fun b hb=>⟨ext b hb,rfl⟩;have ap6:∀b,κ b=1->κ' b=1/\cap b=cap b:=fun b hb=>⟨by rw[ext b (by omega),hb],rfl⟩;refine⟨fun j x hx=>?_,gJ (f:=(·.P)) hr w.dP rfl,?_,gJ (f:=(·.T)) hr w.dT rfl,fun b hb=>(w.V.grow ok g (fun b hb=>by have:=R.kL b hb;omega)) b (e1 b hb),new⟩
 .rw[eu] at hx;by_cases e1:i=j
  .rw[aY e1,aY hi] at hx;cases hx;have R':=R.congr ajA;exact⟨R.P.grow ok g (fun b hb hs=>by have:=R.kL b hs;have:=R.kP b hb;omega),hL,R.T.grow ok g (fun b hb hs=>by have:=R.kL b hs;have:=R.kT b hb;omega),R'.kP,hk,R'.kT,R'.ps,fun x hx=>⟨(LQ x hx).1,(LQ x hx).2.1,(LQ x hx).2.2.1,(LQ x hx).2.2.2.congr ap6⟩,R.on⟩
  .rw[bc e1] at hx;have Rx:=w.r j x hx;exact(Rx.grow ok g (fun b hb=>⟨fun h=>by have:=R.kL b hb;have:=Rx.kP b h;omega,w.dL i j r x b hr hx e1 hb,fun h=>by have:=R.kL b hb;have:=Rx.kT b h;omega⟩)).congr ajA
 .intro i' j ri rj b h1 h2 hn hb cC;rw[eu] at h1 h2;by_cases e1:i=i'
  .rw[aY e1,aY hi] at h1;cases h1;rw[bc (by omega)] at h2;exact hd j rj h2 (by omega) b hb cC
  .rw[bc e1] at h1;by_cases e2:i=j
   .rw[aY e2,aY hi] at h2;cases h2;exact hd i' ri h1 e1 b cC hb
   .rw[bc e2] at h2;exact w.dL i' j ri rj b h1 h2 hn hb cC
theorem cH.ajc(w:cH h n0 ag κ cap rs)(ok:bl h)(qk:n0<=h.next)(hr:rs[i]?=some r)(g:aa (aw r.L.v) h h')(hL:fS kh h' L' zA)(hb:∀b,aw L'.v b->aw r.L.v b\/b=h.next)(LQ:∀x∈zA,x.dst<ag/\h_ ag x.a/\h_ ag x.b/\VA κ cap x.args):∃κ':Nat->Nat,cH h' n0 ag κ' cap (rs.set i {r with L:=L',ls:=zA})/\(∀b,b<h.next->κ' b=κ b)/\(∀b,κ' b=2->κ b=2):=by
 have R:=w.r i r hr;have κn:κ h.next=0:=by
  have hw:=w.new h.next;rcases uM (κ h.next) with h1|h1
  .exact h1
  .have:=(hw (by omega)).2;omega
 by_cases e:aw L'.v h.next
 .obtain⟨κ',Yu,Yv⟩:∃κ':Nat->Nat,κ' h.next=4/\∀b,b≠h.next->κ' b=κ b:=⟨fun b=>if b=h.next then 4 else κ b,aY rfl,fun b hb=>bc hb⟩;have only:∀b,aw L'.v b->b=h.next:=by intro b hb;obtain⟨_,_,_,e1⟩:=hb;obtain⟨_,_,_,e2⟩:=e;rw[e1] at e2;simp at e2;exact e2.1.1
  have dQ:=hL.bE g.ok e;refine⟨κ',w.agE ok hr g hL (fun b hb=>Yv b (fun e=>hb (by rw[e];exact κn))) (fun b hb=>?_) (fun b hb=>by rw[only b hb];exact Yu) (fun j x hx _ b hb cC=>by
   have:=(w.r j x hx).kL b cC;rw[only b hb] at this;omega) (fun b hb=>?_) LQ,fun b hb=>Yv b (by omega),fun b hb=>?_⟩
  .by_cases e1:b=h.next
   .rw[e1,Yu] at hb;omega
   .rw[Yv b e1] at hb;exact hb
  .by_cases e1:b=h.next
   .rw[e1];exact⟨qk,dQ⟩
   .rw[Yv b e1] at hb;have:=w.new b hb;have:=g.next;omega
  .by_cases e1:b=h.next
   .rw[e1,Yu] at hb;omega
   .rw[Yv b e1] at hb;exact hb
 .have sub:∀b,aw L'.v b->aw r.L.v b:=fun b h1=>(hb b h1).resolve_right (fun e1=>e (e1▸h1));exact⟨κ,w.agE ok hr g hL (fun _ _=>rfl) (fun _ h=>h) (fun b hb=>R.kL b (sub b hb)) (fun j x hx hn b hb=>w.dL i j r x b hr hx hn (sub b hb)) (fun b hb=>by have:=w.new b hb;have:=g.next;omega) LQ,fun _ _=>rfl,fun _ h=>h⟩
theorem cH.al_(w:cH h n0 ag κ cap rs)(hb:rs[b]?=some rb)(ht:rs[to]?=some rt)(ct:b≠to)(k:Int):cH h n0 ag κ cap ((rs.set b {rb with kind:=k,on:=rt.on,T:=rt.T,ts:=rt.ts}).set to fF):=by
 have ma:=(bK.mp hb).1;have ku:=(bK.mp ht).1;have Rb:=w.r b rb hb;have Rt:=w.r to rt ht;have at':∀(i:Nat)(x:XR),((rs.set b {rb with kind:=k,on:=rt.on,T:=rt.T,ts:=rt.ts}).set to fF)[i]?=some x->(i=to/\x=fF)\/(i≠to/\i=b/\x= {rb with kind:=k,on:=rt.on,T:=rt.T,ts:=rt.ts})\/(i≠to/\i≠b/\rs[i]?=some x):=by
  intro i x hx;rw[eu] at hx;by_cases e1:to=i
  .subst e1;rw[aY rfl,aY (by simpa using ku)] at hx;exact .inl ⟨rfl,(Option.some.inj hx).symm⟩
  .rw[bc e1,eu] at hx;by_cases e2:b=i
   .subst e2;rw[aY rfl,aY ma] at hx;exact .inr (.inl ⟨Ne.symm e1,rfl,(Option.some.inj hx).symm⟩)
   .rw[bc e2] at hx;exact .inr (.inr ⟨Ne.symm e1,Ne.symm e2,hx⟩)
 have idg:∀(f:XR->SV),f fF=cJ->f {rb with kind:=k,on:=rt.on,T:=rt.T,ts:=rt.ts} =f rb->∀(i:Nat)(x:XR),((rs.set b {rb with kind:=k,on:=rt.on,T:=rt.T,ts:=rt.ts}).set to fF)[i]?=some x->(f x).a=none\/∃r,rs[id i]?=some r/\f r=f x:=by
  intro f e1 e2 i x hx;rcases at' i x hx with⟨_,rfl⟩|⟨_,rfl,rfl⟩|⟨_,_,h⟩
  .rw[e1];exact .inl rfl
  .exact .inr ⟨rb,hb,e2.symm⟩
  .exact .inr ⟨x,h,rfl⟩
 refine⟨fun i x hx=>?_,PO (f:=(·.P)) w.dP id (idg (·.P) rfl rfl) (fun i j x y _ _ h1 h2=>absurd h2 h1),PO (f:=(·.L)) w.dL id (idg (·.L) rfl rfl) (fun i j x y _ _ h1 h2=>absurd h2 h1),PO (f:=(·.T)) w.dT (fun i=>if i=b then to else i) (fun i x hx=>?_) (fun i j x y hx hy hn he=>?_),w.V,w.new⟩
 .rcases at' i x hx with⟨_,rfl⟩|⟨_,rfl,rfl⟩|⟨_,_,h⟩
  .exact⟨fS.nil _ _,fS.nil _ _,fS.nil _ _,fun b hb=>(eV rfl hb).elim,fun b hb=>(eV rfl hb).elim,fun b hb=>(eV rfl hb).elim,fun p hp=>(FQ hp).elim,fun p hp=>(FQ hp).elim,fun h=>by cases h⟩
  .exact⟨Rb.P,Rb.L,Rt.T,Rb.kP,Rb.kL,Rt.kT,Rb.ps,Rb.ls,Rt.on⟩
  .exact w.r i x h
 .rcases at' i x hx with⟨_,rfl⟩|⟨_,rfl,rfl⟩|⟨_,hn,h⟩
  .exact .inl rfl
  .exact .inr ⟨rt,by simp only[if_true];exact ht,rfl⟩
  .exact .inr ⟨x,by simp only[bc hn];exact h,rfl⟩
 .rcases at' i x hx with⟨_,rfl⟩|⟨h1,h2,h3⟩|⟨h1,h2,h3⟩
  .exact .inl rfl
  .rcases at' j y hy with⟨_,rfl⟩|⟨k1,k2,k3⟩|⟨k1,k2,k3⟩
   .exact .inr rfl
   .exact absurd (h2.trans k2.symm) hn
   .rw[aY h2,bc k2] at he;exact absurd he.symm k1
  .rcases at' j y hy with⟨_,rfl⟩|⟨k1,k2,k3⟩|⟨k1,k2,k3⟩
   .exact .inr rfl
   .rw[bc h2,aY k2] at he;exact absurd he h1
   .rw[bc h2,bc k2] at he;exact absurd he hn
end
def ChD:List Nat:=[54,55,56,57,58,59,60,61,62,63]
theorem PD(ok:bl h)(O:kW h n0 ag κ cap B rs)(qk:n0<=h.next)(hb:rs[b]?=some rb)(ht:rs[to]?=some rt)(ct:b≠to)(dZ:B.a=some ⟨bB,0,none⟩)(hX:h.tr.get X=some (.aC (eW.enc rt) false 0 sX))(κX:κ X=0)(yZ:rb.ls.length+rt.ls.length<2000000)(f4:ai e 4=.pointer (some ⟨bB,b*6,none⟩))(f6:ai e 6=.pointer (some ⟨X,0,none⟩))(C:∀e' h' κ' L',ax ChD e e'->aa (fun x=>κ x≠0) h h'->(∀x,x<h.next->κ' x=κ x)->kW h' n0 ag κ' cap B (rs.set b {rb with L:=L',ls:=rb.ls++rt.ls})->QQ .normal e' h'):az FF PC e h QQ:=by
 have Rb:=O.os.r b rb hb;have Rt:=O.os.r to rt ht;obtain⟨Sf,cs,oB,sB,ir,Ak,Ur,dV,cS,jh⟩:=O.A.el hb;rw[dZ] at ir;cases ir;have κB:κ bB=2:=O.kB bB (bC dZ);have N2:=cS 1 1 (by decide);simp[-ae] at N2;have ef:=hX;simp only[p6] at ef;simp at ef;have oX:=ok.bE hX;unfold PC;simp[f4,f6,ef,N2,-ae,aB,aq ef,oX];have mN:=(aS ok).ok;have O1:=O.aX ok (aS ok);have gt:aa aG h (tick h):=aS ok;generalize tick h=h1 at mN O1 gt;have Rb1:=O1.os.r b rb hb;have Rt1:=O1.os.r to rt ht;obtain⟨L',h3,ea,hL3,g3,vk,_⟩:=se (E:=kh) (bytes:=80) (z:=[.int .i64 0,.int .i64 0,.bool false,.int .i64 0,.bool false,.int .i64 0,.int .i64 0,.slice none 0 0]) mN rfl Rb1.L Rt1.L.sl yZ (by decide);obtain⟨κ',O3,jg,h2⟩:=O1.os.ajc mN (by have:=gt.next;omega) hb g3 hL3 vk (fun x hx=>by
  rcases rM.1 hx with h|h
  .exact Rb1.ls x h
  .exact Rt1.ls x h)
 have A3:=O1.A.grow mN g3 (fun x hx hs=>by have:=O1.kB x hx;have:=Rb1.kL x hs;omega);obtain⟨Sf,Sj,YV,sB3,ir,Al,afI,By,Yd,BB⟩:=A3.el hb;rw[dZ] at ir;cases ir;have EG:=By 1 1 (by decide);simp at EG;refine tw ea ?_;simp[f4,Al,EG];have gw:aa (· =bB) h3 (put h3 bB (b*6+1) Sj [.slice L'.a L'.l L'.c] YV):=aJ g3.ok Al;have A4:=BB {rb with L:=L',ls:=rb.ls++rt.ls} 1 [.slice L'.a L'.l L'.c] (by simp) rfl (put h3 bB (b*6+1) Sj [.slice L'.a L'.l L'.c] YV) ⟨_,aA _ _ _ _ _ _⟩;have hlB:bB<h1.next:=mN.wf _ _ (gt.get ok Ak);have κB':κ' bB=2:=by rw[jg bB hlB];exact κB
 refine C _ _ κ' L' ?_ ?_ (fun x hx=>jg x (by have:=gt.next;omega)) ⟨O3.grow g3.ok gw (fun x e=>.inr (by rw[e];exact κB')),A4,fun x hx=>by rw[iD dZ hx];exact κB'⟩
 .repeat (refine ax.set ?_)
  exact ax.refl _ _
 .exact(gt.aX.trans (g3.bH (fun x _ hs=>by have:=Rb1.kL x hs;omega))).trans (gw.bH (fun x _ e=>by rw[e];omega))
def ChA:List Nat:=[64,65,66,67,68,69,70,71,72,73,74,75,76,77]
structure ChP(n0 ag:Nat)(cap:Nat->Nat)(B:SV)(rs:List XR)(κ':Nat->Nat)(bD:List XR)(h':ab):Prop where
 O:kW h' n0 ag κ' cap B bD
 tf:TF bD
 len:bD.length=rs.length
 Ex:∀φ,gO φ bD=gO φ rs
theorem MA(ok:bl h){B L:SV}(qk:n0<=h.next)(c:AT rs b to rb rt)(O:kW h n0 ag κ cap B (rs.set b {rb with L:=L,ls:=rb.ls++rt.ls}))(dZ:B.a=some ⟨bB,0,none⟩)(hX:h.tr.get X=some (.aC (eW.enc rt) false 0 sX))(κX:κ X=0)(hF:h.tr.get F=some (.aC (aj name p rg B) false 0 sF))(κF:κ F=0)(f1:ai e 1=.pointer (some ⟨F,0,none⟩))(f3:ai e 3=.int .i64 b)(f4:ai e 4=.pointer (some ⟨bB,b*6,none⟩))(f5:ai e 5=.int .i64 to)(f6:ai e 6=.pointer (some ⟨X,0,none⟩))(C:∀e' h' bD,ax ChA e e'->aa (fun x=>κ x≠0) h h'->ChP n0 ag cap B rs κ bD h'->jumps bD<jumps rs->QQ .normal e' h'):az FF J9 e h QQ:=by
 have ma:=(bK.mp c.hb).1;have ku:=(bK.mp c.ht).1;obtain⟨rs1,er1⟩:∃rs1,rs1=rs.set b {rb with L:=L,ls:=rb.ls++rt.ls} :=⟨_,rfl⟩;rw[<-er1] at O;have ht1:rs1[to]?=some rt:=by rw[er1,eu,bc (Ne.symm c.ne)];exact c.ht
 have FZ:rs1[b]?=some {rb with L:=L,ls:=rb.ls++rt.ls} :=by rw[er1,eu,aY rfl,aY ma]
 have hT1:bx rs1=bx rs:=by
  rw[er1];unfold bx;rw[List.map_set];refine yT fun m=>?_;rw[eu];by_cases e:b=m
  .subst e;rw[aY rfl,aY (by simpa using ma),tV,c.hb];rfl
  .rw[bc e]
 have Xa:∀(k:Nat)(x:XR),rs1[k]?=some x->∃y,rs[k]?=some y/\x.ps=y.ps:=by
  intro k x hx;rw[er1,eu] at hx;by_cases e:b=k
  .subst e;rw[aY rfl,aY ma] at hx;cases hx;exact⟨rb,c.hb,rfl⟩
  .rw[bc e] at hx;exact⟨x,hx,rfl⟩
 unfold J9;simp[f1,f3,f5];have amN:RowsIn rs1:=by intro k r pk hr yp q hq;obtain⟨y,hy,e⟩:=Xa k r hr;rw[hT1] at yp;rw[e] at hq;exact c.w.CY k y pk hy yp q hq
 have pl1:∀r∈rs1,r.ps.length<1000000:=by intro r hr;obtain⟨k,hk⟩:=oD hr;obtain⟨y,hy,e⟩:=Xa k r hk;rw[e];have:=(c.w.size y (bU hy)).1;omega
 have Rn:=N3 ok O qk hF κF (bE:=to) (now:=b) ht1 (by rw[hT1];exact c.w.tok) amN pl1;refine aF.call (V:=ai3 n0 ag κ cap B rs1 h) (by simpa [f1] using Rn) ?_;rintro _ h2⟨g2,HG,O2,S2⟩;have k1:∀x,(κ x=1\/κ x=3)->κ x≠0:=fun x h=>by omega
 have ef:=g2.get ok hX (by omega);have dX:=g2.get ok hF (by omega);obtain⟨rb2,af9⟩:=ay HG b (by rw[S2.1,er1];simpa using ma);obtain⟨rt2,agc⟩:=ay HG to (by rw[S2.1,er1];simpa using ku);obtain⟨eb2,sb2⟩:=S2.2 b rb2 _ af9 FZ;obtain⟨et2,st2⟩:=S2.2 to rt2 _ agc ht1;obtain⟨Sf,cs,oB,sB,ir,Ak,Ur,dV,cS,jh⟩:=O2.A.el af9;rw[dZ] at ir;cases ir;have κB:κ bB=2:=O2.kB bB (bC dZ);have HE:=dV 2 4 (by decide);simp at HE;have iO:=ef;simp only[p6] at iO;simp at iO;have qL:=dX;have cV:=O2.A.len;have uO:HG.length=rs.length:=by rw[S2.1,er1];simp
 simp[aj] at qL;rw[dZ,cV,uO] at qL;have nFB:¬F=bB:=fun e=>by rw[e] at κF;omega
 obtain⟨rb3,aeA⟩:∃r:XR,r= {rb2 with kind:=rt.kind,on:=rt.on,T:=rt.T,ts:=rt.ts} :=⟨_,rfl⟩;have A3:=jh rb3 2 [.int .i64 rt.kind,.bool rt.on.1,.int .i64 rt.on.2,.slice rt.T.a rt.T.l rt.T.c] (by simp) (by rw[aeA];rfl) (put h2 bB (b*6+2) cs [.int .i64 rt.kind,.bool rt.on.1,.int .i64 rt.on.2,.slice rt.T.a rt.T.l rt.T.c] oB) ⟨_,aA _ _ _ _ _ _⟩;have ht3:(HG.set b rb3)[to]?=some rt2:=by rw[eu,bc (Ne.symm c.ne)];exact agc
 obtain⟨Sf,Sj,YV,sB3,ir,Al,afI,By,Yd,BB⟩:=A3.el ht3;rw[dZ] at ir;cases ir;have hf3:=By 0 6 (by decide);simp at hf3;have gw:aa (· =bB) h2 (put h2 bB (b*6+2) cs [.int .i64 rt.kind,.bool rt.on.1,.int .i64 rt.on.2,.slice rt.T.a rt.T.l rt.T.c] oB):=aJ g2.ok Ak;have zt:=gw.get g2.ok qL nFB;simp[f4,f6,iO,Ak,HE];generalize put h2 bB (b*6+2) cs _ oB=h3 at*;simp[f1,f5,zt,Al,hf3,ku];have gw2:aa (· =bB) h3 (put h3 bB (to*6) Sj [.slice none 0 0,.slice none 0 0,.int .i64 1,.bool false,.int .i64 0,.slice none 0 0] YV):=aJ gw.ok Al;have A5:=BB fF 0 [.slice none 0 0,.slice none 0 0,.int .i64 1,.bool false,.int .i64 0,.slice none 0 0] (by simp) rfl (put h3 bB (to*6) Sj [.slice none 0 0,.slice none 0 0,.int .i64 1,.bool false,.int .i64 0,.slice none 0 0] YV) ⟨h3.clock,by simp⟩;have O5:=((O2.os.al_ af9 agc (Ne.symm c.ne) rt.kind).grow g2.ok gw (fun x e=>.inr (by rw[e];exact κB))).grow gw.ok gw2 (fun x e=>.inr (by rw[e];exact κB));have e3:({rb2 with kind:=rt.kind,on:=rt2.on,T:=rt2.T,ts:=rt2.ts} :XR)=rb3:=by rw[aeA,et2]
 rw[e3] at O5;obtain⟨rb4,aeB⟩:∃r:XR,r= {rb2 with L:=rb.L,ls:=rb.ls} :=⟨_,rfl⟩;have akB:b<HG.length:=by omega
 have S4:oR (HG.set b rb4) rs:=by
  refine⟨by simp[uO],fun i x y hx hy=>?_⟩;rw[eu] at hx;by_cases e1:b=i
  .subst e1;rw[aY rfl,aY akB] at hx;cases hx;rw[c.hb] at hy;cases hy;refine⟨by rw[aeB,eb2],?_⟩;have:rb4.ps=rb2.ps:=by rw[aeB]
   rw[this];exact sb2
  .rw[bc e1] at hx;exact S2.2 i x y hx (by rw[er1,eu,bc e1];exact hy)
 have HC:(HG.set b rb4)[b]?=some rb4:=by rw[eu,aY rfl,aY akB]
 have e4:mQ rb4 rt L=rb3:=by rw[aeA,aeB,eb2];rfl
 have e5:((HG.set b rb4).set b (mQ rb4 rt L)).set to fF=(HG.set b rb3).set to fF:=by rw[List.set_set,e4]
 have T5:=Xb (L:=L) c S4 HC;have L5:=PG (L:=L) c S4 HC;have J5:=MB (L:=L) c S4 HC;rw[e5] at T5 J5;refine C _ _ ((HG.set b rb3).set to fF) ?_ ?_ ⟨⟨O5,A5,O2.kB⟩,T5,by simp[uO],fun φ=>by rw[<-e5];exact L5 φ⟩ J5
 .repeat (refine ax.set ?_)
  exact ax.refl _ _
 .exact((g2.bH (fun x _ e=>k1 x e)).trans (gw.bH (fun x _ e=>by rw[e];omega))).trans (gw2.bH (fun x _ e=>by rw[e];omega))
def aoE(h0:ab)(κ0:Nat->Nat)(n0 ag:Nat)(cap:Nat->Nat)(B:SV)(c_:List XR)(b F R bB:Nat)(m:Nat)(e:Env)(h':ab):Prop:=
 ∃(rs:List XR) (κ:Nat->Nat),m=jumps rs/\ai e 1=.pointer (some ⟨F,0,none⟩)/\ai e 2=.pointer (some ⟨R,0,none⟩)/\ai e 3=.int .i64 b/\ai e 4=.pointer (some ⟨bB,b*6,none⟩)/\aa (fun x=>κ0 x≠0) h0 h'/\(∀x,x<h0.next->κ x=κ0 x)/\ChP n0 ag cap B c_ κ rs h'
theorem PF{h0:ab}(gL:bl h0)(qk:n0<=h0.next)(O0:kW h0 n0 ag κ0 cap B c_)(T0:TF c_){F R b bB sF:Nat}(dZ:B.a=some ⟨bB,0,none⟩)(hF:h0.tr.get F=some (.aC (aj name p rg B) false 0 sF))(κF:κ0 F=0)(hb:b<c_.length)(f1:ai e 1=.pointer (some ⟨F,0,none⟩))(f2:ai e 2=.pointer (some ⟨R,0,none⟩))(f3:ai e 3=.int .i64 b)(f4:ai e 4=.pointer (some ⟨bB,b*6,none⟩))(C:∀e' h' rs κ,ai e' 1=.pointer (some ⟨F,0,none⟩)->ai e' 2=.pointer (some ⟨R,0,none⟩)->ai e' 3=.int .i64 b->aa (fun x=>κ0 x≠0) h0 h'->(∀x,x<h0.next->κ x=κ0 x)->ChP n0 ag cap B c_ κ rs h'->QQ (.exit 2) e' h'):az FF (.loop n9) e h0 QQ:=by
 refine az.loop (aoE h0 κ0 n0 ag cap B c_ b F R bB) ?_ (n:=jumps c_) ⟨c_,κ0,rfl,f1,f2,f3,f4,.refl gL,fun _ _=>rfl,⟨O0,T0,rfl,fun _=>rfl⟩⟩;rintro m e' h'⟨rs,κ,rfl,q1,q2,q3,q4,g,jg,P⟩;have cw:=g.ok;have O:=P.O;have w:=P.tf;have hn:rs.length=c_.length:=P.len;obtain⟨rb,Qn⟩:=ay rs b;have hmb:=bU Qn;have Rb:=O.os.r b rb Qn;obtain⟨Sf,cs,oB,sB,ir,Ak,Ur,dV,cS,jh⟩:=O.A.el Qn;rw[dZ] at ir;cases ir;have rdk:=cS 2 1 (by decide);have rdT:=cS 5 1 (by decide);simp[-ae] at rdk rdT;have u5:=g.get gL hF (by omega);have dX:=u5;have cV:=O.A.len;simp[aj] at dX;rw[dZ,cV] at dX;have κF':κ F=0:=by rw[jg F (gL.wf _ _ hF)];exact κF
 have oF:=cw.bE u5;unfold n9;by_cases hk:rb.kind=2
 .obtain⟨t,ot⟩:∃t,rb.ts=[t]:=by
   rcases w.kind rb hmb with⟨h,_⟩|⟨_,h⟩|⟨h,_⟩
   .omega
   .exact h
   .omega
  obtain⟨ht1,ht2⟩:=w.to rb hmb t (by rw[ot];simp);obtain⟨to,rfl⟩:∃u:Nat,t=u:=⟨t.toNat,by omega⟩;have abH:to<rs.length:=by omega
  obtain⟨rt,Ni⟩:=ay rs to abH;have Rt:=O.os.r to rt Ni;have hTb:=Rb.T;rw[ot] at hTb;obtain⟨bT,csT,oT,sT,AM,hTb',hjT,_,Uy,_⟩:=hTb.el (i:=0) (x:=(to:Int)) rfl;have rt0:=Uy 0 1 (by decide);simp[-ae] at rt0;have vj:=hTb.len;simp at vj;obtain⟨_,_,_,_,ajR,CA,_,_,Er,_⟩:=O.A.el Ni;rw[dZ] at ajR;cases ajR;have rd6:=Er 0 6 (by decide);simp[-ae] at rd6;have Ut:(rb.kind==2)=true:=by simp[hk]
  rw[AM,vj] at rdT;simp[q1,q3,q4,rdk,Ut,rdT,rt0,dX,aq dX,abH,rd6,-ae];refine aF.cut (fun h2=>aa aG h' h2/\∃s,h2.tr.get h'.next=some (.aC (eW.enc rt) false 0 s)) ?_ ?_
  .exact⟨(aa.refl cw).var _ _,h'.clock,by simp[aR]⟩
  rintro h2⟨g2,sX,hX⟩;have O2:=O.aX cw g2;have qL:=g2.get cw dX;have MZ:=g2.get cw u5;have κX:κ h'.next=0:=by
   have hw:=O.os.new h'.next;rcases uM (κ h'.next) with h1|h1
   .exact h1
   .have:=(hw (by omega)).2;omega
  have ef:=hX;simp only[p6] at ef;simp at ef;have iF:=Rt.P.len;have G2:aa (fun x=>κ0 x≠0) h0 h2:=g.trans g2.aX;have P2:ChP n0 ag cap B c_ κ rs h2:=⟨O2,w,hn,P.Ex⟩;by_cases e1:to=b
  .have e2:((to:Int)==(b:Int))=true:=by simp[e1]
   simp[e2];exact C _ _ rs κ (by simp[q1]) (by simp[q2]) (by simp[q3]) G2 jg P2
  have e2:((to:Int)==(b:Int))=false:=by simp;omega
  by_cases e3:0<rt.ps.length
  .simp[e2,ef,iF,e3];exact C _ _ rs κ (by simp[q1]) (by simp[q2]) (by simp[q3]) G2 jg P2
  have iT:rt.ps=[]:=IX (by omega);obtain⟨bs,Ia,hV⟩:=O2.view;have E:=hV.ends w.tok;have As:=hV.dD;have ma:bs.length=rs.length:=hV.1;simp[e2,ef,iF,iT,q1,qL];have Ah:=jk g2.ok (name:=name) (p:=p) (r:=rg) Ia E;refine aF.call (V:=fun v h'=>aa aG h2 h'/\∃d ws,v=.slice (some ⟨d,0,none⟩) bs.length bs.length/\je bg h2.next h' d ws (Edge.bp (bt bs))) (by simpa [aj,dZ,cV] using Ah) ?_;rintro _ h3⟨g3,d,ws,rfl,w3⟩;rw[As] at w3;have ku:(bx rs).length=rs.length:=ck rs;obtain⟨pk,yp⟩:=ay (Edge.bp (bx rs)) to (by rw[Edge.cR,ku];exact abH);obtain⟨wk,UA⟩:=ay ws to (by rw[w3.len,Edge.cR,ku];exact abH);obtain⟨sd,hd⟩:=w3.aC;have OX:=oh hd UA;simp[-ae] at OX;have hWs:aL bg h3 wk.v pk:=(w3.acc to wk pk UA yp).sl;have DE:wk.l=pk.length:=by obtain⟨a,cap,e,_⟩:=hWs;simp at e;exact e.2.1
  have Wi:=Edge.rH w.nat yp;rw[ku] at Wi;have hub:to<bs.length:=by omega
  have P3:ChP n0 ag cap B c_ κ rs h3:=⟨O2.aX g2.ok g3,w,hn,P.Ex⟩;have iO:=g3.get g2.ok hX;have zt:=g3.get g2.ok MZ;have G3:=G2.trans g3.aX;by_cases e4:1<pk.length
  .have e5:(1:Int)<(pk.length:Int):=by omega
   simp[OX,hub,DE,e5,-ae];exact C _ _ rs κ (by simp[q1]) (by simp[q2]) (by simp[q3]) G3 jg P3
  have c:AT rs b to rb rt:=⟨w,Qn,Ni,e1,by omega,hk,ot,iT,by rw[<-Wi];omega⟩;have e5:¬(1:Int)<(pk.length:Int):=by omega
  simp[OX,hub,DE,e5,-ae];have s1:=(w.size rb hmb).2;have s2:=(w.size rt (bU Ni)).2;refine PD g3.ok P3.O (by have:=G3.next;omega) Qn Ni (Ne.symm e1) dZ iO κX (by omega) (by simp[q4]) (by simp) ?_;intro e5 h5 κ5 L5 K5 g5 Gb O5;have lX:h'.next<h3.next:=g3.ok.wf _ _ iO;have lF:F<h3.next:=g3.ok.wf _ _ zt;have Ao:=g5.get g3.ok iO (by omega);have OL:=g5.get g3.ok zt (by omega);have m1:=K5.at (t:=1) (by simp;exact q1);have m2:=K5.at (t:=2) (by simp;exact q2);have m3:=K5.at (t:=3) (by simp;exact q3);have m4:=K5.at (t:=4) (by simp;exact q4);have m5:ai e5 5=.int .i64 to:=K5.at (t:=5) (by simp);have m6:ai e5 6=.pointer (some ⟨h'.next,0,none⟩):=K5.at (t:=6) (by simp);simp;refine MA g5.ok (by have:=G3.next;have:=g5.next;omega) c O5 dZ Ao (by rw[Gb _ lX];exact κX) OL (by rw[Gb _ lF];exact κF') m1 m3 m4 m5 m6 ?_;intro e6 h6 rs6 K6 g6 P6 hj;have G5:aa (fun x=>κ0 x≠0) h0 h5:=G3.trans' g5 (fun _ _ h=>h) (fun x hx h=>by rw[jg x hx] at h;exact h);have G6:aa (fun x=>κ0 x≠0) h0 h6:=G5.trans' g6 (fun _ _ h=>h) (fun x hx h=>by have:=G3.next;rw[Gb x (by omega),jg x hx] at h;exact h)
  simp;exact⟨jumps rs6,hj,rs6,κ5,rfl,K6.at m1,K6.at m2,K6.at m3,K6.at m4,G6,fun x hx=>by have:=G3.next;rw[Gb x (by omega),jg x hx],⟨P6.O,P6.tf,P6.len.trans hn,fun φ=>(P6.Ex φ).trans (P.Ex φ)⟩⟩
 .have Ut:(rb.kind==2)=false:=by simp[hk]
  simp[q4,rdk,Ut,-ae];exact C _ _ rs κ (by simp[q1]) (by simp[q2]) (by simp[q3]) g jg P
def Wx(name:ByteArray)(p rg:Int)(n0 ag:Nat)(κ0 cap:Nat->Nat)(B:SV)(c_:List XR)(h:ab)(v:Value)(h':ab):Prop:=
 aa (fun x=>κ0 x≠0) h h'/\v=.agg ⟨aj name p rg B⟩/\∃rs κ,(∀x,x<h.next->κ x=κ0 x)/\ChP n0 ag cap B c_ κ rs h'
def aoF(h0:ab)(κ0:Nat->Nat)(n0 ag:Nat)(cap:Nat->Nat)(B:SV)(c_:List XR)(F R:Nat)(m:Nat)(e:Env)(h':ab):Prop:=
 ∃(b:Nat) (rs:List XR) (κ:Nat->Nat),m=c_.length-b/\b<=c_.length/\ai e 1=.pointer (some ⟨F,0,none⟩)/\ai e 2=.pointer (some ⟨R,0,none⟩)/\ai e 3=.int .i64 b/\aa (fun x=>κ0 x≠0) h0 h'/\(∀x,x<h0.next->κ x=κ0 x)/\ChP n0 ag cap B c_ κ rs h'
theorem MC(ok:bl h){name:ByteArray}{p rg:Int}(qk:n0<=h.next)(O0:kW h n0 ag κ0 cap B c_)(T0:TF c_):aE FF wW [.agg ⟨aj name p rg B⟩] h (Wx name p rg n0 ag κ0 cap B c_ h):=by
 have DK:=T0.DK;have cV:=O0.A.len;obtain⟨r0,yq⟩:=ay c_ 0 T0.n1;obtain⟨bB,_,_,_,dZ,hBb0,_⟩:=O0.A.el yq;have κnew:∀x,h.next<=x->κ0 x=0:=fun x hx=>by
  have hw:=O0.os.new x;rcases uM (κ0 x) with h1|h1
  .exact h1
  .have:=(hw (by omega)).2;omega
 refine aE.of Ej ?_;unfold wL;have n2:¬h.next=h.next+1:=by omega
 simp[aj];refine az.cut (fun h1=>aa aG h h1/\(∃s,h1.tr.get h.next=some (.aC (aj name p rg B) false 0 s))/\(∃s,h1.tr.get (h.next+1)=some (.aC [.string ⟨⟨[]⟩⟩,.int .i64 0,.int .i64 0,.slice none 0 0] false 0 s))) ?_ ?_
 .exact⟨((aa.refl ok).new _ _).new _ _,⟨0,by simp[aj,n2]⟩,⟨0,by simp⟩⟩
 rintro h1⟨g1,⟨sF,ta⟩,⟨sR,yV⟩⟩;have ln1:=g1.next;have lF:=g1.ok.wf _ _ ta;have lR:=g1.ok.wf _ _ yV;refine az.loop (aoF h1 κ0 n0 ag cap B c_ h.next (h.next+1)) ?_ (n:=c_.length) ⟨0,c_,κ0,rfl,by omega,by simp,by simp,by simp,.refl g1.ok,fun _ _=>rfl,⟨O0.aX ok g1,T0,rfl,fun _=>rfl⟩⟩;rintro m e' h'⟨b,rs,κ,rfl,hb,q1,q2,q3,g,jg,P⟩;have cw:=g.ok;have u5:=g.get g1.ok ta (fun h1=>h1 (κnew _ (by omega)));have hR':=g.get g1.ok yV (fun h1=>h1 (κnew _ (by omega)));have dX:=u5;have P9:=P.O.A.len;have hn:=P.len;simp[aj] at dX;rw[dZ,P9,hn] at dX;unfold uD;by_cases ma:b<c_.length
 .have wb:=wrap_i64 ((b:Int)+1) (by omega) (by omega);simp[q1,q3,dX,ma];refine PF cw (κ0:=κ) (by have:=g.next;omega) P.O P.tf (F:=h.next) (R:=h.next+1) (b:=b) dZ u5 (by rw[jg _ lF];exact κnew _ (by omega)) (by omega) (by simp[q1]) (by simp[q2]) (by simp[q3]) (by simp) ?_;intro e3 h3 rs3 κ3 k1 k2 k3 g3 BA P3;simp[k3,wb];exact⟨c_.length-(b+1),by omega,b+1,rs3,κ3,rfl,ma,by simp[k1],by simp[k2],by simp,g.trans' g3 (fun _ _ h=>h) (fun x hx h=>by rw[jg x hx] at h;exact h),fun x hx=>by have:=g.next;rw[BA x (by omega),jg x hx],⟨P3.O,P3.tf,P3.len.trans hn,fun φ=>(P3.Ex φ).trans (P.Ex φ)⟩⟩
 .have:b=c_.length:=by omega
  subst this;have nR:¬h.next+1=h.next:=by omega
  simp[q1,q2,q3,dX,hR',nR];have gw:=(aa.refl cw).put (S:=fun x=>x=h.next+1) (off:=0) (vs:=[Value.string name,Value.int IntKind.i64 p,Value.int IntKind.i64 rg,Value.slice (some ⟨bB,0,none⟩) c_.length B.c]) ⟨_,hR'⟩ (.inr rfl);generalize put h' _ _ _ _ _=h6 at gw⊢;refine⟨(g1.aX.trans g).trans' gw (fun _ _ h=>h) (fun x hx e=>by omega),?_,rs,κ,fun x hx=>jg x (by omega),⟨P.O.grow cw gw (fun x e=>by rw[e,jg _ lR];exact κnew _ (by omega)),P.tf,P.len,P.Ex⟩⟩;simp[aj,dZ,cV]
structure Tu(rs:List XR)(aQ:List Nat):Prop where
 nd:aQ.Nodup
 lt:∀x∈aQ,x<rs.length
 h00:aQ[0]?=some 0
 mem:∀k,k∈aQ↔Edge.va (bx rs) k
theorem atK(w:TF0 rs):Tu rs (Dfs.mO (Edge.vZ (bx rs)) rs.length).reverse:=by
 have h0:0<(bx rs).length:=by rw[ck];exact w.n1
 obtain⟨nd,lt,⟨new,e0⟩,_,_⟩:=Dfs.yD (dD:=Edge.vZ (bx rs)) h0 (fun b t ht=>by obtain⟨ts,u,h1,h2,rfl⟩:=Edge.B6 ht;exact w.nat ts (bU h1) u h2)
 have pr:=Edge.NV h0 w.nat;rw[ck] at nd lt e0 pr;refine⟨?_,fun x hx=>lt x (List.mem_reverse.1 hx),by rw[e0];simp,fun k=>by rw[List.mem_reverse];exact pr k⟩;show List.Pairwise (· ≠ ·) _;rw[List.pairwise_reverse];exact List.Pairwise.imp (fun h=>Ne.symm h) nd
theorem acL{n:Nat}{aQ:List Nat}(nd:aQ.Nodup)(lt:∀x∈aQ,x<n)(f:Nat->Nat):(aQ.map f).sum=((List.range n).map fun i=>if decide (i∈aQ) then f i else 0).sum:=by rw[Edge.AJ (fun i=>decide (i∈aQ))];refine Edge.On ((List.perm_ext_iff_of_nodup nd (List.Pairwise.filter _ List.nodup_range)).2 fun x=>?_) f;rw[VX,PY];simp only[decide_eq_true_eq];exact⟨fun h=>⟨lt x h,h⟩,fun h=>h.2⟩
theorem CX(f:α->Nat)(d:Nat)(l:List α):(List.range l.length).map (fun i=>((l[i]?).map f).getD d)=l.map f:=by
 refine yT fun i=>?_;rw[tV,tV];rcases Ae i l.length with h|h
 .rw[List.getElem?_range h,ff h];simp[ff h]
 .rw[qY (by simpa using h),qY h];rfl
theorem Om{l:List Nat}{f g:Nat->Nat}(h:∀x∈l,f x<=g x):(l.map f).sum<=(l.map g).sum:=by
 induction l with
 |nil=>exact dH _
 |cons x l ih=>
  rw[IV,IV,OI,OI];exact Nat.add_le_add (h x (by simp)) (ih fun y hy=>h y (by simp[hy]))
section
variable{rs bD:List XR}{aQ:List Nat}{ats:List Int}
structure xk(rs:List XR)(aQ:List Nat)(ats:List Int)(bD:List XR):Prop where
 len:bD.length=aQ.length
 al:ats.length=rs.length
 at_:∀i x:Nat,aQ[i]?=some x->ats[x]?=some (i:Int)
 no:∀x,x<rs.length->x∉aQ->ats[x]?=some (-1)
 r:∀(i k:Nat)(a b:XR),aQ[i]?=some k->rs[k]?=some a->bD[i]?=some b->∃pk,(Edge.bp (bx rs))[k]?=some pk/\KR ats pk a b
theorem xk.ts(K:xk rs aQ ats bD)(w:TF0 rs)(o:Tu rs aQ)(i k:Nat)(hk:aQ[i]?=some k):∃ts EX,(bx rs)[k]?=some ts/\(bx bD)[i]?=some EX/\EX.length=ts.length/\∀(j:Nat)(t t':Int),ts[j]?=some t->EX[j]?=some t'->0<=t'/\aQ[t'.toNat]?=some t.toNat:=by have pc:=o.lt k (bU hk);have fu:=(bK.mp hk).1;obtain⟨a,ha⟩:=ay rs k pc;obtain⟨b,hb⟩:=ay bD i (by rw[K.len];exact fu);obtain⟨pk,_,kr⟩:=K.r i k a b hk ha hb;refine⟨a.ts,b.ts,jy ha,jy hb,by rw[kr.ts];simp,fun j t t' h1 h2=>?_⟩;rw[kr.ts,tV,h1] at h2;simp only[EF,mw] at h2;have hR:Edge.va (bx rs) k:=(o.mem k).1 (bU hk);have hm:t.toNat∈aQ:=(o.mem _).2 (hR.step (jy ha) (bU h1));obtain⟨m,hm⟩:=oD hm;have Dx:=K.at_ m _ hm;unfold NK at h2;rw[Dx] at h2;simp only[Option.getD_some] at h2;rw[<-h2];exact⟨by omega,by simpa using hm⟩
theorem xk.map(K:xk rs aQ ats bD)(o:Tu rs aQ)(f:XR->Nat)(hf:∀(pk:List Int)(a b:XR),KR ats pk a b->f b=f a):(bD.map f).sum=((List.range rs.length).map fun i=>if decide (i∈aQ) then((rs[i]?).map f).getD 0 else 0).sum:=by
 rw[<-acL o.nd o.lt (fun i=>((rs[i]?).map f).getD 0)];congr 1;refine yT fun i=>?_;rw[tV,tV];rcases Ae i aQ.length with h|h
 .obtain⟨k,hk⟩:=ay aQ i h;have pc:=o.lt k (bU hk);obtain⟨a,ha⟩:=ay rs k pc;obtain⟨b,hb⟩:=ay bD i (by rw[K.len];exact h);obtain⟨pk,_,kr⟩:=K.r i k a b hk ha hb;rw[hk,hb];simp only[EF];rw[ha,hf pk a b kr];rfl
 .rw[qY (by rw[K.len];exact h),qY h];rfl
theorem xk.Ex(K:xk rs aQ ats bD)(w:Seen rs)(o:Tu rs aQ)(φ:Sh->Bool):gO φ bD=gO φ rs:=by
 unfold gO;rw[K.map o (fun r=>jG φ r.ls) (fun pk a b kr=>by rw[kr.ls]),<-CX (fun r=>jG φ r.ls) 0 rs];congr 1;refine List.map_congr_left fun i hi=>?_;by_cases hm:i∈aQ
 .simp[hm]
 .have fu:i<rs.length:=by simpa using hi
  obtain⟨a,ha⟩:=ay rs i fu;rcases w i a ha with h|⟨_,_,h⟩
  .exact absurd ((o.mem i).2 h) hm
  .simp[hm,ha,h,jG]
theorem xk.less(K:xk rs aQ ats bD)(o:Tu rs aQ)(φ:Sh->Bool):gO φ bD<=gO φ rs:=by
 unfold gO;rw[K.map o (fun r=>jG φ r.ls) (fun pk a b kr=>by rw[kr.ls]),<-CX (fun r=>jG φ r.ls) 0 rs];refine Om fun i hi=>?_;split
 .exact dH _
 .exact Nat.zero_le _
theorem xk.tf(K:xk rs aQ ats bD)(w:TF0 rs)(o:Tu rs aQ):TF bD/\∀k,k<bD.length->Edge.va (bx bD) k:=by
 have back:∀(i:Nat)(b:XR),bD[i]?=some b->∃k a pk,aQ[i]?=some k/\rs[k]?=some a/\(Edge.bp (bx rs))[k]?=some pk/\KR ats pk a b:=by
  intro i b hb;have fu:i<aQ.length:=by rw[<-K.len];exact(bK.mp hb).1
  obtain⟨k,hk⟩:=ay aQ i fu;have pc:=o.lt k (bU hk);obtain⟨a,ha⟩:=ay rs k pc;obtain⟨pk,h1,h2⟩:=K.r i k a b hk ha hb;exact⟨k,a,pk,hk,ha,h1,h2⟩
 have all:∀k,k<bD.length->Edge.va (bx bD) k:=by intro i hi;obtain⟨k,hk⟩:=ay aQ i (by rw[<-K.len];exact hi);have hR:=(o.mem k).1 (bU hk);exact Edge.va.uQ o.nd o.h00 (fun x hx ts ot t ht=>(o.mem _).2 (((o.mem x).1 hx).step ot ht)) (K.ts w o) hk hR
 have X8:aQ.length<=rs.length:=by have:=gK_ o.nd (l₂:=List.range rs.length) (fun x hx=>PY.2 (o.lt x hx));simpa using this
 have h0:=(bK.mp o.h00).1;have DK:=w.DK;have hl:=K.len;have amM:∀(i:Nat),i<bD.length->∃k,aQ[i]?=some k/\(Edge.rowOf (bx bD) i bD.length).length=((Edge.rowOf (bx rs) k (bx rs).length).filter (nv ats)).length:=by
  intro i hi;obtain⟨k,hk⟩:=ay aQ i (by rw[<-K.len];exact hi);have:=Edge.Gm o.nd (fun x hx=>by rw[ck];exact o.lt x hx) (by rw[ck];exact K.len) (K.ts w o) hk (nv ats) (fun x hx=>by
   rw[ck] at hx;unfold nv;simp only[decide_eq_true_eq,gP_];by_cases hm:x∈aQ
   .obtain⟨m,We⟩:=oD hm;rw[K.at_ m x We];simp only[Option.getD_some];exact⟨fun _=>hm,fun _=>by omega⟩
   .rw[K.no x hx hm];simp only[Option.getD_some];exact⟨fun h=>by omega,fun h=>absurd h hm⟩)
  rw[ck bD] at this;exact⟨k,hk,this⟩
 refine⟨⟨⟨by omega,by omega,fun b hb=>?_,fun b hb t ht=>?_,fun i b hb q hq=>?_,?_,fun b hb x hx=>?_,fun i hi=>?_⟩,fun i b hb=>.inl (all i (bK.mp hb).1)⟩,all⟩
 .obtain⟨i,hi⟩:=oD hb;obtain⟨k,a,pk,hk,ha,h1,kr⟩:=back i b hi;unfold Ts;rw[kr.kind,kr.ts];rcases w.kind a (bU ha) with⟨h,e⟩|⟨h,t,e⟩|⟨h,t,u,e⟩
  .exact .inl ⟨h,by rw[e];rfl⟩
  .exact .inr (.inl ⟨h,_,by rw[e];rfl⟩)
  .exact .inr (.inr ⟨h,_,_,by rw[e];rfl⟩)
 .obtain⟨i,hi⟩:=oD hb;obtain⟨k,a,pk,hk,ha,h1,kr⟩:=back i b hi;obtain⟨ts,EX,e1,e2,e3,e4⟩:=K.ts w o i k hk;rw[jy ha] at e1;cases e1;rw[jy hi] at e2;cases e2;obtain⟨j,hj⟩:=oD ht;obtain⟨t0,SF⟩:=ay a.ts j (by rw[<-e3];exact(bK.mp hj).1);obtain⟨p0,p1⟩:=e4 j t0 t SF hj;have p2:=(bK.mp p1).1;refine⟨?_,by omega⟩;rcases uM t.toNat with h|h
  .rw[h,o.h00] at p1;have:=w.to a (bU ha) t0 (bU SF);have p3:=Option.some.inj p1;omega
  .omega
 .obtain⟨k,a,pk,hk,ha,h1,kr⟩:=back i b hb;obtain⟨j,hj⟩:=oD hq;obtain⟨p,hp⟩:=ay a.ps j (by rw[<-kr.pl];exact(bK.mp hj).1);rw[(kr.ps j q p hj hp).2];have yp:=Edge.rH w.nat h1;obtain⟨k2,Cn,this⟩:=amM i (bK.mp hb).1;rw[hk] at Cn;cases Cn;rw[this,<-yp]
 .rw[K.map o eT (fun pk a b kr=>by simp only[eT];rw[kr.ls,kr.pl])];refine xf (Om (g:=fun i=>((rs[i]?).map eT).getD 0) (fun i _=>?_)) ?_
  .split
   .exact dH _
   .exact Nat.zero_le _
  .rw[CX];exact w.sum
 .obtain⟨i,hi⟩:=oD hb;obtain⟨k,a,pk,hk,ha,h1,kr⟩:=back i b hi;rw[kr.ls] at hx;exact w.al a (bU ha) x hx
 .obtain⟨k,hk,e⟩:=amM i hi;rw[e,ck];exact Nat.lt_of_le_of_lt (Xs _ _) (w.short k (o.lt k (bU hk)))
end
def Vb(rs:List XR):List Nat:=(Dfs.mO (Edge.vZ (bx rs)) rs.length).reverse
def ael(rs:List XR)(h:ab)(v:Value)(h':ab):Prop:=aa aG h h'/\∃L:SV,v=L.v/\bJ bg h.next h' L.v (nI (Vb rs))
theorem NQ(ok:bl h){name:ByteArray}{p r:Int}(O:kW h n0 ag κ cap B rs)(w:TF0 rs):aE FF qv [.agg ⟨aj name p r B⟩] h (ael rs h):=by
 obtain⟨bs,Ia,hV⟩:=O.view;have E:=hV.ends w.tok;have As:=hV.dD;have ma:bs.length=rs.length:=hV.1;have h0:0<bs.length:=by rw[ma];exact w.n1
 refine(GW ok (name:=name) (p:=p) (r:=r) Ia E h0).mono ?_;rintro v h'⟨g,L,rfl,hL⟩;refine⟨g,L,rfl,?_⟩;have e1:qG bs=Edge.vZ (bx rs):=by rw[<-As];simp[qG,bt,Edge.vZ]
 have e2:(qQ bs).reverse=nI (Vb rs):=by unfold qQ nI Vb;rw[e1,ma,List.map_reverse]
 rw[<-e2];exact hL
def aei(name:ByteArray)(p r:Int)(n0 ag:Nat)(κ0:Nat->Nat)(rs:List XR)(h:ab)(v:Value)(h':ab):Prop:=
 aa (fun b=>κ0 b=3\/κ0 b=5) h h'/\∃(B':SV) (bD:List XR) (κ cap:Nat->Nat),v=.agg ⟨aj name p r B'⟩/\(∀x,x<h.next->κ x=κ0 x)/\kW h' n0 ag κ cap B' bD/\TF bD/\(∀k,k<bD.length->Edge.va (bx bD) k)/\∀φ,gO φ bD<=gO φ rs/\(Seen rs->gO φ bD=gO φ rs)
theorem SL(ok:bl h){name:ByteArray}{p r:Int}{B O:SV}(W:kW h n0 ag κ0 sH B rs)(qk:n0<=h.next)(w:TF0 rs){m:Nat}(hO:bJ bg m h O.v (nI (Vb rs)))(κO:∀x,m<=x->κ0 x=0):aE FF xW [.agg ⟨aj name p r B⟩,O.v] h (aei name p r n0 ag κ0 rs h):=by
 have o:=atK w;refine(UK ok W qk (aQ:=Vb rs) ⟨w.tok,w.DK,w.Hn,o.nd,o.lt,fun r hr=>by have:=(w.size r hr).1;omega,w.CY⟩ hO.sl (fun _ b hb=>κO b (hO.of hb))).mono ?_;rintro v h'⟨g,B',bD,κ,cap,ats,e,jg,O',hl,KA,Dx,hno,hr⟩;have K:xk rs (Vb rs) ats bD:=⟨hl,KA,Dx,hno,hr⟩;obtain⟨T',R'⟩:=K.tf w o;exact⟨g,B',bD,κ,cap,e,jg,O',T',R',fun φ=>⟨K.less o φ,fun sn=>K.Ex sn o φ⟩⟩
structure WI(now:List Int)(many ag:Nat):Prop where
 len:now.length=ag
 lt:∀v∈now,v= -1\/(0<=v/\v<many)
 lZ:many+now.countP (fun v=>decide (v<0))=ag
def Nm(h:ab)(N nb ag:Nat):Prop:=∃(now:List Int) (many s s':Nat),h.tr.get N=some (.aC [.slice (some ⟨nb,0,none⟩) ag ag,.int .i64 many] false 0 s)/\h.tr.get nb=some (.aC (bg.flat now) false 0 s')/\N≠nb/\WI now many ag
def yf(N nb:Nat)(x:Nat):Prop:=x=N\/x=nb
theorem Nm.grow{S:Nat->Prop}(w:Nm h N nb ag)(ok:bl h)(g:aa S h h')(h1:¬S N)(h2:¬S nb):Nm h' N nb ag:=by obtain⟨now,many,s,s',a,b,c,d⟩:=w;exact⟨now,many,s,s',g.get ok a h1,g.get ok b h2,c,d⟩
theorem FG{r:Nat}{x:Int}(hr:now[r]?=some x)(hx:x<0){y:Int}(hy:¬y<0):(now.set r y).countP (fun v=>decide (v<0))+1=now.countP (fun v=>decide (v<0)):=by
 induction now generalizing r with
 |nil=>simp at hr
 |cons a l ih=>
  cases r with
  |zero=>
   simp at hr;subst hr;simp[List.countP_cons,hx,hy]
  |succ r=>
   have:=ih (r:=r) (by simpa using hr);simp only[List.set_cons_succ,List.countP_cons];omega
theorem WI.put{many ag r:Nat}{x:Int}(w:WI now many ag)(hr:now[r]?=some x)(hx:x<0):WI (now.set r (many:Int)) (many+1) ag:=by
 refine⟨by simp[w.len],fun v hv=>?_,?_⟩
 .rcases Em hv with h|h
  .rcases w.lt v h with h|h
   .exact .inl h
   .exact .inr (by omega)
  .exact .inr (by omega)
 .have:=FG hr hx (y:=(many:Int)) (by omega);have:=w.lZ;omega
def NmQ(N nb ag:Nat)(h:ab)(v:Value)(h':ab):Prop:=aa (yf N nb) h h'/\Nm h' N nb ag/\∃x:Nat,v=.int .i64 x/\x<ag
theorem yy(ok:bl h){N nb ag r:Nat}(w:Nm h N nb ag)(hr:r<ag)(Es:ag<1000000):aE FF uy [.pointer (some ⟨N,0,none⟩),.int .i64 r] h (NmQ N nb ag h):=by
 obtain⟨now,many,s,s',hN,hb,ct,w⟩:=w;have hl:=w.len;obtain⟨x,hx⟩:=ay now r;have rx:=iH hb hx;have hcnt:=w.lZ;refine aE.of Bn ?_;unfold uf;by_cases Nk:x<0
 .have hm:many<ag:=by have:0<now.countP (fun v=>decide (v<0)):=List.countP_pos_iff.2 ⟨x,bU hx,by simpa using Nk⟩;omega
  have wm:=wrap_i64 ((many:Int)+1) (by omega) (by omega);have zw:=ok.st _ _ _ _ _ hN;have rh:r<now.length:=by omega
  have ne2:¬N=nb:=ct;have ne3:¬nb=N:=Ne.symm ct;have qM:r+1<=now.length:=by omega
  simp[hN,hb,hr,rh,qM,rx,Nk,-ae,aq hN,aB];have e1:=oq now r (many:Int) rh;have g1:=aJ (off:=r) (vs:=[Value.int .i64 (many:Int)]) (aS ok).ok (b:=nb) (by simpa using hb);have FZ:(put (tick h) nb r (bg.flat now) [Value.int .i64 (many:Int)] 0).tr.get nb=some (.aC (bg.flat (now.set r (many:Int))) false 0 (h.clock+1)):=by rw[aA,e1];rfl
  have hN1:=g1.get (aS ok).ok (b:=N) (by simpa using hN) ct;have gg1:=(aS ok).aX.trans g1;generalize put (tick h) nb r (bg.flat now) [Value.int .i64 (many:Int)] 0=h1 at*;simp[hN1,wm];have g2:=aJ (off:=1) (vs:=[Value.int .i64 ((many:Int)+1)]) g1.ok hN1;have hN2:(put h1 N 1 [Value.slice (some ⟨nb,0,none⟩) ag ag,Value.int .i64 many] [Value.int .i64 ((many:Int)+1)] 0).tr.get N=some (.aC [.slice (some ⟨nb,0,none⟩) ag ag,.int .i64 ((many:Int)+1)] false 0 h1.clock):=by rw[aA];rfl
  have cC:=g2.get g1.ok FZ ne3;generalize put h1 N 1 _ _ 0=h2 at*;have ZG:=iH cC (k:=r) (x:=(many:Int)) (by rw[eu,aY rfl,aY rh]);simp[hN2,hr,ZG,-ae,aq hN2];refine⟨(gg1.bH (fun x _ e=>.inr e)).trans (g2.bH (fun x _ e=>.inl e)),⟨now.set r (many:Int),many+1,_,_,hN2,cC,ct,w.put hx Nk⟩,many,rfl,by omega⟩
 .have:0<=x/\x<many:=by
   rcases w.lt x (bU hx) with h|h
   .omega
   .exact h
  obtain⟨y,rfl⟩:∃y:Nat,x=y:=⟨x.toNat,by omega⟩;simp[hN,hr,rx,Nk,-ae,aq hN];exact⟨.refl ok,⟨now,many,s,s',hN,hb,ct,w⟩,y,rfl,by omega⟩
def Z9(N nb ag:Nat)(u:Bool×Int)(h:ab)(v:Value)(h':ab):Prop:=aa (yf N nb) h h'/\Nm h' N nb ag/\∃w:Bool×Int,v=.agg ⟨[.bool w.1,.int .i64 w.2]⟩/\w.1=u.1/\h_ ag w/\(u.1=false->w=u)
theorem v7(ok:bl h)(w:Nm h N nb ag)(hu:h_ ag u)(Es:ag<1000000):aE FF vq [.pointer (some ⟨N,0,none⟩),.agg ⟨[.bool u.1,.int .i64 u.2]⟩] h (Z9 N nb ag u h):=by
 obtain⟨ur,un⟩:=u;have lN:N<h.next:=by obtain⟨_,_,_,_,hN,_⟩:=w;exact ok.wf _ _ hN
 have lb:nb<h.next:=by obtain⟨_,_,_,_,_,hb,_⟩:=w;exact ok.wf _ _ hb
 refine aE.of Cy ?_;unfold vf;have n2:¬h.next=h.next+1:=by omega
 have n3:¬h.next+1=h.next:=by omega
 simp;refine az.cut (fun h1=>aa aG h h1/\(∃s,h1.tr.get h.next=some (.aC [.bool ur,.int .i64 un] false 0 s))/\(∃s,h1.tr.get (h.next+1)=some (.aC [.bool false,.int .i64 0] false 0 s))) ?_ ?_
 .exact⟨((aa.refl ok).new _ _).new _ _,⟨0,by simp[n2]⟩,⟨0,by simp⟩⟩
 rintro h1⟨g1,⟨sV,hV1⟩,⟨sR,yV⟩⟩;have w1:=w.grow ok g1 (fun h=>h) (fun h=>h);cases ur with
 |false=>
  simp[hV1,yV];refine⟨g1.aX.put ⟨_,yV⟩ (.inl (by omega)),?_,(false,un),rfl,rfl,hu,fun _=>rfl⟩;exact w1.grow g1.ok (aJ g1.ok yV) (by omega) (by omega)
 |true=>
  obtain⟨h0,h2⟩:=hu rfl;obtain⟨r,hr⟩:∃r:Nat,un=r:=⟨un.toNat,by simp at h0;omega⟩;subst hr;simp[hV1];refine aF.call (V:=NmQ N nb ag h1) (by simpa using yy g1.ok w1 (r:=r) (by simpa using h2) Es) ?_;rintro _ h2⟨g2,w2,x,rfl,hx⟩;have H6:=g2.get g1.ok hV1 (fun e=>by rcases e with e|e<;>omega);have Du:=g2.get g1.ok yV (fun e=>by rcases e with e|e<;>omega);have g3:=aJ (off:=1) (vs:=[Value.int .i64 (x:Int)]) g2.ok H6;have hV3:(put h2 h.next 1 [Value.bool true,Value.int .i64 r] [Value.int .i64 (x:Int)] 0).tr.get h.next=some (.aC [.bool true,.int .i64 x] false 0 h2.clock):=by rw[aA];rfl
  have Ky:=g3.get g2.ok Du n3;simp[H6,Du,n2,n3];generalize put h2 h.next 1 _ _ 0=h3 at*;have w3:=w2.grow g2.ok g3 (by omega) (by omega);have g4:=aJ (off:=0) (vs:=[Value.bool true,Value.int .i64 (x:Int)]) g3.ok Ky;have w4:=w3.grow g3.ok g4 (by omega) (by omega);exact⟨((g1.aX.trans g2).trans' g3 (fun _ _ h=>h) (fun y hy e=>by omega)).trans' g4 (fun _ _ h=>h) (fun y hy e=>by omega),w4,(true,(x:Int)),rfl,rfl,fun _=>⟨by show(0:Int)<=x;omega,by show(x:Int)<ag;omega⟩,fun h=>by cases h⟩
section
variable{n0 ag:Nat}{κ cap:Nat->Nat}{B:SV}{rs:List XR}{N nb:Nat}
structure NR(h:ab)(n0 ag:Nat)(κ cap:Nat->Nat)(B:SV)(rs:List XR)(N nb:Nat):Prop where
 O:kW h n0 ag κ cap B rs
 w:Nm h N nb ag
 κN:κ N=0
 κb:κ nb=0
 tQ:ag<1000000
theorem NR.step{h h2 h3:ab}(k:NR h n0 ag κ cap B rs N nb)(ok:bl h)(g2:aa aG h h2)(g3:aa (yf N nb) h2 h3)(w3:Nm h3 N nb ag):NR h3 n0 ag κ cap B rs N nb:=
 ⟨(k.O.aX ok g2).grow g2.ok g3 (fun b hb=>by rcases hb with e|e<;>(rw[e];first|exact k.κN|exact k.κb)),w3,k.κN,k.κb,k.tQ⟩
theorem NR.aX{h h2:ab}(k:NR h n0 ag κ cap B rs N nb)(ok:bl h)(g2:aa aG h h2):NR h2 n0 ag κ cap B rs N nb:=
 ⟨k.O.aX ok g2,k.w.grow ok g2 (fun h=>h) (fun h=>h),k.κN,k.κb,k.tQ⟩
theorem NR.lt(k:NR h n0 ag κ cap B rs N nb)(ok:bl h):N<h.next/\nb<h.next:=by obtain⟨_,_,_,_,a,b,_⟩:=k.w;exact⟨ok.wf _ _ a,ok.wf _ _ b⟩
theorem VA.val(w:VA κ cap A)(V:Cu h κ cap ag)(hj:j<A.l):∃b vs o s v,A.a=some ⟨b,0,none⟩/\κ b=1/\A.c=cap b/\h.tr.get b=some (.aC (bY.flat vs) false o s)/\(o=0\/o=2)/\vs.length=cap b/\(∀v∈vs,h_ ag v)/\vs[j]?=some v/\h_ ag v/\aV h b (j*2) 2=some [.bool v.1,.int .i64 v.2]:=by
 obtain⟨hl,h0|⟨b,ha,hk,hc⟩⟩:=w
 .omega
 obtain⟨vs,o,s,hb,ho,Jc,hv⟩:=V b hk;obtain⟨v,hx⟩:=ay vs j;refine⟨b,vs,o,s,v,ha,hk,hc,hb,ho,Jc,hv,hx,hv v (bU hx),?_⟩;rw[cx hb (by rw[bY.bh,eB];have:=(bK.mp hx).1;omega)];have:=bY.pJ vs j v hx;simp only[eB] at this;rw[this];rfl
def NaL:List Nat:=[12,79,80,81,82,83,84,85,86]
def NaI(h:ab)(n0 ag:Nat)(κ cap:Nat->Nat)(B:SV)(rs:List XR)(N nb:Nat)(A:SV)(e:Env)(m:Nat)(e':Env)(h':ab):Prop:=
 ∃j:Nat,m=A.l-j/\j<=A.l/\ax NaL e e'/\ai e' 79=.int .i64 j/\aa (yf N nb) h h'/\NR h' n0 ag κ cap B rs N nb
theorem ab2(ok:bl h)(k:NR h n0 ag κ cap B rs N nb)(hA:VA κ cap A)(hl:A.l<=1048576)(f3:ai e 3=.pointer (some ⟨N,0,none⟩))(f77:ai e 77=A.v)(f78:ai e 78=.int .i64 A.l)(f79:ai e 79=.int .i64 0)(C:∀e' h',ax NaL e e'->aa (yf N nb) h h'->NR h' n0 ag κ cap B rs N nb->QQ (.exit 8) e' h'):az FF (.loop pB) e h QQ:=by
 refine az.loop (NaI h n0 ag κ cap B rs N nb A e) ?_ (n:=A.l) ⟨0,rfl,by omega,ax.refl _ _,f79,.refl ok,k⟩;rintro m e' h'⟨j,rfl,hj,K,q79,g,k'⟩;have cw:=g.ok;have q3:=K.at f3;have q77:=K.at f77;have q78:=K.at f78;unfold pB;by_cases aM:j<A.l
 .have wj:=wrap_i64 ((j:Int)+1) (by omega) (by omega);obtain⟨b,vs,o,s,v,ha,Ut,hc,hb,ho,Jc,vB,hx,hv,rd⟩:=hA.val k'.O.os.V aM;simp at q77;rw[ha] at q77;simp[q3,q77,q78,q79,aM,rd,-ae,au];have g2:aa aG h' (put (aD h' [.bool false,.int .i64 0] 0) h'.next 0 [.bool false,.int .i64 0] [.bool v.1,.int .i64 v.2] 0):=(aa.refl cw).var _ _;generalize put (aD h' [.bool false,.int .i64 0] 0) h'.next 0 _ _ 0=h2 at*;refine aF.call (V:=Z9 N nb ag v h2) (by simpa using v7 g2.ok (k'.aX cw g2).w hv k.tQ) ?_;rintro _ h3⟨g3,w3,u,rfl,_,_,_⟩;simp[q79,wj];refine⟨A.l-(j+1),by omega,j+1,rfl,aM,?_,by simp,g.trans (g2.aX.trans g3),k'.step cw g2 g3 w3⟩
  repeat (refine ax.set ?_)
  exact K
 .have:j=A.l:=by omega
  subst this;simp[q78,q79];exact C _ _ (ax.set K) g k'
def NpL:List Nat:=[8,52,53,54,55,56,57,58,59,60]
def NpI(h:ab)(n0 ag:Nat)(κ cap:Nat->Nat)(B:SV)(rs:List XR)(N nb:Nat)(r:XR)(e:Env)(m:Nat)(e':Env)(h':ab):Prop:=
 ∃j:Nat,m=r.ps.length-j/\j<=r.ps.length/\ax NpL e e'/\ai e' 52=.int .i64 j/\aa (yf N nb) h h'/\NR h' n0 ag κ cap B rs N nb
theorem ab4(ok:bl h)(k:NR h n0 ag κ cap B rs N nb)(hr:rs[i]?=some r)(hl:r.ps.length<=1048576)(f3:ai e 3=.pointer (some ⟨N,0,none⟩))(f50:ai e 50=r.P.v)(f51:ai e 51=.int .i64 r.ps.length)(f52:ai e 52=.int .i64 0)(C:∀e' h',ax NpL e e'->aa (yf N nb) h h'->NR h' n0 ag κ cap B rs N nb->QQ (.exit 4) e' h'):az FF (.loop pD) e h QQ:=by
 refine az.loop (NpI h n0 ag κ cap B rs N nb r e) ?_ (n:=r.ps.length) ⟨0,rfl,by omega,ax.refl _ _,f52,.refl ok,k⟩;rintro m e' h'⟨j,rfl,hj,K,q52,g,k'⟩;have cw:=g.ok;have q3:=K.at f3;have q50:=K.at f50;have q51:=K.at f51;unfold pD;by_cases aM:j<r.ps.length
 .have wj:=wrap_i64 ((j:Int)+1) (by omega) (by omega);obtain⟨q,hq⟩:=ay r.ps j aM;have R:=k'.O.os.r i r hr;obtain⟨b,cs,o,s,ha,hb,_,_,cS,_⟩:=R.P.el hq;have rd:=cS 0 2 (by decide);simp[-ae] at rd;have iF:=R.P.len;obtain⟨h0,h1⟩:=(R.ps q (bU hq)).1;obtain⟨u,hu⟩:∃u:Nat,q.1=u:=⟨q.1.toNat,by omega⟩;rw[hu] at rd;simp at q50;rw[ha,iF] at q50;simp[q3,q50,q51,q52,aM,rd,-ae,au];have g2:aa aG h' (put (aD h' [.int .i64 0,.slice none 0 0] 0) h'.next 0 [.int .i64 0,.slice none 0 0] [.int .i64 u,.slice q.2.a q.2.l q.2.c] 0):=(aa.refl cw).var _ _;generalize put (aD h' [.int .i64 0,.slice none 0 0] 0) h'.next 0 _ _ 0=h2 at*;refine aF.call (V:=NmQ N nb ag h2) (by simpa using yy g2.ok (k'.aX cw g2).w (r:=u) (by omega) k.tQ) ?_;rintro _ h3⟨g3,w3,x,rfl,_⟩;simp[q52,wj];refine⟨r.ps.length-(j+1),by omega,j+1,rfl,aM,?_,by simp,g.trans (g2.aX.trans g3),k'.step cw g2 g3 w3⟩
  repeat (refine ax.set ?_)
  exact K
 .have:j=r.ps.length:=by omega
  subst this;simp[q51,q52];exact C _ _ (ax.set K) g k'
end
section
variable{n0 ag:Nat}{κ cap:Nat->Nat}{B:SV}{rs:List XR}{N nb:Nat}
def NlL:List Nat:=[10,12,64,65,66,67,68,69,70,71,72,73,74,75,76,77,78,79,80,81,82,83,84,85,86,87,88,89,90,91,92,93,94]
def NlI(h:ab)(n0 ag:Nat)(κ cap:Nat->Nat)(B:SV)(rs:List XR)(N nb:Nat)(r:XR)(e:Env)(m:Nat)(e':Env)(h':ab):Prop:=
 ∃j:Nat,m=r.ls.length-j/\j<=r.ls.length/\ax NlL e e'/\ai e' 64=.int .i64 j/\aa (yf N nb) h h'/\NR h' n0 ag κ cap B rs N nb
theorem ab3(ok:bl h)(k:NR h n0 ag κ cap B rs N nb)(hr:rs[i]?=some r)(hl:r.ls.length<=1048576)(al:∀x∈r.ls,x.args.l<=1048576)(f3:ai e 3=.pointer (some ⟨N,0,none⟩))(f62:ai e 62=r.L.v)(f63:ai e 63=.int .i64 r.ls.length)(f64:ai e 64=.int .i64 0)(C:∀e' h',ax NlL e e'->aa (yf N nb) h h'->NR h' n0 ag κ cap B rs N nb->QQ (.exit 6) e' h'):az FF (.loop pC) e h QQ:=by
 refine az.loop (NlI h n0 ag κ cap B rs N nb r e) ?_ (n:=r.ls.length) ⟨0,rfl,by omega,ax.refl _ _,f64,.refl ok,k⟩;rintro m e' h'⟨j,rfl,hj,K,q64,g,k'⟩;have cw:=g.ok;have q3:=K.at f3;have Vl:=K.at f62;have q63:=K.at f63;unfold pC;by_cases aM:j<r.ls.length
 .have wj:=wrap_i64 ((j:Int)+1) (by omega) (by omega);obtain⟨x,hx⟩:=ay r.ls j aM;have Gi:=bU hx;have R:=k'.O.os.r i r hr;obtain⟨b,cs,o,s,ha,hb,_,_,cS,_⟩:=R.L.el hx;have rd:=cS 0 8 (by decide);simp[-ae] at rd;have tc:=R.L.len;obtain⟨hd,SG,Gg,SH⟩:=R.ls x Gi;simp at Vl;rw[ha,tc] at Vl;simp[q3,Vl,q63,q64,aM,rd,-ae,au];refine aF.cut (fun h2=>aa aG h' h2/\∃s,h2.tr.get h'.next=some (.aC [.int .i64 x.op,.int .i64 x.dst,.bool x.a.1,.int .i64 x.a.2,.bool x.b.1,.int .i64 x.b.2,.int .i64 x.fn,.slice x.args.a x.args.l x.args.c] false 0 s)) ?_ ?_
  .exact⟨(aa.refl cw).var _ _,h'.clock,by simp[aR]⟩
  rintro h2⟨g2,sX,ef⟩;have k2:=k'.aX cw g2;obtain⟨lN,lnb⟩:=k'.lt cw;have nX:¬yf N nb h'.next:=fun e=>by rcases e with e|e<;>omega
  refine aF.call (V:=Z9 N nb ag x.a h2) (by simpa using v7 g2.ok k2.w SG k.tQ) ?_;rintro _ h3⟨g3,w3,u,rfl,_,_,_⟩;have k3:=k2.step g2.ok (.refl g2.ok) g3 w3;have iO:=g3.get g2.ok ef nX;simp[q3,iO];refine aF.call (V:=Z9 N nb ag x.b h3) (by simpa using v7 g3.ok k3.w Gg k.tQ) ?_;rintro _ h4⟨g4,w4,u2,rfl,_,_,_⟩;have k4:=k3.step g3.ok (.refl g3.ok) g4 w4;have vS:=g4.get g3.ok iO nX;simp[vS];refine ab2 g4.ok k4 SH (al x Gi) (by simp[q3]) (by simp) (by simp) (by simp) ?_;intro e5 h5 K5 g5 k5;have Ao:=g5.get g4.ok vS nX;have m3:=K5.at (t:=3) (by simp;exact q3);have m10:ai e5 10=.pointer (some ⟨h'.next,0,none⟩):=K5.at (t:=10) (by simp);have m64:=K5.at (t:=64) (by simp;exact q64);have G5:=g.trans (g2.aX.trans (g3.trans (g4.trans g5)));have KK:ax NlL e e5:=by
   refine ax.trans ?_ (K5.bH)
   repeat (refine ax.set ?_)
   exact K
  by_cases Wc:0<=x.dst
  .obtain⟨dn,hdn⟩:∃u:Nat,x.dst=u:=⟨x.dst.toNat,by omega⟩;rw[hdn] at Ao hd;have XP:(0:Int)<=(dn:Int):=by omega
   simp[m3,m10,Ao,XP];refine aF.call (V:=NmQ N nb ag h5) (by simpa using yy g5.ok k5.w (r:=dn) (by omega) k.tQ) ?_;rintro _ h6⟨g6,w6,y,rfl,_⟩;simp[m64,wj];refine⟨r.ls.length-(j+1),by omega,j+1,rfl,aM,?_,by simp,G5.trans g6,k5.step g5.ok (.refl g5.ok) g6 w6⟩
   repeat (refine ax.set ?_)
   exact KK
  .simp[m3,m10,Ao,Wc,m64,wj];refine⟨r.ls.length-(j+1),by omega,j+1,rfl,aM,?_,by simp,G5,k5⟩
   repeat (refine ax.set ?_)
   exact KK
 .have:j=r.ls.length:=by omega
  subst this;simp[q63,q64];exact C _ _ (ax.set K) g k'
def NbI(h:ab)(n0 ag:Nat)(κ cap:Nat->Nat)(B:SV)(rs:List XR)(N nb:Nat)(v1 v2:Value)(m:Nat)(e':Env)(h':ab):Prop:=
 ∃j:Nat,m=rs.length-j/\j<=rs.length/\ai e' 1=v1/\ai e' 2=v2/\ai e' 3=.pointer (some ⟨N,0,none⟩)/\ai e' 43=B.v/\ai e' 44=.int .i64 rs.length/\ai e' 45=.int .i64 j/\aa (yf N nb) h h'/\NR h' n0 ag κ cap B rs N nb
theorem U0(ok:bl h)(k:NR h n0 ag κ cap B rs N nb)(T:TF rs)(f1:ai e 1=v1)(f2:ai e 2=v2)(f3:ai e 3=.pointer (some ⟨N,0,none⟩))(f43:ai e 43=B.v)(f44:ai e 44=.int .i64 rs.length)(f45:ai e 45=.int .i64 0)(C:∀e' h',ai e' 1=v1->ai e' 2=v2->ai e' 3=.pointer (some ⟨N,0,none⟩)->aa (yf N nb) h h'->NR h' n0 ag κ cap B rs N nb->QQ (.exit 2) e' h'):az FF (.loop pE) e h QQ:=by
 have DK:=T.DK;refine az.loop (NbI h n0 ag κ cap B rs N nb v1 v2) ?_ (n:=rs.length) ⟨0,rfl,by omega,f1,f2,f3,f43,f44,f45,.refl ok,k⟩;rintro m e' h'⟨j,rfl,hj,q1,q2,q3,N1,Hb,Le,g,k'⟩;have cw:=g.ok;unfold pE;by_cases aM:j<rs.length
 .have wj:=wrap_i64 ((j:Int)+1) (by omega) (by omega);obtain⟨r,hr⟩:=ay rs j aM;have hm:=bU hr;obtain⟨sp,sl⟩:=T.size r hm;have R:=k'.O.os.r j r hr;obtain⟨b,cs,o,s,ha,hb,_,_,cS,_⟩:=k'.O.A.el hr;have rd:=cS 0 6 (by decide);simp[-ae] at rd;have cV:=k'.O.A.len;have iF:=R.P.len;have tc:=R.L.len;simp at N1;rw[ha,cV] at N1;simp[q3,N1,Hb,Le,aM,rd,-ae,au,iF];refine az.cut (fun h2=>aa aG h' h2/\∃s,h2.tr.get h'.next=some (.aC [.slice r.P.a r.ps.length r.P.c,.slice r.L.a r.ls.length r.L.c,.int .i64 r.kind,.bool r.on.1,.int .i64 r.on.2,.slice r.T.a r.T.l r.T.c] false 0 s)) ?_ ?_
  .exact⟨(aa.refl cw).var _ _,h'.clock,by simp[aR,iF,tc]⟩
  rintro h2⟨g2,sX,ef⟩;have k2:=k'.aX cw g2;obtain⟨lN,lnb⟩:=k'.lt cw;have nX:¬yf N nb h'.next:=fun e=>by rcases e with e|e<;>omega
  refine ab4 g2.ok k2 hr (by omega) (by simp[q3]) (by simp[iF]) (by simp) (by simp) ?_;intro e3 h3 K3 g3 k3;have iO:=g3.get g2.ok ef nX;have a1:=K3.at (t:=1) (by simp;exact q1);have a2:=K3.at (t:=2) (by simp;exact q2);have a3:=K3.at (t:=3) (by simp;exact q3);have a6:ai e3 6=.pointer (some ⟨h'.next,0,none⟩):=K3.at (t:=6) (by simp);have a43:=K3.at (t:=43) (by simp;exact N1);have a44:=K3.at (t:=44) (by simp;exact Hb);have a45:=K3.at (t:=45) (by simp;exact Le);simp[a6,iO];refine ab3 g3.ok k3 hr (by omega) (T.al r hm) (by simp[a3]) (by simp[tc]) (by simp) (by simp) ?_;intro e4 h4 K4 g4 k4;have vS:=g4.get g3.ok iO nX;have b1:=K4.at (t:=1) (by simp;exact a1);have b2:=K4.at (t:=2) (by simp;exact a2);have b3:=K4.at (t:=3) (by simp;exact a3);have b6:=K4.at (t:=6) (by simp;exact a6);have b43:=K4.at (t:=43) (by simp;exact a43);have b44:=K4.at (t:=44) (by simp;exact a44);have b45:=K4.at (t:=45) (by simp;exact a45);simp[b3,b6,vS];refine aF.call (V:=Z9 N nb ag r.on h4) (by simpa using v7 g4.ok k4.w R.on k.tQ) ?_;rintro _ h5⟨g5,w5,u,rfl,_,_,_⟩;simp[b45,wj];exact⟨rs.length-(j+1),by omega,j+1,rfl,aM,by simp[b1],by simp[b2],by simp[b3],by simp[b43,ha,cV],by simp[b44],by simp,g.trans (g2.aX.trans (g3.trans (g4.trans g5))),k4.step g4.ok (.refl g4.ok) g5 w5⟩
 .have:j=rs.length:=by omega
  subst this;simp[Hb,Le];exact C _ _ (by simp[q1]) (by simp[q2]) (by simp[q3]) g k'
def NqI(h:ab)(n0 ag:Nat)(κ cap:Nat->Nat)(B:SV)(rs:List XR)(N nb:Nat)(p:Nat)(v1 v2:Value)(m:Nat)(e':Env)(h':ab):Prop:=
 ∃j:Nat,m=p-j/\j<=p/\ai e' 1=v1/\ai e' 2=v2/\ai e' 3=.pointer (some ⟨N,0,none⟩)/\ai e' 34=.int .i64 p/\ai e' 35=.int .i64 j/\aa (yf N nb) h h'/\NR h' n0 ag κ cap B rs N nb
theorem U1(ok:bl h)(k:NR h n0 ag κ cap B rs N nb){p:Nat}(hp:p<=ag)(f1:ai e 1=v1)(f2:ai e 2=v2)(f3:ai e 3=.pointer (some ⟨N,0,none⟩))(f34:ai e 34=.int .i64 p)(f35:ai e 35=.int .i64 0)(C:∀e' h',ai e' 1=v1->ai e' 2=v2->ai e' 3=.pointer (some ⟨N,0,none⟩)->aa (yf N nb) h h'->NR h' n0 ag κ cap B rs N nb->QQ (.exit 0) e' h'):az FF (.loop pF) e h QQ:=by
 have Es:=k.tQ;refine az.loop (NqI h n0 ag κ cap B rs N nb p v1 v2) ?_ (n:=p) ⟨0,rfl,by omega,f1,f2,f3,f34,f35,.refl ok,k⟩;rintro m e' h'⟨j,rfl,hj,q1,q2,q3,Q8,q35,g,k'⟩;unfold pF;by_cases aM:j<p
 .have wj:=wrap_i64 ((j:Int)+1) (by omega) (by omega);simp[q3,Q8,q35,aM];refine aF.call (V:=NmQ N nb ag h') (by simpa using yy g.ok k'.w (r:=j) (by omega) k.tQ) ?_;rintro _ h3⟨g3,w3,x,rfl,_⟩;simp[q35,wj];exact⟨p-(j+1),by omega,j+1,rfl,aM,by simp[q1],by simp[q2],by simp[q3],by simp[Q8],by simp,g.trans g3,k'.step g.ok (.refl g.ok) g3 w3⟩
 .have:j=p:=by omega
  subst this;simp[Q8,q35];exact C _ _ (by simp[q1]) (by simp[q2]) (by simp[q3]) g k'
end
section
variable{n0 ag:Nat}{κ cap:Nat->Nat}{B:SV}{rs:List XR}{N nb:Nat}
def LL(κ:Nat->Nat)(N nb x:Nat):Prop:=yf N nb x\/κ x≠0
theorem NR.CZ{h h':ab}(k:NR h n0 ag κ cap B rs N nb)(ok:bl h){b:Nat}(hk:κ b=1)(g:aa (· =b) h h'){vs:List (Bool×Int)}{o:Nat}(hb:∃s,h'.tr.get b=some (.aC (bY.flat vs) false o s))(ho:o=0\/o=2)(hl:vs.length=cap b)(hv:∀v∈vs,h_ ag v):NR h' n0 ag κ cap B rs N nb:=
 ⟨k.O.CZ ok hk g hb ho hl hv,k.w.grow ok g (fun e=>by have:=k.κN;rw[e] at this;omega) (fun e=>by have:=k.κb;rw[e] at this;omega),k.κN,k.κb,k.tQ⟩
def WaL:List Nat:=[21,22,164,165,166,167,168,169,170,171,172,173,174,175,176]
def WaI(h:ab)(n0 ag:Nat)(κ cap:Nat->Nat)(B:SV)(rs:List XR)(N nb:Nat)(A:SV)(X:Nat)(xc:List Value)(sX:Nat)(e:Env)(m:Nat)(e':Env)(h':ab):Prop:=
 ∃j:Nat,m=A.l-j/\j<=A.l/\ax WaL e e'/\ai e' 164=.int .i64 j/\aa (LL κ N nb) h h'/\NR h' n0 ag κ cap B rs N nb/\h'.tr.get X=some (.aC xc false 0 sX)
theorem amf(ok:bl h)(k:NR h n0 ag κ cap B rs N nb)(hA:VA κ cap A)(hl:A.l<=1048576)(hX:h.tr.get X=some (.aC xc false 0 sX))(κX:κ X=0)(nX:¬yf N nb X)(Ev:(xc.drop 7).take 1=[A.v])(f3:ai e 3=.pointer (some ⟨N,0,none⟩))(fX:ai e 20=.pointer (some ⟨X,0,none⟩))(fA:ai e 162=A.v)(fl:ai e 163=.int .i64 A.l)(fj:ai e 164=.int .i64 0)(C:∀e' h',ax WaL e e'->aa (LL κ N nb) h h'->NR h' n0 ag κ cap B rs N nb->h'.tr.get X=some (.aC xc false 0 sX)->QQ (.exit 18) e' h'):az FF (.loop pw) e h QQ:=by
 refine az.loop (WaI h n0 ag κ cap B rs N nb A X xc sX e) ?_ (n:=A.l) ⟨0,rfl,by omega,ax.refl _ _,fj,.refl ok,k,hX⟩;rintro m e' h'⟨j,rfl,hj,K,qj,g,k',nt⟩;have cw:=g.ok;have q3:=K.at f3;have qX:=K.at fX;have qA:=K.at fA;have ql:=K.at fl;have u6:7+1<=xc.length:=by have:=congrArg List.length Ev;simp at this;omega
 unfold pw;by_cases aM:j<A.l
 .have wj:=wrap_i64 ((j:Int)+1) (by omega) (by omega);obtain⟨b,vs,o,s,v,ha,Ut,hc,hb,ho,Jc,vB,hx,hv,rd⟩:=hA.val k'.O.os.V aM;simp at qA;rw[ha] at qA;have Gh:(xc.drop 7).take 1=[.slice (some ⟨b,0,none⟩) A.l A.c]:=by rw[Ev];simp[ha]
  have rX:aV h' X 7 1=some [.slice (some ⟨b,0,none⟩) A.l A.c]:=by rw[cx nt u6,Gh]
  have oX:=cw.bE nt;have zw:=cw.st _ _ _ _ _ nt;have lX:=oX.lt;have nXn:¬X=h'.next:=by omega
  have lb:=cw.wf _ _ hb;simp[q3,qX,qA,ql,qj,aM,rd,rX,oX,nXn,-ae,au,bj,aN,aB];refine aZ.cut (fun h2=>aa aG h' h2) ?_ ?_
  .exact((aa.refl cw).var _ _).tick
  intro h2 g2;have k2:=k'.aX cw g2;have ef:=g2.get cw nt;refine aZ.call (V:=Z9 N nb ag v h2) (by simpa using v7 g2.ok k2.w hv k.tQ) ?_;rintro _ h3⟨g3,w3,u,rfl,_,hu,_⟩;have k3:=k2.step g2.ok (.refl g2.ok) g3 w3;have iO:=g3.get g2.ok ef nX;have nbS:¬yf N nb b:=fun e=>by have h1:=k.κN;have h2:=k.κb;rcases e with e|e<;>(rw[e] at Ut;omega)
  have vk:=g3.get g2.ok (g2.get cw hb) nbS;have hjv:j<vs.length:=(bK.mp hx).1;have hf:j*2+2<=(bY.flat vs).length:=by rw[bY.bh,eB];omega
  have HE:j*2+2<=vs.length*2:=by omega
  have Ar:sX<=h'.clock+1:=by omega
  simp[qX,iO,Ar,aM,vk,HE,qj,wj];have g4:=aJ (off:=j*2) (vs:=[Value.bool u.1,Value.int .i64 u.2]) g3.ok vk;have e4:=bY.dS vs j u hjv;simp only[eB,xG] at e4;have HC:∃s,(put h3 b (j*2) (bY.flat vs) [Value.bool u.1,Value.int .i64 u.2] o).tr.get b=some (.aC (bY.flat (vs.set j u)) false o s):=⟨_,by rw[aA,e4]⟩;generalize put h3 b (j*2) (bY.flat vs) [Value.bool u.1,Value.int .i64 u.2] o=h4 at*;have k4:=k3.CZ g3.ok Ut g4 HC ho (by simp[Jc]) (fun w hw=>by
   rcases Em hw with h|h
   .exact vB w h
   .rw[h];exact hu)
  have nXb:¬X=b:=fun e=>by rw[e] at κX;omega
  refine⟨A.l-(j+1),by omega,j+1,rfl,aM,?_,by simp,?_,k4,g4.get g3.ok iO nXb⟩
  .repeat (refine ax.set ?_)
   exact K
  .exact((g.trans g2.aX).trans (g3.bH (fun x _ h=>.inl h))).trans (g4.bH (fun x _ e=>.inr (by rw[e];omega)))
 .have:j=A.l:=by omega
  subst this;simp[ql,qj];exact C _ _ (ax.set K) g k' nt
def WrL:List Nat:=[17,18,129,130,131,132,133,134,135,136,137,138,139,140,141]
def WrI(h:ab)(n0 ag:Nat)(κ cap:Nat->Nat)(B:SV)(rs:List XR)(N nb:Nat)(A:SV)(X:Nat)(xc:List Value)(sX:Nat)(e:Env)(m:Nat)(e':Env)(h':ab):Prop:=
 ∃j:Nat,m=A.l-j/\j<=A.l/\ax WrL e e'/\ai e' 129=.int .i64 j/\aa (LL κ N nb) h h'/\NR h' n0 ag κ cap B rs N nb/\h'.tr.get X=some (.aC xc false 0 sX)
theorem amg(ok:bl h)(k:NR h n0 ag κ cap B rs N nb)(hA:VA κ cap A)(hl:A.l<=1048576)(hX:h.tr.get X=some (.aC xc false 0 sX))(κX:κ X=0)(nX:¬yf N nb X)(Ev:(xc.drop 1).take 1=[A.v])(f3:ai e 3=.pointer (some ⟨N,0,none⟩))(fX:ai e 16=.pointer (some ⟨X,0,none⟩))(fA:ai e 127=A.v)(fl:ai e 128=.int .i64 A.l)(fj:ai e 129=.int .i64 0)(C:∀e' h',ax WrL e e'->aa (LL κ N nb) h h'->NR h' n0 ag κ cap B rs N nb->h'.tr.get X=some (.aC xc false 0 sX)->QQ (.exit 14) e' h'):az FF (.loop py) e h QQ:=by
 refine az.loop (WrI h n0 ag κ cap B rs N nb A X xc sX e) ?_ (n:=A.l) ⟨0,rfl,by omega,ax.refl _ _,fj,.refl ok,k,hX⟩;rintro m e' h'⟨j,rfl,hj,K,qj,g,k',nt⟩;have cw:=g.ok;have q3:=K.at f3;have qX:=K.at fX;have qA:=K.at fA;have ql:=K.at fl;have u6:1+1<=xc.length:=by have:=congrArg List.length Ev;simp at this;omega
 unfold py;by_cases aM:j<A.l
 .have wj:=wrap_i64 ((j:Int)+1) (by omega) (by omega);obtain⟨b,vs,o,s,v,ha,Ut,hc,hb,ho,Jc,vB,hx,hv,rd⟩:=hA.val k'.O.os.V aM;simp at qA;rw[ha] at qA;have Gh:(xc.drop 1).take 1=[.slice (some ⟨b,0,none⟩) A.l A.c]:=by rw[Ev];simp[ha]
  have rX:aV h' X 1 1=some [.slice (some ⟨b,0,none⟩) A.l A.c]:=by rw[cx nt u6,Gh]
  have oX:=cw.bE nt;have zw:=cw.st _ _ _ _ _ nt;have lX:=oX.lt;have nXn:¬X=h'.next:=by omega
  have lb:=cw.wf _ _ hb;simp[q3,qX,qA,ql,qj,aM,rd,rX,oX,nXn,-ae,au,bj,aN,aB];refine aZ.cut (fun h2=>aa aG h' h2) ?_ ?_
  .exact((aa.refl cw).var _ _).tick
  intro h2 g2;have k2:=k'.aX cw g2;have ef:=g2.get cw nt;refine aZ.call (V:=Z9 N nb ag v h2) (by simpa using v7 g2.ok k2.w hv k.tQ) ?_;rintro _ h3⟨g3,w3,u,rfl,_,hu,_⟩;have k3:=k2.step g2.ok (.refl g2.ok) g3 w3;have iO:=g3.get g2.ok ef nX;have nbS:¬yf N nb b:=fun e=>by have h1:=k.κN;have h2:=k.κb;rcases e with e|e<;>(rw[e] at Ut;omega)
  have vk:=g3.get g2.ok (g2.get cw hb) nbS;have hjv:j<vs.length:=(bK.mp hx).1;have hf:j*2+2<=(bY.flat vs).length:=by rw[bY.bh,eB];omega
  have HE:j*2+2<=vs.length*2:=by omega
  have Ar:sX<=h'.clock+1:=by omega
  simp[qX,iO,Ar,aM,vk,HE,qj,wj];have g4:=aJ (off:=j*2) (vs:=[Value.bool u.1,Value.int .i64 u.2]) g3.ok vk;have e4:=bY.dS vs j u hjv;simp only[eB,xG] at e4;have HC:∃s,(put h3 b (j*2) (bY.flat vs) [Value.bool u.1,Value.int .i64 u.2] o).tr.get b=some (.aC (bY.flat (vs.set j u)) false o s):=⟨_,by rw[aA,e4]⟩;generalize put h3 b (j*2) (bY.flat vs) [Value.bool u.1,Value.int .i64 u.2] o=h4 at*;have k4:=k3.CZ g3.ok Ut g4 HC ho (by simp[Jc]) (fun w hw=>by
   rcases Em hw with h|h
   .exact vB w h
   .rw[h];exact hu)
  have nXb:¬X=b:=fun e=>by rw[e] at κX;omega
  refine⟨A.l-(j+1),by omega,j+1,rfl,aM,?_,by simp,?_,k4,g4.get g3.ok iO nXb⟩
  .repeat (refine ax.set ?_)
   exact K
  .exact((g.trans g2.aX).trans (g3.bH (fun x _ h=>.inl h))).trans (g4.bH (fun x _ e=>.inr (by rw[e];omega)))
 .have:j=A.l:=by omega
  subst this;simp[ql,qj];exact C _ _ (ax.set K) g k' nt
end
section
variable{n0 ag:Nat}{κ cap:Nat->Nat}{B:SV}{rs:List XR}{N nb:Nat}
theorem Hm(hr:rs[i]?=some r):rs.set i r=rs:=by
 refine yT fun m=>?_;rw[eu];by_cases e:i=m
 .subst e;rw[aY rfl,aY (bK.mp hr).1,hr]
 .rw[bc e]
theorem FK{r r':XR}(w:fS eW h B rs)(hr:rs[i]?=some r)(e:eW.enc r'=eW.enc r):fS eW h B (rs.set i r'):=by
 refine xF w (by simp) (fun m a c h1 h2=>?_);rw[eu] at h2;by_cases e1:i=m
 .subst e1;rw[aY rfl,aY (bK.mp hr).1] at h2;cases h2;rw[hr] at h1;cases h1;exact e
 .rw[bc e1,h1] at h2;cases h2;rfl
theorem NR.ZQ{h h':ab}(k:NR h n0 ag κ cap B rs N nb)(ok:bl h){i:Nat}{r:XR}(hr:rs[i]?=some r)(g:aa (aw r.P.v) h h'){Zp:List (Int×SV)}(hP:fS lu h' r.P Zp)(iT:∀p∈Zp,(0<=p.1/\p.1<ag)/\VA κ cap p.2):NR h' n0 ag κ cap B (rs.set i {r with ps:=Zp}) N nb:=by have R:=k.O.os.r i r hr;have hA:=k.O.A.grow ok g (fun b hb hs=>by have:=k.O.kB b hb;have:=R.kP b hs;omega);exact⟨⟨k.O.os.ZQ ok hr g hP rfl iT,FK hA hr rfl,k.O.kB⟩,k.w.grow ok g (fun e=>by have:=k.κN;have:=R.kP _ e;omega) (fun e=>by have:=k.κb;have:=R.kP _ e;omega),k.κN,k.κb,k.tQ⟩
theorem NR.acF{h h':ab}(k:NR h n0 ag κ cap B rs N nb)(ok:bl h){i:Nat}{r:XR}(hr:rs[i]?=some r)(g:aa (aw r.L.v) h h'){zA:List XI}(hL:fS kh h' r.L zA)(LQ:∀x∈zA,x.dst<ag/\h_ ag x.a/\h_ ag x.b/\VA κ cap x.args):NR h' n0 ag κ cap B (rs.set i {r with ls:=zA}) N nb:=by have R:=k.O.os.r i r hr;have hA:=k.O.A.grow ok g (fun b hb hs=>by have:=k.O.kB b hb;have:=R.kL b hs;omega);exact⟨⟨k.O.os.acF ok hr g hL rfl LQ,FK hA hr rfl,k.O.kB⟩,k.w.grow ok g (fun e=>by have:=k.κN;have:=R.kL _ e;omega) (fun e=>by have:=k.κb;have:=R.kL _ e;omega),k.κN,k.κb,k.tQ⟩
def WpL:List Nat:=[15,16,17,18,112,113,114,115,116,117,118,119,120,121,122,123,124,125,126,127,128,129,130,131,132,133,134,135,136,137,138,139,140,141,142]
def WpI(h:ab)(n0 ag:Nat)(κ cap:Nat->Nat)(B:SV)(rs:List XR)(N nb i:Nat)(r:XR)(X:Nat)(xc:List Value)(sX:Nat)(e:Env)(m:Nat)(e':Env)(h':ab):Prop:=
 ∃(j:Nat) (qs:List (Int×SV)),m=r.ps.length-j/\j<=r.ps.length/\ax WpL e e'/\ai e' 112=.int .i64 j/\aa (LL κ N nb) h h'/\NR h' n0 ag κ cap B (rs.set i {r with ps:=qs}) N nb/\qs.length=r.ps.length/\(∀q∈qs,q.2.l<=1048576)/\h'.tr.get X=some (.aC xc false 0 sX)
theorem YU(ok:bl h)(k:NR h n0 ag κ cap B rs N nb)(hr:rs[i]?=some r)(hl:r.ps.length<=1048576)(hX:h.tr.get X=some (.aC xc false 0 sX))(κX:κ X=0)(nX:¬yf N nb X)(Ev:xc.take 1=[r.P.v])(Qm:∀q∈r.ps,q.2.l<=1048576)(f3:ai e 3=.pointer (some ⟨N,0,none⟩))(f14:ai e 14=.pointer (some ⟨X,0,none⟩))(f110:ai e 110=r.P.v)(f111:ai e 111=.int .i64 r.ps.length)(f112:ai e 112=.int .i64 0)(C:∀e' h' qs,qs.length=r.ps.length->ax WpL e e'->aa (LL κ N nb) h h'->NR h' n0 ag κ cap B (rs.set i {r with ps:=qs}) N nb->h'.tr.get X=some (.aC xc false 0 sX)->QQ (.exit 12) e' h'):az FF (.loop pz) e h QQ:=by
 have fu:=(bK.mp hr).1;refine az.loop (WpI h n0 ag κ cap B rs N nb i r X xc sX e) ?_ (n:=r.ps.length) ⟨0,r.ps,rfl,by omega,ax.refl _ _,f112,.refl ok,by rw[Hm hr];exact k,rfl,Qm,hX⟩;rintro m e' h'⟨j,qs,rfl,hj,K,Q5,g,k',hqs,hqv,nt⟩;have cw:=g.ok;have q3:=K.at f3;have JA:=K.at f14;have ag7:=K.at f110;have amw:=K.at f111;have u6:1<=xc.length:=by have:=congrArg List.length Ev;simp at this;omega
 unfold pz;by_cases aM:j<r.ps.length
 .have wj:=wrap_i64 ((j:Int)+1) (by omega) (by omega);obtain⟨q,hq⟩:=ay qs j;have Nf:=bU hq;have y4:(rs.set i {r with ps:=qs})[i]?=some {r with ps:=qs} :=by rw[eu,aY rfl,aY fu]
  have R:=k'.O.os.r i _ y4;have RP:fS lu h' r.P qs:=R.P;obtain⟨bP,cs,o,s,ha,hb,_,dV,cS,_⟩:=RP.el hq;have rd:=cS 0 2 (by decide);simp[-ae] at rd;have iF:=RP.len;obtain⟨⟨h0,h1⟩,hVA⟩:=R.ps q Nf;obtain⟨u,hu⟩:∃u:Nat,q.1=u:=⟨q.1.toNat,by omega⟩;rw[hu] at rd;simp at ag7;rw[ha,iF,hqs] at ag7;have Gh:(xc.drop 0).take 1=[.slice (some ⟨bP,0,none⟩) r.ps.length r.P.c]:=by rw[List.drop_zero,Ev];simp[ha,iF,hqs]
  have rX:aV h' X 0 1=some [.slice (some ⟨bP,0,none⟩) r.ps.length r.P.c]:=by rw[cx nt (by omega),Gh]
  have oX:=cw.bE nt;have zw:=cw.st _ _ _ _ _ nt;have lX:=oX.lt;have nXn:¬X=h'.next:=by omega
  simp[q3,JA,ag7,amw,Q5,aM,rd,rX,oX,nXn,-ae,au,bj,aN,aB];refine aZ.cut (fun h2=>aa aG h' h2/\∃s,h2.tr.get h'.next=some (.aC [.int .i64 u,.slice q.2.a q.2.l q.2.c] false 0 s)) ?_ ?_
  .exact⟨((aa.refl cw).var _ _).tick,h'.clock,by simp[aR]⟩
  rintro h2⟨g2,s2,uN⟩;have k2:=k'.aX cw g2;have ef:=g2.get cw nt;refine aZ.call (V:=NmQ N nb ag h2) (by simpa using yy g2.ok k2.w (r:=u) (by omega) k.tQ) ?_;rintro _ h3⟨g3,w3,x,rfl,hx⟩;have k3:=k2.step g2.ok (.refl g2.ok) g3 w3;have iO:=g3.get g2.ok ef nX;obtain⟨lN,lnb⟩:=k'.lt cw;have nY:¬yf N nb h'.next:=fun e=>by rcases e with e|e<;>omega
  have vT:=g3.get g2.ok uN nY;have κP:κ bP=3:=R.kP bP (bC ha);have R3:=(k3.O.os.r i _ y4).P;obtain⟨bP',Sj,o3,s3,ha3,vk,_,By,_,BB⟩:=R3.el hq;rw[ha] at ha3;cases ha3;have hf:=By 0 1 (by decide);simp at hf;have Ar:sX<=h'.clock+1:=by omega
  have nYP:¬h'.next=bP:=fun e=>by have hw:=k'.O.os.new h'.next;rw[<-e] at κP;have:=(hw (by omega)).2;omega
  simp[JA,iO,Ar,aM,vk,hf,nYP,vT];have g4:=aJ (off:=j*2) (vs:=[Value.int .i64 x]) g3.ok vk;have hP4:=BB ((x:Int),q.2) 0 [.int .i64 x] (by simp) rfl (put h3 bP (j*2) Sj [Value.int .i64 x] o3) ⟨h3.clock,by simp⟩;have Dw:=g4.get g3.ok vT nYP;have vS:=g4.get g3.ok iO (fun e=>by rw[e] at κX;omega);generalize put h3 bP (j*2) Sj [Value.int .i64 x] o3=h4 at*;have k4:=k3.ZQ g3.ok y4 (g4.bH (fun y _ e=>e▸bC ha)) hP4 (fun p hp=>by
   rcases Em hp with h|h
   .exact R.ps p h
   .rw[h];exact⟨⟨by show(0:Int)<=x;omega,by show(x:Int)<ag;omega⟩,hVA⟩)
  rw[List.set_set] at k4;refine amg g4.ok k4 hVA (hqv q Nf) Dw ?_ nY rfl (by simp[q3]) (by simp) (by simp) (by simp) (by simp) ?_
  .have hw:=k'.O.os.new h'.next;rcases uM (κ h'.next) with h|h
   .exact h
   .have:=(hw (by omega)).2;omega
  intro e5 h5 K5 g5 k5 hY5;have atp:=K5.at (t:=112) (by simp;exact Q5);have Ao:=g5.get g4.ok vS (fun e=>by rcases e with e|e;exact nX e;exact e κX);simp[atp,wj];refine⟨r.ps.length-(j+1),by omega,j+1,qs.set j ((x:Int),q.2),rfl,aM,?_,by simp,?_,k5,by simp[hqs],fun p hp=>?_,Ao⟩
  .refine ax.set (ax.set (ax.trans ?_ (K5.bH)))
   repeat (refine ax.set ?_)
   exact K
  .exact(((g.trans g2.aX).trans (g3.bH (fun x _ h=>.inl h))).trans (g4.bH (fun x _ e=>.inr (by rw[e];omega)))).trans g5
  .rcases Em hp with h|h
   .exact hqv p h
   .rw[h];exact hqv q Nf
 .have:j=r.ps.length:=by omega
  subst this;simp[amw,Q5];exact C _ _ qs hqs (ax.set K) g k' nt
end
def Tp(ag:Nat)(u a:Bool×Int):Prop:=u.1=a.1/\h_ ag u/\(a.1=false->u=a)
theorem B9{u a:Bool×Int}(hu:Tp ag u a):shV u=shV a:=by
 obtain⟨u1,_,u3⟩:=hu;unfold shV;rw[u1];cases h:a.1 with
 |true=>rfl
 |false=>rw[u3 h]
theorem Bp(φ:Sh->Bool)(ls:List XI):jG φ ls=((ls.map shX).filter φ).length:=by unfold jG;rw[List.filter_map,gU_];rfl
theorem MH{φ:Sh->Bool}{ls:List XI}{x y:XI}(h:ls[j]?=some x)(e:shX y=shX x):jG φ (ls.set j y)=jG φ ls:=by
 rw[Bp,Bp,List.map_set];congr 2;refine yT fun m=>?_;rw[eu];by_cases e1:j=m
 .subst e1;rw[aY rfl,aY (by simpa using(bK.mp h).1),tV,h,e];rfl
 .rw[bc e1]
section
variable{n0 ag:Nat}{κ cap:Nat->Nat}{B:SV}{rs:List XR}{N nb:Nat}
theorem NR.box(k:NR h n0 ag κ cap B rs N nb)(ok:bl h)(g:aa (· =Y) h h')(κY:κ Y=0)(nY:¬yf N nb Y):NR h' n0 ag κ cap B rs N nb:=
 ⟨k.O.grow ok g (fun b hb=>by rw[hb];exact κY),k.w.grow ok g (fun e=>nY (.inl e.symm)) (fun e=>nY (.inr e.symm)),k.κN,k.κb,k.tQ⟩
def WlD:List Nat:=[151,152,153,154,155,156,157,158,159,160]
theorem acW(ok:bl h)(k:NR h n0 ag κ cap B rs N nb)(SG:h_ ag x.a)(Gg:h_ ag x.b)(hY:h.tr.get Y=some (.aC [.int .i64 x.op,.int .i64 x.dst,.bool x.a.1,.int .i64 x.a.2,.bool x.b.1,.int .i64 x.b.2,.int .i64 x.fn,.slice x.args.a x.args.l x.args.c] false 0 sY))(κY:κ Y=0)(nY:¬yf N nb Y)(f3:ai e 3=.pointer (some ⟨N,0,none⟩))(f20:ai e 20=.pointer (some ⟨Y,0,none⟩))(C:∀e' h' u w s,ax WlD e e'->aa (fun z=>yf N nb z\/z=Y) h h'->NR h' n0 ag κ cap B rs N nb->Tp ag u x.a->Tp ag w x.b->h'.tr.get Y=some (.aC [.int .i64 x.op,.int .i64 x.dst,.bool u.1,.int .i64 u.2,.bool w.1,.int .i64 w.2,.int .i64 x.fn,.slice x.args.a x.args.l x.args.c] false 0 s)->QQ .normal e' h'):az FF RG e h QQ:=by
 have oY:=ok.bE hY;have zw:=ok.st _ _ _ _ _ hY;unfold RG;simp[f3,f20,hY,aq hY,oY];have mN:=(aS ok).ok;have gt:aa aG h (tick h):=aS ok;generalize tick h=h1 at mN gt⊢;have k1:=k.aX ok gt;have hY1:=gt.get ok hY;refine aZ.call (V:=Z9 N nb ag x.a h1) (by simpa using v7 mN k1.w SG k.tQ) ?_;rintro _ h2⟨g2,w2,u,rfl,u1,u2,u3⟩;have k2:=k1.step mN (.refl mN) g2 w2;have uN:=g2.get mN hY1 nY;simp[f20,uN,zw];refine aZ.call (V:=Z9 N nb ag x.b h2) (by simpa using v7 g2.ok k2.w Gg k.tQ) ?_;rintro _ h3⟨g3,w3,w,rfl,v1,v2,v3⟩;have k3:=k2.step g2.ok (.refl g2.ok) g3 w3;have vT:=g3.get g2.ok uN nY;simp[f20,vT];have g4:=((aa.refl g3.ok).put (S:=(· =Y)) (off:=2) (vs:=[Value.bool u.1,Value.int .i64 u.2]) ⟨_,vT⟩ (.inr rfl)).put (b:=Y) (off:=4) (cs:=[.int .i64 x.op,.int .i64 x.dst,.bool u.1,.int .i64 u.2,.bool x.b.1,.int .i64 x.b.2,.int .i64 x.fn,.slice x.args.a x.args.l x.args.c]) (o:=0) (vs:=[Value.bool w.1,Value.int .i64 w.2]) ⟨h3.clock,by simp[aR]⟩ (.inr rfl);refine C _ _ u w (h3.clock+1) ?_ ?_ (k3.box g3.ok g4 κY nY) ⟨u1,u2,u3⟩ ⟨v1,v2,v3⟩ ?_
 .repeat (refine ax.set ?_)
  exact ax.refl _ _
 .exact((gt.aX.trans (g2.bH (fun z _ h=>.inl h))).trans (g3.bH (fun z _ h=>.inl h))).trans (g4.bH (fun z _ h=>.inr h))
 .rw[aA];rfl
theorem Tm(ok:bl h)(k:NR h n0 ag κ cap B rs N nb)(y4:rs[i]?=some r){x x':XI}(hx:r.ls[j]?=some x)(hd:x'.dst<ag)(ha:h_ ag x'.a)(hb:h_ ag x'.b)(hv:VA κ cap x'.args)(hX:h.tr.get X=some (.aC xc false 0 sX))(κX:κ X=0)(nX:¬yf N nb X)(Ev:(xc.drop 1).take 1=[r.L.v])(hY:h.tr.get Y=some (.aC (kh.enc x') false 0 sY))(f14:ai e 14=.pointer (some ⟨X,0,none⟩))(f19:ai e 19=.int .i64 j)(f20:ai e 20=.pointer (some ⟨Y,0,none⟩))(C:∀e' h',ax [185,186,187,188,189] e e'->aa (LL κ N nb) h h'->NR h' n0 ag κ cap B (rs.set i {r with ls:=r.ls.set j x'}) N nb->h'.tr.get X=some (.aC xc false 0 sX)->QQ .normal e' h'):az FF RF e h QQ:=by
 have R:=k.O.os.r i r y4;obtain⟨bL,cs,o,s,haL,hbL,_,dV,_,jh⟩:=R.L.el hx;have aM:=(bK.mp hx).1;have tc:=R.L.len;have u6:1+1<=xc.length:=by have:=congrArg List.length Ev;simp at this;omega
 have Gh:(xc.drop 1).take 1=[.slice (some ⟨bL,0,none⟩) r.ls.length r.L.c]:=by rw[Ev];simp[haL,tc]
 have rX:aV h X 1 1=some [.slice (some ⟨bL,0,none⟩) r.ls.length r.L.c]:=by rw[cx hX u6,Gh]
 have hf:=dV 0 8 (by decide);simp at hf;have uN:=hY;simp only[MN] at uN;simp at uN;have κL:κ bL=4:=R.kL bL (bC haL);unfold RF;simp[f14,f19,f20,rX,uN,aq uN,aM,hbL,hf,-ae];have g4:=aJ (off:=j*8) (vs:=[Value.int .i64 x'.op,.int .i64 x'.dst,.bool x'.a.1,.int .i64 x'.a.2,.bool x'.b.1,.int .i64 x'.b.2,.int .i64 x'.fn,.slice x'.args.a x'.args.l x'.args.c]) ok hbL;have hL4:=jh x' 0 [Value.int .i64 x'.op,.int .i64 x'.dst,.bool x'.a.1,.int .i64 x'.a.2,.bool x'.b.1,.int .i64 x'.b.2,.int .i64 x'.fn,.slice x'.args.a x'.args.l x'.args.c] (by simp) rfl (put h bL (j*8) cs [Value.int .i64 x'.op,.int .i64 x'.dst,.bool x'.a.1,.int .i64 x'.a.2,.bool x'.b.1,.int .i64 x'.b.2,.int .i64 x'.fn,.slice x'.args.a x'.args.l x'.args.c] o) ⟨h.clock,by simp⟩;have k4:=k.acF ok y4 (g4.bH (fun y _ e=>e▸bC haL)) hL4 (fun z hz=>by
  rcases Em hz with h|h
  .exact R.ls z h
  .rw[h];exact⟨hd,ha,hb,hv⟩)
 refine C _ _ ?_ (g4.bH (fun z _ e=>.inr (by rw[e];omega))) k4 (g4.get ok hX (fun e=>by rw[e] at κX;omega))
 repeat (refine ax.set ?_)
 exact ax.refl _ _
def WlL:List Nat:=[19,20,21,22,146,147,148,149,150,151,152,153,154,155,156,157,158,159,160,161,162,163,164,165,166,167,168,169,170,171,172,173,174,175,176,177,178,179,180,181,182,183,184,185,186,187,188,189,190]
def WlI(h:ab)(n0 ag:Nat)(κ cap:Nat->Nat)(B:SV)(rs:List XR)(N nb i:Nat)(r:XR)(X:Nat)(xc:List Value)(sX:Nat)(e:Env)(m:Nat)(e':Env)(h':ab):Prop:=
 ∃(j:Nat) (ys:List XI),m=r.ls.length-j/\j<=r.ls.length/\ax WlL e e'/\ai e' 146=.int .i64 j/\aa (LL κ N nb) h h'/\NR h' n0 ag κ cap B (rs.set i {r with ls:=ys}) N nb/\ys.length=r.ls.length/\(∀x∈ys,x.args.l<=1048576)/\(∀φ,jG φ ys=jG φ r.ls)/\h'.tr.get X=some (.aC xc false 0 sX)
theorem YT(ok:bl h)(k:NR h n0 ag κ cap B rs N nb)(hr:rs[i]?=some r)(hl:r.ls.length<=1048576)(al:∀x∈r.ls,x.args.l<=1048576)(hX:h.tr.get X=some (.aC xc false 0 sX))(κX:κ X=0)(nX:¬yf N nb X)(Ev:(xc.drop 1).take 1=[r.L.v])(f3:ai e 3=.pointer (some ⟨N,0,none⟩))(f14:ai e 14=.pointer (some ⟨X,0,none⟩))(f144:ai e 144=r.L.v)(f145:ai e 145=.int .i64 r.ls.length)(f146:ai e 146=.int .i64 0)(C:∀e' h' ys,ys.length=r.ls.length->ax WlL e e'->aa (LL κ N nb) h h'->NR h' n0 ag κ cap B (rs.set i {r with ls:=ys}) N nb->(∀φ,jG φ ys=jG φ r.ls)->h'.tr.get X=some (.aC xc false 0 sX)->QQ (.exit 16) e' h'):az FF (.loop px) e h QQ:=by
 have fu:=(bK.mp hr).1;refine az.loop (WlI h n0 ag κ cap B rs N nb i r X xc sX e) ?_ (n:=r.ls.length) ⟨0,r.ls,rfl,by omega,ax.refl _ _,f146,.refl ok,by rw[Hm hr];exact k,rfl,al,fun _=>rfl,hX⟩;rintro m e' h'⟨j,ys,rfl,hj,K,aha,g,k',Je,vC,HF,nt⟩;have cw:=g.ok;have q3:=K.at f3;have JA:=K.at f14;have ag_:=K.at f144;have amB:=K.at f145;have u6:2<=xc.length:=by have:=congrArg List.length Ev;simp at this;omega
 unfold px;by_cases aM:j<r.ls.length
 .have wj:=wrap_i64 ((j:Int)+1) (by omega) (by omega);obtain⟨x,hx⟩:=ay ys j;have Gi:=bU hx;have y4:(rs.set i {r with ls:=ys})[i]?=some {r with ls:=ys} :=by rw[eu,aY rfl,aY fu]
  have R:=k'.O.os.r i _ y4;have RL:fS kh h' r.L ys:=R.L;obtain⟨bL,cs,o,s,ha,hb,_,dV,cS,_⟩:=RL.el hx;have rd:=cS 0 8 (by decide);simp[-ae] at rd;have tc:=RL.len;obtain⟨hd,SG,Gg,SH⟩:=R.ls x Gi;simp at ag_;rw[ha,tc,Je] at ag_;simp[ag_,amB,aha,aM,rd,-ae,au];refine az.cut (fun h2=>aa aG h' h2/\∃s,h2.tr.get h'.next=some (.aC [.int .i64 x.op,.int .i64 x.dst,.bool x.a.1,.int .i64 x.a.2,.bool x.b.1,.int .i64 x.b.2,.int .i64 x.fn,.slice x.args.a x.args.l x.args.c] false 0 s)) ?_ ?_
  .exact⟨(aa.refl cw).var _ _,h'.clock,by simp[aR]⟩
  rintro h2⟨g2,s2,uN⟩;have k2:=k'.aX cw g2;have ef:=g2.get cw nt;obtain⟨lN,lnb⟩:=k'.lt cw;have lX:=cw.wf _ _ nt;have nY:¬yf N nb h'.next:=fun e=>by rcases e with e|e<;>omega
  have κY:κ h'.next=0:=by
   have hw:=k'.O.os.new h'.next;rcases uM (κ h'.next) with h|h
   .exact h
   .have:=(hw (by omega)).2;omega
  refine acW g2.ok k2 SG Gg uN κY nY (by simp[q3]) (by simp) ?_;intro e3 h3 u w s3 K3 g3 k3 hu hw vT;have iO:=g3.get g2.ok ef (fun e=>by rcases e with e|e;exact nX e;omega);have a3:=K3.at (t:=3) (by simp;exact q3);have a14:=K3.at (t:=14) (by simp;exact JA);have a19:ai e3 19=.int .i64 j:=K3.at (t:=19) (by simp);have a20:ai e3 20=.pointer (some ⟨h'.next,0,none⟩):=K3.at (t:=20) (by simp);have apC:=K3.at (t:=146) (by simp;exact aha);have KK3:ax WlL e e3:=by
   refine ax.trans ?_ (K3.bH)
   repeat (refine ax.set ?_)
   exact K
  simp[a20,vT];refine amf g3.ok k3 SH (vC x Gi) vT κY nY rfl (by simp[a3]) (by simp[a20]) (by simp) (by simp) (by simp) ?_;intro e4 h4 K4 g4 k4 Dw;have vS:=g4.get g3.ok iO (fun e=>by rcases e with e|e;exact nX e;exact e κX);have b3:=K4.at (t:=3) (by simp;exact a3);have b14:=K4.at (t:=14) (by simp;exact a14);have b19:=K4.at (t:=19) (by simp;exact a19);have b20:=K4.at (t:=20) (by simp;exact a20);have aje:=K4.at (t:=146) (by simp;exact apC);have KK4:ax WlL e e4:=by
   refine ax.trans ?_ (K4.bH)
   repeat (refine ax.set ?_)
   exact KK3
  have G4:aa (LL κ N nb) h h4:=((g.trans g2.aX).trans' g3 (fun _ _ h=>h) (fun z hz e=>by
   rcases e with e|e
   .exact .inl e
   .have:=g.next;omega)).trans g4
  have as7:1+1<=xc.length:=u6;have κL:κ bL=4:=R.kL bL (bC ha)
  
  have fin:∀(e6:Env)(h6:ab)(d:Int),d<ag->ax WlL e e6->aa (LL κ N nb) h h6->NR h6 n0 ag κ cap B (rs.set i {r with ls:=ys.set j ⟨x.op,d,u,w,x.fn,x.args⟩}) N nb->h6.tr.get X=some (.aC xc false 0 sX)->∃m,m<r.ls.length-j/\WlI h n0 ag κ cap B rs N nb i r X xc sX e m (Tr.set (Tr.set e6 190 (.int .i64 ((j:Int)+1))) 146 (.int .i64 ((j:Int)+1))) h6:=by
   intro e6 h6 d hdr K6 G6 k6 Ap;refine⟨r.ls.length-(j+1),by omega,j+1,ys.set j ⟨x.op,d,u,w,x.fn,x.args⟩,rfl,aM,ax.set (ax.set K6),by simp,G6,k6,by simp[Je],fun z hz=>?_,fun φ=>?_,Ap⟩
   .rcases Em hz with h|h
    .exact vC z h
    .rw[h];exact vC x Gi
   .rw[MH hx ?_]
    .exact HF φ
    .simp only[shX,B9 hu,B9 hw]
  by_cases Wc:0<=x.dst
  .obtain⟨dn,hdn⟩:∃u:Nat,x.dst=u:=⟨x.dst.toNat,by omega⟩;rw[hdn] at Dw hd;have XP:(0:Int)<=(dn:Int):=by omega
   simp[b3,b20,Dw,XP];refine aF.call (V:=NmQ N nb ag h4) (by simpa using yy g4.ok k4.w (r:=dn) (by omega) k.tQ) ?_;rintro _ h5⟨g5,w5,y,rfl,hy⟩;have k5:=k4.step g4.ok (.refl g4.ok) g5 w5;have hY5:=g5.get g4.ok Dw nY;have Ao:=g5.get g4.ok vS nX;simp[b20,hY5];have g6:=(aa.refl g5.ok).put (S:=(· =h'.next)) (off:=1) (vs:=[Value.int .i64 y]) ⟨_,hY5⟩ (.inr rfl);have St:∃s,(put h5 h'.next 1 [.int .i64 x.op,.int .i64 dn,.bool u.1,.int .i64 u.2,.bool w.1,.int .i64 w.2,.int .i64 x.fn,.slice x.args.a x.args.l x.args.c] [Value.int .i64 y] 0).tr.get h'.next=some (.aC (kh.enc ⟨x.op,y,u,w,x.fn,x.args⟩) false 0 s):=⟨h5.clock,by rw[aA];rfl⟩;have Ap:=g6.get g5.ok Ao (by omega);have k6:=k5.box g5.ok g6 κY nY;generalize put h5 h'.next 1 _ _ 0=h6 at*;obtain⟨s6,St⟩:=St;have lY:h'.next<h6.next:=g6.ok.wf _ _ St;refine Tm g6.ok k6 y4 hx (x':=⟨x.op,y,u,w,x.fn,x.args⟩) (by show(y:Int)<ag;omega) hu.2.1 hw.2.1 SH Ap κX nX Ev St (by simp[b14]) (by simp[b19]) (by simp[b20]) ?_;intro e7 h7 K7 g7 k7 Ss;rw[List.set_set] at k7;have WU:=K7.at (t:=146) (by simp;exact aje);simp[WU,wj];refine fin e7 h7 y (by omega) ?_ ?_ k7 Ss
   .refine ax.trans ?_ (K7.bH)
    repeat (refine ax.set ?_)
    exact KK4
   .exact((G4.trans (g5.bH (fun z _ h=>.inl h))).trans' g6 (fun _ _ h=>h) (fun z hz e=>by have:=g.next;omega)).trans g7
  .simp[b20,Dw,Wc];refine Tm g4.ok k4 y4 hx (x':=⟨x.op,x.dst,u,w,x.fn,x.args⟩) hd hu.2.1 hw.2.1 SH vS κX nX Ev Dw (by simp[b14]) (by simp[b19]) (by simp[b20]) ?_;intro e7 h7 K7 g7 k7 Ss;rw[List.set_set] at k7;have WU:=K7.at (t:=146) (by simp;exact aje);simp[WU,wj];refine fin e7 h7 x.dst hd ?_ (G4.trans g7) k7 Ss;refine ax.trans ?_ (K7.bH)
   repeat (refine ax.set ?_)
   exact KK4
 .have:j=r.ls.length:=by omega
  subst this;simp[amB,aha];exact C _ _ ys Je (ax.set K) g k' HF nt
end
section
variable{n0 ag:Nat}{κ cap:Nat->Nat}{B:SV}{rs:List XR}{N nb:Nat}
def WbD:List Nat:=[191,192,193,194,195,196,197,198,199,200,201]
theorem acV(ok:bl h)(k:NR h n0 ag κ cap B rs N nb)(y4:rs[j]?=some r)(hF:h.tr.get F=some (.aC (aj name p rg B) false 0 sF))(κF:κ F=0)(nF:¬yf N nb F){r0:XR}(hX:h.tr.get X=some (.aC (eW.enc r0) false 0 sX))(h0:r0.on=r.on)(f1:ai e 1=.pointer (some ⟨F,0,none⟩))(f3:ai e 3=.pointer (some ⟨N,0,none⟩))(f13:ai e 13=.int .i64 j)(f14:ai e 14=.pointer (some ⟨X,0,none⟩))(C:∀e' h' u,ax WbD e e'->aa (LL κ N nb) h h'->NR h' n0 ag κ cap B (rs.set j {r with on:=u}) N nb->QQ .normal e' h'):az FF RB e h QQ:=by
 have aM:=(bK.mp y4).1;have R:=k.O.os.r j r y4;obtain⟨bB,cs,oB,sB,dZ,Ak,_,dV,cS,_⟩:=k.O.A.el y4;have κB:κ bB=2:=k.O.kB bB (bC dZ);have cV:=k.O.A.len;have dX:=hF;simp[aj] at dX;rw[dZ,cV] at dX;have ef:=hX;simp only[p6] at ef;simp at ef;rw[h0] at ef;have oF:=ok.bE hF;have oX:=ok.bE hX;have zw:=ok.st _ _ _ _ _ hF;unfold RB;simp[f1,f3,f13,f14,dX,ef,aq dX,aq ef,oF,oX];have mN:=(aS ok).ok;have gt:aa aG h (tick h):=aS ok;generalize tick h=h1 at mN gt⊢;have k1:=k.aX ok gt;have ta:=gt.get ok dX;refine aZ.call (V:=Z9 N nb ag r.on h1) (by simpa using v7 mN k1.w R.on k.tQ) ?_;rintro _ h2⟨g2,w2,u,rfl,u1,u2,u3⟩;have k2:=k1.step mN (.refl mN) g2 w2;have qL:=g2.get mN ta nF;obtain⟨Sf,cs2,oB2,sB2,ir,CA,_,XU,_,Ym⟩:=k2.O.A.el y4;rw[dZ] at ir;cases ir;have hf:=XU 3 2 (by decide);simp at hf;simp[f1,qL,zw,aM,CA,hf];have g3:=aJ (off:=j*6+3) (vs:=[Value.bool u.1,Value.int .i64 u.2]) g2.ok CA;have A3:=Ym {r with on:=u} 3 [Value.bool u.1,Value.int .i64 u.2] (by simp) rfl (put h2 bB (j*6+3) cs2 [Value.bool u.1,Value.int .i64 u.2] oB2) ⟨h2.clock,by simp⟩;have os3:=(k2.O.os.ad4 y4 r.kind u u2).grow g2.ok g3 (fun x e=>.inr (by rw[e];exact κB));have k3:NR (put h2 bB (j*6+3) cs2 [Value.bool u.1,Value.int .i64 u.2] oB2) n0 ag κ cap B (rs.set j {r with on:=u}) N nb:=
  ⟨⟨os3,A3,k2.O.kB⟩,k2.w.grow g2.ok g3 (fun e=>by have:=k.κN;rw[e] at this;omega) (fun e=>by have:=k.κb;rw[e] at this;omega),k.κN,k.κb,k.tQ⟩
 refine C _ _ u ?_ ?_ k3
 .repeat (refine ax.set ?_)
  exact ax.refl _ _
 .exact(gt.aX.trans (g2.bH (fun z _ h=>.inl h))).trans (g3.bH (fun z _ e=>.inr (by rw[e];omega)))
def WbI(h:ab)(n0 ag:Nat)(κ cap:Nat->Nat)(B:SV)(rs:List XR)(N nb F:Nat)(v2:Value)(m:Nat)(e':Env)(h':ab):Prop:=
 ∃(j:Nat) (bD:List XR),m=rs.length-j/\j<=rs.length/\ai e' 1=.pointer (some ⟨F,0,none⟩)/\ai e' 2=v2/\ai e' 3=.pointer (some ⟨N,0,none⟩)/\ai e' 102=B.v/\ai e' 103=.int .i64 rs.length/\ai e' 104=.int .i64 j/\aa (LL κ N nb) h h'/\NR h' n0 ag κ cap B bD N nb/\bD.length=rs.length/\(∀i,j<=i->bD[i]?=rs[i]?)/\(∀r∈bD,r.ps.length<=100000/\r.ls.length<=100000)/\∀φ,gO φ bD=gO φ rs
theorem QR(ok:bl h)(k:NR h n0 ag κ cap B rs N nb)(qk:n0<=h.next)(T:TF rs)(hF:h.tr.get F=some (.aC (aj name p rg B) false 0 sF))(κF:κ F=0)(nF:¬yf N nb F)(f1:ai e 1=.pointer (some ⟨F,0,none⟩))(f2:ai e 2=v2)(f3:ai e 3=.pointer (some ⟨N,0,none⟩))(f102:ai e 102=B.v)(f103:ai e 103=.int .i64 rs.length)(f104:ai e 104=.int .i64 0)(C:∀e' h' bD,ai e' 1=.pointer (some ⟨F,0,none⟩)->ai e' 2=v2->ai e' 3=.pointer (some ⟨N,0,none⟩)->aa (LL κ N nb) h h'->NR h' n0 ag κ cap B bD N nb->bD.length=rs.length->(∀r∈bD,r.ps.length<=100000/\r.ls.length<=100000)->(∀φ,gO φ bD=gO φ rs)->QQ (.exit 10) e' h'):az FF (.loop pA) e h QQ:=by
 have DK:=T.DK;refine az.loop (WbI h n0 ag κ cap B rs N nb F v2) ?_ (n:=rs.length) ⟨0,rs,rfl,by omega,f1,f2,f3,f102,f103,f104,.refl ok,k,rfl,fun _ _=>rfl,T.size,fun _=>rfl⟩;rintro m e' h'⟨j,bD,rfl,hj,q1,q2,q3,NX,ag5,ag6,g,k',rh,xP,tg,HF⟩;have cw:=g.ok;unfold pA;by_cases aM:j<rs.length
 .have wj:=wrap_i64 ((j:Int)+1) (by omega) (by omega);obtain⟨r,hr⟩:=ay rs j aM;have DD:bD[j]?=some r:=by rw[xP j (dH _)];exact hr
  have hm:=bU hr;obtain⟨sp,sl⟩:=T.size r hm;have R:=k'.O.os.r j r DD;obtain⟨bB,cs,o,s,ha,hb,_,_,cS,_⟩:=k'.O.A.el DD;have rd:=cS 0 6 (by decide);simp[-ae] at rd;have cV:=k'.O.A.len;have iF:=R.P.len;have tc:=R.L.len;simp at NX;rw[ha,cV,rh] at NX;simp[NX,ag5,ag6,aM,rd,-ae,au,iF];refine az.cut (fun h2=>aa aG h' h2/\∃s,h2.tr.get h'.next=some (.aC (eW.enc r) false 0 s)) ?_ ?_
  .exact⟨(aa.refl cw).var _ _,h'.clock,by simp[aR,iF]⟩
  rintro h2⟨g2,sX,ef⟩;have k2:=k'.aX cw g2;obtain⟨lN,lnb⟩:=k'.lt cw;have nX:¬yf N nb h'.next:=fun e=>by rcases e with e|e<;>omega
  have ln:=g.next;have κX:κ h'.next=0:=by
   have hw:=k'.O.os.new h'.next;rcases uM (κ h'.next) with h|h
   .exact h
   .have:=(hw (by omega)).2;omega
  have nW:¬LL κ N nb h'.next:=fun e=>by rcases e with e|e;exact nX e;exact e κX
  have nWF:¬LL κ N nb F:=fun e=>by rcases e with e|e;exact nF e;exact e κF
  have Qm:∀q∈r.ps,q.2.l<=1048576:=by intro q hq;obtain⟨pk,yp⟩:=ay (Edge.bp (bx rs)) j (by rw[Edge.cR,ck];exact aM);have h1:=T.CY j r pk hr yp q hq;have h2:=T.Hn pk (bU yp);omega
  refine YU g2.ok k2 DD (by omega) ef κX nX rfl Qm (by simp[q3]) (by simp) (by simp[iF]) (by simp) (by simp) ?_;intro e3 h3 qs af7 K3 g3 k3 iO;have a1:=K3.at (t:=1) (by simp;exact q1);have a2:=K3.at (t:=2) (by simp;exact q2);have a3:=K3.at (t:=3) (by simp;exact q3);have a13:ai e3 13=.int .i64 j:=K3.at (t:=13) (by simp);have a14:ai e3 14=.pointer (some ⟨h'.next,0,none⟩):=K3.at (t:=14) (by simp);have apz:=K3.at (t:=102) (by simp;exact NX);have apA:=K3.at (t:=103) (by simp;exact ag5);have apB:=K3.at (t:=104) (by simp;exact ag6);have hr3:(bD.set j {r with ps:=qs})[j]?=some {r with ps:=qs} :=by rw[eu,aY rfl,aY (by omega)]
  have CD:=iO;simp only[p6] at CD;simp at CD;simp[a14,CD];refine YT g3.ok k3 hr3 (by show r.ls.length<=_;omega) (T.al r hm) iO κX nX rfl (by simp[a3]) (by simp[a14]) (by simp) (by simp[tc]) (by simp) ?_;intro e4 h4 ys Yq K4 g4 k4 afQ vS;have b1:=K4.at (t:=1) (by simp;exact a1);have b2:=K4.at (t:=2) (by simp;exact a2);have b3:=K4.at (t:=3) (by simp;exact a3);have b13:=K4.at (t:=13) (by simp;exact a13);have b14:=K4.at (t:=14) (by simp;exact a14);have aer:=K4.at (t:=102) (by simp;exact apz);have apJ:=K4.at (t:=103) (by simp;exact apA);have apK:=K4.at (t:=104) (by simp;exact apB);rw[List.set_set] at k4;have hr4:(bD.set j {r with ps:=qs,ls:=ys})[j]?=some {r with ps:=qs,ls:=ys} :=by rw[eu,aY rfl,aY (by omega)]
  have G4:=(g.trans g2.aX).trans (g3.trans g4);have zt:=(G4).get ok hF nWF;simp;refine acV g4.ok k4 hr4 zt κF nF vS rfl b1 b3 b13 b14 ?_;intro e5 h5 u K5 g5 k5;rw[List.set_set] at k5;have apO:=K5.at (t:=104) apK;have apN:=K5.at (t:=102) aer;simp[apO,wj];refine⟨rs.length-(j+1),by omega,j+1,bD.set j {r with ps:=qs,ls:=ys,on:=u},rfl,aM,by simp[K5.at (t:=1) b1],by simp[K5.at (t:=2) b2],by simp[K5.at (t:=3) b3],by simp[apN,ha,cV,rh],by simp[K5.at (t:=103) apJ],by simp,G4.trans g5,k5,by simp[rh],fun i hi=>?_,fun z hz=>?_,fun φ=>?_⟩
  .rw[eu,bc (by omega)];exact xP i (by omega)
  .rcases Em hz with h|h
   .exact tg z h
   .rw[h];show qs.length<=100000/\ys.length<=100000;rw[af7,Yq];exact⟨sp,sl⟩
  .have:=rE (fun r:XR=>jG φ r.ls) bD j r {r with ps:=qs,ls:=ys,on:=u} DD;have h2:=afQ φ;have h3:=HF φ;unfold gO at h3⊢;dsimp only at this h2;omega
 .have:j=rs.length:=by omega
  subst this;simp[ag5,ag6];exact C _ _ bD (by simp[q1]) (by simp[q2]) (by simp[q3]) g k' rh tg HF
end
def WH(name:ByteArray)(p:Int)(n0 ag:Nat)(κ0:Nat->Nat)(rs:List XR)(h:ab)(v:Value)(h':ab):Prop:=
 aa (fun x=>κ0 x≠0) h h'/\∃(B':SV) (bD:List XR) (κ cap:Nat->Nat) (many:Nat),v=.agg ⟨aj name p many B'⟩/\many<=ag/\(∀x,x<h.next->κ x=κ0 x)/\kW h' n0 ag κ cap B' bD/\(0<bD.length/\bD.length<=72)/\(∀r∈bD,r.ps.length<=100000/\r.ls.length<=100000)/\∀φ,gO φ bD=gO φ rs
theorem ab5(ag:Nat):WI (List.replicate ag (-1)) 0 ag:=by refine⟨by simp,fun v hv=>.inl (List.eq_of_mem_replicate hv),?_⟩;rw[Ek,List.countP_replicate];simp
theorem QM(ok:bl h){name:ByteArray}{p n0 ag:Nat}(qk:n0<=h.next)(O:kW h n0 ag κ0 sH B rs)(T:TF rs)(hp:p<=ag)(Es:ag<1000000):aE FF xX [.agg ⟨aj name p ag B⟩] h (WH name p n0 ag κ0 rs h):=by
 have κnew:∀x,h.next<=x->κ0 x=0:=fun x hx=>by
  have hw:=O.os.new x;rcases uM (κ0 x) with h1|h1
  .exact h1
  .have:=(hw (by omega)).2;omega
 refine aE.of Fy ?_;unfold xq;have n2:¬h.next=h.next+1:=by omega
 have n3:¬h.next+1=h.next:=by omega
 simp[aj,n2,n3];refine aZ.cut (fun h1=>aa aG h h1/\h1.tr.get h.next=some (.aC (aj name p ag B) false 0 0)/\(∃s,h1.tr.get (h.next+1)=some (.aC [.string ⟨⟨[]⟩⟩,.int .i64 0,.int .i64 0,.slice none 0 0] false 0 s))) ?_ ?_
 .exact⟨(((aa.refl ok).new _ _).new _ _).tick,by simp[aj,n2],⟨0,by simp⟩⟩
 rintro h1⟨g1,ta,⟨sR,yV⟩⟩;have lF:=g1.ok.wf _ _ ta;have lR:=g1.ok.wf _ _ yV;refine aZ.call (V:=ael rs h1) (by simpa [aj] using NQ g1.ok (name:=name) (p:=p) (r:=ag) (O.aX ok g1) T.toTF0) ?_;rintro _ h2⟨g2,L,rfl,hL⟩;have jd:=g1.trans g2;have dX:=g2.get g1.ok ta;have Du:=g2.get g1.ok yV;have O2:=O.aX ok jd;simp[dX];refine aZ.call (V:=aei name p ag n0 ag κ0 rs h2) (by simpa [aj] using SL g2.ok (name:=name) (p:=p) (r:=ag) O2 (by have:=jd.next;omega) T.toTF0 hL (fun x hx=>κnew x (by omega))) ?_;rintro _ h3⟨g3,B',bD,κ,cap,rfl,jg,O3,T3,hR3',afP⟩;have ln2:=jd.next;have κ35:∀x,(κ0 x=3\/κ0 x=5)->κ0 x≠0:=fun x h=>by omega
 have qL:=g3.get g2.ok dX (fun e=>κ35 _ e (κnew _ (by omega)));have Ky:=g3.get g2.ok Du (fun e=>κ35 _ e (κnew _ (by omega)));simp[aj] at qL;have l2:=g2.next;have l3:=g3.next;have κF:κ h.next=0:=by rw[jg _ (by omega)];exact κnew _ (by omega)
 have κR:κ (h.next+1)=0:=by rw[jg _ (by omega)];exact κnew _ (by omega)
 have n4:¬h.next=h3.next:=by omega
 have lF3:=g3.ok.wf _ _ qL;have oF3:=g3.ok.bE qL;simp[aj,qL,n4];refine aF.cut (fun h4=>aa (· =h.next) h3 h4/\(∃s,h4.tr.get h.next=some (.aC (aj name p ag B') false 0 s))/\∃s,h4.tr.get h3.next=some (.aC [.int .i64 (-1)] false 0 s)) ?_ ?_
 .have g4:=(aa.refl g3.ok).put (S:=(· =h.next)) (off:=0) (vs:=[Value.string name,Value.int .i64 p,Value.int .i64 ag,Value.slice B'.a B'.l B'.c]) ⟨_,qL⟩ (.inr rfl);exact⟨g4.new _ _,⟨h3.clock,by simp[aj,n4]⟩,⟨0,by simp⟩⟩
 rintro h4⟨g4,⟨sF4,zt⟩,⟨sM,hM4⟩⟩;refine aF.call (V:=fun v h'=>aa aG h4 h'/\∃d s,v=.slice (some ⟨d,0,none⟩) ag ag/\h4.next<=d/\h'.tr.get d=some (.aC (bg.flat (List.replicate ag (-1:Int))) false 0 s)) (by simpa using Hd g4.ok ag Es (x:= -1) hM4) ?_;rintro _ h5⟨g5,d,sd,rfl,hdn,OP⟩;have OL:=g5.get g4.ok zt;have ajX:=OL;simp[aj] at ajX;have l4:=g4.next;have l5:=g5.next;have ld:=g5.ok.wf _ _ OP;have nF5:¬h.next=h5.next:=by omega
 simp[ajX,nF5];refine az.cut (fun h6=>aa aG h5 h6/\∃s,h6.tr.get h5.next=some (.aC [.slice (some ⟨d,0,none⟩) ag ag,.int .i64 0] false 0 s)) ?_ ?_
 .exact⟨(aa.refl g5.ok).new _ _,0,by simp⟩
 rintro h6⟨g6,sN,hN6⟩;have hd6:=g6.get g5.ok OP;have hF6:=g6.get g5.ok OL;have l6:=g6.next;have G46:=g5.trans g6;have G36:aa (· =h.next) h3 h6:=g4.trans G46.aX;have O6:kW h6 n0 ag κ cap B' bD:=O3.grow g3.ok G36 (fun x e=>by rw[e];exact κF);have OM:=G36.get g3.ok Ky (by omega);have κhi:∀x,h3.next<=x->κ x=0:=fun x hx=>by
  have hw:=O3.os.new x;rcases uM (κ x) with h1|h1
  .exact h1
  .have:=(hw (by omega)).2;omega
 have k6:NR h6 n0 ag κ cap B' bD h5.next d:=⟨O6,⟨_,0,sN,sd,hN6,hd6,by omega,ab5 ag⟩,κhi _ (by omega),κhi _ (by omega),Es⟩;have nF:¬yf h5.next d h.next:=fun e=>by rcases e with e|e<;>omega
 have nR:¬yf h5.next d (h.next+1):=fun e=>by rcases e with e|e<;>omega
 refine U1 (v1:=.pointer (some ⟨h.next,0,none⟩)) (v2:=.pointer (some ⟨h.next+1,0,none⟩)) g6.ok k6 (p:=p) hp (by simp) (by simp) (by simp) (by simp) (by simp) ?_;intro e7 h7 q1 q2 q3 g7 k7;have hF7:=g7.get g6.ok hF6 nF;have ajZ:=hF7;simp[aj] at ajZ;have cV:=O3.A.len;simp[q1,ajZ];refine U0 (v1:=.pointer (some ⟨h.next,0,none⟩)) (v2:=.pointer (some ⟨h.next+1,0,none⟩)) g7.ok k7 T3 (by simp[q1]) (by simp[q2]) (by simp[q3]) (by simp) (by simp[cV]) (by simp) ?_;intro e8 h8 r1 r2 r3 g8 k8;have hF8:=g8.get g7.ok hF7 nF;have Uc:=hF8;simp[aj] at Uc;simp[r1,Uc];have l7:=g7.next;have l8:=g8.next;refine QR (v2:=.pointer (some ⟨h.next+1,0,none⟩)) g8.ok k8 (by omega) T3 hF8 κF nF (by simp[r1]) (by simp[r2]) (by simp[r3]) (by simp) (by simp[cV]) (by simp) ?_;intro e9 h9 rs9 s1 s2 s3 g9 k9 hl9 asJ arW;have nFW:¬LL κ h5.next d h.next:=fun e=>by rcases e with e|e;exact nF e;exact e κF
 have nRW:¬LL κ h5.next d (h.next+1):=fun e=>by rcases e with e|e;exact nR e;exact e κR
 have hF9:=g9.get g8.ok hF8 nFW;have hR9:=g9.get g8.ok (g8.get g7.ok (g7.get g6.ok OM nR) nR) nRW;obtain⟨now,many,t1,t2,hN9,hb9,hne9,nm9⟩:=k9.w;have aeY:=hF9;simp[aj] at aeY;simp[s1,s2,s3,aeY,hN9,hR9,n2,n3];have gw:=((aa.refl g9.ok).put (S:=fun x=>x=h.next\/x=h.next+1) (off:=2) (vs:=[Value.int .i64 many]) ⟨_,aeY⟩ (.inr (.inl rfl))).put (b:=h.next+1) (off:=0) (cs:=[Value.string ⟨⟨[]⟩⟩,Value.int .i64 0,Value.int .i64 0,Value.slice none 0 0]) (o:=0) (vs:=[Value.string name,Value.int .i64 p,Value.int .i64 many,Value.slice B'.a B'.l B'.c]) ⟨sR,by simp[hR9,n3]⟩ (.inr (.inr rfl));generalize put (put h9 _ _ _ _ _) _ _ _ _ _=Aj at gw⊢;have lZ:=nm9.lZ;have DK:=T3.DK;have n1:=T3.n1;have agC:∀x,x<h.next->¬yf h5.next d x:=fun x hx e=>by rcases e with e|e<;>omega
 have Gw:aa (fun x=>κ0 x≠0) h h9:=by
  refine((((((jd.aX).trans (g3.bH (fun x _ e=>κ35 x e))).trans' G36 (fun _ _ e=>e) (fun x hx e=>by omega)).trans' g7 (fun _ _ e=>e) (fun x hx e=>(agC x hx e).elim)).trans' g8 (fun _ _ e=>e) (fun x hx e=>(agC x hx e).elim)).trans' g9 (fun _ _ e=>e) (fun x hx e=>?_));rcases e with e|e
  .exact(agC x hx e).elim
  .rw[jg x (by omega)] at e;exact e
 refine⟨Gw.trans' gw (fun _ _ e=>e) (fun x hx e=>by omega),B',rs9,κ,cap,many,by simp[aj],by omega,fun x hx=>jg x (by omega),k9.O.grow g9.ok gw (fun b e=>by rcases e with e|e<;>(rw[e];first|exact κF|exact κR)),⟨by omega,by omega⟩,asJ,fun φ=>(arW φ).trans ((afP φ).2 T.seen)⟩
def ac5(name:ByteArray)(p:Int)(n0 ag:Nat)(κ0:Nat->Nat)(rs:List XR)(h:ab)(v:Value)(h':ab):Prop:=
 aa (fun x=>κ0 x≠0) h h'/\∃(B':SV) (bD:List XR) (κ cap:Nat->Nat) (many:Nat),v=.agg ⟨aj name p many B'⟩/\many<=ag/\(∀x,x<h.next->κ x=κ0 x)/\kW h' n0 ag κ cap B' bD/\(0<bD.length/\bD.length<=72)/\(∀r∈bD,r.ps.length<=100000/\r.ls.length<=100000)/\∀φ,gO φ bD<=gO φ rs/\(Seen rs->gO φ bD=gO φ rs)
theorem VG(ok:bl h){name:ByteArray}{p n0 ag:Nat}(qk:n0<=h.next)(O:kW h n0 ag κ0 sH B rs)(T:TF0 rs)(hp:p<=ag)(Es:ag<1000000):aE FF DP [.agg ⟨aj name p ag B⟩] h (ac5 name p n0 ag κ0 rs h):=by
 have κnew:∀x,h.next<=x->κ0 x=0:=fun x hx=>by
  have hw:=O.os.new x;rcases uM (κ0 x) with h1|h1
  .exact h1
  .have:=(hw (by omega)).2;omega
 refine aE.of Ms ?_;unfold Dd;have n2:¬h.next=h.next+1:=by omega
 have n3:¬h.next+1=h.next:=by omega
 simp[aj,n2,n3];refine aZ.cut (fun h1=>aa aG h h1/\h1.tr.get h.next=some (.aC (aj name p ag B) false 0 0)/\(∃s,h1.tr.get (h.next+1)=some (.aC [.string ⟨⟨[]⟩⟩,.int .i64 0,.int .i64 0,.slice none 0 0] false 0 s))) ?_ ?_
 .exact⟨(((aa.refl ok).new _ _).new _ _).tick,by simp[aj,n2],⟨0,by simp⟩⟩
 rintro h1⟨g1,ta,⟨sR,yV⟩⟩;have lF:=g1.ok.wf _ _ ta;have lR:=g1.ok.wf _ _ yV;refine aZ.call (V:=ael rs h1) (by simpa [aj] using NQ g1.ok (name:=name) (p:=p) (r:=ag) (O.aX ok g1) T) ?_;rintro _ h2⟨g2,L,rfl,hL⟩;have jd:=g1.trans g2;have dX:=g2.get g1.ok ta;have Du:=g2.get g1.ok yV;have O2:=O.aX ok jd;simp[dX];refine aZ.call (V:=aei name p ag n0 ag κ0 rs h2) (by simpa [aj] using SL g2.ok (name:=name) (p:=p) (r:=ag) O2 (by have:=jd.next;omega) T hL (fun x hx=>κnew x (by omega))) ?_;rintro _ h3⟨g3,B3,rs3,κ3,Pz,rfl,BA,O3,T3,_,afP⟩;have ln2:=jd.next;have ln3:=g3.next;have κ35:∀x,(κ0 x=3\/κ0 x=5)->κ0 x≠0:=fun x h=>by omega
 have Ky:=g3.get g2.ok Du (fun e=>κ35 _ e (κnew _ (by omega)));have l2:=g2.next;have κR3:κ3 (h.next+1)=0:=by rw[BA _ (by omega)];exact κnew _ (by omega)
 simp[aj];refine aZ.call (V:=Wx name p ag n0 ag κ3 Pz B3 rs3 h3) (by simpa [aj] using MC g3.ok (name:=name) (p:=p) (rg:=ag) (by omega) O3 T3) ?_;rintro _ h4⟨g4,rfl,rs4,κ4,I9,P4⟩;have ln4:=g4.next;have Ue:=g4.get g3.ok Ky (fun e=>e κR3);have κR4:κ4 (h.next+1)=0:=by rw[I9 _ (by omega)];exact κR3
 simp[aj];refine aZ.call (V:=WH name p n0 ag κ4 rs4 h4) (by simpa [aj] using QM g4.ok (name:=name) (p:=p) (by omega) P4.O P4.tf hp Es) ?_;rintro _ h5⟨g5,B5,rs5,κ5,aet,many,rfl,hm,Gb,O5,Sy,hs5,arV⟩;have HB:=g5.get g4.ok Ue (fun e=>e κR4);simp[aj,HB];have gw:=(aa.refl g5.ok).put (S:=(· =h.next+1)) (off:=0) (vs:=[Value.string name,Value.int .i64 p,Value.int .i64 many,Value.slice B5.a B5.l B5.c]) ⟨_,HB⟩ (.inr rfl);generalize put h5 _ _ _ _ _=h6 at gw⊢;have κR5:κ5 (h.next+1)=0:=by rw[Gb _ (by omega)];exact κR4
 have G:aa (fun x=>κ0 x≠0) h h5:=by
  refine((jd.aX.trans (g3.bH (fun x _ e=>κ35 x e))).trans' g4 (fun _ _ e=>e) (fun x hx e=>?_)).trans' g5 (fun _ _ e=>e) (fun x hx e=>?_)
  .rw[BA x (by omega)] at e;exact e
  .rw[I9 x (by omega),BA x (by omega)] at e;exact e
 refine⟨G.trans' gw (fun _ _ e=>e) (fun x hx e=>by omega),B5,rs5,κ5,aet,many,by simp[aj],hm,fun x hx=>by rw[Gb x (by omega),I9 x (by omega),BA x (by omega)],O5.grow g5.ok gw (fun b e=>by rw[e];exact κR5),Sy,hs5,fun φ=>?_⟩;rw[arV φ,P4.Ex φ];exact afP φ
def aiJ(bs:List GB):Prop:=bs.length<=1000/\∀b∈bs,b.dk.length<=1000000/\b.list.length<=1000000
def LgI(h:ab)(B:SV)(bs:List GB)(F:Nat)(fc:List Value)(m:Nat)(e:Env)(h2:ab):Prop:=
 ∃j k:Nat,m=bs.length-j/\j<=bs.length/\ai e 1=.pointer (some ⟨F,0,none⟩)/\ai e 3=.int .i64 k/\k<=j*2000000/\ai e 7=B.v/\ai e 8=.int .i64 bs.length/\ai e 9=.int .i64 j/\aa aG h h2
theorem QB(ok:bl h){name:ByteArray}{p r:Int}{bs:List GB}(hB:yM h B bs)(C:aiJ bs):aE FF zD [.agg ⟨aj name p r B⟩] h (AS h):=by
 have cV:=SliceR.len hB;have hl:=C.1;refine aE.of HO ?_;unfold zk;simp[aj,cV];refine az.cut (fun h1=>aa aG h h1/\∃s,h1.tr.get h.next=some (.aC (aj name p r B) false 0 s)) ?_ ?_
 .exact⟨(aa.refl ok).new _ _,0,by simp[aj,cV]⟩
 rintro h1⟨g1,sF,ta⟩;refine az.loop (LgI h1 B bs h.next (aj name p r B)) ?_ (n:=bs.length) ⟨0,0,rfl,by omega,by simp,by simp,by omega,by simp[cV],by simp,by simp,.refl g1.ok⟩;rintro m e h2⟨j,k,rfl,hj,q1,q3,hk,q7,q8,q9,g2⟩;have dX:=g2.get g1.ok ta;unfold wZ;by_cases aM:j<bs.length
 .have hb:bs[j]?=some bs[j]:=ff aM;have hm:=Ai aM;generalize bs[j]=b at hb hm;obtain⟨c1,c2⟩:=C.2 b hm;obtain⟨bB,off,cells,dZ,_,_,⟨P,L,T,rfl,sP,sL,sT⟩,oB,cS⟩:=SliceR.later ok hB hb;have rd:=cS h2 (g1.trans g2) 0 6 (by decide);simp[-ae] at rd;have iF:=SliceR.len sP;have tc:=SliceR.len sL;simp at q7;rw[dZ,cV] at q7;have wj:=wrap_i64 ((j:Int)+1) (by omega) (by omega);have w1:=wrap_i64 ((b.dk.length:Int)+b.list.length) (by omega) (by omega);have w2:=wrap_i64 ((k:Int)+((b.dk.length:Int)+b.list.length)) (by omega) (by omega);have gv:aa aG h2 (put (aD h2 [.slice none 0 0,.slice none 0 0,.int .i64 0,.bool false,.int .i64 0,.slice none 0 0] 0) h2.next 0 [.slice none 0 0,.slice none 0 0,.int .i64 0,.bool false,.int .i64 0,.slice none 0 0] [P.v,L.v,.int .i64 b.kind,.bool b.on.1,.int .i64 b.on.2,T.v] 0):=(aa.refl g2.ok).var _ _;simp at gv;simp[q1,q3,q7,q8,q9,aM,rd,iF,tc,wj,w1,w2,-ae,au];rw[iF,tc] at gv;refine⟨bs.length-(j+1),by omega,j+1,k+(b.dk.length+b.list.length),rfl,aM,by simp[q1],by simp,by omega,by simp[q7,dZ,cV],by simp[q8],by simp,g2.trans gv⟩
 .have:j=bs.length:=by omega
  subst this;have MY:=dX;simp[aj] at MY;by_cases a1:(40:Int)<(bs.length:Int)
  .simp[q1,q3,q8,q9,MY,cV,a1];exact⟨g1.trans g2,_,rfl⟩
  .by_cases a2:(300:Int)<(k:Int)
   .simp[q1,q3,q8,q9,MY,cV,a1,a2];exact⟨g1.trans g2,_,rfl⟩
   .simp[q1,q3,q8,q9,MY,cV,a1,a2];exact⟨g1.trans g2,_,rfl⟩
def gS(c:List Value)(g:GG):Prop:=∃I:SV,c=[.string g.name,.int .i64 g.size,I.v]
def aoN(gs:List GG):Prop:=gs.length<=10/\∀g∈gs,1<=g.size/\g.size<=200
def shG(x:GI):Sh:=(x.op,shV x.a,shV x.b)
def MG(φ:Sh->Bool)(xs:List GI):Nat:=(xs.filter fun x=>φ (shG x)).length
def FD(φ:Sh->Bool)(bs:List GB):Nat:=(bs.map fun b=>MG φ b.list).sum
structure Tq(fs:List GF):Prop where
 f:fs.length<=1000
 b:∀f∈fs,f.blocks.length<=1000
 l:∀f∈fs,∀b∈f.blocks,b.list.length<=1000000
theorem Rl{α:Type}{f:α->Nat}{k:Nat} :∀ {l:List α},(∀x∈l,f x<=k)->(l.map f).sum<=l.length*k
 |[],_=>Nat.zero_le _
 |x::l,h=>by have h1:=h x (by simp);have h2:=Rl (l:=l) (fun y hy=>h y (by simp[hy]));simp only[IV,OI,List.length_cons,tW];omega
end Go.Proofs.YtdhnndleffachaaGreatDoor
