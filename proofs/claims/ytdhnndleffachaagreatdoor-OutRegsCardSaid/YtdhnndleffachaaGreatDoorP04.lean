/- Parts of the proof. -/
import Derived.Test.YtdhnndleffachaaGreatDoorP03
set_option linter.all false
namespace Go.Proofs.YtdhnndleffachaaGreatDoor
open Go.AI
variable{A AH B L L' P' T U:SV}{C I4 M R W X a ag b b' bytes i j k lim n n0 n1 pn pv s s0 s4 wc:Nat}{QQ:aO->Env->ab->Prop}{S:Nat->Prop}{ah:List (List Int)}{ats ps:List Int}{bs:List GB}{cap iN κ κ':Nat->Nat}{e:Env}{f:GF}{h h' h0 h1 hy:ab}{kind t:Int}{name:ByteArray}{on:Bool×Int}{qs:List (Int×SV)}{u:GU}{v y:Value}{ws:List SV}{x:GI}{y_:List GP}{z:List Value}{α β:Type}
structure SC(h0 h:ab)(C W n wc:Nat)(name:ByteArray)(p r:Int)(B U:SV):Prop where
 g:aa aG h0 h
 n0:h0.next<=W
 ne:C≠W
 hC:∃s,h.tr.get C=some (.aC (S9 name p r B U ⟨some ⟨W,0,none⟩,n,wc⟩) false 0 s)
 hW:∃ws s,h.tr.get W=some (.aC (uK.flat ws) false 0 s)/\ws.length=n
theorem SC.aX{p r:Int}(w:SC h0 h C W n wc name p r B U)(g:aa aG h h'):SC h0 h' C W n wc name p r B U:=by obtain⟨s1,h1⟩:=w.hC;obtain⟨ws,s2,h2,hl⟩:=w.hW;exact⟨w.g.trans g,w.n0,w.ne,⟨s1,g.get w.g.ok h1⟩,ws,s2,g.get w.g.ok h2,hl⟩
theorem SC.wr{p r:Int}(w:SC h0 h C W n wc name p r B U)(g:aa (· =W) h h')(hW:∃ws s,h'.tr.get W=some (.aC (uK.flat ws) false 0 s)/\ws.length=n):SC h0 h' C W n wc name p r B U:=by obtain⟨s1,h1⟩:=w.hC;exact⟨w.g.trans' g (fun _ _ h=>h) (fun x hx e=>by have:=w.n0;omega),w.n0,w.ne,⟨s1,g.get w.g.ok h1 w.ne⟩,hW⟩
section
variable{h0:ab}{C W n wc:Nat}{name:ByteArray}{p r:Int}{B U:SV}
def WrS(h0 h:ab)(C W n wc:Nat)(name:ByteArray)(p r:Int)(B U:SV)(v:Value)(h':ab):Prop:=(∃t:Bool,v=.bool t)/\SC h0 h' C W n wc name p r B U/\aa (· =W) h h'
theorem Hw(w:SC h0 h C W n wc name p r B U){k:Int}(hk:0<=k/\k<n)(i j:Int):aE FF lD [.pointer (some ⟨C,0,none⟩),.int .i64 k,.int .i64 i,.int .i64 j] h (WrS h0 h C W n wc name p r B U):=by
 obtain⟨s1,h1⟩:=w.hC;obtain⟨ws,s2,h2,hl⟩:=w.hW;obtain⟨k,rfl⟩:∃k':Nat,k=k':=⟨k.toNat,by omega⟩;refine(RI w.g.ok h1 h2 hl (k:=k) (by omega) i j).mono ?_;rintro v h'⟨⟨t,e⟩,g,hw⟩;exact⟨⟨t,e⟩,w.wr g hw,g⟩
def apy(h0 h:ab)(C W n wc:Nat)(name:ByteArray)(p r:Int)(B U:SV)(pn:Nat)(m:Nat)(e':Env)(h':ab):Prop:=
 ∃(j:Nat) (t:Bool),m=pn-j/\j<=pn/\ai e' 0=.pointer (some ⟨C,0,none⟩)/\ai e' 15=.int .i64 pn/\ai e' 16=.int .i64 j/\ai e' 3=.bool t/\SC h0 h' C W n wc name p r B U/\aa (· =W) h h'
theorem Ir(w:SC h0 h C W n wc name p r B U)(hp:pn<=n)(hn:n<1000000)(f0:ai e 0=.pointer (some ⟨C,0,none⟩))(f15:ai e 15=.int .i64 pn)(f16:ai e 16=.int .i64 0)(f3:∃t:Bool,ai e 3=.bool t)(K:∀e' h' t,SC h0 h' C W n wc name p r B U->aa (· =W) h h'->ai e' 0=.pointer (some ⟨C,0,none⟩)->ai e' 3=.bool t->QQ (.exit 0) e' h'):az FF (.loop jv) e h QQ:=by
 obtain⟨t0,f3⟩:=f3;refine az.loop (apy h0 h C W n wc name p r B U pn) ?_ (n:=pn) ⟨0,t0,rfl,by omega,f0,f15,f16,f3,w,.refl w.g.ok⟩;rintro m e' h'⟨j,t,rfl,hj,q0,yE,wX,q3,w',gw⟩;unfold jv;by_cases aM:j<pn
 .have wj:=wrap_i64 ((j:Int)+1) (by omega) (by omega);simp[q0,yE,wX,aM];refine aF.call (V:=WrS h0 h' C W n wc name p r B U) (by simpa using Hw w' (k:=j) (by omega) 0 (-1)) ?_;rintro _ h2⟨⟨t2,rfl⟩,w2,g2⟩;cases t2 with
  |false=>
   simp[wX,wj,q3];exact⟨pn-(j+1),by omega,j+1,false,rfl,by omega,by simp[q0],by simp[yE],by simp,by simp,w2,gw.trans g2⟩
  |true=>
   simp[wX,wj,q3];exact⟨pn-(j+1),by omega,j+1,t,rfl,by omega,by simp[q0],by simp[yE],by simp,by simp,w2,gw.trans g2⟩
 .have:j=pn:=by omega
  subst this;simp[yE,wX];exact K _ _ t w' gw (by simp[q0]) (by simp[q3])
def apw(h0 h:ab)(C W n wc:Nat)(name:ByteArray)(p r:Int)(B U:SV)(k:Nat)(e:Env)(m:Nat)(e':Env)(h':ab):Prop:=
 ∃(j:Nat) (t:Bool),m=k-j/\j<=k/\ax [41,42,43,8,44,45,46,47,48,49,50,51,3,52,40] e e'/\ai e' 40=.int .i64 j/\ai e' 3=.bool t/\SC h0 h' C W n wc name p r B U/\aa (· =W) h h'
theorem OD(gL:bl h0)(w:SC h0 h C W n wc name p r B U){P:SV}{ps:List GP}(hP:SliceR (pR h0) 2 h0 P.v ps)(iT:∀q∈ps,0<=q.dst/\q.dst<n)(hl:ps.length<1000000)(f0:ai e 0=.pointer (some ⟨C,0,none⟩))(f5:ai e 5=.int .i64 i)(f38:ai e 38=P.v)(f39:ai e 39=.int .i64 ps.length)(f40:ai e 40=.int .i64 0)(f3:∃t:Bool,ai e 3=.bool t)(K:∀e' h' t,SC h0 h' C W n wc name p r B U->aa (· =W) h h'->ax [41,42,43,8,44,45,46,47,48,49,50,51,3,52,40] e e'->ai e' 3=.bool t->QQ (.exit 4) e' h'):az FF (.loop ju) e h QQ:=by
 obtain⟨t0,f3⟩:=f3;have iF:=SliceR.len hP;refine az.loop (apw h0 h C W n wc name p r B U ps.length e) ?_ (n:=ps.length) ⟨0,t0,rfl,by omega,ax.refl _ _,f40,f3,w,.refl w.g.ok⟩;rintro m e' h'⟨j,t,rfl,hj,Kp,N0,q3,w',gw⟩;have q0:=Kp.at f0;have q5:=Kp.at f5;have LY:=Kp.at f38;have Ld:=Kp.at f39;unfold ju;by_cases aM:j<ps.length
 .have wj:=wrap_i64 ((j:Int)+1) (by omega) (by omega);have hx:ps[j]?=some ps[j]:=ff aM;have hm:=Ai aM;generalize ps[j]=q at hx hm;obtain⟨bb,off,c,oG,_,_,⟨A,rfl,sA⟩,_,cS⟩:=SliceR.later gL hP hx;have r0:=cS h' w'.g 0 2 (by decide);simp[-ae] at r0;simp at LY;rw[oG,iF] at LY;simp[q0,q5,LY,Ld,N0,aM,r0,-ae,au];refine aF.cut (fun h1=>aa aG h' h1) ((aa.refl w'.g.ok).var _ _) ?_;intro h1 g1;refine aF.call (V:=WrS h0 h1 C W n wc name p r B U) (by simpa using Hw (w'.aX g1) (iT q hm) i (-1)) ?_;rintro _ h2⟨⟨t2,rfl⟩,w2,g2⟩;cases t2 with
  |false=>
   simp[N0,wj,q3];refine⟨ps.length-(j+1),by omega,j+1,false,rfl,by omega,?_,by simp,by simp,w2,(gw.trans g1.aX).trans g2⟩
   repeat (refine ax.set ?_)
   exact Kp
  |true=>
   simp[N0,wj,q3];refine⟨ps.length-(j+1),by omega,j+1,t,rfl,by omega,?_,by simp,by simp,w2,(gw.trans g1.aX).trans g2⟩
   repeat (refine ax.set ?_)
   exact Kp
 .have:j=ps.length:=by omega
  subst this;simp[Ld,N0];exact K _ _ t w' gw (Kp.set) (by simp[q3])
def apv(h0 h:ab)(C W n wc:Nat)(name:ByteArray)(p r:Int)(B U:SV)(k:Nat)(e:Env)(m:Nat)(e':Env)(h':ab):Prop:=
 ∃(j:Nat) (t:Bool),m=k-j/\j<=k/\ax [57,58,59,60,10,9,61,62,63,64,65,66,67,68,69,70,71,72,73,74,3,75,56] e e'/\ai e' 56=.int .i64 j/\ai e' 3=.bool t/\SC h0 h' C W n wc name p r B U/\aa (· =W) h h'
theorem OC(gL:bl h0)(w:SC h0 h C W n wc name p r B U){xs:List GI}(hL:SliceR (iR h0) 8 h0 L.v xs)(Ew:∀x∈xs,x.dst<n)(hl:xs.length<1000000)(f0:ai e 0=.pointer (some ⟨C,0,none⟩))(f5:ai e 5=.int .i64 i)(f54:ai e 54=L.v)(f55:ai e 55=.int .i64 xs.length)(f56:ai e 56=.int .i64 0)(f3:∃t:Bool,ai e 3=.bool t)(K:∀e' h' t,SC h0 h' C W n wc name p r B U->aa (· =W) h h'->ax [57,58,59,60,10,9,61,62,63,64,65,66,67,68,69,70,71,72,73,74,3,75,56] e e'->ai e' 3=.bool t->QQ (.exit 6) e' h'):az FF (.loop jt) e h QQ:=by
 obtain⟨t0,f3⟩:=f3;have tc:=SliceR.len hL;refine az.loop (apv h0 h C W n wc name p r B U xs.length e) ?_ (n:=xs.length) ⟨0,t0,rfl,by omega,ax.refl _ _,f56,f3,w,.refl w.g.ok⟩;rintro m e' h'⟨j,t,rfl,hj,Kp,q56,q3,w',gw⟩;have q0:=Kp.at f0;have q5:=Kp.at f5;have OU:=Kp.at f54;have OV:=Kp.at f55;unfold jt;by_cases aM:j<xs.length
 .have wj:=wrap_i64 ((j:Int)+1) (by omega) (by omega);have hx:xs[j]?=some xs[j]:=ff aM;have hm:=Ai aM;generalize xs[j]=x at hx hm;obtain⟨bb,off,c,hLa,_,_,⟨A,rfl,sA⟩,_,cS⟩:=SliceR.later gL hL hx;have r0:=cS h' w'.g 0 8 (by decide);simp[aK,-ae] at r0;simp at OU;rw[hLa,tc] at OU;have gv:aa aG h' (put (aD h' [.int .i64 0,.int .i64 0,.bool false,.int .i64 0,.bool false,.int .i64 0,.int .i64 0,.slice none 0 0] 0) h'.next 0 [.int .i64 0,.int .i64 0,.bool false,.int .i64 0,.bool false,.int .i64 0,.int .i64 0,.slice none 0 0] [.int .i64 x.op,.int .i64 x.dst,.bool x.a.1,.int .i64 x.a.2,.bool x.b.1,.int .i64 x.b.2,.int .i64 x.fn,.slice A.a A.l A.c] 0):=(aa.refl w'.g.ok).var _ _;by_cases hd:x.dst<0
  .simp[q0,q5,OU,OV,q56,aM,r0,-ae,au,hd,wj,q3];refine⟨xs.length-(j+1),by omega,j+1,t,rfl,by omega,?_,by simp,by simp,w'.aX gv,gw.trans gv.aX⟩
   repeat (refine ax.set ?_)
   exact Kp
  .simp[q0,q5,OU,OV,q56,aM,r0,-ae,au,hd];refine aF.cut (fun h1=>aa aG h' h1) gv ?_;intro h1 g1;refine aF.call (V:=WrS h0 h1 C W n wc name p r B U) (by simpa using Hw (w'.aX g1) ⟨by omega,Ew x hm⟩ i j) ?_;rintro _ h2⟨⟨t2,rfl⟩,w2,g2⟩;cases t2 with
   |false=>
    simp[q56,wj,q3];refine⟨xs.length-(j+1),by omega,j+1,false,rfl,by omega,?_,by simp,by simp,w2,(gw.trans g1.aX).trans g2⟩
    repeat (refine ax.set ?_)
    exact Kp
   |true=>
    simp[q56,wj,q3];refine⟨xs.length-(j+1),by omega,j+1,t,rfl,by omega,?_,by simp,by simp,w2,(gw.trans g1.aX).trans g2⟩
    repeat (refine ax.set ?_)
    exact Kp
 .have:j=xs.length:=by omega
  subst this;simp[OV,q56];exact K _ _ t w' gw (Kp.set) (by simp[q3])
def apx(h0 h:ab)(C W n wc:Nat)(name:ByteArray)(p r:Int)(B U:SV)(k:Nat)(m:Nat)(e':Env)(h':ab):Prop:=
 ∃(j:Nat) (t:Bool),m=k-j/\j<=k/\ai e' 0=.pointer (some ⟨C,0,none⟩)/\ai e' 30=B.v/\ai e' 31=.int .i64 k/\ai e' 32=.int .i64 j/\ai e' 3=.bool t/\SC h0 h' C W n wc name p r B U/\aa (· =W) h h'
def ai8(h0 h:ab)(C W n wc:Nat)(name:ByteArray)(p r:Int)(B U:SV)(v:Value)(h':ab):Prop:=(∃t:Bool,v=.bool t)/\SC h0 h' C W n wc name p r B U/\aa (· =W) h h'
structure O8(n:Nat)(bs:List GB):Prop where
 len:bs.length<1000000
 ph:∀b∈bs,b.dk.length<1000000/\∀q∈b.dk,0<=q.dst/\q.dst<n
 li:∀b∈bs,b.list.length<1000000/\∀x∈b.list,x.dst<n
theorem OB(gL:bl h0)(hB:yM h0 B bs)(D:O8 n bs)(w:SC h0 h C W n wc name p r B U)(Ql:p=pn)(hp:pn<=n)(hn:n<1000000):aE FF p_ [.pointer (some ⟨C,0,none⟩)] h (ai8 h0 h C W n wc name p r B U):=by
 have cV:=SliceR.len hB;have ma:=D.len;obtain⟨s1,hC⟩:=w.hC;simp[S9] at hC;refine aE.of xA ?_;unfold pW;simp[hC];refine Ir w hp hn (by simp) (by simp[Ql]) (by simp) ⟨true,by simp⟩ ?_;intro e1 h1 t1 w1 gw1 q0 q3;obtain⟨s2,MX⟩:=w1.hC;simp[S9] at MX;simp[q0,MX];refine az.loop (apx h0 h C W n wc name p r B U bs.length) ?_ (n:=bs.length) ⟨0,t1,rfl,by omega,by simp[q0],by simp,by simp[cV],by simp,by simp[q3],w1,gw1⟩;rintro m e' h'⟨j,t,rfl,hj,q0,DT,Q6,Q7,q3,w',gw⟩;unfold n7;by_cases aM:j<bs.length
 .have wj:=wrap_i64 ((j:Int)+1) (by omega) (by omega);have hx:bs[j]?=some bs[j]:=ff aM;have hm:=Ai aM;generalize bs[j]=x at hx hm;obtain⟨bb,off,c,dZ,_,_,⟨P,L,T,rfl,sP,sL,sT⟩,_,cS⟩:=SliceR.later gL hB hx;have r0:=cS h' w'.g 0 6 (by decide);simp[-ae] at r0;simp at DT;rw[dZ,cV] at DT;have iF:=SliceR.len sP;have tc:=SliceR.len sL;simp[q0,DT,Q6,Q7,aM,r0,-ae,au];refine az.cut (fun h1=>aa aG h' h1/\∃s,h1.tr.get h'.next=some (.aC [P.v,L.v,.int .i64 x.kind,.bool x.on.1,.int .i64 x.on.2,T.v] false 0 s)) ⟨(aa.refl w'.g.ok).var _ _,_,aA _ _ _ _ _ _⟩ ?_;rintro h2⟨g2,s3,hX⟩;have lW:W<h'.next:=by obtain⟨_,_,hW,_⟩:=w'.hW;exact w'.g.ok.wf _ _ hW
  refine OD gL (w'.aX g2) sP (D.ph x hm).2 (D.ph x hm).1 (i:=j) (by simp[q0]) (by simp) (by simp) (by simp[iF]) (by simp) ⟨t,by simp[q3]⟩ ?_;intro e3 h3 t3 w3 g3 K3 k3;have iO:=g3.get g2.ok hX (by omega);simp at iO;have k6:ai e3 6=.pointer (some ⟨h'.next,0,none⟩):=K3.at (t:=6) (by simp);have k0:=K3.at (t:=0) (by simp;exact q0);have k5:ai e3 5=.int .i64 j:=K3.at (t:=5) (by simp);have k30:=K3.at (t:=30) (by simp;exact DT);have k31:=K3.at (t:=31) (by simp;exact Q6);have k32:=K3.at (t:=32) (by simp;exact Q7);simp[k6,iO];refine OC gL w3 sL (D.li x hm).2 (D.li x hm).1 (i:=j) (by simp[k0]) (by simp[k5]) (by simp) (by simp[tc]) (by simp) ⟨t3,by simp[k3]⟩ ?_;intro e4 h4 t4 w4 g4 K4 k43;have k40:=K4.at (t:=0) (by simp;exact k0);have atg:=K4.at (t:=30) (by simp;exact k30);have ath:=K4.at (t:=31) (by simp;exact k31);have ati:=K4.at (t:=32) (by simp;exact k32);simp[ati,wj];exact⟨bs.length-(j+1),by omega,j+1,t4,rfl,by omega,by simp[k40],by simp[atg,dZ,cV],by simp[ath],by simp,by simp[k43],w4,((gw.trans g2.aX).trans g3).trans g4⟩
 .have:j=bs.length:=by omega
  subst this;simp[Q6,Q7,q3];exact⟨⟨_,rfl⟩,w',gw⟩
end
structure UF(h0 h1:ab)(C W n wc d nb Pb R:Nat)(name:ByteArray)(p r:Int)(B:SV):Prop where
 g:aa aG h0 h1
 hC:∃s,h1.tr.get C=some (.aC (S9 name p r B ⟨some ⟨d,0,none⟩,nb,nb⟩ ⟨some ⟨W,0,none⟩,n,wc⟩) false 0 s)
 hW:∃ws s,h1.tr.get W=some (.aC (uK.flat ws) false 0 s)/\ws.length=n
 hd:∃us s,h1.tr.get d=some (.aC (bg.flat us) false 0 s)/\Tree.Tw us nb
 hP:∃s,h1.tr.get Pb=some (.aC [.pointer (some ⟨C,0,none⟩)] false 0 s)
 hR:∃s,h1.tr.get R=some (.aC [.bool false] false 0 s)
 nR:h0.next<=R
 nb:nb<1000000
 n:n<1000000
theorem UF.aX{h0 h1 h2:ab}{C W n wc d nb Pb R:Nat}{p r:Int}(w:UF h0 h1 C W n wc d nb Pb R name p r B)(g:aa aG h1 h2):UF h0 h2 C W n wc d nb Pb R name p r B:=by obtain⟨s1,q1⟩:=w.hC;obtain⟨ws,s2,q2,e2⟩:=w.hW;obtain⟨us,s3,q3,e3⟩:=w.hd;obtain⟨s4,q4⟩:=w.hP;obtain⟨s5,q5⟩:=w.hR;have ok:=w.g.ok;exact⟨w.g.trans g,⟨s1,g.get ok q1⟩,⟨ws,s2,g.get ok q2,e2⟩,⟨us,s3,g.get ok q3,e3⟩,⟨s4,g.get ok q4⟩,⟨s5,g.get ok q5⟩,w.nR,w.nb,w.n⟩
section
variable{h0:ab}{C W n wc d nb Pb R:Nat}{name:ByteArray}{p r:Int}{B:SV}
def h_(n:Nat)(v:Bool×Int):Prop:=v.1=true->0<=v.2/\v.2<n
theorem Gn(w:UF h0 h C W n wc d nb Pb R name p r B){v:Bool×Int}(hv:h_ n v)(hi:i<nb)(j:Int):aE FF lz [.pointer (some ⟨C,0,none⟩),.agg ⟨[.bool v.1,.int .i64 v.2]⟩,.int .i64 i,.int .i64 j] h (AS h):=by
 obtain⟨s1,q1⟩:=w.hC;obtain⟨ws,s2,q2,e2⟩:=w.hW;obtain⟨us,s3,q3,e3⟩:=w.hd;exact QA w.g.ok q1 q2 e2 q3 e3 w.nb hv hi j
def WM(h0:ab)(R:Nat)(e':Env)(h':ab):Prop:=aa aG h0 h'/\(∃t s,h'.tr.get R=some (.aC [.bool t] false 0 s))/\ai e' 2=.pointer (some ⟨R,0,none⟩)
def Pp:ak:=.ops [⟨(some 13),none,(.alloc yK)⟩,⟨none,none,(.store 2 (.tmp 13) (.tmp 79))⟩]
def Fu:ak:=(P_ 9 (G_ [l_ 80 1,L_ 81 2 13,l_ 82 4,l_ 83 11,F_ 84 150 [t_ 80,t_ 81,t_ 82,t_ 83],o_ 85 (.un .not (t_ 84))] (I_ 85 (G_ [u_ (.store 1 (t_ 2) (b_ false))] .ret) .skip)))
def ZU(h0:ab)(R:Nat)(h':ab):Prop:=aa aG h0 h'/\∃t s,h'.tr.get R=some (.aC [.bool t] false 0 s)
theorem yn(ok:bl h)(e:Env)(ps:List Nat)(asg body:ak):aa aG h (h.new (.loop e ps asg body .ready))/\(h.new (.loop e ps asg body .ready)).tr.get h.next=some (.loop e ps asg body .ready):=by
 refine⟨⟨Nat.le_succ _,dH _,fun b hb _=>FU _ hb,⟨fun b ob hb=>?_,fun b cs ro op s hb=>?_⟩⟩,by simp[ab.new,Tr.aW]⟩
 .simp only[ab.new,Tr.aW] at hb⊢;by_cases e:b=h.next
  .omega
  .rw[bc e] at hb;exact Nat.lt_succ_of_lt (ok.wf b ob hb)
 .simp only[ab.new,Tr.aW] at hb⊢;by_cases e:b=h.next
  .rw[aY e] at hb;cases hb
  .rw[bc e] at hb;exact ok.st b cs ro op s hb
theorem VM{hA:ab}(gL:bl h0)(F:UF h0 hA C W n wc d nb Pb R name p r B){X I4 J11 i j s4 s5:Nat}(hX:∃s,hA.tr.get X=some (.aC (cz x A) false 0 s))(sA:SliceR vR 2 h0 A.v x.args)(KA:x.args.length<2000000)(hv:∀v∈gm x,h_ n v)(hI:hA.tr.get I4=some (.aC [.int .i64 i] false 0 s4))(hJ:hA.tr.get J11=some (.aC [.int .i64 j] false 0 s5))(hi:i<nb)(f1:ai e 1=.pointer (some ⟨Pb,0,none⟩))(f2:ai e 2=.pointer (some ⟨R,0,none⟩))(f4:ai e 4=.pointer (some ⟨I4,0,none⟩))(f11:ai e 11=.pointer (some ⟨J11,0,none⟩))(f78:ai e 78=.func (.func iG) #[] #[.pointer (some ⟨X,0,none⟩)])(ret:∀h',WM h0 R e h'->QQ .ret e h')(norm:∀h',aa aG hA h'->QQ .normal e h'):az FF (.ET (.tmp 78) [79] Pp Fu) e hA QQ:=by
 have lL:=F.g.ok;obtain⟨sX,hX⟩:=hX;obtain⟨g0,KG⟩:=yn lL e [79] Pp Fu;have qk:(hA.new (.loop e [79] Pp Fu .ready)).next=hA.next+1:=rfl
 refine az.ET (first:= #[]) (caps:= #[.pointer (some ⟨X,0,none⟩)]) (by simpa using f78) ?_;generalize hA.new (.loop e [79] Pp Fu .ready)=hL at*;have lX:=(lL.bE hX).lt;obtain⟨sR,hR⟩:=F.hR;have lR:=(lL.bE hR).lt;have H:=Hs (h:=hL) gL sA KA (X:=X) (y:=.func (.yield hA.next) #[] #[]) (fun _ _ h2=>aa aG hA h2/\h2.tr.get hA.next=some (.loop e [79] Pp Fu .ready)) (fun b=>b=R\/b=hA.next) (fun h'=>h'.tr.get hA.next=some (.loop e [79] Pp Fu (.done none))/\ZU h0 R h')
  (fun _ _ h2 hh=>⟨F.g.trans hh.1,sX,hh.1.get lL hX⟩) (fun _ _ h2 h3 hh g=>⟨hh.1.trans g,g.get hh.1.ok hh.2⟩) (by rintro b (rfl|rfl)<;>omega) ?_ (F.g.trans g0) ⟨sX,g0.get lL hX⟩ (fun h1 g=>⟨g0.trans g,g.get g0.ok KG⟩)
 .refine aE.mono (by simpa using H) ?_;rintro v h' (⟨g,hl⟩|⟨hl,hz1,DF⟩)
  .unfold rZ;rw[hl];refine norm _ (g.trans' (kq g.ok hA.next) (fun _ _ h=>h) (fun x hx e=>by omega))
  .unfold rZ;rw[hl];refine ret _ ⟨hz1.trans' (kq hz1.ok hA.next) (fun _ _ h=>h) (fun x hx e=>by have:=F.g.next;omega),?_,f2⟩;obtain⟨t,s,DF⟩:=DF;exact⟨t,s,(kq hz1.ok hA.next).get hz1.ok DF (by omega)⟩
 .rintro Bq k v h2 hk hB1 P5⟨g2,uO⟩;have vB:=hv v (bU hk);refine(Hg (S:=(· =R)) (K:=fun h'=>aa aG hA h') (Z:=ZU h0 R) g2.ok (by omega) uO ?_ ?_ ?_).mono ?_
  .unfold Pp;simp;have gv:aa aG h2 (put (aD h2 [.bool false,.int .i64 0] 0) h2.next 0 [.bool false,.int .i64 0] [.bool v.1,.int .i64 v.2] 0):=(aa.refl g2.ok).var _ _;have hV:(put (aD h2 [.bool false,.int .i64 0] 0) h2.next 0 [.bool false,.int .i64 0] [.bool v.1,.int .i64 v.2] 0).tr.get h2.next=some (.aC [.bool v.1,.int .i64 v.2] false 0 h2.clock):=by simp
   generalize put (aD h2 [.bool false,.int .i64 0] 0) h2.next 0 [.bool false,.int .i64 0] [.bool v.1,.int .i64 v.2] 0=h3 at*;refine⟨gv,fun h4 g4=>?_⟩;have t3:aa aG hA h4:=(g2.trans gv).trans' g4 (fun _ _ h=>h) (fun x hx e=>by omega);have F4:=F.aX t3;obtain⟨sP,hP4⟩:=F4.hP;obtain⟨sR4,Ue⟩:=F4.hR;have hI4:=t3.get lL hI;have hJ4:=t3.get lL hJ;have l2:=g2.next;have l3:hA.next<h2.next:=g2.ok.wf _ _ uO;have M4:=g4.get gv.ok hV (by omega);unfold Fu;simp[f1,f2,f4,f11,hP4,hI4,hJ4,M4];refine aF.call (V:=AS h4) (by simpa using Gn F4 vB hi j) ?_;rintro _ h5⟨g5,t,rfl⟩;cases t with
   |true=>
    simp;exact⟨g5.aX,t3.trans g5⟩
   |false=>
    have HB:=g5.get t3.ok Ue;simp[f2,HB];exact⟨g5.aX.trans (aJ g5.ok HB),(F4.g.trans g5).put ⟨_,HB⟩ (.inl F.nR),false,h5.clock,by simp⟩
  .intro h4 h5 k4 _ g;exact k4.trans' g (fun _ _ h=>h) (fun x hx e=>by omega)
  .rintro h4 h5⟨z1,t,s,z2⟩ _ g;exact⟨z1.trans' g (fun _ _ h=>h) (fun x hx e=>by have:=F.g.next;omega),t,s,g.get z1.ok z2 (by omega)⟩
  .rintro r h5⟨g5,⟨rfl,Sy,k5⟩|⟨rfl,Sy,z5⟩⟩
   .exact⟨g5.bH (fun _ _ h=>.inl h),.inl ⟨rfl,k5,Sy⟩⟩
   .exact⟨g5.bH (fun _ _ h=>.inl h),.inr ⟨rfl,Sy,z5⟩⟩
end
section
variable{h0:ab}{C W n wc d nb Pb R:Nat}{name:ByteArray}{p r:Int}{B:SV}
def aps(h:ab)(k:Nat)(e:Env)(m:Nat)(e':Env)(h':ab):Prop:=
 ∃j:Nat,m=k-j/\j<=k/\ax [8,9,10,40,41,42,43,44,45,46,47,48,49,50,51,52,53,54,55,56,57,58,59,60,61,62,63,64,65,66,67] e e'/\ai e' 40=.int .i64 j/\aa aG h h'
theorem Z7(gL:bl h0)(F:UF h0 h C W n wc d nb Pb R name p r B)(hB:yM h0 B bs)(mc:bs.length=nb)(okx:bl hy)(gx:aa aG hy h)(hAH:SliceR (lsR hy) 1 hy AH.v ah)(rw:Cq nb ah){row:List (Bool×Int)}(sA:SliceR vR 2 h0 A.v row)(hv:∀v∈row,h_ n v)(rh:row.length<1000000)(iT:ah[i]?=some ps)(xh:row.length=ps.length)(hI:h.tr.get I4=some (.aC [.int .i64 i] false 0 s4))(f1:ai e 1=.pointer (some ⟨Pb,0,none⟩))(f2:ai e 2=.pointer (some ⟨R,0,none⟩))(f3:ai e 3=AH.v)(f4:ai e 4=.pointer (some ⟨I4,0,none⟩))(f38:ai e 38=A.v)(f39:ai e 39=.int .i64 row.length)(f40:ai e 40=.int .i64 0)(ret:∀e' h',WM h0 R e' h'->QQ .ret e' h')(K:∀e' h',aa aG h h'->ax [8,9,10,40,41,42,43,44,45,46,47,48,49,50,51,52,53,54,55,56,57,58,59,60,61,62,63,64,65,66,67] e e'->QQ (.exit 4) e' h'):az FF (.loop kH) e h QQ:=by
 have Cm:=SliceR.len sA;have aqh:=SliceR.len hAH;have cV:=SliceR.len hB;have CV:=F.g.ok;have arG:i<nb:=by have:=(bK.mp iT).1;have:=rw.len;omega
 refine az.loop (aps h row.length e) ?_ (n:=row.length) ⟨0,rfl,by omega,ax.refl _ _,f40,.refl CV⟩;rintro m e' h'⟨j,rfl,hj,Kp,N0,g⟩;have F':=F.aX g;have q1:=Kp.at f1;have q2:=Kp.at f2;have q3:=Kp.at f3;have q4:=Kp.at f4;have LY:=Kp.at f38;have Ld:=Kp.at f39;unfold kH;by_cases aM:j<row.length
 .have wj:=wrap_i64 ((j:Int)+1) (by omega) (by omega);have hx:row[j]?=some row[j]:=ff aM;have hm:=Ai aM;generalize row[j]=v at hx hm;obtain⟨b1,U3,c1,T_,_,_,rfl,_,CK⟩:=SliceR.later gL sA hx;have r1:=CK h' F'.g 0 2 (by decide);obtain⟨b2,ab8,c2,aqg,_,_,⟨S,rfl,sS⟩,o2,Er⟩:=SliceR.later okx hAH iT;have gx':=gx.trans g;have r2:∀h2,aa aG hy h2->aV h2 b2 (ab8+i) 1=some [.slice S.a S.l S.c]:=fun h2 g2=>by have:=Er h2 g2 0 1 (by decide);simpa [-ae] using this
  have hSl:=SliceR.len sS;have hpx:ps[j]?=some ps[j]:=ff (by omega);have LU:=Ai (l:=ps) (n:=j) (by omega);generalize ps[j]'(by omega)=a at hpx LU;obtain⟨ha0,CE⟩:=(rw.row i ps iT).2 a LU;obtain⟨a,rfl⟩:∃a':Nat,a=a':=⟨a.toNat,by omega⟩;have aku:a<nb:=by omega
  obtain⟨b3,atE,c3,hSa,_,_,rfl,o3,Yd⟩:=SliceR.later okx sS hpx;have r3:∀h2,aa aG hy h2->aV h2 b3 (atE+j) 1=some [.int .i64 a]:=fun h2 g2=>by have:=Yd h2 g2 0 1 (by decide);simpa [-ae] using this
  obtain⟨xa,SG⟩:=ay bs a;obtain⟨b4,atF,c4,dZ,_,_,⟨P4,L4,T4,rfl,sP4,sL4,sT4⟩,o4,hrd4⟩:=SliceR.later gL hB SG;have r4:∀h2,aa aG h0 h2->aV h2 b4 (atF+a*6+1) 1=some [.slice L4.a L4.l L4.c]:=fun h2 g2=>by have:=hrd4 h2 g2 1 1 (by decide);simpa [-ae] using this
  simp[-ae] at r1;simp at LY q3;rw[T_,Cm] at LY;rw[aqg,aqh] at q3;have fu:i<ah.length:=by rw[rw.len];exact arG
  have hI':=g.get CV hI;have oI:=F'.g.ok.bE hI';obtain⟨sP,Ud⟩:=F'.hP;obtain⟨sC,H0⟩:=F'.hC;have qZ:=H0;simp[S9] at qZ;have oP:=F'.g.ok.bE Ud;have oC:=F'.g.ok.bE H0;have ob2:=gx'.bE o2;have ob3:=gx'.bE o3;have ob4:=F'.g.bE o4;have r2':=r2 h' gx';have r3':=r3 h' gx';have r4':=r4 h' F'.g;have hjp:j<ps.length:=by omega
  rw[hSl,hSa] at r2';rw[dZ,cV,mc] at qZ;simp[q1,q2,q3,q4,LY,Ld,N0,aM,r1,fu,-ae,au,bj,aN,aq hI',oI,oP,oC,ob2,ob3,ob4,r2',r3',r4',hjp,aB,aq Ud,aq qZ,qZ,Ud,aku];refine aZ.cut (fun h5=>aa aG h' h5) ?_ ?_
  .exact((aa.refl F'.g.ok).var _ _).tick
  intro h5 g5;have F5:=F'.aX g5;refine aZ.call (V:=AS h5) (by simpa using Gn F5 (hv v hm) aku L4.l) ?_;rintro _ h6⟨g6,t,rfl⟩;cases t with
  |true=>
   simp[N0,wj];refine⟨row.length-(j+1),by omega,j+1,rfl,by omega,?_,by simp,(g.trans g5).trans g6⟩
   repeat (refine ax.set ?_)
   exact Kp
  |false=>
   obtain⟨sR,OM⟩:=(F5.aX g6).hR;have g06:=(F5.g.trans g6);simp[q2,OM];exact ret _ _ ⟨g06.put ⟨_,OM⟩ (.inl F.nR),⟨false,h6.clock,by simp⟩,by simp[q2]⟩
 .have:j=row.length:=by omega
  subst this;simp[Ld,N0];exact K _ _ g (Kp.set)
def apt(h:ab)(k:Nat)(e:Env)(m:Nat)(e':Env)(h':ab):Prop:=
 ∃j:Nat,m=k-j/\j<=k/\ax [7,33,34,35,36,37,38,39,68,8,9,10,40,41,42,43,44,45,46,47,48,49,50,51,52,53,54,55,56,57,58,59,60,61,62,63,64,65,66,67] e e'/\ai e' 33=.int .i64 j/\aa aG h h'
theorem ax.bH{l l':List Nat}{e e':Env}(K:ax l e e')(h:∀t∈l,t∈l':=by decide):ax l' e e':=fun t ht=>K t (fun h'=>ht (h t h'))
theorem VL(gL:bl h0)(F:UF h0 h C W n wc d nb Pb R name p r B)(hB:yM h0 B bs)(mc:bs.length=nb)(okx:bl hy)(gx:aa aG hy h)(hAH:SliceR (lsR hy) 1 hy AH.v ah)(rw:Cq nb ah)(iT:ah[i]?=some ps)(hI:h.tr.get I4=some (.aC [.int .i64 i] false 0 s4)){P:SV}(hP:SliceR (pR h0) 2 h0 P.v y_)(xh:y_.length<1000000)(eX:∀q∈y_,q.row.length=ps.length/\∀v∈q.row,h_ n v)(f1:ai e 1=.pointer (some ⟨Pb,0,none⟩))(f2:ai e 2=.pointer (some ⟨R,0,none⟩))(f3:ai e 3=AH.v)(f4:ai e 4=.pointer (some ⟨I4,0,none⟩))(f31:ai e 31=P.v)(f32:ai e 32=.int .i64 y_.length)(f33:ai e 33=.int .i64 0)(ret:∀e' h',WM h0 R e' h'->QQ .ret e' h')(K:∀e' h',aa aG h h'->ax [7,33,34,35,36,37,38,39,68,8,9,10,40,41,42,43,44,45,46,47,48,49,50,51,52,53,54,55,56,57,58,59,60,61,62,63,64,65,66,67] e e'->QQ (.exit 2) e' h'):az FF (.loop kI) e h QQ:=by
 have iF:=SliceR.len hP;have CV:=F.g.ok;refine az.loop (apt h y_.length e) ?_ (n:=y_.length) ⟨0,rfl,by omega,ax.refl _ _,f33,.refl CV⟩;rintro m e' h'⟨j,rfl,hj,Kp,q33,g⟩;have F':=F.aX g;have q1:=Kp.at f1;have q2:=Kp.at f2;have q3:=Kp.at f3;have q4:=Kp.at f4;have Q6:=Kp.at f31;have Q7:=Kp.at f32;unfold kI;by_cases aM:j<y_.length
 .have wj:=wrap_i64 ((j:Int)+1) (by omega) (by omega);have hx:y_[j]?=some y_[j]:=ff aM;have hm:=Ai aM;generalize y_[j]=q at hx hm;obtain⟨Qm,hqv⟩:=eX q hm;obtain⟨b1,U3,c1,oG,_,_,⟨A,rfl,sA⟩,_,CK⟩:=SliceR.later gL hP hx;have r1:=CK h' F'.g 0 2 (by decide);have Cm:=SliceR.len sA;have:=(rw.row i ps iT).1;simp[-ae] at r1;simp at Q6;rw[oG,iF] at Q6;simp[Q6,Q7,q33,aM,r1,-ae,au];refine az.cut (fun h1=>aa aG h' h1) ((aa.refl F'.g.ok).var _ _) ?_;intro h5 g5;have F5:=F'.aX g5;have Hz:=g.trans g5;refine Z7 gL F5 hB mc okx (gx.trans Hz) hAH rw sA hqv (by omega) iT Qm (Hz.get CV hI) (by simp[q1]) (by simp[q2]) (by simp[q3]) (by simp[q4]) (by simp) (by simp[Cm]) (by simp) ?_ ?_
  .intro e6 h6 hr;simp;exact ret _ _ hr
  .intro e6 h6 g6 K6;have k33:=K6.at (t:=33) (by simp;exact q33);simp[k33,wj];refine⟨y_.length-(j+1),by omega,j+1,rfl,by omega,?_,by simp,Hz.trans g6⟩;refine ax.set (ax.set (ax.trans ?_ (K6.bH)))
   repeat (refine ax.set ?_)
   exact Kp
 .have:j=y_.length:=by omega
  subst this;simp[Q7,q33];exact K _ _ g (Kp.set)
end
section
variable{h0:ab}{C W n wc d nb Pb R:Nat}{name:ByteArray}{p r:Int}{B:SV}
def apr(h:ab)(k:Nat)(e:Env)(m:Nat)(e':Env)(h':ab):Prop:=
 ∃j:Nat,m=k-j/\j<=k/\ax [11,12,13,72,73,74,75,76,77,78,86] e e'/\ai e' 72=.int .i64 j/\aa aG h h'
theorem VK(gL:bl h0)(F:UF h0 h C W n wc d nb Pb R name p r B)(hi:i<nb)(hI:h.tr.get I4=some (.aC [.int .i64 i] false 0 s4)){xs:List GI}(hL:SliceR (iR h0) 8 h0 L.v xs)(yZ:xs.length<1000000)(eX:∀x∈xs,x.args.length<2000000/\∀v∈gm x,h_ n v)(f1:ai e 1=.pointer (some ⟨Pb,0,none⟩))(f2:ai e 2=.pointer (some ⟨R,0,none⟩))(f4:ai e 4=.pointer (some ⟨I4,0,none⟩))(f70:ai e 70=L.v)(f71:ai e 71=.int .i64 xs.length)(f72:ai e 72=.int .i64 0)(ret:∀e' h',WM h0 R e' h'->QQ .ret e' h')(K:∀e' h',aa aG h h'->ax [11,12,13,72,73,74,75,76,77,78,86] e e'->QQ (.exit 6) e' h'):az FF (.loop kG) e h QQ:=by
 have tc:=SliceR.len hL;have CV:=F.g.ok;refine az.loop (apr h xs.length e) ?_ (n:=xs.length) ⟨0,rfl,by omega,ax.refl _ _,f72,.refl CV⟩;rintro m e' h'⟨j,rfl,hj,Kp,OW,g⟩;have F':=F.aX g;have q1:=Kp.at f1;have q2:=Kp.at f2;have q4:=Kp.at f4;have q70:=Kp.at f70;have q71:=Kp.at f71;unfold kG;by_cases aM:j<xs.length
 .have wj:=wrap_i64 ((j:Int)+1) (by omega) (by omega);have hx:xs[j]?=some xs[j]:=ff aM;have hm:=Ai aM;generalize xs[j]=x at hx hm;obtain⟨KA,hv⟩:=eX x hm;obtain⟨b1,U3,c1,hLa,_,_,⟨A,rfl,sA⟩,o1,CK⟩:=SliceR.later gL hL hx;have r1:=CK h' F'.g 0 8 (by decide);have ob1:=F'.g.bE o1;simp[aK,-ae] at r1;simp at q70;rw[hLa,tc] at q70;simp[q70,q71,OW,aM,r1,-ae,au,aN,bj,ob1];refine aF.cut (fun h1=>aa aG h' h1/\∃s,h1.tr.get h'.next=some (.aC [.int .i64 j] false 0 s)) ?_ ?_
  .refine⟨?_,⟨h'.clock,by simp⟩⟩
   repeat (first|exact .refl F'.g.ok|apply aa.new|refine aa.put ?_ (by simp) (by simp))
  rintro h5⟨g5,s6,hJ5⟩;have Hz:=g.trans g5;refine aF.call (V:=fun v h'=>v=.func (.func iG) #[] #[.pointer (some ⟨h5.next,0,none⟩)]/\h'=aD h5 (cz x A) 0) (by simpa [cz,aK] using JI h5 x A) ?_;rintro _ h6⟨rfl,e6⟩;have g6:aa aG h5 h6:=by rw[e6];exact aH Hz.ok _ _
  have Ap:∃s,h6.tr.get h5.next=some (.aC (cz x A) false 0 s):=⟨0,by rw[e6];exact bq _ _ _⟩;clear e6;have g06:=Hz.trans g6;have hJ6:=g6.get Hz.ok hJ5;have hI6:=g06.get CV hI;simp;refine VM gL (F.aX g06) Ap sA KA hv hI6 hJ6 hi (by simp[q1]) (by simp[q2]) (by simp[q4]) (by simp) (by simp) ?_ ?_
  .intro h7 hr;simp;exact ret _ _ hr
  .intro h7 g7;simp[OW,wj];refine⟨xs.length-(j+1),by omega,j+1,rfl,by omega,?_,by simp,g06.trans g7⟩
   repeat (refine ax.set ?_)
   exact Kp
 .have:j=xs.length:=by omega
  subst this;simp[q71,OW];exact K _ _ g (Kp.set)
structure Pe(n:Nat)(ah:List (List Int))(bs:List GB):Prop where
 ph:∀(i:Nat) b,bs[i]?=some b->b.dk.length<1000000/\∀ps,ah[i]?=some ps->∀q∈b.dk,q.row.length=ps.length/\∀v∈q.row,h_ n v
 li:∀b∈bs,b.list.length<1000000/\∀x∈b.list,x.args.length<2000000/\∀v∈gm x,h_ n v
 on:∀b∈bs,h_ n b.on
def apu(h:ab)(C W n wc d nb Pb R:Nat)(B AH:SV)(k:Nat)(m:Nat)(e':Env)(h':ab):Prop:=
 ∃j:Nat,m=k-j/\j<=k/\ai e' 1=.pointer (some ⟨Pb,0,none⟩)/\ai e' 2=.pointer (some ⟨R,0,none⟩)/\ai e' 3=AH.v/\ai e' 23=B.v/\ai e' 24=.int .i64 k/\ai e' 25=.int .i64 j/\aa aG h h'
def Ww(h:ab)(v:Value)(h':ab):Prop:=aa aG h h'/\∃t:Bool,v=.bool t
theorem VJ(gL:bl h0)(hB:yM h0 B bs)(E:jn bs)(mc:bs.length=nb)(O:Pe n (Edge.bp (bt bs)) bs){s1 s2 s3:Nat}{ws:List (Int×Int)}{us:List Int}(hC:h0.tr.get C=some (.aC (S9 name p r B ⟨some ⟨d,0,none⟩,nb,nb⟩ ⟨some ⟨W,0,none⟩,n,wc⟩) false 0 s1))(hW:h0.tr.get W=some (.aC (uK.flat ws) false 0 s2))(hl:ws.length=n)(hd:h0.tr.get d=some (.aC (bg.flat us) false 0 s3))(hU:Tree.Tw us nb)(hn:n<1000000):aE FF tp [.pointer (some ⟨C,0,none⟩)] h0 (Ww h0):=by
 have cV:=SliceR.len hB;have nu:=E.len;have RW:=Sb E;rw[mc] at RW;have oC:=gL.bE hC;have H0:=hC;simp[S9] at H0;refine aE.of zZ ?_;unfold sy;simp[H0,oC];refine aF.cut (fun h1=>UF h0 h1 C W n wc d nb h0.next (h0.next+1) name p r B) ?_ ?_
 .have g:aa aG h0 (aD (aD h0 [.pointer (some ⟨C,0,none⟩)] 0) [.bool false] 0):=((aa.refl gL).new _ _).new _ _;exact⟨g,⟨s1,g.get gL hC⟩,⟨ws,s2,g.get gL hW,hl⟩,⟨us,s3,g.get gL hd,hU⟩,⟨0,by simp⟩,⟨0,by simp⟩,by omega,by omega,hn⟩
 intro h1 F1;refine aF.call (V:=fun v h'=>aa aG h1 h'/\∃d ws,v=.slice (some ⟨d,0,none⟩) bs.length bs.length/\je bg h1.next h' d ws (Edge.bp (bt bs))) (by simpa [aj,cV] using jk F1.g.ok (name:=name) (p:=p) (r:=r) (hB.mono gL F1.g) E) ?_;rintro _ h2⟨g2,d8,wss,rfl,w8⟩;have F2:=F1.aX g2;obtain⟨sP,Kx⟩:=F2.hP;obtain⟨sC,qZ⟩:=F2.hC;simp[S9] at qZ;have hAH:=R_ (c:=bs.length) w8;have aq7:(Edge.bp (bt bs)).length=bs.length:=by rw[Edge.cR];simp[bt]
 rw[aq7] at hAH;simp[Kx,qZ];refine az.loop (apu h2 C W n wc d nb h0.next (h0.next+1) B ⟨some ⟨d8,0,none⟩,bs.length,bs.length⟩ bs.length) ?_ (n:=bs.length) ⟨0,rfl,by omega,by simp,by simp,by simp,by simp,by simp[cV],by simp,.refl F2.g.ok⟩;rintro m e' h'⟨j,rfl,hj,q1,q2,q3,q23,OT,q25,g⟩;have F':=F2.aX g;have ret:∀e' h',WM h0 (h0.next+1) e' h'->ze [.cell 2 none] (Ww h0) .ret e' h':=by rintro e' h'⟨gr,⟨t,s,hr⟩,er⟩;simp[er,hr];exact⟨gr,t,rfl⟩
 unfold qd;by_cases aM:j<bs.length
 .have wj:=wrap_i64 ((j:Int)+1) (by omega) (by omega);have hx:bs[j]?=some bs[j]:=ff aM;have hm:=Ai aM;generalize bs[j]=x at hx hm;obtain⟨b1,U3,c1,dZ,_,_,⟨P,L,T,rfl,sP,sL,sT⟩,o1,CK⟩:=SliceR.later gL hB hx;have r1:=CK h' F'.g 0 6 (by decide);have ob1:=F'.g.bE o1;have iF:=SliceR.len sP;have tc:=SliceR.len sL;obtain⟨ps,iT⟩:=ay (Edge.bp (bt bs)) j;obtain⟨asm,asn⟩:=O.ph j x hx;obtain⟨arT,arU⟩:=O.li x hm;simp[-ae] at r1;simp at q23;rw[dZ,cV] at q23;simp[q23,OT,q25,aM,r1,-ae,au,aN,bj,ob1];refine az.cut (fun h1=>aa aG h' h1/\(∃s,h1.tr.get h'.next=some (.aC [.int .i64 j] false 0 s))/\∃s,h1.tr.get (h'.next+1)=some (.aC [P.v,L.v,.int .i64 x.kind,.bool x.on.1,.int .i64 x.on.2,T.v] false 0 s)) ?_ ?_
  .refine⟨?_,⟨h'.clock,by simp⟩,⟨h'.clock+1,by simp⟩⟩
   repeat (first|exact .refl F'.g.ok|apply aa.new|refine aa.put ?_ (by simp) (by simp))
  rintro h5⟨g5,⟨s5,hI5⟩,s6,Ao⟩;have Hz:=g.trans g5;have F5:=F2.aX Hz;refine VL gL F5 hB mc F2.g.ok Hz hAH RW iT hI5 sP asm (asn ps iT) (by simp[q1]) (by simp[q2]) (by simp[q3]) (by simp) (by simp) (by simp[iF]) (by simp) ?_ ?_
  .intro e6 h6 hr;simpa using ret _ _ hr
  intro e6 h6 g6 K6;have hI6:=g6.get Hz.ok hI5;have Ap:=g6.get Hz.ok Ao;have k1:=K6.at (t:=1) (by simp;exact q1);have k2:=K6.at (t:=2) (by simp;exact q2);have k3:=K6.at (t:=3) (by simp;exact q3);have k4:ai e6 4=.pointer (some ⟨h'.next,0,none⟩):=K6.at (t:=4) (by simp);have k5:ai e6 5=.pointer (some ⟨h'.next+1,0,none⟩):=K6.at (t:=5) (by simp);have k23:=K6.at (t:=23) (by simp;exact q23);have k24:=K6.at (t:=24) (by simp;exact OT);have k25:=K6.at (t:=25) (by simp;exact q25);simp at Ap;simp[k5,Ap];have F6:=F5.aX g6;refine VK gL F6 (by omega) hI6 sL arT arU (by simp[k1]) (by simp[k2]) (by simp[k4]) (by simp) (by simp[tc]) (by simp) ?_ ?_
  .intro e7 h7 hr;simpa using ret _ _ hr
  intro e7 h7 g7 K7;have hI7:=g7.get F6.g.ok hI6;have Ss:=g7.get F6.g.ok Ap;have F7:=F6.aX g7;obtain⟨sP7,hP7⟩:=F7.hP;have m1:=K7.at (t:=1) (by simp;exact k1);have m2:=K7.at (t:=2) (by simp;exact k2);have m3:=K7.at (t:=3) (by simp;exact k3);have m4:ai e7 4=.pointer (some ⟨h'.next,0,none⟩):=K7.at (t:=4) (by simp;exact k4);have m5:ai e7 5=.pointer (some ⟨h'.next+1,0,none⟩):=K7.at (t:=5) (by simp;exact k5);have m23:=K7.at (t:=23) (by simp;exact k23);have m24:=K7.at (t:=24) (by simp;exact k24);have m25:=K7.at (t:=25) (by simp;exact k25);simp[m1,m4,m5,hI7,Ss,hP7];refine aF.call (V:=AS h7) (by simpa using Gn F7 (O.on x hm) (i:=j) (by omega) L.l) ?_;rintro _ h8⟨g8,t,rfl⟩;have F8:=F7.aX g8;cases t with
  |true=>
   simp[m25,wj];exact⟨bs.length-(j+1),by omega,j+1,rfl,by omega,by simp[m1],by simp[m2],by simp[m3],by simp[m23,dZ,cV],by simp[m24],by simp,(((g.trans g5).trans g6).trans g7).trans g8⟩
  |false=>
   obtain⟨sR,hR8⟩:=F8.hR;simp[m2,hR8];exact⟨F8.g.put ⟨_,hR8⟩ (.inl F8.nR),false,rfl⟩
 .have:j=bs.length:=by omega
  subst this;obtain⟨sR,hR8⟩:=F'.hR;simp[OT,q25,q2,hR8];exact⟨F'.g.put ⟨_,hR8⟩ (.inl F'.nR),true,rfl⟩
end
def tZ(bs:List GB):Prop:=bs.length<=(qQ bs).length
def aiK(bs:List GB)(h:ab)(v:Value)(h':ab):Prop:=aa aG h h'/\∃c:Int,v=.int .i64 c/\(c=0->tZ bs)
theorem Kb(ok:bl h){name:ByteArray}(hB:yM h B bs)(E:jn bs)(h0:0<bs.length)(D:O8 n bs)(O:Pe n (Edge.bp (bt bs)) bs)(hp:pn<=n)(hn:n<1000000):aE FF zF [.agg ⟨aj name pn n B⟩] h (aiK bs h):=by
 have cV:=SliceR.len hB;have nu:=E.len;refine aE.of HS ?_;unfold zn;simp[aj];have g0:aa aG h (tick (aD h (aj name pn n B) 0)):=(aH ok _ _).tick;refine aZ.cut (fun h1=>aa aG h h1/\h1.tr.get h.next=some (.aC (aj name pn n B) false 0 0)/\h1.tr.get (h.next+1)=some (.aC [.int .i64 (-1),.int .i64 (-1)] false 0 0)) ?_ ?_
 .simp[aj] at g0;exact⟨g0.new _ _,by simp[aj],by simp⟩
 rintro h1⟨g1,ta,hW1⟩;refine aZ.call (V:=ac6 h1 bs.length) (by simpa [aj] using VH g1.ok (name:=name) (p:=pn) (r:=n) (hB.mono ok g1) E h0) ?_;rintro _ h2⟨g2,up,us,s2,rfl,hup,yo,hUp⟩;have dX:=g2.get g1.ok ta;simp[aj] at dX;have hW2:=g2.get g1.ok hW1;simp[dX,hW2];have jd:=g1.trans g2;refine aZ.call (V:=fun v h'=>aa aG h2 h'/\∃d s,v=.slice (some ⟨d,0,none⟩) n n/\h2.next<=d/\h'.tr.get d=some (.aC (uK.flat (List.replicate n (-1,-1))) false 0 s)) (by simpa using ZA jd.ok n hn (x:=(-1,-1)) hW2) ?_;rintro _ h3⟨g3,W,s3,rfl,H7,hW3⟩;have dw:=jd.trans g3;have qL:=g3.get jd.ok dX;have FY:=g3.get jd.ok yo;have oF3:=dw.ok.bE qL;simp[qL,oF3];refine aZ.cut (fun h4=>aa aG h3 h4/\∃s,h4.tr.get h3.next=some (.aC (S9 name pn n B ⟨some ⟨up,0,none⟩,bs.length,bs.length⟩ ⟨some ⟨W,0,none⟩,n,n⟩) false 0 s)) ?_ ?_
 .exact⟨((aa.refl dw.ok).new _ _).tick,0,by simp[S9]⟩
 rintro h4⟨g4,s4,Ua⟩;have oE:=dw.trans g4;have zt:=g4.get dw.ok qL;have hW4:=g4.get dw.ok hW3;have V0:=g4.get dw.ok FY;refine aZ.call (V:=fun v h'=>aa aG h4 h'/\∃L:SV,v=L.v/\bJ bg h4.next h' L.v (qQ bs)) (by simpa [aj] using Jz oE.ok (name:=name) (p:=pn) (r:=n) (hB.mono ok oE) E h0) ?_;rintro _ h5⟨g5,L,rfl,hA⟩;have ym:=oE.trans g5;have OL:=g5.get oE.ok zt;have hW5:=g5.get oE.ok hW4;have hU5:=g5.get oE.ok V0;have hC5:=g5.get oE.ok Ua;have tc:L.l=(qQ bs).length:=by
  rcases hA with⟨e,e2⟩|⟨_,_,e2,_⟩
  .simp at e2;rw[e,e2.2.1];rfl
  .simp at e2;exact e2.2.1
 have lW:W<h3.next:=(dw.ok.bE hW3).lt;by_cases dQ:(qQ bs).length<bs.length
 .simp[OL,cV,tc,dQ];exact⟨ym,5,rfl,fun h=>by cases h⟩
 .simp[OL,cV,tc,dQ];have w:SC h h5 h3.next W n n name pn n B ⟨some ⟨up,0,none⟩,bs.length,bs.length⟩:=⟨ym,by have:=jd.next;omega,by omega,⟨s4,hC5⟩,_,s3,hW5,by simp⟩;refine aF.call (V:=ai8 h h5 h3.next W n n name pn n B ⟨some ⟨up,0,none⟩,bs.length,bs.length⟩) (by simpa using OB ok hB D w rfl hp hn) ?_;rintro _ h6⟨⟨t,rfl⟩,w6,gw6⟩;cases t with
  |false=>
   simp;exact⟨w6.g,7,rfl,fun h=>by cases h⟩
  |true=>
   simp;obtain⟨s6,hC6⟩:=w6.hC;obtain⟨ws,s7,hW6,DE⟩:=w6.hW;have lU:=(jd.ok.bE yo).lt;have Uf:=gw6.get ym.ok hU5 (by omega);refine aF.call (V:=Ww h6) (by simpa using VJ w6.g.ok (hB.mono ok w6.g) E rfl O hC6 hW6 DE Uf hUp hn) ?_;rintro _ h7⟨g7,t,rfl⟩;cases t with
   |false=>
    simp;exact⟨w6.g.trans g7,6,rfl,fun h=>by cases h⟩
   |true=>
    simp;exact⟨w6.g.trans g7,0,rfl,fun _=>by unfold tZ;omega⟩
theorem pf{b:GB}(h:b∈bs):b.dk.length+b.list.length<=gY bs:=by
 induction bs with
 |nil=>simp at h
 |cons x bs ih=>
  simp only[gY];rcases List.mem_cons.1 h with rfl|h
  .omega
  .have:=ih h;omega
theorem SK{ag:Int}(h:AW ag x):x.dst= -1\/xi ag x.dst:=by
 have hf:=h.form;unfold bz at hf;cases hs:(cN x.op).1 with
 |false=>
  rw[hs] at hf;simp at hf;exact .inl hf.1
 |true=>
  by_cases h20:x.op=20/\x.dst= -1
  .exact .inl h20.2
  .exact .inr (h.dst hs h20)
theorem yu{ag:Int}(h:AW ag x):pO ag x.args/\x.args.length<=6:=by
 by_cases h20:x.op=20
 .exact h.args h20
 .have hf:=h.form;unfold bz at hf;have aqc:(x.op==20)=false:=by simpa using h20
  rw[aqc] at hf;simp at hf;have:x.args=[]:=IX (by have:=hf.2.2.2.2;simp[this]);rw[this];exact⟨pO.nil _,by simp⟩
theorem Np{ag:Int}(h:AW ag x):pO ag x.args:=(yu h).1
theorem Ct{ag:Int}{v:Bool×Int}(h:ub ag v):h_ ag.toNat v:=by intro h1;have:=h h1;omega
theorem YB{ag:Int}(h:AW ag x):∀v∈gm x,ub ag v:=by
 intro v hv;unfold gm at hv;rcases rM.1 hv with hv|hv
 .split at hv
  .simp at hv;subst hv;exact h.a
  .cases hv
 .rcases rM.1 hv with hv|hv
  .split at hv
   .simp at hv;subst hv;exact h.b
   .cases hv
  .exact Np h v hv
structure mY(f:GF):Prop where
 head:zO f
 body:Cp f.ag f.blocks
 sm:∀b∈f.blocks,vF b
theorem mY.ends{f:GF}(F:mY f):jn f.blocks:=F.body.ends.ends (by have:=F.head.blocks;omega)
theorem mY.apX(F:mY f):O8 f.ag.toNat f.blocks:=by
 have hb:=F.head.blocks;have hm:=F.head.many;refine⟨by omega,fun b hb=>⟨by have:=pf hb;omega,fun q hq=>?_⟩,fun b hb=>⟨by have:=pf hb;omega,fun x hx=>?_⟩⟩
 .obtain⟨i,hi⟩:=oD hb;obtain⟨_,l,_,hp⟩:=(F.body.Mh i b hi).dk q hq;have:=hp.dst;unfold xi at this;omega
 .obtain⟨i,hi⟩:=oD hb;have hr:=F.head.ag;have hp:=F.head.params;rcases SK ((F.body.Mh i b hi).list x hx) with h|h
  .omega
  .unfold xi at h;omega
theorem mY.Z6(F:mY f):Pe f.ag.toNat (Edge.bp (bt f.blocks)) f.blocks:=by
 have hm:=F.head.many;refine⟨fun i b hb=>⟨by have:=pf (bU hb);omega,fun ps iT q hq=>?_⟩,fun b hb=>⟨by have:=pf hb;omega,fun x hx=>?_⟩,fun b hb=>?_⟩
 .obtain⟨_,l,hl,hp⟩:=(F.body.Mh i b hb).dk q hq;rw[hl] at iT;cases iT;exact⟨hp.len,fun v hv=>Ct (hp.row v hv)⟩
 .obtain⟨i,hi⟩:=oD hb;have:=(yu ((F.body.Mh i b hi).list x hx)).2;exact⟨by omega,fun v hv=>Ct (YB ((F.body.Mh i b hi).list x hx) v hv)⟩
 .intro h1;have:=(F.body.ends b hb).on h1;omega
structure Ff(u:GU):Prop where
 unit:Fh u
 form:∀f∈u.funcs,mY f
 seen:∀f∈u.funcs,tZ f.blocks
theorem Ff.of(U:Fh u)(sm:Cr u)(S:∀f∈u.funcs,tZ f.blocks):Ff u:=⟨U,fun f hf=>⟨U.head f hf,U.body f hf,sm.bs f hf⟩,S⟩
def apn(h0 h:ab)(R:Nat)(F:SV)(fs:List GF)(m:Nat)(e:Env)(h':ab):Prop:=
 ∃j:Nat,m=fs.length-j/\j<=fs.length/\ai e 2=.pointer (some ⟨R,0,none⟩)/\ai e 14=F.v/\ai e 15=.int .i64 fs.length/\ai e 16=.int .i64 j/\aa aG h h'/\∀f∈fs.take j,tZ f.blocks
theorem Og(ok:bl h)(hw:D9 h){G F:SV}(hu:uR h G F u)(sm:Cr u):aE FF DO [.agg ⟨[G.v,F.v]⟩] h (EZ (Ff u) h):=by
 have qi:=SliceR.len hu.2;refine aE.of Mr ?_;unfold Dc;simp;refine aF.cut (fun h1=>aa aG h h1/\h1.tr.get h.next=some (.aC [G.v,F.v] false 0 0)/\h1.tr.get (h.next+1)=some (.aC [.int .i64 0,.int .i64 0] false 0 0)) ?_ ?_
 .exact⟨((aa.refl ok).new _ _).new _ _,by simp,by simp⟩
 rintro h1⟨g1,hU1,yV⟩;refine aF.call (V:=EZ (Fh u) h1) (by simpa using PH g1.ok (hw.grow ok g1) (hu.mono ok g1) sm) ?_;rintro _ h2⟨g2,c,a,rfl,hc⟩;have jd:=g1.trans g2;have yo:=g2.get g1.ok hU1;have Du:=g2.get g1.ok yV;simp at yo;have oR2:=g2.ok.bE Du;have oU2:=g2.ok.bE yo;rcases hc with hc|⟨rfl,rfl,hU⟩
 .have Ib:(c==0)=false:=by simpa using hc
  simp[Ib,Du,oR2,au,-ae];refine⟨aa.put (jd.var _ _) ⟨0,?_⟩ (.inl (by omega)),c,a,rfl,.inl hc⟩;rw[nr,bc (by have:=oR2.lt;omega),FT oR2,Du]
 simp[yo,oU2];refine az.cut (fun h3=>aa aG h2 h3) ?_ ?_
 .exact(aa.refl g2.ok).var _ _
 intro h3 g3;have dw:=jd.trans g3;have S:=hU;refine az.loop (apn h h3 (h.next+1) F u.funcs) ?_ (n:=u.funcs.length) ⟨0,rfl,by omega,by simp,by simp,by simp[qi],by simp,.refl dw.ok,fun f hf=>by simp at hf⟩;rintro m e h'⟨j,rfl,hj,q2,JA,yE,wX,g,hA⟩;have gg:=dw.trans g;have hR:=(g3.trans g).get g2.ok Du;unfold zJ;by_cases aM:j<u.funcs.length
 .have wj:=wrap_i64 ((j:Int)+1) (by omega) (by have:=hU.fn;omega);have hx:u.funcs[j]?=some u.funcs[j]:=ff aM;have hm:=Ai aM;generalize u.funcs[j]=f at hx hm;have FO:mY f:=⟨hU.head f hm,hU.body f hm,sm.bs f hm⟩;have hd:=FO.head;obtain⟨b1,U3,c1,zu,_,_,⟨B,rfl,sB⟩,o1,CK⟩:=SliceR.later ok hu.2 hx;have r1:=CK h' gg 0 4 (by decide);simp[-ae] at r1;simp at JA;rw[zu,qi] at JA;have hp:=hd.params;have hr:=hd.ag;obtain⟨pn,Ql⟩:∃pn:Nat,f.params=pn:=⟨f.params.toNat,by omega⟩;obtain⟨rn,Yh⟩:∃rn:Nat,f.ag=rn:=⟨f.ag.toNat,by omega⟩;have D:=FO.apX;have O:=FO.Z6;have ern:f.ag.toNat=rn:=by omega
  rw[ern] at D O;simp[JA,yE,wX,aM,r1,-ae,au];refine aF.cut (fun h1=>aa aG h' h1) ((aa.refl gg.ok).var _ _) ?_;intro h5 g5;have Hz:=gg.trans g5;rw[Ql,Yh];refine aF.call (V:=aiK f.blocks h5) (by simpa [aj] using Kb Hz.ok (name:=f.name) (sB.mono ok Hz fun _ _ r=>r.mono ok Hz) FO.ends (by have:=hd.blocks;omega) D O (by omega) (by omega)) ?_;rintro _ h6⟨g6,c,rfl,hc⟩;have OM:=(g5.trans g6).get gg.ok hR;have g06:=Hz.trans g6;by_cases Dy:c=0
  .subst Dy;simp[wX,wj];refine⟨u.funcs.length-(j+1),by omega,j+1,rfl,by omega,by simp[q2],by simp[JA,zu,qi],by simp[yE],by simp,(g.trans g5).trans g6,fun f' hf'=>?_⟩;rw[yS,hx] at hf';rcases rM.1 hf' with h1|h1
   .exact hA f' h1
   .simp at h1;subst h1;exact hc rfl
  .have hcn:(c !=0)=true:=by simpa using Dy
   simp[hcn,Dy];refine aF.call (by simpa using ko h6 g06.ok c (j:Int)) ?_;rintro _ h7⟨rfl,g7⟩;have hR7:=g7.get g06.ok OM;simp[q2,hR7];exact⟨(g06.trans g7).put ⟨_,hR7⟩ (.inl (by omega)),c,j,rfl,.inl Dy⟩
 .have:j=u.funcs.length:=by omega
  subst this;rw[xK] at hA;simp[yE,wX,q2,hR];exact⟨gg.put ⟨_,hR⟩ (.inl (by omega)),0,0,rfl,.inr ⟨rfl,rfl,Ff.of hU sm hA⟩⟩
def fS{α:Type}(E:Enc α)(h:ab)(A:SV)(xs:List α):Prop:=
 A.l=xs.length/\((A.a=none/\A.c=0/\xs=[])\/∃b o s bw,A.a=some ⟨b,0,none⟩/\A.c=xs.length+bw.length/\h.tr.get b=some (.aC (E.flat (xs++bw)) false o s)/\(o=0\/o=E.sz))
section
variable{α:Type}{E:Enc α}{h h':ab}{A:SV}{xs:List α}
theorem fS.len(w:fS E h A xs):A.l=xs.length:=w.1
theorem fS.nil(E:Enc α)(h:ab):fS E h cJ []:=⟨rfl,.inl ⟨rfl,rfl,rfl⟩⟩
theorem bC(h:A.a=some ⟨b,0,none⟩):aw A.v b:=⟨0,A.l,A.c,by simp[h]⟩
theorem iD(h:A.a=some ⟨b,0,none⟩)(k:aw A.v b'):b'=b:=by obtain⟨off,n,cap,e⟩:=k;simp[h] at e;exact e.1.1.symm
theorem eV(h:A.a=none)(k:aw A.v b):False:=by obtain⟨off,n,cap,e⟩:=k;simp[h] at e
theorem fS.grow(w:fS E h A xs)(ok:bl h)(g:aa S h h')(hS:∀b,aw A.v b->¬S b):fS E h' A xs:=by
 obtain⟨hl,w⟩:=w;refine⟨hl,?_⟩;rcases w with w|⟨b,o,s,bw,ha,hc,hb,ho⟩
 .exact .inl w
 .exact .inr ⟨b,o,s,bw,ha,hc,g.get ok hb (hS b (bC ha)),ho⟩
theorem fS.aX(w:fS E h A xs)(ok:bl h)(g:aa aG h h'):fS E h' A xs:=w.grow ok g (fun _ _ h=>h)
theorem fS.sl(w:fS E h A xs):aL E h A.v xs:=by
 obtain⟨hl,w⟩:=w;refine⟨A.a,A.c,by simp[hl],?_⟩;rcases w with⟨ha,_,rfl⟩|⟨b,o,s,bw,ha,hc,hb,ho⟩
 .exact .inl ⟨rfl,.inl ha⟩
 .refine .inr ⟨b,0,_,_,_,_,ha,hb,?_,?_⟩
  .simp[tW]
  .rw[List.drop_zero,E.fE];simp
theorem fS.bE(w:fS E h A xs)(ok:bl h)(k:aw A.v b):b<h.next:=by
 obtain⟨hl,w⟩:=w;rcases w with⟨ha,_⟩|⟨b',o,s,bw,ha,hc,hb,ho⟩
 .exact(eV ha k).elim
 .rw[iD ha k];exact ok.wf _ _ hb
theorem Oi(E:Enc α)(ys:List α)(i:Nat)(x y:α)(hx:ys[i]?=some x)(k:Nat)(vs:List Value)(hk:k+vs.length<=E.sz)(e:aR (E.enc x) k vs=E.enc y):aR (E.flat ys) (i*E.sz+k) vs=E.flat (ys.set i y):=by
 have hi:=(bK.mp hx).1;rw[List.set_eq_take_append_cons_drop,aY hi,E.dG,E.eo,<-e];unfold aR;have h1:(E.flat ys).take (i*E.sz+k)=E.flat (ys.take i)++(E.enc x).take k:=by rw[List.take_add,E.fE];congr 1;rw[<-E.pJ ys i x hx,List.take_take,Nat.min_eq_left (by omega)]
 have h2:(E.flat ys).drop (i*E.sz+k+vs.length)=(E.enc x).drop (k+vs.length)++E.flat (ys.drop (i+1)):=by rw[AL,<-List.drop_drop,E.jP,List.drop_eq_getElem_cons hi,E.eo,List.drop_append,(bK.mp hx).2,E.len,show k+vs.length-E.sz=0 by omega,List.drop_zero]
 rw[h1,h2];simp[Af]
theorem fS.el(w:fS E h A xs){x:α}(hx:xs[i]?=some x):∃b cs o s,A.a=some ⟨b,0,none⟩/\h.tr.get b=some (.aC cs false o s)/\i<A.l/\(∀k m,k+m<=E.sz->i*E.sz+k+m<=cs.length)/\(∀k m,k+m<=E.sz->aV h b (i*E.sz+k) m=some (((E.enc x).drop k).take m))/\∀y k vs,k+vs.length<=E.sz->aR (E.enc x) k vs=E.enc y->∀h1:ab,(∃s,h1.tr.get b=some (.aC (aR cs (i*E.sz+k) vs) false o s))->fS E h1 A (xs.set i y):=by
 obtain⟨hl,w⟩:=w;have hi:=(bK.mp hx).1;rcases w with⟨ha,_,rfl⟩|⟨b,o,s,bw,ha,hc,hb,ho⟩
 .simp at hi
 .have qm:(xs++bw)[i]?=some x:=by rw[FX hi];exact hx
  have cj:∀k m,k+m<=E.sz->i*E.sz+k+m<=(E.flat (xs++bw)).length:=by intro k m hkm;rw[E.bh,IZ];have:(i+1)*E.sz<=(xs.length+bw.length)*E.sz:=FW _ (by omega);rw[tW] at this;omega
  refine⟨b,_,o,s,ha,hb,by omega,cj,fun k m hkm=>?_,fun y k vs hk e h1 ⟨s1,FZ⟩=>⟨by simpa using hl,.inr ⟨b,o,s1,bw,ha,by simpa using hc,?_,ho⟩⟩⟩
  .rw[cx hb (cj k m hkm),E.jQ _ _ _ _ _ qm hkm]
  .rw[FZ,Oi E _ _ _ _ qm k vs hk e,List.set_append,aY hi]
theorem Rk(E:Enc α)(xs ys bw:List α)(h:ys.length<=bw.length):aR (E.flat (xs++bw)) (xs.length*E.sz) (E.flat ys)=E.flat ((xs++ys)++bw.drop ys.length):=by unfold aR;rw[E.fE,E.bh,<-tW,E.jP];have:List.drop (xs.length+ys.length) xs=[]:=Xt (by omega);simp[List.drop_append,this]
theorem se{ys:List α}(ok:bl h)(hz:z.length=E.sz)(w:fS E h A xs)(hw:aL E h v ys)(hl:xs.length+ys.length<2000000)(Eo:bytes<=1000):∃(A':SV) (h':ab),iQ h z bytes false A.v v=some (A'.v,h')/\fS E h' A' (xs++ys)/\aa (aw A.v) h h'/\(∀b,aw A'.v b->aw A.v b\/b=h.next)/\(A.c=A.l->A'.c=A'.l):=by
 have hp:=E.pos;have hp':E.sz≠0:=by omega
 have cj:=w.1;unfold iQ;rw[v5 hz hw];dsimp only;cases ys with
 |nil=>
  refine⟨A,h,?_,by simpa using w,.refl ok,fun b hb=>.inl hb,fun h=>h⟩;have:A.l<=A.c:=by
   rcases w.2 with⟨_,h2,rfl⟩|⟨_,_,_,bw,_,h2,_⟩
   .rw[cj];simp
   .omega
  simp[eA,hz,hp,this]
 |cons y ys=>
  have r1:roomy (xs.length+(ys.length+1))=true:=by simp[roomy];simp at hl;omega
  have r2:roomy ((xs.length+(ys.length+1))*bytes)=true:=by have:(xs.length+(ys.length+1))*bytes<=2000000*1000:=Nat.mul_le_mul (by simp at hl;omega) Eo;simp[roomy];omega
  have y5:(E.flat (y::ys)).length=(ys.length+1)*E.sz:=by rw[E.bh,List.length_cons]
  obtain⟨cs,KC⟩:∃cs,cs=E.flat (y::ys):=⟨_,rfl⟩;rw[<-KC] at y5⊢;rcases w.2 with⟨ha,hc,rfl⟩|⟨b,o,s,bw,ha,hc,hb,ho⟩
  .refine⟨⟨some ⟨h.next,0,none⟩,ys.length+1,ys.length+1⟩,aD h cs E.sz,?_,⟨by simp,.inr ⟨h.next,E.sz,0,[],rfl,by simp,?_,.inr rfl⟩⟩,(aH ok _ _).aX,fun b hb=>.inr (iD rfl hb),fun _=>rfl⟩
   .simp only[List.length_nil,Ek] at r1 r2 cj;simp[eA,hz,hp,r1,r2,ha,hc,cj]
   .rw[bq,KC];simp
  .have dQ:(E.flat (xs++bw)).take (xs.length*E.sz)=E.flat xs:=by rw[E.fE];simp
   by_cases mK:xs.length+(ys.length+1)<=A.c
   .have dV:xs.length*E.sz+(ys.length+1)*E.sz<=(xs.length+bw.length)*E.sz:=by rw[<-tW];exact FW _ (by omega)
    refine⟨⟨A.a,xs.length+(ys.length+1),A.c⟩,put h b (xs.length*E.sz) (E.flat (xs++bw)) cs o,?_,⟨by simp,.inr ⟨b,o,h.clock,bw.drop (ys.length+1),ha,by simp;omega,?_,ho⟩⟩,?_,?_,fun h=>by omega⟩
    .simp[eA,hz,hp,r1,r2,ha,cj,mK,hb,y5];have I3:(ys.length+1)*E.sz<=bw.length*E.sz:=FW _ (by omega);rw[aY I3]
    .rw[aA,KC,Rk E xs (y::ys) bw (by simp;omega)];rfl
    .exact(aJ ok hb).bH (fun x _ e=>e▸bC ha)
    .intro b' jf;have:=iD (A:=⟨A.a,xs.length+(ys.length+1),A.c⟩) ha jf;exact .inl (this▸bC ha)
   .have adD:((E.flat (xs++bw)).drop 0).take (xs.length*E.sz)=E.flat xs:=by rw[List.drop_zero,dQ]
    have Sw:E.flat xs++cs=E.flat (xs++y::ys++[]):=by rw[KC,List.append_nil,E.dG]
    rcases ho with rfl|rfl
    .refine⟨⟨some ⟨h.next,0,none⟩,xs.length+(ys.length+1),xs.length+(ys.length+1)⟩,aD h (E.flat xs++cs) E.sz,?_,⟨by simp,.inr ⟨h.next,E.sz,0,[],rfl,by simp,?_,.inr rfl⟩⟩,(aH ok _ _).aX,fun b hb=>.inr (iD rfl hb),fun _=>rfl⟩
     .simp[eA,hz,hp,r1,r2,ha,cj,mK,hb,dQ]
     .rw[bq,Sw]
    .refine⟨⟨some ⟨h.next,0,none⟩,xs.length+(ys.length+1),xs.length+(ys.length+1)⟩,aD {h with tr:=h.tr.del b} (E.flat xs++cs) E.sz,?_,⟨by simp,.inr ⟨h.next,E.sz,0,[],rfl,by simp,?_,.inr rfl⟩⟩,?_,fun b hb=>.inr (iD rfl hb),fun _=>rfl⟩
     .have AN:A.c*E.sz=(xs.length+bw.length)*E.sz:=by rw[hc]
      simp[eA,hz,hp,r1,r2,ha,cj,mK,hb,dQ,hp'];intro ct;have:Nat.beq (A.c*E.sz) (xs.length*E.sz+bw.length*E.sz)=true:=by rw[AN,tW];exact Nat.beq_refl _
      rw[this] at ct;cases ct
     .have:=bq {h with tr:=h.tr.del b} (E.flat xs++cs) E.sz;rw[<-Sw];exact this
     .refine((kq ok b).bH ?_).trans (aH (kq ok b).ok _ _).aX;rintro x _ rfl;exact bC ha
end
def IF(z:List Value)(bytes:Nat):ak:=(G_ [o_ 2 (.mv (.const (.slice none 0 0)))] (J_ (G_ [m_ 3 0,o_ 4 (.bin .eql [3] (t_ 3) (.const (.slice none 0 0)))] (I_ 4 (G_ [o_ 2 (.mv (.const (.slice none 0 0)))] .ret) .skip)) (G_ [o_ 5 (.gC 0 [] []),m_ 6 0,o_ 7 (.append z bytes false (t_ 5) (t_ 6)),m_ 2 7] .ret)))
def qn{α:Type}(E:Enc α)(h:ab)(xs:List α)(r:Value)(h':ab):Prop:=aa aG h h'/\∃w:SV,r=w.v/\fS E h' w xs/\(∀b,aw w.v b->h.next<=b)/\w.c=w.l
theorem iV(E:Enc α){f bytes:Nat}(hf:FF f=some ⟨[.tmp 2],IF z bytes,.no⟩)(hz:z.length=E.sz)(Eo:bytes<=1000)(ok:bl h){v:SV}{xs:List α}(hs:aL E h v.v xs)(cj:xs.length<2000000):aE FF f [v.v] h (qn E h xs):=by
 have hp:=E.pos;have yZ:v.l=xs.length:=by obtain⟨a,cap,e,_⟩:=hs;simp at e;exact e.2.1
 refine aE.of hf ?_;unfold IF;cases ha:v.a with
 |none=>
  have hx:xs=[]:=by
   obtain⟨a,cap,e,h2⟩:=hs;simp[ha] at e;rcases h2 with h2|⟨b,off,cs,ro,o,st,e2,_⟩
   .exact h2.1
   .rw[e2] at e;simp at e
  subst hx;simp[ha];exact⟨.refl ok,cJ,rfl,fS.nil E h,fun b hb=>(eV rfl hb).elim,rfl⟩
 |some a0=>
  have g0:=aH ok [] 0;have w0:fS E (aD h [] 0) ⟨some ⟨h.next,0,none⟩,0,0⟩ ([]:List α):=⟨rfl,.inr ⟨h.next,0,0,[],rfl,rfl,bq _ _ _,.inl rfl⟩⟩;obtain⟨A',h',ha',wA,gA,hbA,hcA⟩:=se (bytes:=bytes) g0.ok hz w0 (hs.aX ok g0) (by simpa using cj) Eo;have hh:=ha';simp[ha,yZ] at ha';simp[ha,yZ];refine gH ha' ?_;simp;refine⟨g0.trans' gA (fun _ _ h=>h) (fun x hx e=>by have:=iD rfl e;omega),A',by simp,by simpa using wA,fun b hb=>?_,hcA rfl⟩;rcases hbA b hb with h|h
  .rw[iD rfl h];exact dH _
  .rw[h];simp
structure XI where
 op:Int
 dst:Int
 a:Bool×Int
 b:Bool×Int
 fn:Int
 args:SV
structure XR where
 P:SV
 L:SV
 T:SV
 kind:Int
 on:Bool×Int
 ps:List (Int×SV)
 ls:List XI
 ts:List Int
def bY:Enc (Bool×Int):=⟨fun x=>[.bool x.1,.int .i64 x.2],2,fun _=>rfl,by decide,fun _=>rfl⟩
@[simp] theorem eB:bY.sz=2:=rfl
@[simp] theorem xG(x:Bool×Int):bY.enc x=[.bool x.1,.int .i64 x.2]:=rfl
def lu:Enc (Int×SV):=⟨fun x=>[.int .i64 x.1,x.2.v],2,fun _=>rfl,by decide,fun _=>rfl⟩
@[simp] theorem ane:lu.sz=2:=rfl
@[simp] theorem Xk(x:Int×SV):lu.enc x=[.int .i64 x.1,x.2.v]:=rfl
def kh:Enc XI:=⟨fun x=>[.int .i64 x.op,.int .i64 x.dst,.bool x.a.1,.int .i64 x.a.2,.bool x.b.1,.int .i64 x.b.2,.int .i64 x.fn,x.args.v],8,fun _=>rfl,by decide,fun _=>rfl⟩
@[simp] theorem ani:kh.sz=8:=rfl
@[simp] theorem MN(x:XI):kh.enc x=[.int .i64 x.op,.int .i64 x.dst,.bool x.a.1,.int .i64 x.a.2,.bool x.b.1,.int .i64 x.b.2,.int .i64 x.fn,x.args.v]:=rfl
def eW:Enc XR:=⟨fun x=>[x.P.v,x.L.v,.int .i64 x.kind,.bool x.on.1,.int .i64 x.on.2,x.T.v],6,fun _=>rfl,by decide,fun _=>rfl⟩
@[simp] theorem anf:eW.sz=6:=rfl
@[simp] theorem p6(x:XR):eW.enc x=[x.P.v,x.L.v,.int .i64 x.kind,.bool x.on.1,.int .i64 x.on.2,x.T.v]:=rfl
def VA(κ cap:Nat->Nat)(A:SV):Prop:=A.l<=A.c/\((A.a=none/\A.c=0)\/∃b,A.a=some ⟨b,0,none⟩/\κ b=1/\A.c=cap b)
def Cu(h:ab)(κ cap:Nat->Nat)(ag:Nat):Prop:=∀b,κ b=1->∃vs o s,h.tr.get b=some (.aC (bY.flat vs) false o s)/\(o=0\/o=2)/\vs.length=cap b/\∀v∈vs,h_ ag v
structure RV(h:ab)(κ cap:Nat->Nat)(ag:Nat)(r:XR):Prop where
 P:fS lu h r.P r.ps
 L:fS kh h r.L r.ls
 T:fS bg h r.T r.ts
 kP:∀b,aw r.P.v b->κ b=3
 kL:∀b,aw r.L.v b->κ b=4
 kT:∀b,aw r.T.v b->κ b=5
 ps:∀p∈r.ps,(0<=p.1/\p.1<ag)/\VA κ cap p.2
 ls:∀x∈r.ls,x.dst<ag/\h_ ag x.a/\h_ ag x.b/\VA κ cap x.args
 on:h_ ag r.on
structure cH(h:ab)(n0 ag:Nat)(κ cap:Nat->Nat)(rs:List XR):Prop where
 r:∀(i:Nat)(r:XR),rs[i]?=some r->RV h κ cap ag r
 dP:∀(i j:Nat)(ri rj:XR)(b:Nat),rs[i]?=some ri->rs[j]?=some rj->i≠j->aw ri.P.v b->¬aw rj.P.v b
 dL:∀(i j:Nat)(ri rj:XR)(b:Nat),rs[i]?=some ri->rs[j]?=some rj->i≠j->aw ri.L.v b->¬aw rj.L.v b
 dT:∀(i j:Nat)(ri rj:XR)(b:Nat),rs[i]?=some ri->rs[j]?=some rj->i≠j->aw ri.T.v b->¬aw rj.T.v b
 V:Cu h κ cap ag
 new:∀b,κ b≠0->n0<=b/\b<h.next
section
variable{h h':ab}{n0 ag:Nat}{κ cap:Nat->Nat}
theorem Cu.grow(w:Cu h κ cap ag)(ok:bl h)(g:aa S h h')(hS:∀b,S b->κ b≠1):Cu h' κ cap ag:=by intro b hb;obtain⟨vs,o,s,h1,h2⟩:=w b hb;exact⟨vs,o,s,g.get ok h1 (fun hs=>hS b hs hb),h2⟩
theorem RV.grow{S:Nat->Prop}{r:XR}(w:RV h κ cap ag r)(ok:bl h)(g:aa S h h')(hS:∀b,S b->¬aw r.P.v b/\¬aw r.L.v b/\¬aw r.T.v b):RV h' κ cap ag r:=
 ⟨w.P.grow ok g (fun b hb hs=>(hS b hs).1 hb),w.L.grow ok g (fun b hb hs=>(hS b hs).2.1 hb),w.T.grow ok g (fun b hb hs=>(hS b hs).2.2 hb),w.kP,w.kL,w.kT,w.ps,w.ls,w.on⟩
theorem RV.adf{r:XR}(w:RV h κ cap ag r)(ok:bl h)(g:aa S h h')(hS:∀b,S b->κ b≠3/\κ b≠4/\κ b≠5):RV h' κ cap ag r:=
 w.grow ok g (fun b hs=>⟨fun h=>(hS b hs).1 (w.kP b h),fun h=>(hS b hs).2.1 (w.kL b h),fun h=>(hS b hs).2.2 (w.kT b h)⟩)
theorem cH.grow{S:Nat->Prop}{rs:List XR}(w:cH h n0 ag κ cap rs)(ok:bl h)(g:aa S h h')(hS:∀b,S b->κ b=0\/κ b=2):cH h' n0 ag κ cap rs:=
 ⟨fun i r hr=>(w.r i r hr).adf ok g (fun b hs=>by have:=hS b hs;omega),w.dP,w.dL,w.dT,w.V.grow ok g (fun b hs=>by have:=hS b hs;omega),fun b hb=>by have:=w.new b hb;have:=g.next;omega⟩
theorem cH.aX{rs:List XR}(w:cH h n0 ag κ cap rs)(ok:bl h)(g:aa aG h h'):cH h' n0 ag κ cap rs:=w.grow ok g (fun _ h=>h.elim)
theorem VA.congr(w:VA κ cap A)(e:∀b,κ b=1->κ' b=1/\iN b=cap b):VA κ' iN A:=by
 obtain⟨hl,h|⟨b,h1,h2,h3⟩⟩:=w
 .exact⟨hl,.inl h⟩
 .exact⟨hl,.inr ⟨b,h1,(e b h2).1,by rw[(e b h2).2,h3]⟩⟩
theorem RV.congr{κ' iN:Nat->Nat}{r:XR}(w:RV h κ cap ag r)(e:∀b,κ b≠0->κ' b=κ b/\iN b=cap b):RV h κ' iN ag r:=by
 have e1:∀b,κ b=1->κ' b=1/\iN b=cap b:=fun b hb=>by have:=e b (by omega);exact⟨by omega,this.2⟩
 exact⟨w.P,w.L,w.T,fun b hb=>by have:=w.kP b hb;rw[(e b (by omega)).1,this],fun b hb=>by have:=w.kL b hb;rw[(e b (by omega)).1,this],fun b hb=>by have:=w.kT b hb;rw[(e b (by omega)).1,this],fun p hp=>⟨(w.ps p hp).1,(w.ps p hp).2.congr e1⟩,fun x hx=>⟨(w.ls x hx).1,(w.ls x hx).2.1,(w.ls x hx).2.2.1,(w.ls x hx).2.2.2.congr e1⟩,w.on⟩
def xS(M:Nat)(f g:Nat->Nat)(b:Nat):Nat:=if b<M then f b else g b
theorem cH.push{rs:List XR}{κn capn:Nat->Nat}{r:XR}(w:cH h n0 ag κ cap rs)(ok:bl h)(g:aa S h h')(hS:∀b,S b->κ b=0\/κ b=2)(hn:n0<=h.next)(R:RV h' κn capn ag r)(V:Cu h' κn capn ag)(new:∀b,κn b≠0->h.next<=b/\b<h'.next):cH h' n0 ag (xS h.next κ κn) (xS h.next cap capn) (rs++[r]):=by
 have w':=w.grow ok g hS;have e1:∀b,κ b≠0->xS h.next κ κn b=κ b/\xS h.next cap capn b=cap b:=by intro b hb;have:=(w.new b hb).2;exact⟨aY this,aY this⟩
 have e2:∀b,κn b≠0->xS h.next κ κn b=κn b/\xS h.next cap capn b=capn b:=by intro b hb;have:=(new b hb).1;exact⟨bc (by omega),bc (by omega)⟩
 have sep:∀(f:XR->SV)(k:Nat),k≠0->(∀(i:Nat)(ri:XR),rs[i]?=some ri->∀b,aw (f ri).v b->κ b=k)->(∀b,aw (f r).v b->κn b=k)->(∀(i j:Nat)(ri rj:XR)(b:Nat),rs[i]?=some ri->rs[j]?=some rj->i≠j->aw (f ri).v b->¬aw (f rj).v b)->∀(i j:Nat)(ri rj:XR)(b:Nat),(rs++[r])[i]?=some ri->(rs++[r])[j]?=some rj->i≠j->aw (f ri).v b->¬aw (f rj).v b:=by
  intro f k hk h1 h2 d i j ri rj b hi hj vz hbi XL;have cases:∀(i:Nat)(x:XR),(rs++[r])[i]?=some x->rs[i]?=some x\/(i=rs.length/\x=r):=by
   intro i x hx;rcases Ae i rs.length with hl|hl
   .rw[FX hl] at hx;exact .inl hx
   .rw[HA hl] at hx;have:i-rs.length=0:=by have:=(bK.mp hx).1;simp at this;omega
    rw[this] at hx;simp at hx;exact .inr ⟨by omega,hx.symm⟩
  rcases cases i ri hi with a|⟨a1,rfl⟩
  .rcases cases j rj hj with c|⟨c1,rfl⟩
   .exact d i j ri rj b a c vz hbi XL
   .have:=w.new b (by rw[h1 i ri a b hbi];exact hk);have:=new b (by rw[h2 b XL];exact hk);omega
  .rcases cases j rj hj with c|⟨c1,rfl⟩
   .have:=w.new b (by rw[h1 j rj c b XL];exact hk);have:=new b (by rw[h2 b hbi];exact hk);omega
   .omega
 refine⟨fun i x hx=>?_,sep (·.P) 3 (by decide) (fun i ri hi=>(w.r i ri hi).kP) R.kP w.dP,sep (·.L) 4 (by decide) (fun i ri hi=>(w.r i ri hi).kL) R.kL w.dL,sep (·.T) 5 (by decide) (fun i ri hi=>(w.r i ri hi).kT) R.kT w.dT,fun b hb=>?_,fun b hb=>?_⟩
 .rcases Ae i rs.length with hl|hl
  .rw[FX hl] at hx;exact(w'.r i x hx).congr e1
  .rw[HA hl] at hx;have:x=r:=by
    have h0:i-rs.length=0:=by have:=(bK.mp hx).1;simp at this;omega
    rw[h0] at hx;simp at hx;exact hx.symm
   subst this;exact R.congr e2
 .unfold xS at hb⊢;split at hb
  .rename_i dQ;rw[aY dQ];exact w'.V b hb
  .rename_i dQ;rw[bc dQ];exact V b hb
 .unfold xS at hb;split at hb
  .have:=w'.new b hb;exact this
  .have:=new b hb;omega
theorem cH.nil(h:ab)(n0 ag:Nat):cH h n0 ag (fun _=>0) (fun _=>0) []:=⟨fun i r hr=>by simp at hr,fun i j ri rj b hr=>by simp at hr,fun i j ri rj b hr=>by simp at hr,fun i j ri rj b hr=>by simp at hr,fun b hb=>absurd hb (by decide),fun b hb=>absurd rfl hb⟩
end
theorem Jy{α β:Type}{E:Enc β}{Q:β->α->Prop} :∀(xs:List α)(f:Nat->List Value),(∀(i:Nat)(x:α),xs[i]?=some x->∃y,f i=E.enc y/\Q y x)->∃ys:List β,ys.length=xs.length/\∀(i:Nat)(y:β)(x:α),ys[i]?=some y->xs[i]?=some x->f i=E.enc y/\Q y x
 |[],f,_=>⟨[],rfl,fun i y x h=>by simp at h⟩
 |x::xs,f,H=>by
  obtain⟨y,h1,h2⟩:=H 0 x rfl;obtain⟨ys,hl,h3⟩:=Jy xs (fun i=>f (i+1)) (fun i x hx=>H (i+1) x hx);refine⟨y::ys,by simp[hl],fun i y' x' hy hx=>?_⟩;cases i with
  |zero=>simp at hy hx;subst hy;subst hx;exact⟨h1,h2⟩
  |succ i=>exact h3 i y' x' hy hx
theorem aa5(E:Enc β)(cs:List Value):∀(ys:List β),(∀(i:Nat)(y:β),ys[i]?=some y->(cs.drop (i*E.sz)).take E.sz=E.enc y)->cs.take (ys.length*E.sz)=E.flat ys:=by
 intro ys;induction ys generalizing cs with
 |nil=>intro _;simp
 |cons y ys ih=>
  intro H;have h0:=H 0 y rfl;rw[Nat.zero_mul,List.drop_zero] at h0;have h1:=ih (cs.drop E.sz) (fun i z hz=>by have:=H (i+1) z hz;rw[tW,Nat.one_mul,Nat.add_comm] at this;rw[List.drop_drop];exact this)
  rw[List.length_cons,tW,Nat.one_mul,Nat.add_comm,List.take_add,h0,h1,E.eo]
theorem SliceR.pick{R:List Value->α->Prop}{E:Enc β}{Q:β->α->Prop}{xs:List α}(s:SliceR R E.sz h v xs)(hR:∀c x,R c x->∃y,c=E.enc y/\Q y x):∃ys:List β,ys.length=xs.length/\aL E h v ys/\∀(i:Nat)(y:β)(x:α),ys[i]?=some y->xs[i]?=some x->Q y x:=by
 obtain⟨a,cap,rfl,s⟩:=s;rcases s with⟨rfl,s⟩|⟨b,off,cs,ro,o,st,rfl,hb,he⟩
 .exact⟨[],rfl,⟨a,cap,rfl,.inl ⟨rfl,s⟩⟩,fun i y x h=>by simp at h⟩
 .obtain⟨ys,hl,H⟩:=Jy (E:=E) (Q:=Q) xs (fun i=>(cs.drop (off+i*E.sz)).take E.sz) (fun i x hx=>hR _ _ (he i x hx).2);refine⟨ys,hl,⟨_,cap,by rw[hl],?_⟩,fun i y x hy hx=>(H i y x hy hx).2⟩;rcases uM xs.length with h0|h0
  .exact .inl ⟨IX (by omega),.inr ⟨b,off,rfl⟩⟩
  refine .inr ⟨b,off,cs,ro,o,st,rfl,hb,?_,?_⟩
  .rw[hl];have:=(he (xs.length-1) _ (ff (by omega))).1;rw[List.length_take,List.length_drop] at this;have hp:=E.pos;have e:xs.length*E.sz=(xs.length-1)*E.sz+E.sz:=by rw[<-Nat.succ_mul];congr 1;omega
   rw[e];omega
  .refine aa5 E (cs.drop off) ys (fun i y hy=>?_);have fu:=(bK.mp hy).1;have hx:xs[i]?=some xs[i]:=ff (by omega);rw[List.drop_drop];exact(H i y _ hy hx).1
theorem ad9{xs:List (Bool×Int)}(s:SliceR vR 2 h v xs):aL bY h v xs:=by
 obtain⟨ys,hl,s',H⟩:=SliceR.pick (E:=bY) (Q:=fun y x=>y=x) s (fun c x e=>⟨x,e,rfl⟩);have:ys=xs:=yT fun i=>by
  rcases Ae i xs.length with hi|hi
  .have h1:xs[i]?=some xs[i]:=ff hi;have h2:ys[i]?=some (ys[i]'(by omega)):=ff (by omega);rw[h2,H i _ _ h2 h1,h1]
  .rw[qY (by omega),qY (by omega)]
 exact this▸s'
structure r_(h:ab)(M ag:Nat)(κ cap:Nat->Nat):Prop where
 V:Cu h κ cap ag
 new:∀b,κ b≠0->κ b=1/\M<=b/\b<h.next
theorem r_.grow{S:Nat->Prop}{h h':ab}{M ag:Nat}{κ cap:Nat->Nat}(w:r_ h M ag κ cap)(ok:bl h)(g:aa S h h')(hS:∀b,S b->κ b=0):r_ h' M ag κ cap:=
 ⟨w.V.grow ok g (fun b hs=>by have:=hS b hs;omega),fun b hb=>by have:=w.new b hb;have:=g.next;omega⟩
def Ea(f:Nat->Nat)(A:SV)(k:Nat)(b:Nat):Nat:=match A.a with
 |some p=>if p.block=b then k else f b
 |none=>f b
theorem qU{f:Nat->Nat}(h:A.a=some ⟨b,0,none⟩):Ea f A k b=k:=by unfold Ea;rw[h];simp
theorem mi{f:Nat->Nat}(h:A.a=some ⟨b,0,none⟩)(n:b≠b'):Ea f A k b'=f b':=by unfold Ea;rw[h];simp[n]
theorem r_.add{F:SV}{vs:List (Bool×Int)}(w:r_ h M ag κ cap)(ok:bl h)(g:aa aG h h')(hM:M<=h.next)(hA:fS bY h' F vs)(hF:∀b,aw F.v b->h.next<=b)(hv:∀v∈vs,h_ ag v)(hc:F.c=F.l):∃κ' iN:Nat->Nat,r_ h' M ag κ' iN/\VA κ' iN F/\(∀b,κ b≠0->κ' b=κ b/\iN b=cap b)/\∀b,b<h.next->κ' b=κ b:=by
 have w':=w.grow ok g (fun _ h=>h.elim);obtain⟨hl,hA⟩:=hA;rcases hA with⟨ha,hc,rfl⟩|⟨b,o,s,bw,ha,hc,hb,ho⟩
 .exact⟨κ,cap,w',⟨by rw[hl];simp,.inl ⟨ha,hc⟩⟩,fun b _=>⟨rfl,rfl⟩,fun b _=>rfl⟩
 .have hr:bw=[]:=IX (by omega);subst hr;have mc:h.next<=b:=hF b (bC ha);have ne:∀b',κ b'≠0->b≠b':=fun b' jf e=>by have:=(w.new b' jf).2.2;omega
  have nd:=w'.new;refine⟨Ea κ F 1,Ea cap F vs.length,⟨fun b' jf=>?_,fun b' jf=>?_⟩,⟨by omega,.inr ⟨b,ha,qU ha,by rw[qU ha,hc];rfl⟩⟩,fun b' jf=>⟨mi ha (ne b' jf),mi ha (ne b' jf)⟩,fun b' jf=>mi ha (by omega)⟩
  .by_cases e:b=b'
   .subst e;exact⟨vs,o,s,by simpa using hb,ho,by rw[qU ha],hv⟩
   .rw[mi ha e] at jf⊢;exact w'.V b' jf
  .by_cases e:b=b'
   .subst e;exact⟨qU ha,by omega,g.ok.wf _ _ hb⟩
   .rw[mi ha e] at jf⊢;exact nd b' jf
def ac4(κ cap:Nat->Nat)(q:Int×SV)(p:GP):Prop:=q.1=p.dst/\VA κ cap q.2/\q.2.l=p.row.length
def RU(h0:ab)(q:Int×SV)(p:GP):Prop:=q.1=p.dst/\SliceR vR 2 h0 q.2.v p.row
def CpI(h0 h:ab)(e:Env)(M X s0:Nat)(xc:List Value)(P':SV)(y_:List GP)(ag:Nat)(κ0 sH:Nat->Nat)(m:Nat)(e':Env)(h':ab):Prop:=
 ∃(j:Nat) (κ cap:Nat->Nat) (qs:List (Int×SV)),m=y_.length-j/\j<=y_.length/\ax [5,6,28,29,30,31,32,33,34,35,36,37,38,39,40,41] e e'/\ai e' 28=.int .i64 j/\aa (aw P'.v) h h'/\h'.tr.get X=some (.aC xc false 0 s0)/\fS lu h' P' qs/\qs.length=y_.length/\(∀(i:Nat)(q:Int×SV)(p:GP),qs[i]?=some q->y_[i]?=some p->(i<j->ac4 κ cap q p)/\(j<=i->RU h0 q p))/\r_ h' M ag κ cap/\(∀b,b<h.next->κ b=κ0 b)/\∀b,κ0 b≠0->κ b=κ0 b/\cap b=sH b
theorem TP(gL:bl h0)(g0:aa aG h0 h)(hP:fS lu h P' qs)(cj:qs.length=y_.length)(hq:∀(i:Nat)(q:Int×SV)(p:GP),qs[i]?=some q->y_[i]?=some p->RU h0 q p)(rp:∀p∈y_,p.row.length<2000000/\∀v∈p.row,h_ ag v)(xh:y_.length<1000000)(hM0:h0.next<=M)(hMh:M<=h.next)(hPM:∀b,aw P'.v b->M<=b/\κ b=0/\b≠X)(hX:h.tr.get X=some (.aC [P'.v,L.v,.int .i64 kind,.bool on.1,.int .i64 on.2,T.v] false 0 s0))(W:r_ h M ag κ cap)(f4:ai e 4=.pointer (some ⟨X,0,none⟩))(f26:ai e 26=P'.v)(f27:ai e 27=.int .i64 y_.length)(f28:ai e 28=.int .i64 0)(C:∀e' h' κ' iN qs',ax [5,6,28,29,30,31,32,33,34,35,36,37,38,39,40,41] e e'->aa (aw P'.v) h h'->h'.tr.get X=some (.aC [P'.v,L.v,.int .i64 kind,.bool on.1,.int .i64 on.2,T.v] false 0 s0)->fS lu h' P' qs'->qs'.length=y_.length->(∀(i:Nat)(q:Int×SV)(p:GP),qs'[i]?=some q->y_[i]?=some p->ac4 κ' iN q p)->r_ h' M ag κ' iN->(∀b,b<h.next->κ' b=κ b)->(∀b,κ b≠0->κ' b=κ b/\iN b=cap b)->QQ (.exit 2) e' h'):az FF (.loop tH) e h QQ:=by
 have iF:=hP.len;refine az.loop (CpI h0 h e M X s0 [P'.v,L.v,.int .i64 kind,.bool on.1,.int .i64 on.2,T.v] P' y_ ag κ cap) ?_ (n:=y_.length)
  ⟨0,κ,cap,qs,rfl,by omega,ax.refl _ _,f28,.refl g0.ok,hX,hP,cj,fun i q p h1 h2=>⟨fun h=>by omega,fun _=>hq i q p h1 h2⟩,W,fun _ _=>rfl,fun _ _=>⟨rfl,rfl⟩⟩
 rintro m e' h'⟨j,κ1,yR,qs1,rfl,hj,K,JB,g,qq,hP1,DB,H1,W1,Yu,wN⟩;have q4:=K.at f4;have Vk:=K.at f26;have Wq:=K.at f27;have cw:=g.ok;have gg:aa aG h0 h':=g0.trans' g (fun _ _ h=>h) (fun x hx e=>by have:=(hPM x e).1;omega);unfold tH;by_cases aM:j<y_.length
 .have wj:=wrap_i64 ((j:Int)+1) (by omega) (by omega);obtain⟨p,hp⟩:=ay y_ j aM;obtain⟨q,KI⟩:=ay qs1 j;obtain⟨hq1,hq2⟩:=(H1 j q p KI hp).2 (dH _);obtain⟨rh,hrv⟩:=rp p (bU hp);obtain⟨b,cs,o,s,oG,hb,hjA,dV,cS,jh⟩:=hP1.el KI;have Qc:=hP1.len;have r0:=cS 0 2 (by decide);have oX:=cw.bE qq;have zw:=cw.st _ _ _ _ _ qq;have ob:=cw.bE hb;have nX:¬X=b:=fun e=>(hPM b (bC oG)).2.2 e.symm;simp[-ae] at r0;have xM:=qq;simp at xM;rw[oG,Qc,DB] at xM;simp at Vk;rw[oG,Qc,DB] at Vk;have Yn:s0<=h'.clock+1:=by omega
  simp[q4,Vk,Wq,JB,aM,r0,-ae,au,bj,aN,oX,aq xM,aB];refine aZ.cut (fun h5=>aa aG h' h5) ?_ ?_
  .exact((aa.refl cw).var _ _).tick
  intro h5 g5;have W5:=W1.grow cw g5 (fun _ h=>h.elim);have Ao:=g5.get cw xM;have Su:=g5.get cw hb;have ym:=gg.trans g5;refine aZ.call (V:=qn bY h5 p.row) (by simpa using iV bY (bytes:=16) iU rfl (by decide) ym.ok ((ad9 hq2).aX gL ym) rh) ?_;rintro _ h6⟨g6,F,rfl,hF,MZ,hFc⟩;have hM5:M<=h5.next:=by have:=g.next;have:=g5.next;omega
  obtain⟨κ2,J8,W6,hVF,Yv,hκ3⟩:=W5.add ym.ok g6 hM5 hF MZ hrv hFc;have Ap:=g6.get ym.ok Ao;have V3:=g6.get ym.ok Su;have HE:=dV 1 1 (by decide);simp at HE;simp[Ap,Yn,aM,V3,HE,JB,wj,q4];have gw:aa (· =b) h6 (put h6 b (j*2+1) cs [.slice F.a F.l F.c] o):=aJ g6.ok V3;have nb:∀b',b'=b->κ2 b'=0:=by
   rintro b' rfl;have h1:=(hPM b' (bC oG)).2.1;have hbh:b'<h.next:=by have:=hP.bE g0.ok (bC oG);exact this
   rw[hκ3 b' (by have:=g.next;have:=g5.next;omega),Yu b' hbh,h1]
  refine⟨y_.length-(j+1),by omega,j+1,κ2,J8,qs1.set j (q.1,F),rfl,aM,?_,by simp,?_,?_,?_,by simp[DB],?_,?_,?_,?_⟩
  .repeat (refine ax.set ?_)
   exact K
  .exact((g.trans g5.aX).trans g6.aX).trans (gw.bH (fun x _ e=>e▸bC oG))
  .have:=gw.get g6.ok Ap nX;simpa [oG,Qc,DB] using this
  .exact jh (q.1,F) 1 [F.v] (by simp) rfl _ ⟨_,aA _ _ _ _ _ _⟩
  .intro i q' p' h1 h2;rw[eu] at h1;by_cases e:j=i
   .subst e;rw[aY rfl,aY (by omega)] at h1;cases h1;rw[hp] at h2;cases h2;exact⟨fun _=>⟨hq1,hVF,hF.len⟩,fun h=>by omega⟩
   .rw[bc e] at h1;obtain⟨a1,a2⟩:=H1 i q' p' h1 h2;refine⟨fun h=>?_,fun h=>a2 (by omega)⟩;obtain⟨b1,b2,b3⟩:=a1 (by omega);exact⟨b1,b2.congr (fun b hb=>by have:=Yv b (by omega);omega),b3⟩
  .exact W6.grow g6.ok gw nb
  .intro b' jf;rw[hκ3 b' (by have:=g.next;have:=g5.next;omega),Yu b' jf]
  .intro b' jf;obtain⟨c1,c2⟩:=wN b' jf;obtain⟨c3,c4⟩:=Yv b' (by omega);exact⟨by omega,by omega⟩
 .have:j=y_.length:=by omega
  subst this;simp[Wq,JB];exact C _ _ κ1 yR qs1 (K.set) g qq hP1 DB (fun i q p h1 h2=>(H1 i q p h1 h2).1 (bK.mp h2).1) W1 Yu wN
def Iu(q:XI)(p:GI):Prop:=q.op=p.op/\q.dst=p.dst/\q.a=p.a/\q.b=p.b/\q.fn=p.fn
def ac9(κ cap:Nat->Nat)(q:XI)(p:GI):Prop:=Iu q p/\VA κ cap q.args/\q.args.l=p.args.length
def R6(h0:ab)(q:XI)(p:GI):Prop:=Iu q p/\SliceR vR 2 h0 q.args.v p.args
def CxI(h0 h:ab)(e:Env)(M X s0:Nat)(xc:List Value)(L':SV)(xs:List GI)(ag:Nat)(κ0 sH:Nat->Nat)(m:Nat)(e':Env)(h':ab):Prop:=
 ∃(j:Nat) (κ cap:Nat->Nat) (qs:List XI),m=xs.length-j/\j<=xs.length/\ax [7,8,49,50,51,52,53,54,55,56,57,58,59,60,61,62] e e'/\ai e' 49=.int .i64 j/\aa (aw L'.v) h h'/\h'.tr.get X=some (.aC xc false 0 s0)/\fS kh h' L' qs/\qs.length=xs.length/\(∀(i:Nat)(q:XI)(p:GI),qs[i]?=some q->xs[i]?=some p->(i<j->ac9 κ cap q p)/\(j<=i->R6 h0 q p))/\r_ h' M ag κ cap/\(∀b,b<h.next->κ b=κ0 b)/\∀b,κ0 b≠0->κ b=κ0 b/\cap b=sH b
theorem TO(gL:bl h0)(g0:aa aG h0 h){L' P T:SV}{qs:List XI}{xs:List GI}(hP:fS kh h L' qs)(cj:qs.length=xs.length)(hq:∀(i:Nat)(q:XI)(p:GI),qs[i]?=some q->xs[i]?=some p->R6 h0 q p)(rp:∀p∈xs,p.args.length<2000000/\∀v∈p.args,h_ ag v)(xh:xs.length<1000000)(hM0:h0.next<=M)(hMh:M<=h.next)(hPM:∀b,aw L'.v b->M<=b/\κ b=0/\b≠X)(hX:h.tr.get X=some (.aC [P.v,L'.v,.int .i64 kind,.bool on.1,.int .i64 on.2,T.v] false 0 s0))(W:r_ h M ag κ cap)(f4:ai e 4=.pointer (some ⟨X,0,none⟩))(f26:ai e 47=L'.v)(f27:ai e 48=.int .i64 xs.length)(f28:ai e 49=.int .i64 0)(C:∀e' h' κ' iN qs',ax [7,8,49,50,51,52,53,54,55,56,57,58,59,60,61,62] e e'->aa (aw L'.v) h h'->h'.tr.get X=some (.aC [P.v,L'.v,.int .i64 kind,.bool on.1,.int .i64 on.2,T.v] false 0 s0)->fS kh h' L' qs'->qs'.length=xs.length->(∀(i:Nat)(q:XI)(p:GI),qs'[i]?=some q->xs[i]?=some p->ac9 κ' iN q p)->r_ h' M ag κ' iN->(∀b,b<h.next->κ' b=κ b)->(∀b,κ b≠0->κ' b=κ b/\iN b=cap b)->QQ (.exit 4) e' h'):az FF (.loop tG) e h QQ:=by
 have iF:=hP.len;refine az.loop (CxI h0 h e M X s0 [P.v,L'.v,.int .i64 kind,.bool on.1,.int .i64 on.2,T.v] L' xs ag κ cap) ?_ (n:=xs.length)
  ⟨0,κ,cap,qs,rfl,by omega,ax.refl _ _,f28,.refl g0.ok,hX,hP,cj,fun i q p h1 h2=>⟨fun h=>by omega,fun _=>hq i q p h1 h2⟩,W,fun _ _=>rfl,fun _ _=>⟨rfl,rfl⟩⟩
 rintro m e' h'⟨j,κ1,yR,qs1,rfl,hj,K,JB,g,qq,hP1,DB,H1,W1,Yu,wN⟩;have q4:=K.at f4;have Vk:=K.at f26;have Wq:=K.at f27;have cw:=g.ok;have gg:aa aG h0 h':=g0.trans' g (fun _ _ h=>h) (fun x hx e=>by have:=(hPM x e).1;omega);unfold tG;by_cases aM:j<xs.length
 .have wj:=wrap_i64 ((j:Int)+1) (by omega) (by omega);obtain⟨p,hp⟩:=ay xs j aM;obtain⟨q,KI⟩:=ay qs1 j;obtain⟨hq1,hq2⟩:=(H1 j q p KI hp).2 (dH _);obtain⟨rh,hrv⟩:=rp p (bU hp);obtain⟨b,cs,o,s,oG,hb,hjA,dV,cS,jh⟩:=hP1.el KI;have Qc:=hP1.len;have r0:=cS 0 8 (by decide);have oX:=cw.bE qq;have zw:=cw.st _ _ _ _ _ qq;have ob:=cw.bE hb;have nX:¬X=b:=fun e=>(hPM b (bC oG)).2.2 e.symm;simp[-ae] at r0;have xM:=qq;simp at xM;rw[oG,Qc,DB] at xM;simp at Vk;rw[oG,Qc,DB] at Vk;have Yn:s0<=h'.clock+1:=by omega
  simp[q4,Vk,Wq,JB,aM,r0,-ae,au,bj,aN,oX,aq xM,aB];refine aZ.cut (fun h5=>aa aG h' h5) ?_ ?_
  .exact((aa.refl cw).var _ _).tick
  intro h5 g5;have W5:=W1.grow cw g5 (fun _ h=>h.elim);have Ao:=g5.get cw xM;have Su:=g5.get cw hb;have ym:=gg.trans g5;refine aZ.call (V:=qn bY h5 p.args) (by simpa using iV bY (bytes:=16) iU rfl (by decide) ym.ok ((ad9 hq2).aX gL ym) rh) ?_;rintro _ h6⟨g6,F,rfl,hF,MZ,hFc⟩;have hM5:M<=h5.next:=by have:=g.next;have:=g5.next;omega
  obtain⟨κ2,J8,W6,hVF,Yv,hκ3⟩:=W5.add ym.ok g6 hM5 hF MZ hrv hFc;have Ap:=g6.get ym.ok Ao;have V3:=g6.get ym.ok Su;have HE:=dV 7 1 (by decide);simp at HE;simp[Ap,Yn,aM,V3,HE,JB,wj,q4];have gw:aa (· =b) h6 (put h6 b (j*8+7) cs [.slice F.a F.l F.c] o):=aJ g6.ok V3;have nb:∀b',b'=b->κ2 b'=0:=by
   rintro b' rfl;have h1:=(hPM b' (bC oG)).2.1;have hbh:b'<h.next:=by have:=hP.bE g0.ok (bC oG);exact this
   rw[hκ3 b' (by have:=g.next;have:=g5.next;omega),Yu b' hbh,h1]
  refine⟨xs.length-(j+1),by omega,j+1,κ2,J8,qs1.set j {q with args:=F},rfl,aM,?_,by simp,?_,?_,?_,by simp[DB],?_,?_,?_,?_⟩
  .repeat (refine ax.set ?_)
   exact K
  .exact((g.trans g5.aX).trans g6.aX).trans (gw.bH (fun x _ e=>e▸bC oG))
  .have:=gw.get g6.ok Ap nX;simpa [oG,Qc,DB] using this
  .exact jh {q with args:=F} 7 [F.v] (by simp) rfl _ ⟨_,aA _ _ _ _ _ _⟩
  .intro i q' p' h1 h2;rw[eu] at h1;by_cases e:j=i
   .subst e;rw[aY rfl,aY (by omega)] at h1;cases h1;rw[hp] at h2;cases h2;exact⟨fun _=>⟨hq1,hVF,hF.len⟩,fun h=>by omega⟩
   .rw[bc e] at h1;obtain⟨a1,a2⟩:=H1 i q' p' h1 h2;refine⟨fun h=>?_,fun h=>a2 (by omega)⟩;obtain⟨b1,b2,b3⟩:=a1 (by omega);exact⟨b1,b2.congr (fun b hb=>by have:=Yv b (by omega);omega),b3⟩
  .exact W6.grow g6.ok gw nb
  .intro b' jf;rw[hκ3 b' (by have:=g.next;have:=g5.next;omega),Yu b' jf]
  .intro b' jf;obtain⟨c1,c2⟩:=wN b' jf;obtain⟨c3,c4⟩:=Yv b' (by omega);exact⟨by omega,by omega⟩
 .have:j=xs.length:=by omega
  subst this;simp[Wq,JB];exact C _ _ κ1 yR qs1 (K.set) g qq hP1 DB (fun i q p h1 h2=>(H1 i q p h1 h2).1 (bK.mp h2).1) W1 Yu wN
structure InB(ag:Nat)(b:GB):Prop where
 lp:b.dk.length<1000000
 ll:b.list.length<1000000
 lt:b.to.length<1000000
 ph:∀p∈b.dk,(0<=p.dst/\p.dst<ag)/\p.row.length<2000000/\∀v∈p.row,h_ ag v
 li:∀x∈b.list,x.dst<ag/\h_ ag x.a/\h_ ag x.b/\x.args.length<2000000/\∀v∈x.args,h_ ag v
 on:h_ ag b.on
structure RD(r:XR)(b:GB):Prop where
 kind:r.kind=b.kind
 on:r.on=b.on
 to:r.ts=b.to
 pl:r.ps.length=b.dk.length
 ps:∀(i:Nat)(q:Int×SV)(p:GP),r.ps[i]?=some q->b.dk[i]?=some p->q.1=p.dst/\q.2.l=p.row.length
 ll:r.ls.length=b.list.length
 ls:∀(i:Nat)(q:XI)(p:GI),r.ls[i]?=some q->b.list[i]?=some p->Iu q p/\q.args.l=p.args.length
structure R7(h0:ab)(y:XR)(b:GB):Prop where
 kind:y.kind=b.kind
 on:y.on=b.on
 P:SliceR (pR h0) 2 h0 y.P.v b.dk
 L:SliceR (iR h0) 8 h0 y.L.v b.list
 T:SliceR nR 1 h0 y.T.v b.to
theorem adW{xs:List Int}(s:SliceR nR 1 h v xs):aL bg h v xs:=by
 obtain⟨ys,hl,s',H⟩:=SliceR.pick (E:=bg) (Q:=fun y x=>y=x) s (fun c x e=>⟨x,e,rfl⟩);have:ys=xs:=yT fun i=>by
  rcases Ae i xs.length with hi|hi
  .have h1:xs[i]?=some xs[i]:=ff hi;have h2:ys[i]?=some (ys[i]'(by omega)):=ff (by omega);rw[h2,H i _ _ h2 h1,h1]
  .rw[qY (by omega),qY (by omega)]
 exact this▸s'
theorem ams{xs:List GP}(s:SliceR (pR h) 2 h v xs):∃qs:List (Int×SV),qs.length=xs.length/\aL lu h v qs/\∀(i:Nat)(q:Int×SV)(p:GP),qs[i]?=some q->xs[i]?=some p->RU h q p:=
 SliceR.pick (E:=lu) (Q:=RU h) s (fun c x ⟨A,e,hA⟩=>⟨(x.dst,A),e,rfl,hA⟩)
theorem al2{xs:List GI}(s:SliceR (iR h) 8 h v xs):∃qs:List XI,qs.length=xs.length/\aL kh h v qs/\∀(i:Nat)(q:XI)(p:GI),qs[i]?=some q->xs[i]?=some p->R6 h q p:=
 SliceR.pick (E:=kh) (Q:=R6 h) s (fun c x ⟨A,e,hA⟩=>⟨⟨x.op,x.dst,x.a,x.b,x.fn,A⟩,e,⟨rfl,rfl,rfl,rfl,rfl⟩,hA⟩)
theorem ajg{xs:List GB}(s:SliceR (bR h) 6 h v xs):∃ys:List XR,ys.length=xs.length/\aL eW h v ys/\∀(i:Nat)(y:XR)(b:GB),ys[i]?=some y->xs[i]?=some b->R7 h y b:=
 SliceR.pick (E:=eW) (Q:=R7 h) s (fun c x ⟨P,L,T,e,sP,sL,sT⟩=>⟨⟨P,L,T,x.kind,x.on,[],[],[]⟩,e,rfl,rfl,sP,sL,sT⟩)
theorem atq(W:r_ h M ag κ cap)(ok:bl h){P L T:SV}{kind:Int}{ps:List (Int×SV)}{ls:List XI}{ts:List Int}(hP:fS lu h P ps)(hL:fS kh h L ls)(hT:fS bg h T ts)(nP:∀b,aw P.v b->M<=b/\κ b=0/\¬aw L.v b/\¬aw T.v b)(nL:∀b,aw L.v b->M<=b/\κ b=0/\¬aw T.v b)(nT:∀b,aw T.v b->M<=b/\κ b=0)(iT:∀p∈ps,(0<=p.1/\p.1<ag)/\VA κ cap p.2)(LQ:∀x∈ls,x.dst<ag/\h_ ag x.a/\h_ ag x.b/\VA κ cap x.args)(hon:h_ ag on):∃κn:Nat->Nat,RV h κn cap ag ⟨P,L,T,kind,on,ps,ls,ts⟩/\Cu h κn cap ag/\(∀b,κn b≠0->M<=b/\b<h.next)/\∀b,κn b=1->κ b=1:=by
 
 have Zc:∀ {α:Type} (E:Enc α) (κ:Nat->Nat) (A:SV) (xs:List α) (k:Nat),fS E h A xs->∃κ':Nat->Nat,(∀b,aw A.v b->κ' b=k)/\(∀b,¬aw A.v b->κ' b=κ b):=by
  intro α E κ A xs k hA;rcases hA.2 with⟨ha,_⟩|⟨b,_,_,_,ha,_⟩
  .exact⟨κ,fun b hb=>(eV ha hb).elim,fun b _=>rfl⟩
  .exact⟨Ea κ A k,fun b' hb=>by rw[iD ha hb];exact qU ha,fun b' hb=>mi ha (fun e=>hb (e▸bC ha))⟩
 obtain⟨κ1,p1,q1⟩:=Zc lu κ P ps 3 hP;obtain⟨κ2,p2,q2⟩:=Zc kh κ1 L ls 4 hL;obtain⟨κ3,p3,q3⟩:=Zc bg κ2 T ts 5 hT;have bE:∀b,κ b≠0->κ3 b=κ b:=by intro b hb;have h1:¬aw P.v b:=fun h=>hb (nP b h).2.1;have h2:¬aw L.v b:=fun h=>hb (nL b h).2.1;have h3:¬aw T.v b:=fun h=>hb (nT b h).2;rw[q3 b h3,q2 b h2,q1 b h1]
 have one:∀b,κ b=1->κ3 b=1/\cap b=cap b:=fun b hb=>⟨by rw[bE b (by omega),hb],rfl⟩;refine⟨κ3,⟨hP,hL,hT,fun b hb=>?_,fun b hb=>?_,p3,fun p hp=>⟨(iT p hp).1,(iT p hp).2.congr one⟩,fun x hx=>⟨(LQ x hx).1,(LQ x hx).2.1,(LQ x hx).2.2.1,(LQ x hx).2.2.2.congr one⟩,hon⟩,fun b hb=>?_,fun b hb=>?_,fun b hb=>?_⟩
 .have:=nP b hb;rw[q3 b this.2.2.2,q2 b this.2.2.1,p1 b hb]
 .have:=nL b hb;rw[q3 b this.2.2,p2 b hb]
 .by_cases h3:aw T.v b
  .rw[p3 b h3] at hb;omega
  .rw[q3 b h3] at hb;by_cases h2:aw L.v b
   .rw[p2 b h2] at hb;omega
   .rw[q2 b h2] at hb;by_cases h1:aw P.v b
    .rw[p1 b h1] at hb;omega
    .rw[q1 b h1] at hb;exact W.V b hb
 .by_cases h3:aw T.v b
  .exact⟨(nT b h3).1,hT.bE ok h3⟩
  .rw[q3 b h3] at hb;by_cases h2:aw L.v b
   .exact⟨(nL b h2).1,hL.bE ok h2⟩
   .rw[q2 b h2] at hb;by_cases h1:aw P.v b
    .exact⟨(nP b h1).1,hP.bE ok h1⟩
    .rw[q1 b h1] at hb;exact(W.new b hb).2
 .by_cases h3:aw T.v b
  .rw[p3 b h3] at hb;omega
  .rw[q3 b h3] at hb;by_cases h2:aw L.v b
   .rw[p2 b h2] at hb;omega
   .rw[q2 b h2] at hb;by_cases h1:aw P.v b
    .rw[p1 b h1] at hb;omega
    .rw[q1 b h1] at hb;exact hb
def CyI(h0 h1:ab)(M0 ag F R:Nat)(name:ByteArray)(p r:Int)(B':SV)(bs:List GB)(m:Nat)(e:Env)(h':ab):Prop:=
 ∃(j:Nat) (ys rs:List XR) (κ cap:Nat->Nat),m=bs.length-j/\j<=bs.length/\ai e 1=.pointer (some ⟨F,0,none⟩)/\ai e 2=.pointer (some ⟨R,0,none⟩)/\ai e 14=B'.v/\ai e 15=.int .i64 bs.length/\ai e 16=.int .i64 j/\aa (aw B'.v) h1 h'/\fS eW h' B' ys/\ys.length=bs.length/\rs.length=j/\cH h' M0 ag κ cap rs/\(∀(i:Nat)(y:XR)(b:GB),ys[i]?=some y->bs[i]?=some b->(i<j->rs[i]?=some y/\RD y b)/\(j<=i->R7 h0 y b))
theorem MJ(gL:bl h0)(g1:aa aG h0 h1){M0 ag F R s1 s2:Nat}{p r:Int}{B':SV}{ys:List XR}(hB:fS eW h1 B' ys)(vC:ys.length=bs.length)(hy:∀(i:Nat)(y:XR)(b:GB),ys[i]?=some y->bs[i]?=some b->R7 h0 y b)(oJ:∀b∈bs,InB ag b)(ma:bs.length<1000000)(hM:M0<=h1.next)(hBM:∀b,aw B'.v b->h0.next<=b/\b<M0/\b≠F/\b≠R)(h0M:h0.next<=M0)(hFM:F<M0)(hRM:R<M0)(hF:h1.tr.get F=some (.aC (aj name p r B') false 0 s1))(hR:h1.tr.get R=some (.aC [.string ⟨⟨[]⟩⟩,.int .i64 0,.int .i64 0,.slice none 0 0] false 0 s2))(f1:ai e 1=.pointer (some ⟨F,0,none⟩))(f2:ai e 2=.pointer (some ⟨R,0,none⟩))(f14:ai e 14=B'.v)(f15:ai e 15=.int .i64 bs.length)(f16:ai e 16=.int .i64 0)(C:∀e' h' RJ κ cap,ai e' 1=.pointer (some ⟨F,0,none⟩)->ai e' 2=.pointer (some ⟨R,0,none⟩)->aa (aw B'.v) h1 h'->fS eW h' B' RJ->RJ.length=bs.length->cH h' M0 ag κ cap RJ->(∀(i:Nat)(y:XR)(b:GB),RJ[i]?=some y->bs[i]?=some b->RD y b)->QQ (.exit 0) e' h'):az FF (.loop tI) e h1 QQ:=by
 have cV:=hB.len;refine az.loop (CyI h0 h1 M0 ag F R name p r B' bs) ?_ (n:=bs.length) ⟨0,ys,[],_,_,rfl,by omega,f1,f2,f14,f15,f16,.refl g1.ok,hB,vC,rfl,cH.nil h1 M0 ag,fun i y b h1 h2=>⟨fun h=>by omega,fun _=>hy i y b h1 h2⟩⟩;rintro m e' h'⟨j,ys,rs,κ,cap,rfl,hj,q1,q2,JA,yE,wX,g,hB,vC,rh,W,H⟩;have CV:=g.ok;have gg:aa aG h0 h':=g1.trans' g (fun _ _ h=>h) (fun x hx e=>by have:=(hBM x e).1;omega);have u5:=g.get g1.ok hF (fun e=>(hBM F e).2.2.1 rfl);have hR':=g.get g1.ok hR (fun e=>(hBM R e).2.2.2 rfl);unfold tI;by_cases aM:j<bs.length
 .have wj:=wrap_i64 ((j:Int)+1) (by omega) (by omega);obtain⟨b,hb⟩:=ay bs j aM;obtain⟨y,hyj⟩:=ay ys j;have hT:=(H j y b hyj hb).2 (dH _);have I:=oJ b (bU hb);obtain⟨bB,cs,oB,sB,dZ,Ak,Ur,dV,cS,jh⟩:=hB.el hyj;have cV:=hB.len;have r0:=cS 0 6 (by decide);simp[-ae] at r0;simp at JA;rw[dZ,cV,vC] at JA;have iF:=SliceR.len hT.P;have tc:=SliceR.len hT.L;have vj:=SliceR.len hT.T;simp[JA,yE,wX,aM,r0,-ae,au];refine aF.cut (fun h2=>aa aG h' h2/\(∃s,h2.tr.get h'.next=some (.aC [y.P.v,y.L.v,.int .i64 y.kind,.bool y.on.1,.int .i64 y.on.2,y.T.v] false 0 s))) ⟨(aa.refl CV).var _ _,_,aA _ _ _ _ _ _⟩ ?_;rintro h2⟨g2,s3,ef⟩;have jd:=gg.trans g2;have lX:h'.next<h2.next:=jd.ok.wf _ _ ef;obtain⟨qs0,abA,asq,hq0⟩:=ams hT.P;refine aF.call (V:=qn lu h2 qs0) (by simpa using iV lu (bytes:=32) pa rfl (by decide) jd.ok (asq.aX gL jd) (by have:=I.lp;omega)) ?_;rintro _ h3⟨g3,P',rfl,hP3,hPn,_⟩;have iO:=g3.get jd.ok ef;have dw:=jd.trans g3;have XC:=hP3.len;simp at iO;simp[iO,XC,abA];refine az.cut (fun h4=>aa (· =h'.next) h3 h4/\(∃s,h4.tr.get h'.next=some (.aC [P'.v,y.L.v,.int .i64 y.kind,.bool y.on.1,.int .i64 y.on.2,y.T.v] false 0 s))) ?_ ?_
  .refine⟨aJ dw.ok iO,h3.clock,?_⟩;rw[aA];simp[XC,abA,aR]
  rintro h4⟨g4,s4,vS⟩;have oE:aa aG h0 h4:=dw.trans' g4 (fun _ _ h=>h) (fun x hx e=>by have:=gg.next;omega);have hP4:fS lu h4 P' qs0:=hP3.grow dw.ok g4 (fun b hb e=>by have:=hPn b hb;omega);have lnX4:h'.next<h4.next:=by have:=g3.next;have:=g4.next;omega
  have V4:r_ h4 h'.next ag (fun _=>0) (fun _=>0):=⟨fun b hb=>absurd hb (by decide),fun b hb=>absurd rfl hb⟩;have ln4:h'.next<=h4.next:=by have:=g2.next;have:=g3.next;have:=g4.next;omega
  refine TP gL oE (ag:=ag) (M:=h'.next) hP4 abA hq0 (fun p hp=>⟨(I.ph p hp).2.1,(I.ph p hp).2.2⟩) I.lp gg.next ln4 (fun b hb=>⟨by have:=hPn b hb;omega,rfl,by have:=hPn b hb;omega⟩) vS V4 (by simp) (by simp[XC,abA]) (by simp) (by simp) ?_;intro e5 h5 κ5 aet qs5 K5 g5 Ao hP5 asr hq5 V5 hκ5 _;have ok4:=oE.ok;have ln5:h4.next<=h5.next:=g5.next;have ym:aa aG h0 h5:=oE.trans' g5 (fun _ _ h=>h) (fun x hx e=>by have:=hPn x e;have:=gg.next;omega);have k1:=K5.at (t:=1) (by simp;exact q1);have k2:=K5.at (t:=2) (by simp;exact q2);have k3:ai e5 3=.int .i64 j:=K5.at (t:=3) (by simp);have k4:ai e5 4=.pointer (some ⟨h'.next,0,none⟩):=K5.at (t:=4) (by simp);have k14:=K5.at (t:=14) (by simp;exact JA);have k15:=K5.at (t:=15) (by simp;exact yE);have k16:=K5.at (t:=16) (by simp;exact wX);have YC:∀x,aw P'.v x->x<h4.next:=fun x hx=>hP4.bE ok4 hx;simp at Ao;simp[k4,Ao];obtain⟨xs0,abJ,as4,Nk⟩:=al2 hT.L;refine aF.call (V:=qn kh h5 xs0) (by simpa using iV kh (bytes:=80) o9 rfl (by decide) ym.ok (as4.aX gL ym) (by have:=I.ll;omega)) ?_;rintro _ h6⟨g6,L',rfl,Qb,VZ,_⟩;have Ap:=g6.get ym.ok Ao;have Xv:=ym.trans g6;have ae3:=Qb.len;have V6:=V5.grow ym.ok g6 (fun _ h=>h.elim);simp[k4,Ap,ae3,abJ];refine az.cut (fun h7=>aa (· =h'.next) h6 h7/\(∃s,h7.tr.get h'.next=some (.aC [P'.v,L'.v,.int .i64 y.kind,.bool y.on.1,.int .i64 y.on.2,y.T.v] false 0 s))) ?_ ?_
  .refine⟨aJ Xv.ok Ap,h6.clock,?_⟩;rw[aA];simp[ae3,abJ,aR]
  rintro h7⟨g7,s7,Ss⟩;have gg7:aa aG h0 h7:=Xv.trans' g7 (fun _ _ h=>h) (fun x hx e=>by have:=gg.next;omega);have hL7:fS kh h7 L' xs0:=Qb.grow Xv.ok g7 (fun b hb e=>by have:=VZ b hb;have:=g5.next;omega);have nX5:κ5 h'.next=0:=hκ5 _ (by have:=g3.next;have:=g4.next;omega);have V7:r_ h7 h'.next ag κ5 aet:=V6.grow Xv.ok g7 (fun b e=>by rw[e];exact nX5);have ln7:h5.next<=h7.next:=by have:=g6.next;have:=g7.next;omega
  refine TO gL gg7 (ag:=ag) (M:=h'.next) (kind:=y.kind) (on:=y.on) (P:=P') (T:=y.T) hL7 abJ Nk (fun p hp=>⟨(I.li p hp).2.2.2.1,(I.li p hp).2.2.2.2⟩) I.ll gg.next (by omega) (fun b hb=>⟨by have:=VZ b hb;omega,?_,by have:=VZ b hb;omega⟩) Ss V7 (by simp[k4]) (by simp[ae3,abJ]) (by simp) (by simp) ?_
  .rcases uM (κ5 b) with h|h
   .exact h
   .have:=VZ b hb;have:=(V5.new b (by omega)).2.2;omega
  intro e8 h8 κ8 cap8 xs8 K8 g8 hX8 hL8 as6 hx8 V8 hκ8 hc8;have ok7:=gg7.ok;have gg8:aa aG h0 h8:=gg7.trans' g8 (fun _ _ h=>h) (fun x hx e=>by have:=VZ x e;have:=ym.next;omega);have m1:=K8.at (t:=1) (by simp;exact k1);have m2:=K8.at (t:=2) (by simp;exact k2);have m3:ai e8 3=.int .i64 j:=K8.at (t:=3) (by simp;exact k3);have m4:ai e8 4=.pointer (some ⟨h'.next,0,none⟩):=K8.at (t:=4) (by simp;exact k4);have m14:=K8.at (t:=14) (by simp;exact k14);have m15:=K8.at (t:=15) (by simp;exact k15);have m16:=K8.at (t:=16) (by simp;exact k16);simp at hX8;simp[m4,hX8];refine aF.call (V:=qn bg h8 b.to) (by simpa using iV bg (bytes:=8) jo rfl (by decide) gg8.ok ((adW hT.T).aX gL gg8) (by have:=I.lt;omega)) ?_;rintro _ h9⟨g9,T',rfl,hT9,hTn,_⟩;have hX9:=g9.get gg8.ok hX8;have gg9:=gg8.trans g9;have ln8:h7.next<=h8.next:=g8.next
  
  have gB:aa (aw B'.v) h' h9:=by have a1:aa aG h' h4:=(g2.trans g3).trans' g4 (fun _ _ h=>h) (fun x hx e=>by omega);have a2:aa aG h' h5:=a1.trans' g5 (fun _ _ h=>h) (fun x hx e=>by have:=hPn x e;omega);have a3:aa aG h' h7:=(a2.trans g6).trans' g7 (fun _ _ h=>h) (fun x hx e=>by omega);have a4:aa aG h' h8:=a3.trans' g8 (fun _ _ h=>h) (fun x hx e=>by have:=VZ x e;have:=a2.next;omega);exact(a4.trans g9).aX
  have gN:aa aG h' h9:=by have a1:aa aG h' h4:=(g2.trans g3).trans' g4 (fun _ _ h=>h) (fun x hx e=>by omega);have a2:aa aG h' h5:=a1.trans' g5 (fun _ _ h=>h) (fun x hx e=>by have:=hPn x e;omega);have a3:aa aG h' h7:=(a2.trans g6).trans' g7 (fun _ _ h=>h) (fun x hx e=>by omega);have a4:aa aG h' h8:=a3.trans' g8 (fun _ _ h=>h) (fun x hx e=>by have:=VZ x e;have:=a2.next;omega);exact a4.trans g9
  have hF9:=gN.get CV u5;have hR9:=gN.get CV hR';have ajT:=gN.get CV Ak;simp[aj] at hF9;rw[dZ,cV,vC] at hF9;have lB:=(CV.bE Ak).lt;have lF:=(CV.bE u5).lt;have nFX:¬F=h'.next:=by omega
  have nBX:¬bB=h'.next:=by omega
  have hf6:=dV 0 6 (by decide);simp at hf6;simp[m1,m3,m4,m16,hX9,hF9,nFX,nBX,aM,ajT,hf6,wj];have V9:=V8.grow gg8.ok g9 (fun _ h=>h.elim);have hP7:fS lu h7 P' qs5:=(hP5.aX ym.ok g6).grow Xv.ok g7 (fun b hb e=>by have:=hPn b hb;omega);have hP9:fS lu h9 P' qs5:=(hP7.grow gg7.ok g8 (fun b hb e=>by have:=VZ b e;have:=YC b hb;omega)).aX gg8.ok g9;have hL9:=hL8.aX gg8.ok g9;have lL7:∀x,aw L'.v x->x<h7.next:=fun x hx=>hL7.bE gg7.ok hx;obtain⟨κn,R9,Vn9,agD,atJ⟩:=atq V9 gg9.ok (kind:=y.kind) (on:=y.on) hP9 hL9 hT9
   (fun b hb=>⟨by have:=hPn b hb;omega,by rw[hκ8 b (by have:=YC b hb;omega),hκ5 b (YC b hb)],fun h=>by have:=VZ b h;have:=YC b hb;omega,fun h=>by have:=hTn b h;have:=YC b hb;omega⟩)
   (fun b hb=>⟨by have:=VZ b hb;omega,by
    rw[hκ8 b (lL7 b hb)];rcases uM (κ5 b) with h|h
    .exact h
    .have:=VZ b hb;have:=(V5.new b (by omega)).2.2;omega,fun h=>by have:=hTn b h;have:=lL7 b hb;omega⟩)
   (fun b hb=>⟨by have:=hTn b hb;omega,by
    rcases uM (κ8 b) with h|h
    .exact h
    .have:=hTn b hb;have:=(V8.new b (by omega)).2.2;omega⟩)
   (fun q hq=>by obtain⟨i,hi⟩:=oD hq;have fu:=(bK.mp hi).1;have hpi:b.dk[i]?=some (b.dk[i]'(by omega)):=ff (by omega);have LU:=bU hpi;obtain⟨a1,a2,_⟩:=hq5 i q _ hi hpi;have:=(I.ph _ LU).1;refine⟨by rw[a1];exact this,a2.congr (fun b' jf=>?_)⟩;obtain⟨c1,c2⟩:=hc8 b' (by omega);exact⟨by omega,c2⟩)
   (fun x hx=>by obtain⟨i,hi⟩:=oD hx;have fu:=(bK.mp hi).1;have hpi:b.list[i]?=some (b.list[i]'(by omega)):=ff (by omega);have LU:=bU hpi;obtain⟨⟨_,a1,a2,a3,_⟩,a4,_⟩:=hx8 i x _ hi hpi;obtain⟨c1,c2,c3,_⟩:=I.li _ LU;exact⟨by rw[a1];exact c1,by rw[a2];exact c2,by rw[a3];exact c3,a4⟩)
   (by rw[hT.on];exact I.on)
  have hκX:κ8 h'.next=0:=by rw[hκ8 _ (by omega)];exact nX5
  obtain⟨Aj,VW⟩:∃Aj,Aj=put h9 h'.next 5 [.slice P'.a P'.l P'.c,.slice L'.a L'.l L'.c,.int .i64 y.kind,.bool y.on.1,.int .i64 y.on.2,.slice y.T.a y.T.l y.T.c] [.slice T'.a T'.l T'.c] 0:=⟨_,rfl⟩;rw[<-VW];have yl:aa (· =h'.next) h9 Aj:=by rw[VW];exact aJ gg9.ok hX9
  have ajS:=yl.get gg9.ok ajT nBX;have ED:aa (· =bB) Aj (put Aj bB (j*6) cs [.slice P'.a P'.l P'.c,.slice L'.a L'.l L'.c,.int .i64 y.kind,.bool y.on.1,.int .i64 y.on.2,.slice T'.a T'.l T'.c] oB):=aJ yl.ok ajS;have gS:aa (fun x=>x=h'.next\/x=bB) h9 (put Aj bB (j*6) cs [.slice P'.a P'.l P'.c,.slice L'.a L'.l L'.c,.int .i64 y.kind,.bool y.on.1,.int .i64 y.on.2,.slice T'.a T'.l T'.c] oB):=yl.trans' ED (fun _ _ h=>.inl h) (fun _ _ h=>.inr h);have n1:∀x,(x=h'.next\/x=bB)->¬aw P'.v x/\¬aw L'.v x/\¬aw T'.v x:=by
   intro x hx;refine⟨fun h=>?_,fun h=>?_,fun h=>?_⟩
   .have:=hPn x h;omega
   .have:=VZ x h;omega
   .have:=hTn x h;omega
  have Rf:=R9.grow gg9.ok gS n1;have Vf:=Vn9.grow gg9.ok gS (fun x hx h1=>by
   have h2:=atJ x h1;have h3:=agD x (by omega);rcases hx with rfl|rfl
   .omega
   .omega)
  have gF:aa (aw B'.v) h' (put Aj bB (j*6) cs [.slice P'.a P'.l P'.c,.slice L'.a L'.l L'.c,.int .i64 y.kind,.bool y.on.1,.int .i64 y.on.2,.slice T'.a T'.l T'.c] oB):=
   gN.trans' gS (fun _ _ h=>h.elim) (fun x hx h=>by
    rcases h with rfl|rfl
    .omega
    .exact bC dZ)
  have hκB:∀x,aw B'.v x->κ x=0\/κ x=2:=by
   intro x hx;rcases uM (κ x) with h|h
   .exact .inl h
   .have:=(W.new x (by omega)).1;have:=(hBM x hx).2.1;omega
  have Wf:=W.push CV gF hκB (by have:=g.next;omega) Rf Vf (fun x hx=>⟨(agD x hx).1,by have:=(agD x hx).2;have:=gS.next;omega⟩);have adG:=jh ⟨P',L',T',y.kind,y.on,qs5,xs8,b.to⟩ 0 [.slice P'.a P'.l P'.c,.slice L'.a L'.l L'.c,.int .i64 y.kind,.bool y.on.1,.int .i64 y.on.2,.slice T'.a T'.l T'.c] (by simp) rfl (put Aj bB (j*6) cs [.slice P'.a P'.l P'.c,.slice L'.a L'.l L'.c,.int .i64 y.kind,.bool y.on.1,.int .i64 y.on.2,.slice T'.a T'.l T'.c] oB) ⟨_,aA _ _ _ _ _ _⟩;refine⟨bs.length-(j+1),by omega,j+1,ys.set j ⟨P',L',T',y.kind,y.on,qs5,xs8,b.to⟩,rs++[⟨P',L',T',y.kind,y.on,qs5,xs8,b.to⟩],_,_,rfl,aM,by simp[m1],by simp[m2],by simp[m14,dZ,cV,vC],by simp[m15],by simp,g.trans gF,adG,by simp[vC],by simp[rh],Wf,fun i y' b' h1 h2=>?_⟩;rw[eu] at h1;by_cases e:j=i
  .subst e;rw[aY rfl,aY (by omega)] at h1;cases h1;rw[hb] at h2;cases h2;refine⟨fun _=>⟨by rw[HA (by omega),rh];simp,⟨hT.kind,hT.on,rfl,asr,fun i q p a1 a2=>?_,as6,fun i q p a1 a2=>⟨(hx8 i q p a1 a2).1,(hx8 i q p a1 a2).2.2⟩⟩⟩,fun h=>by omega⟩;obtain⟨c1,_,c3⟩:=hq5 i q p a1 a2;exact⟨c1,c3⟩
  .rw[bc e] at h1;obtain⟨a1,a2⟩:=H i y' b' h1 h2;refine⟨fun h=>?_,fun h=>a2 (by omega)⟩;obtain⟨c1,c2⟩:=a1 (by omega);exact⟨by rw[FX (by omega)];exact c1,c2⟩
 .have:j=bs.length:=by omega
  subst this;have e:ys=rs:=yT fun i=>by
   rcases Ae i bs.length with hi|hi
   .have h1:ys[i]?=some (ys[i]'(by omega)):=ff (by omega);have h2:bs[i]?=some bs[i]:=ff hi;rw[h1,((H i _ _ h1 h2).1 hi).1]
   .rw[qY (by omega),qY (by omega)]
  subst e;simp[yE,wX];exact C _ _ ys κ cap (by simp[q1]) (by simp[q2]) g hB vC W (fun i y b h1 h2=>((H i y b h1 h2).1 (bK.mp h2).1).2)
structure kW(h:ab)(n0 ag:Nat)(κ cap:Nat->Nat)(B:SV)(rs:List XR):Prop where
 os:cH h n0 ag κ cap rs
 A:fS eW h B rs
 kB:∀b,aw B.v b->κ b=2
theorem kW.aX{h h':ab}{n0 ag:Nat}{κ cap:Nat->Nat}{B:SV}{rs:List XR}(w:kW h n0 ag κ cap B rs)(ok:bl h)(g:aa aG h h'):kW h' n0 ag κ cap B rs:=⟨w.os.aX ok g,w.A.aX ok g,w.kB⟩
theorem kW.grow{S:Nat->Prop}{h h':ab}{n0 ag:Nat}{κ cap:Nat->Nat}{B:SV}{rs:List XR}(w:kW h n0 ag κ cap B rs)(ok:bl h)(g:aa S h h')(hS:∀b,S b->κ b=0):kW h' n0 ag κ cap B rs:=
 ⟨w.os.grow ok g (fun b hb=>.inl (hS b hb)),w.A.grow ok g (fun b hb hs=>by have:=hS b hs;have:=w.kB b hb;omega),w.kB⟩
theorem cH.own{rs:List XR}(w:cH h n1 ag κ cap rs)(ok:bl h)(hB:fS eW h B rs)(hn:n0<=n1)(VY:∀b,aw B.v b->n0<=b/\κ b=0):∃κ':Nat->Nat,kW h n0 ag κ' cap B rs/\∀b,¬aw B.v b->κ' b=κ b:=by
 obtain⟨κ',p1,q1⟩:∃κ':Nat->Nat,(∀b,aw B.v b->κ' b=2)/\(∀b,¬aw B.v b->κ' b=κ b):=by
  rcases hB.2 with⟨ha,_⟩|⟨b,_,_,_,ha,_⟩
  .exact⟨κ,fun b hb=>(eV ha hb).elim,fun b _=>rfl⟩
  .exact⟨Ea κ B 2,fun b' hb=>by rw[iD ha hb];exact qU ha,fun b' hb=>mi ha (fun e=>hb (e▸bC ha))⟩
 have e1:∀b,κ b≠0->κ' b=κ b/\cap b=cap b:=fun b hb=>⟨q1 b (fun h=>hb (VY b h).2),rfl⟩;refine⟨κ',⟨⟨fun i r hr=>(w.r i r hr).congr e1,w.dP,w.dL,w.dT,fun b hb=>?_,fun b hb=>?_⟩,hB,p1⟩,q1⟩
 .by_cases h1:aw B.v b
  .rw[p1 b h1] at hb;omega
  .rw[q1 b h1] at hb;exact w.V b hb
 .by_cases h1:aw B.v b
  .exact⟨(VY b h1).1,hB.bE ok h1⟩
  .rw[q1 b h1] at hb;have:=w.new b hb;omega
def Pd(rs:List XR)(bs:List GB):Prop:=rs.length=bs.length/\∀(i:Nat)(y:XR)(b:GB),rs[i]?=some y->bs[i]?=some b->RD y b
def acY(name:ByteArray)(p r:Int)(ag:Nat)(bs:List GB)(h:ab)(v:Value)(h':ab):Prop:=
 aa aG h h'/\∃(B':SV) (rs:List XR) (κ cap:Nat->Nat),v=.agg ⟨aj name p r B'⟩/\kW h' h.next ag κ cap B' rs/\Pd rs bs
theorem TN(ok:bl h){name:ByteArray}{p r:Int}(hB:yM h B bs)(oJ:∀b∈bs,InB ag b)(ma:bs.length<1000000):aE FF BM [.agg ⟨aj name p r B⟩] h (acY name p r ag bs h):=by
 refine aE.of J1 ?_;unfold Bc;simp[aj];refine aF.cut (fun h1=>aa aG h h1/\h1.tr.get h.next=some (.aC (aj name p r B) false 0 0)/\h1.tr.get (h.next+1)=some (.aC [.string ⟨⟨[]⟩⟩,.int .i64 0,.int .i64 0,.slice none 0 0] false 0 0)) ?_ ?_
 .exact⟨((aa.refl ok).new _ _).new _ _,by simp[aj],by simp⟩
 rintro h1⟨g1,ta,yV⟩;obtain⟨ys0,vC,Je,hy⟩:=ajg hB;refine aF.call (V:=qn eW h1 ys0) (by simpa using iV eW (bytes:=96) mo rfl (by decide) g1.ok (Je.aX ok g1) (by omega)) ?_;rintro _ h2⟨g2,B',rfl,P5,VY,_⟩;have jd:=g1.trans g2;have dX:=g2.get g1.ok ta;have Du:=g2.get g1.ok yV;have lR:=g1.ok.wf _ _ yV;have lR2:=jd.ok.wf _ _ Du;have aqk:=P5.len;simp[aj] at dX;simp[dX];refine az.cut (fun h3=>aa (· =h.next) h2 h3/\(∃s,h3.tr.get h.next=some (.aC (aj name p r B') false 0 s))) ?_ ?_
 .refine⟨aJ jd.ok dX,h2.clock,?_⟩;rw[aA];simp[aj,aR]
 rintro h3⟨g3,s3,qL⟩;have dw:aa aG h h3:=jd.trans' g3 (fun _ _ h=>h) (fun x hx e=>by omega);have hB3:=P5.grow jd.ok g3 (fun b hb e=>by have:=VY b hb;omega);have Ky:=g3.get jd.ok Du (by omega);have hBo:∀b,aw B'.v b->b<h2.next:=fun b hb=>P5.bE jd.ok hb;have ln3:=g3.next;refine MJ ok dw (M0:=h2.next) (ag:=ag) hB3 vC hy oJ ma ln3 (fun b hb=>⟨by have:=VY b hb;omega,hBo b hb,by have:=VY b hb;omega,by have:=VY b hb;omega⟩) (by omega) (by omega) (by omega) qL Ky (by simp) (by simp) (by simp) (by simp[aqk,vC]) (by simp) ?_;intro e4 h4 ys κ cap q1 q2 g4 hB4 Yq W4 H4;have oE:aa aG h h4:=dw.trans' g4 (fun _ _ h=>h) (fun x hx e=>by have:=VY x e;omega);have zt:=g4.get dw.ok qL (fun e=>by have:=VY _ e;omega);have Ue:=g4.get dw.ok Ky (fun e=>by have:=VY _ e;omega);simp[aj] at zt;simp[q1,q2,zt,Ue];have κ0:∀b,b<h2.next->κ b=0:=by
  intro b hb;rcases uM (κ b) with h|h
  .exact h
  .have:=(W4.new b (by omega)).1;omega
 have gR:aa (· =h.next+1) h4 (put h4 (h.next+1) 0 [.string ⟨⟨[]⟩⟩,.int .i64 0,.int .i64 0,.slice none 0 0] [.string name,.int .i64 p,.int .i64 r,.slice B'.a B'.l B'.c] 0):=aJ oE.ok Ue;have W5:=W4.grow oE.ok gR (fun b e=>.inl (κ0 b (by omega)));have hB5:=hB4.grow oE.ok gR (fun b hb e=>by have:=VY b hb;omega);obtain⟨κ',W6,_⟩:=W5.own (n0:=h.next) gR.ok hB5 (by omega) (fun b hb=>⟨by have:=VY b hb;omega,κ0 b (hBo b hb)⟩);exact⟨oE.trans' gR (fun _ _ h=>h) (fun x hx e=>by omega),B',ys,κ',cap,rfl,W6,Yq,H4⟩
theorem tj{α β:Type}{Q:α->β->Prop} :∀(xs:List α),(∀x∈xs,∃y,Q x y)->∃ys:List β,ys.length=xs.length/\∀(i:Nat)(x:α)(y:β),xs[i]?=some x->ys[i]?=some y->Q x y
 |[],_=>⟨[],rfl,fun i x y h=>by simp at h⟩
 |x::xs,H=>by
  obtain⟨y,h1⟩:=H x (Dq ..);obtain⟨ys,hl,h2⟩:=tj xs (fun x hx=>H x (EE _ hx));refine⟨y::ys,by simp[hl],fun i x' y' hx hy=>?_⟩;cases i with
  |zero=>simp at hx hy;subst hx;subst hy;exact h1
  |succ i=>exact h2 i x' y' hx hy
theorem fS.view{E:Enc α}{R:List Value->β->Prop}{xs:List α}{ys:List β}(w:fS E h A xs)(hl:ys.length=xs.length)(H:∀(i:Nat)(x:α)(y:β),xs[i]?=some x->ys[i]?=some y->R (E.enc x) y):SliceR R E.sz h A.v ys:=by
 obtain⟨hA,w⟩:=w;refine⟨A.a,A.c,by simp[hA,hl],?_⟩;rcases w with⟨ha,_,rfl⟩|⟨b,o,s,bw,ha,hc,hb,_⟩
 .exact .inl ⟨IX hl,.inl ha⟩
 .refine .inr ⟨b,0,_,_,_,_,ha,hb,fun i y hy=>?_⟩;have hi:=(bK.mp hy).1;have hx:xs[i]?=some (xs[i]'(by omega)):=ff (by omega);have qm:(xs++bw)[i]?=some (xs[i]'(by omega)):=by rw[FX (by omega)];exact hx
  rw[Ek,E.pJ _ _ _ qm];exact⟨E.len _,H i _ y hx hy⟩
theorem VA.row{h:ab}{κ cap:Nat->Nat}{ag:Nat}{F:SV}(w:VA κ cap F)(V:Cu h κ cap ag):∃row,SliceR vR 2 h F.v row/\row.length=F.l/\∀v∈row,h_ ag v:=by
 obtain⟨hl,h|⟨b,ha,hk,hc⟩⟩:=w
 .refine⟨[],⟨F.a,F.c,by simp;omega,.inl ⟨rfl,.inl h.1⟩⟩,by simp;omega,fun v hv=>by simp at hv⟩
 .obtain⟨vs,o,s,hb,_,Jc,hv⟩:=V b hk;refine⟨vs.take F.l,⟨F.a,F.c,by simp;omega,.inr ⟨b,0,_,_,_,_,ha,hb,fun i y hy=>?_⟩⟩,by simp;omega,fun v hm=>hv v (gQ_ hm)⟩;have EI:vs[i]?=some y:=by
   rw[El] at hy;split at hy
   .exact hy
   .cases hy
  have:=bY.pJ vs i y EI;rw[Ek];simp only[eB] at this;rw[this];exact⟨rfl,rfl⟩
structure BV(ag:Nat)(r:XR)(b:GB):Prop where
 kind:b.kind=r.kind
 on:b.on=r.on
 to:b.to=r.ts
 pl:b.dk.length=r.ps.length
 ps:∀(i:Nat)(q:Int×SV)(p:GP),r.ps[i]?=some q->b.dk[i]?=some p->p.dst=q.1/\p.row.length=q.2.l/\∀v∈p.row,h_ ag v
 ll:b.list.length=r.ls.length
 ls:∀(i:Nat)(q:XI)(p:GI),r.ls[i]?=some q->b.list[i]?=some p->Iu q p/\p.args.length=q.args.l/\∀v∈p.args,h_ ag v
def BVs(ag:Nat)(rs:List XR)(bs:List GB):Prop:=bs.length=rs.length/\∀(i:Nat)(r:XR)(b:GB),rs[i]?=some r->bs[i]?=some b->BV ag r b
theorem RV.view{h:ab}{κ cap:Nat->Nat}{ag:Nat}{r:XR}(w:RV h κ cap ag r)(V:Cu h κ cap ag):∃b,bR h (eW.enc r) b/\BV ag r b:=by
 obtain⟨y_,xh,iT⟩:=tj (Q:=fun(q:Int×SV) (p:GP)=>pR h (lu.enc q) p/\p.dst=q.1/\p.row.length=q.2.l/\∀v∈p.row,h_ ag v) r.ps (fun q hq=>by obtain⟨row,a1,a2,a3⟩:=VA.row (w.ps q hq).2 V;exact⟨⟨q.1,row⟩,⟨q.2,rfl,a1⟩,rfl,a2,a3⟩)
 obtain⟨xs,u6,Ew⟩:=tj (Q:=fun(q:XI) (p:GI)=>iR h (kh.enc q) p/\Iu q p/\p.args.length=q.args.l/\∀v∈p.args,h_ ag v) r.ls (fun q hq=>by obtain⟨row,a1,a2,a3⟩:=VA.row (w.ls q hq).2.2.2 V;exact⟨⟨q.op,q.dst,q.a,q.b,q.fn,row⟩,⟨q.args,rfl,a1⟩,⟨rfl,rfl,rfl,rfl,rfl⟩,a2,a3⟩)
 refine⟨⟨y_,xs,r.kind,r.on,r.ts⟩,⟨r.P,r.L,r.T,rfl,?_,?_,?_⟩,rfl,rfl,rfl,xh,fun i q p a b=>(iT i q p a b).2,u6,fun i q p a b=>(Ew i q p a b).2⟩
 .exact w.P.view xh (fun i q p a b=>(iT i q p a b).1)
 .exact w.L.view u6 (fun i q p a b=>(Ew i q p a b).1)
 .exact w.T.view rfl (fun i x y a b=>by rw[a] at b;cases b;rfl)
theorem kW.view{h:ab}{n0 ag:Nat}{κ cap:Nat->Nat}{B:SV}{rs:List XR}(w:kW h n0 ag κ cap B rs):∃bs,yM h B bs/\BVs ag rs bs:=by
 obtain⟨bs,hl,H⟩:=tj (Q:=fun(r:XR) (b:GB)=>bR h (eW.enc r) b/\BV ag r b) rs (fun r hr=>by obtain⟨i,hi⟩:=oD hr;exact(w.os.r i r hi).view w.os.V)
 exact⟨bs,w.A.view hl (fun i r b a c=>(H i r b a c).1),hl,fun i r b a c=>(H i r b a c).2⟩
def bx(rs:List XR):List (List Int):=rs.map (·.ts)
theorem BVs.dD{rs:List XR}(w:BVs ag rs bs):bt bs=bx rs:=by
 refine yT fun i=>?_;unfold bt bx;rw[tV,tV];rcases Ae i rs.length with hi|hi
 .have h1:rs[i]?=some rs[i]:=ff hi;have h2:bs[i]?=some (bs[i]'(by rw[w.1];exact hi)):=ff (by rw[w.1];exact hi);rw[h1,h2];simp only[EF];rw[(w.2 i _ _ h1 h2).to]
 .rw[qY (by rw[w.1];exact hi),qY hi];rfl
structure TOk(bN:List (List Int)):Prop where
 len:bN.length<=1000
 two:∀ts∈bN,ts.length<=2
 to:∀ts∈bN,∀t∈ts,0<=t/\t<bN.length
theorem BVs.ends{rs:List XR}(w:BVs ag rs bs)(T:TOk (bx rs)):jn bs:=by
 have e:=w.dD;have hl:(bx rs).length=bs.length:=by rw[<-e];simp[bt]
 refine⟨by have:=T.len;omega,fun b hb=>T.two _ ?_,fun b hb t ht=>?_⟩
 .rw[<-e];exact j_.2 ⟨b,hb,rfl⟩
 .rw[<-hl];exact T.to b.to (by rw[<-e];exact j_.2 ⟨b,hb,rfl⟩) t ht
theorem bJ.low{E:Enc α}{xs:List α}(a:bJ E n1 h v xs)(hn:n0<=n1):bJ E n0 h v xs:=by
 rcases a with a|⟨b,s,e,hb,hx,h1⟩
 .exact .inl a
 .exact .inr ⟨b,s,e,hb,hx,by omega⟩
section
variable{hf h0:ab}{ag d:Nat}
end
theorem Ly{E:Enc α}{row:List α}(s:aL E h v row)(ok:bl h)(g:aa S h h')(hS:row≠[]->∀b,aw v b->¬S b):aL E h' v row:=by
 by_cases e:row=[]
 .subst e;obtain⟨a,cap,e2,s⟩:=s;refine⟨a,cap,e2,?_⟩;rcases s with s|⟨b,off,_,_,_,_,e3,_⟩
  .exact .inl s
  .exact .inl ⟨rfl,.inr ⟨b,off,e3⟩⟩
 .exact s.grow ok g (hS e)
def vN(l:List Bool):Nat:=l.countP (fun x=> !x)
section
variable{h0:ab}{ag N F M nb d:Nat}{ws:List SV}
end
section
variable{h0:ab}{ag N F M nb d:Nat}{ws:List SV}
end
section
variable{h0:ab}{ag N F M nb d:Nat}{ws:List SV}
end
section
variable{α:Type}{E:Enc α}{p:α->Bool}{y:Value}
theorem take_set{xs:List α}(h:i<xs.length)(v:α):(xs.set i v).take (i+1)=xs.take i++[v]:=by
 have h1:(xs.set i v).take i=xs.take i:=yT fun k=>by
  rw[El,El,eu];by_cases hk:k<i
  .rw[aY hk,aY hk,bc (by omega)]
  .rw[bc hk,bc hk]
 have h2:(xs.set i v)[i]?=some v:=by simp[h]
 rw[yS,h1,h2];rfl
end
section
variable{h h':ab}{n0 ag:Nat}{κ cap:Nat->Nat}{rs:List XR}
theorem Mg{A A':SV}(e:A'.a=A.a)(k:aw A'.v b):aw A.v b:=by obtain⟨off,n,c,e2⟩:=k;simp at e2;exact⟨off,A.l,A.c,by simp[<-e,e2.1]⟩
theorem gJ{f:XR->SV}{r r':XR}(hr:rs[i]?=some r)(d:∀(i j:Nat)(ri rj:XR)(b:Nat),rs[i]?=some ri->rs[j]?=some rj->i≠j->aw (f ri).v b->¬aw (f rj).v b)(e:(f r').a=(f r).a):∀(i' j:Nat)(ri rj:XR)(b:Nat),(rs.set i r')[i']?=some ri->(rs.set i r')[j]?=some rj->i'≠j->aw (f ri).v b->¬aw (f rj).v b:=by
 have hi:=(bK.mp hr).1;intro i' j ri rj b h1 h2 hn hb cC;rw[eu] at h1 h2;by_cases e1:i=i'
 .rw[aY e1,aY hi] at h1;rw[bc (by omega)] at h2;cases h1;exact d i j r rj b hr h2 (by omega) (Mg e hb) cC
 .rw[bc e1] at h1;by_cases e2:i=j
  .rw[aY e2,aY hi] at h2;cases h2;exact d i' i ri r b h1 hr (by omega) hb (Mg e cC)
  .rw[bc e2] at h2;exact d i' j ri rj b h1 h2 hn hb cC
theorem cH.ZQ(w:cH h n0 ag κ cap rs)(ok:bl h){r:XR}(hr:rs[i]?=some r)(g:aa (aw r.P.v) h h'){Zp:List (Int×SV)}(hP:fS lu h' P' Zp)(e:P'.a=r.P.a)(iT:∀p∈Zp,(0<=p.1/\p.1<ag)/\VA κ cap p.2):cH h' n0 ag κ cap (rs.set i {r with P:=P',ps:=Zp}):=by
 have hi:=(bK.mp hr).1;have R:=w.r i r hr;refine⟨fun j x hx=>?_,gJ (f:=(·.P)) hr w.dP e,gJ (f:=(·.L)) hr w.dL rfl,gJ (f:=(·.T)) hr w.dT rfl,w.V.grow ok g (fun b hb=>by have:=R.kP b hb;omega),fun b hb=>by have:=w.new b hb;have:=g.next;omega⟩;rw[eu] at hx;by_cases e1:i=j
 .rw[aY e1,aY hi] at hx;cases hx;exact⟨hP,R.L.grow ok g (fun b hb hs=>by have:=R.kP b hs;have:=R.kL b hb;omega),R.T.grow ok g (fun b hb hs=>by have:=R.kP b hs;have:=R.kT b hb;omega),fun b hb=>R.kP b (Mg e hb),R.kL,R.kT,iT,R.ls,R.on⟩
 .rw[bc e1] at hx;have Rx:=w.r j x hx;exact Rx.grow ok g (fun b hb=>⟨w.dP i j r x b hr hx e1 hb,fun h=>by have:=R.kP b hb;have:=Rx.kL b h;omega,fun h=>by have:=R.kP b hb;have:=Rx.kT b h;omega⟩)
theorem cH.acF(w:cH h n0 ag κ cap rs)(ok:bl h){r:XR}(hr:rs[i]?=some r)(g:aa (aw r.L.v) h h'){zA:List XI}(hL:fS kh h' L' zA)(e:L'.a=r.L.a)(LQ:∀x∈zA,x.dst<ag/\h_ ag x.a/\h_ ag x.b/\VA κ cap x.args):cH h' n0 ag κ cap (rs.set i {r with L:=L',ls:=zA}):=by
 have hi:=(bK.mp hr).1;have R:=w.r i r hr;refine⟨fun j x hx=>?_,gJ (f:=(·.P)) hr w.dP rfl,gJ (f:=(·.L)) hr w.dL e,gJ (f:=(·.T)) hr w.dT rfl,w.V.grow ok g (fun b hb=>by have:=R.kL b hb;omega),fun b hb=>by have:=w.new b hb;have:=g.next;omega⟩;rw[eu] at hx;by_cases e1:i=j
 .rw[aY e1,aY hi] at hx;cases hx;exact⟨R.P.grow ok g (fun b hb hs=>by have:=R.kL b hs;have:=R.kP b hb;omega),hL,R.T.grow ok g (fun b hb hs=>by have:=R.kL b hs;have:=R.kT b hb;omega),R.kP,fun b hb=>R.kL b (Mg e hb),R.kT,R.ps,LQ,R.on⟩
 .rw[bc e1] at hx;have Rx:=w.r j x hx;exact Rx.grow ok g (fun b hb=>⟨fun h=>by have:=R.kL b hb;have:=Rx.kP b h;omega,w.dL i j r x b hr hx e1 hb,fun h=>by have:=R.kL b hb;have:=Rx.kT b h;omega⟩)
theorem cH.amU(w:cH h n0 ag κ cap rs)(ok:bl h){r:XR}(hr:rs[i]?=some r)(g:aa (aw r.T.v) h h'){T':SV}{EX:List Int}(hT:fS bg h' T' EX)(e:T'.a=r.T.a):cH h' n0 ag κ cap (rs.set i {r with T:=T',ts:=EX}):=by
 have hi:=(bK.mp hr).1;have R:=w.r i r hr;refine⟨fun j x hx=>?_,gJ (f:=(·.P)) hr w.dP rfl,gJ (f:=(·.L)) hr w.dL rfl,gJ (f:=(·.T)) hr w.dT e,w.V.grow ok g (fun b hb=>by have:=R.kT b hb;omega),fun b hb=>by have:=w.new b hb;have:=g.next;omega⟩;rw[eu] at hx;by_cases e1:i=j
 .rw[aY e1,aY hi] at hx;cases hx;exact⟨R.P.grow ok g (fun b hb hs=>by have:=R.kT b hs;have:=R.kP b hb;omega),R.L.grow ok g (fun b hb hs=>by have:=R.kT b hs;have:=R.kL b hb;omega),hT,R.kP,R.kL,fun b hb=>R.kT b (Mg e hb),R.ps,R.ls,R.on⟩
 .rw[bc e1] at hx;have Rx:=w.r j x hx;exact Rx.grow ok g (fun b hb=>⟨fun h=>by have:=R.kT b hb;have:=Rx.kP b h;omega,fun h=>by have:=R.kT b hb;have:=Rx.kL b h;omega,w.dT i j r x b hr hx e1 hb⟩)
theorem cH.ad4(w:cH h n0 ag κ cap rs){r:XR}(hr:rs[i]?=some r)(k:Int)(on:Bool×Int)(hon:h_ ag on):cH h n0 ag κ cap (rs.set i {r with kind:=k,on:=on}):=by
 have hi:=(bK.mp hr).1;have R:=w.r i r hr;refine⟨fun j x hx=>?_,gJ (f:=(·.P)) hr w.dP rfl,gJ (f:=(·.L)) hr w.dL rfl,gJ (f:=(·.T)) hr w.dT rfl,w.V,w.new⟩;rw[eu] at hx;by_cases e1:i=j
 .rw[aY e1,aY hi] at hx;cases hx;exact⟨R.P,R.L,R.T,R.kP,R.kL,R.kT,R.ps,R.ls,hon⟩
 .rw[bc e1] at hx;exact w.r j x hx
end
def mT:Enc (Int×(Bool×Int)):=⟨fun x=>[.int .i64 x.1,.bool x.2.1,.int .i64 x.2.2],3,fun _=>rfl,by decide,fun _=>rfl⟩
@[simp] theorem aaX:mT.sz=3:=rfl
@[simp] theorem Xj(x:Int×(Bool×Int)):mT.enc x=[.int .i64 x.1,.bool x.2.1,.int .i64 x.2.2]:=rfl
theorem bS{ws:List (Int×(Bool×Int))}{o s:Nat}{ro:Bool}(hW:h.tr.get W=some (.aC (mT.flat ws) ro o s)){x:Int×(Bool×Int)}(hk:ws[k]?=some x):aV h W (k*3) 3=some [.int .i64 x.1,.bool x.2.1,.int .i64 x.2.2]:=by have hl:=(bK.mp hk).1;have:=mT.jQ ws k 0 3 x hk (by decide);rw[cx hW (by rw[mT.bh];simp;omega)];simp only[aaX,IW] at this;rw[this];rfl
theorem iC(ws:List (Int×(Bool×Int)))(i:Nat)(x:Int×(Bool×Int))(h:i<ws.length):aR (mT.flat ws) (i*3) [.int .i64 x.1,.bool x.2.1,.int .i64 x.2.2]=mT.flat (ws.set i x):=by have:=mT.dS ws i x h;simpa using this
def SA(P:Int×(Bool×Int)->Prop)(d n o:Nat)(h0 h:ab):Prop:=aa (· =d) h0 h/\∃xs s,h.tr.get d=some (.aC (mT.flat xs) false o s)/\xs.length=n/\∀x∈xs,P x
def jZ(y:Value):Prop:=∀(h:ab)(x z:Int×(Bool×Int)),bl h->cP FF y [.agg ⟨mT.enc x⟩,.agg ⟨mT.enc z⟩] h (fun v h'=>(∃c:Int,v=.int .i64 c)/\aa aG h h')
section
variable{P:Int×(Bool×Int)->Prop}{d n o:Nat}{h0:ab}
theorem SA.aX{h h':ab}(w:SA P d n o h0 h)(g:aa aG h h'):SA P d n o h0 h':=by obtain⟨g0,xs,s,hb,hl,hP⟩:=w;exact⟨g0.trans g.aX,xs,s,g.get g0.ok hb,hl,hP⟩
theorem SA.swap{xs:List (Int×(Bool×Int))}{x y:Int×(Bool×Int)}(g:aa (· =d) h0 h)(hb:h.tr.get d=some (.aC (mT.flat xs) false o s))(hl:xs.length=n)(hP:∀x∈xs,P x)(hi:xs[i]?=some x)(hj:xs[j]?=some y):SA P d n o h0 (put (put h d (i*3) (mT.flat xs) [.int .i64 y.1,.bool y.2.1,.int .i64 y.2.2] o) d (j*3) (mT.flat (xs.set i y)) [.int .i64 x.1,.bool x.2.1,.int .i64 x.2.2] o):=by
 have li:=(bK.mp hi).1;have lj:=(bK.mp hj).1;have cC:(put h d (i*3) (mT.flat xs) [.int .i64 y.1,.bool y.2.1,.int .i64 y.2.2] o).tr.get d=some (.aC (mT.flat (xs.set i y)) false o h.clock):=by rw[aA,iC xs i y li]
 have g2:=g.trans (aJ g.ok hb (off:=i*3) (vs:=[.int .i64 y.1,.bool y.2.1,.int .i64 y.2.2]));refine⟨g2.trans (aJ g2.ok cC),(xs.set i y).set j x,_,by rw[aA,iC _ j x (by simpa using lj)],by simp[hl],fun z hz=>?_⟩;rcases Em hz with h1|rfl
 .rcases Em h1 with h2|rfl
  .exact hP z h2
  .exact hP _ (bU hj)
 .exact hP _ (bU hi)
def aoR(P:Int×(Bool×Int)->Prop)(d n o c:Nat)(h0:ab)(y:Value)(a b i:Nat)(m:Nat)(e:Env)(h':ab):Prop:=
 ∃j:Nat,m=j/\a<=j/\j<b/\ai e 0=.slice (some ⟨d,0,none⟩) n c/\ai e 1=.int .i64 a/\ai e 2=.int .i64 b/\ai e 3=y/\ai e 8=.int .i64 i/\ai e 9=.int .i64 j/\SA P d n o h0 h'
theorem KM(Y:jZ y){c a b i:Nat}(mc:b<=n)(hn:n<1000000)(XJ:a<=i)(hib:i<b)(w:SA P d n o h0 h)(f0:ai e 0=.slice (some ⟨d,0,none⟩) n c)(f1:ai e 1=.int .i64 a)(f2:ai e 2=.int .i64 b)(f3:ai e 3=y)(f8:ai e 8=.int .i64 i)(f9:ai e 9=.int .i64 i)(C:∀e' h',ai e' 0=.slice (some ⟨d,0,none⟩) n c->ai e' 1=.int .i64 a->ai e' 2=.int .i64 b->ai e' 3=y->ai e' 8=.int .i64 i->SA P d n o h0 h'->QQ (.exit 2) e' h'):az FF (.loop cK) e h QQ:=by
 refine az.loop (aoR P d n o c h0 y a b i) ?_ (n:=i) ⟨i,rfl,XJ,hib,f0,f1,f2,f3,f8,f9,w⟩;rintro j e' h'⟨_,rfl,haj,hjb,q0,q1,q2,q3,q8,q9,w'⟩;obtain⟨g,xs,s,hb,hl,hP⟩:=id w';unfold cK;by_cases hja:a<j
 .obtain⟨k,hk⟩:∃k,k=j-1:=⟨_,rfl⟩;have wk:IntKind.i64.wrap ((j:Int)-1)=(k:Int):=by rw[wrap_i64 _ (by omega) (by omega)];omega
  have I7:j<n:=by omega
  have KF:k<n:=by omega
  obtain⟨x,hx⟩:=ay xs j;obtain⟨z,hz⟩:=ay xs k;have rx:=bS hb hx;have rz:=bS hb hz;simp[q0,q1,q3,q9,hja,I7,KF,wk,rx,rz,aB,-ae];refine aZ.cut (fun h1=>aa aG h' h1) ?_ ?_
  .exact(aa.refl g.ok).tick
  intro h1 g1;refine aZ.cu (V:=fun v Dr=>(∃c:Int,v=.int .i64 c)/\aa aG h1 Dr) (by simpa [q3] using Y h1 x z g1.ok) ?_;rintro _ h2⟨⟨cv,rfl⟩,g2⟩;have w2:=(w'.aX g1).aX g2;obtain⟨gg,rG,s2,cC,uO,Kx⟩:=id w2;obtain⟨x2,Gf⟩:=ay rG j;obtain⟨z2,DF⟩:=ay rG k;have ZG:=bS cC Gf;have ZH:=bS cC DF;by_cases hc:cv<0
  .have l1:j*3+3<=rG.length*3:=by omega
   have l2:k*3+3<=rG.length*3:=by omega
   have sp:=iC rG j z2 (by omega);simp[hc,q0,q1,q3,q9,I7,KF,wk,ZG,ZH,aB,cC,l1,l2,sp,-ae];exact⟨k,by omega,k,rfl,by omega,by omega,by simp[q0],by simp[q1],by simp[q2],by simp[q3],by simp[q8],by simp,SA.swap (h:=tick h2) gg.tick cC uO Kx Gf DF⟩
  .simp[hc];exact C _ _ (by simp[q0]) (by simp[q1]) (by simp[q2]) (by simp[q3]) (by simp[q8]) w2
 .have hja':¬(a:Int)<j:=by omega
  simp[q1,q9,hja];exact C _ _ (by simp[q0]) (by simp[q1]) (by simp[q2]) (by simp[q3]) (by simp[q8]) (w'.aX ((aa.refl g.ok).tick))
def aoQ(P:Int×(Bool×Int)->Prop)(d n o c:Nat)(h0:ab)(y:Value)(a b:Nat)(m:Nat)(e:Env)(h':ab):Prop:=
 ∃i:Nat,m=b+1-i/\a<i/\i<=b+1/\ai e 0=.slice (some ⟨d,0,none⟩) n c/\ai e 1=.int .i64 a/\ai e 2=.int .i64 b/\ai e 3=y/\ai e 8=.int .i64 i/\SA P d n o h0 h'
theorem Gl(Y:jZ y){c a b:Nat}(mc:b<=n)(xN:a<=b)(hn:n<1000000)(w:SA P d n o h0 h):aE FF eR [.slice (some ⟨d,0,none⟩) n c,.int .i64 a,.int .i64 b,y] h (fun _ h'=>SA P d n o h0 h'):=by
 refine aE.of eN ?_;unfold cW;have wa:=wrap_i64 ((a:Int)+1) (by omega) (by omega);simp[wa];refine az.loop (aoQ P d n o c h0 y a b) ?_ (n:=b-a) ⟨a+1,by omega,by omega,by omega,by simp,by simp,by simp,by simp,by simp,w⟩;rintro m e h'⟨i,rfl,XJ,hib,q0,q1,q2,q3,q8,w'⟩;unfold cM;by_cases hi:i<b
 .have wi:=wrap_i64 ((i:Int)+1) (by omega) (by omega);simp[q2,q8,hi];refine KM Y (a:=a) (b:=b) (c:=c) (i:=i) mc hn (by omega) hi w' (by simp[q0]) (by simp[q1]) (by simp[q2]) (by simp[q3]) (by simp[q8]) (by simp) ?_;intro e2 h2 k0 k1 k2 k3 k8 w2;simp[k8,wi];exact⟨b+1-(i+1),by omega,i+1,rfl,by omega,by omega,by simp[k0],by simp[k1],by simp[k2],by simp[k3],by simp,w2⟩
 .have Dz:¬(i:Int)<b:=by omega
  simp[q2,q8,hi];exact w'
theorem aex:jZ (.func (.func uU) #[] #[]):=by intro h x z ok;refine cP.func ?_;refine aE.of HT ?_;unfold zo;simp;exact((aa.refl ok).new _ _).new _ _
def RvI(P:Int×(Bool×Int)->Prop)(d n o c:Nat)(h0:ab)(b:Nat)(m:Nat)(e:Env)(h':ab):Prop:=
 ∃(i:Nat) (j:Int),m=b-i/\i<=b/\j<b/\ -1<=j/\ai e 0=.slice (some ⟨d,0,none⟩) n c/\ai e 8=.int .i64 i/\ai e 9=.int .i64 j/\SA P d n o h0 h'
theorem Iq{y:Value}{c a b:Nat}(mc:b<=n)(xN:a<=b)(hn:n<1000000)(w:SA P d n o h0 h):aE FF fh [.slice (some ⟨d,0,none⟩) n c,.int .i64 a,.int .i64 b,y] h (fun _ h'=>SA P d n o h0 h'):=by
 refine aE.of ke ?_;unfold fe;have wb:=wrap_i64 ((b:Int)-1) (by omega) (by omega);simp[wb];refine az.loop (RvI P d n o c h0 b) ?_ (n:=b-a) ⟨a,(b:Int)-1,rfl,by omega,by omega,by omega,by simp,by simp,by simp,w⟩;rintro m e h'⟨i,j,rfl,hib,hjb,zv,q0,q8,q9,w'⟩;unfold eE;by_cases vz:(i:Int)<j
 .obtain⟨k,rfl⟩:∃k:Nat,j=k:=⟨j.toNat,by omega⟩;have hik:i<k:=by omega
  have oJ:i<n:=by omega
  have KF:k<n:=by omega
  have wi:=wrap_i64 ((i:Int)+1) (by omega) (by omega);have wk:=wrap_i64 ((k:Int)-1) (by omega) (by omega);obtain⟨g,xs,s,hb,hl,hP⟩:=id w';obtain⟨x,hx⟩:=ay xs i;obtain⟨z,hz⟩:=ay xs k;have rx:=bS hb hx;have rz:=bS hb hz;have l1:i*3+3<=xs.length*3:=by omega
  have l2:k*3+3<=xs.length*3:=by omega
  have sp:=iC xs i z (by omega);simp[q0,q8,q9,hik,oJ,KF,wi,wk,rx,rz,aB,hb,l1,l2,sp,-ae];exact⟨b-(i+1),by omega,i+1,(k:Int)-1,rfl,by omega,by omega,by omega,by simp[q0],by simp,by simp,SA.swap (h:=tick h') g.tick hb hl hP hx hz⟩
 .simp[q8,q9,vz];exact w'
end
section
variable{P:Int×(Bool×Int)->Prop}{d n o c a:Nat}{h0:ab}{y:Value}
structure PE(d n c a:Nat)(y:Value)(e:Env):Prop where
 f0:ai e 0=.slice (some ⟨d,0,none⟩) n c
 f1:ai e 1=.int .i64 a
 f4:ai e 4=y
def ao9(P:Int×(Bool×Int)->Prop)(d n o c a:Nat)(h0:ab)(y:Value)(i0 j:Nat)(m:Nat)(e:Env)(h':ab):Prop:=
 ∃i:Nat,m=j+1-i/\i0<=i/\i<=max i0 (j+1)/\PE d n c a y e/\ai e 11=.int .i64 i/\ai e 12=.int .i64 j/\SA P d n o h0 h'
theorem amt(Y:jZ y)(hn:n<1000000)(CE:a<n)(hj:j<n)(oJ:i<=n)(w:SA P d n o h0 h)(E:PE d n c a y e)(f11:ai e 11=.int .i64 i)(f12:ai e 12=.int .i64 j)(K:∀e' h' i',PE d n c a y e'->i<=i'->i'<=max i (j+1)->ai e' 11=.int .i64 (i':Nat)->ai e' 12=.int .i64 j->SA P d n o h0 h'->QQ (.exit 2) e' h'):az FF (.loop cG) e h QQ:=by
 refine az.loop (ao9 P d n o c a h0 y i j) ?_ (n:=j+1-i) ⟨i,rfl,by omega,by omega,E,f11,f12,w⟩;rintro m e' h'⟨i',rfl,LP,EH,E',mP,kN,w'⟩;obtain⟨g,xs,s,hb,hl,hP⟩:=id w';unfold cG;by_cases vz:i'<=j
 .have XW:i'<n:=by omega
  have wi:=wrap_i64 ((i':Int)+1) (by omega) (by omega);obtain⟨x,hx⟩:=ay xs a;obtain⟨z,hz⟩:=ay xs i';have rx:=bS hb hx;have rz:=bS hb hz;simp[E'.f0,E'.f1,E'.f4,mP,kN,vz,CE,XW,rx,rz,aB,-ae];refine aZ.cut (fun h1=>aa aG h' h1) ?_ ?_
  .exact(aa.refl g.ok).tick
  intro h1 g1;refine aZ.cu (V:=fun v Dr=>(∃c:Int,v=.int .i64 c)/\aa aG h1 Dr) (by simpa [E'.f4] using Y h1 x z g1.ok) ?_;rintro _ h2⟨⟨cv,rfl⟩,g2⟩;have w2:=(w'.aX g1).aX g2;by_cases hc:cv<0
  .simp[hc];exact K _ _ i' ⟨by simp[E'.f0],by simp[E'.f1],by simp[E'.f4]⟩ LP EH (by simp[mP]) (by simp[kN]) w2
  .simp[hc,mP,wi];exact⟨j+1-(i'+1),by omega,i'+1,rfl,by omega,by omega,⟨by simp[E'.f0],by simp[E'.f1],by simp[E'.f4]⟩,by simp,by simp[kN],w2⟩
 .simp[mP,kN,vz];exact K _ _ i' ⟨by simp[E'.f0],by simp[E'.f1],by simp[E'.f4]⟩ LP EH (by simp[mP]) (by simp[kN]) (w'.aX ((aa.refl g.ok).tick))
def ao8(P:Int×(Bool×Int)->Prop)(d n o c a:Nat)(h0:ab)(y:Value)(i j0:Nat)(m:Nat)(e:Env)(h':ab):Prop:=
 ∃j:Nat,m=j/\j<=j0/\a<=j/\PE d n c a y e/\ai e 11=.int .i64 i/\ai e 12=.int .i64 j/\SA P d n o h0 h'
theorem acj(Y:jZ y)(hn:n<1000000)(hj:j<n)(XJ:a<i)(haj:a<=j)(w:SA P d n o h0 h)(E:PE d n c a y e)(f11:ai e 11=.int .i64 i)(f12:ai e 12=.int .i64 j)(K:∀e' h' j',PE d n c a y e'->j'<=j->a<=j'->ai e' 11=.int .i64 i->ai e' 12=.int .i64 (j':Nat)->SA P d n o h0 h'->QQ (.exit 4) e' h'):az FF (.loop cE) e h QQ:=by
 refine az.loop (ao8 P d n o c a h0 y i j) ?_ (n:=j) ⟨j,rfl,by omega,haj,E,f11,f12,w⟩;rintro j' e' h'⟨_,rfl,zv,DA,E',mP,kN,w'⟩;obtain⟨g,xs,s,hb,hl,hP⟩:=id w';unfold cE;by_cases vz:i<=j'
 .have CE:a<n:=by omega
  have XX:j'<n:=by omega
  obtain⟨k,hk⟩:∃k,k=j'-1:=⟨_,rfl⟩;have wk:IntKind.i64.wrap ((j':Int)-1)=(k:Int):=by rw[wrap_i64 _ (by omega) (by omega)];omega
  obtain⟨x,hx⟩:=ay xs a;obtain⟨z,hz⟩:=ay xs j';have rx:=bS hb hx;have rz:=bS hb hz;simp[E'.f0,E'.f1,E'.f4,mP,kN,vz,CE,XX,rx,rz,aB,-ae];refine aZ.cut (fun h1=>aa aG h' h1) ?_ ?_
  .exact(aa.refl g.ok).tick
  intro h1 g1;refine aZ.cu (V:=fun v Dr=>(∃c:Int,v=.int .i64 c)/\aa aG h1 Dr) (by simpa [E'.f4] using Y h1 x z g1.ok) ?_;rintro _ h2⟨⟨cv,rfl⟩,g2⟩;have w2:=(w'.aX g1).aX g2;by_cases hc:cv<0
  .simp[hc,kN,wk];exact⟨k,by omega,k,rfl,by omega,by omega,⟨by simp[E'.f0],by simp[E'.f1],by simp[E'.f4]⟩,by simp[mP],by simp,w2⟩
  .simp[hc];exact K _ _ j' ⟨by simp[E'.f0],by simp[E'.f1],by simp[E'.f4]⟩ zv DA (by simp[mP]) (by simp[kN]) w2
 .simp[mP,kN,vz];exact K _ _ j' ⟨by simp[E'.f0],by simp[E'.f1],by simp[E'.f4]⟩ zv DA (by simp[mP]) (by simp[kN]) (w'.aX ((aa.refl g.ok).tick))
def ao_(P:Int×(Bool×Int)->Prop)(d n o c a b:Nat)(h0:ab)(y:Value)(m:Nat)(e:Env)(h':ab):Prop:=
 ∃i j:Nat,m=j+1-i/\a<i/\i<=b/\a<=j/\j<b/\PE d n c a y e/\ai e 11=.int .i64 i/\ai e 12=.int .i64 j/\SA P d n o h0 h'
def ai0(P:Int×(Bool×Int)->Prop)(d n o a b:Nat)(h0:ab)(v:Value)(h':ab):Prop:=SA P d n o h0 h'/\∃i:Nat,v=.int .i64 i/\a<i/\i<=b
theorem NS(Y:jZ y)(mc:b<=n)(hn:n<1000000)(hap:a<=pv)(hpb:pv<b)(w:SA P d n o h0 h):aE FF eD [.slice (some ⟨d,0,none⟩) n c,.int .i64 a,.int .i64 b,.int .i64 pv,y] h (ai0 P d n o a b h0):=by
 obtain⟨g,xs,s,hb,hl,hP⟩:=id w;have CE:a<n:=by omega
 have Ql:pv<n:=by omega
 obtain⟨x,hx⟩:=ay xs a;obtain⟨z,hz⟩:=ay xs pv;have rx:=bS hb hx;have rz:=bS hb hz;have l1:a*3+3<=xs.length*3:=by omega
 have l2:pv*3+3<=xs.length*3:=by omega
 have sp:=iC xs a z (by omega);have wa:=wrap_i64 ((a:Int)+1) (by omega) (by omega);obtain⟨k,hk⟩:∃k,k=b-1:=⟨_,rfl⟩;have wb:IntKind.i64.wrap ((b:Int)-1)=(k:Int):=by rw[wrap_i64 _ (by omega) (by omega)];omega
 refine aE.of jS ?_;unfold eC;simp[CE,Ql,rx,rz,aB,hb,l1,l2,sp,wa,wb,-ae];have w1:=SA.swap (h:=tick h) g.tick hb hl hP hx hz;refine az.loop (ao_ P d n o c a b h0 y) ?_ (n:=k+1-(a+1)) ⟨a+1,k,rfl,by omega,by omega,by omega,by omega,⟨by simp,by simp,by simp⟩,by simp,by simp,w1⟩;rintro m e' h'⟨i,j,rfl,XJ,hib,haj,hjb,E',mP,kN,w'⟩;unfold eg;simp;refine amt Y hn CE (by omega) (by omega) w' E' mP kN ?_;intro e1 h1 i1 E1 LP akY k11 Nr w1;simp;refine acj Y hn (by omega) (by omega) haj w1 E1 k11 Nr ?_;intro e2 h2 j2 E2 DA ak0 m11 OR w2;by_cases vz:j2<i1
 .have akZ:(j2:Int)<i1:=by omega
  simp[m11,OR,vz];rw[tx _ _ _ _ _ (by decide)];simp[m11];exact⟨w2,i1,rfl,by omega,by omega⟩
 .obtain⟨g2,rG,s2,cC,uO,Kx⟩:=id w2;have XV:i1<n:=by omega
  have Qh:j2<n:=by omega
  obtain⟨x2,Gf⟩:=ay rG i1;obtain⟨z2,DF⟩:=ay rG j2;have ZG:=bS cC Gf;have ZH:=bS cC DF;have l3:i1*3+3<=rG.length*3:=by omega
  have l4:j2*3+3<=rG.length*3:=by omega
  have ZZ:=iC rG i1 z2 (by omega);have wi:=wrap_i64 ((i1:Int)+1) (by omega) (by omega);obtain⟨k2,Cn⟩:∃k2,k2=j2-1:=⟨_,rfl⟩;have wk:IntKind.i64.wrap ((j2:Int)-1)=(k2:Int):=by rw[wrap_i64 _ (by omega) (by omega)];omega
  simp[E2.f0,m11,OR,vz,XV,Qh,ZG,ZH,aB,cC,l3,l4,ZZ,wi,wk,-ae];exact⟨k2+1-(i1+1),by omega,i1+1,k2,rfl,by omega,by omega,by omega,by omega,⟨by simp[E2.f0],by simp[E2.f1],by simp[E2.f4]⟩,by simp,by simp,SA.swap (h:=tick h2) g2.tick cC uO Kx Gf DF⟩
end
section
variable{P:Int×(Bool×Int)->Prop}{d n o c a:Nat}{h0:ab}{y:Value}
def ape(P:Int×(Bool×Int)->Prop)(d n o c a:Nat)(h0:ab)(y:Value)(i0 j:Nat)(m:Nat)(e:Env)(h':ab):Prop:=
 ∃i:Nat,m=j+1-i/\i0<=i/\i<=max i0 (j+1)/\PE d n c a y e/\ai e 12=.int .i64 i/\ai e 13=.int .i64 j/\SA P d n o h0 h'
theorem ag3(Y:jZ y)(hn:n<1000000)(CE:a<n)(hj:j<n)(oJ:i<=n)(w:SA P d n o h0 h)(E:PE d n c a y e)(f11:ai e 12=.int .i64 i)(f12:ai e 13=.int .i64 j)(K:∀e' h' i',PE d n c a y e'->i<=i'->i'<=max i (j+1)->ai e' 12=.int .i64 (i':Nat)->ai e' 13=.int .i64 j->SA P d n o h0 h'->QQ (.exit 0) e' h'):az FF (.loop du) e h QQ:=by
 refine az.loop (ape P d n o c a h0 y i j) ?_ (n:=j+1-i) ⟨i,rfl,by omega,by omega,E,f11,f12,w⟩;rintro m e' h'⟨i',rfl,LP,EH,E',mP,kN,w'⟩;obtain⟨g,xs,s,hb,hl,hP⟩:=id w';unfold du;by_cases vz:i'<=j
 .have XW:i'<n:=by omega
  have wi:=wrap_i64 ((i':Int)+1) (by omega) (by omega);obtain⟨x,hx⟩:=ay xs a;obtain⟨z,hz⟩:=ay xs i';have rx:=bS hb hx;have rz:=bS hb hz;simp[E'.f0,E'.f1,E'.f4,mP,kN,vz,CE,XW,rx,rz,aB,-ae];refine aZ.cut (fun h1=>aa aG h' h1) ?_ ?_
  .exact(aa.refl g.ok).tick
  intro h1 g1;refine aZ.cu (V:=fun v Dr=>(∃c:Int,v=.int .i64 c)/\aa aG h1 Dr) (by simpa [E'.f4] using Y h1 z x g1.ok) ?_;rintro _ h2⟨⟨cv,rfl⟩,g2⟩;have w2:=(w'.aX g1).aX g2;by_cases hc:cv<0
  .simp[hc,mP,wi];exact⟨j+1-(i'+1),by omega,i'+1,rfl,by omega,by omega,⟨by simp[E'.f0],by simp[E'.f1],by simp[E'.f4]⟩,by simp,by simp[kN],w2⟩
  .simp[hc];exact K _ _ i' ⟨by simp[E'.f0],by simp[E'.f1],by simp[E'.f4]⟩ LP EH (by simp[mP]) (by simp[kN]) w2
 .simp[mP,kN,vz];exact K _ _ i' ⟨by simp[E'.f0],by simp[E'.f1],by simp[E'.f4]⟩ LP EH (by simp[mP]) (by simp[kN]) (w'.aX ((aa.refl g.ok).tick))
def apf(P:Int×(Bool×Int)->Prop)(d n o c a:Nat)(h0:ab)(y:Value)(i0 j:Nat)(m:Nat)(e:Env)(h':ab):Prop:=
 ∃i:Nat,m=j+1-i/\i0<=i/\i<=max i0 (j+1)/\PE d n c a y e/\ai e 12=.int .i64 i/\ai e 13=.int .i64 j/\SA P d n o h0 h'
theorem ag4(Y:jZ y)(hn:n<1000000)(CE:a<n)(hj:j<n)(oJ:i<=n)(w:SA P d n o h0 h)(E:PE d n c a y e)(f11:ai e 12=.int .i64 i)(f12:ai e 13=.int .i64 j)(K:∀e' h' i',PE d n c a y e'->i<=i'->i'<=max i (j+1)->ai e' 12=.int .i64 (i':Nat)->ai e' 13=.int .i64 j->SA P d n o h0 h'->QQ (.exit 6) e' h'):az FF (.loop dq) e h QQ:=by
 refine az.loop (apf P d n o c a h0 y i j) ?_ (n:=j+1-i) ⟨i,rfl,by omega,by omega,E,f11,f12,w⟩;rintro m e' h'⟨i',rfl,LP,EH,E',mP,kN,w'⟩;obtain⟨g,xs,s,hb,hl,hP⟩:=id w';unfold dq;by_cases vz:i'<=j
 .have XW:i'<n:=by omega
  have wi:=wrap_i64 ((i':Int)+1) (by omega) (by omega);obtain⟨x,hx⟩:=ay xs a;obtain⟨z,hz⟩:=ay xs i';have rx:=bS hb hx;have rz:=bS hb hz;simp[E'.f0,E'.f1,E'.f4,mP,kN,vz,CE,XW,rx,rz,aB,-ae];refine aZ.cut (fun h1=>aa aG h' h1) ?_ ?_
  .exact(aa.refl g.ok).tick
  intro h1 g1;refine aZ.cu (V:=fun v Dr=>(∃c:Int,v=.int .i64 c)/\aa aG h1 Dr) (by simpa [E'.f4] using Y h1 z x g1.ok) ?_;rintro _ h2⟨⟨cv,rfl⟩,g2⟩;have w2:=(w'.aX g1).aX g2;by_cases hc:cv<0
  .simp[hc,mP,wi];exact⟨j+1-(i'+1),by omega,i'+1,rfl,by omega,by omega,⟨by simp[E'.f0],by simp[E'.f1],by simp[E'.f4]⟩,by simp,by simp[kN],w2⟩
  .simp[hc];exact K _ _ i' ⟨by simp[E'.f0],by simp[E'.f1],by simp[E'.f4]⟩ LP EH (by simp[mP]) (by simp[kN]) w2
 .simp[mP,kN,vz];exact K _ _ i' ⟨by simp[E'.f0],by simp[E'.f1],by simp[E'.f4]⟩ LP EH (by simp[mP]) (by simp[kN]) (w'.aX ((aa.refl g.ok).tick))
def apc(P:Int×(Bool×Int)->Prop)(d n o c a:Nat)(h0:ab)(y:Value)(i j0:Nat)(m:Nat)(e:Env)(h':ab):Prop:=
 ∃j:Nat,m=j/\j<=j0/\a<=j/\PE d n c a y e/\ai e 12=.int .i64 i/\ai e 13=.int .i64 j/\SA P d n o h0 h'
theorem Zq(Y:jZ y)(hn:n<1000000)(hj:j<n)(XJ:a<i)(haj:a<=j)(w:SA P d n o h0 h)(E:PE d n c a y e)(f11:ai e 12=.int .i64 i)(f12:ai e 13=.int .i64 j)(K:∀e' h' j',PE d n c a y e'->j'<=j->a<=j'->ai e' 12=.int .i64 i->ai e' 13=.int .i64 (j':Nat)->SA P d n o h0 h'->QQ (.exit 2) e' h'):az FF (.loop dt) e h QQ:=by
 refine az.loop (apc P d n o c a h0 y i j) ?_ (n:=j) ⟨j,rfl,by omega,haj,E,f11,f12,w⟩;rintro j' e' h'⟨_,rfl,zv,DA,E',mP,kN,w'⟩;obtain⟨g,xs,s,hb,hl,hP⟩:=id w';unfold dt;by_cases vz:i<=j'
 .have CE:a<n:=by omega
  have XX:j'<n:=by omega
  obtain⟨k,hk⟩:∃k,k=j'-1:=⟨_,rfl⟩;have wk:IntKind.i64.wrap ((j':Int)-1)=(k:Int):=by rw[wrap_i64 _ (by omega) (by omega)];omega
  obtain⟨x,hx⟩:=ay xs a;obtain⟨z,hz⟩:=ay xs j';have rx:=bS hb hx;have rz:=bS hb hz;simp[E'.f0,E'.f1,E'.f4,mP,kN,vz,CE,XX,rx,rz,aB,-ae];refine aZ.cut (fun h1=>aa aG h' h1) ?_ ?_
  .exact(aa.refl g.ok).tick
  intro h1 g1;refine aZ.cu (V:=fun v Dr=>(∃c:Int,v=.int .i64 c)/\aa aG h1 Dr) (by simpa [E'.f4] using Y h1 z x g1.ok) ?_;rintro _ h2⟨⟨cv,rfl⟩,g2⟩;have w2:=(w'.aX g1).aX g2;by_cases hc:cv<0
  .simp[hc];exact K _ _ j' ⟨by simp[E'.f0],by simp[E'.f1],by simp[E'.f4]⟩ zv DA (by simp[mP]) (by simp[kN]) w2
  .simp[hc,kN,wk];exact⟨k,by omega,k,rfl,by omega,by omega,⟨by simp[E'.f0],by simp[E'.f1],by simp[E'.f4]⟩,by simp[mP],by simp,w2⟩
 .simp[mP,kN,vz];exact K _ _ j' ⟨by simp[E'.f0],by simp[E'.f1],by simp[E'.f4]⟩ zv DA (by simp[mP]) (by simp[kN]) (w'.aX ((aa.refl g.ok).tick))
def apd(P:Int×(Bool×Int)->Prop)(d n o c a:Nat)(h0:ab)(y:Value)(i j0:Nat)(m:Nat)(e:Env)(h':ab):Prop:=
 ∃j:Nat,m=j/\j<=j0/\a<=j/\PE d n c a y e/\ai e 12=.int .i64 i/\ai e 13=.int .i64 j/\SA P d n o h0 h'
theorem Zr(Y:jZ y)(hn:n<1000000)(hj:j<n)(XJ:a<i)(haj:a<=j)(w:SA P d n o h0 h)(E:PE d n c a y e)(f11:ai e 12=.int .i64 i)(f12:ai e 13=.int .i64 j)(K:∀e' h' j',PE d n c a y e'->j'<=j->a<=j'->ai e' 12=.int .i64 i->ai e' 13=.int .i64 (j':Nat)->SA P d n o h0 h'->QQ (.exit 8) e' h'):az FF (.loop dp) e h QQ:=by
 refine az.loop (apd P d n o c a h0 y i j) ?_ (n:=j) ⟨j,rfl,by omega,haj,E,f11,f12,w⟩;rintro j' e' h'⟨_,rfl,zv,DA,E',mP,kN,w'⟩;obtain⟨g,xs,s,hb,hl,hP⟩:=id w';unfold dp;by_cases vz:i<=j'
 .have CE:a<n:=by omega
  have XX:j'<n:=by omega
  obtain⟨k,hk⟩:∃k,k=j'-1:=⟨_,rfl⟩;have wk:IntKind.i64.wrap ((j':Int)-1)=(k:Int):=by rw[wrap_i64 _ (by omega) (by omega)];omega
  obtain⟨x,hx⟩:=ay xs a;obtain⟨z,hz⟩:=ay xs j';have rx:=bS hb hx;have rz:=bS hb hz;simp[E'.f0,E'.f1,E'.f4,mP,kN,vz,CE,XX,rx,rz,aB,-ae];refine aZ.cut (fun h1=>aa aG h' h1) ?_ ?_
  .exact(aa.refl g.ok).tick
  intro h1 g1;refine aZ.cu (V:=fun v Dr=>(∃c:Int,v=.int .i64 c)/\aa aG h1 Dr) (by simpa [E'.f4] using Y h1 z x g1.ok) ?_;rintro _ h2⟨⟨cv,rfl⟩,g2⟩;have w2:=(w'.aX g1).aX g2;by_cases hc:cv<0
  .simp[hc];exact K _ _ j' ⟨by simp[E'.f0],by simp[E'.f1],by simp[E'.f4]⟩ zv DA (by simp[mP]) (by simp[kN]) w2
  .simp[hc,kN,wk];exact⟨k,by omega,k,rfl,by omega,by omega,⟨by simp[E'.f0],by simp[E'.f1],by simp[E'.f4]⟩,by simp[mP],by simp,w2⟩
 .simp[mP,kN,vz];exact K _ _ j' ⟨by simp[E'.f0],by simp[E'.f1],by simp[E'.f4]⟩ zv DA (by simp[mP]) (by simp[kN]) (w'.aX ((aa.refl g.ok).tick))
def apb(P:Int×(Bool×Int)->Prop)(d n o c a b:Nat)(h0:ab)(y:Value)(m:Nat)(e:Env)(h':ab):Prop:=
 ∃i j:Nat,m=j+1-i/\a<i/\i<=b/\a<=j/\j<b/\PE d n c a y e/\ai e 12=.int .i64 i/\ai e 13=.int .i64 j/\SA P d n o h0 h'
def PtQ(P:Int×(Bool×Int)->Prop)(d n o a b:Nat)(h0:ab)(v:Value)(h':ab):Prop:=SA P d n o h0 h'/\∃(j:Nat) (t:Bool),v=.tuple #[.int .i64 j,.bool t]/\a<=j/\j<b
theorem Vg(Y:jZ y)(mc:b<=n)(hn:n<1000000)(hap:a<=pv)(hpb:pv<b)(w:SA P d n o h0 h):aE FF gk [.slice (some ⟨d,0,none⟩) n c,.int .i64 a,.int .i64 b,.int .i64 pv,y] h (PtQ P d n o a b h0):=by
 obtain⟨g,xs,s,hb,hl,hP⟩:=id w;have CE:a<n:=by omega
 have Ql:pv<n:=by omega
 obtain⟨x,hx⟩:=ay xs a;obtain⟨z,hz⟩:=ay xs pv;have rx:=bS hb hx;have rz:=bS hb hz;have l1:a*3+3<=xs.length*3:=by omega
 have l2:pv*3+3<=xs.length*3:=by omega
 have sp:=iC xs a z (by omega);have wa:=wrap_i64 ((a:Int)+1) (by omega) (by omega);obtain⟨k,hk⟩:∃k,k=b-1:=⟨_,rfl⟩;have wb:IntKind.i64.wrap ((b:Int)-1)=(k:Int):=by rw[wrap_i64 _ (by omega) (by omega)];omega
 refine aE.of lS ?_;unfold fZ;simp[CE,Ql,rx,rz,aB,hb,l1,l2,sp,wa,wb,-ae];have w1:=SA.swap (h:=tick h) g.tick hb hl hP hx hz;refine ag3 (c:=c) (i:=a+1) Y hn CE (j:=k) (by omega) (by omega) w1 ⟨by simp,by simp,by simp⟩ (by simp) (by simp) ?_;intro e1 h1 i1 E1 LP akY Nr k13 w1;simp;refine Zq Y hn (by omega) (by omega) (by omega) w1 E1 Nr k13 ?_;intro e2 h2 j2 E2 DA ak0 OR YM w2;obtain⟨g2,rG,s2,cC,uO,Kx⟩:=id w2;have Qh:j2<n:=by omega
 obtain⟨x2,Gf⟩:=ay rG a;obtain⟨z2,DF⟩:=ay rG j2;have ZG:=bS cC Gf;have ZH:=bS cC DF;have l4:j2*3+3<=rG.length*3:=by omega
 have l5:a*3+3<=rG.length*3:=by omega
 by_cases vz:j2<i1
 .have ZZ:=iC rG j2 x2 (by omega);simp[E2.f0,E2.f1,OR,YM,vz,CE,Qh,ZG,ZH,aB,cC,l4,l5,ZZ,-ae];exact⟨SA.swap (h:=tick h2) g2.tick cC uO Kx DF Gf,j2,true,rfl,by omega,by omega⟩
 have XV:i1<n:=by omega
 obtain⟨y2,Yp⟩:=ay rG i1;have ry2:=bS cC Yp;have l3:i1*3+3<=rG.length*3:=by omega
 have ZZ:=iC rG i1 z2 (by omega);have wi:=wrap_i64 ((i1:Int)+1) (by omega) (by omega);obtain⟨k2,Cn⟩:∃k2,k2=j2-1:=⟨_,rfl⟩;have wk:IntKind.i64.wrap ((j2:Int)-1)=(k2:Int):=by rw[wrap_i64 _ (by omega) (by omega)];omega
 simp[E2.f0,OR,YM,vz,XV,Qh,ry2,ZH,aB,cC,l3,l4,ZZ,wi,wk,-ae];have w3:=SA.swap (h:=tick h2) g2.tick cC uO Kx Yp DF;refine az.loop (apb P d n o c a b h0 y) ?_ (n:=k2+1-(i1+1)) ⟨i1+1,k2,rfl,by omega,by omega,by omega,by omega,⟨by simp[E2.f0],by simp[E2.f1],by simp[E2.f4]⟩,by simp,by simp,w3⟩;rintro m e' h'⟨i,j,rfl,XJ,hib,haj,hjb,E',kN,q13,w'⟩;unfold fD;simp;refine ag4 Y hn CE (by omega) (by omega) w' E' kN q13 ?_;intro e1 h1 i1 E1 LP akY Nr k13 w1;simp;refine Zr Y hn (by omega) (by omega) haj w1 E1 Nr k13 ?_;intro e2 h2 j2 E2 DA ak0 OR YM w2;obtain⟨g2,rG,s2,cC,uO,Kx⟩:=id w2;have Qh:j2<n:=by omega
 obtain⟨x2,Gf⟩:=ay rG a;obtain⟨z2,DF⟩:=ay rG j2;have ZG:=bS cC Gf;have ZH:=bS cC DF;have l4:j2*3+3<=rG.length*3:=by omega
 have l5:a*3+3<=rG.length*3:=by omega
 by_cases vz:j2<i1
 .have ZZ:=iC rG j2 x2 (by omega);simp[OR,YM,vz];rw[tx _ _ _ _ _ (by decide)];simp[E2.f0,E2.f1,OR,YM,vz,CE,Qh,ZG,ZH,aB,cC,l4,l5,ZZ,-ae];exact⟨SA.swap (h:=tick h2) g2.tick cC uO Kx DF Gf,j2,false,rfl,by omega,by omega⟩
 .have XV:i1<n:=by omega
  obtain⟨y2,Yp⟩:=ay rG i1;have ry2:=bS cC Yp;have l3:i1*3+3<=rG.length*3:=by omega
  have ZZ:=iC rG i1 z2 (by omega);have wi:=wrap_i64 ((i1:Int)+1) (by omega) (by omega);obtain⟨k2,Cn⟩:∃k2,k2=j2-1:=⟨_,rfl⟩;have wk:IntKind.i64.wrap ((j2:Int)-1)=(k2:Int):=by rw[wrap_i64 _ (by omega) (by omega)];omega
  simp[E2.f0,OR,YM,vz,XV,Qh,ry2,ZH,aB,cC,l3,l4,ZZ,wi,wk,-ae];exact⟨k2+1-(i1+1),by omega,i1+1,k2,rfl,by omega,by omega,by omega,by omega,⟨by simp[E2.f0],by simp[E2.f1],by simp[E2.f4]⟩,by simp,by simp,SA.swap (h:=tick h2) g2.tick cC uO Kx Yp DF⟩
end
def ZO:ak:=(J_ (V_ [m_ 19 11,C_ 20 .add 19 1,m_ 21 2,B_ 22 .lss 20 21,m_ 23 22,q_ 24 23 true (.mv (t_ 4)),q_ 25 23 true (.mv (t_ 0)),q_ 26 23 true (.mv (t_ 3)),q_ 27 23 true (.mv (t_ 11)),q_ 28 23 true (.bin .add [] (t_ 26) (t_ 27)),q_ 29 23 true (.dx none 3 (t_ 25) (t_ 28)),q_ 30 23 true (.load (some 3) (t_ 29)),q_ 31 23 true (.mv (t_ 0)),q_ 32 23 true (.mv (t_ 3)),q_ 33 23 true (.mv (t_ 11)),q_ 34 23 true (.bin .add [] (t_ 32) (t_ 33)),q_ 35 23 true (.bin .add [] (t_ 34) (i_ 1)),q_ 36 23 true (.dx none 3 (t_ 31) (t_ 35)),q_ 37 23 true (.load (some 3) (t_ 36)),q_ 38 23 true (.call (t_ 24) [t_ 30,t_ 37]),q_ 39 23 true (.bin .lss [] (t_ 38) (i_ 0)),o_ 40 (.pick (t_ 23) (t_ 39) (b_ false))]) (I_ 40 (O_ [m_ 41 11,C_ 42 .add 41 1,m_ 11 42]) .skip))
def Lu:ak:=(J_ (J_ (V_ [m_ 43 4,m_ 44 0,m_ 45 3,m_ 46 10,B_ 47 .add 45 46,a_ 48 3 44 47,L_ 49 3 48,m_ 50 0,m_ 51 3,m_ 52 11,B_ 53 .add 51 52,a_ 54 3 50 53,L_ 55 3 54,o_ 56 (.call (t_ 43) [t_ 49,t_ 55]),C_ 57 .lss 56 0,o_ 58 (.un .not (t_ 57))]) (I_ 58 .ret .skip)) (J_ (V_ [m_ 59 0,m_ 60 3,m_ 61 10,B_ 62 .add 60 61,m_ 63 0,m_ 64 3,m_ 65 11,B_ 66 .add 64 65,m_ 67 0,m_ 68 3,m_ 69 11,B_ 70 .add 68 69,a_ 71 3 67 70,L_ 72 3 71,m_ 73 0,m_ 74 3,m_ 75 10,B_ 76 .add 74 75,a_ 77 3 73 76,L_ 78 3 77,a_ 79 3 59 62,s_ 3 79 72,a_ 80 3 63 66,s_ 3 80 78]) (O_ [m_ 81 11,m_ 10 81])))
theorem ZP:dF=.block 1 (G_ [m_ 13 10,o_ 14 (.bin .mul [] (i_ 2) (t_ 13)),C_ 15 .add 14 1,m_ 11 15] (J_ (G_ [m_ 16 11,m_ 17 2,B_ 18 .geq 16 17] (I_ 18 (.exit 0) .skip)) (J_ ZO Lu))):=rfl
section
variable{P:Int×(Bool×Int)->Prop}{d n o c:Nat}{h0:ab}{y:Value}
def SdI(P:Int×(Bool×Int)->Prop)(d n o c:Nat)(h0:ab)(y:Value)(hi first:Nat)(m:Nat)(e:Env)(h':ab):Prop:=
 ∃r:Nat,m=hi+1-r/\ai e 0=.slice (some ⟨d,0,none⟩) n c/\ai e 2=.int .i64 hi/\ai e 3=.int .i64 first/\ai e 4=y/\ai e 10=.int .i64 r/\r<1000000/\SA P d n o h0 h'
theorem acE(Y:jZ y){hi first r cc:Nat}(hf:first+hi<=n)(hn:n<1000000)(hrc:r<cc)(Uk:cc<hi)(w:SA P d n o h0 h)(f0:ai e 0=.slice (some ⟨d,0,none⟩) n c)(f2:ai e 2=.int .i64 hi)(f3:ai e 3=.int .i64 first)(f4:ai e 4=y)(f10:ai e 10=.int .i64 r)(f11:ai e 11=.int .i64 cc)(K1:∀e' h',SA P d n o h0 h'->QQ .ret e' h')(K2:∀e' h',SA P d n o h0 h'->ai e' 0=.slice (some ⟨d,0,none⟩) n c->ai e' 2=.int .i64 hi->ai e' 3=.int .i64 first->ai e' 4=y->ai e' 10=.int .i64 cc->QQ .normal e' h'):az FF Lu e h QQ:=by
 obtain⟨g,xs,s,hb,hl,hP⟩:=id w;obtain⟨i,LP⟩:∃i,i=first+r:=⟨_,rfl⟩
 obtain⟨j,zv⟩:∃j,j=first+cc:=⟨_,rfl⟩
 have wi:IntKind.i64.wrap ((first:Int)+(r:Int))=(i:Int):=by rw[wrap_i64 _ (by omega) (by omega)];omega
 have wj:IntKind.i64.wrap ((first:Int)+(cc:Int))=(j:Int):=by rw[wrap_i64 _ (by omega) (by omega)];omega
 have oJ:i<n:=by omega
 have I7:j<n:=by omega
 obtain⟨x,hx⟩:=ay xs i;obtain⟨z,hz⟩:=ay xs j;have rx:=bS hb hx;have rz:=bS hb hz;unfold Lu;simp[f0,f2,f3,f4,f10,f11,wi,wj,oJ,I7,rx,rz,aB,-ae];refine aZ.cut (fun h1=>aa aG h h1) ?_ ?_
 .exact(aa.refl g.ok).tick
 intro h1 g1;refine aZ.cu (V:=fun v Dr=>(∃c:Int,v=.int .i64 c)/\aa aG h1 Dr) (by simpa [f4] using Y h1 x z g1.ok) ?_;rintro _ h2⟨⟨cv,rfl⟩,g2⟩;have w2:=(w.aX g1).aX g2;by_cases hc:cv<0
 .obtain⟨gg,rG,s2,cC,uO,Kx⟩:=id w2;obtain⟨x2,Gf⟩:=ay rG i;obtain⟨z2,DF⟩:=ay rG j;have ZG:=bS cC Gf;have ZH:=bS cC DF;have l1:i*3+3<=rG.length*3:=by omega
  have l2:j*3+3<=rG.length*3:=by omega
  have sp:=iC rG i z2 (by omega);simp[hc,f0,f3,f10,f11,wi,wj,oJ,I7,ZG,ZH,aB,cC,l1,l2,sp,-ae];exact K2 _ _ (SA.swap (h:=tick h2) gg.tick cC uO Kx Gf DF) (by simp[f0]) (by simp[f2]) (by simp[f3]) (by simp[f4]) (by simp)
 .simp[hc];exact K1 _ _ w2
theorem JF(Y:jZ y){lo hi first:Nat}(hf:first+hi<=n)(hn:n<1000000)(HF:lo<1000000)(w:SA P d n o h0 h):aE FF gG [.slice (some ⟨d,0,none⟩) n c,.int .i64 lo,.int .i64 hi,.int .i64 first,y] h (fun _ h'=>SA P d n o h0 h'):=by
 refine aE.of mr ?_;unfold gz;simp;refine az.loop (SdI P d n o c h0 y hi first) ?_ (n:=hi+1-lo) ⟨lo,rfl,by simp,by simp,by simp,by simp,by simp,HF,w⟩;rintro m e h'⟨r,rfl,q0,q2,q3,q4,AQ,hr,w'⟩;obtain⟨ch,hch⟩:∃ch,ch=2*r+1:=⟨_,rfl⟩;have w1:IntKind.i64.wrap (2*(r:Int))=2*(r:Int):=wrap_i64 _ (by omega) (by omega);have w2:IntKind.i64.wrap (2*(r:Int)+1)=(ch:Int):=by rw[wrap_i64 _ (by omega) (by omega)];omega
 by_cases akI:hi<=ch
 .unfold dF;simp[q2,AQ,w1,w2,akI];rw[tx _ _ _ _ _ (by decide)];simp;exact w'
 obtain⟨g,xs,s,hb,hl,hP⟩:=id w';have AN:ch<hi:=by omega
 rw[ZP];simp[q2,AQ,w1,w2,akI];obtain⟨ch2,hch3⟩:∃ch2,ch2=ch+1:=⟨_,rfl⟩;have w3:IntKind.i64.wrap ((ch:Int)+1)=(ch2:Int):=by rw[wrap_i64 _ (by omega) (by omega)];omega
 have fin:∀(cc:Nat)(e2:Env)(h2:ab),r<cc->cc<hi->SA P d n o h0 h2->ai e2 0=.slice (some ⟨d,0,none⟩) n c->ai e2 2=.int .i64 hi->ai e2 3=.int .i64 first->ai e2 4=y->ai e2 10=.int .i64 r->ai e2 11=.int .i64 cc->az FF Lu e2 h2 (HI 1 (Fc (fun e h=>∃m,m<hi+1-r/\SdI P d n o c h0 y hi first m e h) (HI 0 (ze [] fun _ h'=>SA P d n o h0 h')))):=by
  intro cc e2 h2 a1 a2 w2 b0 b2 b3 b4 b10 b11;refine acE Y hf hn a1 a2 w2 b0 b2 b3 b4 b10 b11 (fun e' h' w'=>by simpa using w') (fun e' h' w' c0 c2 c3 c4 c10=>?_);simp;exact⟨hi+1-cc,by omega,cc,rfl,c0,c2,c3,c4,c10,by omega,w'⟩
 unfold ZO;by_cases h2:ch2<hi
 .obtain⟨i,LP⟩:∃i,i=first+ch:=⟨_,rfl⟩
  obtain⟨j,zv⟩:∃j,j=i+1:=⟨_,rfl⟩;have wi:IntKind.i64.wrap ((first:Int)+(ch:Int))=(i:Int):=by rw[wrap_i64 _ (by omega) (by omega)];omega
  have wj:IntKind.i64.wrap ((i:Int)+1)=(j:Int):=by rw[wrap_i64 _ (by omega) (by omega)];omega
  have oJ:i<n:=by omega
  have I7:j<n:=by omega
  obtain⟨x,hx⟩:=ay xs i;obtain⟨z,hz⟩:=ay xs j;have rx:=bS hb hx;have rz:=bS hb hz;simp[q0,q2,q3,q4,w3,h2,wi,wj,oJ,I7,rx,rz,aB,-ae];refine aZ.cut (fun h1=>aa aG h' h1) ?_ ?_
  .exact(aa.refl g.ok).tick
  intro h1 g1;refine aZ.cu (V:=fun v Dr=>(∃c:Int,v=.int .i64 c)/\aa aG h1 Dr) (by simpa [q4] using Y h1 x z g1.ok) ?_;rintro _ h3⟨⟨cv,rfl⟩,g2⟩;have w4:=(w'.aX g1).aX g2;by_cases hc:cv<0
  .simp[hc,w3];exact fin ch2 _ _ (by omega) h2 w4 (by simp[q0]) (by simp[q2]) (by simp[q3]) (by simp[q4]) (by simp[AQ]) (by simp)
  .simp[hc];exact fin ch _ _ (by omega) AN w4 (by simp[q0]) (by simp[q2]) (by simp[q3]) (by simp[q4]) (by simp[AQ]) (by simp)
 .simp[q2,w3,h2];exact fin ch _ _ (by omega) AN (w'.aX ((aa.refl g.ok).tick)) (by simp[q0]) (by simp[q2]) (by simp[q3]) (by simp[q4]) (by simp[AQ]) (by simp)
def aoP(P:Int×(Bool×Int)->Prop)(d n o c:Nat)(h0:ab)(y:Value)(a k:Nat)(m:Nat)(e:Env)(h':ab):Prop:=
 ∃i:Int,m=(i+1).toNat/\ -1<=i/\i<1000000/\ai e 0=.slice (some ⟨d,0,none⟩) n c/\ai e 3=y/\ai e 8=.int .i64 a/\ai e 9=.int .i64 0/\ai e 10=.int .i64 k/\ai e 11=.int .i64 i/\SA P d n o h0 h'
def aoO(P:Int×(Bool×Int)->Prop)(d n o c:Nat)(h0:ab)(y:Value)(a k:Nat)(m:Nat)(e:Env)(h':ab):Prop:=
 ∃i:Int,m=(i+1).toNat/\ -1<=i/\i<k/\ai e 0=.slice (some ⟨d,0,none⟩) n c/\ai e 3=y/\ai e 8=.int .i64 a/\ai e 9=.int .i64 0/\ai e 12=.int .i64 i/\SA P d n o h0 h'
theorem Un(Y:jZ y)(xN:a<b)(mc:b<=n)(hn:n<1000000)(w:SA P d n o h0 h):aE FF gE [.slice (some ⟨d,0,none⟩) n c,.int .i64 a,.int .i64 b,y] h (fun _ h'=>SA P d n o h0 h'):=by
 obtain⟨k,hk⟩:∃k,k=b-a:=⟨_,rfl⟩;have w1:IntKind.i64.wrap ((b:Int)-(a:Int))=(k:Int):=by rw[wrap_i64 _ (by omega) (by omega)];omega
 obtain⟨k1,hk1⟩:∃k1,k1=k-1:=⟨_,rfl⟩;have w2:IntKind.i64.wrap ((k:Int)-1)=(k1:Int):=by rw[wrap_i64 _ (by omega) (by omega)];omega
 have w3:IntKind.i64.wrap ((k1:Int)/2)=(k1:Int)/2:=wrap_i64 _ (by omega) (by omega);refine aE.of mq ?_;unfold gy;simp[w1,w2,w3];refine az.loop (aoP P d n o c h0 y a k) ?_ (n:=k1/2+1) ⟨((k1/2:Nat):Int),by omega,by omega,by omega,by simp,by simp,by simp,by simp,by simp,by simp,w⟩;rintro m e' h'⟨i,rfl,LP,EH,q0,q3,q8,q9,AQ,mP,w'⟩;unfold fQ;by_cases hi:0<=i
 .obtain⟨i,rfl⟩:∃i':Nat,i=i':=⟨i.toNat,by omega⟩;have wi:=wrap_i64 ((i:Int)-1) (by omega) (by omega);simp[q0,q3,q8,AQ,mP,hi];refine aF.call (V:=fun _ h'=>SA P d n o h0 h') (by simpa using JF (c:=c) Y (lo:=i) (hi:=k) (first:=a) (by omega) hn (by omega) w') ?_;rintro v h2 w2;simp[mP,wi];exact⟨((i:Int)-1+1).toNat,by omega,(i:Int)-1,rfl,by omega,by omega,by simp[q0],by simp[q3],by simp[q8],by simp[q9],by simp[AQ],by simp,w2⟩
 .have Dz:i= -1:=by omega
  subst Dz;simp[AQ,mP,w2];refine az.loop (aoO P d n o c h0 y a k) ?_ (n:=k1+1) ⟨(k1:Int),by omega,by omega,by omega,by simp[q0],by simp[q3],by simp[q8],by simp[q9],by simp,w'⟩;rintro m e2 h2⟨i,rfl,LP,EH,q0,q3,q8,q9,kN,w2⟩;unfold fP;by_cases hi:0<=i
  .obtain⟨i,rfl⟩:∃i':Nat,i=i':=⟨i.toNat,by omega⟩;have wi:=wrap_i64 ((i:Int)-1) (by omega) (by omega);obtain⟨j,hj⟩:∃j,j=a+i:=⟨_,rfl⟩;have wj:IntKind.i64.wrap ((a:Int)+(i:Int))=(j:Int):=by rw[wrap_i64 _ (by omega) (by omega)];omega
   have CE:a<n:=by omega
   have I7:j<n:=by omega
   obtain⟨g,xs,s,hb,hl,hP⟩:=id w2;obtain⟨x,hx⟩:=ay xs a;obtain⟨z,hz⟩:=ay xs j;have rx:=bS hb hx;have rz:=bS hb hz;have l1:a*3+3<=xs.length*3:=by omega
   have l2:j*3+3<=xs.length*3:=by omega
   have sp:=iC xs a z (by omega);simp[q0,q3,q8,q9,kN,wj,CE,I7,rx,rz,aB,hb,l1,l2,sp,-ae];have w3:=SA.swap (h:=tick h2) g.tick hb hl hP hx hz;refine aF.call (V:=fun _ h'=>SA P d n o h0 h') (by simpa using JF (c:=c) Y (lo:=0) (hi:=i) (first:=a) (by omega) hn (by omega) w3) ?_;rintro v h4 w4;simp[kN,wi];exact⟨((i:Int)-1+1).toNat,by omega,(i:Int)-1,rfl,by omega,by omega,by simp[q0],by simp[q3],by simp[q8],by simp[q9],by simp,w4⟩
  .have Dz:i= -1:=by omega
   subst Dz;simp[kN];exact w2
end
section
variable{P:Int×(Bool×Int)->Prop}{d n o c:Nat}{h0:ab}{y:Value}
structure SW(P:Int×(Bool×Int)->Prop)(d n o:Nat)(h0:ab)(S:Nat)(h:ab):Prop where
 sa:SA P d n o h0 h
 hS:∃(k:Int) (s:Nat),h.tr.get S=some (.aC [.int .i64 k] false 0 s)
 n0:h0.next<=S
 ne:S≠d
theorem SW.aX{h h':ab}{S:Nat}(w:SW P d n o h0 S h)(g:aa aG h h'):SW P d n o h0 S h':=by obtain⟨k,s,hS⟩:=w.hS;exact⟨w.sa.aX g,⟨k,s,g.get w.sa.1.ok hS⟩,w.n0,w.ne⟩
def O2Q(P:Int×(Bool×Int)->Prop)(d n o:Nat)(h0:ab)(S a b:Nat)(v:Value)(h':ab):Prop:=SW P d n o h0 S h'/\((v=.tuple #[.int .i64 a,.int .i64 b])\/v=.tuple #[.int .i64 b,.int .i64 a])
theorem kA(Y:jZ y){a b S:Nat}(ha:a<n)(hb:b<n)(w:SW P d n o h0 S h):aE FF iA [.slice (some ⟨d,0,none⟩) n c,.int .i64 a,.int .i64 b,.pointer (some ⟨S,0,none⟩),y] h (O2Q P d n o h0 S a b):=by
 obtain⟨g,xs,s,HD,hl,hP⟩:=id w.sa;obtain⟨x,hx⟩:=ay xs b;obtain⟨z,hz⟩:=ay xs a;have rx:=bS HD hx;have rz:=bS HD hz;refine aE.of nm ?_;unfold iq;simp[ha,hb,rx,rz,aB,-ae];refine aZ.cut (fun h1=>aa aG h h1) ?_ ?_
 .exact(aa.refl g.ok).tick
 intro h1 g1;refine aZ.cu (V:=fun v Dr=>(∃c:Int,v=.int .i64 c)/\aa aG h1 Dr) (by simpa using Y h1 x z g1.ok) ?_;rintro _ h2⟨⟨cv,rfl⟩,g2⟩;have w2:=(w.aX g1).aX g2;by_cases hc:cv<0
 .obtain⟨k,sk,hS⟩:=w2.hS;simp[hc,hS];have gw:=aJ w2.sa.1.ok hS (off:=0) (vs:=[.int .i64 (IntKind.i64.wrap (k+1))]);obtain⟨gg,rG,s2,cC,uO,Kx⟩:=id w2.sa;refine⟨⟨⟨gg.trans' gw (fun _ _ h=>h) (fun x hx e=>by have:=w2.n0;omega),rG,s2,gw.get gg.ok cC (fun e=>w2.ne e.symm),uO,Kx⟩,⟨_,_,by rw[aA];rfl⟩,w2.n0,w2.ne⟩,.inr rfl⟩
 .simp[hc];exact⟨w2,.inl rfl⟩
def aiV(P:Int×(Bool×Int)->Prop)(d n o:Nat)(h0:ab)(S a b k:Nat)(v:Value)(h':ab):Prop:=SW P d n o h0 S h'/\∃r:Nat,v=.int .i64 r/\(r=a\/r=b\/r=k)
theorem NA(Y:jZ y){a b k S:Nat}(ha:a<n)(hb:b<n)(hk:k<n)(w:SW P d n o h0 S h):aE FF iz [.slice (some ⟨d,0,none⟩) n c,.int .i64 a,.int .i64 b,.int .i64 k,.pointer (some ⟨S,0,none⟩),y] h (aiV P d n o h0 S a b k):=by
 refine aE.of nk ?_;unfold il;simp;have axN:∀(a b:Nat)(e:Env)(h:ab),a<n->b<n->SW P d n o h0 S h->True:=fun _ _ _ _ _ _ _=>trivial;refine aF.call (V:=O2Q P d n o h0 S a b) (by simpa using kA Y ha hb w) ?_;rintro _ h1⟨w1,rfl|rfl⟩
 .simp;refine aF.call (V:=O2Q P d n o h0 S b k) (by simpa using kA Y hb hk w1) ?_;rintro _ h2⟨w2,rfl|rfl⟩
  .simp;refine aF.call (V:=O2Q P d n o h0 S a b) (by simpa using kA Y ha hb w2) ?_;rintro _ h3⟨w3,rfl|rfl⟩
   .simp;exact⟨w3,b,rfl,by simp⟩
   .simp;exact⟨w3,a,rfl,by simp⟩
  .simp;refine aF.call (V:=O2Q P d n o h0 S a k) (by simpa using kA Y ha hk w2) ?_;rintro _ h3⟨w3,rfl|rfl⟩
   .simp;exact⟨w3,k,rfl,by simp⟩
   .simp;exact⟨w3,a,rfl,by simp⟩
 .simp;refine aF.call (V:=O2Q P d n o h0 S a k) (by simpa using kA Y ha hk w1) ?_;rintro _ h2⟨w2,rfl|rfl⟩
  .simp;refine aF.call (V:=O2Q P d n o h0 S b a) (by simpa using kA Y hb ha w2) ?_;rintro _ h3⟨w3,rfl|rfl⟩
   .simp;exact⟨w3,a,rfl,by simp⟩
   .simp;exact⟨w3,b,rfl,by simp⟩
  .simp;refine aF.call (V:=O2Q P d n o h0 S b k) (by simpa using kA Y hb hk w2) ?_;rintro _ h3⟨w3,rfl|rfl⟩
   .simp;exact⟨w3,k,rfl,by simp⟩
   .simp;exact⟨w3,b,rfl,by simp⟩
def CpQ(P:Int×(Bool×Int)->Prop)(d n o a b:Nat)(h0:ab)(v:Value)(h':ab):Prop:=SA P d n o h0 h'/\∃(j:Nat) (t:Int),v=.tuple #[.int .i64 j,.int .i64 t]/\a<=j/\j<b
theorem Vi(xN:a+8<=b)(mc:b<=n)(hn:n<50):∃l q q2 q3 i j k:Nat,IntKind.i64.wrap ((b:Int)-(a:Int))=(l:Int)/\IntKind.i64.wrap ((l:Int)/4)=(q:Int)/\IntKind.i64.wrap (q:Int)=(q:Int)/\IntKind.i64.wrap ((q:Int)*2)=(q2:Int)/\IntKind.i64.wrap ((q:Int)*3)=(q3:Int)/\IntKind.i64.wrap ((a:Int)+(q:Int))=(i:Int)/\IntKind.i64.wrap ((a:Int)+(q2:Int))=(j:Int)/\IntKind.i64.wrap ((a:Int)+(q3:Int))=(k:Int)/\(8:Int)<=l/\¬(50:Int)<=l/\(a<=i/\i<b)/\(a<=j/\j<b)/\(a<=k/\k<b):=by
 obtain⟨l,hl⟩:∃l,l=b-a:=⟨_,rfl⟩;have w1:IntKind.i64.wrap ((b:Int)-(a:Int))=(l:Int):=by rw[wrap_i64 _ (by omega) (by omega)];omega
 obtain⟨q,hq⟩:∃q,q=l/4:=⟨_,rfl⟩;have w2:IntKind.i64.wrap ((l:Int)/4)=(q:Int):=by rw[wrap_i64 _ (by omega) (by omega)];omega
 have w3:IntKind.i64.wrap (q:Int)=(q:Int):=wrap_i64 _ (by omega) (by omega);obtain⟨q2,hq2⟩:∃q2,q2=q*2:=⟨_,rfl⟩;obtain⟨q3,hq3⟩:∃q3,q3=q*3:=⟨_,rfl⟩;have w4:IntKind.i64.wrap ((q:Int)*2)=(q2:Int):=by rw[wrap_i64 _ (by omega) (by omega)];omega
 have w5:IntKind.i64.wrap ((q:Int)*3)=(q3:Int):=by rw[wrap_i64 _ (by omega) (by omega)];omega
 obtain⟨i,hi⟩:∃i,i=a+q:=⟨_,rfl⟩;obtain⟨j,hj⟩:∃j,j=a+q2:=⟨_,rfl⟩;obtain⟨k,hk⟩:∃k,k=a+q3:=⟨_,rfl⟩;have w6:IntKind.i64.wrap ((a:Int)+(q:Int))=(i:Int):=by rw[wrap_i64 _ (by omega) (by omega)];omega
 have w7:IntKind.i64.wrap ((a:Int)+(q2:Int))=(j:Int):=by rw[wrap_i64 _ (by omega) (by omega)];omega
 have w8:IntKind.i64.wrap ((a:Int)+(q3:Int))=(k:Int):=by rw[wrap_i64 _ (by omega) (by omega)];omega
 have h8:(8:Int)<=l:=by omega
 have h50:¬(50:Int)<=l:=by omega
 exact⟨l,q,q2,q3,i,j,k,w1,w2,w3,w4,w5,w6,w7,w8,h8,h50,⟨by omega,by omega⟩,⟨by omega,by omega⟩,⟨by omega,by omega⟩⟩
theorem Q4(Y:jZ y)(hdh:h0.next<=h.next)(xN:a+8<=b)(mc:b<=n)(hn:n<50)(w:SA P d n o h0 h):aE FF fy [.slice (some ⟨d,0,none⟩) n c,.int .i64 a,.int .i64 b,y] h (CpQ P d n o a b h0):=by
 obtain⟨l,q,q2,q3,i,j,k,w1,w2,w3,w4,w5,w6,w7,w8,h8,h50,⟨i1,i2⟩,⟨j1,j2⟩,k1,k2⟩:=Vi xN mc hn;obtain⟨g,xs,s,HD,u6,hP⟩:=id w;have ld:=(g.ok.bE HD).lt;refine aE.of kO ?_;unfold fp;simp[w1,w2,w3,w4,w5,w6,w7,w8,h8,h50];refine aF.cut (fun h1=>SW P d n o h0 h.next h1) ?_ ?_
 .have gn:aa aG h (aD h [.int .i64 0] 0):=(aa.refl g.ok).new _ _;exact⟨w.aX gn,⟨0,0,by simp⟩,hdh,by omega⟩
 intro h1 w1;refine aF.call (V:=aiV P d n o h0 h.next i j k) (by simpa using NA (c:=c) Y (En i2 mc) (En j2 mc) (En k2 mc) w1) ?_;rintro _ h2⟨w2,r,rfl,hr⟩;have qM:a<=r:=by rcases hr with rfl|rfl|rfl<;>assumption
 have uP:r<b:=by rcases hr with rfl|rfl|rfl<;>assumption
 clear w3 w4 w5 w6 w7 w8 h8 h50;obtain⟨sw,ss,hS⟩:=w2.hS;by_cases e0:sw=0
 .subst e0;simp[hS];exact⟨w2.sa,r,1,rfl,qM,uP⟩
 .have e0':(sw==0)=false:=by simpa using e0
  by_cases e12:sw=12
  .subst e12;simp[hS];exact⟨w2.sa,r,2,rfl,qM,uP⟩
  .have apZ:(sw==12)=false:=by simpa using e12
   simp[hS,e0',apZ,e0,e12];exact⟨w2.sa,r,(0:Int),rfl,qM,uP⟩
def PiI(P:Int×(Bool×Int)->Prop)(d n o c:Nat)(h0:ab)(y:Value)(a b:Nat)(m:Nat)(e:Env)(h':ab):Prop:=
 ∃i:Nat,m=b-i/\a<i/\i<=b/\ai e 0=.slice (some ⟨d,0,none⟩) n c/\ai e 1=.int .i64 a/\ai e 2=.int .i64 b/\ai e 3=y/\ai e 9=.int .i64 i/\SA P d n o h0 h'
def ai1(P:Int×(Bool×Int)->Prop)(d n o:Nat)(h0:ab)(v:Value)(h':ab):Prop:=SA P d n o h0 h'/\∃t:Bool,v=.bool t
theorem La(Y:jZ y)(xN:a<b)(mc:b<=n)(hn:n<50)(w:SA P d n o h0 h):aE FF dK [.slice (some ⟨d,0,none⟩) n c,.int .i64 a,.int .i64 b,y] h (ai1 P d n o h0):=by
 have w0:=wrap_i64 ((a:Int)+1) (by omega) (by omega);have w1:=wrap_i64 ((b:Int)-(a:Int)) (by omega) (by omega);refine aE.of iE ?_;unfold dJ;simp[w0];rw[pH];unfold dz;simp;refine az.loop (PiI P d n o c h0 y a b) ?_ (n:=b-(a+1)) ⟨a+1,rfl,by omega,by omega,by simp,by simp,by simp,by simp,by simp,w⟩;rintro m e' h'⟨i,rfl,XJ,hib,q0,q1,q2,q3,q9,w'⟩;obtain⟨g,xs,s,hb,hl,hP⟩:=id w';unfold dy;have dQ:(b:Int)-(a:Int)<50:=by omega
 by_cases hi:i<b
 .obtain⟨k,hk⟩:∃k,k=i-1:=⟨_,rfl⟩;have wk:IntKind.i64.wrap ((i:Int)-1)=(k:Int):=by rw[wrap_i64 _ (by omega) (by omega)];omega
  have wi:=wrap_i64 ((i:Int)+1) (by omega) (by omega);have oJ:i<n:=by omega
  have KF:k<n:=by omega
  obtain⟨x,hx⟩:=ay xs i;obtain⟨z,hz⟩:=ay xs k;have rx:=bS hb hx;have rz:=bS hb hz;simp[q0,q2,q3,q9,hi,oJ,KF,wk,rx,rz,aB,-ae];refine aZ.cut (fun h1=>aa aG h' h1) ?_ ?_
  .exact(aa.refl g.ok).tick
  intro h1 g1;refine aZ.cu (V:=fun v Dr=>(∃c:Int,v=.int .i64 c)/\aa aG h1 Dr) (by simpa [q3] using Y h1 x z g1.ok) ?_;rintro _ h2⟨⟨cv,rfl⟩,g2⟩;have w2:=(w'.aX g1).aX g2;by_cases hc:cv<0
  .have ct:((i:Int)==(b:Int))=false:=by simp;omega
   simp[hc,q1,q2,q9,ct,w1,dQ];exact⟨w2,_,rfl⟩
  .simp[hc,q9,wi];exact⟨b-(i+1),by omega,i+1,rfl,by omega,by omega,by simp[q0],by simp[q1],by simp[q2],by simp[q3],by simp,w2⟩
 .have hib:i=b:=by omega
  subst hib;simp[q2,q9];exact⟨w'.aX ((aa.refl g.ok).tick),_,rfl⟩
end
def KQ:ByteArray:=⟨⟨[0,1,2,2,3,3,3,3,4,4,4,4,4,4,4,4,5,5,5,5,5,5,5,5,5,5,5,5,5,5,5,5,6,6,6,6,6,6,6,6,6,6,6,6,6,6,6,6,6,6,6,6,6,6,6,6,6,6,6,6,6,6,6,6,7,7,7,7,7,7,7,7,7,7,7,7,7,7,7,7,7,7,7,7,7,7,7,7,7,7,7,7,7,7,7,7,7,7,7,7,7,7,7,7,7,7,7,7,7,7,7,7,7,7,7,7,7,7,7,7,7,7,7,7,7,7,7,7,8,8,8,8,8,8,8,8,8,8,8,8,8,8,8,8,8,8,8,8,8,8,8,8,8,8,8,8,8,8,8,8,8,8,8,8,8,8,8,8,8,8,8,8,8,8,8,8,8,8,8,8,8,8,8,8,8,8,8,8,8,8,8,8,8,8,8,8,8,8,8,8,8,8,8,8,8,8,8,8,8,8,8,8,8,8,8,8,8,8,8,8,8,8,8,8,8,8,8,8,8,8,8,8,8,8,8,8,8,8,8,8,8,8,8,8,8,8,8,8,8,8,8,8,8,8,8,8]⟩⟩
def lenOf(n:Nat):Nat:=if n=0 then 0 else if n<2 then 1 else if n<4 then 2 else if n<8 then 3 else if n<16 then 4 else if n<32 then 5 else 6
def adR(n:Nat):Bool:=match KQ[n]? with
 |some u=>u.toNat==lenOf n
 |none=>false
theorem QE:(List.range 64).all adR=true:=by kernel_rfl
theorem UQ(h:n<64):∃u,KQ[n]?=some u/\u.toNat=lenOf n:=by
 have:=List.all_eq_true.1 QE n (PY.2 h);unfold adR at this;split at this
 .rename_i u hu;exact⟨u,hu,by simpa using this⟩
 .cases this
def YG(t:ByteArray):ak:=(G_ [k_ 2 0] (J_ (G_ [m_ 3 0,o_ 4 (.bin .geq [] (t_ 3) (.const (.int .u64 4294967296)))] (I_ 4 (G_ [m_ 5 0,o_ 6 (.bin .shr [] (t_ 5) (.const (.int .u64 32))),m_ 0 6] (O_ [k_ 2 32])) .skip)) (J_ (G_ [m_ 7 0,o_ 8 (.bin .geq [] (t_ 7) (.const (.int .u64 65536)))] (I_ 8 (G_ [m_ 9 0,o_ 10 (.bin .shr [] (t_ 9) (.const (.int .u64 16))),m_ 0 10] (O_ [m_ 11 2,C_ 12 .add 11 16,m_ 2 12])) .skip)) (J_ (G_ [m_ 13 0,o_ 14 (.bin .geq [] (t_ 13) (.const (.int .u64 256)))] (I_ 14 (G_ [m_ 15 0,o_ 16 (.bin .shr [] (t_ 15) (.const (.int .u64 8))),m_ 0 16] (O_ [m_ 17 2,C_ 18 .add 17 8,m_ 2 18])) .skip)) (G_ [m_ 19 2,m_ 20 0,o_ 21 (.conv .u8 (t_ 20)),o_ 22 (.index none (.const (.string t)) (t_ 21)),o_ 23 (.conv .i64 (t_ 22)),B_ 24 .add 19 23,m_ 2 24] .ret)))))
theorem aaT:FF ny=some ⟨[.tmp 2],YG KQ,.no⟩:=Bk
theorem wrap_u8(n:Int)(h:0<=n)(h':n<256):IntKind.u8.wrap n=n:=by simp only[IntKind.wrap,IntKind.signed,IntKind.bits];simp;omega
theorem BC(n:Nat):lenOf n<=6:=by
 unfold lenOf
 repeat (split;omega)
 omega
theorem QD(h:ab)(n:Nat)(hn:n<64):aE FF ny [.int .u64 (n:Nat)] h (fun v h'=>v=.int .i64 (lenOf n)/\h'=h):=by
 obtain⟨u,hu,hu2⟩:=UQ hn;have hl:=BC n;have w1:=wrap_u8 (n:Int) (by omega) (by omega);have w2:=wrap_i64 (lenOf n:Int) (by omega) (by omega);have c1:¬(4294967296:Int)<=n:=by omega
 have c2:¬(65536:Int)<=n:=by omega
 have c3:¬(256:Int)<=n:=by omega
 refine aE.of aaT ?_;generalize KQ=t at hu;unfold YG;simp[c1,c2,c3,w1,w2,hu,hu2]
theorem Gp(h:ab)(n:Nat)(hn:n<64):aE FF wU [.int .u64 (n:Nat)] h (fun v h'=>v=.int .i64 (lenOf n)/\h'=h):=by refine aE.of Eg ?_;unfold wI;simp;rw[yH (t:=false) rfl];simp;refine aF.call (V:=fun v h'=>v=.int .i64 (lenOf n)/\h'=h) (by simpa using QD h n hn) ?_;rintro _ h'⟨rfl,rfl⟩;simp
theorem Zo(h:ab)(n:Nat)(hn:n<64):aE FF mM [.int .i64 (n:Nat)] h (fun v h'=>v=.int .u64 ((2^lenOf n:Nat):Int)/\h'=h):=by
 have w:=jc (n:Int) (by omega) (by omega);have hl:=BC n;refine aE.of vg ?_;unfold mF;simp[w];refine aF.call (V:=fun v h'=>v=.int .i64 (lenOf n)/\h'=h) (by simpa using Gp h n hn) ?_;rintro _ h'⟨rfl,rfl⟩;generalize lenOf n=k at*;have s0:∀k:Nat,k<=6->kJ .shl .u64 1 (k:Int)=some (.int .u64 (2^k)):=by intro k hk;rcases(show k=0\/k=1\/k=2\/k=3\/k=4\/k=5\/k=6 by omega) with rfl|rfl|rfl|rfl|rfl|rfl|rfl<;>rfl
 have s1:=s0 k hl;simp[s1]
def NxQ(h:ab)(R:Nat)(v:Value)(h':ab):Prop:=(∃x:Int,v=.int .u64 x)/\aa (· =R) h h'/\∃(x:Int) (s:Nat),h'.tr.get R=some (.aC [.int .u64 x] false 0 s)
theorem UZ(ok:bl h){x:Int}(hR:h.tr.get R=some (.aC [.int .u64 x] false 0 s)):aE FF nA [.pointer (some ⟨R,0,none⟩)] h (NxQ h R):=by refine aE.of vL ?_;unfold nc;have sh:∀x:Int,∃z,kJ .shl .u64 x 13=some (.int .u64 z):=fun x=>⟨_,rfl⟩;have sr:∀x:Int,∃z,kJ .shr .u64 x 7=some (.int .u64 z):=fun x=>⟨_,rfl⟩;have sl:∀x:Int,∃z,kJ .shl .u64 x 17=some (.int .u64 z):=fun x=>⟨_,rfl⟩;have xo:∀x z:Int,∃w,gD .xor .u64 x z=some (.int .u64 w):=fun x z=>⟨_,rfl⟩;obtain⟨a1,e1⟩:=sh x;obtain⟨a2,e2⟩:=xo x a1;obtain⟨a3,e3⟩:=sr a2;obtain⟨a4,e4⟩:=xo a2 a3;obtain⟨a5,e5⟩:=sl a4;obtain⟨a6,e6⟩:=xo a4 a5;simp[hR,e1,e2,e3,e4,e5,e6,-gD];have gt:aa aG h (tick h):=(aa.refl ok).tick;have g1:aa (· =R) h (put (tick h) R 0 [.int .u64 x] [.int .u64 a2] 0):=gt.aX.trans (aJ gt.ok hR);have h1:(put (tick h) R 0 [.int .u64 x] [.int .u64 a2] 0).tr.get R=some (.aC [.int .u64 a2] false 0 (tick h).clock):=aA _ _ _ _ _ _;have g2:=(g1.tick).trans (aJ g1.tick.ok h1 (off:=0) (vs:=[.int .u64 a4]));have h2:(put (tick (put (tick h) R 0 [.int .u64 x] [.int .u64 a2] 0)) R 0 [.int .u64 a2] [.int .u64 a4] 0).tr.get R=some (.aC [.int .u64 a4] false 0 (tick (put (tick h) R 0 [.int .u64 x] [.int .u64 a2] 0)).clock):=aA _ _ _ _ _ _;have g3:=(g2.tick).trans (aJ g2.tick.ok h2 (off:=0) (vs:=[.int .u64 a6]));exact⟨⟨a6,rfl⟩,g3,a6,_,aA _ _ _ _ _ _⟩
section
variable{P:Int×(Bool×Int)->Prop}{d n o c:Nat}{h0:ab}{y:Value}
theorem aeq(x:Int)(k:Nat)(hk:k<=6):∃r:Nat,gD .and .u64 x ((2^k:Nat)-1:Int)=some (.int .u64 r)/\r<2^k:=by
 have e:(BitVec.ofInt 64 ((2^k:Nat)-1:Int)).toNat=2^k-1:=by rcases(show k=0\/k=1\/k=2\/k=3\/k=4\/k=5\/k=6 by omega) with rfl|rfl|rfl|rfl|rfl|rfl|rfl<;>decide
 have hle:2^k<=64:=by rcases(show k=0\/k=1\/k=2\/k=3\/k=4\/k=5\/k=6 by omega) with rfl|rfl|rfl|rfl|rfl|rfl|rfl<;>decide
 have hp:0<2^k:=Nat.two_pow_pos k;have ha:(BitVec.ofInt 64 x &&& BitVec.ofInt 64 ((2^k:Nat)-1:Int)).toNat<2^k:=by rw[BitVec.toNat_and,e];have:=Nat.and_le_right (n:=(BitVec.ofInt 64 x).toNat) (m:=2^k-1);omega
 refine⟨(BitVec.ofInt 64 x &&& BitVec.ofInt 64 ((2^k:Nat)-1:Int)).toNat,?_,ha⟩;show some (Value.int .u64 (IntKind.u64.wrap ((BitVec.ofInt 64 x &&& BitVec.ofInt 64 ((2^k:Nat)-1:Int)).toNat:Int)))=_;rw[jc _ (by omega) (by omega)]
structure SR(P:Int×(Bool×Int)->Prop)(d n o:Nat)(h0:ab)(R:Nat)(h:ab):Prop where
 sa:SA P d n o h0 h
 hR:∃(x:Int) (s:Nat),h.tr.get R=some (.aC [.int .u64 x] false 0 s)
 n0:h0.next<=R
 ne:R≠d
def BpI(P:Int×(Bool×Int)->Prop)(d n o c:Nat)(h0:ab)(R a l M q:Nat)(m:Nat)(e:Env)(h':ab):Prop:=
 ∃i:Nat,m=a+q+2-i/\a+q<=i+1/\i<=a+q+2/\ai e 0=.slice (some ⟨d,0,none⟩) n c/\ai e 1=.int .i64 a/\ai e 8=.int .i64 l/\ai e 9=.pointer (some ⟨R,0,none⟩)/\ai e 10=.int .u64 (M:Int)/\ai e 11=.int .i64 i/\SR P d n o h0 R h'
def Pu:ak:=(J_ (G_ [m_ 43 12,m_ 44 8,B_ 45 .geq 43 44] (I_ 45 (O_ [m_ 46 12,m_ 47 8,B_ 48 .sub 46 47,m_ 12 48]) .skip)) (V_ [m_ 49 0,m_ 50 11,m_ 51 0,m_ 52 1,m_ 53 12,B_ 54 .add 52 53,m_ 55 0,m_ 56 1,m_ 57 12,B_ 58 .add 56 57,a_ 59 3 55 58,L_ 60 3 59,m_ 61 0,m_ 62 11,a_ 63 3 61 62,L_ 64 3 63,a_ 65 3 49 50,s_ 3 65 60,a_ 66 3 51 54,s_ 3 66 64]))
theorem WZ:ew=.seq (G_ [m_ 28 11,m_ 29 1,m_ 30 8,C_ 31 .quo 30 4,C_ 32 .mul 31 2,B_ 33 .add 29 32,C_ 34 .add 33 1,B_ 35 .leq 28 34] (H_ 35 0)) (J_ (P_ 1 (G_ [F_ 38 279 [t_ 9],m_ 39 10,o_ 40 (.bin .sub [] (t_ 39) (.const (.int .u64 1))),B_ 41 .and 38 40,o_ 42 (.conv .i64 (t_ 41)),m_ 12 42] Pu)) (O_ [m_ 36 11,C_ 37 .add 36 1,m_ 11 37])):=rfl
theorem aaS{R a l r i:Nat}(hl:a+l<=n)(hn:n<50)(hr:r<2*l)(hi:i<n)(w:SR P d n o h0 R h)(q0:ai e 0=.slice (some ⟨d,0,none⟩) n c)(q1:ai e 1=.int .i64 a)(q8:ai e 8=.int .i64 l)(mP:ai e 11=.int .i64 i)(kN:ai e 12=.int .i64 r)(C:∀e' h',SR P d n o h0 R h'->ax [12,43,44,45,46,47,48,49,50,51,52,53,54,55,56,57,58,59,60,61,62,63,64,65,66] e e'->QQ .normal e' h'):az FF Pu e h QQ:=by
 obtain⟨x3,s3,Ky⟩:=w.hR;obtain⟨r2,uP,hr2l⟩:∃r2:Nat,(if l<=r then(r2:Int)=(r:Int)-(l:Int) else r2=r)/\r2<l:=by
  by_cases h:l<=r
  .exact⟨r-l,by rw[aY h];omega,by omega⟩
  .exact⟨r,by rw[bc h],by omega⟩
 obtain⟨j,hj⟩:∃j,j=a+r2:=⟨_,rfl⟩;have wj:IntKind.i64.wrap ((a:Int)+(r2:Int))=(j:Int):=by rw[wrap_i64 _ (by omega) (by omega)];omega
 have I7:j<n:=by omega
 obtain⟨g2,rG,s2,cC,uO,Kx⟩:=id w.sa;obtain⟨x,hx⟩:=ay rG i;obtain⟨z,hz⟩:=ay rG j;have rdx:=bS cC hx;have rdz:=bS cC hz;have l1:i*3+3<=rG.length*3:=by omega
 have l2:j*3+3<=rG.length*3:=by omega
 have sp:=iC rG i z (by omega);have sw:=SA.swap (h:=tick h) g2.tick cC uO Kx hx hz;have gsw:aa (· =d) h (put (put (tick h) d (i*3) (mT.flat rG) [.int .i64 z.1,.bool z.2.1,.int .i64 z.2.2] o) d (j*3) (mT.flat (rG.set i z)) [.int .i64 x.1,.bool x.2.1,.int .i64 x.2.2] o):=by have gt:aa aG h (tick h):=(aa.refl g2.ok).tick;have g4:=gt.aX.trans (aJ gt.ok (b:=d) cC (off:=i*3) (vs:=[.int .i64 z.1,.bool z.2.1,.int .i64 z.2.2]));exact g4.trans (aJ g4.ok (by rw[aA,sp]))
 have SRf:SR P d n o h0 R (put (put (tick h) d (i*3) (mT.flat rG) [.int .i64 z.1,.bool z.2.1,.int .i64 z.2.2] o) d (j*3) (mT.flat (rG.set i z)) [.int .i64 x.1,.bool x.2.1,.int .i64 x.2.2] o):=⟨sw,⟨x3,s3,gsw.get g2.ok Ky w.ne⟩,w.n0,w.ne⟩;unfold Pu;by_cases rh:l<=r
 .rw[aY rh] at uP;have w10:IntKind.i64.wrap ((r:Int)-(l:Int))=(r2:Int):=by rw[wrap_i64 _ (by omega) (by omega)];omega
  simp[q0,q1,q8,mP,kN,rh,w10,wj,hi,I7,rdx,rdz,aB,cC,l1,l2,sp,-ae];refine C _ _ SRf ?_
  repeat (refine ax.set ?_)
  exact ax.refl _ _
 .rw[bc rh] at uP;subst uP;simp[q0,q1,q8,mP,kN,rh,wj,hi,I7,rdx,rdz,aB,cC,l1,l2,sp,-ae];refine C _ _ SRf ?_
  repeat (refine ax.set ?_)
  exact ax.refl _ _
theorem Pv(hdh:h0.next<=h.next)(xN:a+13<=b)(mc:b<=n)(hn:n<50)(w:SA P d n o h0 h):aE FF eQ [.slice (some ⟨d,0,none⟩) n c,.int .i64 a,.int .i64 b,y] h (fun _ h'=>SA P d n o h0 h'):=by
 obtain⟨l,hl⟩:∃l,l=b-a:=⟨_,rfl⟩;have w1:IntKind.i64.wrap ((b:Int)-(a:Int))=(l:Int):=by rw[wrap_i64 _ (by omega) (by omega)];omega
 obtain⟨q4,hq4⟩:∃q,q=l/4:=⟨_,rfl⟩;have w2:IntKind.i64.wrap ((l:Int)/4)=(q4:Int):=by rw[wrap_i64 _ (by omega) (by omega)];omega
 obtain⟨q,hq⟩:∃q,q=q4*2:=⟨_,rfl⟩;have w3:IntKind.i64.wrap ((q4:Int)*2)=(q:Int):=by rw[wrap_i64 _ (by omega) (by omega)];omega
 have w4:IntKind.i64.wrap ((a:Int)+(q:Int))=((a+q:Nat):Int):=by rw[wrap_i64 _ (by omega) (by omega)];omega
 obtain⟨i0,hi0⟩:∃i,i=a+q-1:=⟨_,rfl⟩;have w5:IntKind.i64.wrap (((a+q:Nat):Int)-1)=(i0:Int):=by rw[wrap_i64 _ (by omega) (by omega)];omega
 have w6:=jc (l:Int) (by omega) (by omega);have h8:(8:Int)<=l:=by omega
 have hk6:=BC l;have aso:=fun h=>Zo h l (by omega);have Cn:2^lenOf l<=2*l:=by
  unfold lenOf
  repeat (split;omega)
  omega
 have hq1:q+2<=l:=by omega
 have hq2:1<=a+q:=by omega
 clear hq4 hq;generalize lenOf l=k at*;have hand:∀x:Int,∃r:Nat,gD .and .u64 x ((2^k:Nat)-1:Int)=some (.int .u64 r)/\r<2^k:=fun x=>aeq x k hk6;have hMp:=Nat.two_pow_pos k;generalize 2^k=M at*;obtain⟨g,xs,s,HD,u6,hP⟩:=id w;have ld:=(g.ok.bE HD).lt;refine aE.of j9 ?_;unfold eL;simp[w1,h8,w6];refine aF.cut (fun h1=>SR P d n o h0 h.next h1) ?_ ?_
 .have gn:aa aG h (put (aD h [.int .u64 0] 0) h.next 0 [.int .u64 0] [.int .u64 l] 0):=(aa.refl g.ok).var _ _;exact⟨w.aX gn,⟨_,_,aA _ _ _ _ _ _⟩,hdh,by omega⟩
 intro h1 w1';refine aF.call (V:=fun v h'=>v=.int .u64 (M:Int)/\h'=h1) (by simpa using aso h1) ?_;rintro _ h2⟨rfl,e2⟩;rw[e2];have w4':IntKind.i64.wrap ((a:Int)+(q:Int))=(a:Int)+(q:Int):=by rw[w4];omega
 have w5':IntKind.i64.wrap ((a:Int)+(q:Int)-1)=(i0:Int):=by rw[<-w5];congr 1
 simp[w2,w3,w4',w5'];refine az.loop (BpI P d n o c h0 h.next a l M q) ?_ (n:=a+q+2-i0) ⟨i0,rfl,by omega,by omega,by simp,by simp,by simp,by simp,by simp,by simp,w1'⟩;rintro m e' h'⟨i,rfl,LP,EH,q0,q1,q8,q9,AQ,mP,w'⟩;have w7:IntKind.i64.wrap ((a:Int)+(q:Int)+1)=(a:Int)+(q:Int)+1:=wrap_i64 _ (by omega) (by omega);rw[WZ];by_cases hi:i<=a+q+1
 .have Dz:(i:Int)<=(a:Int)+(q:Int)+1:=by omega
  obtain⟨x,sx,hR⟩:=w'.hR;simp[q1,q8,q9,mP,w2,w3,w4',w7,Dz];refine aF.call (V:=NxQ h' h.next) (by simpa [q9] using UZ w'.sa.1.ok hR) ?_;rintro _ h3⟨⟨rx,rfl⟩,g3,x3,s3,Ky⟩;have sa3:SA P d n o h0 h3:=by obtain⟨gg,rG,s2,cC,uO,Kx⟩:=w'.sa;exact⟨gg.trans' g3 (fun _ _ h=>h) (fun x hx e=>by have:=w'.n0;omega),rG,s2,g3.get gg.ok cC (fun e=>w'.ne e.symm),uO,Kx⟩
  obtain⟨r,hr,hrk⟩:=hand rx;have w8:IntKind.u64.wrap ((M:Int)-1)=(M:Int)-1:=jc _ (by omega) (by omega);have w9:IntKind.i64.wrap (r:Int)=(r:Int):=wrap_i64 _ (by omega) (by omega);have hs1:gD .sub .u64 (M:Int) 1=some (.int .u64 ((M:Int)-1)):=by simp[w8]
  have wi:=wrap_i64 ((i:Int)+1) (by omega) (by omega);simp[AQ,hs1,hr,w9,-gD];refine aaS (a:=a) (l:=l) (r:=r) (i:=i) (R:=h.next) (c:=c) (by omega) hn (by omega) (by omega) ⟨sa3,⟨x3,s3,Ky⟩,w'.n0,w'.ne⟩ (by simp[q0]) (by simp[q1]) (by simp[q8]) (by simp[mP]) (by simp) ?_;intro e4 h4 w4 K4;have k0:=K4.at (t:=0) (by simp;exact q0);have k1:=K4.at (t:=1) (by simp;exact q1);have k8:=K4.at (t:=8) (by simp;exact q8);have k9:=K4.at (t:=9) (by simp;exact q9);have k10:=K4.at (t:=10) (by simp;exact AQ);have k11:=K4.at (t:=11) (by simp;exact mP);simp[k11,wi];exact⟨a+q+2-(i+1),by omega,i+1,rfl,by omega,by omega,by simp[k0],by simp[k1],by simp[k8],by simp[k9],by simp[k10],by simp,w4⟩
 .have Dz:¬(i:Int)<=(a:Int)+(q:Int)+1:=by omega
  simp[q1,q8,mP,w2,w3,w4',w7,Dz];exact w'.sa
end
def pdF:ak:=(G_ [m_ 38 10,o_ 39 (.un .not (t_ 38))] (I_ 39 (G_ [m_ 40 0,m_ 41 1,m_ 42 2,m_ 43 4,F_ 44 267 [t_ 40,t_ 41,t_ 42,t_ 43]] (O_ [m_ 45 3,C_ 46 .sub 45 1,m_ 3 46])) .skip))
def pdE:ak:=(O_ [m_ 48 0,m_ 49 1,m_ 50 2,m_ 51 4,F_ 52 268 [t_ 48,t_ 49,t_ 50,t_ 51],m_ 47 52,E_ 53 0 47,E_ 54 1 47,m_ 13 53,m_ 14 54])
def pdD:ak:=(G_ [m_ 55 14,Y_ 56 .eql 55 2] (I_ 56 (G_ [m_ 57 0,m_ 58 1,m_ 59 2,m_ 60 4,F_ 61 269 [t_ 57,t_ 58,t_ 59,t_ 60]] (G_ [m_ 62 2,C_ 63 .sub 62 1,m_ 64 13,m_ 65 1,B_ 66 .sub 64 65,B_ 67 .sub 63 66,m_ 13 67] (O_ [k_ 14 1]))) .skip))
def pdC:ak:=(G_ [m_ 68 10,m_ 69 68,q_ 70 69 true (.mv (t_ 11)),o_ 71 (.pick (t_ 69) (t_ 70) (b_ false)),m_ 72 71,q_ 73 72 true (.mv (t_ 14)),q_ 74 72 true (.bin .eql [1] (t_ 73) (i_ 1)),o_ 75 (.pick (t_ 72) (t_ 74) (b_ false))] (I_ 75 (G_ [m_ 76 0,m_ 77 1,m_ 78 2,m_ 79 4,F_ 80 270 [t_ 76,t_ 77,t_ 78,t_ 79]] (I_ 80 .ret .skip)) .skip))
def pdB:ak:=(J_ (V_ [m_ 81 1,C_ 82 .gtr 81 0,m_ 83 82,q_ 84 83 true (.mv (t_ 4)),q_ 85 83 true (.mv (t_ 0)),q_ 86 83 true (.mv (t_ 1)),q_ 87 83 true (.bin .sub [] (t_ 86) (i_ 1)),q_ 88 83 true (.dx none 3 (t_ 85) (t_ 87)),q_ 89 83 true (.load (some 3) (t_ 88)),q_ 90 83 true (.mv (t_ 0)),q_ 91 83 true (.mv (t_ 13)),q_ 92 83 true (.dx none 3 (t_ 90) (t_ 91)),q_ 93 83 true (.load (some 3) (t_ 92)),q_ 94 83 true (.call (t_ 84) [t_ 89,t_ 93]),q_ 95 83 true (.bin .lss [] (t_ 94) (i_ 0)),q_ 96 83 true (.un .not (t_ 95)),o_ 97 (.pick (t_ 83) (t_ 96) (b_ false))]) (I_ 97 (G_ [m_ 98 0,m_ 99 1,m_ 100 2,m_ 101 13,m_ 102 4,F_ 103 271 [t_ 98,t_ 99,t_ 100,t_ 101,t_ 102],m_ 15 103] (G_ [m_ 104 15,m_ 1 104] (.exit 1))) .skip))
def pdA:ak:=(G_ [m_ 106 0,m_ 107 1,m_ 108 2,m_ 109 13,m_ 110 4,F_ 111 272 [t_ 106,t_ 107,t_ 108,t_ 109,t_ 110],m_ 105 111,E_ 112 0 105,E_ 113 1 105,m_ 16 112,m_ 17 113] (G_ [m_ 114 17,m_ 11 114] (G_ [m_ 115 16,m_ 116 1,B_ 117 .sub 115 116,m_ 118 2,m_ 119 16,B_ 120 .sub 118 119,m_ 18 117,m_ 19 120] (G_ [m_ 121 12,C_ 122 .quo 121 8,m_ 20 122] (G_ [m_ 123 18,m_ 124 19,B_ 125 .lss 123 124] (I_ 125 (G_ [m_ 126 18,m_ 127 20,B_ 128 .geq 126 127,m_ 10 128] (G_ [m_ 129 0,m_ 130 1,m_ 131 16,m_ 132 3,m_ 133 4,F_ 134 244 [t_ 129,t_ 130,t_ 131,t_ 132,t_ 133]] (O_ [m_ 135 16,C_ 136 .add 135 1,m_ 1 136]))) (G_ [m_ 137 19,m_ 138 20,B_ 139 .geq 137 138,m_ 10 139] (G_ [m_ 140 0,m_ 141 16,C_ 142 .add 141 1,m_ 143 2,m_ 144 3,m_ 145 4,F_ 146 244 [t_ 140,t_ 142,t_ 143,t_ 144,t_ 145]] (O_ [m_ 147 16,m_ 2 147])))))))))
theorem Zk:dM=.block 1 (G_ [m_ 21 2,m_ 22 1,B_ 23 .sub 21 22,m_ 12 23] (J_ (G_ [m_ 24 12,C_ 25 .leq 24 12] (I_ 25 (G_ [m_ 26 0,m_ 27 1,m_ 28 2,m_ 29 4,F_ 30 265 [t_ 26,t_ 27,t_ 28,t_ 29]] .ret) .skip)) (J_ (G_ [m_ 31 3,o_ 32 (.bin .eql [1] (t_ 31) (i_ 0))] (I_ 32 (G_ [m_ 33 0,m_ 34 1,m_ 35 2,m_ 36 4,F_ 37 266 [t_ 33,t_ 34,t_ 35,t_ 36]] .ret) .skip)) (J_ pdF (J_ pdE (J_ pdD (J_ pdC (J_ pdB pdA)))))))):=rfl
section
variable{P:Int×(Bool×Int)->Prop}{d n o c:Nat}{h0:ab}{y:Value}
structure PQ(d n c:Nat)(y:Value)(a b lim:Nat)(e:Env):Prop where
 f0:ai e 0=.slice (some ⟨d,0,none⟩) n c
 f1:ai e 1=.int .i64 a
 f2:ai e 2=.int .i64 b
 f3:ai e 3=.int .i64 lim
 f4:ai e 4=y
 f10:∃t:Bool,ai e 10=.bool t
 f11:∃t:Bool,ai e 11=.bool t
 f12:ai e 12=.int .i64 ((b-a:Nat):Int)
theorem Zj(xN:a+13<=b)(mc:b<=n)(hn:n<50)(hl:0<lim)(uO:lim<=6)(w:SA P d n o h0 h)(E:PQ d n c y a b lim e)(K:∀e' h' abV,PQ d n c y a b abV e'->abV<=6->SA P d n o h0 h'->QQ .normal e' h'):az FF pdF e h QQ:=by
 obtain⟨f0,f1,f2,f3,f4,⟨t,f10⟩,⟨u,f11⟩,f12⟩:=E;unfold pdF;cases t with
 |true=>
  simp[f10];exact K _ _ lim ⟨by simp[f0],by simp[f1],by simp[f2],by simp[f3],by simp[f4],⟨true,by simp[f10]⟩,⟨u,by simp[f11]⟩,by simp[f12]⟩ uO w
 |false=>
  obtain⟨k,hk⟩:∃k,k=lim-1:=⟨_,rfl⟩;have wk:IntKind.i64.wrap ((lim:Int)-1)=(k:Int):=by rw[wrap_i64 _ (by omega) (by omega)];omega
  simp[f10,f0,f1,f2,f4];refine aF.call (V:=fun _ h'=>SA P d n o h0 h') (by simpa using Pv (c:=c) (y:=y) w.1.next xN mc hn w) ?_;rintro v h2 w2;simp[f3,wk];exact K _ _ k ⟨by simp[f0],by simp[f1],by simp[f2],by simp,by simp[f4],⟨false,by simp[f10]⟩,⟨u,by simp[f11]⟩,by simp[f12]⟩ (by omega) w2
theorem Zi(Y:jZ y)(xN:a+13<=b)(mc:b<=n)(hn:n<50)(w:SA P d n o h0 h)(E:PQ d n c y a b lim e)(K:∀e' h' (j:Nat) (t:Int),PQ d n c y a b lim e'->ai e' 13=.int .i64 j->ai e' 14=.int .i64 t->a<=j->j<b->SA P d n o h0 h'->QQ .normal e' h'):az FF pdE e h QQ:=by obtain⟨f0,f1,f2,f3,f4,⟨t,f10⟩,⟨u,f11⟩,f12⟩:=E;unfold pdE;simp[f0,f1,f2,f4];refine aF.call (V:=CpQ P d n o a b h0) (by simpa using Q4 (c:=c) Y w.1.next (by omega) mc hn w) ?_;rintro _ h2⟨w2,j,t2,rfl,zv,DA⟩;simp;exact K _ _ j t2 ⟨by simp[f0],by simp[f1],by simp[f2],by simp[f3],by simp[f4],⟨t,by simp[f10]⟩,⟨u,by simp[f11]⟩,by simp[f12]⟩ (by simp) (by simp) zv DA w2
theorem Zh(xN:a+13<=b)(mc:b<=n)(hn:n<50)(zv:a<=j)(DA:j<b)(w:SA P d n o h0 h)(E:PQ d n c y a b lim e)(f13:ai e 13=.int .i64 j)(f14:ai e 14=.int .i64 t)(K:∀e' h' (j:Nat) (t:Int),PQ d n c y a b lim e'->ai e' 13=.int .i64 j->ai e' 14=.int .i64 t->a<=j->j<b->SA P d n o h0 h'->QQ .normal e' h'):az FF pdD e h QQ:=by
 have X10:=E.f10;have X11:=E.f11;obtain⟨f0,f1,f2,f3,f4,⟨tt,f10⟩,⟨u,f11⟩,f12⟩:=E;unfold pdD;by_cases ht:t=2
 .subst ht;obtain⟨k,hk⟩:∃k,k=b-1-(j-a):=⟨_,rfl⟩;have w1:=wrap_i64 ((b:Int)-1) (by omega) (by omega);have w2:=wrap_i64 ((j:Int)-(a:Int)) (by omega) (by omega);have w3:IntKind.i64.wrap ((b:Int)-1-((j:Int)-(a:Int)))=(k:Int):=by rw[wrap_i64 _ (by omega) (by omega)];omega
  simp[f0,f1,f2,f4,f14];refine aF.call (V:=fun _ h'=>SA P d n o h0 h') (by simpa using Iq (c:=c) (y:=y) mc (by omega) (by omega) w) ?_;rintro v h2 w';simp[f1,f2,f13,w1,w2,w3];exact K _ _ k 1 ⟨by simp[f0],by simp[f1],by simp[f2],by simp[f3],by simp[f4],⟨tt,by simp[f10]⟩,⟨u,by simp[f11]⟩,by simp[f12]⟩ (by simp) (by simp) (by omega) (by omega) w'
 .have AP:(t==2)=false:=by simpa using ht
  simp[f14,AP];exact K _ _ j t ⟨by simp[f0],by simp[f1],by simp[f2],by simp[f3],by simp[f4],⟨tt,by simp[f10]⟩,⟨u,by simp[f11]⟩,by simp[f12]⟩ (by simp[f13]) (by simp[f14]) zv DA w
theorem Zg(Y:jZ y)(xN:a+13<=b)(mc:b<=n)(hn:n<50)(w:SA P d n o h0 h)(E:PQ d n c y a b lim e)(f13:ai e 13=.int .i64 j)(f14:ai e 14=.int .i64 t)(K1:∀e' h',SA P d n o h0 h'->QQ .ret e' h')(K:∀e' h',PQ d n c y a b lim e'->ai e' 13=.int .i64 j->SA P d n o h0 h'->QQ .normal e' h'):az FF pdC e h QQ:=by
 have X10:=E.f10;have X11:=E.f11;obtain⟨f0,f1,f2,f3,f4,⟨tt,f10⟩,⟨u,f11⟩,f12⟩:=E;unfold pdC;cases tt with
 |false=>
  simp[f10];exact K _ _ ⟨by simp[f0],by simp[f1],by simp[f2],by simp[f3],by simp[f4],(Exists.imp (fun _ h=>by simp[h]) X10),⟨u,by simp[f11]⟩,by simp[f12]⟩ (by simp[f13]) w
 |true=>
  cases u with
  |false=>
   simp[f10,f11];exact K _ _ ⟨by simp[f0],by simp[f1],by simp[f2],by simp[f3],by simp[f4],(Exists.imp (fun _ h=>by simp[h]) X10),(Exists.imp (fun _ h=>by simp[h]) X11),by simp[f12]⟩ (by simp[f13]) w
  |true=>
   by_cases ht:t=1
   .subst ht;simp[f0,f1,f2,f4,f10,f11,f14];refine aF.call (V:=ai1 P d n o h0) (by simpa using La (c:=c) Y (by omega) mc hn w) ?_;rintro _ h2⟨w2,q,rfl⟩;cases q with
    |true=>
     simp;exact K1 _ _ w2
    |false=>
     simp;exact K _ _ ⟨by simp[f0],by simp[f1],by simp[f2],by simp[f3],by simp[f4],(Exists.imp (fun _ h=>by simp[h]) X10),(Exists.imp (fun _ h=>by simp[h]) X11),by simp[f12]⟩ (by simp[f13]) w2
   .have AP:(t==1)=false:=by simpa using ht
    simp[f10,f11,f14,AP];exact K _ _ ⟨by simp[f0],by simp[f1],by simp[f2],by simp[f3],by simp[f4],(Exists.imp (fun _ h=>by simp[h]) X10),(Exists.imp (fun _ h=>by simp[h]) X11),by simp[f12]⟩ (by simp[f13]) w
theorem Zf(Y:jZ y)(xN:a+13<=b)(mc:b<=n)(hn:n<50)(zv:a<=j)(DA:j<b)(w:SA P d n o h0 h)(E:PQ d n c y a b lim e)(f13:ai e 13=.int .i64 j)(K1:∀e' h' (a':Nat),a<a'->a'<=b->ai e' 0=.slice (some ⟨d,0,none⟩) n c->ai e' 1=.int .i64 a'->ai e' 2=.int .i64 b->ai e' 3=.int .i64 lim->ai e' 4=y->(∃t:Bool,ai e' 10=.bool t)->(∃t:Bool,ai e' 11=.bool t)->SA P d n o h0 h'->QQ (.exit 1) e' h')(K:∀e' h',PQ d n c y a b lim e'->ai e' 13=.int .i64 j->SA P d n o h0 h'->QQ .normal e' h'):az FF pdB e h QQ:=by
 have X10:=E.f10;have X11:=E.f11;obtain⟨f0,f1,f2,f3,f4,⟨tt,f10⟩,⟨u,f11⟩,f12⟩:=E;unfold pdB;obtain⟨g,xs,s,hb,hl,hP⟩:=id w;by_cases ha:0<a
 .obtain⟨k,hk⟩:∃k,k=a-1:=⟨_,rfl⟩;have wk:IntKind.i64.wrap ((a:Int)-1)=(k:Int):=by rw[wrap_i64 _ (by omega) (by omega)];omega
  have KF:k<n:=by omega
  have I7:j<n:=by omega
  obtain⟨x,hx⟩:=ay xs k;obtain⟨z,hz⟩:=ay xs j;have rx:=bS hb hx;have rz:=bS hb hz;simp[f0,f1,f4,f13,ha,wk,KF,I7,rx,rz,aB,-ae];refine aZ.cut (fun h1=>aa aG h h1) ?_ ?_
  .exact(aa.refl g.ok).tick
  intro h1 g1;refine aZ.cu (V:=fun v Dr=>(∃c:Int,v=.int .i64 c)/\aa aG h1 Dr) (by simpa [f4] using Y h1 x z g1.ok) ?_;rintro _ h2⟨⟨cv,rfl⟩,g2⟩;have w2:=(w.aX g1).aX g2;by_cases hc:cv<0
  .simp[hc];exact K _ _ ⟨by simp[f0],by simp[f1],by simp[f2],by simp[f3],by simp[f4],(Exists.imp (fun _ h=>by simp[h]) X10),(Exists.imp (fun _ h=>by simp[h]) X11),by simp[f12]⟩ (by simp[f13]) w2
  .simp[hc,f0,f1,f2,f4,f13];refine aF.call (V:=ai0 P d n o a b h0) (by simpa using NS (c:=c) Y mc (by omega) zv DA w2) ?_;rintro _ h3⟨w3,i,rfl,LP,EH⟩;simp;exact K1 _ _ i LP EH (by simp[f0]) (by simp) (by simp[f2]) (by simp[f3]) (by simp[f4]) (Exists.imp (fun _ h=>by simp[h]) X10) (Exists.imp (fun _ h=>by simp[h]) X11) w3
 .have ha0:a=0:=by omega
  simp[f1,ha];exact K _ _ ⟨by simp[f0],by simp[f1],by simp[f2],by simp[f3],by simp[f4],(Exists.imp (fun _ h=>by simp[h]) X10),(Exists.imp (fun _ h=>by simp[h]) X11),by simp[f12]⟩ (by simp[f13]) (w.aX ((aa.refl g.ok).tick))
end
section
variable{P:Int×(Bool×Int)->Prop}{d n o c:Nat}{h0:ab}{y:Value}
def aem(P:Int×(Bool×Int)->Prop)(d n o c:Nat)(h0:ab)(y:Value)(k:Nat):Prop:=∀(a b lim:Nat)(h:ab),b-a<k->a<=b->b<=n->lim<=6->SA P d n o h0 h->aE FF hH [.slice (some ⟨d,0,none⟩) n c,.int .i64 a,.int .i64 b,.int .i64 lim,y] h (fun _ h'=>SA P d n o h0 h')
structure PQ0(d n c:Nat)(y:Value)(a b lim:Nat)(e:Env):Prop where
 f0:ai e 0=.slice (some ⟨d,0,none⟩) n c
 f1:ai e 1=.int .i64 a
 f2:ai e 2=.int .i64 b
 f3:ai e 3=.int .i64 lim
 f4:ai e 4=y
 f10:∃t:Bool,ai e 10=.bool t
 f11:∃t:Bool,ai e 11=.bool t
theorem Ze(Y:jZ y)(xN:a+13<=b)(mc:b<=n)(hn:n<50)(hl:lim<=6)(zv:a<=j)(DA:j<b)(IH:aem P d n o c h0 y (b-a))(w:SA P d n o h0 h)(E:PQ d n c y a b lim e)(f13:ai e 13=.int .i64 j)(K:∀e' h' (a' b':Nat),PQ0 d n c y a' b' lim e'->a'<=b'->b'<=n->b'-a'<b-a->SA P d n o h0 h'->QQ .normal e' h'):az FF pdA e h QQ:=by
 obtain⟨f0,f1,f2,f3,f4,_,_,f12⟩:=E;unfold pdA;simp[f0,f1,f2,f4,f13];refine aF.call (V:=PtQ P d n o a b h0) (by simpa using Vg (c:=c) Y mc (by omega) zv DA w) ?_;rintro _ h2⟨w2,m,t,rfl,X3,hm2⟩;obtain⟨l,DB⟩:∃l,l=m-a:=⟨_,rfl⟩;obtain⟨r,qM⟩:∃r,r=b-m:=⟨_,rfl⟩;have w3:IntKind.i64.wrap ((m:Int)-(a:Int))=(l:Int):=by rw[wrap_i64 _ (by omega) (by omega)];omega
 have w4:IntKind.i64.wrap ((b:Int)-(m:Int))=(r:Int):=by rw[wrap_i64 _ (by omega) (by omega)];omega
 have w5:=wrap_i64 ((m:Int)+1) (by omega) (by omega);obtain⟨q,hq⟩:∃q,q=b-a:=⟨_,rfl⟩;rw[<-hq] at f12;have w6:=wrap_i64 ((q:Int)/8) (by omega) (by omega);by_cases hlr:l<r
 .simp[f0,f1,f2,f3,f4,f12,w3,w4,w6,hlr];refine aF.call (V:=fun _ h'=>SA P d n o h0 h') (by simpa using IH a m lim h2 (by omega) X3 (by omega) hl w2) ?_;rintro v h3 w7;simp[w5];exact K _ _ (m+1) b ⟨by simp[f0],by simp,by simp[f2],by simp[f3],by simp[f4],⟨_,by simp;rfl⟩,⟨t,by simp⟩⟩ (by omega) mc (by omega) w7
 .simp[f0,f1,f2,f3,f4,f12,w3,w4,w5,w6,hlr];refine aF.call (V:=fun _ h'=>SA P d n o h0 h') (by simpa using IH (m+1) b lim h2 (by omega) (by omega) mc hl w2) ?_;rintro v h3 w7;simp;exact K _ _ a m ⟨by simp[f0],by simp[f1],by simp,by simp[f3],by simp[f4],⟨_,by simp;rfl⟩,⟨t,by simp⟩⟩ X3 (by omega) (by omega) w7
def PdI(P:Int×(Bool×Int)->Prop)(d n o c:Nat)(h0:ab)(y:Value)(k:Nat)(m:Nat)(e:Env)(h':ab):Prop:=
 ∃a b lim:Nat,m=b-a/\b-a<k/\a<=b/\b<=n/\lim<=6/\PQ0 d n c y a b lim e/\SA P d n o h0 h'
theorem Zl(Y:jZ y)(hn:n<50):∀k,aem P d n o c h0 y k:=by
 intro k;induction k with
 |zero=>intro a b lim h hk;omega
 |succ k ih=>
  intro a b lim h hk xN mc hl w;refine aE.of gX ?_;unfold dU;simp;refine az.loop (PdI P d n o c h0 y (k+1)) ?_ (n:=b-a) ⟨a,b,lim,rfl,hk,xN,mc,hl,⟨by simp,by simp,by simp,by simp,by simp,⟨true,by simp⟩,⟨true,by simp⟩⟩,w⟩;rintro m e h'⟨a,b,lim,rfl,hk,xN,mc,hl,⟨f0,f1,f2,f3,f4,f10,f11⟩,w⟩;rw[Zk];obtain⟨q,hq⟩:∃q,q=b-a:=⟨_,rfl⟩;have w1:IntKind.i64.wrap ((b:Int)-(a:Int))=(q:Int):=by rw[wrap_i64 _ (by omega) (by omega)];omega
  by_cases Xx:q<=12
  .have aa8:(q:Int)<=12:=by omega
   simp[f0,f1,f2,f4,w1,aa8];refine aF.call (V:=fun _ h'=>SA P d n o h0 h') (by simpa using Gl (c:=c) Y mc xN (by omega) w) ?_;rintro v h2 w2;simp;exact w2
  have aa8:¬(q:Int)<=12:=by omega
  by_cases hz:lim=0
  .subst hz;simp[f0,f1,f2,f3,f4,w1,aa8];refine aF.call (V:=fun _ h'=>SA P d n o h0 h') (by simpa using Un (c:=c) Y (by omega) mc (by omega) w) ?_;rintro v h2 w2;simp;exact w2
  have Wm:((lim:Int)==0)=false:=by simp;omega
  simp[f1,f2,f3,w1,aa8,Wm];have IH:aem P d n o c h0 y (b-a):=by intro a' b' abV h' CH h1 h2 h3 w';exact ih a' b' abV h' (by omega) h1 h2 h3 w'
  have h13:a+13<=b:=by omega
  refine Zj (c:=c) (y:=y) (a:=a) (b:=b) (lim:=lim) h13 mc hn (by omega) hl w ⟨by simp[f0],by simp[f1],by simp[f2],by simp[f3],by simp[f4],Exists.imp (fun _ h=>by simp[h]) f10,Exists.imp (fun _ h=>by simp[h]) f11,by simp[hq]⟩ ?_;intro e1 h1 al7 E1 DB w1;simp;refine Zi Y h13 mc hn w1 E1 ?_;intro e2 h2 j2 t2 E2 k13 k14 zv DA w2;simp;refine Zh h13 mc hn zv DA w2 E2 k13 k14 ?_;intro e3 h3 j3 t3 E3 l13 l14 ak1 ak2 w3;simp;refine Zg Y h13 mc hn w3 E3 l13 l14 (fun e' h' w'=>by simpa using w') ?_;intro e4 h4 E4 YM w4;simp;refine Zf Y h13 mc hn ak1 ak2 w4 E4 YM ?_ ?_
  .intro e5 h5 a5 ha1 ha2 p0 p1 p2 p3 p4 p10 p11 w5;simp;exact⟨b-a5,by omega,a5,b,al7,rfl,by omega,ha2,mc,DB,⟨p0,p1,p2,p3,p4,p10,p11⟩,w5⟩
  intro e5 h5 E5 n13 w5;simp;refine Ze Y h13 mc hn DB ak1 ak2 IH w5 E5 n13 ?_;intro e6 h6 a6 b6 E6 aq5 ard dQ w6;simp;exact⟨b6-a6,dQ,a6,b6,al7,rfl,by omega,aq5,ard,DB,E6,w6⟩
theorem VF(Y:jZ y)(hn:n<50)(w:SA P d n o h0 h):aE FF dj [.slice (some ⟨d,0,none⟩) n c,y] h (fun _ h'=>SA P d n o h0 h'):=by have w1:=jc (n:Int) (by omega) (by omega);have hl:=BC n;refine aE.of ft ?_;unfold dg;simp[w1];refine aF.call (V:=fun v h'=>v=.int .i64 (lenOf n)/\h'=h) (by simpa using Gp h n (by omega)) ?_;rintro _ h'⟨rfl,e⟩;rw[e];simp;refine aF.call (V:=fun _ h'=>SA P d n o h0 h') (by simpa using Zl (c:=c) Y hn (n+1) 0 n (lenOf n) h (by omega) (by omega) (dH _) hl w) ?_;rintro v h2 w2;simp;exact w2
theorem ZY(h:ab)(y:Value):aE FF dj [.slice none 0 0,y] h (fun _ h'=>h'=h):=by
 have w1:IntKind.u64.wrap 0=0:=jc _ (by omega) (by omega);refine aE.of ft ?_;unfold dg;simp[w1];refine aF.call (V:=fun v h'=>v=.int .i64 0/\h'=h) (by simpa [lenOf] using Gp h 0 (by omega)) ?_;rintro _ h'⟨rfl,e⟩;rw[e];simp;refine aF.call (V:=fun _ h'=>h'=h) ?_ ?_
 .have w2:IntKind.i64.wrap (0-0)=0:=wrap_i64 _ (by omega) (by omega);have w2':IntKind.i64.wrap 0=0:=wrap_i64 _ (by omega) (by omega);have w3:IntKind.i64.wrap (0+1)=1:=wrap_i64 _ (by omega) (by omega);have w3':IntKind.i64.wrap 1=1:=wrap_i64 _ (by omega) (by omega);simp;refine aE.of gX ?_;unfold dU;simp;rw[pH];unfold dM;simp[w2,w2'];refine aF.call (V:=fun _ h'=>h'=h) ?_ ?_
  .simp;refine aE.of eN ?_;unfold cW;simp[w3,w3'];rw[pH];unfold cM;simp
  .rintro v h2 rfl;simp
 .rintro v h2 rfl;simp
end
theorem acH{xs:List (Int×(Bool×Int))}(a:bJ mT n0 h v xs):v=.slice none 0 0/\xs=[]\/∃b s,v=.slice (some ⟨b,0,none⟩) xs.length xs.length/\h.tr.get b=some (.aC (mT.flat xs) false 3 s)/\n0<=b:=by
 rcases a with⟨h1,h2⟩|⟨b,s,h1,h2,_,h3⟩
 .exact .inl ⟨h2,h1⟩
 .exact .inr ⟨b,s,h1,h2,h3⟩
def nv(ats:List Int)(a:Int):Bool:=decide (0<=(ats[a.toNat]?).getD (-1))
def aoX(h:ab)(ats:List Int)(ps:List Int)(row:List (Bool×Int))(ag:Nat)(e:Env)(m:Nat)(e':Env)(h':ab):Prop:=
 ∃(j:Nat) (L:SV) (rl:List (Int×(Bool×Int))),m=row.length-j/\j<=row.length/\ax [15,16,17,18,64,65,66,67,68,69,70,71,72,73,74,75,76,77,78,79,80,81,82,83,84,85,86,87] e e'/\ai e' 64=.int .i64 j/\ai e' 15=L.v/\aa aG h h'/\bJ mT h.next h' L.v rl/\(∀x∈rl,h_ ag x.2)/\rl.length=((ps.take j).filter (nv ats)).length
theorem Gm(ok:bl h){n dA d8 c8 k ag sA s8 o8:Nat}{wk A:SV}{row:List (Bool×Int)}(hn:n<=1000)(hA:h.tr.get dA=some (.aC (bg.flat ats) false 0 sA))(KA:ats.length=n)(h8:h.tr.get d8=some (.aC (gQ.flat ws) false o8 s8))(hws:ws[k]?=some wk)(KF:k<n)(iT:SliceR nR 1 h wk.v ps)(Wi:∀p∈ps,0<=p/\p<n)(rp:SliceR vR 2 h A.v row)(hv:∀v∈row,h_ ag v)(hl:row.length=ps.length)(xh:ps.length<1000000)(f5:ai e 5=.slice (some ⟨dA,0,none⟩) n n)(f8:ai e 8=.slice (some ⟨d8,0,none⟩) n c8)(f11:ai e 11=.int .i64 k)(f15:ai e 15=cJ.v)(f62:ai e 62=A.v)(f63:ai e 63=.int .i64 row.length)(f64:ai e 64=.int .i64 0)(C:∀e' h' L rl,aa aG h h'->ax [15,16,17,18,64,65,66,67,68,69,70,71,72,73,74,75,76,77,78,79,80,81,82,83,84,85,86,87] e e'->ai e' 15=SV.v L->bJ mT h.next h' (SV.v L) rl->(∀x∈rl,h_ ag x.2)->rl.length=(ps.filter (nv ats)).length->QQ (.exit 6) e' h'):az FF (.loop pN) e h QQ:=by
 have Cm:=SliceR.len rp;have DE:=SliceR.len iT;refine az.loop (aoX h ats ps row ag e) ?_ (n:=row.length) ⟨0,cJ,[],rfl,by omega,ax.refl _ _,f64,f15,.refl ok,.inl ⟨rfl,rfl⟩,fun x hx=>by simp at hx,by simp⟩;rintro m e' h'⟨j,L,rl,rfl,hj,K,q64,yE,g,yW,hrv,rh⟩;have q5:=K.at f5;have q8:=K.at f8;have mP:=K.at f11;have Vl:=K.at f62;have q63:=K.at f63;unfold pN;by_cases aM:j<row.length
 .have wj:=wrap_i64 ((j:Int)+1) (by omega) (by omega);have hx:row[j]?=some row[j]:=ff aM;have hm:=Ai aM;generalize row[j]=v at hx hm;have hp:ps[j]?=some (ps[j]'(by omega)):=ff (by omega);have LU:=Ai (l:=ps) (n:=j) (by omega);generalize ps[j]'(by omega)=a at hp LU;obtain⟨ha0,CE⟩:=Wi a LU;obtain⟨u,rfl⟩:∃u:Nat,a=u:=⟨a.toNat,by omega⟩;have xg:u<n:=by omega
  obtain⟨b1,U3,c1,T_,_,_,rfl,o1,CK⟩:=SliceR.later ok rp hx;obtain⟨b2,ab8,c2,hwa,_,_,rfl,o2,Er⟩:=SliceR.later ok iT hp;have r1:=CK h' g 0 2 (by decide);have r2:=Er h' g 0 1 (by decide);have hA':=g.get ok hA;have h8':=g.get ok h8;obtain⟨t,ht⟩:=ay ats u;have rt:=iH hA' ht;have rw8:=oh h8' hws;have hjp:j<ps.length:=by omega
  have ob1:=g.bE o1;have ob2:=g.bE o2;have oA:=g.ok.bE hA';have o8:=g.ok.bE h8';simp[-ae] at r1 r2 rw8;rw[hwa,DE] at rw8;simp at Vl yE;rw[T_,Cm] at Vl;have Uz:(ps.take (j+1)).filter (nv ats)=(ps.take j).filter (nv ats)++(if nv ats u then [(u:Int)] else []):=by rw[yS,hp,List.filter_append];cases hq:nv ats u<;>simp[hq]
  have hkt:nv ats u=decide (0<=t):=by simp[nv,ht]
  by_cases SF:0<=t
  .simp[q5,q8,mP,yE,Vl,q63,q64,aM,r1,r2,rw8,rt,KF,xg,hjp,SF,-ae,au,bj,aN,ob1,ob2,oA,o8];have gv:aa aG h' (put (aD h' [.bool false,.int .i64 0] 0) h'.next 0 [.bool false,.int .i64 0] [.bool v.1,.int .i64 v.2] 0):=(aa.refl g.ok).var _ _;obtain⟨h2,e2⟩:∃h2,h2=put (aD h' [.bool false,.int .i64 0] 0) h'.next 0 [.bool false,.int .i64 0] [.bool v.1,.int .i64 v.2] 0:=⟨_,rfl⟩;have LR:h2.next=h'.next+1:=by rw[e2];rfl
   rw[<-e2] at gv⊢;have g2:=g.trans gv;have g3:=aH g2.ok (mT.enc (t,v)) 0;simp only[Xj] at g3;have OK:=(yW.grow g.ok gv (fun _ _ h=>h)).grow g2.ok g3 (fun _ _ h=>h);have hw3:aL mT (aD h2 [.int .i64 t,.bool v.1,.int .i64 v.2] 0) (.slice (some ⟨h2.next,0,none⟩) 1 1) [(t,v)]:=⟨_,_,rfl,.inr ⟨h2.next,0,_,_,_,_,rfl,bq _ _ _,by simp,by simp⟩⟩;have hrl2:rl.length<=j:=by rw[rh];exact xf (Xs _ _) (by simp;omega)
   have ln:=g2.next;obtain⟨v',h5,ha5,Ds,g5,OP⟩:=j4 (bytes:=24) g3.ok (z:=[.int .i64 0,.bool false,.int .i64 0]) rfl OK hw3 (by omega) (by decide) (by simp;omega);rw[LR] at ha5;refine gH ha5 ?_;obtain⟨V,rfl⟩:=bJ.Ws Ds;have lo:∀b,aw L.v b->h.next<=b:=fun b hb=>yW.of hb;simp[q64,wj];refine⟨row.length-(j+1),by omega,j+1,V,rl++[(t,v)],rfl,by omega,?_,by simp,by simp,(g2.trans g3).trans' g5 (fun _ _ h=>h) (fun x hx e=>by have:=lo x e;omega),Ds,fun x hx=>?_,?_⟩
   .repeat (refine ax.set ?_)
    exact K
   .rcases rM.1 hx with h1|h1
    .exact hrv x h1
    .simp at h1;subst h1;exact hv v hm
   .rw[Uz,hkt];simp[SF,rh]
  .simp[q5,q8,mP,yE,Vl,q63,q64,aM,r1,r2,rw8,rt,KF,xg,hjp,SF,wj,-ae,au,bj,aN,ob1,ob2,oA,o8];refine⟨row.length-(j+1),by omega,j+1,L,rl,rfl,by omega,?_,by simp,by simp[yE],g.trans ((aa.refl g.ok).var _ _),yW.grow g.ok ((aa.refl g.ok).var _ _) (fun _ _ h=>h),hrv,?_⟩
   .repeat (refine ax.set ?_)
    exact K
   .rw[Uz,hkt];simp[SF,rh]
 .have:j=row.length:=by omega
  subst this;rw[hl,xK] at rh;simp[q63,q64];exact C _ _ L rl g (K.set) (by simp[yE]) yW hrv rh
def aoW(h:ab)(P:SV)(qs:List (Int×SV))(i ag n X sX:Nat)(xc:List Value)(dst:Int)(e:Env)(m:Nat)(e':Env)(h':ab):Prop:=
 ∃(j:Nat) (F:SV) (vl:List (Bool×Int)),m=n-j/\j<=n/\ax [20,97,98,99,100,101,102,103,104,105,106,107,108,109,110,111,112,113,114,115,116] e e'/\ai e' 97=.int .i64 j/\aa (aw P.v) h h'/\h'.tr.get X=some (.aC xc false 0 sX)/\fS lu h' P (qs.set i (dst,F))/\bJ bY h.next h' F.v vl/\vl.length=j/\∀v∈vl,h_ ag v
theorem UM(ok:bl h){P L T:SV}{i ag X sX d n sd:Nat}{dst:Int}{q0:Int×SV}{xs:List (Int×(Bool×Int))}(hP:fS lu h P (qs.set i (dst,cJ)))(hq:qs[i]?=some q0)(hX:h.tr.get X=some (.aC [P.v,L.v,.int .i64 kind,.bool on.1,.int .i64 on.2,T.v] false 0 sX))(hPX:¬aw P.v X)(hd:h.tr.get d=some (.aC (mT.flat xs) false 3 sd))(hPd:¬aw P.v d)(hn:xs.length=n)(LR:n<1000000)(hv:∀x∈xs,h_ ag x.2)(f12:ai e 12=.pointer (some ⟨X,0,none⟩))(f13:ai e 13=.int .i64 i)(f95:ai e 95=.slice (some ⟨d,0,none⟩) n n)(f96:ai e 96=.int .i64 n)(f97:ai e 97=.int .i64 0)(C:∀e' h' F vl,ax [20,97,98,99,100,101,102,103,104,105,106,107,108,109,110,111,112,113,114,115,116] e e'->aa (aw P.v) h h'->h'.tr.get X=some (.aC [P.v,L.v,.int .i64 kind,.bool on.1,.int .i64 on.2,T.v] false 0 sX)->fS lu h' P (qs.set i (dst,F))->bJ bY h.next h' (SV.v F) vl->vl.length=n->(∀v∈vl,h_ ag v)->QQ (.exit 8) e' h'):az FF (.loop mg) e h QQ:=by
 have fu:=(bK.mp hq).1;refine az.loop (aoW h P qs i ag n X sX [P.v,L.v,.int .i64 kind,.bool on.1,.int .i64 on.2,T.v] dst e) ?_ (n:=n) ⟨0,cJ,[],rfl,by omega,ax.refl _ _,f97,.refl ok,hX,hP,.inl ⟨rfl,rfl⟩,rfl,fun v hv=>by simp at hv⟩;rintro m e' h'⟨j,F,vl,rfl,hj,K,q97,g,nt,Ud,hA,Jc,vB⟩;have kN:=K.at f12;have q13:=K.at f13;have q95:=K.at f95;have q96:=K.at f96;have cw:=g.ok;unfold mg;by_cases aM:j<n
 .have wj:=wrap_i64 ((j:Int)+1) (by omega) (by omega);obtain⟨x,hx⟩:=ay xs j;have Sv:=g.get ok hd hPd;have rx:=bS Sv hx;have hqi:(qs.set i (dst,F))[i]?=some (dst,F):=by rw[eu,aY rfl,aY fu]
  obtain⟨b,cs,o,s,oG,hb,hiA,dV,cS,jh⟩:=Ud.el hqi;have r1:=cS 1 1 (by decide);simp[-ae] at r1;have iF:=Ud.len;simp at iF;have ef:=nt;simp at ef;rw[oG,iF] at ef;have oX:=cw.bE nt;have ob:=cw.bE hb;have od:=cw.bE Sv;have zw:=cw.st _ _ _ _ _ nt;have nX:¬X=b:=fun e=>hPX (e▸bC oG);have hif:i<qs.length:=fu;simp[kN,q13,q95,q96,q97,aM,rx,r1,hif,-ae,au,bj,aN,jx,oX,ob,od,aq ef,aB];obtain⟨h2,e2⟩:∃h2,h2=tick (put (aD h' [.int .i64 0,.bool false,.int .i64 0] 0) h'.next 0 [.int .i64 0,.bool false,.int .i64 0] [.int .i64 x.1,.bool x.2.1,.int .i64 x.2.2] 0):=⟨_,rfl⟩;have gv:aa aG h' h2:=by rw[e2];exact((aa.refl cw).var _ _).tick
  have ar2:h2.next=h'.next+1:=by rw[e2];rfl
  rw[<-e2];have g3:=aH gv.ok (bY.enc x.2) 0;simp only[xG] at g3;have OK:=(hA.grow cw gv (fun _ _ h=>h)).grow gv.ok g3 (fun _ _ h=>h);have hw3:aL bY (aD h2 [.bool x.2.1,.int .i64 x.2.2] 0) (.slice (some ⟨h2.next,0,none⟩) 1 1) [x.2]:=⟨_,_,rfl,.inr ⟨h2.next,0,_,_,_,_,rfl,bq _ _ _,by simp,by simp⟩⟩;have ln:=g.next;obtain⟨v',h5,ha5,Ds,g5,OP⟩:=j4 (bytes:=16) g3.ok (z:=[.bool false,.int .i64 0]) rfl OK hw3 (by omega) (by decide) (by simp;omega);rw[ar2] at ha5;refine tw ha5 ?_;obtain⟨V,rfl⟩:=bJ.Ws Ds;have lo:∀y,aw F.v y->h.next<=y:=fun y hy=>hA.of hy;have lb:b<h.next:=by have:=hP.bE ok (bC oG);exact this
  have lX:X<h.next:=ok.wf _ _ hX;have Ao:=g5.get g3.ok (g3.get gv.ok (gv.get cw nt (fun h=>h))) (fun h=>by have:=lo X h;omega);have Su:=g5.get g3.ok (g3.get gv.ok (gv.get cw hb (fun h=>h))) (fun h=>by have:=lo b h;omega);simp at Ao;rw[oG,iF] at Ao;have Yn:sX<=h'.clock+1:=by omega
  have hf:=dV 1 1 (by decide);simp at hf;simp[Ao,Yn,hif,Su,hf,q97,wj];have gw:aa (· =b) h5 (put h5 b (i*2+1) cs [.slice V.a V.l V.c] o):=aJ g5.ok Su;have hPf:=jh (dst,V) 1 [V.v] (by simp) rfl (put h5 b (i*2+1) cs [.slice V.a V.l V.c] o) ⟨_,aA _ _ _ _ _ _⟩;rw[List.set_set] at hPf;have g15:aa (aw P.v) h h5:=((g.trans gv.aX).trans g3.aX).trans' g5 (fun _ _ h=>h) (fun y hy e=>by have:=lo y e;omega);have lV:∀y,aw V.v y->h.next<=y:=fun y hy=>by have:=OP y hy;simp at this;omega
  refine⟨n-(j+1),by omega,j+1,V,vl++[x.2],rfl,by omega,?_,by simp,g15.trans (gw.bH (fun y _ e=>e▸bC oG)),?_,hPf,Ds.grow g5.ok gw (fun y hy e=>by have:=lV y hy;omega),by simp[Jc],fun v Ge=>?_⟩
  .repeat (refine ax.set ?_)
   exact K
  .have:=gw.get g5.ok Ao nX;simpa [oG,iF] using this
  .rcases rM.1 Ge with h1|h1
   .exact vB v h1
   .simp at h1;subst h1;exact hv x (bU hx)
 .have:j=n:=by omega
  subst this;simp[q96,q97];exact C _ _ F vl (K.set) g nt Ud hA Jc vB
def Ext(κ cap κ' iN:Nat->Nat):Prop:=∀b,κ b≠0->κ' b=κ b/\iN b=cap b
theorem Ext.refl(κ cap:Nat->Nat):Ext κ cap κ cap:=fun _ _=>⟨rfl,rfl⟩
theorem Ext.trans{κ cap κ1 yR κ2 J8:Nat->Nat}(a:Ext κ cap κ1 yR)(b:Ext κ1 yR κ2 J8):Ext κ cap κ2 J8:=fun x hx=>by obtain⟨h1,h2⟩:=a x hx;obtain⟨h3,h4⟩:=b x (by omega);exact⟨by omega,by omega⟩
theorem VA.ext(w:VA κ cap A)(e:Ext κ cap κ' iN):VA κ' iN A:=w.congr (fun b hb=>by have:=e b (by omega);omega)
section
variable{h h':ab}{n0 ag:Nat}{κ cap:Nat->Nat}{rs:List XR}
theorem cH.apE(w0:cH h n0 ag κ cap rs)(hn:n0<=h.next)(w:cH h' n0 ag κ cap rs)(ok:bl h'){F:SV}{vl:List (Bool×Int)}(hA:bJ bY h.next h' F.v vl)(hv:∀v∈vl,h_ ag v):∃κ' iN,cH h' n0 ag κ' iN rs/\VA κ' iN F/\Ext κ cap κ' iN/\F.l=vl.length/\∀b,b<h.next->κ' b=κ b:=by
 rcases hA with⟨rfl,e⟩|⟨b,s,e,hb,hx,mc⟩
 .simp at e;exact⟨κ,cap,w,⟨by omega,.inl ⟨e.1,e.2.2⟩⟩,Ext.refl _ _,by simp[e.2.1],fun _ _=>rfl⟩
 .simp at e;have Nn:κ b=0:=by
   rcases uM (κ b) with h|h
   .exact h
   .have:=(w0.new b (by omega)).2;omega
  have ne:∀b',κ b'≠0->b≠b':=fun b' jf e=>jf (e▸Nn);have ext:Ext κ cap (Ea κ F 1) (Ea cap F vl.length):=fun b' jf=>⟨mi e.1 (ne b' jf),mi e.1 (ne b' jf)⟩;refine⟨Ea κ F 1,Ea cap F vl.length,⟨fun i r hr=>(w.r i r hr).congr ext,w.dP,w.dL,w.dT,fun b' jf=>?_,fun b' jf=>?_⟩,⟨by omega,.inr ⟨b,e.1,qU e.1,by rw[qU e.1,e.2.2]⟩⟩,ext,e.2.1,fun b' jf=>mi e.1 (by omega)⟩
  .by_cases e1:b=b'
   .subst e1;exact⟨vl,_,s,hb,.inr rfl,by rw[qU e.1],hv⟩
   .rw[mi e.1 e1] at jf⊢;exact w.V b' jf
  .by_cases e1:b=b'
   .subst e1;exact⟨by omega,ok.wf _ _ hb⟩
   .rw[mi e.1 e1] at jf;exact w.new b' jf
def QS(r:XR):XR:= {r with P:=cJ,ps:=[]}
theorem cH.drop(w:cH h n0 ag κ cap rs){r:XR}(hr:rs[i]?=some r):cH h n0 ag κ cap (rs.set i (QS r)):=by
 have hi:=(bK.mp hr).1;have R:=w.r i r hr;refine⟨fun j x hx=>?_,?_,gJ (f:=(·.L)) hr w.dL rfl,gJ (f:=(·.T)) hr w.dT rfl,w.V,w.new⟩
 .rw[eu] at hx;by_cases e1:i=j
  .rw[aY e1,aY hi] at hx;cases hx;exact⟨fS.nil _ _,R.L,R.T,fun b hb=>(eV rfl hb).elim,R.kL,R.kT,fun p hp=>(FQ hp).elim,R.ls,R.on⟩
  .rw[bc e1] at hx;exact w.r j x hx
 .intro i' j ri rj b h1 h2 hn hb cC;rw[eu] at h1 h2;by_cases e1:i=i'
  .rw[aY e1,aY hi] at h1;cases h1;exact eV rfl hb
  .rw[bc e1] at h1;by_cases e2:i=j
   .rw[aY e2,aY hi] at h2;cases h2;exact eV rfl cC
   .rw[bc e2] at h2;exact w.dP i' j ri rj b h1 h2 hn hb cC
theorem cH.adg(w:cH h n0 ag κ cap rs)(ok:bl h){P:SV}(g:aa (aw P.v) h h')(hk:∀b,aw P.v b->κ b=3)(hd:∀(i:Nat)(r:XR),rs[i]?=some r->∀b,aw P.v b->¬aw r.P.v b):cH h' n0 ag κ cap rs:=by refine⟨fun i r hr=>(w.r i r hr).grow ok g (fun b hb=>⟨hd i r hr b hb,fun h=>by have:=hk b hb;have:=(w.r i r hr).kL b h;omega,fun h=>by have:=hk b hb;have:=(w.r i r hr).kT b h;omega⟩),w.dP,w.dL,w.dT,w.V.grow ok g (fun b hb=>by have:=hk b hb;omega),fun b hb=>by have:=w.new b hb;have:=g.next;omega⟩
theorem cH.atT{r:XR}{P:SV}{ps:List (Int×SV)}(w:cH h n0 ag κ cap rs)(hr:rs[i]?=some r)(hP:fS lu h P ps)(hk:∀b,aw P.v b->κ b=3)(hd:∀(j:Nat)(r:XR),rs[j]?=some r->i≠j->∀b,aw P.v b->¬aw r.P.v b)(iT:∀p∈ps,(0<=p.1/\p.1<ag)/\VA κ cap p.2):cH h n0 ag κ cap (rs.set i {r with P:=P,ps:=ps}):=by
 have hi:=(bK.mp hr).1;have R:=w.r i r hr;refine⟨fun j x hx=>?_,?_,gJ (f:=(·.L)) hr w.dL rfl,gJ (f:=(·.T)) hr w.dT rfl,w.V,w.new⟩
 .rw[eu] at hx;by_cases e1:i=j
  .rw[aY e1,aY hi] at hx;cases hx;exact⟨hP,R.L,R.T,hk,R.kL,R.kT,iT,R.ls,R.on⟩
  .rw[bc e1] at hx;exact w.r j x hx
 .intro i' j ri rj b h1 h2 hn hb cC;rw[eu] at h1 h2;by_cases e1:i=i'
  .rw[aY e1,aY hi] at h1;cases h1;rw[bc (by omega)] at h2;exact hd j rj h2 (by omega) b hb cC
  .rw[bc e1] at h1;by_cases e2:i=j
   .rw[aY e2,aY hi] at h2;cases h2;exact hd i' ri h1 e1 b cC hb
   .rw[bc e2] at h2;exact w.dP i' j ri rj b h1 h2 hn hb cC
end
structure KB(h1:ab)(κ0:Nat->Nat)(n dA d8 n8:Nat)(ats:List Int)(ws:List SV)(ah:List (List Int)):Prop where
 nn:n<=1000
 hA:∃s,h1.tr.get dA=some (.aC (bg.flat ats) false 0 s)
 al:ats.length=n
 acc:je bg n8 h1 d8 ws ah
 κA:κ0 dA=0
 low:∀b,κ0 b≠0->b<n8
 rows:Cq n ah
 short:∀ps∈ah,ps.length<50
theorem KB.at{κ0:Nat->Nat}{n dA d8 n8:Nat}(k:KB h1 κ0 n dA d8 n8 ats ws ah)(ok:bl h1)(g:aa (fun b=>κ0 b≠0) h1 h'):KB h' κ0 n dA d8 n8 ats ws ah:=by obtain⟨s,hA⟩:=k.hA;exact⟨k.nn,⟨s,g.get ok hA (fun h=>h k.κA)⟩,k.al,k.acc.grow ok g (fun b hb h=>by have:=k.low b h;omega),k.κA,k.low,k.rows,k.short⟩
end Go.Proofs.YtdhnndleffachaaGreatDoor
