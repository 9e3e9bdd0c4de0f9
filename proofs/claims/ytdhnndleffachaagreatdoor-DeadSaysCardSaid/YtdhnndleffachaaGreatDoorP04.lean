/- Parts of the proof. -/
import Derived.Test.YtdhnndleffachaaGreatDoorP03
import Derived.KernelRfl
import Derived.Test.YtdhnndleffachaaGreatDoorP02
set_option linter.all false
set_option maxHeartbeats 1000000
namespace Go.Proofs.YtdhnndleffachaaGreatDoor
open Go.AI
variable{A AH B L U:SV}{C I4 W X b bytes c d d3 d4 d5 d8 i j k n n0 n1 n8 o pn s s0 s1 s2 s3 s4 wc:Nat}{DS ps sJ us:List Int}{QQ:bK->Env->az->Prop}{S:Nat->Prop}{aI kind:Int}{ah:List (List Int)}{bp:List Nat}{bs:List GB}{e:Env}{h h' h0 h1 hA ha hb hy:az}{name:ByteArray}{need:List Bool}{on:Bool×Int}{q:GI×SV}{ro t t' tt:Bool}{u:GU}{v:Value}{z:List Value}{α β:Type}
def adE{x:Nat}{v:Int}(h:us[x]?=some v):us.set x v=us:=by refine Cy fun i=>?_;rw[fL];split;rename_i e;subst e;rw[h,bM (di.mp h).1];rfl
structure EF(n:Nat)(ah:List (List Int)):Prop where
 len:ah.length=n
 row:∀(x:Nat)(ps:List Int),ah[x]?=some ps->ps.length<1000000/\∀p∈ps,0<=p/\p<n
structure TC(n:Nat)(bp:List Nat)(sJ:List Int)(ah:List (List Int)):Prop where
 o:Tree.Ord bp n
 nl:n<=1000
 la:sJ.length=n
 at':∀i x:Nat,bp[i]?=some x->sJ[x]?=some (i:Int)
 rows:EF n ah
 hf:∀b,0<b->b<bp.length->∃w∈Tree.mO bp ah b,w<b
 ln:bp.length<=n
structure TE(n:Nat)(r d3 d4 d5 d8:Nat)(e:Env):Prop where
 f3:bH e 3=.slice (some ⟨d3,0,none⟩) r r
 f4:bH e 4=.slice (some ⟨d4,0,none⟩) n n
 f5:bH e 5=.slice (some ⟨d5,0,none⟩) n n
 f8:bH e 8=.slice (some ⟨d8,0,none⟩) n n
def RdI(h0:az)(n:Nat)(bp:List Nat)(sJ:List Int)(ah:List (List Int))(d3 d4 d5 d8 n8:Nat)(ws:List SV)(first:Bool)(A:Nat->Nat)(m:Nat)(e:Env)(h:az):Prop:=
 ∃(j:Nat) (us:List Int) (V:Nat->Nat) (a:Bool),m=bp.length-(j+1)/\j+1<=bp.length/\TS h0 h n bp sJ us ah d3 d4 d5 d8 n8 ws/\Tree.Mid bp ah n us first A V (j+1) a/\TE n bp.length d3 d4 d5 d8 e/\bH e 9=.bool a/\bH e 44=.slice (some ⟨d3,1,none⟩) (bp.length-1) (bp.length-1)/\bJ e 45 ((bp.length-1:Nat):Int)/\bJ e 46 j
def Ve{ws:List SV}(w:TS h0 h n bp sJ us ah d3 d4 d5 d8 n8 ws)(c:TC n bp sJ ah){first dE:Bool}{A V:Nat->Nat}(hr:0<bp.length)(M:Tree.Mid bp ah n us first A V 1 dE)(E:TE n bp.length d3 d4 d5 d8 e)(f9:bH e 9=.bool dE)(f44:bH e 44=.slice (some ⟨d3,1,none⟩) (bp.length-1) (bp.length-1))(f45:bJ e 45 ((bp.length-1:Nat):Int))(f46:bJ e 46 0)(C:∀e' h' O V' Re,TS h0 h' n bp sJ O ah d3 d4 d5 d8 n8 ws->Tree.Mid bp ah n O first A V' bp.length Re->TE n bp.length d3 d4 d5 d8 e'->bH e' 9=.bool Re->QQ (.exit 4) e' h'):aO FF (.loop j7) e h QQ:=by
 have hn:=c.nl;have hln:=c.ln;refine aO.loop (RdI h0 n bp sJ ah d3 d4 d5 d8 n8 ws first A) ?_ (n:=bp.length-1) ⟨0,us,V,dE,ab,hr,w,M,E,f9,f44,f45,f46⟩;rintro m e1 h1⟨j,a,V1,ahq,rfl,hj,F,J,l,q9,OE,U3,H⟩;have gi:=F.g.ok;unfold j7;by_cases bk:j+1<bp.length
 .obtain⟨x,hx⟩:=aV bp (j+1) bk;have Y:=c.o.lt x (cN hx);obtain⟨ps,ju⟩:=aV ah x (by rw[c.rows.len];exact Y);obtain⟨wx,G⟩:=aV ws x (by rw[F.acc.len,c.rows.len];exact Y);obtain⟨wg,hpr⟩:=c.rows.row x ps ju;obtain⟨s1,hO⟩:=F.hO;obtain⟨s8,h8⟩:=F.acc.bZ;have ro:=lQ hO (Ja hx);rw[Nat.add_comm] at ro;have rw8:=CK h8 G;have Pu:=aD.len (Nh F.acc G ju);have I:(j:Int)<((bp.length-1:Nat):Int):=ab
  have avm:j<bp.length-1:=ab
  have wj:=cg ((j:Int)+1) ab ab;simp[-ax] at rw8;simp[OE,U3,H,I,avm,ro,l.f8,Y,rw8,Pu,-ax];refine Zc F c.o J.rep J.dn ab c.la c.at' G ju wg hpr (by simp[l.f4]) (by simp[l.f5]) ae (au Pu) (au Pu) ae ?_;intro e2 h2 tX g2 K ED hb;have w2:=F.grow g2;obtain⟨y,z,rfl,hz,M2⟩:=J.step c.o (Nat.succ_pos _) hx ju (c.hf (j+1) (Nat.succ_pos _) bk) hb;have k5:=K.at (t:=5) (ak l.f5);have k11:bH e2 11=.int .i64 x:=K.at ae;have k3:=K.at (t:=3) (ak l.f3);have k4:=K.at (t:=4) (ak l.f4);have k8:=K.at (t:=8) (ak l.f8);have k9:=K.at (t:=9) (ak q9);have k44:=K.at (t:=44) (ak OE);have Q:=K.at (t:=45) (ak U3);have Z:=K.at (t:=46) (ak H);obtain⟨s5,hU⟩:=w2.hU;have Wt:a.length=n:=J.rep.len;obtain⟨v,hv⟩:=aV a x;have ru:=lQ hU hv;have xG:x+1<=a.length:=ab
  by_cases D:v=(y:Int);subst D;rw[adE hv] at M2;simp[k5,k11,ED,Y,ru,wj,Z,-ax];refine⟨bp.length-(j+1+1),ab,j+1,a,_,ahq,rfl,bk,w2,by simpa [hv] using M2,⟨?_,?_,?_,?_⟩,?_,?_,?_,?_⟩;simp[k3];simp[k4];simp[k5];simp[k8];simp[k9];simp[k44];simp[Q];simp
  .have eQ:(v !=(y:Int))=true:=aj D
   simp[k5,k11,ED,Y,ru,wj,Z,eQ,D,hU,xG,-ax];refine⟨bp.length-(j+1+1),ab,j+1,a.set x (y:Int),_,true,rfl,bk,w2.put ab _,by simpa [hv,D] using M2,⟨?_,?_,?_,?_⟩,?_,?_,?_,?_⟩;simp[k3];simp[k4];simp[k5];simp[k8];simp;simp[k44];simp[Q];simp
 .have hjr:j+1=bp.length:=ab
  rw[hjr] at J;have I:¬(j:Int)<((bp.length-1:Nat):Int):=ab
  simp[U3,H,I];exact C _ _ a V1 ahq F J ⟨by simp[l.f3],by simp[l.f4],by simp[l.f5],by simp[l.f8]⟩ (au q9)
def TrI(h0:az)(n:Nat)(bp:List Nat)(sJ:List Int)(ah:List (List Int))(d3 d4 d5 d8 n8:Nat)(ws:List SV)(m:Nat)(e:Env)(h:az):Prop:=
 ∃(us:List Int) (a:Bool),TS h0 h n bp sJ us ah d3 d4 d5 d8 n8 ws/\TE n bp.length d3 d4 d5 d8 e/\bH e 9=.bool a/\((a=true/\us=(List.replicate n (-1:Int)).set 0 0/\m=bp.length*bp.length+2)\/∃V,Tree.Btw bp ah V/\Tree.SG bp us n V bp.length/\m=if a then Dom.total V bp.length+1 else 0)
def RR{ws:List SV}(w:TS h0 h n bp sJ ((List.replicate n (-1:Int)).set 0 0) ah d3 d4 d5 d8 n8 ws)(c:TC n bp sJ ah)(hr:0<bp.length)(E:TE n bp.length d3 d4 d5 d8 e)(f9:bH e 9=.bool true)(C:∀e' h' J V',TS h0 h' n bp sJ J ah d3 d4 d5 d8 n8 ws->Tree.Btw bp ah V'->Tree.SG bp J n V' bp.length->TE n bp.length d3 d4 d5 d8 e'->QQ (.exit 2) e' h'):aO FF (.loop uG) e h QQ:=by
 refine aO.loop (TrI h0 n bp sJ ah d3 d4 d5 d8 n8 ws) ?_ (n:=bp.length*bp.length+2) ⟨_,true,w,E,f9,.inl ⟨rfl,rfl,rfl⟩⟩;rintro m e1 h1⟨us,dE,Q,a,q9,hc⟩;unfold uG;cases dE with
 |false=>
  rcases hc with⟨h,_⟩|⟨V,l,O,rfl⟩;cases h;simp[q9];exact C _ _ us V Q l O ⟨by simp[a.f3],by simp[a.f4],by simp[a.f5],by simp[a.f8]⟩
 |true=>
  have yE:1<=bp.length:=hr;obtain⟨s,hs⟩:∃s,s=bp.length-1:=⟨_,rfl⟩;have G:∀(first:Bool)(A V:Nat->Nat),Tree.Mid bp ah n us first A V 1 false->(first=false->Tree.Btw bp ah A/\m=Dom.total A bp.length+1)->(first=true->m=bp.length*bp.length+2)->aO FF (.loop j7)
    (Tr.set (Tr.set (Tr.set (Tr.set (Tr.set (Tr.set e1 42 (.bool true)) 9 (.bool false)) 43 (.slice (some ⟨d3,0,none⟩) bp.length bp.length)) 44 (.slice (some ⟨d3,1,none⟩) (bp.length-1) (bp.length-1))) 45 (.int .i64 ((bp.length-1:Nat):Int))) 46 (.int .i64 0)) h1
    (fun x K F=>x=.exit 4/\∃D,D<m/\TrI h0 n bp sJ ah d3 d4 d5 d8 n8 ws D K F):=by
   intro first A V M wa Pr
   refine Ve Q c hr M ⟨by simp[a.f3],by simp[a.f4],by simp[a.f5],by simp[a.f8]⟩ ae ae ae ae ?_;intro K F Z V2 Rf w2 M2 E2 k9;refine⟨rfl,?_⟩;obtain⟨l,O,hT⟩:=M2.done (fun h=>(wa h).1) c.hf;refine⟨_,?_,Z,Rf,w2,E2,k9,.inr ⟨V2,l,O,rfl⟩⟩;have bd:Dom.total V2 bp.length<=bp.length*bp.length:=Dom.GJ _ (fun i hi=>by rcases gp_ i with rfl|h;rw[l.1.zero];exact Nat.zero_le _;have:=l.1.lt i h;omega)
   cases zH:first with
   |true=>have:=Pr zH;split<;>omega
   |false=>
    obtain⟨_,hm⟩:=wa zH;cases hmo:Rf with
    |true=>have:=hT zH hmo;simp;omega
    |false=>simp;omega
  have H:aO FF (.loop j7)
    (Tr.set (Tr.set (Tr.set (Tr.set (Tr.set (Tr.set e1 42 (.bool true)) 9 (.bool false)) 43 (.slice (some ⟨d3,0,none⟩) bp.length bp.length)) 44 (.slice (some ⟨d3,1,none⟩) (bp.length-1) (bp.length-1))) 45 (.int .i64 ((bp.length-1:Nat):Int))) 46 (.int .i64 0)) h1
    (fun x K F=>x=.exit 4/\∃D,D<m/\TrI h0 n bp sJ ah d3 d4 d5 d8 n8 ws D K F):=by
   rcases hc with⟨_,rfl,rfl⟩|⟨V,l,O,hm⟩;exact G true (fun _=>0) _ (Tree.YG c.o _ _) (fun h=>by cases h) (fun _=>rfl);exact G false V V (Tree.acQ O l.1) (fun _=>⟨l,aj hm⟩) (fun h=>by cases h)
  obtain⟨s1,hO⟩:=Q.hO;simp[q9,a.f3,yE,hO];refine H.mono ?_;rintro x K F⟨rfl,D,Y,I⟩;simp;exact⟨D,Y,I⟩
def AtI(h:az)(n:Nat)(bp:List Nat)(d3 d4:Nat)(e:Env)(m:Nat)(e':Env)(a:az):Prop:=
 ∃(j:Nat) (sJ:List Int),m=bp.length-j/\j<=bp.length/\bJ e' 28 j/\aM [28,6,7,29,30,31,32,33,34,35,36,37] e e'/\ay (· =d4) h a/\(dg a d4 (encI.flat sJ))/\sJ.length=n/\∀i x:Nat,i<j->bp[i]?=some x->sJ[x]?=some (i:Int)
def aeT(Y:cr h)(o:Tree.Ord bp n)(hr:bp.length<=n)(hn:n<=1000){d3 d4 s3 s4 o3:Nat}(hO:h.tr.get d3=some (.bZ (encI.flat (nI bp)) false o3 s3))(hA:fC h d4 (encI.flat sJ) s4)(hl:sJ.length=n)(eQ:d3≠d4)(f4:bH e 4=.slice (some ⟨d4,0,none⟩) n n)(H:bH e 26=.slice (some ⟨d3,0,none⟩) bp.length bp.length)(F:bJ e 27 bp.length)(I:bJ e 28 0)(C:∀D h' O,aM [28,6,7,29,30,31,32,33,34,35,36,37] e D->ay (· =d4) h h'->(dg h' d4 (encI.flat O))->O.length=n->(∀i x:Nat,bp[i]?=some x->O[x]?=some (i:Int))->QQ (.exit 0) D h'):aO FF (.loop uH) e h QQ:=by
 refine aO.loop (AtI h n bp d3 d4 e) ?_ (n:=bp.length) ⟨0,sJ,rfl,ab,I,aM.refl _ _,.refl Y,⟨s4,hA⟩,hl,fun i x h=>ab⟩;rintro m D h2⟨j,w,rfl,hj,JA,K,l,⟨s,G⟩,V,Z⟩;have q4:=K.at f4;have Ze:=K.at H;have ML:=K.at F;unfold uH;by_cases Q:j<bp.length
 .obtain⟨x,a⟩:=aV bp j Q;have Mh:=o.lt x (cN a);have J:=l.get Y hO eQ;have ro:=lQ J (Ja a);have wj:=cg ((j:Int)+1) ab ab;have xG:x+1<=w.length:=ab
  simp[q4,Ze,ML,JA,Q,ro,Mh,G,xG,wj,-ax];refine⟨bp.length-(j+1),ab,j+1,w.set x j,rfl,Q,ae,?_,l.trans (aY l.ok G),⟨h2.clock,by rw[aP,qU w x j ab]⟩,au V,fun i y hi hy=>?_⟩
  .exact aq
  rw[fL];by_cases e:x=y;subst e;rw[bM rfl,bM ab,o.inj hy a];rw[bU e];by_cases e2:i=j;subst e2;rw[a] at hy;cases hy;exact absurd rfl e;exact Z i y ab hy
 .have:j=bp.length:=ab
  subst this;simp[ML,JA];exact C _ _ w (K.set) l ⟨s,G⟩ V (fun i x a=>Z i x (di.mp a).1 a)
def dP(bs:List GB):List Nat:=(Dfs.sK (gE bs) bs.length).reverse
def OB(bs:List GB):(uy bs).reverse=nI (dP bs):=by simp[uy,dP,nI,List.map_reverse]
def D8(E:jB bs)(h0:0<bs.length):Tree.Ord (dP bs) bs.length:=by obtain⟨h1,a,⟨new,m⟩,_,_⟩:=Dfs.Ht h0 (vM E);refine⟨List.pairwise_reverse.2 (h1.imp fun h=>h.symm),fun x l=>a x (List.mem_reverse.1 l),?_⟩;unfold dP;rw[m];simp
def ac_(E:jB bs)(h0:0<bs.length):(dP bs).length<=bs.length/\0<(dP bs).length:=by have o:=D8 E h0;refine⟨?_,?_⟩;have:=gT_ o.nd (l₂:=List.range bs.length) (fun x a=>N4.2 (o.lt x a));simpa using this;exact(di.mp o.zero).1
def VW(E:jB bs):EF bs.length (Edge.dO (cw bs)):=by
 have w:(cw bs).length=bs.length:=by simp[cw]
 have H:∀a∈cw bs,∀t∈a,t.toNat<(cw bs).length:=by intro a l t m;obtain⟨b,hb,rfl⟩:=jo.1 l;have:=E.to b hb t m;rw[w];omega
 refine⟨by rw[Edge.mA,w],fun x ps D=>⟨?_,fun p F=>?_⟩⟩
 .have h1:=Edge.xn (n:=(cw bs).length) (tos:=cw bs) (fun a l=>by obtain⟨b,hb,rfl⟩:=jo.1 l;exact E.two b hb) x (cw bs).length;have I:((Edge.upto (cw bs).length (cw bs) (cw bs).length)[x]?).getD []=ps:=by show((Edge.dO (cw bs))[x]?).getD []=ps;rw[D];rfl
  rw[I] at h1;have:=E.len;omega
 have G:=(Edge.Fq H (u:=x) (x:=p)).1 (by rw[D];exact F);obtain⟨i,rfl,a,m,_⟩:=G;have:=(di.mp m).1;omega
def ME(E:jB bs)(h0:0<bs.length):∀b,0<b->b<(dP bs).length->∃w∈Tree.mO (dP bs) (Edge.dO (cw bs)) b,w<b:=by
 intro b hb qW;have o:=D8 E h0;obtain⟨h1,h2,_,_,h5⟩:=Dfs.Ht h0 (vM E);have O:(cw bs).length=bs.length:=by simp[cw]
 have Oh:∀Y∈cw bs,∀t∈Y,t.toNat<(cw bs).length:=by intro Y Al t F;obtain⟨b,hb,rfl⟩:=jo.1 Al;have:=E.to b hb t F;rw[O];omega
 obtain⟨x,D⟩:=aV (dP bs) b qW;have V:=cN D;have H:x≠0:=fun e=>by subst e;have:=o.inj D o.zero;omega
 obtain⟨p,a,l1,Z,I,wg⟩:=h5 x (List.mem_reverse.1 V) H;obtain⟨ps,J⟩:=aV (Edge.dO (cw bs)) x (by rw[Edge.mA,O];exact o.lt x V);have m:dP bs=Z.reverse++x::l1.reverse:=by unfold dP;rw[I];simp
 obtain⟨w,K⟩:=iI (List.mem_reverse.2 wg);have Pu:=(di.mp K).1;have G:(dP bs)[w]?=some p:=by rw[m,Iw Pu,K]
 have pz:(dP bs)[Z.reverse.length]?=some x:=by rw[m,Ke (fh _)];simp
 have:=o.inj D pz;refine⟨w,(Tree.pV D J).2 ⟨p,G,?_⟩,ab⟩;have Q:=(Edge.Fq Oh (u:=x) (x:=(p:Int))).2 (by
  unfold Dfs.row gE at a;rw[js] at a;cases l:bs[p]? with
  |none=>rw[l] at a;simp at a
  |some y=>
   rw[l] at a;simp at a;obtain⟨t,F,e⟩:=a;exact⟨p,rfl,y.to,by simp[cw,l],t,F,e.symm⟩)
 rw[J] at Q;exact Q
def agB(h:az)(n:Nat)(v:Value)(h':az):Prop:=ay aZ h h'/\∃d us s,v=.slice (some ⟨d,0,none⟩) n n/\h.aw<=d/\h'.tr.get d=some (.bZ (encI.flat us) false 0 s)/\Tree.Xf us n
def ZV(ok:cr h){name:ByteArray}{p r:Int}(hB:qg h B bs)(E:jB bs)(h0:0<bs.length):bc FF 85 [.agg ⟨aC name p r B⟩] h (agB h bs.length):=by
 have dT:=aD.len hB;have hl:=E.len;have r1:roomy bs.length=true:=by simp[roomy];omega
 have r2:roomy (bs.length*8)=true:=by simp[roomy];omega
 have o:=D8 E h0;obtain⟨CB,D⟩:=ac_ E h0;refine bc.of Nu ?_;unfold Dl;simp[aC];refine bm.cut (fun h1=>ay aZ h h1/\h1.tr.get h.aw=some (.bZ (aC name p r B) false 0 0)) ⟨(ay.refl ok).new _ _,by simp[aC]⟩ ?_;rintro h1⟨m,hF⟩;have nz:=hF;simp[aC] at nz;refine bm.call (V:=fun v h'=>ay aZ h1 h'/\∃L:SV,v=L.v/\bu encI h1.aw h' L.v (uy bs).reverse) (by simpa [aC] using CJ m.ok (name:=name) (p:=p) (r:=r) (hB.mono ok m) E h0) ?_;rintro _ I⟨a,L,rfl,hA⟩;rw[OB] at hA;rcases hA with⟨e,_⟩|⟨d3,s3,e,Pp,_,hn3⟩
 .have:(nI (dP bs)).length=0:=by rw[e];rfl
  simp[nI] at this;rw[this] at D;simp at D
 have KT:(nI (dP bs)).length=(dP bs).length:=by simp[nI]
 rw[KT] at e;rw[e];have jz:=a.get m.ok nz;have hz:jn [Value.int .i64 0] bs.length=encI.flat (List.replicate bs.length (0:Int)):=Ay encI (0:Int) rfl _;have oF:=a.ok.cn jz;simp[jz,dT,r1,r2,hz,oF,bw,aF jz,-ax];refine bm.cut (fun F=>ay aZ I F/\(dg F I.aw (encI.flat (List.replicate bs.length (0:Int))))/\(dg F (I.aw+1) [.int .i64 (-1)])/\I.aw+1<F.aw) ?_ ?_
 exact⟨((ay.refl a.ok).new _ _).new _ _,⟨0,ae⟩,⟨0,ae⟩,ae⟩;rintro F⟨J,⟨s4,h4b⟩,⟨sm1,hm1⟩,l3⟩;have uT:=J.get a.ok jz;refine bm.call (V:=fun v h'=>ay aZ F h'/\∃d s,v=.slice (some ⟨d,0,none⟩) bs.length bs.length/\F.aw<=d/\h'.tr.get d=some (.bZ (encI.flat (List.replicate bs.length (-1:Int))) false 0 s)) (aj (JG J.ok bs.length ab (x:= -1) hm1)) ?_;rintro _ h5⟨w,d5,s5,rfl,hn5,ID⟩;have K:=(J.trans w).get a.ok Pp;have CY:=w.get J.ok h4b;have l3':=(a.ok.cn Pp).lt;simp;refine aeT w.ok o CB hl K CY ae ab ae ae ae ae ?_;rintro e6 h6 sJ K6 g6⟨s6,XN⟩ wg Kg;have Z:=g6.get w.ok ID (av a.ok);have hO6:=g6.get w.ok K ab;have l:ay aZ h h6:=(((m.trans a).trans J).trans w).trans' g6 ai (fun x hx e=>av ((m.trans a).aw));have k5:bH e6 5=.slice (some ⟨d5,0,none⟩) bs.length bs.length:=K6.at ae;have k1:cm e6 1 h.aw:=K6.at ae;have k3:bH e6 3=.slice (some ⟨d3,0,none⟩) (dP bs).length (dP bs).length:=K6.at ae;have k4:bH e6 4=.slice (some ⟨I.aw,0,none⟩) bs.length bs.length:=K6.at ae;have Q:=g6.get w.ok (w.get J.ok uT) (by have:=a.aw;have:=(m.ok.cn nz).lt;omega);have Wt:(1:Nat)<=bs.length:=h0;have oF6:=l.ok.cn Q;have nF:¬h.aw=d5:=by have:=(m.ok.cn nz).lt;have:=a.aw;omega
 simp[k5,h0,Z,k1,Wt,cH nF,aF Q,-ax,dT];have sp0:=qU (List.replicate bs.length (-1)) 0 0 (aj h0);refine bm.cut (fun H=>ay (· =d5) h6 H/\dg H d5 (encI.flat ((List.replicate bs.length (-1:Int)).set 0 0))) ?_ ?_
 exact⟨aY l.ok Z,h6.clock,by rw[aP,sp0]⟩;rintro H⟨g7,s7,Y⟩;have hO7:=g7.get l.ok hO6 ab;have hA7:=g7.get l.ok XN ab;have G:ay aZ h H:=l.trans' g7 ai (fun x hx e=>av ((m.trans a).aw));refine bm.call (V:=fun v h'=>ay aZ H h'/\∃d ws,v=.slice (some ⟨d,0,none⟩) bs.length bs.length/\mz encI H.aw h' d ws (Edge.dO (cw bs))) (by simpa [aC,dT] using qG G.ok (name:=name) (p:=p) (r:=r) (hB.mono ok G) E) ?_;rintro _ h8⟨g8,d8,ws,rfl,w8⟩;have hU8:=g8.get G.ok Y;have hO8:=g8.get G.ok hO7;have hA8:=g8.get G.ok hA7;have l5:=(G.ok.cn Y).lt;have W:TS h h8 bs.length (dP bs) sJ ((List.replicate bs.length (-1:Int)).set 0 0) (Edge.dO (cw bs)) d3 I.aw d5 d8 H.aw ws:=
  ⟨G.trans g8,av ((m.trans a).aw),⟨s3,hO8⟩,⟨s6,hA8⟩,⟨s7,hU8⟩,w8,l5,ab,ab⟩
 have c:TC bs.length (dP bs) sJ (Edge.dO (cw bs)):=⟨o,hl,wg,Kg,VW E,ME E h0,CB⟩;simp;refine RR W c D ⟨au k3,au k4,au k5,ae⟩ ae ?_;rintro e9 h9 us V W9 hBt hR E9;obtain⟨s9,O⟩:=W9.hU;have awo:1<=us.length:=by rw[hR.len];exact h0
 have sp9:=qU us 0 (-1) ab;simp[E9.f5,h0,O,awo];refine⟨W9.g.put ⟨_,O⟩ (.inl W9.n5),d5,us.set 0 (-1),h9.clock,rfl,W9.n5,by rw[aP,sp9],Tree.ap2 o hBt.1 hR CB⟩
def dH(x:GI):List (Bool×Int):=(if(dK x.op).2.1 then [x.a] else [])++((if(dK x.op).2.2 then [x.b] else [])++x.args)
def fN(x:GI)(A:SV):List Value:=aJ x.op x.dst x.a.1 x.a.2 x.b.1 x.b.2 x.fn A.v
def FG(h:az)(x:GI)(A:SV):bc FF 132 [.agg ⟨fN x A⟩] h (fun v h'=>v=.func (.func 192) #[] #[.pointer (some ⟨h.aw,0,none⟩)]/\h'=aK h (fN x A) 0):=by refine bc.of PS ?_;unfold FQ;simp[fN,aJ]
def CO(ok:cr h1){l p:Nat}{asg body:aG}{K Z:az->Prop}(hS:¬S l)(V:h1.tr.get l=some (.loop e [p] asg body .ready))(H:aO FF asg (Tr.set e p v) h1 (fun x O G=>x=.normal/\ay aZ h1 G/\∀J,ay (· =l) G J->aO FF body O J (fun x _ a=>ay S J a/\((x=.normal/\K a)\/(x=.ret/\Z a)))))(hK:∀a m,K a->cr a->ay (· =l) a m->K m)(hZ:∀a m,Z a->cr a->ay (· =l) a m->Z m):dU FF (.func (.yield l) #[] #[]) [v] h1 (fun r m=>ay (fun x=>S x\/x=l) h1 m/\((r=.bool true/\m.tr.get l=some (.loop e [p] asg body .ready)/\K m)\/(r=.bool false/\m.tr.get l=some (.loop e [p] asg body (.done none))/\Z m))):=by
 refine dU.yield V (by simp[fP];rfl) ?_;refine H.mono ?_;rintro x O G⟨rfl,I,H2⟩;have Q:=I.get ok V;refine⟨rfl,Q,?_⟩;have gs:=kF I.ok Q e [p] asg body .busy;refine(H2 _ gs).mono ?_;rintro x e3 a⟨D,hx⟩;have w:=D.get gs.ok (qH G l e [p] asg body .busy) hS;have F:∀st,ay (fun x=>S x\/x=l) h1 (fT a l e [p] asg body st):=fun st=>
  ((I.ck.trans' gs ai (fun _ _ h=>.inr h)).trans' D ai (fun _ _ h=>.inl h)).trans' (kF D.ok w e [p] asg body st) ai (fun _ _ h=>.inr h)
 rcases hx with⟨rfl,k4⟩|⟨rfl,Y⟩;exact⟨⟨_,_,_,_,w,rfl,rfl,rfl,rfl⟩,F _,.inl ⟨rfl,qH _ _ _ _ _ _ _,hK _ _ k4 D.ok (kF D.ok w e [p] asg body .ready)⟩⟩;exact⟨⟨_,_,_,_,w,rfl,rfl,rfl,rfl⟩,F _,.inr ⟨rfl,qH _ _ _ _ _ _ _,hZ _ _ Y D.ok (kF D.ok w e [p] asg body (.done none))⟩⟩
def YQ(S:Nat->Prop)(B:Nat)(K Z:az->Prop)(a:az)(r:Value)(h':az):Prop:=ay (fun b=>S b\/B<=b) a h'/\((r=.bool true/\K h')\/(r=.bool false/\Z h'))
def V1I(x:GI)(A:SV)(y:Value)(X B:Nat)(k:Nat)(I:Nat->Nat->az->Prop)(m:Nat)(e:Env)(a:az):Prop:=
 ∃j:Nat,m=x.args.length-j/\j<=x.args.length/\bH e 0=y/\bH e 30=A.v/\bJ e 31 x.args.length/\bJ e 32 j/\B<=a.aw/\I B (k+j) a
def CU(dt:cr h0){x:GI}(hA:aD vR 2 h0 A.v x.args)(hl:x.args.length<2000000){y:Value}(I:Nat->Nat->az->Prop)(S:Nat->Prop)(Z:az->Prop)(hI:∀B j a,I B j a->ay aZ h0 a/\dg a X (fN x A))(Ho:∀B j a Y,I B j a->ay aZ a Y->I B j Y)(hS:∀b,S b->b<h.aw)(H:∀B j v a,(dH x)[j]?=some v->B<=a.aw->h.aw<B->I B j a->dU FF y [.agg ⟨[.bool v.1,.int .i64 v.2]⟩] a (YQ S B (I B (j+1)) Z a))(g0:ay aZ h0 h)(hX:dg h X (fN x A))(hi:∀h1,ay aZ h h1->I h1.aw 0 h1):bc FF 192 [y,.pointer (some ⟨X,0,none⟩)] h (fun _ h'=>(∃B,I B (dH x).length h')\/Z h'):=by
 have ni:=aD.len hA;obtain⟨s0,hX⟩:=hX;have dj:=hX;simp[fN,aJ] at dj;have lX:=(g0.ok.cn hX).lt;refine bc.of Kv ?_;unfold Bv;simp[dj];refine bm.call (aj (GD h g0.ok x.op)) ?_;rintro _ h1⟨rfl,J⟩;have E5:=J.get g0.ok dj;have oX1:=J.ok.cn E5;have l1:=J.aw;have loop:∀(B k:Nat)(h5:az)(e:Env)(Q:bK->Env->az->Prop),bH e 0=y->bH e 30=A.v->bJ e 31 x.args.length->bJ e 32 0->B<=h5.aw->h.aw<B->(∀j,j<=x.args.length->(dH x)[k+j]?=x.args[j]?)->k+x.args.length=(dH x).length->I B k h5->(∀e' h',(∃B,I B (dH x).length h')\/Z h'->Q (.exit 0) e' h'/\Q .ret e' h')->aO FF (.loop rC) e h5 Q:=by
  intro B k h5 e Q f0 f30 F D hB Wh hv hk hi5 HQ;refine aO.loop (V1I x A y X B k I) ?_ (n:=x.args.length) ⟨0,rfl,ab,f0,f30,F,D,hB,hi5⟩;rintro m e6 h6⟨j,rfl,hj,f0,f30,F,D,hB6,hi6⟩;unfold rC;obtain⟨g6,s6,po⟩:=hI _ _ _ hi6;by_cases bk:j<x.args.length
  .have hx:x.args[j]?=some x.args[j]:=g_ bk;generalize x.args[j]=v at hx;obtain⟨bT,off,c,Bh,_,_,rfl,oT,cZ⟩:=aD.later dt hA hx;have r0:=cZ h6 g6 0 2 ag;simp[-ax] at r0;have O:=f30;simp at O;rw[Bh,ni] at O;have wj:=cg ((j:Int)+1) ab ab;simp[f0,O,F,D,bk,r0,-ax,aH];refine bm.cut (fun h7=>ay aZ h6 h7) ((ay.refl g6.ok).var _ _) ?_;intro h7 g7;have l7:=g7.aw;refine bm.e_ (V:=YQ S B (I B (k+j+1)) Z h7) (by simpa [f0] using H B (k+j) v h7 (by rw[hv j hj,hx]) ab Wh (Ho _ _ _ _ hi6 g7)) ?_;rintro r h8⟨g8,h|h⟩
   obtain⟨rfl,hi8⟩:=h;simp[D,wj];exact⟨x.args.length-(j+1),ab,j+1,rfl,bk,au f0,by simp[O,Bh,ni],by simp[F],ae,av g8.aw,by simpa [EV] using hi8⟩;obtain⟨rfl,hz⟩:=h;simp;exact(HQ _ _ (.inr hz)).2
  .have:j=x.args.length:=ab
   subst this;simp[F,D];exact(HQ _ _ (.inl ⟨B,by rw[<-hk];exact hi6⟩)).1
 have hXi:∀B j a,I B j a->dg a X [.int .i64 x.op,.int .i64 x.dst,.bool x.a.1,.int .i64 x.a.2,.bool x.b.1,.int .i64 x.b.2,.int .i64 x.fn,A.v]:=by intro B j a hi2;obtain⟨_,s,e⟩:=hI _ _ _ hi2;exact⟨s,by simpa [fN,aJ] using e⟩
 cases G:(dK x.op).2.1 with
 |true=>
  simp[E5,oX1];refine bm.cut (fun a=>ay aZ h1 a/\(dg a h1.aw [.bool (dK x.op).1,.bool true,.bool (dK x.op).2.2])) ⟨(ay.refl J.ok).var _ _,h1.clock,ae⟩ ?_;rintro a⟨g2,s2,hT⟩;have lT:=g2.ok.cn hT;have lT':=lT.lt;refine bm.e_ (V:=YQ S a.aw (I a.aw 1) Z a) (aj (H a.aw 0 x.a a (by simp[dH,G]) (fh _) ab (hi a (J.trans g2)))) ?_;rintro r Y⟨g3,⟨rfl,w⟩|⟨rfl,hz⟩⟩
  .have K:=g3.get g2.ok hT (by rintro(h|h);exact absurd (hS _ h) ab;omega);obtain⟨s3,eD⟩:=hXi _ _ _ w;have l3:=g3.aw;cases l:(dK x.op).2.2 with
   |true=>
    rw[l] at K;simp at eD;simp[K,eD];refine bm.e_ (V:=YQ S a.aw (I a.aw 2) Z Y) (aj (H a.aw 1 x.b Y (by simp[dH,G,l]) l3 ab w)) ?_;rintro r h4⟨g4,⟨rfl,hi4⟩|⟨rfl,hz⟩⟩;obtain⟨s4,kR⟩:=hXi _ _ _ hi4;simp at kR;simp[kR];refine loop a.aw 2 h4 _ _ ae ae (au ni) ae (av g4.aw) ab (fun j _=>?_) ?_ hi4 (fun e' h' hh=>aj hh);simp[dH,G,l,Nat.add_comm 2 j];simp[dH,G,l];omega;simp;exact .inr hz
   |false=>
    rw[l] at K;simp at eD;simp[K,eD];refine loop a.aw 1 Y _ _ ae ae (au ni) ae ab ab (fun j _=>?_) ?_ w (fun e' h' hh=>aj hh);simp[dH,G,l,Nat.add_comm 1 j];simp[dH,G,l];omega
  simp;exact .inr hz
 |false=>
  cases l:(dK x.op).2.2 with
  |true=>
   simp[E5,oX1];refine bm.cut (fun a=>ay aZ h1 a/\h1.aw<a.aw) ⟨(ay.refl J.ok).var _ _,ae⟩ ?_;rintro a⟨g2,l2⟩;refine bm.e_ (V:=YQ S a.aw (I a.aw 1) Z a) (aj (H a.aw 0 x.b a (by simp[dH,G,l]) (fh _) ab (hi a (J.trans g2)))) ?_;rintro r Y⟨g3,⟨rfl,w⟩|⟨rfl,hz⟩⟩;obtain⟨s3,eD⟩:=hXi _ _ _ w;simp at eD;simp[eD];refine loop a.aw 1 Y _ _ ae ae (au ni) ae g3.aw ab (fun j _=>?_) ?_ w (fun e' h' hh=>aj hh);simp[dH,G,l,Nat.add_comm 1 j];simp[dH,G,l];omega;simp;exact .inr hz
  |false=>
   simp[E5,oX1];refine aO.cut (fun a=>ay aZ h1 a/\h1.aw<a.aw) ⟨(ay.refl J.ok).var _ _,ae⟩ ?_;rintro a⟨g2,l2⟩;refine loop a.aw 0 a _ _ ae ae (au ni) ae (fh _) ab (fun j _=>?_) ?_ (hi a (J.trans g2)) (fun e' h' hh=>aj hh);simp[dH,G,l];simp[dH,G,l]
def HA(h:az)(v:Value)(h':az):Prop:=ay aZ h h'/\∃t:Bool,v=.bool t
def asN(h:az)(n d:Nat)(w:Nat->Nat)(a:Int)(m:Nat)(e:Env)(l:az):Prop:=
 bH e 0=.slice (some ⟨d,0,none⟩) n n/\bJ e 1 a/\ay aZ h l/\((∃x:Nat,x<n/\m=w x+1/\bJ e 2 x)\/(m=0/\bJ e 2 (-1)))
def Vh(J:cr h)(hn:n<1000000)(O:h.tr.get d=some (.bZ (encI.flat us) ro o s))(U:Tree.Xf us n)(a:Int)(hb:b<n):bc FF 211 [.slice (some ⟨d,0,none⟩) n n,.int .i64 a,.int .i64 b] h (HA h):=by
 obtain⟨hl,I,_,hr⟩:=U;refine bc.of PV ?_;unfold FU;simp;refine aO.loop (asN h n d I a) ?_ (n:=I b+1) ⟨ae,ae,.refl J,.inl ⟨b,hb,rfl,ae⟩⟩;rintro m e h2⟨H,D,w,hx⟩;unfold BL;rcases hx with⟨x,V,rfl,G⟩|⟨rfl,G⟩
 .by_cases F:(x:Int)=a
  .have l:((x:Int) !=a)=false:=aj F
   simp[D,G,l];exact⟨w,_,rfl⟩
  .have l:((x:Int) !=a)=true:=aj F
   have Y:=w.get J O;obtain⟨v,K⟩:=aV us x;have Q:=lQ Y K;simp[H,D,G,l,V,Q,-ax];rcases hr x v K with rfl|⟨y,rfl,hy,Z⟩
   exact⟨0,ab,au H,au D,w,.inr ⟨rfl,ae⟩⟩;exact⟨I y+1,ab,au H,au D,w,.inl ⟨y,hy,rfl,ae⟩⟩
 simp[D,G];exact⟨w,_,rfl⟩
def WV(name:ByteArray)(p r:Int)(B U W:SV):List Value:=[.string name,.int .i64 p,.int .i64 r,B.v,U.v,W.v]
def adm{ws:List (Int×Int)}(l:h.tr.get W=some (.bZ (v7.flat ws) ro o s)){x:Int×Int}(a:ws[k]?=some x):∀i m,i+m<=2->cD h W (k*2+i) m=some (((v7.enc x).drop i).take m):=by intro i m w;have D:=(di.mp a).1;have:=v7.pW ws k i m x a (aj w);rw[fD l (by rw[v7.dV];simp;omega)];simp only[ae7] at this;rw[this]
def adH(ws:List (Int×Int))(i:Nat)(x:Int×Int)(h:i<ws.length):bg (v7.flat ws) (i*2) [.int .i64 x.1,.int .i64 x.2]=v7.flat (ws.set i x):=by have:=v7.qT ws i x h;simpa using this
section
variable{name:ByteArray}{p r:Int}{B U:SV}
def WrQ(h:az)(W n k:Nat)(ws:List (Int×Int))(v:Value)(h':az):Prop:=∃t:Bool,v=.bool t/\ay (· =W) h h'/\∃a s,h'.tr.get W=some (.bZ (v7.flat a) false 0 s)/\a.length=n/\(t=true->(∃w,ws[k]?=some w/\w.1<0)/\(∃x,a[k]?=some x/\0<=x.1)/\∀r,r≠k->a[r]?=ws[r]?)
def VG(G:cr h){ws:List (Int×Int)}(a:fC h C (WV name p r B U ⟨some ⟨W,0,none⟩,n,wc⟩) s1)(l:fC h W (v7.flat ws) s2)(H:ws.length=n)(F:k<n){i:Int}(O:0<=i)(j:Int):bc FF 149 [.pointer (some ⟨C,0,none⟩),.int .i64 k,.int .i64 i,.int .i64 j] h (WrQ h W n k ws):=by
 refine bc.of AL ?_;unfold rR;simp[WV] at a;obtain⟨w,D⟩:=aV ws k;have m:=adm l D 0 1 ag;simp[-ax] at m;by_cases h0:0<=w.1
 simp[a,F,m,h0,-ax,aF a];exact⟨_,rfl,.refl G,ws,s2,l,H,fun e=>by cases e⟩
 .have I:=adH ws k (i,j) ab;have K:k*2+2<=ws.length*2:=ab
  simp[a,F,m,h0,-ax,aF a,l,K];exact⟨_,rfl,aY G l,ws.set k (i,j),h.clock,by rw[aP,I],au H,fun _=>⟨⟨w,D,ab⟩,⟨(i,j),List.getElem?_set_self ab,O⟩,fun r J=>List.getElem?_set_ne (Ne.symm J)⟩⟩
def UH(l:cr h){C W n wc s1 s2 s3 d nb oU:Nat}{H:Bool}{ws:List (Int×Int)}(K:fC h C (WV name p r B ⟨some ⟨d,0,none⟩,nb,nb⟩ ⟨some ⟨W,0,none⟩,n,wc⟩) s1)(O:fC h W (v7.flat ws) s2)(hl:ws.length=n)(Z:h.tr.get d=some (.bZ (encI.flat us) H oU s3))(hU:Tree.Xf us nb)(Ug:nb<1000000){v:Bool×Int}(hv:v.1=true->0<=v.2/\v.2<n)(hi:i<nb)(j:Int):bc FF 150 [.pointer (some ⟨C,0,none⟩),.agg ⟨[.bool v.1,.int .i64 v.2]⟩,.int .i64 i,.int .i64 j] h (HA h):=by
 refine bc.of AK ?_;unfold rQ;obtain⟨rg,k⟩:=v;cases rg with
 |false=>
  simp;exact⟨(ay.refl l).new _ _,_,rfl⟩
 |true=>
  obtain⟨h0,hn⟩:=hv rfl;dsimp only at h0 hn;obtain⟨k,rfl⟩:∃k':Nat,k=k':=⟨k.toNat,ab⟩;have hk:k<n:=ab
  obtain⟨w,hw⟩:=aV ws k;have oC:=l.cn K;have oW:=l.cn O;have Q:=adm O hw 0 2 ag;have D:=K;simp[WV] at D;simp[-ax] at Q;simp[D,oC,oW,Q,hk,bw,ed,aF D,aQ,aH,-ax];refine aO.cut (fun m=>ay aZ h m/\dg m (h.aw+1) [.int .i64 w.1,.int .i64 w.2]) ?_ ?_
  refine⟨?_,?_⟩;exact((ay.refl l).new _ _).tick.var _ _;exact⟨_,aP _ _ _ _ _ _⟩;rintro m⟨a,s4,J⟩;have yQ:=a.get l D;have Gk:=a.get l Z;by_cases F:w.1<0
  simp[J,F];exact⟨a,_,rfl⟩
  .by_cases Y:w.1=(i:Int);simp[J,F,Y];exact⟨a,_,rfl⟩
   .have G:(w.1==(i:Int))=false:=aj Y
    have I:0<=w.1:=ab
    simp[J,F,I,G,yQ];refine cu.call (V:=HA (tick m)) (aj (Vh (h:=tick m) a.tick.ok Ug Gk hU w.1 hi)) ?_;rintro _ h3⟨g3,t,rfl⟩;simp;exact⟨a.tick.trans g3,_,rfl⟩
end
def WOk(t:Bool)(DS:List Int)(ws:List (Int×Int)):Prop:=t=true->DS.Nodup/\∀r∈DS,0<=r/\∃x,ws[r.toNat]?=some x/\0<=x.1
def WOk.nil(t:Bool)(ws:List (Int×Int)):WOk t [] ws:=fun _=>⟨.nil,fun r h=>by cases h⟩
def WOk.step{t F:Bool}{DS:List Int}{ws D:List (Int×Int)}{k:Nat}(w:WOk t DS ws)(H:F=true->(∃w,ws[k]?=some w/\w.1<0)/\(∃x,D[k]?=some x/\0<=x.1)/\∀r,r≠k->D[r]?=ws[r]?):WOk (F&&t) (DS++[(k:Int)]) D:=by
 intro e;simp only[oD] at e;obtain⟨⟨x,V,K⟩,⟨y,hy,Q⟩,O⟩:=H e.1;obtain⟨n1,I⟩:=w e.2;have G:(k:Int)∉DS:=fun l=>by obtain⟨_,z,m,J⟩:=I _ l;simp only[gW_] at m;rw[V] at m;cases m;omega
 refine⟨List.nodup_append.2 ⟨n1,ae,fun a ha b hb e=>?_⟩,fun r l=>?_⟩;simp only[List.mem_singleton] at hb;exact G (hb▸e▸ha);rcases jS.1 l with l|l;obtain⟨h0,z,m,J⟩:=I r l;refine⟨h0,z,?_,J⟩;rw[O];exact m;intro e;exact G (by rw[<-e,Int.toNat_of_nonneg h0];exact l);simp only[List.mem_singleton] at l;subst l;exact⟨ab,y,aj hy,Q⟩
structure SC(h0 h:az)(C W n wc:Nat)(name:ByteArray)(p r:Int)(B U:SV)(t:Bool)(DS:List Int):Prop where
 g:ay aZ h0 h
 n0:h0.aw<=W
 ne:C≠W
 hC:dg h C (WV name p r B U ⟨some ⟨W,0,none⟩,n,wc⟩)
 hW:∃ws s,h.tr.get W=some (.bZ (v7.flat ws) false 0 s)/\ws.length=n/\WOk t DS ws
def SC.ck{p r:Int}(w:SC h0 h C W n wc name p r B U t DS)(g:ay aZ h h'):SC h0 h' C W n wc name p r B U t DS:=by obtain⟨s1,h1⟩:=w.hC;obtain⟨a,s2,m,l⟩:=w.hW;exact⟨w.g.trans g,w.n0,w.ne,⟨s1,g.get w.g.ok h1⟩,a,s2,g.get w.g.ok m,l⟩
def SC.cY{p r:Int}(w:SC h0 h C W n wc name p r B U t DS):SC h0 h C W n wc name p r B U t' []:=by obtain⟨l,s,a,b,_⟩:=w.hW;exact⟨w.g,w.n0,w.ne,w.hC,l,s,a,b,WOk.nil _ _⟩
def SC.wr{p r:Int}{DS a:List Int}(w:SC h0 h C W n wc name p r B U t DS)(g:ay (· =W) h h')(m:∃l s,h'.tr.get W=some (.bZ (v7.flat l) false 0 s)/\l.length=n/\WOk t' a l):SC h0 h' C W n wc name p r B U t' a:=by obtain⟨s1,h1⟩:=w.hC;exact⟨w.g.trans' g ai (fun x D e=>av w.n0),w.n0,w.ne,⟨s1,g.get w.g.ok h1 w.ne⟩,m⟩
section
variable{h0:az}{C W n wc:Nat}{name:ByteArray}{p r:Int}{B U:SV}
def WrS(h0 h:az)(C W n wc:Nat)(name:ByteArray)(p r:Int)(B U:SV)(a:Bool)(DS:List Int)(k:Int)(v:Value)(h':az):Prop:=∃t:Bool,v=.bool t/\SC h0 h' C W n wc name p r B U (t&&a) (DS++[k])/\ay (· =W) h h'
def Kc{a:Bool}(w:SC h0 h C W n wc name p r B U a DS){k:Int}(Q:0<=k/\k<n){i:Int}(K:0<=i)(j:Int):bc FF 149 [.pointer (some ⟨C,0,none⟩),.int .i64 k,.int .i64 i,.int .i64 j] h (WrS h0 h C W n wc name p r B U a DS k):=by
 obtain⟨s1,h1⟩:=w.hC;obtain⟨V,s2,G,F,l⟩:=w.hW;obtain⟨k,rfl⟩:∃J:Nat,k=J:=⟨k.toNat,ab⟩;refine(VG w.g.ok h1 G F (k:=k) ab K j).mono ?_;rintro v h'⟨t,e,g,D,m,H,O,I⟩;exact⟨t,e,w.wr g ⟨D,m,H,O,l.step I⟩,g⟩
def as9(h0 h:az)(C W n wc:Nat)(name:ByteArray)(p r:Int)(B U:SV)(pn:Nat)(m:Nat)(e':Env)(h':az):Prop:=
 ∃(j:Nat) (t:Bool),m=pn-j/\j<=pn/\cm e' 0 C/\bJ e' 15 pn/\bJ e' 16 j/\bH e' 3=.bool t/\SC h0 h' C W n wc name p r B U t []/\ay (· =W) h h'
def Ln(w:SC h0 h C W n wc name p r B U tt [])(hp:pn<=n)(hn:n<1000000)(f0:cm e 0 C)(I:bJ e 15 pn)(G:bJ e 16 0)(O:∃t:Bool,bH e 3=.bool t)(K:∀D h' t,SC h0 h' C W n wc name p r B U t []->ay (· =W) h h'->cm D 0 C->bH D 3=.bool t->QQ (.exit 0) D h'):aO FF (.loop jh) e h QQ:=by
 obtain⟨t0,O⟩:=O;refine aO.loop (as9 h0 h C W n wc name p r B U pn) ?_ (n:=pn) ⟨0,t0,rfl,ab,f0,I,G,O,w.cY,.refl w.g.ok⟩;rintro m D h'⟨j,t,rfl,hj,a,l,F,H,Q,J⟩;unfold jh;by_cases bk:j<pn
 .have Y:=cg ((j:Int)+1) ab ab;simp[a,l,F,bk];refine bm.call (V:=WrS h0 h' C W n wc name p r B U t [] j) (aj (Kc Q (k:=j) ab (Int.le_refl 0) (-1))) ?_;rintro _ h2⟨t2,rfl,w2,Z⟩;cases t2 with
  |false=>
   simp[F,Y,H];exact⟨pn-(j+1),ab,j+1,false,rfl,ab,au a,au l,ae,ae,w2.cY,J.trans Z⟩
  |true=>
   simp[F,Y,H];exact⟨pn-(j+1),ab,j+1,t,rfl,ab,au a,au l,ae,ae,w2.cY,J.trans Z⟩
 .have:j=pn:=ab
  subst this;simp[l,F];exact K _ _ t Q J (au a) (au H)
def as7(h0 h:az)(C W n wc:Nat)(name:ByteArray)(p r:Int)(B U:SV)(DS:List Int)(ps:List GP)(k:Nat)(e:Env)(m:Nat)(e':Env)(h':az):Prop:=
 ∃(j:Nat) (t:Bool),m=k-j/\j<=k/\aM [41,42,43,8,44,45,46,47,48,49,50,51,3,52,40] e e'/\bJ e' 40 j/\bH e' 3=.bool t/\SC h0 h' C W n wc name p r B U t (DS++(ps.take j).map (·.dst))/\ay (· =W) h h'
def SF(dt:cr h0)(w:SC h0 h C W n wc name p r B U tt DS){P:SV}{ps:List GP}(hP:aD (pR h0) 2 h0 P.v ps)(ju:∀q∈ps,0<=q.dst/\q.dst<n)(hl:ps.length<1000000)(f0:cm e 0 C)(f5:bJ e 5 i)(I:bH e 38=P.v)(O:bJ e 39 ps.length)(H:bJ e 40 0)(f3:bH e 3=.bool tt)(K:∀G h' t,SC h0 h' C W n wc name p r B U t (DS++ps.map (·.dst))->ay (· =W) h h'->aM [41,42,43,8,44,45,46,47,48,49,50,51,3,52,40] e G->bH G 3=.bool t->QQ (.exit 4) G h'):aO FF (.loop jg) e h QQ:=by
 have gY:=aD.len hP;refine aO.loop (as7 h0 h C W n wc name p r B U DS ps ps.length e) ?_ (n:=ps.length) ⟨0,tt,rfl,ab,aM.refl _ _,H,f3,aj w,.refl w.g.ok⟩;rintro m G h'⟨j,t,rfl,hj,D,a,J,l,Y⟩;have q0:=D.at f0;have q5:=D.at f5;have Z:=D.at I;have F:=D.at O;unfold jg;by_cases bk:j<ps.length
 .have wj:=cg ((j:Int)+1) ab ab;have hx:ps[j]?=some ps[j]:=g_ bk;have hm:=Be bk;generalize ps[j]=q at hx hm;obtain⟨bb,off,c,kB,_,_,⟨A,rfl,sA⟩,_,cZ⟩:=aD.later dt hP hx;have r0:=cZ h' l.g 0 2 ag;simp[-ax] at r0;simp at Z;rw[kB,gY] at Z;simp[q0,q5,Z,F,a,bk,r0,-ax,aH];refine bm.cut (fun h1=>ay aZ h' h1) ((ay.refl l.g.ok).var _ _) ?_;intro h1 Q;refine bm.call (V:=WrS h0 h1 C W n wc name p r B U t (DS++(ps.take j).map (·.dst)) q.dst) (aj (Kc (l.ck Q) (ju q hm) (i:=i) ab (-1))) ?_;rintro _ h2⟨t2,rfl,w2,g2⟩;have tk:(ps.take (j+1)).map (·.dst)=(ps.take j).map (·.dst)++[q.dst]:=by rw[lg,hx];simp
  rw[G1,<-tk] at w2;cases t2 with
  |false=>
   simp[a,wj,J];refine⟨ps.length-(j+1),ab,j+1,false,rfl,ab,?_,ae,ae,w2,(Y.trans Q.ck).trans g2⟩
   exact aq
  |true=>
   simp[a,wj,J];refine⟨ps.length-(j+1),ab,j+1,t,rfl,ab,?_,ae,ae,w2,(Y.trans Q.ck).trans g2⟩
   exact aq
 .have:j=ps.length:=ab
  subst this;simp[F,a];rw[jT] at l;exact K _ _ t l Y (D.set) (au J)
def wV(xs:List GI):List Int:=(xs.filter fun x=>decide (0<=x.dst)).map (·.dst)
def TD{xs:List GI}{x:GI}(h:xs[j]?=some x)(a:0<=x.dst):wV (xs.take (j+1))=wV (xs.take j)++[x.dst]:=by unfold wV;rw[lg,h];simp[a]
def TB{xs:List GI}{x:GI}(h:xs[j]?=some x)(a:x.dst<0):wV (xs.take (j+1))=wV (xs.take j):=by unfold wV;rw[lg,h];simp;omega
def qF(b:GB):List Int:=b.bD.map (·.dst)++wV b.list
def as6(h0 h:az)(C W n wc:Nat)(name:ByteArray)(p r:Int)(B U:SV)(DS:List Int)(xs:List GI)(k:Nat)(e:Env)(m:Nat)(e':Env)(h':az):Prop:=
 ∃(j:Nat) (t:Bool),m=k-j/\j<=k/\aM [57,58,59,60,10,9,61,62,63,64,65,66,67,68,69,70,71,72,73,74,3,75,56] e e'/\bJ e' 56 j/\bH e' 3=.bool t/\SC h0 h' C W n wc name p r B U t (DS++wV (xs.take j))/\ay (· =W) h h'
def SE(dt:cr h0)(w:SC h0 h C W n wc name p r B U tt DS){xs:List GI}(hL:aD (iR h0) 8 h0 L.v xs)(BI:∀x∈xs,x.dst<n)(hl:xs.length<1000000)(f0:cm e 0 C)(f5:bJ e 5 i)(f54:bH e 54=L.v)(f55:bJ e 55 xs.length)(f56:bJ e 56 0)(f3:bH e 3=.bool tt)(K:∀G h' t,SC h0 h' C W n wc name p r B U t (DS++wV xs)->ay (· =W) h h'->aM [57,58,59,60,10,9,61,62,63,64,65,66,67,68,69,70,71,72,73,74,3,75,56] e G->bH G 3=.bool t->QQ (.exit 6) G h'):aO FF (.loop jf) e h QQ:=by
 have jt:=aD.len hL;refine aO.loop (as6 h0 h C W n wc name p r B U DS xs xs.length e) ?_ (n:=xs.length) ⟨0,tt,rfl,ab,aM.refl _ _,f56,f3,by simpa [wV] using w,.refl w.g.ok⟩;rintro m G h'⟨j,t,rfl,hj,F,a,H,l,J⟩;have q0:=F.at f0;have q5:=F.at f5;have I:=F.at f54;have D:=F.at f55;unfold jf;by_cases Q:j<xs.length
 .have Z:=cg ((j:Int)+1) ab ab;have O:xs[j]?=some xs[j]:=g_ Q;have hm:=Be Q;generalize xs[j]=x at O hm;obtain⟨bb,off,c,SM,_,_,⟨A,rfl,sA⟩,_,cZ⟩:=aD.later dt hL O;have r0:=cZ h' l.g 0 8 ag;simp[aJ,-ax] at r0;simp at I;rw[SM,jt] at I;have gv:ay aZ h' (put (aK h' [.int .i64 0,.int .i64 0,.bool false,.int .i64 0,.bool false,.int .i64 0,.int .i64 0,.slice none 0 0] 0) h'.aw 0 [.int .i64 0,.int .i64 0,.bool false,.int .i64 0,.bool false,.int .i64 0,.int .i64 0,.slice none 0 0] [.int .i64 x.op,.int .i64 x.dst,.bool x.a.1,.int .i64 x.a.2,.bool x.b.1,.int .i64 x.b.2,.int .i64 x.fn,.slice A.a A.l A.c] 0):=(ay.refl l.g.ok).var _ _;by_cases Y:x.dst<0
  .rw[<-TB O Y] at l;simp[q0,q5,I,D,a,Q,r0,-ax,aH,Y,Z,H];refine⟨xs.length-(j+1),ab,j+1,t,rfl,ab,?_,ae,ae,l.ck gv,J.trans gv.ck⟩
   exact aq
  .simp[q0,q5,I,D,a,Q,r0,-ax,aH,Y];refine bm.cut (fun h1=>ay aZ h' h1) gv ?_;intro h1 g1;refine bm.call (V:=WrS h0 h1 C W n wc name p r B U t (DS++wV (xs.take j)) x.dst) (aj (Kc (l.ck g1) ⟨ab,BI x hm⟩ (i:=i) ab j)) ?_;rintro _ h2⟨t2,rfl,w2,g2⟩;rw[G1,<-TD O ab] at w2;cases t2 with
   |false=>
    simp[a,Z,H];refine⟨xs.length-(j+1),ab,j+1,false,rfl,ab,?_,ae,ae,w2,(J.trans g1.ck).trans g2⟩
    exact aq
   |true=>
    simp[a,Z,H];refine⟨xs.length-(j+1),ab,j+1,t,rfl,ab,?_,ae,ae,w2,(J.trans g1.ck).trans g2⟩
    exact aq
 .have:j=xs.length:=ab
  subst this;simp[D,a];rw[jT] at l;exact K _ _ t l J (F.set) (au H)
def as8(h0 h:az)(C W n wc:Nat)(name:ByteArray)(p r:Int)(B U:SV)(bs:List GB)(k:Nat)(m:Nat)(e':Env)(h':az):Prop:=
 ∃(j:Nat) (t:Bool),m=k-j/\j<=k/\cm e' 0 C/\bH e' 30=B.v/\bJ e' 31 k/\bJ e' 32 j/\bH e' 3=.bool t/\SC h0 h' C W n wc name p r B U t ((bs.take j).flatMap qF)/\ay (· =W) h h'
def amp(h0 h:az)(C W n wc:Nat)(name:ByteArray)(p r:Int)(B U:SV)(bs:List GB)(v:Value)(h':az):Prop:=∃t:Bool,v=.bool t/\SC h0 h' C W n wc name p r B U t (bs.flatMap qF)/\ay (· =W) h h'
structure Tb(n:Nat)(bs:List GB):Prop where
 len:bs.length<1000000
 ph:∀b∈bs,b.bD.length<1000000/\∀q∈b.bD,0<=q.dst/\q.dst<n
 li:∀b∈bs,b.list.length<1000000/\∀x∈b.list,x.dst<n
def SD(dt:cr h0)(hB:qg h0 B bs)(D:Tb n bs)(w:SC h0 h C W n wc name p r B U tt [])(Ws:p=pn)(hp:pn<=n)(hn:n<1000000):bc FF 88 [.pointer (some ⟨C,0,none⟩)] h (amp h0 h C W n wc name p r B U bs):=by
 have dT:=aD.len hB;have qW:=D.len;obtain⟨s1,hC⟩:=w.hC;simp[WV] at hC;refine bc.of zq ?_;unfold qB;simp[hC];refine Ln w hp hn ae (au Ws) ae ⟨true,ae⟩ ?_;intro e1 h1 t1 w1 gw1 H K;obtain⟨s2,TU⟩:=w1.hC;simp[WV] at TU;simp[H,TU];refine aO.loop (as8 h0 h C W n wc name p r B U bs bs.length) ?_ (n:=bs.length) ⟨0,t1,rfl,ab,au H,ae,au dT,ae,au K,aj w1,gw1⟩;rintro m e' h'⟨j,t,rfl,hj,H,a,G,F,K,l,gw⟩;unfold om;by_cases bk:j<bs.length
 .have wj:=cg ((j:Int)+1) ab ab;have hx:bs[j]?=some bs[j]:=g_ bk;have J:=Be bk;generalize bs[j]=x at hx J;obtain⟨bb,off,c,fp,_,_,⟨P,L,T,rfl,sP,sL,sT⟩,_,cZ⟩:=aD.later dt hB hx;have r0:=cZ h' l.g 0 6 ag;simp[-ax] at r0;simp at a;rw[fp,dT] at a;have gY:=aD.len sP;have jt:=aD.len sL;simp[H,a,G,F,bk,r0,-ax,aH];refine aO.cut (fun h1=>ay aZ h' h1/\dg h1 h'.aw [P.v,L.v,.int .i64 x.kind,.bool x.on.1,.int .i64 x.on.2,T.v]) ⟨(ay.refl l.g.ok).var _ _,_,aP _ _ _ _ _ _⟩ ?_;rintro h2⟨V,s3,hX⟩;have lW:W<h'.aw:=by obtain⟨_,_,hW,_⟩:=l.hW;exact l.g.ok.wf _ _ hW
  refine SF dt (l.ck V) sP (D.ph x J).2 (D.ph x J).1 (i:=j) (au H) ae ae (au gY) ae (au K) ?_;intro e3 h3 t3 w3 g3 I k3;have eD:=g3.get V.ok hX ab;simp at eD;have k6:cm e3 6 h'.aw:=I.at ae;have k0:=I.at (t:=0) (ak H);have k5:bH e3 5=.int .i64 j:=I.at ae;have Q:=I.at (t:=30) (ak a);have k31:=I.at (t:=31) (ak G);have k32:=I.at (t:=32) (ak F);simp[k6,eD];refine SE dt w3 sL (D.li x J).2 (D.li x J).1 (i:=j) (au k0) (au k5) ae (au jt) ae (au k3) ?_;intro e4 h4 t4 w4 g4 O Y;have tk:(bs.take (j+1)).flatMap qF=((bs.take j).flatMap qF++x.bD.map (·.dst))++wV x.list:=by rw[lg,hx];simp[qF,G1]
  rw[<-tk] at w4;have k40:=O.at (t:=0) (ak k0);have Z:=O.at (t:=30) (ak Q);have awK:=O.at (t:=31) (ak k31);have awL:=O.at (t:=32) (ak k32);simp[awL,wj];exact⟨bs.length-(j+1),ab,j+1,t4,rfl,ab,au k40,by simp[Z,fp,dT],au awK,ae,au Y,w4,((gw.trans V.ck).trans g3).trans g4⟩
 .have:j=bs.length:=ab
  subst this;simp[G,F,K];rw[jT] at l;exact⟨_,rfl,l,gw⟩
end
structure UF(h0 h1:az)(C W n wc d nb Pb R:Nat)(name:ByteArray)(p r:Int)(B:SV):Prop where
 g:ay aZ h0 h1
 hC:dg h1 C (WV name p r B ⟨some ⟨d,0,none⟩,nb,nb⟩ ⟨some ⟨W,0,none⟩,n,wc⟩)
 hW:∃ws s,h1.tr.get W=some (.bZ (v7.flat ws) false 0 s)/\ws.length=n
 hd:∃us s,h1.tr.get d=some (.bZ (encI.flat us) false 0 s)/\Tree.Xf us nb
 hP:dg h1 Pb [.pointer (some ⟨C,0,none⟩)]
 hR:dg h1 R [.bool false]
 nR:h0.aw<=R
 nb:nb<1000000
 n:n<1000000
def UF.ck{h0 h1 l:az}{C W n wc d nb Pb R:Nat}{p r:Int}(w:UF h0 h1 C W n wc d nb Pb R name p r B)(g:ay aZ h1 l):UF h0 l C W n wc d nb Pb R name p r B:=by obtain⟨s1,F⟩:=w.hC;obtain⟨H,s2,I,J⟩:=w.hW;obtain⟨us,s3,G,D⟩:=w.hd;obtain⟨s4,m⟩:=w.hP;obtain⟨K,O⟩:=w.hR;have a:=w.g.ok;exact⟨w.g.trans g,⟨s1,g.get a F⟩,⟨H,s2,g.get a I,J⟩,⟨us,s3,g.get a G,D⟩,⟨s4,g.get a m⟩,⟨K,g.get a O⟩,w.nR,w.nb,w.n⟩
section
variable{h0:az}{C W n wc d nb Pb R:Nat}{name:ByteArray}{p r:Int}{B:SV}
def Dc(n:Nat)(v:Bool×Int):Prop:=v.1=true->0<=v.2/\v.2<n
def IV(w:UF h0 h C W n wc d nb Pb R name p r B){v:Bool×Int}(l:Dc n v)(H:i<nb)(j:Int):bc FF 150 [.pointer (some ⟨C,0,none⟩),.agg ⟨[.bool v.1,.int .i64 v.2]⟩,.int .i64 i,.int .i64 j] h (HA h):=by
 obtain⟨s1,m⟩:=w.hC;obtain⟨I,s2,G,D⟩:=w.hW;obtain⟨us,s3,F,a⟩:=w.hd;exact UH w.g.ok m G D F a w.nb l H j
def aaO(h0:az)(R:Nat)(e':Env)(h':az):Prop:=ay aZ h0 h'/\(∃t s,h'.tr.get R=some (.bZ [.bool t] false 0 s))/\cm e' 2 R
def Tm:aG:=.ops [⟨(some 13),none,(.alloc vQ)⟩,⟨none,none,(.store 2 (.tmp 13) (.tmp 79))⟩]
def HV:aG:=(P_ 9 (G_ [l_ 80 1,L_ 81 2 13,l_ 82 4,l_ 83 11,F_ 84 150 [t_ 80,t_ 81,t_ 82,t_ 83],o_ 85 (.un .not (t_ 84))] (I_ 85 (G_ [u_ (.store 1 (t_ 2) (b_ false))] .ret) .skip)))
def ZU(h0:az)(R:Nat)(h':az):Prop:=ay aZ h0 h'/\∃t s,h'.tr.get R=some (.bZ [.bool t] false 0 s)
def EY(a:cr h)(e:Env)(ps:List Nat)(asg body:aG):ay aZ h (h.new (.loop e ps asg body .ready))/\(h.new (.loop e ps asg body .ready)).tr.get h.aw=some (.loop e ps asg body .ready):=by refine⟨⟨Nat.le_succ _,fh _,fun b hb _=>It _ hb,⟨fun b l hb=>?_,fun b m ro op s hb=>?_⟩⟩,by simp[az.new,Tr.bN]⟩;simp only[az.new,Tr.bN] at hb⊢;by_cases e:b=h.aw;omega;rw[bU e] at hb;exact Nat.lt_succ_of_lt (a.wf b l hb);simp only[az.new,Tr.bN] at hb⊢;by_cases e:b=h.aw;rw[bM e] at hb;cases hb;rw[bU e] at hb;exact a.st b m ro op s hb
def Z0(dt:cr h0)(F:UF h0 hA C W n wc d nb Pb R name p r B){X I4 O i j s4 s5:Nat}{x:GI}(I:dg hA X (fN x A))(sA:aD vR 2 h0 A.v x.args)(x5:x.args.length<2000000)(hv:∀v∈dH x,Dc n v)(hI:fC hA I4 [.int .i64 i] s4)(hJ:fC hA O [.int .i64 j] s5)(hi:i<nb)(f1:cm e 1 Pb)(f2:cm e 2 R)(f4:cm e 4 I4)(f11:cm e 11 O)(f78:bH e 78=.func (.func 192) #[] #[.pointer (some ⟨X,0,none⟩)])(ret:∀h',aaO h0 R e h'->QQ .ret e h')(Q:∀h',ay aZ hA h'->QQ .normal e h'):aO FF (.Ko (.tmp 78) [79] Tm HV) e hA QQ:=by
 have vG:=F.g.ok;obtain⟨sX,I⟩:=I;obtain⟨g0,QF⟩:=EY vG e [79] Tm HV;have uU:(hA.new (.loop e [79] Tm HV .ready)).aw=hA.aw+1:=rfl;refine aO.Ko (first:= #[]) (caps:= #[.pointer (some ⟨X,0,none⟩)]) (aj f78) ?_;generalize hA.new (.loop e [79] Tm HV .ready)=hL at*;have lX:=(vG.cn I).lt;obtain⟨sR,hR⟩:=F.hR;have lR:=(vG.cn hR).lt;have H:=CU (h:=hL) dt sA x5 (X:=X) (y:=.func (.yield hA.aw) #[] #[]) (fun _ _ a=>ay aZ hA a/\a.tr.get hA.aw=some (.loop e [79] Tm HV .ready)) (fun b=>b=R\/b=hA.aw) (fun h'=>h'.tr.get hA.aw=some (.loop e [79] Tm HV (.done none))/\ZU h0 R h')
  (fun _ _ a D=>⟨F.g.trans D.1,sX,D.1.get vG I⟩) (fun _ _ a h3 D g=>⟨D.1.trans g,g.get D.1.ok D.2⟩) (by rintro b (rfl|rfl)<;>omega) ?_ (F.g.trans g0) ⟨sX,g0.get vG I⟩ (fun h1 g=>⟨g0.trans g,g.get g0.ok QF⟩)
 refine bc.mono (aj H) ?_;rintro v h' (⟨g,hl⟩|⟨hl,l,Wv⟩);unfold vV;rw[hl];refine Q _ (g.trans' (ir g.ok hA.aw) ai (fun x hx e=>ab));unfold vV;rw[hl];refine ret _ ⟨l.trans' (ir l.ok hA.aw) ai (fun x hx e=>av F.g.aw),?_,f2⟩;obtain⟨t,s,Wv⟩:=Wv;exact⟨t,s,(ir l.ok hA.aw).get l.ok Wv ab⟩
 .rintro Bq k v a hk hB1 Wh⟨J,Wp⟩;have Ye:=hv v (cN hk);refine(CO (S:=(· =R)) (K:=fun h'=>ay aZ hA h') (Z:=ZU h0 R) J.ok ab Wp ?_ ?_ ?_).mono ?_
  .unfold Tm;simp;have gv:ay aZ a (put (aK a [.bool false,.int .i64 0] 0) a.aw 0 [.bool false,.int .i64 0] [.bool v.1,.int .i64 v.2] 0):=(ay.refl J.ok).var _ _;have hV:(put (aK a [.bool false,.int .i64 0] 0) a.aw 0 [.bool false,.int .i64 0] [.bool v.1,.int .i64 v.2] 0).tr.get a.aw=some (.bZ [.bool v.1,.int .i64 v.2] false 0 a.clock):=ae
   generalize put (aK a [.bool false,.int .i64 0] 0) a.aw 0 [.bool false,.int .i64 0] [.bool v.1,.int .i64 v.2] 0=h3 at*;refine⟨gv,fun h4 g4=>?_⟩;have G:ay aZ hA h4:=(J.trans gv).trans' g4 ai (fun x hx e=>ab);have Y:=F.ck G;obtain⟨sP,hP4⟩:=Y.hP;obtain⟨sR4,KP⟩:=Y.hR;have hI4:=G.get vG hI;have hJ4:=G.get vG hJ;have l2:=J.aw;have l3:hA.aw<a.aw:=J.ok.wf _ _ Wp;have hV4:=g4.get gv.ok hV ab;unfold HV;simp[f1,f2,f4,f11,hP4,hI4,hJ4,hV4];refine bm.call (V:=HA h4) (aj (IV Y Ye hi j)) ?_;rintro _ h5⟨m,t,rfl⟩;cases t with
   |true=>
    simp;exact⟨m.ck,G.trans m⟩
   |false=>
    have Ak:=m.get G.ok KP;simp[f2,Ak];exact⟨m.ck.trans (aY m.ok Ak),(Y.g.trans m).put ⟨_,Ak⟩ (.inl F.nR),false,h5.clock,ae⟩
  intro h4 h5 k4 _ g;exact k4.trans' g ai (fun x hx e=>ab);rintro h4 h5⟨z1,t,s,z2⟩ _ g;exact⟨z1.trans' g ai (fun x hx e=>av F.g.aw),t,s,g.get z1.ok z2 ab⟩;rintro r h5⟨m,⟨rfl,w,k5⟩|⟨rfl,w,z5⟩⟩;exact⟨m.cY (fun _ _ h=>.inl h),.inl ⟨rfl,k5,w⟩⟩;exact⟨m.cY (fun _ _ h=>.inl h),.inr ⟨rfl,w,z5⟩⟩
end
section
variable{h0:az}{C W n wc d nb Pb R:Nat}{name:ByteArray}{p r:Int}{B:SV}
def as2(h:az)(k:Nat)(e:Env)(m:Nat)(e':Env)(h':az):Prop:=
 ∃j:Nat,m=k-j/\j<=k/\aM [8,9,10,40,41,42,43,44,45,46,47,48,49,50,51,52,53,54,55,56,57,58,59,60,61,62,63,64,65,66,67] e e'/\bJ e' 40 j/\ay aZ h h'
def adW(dt:cr h0)(F:UF h0 h C W n wc d nb Pb R name p r B)(hB:qg h0 B bs)(hbn:bs.length=nb)(okx:cr hy)(gx:ay aZ hy h)(Q:aD (lsR hy) 1 hy AH.v ah)(rw:EF nb ah){row:List (Bool×Int)}(sA:aD vR 2 h0 A.v row)(hv:∀v∈row,Dc n v)(yb:row.length<1000000)(ju:ah[i]?=some ps)(wg:row.length=ps.length)(hI:fC h I4 [.int .i64 i] s4)(f1:cm e 1 Pb)(f2:cm e 2 R)(f3:bH e 3=AH.v)(f4:cm e 4 I4)(f38:bH e 38=A.v)(f39:bJ e 39 row.length)(f40:bJ e 40 0)(ret:∀O h',aaO h0 R O h'->QQ .ret O h')(K:∀O h',ay aZ h h'->aM [8,9,10,40,41,42,43,44,45,46,47,48,49,50,51,52,53,54,55,56,57,58,59,60,61,62,63,64,65,66,67] e O->QQ (.exit 4) O h'):aO FF (.loop j9) e h QQ:=by
 have ni:=aD.len sA;have atY:=aD.len Q;have dT:=aD.len hB;have C4:=F.g.ok;have avj:i<nb:=by have:=(di.mp ju).1;have:=rw.len;omega
 refine aO.loop (as2 h row.length e) ?_ (n:=row.length) ⟨0,rfl,ab,aM.refl _ _,f40,.refl C4⟩;rintro m O h'⟨j,rfl,hj,I,H,g⟩;have D:=F.ck g;have q1:=I.at f1;have q2:=I.at f2;have q3:=I.at f3;have q4:=I.at f4;have Zf:=I.at f38;have q39:=I.at f39;unfold j9;by_cases bk:j<row.length
 .have wj:=cg ((j:Int)+1) ab ab;have hx:row[j]?=some row[j]:=g_ bk;have hm:=Be bk;generalize row[j]=v at hx hm;obtain⟨b1,YM,c1,Bf,_,_,rfl,_,Fg⟩:=aD.later dt sA hx;have r1:=Fg h' D.g 0 2 ag;obtain⟨b2,YN,c2,atX,_,_,⟨S,rfl,sS⟩,o2,Ha⟩:=aD.later okx Q ju;have G:=gx.trans g;have r2:∀w,ay aZ hy w->cD w b2 (YN+i) 1=some [.slice S.a S.l S.c]:=fun w g2=>by have:=Ha w g2 0 1 ag;simpa [-ax] using this
  have hSl:=aD.len sS;have hpx:ps[j]?=some ps[j]:=g_ ab;have Yd:=Be (l:=ps) (n:=j) ab;generalize ps[j]'ab=a at hpx Yd;obtain⟨ha0,han⟩:=(rw.row i ps ju).2 a Yd;obtain⟨a,rfl⟩:∃a':Nat,a=a':=⟨a.toNat,ab⟩;have Y:a<nb:=ab
  obtain⟨b3,axd,c3,hSa,_,_,rfl,o3,ajk⟩:=aD.later okx sS hpx;have r3:∀w,ay aZ hy w->cD w b3 (axd+j) 1=some [.int .i64 a]:=fun w g2=>by have:=ajk w g2 0 1 ag;simpa [-ax] using this
  obtain⟨xa,hxa⟩:=aV bs a;obtain⟨b4,axe,c4,fp,_,_,⟨P4,L4,T4,rfl,sP4,sL4,sT4⟩,o4,ajl⟩:=aD.later dt hB hxa;have r4:∀w,ay aZ h0 w->cD w b4 (axe+a*6+1) 1=some [.slice L4.a L4.l L4.c]:=fun w g2=>by have:=ajl w g2 1 1 ag;simpa [-ax] using this
  simp[-ax] at r1;simp at Zf q3;rw[Bf,ni] at Zf;rw[atX,atY] at q3;have gh:i<ah.length:=by rw[rw.len];exact avj
  have Z:=g.get C4 hI;have oI:=D.g.ok.cn Z;obtain⟨sP,J⟩:=D.hP;obtain⟨sC,N8⟩:=D.hC;have yQ:=N8;simp[WV] at yQ;have oP:=D.g.ok.cn J;have oC:=D.g.ok.cn N8;have ob2:=G.cn o2;have ob3:=G.cn o3;have ob4:=D.g.cn o4;have r2':=r2 h' G;have r3':=r3 h' G;have r4':=r4 h' D.g;have hjp:j<ps.length:=ab
  rw[hSl,hSa] at r2';rw[fp,dT,hbn] at yQ;simp[q1,q2,q3,q4,Zf,q39,H,bk,r1,gh,-ax,aH,cH,bw,aF Z,oI,oP,oC,ob2,ob3,ob4,r2',r3',r4',hjp,aQ,aF J,aF yQ,yQ,J,Y];refine cu.cut (fun h5=>ay aZ h' h5) ?_ ?_;exact((ay.refl D.g.ok).var _ _).tick;intro h5 g5;have F5:=D.ck g5;refine cu.call (V:=HA h5) (aj (IV F5 (hv v hm) Y L4.l)) ?_;rintro _ h6⟨g6,t,rfl⟩;cases t with
  |true=>
   simp[H,wj];refine⟨row.length-(j+1),ab,j+1,rfl,ab,?_,ae,(g.trans g5).trans g6⟩
   exact aq
  |false=>
   obtain⟨sR,Ex⟩:=(F5.ck g6).hR;have Ge:=(F5.g.trans g6);simp[q2,Ex];exact ret _ _ ⟨Ge.put ⟨_,Ex⟩ (.inl F.nR),⟨false,h6.clock,ae⟩,au q2⟩
 .have:j=row.length:=ab
  subst this;simp[q39,H];exact K _ _ g (I.set)
def as3(h:az)(k:Nat)(e:Env)(m:Nat)(e':Env)(h':az):Prop:=
 ∃j:Nat,m=k-j/\j<=k/\aM [7,33,34,35,36,37,38,39,68,8,9,10,40,41,42,43,44,45,46,47,48,49,50,51,52,53,54,55,56,57,58,59,60,61,62,63,64,65,66,67] e e'/\bJ e' 33 j/\ay aZ h h'
def aM.cY{l a:List Nat}{e e':Env}(K:aM l e e')(h:∀t∈l,t∈a:=by decide):aM a e e':=fun t m=>K t (fun h'=>m (h t h'))
def ZZ(dt:cr h0)(F:UF h0 h C W n wc d nb Pb R name p r B)(hB:qg h0 B bs)(hbn:bs.length=nb)(okx:cr hy)(gx:ay aZ hy h)(V:aD (lsR hy) 1 hy AH.v ah)(rw:EF nb ah)(ju:ah[i]?=some ps)(hI:fC h I4 [.int .i64 i] s4){P:SV}{a:List GP}(hP:aD (pR h0) 2 h0 P.v a)(wg:a.length<1000000)(fO:∀q∈a,q.row.length=ps.length/\∀v∈q.row,Dc n v)(f1:cm e 1 Pb)(f2:cm e 2 R)(f3:bH e 3=AH.v)(f4:cm e 4 I4)(O:bH e 31=P.v)(J:bJ e 32 a.length)(Z:bJ e 33 0)(ret:∀G h',aaO h0 R G h'->QQ .ret G h')(K:∀G h',ay aZ h h'->aM [7,33,34,35,36,37,38,39,68,8,9,10,40,41,42,43,44,45,46,47,48,49,50,51,52,53,54,55,56,57,58,59,60,61,62,63,64,65,66,67] e G->QQ (.exit 2) G h'):aO FF (.loop j_) e h QQ:=by
 have gY:=aD.len hP;have C4:=F.g.ok;refine aO.loop (as3 h a.length e) ?_ (n:=a.length) ⟨0,rfl,ab,aM.refl _ _,Z,.refl C4⟩;rintro m G h'⟨j,rfl,hj,w,D,g⟩;have Q:=F.ck g;have q1:=w.at f1;have q2:=w.at f2;have q3:=w.at f3;have q4:=w.at f4;have l:=w.at O;have H:=w.at J;unfold j_;by_cases bk:j<a.length
 .have wj:=cg ((j:Int)+1) ab ab;have hx:a[j]?=some a[j]:=g_ bk;have hm:=Be bk;generalize a[j]=q at hx hm;obtain⟨hql,Y⟩:=fO q hm;obtain⟨b1,YM,c1,kB,_,_,⟨A,rfl,sA⟩,_,Fg⟩:=aD.later dt hP hx;have r1:=Fg h' Q.g 0 2 ag;have ni:=aD.len sA;have:=(rw.row i ps ju).1;simp[-ax] at r1;simp at l;rw[kB,gY] at l;simp[l,H,D,bk,r1,-ax,aH];refine aO.cut (fun h1=>ay aZ h' h1) ((ay.refl Q.g.ok).var _ _) ?_;intro h5 g5;have F5:=Q.ck g5;have I:=g.trans g5;refine adW dt F5 hB hbn okx (gx.trans I) V rw sA Y ab ju hql (I.get C4 hI) (au q1) (au q2) (au q3) (au q4) ae (au ni) ae ?_ ?_
  intro e6 h6 hr;simp;exact ret _ _ hr
  .intro e6 h6 g6 K6;have k33:=K6.at (t:=33) (ak D);simp[k33,wj];refine⟨a.length-(j+1),ab,j+1,rfl,ab,?_,ae,I.trans g6⟩;refine aM.set (aM.set (aM.trans ?_ (K6.cY)))
   exact aq
 .have:j=a.length:=ab
  subst this;simp[H,D];exact K _ _ g (w.set)
end
section
variable{h0:az}{C W n wc d nb Pb R:Nat}{name:ByteArray}{p r:Int}{B:SV}
def as1(h:az)(k:Nat)(e:Env)(m:Nat)(e':Env)(h':az):Prop:=
 ∃j:Nat,m=k-j/\j<=k/\aM [11,12,13,72,73,74,75,76,77,78,86] e e'/\bJ e' 72 j/\ay aZ h h'
def ZY(dt:cr h0)(F:UF h0 h C W n wc d nb Pb R name p r B)(hi:i<nb)(hI:fC h I4 [.int .i64 i] s4){xs:List GI}(hL:aD (iR h0) 8 h0 L.v xs)(Ki:xs.length<1000000)(fO:∀x∈xs,x.args.length<2000000/\∀v∈dH x,Dc n v)(f1:cm e 1 Pb)(f2:cm e 2 R)(f4:cm e 4 I4)(J:bH e 70=L.v)(Q:bJ e 71 xs.length)(f72:bJ e 72 0)(ret:∀D h',aaO h0 R D h'->QQ .ret D h')(K:∀D h',ay aZ h h'->aM [11,12,13,72,73,74,75,76,77,78,86] e D->QQ (.exit 6) D h'):aO FF (.loop j8) e h QQ:=by
 have jt:=aD.len hL;have C4:=F.g.ok;refine aO.loop (as1 h xs.length e) ?_ (n:=xs.length) ⟨0,rfl,ab,aM.refl _ _,f72,.refl C4⟩;rintro m D h'⟨j,rfl,hj,w,l,g⟩;have Z:=F.ck g;have q1:=w.at f1;have q2:=w.at f2;have q4:=w.at f4;have a:=w.at J;have H:=w.at Q;unfold j8;by_cases bk:j<xs.length
 .have wj:=cg ((j:Int)+1) ab ab;have hx:xs[j]?=some xs[j]:=g_ bk;have hm:=Be bk;generalize xs[j]=x at hx hm;obtain⟨x5,hv⟩:=fO x hm;obtain⟨b1,YM,c1,SM,_,_,⟨A,rfl,sA⟩,o1,Fg⟩:=aD.later dt hL hx;have r1:=Fg h' Z.g 0 8 ag;have ob1:=Z.g.cn o1;simp[aJ,-ax] at r1;simp at a;rw[SM,jt] at a;simp[a,H,l,bk,r1,-ax,aH,bw,cH,ob1];refine bm.cut (fun h1=>ay aZ h' h1/\dg h1 h'.aw [.int .i64 j]) ?_ ?_
  .refine⟨?_,⟨h'.clock,ae⟩⟩
   repeat (first|exact .refl Z.g.ok|apply ay.new|refine ay.put ?_ ae ae)
  rintro G⟨g5,s6,Y⟩;have O:=g.trans g5;refine bm.call (V:=fun v h'=>v=.func (.func 192) #[] #[.pointer (some ⟨G.aw,0,none⟩)]/\h'=aK G (fN x A) 0) (by simpa [fN,aJ] using FG G x A) ?_;rintro _ h6⟨rfl,e6⟩;have g6:ay aZ G h6:=by rw[e6];exact aN O.ok _ _
  have po:dg h6 G.aw (fN x A):=⟨0,by rw[e6];exact bz _ _ _⟩;clear e6;have I:=O.trans g6;have hJ6:=g6.get O.ok Y;have hI6:=I.get C4 hI;simp;refine Z0 dt (F.ck I) po sA x5 hv hI6 hJ6 hi (au q1) (au q2) (au q4) ae ae ?_ ?_
  intro h7 hr;simp;exact ret _ _ hr
  .intro h7 g7;simp[l,wj];refine⟨xs.length-(j+1),ab,j+1,rfl,ab,?_,ae,I.trans g7⟩
   exact aq
 .have:j=xs.length:=ab
  subst this;simp[H,l];exact K _ _ g (w.set)
structure Te(n:Nat)(ah:List (List Int))(bs:List GB):Prop where
 ph:∀(i:Nat) b,bs[i]?=some b->b.bD.length<1000000/\∀ps,ah[i]?=some ps->∀q∈b.bD,q.row.length=ps.length/\∀v∈q.row,Dc n v
 li:∀b∈bs,b.list.length<1000000/\∀x∈b.list,x.args.length<2000000/\∀v∈dH x,Dc n v
 on:∀b∈bs,Dc n b.on
def as4(h:az)(C W n wc d nb Pb R:Nat)(B AH:SV)(k:Nat)(m:Nat)(e':Env)(h':az):Prop:=
 ∃j:Nat,m=k-j/\j<=k/\cm e' 1 Pb/\cm e' 2 R/\bH e' 3=AH.v/\bH e' 23=B.v/\bJ e' 24 k/\bJ e' 25 j/\ay aZ h h'
def aaB(h:az)(v:Value)(h':az):Prop:=ay aZ h h'/\∃t:Bool,v=.bool t
def ZX(l:cr h0)(hB:qg h0 B bs)(E:jB bs)(Z:bs.length=nb)(O:Te n (Edge.dO (cw bs)) bs){ws:List (Int×Int)}(hC:fC h0 C (WV name p r B ⟨some ⟨d,0,none⟩,nb,nb⟩ ⟨some ⟨W,0,none⟩,n,wc⟩) s1)(hW:fC h0 W (v7.flat ws) s2)(hl:ws.length=n)(hd:fC h0 d (encI.flat us) s3)(hU:Tree.Xf us nb)(hn:n<1000000):bc FF 89 [.pointer (some ⟨C,0,none⟩)] h0 (aaB h0):=by
 have dT:=aD.len hB;have lh:=E.len;have RW:=VW E;rw[Z] at RW;have oC:=l.cn hC;have N8:=hC;simp[WV] at N8;refine bc.of Cc ?_;unfold tJ;simp[N8,oC];refine bm.cut (fun h1=>UF h0 h1 C W n wc d nb h0.aw (h0.aw+1) name p r B) ?_ ?_
 have g:ay aZ h0 (aK (aK h0 [.pointer (some ⟨C,0,none⟩)] 0) [.bool false] 0):=((ay.refl l).new _ _).new _ _;exact⟨g,⟨s1,g.get l hC⟩,⟨ws,s2,g.get l hW,hl⟩,⟨us,s3,g.get l hd,hU⟩,⟨0,ae⟩,⟨0,ae⟩,ab,ab,hn⟩;intro h1 F1;refine bm.call (V:=fun v h'=>ay aZ h1 h'/\∃d ws,v=.slice (some ⟨d,0,none⟩) bs.length bs.length/\mz encI h1.aw h' d ws (Edge.dO (cw bs))) (by simpa [aC,dT] using qG F1.g.ok (name:=name) (p:=p) (r:=r) (hB.mono l F1.g) E) ?_;rintro _ h2⟨g2,d8,wss,rfl,w8⟩;have H:=F1.ck g2;obtain⟨sP,hP2⟩:=H.hP;obtain⟨sC,yQ⟩:=H.hC;simp[WV] at yQ;have J:=VU (c:=bs.length) w8;have auU:(Edge.dO (cw bs)).length=bs.length:=by rw[Edge.mA];simp[cw]
 rw[auU] at J;simp[hP2,yQ];refine aO.loop (as4 h2 C W n wc d nb h0.aw (h0.aw+1) B ⟨some ⟨d8,0,none⟩,bs.length,bs.length⟩ bs.length) ?_ (n:=bs.length) ⟨0,rfl,ab,ae,ae,ae,ae,au dT,ae,.refl H.g.ok⟩;rintro m e' h'⟨j,rfl,hj,q1,q2,q3,Zd,F,G,g⟩;have I:=H.ck g;have ret:∀e' h',aaO h0 (h0.aw+1) e' h'->C9 [.cell 2 none] (aaB h0) .ret e' h':=by rintro e' h'⟨gr,⟨t,s,Y⟩,er⟩;simp[er,Y];exact⟨gr,t,rfl⟩
 unfold qL;by_cases bk:j<bs.length
 .have wj:=cg ((j:Int)+1) ab ab;have hx:bs[j]?=some bs[j]:=g_ bk;have hm:=Be bk;generalize bs[j]=x at hx hm;obtain⟨b1,YM,c1,fp,_,_,⟨P,L,T,rfl,sP,sL,sT⟩,o1,Fg⟩:=aD.later l hB hx;have r1:=Fg h' I.g 0 6 ag;have ob1:=I.g.cn o1;have gY:=aD.len sP;have jt:=aD.len sL;obtain⟨ps,ju⟩:=aV (Edge.dO (cw bs)) j;obtain⟨avR,avS⟩:=O.ph j x hx;obtain⟨avu,avv⟩:=O.li x hm;simp[-ax] at r1;simp at Zd;rw[fp,dT] at Zd;simp[Zd,F,G,bk,r1,-ax,aH,bw,cH,ob1];refine aO.cut (fun h1=>ay aZ h' h1/\(dg h1 h'.aw [.int .i64 j])/\dg h1 (h'.aw+1) [P.v,L.v,.int .i64 x.kind,.bool x.on.1,.int .i64 x.on.2,T.v]) ?_ ?_
  .refine⟨?_,⟨h'.clock,ae⟩,⟨h'.clock+1,ae⟩⟩
   repeat (first|exact .refl I.g.ok|apply ay.new|refine ay.put ?_ ae ae)
  rintro h5⟨g5,⟨s5,K⟩,s6,oJ⟩;have DJ:=g.trans g5;have F5:=H.ck DJ;refine ZZ l F5 hB Z H.g.ok DJ J RW ju K sP avR (avS ps ju) (au q1) (au q2) (au q3) ae ae (au gY) ae ?_ ?_
  intro e6 h6 Y;simpa using ret _ _ Y;intro e6 h6 g6 D;have Q:=g6.get DJ.ok K;have po:=g6.get DJ.ok oJ;have k1:=D.at (t:=1) (ak q1);have k2:=D.at (t:=2) (ak q2);have k3:=D.at (t:=3) (ak q3);have k4:cm e6 4 h'.aw:=D.at ae;have k5:cm e6 5 (h'.aw+1):=D.at ae;have k23:=D.at (t:=23) (ak Zd);have k24:=D.at (t:=24) (ak F);have k25:=D.at (t:=25) (ak G);simp at po;simp[k5,po];have F6:=F5.ck g6;refine ZY l F6 ab Q sL avu avv (au k1) (au k2) (au k4) ae (au jt) ae ?_ ?_
  intro e7 h7 Y;simpa using ret _ _ Y;intro e7 h7 g7 w;have hI7:=g7.get F6.g.ok Q;have LZ:=g7.get F6.g.ok po;have F7:=F6.ck g7;obtain⟨sP7,XT⟩:=F7.hP;have m1:=w.at (t:=1) (ak k1);have m2:=w.at (t:=2) (ak k2);have m3:=w.at (t:=3) (ak k3);have m4:cm e7 4 h'.aw:=w.at (ak k4);have m5:cm e7 5 (h'.aw+1):=w.at (ak k5);have m23:=w.at (t:=23) (ak k23);have m24:=w.at (t:=24) (ak k24);have m25:=w.at (t:=25) (ak k25);simp[m1,m4,m5,hI7,LZ,XT];refine bm.call (V:=HA h7) (aj (IV F7 (O.on x hm) (i:=j) ab L.l)) ?_;rintro _ h8⟨g8,t,rfl⟩;have F8:=F7.ck g8;cases t with
  |true=>
   simp[m25,wj];exact⟨bs.length-(j+1),ab,j+1,rfl,ab,au m1,au m2,au m3,by simp[m23,fp,dT],by simp[m24],ae,(((g.trans g5).trans g6).trans g7).trans g8⟩
  |false=>
   obtain⟨sR,a⟩:=F8.hR;simp[m2,a];exact⟨F8.g.put ⟨_,a⟩ (.inl F8.nR),false,rfl⟩
 .have:j=bs.length:=ab
  subst this;obtain⟨sR,a⟩:=I.hR;simp[F,G,q2,a];exact⟨I.g.put ⟨_,a⟩ (.inl I.nR),true,rfl⟩
end
def C7(bs:List GB):Prop:=bs.length<=(uy bs).length
def al1(bs:List GB)(h:az)(v:Value)(h':az):Prop:=ay aZ h h'/\∃c:Int,v=.int .i64 c/\(c=0->C7 bs/\(bs.flatMap qF).Nodup)
def ND(K:cr h){name:ByteArray}(hB:qg h B bs)(E:jB bs)(h0:0<bs.length)(D:Tb n bs)(O:Te n (Edge.dO (cw bs)) bs)(hp:pn<=n)(hn:n<1000000):bc FF 35 [.agg ⟨aC name pn n B⟩] h (al1 bs h):=by
 have dT:=aD.len hB;have lh:=E.len;refine bc.of KC ?_;unfold BC;simp[aC];have g0:ay aZ h (tick (aK h (aC name pn n B) 0)):=(aN K _ _).tick;refine cu.cut (fun h1=>ay aZ h h1/\h1.tr.get h.aw=some (.bZ (aC name pn n B) false 0 0)/\h1.tr.get (h.aw+1)=some (.bZ [.int .i64 (-1),.int .i64 (-1)] false 0 0)) ?_ ?_
 simp[aC] at g0;exact⟨g0.new _ _,by simp[aC],ae⟩;rintro h1⟨J,yD,hW1⟩;refine cu.call (V:=agB h1 bs.length) (by simpa [aC] using ZV J.ok (name:=name) (p:=pn) (r:=n) (hB.mono K J) E h0) ?_;rintro _ h2⟨g2,up,us,s2,rfl,hup,EZ,hUp⟩;have jz:=g2.get J.ok yD;simp[aC] at jz;have G:=g2.get J.ok hW1;simp[jz,G];have F:=J.trans g2;refine cu.call (V:=fun v h'=>ay aZ h2 h'/\∃d s,v=.slice (some ⟨d,0,none⟩) n n/\h2.aw<=d/\h'.tr.get d=some (.bZ (v7.flat (List.replicate n (-1,-1))) false 0 s)) (aj (adr F.ok n hn (x:=(-1,-1)) G)) ?_;rintro _ Q⟨g3,W,s3,rfl,zF,Z⟩;have a:=F.trans g3;have uT:=g3.get F.ok jz;have Hm:=g3.get F.ok EZ;have oF3:=a.ok.cn uT;simp[uT,oF3];refine cu.cut (fun H=>ay aZ Q H/\dg H Q.aw (WV name pn n B ⟨some ⟨up,0,none⟩,bs.length,bs.length⟩ ⟨some ⟨W,0,none⟩,n,n⟩)) ?_ ?_
 exact⟨((ay.refl a.ok).new _ _).tick,0,by simp[WV]⟩;rintro H⟨g4,s4,hC4⟩;have m:=a.trans g4;have BH:=g4.get a.ok uT;have hW4:=g4.get a.ok Z;have XU:=g4.get a.ok Hm;refine cu.call (V:=fun v h'=>ay aZ H h'/\∃L:SV,v=L.v/\bu encI H.aw h' L.v (uy bs)) (by simpa [aC] using MK m.ok (name:=name) (p:=pn) (r:=n) (hB.mono K m) E h0) ?_;rintro _ h5⟨Y,L,rfl,hA⟩;have u3:=m.trans Y;have TV:=Y.get m.ok BH;have hW5:=Y.get m.ok hW4;have hU5:=Y.get m.ok XU;have hC5:=Y.get m.ok hC4;have jt:L.l=(uy bs).length:=by rcases hA with⟨e,I⟩|⟨_,_,I,_⟩;simp at I;rw[e,I.2.1];rfl;simp at I;exact I.2.1
 have lW:W<Q.aw:=(a.ok.cn Z).lt;by_cases gX:(uy bs).length<bs.length;simp[TV,dT,jt,gX];exact⟨u3,5,rfl,fun h=>by cases h⟩
 .simp[TV,dT,jt,gX];have w:SC h h5 Q.aw W n n name pn n B ⟨some ⟨up,0,none⟩,bs.length,bs.length⟩ true []:=⟨u3,av F.aw,ab,⟨s4,hC5⟩,_,s3,hW5,ae,WOk.nil _ _⟩;refine bm.call (V:=amp h h5 Q.aw W n n name pn n B ⟨some ⟨up,0,none⟩,bs.length,bs.length⟩ bs) (aj (SD K hB D w rfl hp hn)) ?_;rintro _ h6⟨t,rfl,l,gw6⟩;cases t with
  |false=>
   simp;exact⟨l.g,7,rfl,fun h=>by cases h⟩
  |true=>
   simp;obtain⟨s6,hC6⟩:=l.hC;obtain⟨ws,s7,hW6,Pu,QO⟩:=l.hW;have lU:=(F.ok.cn EZ).lt;have hU6:=gw6.get u3.ok hU5 ab;refine bm.call (V:=aaB h6) (aj (ZX l.g.ok (hB.mono K l.g) E rfl O hC6 hW6 Pu hU6 hUp hn)) ?_;rintro _ h7⟨g7,t,rfl⟩;cases t with
   |false=>
    simp;exact⟨l.g.trans g7,6,rfl,fun h=>by cases h⟩
   |true=>
    simp;exact⟨l.g.trans g7,0,rfl,fun _=>⟨by unfold C7;omega,(QO rfl).1⟩⟩
def gM{b:GB}(h:b∈bs):b.bD.length+b.list.length<=dp bs:=by
 induction bs with
 |nil=>simp at h
 |cons x bs a=>
  simp only[dp];rcases List.mem_cons.1 h with rfl|h;omega;have:=a h;omega
def Wy{aB:Int}{x:GI}(h:vd aB x):x.dst= -1\/yy aB x.dst:=by
 have l:=h.form;unfold cJ at l;cases m:(dK x.op).1 with
 |false=>
  rw[m] at l;simp at l;exact .inl l.1
 |true=>
  by_cases a:x.op=20/\x.dst= -1;exact .inl a.2;exact .inr (h.dst m a)
def nj{aB:Int}{x:GI}(h:vd aB x):qp aB x.args/\x.args.length<=6:=by
 by_cases a:x.op=20;exact h.args a
 .have l:=h.form;unfold cJ at l;have m:(x.op==20)=false:=aj a
  rw[m] at l;simp at l;have:x.args=[]:=Wg (by have:=l.2.2.2.2;simp[this]);rw[this];exact⟨qp.nil _,ae⟩
def QU{aB:Int}{x:GI}(h:vd aB x):qp aB x.args:=(nj h).1
def BV{aB:Int}{v:Bool×Int}(h:vh aB v):Dc aB.toNat v:=by intro h1;have:=h h1;omega
def QV{aB:Int}{x:GI}(h:vd aB x):∀v∈dH x,vh aB v:=by intro v a;unfold dH at a;rcases jS.1 a with a|a;split at a;simp at a;subst a;exact h.a;cases a;rcases jS.1 a with a|a;split at a;simp at a;subst a;exact h.b;cases a;exact QU h v a
structure eH(f:GF):Prop where
 head:BR f
 body:EE f.aB f.blocks
 sm:∀b∈f.blocks,xK b
def eH.ends{f:GF}(F:eH f):jB f.blocks:=F.body.ends.ends (av F.head.blocks)
def eH.atD{f:GF}(F:eH f):Tb f.aB.toNat f.blocks:=by
 have hb:=F.head.blocks;have G:=F.head.many;refine⟨ab,fun b hb=>⟨av (gM hb),fun q w=>?_⟩,fun b hb=>⟨av (gM hb),fun x D=>?_⟩⟩
 obtain⟨i,a⟩:=iI hb;obtain⟨_,l,_,m⟩:=(F.body.AF i b a).bD q w;have:=m.dst;unfold yy at this;omega
 .obtain⟨i,a⟩:=iI hb;have H:=F.head.aB;have m:=F.head.params;rcases Wy ((F.body.AF i b a).list x D) with h|h
  omega;unfold yy at h;omega
def eH.ZW{f:GF}(F:eH f):Te f.aB.toNat (Edge.dO (cw f.blocks)) f.blocks:=by
 have J:=F.head.many;refine⟨fun i b hb=>⟨av (gM (cN hb)),fun ps w q H=>?_⟩,fun b hb=>⟨av (gM hb),fun x G=>?_⟩,fun b hb=>?_⟩;obtain⟨_,l,I,m⟩:=(F.body.AF i b hb).bD q H;rw[I] at w;cases w;exact⟨m.len,fun v a=>BV (m.row v a)⟩;obtain⟨i,D⟩:=iI hb;have:=(nj ((F.body.AF i b D).list x G)).2;exact⟨ab,fun v a=>BV (QV ((F.body.AF i b D).list x G) v a)⟩
 intro h1;have:=(F.body.ends b hb).on h1;omega
structure Bs(u:GU):Prop where
 unit:HH u
 form:∀f∈u.funcs,eH f
 seen:∀f∈u.funcs,C7 f.blocks
 once:∀f∈u.funcs,(f.blocks.flatMap qF).Nodup
def Bs.of(U:HH u)(l:EG u)(S:∀f∈u.funcs,C7 f.blocks/\(f.blocks.flatMap qF).Nodup):Bs u:=⟨U,fun f a=>⟨U.head f a,U.body f a,l.bs f a⟩,fun f a=>(S f a).1,fun f a=>(S f a).2⟩
def asQ(h0 h:az)(R:Nat)(F:SV)(fs:List GF)(m:Nat)(e:Env)(h':az):Prop:=
 ∃j:Nat,m=fs.length-j/\j<=fs.length/\cm e 2 R/\bH e 14=F.v/\bJ e 15 fs.length/\bJ e 16 j/\ay aZ h h'/\∀f∈fs.take j,C7 f.blocks/\(f.blocks.flatMap qF).Nodup
def GA(J:cr h)(hw:GR h){G F:SV}(hu:uR h G F u)(sm:EG u):bc FF 13 [.agg ⟨[G.v,F.v]⟩] h (xJ (Bs u) h):=by
 have wJ:=aD.len hu.2;refine bc.of PX ?_;unfold FV;simp;refine bm.cut (fun h1=>ay aZ h h1/\h1.tr.get h.aw=some (.bZ [G.v,F.v] false 0 0)/\h1.tr.get (h.aw+1)=some (.bZ [.int .i64 0,.int .i64 0] false 0 0)) ?_ ?_;exact⟨((ay.refl J).new _ _).new _ _,ae,ae⟩;rintro h1⟨I,hU1,Bg⟩;refine bm.call (V:=xJ (HH u) h1) (aj (Ts I.ok (hw.grow J I) (hu.mono J I) sm)) ?_;rintro _ h2⟨l,c,a,rfl,H⟩;have jC:=I.trans l;have EZ:=l.get I.ok hU1;have w_:=l.get I.ok Bg;simp at EZ;have w:=l.ok.cn w_;have oU2:=l.ok.cn EZ;rcases H with H|⟨rfl,rfl,K⟩
 .have Pn:(c==0)=false:=aj H
  simp[Pn,w_,w,aH,-ax];refine⟨ay.put (jC.var _ _) ⟨0,?_⟩ (.inl ab),c,a,rfl,.inl H⟩;rw[Iu,bU (av w.lt),Is w,w_]
 simp[EZ,oU2];refine aO.cut (fun h3=>ay aZ h2 h3) ?_ ?_;exact(ay.refl l.ok).var _ _;intro h3 g3;have ef:=jC.trans g3;have S:=K;refine aO.loop (asQ h h3 (h.aw+1) F u.funcs) ?_ (n:=u.funcs.length) ⟨0,rfl,ab,ae,ae,au wJ,ae,.refl ef.ok,fun f hf=>by simp at hf⟩;rintro m e h'⟨j,rfl,hj,q2,xy,yV,Fv,g,hA⟩;have Q:=ef.trans g;have hR:=(g3.trans g).get l.ok w_;unfold BM;by_cases bk:j<u.funcs.length
 .have wj:=cg ((j:Int)+1) ab (av K.fn);have hx:u.funcs[j]?=some u.funcs[j]:=g_ bk;have hm:=Be bk;generalize u.funcs[j]=f at hx hm;have FO:eH f:=⟨K.head f hm,K.body f hm,sm.bs f hm⟩;have hd:=FO.head;obtain⟨b1,YM,c1,CZ,_,_,⟨B,rfl,sB⟩,o1,Fg⟩:=aD.later J hu.2 hx;have r1:=Fg h' Q 0 4 ag;simp[-ax] at r1;simp at xy;rw[CZ,wJ] at xy;have hp:=hd.params;have hr:=hd.aB;obtain⟨pn,Ws⟩:∃pn:Nat,f.params=pn:=⟨f.params.toNat,ab⟩;obtain⟨rn,hrn⟩:∃rn:Nat,f.aB=rn:=⟨f.aB.toNat,ab⟩;have D:=FO.atD;have O:=FO.ZW;have ern:f.aB.toNat=rn:=ab
  rw[ern] at D O;simp[xy,yV,Fv,bk,r1,-ax,aH];refine bm.cut (fun h1=>ay aZ h' h1) ((ay.refl Q.ok).var _ _) ?_;intro h5 g5;have Z:=Q.trans g5;rw[Ws,hrn];refine bm.call (V:=al1 f.blocks h5) (by simpa [aC] using ND Z.ok (name:=f.name) (sB.mono J Z fun _ _ r=>r.mono J Z) FO.ends (av hd.blocks) D O ab ab) ?_;rintro _ h6⟨g6,c,rfl,H⟩;have Ex:=(g5.trans g6).get Q.ok hR;have Ge:=Z.trans g6;by_cases Gi:c=0
  subst Gi;simp[Fv,wj];refine⟨u.funcs.length-(j+1),ab,j+1,rfl,ab,au q2,by simp[xy,CZ,wJ],au yV,ae,(g.trans g5).trans g6,fun f' Pq=>?_⟩;rw[lg,hx] at Pq;rcases jS.1 Pq with h1|h1;exact hA f' h1;simp at h1;subst h1;exact H rfl
  .have hcn:(c !=0)=true:=aj Gi
   simp[hcn,Gi];refine bm.call (aj (j4 h6 Ge.ok c (j:Int))) ?_;rintro _ h7⟨rfl,g7⟩;have Y:=g7.get Ge.ok Ex;simp[q2,Y];exact⟨(Ge.trans g7).put ⟨_,Y⟩ (.inl ab),c,j,rfl,.inl Gi⟩
 .have:j=u.funcs.length:=ab
  subst this;rw[jT] at hA;simp[yV,Fv,q2,hR];exact⟨Q.put ⟨_,hR⟩ (.inl ab),0,0,rfl,.inr ⟨rfl,rfl,Bs.of K sm hA⟩⟩
def eo{α:Type}(E:Enc α)(h:az)(A:SV)(xs:List α):Prop:=
 A.l=xs.length/\((A.a=none/\A.c=0/\xs=[])\/∃b o s a,A.a=some ⟨b,0,none⟩/\A.c=xs.length+a.length/\h.tr.get b=some (.bZ (E.flat (xs++a)) false o s)/\(o=0\/o=E.sz))
section
variable{α:Type}{E:Enc α}{h h':az}{A:SV}{xs:List α}
def eo.len(w:eo E h A xs):A.l=xs.length:=w.1
def eo.nil(E:Enc α)(h:az):eo E h cK []:=⟨rfl,.inl ⟨rfl,rfl,rfl⟩⟩
def eY(h:A.a=some ⟨b,0,none⟩):bt A.v b:=⟨0,A.l,A.c,au h⟩
def BX{b a:Nat}(h:A.a=some ⟨b,0,none⟩)(k:bt A.v a):a=b:=by obtain⟨off,n,cap,e⟩:=k;simp[h] at e;exact e.1.1.symm
def Dw(h:A.a=none)(k:bt A.v b):False:=by obtain⟨off,n,cap,e⟩:=k;simp[h] at e
def eo.grow(w:eo E h A xs)(l:cr h)(g:ay S h h')(D:∀b,bt A.v b->¬S b):eo E h' A xs:=by obtain⟨m,w⟩:=w;refine⟨m,?_⟩;rcases w with w|⟨b,o,s,F,ha,G,hb,a⟩;exact .inl w;exact .inr ⟨b,o,s,F,ha,G,g.get l hb (D b (eY ha)),a⟩
def eo.ck(w:eo E h A xs)(a:cr h)(g:ay aZ h h'):eo E h' A xs:=w.grow a g ai
def eo.sl(w:eo E h A xs):bj E h A.v xs:=by obtain⟨a,w⟩:=w;refine⟨A.a,A.c,au a,?_⟩;rcases w with⟨ha,_,rfl⟩|⟨b,o,s,l,ha,m,hb,D⟩;exact .inl ⟨rfl,.inl ha⟩;refine .inr ⟨b,0,_,_,_,_,ha,hb,?_,?_⟩;simp[uP];rw[List.drop_zero,E.iQ];simp
def eo.cn(w:eo E h A xs)(a:cr h)(k:bt A.v b):b<h.aw:=by obtain⟨m,w⟩:=w;rcases w with⟨ha,_⟩|⟨F,o,s,D,ha,G,hb,l⟩;exact(Dw ha k).elim;rw[BX ha k];exact a.wf _ _ hb
def Se(E:Enc α)(ys:List α)(i:Nat)(x y:α)(a:ys[i]?=some x)(k:Nat)(vs:List Value)(w:k+vs.length<=E.sz)(e:bg (E.enc x) k vs=E.enc y):bg (E.flat ys) (i*E.sz+k) vs=E.flat (ys.set i y):=by
 have l:=(di.mp a).1;rw[List.set_eq_take_append_cons_drop,bM l,E.d_,E.ij,<-e];unfold bg;have h1:(E.flat ys).take (i*E.sz+k)=E.flat (ys.take i)++(E.enc x).take k:=by rw[List.take_add,E.iQ];congr 1;rw[<-E.Ac ys i x a,List.take_take,Nat.min_eq_left ab]
 have m:(E.flat ys).drop (i*E.sz+k+vs.length)=(E.enc x).drop (k+vs.length)++E.flat (ys.drop (i+1)):=by rw[EV,<-List.drop_drop,E.mY,List.drop_eq_getElem_cons l,E.ij,List.drop_append,(di.mp a).2,E.len,show k+vs.length-E.sz=0 by omega,List.drop_zero]
 rw[h1,m];simp[G1]
def eo.el(w:eo E h A xs){x:α}(J:xs[i]?=some x):∃b F o s,A.a=some ⟨b,0,none⟩/\h.tr.get b=some (.bZ F false o s)/\i<A.l/\(∀k m,k+m<=E.sz->i*E.sz+k+m<=F.length)/\(∀k m,k+m<=E.sz->cD h b (i*E.sz+k) m=some (((E.enc x).drop k).take m))/\∀y k l,k+l.length<=E.sz->bg (E.enc x) k l=E.enc y->∀h1:az,(∃s,h1.tr.get b=some (.bZ (bg F (i*E.sz+k) l) false o s))->eo E h1 A (xs.set i y):=by
 obtain⟨V,w⟩:=w;have G:=(di.mp J).1;rcases w with⟨ha,_,rfl⟩|⟨b,o,s,D,ha,Y,hb,Q⟩
 simp at G
 .have I:(xs++D)[i]?=some x:=by rw[Iw G];exact J
  have H:∀k m,k+m<=E.sz->i*E.sz+k+m<=(E.flat (xs++D)).length:=by intro k m a;rw[E.dV,LV];have:(i+1)*E.sz<=(xs.length+D.length)*E.sz:=CX _ ab;rw[uP] at this;omega
  refine⟨b,_,o,s,ha,hb,ab,H,fun k m a=>?_,fun y k l K e h1 ⟨s1,O⟩=>⟨aj V,.inr ⟨b,o,s1,D,ha,aj Y,?_,Q⟩⟩⟩;rw[fD hb (H k m a),E.pW _ _ _ _ _ I a];rw[O,Se E _ _ _ _ I k l K e,List.set_append,bM G]
def JV(E:Enc α)(xs ys cj:List α)(h:ys.length<=cj.length):bg (E.flat (xs++cj)) (xs.length*E.sz) (E.flat ys)=E.flat ((xs++ys)++cj.drop ys.length):=by unfold bg;rw[E.iQ,E.dV,<-uP,E.mY];have:List.drop (xs.length+ys.length) xs=[]:=XH ab;simp[List.drop_append,this]
def BW{ys:List α}(F:cr h)(m:z.length=E.sz)(w:eo E h A xs)(hw:bj E h v ys)(hl:xs.length+ys.length<2000000)(yW:bytes<=1000):∃(H:SV) (h':az),fS h z bytes false A.v v=some (H.v,h')/\eo E h' H (xs++ys)/\ay (bt A.v) h h'/\(∀b,bt H.v b->bt A.v b\/b=h.aw)/\(A.c=A.l->H.c=H.l):=by
 have I:=E.pos;have x7:E.sz≠0:=ab
 have D:=w.1;unfold fS;rw[yj m hw];dsimp only;cases ys with
 |nil=>
  refine⟨A,h,?_,aj w,.refl F,fun b hb=>.inl hb,fun h=>h⟩;have:A.l<=A.c:=by rcases w.2 with⟨_,h2,rfl⟩|⟨_,_,_,a,_,h2,_⟩;rw[D];simp;omega
  simp[dy,m,I,this]
 |cons y ys=>
  have G:roomy (xs.length+(ys.length+1))=true:=by simp[roomy];simp at hl;omega
  have J:roomy ((xs.length+(ys.length+1))*bytes)=true:=by have:(xs.length+(ys.length+1))*bytes<=2000000*1000:=Nat.mul_le_mul (by simp at hl;omega) yW;simp[roomy];omega
  have Mg:(E.flat (y::ys)).length=(ys.length+1)*E.sz:=by rw[E.dV,List.length_cons]
  obtain⟨l,K⟩:∃l,l=E.flat (y::ys):=⟨_,rfl⟩;rw[<-K] at Mg⊢;rcases w.2 with⟨ha,O,rfl⟩|⟨b,o,s,a,ha,O,hb,Z⟩;refine⟨⟨some ⟨h.aw,0,none⟩,ys.length+1,ys.length+1⟩,aK h l E.sz,?_,⟨ae,.inr ⟨h.aw,E.sz,0,[],rfl,ae,?_,.inr rfl⟩⟩,(aN F _ _).ck,fun b hb=>.inr (BX rfl hb),fun _=>rfl⟩;simp only[List.length_nil,Hj] at G J D;simp[dy,m,I,G,J,ha,O,D];rw[bz,K];simp
  .have V:(E.flat (xs++a)).take (xs.length*E.sz)=E.flat xs:=by rw[E.iQ];simp
   by_cases Q:xs.length+(ys.length+1)<=A.c
   .have dQ:xs.length*E.sz+(ys.length+1)*E.sz<=(xs.length+a.length)*E.sz:=by rw[<-uP];exact CX _ ab
    refine⟨⟨A.a,xs.length+(ys.length+1),A.c⟩,put h b (xs.length*E.sz) (E.flat (xs++a)) l o,?_,⟨ae,.inr ⟨b,o,h.clock,a.drop (ys.length+1),ha,by simp;omega,?_,Z⟩⟩,?_,?_,fun h=>ab⟩;simp[dy,m,I,G,J,ha,D,Q,hb,Mg];have Ma:(ys.length+1)*E.sz<=a.length*E.sz:=CX _ ab;rw[bM Ma]
    rw[aP,K,JV E xs (y::ys) a (by simp;omega)];rfl;exact(aY F hb).cY (fun x _ e=>e▸eY ha);intro b' ia;have:=BX (A:=⟨A.a,xs.length+(ys.length+1),A.c⟩) ha ia;exact .inl (this▸eY ha)
   .have ahd:((E.flat (xs++a)).drop 0).take (xs.length*E.sz)=E.flat xs:=by rw[List.drop_zero,V]
    have Wm:E.flat xs++l=E.flat (xs++y::ys++[]):=by rw[K,Bc,E.d_]
    rcases Z with rfl|rfl;refine⟨⟨some ⟨h.aw,0,none⟩,xs.length+(ys.length+1),xs.length+(ys.length+1)⟩,aK h (E.flat xs++l) E.sz,?_,⟨ae,.inr ⟨h.aw,E.sz,0,[],rfl,ae,?_,.inr rfl⟩⟩,(aN F _ _).ck,fun b hb=>.inr (BX rfl hb),fun _=>rfl⟩;simp[dy,m,I,G,J,ha,D,Q,hb,V];rw[bz,Wm]
    .refine⟨⟨some ⟨h.aw,0,none⟩,xs.length+(ys.length+1),xs.length+(ys.length+1)⟩,aK {h with tr:=h.tr.del b} (E.flat xs++l) E.sz,?_,⟨ae,.inr ⟨h.aw,E.sz,0,[],rfl,ae,?_,.inr rfl⟩⟩,?_,fun b hb=>.inr (BX rfl hb),fun _=>rfl⟩
     .have Gj:A.c*E.sz=(xs.length+a.length)*E.sz:=by rw[O]
      simp[dy,m,I,G,J,ha,D,Q,hb,V,x7];intro Y;have:Nat.beq (A.c*E.sz) (xs.length*E.sz+a.length*E.sz)=true:=by rw[Gj,uP];exact Nat.beq_refl _
      rw[this] at Y;cases Y
     have:=bz {h with tr:=h.tr.del b} (E.flat xs++l) E.sz;rw[<-Wm];exact this;refine((ir F b).cY ?_).trans (aN (ir F b).ok _ _).ck;rintro x _ rfl;exact eY ha
end
def LF(z:List Value)(bytes:Nat):aG:=(G_ [o_ 2 (.mv (.const (.slice none 0 0)))] (J_ (G_ [m_ 3 0,o_ 4 (.bin .eql [3] (t_ 3) (.const (.slice none 0 0)))] (I_ 4 (G_ [o_ 2 (.mv (.const (.slice none 0 0)))] .ret) .skip)) (G_ [o_ 5 (.fm 0 [] []),m_ 6 0,o_ 7 (.append z bytes false (t_ 5) (t_ 6)),m_ 2 7] .ret)))
def jV{α:Type}(E:Enc α)(h:az)(xs:List α)(r:Value)(h':az):Prop:=ay aZ h h'/\∃w:SV,r=w.v/\eo E h' w xs/\(∀b,bt w.v b->h.aw<=b)/\w.c=w.l
def kC(E:Enc α){f bytes:Nat}(Y:FF f=some ⟨[.tmp 2],LF z bytes,.no⟩)(Q:z.length=E.sz)(yW:bytes<=1000)(D:cr h){v:SV}{xs:List α}(F:bj E h v.v xs)(V:xs.length<2000000):bc FF f [v.v] h (jV E h xs):=by
 have hp:=E.pos;have H:v.l=xs.length:=by obtain⟨a,cap,e,_⟩:=F;simp at e;exact e.2.1
 refine bc.of Y ?_;unfold LF;cases ha:v.a with
 |none=>
  have I:xs=[]:=by obtain⟨a,cap,e,l⟩:=F;simp[ha] at e;rcases l with l|⟨b,off,cs,ro,o,st,K,_⟩;exact l.1;rw[K] at e;simp at e
  subst I;simp[ha];exact⟨.refl D,cK,rfl,eo.nil E h,fun b hb=>(Dw rfl hb).elim,rfl⟩
 |some a0=>
  have g0:=aN D [] 0;have Z:eo E (aK h [] 0) ⟨some ⟨h.aw,0,none⟩,0,0⟩ ([]:List α):=⟨rfl,.inr ⟨h.aw,0,0,[],rfl,rfl,bz _ _ _,.inl rfl⟩⟩;obtain⟨O,h',G,J,gA,m,w⟩:=BW (bytes:=bytes) g0.ok Q Z (F.ck D g0) (aj V) yW;have hh:=G;simp[ha,H] at G;simp[ha,H];refine cR G ?_;simp;refine⟨g0.trans' gA ai (fun x I e=>av (BX rfl e)),O,ae,aj J,fun b hb=>?_,w rfl⟩;rcases m b hb with h|h
  rw[BX rfl h];exact fh _;rw[h];simp
structure XI where
 op:Int
 dst:Int
 a:Bool×Int
 b:Bool×Int
 fn:Int
 args:SV
structure XR where
 P:SV
 L:SV
 T:SV
 kind:Int
 on:Bool×Int
 ps:List (Int×SV)
 ls:List XI
 ts:List Int
def cC:Enc (Bool×Int):=⟨fun x=>[.bool x.1,.int .i64 x.2],2,fun _=>rfl,ag,fun _=>rfl⟩
@[simp] def vq:cC.sz=2:=rfl
@[simp] def wW(x:Bool×Int):cC.enc x=[.bool x.1,.int .i64 x.2]:=rfl
def aia:Enc (Int×SV):=⟨fun x=>[.int .i64 x.1,x.2.v],2,fun _=>rfl,ag,fun _=>rfl⟩
@[simp] def aqj:aia.sz=2:=rfl
@[simp] def amJ(x:Int×SV):aia.enc x=[.int .i64 x.1,x.2.v]:=rfl
def aic:Enc XI:=⟨fun x=>[.int .i64 x.op,.int .i64 x.dst,.bool x.a.1,.int .i64 x.a.2,.bool x.b.1,.int .i64 x.b.2,.int .i64 x.fn,x.args.v],8,fun _=>rfl,ag,fun _=>rfl⟩
@[simp] def aqo:aic.sz=8:=rfl
@[simp] def amR(x:XI):aic.enc x=[.int .i64 x.op,.int .i64 x.dst,.bool x.a.1,.int .i64 x.a.2,.bool x.b.1,.int .i64 x.b.2,.int .i64 x.fn,x.args.v]:=rfl
def amL:Enc XR:=⟨fun x=>[x.P.v,x.L.v,.int .i64 x.kind,.bool x.on.1,.int .i64 x.on.2,x.T.v],6,fun _=>rfl,ag,fun _=>rfl⟩
@[simp] def aql:amL.sz=6:=rfl
@[simp] def amM(x:XR):amL.enc x=[x.P.v,x.L.v,.int .i64 x.kind,.bool x.on.1,.int .i64 x.on.2,x.T.v]:=rfl
def MH{α β:Type}{E:Enc β}{Q:β->α->Prop} :∀(xs:List α)(f:Nat->List Value),(∀(i:Nat)(x:α),xs[i]?=some x->∃y,f i=E.enc y/\Q y x)->∃ys:List β,ys.length=xs.length/\∀(i:Nat)(y:β)(x:α),ys[i]?=some y->xs[i]?=some x->f i=E.enc y/\Q y x
 |[],f,_=>⟨[],rfl,fun i y x h=>by simp at h⟩
 |x::xs,f,H=>by
  obtain⟨y,h1,m⟩:=H 0 x rfl;obtain⟨ys,l,w⟩:=MH xs (fun i=>f (i+1)) (fun i x a=>H (i+1) x a);refine⟨y::ys,au l,fun i D F hy a=>?_⟩;cases i with
  |zero=>simp at hy a;subst hy;subst a;exact⟨h1,m⟩
  |succ i=>exact w i D F hy a
def afb(E:Enc β)(cs:List Value):∀(ys:List β),(∀(i:Nat)(y:β),ys[i]?=some y->(cs.drop (i*E.sz)).take E.sz=E.enc y)->cs.take (ys.length*E.sz)=E.flat ys:=by
 intro ys;induction ys generalizing cs with
 |nil=>intro _;simp
 |cons y ys a=>
  intro H;have h0:=H 0 y rfl;rw[Nat.zero_mul,List.drop_zero] at h0;have h1:=a (cs.drop E.sz) (fun i z l=>by have:=H (i+1) z l;rw[uP,Nat.one_mul,Nat.add_comm] at this;rw[List.drop_drop];exact this)
  rw[List.length_cons,uP,Nat.one_mul,Nat.add_comm,List.take_add,h0,h1,E.ij]
def aD.pick{R:List Value->α->Prop}{E:Enc β}{Q:β->α->Prop}{xs:List α}(s:aD R E.sz h v xs)(F:∀c x,R c x->∃y,c=E.enc y/\Q y x):∃ys:List β,ys.length=xs.length/\bj E h v ys/\∀(i:Nat)(y:β)(x:α),ys[i]?=some y->xs[i]?=some x->Q y x:=by
 obtain⟨a,cap,rfl,s⟩:=s;rcases s with⟨rfl,s⟩|⟨b,off,w,ro,o,st,rfl,hb,D⟩;exact⟨[],rfl,⟨a,cap,rfl,.inl ⟨rfl,s⟩⟩,fun i y x h=>by simp at h⟩
 .obtain⟨ys,m,H⟩:=MH (E:=E) (Q:=Q) xs (fun i=>(w.drop (off+i*E.sz)).take E.sz) (fun i x l=>F _ _ (D i x l).2);refine⟨ys,m,⟨_,cap,by rw[m],?_⟩,fun i y x hy l=>(H i y x hy l).2⟩;rcases gp_ xs.length with h0|h0;exact .inl ⟨Wg ab,.inr ⟨b,off,rfl⟩⟩;refine .inr ⟨b,off,w,ro,o,st,rfl,hb,?_,?_⟩
  .rw[m];have:=(D (xs.length-1) _ (g_ ab)).1;rw[List.length_take,List.length_drop] at this;have G:=E.pos;have e:xs.length*E.sz=(xs.length-1)*E.sz+E.sz:=by rw[<-Nat.succ_mul];congr 1;omega
   rw[e];omega
  refine afb E (w.drop off) ys (fun i y hy=>?_);have I:=(di.mp hy).1;have l:xs[i]?=some xs[i]:=g_ ab;rw[List.drop_drop];exact(H i y _ hy l).1
def BP{xs:List (Bool×Int)}(s:aD vR 2 h v xs):bj cC h v xs:=by
 obtain⟨ys,w,m,H⟩:=aD.pick (E:=cC) (Q:=fun y x=>y=x) s (fun c x e=>⟨x,e,rfl⟩);have:ys=xs:=Cy fun i=>by
  rcases Gf i xs.length with l|l;have h1:xs[i]?=some xs[i]:=g_ l;have a:ys[i]?=some (ys[i]'ab):=g_ ab;rw[a,H i _ _ a h1,h1]
  rw[wY ab,wY ab]
 exact this▸m
structure InB(aB:Nat)(b:GB):Prop where
 lp:b.bD.length<1000000
 ll:b.list.length<1000000
 lt:b.to.length<1000000
 ph:∀p∈b.bD,(0<=p.dst/\p.dst<aB)/\p.row.length<2000000/\∀v∈p.row,Dc aB v
 li:∀x∈b.list,x.dst<aB/\Dc aB x.a/\Dc aB x.b/\x.args.length<2000000/\∀v∈x.args,Dc aB v
 on:Dc aB b.on
def Rh{xs:List Int}(s:aD nR 1 h v xs):bj encI h v xs:=by
 obtain⟨ys,w,m,H⟩:=aD.pick (E:=encI) (Q:=fun y x=>y=x) s (fun c x e=>⟨x,e,rfl⟩);have:ys=xs:=Cy fun i=>by
  rcases Gf i xs.length with l|l;have h1:xs[i]?=some xs[i]:=g_ l;have a:ys[i]?=some (ys[i]'ab):=g_ ab;rw[a,H i _ _ a h1,h1]
  rw[wY ab,wY ab]
 exact this▸m
def IZ{α β:Type}{Q:α->β->Prop} :∀(xs:List α),(∀x∈xs,∃y,Q x y)->∃ys:List β,ys.length=xs.length/\∀(i:Nat)(x:α)(y:β),xs[i]?=some x->ys[i]?=some y->Q x y
 |[],_=>⟨[],rfl,fun i x y h=>by simp at h⟩
 |x::xs,H=>by
  obtain⟨y,h1⟩:=H x (h_ ..);obtain⟨ys,l,m⟩:=IZ xs (fun x a=>H x (uQ _ a));refine⟨y::ys,au l,fun i D w a hy=>?_⟩;cases i with
  |zero=>simp at a hy;subst a;subst hy;exact h1
  |succ i=>exact m i D w a hy
def eo.view{E:Enc α}{R:List Value->β->Prop}{xs:List α}{ys:List β}(w:eo E h A xs)(a:ys.length=xs.length)(H:∀(i:Nat)(x:α)(y:β),xs[i]?=some x->ys[i]?=some y->R (E.enc x) y):aD R E.sz h A.v ys:=by
 obtain⟨hA,w⟩:=w;refine⟨A.a,A.c,by simp[hA,a],?_⟩;rcases w with⟨ha,_,rfl⟩|⟨b,o,s,m,ha,F,hb,_⟩;exact .inl ⟨Wg a,.inl ha⟩
 .refine .inr ⟨b,0,_,_,_,_,ha,hb,fun i y hy=>?_⟩;have G:=(di.mp hy).1;have l:xs[i]?=some (xs[i]'ab):=g_ ab;have D:(xs++m)[i]?=some (xs[i]'ab):=by rw[Iw ab];exact l
  rw[Hj,E.Ac _ _ _ D];exact⟨E.len _,H i _ y l hy⟩
structure TOk(tss:List (List Int)):Prop where
 len:tss.length<=1000
 two:∀ts∈tss,ts.length<=2
 to:∀ts∈tss,∀t∈ts,0<=t/\t<tss.length
def aaX{E:Enc α}(l:cr h){v w:Value}{xs:List α}{y:α}(D:z.length=E.sz)(a:bu E n0 h v xs)(J:bj E h w [y])(hl:xs.length<2000000)(V:bytes<=1000)(G:n0<=h.aw):∃m h',fS h z bytes false v w=some (m,h')/\bu E n0 h' m (xs++[y])/\ay (bt v) h h'/\∀b,bt m b->b=h.aw:=by
 unfold fS;rw[yj D J];dsimp only;have Q:roomy (xs.length+1)=true:=by simp[roomy];omega
 have H:roomy ((xs.length+1)*bytes)=true:=by have:(xs.length+1)*bytes<=2000000*1000:=Nat.mul_le_mul ab V;simp[roomy];omega
 have F:=E.pos;have Y:E.sz≠0:=ab
 rcases a with⟨rfl,rfl⟩|⟨b,s,rfl,hb,hx,IB⟩
 .have K:roomy bytes=true:=by simp[roomy];omega
  refine⟨.slice (some ⟨h.aw,0,none⟩) 1 1,aK h (E.flat [y]) E.sz,?_,.inr ⟨h.aw,0,rfl,ae,ae,G⟩,(aN l _ _).ck,?_⟩;have I:roomy 1=true:=rfl;simp[dy,D,F,K,I];rintro b⟨off,n,cap,e⟩;cases e;rfl
 .refine⟨.slice (some ⟨h.aw,0,none⟩) (xs.length+1) (xs.length+1),aK {h with tr:=h.tr.del b} (E.flat xs++E.flat [y]) E.sz,?_,.inr ⟨h.aw,0,ae,?_,ae,G⟩,?_,?_⟩
  .have O:¬xs.length+1<=xs.length:=ab
   have Z:(E.flat xs).take (xs.length*E.sz)=E.flat xs:=pg ae;simp[dy,D,F,Q,H,hb,O,Z,Y]
  have:=bz {h with tr:=h.tr.del b} (E.flat xs++E.flat [y]) E.sz;rw[Enc.d_];exact this;refine((ir l b).cY ?_).trans (aN (ir l b).ok _ _).ck;rintro x _ rfl;exact⟨_,_,_,rfl⟩;rintro b'⟨off,n,cap,e⟩;cases e;rfl
def bu.low{E:Enc α}{xs:List α}(a:bu E n1 h v xs)(m:n0<=n1):bu E n0 h v xs:=by rcases a with a|⟨b,s,e,hb,l,h1⟩;exact .inl a;exact .inr ⟨b,s,e,hb,l,ab⟩
def Xj:aG:=(.ops [⟨(some 5),none,(.alloc vQ)⟩,⟨none,none,(.store 2 (.tmp 5) (.tmp 7))⟩])
def LB:aG:=(P_ 1 (O_ [l_ 8 2,L_ 9 2 5,v_ 10 vQ 2 9,A_ 11 vQ 16 8 10,s_ 1 2 11]))
def MX(x:GI):(dH x).length<=x.args.length+2:=by unfold dH;split<;>split<;>simp<;>omega
def arY(h0:az)(x:GI)(m l:Nat)(e:Env)(B j:Nat)(a:az):Prop:=(h0.aw<=B/\l<B)/\ay aZ h0 a/\a.tr.get l=some (.loop e [7] Xj LB .ready)/\∃L:SV,(dg a m [L.v])/\bu cC B a L.v ((dH x).take j)
def aeD(h:az)(xs:List (Bool×Int))(v:Value)(h':az):Prop:=ay aZ h h'/\∃L:SV,v=L.v/\bu cC h.aw h' L.v xs
def NM(dt:cr h0)(gA:ay aZ h0 hA){X G sX s1:Nat}{x:GI}(hX:fC h0 X (fN x A) sX)(sA:aD vR 2 h0 A.v x.args)(x5:x.args.length<1900000)(hS:fC hA G [cK.v] s1)(hSx:h0.aw<=G)(f2:cm e 2 G)(f6:bH e 6=.func (.func 192) #[] #[.pointer (some ⟨X,0,none⟩)])(norm:∀h' L,ay aZ h0 h'->(dg h' G [SV.v L])->bu cC h0.aw h' (SV.v L) (dH x)->QQ .normal e h'):aO FF (.Ko (.tmp 6) [7] Xj LB) e hA QQ:=by
 have vG:=gA.ok;have lX:=(dt.cn hX).lt;have lS:=(vG.cn hS).lt;have lA:=gA.aw;obtain⟨g0,QF⟩:=EY vG e [7] Xj LB;have uU:(hA.new (.loop e [7] Xj LB .ready)).aw=hA.aw+1:=rfl;refine aO.Ko (first:= #[]) (caps:= #[.pointer (some ⟨X,0,none⟩)]) (aj f6) ?_;generalize hA.new (.loop e [7] Xj LB .ready)=hL at*;have gL:=gA.trans g0;have H:=CU (h:=hL) dt sA ab (X:=X) (y:=.func (.yield hA.aw) #[] #[]) (arY h0 x G hA.aw e) (fun b=>b=G\/b=hA.aw) (fun _=>False)
  (fun _ _ l hh=>⟨hh.2.1,sX,hh.2.1.get dt hX⟩)
  (fun _ _ l h3 hh g=>by obtain⟨V,a,O,L,⟨s,q3⟩,I⟩:=hh;exact⟨V,a.trans g,g.get a.ok O,L,⟨s,g.get a.ok q3⟩,I.grow a.ok g ai⟩)
  (by rintro b (rfl|rfl)<;>omega) ?_ gL ⟨sX,gL.get dt hX⟩
  (fun h1 g=>⟨av g.aw,gL.trans g,g.get gL.ok QF,cK,⟨s1,g.get gL.ok (g0.get vG hS (fun h=>h))⟩,.inl ⟨ae,rfl⟩⟩)
 refine bc.mono (aj H) ?_;rintro v h'⟨Bq,V,a,O,L,⟨s,q3⟩,I⟩;unfold vV;rw[O];have gd:ay (· =hA.aw) h' (DE h' hA.aw):=ir a.ok hA.aw;rw[jT] at I;exact norm _ L (a.trans' gd ai (fun x hx e=>ab)) ⟨s,gd.get a.ok q3 ab⟩ (bu.low (I.grow a.ok gd (fun b hb e=>av (I.of hb))) V.1)
 .rintro Bq k v l hk hB1 Wh⟨V,a,O,L,⟨s,q3⟩,I⟩;have oK:=(di.mp hk).1;have hvl:=MX x;have m:∀b,bt L.v b->Bq<=b:=fun b hb=>I.of hb;refine(CO (S:=fun b=>b=G\/bt L.v b) (K:=fun h'=>ay aZ h0 h'/\∃L:SV,(dg h' G [L.v])/\bu cC Bq h' L.v ((dH x).take (k+1))) (Z:=fun _=>False) a.ok (by rintro(h|h);omega;have:=m _ h;omega) O ?_ ?_ (fun _ _ h=>h.elim)).mono ?_
  .unfold Xj;simp;have J:ay aZ l (put (aK l [.bool false,.int .i64 0] 0) l.aw 0 [.bool false,.int .i64 0] [.bool v.1,.int .i64 v.2] 0):=(ay.refl a.ok).var _ _;have hV:(put (aK l [.bool false,.int .i64 0] 0) l.aw 0 [.bool false,.int .i64 0] [.bool v.1,.int .i64 v.2] 0).tr.get l.aw=some (.bZ [.bool v.1,.int .i64 v.2] false 0 l.clock):=ae
   have lV:l.aw<(put (aK l [.bool false,.int .i64 0] 0) l.aw 0 [.bool false,.int .i64 0] [.bool v.1,.int .i64 v.2] 0).aw:=ae
   generalize put (aK l [.bool false,.int .i64 0] 0) l.aw 0 [.bool false,.int .i64 0] [.bool v.1,.int .i64 v.2] 0=h3 at*;refine⟨J,fun Y g4=>?_⟩;have lL2:hA.aw<l.aw:=a.ok.wf _ _ O;have Q:ay aZ h0 Y:=(a.trans J).trans' g4 ai (fun x hx e=>ab);have hV4:=g4.get J.ok hV ab;have w:=g4.get J.ok (J.get a.ok q3) ab;have TO:=(I.grow a.ok J ai).grow J.ok g4 (fun b hb e=>av (m b hb));simp at w;unfold LB;simp[f2,w,hV4];have oS4:=Q.ok.cn w;have F:=aN Q.ok (cC.enc v) 0;simp only[wW] at F;have CY:=TO.grow Q.ok F ai;have zK:bj cC (aK Y [.bool v.1,.int .i64 v.2] 0) (.slice (some ⟨Y.aw,0,none⟩) 1 1) [v]:=⟨_,_,rfl,.inr ⟨Y.aw,0,_,_,_,_,rfl,bz _ _ _,ae,ae⟩⟩;have l4:=g4.aw;obtain⟨v',h6,ha,XN,g6,hd6⟩:=aaX (bytes:=16) F.ok (z:=[.bool false,.int .i64 0]) rfl CY zK (by simp;omega) ag (by simp;omega);refine cR ha ?_;obtain⟨L',rfl⟩:=bu.C5 XN;have D:=g6.get F.ok (F.get Q.ok w) (fun hb=>av (m _ hb));simp[D,f2];have t6:ay aZ h0 h6:=(Q.trans F).trans' g6 ai (fun x hx e=>av (m x e));refine⟨(F.ck.trans (g6.cY (fun x _ h=>.inr h))).trans ((aY t6.ok D).cY (fun x _ h=>.inl h)),t6.put ⟨_,D⟩ (.inl hSx),L',⟨rfl,rfl,rfl⟩,?_⟩;have ht:(dH x).take (k+1)=(dH x).take k++[v]:=by rw[lg,hk];rfl
   rw[ht];refine XN.grow t6.ok (aY t6.ok D) (fun b hb e=>?_);have:=hd6 b hb;simp at this;omega
  rintro Y h5⟨z1,L,⟨s,z2⟩,z3⟩ _ g;exact⟨z1.trans' g ai (fun x hx e=>ab),L,⟨s,g.get z1.ok z2 ab⟩,z3.grow z1.ok g (fun b hb e=>av (z3.of hb))⟩;rintro r h5⟨F,⟨rfl,hl5,k1,L',k2,k3⟩|⟨_,_,z⟩⟩;refine⟨F.cY (fun b _ h=>?_),.inl ⟨rfl,V,k1,hl5,L',k2,k3⟩⟩;rcases h with(h|h)|h;exact .inl (.inl h);exact .inr (m b h);exact .inl (.inr h);exact z.elim
def HM(l:cr h){x:GI}(a:dg h X (fN x A))(G:aD vR 2 h A.v x.args)(H:x.args.length<1900000):bc FF 243 [.slice none 0 0,.func (.func 192) #[] #[.pointer (some ⟨X,0,none⟩)]] h (aeD h (dH x)):=by
 obtain⟨J,a⟩:=a;have I:=(l.cn a).lt;refine bc.of mE ?_;unfold gP;simp;refine aO.cut (fun h1=>ay aZ h h1/\h1.tr.get h.aw=some (.bZ [cK.v] false 0 0)/\h.aw<h1.aw) ?_ ?_
 exact⟨(ay.refl l).new _ _,by simp[cK],ae⟩;rintro h1⟨F,m,O⟩;refine NM l F a G H m (fh _) ae ae ?_;rintro K L D⟨s2,w⟩ hA;simp at w;simp[w];exact⟨D,L,ae,hA⟩
def NL(l:cr h){x:GI}(w:dg h X (fN x A))(m:aD vR 2 h A.v x.args)(D:x.args.length<1900000):bc FF 191 [.func (.func 192) #[] #[.pointer (some ⟨X,0,none⟩)]] h (aeD h (dH x)):=by
 refine bc.of vY ?_;unfold mb;simp;refine bm.call (V:=aeD h (dH x)) (aj (HM l w m D)) ?_;rintro _ F⟨a,L,rfl,hA⟩;simp;exact⟨a,L,ae,hA⟩
structure vg(aB:Nat)(bs:List GB):Prop where
 len:bs.length<1000000
 ph:∀b∈bs,b.bD.length<1000000/\∀q∈b.bD,(0<=q.dst/\q.dst<aB)/\q.row.length<2000000/\∀v∈q.row,Dc aB v
 li:∀b∈bs,b.list.length<1000000/\∀x∈b.list,x.dst<aB/\x.args.length<1900000/\∀v∈dH x,Dc aB v
 on:∀b∈bs,Dc aB b.on
def Eo{E:Enc α}{row:List α}(s:bj E h v row)(m:cr h)(g:ay S h h')(D:row≠[]->∀b,bt v b->¬S b):bj E h' v row:=by by_cases e:row=[];subst e;obtain⟨a,cap,w,s⟩:=s;refine⟨a,cap,w,?_⟩;rcases s with s|⟨b,off,_,_,_,_,l,_⟩;exact .inl s;exact .inl ⟨rfl,.inr ⟨b,off,l⟩⟩;exact s.grow m g (D e)
def jb(l:List Bool):Nat:=l.countP (fun x=> !x)
def zz{l:List Bool}(h:l[k]?=some false):jb (l.set k true)+1=jb l:=by
 unfold jb;induction l generalizing k with
 |nil=>simp at h
 |cons x l a=>
  cases k with
  |zero=>simp at h;subst h;simp
  |succ k=>
   have:=a (k:=k) (aj h);rw[List.set_cons_succ,List.countP_cons,List.countP_cons];omega
def Xk:aG:=(.ops [⟨(some 12),none,(.alloc vQ)⟩,⟨none,none,(.store 2 (.tmp 12) (.tmp 38))⟩])
def LC:aG:=(.block 5 (.ops [⟨(some 39),none,(.load none (.tmp 7))⟩,⟨(some 40),none,(.load (some 2) (.tmp 12))⟩,⟨(some 41),none,(.call (.tmp 39) [(.tmp 40)])⟩]))
def QS(sz:Nat):aG:=(G_ [B_ 9 .lss 8 7] (J_ (H_ 9 0) (J_ (P_ 1 (G_ [m_ 10 8,m_ 5 10] (G_ [m_ 11 1,m_ 12 0,m_ 13 5,o_ 14 (.fw none sz (t_ 12) (t_ 13)),o_ 15 (.load (some sz) (t_ 14)),o_ 16 (.call (t_ 11) [t_ 15])] (I_ 16 (G_ [m_ 17 5,m_ 4 17] .ret) .skip)))) (O_ [C_ 18 .add 8 1,m_ 8 18]))))
def DT(sz:Nat):aG:=(.seq (.ops [⟨(some 4),none,(.mv (.const (.int .i64 0)))⟩]) (.seq (.seq (.ops [⟨(some 6),none,(.mv (.tmp 0))⟩,⟨(some 7),none,(.nu (.tmp 6))⟩,⟨(some 8),none,(.mv (.const (.int .i64 0)))⟩]) (.block 0 (.loop (QS sz)))) (.seq (.ops [⟨(some 4),none,(.mv (.const (.int .i64 (Int.negSucc 0))))⟩]) .ret)))
def Qh(z:List Value)(sz:Nat):aG:=(J_ (G_ [m_ 16 6,m_ 17 0,z_ 18 17,B_ 19 .lss 16 18] (H_ 19 0)) (J_ (P_ 1 (G_ [m_ 22 0,m_ 23 6,o_ 24 (.fw none sz (t_ 22) (t_ 23)),o_ 25 (.load (some sz) (t_ 24)),o_ 7 (.alloc z),u_ (.store sz (t_ 7) (t_ 25))] (G_ [m_ 26 1,o_ 27 (.load (some sz) (t_ 7)),o_ 28 (.call (t_ 26) [t_ 27]),o_ 29 (.un .not (t_ 28))] (I_ 29 (G_ [m_ 30 0,m_ 31 5,o_ 32 (.load (some sz) (t_ 7)),o_ 33 (.fw none sz (t_ 30) (t_ 31)),u_ (.store sz (t_ 33) (t_ 32))] (O_ [m_ 34 5,C_ 35 .add 34 1,m_ 5 35])) .skip)))) (O_ [m_ 20 6,C_ 21 .add 20 1,m_ 6 21])))
def Hh(z:List Value)(sz f:Nat):aG:=(G_ [o_ 4 (.mv (.const (.slice none 0 0)))] (G_ [m_ 8 0,m_ 9 1,o_ 10 (.call (.func f) [t_ 8,t_ 9]),m_ 5 10] (J_ (G_ [m_ 11 5,o_ 12 (.bin .eql [1] (t_ 11) (.const (.int .i64 (Int.negSucc 0))))] (I_ 12 (G_ [m_ 13 0,m_ 4 13] .ret) .skip)) (J_ (G_ [m_ 14 5,C_ 15 .add 14 1,m_ 6 15] (P_ 0 (.loop (Qh z sz)))) (G_ [m_ 36 0,m_ 37 5,o_ 38 (.slice sz (t_ 36) (some (t_ 37)) none none),u_ (.clear z (t_ 38))] (G_ [m_ 39 0,m_ 40 5,o_ 41 (.slice sz (t_ 39) none (some (t_ 40)) none),m_ 4 41] .ret))))))
def ah7:FF 133=some ⟨[.tmp 4],DT 2,.no⟩:=mH
def ah6:FF 134=some ⟨[.tmp 4],DT 8,.no⟩:=mG
def ah5:FF 72=some ⟨[.tmp 4],Hh [.int .i64 0,.slice none 0 0] 2 133,.no⟩:=mh
def ah4:FF 74=some ⟨[.tmp 4],Hh [.int .i64 0,.int .i64 0,.bool false,.int .i64 0,.bool false,.int .i64 0,.int .i64 0,.slice none 0 0] 8 134,.no⟩:=mg
section
variable{α:Type}{E:Enc α}{p:α->Bool}{y:Value}
def aaT(E:Enc α)(p:α->Bool)(y:Value)(A:SV)(xs:List α)(h:az):Prop:=∀x∈xs,∀h1,ay (bt A.v) h h1->dU FF y [.agg ⟨E.enc x⟩] h1 (fun v h'=>v=.bool (p x)/\ay aZ h1 h')
def ar9(h:az)(p:α->Bool)(y:Value)(A:SV)(xs:List α)(m:Nat)(e:Env)(a:az):Prop:=
 ∃j:Nat,m=xs.length-j/\j<=xs.length/\bH e 0=A.v/\bH e 1=y/\bJ e 7 xs.length/\bJ e 8 j/\ay aZ h a/\∀x∈xs.take j,p x=false
def al_(p:α->Bool)(xs:List α)(h:az)(v:Value)(h':az):Prop:=ay aZ h h'/\((v=.int .i64 (-1)/\∀x∈xs,p x=false)\/∃(j:Nat) (x:α),v=.int .i64 j/\xs[j]?=some x/\p x=true/\∀x∈xs.take j,p x=false)
def Yj{f:Nat}(hf:FF f=some ⟨[.tmp 4],DT E.sz,.no⟩)(Z:cr h){xs:List α}(w:eo E h A xs)(hl:xs.length<2000000)(H:aaT E p y A xs h):bc FF f [A.v,y] h (al_ p xs h):=by
 have F:=w.len;refine bc.of hf ?_;unfold DT;simp[F];refine aO.loop (ar9 h p y A xs) ?_ (n:=xs.length) ⟨0,rfl,ab,au F,ae,ae,ae,.refl Z,fun x a=>by simp at a⟩;rintro m e Q⟨j,rfl,hj,D,K,J,I,l,G⟩;unfold QS;by_cases bk:j<xs.length
 .have wj:=cg ((j:Int)+1) ab ab;obtain⟨x,a⟩:=aV xs j bk;obtain⟨b,cs,o,s,Bf,hb,_,_,cZ,_⟩:=(w.ck Z l).el a;have O:=cZ 0 E.sz ab;simp[-ax,E.len] at O;rw[pg (by rw[E.len];exact fh _)] at O;simp at D;rw[Bf,F] at D;simp[D,K,J,I,bk,O,E.len,-ax];refine bm.e_ (V:=fun v h'=>v=.bool (p x)/\ay aZ Q h') (by simpa [K] using H x (cN a) Q l.ck) ?_;rintro _ h3⟨rfl,g3⟩;cases Y:p x with
  |true=>
   simp;exact⟨l.trans g3,.inr ⟨j,x,rfl,a,Y,G⟩⟩
  |false=>
   simp[I,wj];refine⟨xs.length-(j+1),ab,j+1,rfl,ab,by simp[D,Bf,F],au K,au J,ae,l.trans g3,fun x' kG=>?_⟩;rw[lg,a] at kG;rcases jS.1 kG with h|h;exact G x' h;simp at h;subst h;exact Y
 .have:j=xs.length:=ab
  subst this;rw[jT] at G;simp[J,I];exact⟨l,.inl ⟨rfl,G⟩⟩
def take_set{xs:List α}(h:i<xs.length)(v:α):(xs.set i v).take (i+1)=xs.take i++[v]:=by
 have h1:(xs.set i v).take i=xs.take i:=Cy fun k=>by rw[XJ,XJ,fL];by_cases a:k<i;rw[bM a,bM a,bU ab];rw[bU a,bU a]
 have l:(xs.set i v)[i]?=some v:=by simp[h]
 rw[lg,h1,l];rfl
def vD(p:α->Bool)(xs:List α):List α:=xs.filter (fun x=> !p x)
def ar3(E:Enc α)(h:az)(p:α->Bool)(y:Value)(A:SV)(xs:List α)(m:Nat)(e:Env)(a:az):Prop:=
 ∃(i j:Nat) (ys:List α),m=xs.length-j/\i<j/\j<=xs.length/\bH e 0=A.v/\bH e 1=y/\bJ e 5 i/\bJ e 6 j/\ay (bt A.v) h a/\eo E a A ys/\ys.length=xs.length/\ys.take i=vD p (xs.take j)/\ys.drop j=xs.drop j
def ahP(E:Enc α)(p:α->Bool)(A:SV)(xs:List α)(h:az)(v:Value)(h':az):Prop:=ay (bt A.v) h h'/\∃a:SV,v=a.v/\a.a=A.a/\eo E h' a (vD p xs)
def Ic{f fi:Nat}{z0:α}(hz:z=E.enc z0)(hf:FF f=some ⟨[.tmp 4],Hh z E.sz fi,.no⟩)(hfi:FF fi=some ⟨[.tmp 4],DT E.sz,.no⟩)(ok:cr h){xs:List α}(w:eo E h A xs)(hl:xs.length<1000000)(H:aaT E p y A xs h):bc FF f [A.v,y] h (ahP E p A xs h):=by
 have G:=w.len;refine bc.of hf ?_;unfold Hh;simp[G];refine bm.call (V:=al_ p xs h) (by simpa [G] using Yj hfi ok w ab H) ?_;rintro _ h1⟨g1,⟨rfl,hno⟩|⟨I,x0,rfl,Y,hp0,uU⟩⟩;simp;refine⟨g1.ck,A,au G,rfl,?_⟩;have:vD p xs=xs:=List.filter_eq_self.2 (fun x J=>by simp[hno x J]);rw[this];exact w.ck ok g1
 have hi0:=(di.mp Y).1;have w0:=cg ((I:Int)+1) ab ab;simp[w0];have hk0:xs.take I=vD p (xs.take (I+1)):=by unfold vD;rw[lg,Y,List.filter_append];have:(xs.take I).filter (fun x=> !p x)=xs.take I:=List.filter_eq_self.2 (fun x J=>by simp[uU x J]);rw[this];simp[hp0]
 refine aO.loop (ar3 E h p y A xs) ?_ (n:=xs.length-(I+1)) ⟨I,I+1,xs,rfl,ab,ab,au G,ae,ae,ae,g1.ck,w.ck ok g1,rfl,hk0,rfl⟩;rintro m e h2⟨i,j,ys,rfl,Wo,hj,F,f1,f5,f6,g2,w2,yU,O,hd⟩;have SY:=g2.ok;unfold Qh;by_cases bk:j<xs.length
 .have wj:=cg ((j:Int)+1) ab ab;have wi:=cg ((i:Int)+1) ab ab;obtain⟨x,J⟩:=aV xs j bk;have hyx:ys[j]?=some x:=by have:=congrArg (fun l=>l[0]?) hd;simpa [J] using this
  obtain⟨b,cs,o,s,a,hb,_,_,cZ,_⟩:=w2.el hyx;have r0:=cZ 0 E.sz ab;simp[-ax,E.len] at r0;rw[pg (by rw[E.len];exact fh _)] at r0;simp at F;rw[a,G] at F;have wK:z.length=E.sz:=by rw[hz,E.len]
  have vy:¬E.sz=0:=av E.pos
  have htk:(E.enc x).take E.sz=E.enc x:=pg (by rw[E.len];exact fh _);have hsp:bg z 0 (E.enc x)=E.enc x:=by unfold bg;simp[wK,E.len]
  simp[F,f1,f5,f6,bk,r0,E.len,E.plain,wK,hsp,htk,-ax,aH];refine bm.cut (fun Q=>ay aZ h2 Q/\dg Q h2.aw (E.enc x)) ?_ ?_;exact⟨(ay.refl SY).var _ _,h2.clock,by rw[aP,hsp];rfl⟩;rintro Q⟨g3,s3,hV3⟩;refine bm.e_ (V:=fun v h'=>v=.bool (p x)/\ay aZ Q h') (by simpa [f1] using H x (cN J) Q (g2.trans g3.ck)) ?_;rintro _ h4⟨rfl,g4⟩;have D:=g3.trans g4;have w4:=w2.ck SY D;have hV4:=g4.get g3.ok hV3;have htj:vD p (xs.take (j+1))=vD p (xs.take j)++(if p x then [] else [x]):=by unfold vD;rw[lg,J,List.filter_append];cases hpx:p x<;>simp[hpx]
  have hdj:ys.drop (j+1)=xs.drop (j+1):=by have:=congrArg (fun l=>l.drop 1) hd;simpa [List.drop_drop] using this
  cases hp:p x with
  |true=>
   simp[f6,wj];refine⟨xs.length-(j+1),ab,i,j+1,ys,rfl,ab,ab,by simp[F,a,G],au f1,au f5,ae,g2.trans D.ck,w4,yU,?_,hdj⟩;rw[htj,hp,O];simp
  |false=>
   obtain⟨yi,hyi⟩:=aV ys i;obtain⟨b',wT,o',s',am8,hb4,_,dQ,_,fu⟩:=w4.el hyi;rw[a] at am8;cases am8;have gh:i<xs.length:=ab
   have Pq:=dQ 0 E.sz ab;simp only[gU_] at Pq;simp[F,f1,f5,f6,hV4,E.len,E.plain,htk,gh,hb4,Pq,wj,wi];have ahf:=fu x 0 (E.enc x) (by rw[E.len];omega) (by unfold bg;simp[E.len]) (put h4 b (i*E.sz) wT (E.enc x) o') ⟨_,aP _ _ _ _ _ _⟩;refine⟨xs.length-(j+1),ab,i+1,j+1,ys.set i x,rfl,ab,ab,by simp[F,a,G],au f1,ae,ae,(g2.trans D.ck).trans ((aY D.ok hb4).cY (fun y _ e=>e▸eY a)),ahf,au yU,?_,?_⟩
   rw[take_set ab,htj,hp,O];simp;rw[List.drop_set_of_lt ab,hdj]
 .have hje:j=xs.length:=ab
  subst hje;rw[jT] at O;obtain⟨hAl2,hw2⟩:=w2;rcases hw2 with⟨_,_,rfl⟩|⟨b,o,s,K,a,hc,hb,ho⟩;simp at yU;omega;simp at F;rw[a,G] at F;have vy:¬E.sz=0:=av E.pos
  have hie:i<=xs.length:=ab
  have hob:(o.beq 0||o.beq E.sz)=true:=by rcases ho with h|h;rw[h];rfl;rw[h];simp
  have hni:¬xs.length-i=0:=ab
  have yb:(jn z (xs.length-i))=E.flat (List.replicate (xs.length-i) z0):=Ay E z0 hz _;have dQ:i*E.sz+(xs.length-i)*E.sz<=(ys.length+K.length)*E.sz:=by rw[<-uP];exact CX _ ab
  have ajn:(E.flat (List.replicate (xs.length-i) z0)).length=(xs.length-i)*E.sz:=by rw[E.dV];simp
  obtain⟨cs,Hn⟩:∃cs,cs=E.flat (ys++K):=⟨_,rfl⟩;have Gj:cs.length=(ys.length+K.length)*E.sz:=by rw[Hn,E.dV,LV]
  obtain⟨zs,Kn⟩:∃zs,zs=E.flat (List.replicate (xs.length-i) z0):=⟨_,rfl⟩;rw[<-Hn] at hb;rw[<-Kn] at yb ajn;rw[<-ajn,<-Gj] at dQ;have hiA:i<=A.c:=ab
  simp[F,f5,f6,hie,hb,hob,hni,yb,dQ,hiA];refine⟨g2.trans ((aY SY hb).cY (fun x _ e=>e▸eY a)),⟨A.a,i,A.c⟩,au a,rfl,?_⟩;have Z:(vD p xs).length=i:=by rw[<-O];simp;omega
  refine⟨Z.symm,.inr ⟨b,o,h2.clock,List.replicate (xs.length-i) z0++K,a,by simp[Z];omega,?_,ho⟩⟩;rw[aP,Hn,Kn];have:=JV E (ys.take i) (List.replicate (xs.length-i) z0) (ys.drop i++K) (by simp;omega);have e1:(ys.take i).length=i:=by simp;omega
  rw[e1,<-G1,List.take_append_drop] at this;rw[this,<-O];have e2:(ys.drop i++K).drop (List.replicate (xs.length-i) z0).length=K:=by rw[List.drop_append];simp[yU];omega
  rw[e2,G1]
end
structure BU(h:az)(W N nb aB:Nat)(aI:Int)(need:List Bool):Prop where
 hW:dg h W [.int .i64 aI]
 hN:dg h N [.slice (some ⟨nb,0,none⟩) aB aB]
 hb:dg h nb (ja.flat need)
 nl:need.length=aB
def BU.grow{W N nb aB:Nat}(k:BU h W N nb aB aI need)(l:cr h)(g:ay S h h')(h1:¬S W)(D:¬S N)(F:¬S nb):BU h' W N nb aB aI need:=by obtain⟨⟨a,m⟩,⟨b,G⟩,⟨c,w⟩,d⟩:=k;exact⟨⟨a,g.get l m h1⟩,⟨b,g.get l G D⟩,⟨c,g.get l w F⟩,d⟩
def oe(need:List Bool)(n:Int):Bool:=(need[n.toNat]?).getD false
def aa8(need:List Bool)(q:Int×SV):Bool:= !oe need q.1
def JB(aI:Int)(x:XI):Bool:=dW aI x.op x.a.1 x.a.2 x.b.1 x.b.2
def aa_(aI:Int)(need:List Bool)(x:XI):Bool:=JB aI x&& !oe need x.dst
def adN(l:cr h){W N nb aB:Nat}(k:BU h W N nb aB aI need){q:Int×SV}(O:0<=q.1/\q.1<aB):dU FF (.func (.func 73) #[] #[.pointer (some ⟨N,0,none⟩)]) [.agg ⟨aia.enc q⟩] h (fun v h'=>v=.bool (aa8 need q)/\ay aZ h h'):=by
 obtain⟨⟨a,K⟩,⟨b,D⟩,⟨c,m⟩,d⟩:=k;obtain⟨n,A⟩:=q;obtain⟨n,rfl⟩:∃H:Nat,n=H:=⟨n.toNat,ab⟩;have G:n<aB:=ab
 have I:=l.cn D;have J:=l.cn m;obtain⟨t,w⟩:=aV need n;have r:=rI m w;refine dU.func ?_;refine bc.of Kx ?_;unfold Bx;have F:aa8 need ((n:Int),A)= !t:=by simp[aa8,oe,w]
 simp[bw,ed,aF D,I,J,G,r,F,-ax];exact aN l _ _
def adM(w:cr h){W N nb aB:Nat}(k:BU h W N nb aB aI need)(Q:0<=aI/\aI<1000000000){x:XI}(hx:x.dst<aB)(O:JB aI x=true->0<=x.dst):dU FF (.func (.func 75) #[] #[.pointer (some ⟨W,0,none⟩),.pointer (some ⟨N,0,none⟩)]) [.agg ⟨aic.enc x⟩] h (fun v h'=>v=.bool (aa_ aI need x)/\ay aZ h h'):=by
 obtain⟨⟨a,J⟩,⟨b,hn⟩,⟨c,hf⟩,d⟩:=k;have oW:=w.cn J;refine dU.func ?_;refine bc.of Ky ?_;unfold By;simp[J,oW];refine bm.cut (fun h1=>ay aZ h h1/\dg h1 h.aw [.int .i64 x.op,.int .i64 x.dst,.bool x.a.1,.int .i64 x.a.2,.bool x.b.1,.int .i64 x.b.2,.int .i64 x.fn,.slice x.args.a x.args.l x.args.c]) ?_ ?_
 exact⟨aN w _ _,0,ae⟩;rintro h1⟨F,s1,Y⟩;refine bm.call (V:=fun v h'=>v=.bool (JB aI x)/\ay aZ h1 h') (by simpa [aJ,JB] using JC h1 F.ok aI x.op x.dst x.a.2 x.b.2 x.fn x.a.1 x.b.1 x.args.a x.args.l x.args.c Q) ?_;rintro _ h2⟨rfl,I⟩;have m:=F.trans I;cases l:JB aI x with
 |false=>
  have D:aa_ aI need x=false:=by simp[aa_,l]
  simp[D];exact m
 |true=>
  obtain⟨n,K⟩:∃n:Nat,x.dst=n:=⟨x.dst.toNat,av (O l)⟩;have Z:n<aB:=ab
  have G:=I.get F.ok Y;have QH:=m.get w hn;have Pr:=m.get w hf;obtain⟨t,H⟩:=aV need n;have r:=rI Pr H;have D:aa_ aI need x= !t:=by simp[aa_,l,oe,K,H]
  rw[K] at G;simp[G,aF QH,aF G,Z,r,D,-ax];exact m
def iS:Enc (Int×(Bool×Int)):=⟨fun x=>[.int .i64 x.1,.bool x.2.1,.int .i64 x.2.2],3,fun _=>rfl,ag,fun _=>rfl⟩
@[simp] def ae5:iS.sz=3:=rfl
@[simp] def amG(x:Int×(Bool×Int)):iS.enc x=[.int .i64 x.1,.bool x.2.1,.int .i64 x.2.2]:=rfl
def akm{ws:List (Int×(Bool×Int))}(l:h.tr.get W=some (.bZ (iS.flat ws) ro o s)){x:Int×(Bool×Int)}(a:ws[k]?=some x):cD h W (k*3) 3=some [.int .i64 x.1,.bool x.2.1,.int .i64 x.2.2]:=by have m:=(di.mp a).1;have:=iS.pW ws k 0 3 x a ag;rw[fD l (by rw[iS.dV];simp;omega)];simp only[ae5,gU_] at this;rw[this];rfl
def agi{xs:List (Int×(Bool×Int))}(a:bu iS n0 h v xs):v=.slice none 0 0/\xs=[]\/∃b s,v=.slice (some ⟨b,0,none⟩) xs.length xs.length/\h.tr.get b=some (.bZ (iS.flat xs) false 3 s)/\n0<=b/\xs≠[]:=by rcases a with⟨h1,l⟩|⟨b,s,h1,l,m,w⟩;exact .inl ⟨l,h1⟩;exact .inr ⟨b,s,h1,l,w,m⟩
def apd(ats:List Int)(a:Int):Bool:=decide (0<=(ats[a.toNat]?).getD (-1))
def Ext(κ cap l a:Nat->Nat):Prop:=∀b,κ b≠0->l b=κ b/\a b=cap b
def Ext.refl(κ cap:Nat->Nat):Ext κ cap κ cap:=fun _ _=>⟨rfl,rfl⟩
def Ext.trans{κ cap D l w m:Nat->Nat}(a:Ext κ cap D l)(b:Ext D l w m):Ext κ cap w m:=fun x F=>by obtain⟨h1,G⟩:=a x F;obtain⟨I,H⟩:=b x ab;exact⟨ab,ab⟩
def On:aG:=(G_ (R_ 90 0 12 13 2 [f_ 94 1 93,u_ (.store 1 (t_ 94) (.const (.slice none 0 0)))]) (G_ [m_ 95 15,z_ 96 95,k_ 97 0] (Q_ 8 mr)))
def Yw:wE=G_ [B_ 57 .lss 56 55] (J_ (H_ 57 4) (J_ (P_ 5 (G_ [m_ 58 56,a_ 59 2 54 56,L_ 60 2 59,o_ 14 (.alloc [(.int .i64 0),(.slice none 0 0)]),m_ 13 58,s_ 2 14 60] (G_ [o_ 15 (.mv (.const (.slice none 0 0)))] (J_ (G_ [f_ 61 1 14,l_ 62 61,z_ 63 62,k_ 64 0] (Q_ 6 qn)) (G_ [m_ 88 15,F_ 89 197 [t_ 88,(.func 198)]] On))))) (O_ [C_ 117 .add 56 1,m_ 56 117]))):=rfl
def KpT:List Nat:=[20,90,91,92,93,94,95,96,97,98,99,100,101,102,103,104,105,106,107,108,109,110,111,112,113,114,115,116]
def KpL:List Nat:=[13,14,15,16,17,18,20,56,57,58,59,60,61,62,63,64,65,66,67,68,69,70,71,72,73,74,75,76,77,78,79,80,81,82,83,84,85,86,87,88,89,90,91,92,93,94,95,96,97,98,99,100,101,102,103,104,105,106,107,108,109,110,111,112,113,114,115,116,117]
def asj(h:az)(n:Nat)(bp:List Nat)(d4:Nat)(e:Env)(m:Nat)(e':Env)(a:az):Prop:=
 ∃(j:Nat) (sJ:List Int),m=bp.length-j/\j<=bp.length/\bJ e' 30 j/\aM [30,6,7,31,32,33,34,35,36,37,38,39] e e'/\ay (· =d4) h a/\(dg a d4 (encI.flat sJ))/\sJ.length=n/\(∀i x:Nat,i<j->bp[i]?=some x->sJ[x]?=some (i:Int))/\∀x,x<n->x∉bp.take j->sJ[x]?=some (-1)
def afK(ok:cr h)(nd:bp.Nodup)(gX:∀x∈bp,x<n)(hr:bp.length<=n)(hn:n<=1000){O:SV}(hO:bj encI h O.v (nI bp))(Q:∀b,bt O.v b->bp≠[]->b≠d4)(hA:fC h d4 (encI.flat (List.replicate n (-1:Int))) s4)(f5:bH e 5=.slice (some ⟨d4,0,none⟩) n n)(f28:bH e 28=O.v)(f29:bJ e 29 bp.length)(f30:bJ e 30 0)(C:∀V h' I,aM [30,6,7,31,32,33,34,35,36,37,38,39] e V->ay (· =d4) h h'->(dg h' d4 (encI.flat I))->I.length=n->(∀i x:Nat,bp[i]?=some x->I[x]?=some (i:Int))->(∀x,x<n->x∉bp->I[x]?=some (-1))->QQ (.exit 0) V h'):aO FF (.loop wG) e h QQ:=by
 have Y:O.l=bp.length:=by obtain⟨a,cap,e,_⟩:=hO;simp[nI] at e;exact e.2.1
 refine aO.loop (asj h n bp d4 e) ?_ (n:=bp.length) ⟨0,_,rfl,ab,f30,aM.refl _ _,.refl ok,⟨s4,hA⟩,ae,fun i x h=>ab,fun x l _=>by rw[SI,bM l]⟩;rintro m V J⟨j,H,rfl,hj,F,K,G,⟨s,Z⟩,wg,Kg,w⟩;have q5:=K.at f5;have JA:=K.at f28;have D:=K.at f29;unfold wG;by_cases bk:j<bp.length
 .obtain⟨x,l⟩:=aV bp j bk;have Mh:=gX x (cN l);have hO2:=Eo hO ok G (fun eQ b hb=>Q b hb (fun e=>eQ (by rw[e];rfl)));obtain⟨bO,ajV,ah3,SN,_,_,cZ⟩:=hO2.read (Ja l);have ro:=cZ 0 1 ag;simp[-ax,nI] at ro SN;have wj:=cg ((j:Int)+1) ab ab;have xG:x+1<=H.length:=ab
  simp at JA;rw[SN.1,Y] at JA;simp[q5,JA,D,F,bk,ro,Mh,Z,xG,wj,-ax];have inj:∀i,bp[i]?=some x->i=j:=fun i hi=>by have h1:=(di.mp hi).2;have J:=(di.mp l).2;exact(List.getElem_inj nd).1 (h1.trans J.symm)
  refine⟨bp.length-(j+1),ab,j+1,H.set x j,rfl,bk,ae,?_,G.trans (aY G.ok Z),⟨J.clock,by rw[aP,qU H x j ab]⟩,au wg,fun i y hi hy=>?_,fun y hy SQ=>?_⟩
  .exact aq
  rw[fL];by_cases e:x=y;subst e;rw[bM rfl,bM ab,inj i hy];rw[bU e];by_cases e2:i=j;subst e2;rw[l] at hy;cases hy;exact absurd rfl e;exact Kg i y ab hy;rw[lg,l] at SQ;rw[fL,bU (fun e=>SQ (au e))];exact w y hy (fun h=>SQ (List.mem_append_left _ h))
 .have:j=bp.length:=ab
  subst this;rw[jT] at w;simp[D,F];exact C _ _ H (K.set) G ⟨s,Z⟩ wg (fun i x l=>Kg i x (di.mp l).1 l) w
def kH(ats:List Int)(t:Int):Int:=(ats[t.toNat]?).getD (-1)
def KtL:List Nat:=[21,22,122,123,124,125,126,127,128,129,130,131,132,133,134,135,136]
structure KR(ats:List Int)(pk:List Int)(r r':XR):Prop where
 P:r'.P=r.P
 L:r'.L=r.L
 T:r'.T=r.T
 kind:r'.kind=r.kind
 on:r'.on=r.on
 ls:r'.ls=r.ls
 ts:r'.ts=r.ts.map (kH ats)
 pl:r'.ps.length=r.ps.length
 ps:∀(i:Nat)(q p:Int×SV),r'.ps[i]?=some q->r.ps[i]?=some p->q.1=p.1/\q.2.l=(pk.filter (apd ats)).length
def adt{tss:List (List Int)}(T:TOk tss):EF tss.length (Edge.dO tss):=by
 have F:∀a∈tss,∀t∈a,t.toNat<tss.length:=fun a H t l=>av (T.to a H t l)
 refine⟨Edge.mA _,fun x ps m=>⟨?_,fun p w=>?_⟩⟩
 .have h1:=Edge.xn (n:=tss.length) (tos:=tss) T.two x tss.length;have G:((Edge.upto tss.length tss tss.length)[x]?).getD []=ps:=by show((Edge.dO tss)[x]?).getD []=ps;rw[m];rfl
  rw[G] at h1;have:=T.len;omega
 have D:=(Edge.Fq F (u:=x) (x:=p)).1 (by rw[m];exact w);obtain⟨i,rfl,a,l,_⟩:=D;have:=(di.mp l).1;omega
def Ep(E:Enc α)(ys a:List α)(i:Nat):bg (E.flat ys) (i*E.sz) (E.flat a)=E.flat (ys.take i++a++ys.drop (i+a.length)):=by unfold bg;rw[E.iQ,E.dV,<-uP,E.mY,E.d_,E.d_]
def IxI(h:az)(W:SV)(t:Int)(xs:List Int)(m:Nat)(e:Env)(a:az):Prop:=
 ∃j:Nat,m=xs.length-j/\j<=xs.length/\bH e 0=W.v/\bJ e 1 t/\bJ e 7 xs.length/\bJ e 8 j/\a=h/\∀k,k<j->xs[k]? ≠some t
def QT{W:SV}{xs:List Int}(V:bj encI h W.v xs)(hl:xs.length<1000000){t:Int}(ht:t∈xs):bc FF 162 [W.v,.int .i64 t] h (fun v h'=>h'=h/\∃k:Nat,v=.int .i64 k/\xs[k]?=some t):=by
 have D:W.l=xs.length:=by obtain⟨a,cap,e,_⟩:=V;simp at e;exact e.2.1
 refine bc.of xR ?_;unfold nK;simp[D];refine aO.loop (IxI h W t xs) ?_ (n:=xs.length) ⟨0,rfl,ab,au D,ae,ae,ae,rfl,fun k w=>ab⟩;rintro m e h2⟨j,rfl,hj,l,G,F,Q,rfl,Y⟩;unfold mq;have O:j<xs.length:=by rcases Gf j xs.length with h|h;exact h;obtain⟨k,w⟩:=iI ht;exact absurd w (Y k (av ((di.mp w).1)))
 have Z:=cg ((j:Int)+1) ab ab;obtain⟨x,H⟩:=aV xs j O;obtain⟨bW,YP,Xr,K,_,_,cZ⟩:=V.read H;have ro:=cZ 0 1 ag;simp[-ax] at ro K;simp at l;rw[K.1,D] at l;by_cases I:t=x
 subst I;simp[l,G,F,Q,O,ro,-ax];exact⟨j,rfl,H⟩
 .have e2:(t==x)=false:=by simp[I]
  simp[l,G,F,Q,O,ro,e2,Z,-ax];refine⟨xs.length-(j+1),ab,j+1,rfl,ab,by simp[l,K.1,D],au G,au F,ae,rfl,fun k w J=>?_⟩;rcases Gf k j with h|h;exact Y k h J
  .have:k=j:=ab
   subst this;rw[H] at J;cases J;exact I rfl
def abp(y:Bool×Int):cC.flat [y]=[.bool y.1,.int .i64 y.2]:=rfl
def asD:List Nat:=[79,80,81,82,83,84,85,86,87,88,89,90,91,92,93,94,95,96,97,98,99]
def amf:List Nat:=[13,14,15,69,70,71,72,73,74,75,76,77,78,79,80,81,82,83,84,85,86,87,88,89,90,91,92,93,94,95,96,97,98,99,100]
abbrev El:Type:=Int×(Bool×Int)
def kAt(xs:List El)(i:Nat):Int:=((xs[i]?).map (·.1)).getD 0
def Inj(n:Nat)(ys:List El):Prop:=∀p q,p<n->q<n->kAt ys p=kAt ys q->p=q
def aaR(xs ys:List El):Prop:=ys.Perm xs/\ys.Pairwise fun a b=>a.1<b.1
def aa3:FF 197=some ⟨[],.bad,.run (JX 198) fun _ _ _ _=>JZ⟩:=rfl
def adG(h:az):bc FF 197 [.slice none 0 0,.func (.func 198) #[] #[]] h (fun _ h'=>h'=h):=bc.run aa3 (show JX 198 _ h=_ by unfold JX;rw[bM rfl]) rfl
def ap1(x:El):Px:=(Fin.ofNat 1000000 x.1.toNat,x.2)
def YL(x:Px):El:=((x.1.1:Int),x.2)
def Im:∀ys:List Px,iS.flat (ys.map YL)=kQ ys
 |[]=>rfl
 |y::ys=>by have:=Im ys;simp only[Enc.flat,kQ,xX,List.flatMap_cons] at this⊢;rw[this];rfl
def ahv:∀ {xs:List El},(∀x∈xs,0<=x.1/\x.1<1000000)->(xs.map ap1).map YL=xs
 |[],_=>rfl
 |x::xs,h=>by have h1:=h x h_;rw[xX,xX,ahv fun y hy=>h y (uQ _ hy)];congr 1;refine Prod.ext ?_ rfl;show((x.1.toNat%1000000:Nat):Int)=x.1;omega
def Vp(ok:cr h){xs:List El}(D:h.tr.get d=some (.bZ (iS.flat xs) false o s))(ne:xs≠[])(hn:xs.length<50)(hb:∀x∈xs,0<=x.1/\x.1<1000000)(hI:Inj xs.length xs):bc FF 197 [.slice (some ⟨d,0,none⟩) xs.length c,.func (.func 198) #[] #[]] h (fun _ h'=>∃ys,aaR xs ys/\ys.length=xs.length/\ay (· =d) h h'/\∃s,h'.tr.get d=some (.bZ (iS.flat ys) false o s)):=by
 obtain⟨l,Q⟩:∃l,l=xs.map ap1:=⟨_,rfl⟩;have G:l.map YL=xs:=by rw[Q];exact ahv hb
 have zl:l.length=xs.length:=by rw[Q,KM]
 rw[<-G,Im] at D;have V:Up3 (l.mergeSort fun x y=>decide (x.1.1<=y.1.1)):=by
  have p:=List.mergeSort_perm l fun x y=>decide (x.1.1<=y.1.1);have s:=List.pairwise_mergeSort (le:=fun x y:Px=>decide (x.1.1<=y.1.1)) (fun a b c h1 h2=>by simp at*;omega) (fun a b=>by simp;omega) l;have nd:(l.map fun x=>x.1.1).Nodup:=List.pairwise_iff_getElem.2 fun i j hi hj Wo e=>by
   simp only[List.getElem_map] at e;have G9:i<l.length:=aj hi
   have X6:j<l.length:=aj hj
   have k:∀i (h:i<l.length),kAt xs i=(l[i].1.1:Int):=fun i h=>by rw[<-G];simp[kAt,h,YL]
   have:=hI i j ab ab (by rw[k i G9,k j X6,e]);omega
  have I:((l.mergeSort fun x y=>decide (x.1.1<=y.1.1)).map fun x=>x.1.1).Nodup:=(p.map _).nodup_iff.2 nd;exact(s.and (List.pairwise_map.1 I)).imp fun⟨h1,h2⟩=>by simp at h1;omega
 have J:=List.mergeSort_perm l fun x y=>decide (x.1.1<=y.1.1);generalize l.mergeSort (fun x y=>decide (x.1.1<=y.1.1))=ys at V J;have wr:∀F:List Px,F.length=l.length->fU h d 0 (kQ F)=some (put h d 0 (kQ l) (kQ F) o):=fun F hl=>by unfold fU;rw[D];simp only[kD];rw[bM (by rw[hl];simp)];rfl
 obtain⟨m,ha⟩:∃m,m=[Value.slice (some ⟨d,0,none⟩) xs.length c,.func (.func 198) #[] #[]]:=⟨_,rfl⟩;have H:∃h' b c s o xs ys,ahW 198 m h h' b c s o xs ys:=⟨_,d,c,s,o,l,ys,by rw[ha,zl],D,fun e=>ne (by rw[<-G,e];rfl),ab,J,V,wr ys J.length_eq⟩;have O:m≠[.slice none 0 0,.func (.func 198) #[] #[]]:=fun e=>by rw[ha] at e;cases e
 obtain⟨h',Y⟩:∃h',JX 198 m h=some (.tuple #[],h'):=⟨H.choose,by unfold JX;rw[bU O,dif_pos H]⟩;rw[<-ha];refine bc.run aa3 Y ?_;obtain⟨_,⟨e,_⟩|⟨b',c',s',o',xs',Kd,Z⟩⟩:=JY Y;exact absurd e O;have a:=Z.a;rw[ha] at a;simp at a;obtain⟨rfl,_,_⟩:=a;have K:=Z.hb;rw[D] at K;simp at K;obtain⟨e2,rfl,rfl⟩:=K;cases LS e2;have w:=Z.w;rw[wr Kd Z.p.length_eq] at w;cases w;have yl:=Z.p.length_eq;refine⟨Kd.map YL,⟨by rw[<-G];exact Z.p.map _,List.pairwise_map.2 (Z.u.imp fun h=>by simp[YL];omega)⟩,by simp;omega,aY ok D,h.clock,?_⟩;rw[aP,Im];unfold bg;rw[List.take_zero,XH (by simp[kD,yl]),Bc];rfl
structure YB where
 P:SV
 L:SV
 T:SV
 kind:Int
 on:Bool×Int
 ps:List (GP×SV)
 ls:List (GI×SV)
 to:List Int
def iG:Enc (GP×SV):=⟨fun x=>[.int .i64 x.1.dst,x.2.v],2,fun _=>rfl,ag,fun _=>rfl⟩
@[simp] def aqk:iG.sz=2:=rfl
@[simp] def amK(x:GP×SV):iG.enc x=[.int .i64 x.1.dst,x.2.v]:=rfl
def gu:Enc (GI×SV):=⟨fun x=>aJ x.1.op x.1.dst x.1.a.1 x.1.a.2 x.1.b.1 x.1.b.2 x.1.fn x.2.v,8,fun _=>rfl,ag,fun _=>rfl⟩
@[simp] def aqp:gu.sz=8:=rfl
@[simp] def Ii(x:GI×SV):gu.enc x=[.int .i64 x.1.op,.int .i64 x.1.dst,.bool x.1.a.1,.int .i64 x.1.a.2,.bool x.1.b.1,.int .i64 x.1.b.2,.int .i64 x.1.fn,x.2.v]:=rfl
def dZ:Enc YB:=⟨fun x=>[x.P.v,x.L.v,.int .i64 x.kind,.bool x.on.1,.int .i64 x.on.2,x.T.v],6,fun _=>rfl,ag,fun _=>rfl⟩
@[simp] def aqh:dZ.sz=6:=rfl
@[simp] def DF(x:YB):dZ.enc x=[x.P.v,x.L.v,.int .i64 x.kind,.bool x.on.1,.int .i64 x.on.2,x.T.v]:=rfl
def YB.g(y:YB):GB:=⟨y.ps.map (·.1),y.ls.map (·.1),y.kind,y.on,y.to⟩
inductive Lo where
 |P
 |L
 |T
 |R (j:Nat)
 |X (j:Nat)
def eR(A:SV):Option Nat:=A.a.map (·.block)
def YB.loc(r:YB):Lo->Option Nat
 |.P=>eR r.P
 |.L=>eR r.L
 |.T=>eR r.T
 |.R j=>(r.ps[j]?).bind fun q=>eR q.2
 |.X j=>(r.ls[j]?).bind fun x=>eR x.2
def eV(B:SV)(ys:List YB):Option (Nat×Lo)->Option Nat
 |none=>eR B
 |some (i,l)=>(ys[i]?).bind fun r=>r.loc l
def Lo.x:Lo->Prop
 |.X _=>True
 |_=>False
def Xo:Option (Nat×Lo)->Prop
 |none=>False
 |some (_,l)=>l.x
def aeH{α:Type}(f:α->Option Nat):Prop:=∀a b c,f a=some c->f b=some c->a=b
def yZ(w:Prop)(f:Lo->Option Nat):Prop:=∀a b c,f a=some c->f b=some c->a=b\/(w/\a.x/\b.x)
def Ks(w:Prop)(f:Option (Nat×Lo)->Option Nat):Prop:=∀a b c,f a=some c->f b=some c->a=b\/(w/\Xo a/\Xo b)
def wI(B:SV)(ys:List YB):Prop:=Ks False (eV B ys)
def cx(B:SV)(ys:List YB)(c:Nat):Prop:=∃l,eV B ys l=some c
structure BZ(h:az)(y:YB):Prop where
 P:eo iG h y.P y.ps
 L:eo gu h y.L y.ls
 T:eo encI h y.T y.to
 ps:∀q∈y.ps,eo cC h q.2 q.1.row
 ls:∀x∈y.ls,eo cC h x.2 x.1.args
structure FZ(h:az)(n0:Nat)(B:SV)(ys:List YB):Prop where
 A:eo dZ h B ys
 r:∀y∈ys,BZ h y
 inj:Ks True (eV B ys)
 new:∀l c,eV B ys l=some c->n0<=c
def dq(h:bt A.v c):eR A=some c:=by obtain⟨off,n,cap,e⟩:=h;simp at e;simp[eR,e.1]
def cy(h:A.a=some ⟨b,o,none⟩):eR A=some b:=by simp[eR,h]
section
variable{α:Type}{E:Enc α}{h h':az}{A:SV}{xs:List α}
def eo.at{c:Nat}(w:eo E h A xs)(e:eR A=some c):∃o,h.tr.get c=some o:=by rcases w.2 with⟨ha,_⟩|⟨b,o,s,a,ha,_,hb,_⟩;simp[eR,ha] at e;rw[cy ha] at e;cases e;exact⟨_,hb⟩
def eo.lt(w:eo E h A xs)(a:cr h)(e:eR A=some c):c<h.aw:=by obtain⟨o,l⟩:=w.at e;exact a.wf _ _ l
def eo.go(w:eo E h A xs)(l:cr h)(g:ay S h h')(D:∀c,S c->eR A≠some c):eo E h' A xs:=w.grow l g (fun c m a=>D c a (dq m))
def eo.aa6{ys:List α}(w:eo E h A xs)(e:ys.map E.enc=xs.map E.enc):eo E h A ys:=by
 have m:ys.length=xs.length:=aj (congrArg List.length e)
 obtain⟨h1,w⟩:=w;refine⟨ab,?_⟩;rcases w with⟨a,b,c⟩|⟨b,o,s,l,ha,F,hb,D⟩;exact .inl ⟨a,b,by subst c;exact Wg m⟩
 .refine .inr ⟨b,o,s,l,ha,ab,?_,D⟩;have:E.flat ys=E.flat xs:=by unfold Enc.flat;rw[List.flatMap_def,List.flatMap_def,e]
  rw[E.d_,this,<-E.d_];exact hb
end
section
variable{h h':az}{n0:Nat}{y:YB}{B:SV}{ys:List YB}
def YB.jN{q:GP×SV}(a:y.ps[j]?=some q):y.loc (.R j)=eR q.2:=by simp[YB.loc,a]
def YB.mm(a:y.ls[j]?=some q):y.loc (.X j)=eR q.2:=by simp[YB.loc,a]
def cz{l:Lo}(hy:ys[i]?=some y):eV B ys (some (i,l))=y.loc l:=by simp[eV,hy]
def BZ.lt(w:BZ h y)(a:cr h){l:Lo}{c:Nat}(e:y.loc l=some c):c<h.aw:=by
 cases l with
 |P=>exact w.P.lt a e
 |L=>exact w.L.lt a e
 |T=>exact w.T.lt a e
 |R j=>
  obtain⟨q,h1,m⟩:=Ev.1 e;exact(w.ps q (cN h1)).lt a m
 |X j=>
  obtain⟨q,h1,m⟩:=Ev.1 e;exact(w.ls q (cN h1)).lt a m
def BZ.go{S:Nat->Prop}(w:BZ h y)(D:cr h)(g:ay S h h')(F:∀c l,S c->y.loc l≠some c):BZ h' y:=by
 refine⟨w.P.go D g fun c a=>F c .P a,w.L.go D g fun c a=>F c .L a,w.T.go D g fun c a=>F c .T a,fun q m=>?_,fun q m=>?_⟩;obtain⟨j,G⟩:=iI m;exact(w.ps q m).go D g fun c a=>by rw[<-YB.jN G];exact F c _ a
 obtain⟨j,G⟩:=iI m;exact(w.ls q m).go D g fun c a=>by rw[<-YB.mm G];exact F c _ a
def BZ.ck(w:BZ h y)(a:cr h)(g:ay aZ h h'):BZ h' y:=w.go a g (fun _ _ h=>h.elim)
def FZ.at(w:FZ h n0 B ys)(hy:ys[i]?=some y):BZ h y:=w.r y (cN hy)
def FZ.lt(w:FZ h n0 B ys)(a:cr h){l:Option (Nat×Lo)}{c:Nat}(e:eV B ys l=some c):c<h.aw:=by
 match l with
 |none=>exact w.A.lt a e
 |some (i,l)=>
  obtain⟨q,h1,m⟩:=Ev.1 e;exact(w.at h1).lt a m
def FZ.go{S:Nat->Prop}(w:FZ h n0 B ys)(m:cr h)(g:ay S h h')(D:∀c l,S c->eV B ys l≠some c):FZ h' n0 B ys:=
 ⟨w.A.go m g fun c a=>D c none a,fun y hy=>by obtain⟨i,F⟩:=iI hy;exact(w.r y hy).go m g fun c l a=>by rw[<-cz (B:=B) F];exact D c _ a,w.inj,w.new⟩
def FZ.ck(w:FZ h n0 B ys)(a:cr h)(g:ay aZ h h'):FZ h' n0 B ys:=w.go a g (fun _ _ h=>h.elim)
def FZ.low(w:FZ h n0 B ys)(a:cr h)(g:ay S h h')(D:∀c,S c->c<n0\/h.aw<=c):FZ h' n0 B ys:=w.go a g (fun c l m e=>by have:=D c m;have:=w.new l c e;have:=w.lt a e;omega)
def FZ.cY(w:FZ h n0 B ys)(a:n1<=n0):FZ h n1 B ys:=⟨w.A,w.r,w.inj,fun l c e=>sx a (w.new l c e)⟩
def aeH.tz{f G:α->Option Nat}(w:aeH f)(a:α)(F:∀b,b≠a->G b=f b)(H:∀c,G a=some c->∀b,f b=some c->b=a):aeH G:=by intro x y c m hy;by_cases D:x=a;by_cases l:y=a;rw[D,l];rw[F y l] at hy;rw[D] at m;exact absurd (H c m y hy) l;rw[F x D] at m;by_cases l:y=a;rw[l] at hy;exact absurd (H c hy x m) D;rw[F y l] at hy;exact w x y c m hy
def yZ.tz{p:Prop}{f H:Lo->Option Nat}(w:yZ p f)(a:Lo)(F:∀b,b≠a->H b=f b)(J:∀c,H a=some c->∀b,f b=some c->b=a\/(p/\b.x/\a.x)):yZ p H:=by intro x y c D hy;by_cases m:x=a;by_cases l:y=a;exact .inl (by rw[m,l]);rw[F y l] at hy;rw[m] at D;rcases J c D y hy with h|⟨h1,G,I⟩;exact absurd h l;exact .inr ⟨h1,by rw[m];exact I,G⟩;rw[F x m] at D;by_cases l:y=a;rw[l] at hy;rcases J c hy x D with h|⟨h1,G,I⟩;exact absurd h m;exact .inr ⟨h1,G,by rw[l];exact I⟩;rw[F y l] at hy;exact w x y c D hy
def Ks.r{p:Prop}(w:Ks p (eV B ys))(hy:ys[i]?=some y):yZ p y.loc:=fun a b c h1 l=>by rcases w (some (i,a)) (some (i,b)) c (by rw[cz hy];exact h1) (by rw[cz hy];exact l) with h|h;cases h;exact .inl rfl;exact .inr h
def FZ.tf(w:FZ h n0 B ys)(a b:Option (Nat×Lo))(c:Nat)(h1:eV B ys a=some c)(m:eV B ys b=some c)(l:¬Xo a:=by exact fun h=>h):a=b:=(w.inj a b c h1 m).elim id fun h=>absurd h.2.1 l
def FZ.IP(w:FZ h n0 B ys)(hy:ys[i]?=some y)(a b:Lo)(c:Nat)(h1:y.loc a=some c)(m:y.loc b=some c)(l:¬a.x:=by exact fun h=>h):a=b:=(w.inj.r hy a b c h1 m).elim id fun h=>absurd h.2.1 l
def FZ.tz{y':YB}(w:FZ h n0 B ys)(V:cr h)(g:ay S h h')(hn:n0<=h.aw)(hy:ys[i]?=some y)(hS:∀c,S c->∀o,eV B ys o=some c->o=none\/∃l,o=some (i,l))(hB:eo dZ h' B (ys.set i y'))(x:BZ h' y')(i1:∀p,yZ p y.loc->yZ p y'.loc)(K:∀l c,y'.loc l=some c->(∃m,y.loc m=some c/\(m.x->l.x))\/h.aw<=c):FZ h' n0 B (ys.set i y')/\(∀c,cx B (ys.set i y') c->cx B ys c\/h.aw<=c)/\(wI B ys->wI B (ys.set i y')):=by
 have Y:=(di.mp hy).1;have e1:∀l,eV B (ys.set i y') (some (i,l))=y'.loc l:=fun l=>by simp[eV,Y]
 have e2:∀k l,k≠i->eV B (ys.set i y') (some (k,l))=eV B ys (some (k,l)):=fun k l D=>by simp[eV,fL,Ne.symm D]
 have key:∀(o:Option (Nat×Lo))(c:Nat),eV B (ys.set i y') o=some c->(∃l,o=some (i,l)/\y'.loc l=some c)\/((∀l,o≠some (i,l))/\eV B ys o=some c):=fun o c I=>by
  match o with
  |none=>exact .inr ⟨fun l e=>(by cases e),I⟩
  |some (k,l)=>
   by_cases e:k=i;subst e;rw[e1] at I;exact .inl ⟨l,rfl,I⟩;rw[e2 k l e] at I;exact .inr ⟨fun l' J=>by cases J;exact e rfl,I⟩
 have xV:∀p,Ks p (eV B ys)->∀(l:Lo)(c:Nat)(o:Option (Nat×Lo)),y'.loc l=some c->eV B ys o=some c->(∃m,o=some (i,m))\/(p/\Xo o/\l.x):=fun p q l c o h1 Q=>by rcases K l c h1 with⟨m,G,h4⟩|G;rcases q o (some (i,m)) c Q (by rw[cz hy];exact G) with h|h;exact .inl ⟨m,h⟩;exact .inr ⟨h.1,h.2.1,h4 h.2.2⟩;have:=w.lt V Q;omega
 have inj:∀p,Ks p (eV B ys)->Ks p (eV B (ys.set i y')):=fun p q a b c ha hb=>by rcases key a c ha with⟨Z,rfl,H⟩|⟨n1,H⟩;rcases key b c hb with⟨O,rfl,F⟩|⟨n2,F⟩;exact(i1 p (q.r hy) Z O c H F).imp (fun h=>by rw[h]) id;rcases xV p q Z c b H F with⟨m,e⟩|h;exact absurd e (n2 m);exact .inr ⟨h.1,h.2.2,h.2.1⟩;rcases key b c hb with⟨O,rfl,F⟩|⟨n2,F⟩;rcases xV p q O c a F H with⟨m,e⟩|h;exact absurd e (n1 m);exact .inr h;exact q a b c H F
 refine⟨⟨hB,fun z hz=>?_,inj True w.inj,fun o c e=>?_⟩,fun c ⟨o,e⟩=>?_,inj False⟩;rcases iI hz with⟨k,D⟩;rw[fL] at D;by_cases e:i=k;rw[bM e,bM Y] at D;cases D;exact x;rw[bU e] at D;refine(w.at D).go V g fun c l hc hl=>?_;rcases hS c hc (some (k,l)) (by rw[cz D];exact hl) with J|⟨l',J⟩<;>cases J;exact e rfl;rcases key o c e with⟨l,rfl,p⟩|⟨_,p⟩;rcases K l c p with⟨m,G,_⟩|G;exact w.new (some (i,m)) c (by rw[cz hy];exact G);omega;exact w.new o c p;rcases key o c e with⟨l,rfl,p⟩|⟨_,p⟩;exact(K l c p).imp (fun⟨m,G,_⟩=>⟨some (i,m),by rw[cz hy];exact G⟩) id;exact .inl ⟨o,p⟩
def BZ.view(w:BZ h y):bR h (dZ.enc y) y.g:=by have row:∀ {A:SV} {vs:List (Bool×Int)},eo cC h A vs->aD vR 2 h A.v vs:=fun w=>w.view rfl (fun i x y a b=>by rw[a] at b;cases b;rfl);refine⟨y.P,y.L,y.T,rfl,w.P.view (by simp[YB.g]) fun j q p a c=>?_,w.L.view (by simp[YB.g]) fun j q p a c=>?_,w.T.view rfl (fun i x y a c=>by simp only[YB.g] at c;rw[a] at c;cases c;rfl)⟩;simp[YB.g,a] at c;subst c;exact⟨q.2,rfl,row (w.ps q (cN a))⟩;simp[YB.g,a] at c;subst c;exact⟨q.2,rfl,row (w.ls q (cN a))⟩
def FZ.view(w:FZ h n0 B ys):qg h B (ys.map YB.g):=w.A.view ae fun i r b a c=>by simp[a] at c;subst c;exact(w.at a).view
end
structure cM(h0 h:az)(n0:Nat)(B0:SV)(gZ:List YB)(B:SV)(ys:List YB):Prop where
 w:FZ h n0 B ys
 s:∀c,cx B ys c->cx B0 gZ c\/h0.aw<=c
 g:ay (cx B0 gZ) h0 h
 x:wI B0 gZ->wI B ys
section
variable{h0 h h':az}{n0:Nat}{y:YB}{B0 B B':SV}{gZ ys Kd:List YB}{i j:Nat}{S:Nat->Prop}
def cM.refl(w:FZ h n0 B ys)(a:cr h):cM h h n0 B ys B ys:=⟨w,fun _ h=>.inl h,.refl a,id⟩
def cM.step(T:cM h0 h n0 B0 gZ B ys)(g:ay S h h')(l:∀c,S c->cx B ys c\/h0.aw<=c)(W:FZ h' n0 B' Kd/\(∀c,cx B' Kd c->cx B ys c\/h.aw<=c)/\(wI B ys->wI B' Kd)):cM h0 h' n0 B0 gZ B' Kd:=by
 have w:=T.g.aw;refine⟨W.1,fun c a=>?_,T.g.trans' g ai fun c a m=>?_,fun h=>W.2.2 (T.x h)⟩;rcases W.2.1 c a with h|h;exact T.s c h;exact .inr ab
 .rcases l c m with h|h;exact(T.s c h).elim id fun h=>ab
  omega
def cM.trans(T:cM h0 h n0 B0 gZ B ys)(U:cM h h' n0 B ys B' Kd):cM h0 h' n0 B0 gZ B' Kd:=T.step U.g (fun _ h=>.inl h) ⟨U.w,U.s,U.x⟩
def cM.go(T:cM h0 h n0 B0 gZ B ys)(g:ay S h h')(m:∀c,S c->h0.aw<=c/\¬cx B ys c):cM h0 h' n0 B0 gZ B ys:=
 T.step g (fun c a=>.inr (m c a).1) ⟨T.w.go T.g.ok g fun c l a e=>(m c a).2 ⟨l,e⟩,fun _ h=>.inl h,id⟩
def cM.ck(T:cM h0 h n0 B0 gZ B ys)(g:ay aZ h h'):cM h0 h' n0 B0 gZ B ys:=T.go g (fun _ h=>h.elim)
def FZ.own(w:FZ h n0 B ys)(hy:ys[i]?=some y){l:Lo}(e:y.loc l=some c){o:Option (Nat×Lo)}(m:eV B ys o=some c)(a:¬l.x):o=some (i,l):=(w.tf (some (i,l)) o c (by rw[cz hy];exact e) m a).symm
def cM.tz{y':YB}(T:cM h0 h n0 B0 gZ B ys)(Z:n0<=h0.aw)(hy:ys[i]?=some y){L:Lo->Prop}(g:ay (fun c=>(∃l,L l/\y.loc l=some c)\/h.aw<=c) h h')(own:∀l c o,L l->y.loc l=some c->eV B ys o=some c->o=some (i,l))(K:dZ.enc y'=dZ.enc y)(x:(∀c l,((∃l,L l/\y.loc l=some c)\/h.aw<=c)->¬L l->y.loc l≠some c)->BZ h' y')(I:∀p,yZ p y.loc->yZ p y'.loc)(O:∀l c,y'.loc l=some c->(∃H,y.loc H=some c/\(H.x->l.x))\/h.aw<=c):cM h0 h' n0 B0 gZ B (ys.set i y'):=by
 have w:=T.w;have F:=T.g.ok;have V:=T.g.aw;have Y:=w.at hy;have G:∀c,((∃l,L l/\y.loc l=some c)\/h.aw<=c)->∀o,eV B ys o=some c->∃l,L l/\o=some (i,l):=fun c a o m=>by rcases a with⟨l,D,e⟩|a;exact⟨l,D,own l c o D e m⟩;have:=w.lt F m;omega
 refine T.step g (fun c a=>a.imp (fun⟨l,_,e⟩=>⟨some (i,l),by rw[cz hy];exact e⟩) (fun e=>ab)) (w.tz F g ab hy (fun c a o m=>.inr ((G c a o m).imp fun _ h=>h.2)) ((w.A.go F g fun c a e=>?_).aa6 ?_) (x fun c l a D e=>?_) I O);obtain⟨l,_,h⟩:=G c a none e;cases h;rw[List.map_set,K];refine Cy fun k=>?_;rw[fL];by_cases e:i=k;subst e;rw[bM rfl,bM (by simpa using(di.mp hy).1),js,hy];rfl;rw[bU e];obtain⟨Q,h1,J⟩:=G c a (some (i,l)) (by rw[cz hy];exact e);cases J;exact D h1
def cM.row{q p':GP×SV}(T:cM h0 h n0 B0 gZ B ys)(V:n0<=h0.aw)(hy:ys[i]?=some y)(F:y.ps[j]?=some q)(g:ay (fun c=>(∃l,(l=.P\/l=.R j)/\y.loc l=some c)\/h.aw<=c) h h')(Q:eo iG h' y.P (y.ps.set j p'))(hA:eo cC h' p'.2 p'.1.row)(hb:∀c,eR p'.2=some c->eR q.2=some c\/h.aw<=c):cM h0 h' n0 B0 gZ B (ys.set i {y with ps:=y.ps.set j p'}):=by
 have D:=T.g.ok;have Y:=T.w.at hy;have I:=(di.mp F).1;have H:∀l,l≠ .R j->({y with ps:=y.ps.set j p'} :YB).loc l=y.loc l:=fun l a=>by
  cases l with
  |R k=>simp only[YB.loc];rw[fL,bU (fun e=>a (by rw[e]))]
  |_=>rfl
 have J:({y with ps:=y.ps.set j p'} :YB).loc (.R j)=eR p'.2:=by simp[YB.loc,I]
 refine T.tz V hy g (fun l c o a e O=>T.w.own hy e O (by rcases a with rfl|rfl<;>exact fun h=>h)) rfl (fun no=>⟨Q,Y.L.go D g fun c m=>no c .L m nofun,Y.T.go D g fun c m=>no c .T m nofun,fun z Z=>?_,fun x K=>?_⟩) (fun p inj=>inj.tz (.R j) H fun c m l a=>?_) fun l c a=>?_
 .obtain⟨k,w⟩:=iI Z;rw[fL] at w;by_cases e:j=k;rw[bM e,bM I] at w;cases w;exact hA
  .rw[bU e] at w;exact(Y.ps z (cN w)).go D g fun c m=>by rw[<-YB.jN (y:=y) w];exact no c _ m (fun G=>G.elim nofun fun G=>by cases G;exact e rfl)
 .obtain⟨k,w⟩:=iI K;exact(Y.ls x K).go D g fun c m=>by rw[<-YB.mm (y:=y) w];exact no c _ m nofun
 rw[J] at m;rcases hb c m with h1|h1;exact(inj l (.R j) c a (by rw[YB.jN F];exact h1)).imp id fun h=>h.2.2.elim;have:=Y.lt D a;omega
 by_cases e:l=.R j;rw[e,J] at a;exact(hb c a).imp (fun h=>⟨.R j,(by rw[YB.jN F];exact h),fun h=>h.elim⟩) id;rw[H l e] at a;exact .inl ⟨l,a,id⟩
def cM.ins{q p':GI×SV}(T:cM h0 h n0 B0 gZ B ys)(F:wI B ys)(V:n0<=h0.aw)(hy:ys[i]?=some y)(G:y.ls[j]?=some q)(g:ay (fun c=>(∃l,(l=.L\/l=.X j)/\y.loc l=some c)\/h.aw<=c) h h')(Q:eo gu h' y.L (y.ls.set j p'))(hA:eo cC h' p'.2 p'.1.args)(hb:∀c,eR p'.2=some c->eR q.2=some c\/h.aw<=c):cM h0 h' n0 B0 gZ B (ys.set i {y with ls:=y.ls.set j p'}):=by
 have D:=T.g.ok;have Y:=T.w.at hy;have J:=(di.mp G).1;have I:∀l,l≠ .X j->({y with ls:=y.ls.set j p'} :YB).loc l=y.loc l:=fun l m=>by
  cases l with
  |X k=>simp only[YB.loc];rw[fL,bU (fun e=>m (by rw[e]))]
  |_=>rfl
 have K:({y with ls:=y.ls.set j p'} :YB).loc (.X j)=eR p'.2:=by simp[YB.loc,J]
 refine T.tz V hy g (fun l c o _ e O=>(F o (some (i,l)) c O (by rw[cz hy];exact e)).elim id fun h=>h.1.elim) rfl (fun no=>⟨Y.P.go D g fun c a=>no c .P a nofun,Q,Y.T.go D g fun c a=>no c .T a nofun,fun x F=>?_,fun z Z=>?_⟩) (fun p inj=>inj.tz (.X j) I fun c a l m=>?_) fun l c m=>?_
 .obtain⟨k,w⟩:=iI F;exact(Y.ps x F).go D g fun c a=>by rw[<-YB.jN (y:=y) w];exact no c _ a nofun
 .obtain⟨k,w⟩:=iI Z;rw[fL] at w;by_cases e:j=k;rw[bM e,bM J] at w;cases w;exact hA
  .rw[bU e] at w;exact(Y.ls z (cN w)).go D g fun c a=>by rw[<-YB.mm (y:=y) w];exact no c _ a (fun H=>H.elim nofun fun H=>by cases H;exact e rfl)
 rw[K] at a;rcases hb c a with h1|h1;exact inj l (.X j) c m (by rw[YB.mm G];exact h1);have:=Y.lt D m;omega
 by_cases e:l=.X j;rw[e,K] at m;exact(hb c m).imp (fun h=>⟨.X j,(by rw[YB.mm G];exact h),fun _=>by rw[e];trivial⟩) id;rw[I l e] at m;exact .inl ⟨l,m,id⟩
def cM.to{to':List Int}(T:cM h0 h n0 B0 gZ B ys)(K:n0<=h0.aw)(hy:ys[i]?=some y)(g:ay (fun c=>(∃l,(l=.T)/\y.loc l=some c)\/h.aw<=c) h h')(J:eo encI h' y.T to'):cM h0 h' n0 B0 gZ B (ys.set i {y with to:=to'}):=by
 have D:=T.g.ok;have Y:=T.w.at hy;refine T.tz K hy g (fun l c o G e H=>T.w.own hy e H (by rw[G];exact fun h=>h)) rfl (fun no=>⟨Y.P.go D g fun c m=>no c .P m nofun,Y.L.go D g fun c m=>no c .L m nofun,J,fun x w=>?_,fun x w=>?_⟩) (fun p inj a b c h1 I=>inj a b c (by cases a<;>exact h1) (by cases b<;>exact I)) fun l c G=>.inl ⟨l,(by cases l<;>exact G),id⟩
 .obtain⟨k,F⟩:=iI w;exact(Y.ps x w).go D g fun c m=>by rw[<-YB.jN (y:=y) F];exact no c _ m nofun
 .obtain⟨k,F⟩:=iI w;exact(Y.ls x w).go D g fun c m=>by rw[<-YB.mm (y:=y) F];exact no c _ m nofun
end
structure mS{α:Type}(f:α->List (Bool×Int))(h:az)(M:Nat)(qs:List (α×SV)):Prop where
 arr:∀q∈qs,eo cC h q.2 (f q.1)
 lo:∀q∈qs,∀c,eR q.2=some c->M<=c
 inj:aeH fun j:Nat=>(qs[j]?).bind fun q:α×SV=>eR q.2
section
variable{α:Type}{f:α->List (Bool×Int)}{h h':az}{M:Nat}{qs:List (α×SV)}
def mS.go{S:Nat->Prop}(w:mS f h M qs)(l:cr h)(g:ay S h h')(D:∀c,S c->c<M\/h.aw<=c):mS f h' M qs:=
 ⟨fun q a=>(w.arr q a).go l g fun c m e=>by have:=w.lo q a c e;have:=D c m;have:=(w.arr q a).lt l e;omega,w.lo,w.inj⟩
def mS.ck(w:mS f h M qs)(a:cr h)(g:ay aZ h h'):mS f h' M qs:=w.go a g (fun _ h=>h.elim)
def mS.push{x:α}(w:mS f h M qs)(l:cr h)(g:ay aZ h h')(J:M<=h.aw)(hA:eo cC h' A (f x))(F:∀c,eR A=some c->h.aw<=c):mS f h' M (qs++[(x,A)]):=by
 have G:=w.ck l g;have lt:∀(j c:Nat),((qs[j]?).bind fun q:α×SV=>eR q.2)=some c->c<h.aw:=fun j c e=>by obtain⟨q,h1,H⟩:=Ev.1 e;exact(w.arr q (cN h1)).lt l H
 refine⟨fun q a=>?_,fun q a c e=>?_,w.inj.tz qs.length (fun j m=>?_) fun c D j m=>?_⟩;rcases jS.1 a with h|h;exact G.arr q h;simp at h;subst h;exact hA;rcases jS.1 a with h|h;exact w.lo q h c e;simp at h;subst h;have:=F c e;omega
 by_cases I:j<qs.length;rw[Iw I];rw[wY (by simp;omega),wY ab];simp at D;have:=F c D;have:=lt j c m;omega
def mS.lt(w:mS f h M qs)(l:cr h){j c:Nat}(e:((qs[j]?).bind fun q:α×SV=>eR q.2)=some c):M<=c/\c<h.aw:=by obtain⟨q,h1,a⟩:=Ev.1 e;exact⟨w.lo q (cN h1) c a,(w.arr q (cN h1)).lt l a⟩
def mS.nil:mS f h M []:=⟨fun q l=>by simp at l,fun q l=>by simp at l,fun a b c h=>by simp at h⟩
end
def set_drop{d qs:List α}{q x:α}(a:d.length=j)(m:qs[j]?=some q):(d++qs.drop j).set j x=(d++[x])++qs.drop (j+1):=by have l:=(di.mp m).1;rw[List.set_append,bU ab,a,Nat.sub_self,List.drop_eq_getElem_cons l,List.set_cons_zero,G1];rfl
def j6{d qs:List α}(a:d.length=j):(d++qs.drop j)[j]?=qs[j]? :=by rw[Ke ab,a,Nat.sub_self,List.getElem?_drop,gU_]
def Mt{f:α->β}{d:List α}{qs:List α}{q:α}{x:α}(l:qs[j]?=some q)(e:d.map f=(qs.map f).take j)(a:f x=f q):(d++[x]).map f=(qs.map f).take (j+1):=by rw[List.map_append,e,lg,js,l];simp[a]
def CpZ(h:az)(e:Env)(M X s0:Nat)(xc:List Value)(a:SV)(qs:List (GP×SV))(m:Nat)(e':Env)(h':az):Prop:=
 ∃(j:Nat) (d:List (GP×SV)),m=qs.length-j/\j<=qs.length/\d.length=j/\aM [5,6,28,29,30,31,32,33,34,35,36,37,38,39,40,41] e e'/\bJ e' 28 j/\ay (bt a.v) h h'/\h'.tr.get X=some (.bZ xc false 0 s0)/\eo iG h' a (d++qs.drop j)/\mS GP.row h' M d/\d.map (·.1)=(qs.map (·.1)).take j
def Tz(dt:cr h0)(g0:ay aZ h0 h){l L T:SV}{qs:List (GP×SV)}(hP:eo iG h l qs)(hq:∀q∈qs,aD vR 2 h0 q.2.v q.1.row/\q.1.row.length<2000000)(wg:qs.length<1000000)(Q:∀b,bt l.v b->h0.aw<=b/\b≠X)(hX:fC h X [l.v,L.v,.int .i64 kind,.bool on.1,.int .i64 on.2,T.v] s0)(f4:cm e 4 X)(f26:bH e 26=l.v)(f27:bJ e 27 qs.length)(f28:bJ e 28 0)(C:∀e' h' d,aM [5,6,28,29,30,31,32,33,34,35,36,37,38,39,40,41] e e'->ay (bt l.v) h h'->h'.tr.get X=some (.bZ [l.v,L.v,.int .i64 kind,.bool on.1,.int .i64 on.2,T.v] false 0 s0)->eo iG h' l d->mS GP.row h' h.aw d->d.map (·.1)=qs.map (·.1)->QQ (.exit 2) e' h'):aO FF (.loop uJ) e h QQ:=by
 have gY:=hP.len;refine aO.loop (CpZ h e h.aw X s0 [l.v,L.v,.int .i64 kind,.bool on.1,.int .i64 on.2,T.v] l qs) ?_ (n:=qs.length)
  ⟨0,[],rfl,ab,rfl,aM.refl _ _,f28,.refl g0.ok,hX,hP,.nil,ae⟩
 rintro m e' h'⟨j,d,rfl,hj,hd,K,JA,g,Z,a,R1,M1⟩;have q4:=K.at f4;have Ze:=K.at f26;have ML:=K.at f27;have D:=g.ok;have gg:ay aZ h0 h':=g0.trans' g ai (fun x hx e=>av ((Q x e).1));unfold uJ;by_cases bk:j<qs.length
 .have wj:=cg ((j:Int)+1) ab ab;obtain⟨q,KU⟩:=aV qs j bk;obtain⟨hq2,yb⟩:=hq q (cN KU);have O:=j6 (qs:=qs) hd;rw[KU] at O;obtain⟨b,cs,o,s,H,hb,hjA,dQ,cZ,fu⟩:=a.el O;have TW:=a.len;have QG:(d++qs.drop j).length=qs.length:=by simp;omega
  have r0:=cZ 0 2 ag;have oX:=D.cn Z;have Ho:=D.st _ _ _ _ _ Z;have ob:=D.cn hb;have nX:¬X=b:=fun e=>(Q b (eY H)).2 e.symm;simp[-ax] at r0;have Iz:=Z;simp at Iz;rw[H,TW,QG] at Iz;simp at Ze;rw[H,TW,QG] at Ze;have aco:s0<=h'.clock+1:=ab
  simp[q4,Ze,ML,JA,bk,r0,-ax,aH,cH,bw,oX,aF Iz,aQ];refine cu.cut (fun h5=>ay aZ h' h5) ((((ay.refl D).var _ _).tick)) ?_;intro h5 G;have R5:=R1.ck D G;have oJ:=G.get D Iz;have hb5:=G.get D hb;have J:=gg.trans G;refine cu.call (V:=jV cC h5 q.1.row) (aj (kC cC (bytes:=16) iF rfl ag J.ok ((BP hq2).ck dt J) yb)) ?_;rintro _ h6⟨w,F,rfl,hF,DM,hFc⟩;have R6:=R5.push (x:=q.1) J.ok w (by have:=g.aw;have:=G.aw;omega) hF (fun c Y=>by obtain⟨o,ho⟩:=hF.at Y;rcases hF.2 with⟨ha,_⟩|⟨b2,_,_,_,ha,_⟩;simp[eR,ha] at Y;rw[cy ha] at Y;cases Y;exact DM _ (eY ha))
  have po:=w.get J.ok oJ;have Ub:=w.get J.ok hb5;have Pr:=dQ 1 1 ag;simp at Pr;simp[po,aco,bk,Ub,Pr,JA,wj,q4];have gw:ay (· =b) h6 (put h6 b (j*2+1) cs [.slice F.a F.l F.c] o):=aY w.ok Ub;have lb:=hP.cn g0.ok (eY H);have I:=fu (q.1,F) 1 [F.v] ae rfl (put h6 b (j*2+1) cs [.slice F.a F.l F.c] o) ⟨_,aP _ _ _ _ _ _⟩;rw[set_drop hd KU] at I;refine⟨qs.length-(j+1),ab,j+1,d++[(q.1,F)],rfl,bk,au hd,?_,ae,((g.trans G.ck).trans w.ck).trans (gw.cY (fun x _ e=>e▸eY H)),?_,I,R6.go w.ok gw (fun c e=>ab),Mt KU M1 rfl⟩
  .exact aq
  have:=gw.get w.ok po nX;simpa [H,TW,QG] using this
 .have:j=qs.length:=ab
  subst this;simp at a M1;simp[ML,JA];exact C _ _ d (K.set) g Z a R1 (by rw[M1,pg ae])
def CxZ(h:az)(e:Env)(M X s0:Nat)(xc:List Value)(L':SV)(qs:List (GI×SV))(m:Nat)(e':Env)(h':az):Prop:=
 ∃(j:Nat) (d:List (GI×SV)),m=qs.length-j/\j<=qs.length/\d.length=j/\aM [7,8,49,50,51,52,53,54,55,56,57,58,59,60,61,62] e e'/\bJ e' 49 j/\ay (bt L'.v) h h'/\h'.tr.get X=some (.bZ xc false 0 s0)/\eo gu h' L' (d++qs.drop j)/\mS GI.args h' M d/\d.map (·.1)=(qs.map (·.1)).take j
def Tx(dt:cr h0)(g0:ay aZ h0 h){L' P T:SV}{qs:List (GI×SV)}(hP:eo gu h L' qs)(hq:∀q∈qs,aD vR 2 h0 q.2.v q.1.args/\q.1.args.length<2000000)(wg:qs.length<1000000)(O:∀b,bt L'.v b->h0.aw<=b/\b≠X)(hX:fC h X [P.v,L'.v,.int .i64 kind,.bool on.1,.int .i64 on.2,T.v] s0)(f4:cm e 4 X)(f26:bH e 47=L'.v)(f27:bJ e 48 qs.length)(f28:bJ e 49 0)(C:∀e' h' d,aM [7,8,49,50,51,52,53,54,55,56,57,58,59,60,61,62] e e'->ay (bt L'.v) h h'->h'.tr.get X=some (.bZ [P.v,L'.v,.int .i64 kind,.bool on.1,.int .i64 on.2,T.v] false 0 s0)->eo gu h' L' d->mS GI.args h' h.aw d->d.map (·.1)=qs.map (·.1)->QQ (.exit 4) e' h'):aO FF (.loop uI) e h QQ:=by
 have gY:=hP.len;refine aO.loop (CxZ h e h.aw X s0 [P.v,L'.v,.int .i64 kind,.bool on.1,.int .i64 on.2,T.v] L' qs) ?_ (n:=qs.length)
  ⟨0,[],rfl,ab,rfl,aM.refl _ _,f28,.refl g0.ok,hX,hP,.nil,ae⟩
 rintro m e' h'⟨j,d,rfl,hj,hd,K,JA,g,Q,a,R1,M1⟩;have q4:=K.at f4;have Ze:=K.at f26;have ML:=K.at f27;have w:=g.ok;have gg:ay aZ h0 h':=g0.trans' g ai (fun x hx e=>av ((O x e).1));unfold uI;by_cases bk:j<qs.length
 .have wj:=cg ((j:Int)+1) ab ab;obtain⟨q,Y⟩:=aV qs j bk;obtain⟨hq2,yb⟩:=hq q (cN Y);have J:=j6 (qs:=qs) hd;rw[Y] at J;obtain⟨b,cs,o,s,G,hb,hjA,dQ,cZ,fu⟩:=a.el J;have TW:=a.len;have QG:(d++qs.drop j).length=qs.length:=by simp;omega
  have r0:=cZ 0 8 ag;have oX:=w.cn Q;have Ho:=w.st _ _ _ _ _ Q;have ob:=w.cn hb;have nX:¬X=b:=fun e=>(O b (eY G)).2 e.symm;simp[-ax] at r0;have Z:=Q;simp at Z;rw[G,TW,QG] at Z;simp at Ze;rw[G,TW,QG] at Ze;have aco:s0<=h'.clock+1:=ab
  simp[q4,Ze,ML,JA,bk,r0,-ax,aH,cH,bw,oX,aF Z,aQ];refine cu.cut (fun h5=>ay aZ h' h5) ((((ay.refl w).var _ _).tick)) ?_;intro h5 D;have R5:=R1.ck w D;have oJ:=D.get w Z;have hb5:=D.get w hb;have I:=gg.trans D;refine cu.call (V:=jV cC h5 q.1.args) (aj (kC cC (bytes:=16) iF rfl ag I.ok ((BP hq2).ck dt I) yb)) ?_;rintro _ h6⟨l,F,rfl,hF,DM,hFc⟩;have R6:=R5.push (x:=q.1) I.ok l (by have:=g.aw;have:=D.aw;omega) hF (fun c hc=>by rcases hF.2 with⟨ha,_⟩|⟨b2,_,_,_,ha,_⟩;simp[eR,ha] at hc;rw[cy ha] at hc;cases hc;exact DM _ (eY ha))
  have po:=l.get I.ok oJ;have Ub:=l.get I.ok hb5;have Pr:=dQ 7 1 ag;simp at Pr;simp[po,aco,bk,Ub,Pr,JA,wj,q4];have gw:ay (· =b) h6 (put h6 b (j*8+7) cs [.slice F.a F.l F.c] o):=aY l.ok Ub;have lb:=hP.cn g0.ok (eY G);have H:=fu (q.1,F) 7 [F.v] ae rfl (put h6 b (j*8+7) cs [.slice F.a F.l F.c] o) ⟨_,aP _ _ _ _ _ _⟩;rw[set_drop hd Y] at H;refine⟨qs.length-(j+1),ab,j+1,d++[(q.1,F)],rfl,bk,au hd,?_,ae,((g.trans D.ck).trans l.ck).trans (gw.cY (fun x _ e=>e▸eY G)),?_,H,R6.go l.ok gw (fun c e=>ab),Mt Y M1 rfl⟩
  .exact aq
  have:=gw.get l.ok po nX;simpa [G,TW,QG] using this
 .have:j=qs.length:=ab
  subst this;simp at a M1;simp[ML,JA];exact C _ _ d (K.set) g Q a R1 (by rw[M1,pg ae])
structure OZ(h:az)(n0:Nat)(ys:List YB):Prop where
 r:∀y∈ys,BZ h y
 inj:Ks False (eV cK ys)
 new:∀l c,eV cK ys l=some c->n0<=c
section
variable{h h':az}{n0 n1:Nat}{ys:List YB}{y:YB}{B:SV}{S:Nat->Prop}
def OZ.lt(w:OZ h n0 ys)(a:cr h){l:Option (Nat×Lo)}{c:Nat}(e:eV cK ys l=some c):c<h.aw:=by
 match l with
 |none=>cases e
 |some (i,l)=>
  obtain⟨q,h1,m⟩:=Ev.1 e;exact(w.r q (cN h1)).lt a m
def OZ.go(w:OZ h n0 ys)(a:cr h)(g:ay S h h')(F:∀c,S c->c<n0\/h.aw<=c):OZ h' n0 ys:=
 ⟨fun y hy=>by
  obtain⟨i,D⟩:=iI hy;refine(w.r y hy).go a g fun c l m e=>?_;have h1:eV cK ys (some (i,l))=some c:=by rw[cz D];exact e
  have:=w.new _ c h1;have:=w.lt a h1;have:=F c m;omega,w.inj,w.new⟩
def OZ.push(w:OZ h n0 ys)(G:cr h)(g:ay S h h')(Q:∀c,S c->c<n0\/h.aw<=c)(Y:n0<=h.aw)(x:BZ h' y)(K:yZ False y.loc)(H:∀l c,y.loc l=some c->h.aw<=c):OZ h' n0 (ys++[y]):=by
 have O:=w.go G g Q;have key:∀(o:Option (Nat×Lo))(c:Nat),eV cK (ys++[y]) o=some c->(∃l,o=some (ys.length,l)/\y.loc l=some c)\/eV cK ys o=some c:=fun o c m=>by
  match o with
  |none=>cases m
  |some (k,l)=>
   rcases Nat.lt_trichotomy k ys.length with e|e|e;refine .inr ?_;simp only[eV] at m⊢;rw[Iw e] at m;exact m;subst e;exact .inl ⟨l,rfl,by simpa [eV] using m⟩;simp only[eV] at m;rw[wY (by simp;omega)] at m;cases m
 refine⟨fun z V=>?_,fun a b c ha hb=>?_,fun o c e=>?_⟩;rcases jS.1 V with h|h;exact O.r z h;simp at h;subst h;exact x
 .rcases key a c ha with⟨J,rfl,F⟩|F;rcases key b c hb with⟨I,rfl,D⟩|D;exact(K J I c F D).imp (fun h=>by rw[h]) id;have:=H J c F;have:=w.lt G D;omega
  .rcases key b c hb with⟨I,rfl,D⟩|D;have:=H I c D;have:=w.lt G F;omega
   exact w.inj a b c F D
 rcases key o c e with⟨l,rfl,p⟩|p;have:=H l c p;omega;exact w.new o c p
def OZ.nil:OZ h n0 []:=⟨fun y hy=>by simp at hy,fun a b c e=>by match a with
 |none=>cases e
 |some (i,l)=>simp[eV] at e,fun o c e=>by match o with
 |none=>cases e
 |some (i,l)=>simp[eV] at e⟩
def OZ.fz(w:OZ h n0 ys)(A:eo dZ h B ys)(F:∀c,eR B=some c->n1<=c/\c<n0)(H:n1<=n0):FZ h n1 B ys/\wI B ys:=by
 have key:∀(o:Option (Nat×Lo))(c:Nat),eV B ys o=some c->(o=none/\eR B=some c)\/eV cK ys o=some c:=fun o c G=>by
  match o with
  |none=>exact .inl ⟨rfl,G⟩
  |some (k,l)=>exact .inr G
 have inj:wI B ys:=fun a b c ha hb=>by
  rcases key a c ha with⟨rfl,D⟩|D;rcases key b c hb with⟨rfl,m⟩|m;exact .inl rfl;have:=F c D;have:=w.new b c m;omega
  .rcases key b c hb with⟨rfl,m⟩|m;have:=F c m;have:=w.new a c D;omega
   exact w.inj a b c D m
 refine⟨⟨A,w.r,fun a b c ha hb=>(inj a b c ha hb).imp id fun h=>h.1.elim,fun o c e=>?_⟩,inj⟩;rcases key o c e with⟨rfl,p⟩|p;exact(F c p).1;exact sx H (w.new o c p)
def mkZ{M0 M1 N1 M2 N2:Nat}(m:cr h)(D:eo iG h y.P y.ps)(I:eo gu h y.L y.ls)(F:eo encI h y.T y.to)(R1:mS GP.row h M1 y.ps)(R2:mS GI.args h M2 y.ls)(J:∀c,eR y.P=some c->M0<=c/\c<M1)(nR:∀q∈y.ps,∀c,eR q.2=some c->c<N1)(G:∀c,eR y.L=some c->N1<=c/\c<M2)(H:∀q∈y.ls,∀c,eR q.2=some c->c<N2)(w:∀c,eR y.T=some c->N2<=c)(h1:M0<=M1)(K:M1<=N1)(Q:N1<=M2)(O:M2<=N2):BZ h y/\yZ False y.loc/\∀l c,y.loc l=some c->M0<=c:=by
 have k:∀l c,y.loc l=some c->(match l with|.P=>M0<=c/\c<M1|.R _=>M1<=c/\c<N1|.L=>N1<=c/\c<M2|.X _=>M2<=c/\c<N2|.T=>N2<=c):=fun l c e=>by
  cases l with
  |P=>exact J c e
  |L=>exact G c e
  |T=>exact w c e
  |R j=>
   obtain⟨q,a,b⟩:=Ev.1 e;exact⟨(R1.lt m e).1,nR q (cN a) c b⟩
  |X j=>
   obtain⟨q,a,b⟩:=Ev.1 e;exact⟨(R2.lt m e).1,H q (cN a) c b⟩
 refine⟨⟨D,I,F,R1.arr,R2.arr⟩,fun a b c ha hb=>?_,fun l c e=>?_⟩;have p:=k a c ha;have q:=k b c hb;cases a<;>cases b<;>first|exact .inl rfl|(exfalso;dsimp only at p q;omega)|exact .inl (congrArg _ (R1.inj _ _ c ha hb))|exact .inl (congrArg _ (R2.inj _ _ c ha hb))
 have p:=k l c e;cases l<;>dsimp only at p<;>omega
end
structure GQ(b:GB):Prop where
 lp:b.bD.length<100000
 ll:b.list.length<100000
 lr:∀p∈b.bD,p.row.length<100000
 la:∀x∈b.list,x.args.length<100000
 lt:b.to.length<100000
structure aaU(h0:az)(y:YB)(b:GB):Prop where
 kind:y.kind=b.kind
 on:y.on=b.on
 P:aD (pR h0) 2 h0 y.P.v b.bD
 L:aD (iR h0) 8 h0 y.L.v b.list
 T:aD nR 1 h0 y.T.v b.to
def abr{P:α×β->α->Prop}{ys:List (α×β)}{xs:List α}(w:ys.length=xs.length)(H:∀(i:Nat)(y:α×β)(x:α),ys[i]?=some y->xs[i]?=some x->y.1=x/\P y x):ys.map (·.1)=xs/\∀y∈ys,P y y.1:=by
 have k:∀(i:Nat)(y:α×β),ys[i]?=some y->xs[i]?=some y.1/\P y y.1:=fun i y hy=>by have l:=(di.mp hy).1;obtain⟨x,m⟩:=aV xs i;obtain⟨a,b⟩:=H i y x hy m;rw[m,a];exact⟨rfl,b⟩
 refine⟨Cy fun i=>?_,fun y hy=>?_⟩
 .rw[js];cases h:ys[i]? with
  |none=>rw[List.getElem?_eq_none_iff] at h;exact(List.getElem?_eq_none_iff.2 ab).symm
  |some y=>exact(k i y h).1.symm
 obtain⟨i,l⟩:=iI hy;exact(k i y l).2
def apI{xs:List GP}(s:aD (pR h) 2 h v xs):∃qs:List (GP×SV),qs.map (·.1)=xs/\bj iG h v qs/\∀q∈qs,aD vR 2 h q.2.v q.1.row:=by obtain⟨qs,l,m,H⟩:=aD.pick (E:=iG) (Q:=fun(q:GP×SV) (p:GP)=>q.1=p/\aD vR 2 h q.2.v p.row) s (fun c x ⟨A,e,hA⟩=>⟨(x,A),e,rfl,hA⟩);obtain⟨a,b⟩:=abr l H;exact⟨qs,a,m,b⟩
def ao7{xs:List GI}(s:aD (iR h) 8 h v xs):∃qs:List (GI×SV),qs.map (·.1)=xs/\bj gu h v qs/\∀q∈qs,aD vR 2 h q.2.v q.1.args:=by obtain⟨qs,l,m,H⟩:=aD.pick (E:=gu) (Q:=fun(q:GI×SV) (p:GI)=>q.1=p/\aD vR 2 h q.2.v p.args) s (fun c x ⟨A,e,hA⟩=>⟨(x,A),e,rfl,hA⟩);obtain⟨a,b⟩:=abr l H;exact⟨qs,a,m,b⟩
def amx{xs:List GB}(s:aD (bR h) 6 h v xs):∃ys:List YB,ys.length=xs.length/\bj dZ h v ys/\∀(i:Nat)(y:YB)(b:GB),ys[i]?=some y->xs[i]?=some b->aaU h y b:=
 aD.pick (E:=dZ) (Q:=aaU h) s (fun c x ⟨P,L,T,e,m,l,a⟩=>⟨⟨P,L,T,x.kind,x.on,[],[],[]⟩,e,rfl,rfl,m,l,a⟩)
def jV.eR{α:Type}{E:Enc α}{h h':az}{w:SV}{xs:List α}(m:eo E h' w xs)(l:∀b,bt w.v b->h.aw<=b)(c:Nat)(a:Go.Proofs.YtdhnndleffachaaGreatDoor.eR w=some c):h.aw<=c:=by rcases m.2 with⟨ha,_⟩|⟨D,_,_,_,ha,_⟩;simp[Go.Proofs.YtdhnndleffachaaGreatDoor.eR,ha] at a;rw[cy ha] at a;cases a;exact l _ (eY ha)
def CyZ(h1:az)(M0 F R:Nat)(B':SV)(ys:List YB)(bs:List GB)(m:Nat)(e:Env)(h':az):Prop:=
 ∃(j:Nat) (d:List YB),m=bs.length-j/\j<=bs.length/\d.length=j/\cm e 1 F/\cm e 2 R/\bH e 14=B'.v/\bJ e 15 bs.length/\bJ e 16 j/\ay (bt B'.v) h1 h'/\eo dZ h' B' (d++ys.drop j)/\OZ h' M0 d/\d.map YB.g=bs.take j
def NP(dt:cr h0)(g1:ay aZ h0 h1){F R s1 s2:Nat}{p r:Int}{B':SV}{ys:List YB}(hB:eo dZ h1 B' ys)(yU:ys.length=bs.length)(hy:∀(i:Nat)(y:YB)(b:GB),ys[i]?=some y->bs[i]?=some b->aaU h0 y b)(E6:∀b∈bs,GQ b)(qW:bs.length<1000000)(hBM:∀b,bt B'.v b->h0.aw<=b/\b≠F/\b≠R)(hF:fC h1 F (aC name p r B') s1)(hR:fC h1 R [.string ⟨⟨[]⟩⟩,.int .i64 0,.int .i64 0,.slice none 0 0] s2)(f1:cm e 1 F)(f2:cm e 2 R)(f14:bH e 14=B'.v)(f15:bJ e 15 bs.length)(f16:bJ e 16 0)(C:∀e' h' d,cm e' 1 F->cm e' 2 R->ay (bt B'.v) h1 h'->eo dZ h' B' d->OZ h' h1.aw d->d.map YB.g=bs->QQ (.exit 0) e' h'):aO FF (.loop uK) e h1 QQ:=by
 have dT:=hB.len;refine aO.loop (CyZ h1 h1.aw F R B' ys bs) ?_ (n:=bs.length) ⟨0,[],rfl,ab,rfl,f1,f2,f14,f15,f16,.refl g1.ok,hB,.nil,ae⟩;rintro m e' h'⟨j,d,rfl,hj,hd,q1,q2,xy,yV,Fv,g,O,W,Md⟩;have C4:=g.ok;have gg:ay aZ h0 h':=g1.trans' g ai (fun x Q e=>av ((hBM x e).1));have nz:=g.get g1.ok hF (fun e=>(hBM F e).2.1 rfl);have hR':=g.get g1.ok hR (fun e=>(hBM R e).2.2 rfl);have lB1:∀x,bt B'.v x->x<h1.aw:=fun x Q=>hB.cn g1.ok Q;have lF1:=g1.ok.wf _ _ hF;have lR1:=g1.ok.wf _ _ hR;have ln1:=g.aw;unfold uK;by_cases bk:j<bs.length
 .have wj:=cg ((j:Int)+1) ab ab;obtain⟨b,hb⟩:=aV bs j bk;obtain⟨y,hyj⟩:=aV ys j;have hT:=hy j y b hyj hb;have I:=E6 b (cN hb);have ao0:=j6 (qs:=ys) hd;rw[hyj] at ao0;obtain⟨bB,cs,oB,sB,fp,Gg,hjB,dQ,cZ,fu⟩:=O.el ao0;have Cz:=O.len;have ajE:(d++ys.drop j).length=bs.length:=by simp;omega
  have r0:=cZ 0 6 ag;simp[-ax] at r0;simp at xy;rw[fp,Cz,ajE] at xy;have gY:=aD.len hT.P;have jt:=aD.len hT.L;have u5:=aD.len hT.T;simp[xy,yV,Fv,bk,r0,-ax,aH];refine bm.cut (fun h2=>ay aZ h' h2/\(dg h2 h'.aw [y.P.v,y.L.v,.int .i64 y.kind,.bool y.on.1,.int .i64 y.on.2,y.T.v])) ⟨(ay.refl C4).var _ _,_,aP _ _ _ _ _ _⟩ ?_;rintro h2⟨g2,s3,eC⟩;have jC:=gg.trans g2;have lX:h'.aw<h2.aw:=jC.ok.wf _ _ eC;obtain⟨qs0,DQ,avV,avU⟩:=apI hT.P;have afz:qs0.length=b.bD.length:=by rw[<-DQ];simp
  refine bm.call (V:=jV iG h2 qs0) (aj (kC iG (bytes:=32) pO rfl ag jC.ok (avV.ck dt jC) (av I.lp))) ?_;rintro _ h3⟨g3,a,rfl,hP3,w,_⟩;have eD:=g3.get jC.ok eC;have ef:=jC.trans g3;have abF:=hP3.len;have nP:=jV.eR hP3 w;simp at eD;simp[eD,abF,afz];refine aO.cut (fun h4=>ay (· =h'.aw) h3 h4/\(dg h4 h'.aw [a.v,y.L.v,.int .i64 y.kind,.bool y.on.1,.int .i64 y.on.2,y.T.v])) ?_ ?_
  refine⟨aY ef.ok eD,h3.clock,?_⟩;rw[aP];simp[abF,afz,bg];rintro h4⟨g4,s4,kR⟩;have pT:ay aZ h0 h4:=ef.trans' g4 ai (fun x Q e=>av gg.aw);have hP4:eo iG h4 a qs0:=hP3.grow ef.ok g4 (fun b hb e=>av (w b hb));have l3:=g3.aw;have l4:=g4.aw;have pm:∀q∈qs0,q.1∈b.bD:=fun q J=>by rw[<-DQ];exact jo.2 ⟨q,J,rfl⟩
  refine Tz dt pT hP4 (fun q J=>⟨avU q J,av (I.lr _ (pm q J))⟩) (av I.lp) (fun b hb=>⟨by have:=w b hb;have:=jC.aw;omega,av (w b hb)⟩) kR ae (by simp[abF,afz]) (au afz) ae ?_;intro e5 h5 d5 K5 g5 oJ hP5 R5 M5;have S5:=pT.ok;have Z:ay aZ h0 h5:=pT.trans' g5 ai (fun x Q e=>by have:=w x e;have:=jC.aw;omega);have k1:=K5.at (t:=1) (ak q1);have k2:=K5.at (t:=2) (ak q2);have k3:bH e5 3=.int .i64 j:=K5.at ae;have k4:cm e5 4 h'.aw:=K5.at ae;have k14:=K5.at (t:=14) (ak xy);have k15:=K5.at (t:=15) (ak yV);have k16:=K5.at (t:=16) (ak Fv);have l5:=g5.aw;simp at oJ;simp[k4,oJ];obtain⟨xs0,hx0,awA,awz⟩:=ao7 hT.L;have afE:xs0.length=b.list.length:=by rw[<-hx0];simp
  refine bm.call (V:=jV gu h5 xs0) (aj (kC gu (bytes:=80) pN rfl ag Z.ok (awA.ck dt Z) (av I.ll))) ?_;rintro _ h6⟨g6,G,rfl,Pj,H,_⟩;have po:=g6.get Z.ok oJ;have Wf:=Z.trans g6;have aiy:=Pj.len;have nL:=jV.eR Pj H;simp[k4,po,aiy,afE];refine aO.cut (fun h7=>ay (· =h'.aw) h6 h7/\(dg h7 h'.aw [a.v,G.v,.int .i64 y.kind,.bool y.on.1,.int .i64 y.on.2,y.T.v])) ?_ ?_
  refine⟨aY Wf.ok po,h6.clock,?_⟩;rw[aP];simp[aiy,afE,bg];rintro h7⟨g7,s7,LZ⟩;have gg7:ay aZ h0 h7:=Wf.trans' g7 ai (fun x Q e=>av gg.aw);have hL7:eo gu h7 G xs0:=Pj.grow Wf.ok g7 (fun b hb e=>av (H b hb));have l6:=g6.aw;have l7:=g7.aw;have xm:∀q∈xs0,q.1∈b.list:=fun q J=>by rw[<-hx0];exact jo.2 ⟨q,J,rfl⟩
  refine Tx dt gg7 (kind:=y.kind) (on:=y.on) (P:=a) (T:=y.T) hL7 (fun q J=>⟨awz q J,av (I.la _ (xm q J))⟩) (av I.ll) (fun b hb=>⟨by have:=H b hb;have:=Z.aw;omega,av (H b hb)⟩) LZ (au k4) (by simp[aiy,afE]) (au afE) ae ?_;intro e8 h8 d8 K8 g8 TY hL8 R8 M8;have ok7:=gg7.ok;have XL:ay aZ h0 h8:=gg7.trans' g8 ai (fun x Q e=>by have:=H x e;have:=Z.aw;omega);have m1:=K8.at (t:=1) (ak k1);have m2:=K8.at (t:=2) (ak k2);have m3:bH e8 3=.int .i64 j:=K8.at (ak k3);have m4:cm e8 4 h'.aw:=K8.at (ak k4);have m14:=K8.at (t:=14) (ak k14);have m15:=K8.at (t:=15) (ak k15);have m16:=K8.at (t:=16) (ak k16);simp at TY;simp[m4,TY];refine bm.call (V:=jV encI h8 b.to) (aj (kC encI (bytes:=8) nW rfl ag XL.ok ((Rh hT.T).ck dt XL) (av I.lt))) ?_;rintro _ h9⟨g9,D,rfl,hT9,hTn,_⟩;have hX9:=g9.get XL.ok TY;have gg9:=XL.trans g9;have l8:=g8.aw;have l9:=g9.aw;have nT:=jV.eR hT9 hTn;have g58:ay (fun c=>c=h'.aw\/h5.aw<=c) h5 h8:=(g6.ck.trans' g7 ai (fun x _ e=>.inl e)).trans' g8 ai (fun x _ e=>.inr (av (H x e)));have hP8:eo iG h8 a d5:=hP5.grow Z.ok g58 (fun b hb e=>by have:=w b hb;have:=hP5.cn Z.ok hb;omega);have R58:mS GP.row h8 h4.aw d5:=R5.go Z.ok g58 (fun c e=>ab);obtain⟨Y,Yi,Ylo⟩:=mkZ (y:=⟨a,G,D,y.kind,y.on,d5,d8,b.to⟩) (M0:=h2.aw) (M1:=h4.aw) (N1:=h5.aw) (M2:=h7.aw) (N2:=h8.aw) gg9.ok (hP8.ck XL.ok g9) (hL8.ck XL.ok g9) hT9 (R58.ck XL.ok g9) (R8.ck XL.ok g9) (fun c K=>⟨nP c K,av (hP3.lt ef.ok K)⟩) (fun q J c K=>(R5.arr q J).lt Z.ok K) (fun c K=>⟨nL c K,av (Pj.lt Wf.ok K)⟩) (fun q J c K=>(R8.arr q J).lt XL.ok K) nT ab ab ab ab;have gN:ay aZ h' h9:=by have a1:ay aZ h' h4:=(g2.trans g3).trans' g4 ai (fun x Q e=>ab);have a2:ay aZ h' h5:=a1.trans' g5 ai (fun x Q e=>av (w x e));exact(a2.trans' g58 ai (fun x Q e=>ab)).trans g9
  have hF9:=gN.get C4 nz;have hR9:=gN.get C4 hR';have anh:=gN.get C4 Gg;simp[aC] at hF9;rw[fp,Cz,ajE] at hF9;have lB:=(C4.cn Gg).lt;have lF:=(C4.cn nz).lt;have nFX:¬F=h'.aw:=ab
  have nBX:¬bB=h'.aw:=ab
  have hf6:=dQ 0 6 ag;simp at hf6;simp[m1,m3,m4,m16,hX9,hF9,nFX,nBX,bk,anh,hf6,wj];have g10:=aY (off:=5) (vs:=[.slice D.a D.l D.c]) gg9.ok hX9;have anf:=g10.get gg9.ok anh nBX;have II:=fu ⟨a,G,D,y.kind,y.on,d5,d8,b.to⟩ 0 [.slice a.a a.l a.c,.slice G.a G.l G.c,.int .i64 y.kind,.bool y.on.1,.int .i64 y.on.2,.slice D.a D.l D.c] ae rfl;generalize put h9 h'.aw 5 _ _ 0=LX at*;have g11:=aY (off:=j*6) (vs:=[.slice a.a a.l a.c,.slice G.a G.l G.c,.int .i64 y.kind,.bool y.on.1,.int .i64 y.on.2,.slice D.a D.l D.c]) g10.ok anf;have hs2:=II (put LX bB (j*6) cs [.slice a.a a.l a.c,.slice G.a G.l G.c,.int .i64 y.kind,.bool y.on.1,.int .i64 y.on.2,.slice D.a D.l D.c] oB) ⟨_,aP _ _ _ _ _ _⟩;generalize put LX bB (j*6) _ _ oB=h11 at*;rw[set_drop hd hyj] at hs2;have gS:ay (fun x=>x=h'.aw\/x=bB) h9 h11:=g10.trans' g11 (fun _ _ h=>.inl h) (fun _ _ h=>.inr h);have lb1:=lB1 bB (eY fp);have gF:ay (bt B'.v) h' h11:=gN.trans' gS (fun _ _ h=>h.elim) (fun x Q h=>by rcases h with rfl|rfl;omega;exact eY fp)
  refine⟨bs.length-(j+1),ab,j+1,d++[⟨a,G,D,y.kind,y.on,d5,d8,b.to⟩],rfl,bk,au hd,au m1,au m2,by simp[m14,fp,Cz,ajE],by simp[m15],ae,g.trans gF,hs2,W.push C4 gF (fun c K=>av (lB1 c K)) ln1 (Y.go gg9.ok gS fun c l K e=>av (Ylo l c e)) Yi (fun l c e=>av (Ylo l c e)),?_⟩;rw[List.map_append,Md,lg,hb];simp only[xX,List.map_nil,YB.g,M5,DQ,M8,hx0,hT.kind,hT.on];rfl
 .have:j=bs.length:=ab
  subst this;rw[<-yU] at O;simp at O Md;simp[yV,Fv];exact C _ _ d (au q1) (au q2) g O W Md
def mQ(name:ByteArray)(p r:Int)(bs:List GB)(h:az)(v:Value)(h':az):Prop:=
 ay aZ h h'/\∃(B':SV) (ys:List YB),v=.agg ⟨aC name p r B'⟩/\FZ h' h.aw B' ys/\wI B' ys/\ys.map YB.g=bs
def Tw(ok:cr h){name:ByteArray}{p r:Int}(hB:qg h B bs)(E6:∀b∈bs,GQ b)(qW:bs.length<1000000):bc FF 69 [.agg ⟨aC name p r B⟩] h (mQ name p r bs h):=by
 refine bc.of Nv ?_;unfold Dp;simp[aC];refine bm.cut (fun h1=>ay aZ h h1/\h1.tr.get h.aw=some (.bZ (aC name p r B) false 0 0)/\h1.tr.get (h.aw+1)=some (.bZ [.string ⟨⟨[]⟩⟩,.int .i64 0,.int .i64 0,.slice none 0 0] false 0 0)) ?_ ?_;exact⟨((ay.refl ok).new _ _).new _ _,by simp[aC],ae⟩;rintro h1⟨l,yD,Bg⟩;obtain⟨gZ,yU,Y,hy⟩:=amx hB;refine bm.call (V:=jV dZ h1 gZ) (aj (kC dZ (bytes:=96) mF rfl ag l.ok (Y.ck ok l) ab)) ?_;rintro _ h2⟨F,B',rfl,Q,a,_⟩;have G:=l.trans F;have O:=F.get l.ok yD;have w_:=F.get l.ok Bg;have lR:=l.ok.wf _ _ Bg;have at0:=Q.len;simp[aC] at O;simp[O];refine aO.cut (fun H=>ay (· =h.aw) h2 H/\(dg H h.aw (aC name p r B'))) ?_ ?_
 refine⟨aY G.ok O,h2.clock,?_⟩;rw[aP];simp[aC,bg];rintro H⟨I,s3,uT⟩;have m:ay aZ h H:=G.trans' I ai (fun x hx e=>ab);have w:=Q.grow G.ok I (fun b hb e=>av (a b hb));have Ew:=I.get G.ok w_ ab;have ln3:=I.aw;have l2:=F.aw;refine NP ok m w yU hy E6 qW (fun b hb=>⟨av (a b hb),av (a b hb),av (a b hb)⟩) uT Ew ae ae ae (by simp[at0,yU]) ae ?_;intro e4 J d q1 q2 g4 K W4 Md;have D:ay aZ h J:=m.trans' g4 ai (fun x hx e=>av (a x e));have BH:=g4.get m.ok uT (fun e=>av (a _ e));have KP:=g4.get m.ok Ew (fun e=>av (a _ e));simp[aC] at BH;simp[q1,q2,BH,KP];have gR:ay (· =h.aw+1) J (put J (h.aw+1) 0 [.string ⟨⟨[]⟩⟩,.int .i64 0,.int .i64 0,.slice none 0 0] [.string name,.int .i64 p,.int .i64 r,.slice B'.a B'.l B'.c] 0):=aY D.ok KP;have W5:=W4.go D.ok gR (fun b e=>ab);have Z:=K.grow D.ok gR (fun b hb e=>av (a b hb));obtain⟨w1,w2⟩:=W5.fz (n1:=h.aw) Z (fun c hc=>⟨av (jV.eR Q a c hc),av (w.lt m.ok hc)⟩) ab;exact⟨D.trans' gR ai (fun x hx e=>ab),B',d,rfl,w1,w2,Md⟩
def aky:List Nat:=[13,34,35,36,78,79,80,81,82,83,84,85,86,87,88,89,101,132,138,139,140,141,142,143,144,145,146,147,148,149,150,192,193,199,200,201,202,203,204,205,206,207,208,209,210,211,246]
def akx(f:Nat):Bool:=aky.any (Nat.beq f)
def agk{f:Nat}(h:akx f=true):f∈aky:=by obtain⟨x,a,e⟩:=List.any_eq_true.1 h;rw[rz e];exact a
def akz(a:0<h0.aw)(l:h0.aw<=ha.aw):FSh (vL h0 ha hb akx a l) FF:=aik aky (fun _ h=>agk h) (by kernel_rfl)
def OW(C:HB h0)(m:cr h0)(w:0<h0.aw)(g0:ay aZ h0 ha)(H:ay aZ ha hb){G F:SV}(O:GR h0)(Q:uR h0 G F u)(V:EG u)(J:mI h0.aw G.v/\mI h0.aw F.v){c a:Int}(D:bc FF 13 [.agg ⟨[G.v,F.v]⟩] ha (fun v _=>v=.agg ⟨[.int .i64 c,.int .i64 a]⟩)):bc FF 13 [.agg ⟨[G.v,F.v]⟩] hb (fun v h'=>v=.agg ⟨[.int .i64 c,.int .i64 a]⟩/\xJ (Bs u) hb v h'):=by
 have l:=g0.trans H;refine(frame akx w C m g0 H (akz w g0.aw) (f:=13) rfl (fun v I=>?_) rfl D).both (GA l.ok (O.grow m l) (Q.mono m l) V);simp at I;subst I;exact .inr ⟨_,rfl,fun c K=>by simp at K;rcases K with rfl|rfl;simpa using J.1;simpa using J.2⟩
end Go.Proofs.YtdhnndleffachaaGreatDoor
namespace Go.AI.Edge
variable{p:Nat}
def Rch(tss:List (List Int))(x:Nat):Prop:=∀S:Nat->Prop,S 0->(∀a l,S a->tss[a]?=some l->∀t∈l,S t.toNat)->S x
def Rch.zero(tss:List (List Int)):Rch tss 0:=fun _ h _=>h
def Rch.step{tss:List (List Int)}{a:Nat}{ts:List Int}(h:Rch tss a)(ha:tss[a]?=some ts){t:Int}(m:t∈ts):Rch tss t.toNat:=fun S h0 l=>l a ts (h S h0 l) ha t m
def Ld(tss:List (List Int)):List (List Nat):=tss.map (·.map Int.toNat)
def RT{tss:List (List Int)}{p x:Nat}(h:x∈Dfs.row (Ld tss) p):∃a t,tss[p]?=some a/\t∈a/\x=t.toNat:=by
 unfold Dfs.row Ld at h;rw[js] at h;cases l:tss[p]? with
 |none=>rw[l] at h;simp at h
 |some a=>
  rw[l] at h;simp at h;obtain⟨t,m,e⟩:=h;exact⟨a,t,rfl,m,e.symm⟩
def ZA{tss:List (List Int)}{ts:List Int}{t:Int}(a:tss[p]?=some ts)(l:t∈ts):t.toNat∈Dfs.row (Ld tss) p:=by unfold Dfs.row Ld;rw[js,a];simp;exact⟨t,l,rfl⟩
def adg{tss:List (List Int)}(h0:0<tss.length)(Oh:∀D∈tss,∀t∈D,t.toNat<tss.length)(x:Nat):x∈Dfs.sK (Ld tss) tss.length↔Rch tss x:=by
 obtain⟨nd,lt,⟨new,K⟩,cl,up⟩:=Dfs.Ht (tos:=Ld tss) h0 (fun b t G=>by obtain⟨D,u,h1,w,rfl⟩:=RT G;exact Oh D (cN h1) u w);constructor
 .
  intro hx;obtain⟨l,m,e⟩:=List.append_of_mem hx;have key:∀(n:Nat)(l m:List Nat)(x:Nat),m.length<=n->Dfs.sK (Ld tss) tss.length=l++x::m->Rch tss x:=by
   intro n;induction n with
   |zero=>
    intro l m x I e;have:m=[]:=Wg ab;subst this;rw[K] at e;have:=(List.append_inj' e rfl).2;cases this;exact Rch.zero _
   |succ n ih=>
    intro l m x I e;by_cases F:x=0;subst F;exact Rch.zero _
    .obtain⟨p,hp,J,Y,em,Yd⟩:=up x (by rw[e];simp) F;have Q:l++x::m=J++x::Y:=by rw[<-e,<-em]
     have H:(l++x::m).Nodup:=by rw[<-e];exact nd
     have dJ:l.length=J.length:=by
      have i1:(l++x::m)[l.length]?=some x:=ae
      have Z:(l++x::m)[J.length]?=some x:=by rw[Q];simp
      have h1:=(di.mp i1);have w:=(di.mp Z);obtain⟨a1,a2⟩:=h1;obtain⟨b1,b2⟩:=w;exact(List.getElem_inj H).1 (a2.trans b2.symm)
     have e3:=(List.append_inj Q dJ).2;cases e3;obtain⟨V,k2,O⟩:=List.append_of_mem Yd;have hr:=ih (l++x::V) k2 p (by rw[O] at I;simp at I;omega) (by rw[e,O];simp);obtain⟨D,t,h1,w,rfl⟩:=RT hp;exact hr.step h1 w
  exact key m.length l m x (fh _) e
 intro h;refine h (fun y=>y∈Dfs.sK (Ld tss) tss.length) (by rw[K];simp) (fun a D ha Al t G=>cl a ha _ (ZA Al G))
end Go.AI.Edge
namespace Go.Proofs.YtdhnndleffachaaGreatDoor
open Go.AI
variable{W:SV}{gs:List GG}{h:az}{v:Value}{xs:List Int}
def RnC:List Nat:=[10,12,45,46,47,48,49,50,51,52,53,54,55,56,57,58,59]
def ChD:List Nat:=[54,55,56,57,58,59,60,61,62,63]
def ChA:List Nat:=[64,65,66,67,68,69,70,71,72,73,74,75,76,77]
def z7(N nb:Nat)(x:Nat):Prop:=x=N\/x=nb
section
variable{n0 aB:Nat}{κ cap:Nat->Nat}{B:SV}{rs:List XR}{N nb:Nat}
def NaL:List Nat:=[12,79,80,81,82,83,84,85,86]
def NpL:List Nat:=[8,52,53,54,55,56,57,58,59,60]
end
section
variable{n0 aB:Nat}{κ cap:Nat->Nat}{B:SV}{rs:List XR}{N nb:Nat}
def NlL:List Nat:=[10,12,64,65,66,67,68,69,70,71,72,73,74,75,76,77,78,79,80,81,82,83,84,85,86,87,88,89,90,91,92,93,94]
end
section
variable{n0 aB:Nat}{κ cap:Nat->Nat}{B:SV}{rs:List XR}{N nb:Nat}
def WaL:List Nat:=[21,22,164,165,166,167,168,169,170,171,172,173,174,175,176]
def WrL:List Nat:=[17,18,129,130,131,132,133,134,135,136,137,138,139,140,141]
end
section
variable{n0 aB:Nat}{κ cap:Nat->Nat}{B:SV}{rs:List XR}{N nb:Nat}
def WpL:List Nat:=[15,16,17,18,112,113,114,115,116,117,118,119,120,121,122,123,124,125,126,127,128,129,130,131,132,133,134,135,136,137,138,139,140,141,142]
end
section
variable{n0 aB:Nat}{κ cap:Nat->Nat}{B:SV}{rs:List XR}{N nb:Nat}
def WlD:List Nat:=[151,152,153,154,155,156,157,158,159,160]
def WlL:List Nat:=[19,20,21,22,146,147,148,149,150,151,152,153,154,155,156,157,158,159,160,161,162,163,164,165,166,167,168,169,170,171,172,173,174,175,176,177,178,179,180,181,182,183,184,185,186,187,188,189,190]
end
section
variable{n0 aB:Nat}{κ cap:Nat->Nat}{B:SV}{rs:List XR}{N nb:Nat}
def WbD:List Nat:=[191,192,193,194,195,196,197,198,199,200,201]
end
def aeC(bs:List GB):Prop:=bs.length<=1000/\∀b∈bs,b.bD.length<=1000000/\b.list.length<=1000000
def gS(c:List Value)(g:GG):Prop:=∃I:SV,c=[.string g.name,.int .i64 g.size,I.v]
def aD.imp{α:Type}{R m:List Value->α->Prop}{sz:Nat}{xs:List α}(s:aD R sz h v xs)(D:∀c x,R c x->m c x):aD m sz h v xs:=by obtain⟨a,cap,rfl,s⟩:=s;refine⟨a,cap,rfl,?_⟩;rcases s with s|⟨b,off,F,ro,o,st,rfl,hb,l⟩;exact .inl s;exact .inr ⟨b,off,F,ro,o,st,rfl,hb,fun i x w=>⟨(l i x w).1,D _ _ (l i x w).2⟩⟩
def agJ{h h':az}(s:aD (gR h) 3 h' v gs):aD gS 3 h' v gs:=aD.imp s fun _ _ ⟨I,e,_⟩=>⟨I,e⟩
def ig(gs:List GG):Int:=(gs.map (·.size)).sum
def aeG(gs:List GG):Prop:=gs.length<=10/\∀g∈gs,1<=g.size/\g.size<=200
def GL{j:Nat}{g:GG}(h:gs[j]?=some g):ig (gs.take (j+1))=ig (gs.take j)+g.size:=by unfold ig;rw[lg,h];simp
def FI(a:∀g∈gs,1<=g.size/\g.size<=200):0<=ig gs/\ig gs<=200*gs.length:=by
 induction gs with
 |nil=>simp[ig]
 |cons g gs l=>
  have h1:=l (fun x m=>a x (au m));have w:=a g ae;unfold ig at h1⊢;simp only[xX,List.sum_cons,List.length_cons];omega
def ata(h:az)(G:SV)(gs:List GG)(m:Nat)(e:Env)(a:az):Prop:=
 ∃j:Nat,m=gs.length-j/\j<=gs.length/\bJ e 3 (ig (gs.take j))/\bH e 7=G.v/\bJ e 8 gs.length/\bJ e 9 j/\ay aZ h a
def Ng(gs:List GG)(h:az)(v:Value)(h':az):Prop:=ay aZ h h'/\v=.int .i64 (ig gs)
def Q7(ok:cr h){G F:SV}(hG:aD gS 3 h G.v gs)(C:aeG gs):bc FF 30 [.agg ⟨[G.v,F.v]⟩] h (Ng gs h):=by
 have w:=aD.len hG;obtain⟨hl,hs⟩:=C;refine bc.of Ny ?_;unfold Dt;simp[w];refine aO.cut (fun h1=>ay aZ h h1) ((ay.refl ok).new _ _) ?_;intro h1 Q;refine aO.loop (ata h1 G gs) ?_ (n:=gs.length) ⟨0,rfl,ab,by simp[ig],au w,ae,ae,.refl Q.ok⟩;rintro m e D⟨j,rfl,hj,O,H,V,Y,J⟩;unfold zU;by_cases K:j<gs.length
 .have a:gs[j]?=some gs[j]:=g_ K;have hm:=Be K;generalize gs[j]=g at a hm;obtain⟨c1,c2⟩:=hs g hm;obtain⟨bG,off,cells,l,_,_,⟨I,rfl⟩,oG,cZ⟩:=aD.later ok hG a;have Z:=cZ D (Q.trans J) 0 3 ag;simp[-ax] at Z;simp at H;rw[l,w] at H;have hw:=FI (gs:=gs.take j) (fun g a=>hs g (XK a));have Pu:(gs.take j).length<=10:=by simp;omega
  have wj:=cg ((j:Int)+1) ab ab;have w1:=cg (ig (gs.take j)+g.size) ab ab;have et:=GL a;have gv:ay aZ D (put (aK D [.string ⟨⟨[]⟩⟩,.int .i64 0,.slice none 0 0] 0) D.aw 0 [.string ⟨⟨[]⟩⟩,.int .i64 0,.slice none 0 0] [.string g.name,.int .i64 g.size,.slice I.a I.l I.c] 0):=(ay.refl J.ok).var _ _;simp[O,H,V,Y,K,Z,wj,w1,-ax,aH];refine⟨gs.length-(j+1),ab,j+1,rfl,K,au et,by simp[H,l,w],au V,ae,J.trans gv⟩
 .have:j=gs.length:=ab
  subst this;rw[jT] at O;simp[O,V,Y];exact⟨Q.trans J,rfl⟩
def atb(h:az)(U:Nat)(l:List Value)(gs:List GG)(m:Nat)(e:Env)(a:az):Prop:=
 ∃j:Nat,m=gs.length-j/\j<=gs.length/\cm e 1 U/\bJ e 3 (ig (gs.take j))/\bJ e 4 j/\a=h
def RY(V:cr h){G F:SV}(hG:aD gS 3 h G.v gs)(C:aeG gs):bc FF 16 [.agg ⟨[G.v,F.v]⟩] h (Ng gs h):=by
 have K:=aD.len hG;obtain⟨hl,Z⟩:=C;refine bc.of AX ?_;unfold sg;simp[K];refine aO.cut (fun h1=>ay aZ h h1/\dg h1 h.aw [.slice G.a gs.length G.c,.slice F.a F.l F.c]) ⟨(ay.refl V).new _ _,0,au K⟩ ?_;rintro h1⟨Q,sU,l⟩;refine aO.loop (atb h1 h.aw [] gs) ?_ (n:=gs.length) ⟨0,rfl,ab,ae,by simp[ig],ae,rfl⟩;rintro m e h2⟨j,rfl,hj,D,H,Y,rfl⟩;unfold pH;by_cases w:j<gs.length
 .have a:gs[j]?=some gs[j]:=g_ w;have hm:=Be w;generalize gs[j]=g at a hm;obtain⟨c1,c2⟩:=Z g hm;obtain⟨bG,off,cells,J,_,_,⟨I,rfl⟩,oG,cZ⟩:=aD.later V hG a;have O:=cZ h2 Q 1 1 ag;simp[-ax] at O;rw[J] at l;have hw:=FI (gs:=gs.take j) (fun g a=>Z g (XK a));have Pu:(gs.take j).length<=10:=by simp;omega
  have wj:=cg ((j:Int)+1) ab ab;have w1:=cg (ig (gs.take j)+g.size) ab ab;have et:=GL a;simp[D,H,Y,l,aF l,w,O,wj,w1,-ax];exact⟨gs.length-(j+1),ab,j+1,rfl,w,au D,au et,ae,rfl⟩
 .have:j=gs.length:=ab
  subst this;rw[jT] at H;simp[D,H,Y,l];exact⟨Q,rfl⟩
def Gz(h:az)(Y:cr h)(aI op dst D O fn:Int)(I F:Bool)(V:Option Addr)(al Q:Nat):bc FF 43 [.int .i64 aI,.agg ⟨aJ op dst I D F O fn (.slice V al Q)⟩] h (fun v h'=>v=.bool (dW aI op I D F O)/\ay aZ h h'):=by
 refine bc.of AW ?_;unfold sf;have g:ay aZ h (aK h (aJ op dst I D F O fn (.slice V al Q)) 0):=aN Y _ _;simp only[aJ] at g;by_cases H:op=5
 .subst H;cases F with
  |true=>
   simp[aJ,dW];exact g
  |false=>
   simp[aJ,dW];exact⟨by rfl,g⟩
 by_cases G:op=6
 .subst G;cases F with
  |true=>
   simp[aJ,dW];exact g
  |false=>
   simp[aJ,dW];exact⟨by rfl,g⟩
 have J:(op==5)=false:=aj H
 have K:(op==6)=false:=aj G
 by_cases a:op=18
 .subst a;cases I with
  |true=>
   simp[aJ,dW];exact g
  |false=>
   by_cases m:0<=D;by_cases w:D<aI;simp[aJ,dW,m,w];exact⟨ab,g⟩;simp[aJ,dW,m,w];exact⟨ab,g⟩;simp[aJ,dW,m];exact g
 have l:(op==18)=false:=aj a
 by_cases m:1<=op;by_cases w:op<=17;simp[aJ,dW,J,K,l,H,G,a,m,w];exact g;simp[aJ,dW,J,K,l,H,G,a,m,w];exact g;simp[aJ,dW,J,K,l,H,G,a,m];exact g
def lq(aI:Int)(x:GI):Bool:=dW aI x.op x.a.1 x.a.2 x.b.1 x.b.2
section
variable{f:GF}{rs:List XR}
def Zi{aB:Int}{x:GI}(h:vd aB x){aI:Int}(a:lq aI x=true):0<=x.dst:=by
 have D:1<=x.op/\x.op<=18:=by unfold lq dW at a;by_cases w:x.op=5\/x.op=6;omega;rw[bU w] at a;by_cases l:x.op=18;omega;rw[bU l] at a;simp at a;omega
 have m:(dK x.op).1=true:=by unfold dK;split;rfl;rw[bM ab]
 have:=h.dst m ab;unfold yy at this;omega
def ahA(F:eH f){i:Nat}{l:List Int}(h:(Edge.dO (cw f.blocks))[i]?=some l):l.length<=80:=by
 have h1:=Edge.xn (n:=(cw f.blocks).length) (tos:=cw f.blocks) (fun w m=>by obtain⟨b,hb,rfl⟩:=jo.1 m;rcases(F.body.ends b hb).kind with⟨_,e⟩|⟨_,t,e⟩|⟨_,t,u,e,_⟩<;>rw[e]<;>simp) i (cw f.blocks).length;have a:((Edge.upto (cw f.blocks).length (cw f.blocks) (cw f.blocks).length)[i]?).getD []=l:=by show((Edge.dO (cw f.blocks))[i]?).getD []=l;rw[h];rfl
 rw[a] at h1;have D:(cw f.blocks).length=f.blocks.length:=by simp[cw]
 have:=F.head.blocks;omega
def ug(F:eH f):∀b∈f.blocks,InB f.aB.toNat b:=by
 intro b hb;obtain⟨i,G⟩:=iI hb;have B:=F.body.AF i b G;have s:=F.sm b hb;have K:=F.head.aB;have J:=F.head.params;have E:=F.body.ends b hb;refine⟨by have:=s.ph;have:=gM hb;have:=F.head.many;omega,by have:=gM hb;have:=F.head.many;omega,?_,fun p w=>?_,fun x H=>?_,fun h=>?_⟩
 rcases E.kind with⟨_,h⟩|⟨_,t,h⟩|⟨_,t,u,h,_⟩<;>rw[h]<;>simp;obtain⟨_,l,D,m⟩:=B.bD p w;have:=m.dst;unfold yy at this;have:=m.len;have:=ahA F D;exact⟨ab,ab,fun v a=>BV (m.row v a)⟩
 .have I:=B.list x H;have:=(nj I).2;refine⟨?_,BV I.a,BV I.b,ab,fun v a=>BV (QU I v a)⟩;rcases Wy I with h|h
  omega;unfold yy at h;omega
 have:=E.on h;omega
end
structure XG where
 name:ByteArray
 size:Int
 I:SV
def Cu:Enc XG:=⟨fun x=>[.string x.name,.int .i64 x.size,x.I.v],3,fun _=>rfl,ag,fun _=>rfl⟩
@[simp] def aqi:Cu.sz=3:=rfl
@[simp] def amH(x:XG):Cu.enc x=[.string x.name,.int .i64 x.size,x.I.v]:=rfl
structure XF where
 name:ByteArray
 params:Int
 aB:Int
 B:SV
def uZ:Enc XF:=⟨fun x=>aC x.name x.params x.aB x.B,4,fun _=>rfl,ag,fun _=>rfl⟩
@[simp] def aqn:uZ.sz=4:=rfl
@[simp] def amP(x:XF):uZ.enc x=[.string x.name,.int .i64 x.params,.int .i64 x.aB,x.B.v]:=rfl
def agx(h:az)(y:XG)(g:GG):Prop:=y.name=g.name/\y.size=g.size/\aD nR 1 h y.I.v g.init
def am0(s:aD (gR h) 3 h v gs):∃ys:List XG,ys.length=gs.length/\bj Cu h v ys/\∀(i:Nat)(y:XG)(g:GG),ys[i]?=some y->gs[i]?=some g->agx h y g:=
 aD.pick (E:=Cu) (Q:=agx h) s (fun c x ⟨I,e,a⟩=>⟨⟨x.name,x.size,I⟩,e,rfl,rfl,a⟩)
def VQ(h:az)(y:XF)(f:GF):Prop:=y.name=f.name/\y.params=f.params/\y.aB=f.aB/\qg h y.B f.blocks
def amW{fs:List GF}(s:aD (fR h) 4 h v fs):∃ys:List XF,ys.length=fs.length/\bj uZ h v ys/\∀(i:Nat)(y:XF)(f:GF),ys[i]?=some y->fs[i]?=some f->VQ h y f:=
 aD.pick (E:=uZ) (Q:=VQ h) s (fun c x ⟨B,e,a⟩=>⟨⟨x.name,x.params,x.aB,B⟩,e,rfl,rfl,rfl,a⟩)
def PD(ys:List XG)(gs:List GG):Prop:=ys.length=gs.length/\∀(i:Nat)(y:XG)(g:GG),ys[i]?=some y->gs[i]?=some g->y.name=g.name/\y.size=g.size
def aR:List Int->Int->Int
 |[],_=> -1
 |x::xs,t=>if x=t then 0 else if aR xs t<0 then-1 else aR xs t+1
def tv:∀ {xs:List Int} {t:Int},t∉xs->aR xs t= -1
 |[],_,_=>rfl
 |x::xs,t,h=>by simp only[List.mem_cons,not_or] at h;unfold aR;rw[bU (fun e=>h.1 e.symm),tv h.2];rfl
def Av:∀ {xs:List Int} {t:Int} {j:Nat},xs[j]?=some t->(∀i,i<j->xs[i]? ≠some t)->aR xs t=j
 |[],_,_,h,_=>by simp at h
 |x::xs,t,0,h,_=>by simp at h;subst h;simp[aR]
 |x::xs,t,j+1,h,a=>by have h0:=a 0 ab;simp at h h0;have:=Av (xs:=xs) (t:=t) h (fun i l=>by have:=a (i+1) ab;simpa using this);unfold aR;rw[bU h0,this,bU ab];omega
def al8(h:az)(W:SV)(t:Int)(xs:List Int)(m:Nat)(e:Env)(a:az):Prop:=
 ∃j:Nat,m=xs.length-j/\j<=xs.length/\bH e 0=W.v/\bJ e 1 t/\bJ e 5 j/\(∀i,i<j->xs[i]? ≠some t)/\a=h
def IA(Q:bj encI h W.v xs)(hl:xs.length<1000000)(t:Int):bc FF 104 [W.v,.int .i64 t] h (fun v h'=>h'=h/\v=.bool (decide (t∈xs))):=by
 have w:W.l=xs.length:=by obtain⟨a,cap,e,_⟩:=Q;simp at e;exact e.2.1
 refine bc.of Dz ?_;unfold vm;simp[w];refine aO.loop (al8 h W t xs) ?_ (n:=xs.length) ⟨0,rfl,ab,au w,ae,ae,fun i F=>ab,rfl⟩;rintro m e h2⟨j,rfl,hj,l,G,H,V,rfl⟩;unfold sQ;by_cases O:j<xs.length
 .have Y:=cg ((j:Int)+1) ab ab;obtain⟨x,I⟩:=aV xs j O;obtain⟨bW,YP,Xr,K,_,_,cZ⟩:=Q.read I;have ro:=cZ 0 1 ag;simp[-ax] at ro K;simp at l;rw[K.1,w] at l;by_cases J:x=t
  subst J;have D:=cN I;simp[l,G,H,O,ro,D,-ax]
  .have Z:(x==t)=false:=by simp[J]
   simp[l,G,H,O,ro,Z,Y,-ax];refine⟨xs.length-(j+1),ab,j+1,rfl,ab,by simp[l,K.1,w],au G,ae,fun i F=>?_,rfl⟩;by_cases e3:i=j;subst e3;rw[I];simp[J];exact V i ab
 .have:j=xs.length:=ab
  subst this;have D:t∉xs:=fun D=>by obtain⟨i,F⟩:=iI D;exact V i (di.mp F).1 F
  simp at l;rw[w] at l;simp[l,H,D]
def uw(V:bj encI h W.v xs)(hl:xs.length<1000000)(t:Int):bc FF 92 [W.v,.int .i64 t] h (fun v h'=>h'=h/\v=.int .i64 (aR xs t)):=by
 have w:W.l=xs.length:=by obtain⟨a,cap,e,_⟩:=V;simp at e;exact e.2.1
 refine bc.of AU ?_;unfold se;simp[w];refine aO.loop (al8 h W t xs) ?_ (n:=xs.length) ⟨0,rfl,ab,au w,ae,ae,fun i D=>ab,rfl⟩;rintro m e h2⟨j,rfl,hj,l,F,G,I,rfl⟩;unfold pG;by_cases Q:j<xs.length
 .have Y:=cg ((j:Int)+1) ab ab;obtain⟨x,H⟩:=aV xs j Q;obtain⟨bW,YP,Xr,O,_,_,cZ⟩:=V.read H;have ro:=cZ 0 1 ag;simp[-ax] at ro O;simp at l;rw[O.1,w] at l;by_cases K:x=t
  subst K;simp[l,F,G,Q,ro,-ax];exact(Av H I).symm
  .have Z:(x==t)=false:=by simp[K]
   simp[l,F,G,Q,ro,Z,Y,-ax];refine⟨xs.length-(j+1),ab,j+1,rfl,ab,by simp[l,O.1,w],au F,ae,fun i D=>?_,rfl⟩;by_cases e3:i=j;subst e3;rw[H];simp[K];exact I i ab
 .have:j=xs.length:=ab
  subst this;have J:t∉xs:=fun J=>by obtain⟨i,D⟩:=iI J;exact I i (di.mp D).1 D
  simp at l;rw[w] at l;simp[l,G];exact(tv J).symm
def iZ(bs:List GB)(j:Nat)(b:Int):List Int:=((List.range j).filter fun i=>decide (∃x,bs[i]?=some x/\b∈x.to)).map fun i:Nat=>(i:Int)
def aX(bs:List GB)(b:Int):List Int:=iZ bs bs.length b
def asz(h1:az)(S:Nat)(B:SV)(bs:List GB)(b:Int)(m:Nat)(e:Env)(h':az):Prop:=
 ∃(j:Nat) (W:SV),m=bs.length-j/\j<=bs.length/\bJ e 1 b/\cm e 2 S/\bH e 5=W.v/\bJ e 6 j/\ay aZ h1 h'/\bu encI h1.aw h' W.v (iZ bs j b)
def y9(bs:List GB)(j:Nat)(b:Int):(iZ bs j b).length<=j:=by unfold iZ;rw[KM];exact sx (EW _ _) ae
def Gr(Q:cr h){name:ByteArray}{p r:Int}{B:SV}{bs:List GB}(hB:qg h B bs)(hl:bs.length<100000)(ht:∀x∈bs,x.to.length<1000000)(b:Int):bc FF 63 [.agg ⟨aC name p r B⟩,.int .i64 b] h (fun v h'=>ay aZ h h'/\∃L:SV,v=L.v/\bu encI h.aw h' L.v (aX bs b)):=by
 have dT:=aD.len hB;refine bc.of AN ?_;unfold rU;simp[aC];refine aO.cut (fun h1=>ay aZ h h1/\dg h1 h.aw (aC name p r B)) ⟨(ay.refl Q).new _ _,0,by simp[aC]⟩ ?_;rintro h1⟨D,sF,hF⟩;refine aO.loop (asz h1 h.aw B bs b) ?_ (n:=bs.length) ⟨0,cK,rfl,ab,ae,ae,by simp[cK],ae,.refl D.ok,.inl ⟨rfl,rfl⟩⟩;rintro m e h'⟨j,W,rfl,hj,O,H,Y,F,g,a⟩;have bS:=g.ok;have w:=g.get D.ok hF;simp[aC] at w;rw[dT] at w;unfold pD;by_cases J:j<bs.length
 .have wj:=cg ((j:Int)+1) ab ab;obtain⟨x,G⟩:=aV bs j J;obtain⟨bb,off,c,fp,_,_,⟨P,L,T,rfl,sP,sL,sT⟩,_,cZ⟩:=aD.later Q hB G;have gg:=D.trans g;have r5:=cZ h' gg 5 1 ag;simp[-ax] at r5;rw[fp] at w;have Z:=(Rh sT).ck Q gg;have I:iZ bs (j+1) b=iZ bs j b++(if b∈x.to then [(j:Int)] else []):=by unfold iZ;rw[List.range_succ,List.filter_append,List.map_append];congr 1;by_cases l:b∈x.to;simp[G,l];simp[G,l]
  simp[O,H,F,w,aF w,J,r5,-ax];refine bm.call (V:=fun v h2=>h2=h'/\v=.bool (decide (b∈x.to))) (aj (IA Z (ht x (cN G)) b)) ?_;rintro _ h2⟨e2,rfl⟩;rw[e2];by_cases l:b∈x.to;rw[bM l] at I;simp[l,Y,F];have K:=aN bS [.int .i64 j] 0;have gK:=a.grow bS K ai;have zK:bj encI (aK h' [.int .i64 j] 0) (.slice (some ⟨h'.aw,0,none⟩) 1 1) [(j:Int)]:=dz (E:=encI) (x:=(j:Int)) (bz _ _ _);have dJ:=y9 bs j b;have ln:=g.aw;have n2:(aK h' [.int .i64 j] 0).aw=h'.aw+1:=rfl;obtain⟨v',h3,ha,fM,g3,_⟩:=fx (bytes:=8) K.ok (z:=[.int .i64 0]) rfl gK zK ab ag ab;obtain⟨W',rfl⟩:=bu.C5 fM;refine cR (aj ha) ?_;simp[F,wj];refine⟨bs.length-(j+1),ab,j+1,W',rfl,J,au O,au H,ae,ae,(g.trans K).trans' g3 ai (fun y hy e=>av (a.of e)),by rw[I];exact fM⟩
  rw[bU l,Bc] at I;simp[l,F,wj];exact⟨bs.length-(j+1),ab,j+1,W,rfl,J,au O,au H,au Y,ae,g,by rw[I];exact a⟩
 .have:j=bs.length:=ab
  subst this;simp[H,Y,F,w];exact⟨D.trans g,W,ae,bu.low (E:=encI) a D.aw⟩
end Go.Proofs.YtdhnndleffachaaGreatDoor
