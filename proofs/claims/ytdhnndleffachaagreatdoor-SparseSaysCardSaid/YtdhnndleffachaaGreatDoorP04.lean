/- Parts of the proof. -/
import Derived.Test.YtdhnndleffachaaGreatDoorP03
import Derived.KernelRfl
import Derived.Test.YtdhnndleffachaaGreatDoorP02
open Go renaming Value->aa
open Int renaming negSucc->JW,toNat->qA
open Nat renaming add_comm->k0,mul_le_mul->sn,one_mul->wv,sub_self->rf
open Option renaming some->Z,none->K
open Bool renaming false->cd,true->ck
open List renaming length->cz,drop_append->gB,drop_drop->hJ,drop_eq_getElem_cons->et,drop_zero->lV,flatMap_def->I4,foldl_append->eE,getElem?_eq_none_iff->wx,getElem?_reverse->y8,getElem_inj->eX,length_cons->eN,length_take->gv,map_append->aL,mem_cons->bn,mem_singleton->bl,mergeSort_perm->B1,pairwise_map->ic,range->aU,replicate->ae,set_append->K2,take_add->rA,take_zero->lH
open Go.Value renaming slice->dB,bool->dC,pointer->eU,int->fc,string->gX,agg->ix
open Go.IntKind renaming i64->ft,i64->ec
open Or renaming inl->jZ,inr->kd
set_option linter.all false
set_option maxHeartbeats 1000000
namespace Go.Proofs.YtdhnndleffachaaGreatDoor
open Go.AI
variable{A F B L U:SV}{C H W X b bytes c d i j n n0 n1 o T s m w wc:Nat}{DS ps:List Int}{l:bH->Env->az->Prop}{S:Nat->Prop}{ah:List (List Int)}{bs:List GB}{e:Env}{h N h0 h1 O V P:az}{kind:Int}{name:ByteArray}{on:Bool×Int}{q:GI×SV}{t G k:Bool}{u:GU}{v:aa}{z:List aa}{α I:Type}
def Mp(t:Bool)(DS:List Int)(a:List (Int×Int)):Prop:=t=ck->DS.Nodup/\∀r∈DS,0<=r/\∃x,a[r.toNat]?=Z x/\0<=x.1
def Mp.nil(t:Bool)(a:List (Int×Int)):Mp t [] a:=λ_=>⟨.nil,λr h=>by cases h⟩
def Mp.step{t a:Bool}{DS:List Int}{I G:List (Int×Int)}{k:Nat}(w:Mp t DS I)(H:a=ck->(∃w,I[k]?=Z w/\w.1<0)/\(∃x,G[k]?=Z x/\0<=x.1)/\∀r,r≠k->G[r]?=I[r]?):Mp (a&&t) (DS++[(k:Int)]) G:=by
 intro e;simp only[oD] at e;obtain⟨⟨x,f,x⟩,⟨y,P,d⟩,c⟩:=H e.1;have⟨n1,x⟩:=w e.2;have a:(k:Int)∉DS:=λm=>by have⟨_,z,F,D⟩:=x _ m;simp only[E0] at F;rw[f] at F;cases F;omega
 refine⟨List.nodup_append.2 ⟨n1,J,λf O b V e=>?_⟩,λr m=>?_⟩;simp only[bl] at V;exact a (V▸e▸O);rcases kg.1 m with m|m;have⟨h0,z,F,D⟩:=x r m;refine⟨h0,z,?_,D⟩;rw[c];exact F;intro e;exact a (by rw[<-e,Int.toNat_of_nonneg h0];exact m);simp only[bl] at m;subst m;exact⟨ab,y,aj P,d⟩
structure SC(h0 h:az)(C W n wc:Nat)(name:ByteArray)(p r:Int)(B U:SV)(t:Bool)(DS:List Int):Prop where
 g:ay aR h0 h
 n0:h0.aw<=W
 ne:C≠W
 hC:di h C (AD name p r B U ⟨Z ⟨W,0,K⟩,n,wc⟩)
 hW:∃ws s,h.tr.get W=Z (.bZ (jC.flat ws) cd 0 s)/\cz ws=n/\Mp t DS ws
def SC.cm{p r:Int}(w:SC h0 h C W n wc name p r B U t DS)(g:ay aR h N):SC h0 N C W n wc name p r B U t DS:=by have⟨D,h1⟩:=w.hC;have⟨F,a,m,k⟩:=w.hW;exact⟨w.g.trans g,w.n0,w.ne,⟨D,g.get w.g.ok h1⟩,F,a,g.get w.g.ok m,k⟩
def SC.cU{p r:Int}(w:SC h0 h C W n wc name p r B U t DS):SC h0 h C W n wc name p r B U G []:=by have⟨k,s,a,b,_⟩:=w.hW;exact⟨w.g,w.n0,w.ne,w.hC,k,s,a,b,Mp.nil _ _⟩
def SC.wr{p r:Int}{DS a:List Int}(w:SC h0 h C W n wc name p r B U t DS)(g:ay (· =W) h N)(m:∃k s,N.tr.get W=Z (.bZ (jC.flat k) cd 0 s)/\cz k=n/\Mp G a k):SC h0 N C W n wc name p r B U G a:=by have⟨D,h1⟩:=w.hC;exact⟨w.g.trans' g ai (λx F e=>av w.n0),w.n0,w.ne,⟨D,g.get w.g.ok h1 w.ne⟩,m⟩
section
variable{h0:az}{C W n wc:Nat}{name:ByteArray}{p r:Int}{B U:SV}
def ZM(h0 h:az)(C W n wc:Nat)(name:ByteArray)(p r:Int)(B U:SV)(a:Bool)(DS:List Int)(k:Int)(v:aa)(N:az):Prop:=∃t:Bool,v=dC t/\SC h0 N C W n wc name p r B U (t&&a) (DS++[k])/\ay (· =W) h N
def Oz{a:Bool}(w:SC h0 h C W n wc name p r B U a DS){k:Int}(V:0<=k/\k<n){i:Int}(O:0<=i)(j:Int):aY FF 149 [eU (Z ⟨C,0,K⟩),fc ft k,fc ft i,fc ft j] h (ZM h0 h C W n wc name p r B U a DS k):=by
 have⟨a,h1⟩:=w.hC;obtain⟨a,a,F,D,G⟩:=w.hW;obtain⟨k,rfl⟩:∃a:Nat,k=a:=⟨k.toNat,ab⟩;refine(abp w.g.ok h1 F D (k:=k) ab O j).mono ?_;rintro v N⟨t,e,g,a,m,H,b,I⟩;exact⟨t,e,w.wr g ⟨a,m,H,b,G.step I⟩,g⟩
def az7(h0 h:az)(C W n wc:Nat)(name:ByteArray)(p r:Int)(B U:SV)(T:Nat)(m:Nat)(a:Env)(N:az):Prop:=
 ∃(j:Nat) (t:Bool),m=T-j/\j<=T/\bU a 0 C/\bC a 15 T/\bC a 16 j/\bY a 3=dC t/\SC h0 N C W n wc name p r B U t []/\ay (· =W) h N
def PK(w:SC h0 h C W n wc name p r B U k [])(A:T<=n)(b:n<1000000)(S:bU e 0 C)(v:bC e 15 T)(H:bC e 16 0)(y:∃t:Bool,bY e 3=dC t)(E:∀D N t,SC h0 N C W n wc name p r B U t []->ay (· =W) h N->bU D 0 C->bY D 3=dC t->l (.exit 0) D N):aK FF (.loop j4) e h l:=by
 have⟨A,y⟩:=y;refine aK.loop (az7 h0 h C W n wc name p r B U T) ?_ (n:=T) ⟨0,A,Q,ab,S,v,H,y,w.cU,.refl w.g.ok⟩;rintro m D N⟨j,t,rfl,x,a,G,F,I,b,O⟩;unfold j4;by_cases d:j<T;have z:=ch ((j:Int)+1) ab ab;simp[a,G,F,d];refine bh.call (V:=ZM h0 N C W n wc name p r B U t [] j) (aj (Oz b (k:=j) ab (Int.le_refl 0) (-1))) ?_;rintro _ M⟨A,rfl,L,g⟩;cases A;simp[F,z,I];exact⟨T-(j+1),ab,j+1,cd,Q,ab,au a,au G,J,J,L.cU,O.trans g⟩;simp[F,z,I];exact⟨T-(j+1),ab,j+1,t,Q,ab,au a,au G,J,J,L.cU,O.trans g⟩
 .have:j=T:=ab
  subst this;simp[G,F];exact E _ _ t b O (au a) (au I)
def az5(h0 h:az)(C W n wc:Nat)(name:ByteArray)(p r:Int)(B U:SV)(DS:List Int)(ps:List GP)(k:Nat)(e:Env)(m:Nat)(a:Env)(N:az):Prop:=
 ∃(j:Nat) (t:Bool),m=k-j/\j<=k/\aG [41,42,43,8,44,45,46,47,48,49,50,51,3,52,40] e a/\bC a 40 j/\bY a 3=dC t/\SC h0 N C W n wc name p r B U t (DS++(ps.take j).map (·.dst))/\ay (· =W) h N
def XX(x:cu h0)(w:SC h0 h C W n wc name p r B U k DS){P:SV}{ps:List GP}(s:ad (pR h0) 2 h0 P.v ps)(S:∀q∈ps,0<=q.dst/\q.dst<n)(d:cz ps<1000000)(d:bU e 0 C)(o:bC e 5 i)(b:bY e 38=P.v)(g:bC e 39 (cz ps))(I:bC e 40 0)(a:bY e 3=dC k)(M:∀H N t,SC h0 N C W n wc name p r B U t (DS++ps.map (·.dst))->ay (· =W) h N->aG [41,42,43,8,44,45,46,47,48,49,50,51,3,52,40] e H->bY H 3=dC t->l (.exit 4) H N):aK FF (.loop j3) e h l:=by
 have E:=ad.len s;refine aK.loop (az5 h0 h C W n wc name p r B U DS ps (cz ps) e) ?_ (n:=cz ps) ⟨0,k,Q,ab,aG.refl _ _,I,a,aj w,.refl w.g.ok⟩;rintro m H N⟨j,t,rfl,a,F,a,O,D,f⟩;have v:=F.at d;have y:=F.at o;have d:=F.at b;have G:=F.at g;unfold j3;by_cases b:j<cz ps
 .have o:=ch ((j:Int)+1) ab ab;have g:ps[j]?=Z ps[j]:=jh b;have u:=Ik b;generalize ps[j]=q at g u;obtain⟨L,L,c,L,_,_,⟨A,rfl,z⟩,_,z⟩:=ad.later x s g;have s:=z N D.g 0 2 ag;simp[-ax] at s;simp at d;rw[L,E] at d;simp[v,y,d,G,a,b,s,-ax,aH];refine bh.cut (λh1=>ay aR N h1) ((ay.refl D.g.ok).var _ _) ?_;intro h1 b;refine bh.call (V:=ZM h0 h1 C W n wc name p r B U t (DS++(ps.take j).map (·.dst)) q.dst) (aj (Oz (D.cm b) (S q u) (i:=i) ab (-1))) ?_;rintro _ u⟨u,rfl,d,s⟩;have v:(ps.take (j+1)).map (·.dst)=(ps.take j).map (·.dst)++[q.dst]:=by rw[kh,g];simp
  rw[MD,<-v] at d;cases u
  .simp[a,o,O];refine⟨cz ps-(j+1),ab,j+1,cd,Q,ab,?_,J,J,d,(f.trans b.cm).trans s⟩
   exact aq
  .simp[a,o,O];refine⟨cz ps-(j+1),ab,j+1,t,Q,ab,?_,J,J,d,(f.trans b.cm).trans s⟩
   exact aq
 .have:j=cz ps:=ab
  subst this;simp[G,a];rw[mO] at D;exact M _ _ t D f (F.set) (au O)
def Bw(a:List GI):List Int:=(a.filter λx=>decide (0<=x.dst)).map (·.dst)
def Y5{a:List GI}{x:GI}(h:a[j]?=Z x)(b:0<=x.dst):Bw (a.take (j+1))=Bw (a.take j)++[x.dst]:=by unfold Bw;rw[kh,h];simp[b]
def YZ{a:List GI}{x:GI}(h:a[j]?=Z x)(b:x.dst<0):Bw (a.take (j+1))=Bw (a.take j):=by unfold Bw;rw[kh,h];simp;omega
def Ho(b:GB):List Int:=b.bz.map (·.dst)++Bw b.list
def az4(h0 h:az)(C W n wc:Nat)(name:ByteArray)(p r:Int)(B U:SV)(DS:List Int)(b:List GI)(k:Nat)(e:Env)(m:Nat)(a:Env)(N:az):Prop:=
 ∃(j:Nat) (t:Bool),m=k-j/\j<=k/\aG [57,58,59,60,10,9,61,62,63,64,65,66,67,68,69,70,71,72,73,74,3,75,56] e a/\bC a 56 j/\bY a 3=dC t/\SC h0 N C W n wc name p r B U t (DS++Bw (b.take j))/\ay (· =W) h N
def XW(o:cu h0)(w:SC h0 h C W n wc name p r B U k DS){a:List GI}(q:ad (iR h0) 8 h0 L.v a)(E:∀x∈a,x.dst<n)(y:cz a<1000000)(y:bU e 0 C)(d:bC e 5 i)(u:bY e 54=L.v)(g:bC e 55 (cz a))(b:bC e 56 0)(D:bY e 3=dC k)(S:∀G N t,SC h0 N C W n wc name p r B U t (DS++Bw a)->ay (· =W) h N->aG [57,58,59,60,10,9,61,62,63,64,65,66,67,68,69,70,71,72,73,74,3,75,56] e G->bY G 3=dC t->l (.exit 6) G N):aK FF (.loop j2) e h l:=by
 have P:=ad.len q;refine aK.loop (az4 h0 h C W n wc name p r B U DS a (cz a) e) ?_ (n:=cz a) ⟨0,k,Q,ab,aG.refl _ _,b,D,by simpa [Bw] using w,.refl w.g.ok⟩;rintro m G N⟨j,t,rfl,b,F,b,H,D,f⟩;have v:=F.at y;have y:=F.at d;have d:=F.at u;have u:=F.at g;unfold j2;by_cases I:j<cz a
 .have g:=ch ((j:Int)+1) ab ab;have O:a[j]?=Z a[j]:=jh I;have z:=Ik I;generalize a[j]=x at O z;obtain⟨s,s,c,s,_,_,⟨A,rfl,M⟩,_,M⟩:=ad.later o q O;have q:=M N D.g 0 8 ag;simp[aM,-ax] at q;simp at d;rw[s,P] at d;have o:ay aR N (put (aJ N [fc ft 0,fc ft 0,dC cd,fc ft 0,dC cd,fc ft 0,fc ft 0,dB K 0 0] 0) N.aw 0 [fc ft 0,fc ft 0,dC cd,fc ft 0,dC cd,fc ft 0,fc ft 0,dB K 0 0] [fc ft x.op,fc ft x.dst,dC x.a.1,fc ft x.a.2,dC x.b.1,fc ft x.b.2,fc ft x.fn,dB A.a A.l A.c] 0):=(ay.refl D.g.ok).var _ _;by_cases s:x.dst<0
  .rw[<-YZ O s] at D;simp[v,y,d,u,b,I,q,-ax,aH,s,g,H];refine⟨cz a-(j+1),ab,j+1,t,Q,ab,?_,J,J,D.cm o,f.trans o.cm⟩
   exact aq
  .simp[v,y,d,u,b,I,q,-ax,aH,s];refine bh.cut (λh1=>ay aR N h1) o ?_;intro h1 o;refine bh.call (V:=ZM h0 h1 C W n wc name p r B U t (DS++Bw (a.take j)) x.dst) (aj (Oz (D.cm o) ⟨ab,E x z⟩ (i:=i) ab j)) ?_;rintro _ z⟨z,rfl,s,q⟩;rw[MD,<-Y5 O ab] at s;cases z
   .simp[b,g,H];refine⟨cz a-(j+1),ab,j+1,cd,Q,ab,?_,J,J,s,(f.trans o.cm).trans q⟩
    exact aq
   .simp[b,g,H];refine⟨cz a-(j+1),ab,j+1,t,Q,ab,?_,J,J,s,(f.trans o.cm).trans q⟩
    exact aq
 .have:j=cz a:=ab
  subst this;simp[u,b];rw[mO] at D;exact S _ _ t D f (F.set) (au H)
def az6(h0 h:az)(C W n wc:Nat)(name:ByteArray)(p r:Int)(B U:SV)(bs:List GB)(k:Nat)(m:Nat)(a:Env)(N:az):Prop:=
 ∃(j:Nat) (t:Bool),m=k-j/\j<=k/\bU a 0 C/\bY a 30=B.v/\bC a 31 k/\bC a 32 j/\bY a 3=dC t/\SC h0 N C W n wc name p r B U t ((bs.take j).flatMap Ho)/\ay (· =W) h N
def asK(h0 h:az)(C W n wc:Nat)(name:ByteArray)(p r:Int)(B U:SV)(bs:List GB)(v:aa)(N:az):Prop:=∃t:Bool,v=dC t/\SC h0 N C W n wc name p r B U t (bs.flatMap Ho)/\ay (· =W) h N
structure Yp(n:Nat)(bs:List GB):Prop where
 len:cz bs<1000000
 ph:∀b∈bs,cz b.bz<1000000/\∀q∈b.bz,0<=q.dst/\q.dst<n
 li:∀b∈bs,cz b.list<1000000/\∀x∈b.list,x.dst<n
def XV(V:cu h0)(o:qP h0 B bs)(D:Yp n bs)(w:SC h0 h C W n wc name p r B U k [])(f:p=T)(e:T<=n)(u:n<1000000):aY FF 88 [eU (Z ⟨C,0,K⟩)] h (asK h0 h C W n wc name p r B U bs):=by
 have g:=ad.len o;have d:=D.len;obtain⟨d,d⟩:=w.hC;simp[AD] at d;refine aY.of Cq ?_;unfold tC;simp[d];refine PK w e u J (au f) J ⟨ck,J⟩ ?_;intro f h1 u d f H e;obtain⟨a,a⟩:=d.hC;simp[AD] at a;simp[H,a];refine aK.loop (az6 h0 h C W n wc name p r B U bs (cz bs)) ?_ (n:=cz bs) ⟨0,u,Q,ab,au H,J,au g,J,au e,aj d,f⟩;rintro m d N⟨j,t,rfl,d,H,d,G,F,e,a,u⟩;unfold qH;by_cases f:j<cz bs
 .have A:=ch ((j:Int)+1) ab ab;have i:bs[j]?=Z bs[j]:=jh f;have b:=Ik f;generalize bs[j]=x at i b;obtain⟨l,l,c,l,_,_,⟨P,L,z,rfl,s,q,E⟩,_,E⟩:=ad.later V o i;have o:=E N a.g 0 6 ag;simp[-ax] at o;simp at d;rw[l,g] at d;have v:=ad.len s;have X:=ad.len q;simp[H,d,G,F,f,o,-ax,aH];refine aK.cut (λh1=>ay aR N h1/\di h1 N.aw [P.v,L.v,fc ft x.kind,dC x.on.1,fc ft x.on.2,z.v]) ⟨(ay.refl a.g.ok).var _ _,_,aZ _ _ _ _ _ _⟩ ?_;rintro f⟨f,o,E⟩;have o:W<N.aw:=by have⟨_,_,o,_⟩:=a.hW;exact a.g.ok.wf _ _ o
  refine XX V (a.cm f) s (D.ph x b).2 (D.ph x b).1 (i:=j) (au H) J J (au v) J (au e) ?_;intro v o o z y I M;have o:=y.get f.ok E ab;simp at o;have S:bU v 6 N.aw:=I.at J;have s:=I.at (t:=0) (ak H);have E:bY v 5=fc ft j:=I.at J;have v:=I.at (t:=30) (ak d);have d:=I.at (t:=31) (ak G);have k32:=I.at (t:=32) (ak F);simp[S,o];refine XW V z q (D.li x b).2 (D.li x b).1 (i:=j) (au s) (au E) J (au X) J (au M) ?_;intro M M D b M O z;have q:(bs.take (j+1)).flatMap Ho=((bs.take j).flatMap Ho++x.bz.map (·.dst))++Bw x.list:=by rw[kh,i];simp[Ho,MD]
  rw[<-q] at b;have q:=O.at (t:=0) (ak s);have s:=O.at (t:=30) (ak v);have v:=O.at (t:=31) (ak d);have d:=O.at (t:=32) (ak k32);simp[d,A];exact⟨cz bs-(j+1),ab,j+1,D,Q,ab,au q,by simp[s,l,g],au v,J,au z,b,((u.trans f.cm).trans y).trans M⟩
 .have:j=cz bs:=ab
  subst this;simp[G,F,e];rw[mO] at a;exact⟨_,Q,a,u⟩
end
set_option maxRecDepth 100000
structure UF(h0 h1:az)(C W n wc d nb Pb R:Nat)(name:ByteArray)(p r:Int)(B:SV):Prop where
 g:ay aR h0 h1
 hC:di h1 C (AD name p r B ⟨Z ⟨d,0,K⟩,nb,nb⟩ ⟨Z ⟨W,0,K⟩,n,wc⟩)
 hW:∃ws s,h1.tr.get W=Z (.bZ (jC.flat ws) cd 0 s)/\cz ws=n
 hd:∃us s,h1.tr.get d=Z (.bZ (encI.flat us) cd 0 s)/\Tree.SK us nb
 hP:di h1 Pb [eU (Z ⟨C,0,K⟩)]
 hR:di h1 R [dC cd]
 nR:h0.aw<=R
 nb:nb<1000000
 n:n<1000000
def UF.cm{h0 h1 k:az}{C W n wc d b c R:Nat}{p r:Int}(a:UF h0 h1 C W n wc d b c R name p r B)(g:ay aR h1 k):UF h0 k C W n wc d b c R name p r B:=by have⟨r,I⟩:=a.hC;have⟨O,G,p,V⟩:=a.hW;have⟨D,m,f,H⟩:=a.hd;have⟨w,F⟩:=a.hP;have⟨e,c⟩:=a.hR;have b:=a.g.ok;exact⟨a.g.trans g,⟨r,g.get b I⟩,⟨O,G,g.get b p,V⟩,⟨D,m,g.get b f,H⟩,⟨w,g.get b F⟩,⟨e,g.get b c⟩,a.nR,a.nb,a.n⟩
section
variable{h0:az}{C W n wc d f y R:Nat}{name:ByteArray}{p r:Int}{B:SV}
def rS(n:Nat)(v:Bool×Int):Prop:=v.1=ck->0<=v.2/\v.2<n
def Ng(w:UF h0 h C W n wc d f y R name p r B){v:Bool×Int}(k:rS n v)(H:i<f)(j:Int):aY FF 150 [eU (Z ⟨C,0,K⟩),ix ⟨[dC v.1,fc ft v.2]⟩,fc ft i,fc ft j] h (Lw h):=by
 have⟨O,m⟩:=w.hC;obtain⟨D,D,G,D⟩:=w.hW;obtain⟨I,a,F,a⟩:=w.hd;exact aad w.g.ok m G D F a w.nb k H j
def VF(h0:az)(R:Nat)(a:Env)(N:az):Prop:=ay aR h0 N/\(∃t s,N.tr.get R=Z (.bZ [dC t] cd 0 s))/\bU a 2 R
def YG:aD:=T0 Tryz.f89 4 14
def LS:aD:=T0 Tryz.f89 4 15
def ZU(h0:az)(R:Nat)(N:az):Prop:=ay aR h0 N/\∃t s,N.tr.get R=Z (.bZ [dC t] cd 0 s)
def adq(d:cu h)(e:Env)(ps:List Nat)(a c:aD):ay aR h (h.new (.loop e ps a c .ready))/\(h.new (.loop e ps a c .ready)).tr.get h.aw=Z (.loop e ps a c .ready):=by refine⟨⟨Nat.le_succ _,fq _,λb V _=>F9 _ V,⟨λb m V=>?_,λb a k c s V=>?_⟩⟩,by simp[az.new,Tr.bN]⟩;simp only[az.new,Tr.bN] at V⊢;by_cases e:b=h.aw;omega;rw[bM e] at V;exact Nat.lt_succ_of_lt (d.wf b m V);simp only[az.new,Tr.bN] at V⊢;by_cases e:b=h.aw;rw[bK e] at V;cases V;rw[bM e] at V;exact d.st b a k c s V
def afq{a:az}(g:cu h0)(F:UF h0 a C W n wc d f y R name p r B){X H D i j w S:Nat}{x:GI}(O:di a X (jj x A))(M:ad vR 2 h0 A.v x.args)(c:cz x.args<2000000)(o:∀v∈iU x,rS n v)(T:eR a H [fc ft i] w)(U:eR a D [fc ft j] S)(hi:i<f)(S:bU e 1 y)(E:bU e 2 R)(f4:bU e 4 H)(f11:bU e 11 D)(u:bY e 78=.func (.func 192) #[] #[eU (Z ⟨X,0,K⟩)])(L:∀N,VF h0 R e N->l .ret e N)(P:∀N,ay aR a N->l .normal e N):aK FF (.Xe (.tmp 78) [79] YG LS) e a l:=by
 have Iv:=F.g.ok;have⟨z,O⟩:=O;have⟨D,q⟩:=adq Iv e [79] YG LS;have V:(a.new (.loop e [79] YG LS .ready)).aw=a.aw+1:=Q;refine aK.Xe (first:= #[]) (caps:= #[eU (Z ⟨X,0,K⟩)]) (aj u) ?_;generalize a.new (.loop e [79] YG LS .ready)=hL at*;have u:=(Iv.cg O).lt;obtain⟨u,u⟩:=F.hR;have V:=(Iv.cg u).lt;have u:=abg (h:=hL) g M c (X:=X) (y:=.func (.yield a.aw) #[] #[]) (λ_ _ m=>ay aR a m/\m.tr.get a.aw=Z (.loop e [79] YG LS .ready)) (λb=>b=R\/b=a.aw) (λN=>N.tr.get a.aw=Z (.loop e [79] YG LS (.done K))/\ZU h0 R N)
  (λ_ _ m I=>⟨F.g.trans I.1,z,I.1.get Iv O⟩) (λ_ _ m c I g=>⟨I.1.trans g,g.get I.1.ok I.2⟩) (by rintro b (rfl|rfl)<;>omega) ?_ (F.g.trans D) ⟨z,D.get Iv O⟩ (λh1 g=>⟨D.trans g,g.get D.ok q⟩)
 refine aY.mono (aj u) ?_;rintro v N (⟨g,z⟩|⟨z,D,q⟩);unfold BY;rw[z];refine P _ (g.trans' (pc g.ok a.aw) ai (λx u e=>ab));unfold BY;rw[z];refine L _ ⟨D.trans' (pc D.ok a.aw) ai (λx u e=>av F.g.aw),?_,E⟩;have⟨t,s,q⟩:=q;exact⟨t,s,(pc D.ok a.aw).get D.ok q ab⟩
 .rintro D k v m z D D⟨D,M⟩;have ZX:=o v (cO z);refine(aaS (S:=(· =R)) (Kc:=λN=>ay aR a N) (ZH:=ZU h0 R) D.ok ab M ?_ ?_ ?_).mono ?_
  .unfold YG;simp;have z:ay aR m (put (aJ m [dC cd,fc ft 0] 0) m.aw 0 [dC cd,fc ft 0] [dC v.1,fc ft v.2] 0):=(ay.refl D.ok).var _ _;have hV:(put (aJ m [dC cd,fc ft 0] 0) m.aw 0 [dC cd,fc ft 0] [dC v.1,fc ft v.2] 0).tr.get m.aw=Z (.bZ [dC v.1,fc ft v.2] cd 0 m.clock):=J
   generalize put (aJ m [dC cd,fc ft 0] 0) m.aw 0 [dC cd,fc ft 0] [dC v.1,fc ft v.2] 0=c at*;refine⟨z,λq L=>?_⟩;have c:ay aR a q:=(D.trans z).trans' L ai (λx u e=>ab);have o:=F.cm c;have⟨P,hP4⟩:=o.hP;obtain⟨P,P⟩:=o.hR;have V:=c.get Iv T;have T:=c.get Iv U;have U:=D.aw;have U:a.aw<m.aw:=D.ok.wf _ _ M;have D:=L.get z.ok hV ab;unfold LS;simp[S,E,f4,f11,hP4,V,T,D];refine bh.call (V:=Lw q) (aj (Ng o ZX hi j)) ?_;rintro _ a⟨D,t,rfl⟩;cases t
   have z:=D.get c.ok P;simp[E,z];exact⟨D.cm.trans (bc D.ok z),(o.g.trans D).put ⟨_,z⟩ (jZ F.nR),cd,a.clock,J⟩;simp;exact⟨D.cm,c.trans D⟩
  intro q a c _ g;exact c.trans' g ai (λx u e=>ab);rintro q a⟨q,t,s,c⟩ _ g;exact⟨q.trans' g ai (λx u e=>av F.g.aw),t,s,g.get q.ok c ab⟩;rintro r a⟨D,⟨rfl,G,c⟩|⟨rfl,G,a⟩⟩;exact⟨D.cU (λ_ _ h=>jZ h),jZ ⟨Q,c,G⟩⟩;exact⟨D.cU (λ_ _ h=>jZ h),kd ⟨Q,G,a⟩⟩
end
section
variable{h0:az}{C W n wc d f x R:Nat}{name:ByteArray}{p r:Int}{B:SV}
def az0(h:az)(k:Nat)(e:Env)(m:Nat)(a:Env)(N:az):Prop:=
 ∃j:Nat,m=k-j/\j<=k/\aG [8,9,10,40,41,42,43,44,45,46,47,48,49,50,51,52,53,54,55,56,57,58,59,60,61,62,63,64,65,66,67] e a/\bC a 40 j/\ay aR h N
def ajf(M:cu h0)(u:UF h0 h C W n wc d f x R name p r B)(L:qP h0 B bs)(I7:cz bs=f)(okx:cu P)(U:ay aR P h)(a:ad (KG P) 1 P F.v ah)(rw:Iy f ah){row:List (Bool×Int)}(z:ad vR 2 h0 A.v row)(hv:∀v∈row,rS n v)(c:cz row<1000000)(c:ah[i]?=Z ps)(s:cz row=cz ps)(hI:eR h H [fc ft i] w)(s:bU e 1 x)(o:bU e 2 R)(E:bY e 3=F.v)(X:bU e 4 H)(b:bY e 38=A.v)(y:bC e 39 (cz row))(q:bC e 40 0)(ret:∀D N,VF h0 R D N->l .ret D N)(Kc:∀D N,ay aR h N->aG [8,9,10,40,41,42,43,44,45,46,47,48,49,50,51,52,53,54,55,56,57,58,59,60,61,62,63,64,65,66,67] e D->l (.exit 4) D N):aK FF (.loop mw) e h l:=by
 have jq:=ad.len z;have agR:=ad.len a;have eo:=ad.len L;have QW:=u.g.ok;have aB4:i<f:=by have:=(cY.mp c).1;have:=rw.len;omega
 refine aK.loop (az0 h (cz row) e) ?_ (n:=cz row) ⟨0,Q,ab,aG.refl _ _,q,.refl QW⟩;rintro m D N⟨j,rfl,D,I,q,g⟩;have D:=u.cm g;have q1:=I.at s;have s:=I.at o;have o:=I.at E;have q4:=I.at X;have O:=I.at b;have X:=I.at y;unfold mw;by_cases y:j<cz row
 .have wj:=ch ((j:Int)+1) ab ab;have b:row[j]?=Z row[j]:=jh y;have E:=Ik y;generalize row[j]=v at b E;obtain⟨T,T,T,BN,_,_,rfl,_,T⟩:=ad.later M z b;have V:=T N D.g 0 2 ag;obtain⟨b2,b,T,agQ,_,_,⟨S,rfl,T⟩,o2,z⟩:=ad.later okx a c;have G:=U.trans g;have r2:∀k,ay aR P k->cy k b2 (b+i) 1=Z [dB S.a S.l S.c]:=λk b=>by have:=z k b 0 1 ag;simpa [-ax] using this
  have hSl:=ad.len T;have U:ps[j]?=Z ps[j]:=jh ab;have z:=Ik (l:=ps) (n:=j) ab;generalize ps[j]'ab=a at U z;have⟨ha0,han⟩:=(rw.row i ps c).2 a z;obtain⟨a,rfl⟩:∃z:Nat,a=z:=⟨a.toNat,ab⟩;have z:a<f:=ab
  obtain⟨c,aDT,c3,hSa,_,_,rfl,o3,apq⟩:=ad.later okx T U;have r3:∀k,ay aR P k->cy k c (aDT+j) 1=Z [fc ft a]:=λk b=>by have:=apq k b 0 1 ag;simpa [-ax] using this
  have⟨c,U⟩:=aQ bs a;obtain⟨b4,T,c,fD,_,_,⟨c,c,T4,rfl,sP4,sL4,sT4⟩,o4,ahr⟩:=ad.later M L U;have r4:∀k,ay aR h0 k->cy k b4 (T+a*6+1) 1=Z [dB c.a c.l c.c]:=λk b=>by have:=ahr k b 1 1 ag;simpa [-ax] using this
  simp[-ax] at V;simp at O o;rw[BN,jq] at O;rw[agQ,agR] at o;have fI:i<cz ah:=by rw[rw.len];exact aB4
  have L:=g.get QW hI;have oI:=D.g.ok.cg L;have⟨b,a⟩:=D.hP;have⟨b,M⟩:=D.hC;have b:=M;simp[AD] at b;have oP:=D.g.ok.cg a;have oC:=D.g.ok.cg M;have T:=G.cg o2;have ob3:=G.cg o3;have U:=D.g.cg o4;have M:=r2 N G;have r3':=r3 N G;have r4':=r4 N D.g;have hjp:j<cz ps:=ab
  rw[hSl,hSa] at M;rw[fD,eo,I7] at b;simp[q1,s,o,q4,O,X,q,y,V,fI,-ax,aH,cn,bj,aB L,oI,oP,oC,T,ob3,U,M,r3',r4',hjp,aI,aB a,aB b,b,a,z];refine bS.cut (λb=>ay aR N b) ?_ ?_;exact((ay.refl D.g.ok).var _ _).tick;intro b y;have a:=D.cm y;refine bS.call (V:=Lw b) (aj (Ng a (hv v E) z c.l)) ?_;rintro _ b⟨c,t,rfl⟩;cases t
  obtain⟨E,E⟩:=(a.cm c).hR;have z:=(a.g.trans c);simp[s,E];exact ret _ _ ⟨z.put ⟨_,E⟩ (jZ u.nR),⟨cd,b.clock,J⟩,au s⟩
  .simp[q,wj];refine⟨cz row-(j+1),ab,j+1,Q,ab,?_,J,(g.trans y).trans c⟩
   exact aq
 .have:j=cz row:=ab
  subst this;simp[X,q];exact Kc _ _ g (I.set)
def az1(h:az)(k:Nat)(e:Env)(m:Nat)(a:Env)(N:az):Prop:=
 ∃j:Nat,m=k-j/\j<=k/\aG [7,33,34,35,36,37,38,39,68,8,9,10,40,41,42,43,44,45,46,47,48,49,50,51,52,53,54,55,56,57,58,59,60,61,62,63,64,65,66,67] e a/\bC a 33 j/\ay aR h N
def aG.cU{l a:List Nat}{e b:Env}(c:aG l e b)(h:∀t∈l,t∈a:=by decide):aG a e b:=λt k=>c t (λN=>k (h t N))
def afp(X:cu h0)(D:UF h0 h C W n wc d f x R name p r B)(hB:qP h0 B bs)(T:cz bs=f)(okx:cu P)(gx:ay aR P h)(IY:ad (KG P) 1 P F.v ah)(rw:Iy f ah)(M:ah[i]?=Z ps)(hI:eR h H [fc ft i] w){g:SV}{a:List GP}(z:ad (pR h0) 2 h0 g.v a)(o:cz a<1000000)(t:∀q∈a,cz q.row=cz ps/\∀v∈q.row,rS n v)(u:bU e 1 x)(S:bU e 2 R)(f3:bY e 3=F.v)(c:bU e 4 H)(O:bY e 31=g.v)(s:bC e 32 (cz a))(E:bC e 33 0)(ret:∀o N,VF h0 R o N->l .ret o N)(Kc:∀o N,ay aR h N->aG [7,33,34,35,36,37,38,39,68,8,9,10,40,41,42,43,44,45,46,47,48,49,50,51,52,53,54,55,56,57,58,59,60,61,62,63,64,65,66,67] e o->l (.exit 2) o N):aK FF (.loop my) e h l:=by
 have fW:=ad.len z;have U:=D.g.ok;refine aK.loop (az1 h (cz a) e) ?_ (n:=cz a) ⟨0,Q,ab,aG.refl _ _,E,.refl U⟩;rintro m o N⟨j,rfl,g,k,G,L⟩;have b:=D.cm L;have y:=k.at u;have q2:=k.at S;have o:=k.at f3;have q4:=k.at c;have D:=k.at O;have I:=k.at s;unfold my;by_cases g:j<cz a
 .have c:=ch ((j:Int)+1) ab ab;have S:a[j]?=Z a[j]:=jh g;have E:=Ik g;generalize a[j]=q at S E;have⟨hql,V⟩:=t q E;obtain⟨u,t,u,t,_,_,⟨A,rfl,E⟩,_,u⟩:=ad.later X z S;have S:=u N b.g 0 2 ag;have s:=ad.len E;have:=(rw.row i ps M).1;simp[-ax] at S;simp at D;rw[t,fW] at D;simp[D,I,G,g,S,-ax,aH];refine aK.cut (λh1=>ay aR N h1) ((ay.refl b.g.ok).var _ _) ?_;intro S z;have u:=b.cm z;have t:=L.trans z;refine ajf X u hB T okx (gx.trans t) IY rw E V ab M hql (t.get U hI) (au y) (au q2) (au o) (au q4) J (au s) J ?_ ?_
  intro S o u;simp;exact ret _ _ u
  .intro S o b s;have y:=s.at (t:=33) (ak G);simp[y,c];refine⟨cz a-(j+1),ab,j+1,Q,ab,?_,J,t.trans b⟩;refine aG.set (aG.set (aG.trans ?_ (s.cU)))
   exact aq
 .have:j=cz a:=ab
  subst this;simp[I,G];exact Kc _ _ L (k.set)
end
section
variable{h0:az}{C W n wc d f y R:Nat}{name:ByteArray}{p r:Int}{B:SV}
def azZ(h:az)(k:Nat)(e:Env)(m:Nat)(a:Env)(N:az):Prop:=
 ∃j:Nat,m=k-j/\j<=k/\aG [11,12,13,72,73,74,75,76,77,78,86] e a/\bC a 72 j/\ay aR h N
def afo(X:cu h0)(F:UF h0 h C W n wc d f y R name p r B)(hi:i<f)(hI:eR h H [fc ft i] w){T:List GI}(U:ad (iR h0) 8 h0 L.v T)(c:cz T<1000000)(t:∀x∈T,cz x.args<2000000/\∀v∈iU x,rS n v)(o:bU e 1 y)(a:bU e 2 R)(P:bU e 4 H)(s:bY e 70=L.v)(O:bC e 71 (cz T))(E:bC e 72 0)(ret:∀G N,VF h0 R G N->l .ret G N)(Kc:∀G N,ay aR h N->aG [11,12,13,72,73,74,75,76,77,78,86] e G->l (.exit 6) G N):aK FF (.loop mu) e h l:=by
 have q:=ad.len U;have u:=F.g.ok;refine aK.loop (azZ h (cz T) e) ?_ (n:=cz T) ⟨0,Q,ab,aG.refl _ _,E,.refl u⟩;rintro m G N⟨j,rfl,g,D,k,V⟩;have g:=F.cm V;have z:=D.at o;have q2:=D.at a;have q4:=D.at P;have a:=D.at s;have I:=D.at O;unfold mu;by_cases P:j<cz T
 .have s:=ch ((j:Int)+1) ab ab;have S:T[j]?=Z T[j]:=jh P;have E:=Ik P;generalize T[j]=x at S E;have⟨AE,hv⟩:=t x E;obtain⟨E,o,o,o,_,_,⟨A,rfl,E⟩,c,M⟩:=ad.later X U S;have S:=M N g.g 0 8 ag;have b:=g.g.cg c;simp[aM,-ax] at S;simp at a;rw[o,q] at a;simp[a,I,k,P,S,-ax,aH,bj,cn,b];refine bh.cut (λh1=>ay aR N h1/\di h1 N.aw [fc ft j]) ?_ ?_
  .refine⟨?_,⟨N.clock,J⟩⟩
   repeat (first|exact .refl g.g.ok|apply ay.new|refine ay.put ?_ J J)
  rintro P⟨U,o,g⟩;have t:=V.trans U;refine bh.call (V:=λv N=>v=.func (.func 192) #[] #[eU (Z ⟨P.aw,0,K⟩)]/\N=aJ P (jj x A) 0) (by simpa [jj,aM] using afr P x A) ?_;rintro _ o⟨rfl,S⟩;have b:ay aR P o:=by rw[S];exact aO t.ok _ _
  have U:di o P.aw (jj x A):=⟨0,by rw[S];exact bX _ _ _⟩;clear S;have a:=t.trans b;have q:=b.get t.ok g;have M:=a.get u hI;simp;refine afq X (F.cm a) U E AE hv M q hi (au z) (au q2) (au q4) J J ?_ ?_
  intro o u;simp;exact ret _ _ u
  .intro o c;simp[k,s];refine⟨cz T-(j+1),ab,j+1,Q,ab,?_,J,a.trans c⟩
   exact aq
 .have:j=cz T:=ab
  subst this;simp[I,k];exact Kc _ _ V (D.set)
structure Yv(n:Nat)(ah:List (List Int))(bs:List GB):Prop where
 ph:∀(i:Nat) b,bs[i]?=Z b->cz b.bz<1000000/\∀ps,ah[i]?=Z ps->∀q∈b.bz,cz q.row=cz ps/\∀v∈q.row,rS n v
 li:∀b∈bs,cz b.list<1000000/\∀x∈b.list,cz x.args<2000000/\∀v∈iU x,rS n v
 on:∀b∈bs,rS n b.on
def az2(h:az)(C W n wc d f y R:Nat)(B F:SV)(k:Nat)(m:Nat)(a:Env)(N:az):Prop:=
 ∃j:Nat,m=k-j/\j<=k/\bU a 1 y/\bU a 2 R/\bY a 3=F.v/\bY a 23=B.v/\bC a 24 k/\bC a 25 j/\ay aR h N
def afT(h:az)(v:aa)(N:az):Prop:=ay aR h N/\∃t:Bool,v=dC t
def afn(k:cu h0)(U:qP h0 B bs)(E:kE bs)(S:cz bs=f)(O:Yv n (Edge.df (cw bs)) bs){c o a:Nat}{b:List (Int×Int)}{w:List Int}(i:eR h0 C (AD name p r B ⟨Z ⟨d,0,K⟩,f,f⟩ ⟨Z ⟨W,0,K⟩,n,wc⟩) c)(e:eR h0 W (jC.flat b) o)(z:cz b=n)(y:eR h0 d (encI.flat w) a)(h:Tree.SK w f)(l:n<1000000):aY FF 89 [eU (Z ⟨C,0,K⟩)] h0 (afT h0):=by
 have A:=ad.len U;have V:=E.len;have u:=abD E;rw[S] at u;have q:=k.cg i;have M:=i;simp[AD] at M;refine aY.of Fq ?_;unfold wG;simp[M,q];refine bh.cut (λh1=>UF h0 h1 C W n wc d f h0.aw (h0.aw+1) name p r B) ?_ ?_
 have g:ay aR h0 (aJ (aJ h0 [eU (Z ⟨C,0,K⟩)] 0) [dC cd] 0):=((ay.refl k).new _ _).new _ _;exact⟨g,⟨c,g.get k i⟩,⟨b,o,g.get k e,z⟩,⟨w,a,g.get k y,h⟩,⟨0,J⟩,⟨0,J⟩,ab,ab,l⟩;intro h1 o;refine bh.call (V:=λv N=>ay aR h1 N/\∃d b,v=dB (Z ⟨d,0,K⟩) (cz bs) (cz bs)/\lx encI h1.aw N d b (Edge.df (cw bs))) (by simpa [aC,A] using mh o.g.ok (name:=name) (p:=p) (r:=r) (U.mono k o.g) E) ?_;rintro _ b⟨i,X,h,rfl,q⟩;have I:=o.cm i;have⟨c,h⟩:=I.hP;have⟨M,z⟩:=I.hC;simp[AD] at z;have M:=abB (c:=cz bs) q;have e:cz (Edge.df (cw bs))=cz bs:=by rw[Edge.lM];simp[cw]
 rw[e] at M;simp[h,z];refine aK.loop (az2 b C W n wc d f h0.aw (h0.aw+1) B ⟨Z ⟨X,0,K⟩,cz bs,cz bs⟩ (cz bs)) ?_ (n:=cz bs) ⟨0,Q,ab,J,J,J,J,au A,J,.refl I.g.ok⟩;rintro m X N⟨j,rfl,D,q1,o,w,D,i,H,g⟩;have z:=I.cm g;have V:∀X N,VF h0 (h0.aw+1) X N->GM [.cell 2 K] (afT h0) .ret X N:=by rintro X N⟨e,⟨t,s,q⟩,l⟩;simp[l,q];exact⟨e,t,Q⟩
 unfold tX;by_cases a:j<cz bs
 .have wj:=ch ((j:Int)+1) ab ab;have l:bs[j]?=Z bs[j]:=jh a;have E:=Ik a;generalize bs[j]=x at l E;obtain⟨y,y,h,fD,_,_,⟨P,L,T,rfl,c,sL,b⟩,X,h⟩:=ad.later k U l;have e:=h N z.g 0 6 ag;have y:=z.g.cg X;have fW:=ad.len c;have jD:=ad.len sL;have⟨ps,h⟩:=aQ (Edge.df (cw bs)) j;have⟨aCB,b⟩:=O.ph j x l;have⟨aCg,aCh⟩:=O.li x E;simp[-ax] at e;simp at D;rw[fD,A] at D;simp[D,i,H,a,e,-ax,aH,bj,cn,y];refine aK.cut (λh1=>ay aR N h1/\(di h1 N.aw [fc ft j])/\di h1 (N.aw+1) [P.v,L.v,fc ft x.kind,dC x.on.1,fc ft x.on.2,T.v]) ?_ ?_
  .refine⟨?_,⟨N.clock,J⟩,⟨N.clock+1,J⟩⟩
   repeat (first|exact .refl z.g.ok|apply ay.new|refine ay.put ?_ J J)
  rintro X⟨l,⟨a,a⟩,X,X⟩;have y:=g.trans l;have F5:=I.cm y;refine afp k F5 U S I.g.ok y M u h a c aCB (b ps h) (au q1) (au o) (au w) J J (au fW) J ?_ ?_
  intro S c q;simpa using V _ _ q;intro S c b G;have e:=b.get y.ok a;have h:=b.get y.ok X;have U:=G.at (t:=1) (ak q1);have X:=G.at (t:=2) (ak o);have k3:=G.at (t:=3) (ak w);have y:bU S 4 N.aw:=G.at J;have w:bU S 5 (N.aw+1):=G.at J;have k23:=G.at (t:=23) (ak D);have k24:=G.at (t:=24) (ak i);have k25:=G.at (t:=25) (ak H);simp at h;simp[w,h];have a:=F5.cm b;refine afo k a ab e sL aCg aCh (au U) (au X) (au y) J (au jD) J ?_ ?_
  intro D M q;simpa using V _ _ q;intro D M c F;have hI7:=c.get a.g.ok e;have Io:=c.get a.g.ok h;have u:=a.cm c;have⟨e,a⟩:=u.hP;have S:=F.at (t:=1) (ak U);have V:=F.at (t:=2) (ak X);have h:=F.at (t:=3) (ak k3);have X:bU D 4 N.aw:=F.at (ak y);have q:bU D 5 (N.aw+1):=F.at (ak w);have e:=F.at (t:=23) (ak k23);have U:=F.at (t:=24) (ak k24);have D:=F.at (t:=25) (ak k25);simp[S,X,q,hI7,Io,a];refine bh.call (V:=Lw M) (aj (Ng u (O.on x E) (i:=j) ab L.l)) ?_;rintro _ q⟨w,t,rfl⟩;have E:=u.cm w;cases t
  have⟨X,a⟩:=E.hR;simp[V,a];exact⟨E.g.put ⟨_,a⟩ (jZ E.nR),cd,Q⟩;simp[D,wj];exact⟨cz bs-(j+1),ab,j+1,Q,ab,au S,au V,au h,by simp[e,fD,A],by simp[U],J,(((g.trans l).trans b).trans c).trans w⟩
 .have:j=cz bs:=ab
  subst this;have⟨X,a⟩:=z.hR;simp[i,H,o,a];exact⟨z.g.put ⟨_,a⟩ (jZ z.nR),ck,Q⟩
end
def GJ(bs:List GB):Prop:=cz bs<=cz (xC bs)
def ar9(bs:List GB)(h:az)(v:aa)(N:az):Prop:=ay aR h N/\∃c:Int,v=fc ft c/\(c=0->GJ bs/\(bs.flatMap Ho).Nodup)
def Sc(f:cu h){name:ByteArray}(c:qP h B bs)(E:kE bs)(h0:0<cz bs)(D:Yp n bs)(O:Yv n (Edge.df (cw bs)) bs)(A:T<=n)(i:n<1000000):aY FF 35 [ix ⟨aC name T n B⟩] h (ar9 bs h):=by
 have r:=ad.len c;have a:=E.len;refine aY.of Pa ?_;unfold EH;simp[aC];have a:ay aR h (tick (aJ h (aC name T n B) 0)):=(aO f _ _).tick;refine bS.cut (λh1=>ay aR h h1/\h1.tr.get h.aw=Z (.bZ (aC name T n B) cd 0 0)/\h1.tr.get (h.aw+1)=Z (.bZ [fc ft (-1),fc ft (-1)] cd 0 0)) ?_ ?_
 simp[aC] at a;exact⟨a.new _ _,by simp[aC],J⟩;rintro h1⟨a,y,p⟩;refine bS.call (V:=amp h1 (cz bs)) (by simpa [aC] using afk a.ok (name:=name) (p:=T) (r:=n) (c.mono f a) E h0) ?_;rintro _ l⟨b,j,o,o,rfl,o,o,C⟩;have g:=b.get a.ok y;simp[aC] at g;have G:=b.get a.ok p;simp[g,G];have F:=a.trans b;refine bS.call (V:=λv N=>ay aR l N/\∃d s,v=dB (Z ⟨d,0,K⟩) n n/\l.aw<=d/\N.tr.get d=Z (.bZ (jC.flat (ae n (-1,-1))) cd 0 s)) (aj (aiK F.ok n i (x:=(-1,-1)) G)) ?_;rintro _ b⟨a,W,M,rfl,l,p⟩;have k:=F.trans a;have l:=a.get F.ok g;have g:=a.get F.ok o;have a:=k.ok.cg l;simp[l,a];refine bS.cut (λH=>ay aR b H/\di H b.aw (AD name T n B ⟨Z ⟨j,0,K⟩,cz bs,cz bs⟩ ⟨Z ⟨W,0,K⟩,n,n⟩)) ?_ ?_
 exact⟨((ay.refl k.ok).new _ _).tick,0,by simp[AD]⟩;rintro H⟨a,w,S⟩;have m:=k.trans a;have y:=a.get k.ok l;have x:=a.get k.ok p;have u:=a.get k.ok g;refine bS.call (V:=λv N=>ay aR H N/\∃L:SV,v=L.v/\bm encI H.aw N L.v (xC bs)) (by simpa [aC] using Q8 m.ok (name:=name) (p:=T) (r:=n) (c.mono f m) E h0) ?_;rintro _ q⟨a,L,rfl,z⟩;have g:=m.trans a;have l:=a.get m.ok y;have y:=a.get m.ok x;have x:=a.get m.ok u;have P:=a.get m.ok S;have u:L.l=cz (xC bs):=by rcases z with⟨e,I⟩|⟨_,_,I,_⟩;simp at I;rw[e,I.2.1];rfl;simp at I;exact I.2.1
 have a:W<b.aw:=(k.ok.cg p).lt;by_cases a:cz (xC bs)<cz bs;simp[l,r,u,a];exact⟨g,5,Q,λh=>by cases h⟩
 .simp[l,r,u,a];have a:SC h q b.aw W n n name T n B ⟨Z ⟨j,0,K⟩,cz bs,cz bs⟩ ck []:=⟨g,av F.aw,ab,⟨w,P⟩,_,M,y,J,Mp.nil _ _⟩;refine bh.call (V:=asK h q b.aw W n n name T n B ⟨Z ⟨j,0,K⟩,cz bs,cz bs⟩ bs) (aj (XV f c D a Q A i)) ?_;rintro _ q⟨t,rfl,a,b⟩;cases t
  simp;exact⟨a.g,7,Q,λh=>by cases h⟩
  .simp;have⟨A,y⟩:=a.hC;obtain⟨A,A,j,D,A⟩:=a.hW;have M:=(F.ok.cg o).lt;have o:=b.get g.ok x ab;refine bh.call (V:=afT q) (aj (afn a.g.ok (c.mono f a.g) E Q O y j D o C i)) ?_;rintro _ i⟨i,t,rfl⟩;cases t
   simp;exact⟨a.g.trans i,6,Q,λh=>by cases h⟩;simp;exact⟨a.g.trans i,0,Q,λ_=>⟨by unfold GJ;omega,(A Q).1⟩⟩
def jF{b:GB}(h:b∈bs):cz b.bz+cz b.list<=dF bs:=by
 induction bs with
 |nil=>simp at h
 |cons x bs a=>
  simp only[dF];rcases bn.1 h with rfl|h;omega;have:=a h;omega
def ab6{a:Int}{x:GI}(h:zK a x):x.dst= -1\/BV a x.dst:=by have k:=h.form;unfold cR at k;cases m:(dX x.op).1;rw[m] at k;simp at k;exact jZ k.1;by_cases a:x.op=20/\x.dst= -1;exact jZ a.2;exact kd (h.dst m a)
def vU{a:Int}{x:GI}(h:zK a x):tu a x.args/\cz x.args<=6:=by
 by_cases a:x.op=20;exact h.args a
 .have k:=h.form;unfold cR at k;have m:(x.op==20)=cd:=aj a
  rw[m] at k;simp at k;have:x.args=[]:=AN (by have:=k.2.2.2.2;simp[this]);rw[this];exact⟨tu.nil _,J⟩
def We{a:Int}{x:GI}(h:zK a x):tu a x.args:=(vU h).1
def IB{a:Int}{v:Bool×Int}(h:yp a v):rS a.toNat v:=by intro h1;have:=h h1;omega
def ahM{a:Int}{x:GI}(h:zK a x):∀v∈iU x,yp a v:=by intro v a;unfold iU at a;rcases kg.1 a with a|a;split at a;simp at a;subst a;exact h.a;cases a;rcases kg.1 a with a|a;split at a;simp at a;subst a;exact h.b;cases a;exact We h v a
structure iv(f:GF):Prop where
 head:Fa f
 body:Ix f.aF f.blocks
 sm:∀b∈f.blocks,AL b
def iv.ends{f:GF}(F:iv f):kE f.blocks:=F.body.ends.ends (av F.head.blocks)
def iv.aAA{f:GF}(F:iv f):Yp f.aF.toNat f.blocks:=by
 have V:=F.head.blocks;have G:=F.head.many;refine⟨ab,λb V=>⟨av (jF V),λq m=>?_⟩,λb V=>⟨av (jF V),λx D=>?_⟩⟩
 have⟨i,a⟩:=iG V;have⟨_,l,_,k⟩:=(F.body.LQ i b a).bz q m;have:=k.dst;unfold BV at this;omega
 .have⟨i,a⟩:=iG V;have H:=F.head.aF;have k:=F.head.params;rcases ab6 ((F.body.LQ i b a).list x D) with h|h
  omega;unfold BV at h;omega
def iv.aje{f:GF}(F:iv f):Yv f.aF.toNat (Edge.df (cw f.blocks)) f.blocks:=by
 have f:=F.head.many;refine⟨λi b V=>⟨av (jF (cO V)),λps G q H=>?_⟩,λb V=>⟨av (jF V),λx D=>?_⟩,λb V=>?_⟩;have⟨_,l,I,k⟩:=(F.body.LQ i b V).bz q H;rw[I] at G;cases G;exact⟨k.len,λv a=>IB (k.row v a)⟩;have⟨i,m⟩:=iG V;have:=(vU ((F.body.LQ i b m).list x D)).2;exact⟨ab,λv a=>IB (ahM ((F.body.LQ i b m).list x D) v a)⟩
 intro h1;have:=(F.body.ends b V).on h1;omega
structure Ex(u:GU):Prop where
 unit:LF u
 form:∀f∈u.funcs,iv f
 seen:∀f∈u.funcs,GJ f.blocks
 once:∀f∈u.funcs,(f.blocks.flatMap Ho).Nodup
def Ex.of(U:LF u)(k:Iz u)(S:∀f∈u.funcs,GJ f.blocks/\(f.blocks.flatMap Ho).Nodup):Ex u:=⟨U,λf a=>⟨U.head f a,U.body f a,k.bs f a⟩,λf a=>(S f a).1,λf a=>(S f a).2⟩
def azH(h0 h:az)(R:Nat)(F:SV)(a:List GF)(m:Nat)(e:Env)(N:az):Prop:=
 ∃j:Nat,m=cz a-j/\j<=cz a/\bU e 2 R/\bY e 14=F.v/\bC e 15 (cz a)/\bC e 16 j/\ay aR h N/\∀f∈a.take j,GJ f.blocks/\(f.blocks.flatMap Ho).Nodup
def Kg(a:cu h)(s:IC h){G F:SV}(t:uR h G F u)(o:Iz u):aY FF 13 [ix ⟨[G.v,F.v]⟩] h (AK (Ex u) h):=by
 have q:=ad.len t.2;refine aY.of U7 ?_;unfold JI;simp;refine bh.cut (λh1=>ay aR h h1/\h1.tr.get h.aw=Z (.bZ [G.v,F.v] cd 0 0)/\h1.tr.get (h.aw+1)=Z (.bZ [fc ft 0,fc ft 0] cd 0 0)) ?_ ?_;exact⟨((ay.refl a).new _ _).new _ _,J,J⟩;rintro h1⟨f,g,d⟩;refine bh.call (V:=AK (LF u) h1) (aj (YN f.ok (s.grow a f) (t.mono a f) o)) ?_;rintro _ s⟨k,c,y,rfl,I⟩;have z:=f.trans k;have l:=k.get f.ok g;have g:=k.get f.ok d;simp at l;have H:=k.ok.cg g;have f:=k.ok.cg l;rcases I with I|⟨rfl,rfl,d⟩
 .have x:(c==0)=cd:=aj I
  simp[x,g,H,aH,-ax];refine⟨ay.put (z.var _ _) ⟨0,?_⟩ (jZ ab),c,y,Q,jZ I⟩;rw[dO,bM (av H.lt),ME H,g]
 simp[l,f];refine aK.cut (λl=>ay aR s l) ?_ ?_;exact(ay.refl k.ok).var _ _;intro l s;have y:=z.trans s;have S:=d;refine aK.loop (azH h l (h.aw+1) F u.funcs) ?_ (n:=cz u.funcs) ⟨0,Q,ab,J,J,au q,J,.refl y.ok,λf l=>by simp at l⟩;rintro m e N⟨j,rfl,l,z,l,x,v,p,r⟩;have b:=y.trans p;have y:=(s.trans p).get k.ok g;unfold EX;by_cases s:j<cz u.funcs
 .have L:=ch ((j:Int)+1) ab (av d.fn);have w:u.funcs[j]?=Z u.funcs[j]:=jh s;have i:=Ik s;generalize u.funcs[j]=f at w i;have g:iv f:=⟨d.head f i,d.body f i,o.bs f i⟩;have n:=g.head;obtain⟨i,i,i,A,_,_,⟨B,rfl,M⟩,i,i⟩:=ad.later a t.2 w;have t:=i N b 0 4 ag;simp[-ax] at t;simp at l;rw[A,q] at l;have i:=n.params;have i:=n.aF;have⟨T,P⟩:∃T:Nat,f.params=T:=⟨f.params.toNat,ab⟩;have⟨i,C⟩:∃i:Nat,f.aF=i:=⟨f.aF.toNat,ab⟩;have D:=g.aAA;have O:=g.aje;have E:f.aF.toNat=i:=ab
  rw[E] at D O;simp[l,x,v,s,t,-ax,aH];refine bh.cut (λh1=>ay aR N h1) ((ay.refl b.ok).var _ _) ?_;intro t s;have i:=b.trans s;rw[P,C];refine bh.call (V:=ar9 f.blocks t) (by simpa [aC] using Sc i.ok (name:=f.name) (M.mono a i λ_ _ f=>f.mono a i) g.ends (av n.blocks) D O ab ab) ?_;rintro _ f⟨n,c,rfl,I⟩;have D:=(s.trans n).get b.ok y;have g:=i.trans n;by_cases a:c=0
  subst a;simp[v,L];refine⟨cz u.funcs-(j+1),ab,j+1,Q,ab,au z,by simp[l,A,q],au x,J,(p.trans s).trans n,λs n=>?_⟩;rw[kh,w] at n;rcases kg.1 n with h1|h1;exact r s h1;simp at h1;subst h1;exact I rfl
  .have n:(c !=0)=ck:=aj a
   simp[n,a];refine bh.call (aj (mf f g.ok c (j:Int))) ?_;rintro _ n⟨rfl,n⟩;have w:=n.get g.ok D;simp[z,w];exact⟨(g.trans n).put ⟨_,w⟩ (jZ ab),c,j,Q,jZ a⟩
 .have:j=cz u.funcs:=ab
  subst this;rw[mO] at r;simp[x,v,z,y];exact⟨b.put ⟨_,y⟩ (jZ ab),0,0,Q,kd ⟨Q,Q,Ex.of d o r⟩⟩
def eM{α:Type}(E:e7 α)(h:az)(A:SV)(a:List α):Prop:=
 A.l=cz a/\((A.a=K/\A.c=0/\a=[])\/∃b o s c,A.a=Z ⟨b,0,K⟩/\A.c=cz a+cz c/\h.tr.get b=Z (.bZ (E.flat (a++c)) cd o s)/\(o=0\/o=E.sz))
section
variable{α:Type}{E:e7 α}{h N:az}{A:SV}{f:List α}
def eM.len(w:eM E h A f):A.l=cz f:=w.1
def eM.nil(E:e7 α)(h:az):eM E h cM []:=⟨Q,jZ ⟨Q,Q,Q⟩⟩
def fH(h:A.a=Z ⟨b,0,K⟩):bx A.v b:=⟨0,A.l,A.c,au h⟩
def Fg{b a:Nat}(h:A.a=Z ⟨b,0,K⟩)(k:bx A.v a):a=b:=by obtain⟨a,n,a,e⟩:=k;simp[h] at e;exact e.1.1.symm
def Dg(h:A.a=K)(k:bx A.v b):False:=by obtain⟨a,n,a,e⟩:=k;simp[h] at e
def eM.grow(w:eM E h A f)(k:cu h)(g:ay S h N)(D:∀b,bx A.v b->¬S b):eM E N A f:=by have⟨m,w⟩:=w;refine⟨m,?_⟩;rcases w with w|⟨b,o,s,G,O,F,V,a⟩;exact jZ w;exact kd ⟨b,o,s,G,O,F,g.get k V (D b (fH O)),a⟩
def eM.cm(w:eM E h A f)(a:cu h)(g:ay aR h N):eM E N A f:=w.grow a g ai
def eM.sl(w:eM E h A f):bp E h A.v f:=by have⟨a,w⟩:=w;refine⟨A.a,A.c,au a,?_⟩;rcases w with⟨O,_,rfl⟩|⟨b,o,s,k,O,m,V,D⟩;exact jZ ⟨Q,jZ O⟩;refine kd ⟨b,0,_,_,_,_,O,V,?_,?_⟩;simp[xf];rw[lV,E.jO];simp
def eM.cg(w:eM E h A f)(a:cu h)(k:bx A.v b):b<h.aw:=by have⟨D,w⟩:=w;rcases w with⟨O,_⟩|⟨F,o,s,H,O,G,V,m⟩;exact(Dg O k).elim;rw[Fg O k];exact a.wf _ _ V
def Xy(E:e7 α)(a:List α)(i:Nat)(x y:α)(c:a[i]?=Z x)(k:Nat)(b:List aa)(F:k+cz b<=E.sz)(e:aX (E.enc x) k b=E.enc y):aX (E.flat a) (i*E.sz+k) b=E.flat (a.set i y):=by
 have m:=(cY.mp c).1;rw[List.set_eq_take_append_cons_drop,bK m,E.fK,E.jb,<-e];unfold aX;have h1:(E.flat a).take (i*E.sz+k)=E.flat (a.take i)++(E.enc x).take k:=by rw[rA,E.jO];congr 1;rw[<-E.tf a i x c,List.take_take,Nat.min_eq_left ab]
 have D:(E.flat a).drop (i*E.sz+k+cz b)=(E.enc x).drop (k+cz b)++E.flat (a.drop (i+1)):=by rw[IU,<-hJ,E.pW,et m,E.jb,gB,(cY.mp c).2,E.len,show k+cz b-E.sz=0 by omega,lV]
 rw[h1,D];simp[MD]
def eM.el(w:eM E h A f){x:α}(I:f[i]?=Z x):∃b D o s,A.a=Z ⟨b,0,K⟩/\h.tr.get b=Z (.bZ D cd o s)/\i<A.l/\(∀k m,k+m<=E.sz->i*E.sz+k+m<=cz D)/\(∀k m,k+m<=E.sz->cy h b (i*E.sz+k) m=Z (((E.enc x).drop k).take m))/\∀y k a,k+cz a<=E.sz->aX (E.enc x) k a=E.enc y->∀h1:az,(∃s,h1.tr.get b=Z (.bZ (aX D (i*E.sz+k) a) cd o s))->eM E h1 A (f.set i y):=by
 have⟨j,w⟩:=w;have F:=(cY.mp I).1;rcases w with⟨O,_,rfl⟩|⟨b,o,s,D,O,l,V,n⟩
 simp at F
 .have H:(f++D)[i]?=Z x:=by rw[MG F];exact I
  have G:∀k m,k+m<=E.sz->i*E.sz+k+m<=cz (E.flat (f++D)):=by intro k m c;rw[E.dT,X0];have:(i+1)*E.sz<=(cz f+cz D)*E.sz:=IX _ ab;rw[xf] at this;omega
  refine⟨b,_,o,s,O,V,ab,G,λk m c=>?_,λy k a y e h1 ⟨d,g⟩=>⟨aj j,kd ⟨b,o,d,D,O,aj l,?_,n⟩⟩⟩;rw[dx V (G k m c),E.sw _ _ _ _ _ H c];rw[g,Xy E _ _ _ _ H k a y e,K2,bK F]
def Od(E:e7 α)(f a b:List α)(h:cz a<=cz b):aX (E.flat (f++b)) (cz f*E.sz) (E.flat a)=E.flat ((f++a)++b.drop (cz a)):=by unfold aX;rw[E.jO,E.dT,<-xf,E.pW];have:List.drop (cz f+cz a) f=[]:=Cy ab;simp[gB,this]
def Ff{j:List α}(D:cu h)(k:cz z=E.sz)(w:eM E h A f)(S:bp E h v j)(d:cz f+cz j<2000000)(B:bytes<=1000):∃(G:SV) (N:az),js h z bytes cd A.v v=Z (G.v,N)/\eM E N G (f++j)/\ay (bx A.v) h N/\(∀b,bx G.v b->bx A.v b\/b=h.aw)/\(A.c=A.l->G.c=G.l):=by
 have H:=E.pos;have t:E.sz≠0:=ab
 have m:=w.1;unfold js;rw[HN k S];dsimp only;rcases j with _|⟨y,j⟩
 .refine⟨A,h,?_,aj w,.refl D,λb V=>jZ V,λh=>h⟩;have:A.l<=A.c:=by rcases w.2 with⟨_,g,rfl⟩|⟨_,_,_,a,_,g,_⟩;rw[m];simp;omega
  simp[eI,k,H,this]
 .have F:roomy (cz f+(cz j+1))=ck:=by simp[roomy];simp at d;omega
  have I:roomy ((cz f+(cz j+1))*bytes)=ck:=by have:(cz f+(cz j+1))*bytes<=2000000*1000:=sn (by simp at d;omega) B;simp[roomy];omega
  have r:cz (E.flat (y::j))=(cz j+1)*E.sz:=by rw[E.dT,eN]
  have⟨L,C⟩:∃L,L=E.flat (y::j):=⟨_,Q⟩;rw[<-C] at r⊢;rcases w.2 with⟨O,S,rfl⟩|⟨b,o,s,a,O,S,V,d⟩;refine⟨⟨Z ⟨h.aw,0,K⟩,cz j+1,cz j+1⟩,aJ h L E.sz,?_,⟨J,kd ⟨h.aw,E.sz,0,[],Q,J,?_,kd Q⟩⟩,(aO D _ _).cm,λb V=>kd (Fg Q V),λ_=>rfl⟩;simp only[List.length_nil,IV] at F I m;simp[eI,k,H,F,I,O,S,m];rw[bX,C];simp
  .have U:(E.flat (f++a)).take (cz f*E.sz)=E.flat f:=by rw[E.jO];simp
   by_cases p:cz f+(cz j+1)<=A.c
   .have T:cz f*E.sz+(cz j+1)*E.sz<=(cz f+cz a)*E.sz:=by rw[<-xf];exact IX _ ab
    refine⟨⟨A.a,cz f+(cz j+1),A.c⟩,put h b (cz f*E.sz) (E.flat (f++a)) L o,?_,⟨J,kd ⟨b,o,h.clock,a.drop (cz j+1),O,by simp;omega,?_,d⟩⟩,?_,?_,λh=>ab⟩;simp[eI,k,H,F,I,O,m,p,V,r];have l:(cz j+1)*E.sz<=cz a*E.sz:=IX _ ab;rw[bK l]
    rw[aZ,C,Od E f (y::j) a (by simp;omega)];rfl;exact(bc D V).cU (λx _ e=>e▸fH O);intro P P;have:=Fg (A:=⟨A.a,cz f+(cz j+1),A.c⟩) O P;exact jZ (this▸fH O)
   .have T:((E.flat (f++a)).drop 0).take (cz f*E.sz)=E.flat f:=by rw[lV,U]
    have T:E.flat f++L=E.flat (f++y::j++[]):=by rw[C,Bx,E.fK]
    rcases d with rfl|rfl;refine⟨⟨Z ⟨h.aw,0,K⟩,cz f+(cz j+1),cz f+(cz j+1)⟩,aJ h (E.flat f++L) E.sz,?_,⟨J,kd ⟨h.aw,E.sz,0,[],Q,J,?_,kd Q⟩⟩,(aO D _ _).cm,λb V=>kd (Fg Q V),λ_=>rfl⟩;simp[eI,k,H,F,I,O,m,p,V,U];rw[bX,T]
    .refine⟨⟨Z ⟨h.aw,0,K⟩,cz f+(cz j+1),cz f+(cz j+1)⟩,aJ {h with tr:=h.tr.del b} (E.flat f++L) E.sz,?_,⟨J,kd ⟨h.aw,E.sz,0,[],Q,J,?_,kd Q⟩⟩,?_,λb V=>kd (Fg Q V),λ_=>rfl⟩
     .have y:A.c*E.sz=(cz f+cz a)*E.sz:=by rw[S]
      simp[eI,k,H,F,I,O,m,p,V,U,t];intro p;have:Nat.beq (A.c*E.sz) (cz f*E.sz+cz a*E.sz)=ck:=by rw[y,xf];exact Nat.beq_refl _
      rw[this] at p;cases p
     have:=bX {h with tr:=h.tr.del b} (E.flat f++L) E.sz;rw[<-T];exact this;refine((pc D b).cU ?_).trans (aO (pc D b).ok _ _).cm;rintro x _ rfl;exact fH O
end
def Qb(z:List aa)(bytes:Nat):aD:=(G_ [o_ 2 (.mv (.const (dB K 0 0)))] (J_ (G_ [m_ 3 0,o_ 4 (.bin .eql [3] (t_ 3) (.const (dB K 0 0)))] (I_ 4 (G_ [o_ 2 (.mv (.const (dB K 0 0)))] .ret) .skip)) (G_ [o_ 5 (.uu 0 [] []),m_ 6 0,o_ 7 (.append z bytes cd (t_ 5) (t_ 6)),m_ 2 7] .ret)))
def lz{α:Type}(E:e7 α)(h:az)(a:List α)(r:aa)(N:az):Prop:=ay aR h N/\∃w:SV,r=w.v/\eM E N w a/\(∀b,bx w.v b->h.aw<=b)/\w.c=w.l
def mQ(E:e7 α){f bytes:Nat}(j:FF f=Z ⟨[.tmp 2],Qb z bytes,.no⟩)(c:cz z=E.sz)(d:bytes<=1000)(G:cu h){v:SV}{a:List α}(H:bp E h v.v a)(g:cz a<2000000):aY FF f [v.v] h (lz E h a):=by
 have f:=E.pos;have f:v.l=cz a:=by have⟨D,i,e,_⟩:=H;simp at e;exact e.2.1
 refine aY.of j ?_;unfold Qb;rcases O:v.a with _|j
 .have I:a=[]:=by have⟨D,i,e,k⟩:=H;simp[O] at e;rcases k with k|⟨b,a,a,a,o,a,a,_⟩;exact k.1;rw[a] at e;simp at e
  subst I;simp[O];exact⟨.refl G,cM,Q,eM.nil E h,λb V=>(Dg Q V).elim,Q⟩
 .have a:=aO G [] 0;have i:eM E (aJ h [] 0) ⟨Z ⟨h.aw,0,K⟩,0,0⟩ ([]:List α):=⟨Q,kd ⟨h.aw,0,0,[],Q,Q,bX _ _ _,jZ Q⟩⟩;have⟨E,N,D,l,j,m,F⟩:=Ff (bytes:=bytes) a.ok c i (H.cm G a) (aj g) d;have d:=D;simp[O,f] at D;simp[O,f];refine dh D ?_;simp;refine⟨a.trans' j ai (λx I e=>av (Fg Q e)),E,J,aj l,λb V=>?_,F Q⟩;rcases m b V with h|h
  rw[Fg Q h];exact fq _;rw[h];simp
structure XI where
 op:Int
 dst:Int
 a:Bool×Int
 b:Bool×Int
 fn:Int
 args:SV
structure XR where
 P:SV
 L:SV
 T:SV
 kind:Int
 on:Bool×Int
 ps:List (Int×SV)
 ls:List XI
 ts:List Int
def cZ:e7 (Bool×Int):=⟨λx=>[dC x.1,fc ft x.2],2,λ_=>rfl,ag,λ_=>rfl⟩
@[simp] def yF:cZ.sz=2:=rfl
@[simp] def Cz(x:Bool×Int):cZ.enc x=[dC x.1,fc ft x.2]:=rfl
def atb:e7 (Int×SV):=⟨λx=>[fc ft x.1,x.2.v],2,λ_=>rfl,ag,λ_=>rfl⟩
@[simp] def aw0:atb.sz=2:=rfl
@[simp] def atc(x:Int×SV):atb.enc x=[fc ft x.1,x.2.v]:=rfl
def atk:e7 XI:=⟨λx=>[fc ft x.op,fc ft x.dst,dC x.a.1,fc ft x.a.2,dC x.b.1,fc ft x.b.2,fc ft x.fn,x.args.v],8,λ_=>rfl,ag,λ_=>rfl⟩
@[simp] def aw5:atk.sz=8:=rfl
@[simp] def atm(x:XI):atk.enc x=[fc ft x.op,fc ft x.dst,dC x.a.1,fc ft x.a.2,dC x.b.1,fc ft x.b.2,fc ft x.fn,x.args.v]:=rfl
def ate:e7 XR:=⟨λx=>[x.P.v,x.L.v,fc ft x.kind,dC x.on.1,fc ft x.on.2,x.T.v],6,λ_=>rfl,ag,λ_=>rfl⟩
@[simp] def aw2:ate.sz=6:=rfl
@[simp] def atf(x:XR):ate.enc x=[x.P.v,x.L.v,fc ft x.kind,dC x.on.1,fc ft x.on.2,x.T.v]:=rfl
def Q5{α I:Type}{E:e7 I}{Q1:I->α->Prop} :∀(a:List α)(f:Nat->List aa),(∀(i:Nat)(x:α),a[i]?=Z x->∃y,f i=E.enc y/\Q1 y x)->∃b:List I,cz b=cz a/\∀(i:Nat)(y:I)(x:α),b[i]?=Z y->a[i]?=Z x->f i=E.enc y/\Q1 y x
 |[],f,_=>⟨[],Q,λi y x h=>by simp at h⟩
 |x::a,f,H=>by
  have⟨y,h1,m⟩:=H 0 x rfl;have⟨b,k,D⟩:=Q5 a (λi=>f (i+1)) (λi x a=>H (i+1) x a);refine⟨y::b,au k,λi F G P a=>?_⟩;cases i with
  |zero=>simp at P a;subst P;subst a;exact⟨h1,m⟩
  |succ i=>exact D i F G P a
def akH(E:e7 I)(b:List aa):∀(a:List I),(∀(i:Nat)(y:I),a[i]?=Z y->(b.drop (i*E.sz)).take E.sz=E.enc y)->b.take (cz a*E.sz)=E.flat a:=by
 intro a;induction a generalizing b with
 |nil=>intro _;simp
 |cons y a a=>
  intro H;have h0:=H 0 y rfl;rw[Nat.zero_mul,lV] at h0;have h1:=a (b.drop E.sz) (λi z k=>by have:=H (i+1) z k;rw[xf,wv,k0] at this;rw[hJ];exact this)
  rw[eN,xf,wv,k0,rA,h0,h1,E.jb]
def ad.pick{R:List aa->α->Prop}{E:e7 I}{Q1:I->α->Prop}{a:List α}(s:ad R E.sz h v a)(F:∀c x,R c x->∃y,c=E.enc y/\Q1 y x):∃d:List I,cz d=cz a/\bp E h v d/\∀(i:Nat)(y:I)(x:α),d[i]?=Z y->a[i]?=Z x->Q1 y x:=by
 obtain⟨l,j,rfl,s⟩:=s;rcases s with⟨rfl,s⟩|⟨b,f,g,G,o,n,rfl,V,D⟩;exact⟨[],Q,⟨l,j,Q,jZ ⟨Q,s⟩⟩,λi y x h=>by simp at h⟩
 .have⟨d,m,H⟩:=Q5 (E:=E) (Q1:=Q1) a (λi=>(g.drop (f+i*E.sz)).take E.sz) (λi x k=>F _ _ (D i x k).2);refine⟨d,m,⟨_,j,by rw[m],?_⟩,λi y x P k=>(H i y x P k).2⟩;rcases EK (cz a) with h0|h0;exact jZ ⟨AN ab,kd ⟨b,f,Q⟩⟩;refine kd ⟨b,f,g,G,o,n,Q,V,?_,?_⟩
  .rw[m];have:=(D (cz a-1) _ (jh ab)).1;rw[gv,List.length_drop] at this;have D:=E.pos;have e:cz a*E.sz=(cz a-1)*E.sz+E.sz:=by rw[<-Nat.succ_mul];congr 1;omega
   rw[e];omega
  refine akH E (g.drop f) d (λi y P=>?_);have d:=(cY.mp P).1;have k:a[i]?=Z a[i]:=jh ab;rw[hJ];exact(H i y _ P k).1
def XQ{a:List (Bool×Int)}(s:ad vR 2 h v a):bp cZ h v a:=by
 have⟨b,D,m,H⟩:=ad.pick (E:=cZ) (Q1:=λy x=>y=x) s (λc x e=>⟨x,e,Q⟩);have:b=a:=BT λi=>by
  rcases Kz i (cz a) with k|k;have h1:a[i]?=Z a[i]:=jh k;have a:b[i]?=Z (b[i]'ab):=jh ab;rw[a,H i _ _ a h1,h1]
  rw[xU ab,xU ab]
 exact this▸m
structure InB(aF:Nat)(b:GB):Prop where
 lp:cz b.bz<1000000
 ll:cz b.list<1000000
 lt:cz b.to<1000000
 ph:∀p∈b.bz,(0<=p.dst/\p.dst<aF)/\cz p.row<2000000/\∀v∈p.row,rS aF v
 li:∀x∈b.list,x.dst<aF/\rS aF x.a/\rS aF x.b/\cz x.args<2000000/\∀v∈x.args,rS aF v
 on:rS aF b.on
def WD{a:List Int}(s:ad nR 1 h v a):bp encI h v a:=by
 have⟨b,D,m,H⟩:=ad.pick (E:=encI) (Q1:=λy x=>y=x) s (λc x e=>⟨x,e,Q⟩);have:b=a:=BT λi=>by
  rcases Kz i (cz a) with k|k;have h1:a[i]?=Z a[i]:=jh k;have a:b[i]?=Z (b[i]'ab):=jh ab;rw[a,H i _ _ a h1,h1]
  rw[xU ab,xU ab]
 exact this▸m
def Nn{α I:Type}{Q1:α->I->Prop} :∀(a:List α),(∀x∈a,∃y,Q1 x y)->∃b:List I,cz b=cz a/\∀(i:Nat)(x:α)(y:I),a[i]?=Z x->b[i]?=Z y->Q1 x y
 |[],_=>⟨[],Q,λi x y h=>by simp at h⟩
 |x::a,H=>by
  have⟨y,h1⟩:=H x (iY ..);have⟨b,k,m⟩:=Nn a (λx a=>H x (xV _ a));refine⟨y::b,au k,λi F D a P=>?_⟩;cases i with
  |zero=>simp at a P;subst a;subst P;exact h1
  |succ i=>exact m i F D a P
def eM.view{E:e7 α}{R:List aa->I->Prop}{a:List α}{c:List I}(w:eM E h A a)(d:cz c=cz a)(H:∀(i:Nat)(x:α)(y:I),a[i]?=Z x->c[i]?=Z y->R (E.enc x) y):ad R E.sz h A.v c:=by
 have⟨D,w⟩:=w;refine⟨A.a,A.c,by simp[D,d],?_⟩;rcases w with⟨O,_,rfl⟩|⟨b,o,s,F,O,D,V,_⟩;exact jZ ⟨AN d,jZ O⟩
 .refine kd ⟨b,0,_,_,_,_,O,V,λi y P=>?_⟩;have G:=(cY.mp P).1;have k:a[i]?=Z (a[i]'ab):=jh ab;have m:(a++F)[i]?=Z (a[i]'ab):=by rw[MG ab];exact k
  rw[IV,E.tf _ _ _ m];exact⟨E.len _,H i _ y k P⟩
structure TOk(tss:List (List Int)):Prop where
 len:cz tss<=1000
 two:∀ts∈tss,cz ts<=2
 to:∀ts∈tss,∀t∈ts,0<=t/\t<cz tss
set_option maxRecDepth 100000
def bm.low{E:e7 α}{c:List α}(a:bm E n1 h v c)(m:n0<=n1):bm E n0 h v c:=by rcases a with a|⟨b,s,e,V,k,h1⟩;exact jZ a;exact kd ⟨b,s,e,V,k,ab⟩
def acA{E:e7 α}{row:List α}(s:bp E h v row)(m:cu h)(g:ay S h N)(F:row≠[]->∀b,bx v b->¬S b):bp E N v row:=by by_cases e:row=[];subst e;have⟨a,E,D,s⟩:=s;refine⟨a,E,D,?_⟩;rcases s with s|⟨b,E,_,_,_,_,k,_⟩;exact jZ s;exact jZ ⟨Q,kd ⟨b,E,k⟩⟩;exact s.grow m g (F e)
set_option maxRecDepth 100000
def Wc(sz:Nat):aD:=(G_ [B_ 9 .lss 8 7] (J_ (H_ 9 0) (J_ (P_ 1 (G_ [m_ 10 8,m_ 5 10] (G_ [m_ 11 1,m_ 12 0,m_ 13 5,o_ 14 (.tP K sz (t_ 12) (t_ 13)),o_ 15 (.load (Z sz) (t_ 14)),o_ 16 (.call (t_ 11) [t_ 15])] (I_ 16 (G_ [m_ 17 5,m_ 4 17] .ret) .skip)))) (O_ [C_ 18 .add 8 1,m_ 8 18]))))
def Lh(sz:Nat):aD:=(.seq (.ops [⟨(Z 4),K,(.mv (.const (fc ft 0)))⟩]) (.seq (.seq (.ops [⟨(Z 6),K,(.mv (.tmp 0))⟩,⟨(Z 7),K,(.IF (.tmp 6))⟩,⟨(Z 8),K,(.mv (.const (fc ft 0)))⟩]) (.block 0 (.loop (Wc sz)))) (.seq (.ops [⟨(Z 4),K,(.mv (.const (fc ft (JW 0))))⟩]) .ret)))
def Vl(z:List aa)(sz:Nat):aD:=(J_ (G_ [m_ 16 6,m_ 17 0,z_ 18 17,B_ 19 .lss 16 18] (H_ 19 0)) (J_ (P_ 1 (G_ [m_ 22 0,m_ 23 6,o_ 24 (.tP K sz (t_ 22) (t_ 23)),o_ 25 (.load (Z sz) (t_ 24)),o_ 7 (.alloc z),u_ (.store sz (t_ 7) (t_ 25))] (G_ [m_ 26 1,o_ 27 (.load (Z sz) (t_ 7)),o_ 28 (.call (t_ 26) [t_ 27]),o_ 29 (.un .not (t_ 28))] (I_ 29 (G_ [m_ 30 0,m_ 31 5,o_ 32 (.load (Z sz) (t_ 7)),o_ 33 (.tP K sz (t_ 30) (t_ 31)),u_ (.store sz (t_ 33) (t_ 32))] (O_ [m_ 34 5,C_ 35 .add 34 1,m_ 5 35])) .skip)))) (O_ [m_ 20 6,C_ 21 .add 20 1,m_ 6 21])))
def Ss(z:List aa)(sz f:Nat):aD:=(G_ [o_ 4 (.mv (.const (dB K 0 0)))] (G_ [m_ 8 0,m_ 9 1,o_ 10 (.call (.func f) [t_ 8,t_ 9]),m_ 5 10] (J_ (G_ [m_ 11 5,o_ 12 (.bin .eql [1] (t_ 11) (.const (fc ft (JW 0))))] (I_ 12 (G_ [m_ 13 0,m_ 4 13] .ret) .skip)) (J_ (G_ [m_ 14 5,C_ 15 .add 14 1,m_ 6 15] (P_ 0 (.loop (Vl z sz)))) (G_ [m_ 36 0,m_ 37 5,o_ 38 (.slice sz (t_ 36) (Z (t_ 37)) K K),u_ (.clear z (t_ 38))] (G_ [m_ 39 0,m_ 40 5,o_ 41 (.slice sz (t_ 39) K (Z (t_ 40)) K),m_ 4 41] .ret))))))
def an0:FF 133=Z ⟨[.tmp 4],Lh 2,.no⟩:=pD
def anZ:FF 72=Z ⟨[.tmp 4],Ss [fc ft 0,.slice K 0 0] 2 133,.no⟩:=pa
section
variable{α:Type}{E:e7 α}{p:α->Bool}{y:aa}
def aga(E:e7 α)(p:α->Bool)(y:aa)(A:SV)(a:List α)(h:az):Prop:=∀x∈a,∀h1,ay (bx A.v) h h1->fh FF y [ix ⟨E.enc x⟩] h1 (λv N=>v=dC (p x)/\ay aR h1 N)
def ayZ(h:az)(p:α->Bool)(y:aa)(A:SV)(a:List α)(m:Nat)(e:Env)(b:az):Prop:=
 ∃j:Nat,m=cz a-j/\j<=cz a/\bY e 0=A.v/\bY e 1=y/\bC e 7 (cz a)/\bC e 8 j/\ay aR h b/\∀x∈a.take j,p x=cd
def asj(p:α->Bool)(a:List α)(h:az)(v:aa)(N:az):Prop:=ay aR h N/\((v=fc ft (-1)/\∀x∈a,p x=cd)\/∃(j:Nat) (x:α),v=fc ft j/\a[j]?=Z x/\p x=ck/\∀x∈a.take j,p x=cd)
def adK{f:Nat}(x:FF f=Z ⟨[.tmp 4],Lh E.sz,.no⟩)(i:cu h){a:List α}(w:eM E h A a)(c:cz a<2000000)(H:aga E p y A a h):aY FF f [A.v,y] h (asj p a h):=by
 have F:=w.len;refine aY.of x ?_;unfold Lh;simp[F];refine aK.loop (ayZ h p y A a) ?_ (n:=cz a) ⟨0,Q,ab,au F,J,J,J,.refl i,λx c=>by simp at c⟩;rintro m e l⟨j,rfl,f,D,f,d,I,k,G⟩;unfold Wc;by_cases g:j<cz a
 .have q:=ch ((j:Int)+1) ab ab;have⟨x,c⟩:=aQ a j g;obtain⟨b,n,o,s,n,V,_,_,r,_⟩:=(w.cm i k).el c;have O:=r 0 E.sz ab;simp[-ax,E.len] at O;rw[tK (by rw[E.len];exact fq _)] at O;simp at D;rw[n,F] at D;simp[D,f,d,I,g,O,E.len,-ax];refine bh.fF (V:=λv N=>v=dC (p x)/\ay aR l N) (by simpa [f] using H x (cO c) l k.cm) ?_;rintro _ g⟨rfl,g⟩;cases i:p x
  simp[I,q];refine⟨cz a-(j+1),ab,j+1,Q,ab,by simp[D,n,F],au f,au d,J,k.trans g,λn f=>?_⟩;rw[kh,c] at f;rcases kg.1 f with h|h;exact G n h;simp at h;subst h;exact i;simp;exact⟨k.trans g,kd ⟨j,x,Q,c,i,G⟩⟩
 .have:j=cz a:=ab
  subst this;rw[mO] at G;simp[d,I];exact⟨k,jZ ⟨Q,G⟩⟩
def take_set{a:List α}(h:i<cz a)(v:α):(a.set i v).take (i+1)=a.take i++[v]:=by
 have h1:(a.set i v).take i=a.take i:=BT λk=>by rw[A0,A0,fO];by_cases b:k<i;rw[bK b,bK b,bM ab];rw[bM b,bM b]
 have m:(a.set i v)[i]?=Z v:=by simp[h]
 rw[kh,h1,m];rfl
def xp(p:α->Bool)(a:List α):List α:=a.filter (λx=> !p x)
def ayT(E:e7 α)(h:az)(p:α->Bool)(y:aa)(A:SV)(a:List α)(m:Nat)(e:Env)(c:az):Prop:=
 ∃(i j:Nat) (b:List α),m=cz a-j/\i<j/\j<=cz a/\bY e 0=A.v/\bY e 1=y/\bC e 5 i/\bC e 6 j/\ay (bx A.v) h c/\eM E c A b/\cz b=cz a/\b.take i=xp p (a.take j)/\b.drop j=a.drop j
def asc(E:e7 α)(p:α->Bool)(A:SV)(b:List α)(h:az)(v:aa)(N:az):Prop:=ay (bx A.v) h N/\∃a:SV,v=a.v/\a.a=A.a/\eM E N a (xp p b)
def YY{f' fi:Nat}{z0:α}(hz:z=E.enc z0)(hf:FF f'=Z ⟨[.tmp 4],Ss z E.sz fi,.no⟩)(hfi:FF fi=Z ⟨[.tmp 4],Lh E.sz,.no⟩)(S:cu h){a:List α}(w:eM E h A a)(hl:cz a<1000000)(H:aga E p y A a h):aY FF f' [A.v,y] h (asc E p A a h):=by
 have G:=w.len;refine aY.of hf ?_;unfold Ss;simp[G];refine bh.call (V:=asj p a h) (by simpa [G] using adK hfi S w ab H) ?_;rintro _ h1⟨M,⟨rfl,hno⟩|⟨F,x0,rfl,ZY,hp0,vo⟩⟩;simp;refine⟨M.cm,A,au G,Q,?_⟩;have:xp p a=a:=List.filter_eq_self.2 (λx f=>by simp[hno x f]);rw[this];exact w.cm S M
 have hi0:=(cY.mp ZY).1;have w0:=ch ((F:Int)+1) ab ab;simp[w0];have OK:a.take F=xp p (a.take (F+1)):=by unfold xp;rw[kh,ZY,List.filter_append];have:(a.take F).filter (λx=> !p x)=a.take F:=List.filter_eq_self.2 (λx f=>by simp[vo x f]);rw[this];simp[hp0]
 refine aK.loop (ayT E h p y A a) ?_ (n:=cz a-(F+1)) ⟨F,F+1,a,Q,ab,ab,au G,J,J,J,M.cm,w.cm S M,Q,OK,Q⟩;rintro m e u⟨i,j,c,rfl,hij,hj,D,g,L,t,n,U,r,q,hd⟩;have T:=n.ok;unfold Vl;by_cases bg:j<cz a
 .have wj:=ch ((j:Int)+1) ab ab;have wi:=ch ((i:Int)+1) ab ab;have⟨x,f⟩:=aQ a j bg;have hyx:c[j]?=Z x:=by have:=congrArg (λl=>l[0]?) hd;simpa [f] using this
  have⟨b,C,o,s,d,V,_,_,dg,_⟩:=U.el hyx;have P:=dg 0 E.sz ab;simp[-ax,E.len] at P;rw[tK (by rw[E.len];exact fq _)] at P;simp at D;rw[d,G] at D;have vS:cz z=E.sz:=by rw[hz,E.len]
  have yO:¬E.sz=0:=av E.pos
  have htk:(E.enc x).take E.sz=E.enc x:=tK (by rw[E.len];exact fq _);have hsp:aX z 0 (E.enc x)=E.enc x:=by unfold aX;simp[vS,E.len]
  simp[D,g,L,t,bg,P,E.len,E.plain,vS,hsp,htk,-ax,aH];refine bh.cut (λO=>ay aR u O/\di O u.aw (E.enc x)) ?_ ?_;exact⟨(ay.refl T).var _ _,u.clock,by rw[aZ,hsp];rfl⟩;rintro O⟨W,s3,hV3⟩;refine bh.fF (V:=λv N=>v=dC (p x)/\ay aR O N) (by simpa [g] using H x (cO f) O (n.trans W.cm)) ?_;rintro _ h4⟨rfl,g4⟩;have k:=W.trans g4;have w4:=U.cm T k;have hV4:=g4.get W.ok hV3;have htj:xp p (a.take (j+1))=xp p (a.take j)++(if p x then [] else [x]):=by unfold xp;rw[kh,f,List.filter_append];cases X:p x<;>simp[X]
  have hdj:c.drop (j+1)=a.drop (j+1):=by have:=congrArg (λl=>l.drop 1) hd;simpa [hJ] using this
  cases hp:p x
  .have⟨yi,hyi⟩:=aQ c i;have⟨b',vD,o',s',X,hb4,_,B,_,eQ⟩:=w4.el hyi;rw[d] at X;cases X;have fI:i<cz a:=ab
   have UD:=B 0 E.sz ab;simp only[A1] at UD;simp[D,g,L,t,hV4,E.len,E.plain,htk,fI,hb4,UD,wj,wi];have MT:=eQ x 0 (E.enc x) (by rw[E.len];omega) (by unfold aX;simp[E.len]) (put h4 b (i*E.sz) vD (E.enc x) o') ⟨_,aZ _ _ _ _ _ _⟩;refine⟨cz a-(j+1),ab,i+1,j+1,c.set i x,Q,ab,ab,by simp[D,d,G],au g,J,J,(n.trans k.cm).trans ((bc k.ok hb4).cU (λy _ e=>e▸fH d)),MT,au r,?_,?_⟩
   rw[take_set ab,htj,hp,q];simp;rw[List.drop_set_of_lt ab,hdj]
  simp[t,wj];refine⟨cz a-(j+1),ab,i,j+1,c,Q,ab,ab,by simp[D,d,G],au g,au L,J,n.trans k.cm,w4,r,?_,hdj⟩;rw[htj,hp,q];simp
 .have hje:j=cz a:=ab
  subst hje;rw[mO] at q;have⟨hAl2,hw2⟩:=U;rcases hw2 with⟨_,_,rfl⟩|⟨b,o,s,I,d,hc,V,W⟩;simp at r;omega;simp at D;rw[d,G] at D;have yO:¬E.sz=0:=av E.pos
  have hie:i<=cz a:=ab
  have hob:(o.beq 0||o.beq E.sz)=ck:=by rcases W with h|h;rw[h];rfl;rw[h];simp
  have hni:¬(cz a)-i=0:=ab
  have zI:(ky z (cz a-i))=E.flat (ae (cz a-i) z0):=DH E z0 hz _;have B:i*E.sz+(cz a-i)*E.sz<=(cz c+cz I)*E.sz:=by rw[<-xf];exact IX _ ab
  have Q1:cz (E.flat (ae (cz a-i) z0))=(cz a-i)*E.sz:=by rw[E.dT];simp
  have⟨C,P⟩:∃C,C=E.flat (c++I):=⟨_,Q⟩;have Dx:cz C=(cz c+cz I)*E.sz:=by rw[P,E.dT,X0]
  have⟨zs,X⟩:∃zs,zs=E.flat (ae (cz a-i) z0):=⟨_,Q⟩;rw[<-P] at V;rw[<-X] at zI Q1;rw[<-Q1,<-Dx] at B;have hiA:i<=A.c:=ab
  simp[D,L,t,hie,V,hob,hni,zI,B,hiA];refine⟨n.trans ((bc T V).cU (λx _ e=>e▸fH d)),⟨A.a,i,A.c⟩,au d,Q,?_⟩;have HD:(xp p a).length=i:=by rw[<-q];simp;omega
  refine⟨HD.symm,kd ⟨b,o,u.clock,ae (cz a-i) z0++I,d,by simp[HD];omega,?_,W⟩⟩;rw[aZ,P,X];have:=Od E (c.take i) (ae (cz a-i) z0) (c.drop i++I) (by simp;omega);have e1:cz (c.take i)=i:=by simp;omega
  rw[e1,<-MD,List.take_append_drop] at this;rw[this,<-q];have e2:(c.drop i++I).drop (cz (ae (cz a-i) z0))=I:=by rw[gB];simp[r];omega
  rw[e2,MD]
end
def iF:e7 (Int×(Bool×Int)):=⟨λx=>[fc ft x.1,dC x.2.1,fc ft x.2.2],3,λ_=>rfl,ag,λ_=>rfl⟩
@[simp] def aky:iF.sz=3:=rfl
@[simp] def as9(x:Int×(Bool×Int)):iF.enc x=[fc ft x.1,dC x.2.1,fc ft x.2.2]:=rfl
def aqz{a:List (Int×(Bool×Int))}{x:Bool}(D:h.tr.get W=Z (.bZ (iF.flat a) x o s)){k:Nat}{x:Int×(Bool×Int)}(m:a[k]?=Z x):cy h W (k*3) 3=Z [fc ft x.1,dC x.2.1,fc ft x.2.2]:=by have F:=(cY.mp m).1;have:=iF.sw a k 0 3 x m ag;rw[dx D (by rw[iF.dT];simp;omega)];simp only[aky,A1] at this;rw[this];rfl
def al9{a:List (Int×(Bool×Int))}(c:bm iF n0 h v a):v=dB K 0 0/\a=[]\/∃b s,v=dB (Z ⟨b,0,K⟩) (cz a) (cz a)/\h.tr.get b=Z (.bZ (iF.flat a) cd 3 s)/\n0<=b/\a≠[]:=by rcases c with⟨h1,k⟩|⟨b,s,h1,k,m,D⟩;exact jZ ⟨k,h1⟩;exact kd ⟨b,s,h1,k,D,m⟩
def avR(b:List Int)(a:Int):Bool:=decide (0<=(b[a.toNat]?).getD (-1))
def Ext(a c k d:Nat->Nat):Prop:=∀b,a b≠0->k b=a b/\d b=c b
def Ext.refl(b a:Nat->Nat):Ext b a b a:=λ_ _=>⟨Q,Q⟩
def Ext.trans{a x F m D k:Nat->Nat}(c:Ext a x F m)(b:Ext F m D k):Ext a x D k:=λx G=>by have⟨h1,H⟩:=c x G;have⟨c,I⟩:=b x ab;exact⟨ab,ab⟩
set_option maxRecDepth 100000
def Tm:aD:=T2 Tryz.f137 3 19 pw po
def adX:zA=G_ [B_ 57 .lss 56 55] (J_ (H_ 57 4) (J_ (P_ 5 (G_ [m_ 58 56,a_ 59 2 54 56,L_ 60 2 59,o_ 14 (.alloc [(fc ft 0),(dB K 0 0)]),m_ 13 58,s_ 2 14 60] (G_ [o_ 15 (.mv (.const (dB K 0 0)))] (J_ (G_ [f_ 61 1 14,l_ 62 61,z_ 63 62,k_ 64 0] (Q_ 6 pw)) (G_ [m_ 88 15,F_ 89 197 [t_ 88,(.func 198)]] Tm))))) (O_ [C_ 117 .add 56 1,m_ 56 117]))):=Q
def KpT:List Nat:=[20,90,91,92,93,94,95,96,97,98,99,100,101,102,103,104,105,106,107,108,109,110,111,112,113,114,115,116]
def SQ:List Nat:=[13,14,15,16,17,18,20,56,57,58,59,60,61,62,63,64,65,66,67,68,69,70,71,72,73,74,75,76,77,78,79,80,81,82,83,84,85,86,87,88,89,90,91,92,93,94,95,96,97,98,99,100,101,102,103,104,105,106,107,108,109,110,111,112,113,114,115,116,117]
def ay_(h:az)(n:Nat)(b:List Nat)(D:Nat)(e:Env)(m:Nat)(x:Env)(k:az):Prop:=
 ∃(j:Nat) (a:List Int),m=cz b-j/\j<=cz b/\bC x 30 j/\aG [30,6,7,31,32,33,34,35,36,37,38,39] e x/\ay (· =D) h k/\(di k D (encI.flat a))/\cz a=n/\(∀i x:Nat,i<j->b[i]?=Z x->a[x]?=Z (i:Int))/\∀x,x<n->x∉b.take j->a[x]?=Z (-1)
def alp(A:cu h){v:List Nat}(L:v.Nodup)(c:∀x∈v,x<n)(u:cz v<=n)(r:n<=1000){F w:Nat}{O:SV}(t:bp encI h O.v (nI v))(d:∀b,bx O.v b->v≠[]->b≠F)(M:eR h F (encI.flat (ae n (-1:Int))) w)(y:bY e 5=dB (Z ⟨F,0,K⟩) n n)(T:bY e 28=O.v)(u:bC e 29 (cz v))(a:bC e 30 0)(C:∀X N z,aG [30,6,7,31,32,33,34,35,36,37,38,39] e X->ay (· =F) h N->(di N F (encI.flat z))->cz z=n->(∀i x:Nat,v[i]?=Z x->z[x]?=Z (i:Int))->(∀x,x<n->x∉v->z[x]?=Z (-1))->l (.exit 0) X N):aK FF (.loop zC) e h l:=by
 have W:O.l=cz v:=by have⟨S,z,e,_⟩:=t;simp[nI] at e;exact e.2.1
 refine aK.loop (ay_ h n v F e) ?_ (n:=cz v) ⟨0,_,Q,ab,a,aG.refl _ _,.refl A,⟨w,M⟩,J,λi x h=>ab,λx k _=>by rw[Qp,bK k]⟩;rintro m X S⟨j,a,rfl,g,H,q,I,⟨s,M⟩,o,U,D⟩;have E:=q.at y;have p:=q.at T;have G:=q.at u;unfold zC;by_cases T:j<cz v
 .have⟨x,k⟩:=aQ v j T;have r:=c x (cO k);have B:=acA t A I (λy b V=>d b V (λe=>y (by rw[e];rfl)));obtain⟨u,d,f,f,_,_,c⟩:=B.read (Nw k);have B:=c 0 1 ag;simp[-ax,nI] at B f;have g:=ch ((j:Int)+1) ab ab;have c:x+1<=cz a:=ab
  simp at p;rw[f.1,W] at p;simp[E,p,G,H,T,B,r,M,c,g,-ax];have r:∀i,v[i]?=Z x->i=j:=λi X=>by have h1:=(cY.mp X).2;have S:=(cY.mp k).2;exact(eX L).1 (h1.trans S.symm)
  refine⟨cz v-(j+1),ab,j+1,a.set x j,Q,T,J,?_,I.trans (bc I.ok M),⟨S.clock,by rw[aZ,uj a x j ab]⟩,au o,λi y X P=>?_,λy P g=>?_⟩
  .exact aq
  rw[fO];by_cases e:x=y;subst e;rw[bK Q,bK ab,r i P];rw[bM e];by_cases T:i=j;subst T;rw[k] at P;cases P;exact absurd rfl e;exact U i y ab P;rw[kh,k] at g;rw[fO,bM (λe=>g (au e))];exact D y P (λh=>g (List.mem_append_left _ h))
 .have:j=cz v:=ab
  subst this;rw[mO] at D;simp[G,H];exact C _ _ a (q.set) I ⟨s,M⟩ o (λi x k=>U i x (cY.mp k).1 k) D
def mV(a:List Int)(t:Int):Int:=(a[t.toNat]?).getD (-1)
def KtL:List Nat:=[21,22,122,123,124,125,126,127,128,129,130,131,132,133,134,135,136]
structure KR(ats:List Int)(pk:List Int)(r r':XR):Prop where
 P:r'.P=r.P
 L:r'.L=r.L
 T:r'.T=r.T
 kind:r'.kind=r.kind
 on:r'.on=r.on
 ls:r'.ls=r.ls
 ts:r'.ts=r.ts.map (mV ats)
 pl:cz r'.ps=cz r.ps
 ps:∀(i:Nat)(q p:Int×SV),r'.ps[i]?=Z q->r.ps[i]?=Z p->q.1=p.1/\q.2.l=cz (pk.filter (avR ats))
def aiM{a:List (List Int)}(T:TOk a):Iy (cz a) (Edge.df a):=by
 have D:∀b∈a,∀t∈b,t.toNat<cz a:=λb H t k=>av (T.to b H t k)
 refine⟨Edge.lM _,λx ps m=>⟨?_,λp F=>?_⟩⟩
 .have h1:=Edge.Ai (n:=cz a) (tos:=a) T.two x (cz a);have I:((Edge.upto (cz a) a (cz a))[x]?).getD []=ps:=by show((Edge.df a)[x]?).getD []=ps;rw[m];rfl
  rw[I] at h1;have:=T.len;omega
 have G:=(Edge.Jj D (u:=x) (x:=p)).1 (by rw[m];exact F);obtain⟨i,rfl,b,k,_⟩:=G;have:=(cY.mp k).1;omega
def Ic(E:e7 α)(b a:List α)(i:Nat):aX (E.flat b) (i*E.sz) (E.flat a)=E.flat (b.take i++a++b.drop (i+cz a)):=by unfold aX;rw[E.jO,E.dT,<-xf,E.pW,E.fK,E.fK]
def IxI(h:az)(W:SV)(t:Int)(a:List Int)(m:Nat)(e:Env)(b:az):Prop:=
 ∃j:Nat,m=cz a-j/\j<=cz a/\bY e 0=W.v/\bC e 1 t/\bC e 7 (cz a)/\bC e 8 j/\b=h/\∀k,k<j->a[k]? ≠Z t
def IxQ(a:List Int)(t:Int)(v:aa):Prop:=(∃k:Nat,v=fc ft k/\a[k]?=Z t/\∀m,m<k->a[m]? ≠Z t)\/(v=fc ft (-1)/\t∉a)
def Wd{W:SV}{p:List Int}(U:bp encI h W.v p)(b:cz p<1000000)(t:Int):aY FF 162 [W.v,fc ft t] h (λv N=>N=h/\IxQ p t v):=by
 have H:W.l=cz p:=by have⟨a,L,e,_⟩:=U;simp at e;exact e.2.1
 refine aY.of AS ?_;unfold qp;simp[H];refine aK.loop (IxI h W t p) ?_ (n:=cz p) ⟨0,Q,ab,au H,J,J,J,Q,λk F=>ab⟩;rintro m e g⟨j,rfl,g,D,C,G,I,rfl,V⟩;unfold pg;by_cases O:j<cz p
 .have S:=ch ((j:Int)+1) ab ab;have⟨x,b⟩:=aQ p j O;have⟨y,c,B,d,_,_,i⟩:=U.read b;have z:=i 0 1 ag;simp[-ax] at z d;simp at D;rw[d.1,H] at D;by_cases g:t=x
  subst g;simp[D,C,G,I,O,z,-ax];exact jZ ⟨j,Q,b,V⟩
  .have T:(t==x)=cd:=by simp[g]
   simp[D,C,G,I,O,z,T,S,-ax];refine⟨cz p-(j+1),ab,j+1,Q,ab,by simp[D,d.1,H],au C,au G,J,Q,λk F d=>?_⟩;rcases Kz k j with h|h;exact V k h d
   .have:k=j:=ab
    subst this;rw[b] at d;cases d;exact g rfl
 .have:j=cz p:=ab
  subst this;simp[G,I];refine kd ⟨Q,λs=>?_⟩;have⟨k,F⟩:=iG s;exact V k (cY.mp F).1 F
def J2{W:SV}{a:List Int}(m:bp encI h W.v a)(D:cz a<1000000){t:Int}(I:t∈a):aY FF 162 [W.v,fc ft t] h (λv N=>N=h/\∃k:Nat,v=fc ft k/\a[k]?=Z t):=by
 obtain⟨n,v,N,h1,F,a|a⟩:=Wd m D t;have⟨k,G,H,_⟩:=a;exact⟨n,v,N,h1,F,k,G,H⟩;exact absurd I a.2
def agH(y:Bool×Int):cZ.flat [y]=[dC y.1,fc ft y.2]:=Q
set_option maxRecDepth 100000
def azu:List Nat:=[79,80,81,82,83,84,85,86,87,88,89,90,91,92,93,94,95,96,97,98,99]
def asw:List Nat:=[13,14,15,69,70,71,72,73,74,75,76,77,78,79,80,81,82,83,84,85,86,87,88,89,90,91,92,93,94,95,96,97,98,99,100]
abbrev El:Type:=Int×(Bool×Int)
def TO(a:List El)(i:Nat):Int:=((a[i]?).map (·.1)).getD 0
def Inj(n:Nat)(a:List El):Prop:=∀p q,p<n->q<n->TO a p=TO a q->p=q
def af_(c a:List El):Prop:=a.Perm c/\a.Pairwise λa b=>a.1<b.1
def agn:FF 197=Z ⟨[],.bad,.run (Of 198) λ_ _ _ _=>Oh⟩:=Q
def ai3(h:az):aY FF 197 [dB K 0 0,.func (.func 198) #[] #[]] h (λ_ N=>N=h):=aY.run agn (show Of 198 _ h=_ by unfold Of;rw[bK rfl]) rfl
def awF(x:El):UL:=(Fin.ofNat 1000000 x.1.toNat,x.2)
def SJ(x:UL):El:=((x.1.1:Int),x.2)
def Mx:∀a:List UL,iF.flat (a.map SJ)=nr a
 |[]=>rfl
 |y::a=>by have:=Mx a;simp only[e7.flat,nr,xg,List.flatMap_cons] at this⊢;rw[this];rfl
def anl:∀ {a:List El},(∀x∈a,0<=x.1/\x.1<1000000)->(a.map awF).map SJ=a
 |[],_=>rfl
 |x::a,h=>by have h1:=h x iY;rw[xg,xg,anl λy P=>h y (xV _ P)];congr 1;refine Prod.ext ?_ rfl;show((x.1.toNat%1000000:Nat):Int)=x.1;omega
def aa6(u:cu h){a:List El}(F:h.tr.get d=Z (.bZ (iF.flat a) cd o s))(q:a≠[])(x:cz a<50)(V:∀x∈a,0<=x.1/\x.1<1000000)(t:Inj (cz a) a):aY FF 197 [dB (Z ⟨d,0,K⟩) (cz a) c,.func (.func 198) #[] #[]] h (λ_ N=>∃f,af_ a f/\cz f=cz a/\ay (· =d) h N/\∃s,N.tr.get d=Z (.bZ (iF.flat f) cd o s)):=by
 have⟨m,y⟩:∃m,m=a.map awF:=⟨_,Q⟩;have I:m.map SJ=a:=by rw[y];exact anl V
 have A:cz m=cz a:=by rw[y,AZ]
 rw[<-I,Mx] at F;have n:Up3 (m.mergeSort λx y=>decide (x.1.1<=y.1.1)):=by
  have r:=B1 m λx y=>decide (x.1.1<=y.1.1);have s:=List.pairwise_mergeSort (le:=λx y:UL=>decide (x.1.1<=y.1.1)) (λg b c h1 l=>by simp at*;omega) (λg b=>by simp;omega) m;have D:(m.map λx=>x.1.1).Nodup:=List.pairwise_iff_getElem.2 λi j v z p e=>by
   simp only[List.getElem_map] at e;have p:i<cz m:=aj v
   have v:j<cz m:=aj z
   have k:∀i (h:i<cz m),TO a i=(m[i].1.1:Int):=λi h=>by rw[<-I];simp[TO,h,SJ]
   have:=t i j ab ab (by rw[k i p,k j v,e]);omega
  have p:((m.mergeSort λx y=>decide (x.1.1<=y.1.1)).map λx=>x.1.1).Nodup:=(r.map _).nodup_iff.2 D;exact(s.and (ic.1 p)).imp λ⟨h1,l⟩=>by simp at h1;omega
 have l:=B1 m λx y=>decide (x.1.1<=y.1.1);generalize m.mergeSort (λx y=>decide (x.1.1<=y.1.1))=f at n l;have y:∀G:List UL,cz G=cz m->gK h d 0 (nr G)=Z (put h d 0 (nr m) (nr G) o):=λG D=>by unfold gK;rw[F];simp only[mS];rw[bK (by rw[D];simp)];rfl
 have⟨D,O⟩:∃D,D=[Value.slice (Z ⟨d,0,K⟩) (cz a) c,.func (.func 198) #[] #[]]:=⟨_,Q⟩;have H:∃N b c s o a f,anM 198 D h N b c s o a f:=⟨_,d,c,s,o,m,f,by rw[O,A],F,λe=>q (by rw[<-I,e];rfl),ab,l,n,y f l.length_eq⟩;have l:D≠[dB K 0 0,.func (.func 198) #[] #[]]:=λe=>by rw[O] at e;cases e
 have⟨N,n⟩:∃N,Of 198 D h=Z (.tuple #[],N):=⟨H.choose,by unfold Of;rw[bM l,dif_pos H]⟩;rw[<-O];refine aY.run agn n ?_;obtain⟨_,⟨e,_⟩|⟨D,D,D,D,D,D,f⟩⟩:=Og n;exact absurd e l;have g:=f.a;rw[O] at g;simp at g;obtain⟨rfl,_,_⟩:=g;have g:=f.hb;rw[F] at g;simp at g;obtain⟨l,rfl,rfl⟩:=g;cases Qn l;have w:=f.w;rw[y D f.p.length_eq] at w;cases w;have y:=f.p.length_eq;refine⟨D.map SJ,⟨by rw[<-I];exact f.p.map _,ic.2 (f.u.imp λh=>by simp[SJ];omega)⟩,by simp;omega,bc u F,h.clock,?_⟩;rw[aZ,Mx];unfold aX;rw[lH,Cy (by simp[mS,y]),Bx];rfl
structure YB where
 P:SV
 L:SV
 T:SV
 kind:Int
 on:Bool×Int
 ps:List (GP×SV)
 ls:List (GI×SV)
 to:List Int
def jf:e7 (GP×SV):=⟨λx=>[fc ft x.1.dst,x.2.v],2,λ_=>rfl,ag,λ_=>rfl⟩
@[simp] def aw1:jf.sz=2:=rfl
@[simp] def atd(x:GP×SV):jf.enc x=[fc ft x.1.dst,x.2.v]:=rfl
def ia:e7 (GI×SV):=⟨λx=>aM x.1.op x.1.dst x.1.a.1 x.1.a.2 x.1.b.1 x.1.b.2 x.1.fn x.2.v,8,λ_=>rfl,ag,λ_=>rfl⟩
@[simp] def aw6:ia.sz=8:=rfl
@[simp] def Mr(x:GI×SV):ia.enc x=[fc ft x.1.op,fc ft x.1.dst,dC x.1.a.1,fc ft x.1.a.2,dC x.1.b.1,fc ft x.1.b.2,fc ft x.1.fn,x.2.v]:=rfl
def eF:e7 YB:=⟨λx=>[x.P.v,x.L.v,fc ft x.kind,dC x.on.1,fc ft x.on.2,x.T.v],6,λ_=>rfl,ag,λ_=>rfl⟩
@[simp] def awY:eF.sz=6:=rfl
@[simp] def Hr(x:YB):eF.enc x=[x.P.v,x.L.v,fc ft x.kind,dC x.on.1,fc ft x.on.2,x.T.v]:=rfl
def YB.g(y:YB):GB:=⟨y.ps.map (·.1),y.ls.map (·.1),y.kind,y.on,y.to⟩
inductive Lo where
 |P
 |L
 |T
 |R (j:Nat)
 |X (j:Nat)
def dt(A:SV):Option Nat:=A.a.map (·.block)
def YB.loc(r:YB):Lo->Option Nat
 |.P=>dt r.P
 |.L=>dt r.L
 |.T=>dt r.T
 |.R j=>(r.ps[j]?).bind λq=>dt q.2
 |.X j=>(r.ls[j]?).bind λx=>dt x.2
def dV(B:SV)(a:List YB):Option (Nat×Lo)->Option Nat
 |none=>dt B
 |some (i,l)=>(a[i]?).bind λr=>r.loc l
def Lo.x:Lo->Prop
 |.X _=>True
 |_=>False
def Xo:Option (Nat×Lo)->Prop
 |none=>False
 |some (_,l)=>l.x
def Yt{α:Type}(f:α->Option Nat):Prop:=∀a b c,f a=Z c->f b=Z c->a=b
def kF(w:Prop)(f:Lo->Option Nat):Prop:=∀a b c,f a=Z c->f b=Z c->a=b\/(w/\a.x/\b.x)
def Ly(w:Prop)(f:Option (Nat×Lo)->Option Nat):Prop:=∀a b c,f a=Z c->f b=Z c->a=b\/(w/\Xo a/\Xo b)
def xS(B:SV)(a:List YB):Prop:=Ly False (dV B a)
def cK(B:SV)(a:List YB)(c:Nat):Prop:=∃l,dV B a l=Z c
structure BZ(h:az)(y:YB):Prop where
 P:eM jf h y.P y.ps
 L:eM ia h y.L y.ls
 T:eM encI h y.T y.to
 ps:∀q∈y.ps,eM cZ h q.2 q.1.row
 ls:∀x∈y.ls,eM cZ h x.2 x.1.args
structure FZ(h:az)(n0:Nat)(B:SV)(ys:List YB):Prop where
 A:eM eF h B ys
 r:∀y∈ys,BZ h y
 inj:Ly True (dV B ys)
 new:∀l c,dV B ys l=Z c->n0<=c
def dI(h:bx A.v c):dt A=Z c:=by obtain⟨a,n,a,e⟩:=h;simp at e;simp[dt,e.1]
def cD(h:A.a=Z ⟨b,o,K⟩):dt A=Z b:=by simp[dt,h]
section
variable{α:Type}{E:e7 α}{h N:az}{A:SV}{f:List α}
def eM.at{c:Nat}(w:eM E h A f)(e:dt A=Z c):∃o,h.tr.get c=Z o:=by rcases w.2 with⟨O,_⟩|⟨b,o,s,a,O,_,V,_⟩;simp[dt,O] at e;rw[cD O] at e;cases e;exact⟨_,V⟩
def eM.lt(w:eM E h A f)(a:cu h)(e:dt A=Z c):c<h.aw:=by have⟨o,k⟩:=w.at e;exact a.wf _ _ k
def eM.go(w:eM E h A f)(k:cu h)(g:ay S h N)(D:∀c,S c->dt A≠Z c):eM E N A f:=w.grow k g (λc m a=>D c a (dI m))
def eM.YS{a:List α}(w:eM E h A f)(e:a.map E.enc=f.map E.enc):eM E h A a:=by
 have k:cz a=cz f:=aj (congrArg List.length e)
 have⟨h1,w⟩:=w;refine⟨ab,?_⟩;rcases w with⟨d,b,c⟩|⟨b,o,s,m,O,F,V,D⟩;exact jZ ⟨d,b,by subst c;exact AN k⟩
 .refine kd ⟨b,o,s,m,O,ab,?_,D⟩;have:E.flat a=E.flat f:=by unfold e7.flat;rw[I4,I4,e]
  rw[E.fK,this,<-E.fK];exact V
end
section
variable{h N:az}{n0:Nat}{y:YB}{B:SV}{f:List YB}
def YB.jr{q:GP×SV}(a:y.ps[j]?=Z q):y.loc (.R j)=dt q.2:=by simp[YB.loc,a]
def YB.kY(a:y.ls[j]?=Z q):y.loc (.X j)=dt q.2:=by simp[YB.loc,a]
def cC{l:Lo}(P:f[i]?=Z y):dV B f (Z (i,l))=y.loc l:=by simp[dV,P]
def BZ.lt(w:BZ h y)(a:cu h){l:Lo}{c:Nat}(e:y.loc l=Z c):c<h.aw:=by
 cases l with
 |P=>exact w.P.lt a e
 |L=>exact w.L.lt a e
 |T=>exact w.T.lt a e
 |R j=>
  have⟨q,h1,k⟩:=JT.1 e;exact(w.ps q (cO h1)).lt a k
 |X j=>
  have⟨q,h1,k⟩:=JT.1 e;exact(w.ls q (cO h1)).lt a k
def BZ.go{S:Nat->Prop}(w:BZ h y)(m:cu h)(g:ay S h N)(D:∀c l,S c->y.loc l≠Z c):BZ N y:=by
 refine⟨w.P.go m g λc a=>D c .P a,w.L.go m g λc a=>D c .L a,w.T.go m g λc a=>D c .T a,λq k=>?_,λq k=>?_⟩;have⟨j,F⟩:=iG k;exact(w.ps q k).go m g λc a=>by rw[<-YB.jr F];exact D c _ a
 have⟨j,F⟩:=iG k;exact(w.ls q k).go m g λc a=>by rw[<-YB.kY F];exact D c _ a
def BZ.cm(w:BZ h y)(a:cu h)(g:ay aR h N):BZ N y:=w.go a g (λ_ _ h=>h.elim)
def FZ.at(w:FZ h n0 B f)(P:f[i]?=Z y):BZ h y:=w.r y (cO P)
def FZ.lt(w:FZ h n0 B f)(a:cu h){l:Option (Nat×Lo)}{c:Nat}(e:dV B f l=Z c):c<h.aw:=by
 match l with
 |none=>exact w.A.lt a e
 |some (i,l)=>
  have⟨q,h1,k⟩:=JT.1 e;exact(w.at h1).lt a k
def FZ.go{S:Nat->Prop}(w:FZ h n0 B f)(k:cu h)(g:ay S h N)(m:∀c l,S c->dV B f l≠Z c):FZ N n0 B f:=
 ⟨w.A.go k g λc a=>m c K a,λy P=>by have⟨i,D⟩:=iG P;exact(w.r y P).go k g λc l a=>by rw[<-cC (B:=B) D];exact m c _ a,w.inj,w.new⟩
def FZ.cm(w:FZ h n0 B f)(a:cu h)(g:ay aR h N):FZ N n0 B f:=w.go a g (λ_ _ h=>h.elim)
def FZ.low(w:FZ h n0 B f)(a:cu h)(g:ay S h N)(m:∀c,S c->c<n0\/h.aw<=c):FZ N n0 B f:=w.go a g (λc l k e=>by have:=m c k;have:=w.new l c e;have:=w.lt a e;omega)
def FZ.cU(w:FZ h n0 B f)(a:n1<=n0):FZ h n1 B f:=⟨w.A,w.r,w.inj,λl c e=>qN a (w.new l c e)⟩
def Yt.py{f G:α->Option Nat}(w:Yt f)(a:α)(F:∀b,b≠a->G b=f b)(H:∀c,G a=Z c->∀b,f b=Z c->b=a):Yt G:=by intro x y c m P;by_cases D:x=a;by_cases k:y=a;rw[D,k];rw[F y k] at P;rw[D] at m;exact absurd (H c m y P) k;rw[F x D] at m;by_cases k:y=a;rw[k] at P;exact absurd (H c P x m) D;rw[F y k] at P;exact w x y c m P
def kF.py{p:Prop}{f H:Lo->Option Nat}(w:kF p f)(a:Lo)(F:∀b,b≠a->H b=f b)(d:∀c,H a=Z c->∀b,f b=Z c->b=a\/(p/\b.x/\a.x)):kF p H:=by intro x y c D P;by_cases m:x=a;by_cases k:y=a;exact jZ (by rw[m,k]);rw[F y k] at P;rw[m] at D;rcases d c D y P with h|⟨h1,G,I⟩;exact absurd h k;exact kd ⟨h1,by rw[m];exact I,G⟩;rw[F x m] at D;by_cases k:y=a;rw[k] at P;rcases d c P x D with h|⟨h1,G,I⟩;exact absurd h m;exact kd ⟨h1,G,by rw[k];exact I⟩;rw[F y k] at P;exact w x y c D P
def Ly.r{p:Prop}(w:Ly p (dV B f))(P:f[i]?=Z y):kF p y.loc:=λa b c h1 k=>by rcases w (Z (i,a)) (Z (i,b)) c (by rw[cC P];exact h1) (by rw[cC P];exact k) with h|h;cases h;exact jZ rfl;exact kd h
def FZ.tQ(w:FZ h n0 B f)(a b:Option (Nat×Lo))(c:Nat)(h1:dV B f a=Z c)(m:dV B f b=Z c)(k:¬Xo a:=by exactλh=>h):a=b:=(w.inj a b c h1 m).elim id λh=>absurd h.2.1 k
def FZ.KO(w:FZ h n0 B f)(P:f[i]?=Z y)(a b:Lo)(c:Nat)(h1:y.loc a=Z c)(m:y.loc b=Z c)(k:¬a.x:=by exactλh=>h):a=b:=(w.inj.r P a b c h1 m).elim id λh=>absurd h.2.1 k
def FZ.py{d:YB}(w:FZ h n0 B f)(v:cu h)(C:ay S h N)(L:n0<=h.aw)(P:f[i]?=Z y)(L:∀c,S c->∀o,dV B f o=Z c->o=K\/∃l,o=Z (i,l))(T:eM eF N B (f.set i d))(A:BZ N d)(E:∀p,kF p y.loc->kF p d.loc)(j:∀l c,d.loc l=Z c->(∃a,y.loc a=Z c/\(a.x->l.x))\/h.aw<=c):FZ N n0 B (f.set i d)/\(∀c,cK B (f.set i d) c->cK B f c\/h.aw<=c)/\(xS B f->xS B (f.set i d)):=by
 have u:=(cY.mp P).1;have s:∀l,dV B (f.set i d) (Z (i,l))=d.loc l:=λl=>by simp[dV,u]
 have x:∀k l,k≠i->dV B (f.set i d) (Z (k,l))=dV B f (Z (k,l)):=λk l m=>by simp[dV,fO,Ne.symm m]
 have g:∀(o:Option (Nat×Lo))(c:Nat),dV B (f.set i d) o=Z c->(∃l,o=Z (i,l)/\d.loc l=Z c)\/((∀l,o≠Z (i,l))/\dV B f o=Z c):=λo c H=>by
  match o with
  |none=>exact kd ⟨λl e=>(by cases e),H⟩
  |some (k,l)=>
   by_cases e:k=i;subst e;rw[s] at H;exact jZ ⟨l,Q,H⟩;rw[x k l e] at H;exact kd ⟨λM I=>by cases I;exact e Q,H⟩
 have x:∀p,Ly p (dV B f)->∀(l:Lo)(c:Nat)(o:Option (Nat×Lo)),d.loc l=Z c->dV B f o=Z c->(∃a,o=Z (i,a))\/(p/\Xo o/\l.x):=λp q l c o h1 s=>by rcases j l c h1 with⟨a,F,r⟩|F;rcases q o (Z (i,a)) c s (by rw[cC P];exact F) with h|h;exact jZ ⟨a,h⟩;exact kd ⟨h.1,h.2.1,r h.2.2⟩;have:=w.lt v s;omega
 have s:∀p,Ly p (dV B f)->Ly p (dV B (f.set i d)):=λp q d b c O V=>by rcases g d c O with⟨r,rfl,G⟩|⟨n1,G⟩;rcases g b c V with⟨n,rfl,D⟩|⟨t,D⟩;exact(E p (q.r P) r n c G D).imp (λh=>by rw[h]) id;rcases x p q r c b G D with⟨a,e⟩|h;exact absurd e (t a);exact kd ⟨h.1,h.2.2,h.2.1⟩;rcases g b c V with⟨n,rfl,D⟩|⟨t,D⟩;rcases x p q n c d D G with⟨a,e⟩|h;exact absurd e (n1 a);exact kd h;exact q d b c G D
 refine⟨⟨T,λz D=>?_,s True w.inj,λo c e=>?_⟩,λc ⟨o,e⟩=>?_,s False⟩;rcases iG D with⟨k,m⟩;rw[fO] at m;by_cases e:i=k;rw[bK e,bK u] at m;cases m;exact A;rw[bM e] at m;refine(w.at m).go v C λc l v C=>?_;rcases L c v (Z (k,l)) (by rw[cC m];exact C) with I|⟨M,I⟩<;>cases I;exact e rfl;rcases g o c e with⟨l,rfl,p⟩|⟨_,p⟩;rcases j l c p with⟨a,F,_⟩|F;exact w.new (Z (i,a)) c (by rw[cC P];exact F);omega;exact w.new o c p;rcases g o c e with⟨l,rfl,p⟩|⟨_,p⟩;exact(j l c p).imp (λ⟨a,F,_⟩=>⟨Z (i,a),by rw[cC P];exact F⟩) id;exact jZ ⟨o,p⟩
def BZ.view(w:BZ h y):bR h (eF.enc y) y.g:=by have row:∀ {A:SV} {vs:List (Bool×Int)},eM cZ h A vs->ad vR 2 h A.v vs:=λw=>w.view rfl (λi x y a b=>by rw[a] at b;cases b;rfl);refine⟨y.P,y.L,y.T,Q,w.P.view (by simp[YB.g]) λj q p a c=>?_,w.L.view (by simp[YB.g]) λj q p a c=>?_,w.T.view Q (λi x y a c=>by simp only[YB.g] at c;rw[a] at c;cases c;rfl)⟩;simp[YB.g,a] at c;subst c;exact⟨q.2,Q,row (w.ps q (cO a))⟩;simp[YB.g,a] at c;subst c;exact⟨q.2,Q,row (w.ls q (cO a))⟩
def FZ.view(w:FZ h n0 B f):qP h B (f.map YB.g):=w.A.view J λi r b a c=>by simp[a] at c;subst c;exact(w.at a).view
end
structure cV(h0 h:az)(n0:Nat)(B0:SV)(ji:List YB)(B:SV)(ys:List YB):Prop where
 w:FZ h n0 B ys
 s:∀c,cK B ys c->cK B0 ji c\/h0.aw<=c
 g:ay (cK B0 ji) h0 h
 x:xS B0 ji->xS B ys
section
variable{h0 h N:az}{n0:Nat}{y:YB}{r B p:SV}{E f x:List YB}{i j:Nat}{S:Nat->Prop}
def cV.refl(w:FZ h n0 B f)(a:cu h):cV h h n0 B f B f:=⟨w,λ_ h=>jZ h,.refl a,id⟩
def cV.step(T:cV h0 h n0 r E B f)(g:ay S h N)(k:∀c,S c->cK B f c\/h0.aw<=c)(W:FZ N n0 p x/\(∀c,cK p x c->cK B f c\/h.aw<=c)/\(xS B f->xS p x)):cV h0 N n0 r E p x:=by
 have D:=T.g.aw;refine⟨W.1,λc a=>?_,T.g.trans' g ai λc a m=>?_,λh=>W.2.2 (T.x h)⟩;rcases W.2.1 c a with h|h;exact T.s c h;exact kd ab
 .rcases k c m with h|h;exact(T.s c h).elim id λh=>ab
  omega
def cV.trans(T:cV h0 h n0 r E B f)(U:cV h N n0 B f p x):cV h0 N n0 r E p x:=T.step U.g (λ_ h=>jZ h) ⟨U.w,U.s,U.x⟩
def cV.go(T:cV h0 h n0 r E B f)(g:ay S h N)(k:∀c,S c->h0.aw<=c/\¬cK B f c):cV h0 N n0 r E B f:=
 T.step g (λc a=>kd (k c a).1) ⟨T.w.go T.g.ok g λc l a e=>(k c a).2 ⟨l,e⟩,λ_ h=>jZ h,id⟩
def cV.cm(T:cV h0 h n0 r E B f)(g:ay aR h N):cV h0 N n0 r E B f:=T.go g (λ_ h=>h.elim)
def FZ.own(w:FZ h n0 B f)(P:f[i]?=Z y){l:Lo}(e:y.loc l=Z c){o:Option (Nat×Lo)}(k:dV B f o=Z c)(a:¬l.x):o=Z (i,l):=(w.tQ (Z (i,l)) o c (by rw[cC P];exact e) k a).symm
def cV.py{a:YB}(T:cV h0 h n0 r E B f)(V:n0<=h0.aw)(P:f[i]?=Z y){L:Lo->Prop}(g:ay (λc=>(∃l,L l/\y.loc l=Z c)\/h.aw<=c) h N)(d:∀l c o,L l->y.loc l=Z c->dV B f o=Z c->o=Z (i,l))(b:eF.enc a=eF.enc y)(x:(∀c l,((∃l,L l/\y.loc l=Z c)\/h.aw<=c)->¬L l->y.loc l≠Z c)->BZ N a)(H:∀p,kF p y.loc->kF p a.loc)(j:∀l c,a.loc l=Z c->(∃D,y.loc D=Z c/\(D.x->l.x))\/h.aw<=c):cV h0 N n0 r E B (f.set i a):=by
 have w:=T.w;have F:=T.g.ok;have a:=T.g.aw;have a:=w.at P;have G:∀c,((∃l,L l/\y.loc l=Z c)\/h.aw<=c)->∀o,dV B f o=Z c->∃l,L l/\o=Z (i,l):=λc a o m=>by rcases a with⟨l,D,e⟩|a;exact⟨l,D,d l c o D e m⟩;have:=w.lt F m;omega
 refine T.step g (λc a=>a.imp (λ⟨l,_,e⟩=>⟨Z (i,l),by rw[cC P];exact e⟩) (λe=>ab)) (w.py F g ab P (λc a o m=>kd ((G c a o m).imp λ_ h=>h.2)) ((w.A.go F g λc a e=>?_).YS ?_) (x λc l a D e=>?_) H j);have⟨l,_,h⟩:=G c a K e;cases h;rw[List.map_set,b];refine BT λk=>?_;rw[fO];by_cases e:i=k;subst e;rw[bK Q,bK (by simpa using(cY.mp P).1),gM,P];rfl;rw[bM e];have⟨O,h1,I⟩:=G c a (Z (i,l)) (by rw[cC P];exact e);cases I;exact D h1
def cV.row{q p':GP×SV}(T:cV h0 h n0 r E B f)(n:n0<=h0.aw)(P:f[i]?=Z y)(G:y.ps[j]?=Z q)(g:ay (λc=>(∃l,(l=.P\/l=.R j)/\y.loc l=Z c)\/h.aw<=c) h N)(D:eM jf N y.P (y.ps.set j p'))(t:eM cZ N p'.2 p'.1.row)(V:∀c,dt p'.2=Z c->dt q.2=Z c\/h.aw<=c):cV h0 N n0 r E B (f.set i {y with ps:=y.ps.set j p'}):=by
 have F:=T.g.ok;have b:=T.w.at P;have d:=(cY.mp G).1;have I:∀l,l≠ .R j->({y with ps:=y.ps.set j p'} :YB).loc l=y.loc l:=λl a=>by
  cases l with
  |R k=>simp only[YB.loc];rw[fO,bM (λe=>a (by rw[e]))]
  |_=>rfl
 have s:({y with ps:=y.ps.set j p'} :YB).loc (.R j)=dt p'.2:=by simp[YB.loc,d]
 refine T.py n P g (λl c o a e n=>T.w.own P e n (by rcases a with rfl|rfl<;>exactλh=>h)) rfl (λno=>⟨D,b.L.go F g λc m=>no c .L m nofun,b.T.go F g λc m=>no c .T m nofun,λz u=>?_,λx O=>?_⟩) (λp n=>n.py (.R j) I λc m l a=>?_) λl c a=>?_
 .have⟨k,D⟩:=iG u;rw[fO] at D;by_cases e:j=k;rw[bK e,bK d] at D;cases D;exact t
  .rw[bM e] at D;exact(b.ps z (cO D)).go F g λc m=>by rw[<-YB.jr (y:=y) D];exact no c _ m (λH=>H.elim nofun λH=>by cases H;exact e Q)
 .have⟨k,D⟩:=iG O;exact(b.ls x O).go F g λc m=>by rw[<-YB.kY (y:=y) D];exact no c _ m nofun
 rw[s] at m;rcases V c m with h1|h1;exact(n l (.R j) c a (by rw[YB.jr G];exact h1)).imp id λh=>h.2.2.elim;have:=b.lt F a;omega
 by_cases e:l=.R j;rw[e,s] at a;exact(V c a).imp (λh=>⟨.R j,(by rw[YB.jr G];exact h),λh=>h.elim⟩) id;rw[I l e] at a;exact jZ ⟨l,a,id⟩
def cV.ins{q p':GI×SV}(T:cV h0 h n0 r E B f)(G:xS B f)(a:n0<=h0.aw)(P:f[i]?=Z y)(H:y.ls[j]?=Z q)(g:ay (λc=>(∃l,(l=.L\/l=.X j)/\y.loc l=Z c)\/h.aw<=c) h N)(n:eM ia N y.L (y.ls.set j p'))(u:eM cZ N p'.2 p'.1.args)(V:∀c,dt p'.2=Z c->dt q.2=Z c\/h.aw<=c):cV h0 N n0 r E B (f.set i {y with ls:=y.ls.set j p'}):=by
 have F:=T.g.ok;have b:=T.w.at P;have d:=(cY.mp H).1;have s:∀l,l≠ .X j->({y with ls:=y.ls.set j p'} :YB).loc l=y.loc l:=λl m=>by
  cases l with
  |X k=>simp only[YB.loc];rw[fO,bM (λe=>m (by rw[e]))]
  |_=>rfl
 have O:({y with ls:=y.ls.set j p'} :YB).loc (.X j)=dt p'.2:=by simp[YB.loc,d]
 refine T.py a P g (λl c o _ e a=>(G o (Z (i,l)) c a (by rw[cC P];exact e)).elim id λh=>h.1.elim) rfl (λno=>⟨b.P.go F g λc a=>no c .P a nofun,n,b.T.go F g λc a=>no c .T a nofun,λx G=>?_,λz t=>?_⟩) (λp n=>n.py (.X j) s λc a l m=>?_) λl c m=>?_
 .have⟨k,D⟩:=iG G;exact(b.ps x G).go F g λc a=>by rw[<-YB.jr (y:=y) D];exact no c _ a nofun
 .have⟨k,D⟩:=iG t;rw[fO] at D;by_cases e:j=k;rw[bK e,bK d] at D;cases D;exact u
  .rw[bM e] at D;exact(b.ls z (cO D)).go F g λc a=>by rw[<-YB.kY (y:=y) D];exact no c _ a (λI=>I.elim nofun λI=>by cases I;exact e Q)
 rw[O] at a;rcases V c a with h1|h1;exact n l (.X j) c m (by rw[YB.kY H];exact h1);have:=b.lt F m;omega
 by_cases e:l=.X j;rw[e,O] at m;exact(V c m).imp (λh=>⟨.X j,(by rw[YB.kY H];exact h),λ_=>by rw[e];trivial⟩) id;rw[s l e] at m;exact jZ ⟨l,m,id⟩
def cV.to{to':List Int}(T:cV h0 h n0 r E B f)(O:n0<=h0.aw)(P:f[i]?=Z y)(g:ay (λc=>(∃l,(l=.T)/\y.loc l=Z c)\/h.aw<=c) h N)(D:eM encI N y.T to'):cV h0 N n0 r E B (f.set i {y with to:=to'}):=by
 have F:=T.g.ok;have a:=T.w.at P;refine T.py O P g (λl c o H e I=>T.w.own P e I (by rw[H];exactλh=>h)) rfl (λno=>⟨a.P.go F g λc m=>no c .P m nofun,a.L.go F g λc m=>no c .L m nofun,D,λx D=>?_,λx D=>?_⟩) (λp n d b c h1 j=>n d b c (by cases d<;>exact h1) (by cases b<;>exact j)) λl c H=>jZ ⟨l,(by cases l<;>exact H),id⟩
 .have⟨k,G⟩:=iG D;exact(a.ps x D).go F g λc m=>by rw[<-YB.jr (y:=y) G];exact no c _ m nofun
 .have⟨k,G⟩:=iG D;exact(a.ls x D).go F g λc m=>by rw[<-YB.kY (y:=y) G];exact no c _ m nofun
end
structure pT{α:Type}(f:α->List (Bool×Int))(h:az)(M:Nat)(qs:List (α×SV)):Prop where
 arr:∀q∈qs,eM cZ h q.2 (f q.1)
 lo:∀q∈qs,∀c,dt q.2=Z c->M<=c
 inj:Yt λj:Nat=>(qs[j]?).bind λq:α×SV=>dt q.2
section
variable{α:Type}{f:α->List (Bool×Int)}{h N:az}{M:Nat}{p:List (α×SV)}
def pT.go{S:Nat->Prop}(w:pT f h M p)(k:cu h)(g:ay S h N)(D:∀c,S c->c<M\/h.aw<=c):pT f N M p:=
 ⟨λq a=>(w.arr q a).go k g λc m e=>by have:=w.lo q a c e;have:=D c m;have:=(w.arr q a).lt k e;omega,w.lo,w.inj⟩
def pT.cm(w:pT f h M p)(a:cu h)(g:ay aR h N):pT f N M p:=w.go a g (λ_ h=>h.elim)
def pT.push{x:α}(w:pT f h M p)(k:cu h)(g:ay aR h N)(b:M<=h.aw)(b:eM cZ N A (f x))(F:∀c,dt A=Z c->h.aw<=c):pT f N M (p++[(x,A)]):=by
 have G:=w.cm k g;have g:∀(j c:Nat),((p[j]?).bind λq:α×SV=>dt q.2)=Z c->c<h.aw:=λj c e=>by have⟨q,h1,H⟩:=JT.1 e;exact(w.arr q (cO h1)).lt k H
 refine⟨λq a=>?_,λq a c e=>?_,w.inj.py (cz p) (λj m=>?_) λc D j m=>?_⟩;rcases kg.1 a with h|h;exact G.arr q h;simp at h;subst h;exact b;rcases kg.1 a with h|h;exact w.lo q h c e;simp at h;subst h;have:=F c e;omega
 by_cases I:j<cz p;rw[MG I];rw[xU (by simp;omega),xU ab];simp at D;have:=F c D;have:=g j c m;omega
def pT.lt(w:pT f h M p)(k:cu h){j c:Nat}(e:((p[j]?).bind λq:α×SV=>dt q.2)=Z c):M<=c/\c<h.aw:=by have⟨q,h1,a⟩:=JT.1 e;exact⟨w.lo q (cO h1) c a,(w.arr q (cO h1)).lt k a⟩
def pT.nil:pT f h M []:=⟨λq k=>by simp at k,λq k=>by simp at k,λa b c h=>by simp at h⟩
end
def set_drop{d a:List α}{q x:α}(b:cz d=j)(m:a[j]?=Z q):(d++a.drop j).set j x=(d++[x])++a.drop (j+1):=by have k:=(cY.mp m).1;rw[K2,bM ab,b,rf,et k,List.set_cons_zero,MD];rfl
def fC{d qs:List α}(a:cz d=j):(d++qs.drop j)[j]?=qs[j]? :=by rw[OC ab,a,rf,List.getElem?_drop,A1]
def QO{f:α->I}{d:List α}{a:List α}{q:α}{x:α}(k:a[j]?=Z q)(e:d.map f=(a.map f).take j)(b:f x=f q):(d++[x]).map f=(a.map f).take (j+1):=by rw[aL,e,kh,gM,k];simp[b]
def CpZ(h:az)(e:Env)(M X m:Nat)(f:List aa)(c:SV)(a:List (GP×SV))(g:Nat)(b:Env)(N:az):Prop:=
 ∃(j:Nat) (d:List (GP×SV)),g=cz a-j/\j<=cz a/\cz d=j/\aG [5,6,28,29,30,31,32,33,34,35,36,37,38,39,40,41] e b/\bC b 28 j/\ay (bx c.v) h N/\N.tr.get X=Z (.bZ f cd 0 m)/\eM jf N c (d++a.drop j)/\pT GP.row N M d/\d.map (·.1)=(a.map (·.1)).take j
def YV(dv:cu h0)(x:ay aR h0 h){f L T:SV}{a:List (GP×SV)}(E:eM jf h f a)(P:∀q∈a,ad vR 2 h0 q.2.v q.1.row/\cz q.1.row<2000000)(z:cz a<1000000)(z:∀b,bx f.v b->h0.aw<=b/\b≠X)(t:eR h X [f.v,L.v,fc ft kind,dC on.1,fc ft on.2,T.v] m)(M:bU e 4 X)(W:bY e 26=f.v)(D:bC e 27 (cz a))(y:bC e 28 0)(C:∀u N d,aG [5,6,28,29,30,31,32,33,34,35,36,37,38,39,40,41] e u->ay (bx f.v) h N->N.tr.get X=Z (.bZ [f.v,L.v,fc ft kind,dC on.1,fc ft on.2,T.v] cd 0 m)->eM jf N f d->pT GP.row N h.aw d->d.map (·.1)=a.map (·.1)->l (.exit 2) u N):aK FF (.loop xL) e h l:=by
 have g:=E.len;refine aK.loop (CpZ h e h.aw X m [f.v,L.v,fc ft kind,dC on.1,fc ft on.2,T.v] f a) ?_ (n:=cz a)
  ⟨0,[],Q,ab,Q,aG.refl _ _,y,.refl x.ok,t,E,.nil,J⟩
 rintro t u N⟨j,d,rfl,u,u,t,y,g,r,i,U,w⟩;have S:=t.at M;have k:=t.at W;have W:=t.at D;have D:=g.ok;have gg:ay aR h0 N:=x.trans' g ai (λM f e=>av ((z M e).1));unfold xL;by_cases p:j<cz a
 .have wj:=ch ((j:Int)+1) ab ab;have⟨q,n⟩:=aQ a j p;have⟨hq2,zI⟩:=P q (cO n);have f:=fC (qs:=a) u;rw[n] at f;have⟨b,P,o,s,H,V,A,dD,dg,eQ⟩:=i.el f;have A:=i.len;have v:cz (d++a.drop j)=cz a:=by simp;omega
  have B:=dg 0 2 ag;have oX:=D.cg r;have f:=D.st _ _ _ _ _ r;have f:=D.cg V;have nX:¬X=b:=λe=>(z b (fH H)).2 e.symm;simp[-ax] at B;have f:=r;simp at f;rw[H,A,v] at f;simp at k;rw[H,A,v] at k;have ahz:m<=N.clock+1:=ab
  simp[S,k,W,y,p,B,-ax,aH,cn,bj,oX,aB f,aI];refine bS.cut (λz=>ay aR N z) ((((ay.refl D).var _ _).tick)) ?_;intro z G;have R5:=U.cm D G;have jQ:=G.get D f;have hb5:=G.get D V;have I:=gg.trans G;refine bS.call (V:=lz cZ z q.1.row) (aj (mQ cZ (bytes:=16) jA Q ag I.ok ((XQ hq2).cm dv I) zI)) ?_;rintro _ B⟨f,F,rfl,z,HB,D⟩;have R6:=R5.push (x:=q.1) I.ok f (by have:=g.aw;have:=G.aw;omega) z (λc D=>by have⟨o,ho⟩:=z.at D;rcases z.2 with⟨O,_⟩|⟨z,_,_,_,O,_⟩;simp[dt,O] at D;rw[cD O] at D;cases D;exact HB _ (fH O))
  have z:=f.get I.ok jQ;have Zx:=f.get I.ok hb5;have D:=dD 1 1 ag;simp at D;simp[z,ahz,p,Zx,D,y,wj,S];have D:ay (· =b) B (put B b (j*2+1) P [dB F.a F.l F.c] o):=bc f.ok Zx;have S:=E.cg x.ok (fH H);have x:=eQ (q.1,F) 1 [F.v] J rfl (put B b (j*2+1) P [dB F.a F.l F.c] o) ⟨_,aZ _ _ _ _ _ _⟩;rw[set_drop u n] at x;refine⟨cz a-(j+1),ab,j+1,d++[(q.1,F)],Q,p,au u,?_,J,((g.trans G.cm).trans f.cm).trans (D.cU (λM _ e=>e▸fH H)),?_,x,R6.go f.ok D (λc e=>ab),QO n w Q⟩
  .exact aq
  have:=D.get f.ok z nX;simpa [H,A,v] using this
 .have:j=cz a:=ab
  subst this;simp at i w;simp[W,y];exact C _ _ d (t.set) g r i U (by rw[w,tK J])
def CxZ(h:az)(e:Env)(M X m:Nat)(f:List aa)(b:SV)(a:List (GI×SV))(g:Nat)(c:Env)(N:az):Prop:=
 ∃(j:Nat) (d:List (GI×SV)),g=cz a-j/\j<=cz a/\cz d=j/\aG [7,8,49,50,51,52,53,54,55,56,57,58,59,60,61,62] e c/\bC c 49 j/\ay (bx b.v) h N/\N.tr.get X=Z (.bZ f cd 0 m)/\eM ia N b (d++a.drop j)/\pT GI.args N M d/\d.map (·.1)=(a.map (·.1)).take j
def YU(dv:cu h0)(x:ay aR h0 h){f P T:SV}{a:List (GI×SV)}(B:eM ia h f a)(M:∀q∈a,ad vR 2 h0 q.2.v q.1.args/\cz q.1.args<2000000)(z:cz a<1000000)(z:∀b,bx f.v b->h0.aw<=b/\b≠X)(t:eR h X [P.v,f.v,fc ft kind,dC on.1,fc ft on.2,T.v] m)(E:bU e 4 X)(W:bY e 47=f.v)(D:bC e 48 (cz a))(y:bC e 49 0)(C:∀u N d,aG [7,8,49,50,51,52,53,54,55,56,57,58,59,60,61,62] e u->ay (bx f.v) h N->N.tr.get X=Z (.bZ [P.v,f.v,fc ft kind,dC on.1,fc ft on.2,T.v] cd 0 m)->eM ia N f d->pT GI.args N h.aw d->d.map (·.1)=a.map (·.1)->l (.exit 4) u N):aK FF (.loop xK) e h l:=by
 have g:=B.len;refine aK.loop (CxZ h e h.aw X m [P.v,f.v,fc ft kind,dC on.1,fc ft on.2,T.v] f a) ?_ (n:=cz a)
  ⟨0,[],Q,ab,Q,aG.refl _ _,y,.refl x.ok,t,B,.nil,J⟩
 rintro t u N⟨j,d,rfl,u,u,t,y,g,r,i,U,w⟩;have S:=t.at E;have k:=t.at W;have W:=t.at D;have D:=g.ok;have gg:ay aR h0 N:=x.trans' g ai (λE f e=>av ((z E e).1));unfold xK;by_cases p:j<cz a
 .have wj:=ch ((j:Int)+1) ab ab;have⟨q,n⟩:=aQ a j p;have⟨hq2,zI⟩:=M q (cO n);have f:=fC (qs:=a) u;rw[n] at f;have⟨b,M,o,s,H,V,A,dD,dg,eQ⟩:=i.el f;have A:=i.len;have v:cz (d++a.drop j)=cz a:=by simp;omega
  have L:=dg 0 8 ag;have oX:=D.cg r;have f:=D.st _ _ _ _ _ r;have f:=D.cg V;have nX:¬X=b:=λe=>(z b (fH H)).2 e.symm;simp[-ax] at L;have f:=r;simp at f;rw[H,A,v] at f;simp at k;rw[H,A,v] at k;have ahz:m<=N.clock+1:=ab
  simp[S,k,W,y,p,L,-ax,aH,cn,bj,oX,aB f,aI];refine bS.cut (λz=>ay aR N z) ((((ay.refl D).var _ _).tick)) ?_;intro z G;have R5:=U.cm D G;have jQ:=G.get D f;have hb5:=G.get D V;have I:=gg.trans G;refine bS.call (V:=lz cZ z q.1.args) (aj (mQ cZ (bytes:=16) jA Q ag I.ok ((XQ hq2).cm dv I) zI)) ?_;rintro _ D⟨f,F,rfl,L,HB,z⟩;have R6:=R5.push (x:=q.1) I.ok f (by have:=g.aw;have:=G.aw;omega) L (λc z=>by rcases L.2 with⟨O,_⟩|⟨L,_,_,_,O,_⟩;simp[dt,O] at z;rw[cD O] at z;cases z;exact HB _ (fH O))
  have L:=f.get I.ok jQ;have Zx:=f.get I.ok hb5;have z:=dD 7 1 ag;simp at z;simp[L,ahz,p,Zx,z,y,wj,S];have z:ay (· =b) D (put D b (j*8+7) M [dB F.a F.l F.c] o):=bc f.ok Zx;have S:=B.cg x.ok (fH H);have x:=eQ (q.1,F) 7 [F.v] J rfl (put D b (j*8+7) M [dB F.a F.l F.c] o) ⟨_,aZ _ _ _ _ _ _⟩;rw[set_drop u n] at x;refine⟨cz a-(j+1),ab,j+1,d++[(q.1,F)],Q,p,au u,?_,J,((g.trans G.cm).trans f.cm).trans (z.cU (λE _ e=>e▸fH H)),?_,x,R6.go f.ok z (λc e=>ab),QO n w Q⟩
  .exact aq
  have:=z.get f.ok L nX;simpa [H,A,v] using this
 .have:j=cz a:=ab
  subst this;simp at i w;simp[W,y];exact C _ _ d (t.set) g r i U (by rw[w,tK J])
structure OZ(h:az)(n0:Nat)(ys:List YB):Prop where
 r:∀y∈ys,BZ h y
 inj:Ly False (dV cM ys)
 new:∀l c,dV cM ys l=Z c->n0<=c
section
variable{h N:az}{n0 n1:Nat}{f:List YB}{y:YB}{B:SV}{S:Nat->Prop}
def OZ.lt(w:OZ h n0 f)(a:cu h){l:Option (Nat×Lo)}{c:Nat}(e:dV cM f l=Z c):c<h.aw:=by
 match l with
 |none=>cases e
 |some (i,l)=>
  have⟨q,h1,k⟩:=JT.1 e;exact(w.r q (cO h1)).lt a k
def OZ.go(w:OZ h n0 f)(a:cu h)(g:ay S h N)(D:∀c,S c->c<n0\/h.aw<=c):OZ N n0 f:=
 ⟨λy P=>by
  have⟨i,m⟩:=iG P;refine(w.r y P).go a g λc l k e=>?_;have h1:dV cM f (Z (i,l))=Z c:=by rw[cC m];exact e
  have:=w.new _ c h1;have:=w.lt a h1;have:=D c k;omega,w.inj,w.new⟩
def OZ.push(w:OZ h n0 f)(G:cu h)(g:ay S h N)(a:∀c,S c->c<n0\/h.aw<=c)(i:n0<=h.aw)(x:BZ N y)(i:kF False y.loc)(H:∀l c,y.loc l=Z c->h.aw<=c):OZ N n0 (f++[y]):=by
 have D:=w.go G g a;have a:∀(o:Option (Nat×Lo))(c:Nat),dV cM (f++[y]) o=Z c->(∃l,o=Z (cz f,l)/\y.loc l=Z c)\/dV cM f o=Z c:=λo c m=>by
  match o with
  |none=>cases m
  |some (k,l)=>
   rcases Nat.lt_trichotomy k (cz f) with e|e|e;refine kd ?_;simp only[dV] at m⊢;rw[MG e] at m;exact m;subst e;exact jZ ⟨l,Q,by simpa [dV] using m⟩;simp only[dV] at m;rw[xU (by simp;omega)] at m;cases m
 refine⟨λz p=>?_,λd b c O V=>?_,λo c e=>?_⟩;rcases kg.1 p with h|h;exact D.r z h;simp at h;subst h;exact x
 .rcases a d c O with⟨p,rfl,F⟩|F;rcases a b c V with⟨I,rfl,D⟩|D;exact(i p I c F D).imp (λh=>by rw[h]) id;have:=H p c F;have:=w.lt G D;omega
  .rcases a b c V with⟨I,rfl,D⟩|D;have:=H I c D;have:=w.lt G F;omega
   exact w.inj d b c F D
 rcases a o c e with⟨l,rfl,p⟩|p;have:=H l c p;omega;exact w.new o c p
def OZ.nil:OZ h n0 []:=⟨λy P=>by simp at P,λa b c e=>by match a with
 |none=>cases e
 |some (i,l)=>simp[dV] at e,λo c e=>by match o with
 |none=>cases e
 |some (i,l)=>simp[dV] at e⟩
def OZ.fz(w:OZ h n0 f)(A:eM eF h B f)(F:∀c,dt B=Z c->n1<=c/\c<n0)(H:n1<=n0):FZ h n1 B f/\xS B f:=by
 have d:∀(o:Option (Nat×Lo))(c:Nat),dV B f o=Z c->(o=K/\dt B=Z c)\/dV cM f o=Z c:=λo c G=>by
  match o with
  |none=>exact jZ ⟨Q,G⟩
  |some (k,l)=>exact kd G
 have p:xS B f:=λa b c O V=>by
  rcases d a c O with⟨rfl,D⟩|D;rcases d b c V with⟨rfl,m⟩|m;exact jZ rfl;have:=F c D;have:=w.new b c m;omega
  .rcases d b c V with⟨rfl,m⟩|m;have:=F c m;have:=w.new a c D;omega
   exact w.inj a b c D m
 refine⟨⟨A,w.r,λa b c O V=>(p a b c O V).imp id λh=>h.1.elim,λo c e=>?_⟩,p⟩;rcases d o c e with⟨rfl,p⟩|p;exact(F c p).1;exact qN H (w.new o c p)
def mkZ{M0 M1 N1 M2 N2:Nat}(m:cu h)(F:eM jf h y.P y.ps)(p:eM ia h y.L y.ls)(G:eM encI h y.T y.to)(f:pT GP.row h M1 y.ps)(d:pT GI.args h M2 y.ls)(a:∀c,dt y.P=Z c->M0<=c/\c<M1)(nR:∀q∈y.ps,∀c,dt q.2=Z c->c<N1)(H:∀c,dt y.L=Z c->N1<=c/\c<M2)(I:∀q∈y.ls,∀c,dt q.2=Z c->c<N2)(D:∀c,dt y.T=Z c->N2<=c)(h1:M0<=M1)(g:M1<=N1)(g:N1<=M2)(g:M2<=N2):BZ h y/\kF False y.loc/\∀l c,y.loc l=Z c->M0<=c:=by
 have k:∀l c,y.loc l=Z c->(match l with|.P=>M0<=c/\c<M1|.R _=>M1<=c/\c<N1|.L=>N1<=c/\c<M2|.X _=>M2<=c/\c<N2|.T=>N2<=c):=λl c e=>by
  cases l with
  |P=>exact a c e
  |L=>exact H c e
  |T=>exact D c e
  |R j=>
   have⟨q,a,b⟩:=JT.1 e;exact⟨(f.lt m e).1,nR q (cO a) c b⟩
  |X j=>
   have⟨q,a,b⟩:=JT.1 e;exact⟨(d.lt m e).1,I q (cO a) c b⟩
 refine⟨⟨F,p,G,f.arr,d.arr⟩,λa b c O V=>?_,λl c e=>?_⟩;have p:=k a c O;have q:=k b c V;cases a<;>cases b<;>first|exact jZ rfl|(exfalso;dsimp only at p q;omega)|exact jZ (congrArg _ (f.inj _ _ c O V))|exact jZ (congrArg _ (d.inj _ _ c O V))
 have p:=k l c e;cases l<;>dsimp only at p<;>omega
end
structure Kr(b:GB):Prop where
 lp:cz b.bz<100000
 ll:cz b.list<100000
 lr:∀p∈b.bz,cz p.row<100000
 la:∀x∈b.list,cz x.args<100000
 lt:cz b.to<100000
structure agb(h0:az)(y:YB)(b:GB):Prop where
 kind:y.kind=b.kind
 on:y.on=b.on
 P:ad (pR h0) 2 h0 y.P.v b.bz
 L:ad (iR h0) 8 h0 y.L.v b.list
 T:ad nR 1 h0 y.T.v b.to
def agJ{d:α×I->α->Prop}{a:List (α×I)}{c:List α}(F:cz a=cz c)(H:∀(i:Nat)(y:α×I)(x:α),a[i]?=Z y->c[i]?=Z x->y.1=x/\d y x):a.map (·.1)=c/\∀y∈a,d y y.1:=by
 have k:∀(i:Nat)(y:α×I),a[i]?=Z y->c[i]?=Z y.1/\d y y.1:=λi y P=>by have m:=(cY.mp P).1;have⟨x,D⟩:=aQ c i;have⟨c,b⟩:=H i y x P D;rw[D,c];exact⟨Q,b⟩
 refine⟨BT λi=>?_,λy P=>?_⟩;rw[gM];rcases h:a[i]? with _|y;rw[wx] at h;exact(wx.2 ab).symm;exact(k i y h).1.symm;have⟨i,m⟩:=iG P;exact(k i y m).2
def awi{d:List GP}(s:ad (pR h) 2 h v d):∃a:List (GP×SV),a.map (·.1)=d/\bp jf h v a/\∀q∈a,ad vR 2 h q.2.v q.1.row:=by have⟨a,m,D,H⟩:=ad.pick (E:=jf) (Q1:=λ(q:GP×SV) (p:GP)=>q.1=p/\ad vR 2 h q.2.v p.row) s (λc x ⟨A,e,k⟩=>⟨(x,A),e,Q,k⟩);have⟨x,b⟩:=agJ m H;exact⟨a,x,D,b⟩
def avL{d:List GI}(s:ad (iR h) 8 h v d):∃a:List (GI×SV),a.map (·.1)=d/\bp ia h v a/\∀q∈a,ad vR 2 h q.2.v q.1.args:=by have⟨a,m,D,H⟩:=ad.pick (E:=ia) (Q1:=λ(q:GI×SV) (p:GI)=>q.1=p/\ad vR 2 h q.2.v p.args) s (λc x ⟨A,e,k⟩=>⟨(x,A),e,Q,k⟩);have⟨x,b⟩:=agJ m H;exact⟨a,x,D,b⟩
def asT{d:List GB}(s:ad (bR h) 6 h v d):∃a:List YB,cz a=cz d/\bp eF h v a/\∀(i:Nat)(y:YB)(b:GB),a[i]?=Z y->d[i]?=Z b->agb h y b:=
 ad.pick (E:=eF) (Q1:=agb h) s (λc x ⟨P,L,T,e,m,k,a⟩=>⟨⟨P,L,T,x.kind,x.on,[],[],[]⟩,e,Q,Q,m,k,a⟩)
def lz.dt{α:Type}{E:e7 α}{h N:az}{w:SV}{a:List α}(m:eM E N w a)(k:∀b,bx w.v b->h.aw<=b)(c:Nat)(a:Go.Proofs.YtdhnndleffachaaGreatDoor.dt w=Z c):h.aw<=c:=by rcases m.2 with⟨O,_⟩|⟨D,_,_,_,O,_⟩;simp[Go.Proofs.YtdhnndleffachaaGreatDoor.dt,O] at a;rw[cD O] at a;cases a;exact k _ (fH O)
def CyZ(h1:az)(b F R:Nat)(a:SV)(c:List YB)(bs:List GB)(m:Nat)(e:Env)(N:az):Prop:=
 ∃(j:Nat) (d:List YB),m=cz bs-j/\j<=cz bs/\cz d=j/\bU e 1 F/\bU e 2 R/\bY e 14=a.v/\bC e 15 (cz bs)/\bC e 16 j/\ay (bx a.v) h1 N/\eM eF N a (d++c.drop j)/\OZ N b d/\d.map YB.g=bs.take j
def Sq(M:cu h0)(p:ay aR h0 h1){F R x U:Nat}{X r:Int}{o:SV}{n:List YB}(T:eM eF h1 o n)(vI:cz n=cz bs)(P:∀(i:Nat)(y:YB)(b:GB),n[i]?=Z y->bs[i]?=Z b->agb h0 y b)(a:∀b∈bs,Kr b)(L:cz bs<1000000)(L:∀b,bx o.v b->h0.aw<=b/\b≠F/\b≠R)(z:eR h1 F (aC name X r o) x)(X:eR h1 R [gX ⟨⟨[]⟩⟩,fc ft 0,fc ft 0,dB K 0 0] U)(x:bU e 1 F)(U:bU e 2 R)(r:bY e 14=o.v)(u:bC e 15 (cz bs))(t:bC e 16 0)(C:∀A N d,bU A 1 F->bU A 2 R->ay (bx o.v) h1 N->eM eF N o d->OZ N h1.aw d->d.map YB.g=bs->l (.exit 0) A N):aK FF (.loop xM) e h1 l:=by
 have f:=T.len;refine aK.loop (CyZ h1 h1.aw F R o n bs) ?_ (n:=cz bs) ⟨0,[],Q,ab,Q,x,U,r,u,t,.refl p.ok,T,.nil,J⟩;rintro m A N⟨j,d,rfl,A,hd,q1,q2,A,CY,PE,t,U,W,Md⟩;have u:=t.ok;have gg:ay aR h0 N:=p.trans' t ai (λx f e=>av ((L x e).1));have rq:=t.get p.ok z (λe=>(L F e).2.1 Q);have hR':=t.get p.ok X (λe=>(L R e).2.2 Q);have lB1:∀x,bx o.v x->x<h1.aw:=λx f=>T.cg p.ok f;have T:=p.ok.wf _ _ z;have z:=p.ok.wf _ _ X;have ln1:=t.aw;unfold xM;by_cases bg:j<cz bs
 .have wj:=ch ((j:Int)+1) ab ab;have⟨b,V⟩:=aQ bs j bg;have⟨y,hyj⟩:=aQ n j;have p:=P j y b hyj V;have I:=a b (cO V);have z:=fC (qs:=n) hd;rw[hyj] at z;obtain⟨L,cs,oB,a,T,CI,a,dD,a,eQ⟩:=U.el z;have IZ:=U.len;have apO:cz (d++n.drop j)=cz bs:=by simp;omega
  have n:=a 0 6 ag;simp[-ax] at n;simp at A;rw[T,IZ,apO] at A;have z:=ad.len p.P;have z:=ad.len p.L;have z:=ad.len p.T;simp[A,CY,PE,bg,n,-ax,aH];refine bh.cut (λz=>ay aR N z/\(di z N.aw [y.P.v,y.L.v,fc ft y.kind,dC y.on.1,fc ft y.on.2,y.T.v])) ⟨(ay.refl u).var _ _,_,aZ _ _ _ _ _ _⟩ ?_;rintro z⟨g2,n,X⟩;have n:=gg.trans g2;have a:N.aw<z.aw:=n.ok.wf _ _ X;have⟨a,Dy,r,E⟩:=awi p.P;have v:cz a=cz b.bz:=by rw[<-Dy];simp
  refine bh.call (V:=lz jf z a) (aj (mQ jf (bytes:=32) r_ Q ag n.ok (r.cm M n) (av I.lp))) ?_;rintro _ r⟨g3,k,rfl,VC,D,_⟩;have B:=g3.get n.ok X;have X:=n.trans g3;have S:=VC.len;have nP:=lz.dt VC D;simp at B;simp[B,S,v];refine aK.cut (λs=>ay (· =N.aw) r s/\(di s N.aw [k.v,y.L.v,fc ft y.kind,dC y.on.1,fc ft y.on.2,y.T.v])) ?_ ?_
  refine⟨bc X.ok B,r.clock,?_⟩;rw[aZ];simp[S,v,aX];rintro s⟨g4,w,r⟩;have B:ay aR h0 s:=X.trans' g4 ai (λx f e=>av gg.aw);have g:eM jf s k a:=VC.grow X.ok g4 (λb V e=>av (D b V));have l3:=g3.aw;have l4:=g4.aw;have pm:∀q∈a,q.1∈b.bz:=λq a=>by rw[<-Dy];exact kC.2 ⟨q,a,Q⟩
  refine YV M B g (λq a=>⟨E q a,av (I.lr _ (pm q a))⟩) (av I.lp) (λb V=>⟨by have:=D b V;have:=n.aw;omega,av (D b V)⟩) r J (by simp[S,v]) (au v) J ?_;intro e5 v S r g5 E hP5 R5 M5;have g:=B.ok;have g:ay aR h0 v:=B.trans' g5 ai (λx f e=>by have:=D x e;have:=n.aw;omega);have k1:=r.at (t:=1) (ak q1);have k2:=r.at (t:=2) (ak q2);have k3:bY e5 3=fc ft j:=r.at J;have k4:bU e5 4 N.aw:=r.at J;have k14:=r.at (t:=14) (ak A);have k15:=r.at (t:=15) (ak CY);have k16:=r.at (t:=16) (ak PE);have r:=g5.aw;simp at E;simp[k4,E];have⟨n,ZY,A,aDe⟩:=avL p.L;have r:cz n=cz b.list:=by rw[<-ZY];simp
  refine bh.call (V:=lz ia v n) (aj (mQ ia (bytes:=80) r9 Q ag g.ok (A.cm M g) (av I.ll))) ?_;rintro _ h6⟨g6,H,rfl,UA,A,_⟩;have nz:=g6.get g.ok E;have gg6:=g.trans g6;have B:=UA.len;have nL:=lz.dt UA A;simp[k4,nz,B,r];refine aK.cut (λE=>ay (· =N.aw) h6 E/\(di E N.aw [k.v,H.v,fc ft y.kind,dC y.on.1,fc ft y.on.2,y.T.v])) ?_ ?_
  refine⟨bc gg6.ok nz,h6.clock,?_⟩;rw[aZ];simp[B,r,aX];rintro E⟨g7,s7,Io⟩;have gg7:ay aR h0 E:=gg6.trans' g7 ai (λx f e=>av gg.aw);have hL7:eM ia E H n:=UA.grow gg6.ok g7 (λb V e=>av (A b V));have l6:=g6.aw;have l7:=g7.aw;have xm:∀q∈n,q.1∈b.list:=λq a=>by rw[<-ZY];exact kC.2 ⟨q,a,Q⟩
  refine YU M gg7 (kind:=y.kind) (on:=y.on) (P:=k) (T:=y.T) hL7 (λq a=>⟨aDe q a,av (I.la _ (xm q a))⟩) (av I.ll) (λb V=>⟨by have:=A b V;have:=g.aw;omega,av (A b V)⟩) Io (au k4) (by simp[B,r]) (au r) J ?_;intro e8 B d8 r g8 VD hL8 R8 M8;have n:=gg7.ok;have n:ay aR h0 B:=gg7.trans' g8 ai (λx f e=>by have:=A x e;have:=g.aw;omega);have m1:=r.at (t:=1) (ak k1);have m2:=r.at (t:=2) (ak k2);have m3:bY e8 3=fc ft j:=r.at (ak k3);have m4:bU e8 4 N.aw:=r.at (ak k4);have m14:=r.at (t:=14) (ak k14);have m15:=r.at (t:=15) (ak k15);have m16:=r.at (t:=16) (ak k16);simp at VD;simp[m4,VD];refine bh.call (V:=lz encI B b.to) (aj (mQ encI (bytes:=8) qu Q ag n.ok ((WD p.T).cm M n) (av I.lt))) ?_;rintro _ h9⟨r,G,rfl,hT9,hTn,_⟩;have hX9:=r.get n.ok VD;have M:=n.trans r;have l8:=g8.aw;have l9:=r.aw;have nT:=lz.dt hT9 hTn;have g58:ay (λc=>c=N.aw\/v.aw<=c) v B:=(g6.cm.trans' g7 ai (λx _ e=>jZ e)).trans' g8 ai (λx _ e=>kd (av (A x e)));have hP8:eM jf B k S:=hP5.grow g.ok g58 (λb V e=>by have:=D b V;have:=hP5.cg g.ok V;omega);have R58:pT GP.row B s.aw S:=R5.go g.ok g58 (λc e=>ab);have⟨Y',Yi,A⟩:=mkZ (y:=⟨k,H,G,y.kind,y.on,S,d8,b.to⟩) (M0:=z.aw) (M1:=s.aw) (N1:=v.aw) (M2:=E.aw) (N2:=B.aw) M.ok (hP8.cm n.ok r) (hL8.cm n.ok r) hT9 (R58.cm n.ok r) (R8.cm n.ok r) (λc O=>⟨nP c O,av (VC.lt X.ok O)⟩) (λq a c O=>(R5.arr q a).lt g.ok O) (λc O=>⟨nL c O,av (UA.lt gg6.ok O)⟩) (λq a c O=>(R8.arr q a).lt n.ok O) nT ab ab ab ab;have n:ay aR N h9:=by have a:ay aR N s:=(g2.trans g3).trans' g4 ai (λx f e=>ab);have s:ay aR N v:=a.trans' g5 ai (λx f e=>av (D x e));exact(s.trans' g58 ai (λx f e=>ab)).trans r
  have r:=n.get u rq;have v:=n.get u hR';have v:=n.get u CI;simp[aC] at r;rw[T,IZ,apO] at r;have D:=(u.cg CI).lt;have D:=(u.cg rq).lt;have a:¬F=N.aw:=ab
  have D:¬L=N.aw:=ab
  have s:=dD 0 6 ag;simp at s;simp[m1,m3,m4,m16,hX9,r,a,D,bg,v,s,wj];have r:=bc (off:=5) (vs:=[dB G.a G.l G.c]) M.ok hX9;have s:=r.get M.ok v D;have a:=eQ ⟨k,H,G,y.kind,y.on,S,d8,b.to⟩ 0 [dB k.a k.l k.c,dB H.a H.l H.c,fc ft y.kind,dC y.on.1,fc ft y.on.2,dB G.a G.l G.c] J rfl;generalize put h9 N.aw 5 _ _ 0=Pm at*;have v:=bc (off:=j*6) (vs:=[dB k.a k.l k.c,dB H.a H.l H.c,fc ft y.kind,dC y.on.1,fc ft y.on.2,dB G.a G.l G.c]) r.ok s;have D:=a (put Pm L (j*6) cs [dB k.a k.l k.c,dB H.a H.l H.c,fc ft y.kind,dC y.on.1,fc ft y.on.2,dB G.a G.l G.c] oB) ⟨_,aZ _ _ _ _ _ _⟩;generalize put Pm L (j*6) _ _ oB=h11 at*;rw[set_drop hd hyj] at D;have gS:ay (λx=>x=N.aw\/x=L) h9 h11:=r.trans' v (λ_ _ h=>jZ h) (λ_ _ h=>kd h);have v:=lB1 L (fH T);have L:ay (bx o.v) N h11:=n.trans' gS (λ_ _ h=>h.elim) (λx f h=>by rcases h with rfl|rfl;omega;exact fH T)
  refine⟨cz bs-(j+1),ab,j+1,d++[⟨k,H,G,y.kind,y.on,S,d8,b.to⟩],Q,bg,au hd,au m1,au m2,by simp[m14,T,IZ,apO],by simp[m15],J,t.trans L,D,W.push u L (λc O=>av (lB1 c O)) ln1 (Y'.go M.ok gS λc M O e=>av (A M c e)) Yi (λM c e=>av (A M c e)),?_⟩;rw[aL,Md,kh,V];simp only[xg,List.map_nil,YB.g,M5,Dy,M8,ZY,p.kind,p.on];rfl
 .have:j=cz bs:=ab
  subst this;rw[<-vI] at U;simp at U Md;simp[CY,PE];exact C _ _ d (au q1) (au q2) t U W Md
def lD(name:ByteArray)(p r:Int)(bs:List GB)(h:az)(v:aa)(N:az):Prop:=
 ay aR h N/\∃(a:SV) (b:List YB),v=ix ⟨aC name p r a⟩/\FZ N h.aw a b/\xS a b/\b.map YB.g=bs
def YT(i:cu h){name:ByteArray}{p r:Int}(j:qP h B bs)(v:∀b∈bs,Kr b)(t:cz bs<1000000):aY FF 69 [ix ⟨aC name p r B⟩] h (lD name p r bs h):=by
 refine aY.of RX ?_;unfold G1;simp[aC];refine bh.cut (λh1=>ay aR h h1/\h1.tr.get h.aw=Z (.bZ (aC name p r B) cd 0 0)/\h1.tr.get (h.aw+1)=Z (.bZ [gX ⟨⟨[]⟩⟩,fc ft 0,fc ft 0,dB K 0 0] cd 0 0)) ?_ ?_;exact⟨((ay.refl i).new _ _).new _ _,by simp[aC],J⟩;rintro h1⟨k,u,n⟩;have⟨x,l,f,P⟩:=asT j;refine bh.call (V:=lz eF h1 x) (aj (mQ eF (bytes:=96) pC Q ag k.ok (f.cm i k) ab)) ?_;rintro _ x⟨F,f,rfl,j,a,_⟩;have G:=k.trans F;have g:=F.get k.ok u;have u:=F.get k.ok n;have s:=k.ok.wf _ _ n;have s:=j.len;simp[aC] at g;simp[g];refine aK.cut (λH=>ay (· =h.aw) x H/\(di H h.aw (aC name p r f))) ?_ ?_
 refine⟨bc G.ok g,x.clock,?_⟩;rw[aZ];simp[aC,aX];rintro H⟨g,x,o⟩;have m:ay aR h H:=G.trans' g ai (λx n e=>ab);have D:=j.grow G.ok g (λb V e=>av (a b V));have q:=g.get G.ok u ab;have u:=g.aw;have g:=F.aw;refine Sq i m D l P v t (λb V=>⟨av (a b V),av (a b V),av (a b V)⟩) o q J J J (by simp[s,l]) J ?_;intro s O d s u g v t i;have I:ay aR h O:=m.trans' g ai (λx n e=>av (a x e));have l:=g.get m.ok o (λe=>av (a _ e));have o:=g.get m.ok q (λe=>av (a _ e));simp[aC] at l;simp[s,u,l,o];have gR:ay (· =h.aw+1) O (put O (h.aw+1) 0 [gX ⟨⟨[]⟩⟩,fc ft 0,fc ft 0,dB K 0 0] [gX name,fc ft p,fc ft r,dB f.a f.l f.c] 0):=bc I.ok o;have s:=t.go I.ok gR (λb e=>ab);have l:=v.grow I.ok gR (λb V e=>av (a b V));have⟨o,v⟩:=s.fz (n1:=h.aw) l (λc l=>⟨av (lz.dt j a c l),av (D.lt m.ok l)⟩) ab;exact⟨I.trans' gR ai (λx n e=>ab),f,d,Q,o,v,i⟩
def bm.arr{E:e7 α}{a:List α}(c:bm E n0 h L.v a):eM E h L a:=by rcases c with⟨rfl,e⟩|⟨b,s,e,V,k,m⟩;simp at e;exact⟨e.2.1,jZ ⟨e.1,e.2.2,Q⟩⟩;simp at e;exact⟨e.2.1,kd ⟨b,E.sz,s,[],e.1,by simp[e.2.2],aj V,kd Q⟩⟩
def bm.dt{α:Type}{E:e7 α}{n0:Nat}{h:az}{L:SV}{b:List α}(a:bm E n0 h L.v b){c:Nat}(e:dt L=Z c):n0<=c:=by rcases(bm.arr a).2 with⟨O,_⟩|⟨b2,_,_,_,O,_⟩;simp[Go.Proofs.YtdhnndleffachaaGreatDoor.dt,O] at e;rw[cD O] at e;cases e;exact a.of (fH O)
def aqN:List Nat:=[13,34,35,36,78,79,80,81,82,83,84,85,86,87,88,89,101,132,138,139,140,141,142,143,144,145,146,147,148,149,150,192,193,199,200,201,202,203,204,205,206,207,208,209,210,211,246]
def aqM(f:Nat):Bool:=aqN.any (Nat.beq f)
def amb{f:Nat}(h:aqM f=ck):f∈aqN:=by have⟨x,a,e⟩:=List.any_eq_true.1 h;rw[sq e];exact a
def aqO(a:0<h0.aw)(k:h0.aw<=O.aw):Ip (yX h0 O V aqM a k) FF:=aoc aqN (λ_ h=>amb h) (by kernel_rfl)
def Uf(C:Lx h0)(m:cu h0)(H:0<h0.aw)(a:ay aR h0 O)(b:ay aR O V){G F:SV}(e:IC h0)(f:uR h0 G F u)(g:Iz u)(I:pE h0.aw G.v/\pE h0.aw F.v){c d:Int}(D:aY FF 13 [ix ⟨[G.v,F.v]⟩] O (λv _=>v=ix ⟨[fc ft c,fc ft d]⟩)):aY FF 13 [ix ⟨[G.v,F.v]⟩] V (λv N=>v=ix ⟨[fc ft c,fc ft d]⟩/\AK (Ex u) V v N):=by
 have k:=a.trans b;refine(frame aqM H C m a b (aqO H a.aw) (f:=13) Q (λv a=>?_) Q D).both (Kg k.ok (e.grow m k) (f.mono m k) g);simp at a;subst a;exact kd ⟨_,Q,λc a=>by simp at a;rcases a with rfl|rfl;simpa using I.1;simpa using I.2⟩
end Go.Proofs.YtdhnndleffachaaGreatDoor
namespace Go.AI.Edge
variable{p:Nat}
def HF(b:List (List Int))(x:Nat):Prop:=∀S:Nat->Prop,S 0->(∀a k,S a->b[a]?=Z k->∀t∈k,S t.toNat)->S x
def HF.zero(h:List (List Int)):HF h 0:=λ_ h _=>h
def HF.step{b:List (List Int)}{a:Nat}{ts:List Int}(h:HF b a)(c:b[a]?=Z ts){t:Int}(m:t∈ts):HF b t.toNat:=λS b k=>k a ts (h S b k) c t m
def PB(a:List (List Int)):List (List Nat):=a.map (·.map qA)
def Xh{b:List (List Int)}{p x:Nat}(h:x∈Dfs.row (PB b) p):∃a t,b[p]?=Z a/\t∈a/\x=t.toNat:=by unfold Dfs.row PB at h;rw[gM] at h;rcases k:b[p]? with _|a;rw[k] at h;simp at h;rw[k] at h;simp at h;have⟨t,m,e⟩:=h;exact⟨a,t,Q,m,e.symm⟩
def aeV{b:List (List Int)}{a:List Int}{t:Int}(c:b[p]?=Z a)(k:t∈a):t.toNat∈Dfs.row (PB b) p:=by unfold Dfs.row PB;rw[gM,c];simp;exact⟨t,k,Q⟩
def aiy{tss:List (List Int)}(G:0<cz tss)(g:∀F∈tss,∀t∈F,t.toNat<cz tss)(x:Nat):x∈Dfs.vu (PB tss) (cz tss)↔HF tss x:=by
 obtain⟨f,d,⟨d,d⟩,i,c⟩:=Dfs.Lm (tos:=PB tss) G (λb t G=>by obtain⟨F,u,a,D,rfl⟩:=Xh G;exact g F (cO a) u D);constructor
 .
  intro g;have⟨k,m,e⟩:=List.append_of_mem g;have g:∀(n:Nat)(k m:List Nat)(x:Nat),cz m<=n->Dfs.vu (PB tss) (cz tss)=k++x::m->HF tss x:=by
   intro n;induction n with
   |zero=>
    intro k m x b e;have:m=[]:=AN ab;subst this;rw[d] at e;have:=(List.append_inj' e Q).2;cases this;exact HF.zero _
   |succ n u=>
    intro k m x b e;by_cases O:x=0;subst O;exact HF.zero _
    .have⟨p,y,n,V,h,I⟩:=c x (by rw[e];simp) O;have c:k++x::m=n++x::V:=by rw[<-e,<-h]
     have H:(k++x::m).Nodup:=by rw[<-e];exact f
     have f:cz k=cz n:=by
      have h:(k++x::m)[cz k]?=Z x:=J
      have V:(k++x::m)[cz n]?=Z x:=by rw[c];simp
      have a:=(cY.mp h);have D:=(cY.mp V);have⟨V,h⟩:=a;obtain⟨V,V⟩:=D;exact(eX H).1 (h.trans V.symm)
     have V:=(List.append_inj c f).2;cases V;have⟨c,H,V⟩:=List.append_of_mem I;have f:=u (k++x::c) H p (by rw[V] at b;simp at b;omega) (by rw[e,V];simp);obtain⟨F,t,a,D,rfl⟩:=Xh y;exact f.step a D
  exact g (cz m) k m x (fq _) e
 intro h;refine h (λy=>y∈Dfs.vu (PB tss) (cz tss)) (by rw[d];simp) (λa F d F t G=>i a d _ (aeV F G))
end Go.AI.Edge
namespace Go.Proofs.YtdhnndleffachaaGreatDoor
open Go.AI
variable{B W:SV}{d:List GB}{gs:List GG}{h:az}{l:List (Int×(Bool×Int))}{v:aa}{xs:List Int}
def RnC:List Nat:=[10,12,45,46,47,48,49,50,51,52,53,54,55,56,57,58,59]
set_option maxRecDepth 100000
def ChD:List Nat:=[54,55,56,57,58,59,60,61,62,63]
def ChA:List Nat:=[64,65,66,67,68,69,70,71,72,73,74,75,76,77]
def Dc(N a:Nat)(x:Nat):Prop:=x=N\/x=a
section
variable{e aF:Nat}{c a:Nat->Nat}{B:SV}{b:List XR}{N f:Nat}
def NaL:List Nat:=[12,79,80,81,82,83,84,85,86]
def NpL:List Nat:=[8,52,53,54,55,56,57,58,59,60]
end
section
variable{e aF:Nat}{c a:Nat->Nat}{B:SV}{b:List XR}{N f:Nat}
def NlL:List Nat:=[10,12,64,65,66,67,68,69,70,71,72,73,74,75,76,77,78,79,80,81,82,83,84,85,86,87,88,89,90,91,92,93,94]
end
section
variable{e aF:Nat}{c a:Nat->Nat}{B:SV}{b:List XR}{N f:Nat}
def WaL:List Nat:=[21,22,164,165,166,167,168,169,170,171,172,173,174,175,176]
def WrL:List Nat:=[17,18,129,130,131,132,133,134,135,136,137,138,139,140,141]
end
section
variable{e aF:Nat}{c a:Nat->Nat}{B:SV}{b:List XR}{N f:Nat}
def WpL:List Nat:=[15,16,17,18,112,113,114,115,116,117,118,119,120,121,122,123,124,125,126,127,128,129,130,131,132,133,134,135,136,137,138,139,140,141,142]
end
set_option maxRecDepth 100000
section
variable{e aF:Nat}{c a:Nat->Nat}{B:SV}{b:List XR}{N f:Nat}
def WlD:List Nat:=[151,152,153,154,155,156,157,158,159,160]
def VK:List Nat:=[19,20,21,22,146,147,148,149,150,151,152,153,154,155,156,157,158,159,160,161,162,163,164,165,166,167,168,169,170,171,172,173,174,175,176,177,178,179,180,181,182,183,184,185,186,187,188,189,190]
end
set_option maxRecDepth 100000
section
variable{e aF:Nat}{c a:Nat->Nat}{B:SV}{b:List XR}{N f:Nat}
def WbD:List Nat:=[191,192,193,194,195,196,197,198,199,200,201]
end
def Y1(d:List GB):Prop:=cz d<=1000/\∀b∈d,cz b.bz<=1000000/\cz b.list<=1000000
def gS(c:List aa)(g:GG):Prop:=∃I:SV,c=[gX g.name,fc ft g.size,I.v]
def ad.imp{s:Type}{R m:List aa->s->Prop}{sz:Nat}{xs:List s}(s:ad R sz h v xs)(G:∀c x,R c x->m c x):ad m sz h v xs:=by obtain⟨a,m,rfl,s⟩:=s;refine⟨a,m,Q,?_⟩;rcases s with s|⟨b,i,D,F,o,a,rfl,m,k⟩;exact jZ s;exact kd ⟨b,i,D,F,o,a,Q,m,λi x D=>⟨(k i x D).1,G _ _ (k i x D).2⟩⟩
def amB{h a:az}(s:ad (gR h) 3 a v gs):ad gS 3 a v gs:=ad.imp s λ_ _ ⟨I,e,_⟩=>⟨I,e⟩
def ja(gs:List GG):Int:=(gs.map (·.size)).sum
def Y0(gs:List GG):Prop:=cz gs<=10/\∀g∈gs,1<=g.size/\g.size<=200
def Km{j:Nat}{g:GG}(h:gs[j]?=Z g):ja (gs.take (j+1))=ja (gs.take j)+g.size:=by unfold ja;rw[kh,h];simp
def JB(a:∀g∈gs,1<=g.size/\g.size<=200):0<=ja gs/\ja gs<=200*cz gs:=by
 induction gs with
 |nil=>simp[ja]
 |cons g gs k=>
  have b:=k (λx m=>a x (au m));have D:=a g J;unfold ja at b⊢;simp only[xg,O2,eN];omega
def az8(h:az)(G:SV)(gs:List GG)(m:Nat)(e:Env)(a:az):Prop:=
 ∃j:Nat,m=cz gs-j/\j<=cz gs/\bC e 3 (ja (gs.take j))/\bY e 7=G.v/\bC e 8 (cz gs)/\bC e 9 j/\ay aR h a
def RG(gs:List GG)(h:az)(v:aa)(a:az):Prop:=ay aR h a/\v=fc ft (ja gs)
def Ws(e:cu h){G F:SV}(l:ad gS 3 h G.v gs)(C:Y0 gs):aY FF 30 [ix ⟨[G.v,F.v]⟩] h (RG gs h):=by
 have b:=ad.len l;obtain⟨i,i⟩:=C;refine aY.of R0 ?_;unfold G9;simp[b];refine aK.cut (λD=>ay aR h D) ((ay.refl e).new _ _) ?_;intro D V;refine aK.loop (az8 D G gs) ?_ (n:=cz gs) ⟨0,Q,ab,by simp[ja],au b,J,J,.refl V.ok⟩;rintro m D D⟨j,rfl,G,G,H,d,f,c⟩;unfold C4;by_cases O:j<cz gs
 .have a:gs[j]?=Z gs[j]:=jh O;have k:=Ik O;generalize gs[j]=g at a k;obtain⟨C,C⟩:=i g k;obtain⟨k,k,k,k,_,_,⟨I,rfl⟩,C,C⟩:=ad.later e l a;have e:=C D (V.trans c) 0 3 ag;simp[-ax] at e;simp at H;rw[k,b] at H;have l:=JB (gs:=gs.take j) (λg a=>i g (ET a));have i:cz (gs.take j)<=10:=by simp;omega
  have l:=ch ((j:Int)+1) ab ab;have i:=ch (ja (gs.take j)+g.size) ab ab;have C:=Km a;have a:ay aR D (put (aJ D [gX ⟨⟨[]⟩⟩,fc ft 0,dB K 0 0] 0) D.aw 0 [gX ⟨⟨[]⟩⟩,fc ft 0,dB K 0 0] [gX g.name,fc ft g.size,dB I.a I.l I.c] 0):=(ay.refl c.ok).var _ _;simp[G,H,d,f,O,e,l,i,-ax,aH];refine⟨cz gs-(j+1),ab,j+1,Q,O,au C,by simp[H,k,b],au d,J,c.trans a⟩
 .have:j=cz gs:=ab
  subst this;rw[mO] at G;simp[G,d,f];exact⟨V.trans c,Q⟩
def az9(h:az)(U:Nat)(k:List aa)(gs:List GG)(m:Nat)(e:Env)(a:az):Prop:=
 ∃j:Nat,m=cz gs-j/\j<=cz gs/\bU e 1 U/\bC e 3 (ja (gs.take j))/\bC e 4 j/\a=h
def Xm(V:cu h){G F:SV}(c:ad gS 3 h G.v gs)(C:Y0 gs):aY FF 16 [ix ⟨[G.v,F.v]⟩] h (RG gs h):=by
 have O:=ad.len c;obtain⟨d,d⟩:=C;refine aY.of Ed ?_;unfold vb;simp[O];refine aK.cut (λj=>ay aR h j/\di j h.aw [dB G.a (cz gs) G.c,dB F.a F.l F.c]) ⟨(ay.refl V).new _ _,0,au O⟩ ?_;rintro j⟨e,G,k⟩;refine aK.loop (az9 j h.aw [] gs) ?_ (n:=cz gs) ⟨0,Q,ab,J,by simp[ja],J,Q⟩;rintro m j f⟨j,rfl,G,H,G,b,rfl⟩;unfold rJ;by_cases D:j<cz gs
 .have a:gs[j]?=Z gs[j]:=jh D;have O:=Ik D;generalize gs[j]=g at a O;obtain⟨C,C⟩:=d g O;obtain⟨O,O,O,C,_,_,⟨I,rfl⟩,O,O⟩:=ad.later V c a;have c:=O f e 1 1 ag;simp[-ax] at c;rw[C] at k;have f:=JB (gs:=gs.take j) (λg a=>d g (ET a));have d:cz (gs.take j)<=10:=by simp;omega
  have f:=ch ((j:Int)+1) ab ab;have d:=ch (ja (gs.take j)+g.size) ab ab;have g:=Km a;simp[H,G,b,k,aB k,D,c,f,d,-ax];exact⟨cz gs-(j+1),ab,j+1,Q,D,au H,au g,J,Q⟩
 .have:j=cz gs:=ab
  subst this;rw[mO] at G;simp[H,G,b,k];exact⟨e,Q⟩
def Xj(h:az)(c:cu h)(k a I F O H:Int)(m G:Bool)(V:Option Addr)(b D:Nat):aY FF 43 [fc ft k,ix ⟨aM a I m F G O H (dB V b D)⟩] h (λv g=>v=dC (gE k a m F G O)/\ay aR h g):=by
 refine aY.of Ec ?_;unfold va;have g:ay aR h (aJ h (aM a I m F G O H (dB V b D)) 0):=aO c _ _;simp only[aM] at g;by_cases I:a=5
 subst I;cases G;simp[aM,gE];exact⟨by rfl,g⟩;simp[aM,gE];exact g;by_cases H:a=6;subst H;cases G;simp[aM,gE];exact⟨by rfl,g⟩;simp[aM,gE];exact g;have G:(a==5)=cd:=aj I
 have O:(a==6)=cd:=aj H
 by_cases b:a=18;subst b;cases m;by_cases m:0<=F;by_cases D:F<k;simp[aM,gE,m,D];exact⟨ab,g⟩;simp[aM,gE,m,D];exact⟨ab,g⟩;simp[aM,gE,m];exact g;simp[aM,gE];exact g;have k:(a==18)=cd:=aj b
 by_cases m:1<=a;by_cases D:a<=17;simp[aM,gE,G,O,k,I,H,b,m,D];exact g;simp[aM,gE,G,O,k,I,H,b,m,D];exact g;simp[aM,gE,G,O,k,I,H,b,m];exact g
section
variable{f:GF}{a:List XR}
def ans(F:iv f){i:Nat}{l:List Int}(h:(Edge.df (cw f.blocks))[i]?=Z l):cz l<=80:=by
 have c:=Edge.Ai (n:=cz (cw f.blocks)) (tos:=cw f.blocks) (λm k=>by obtain⟨b,d,rfl⟩:=kC.1 k;rcases(F.body.ends b d).kind with⟨_,e⟩|⟨_,t,e⟩|⟨_,t,u,e,_⟩<;>rw[e]<;>simp) i (cz (cw f.blocks));have a:((Edge.upto (cz (cw f.blocks)) (cw f.blocks) (cz (cw f.blocks)))[i]?).getD []=l:=by show((Edge.df (cw f.blocks))[i]?).getD []=l;rw[h];rfl
 rw[a] at c;have D:cz (cw f.blocks)=cz f.blocks:=by simp[cw]
 have:=F.head.blocks;omega
def ahG(F:iv f):∀b∈f.blocks,InB f.aF.toNat b:=by
 intro b c;have⟨i,G⟩:=iG c;have B:=F.body.LQ i b G;have s:=F.sm b c;have E:=F.head.aF;have E:=F.head.params;have E:=F.body.ends b c;refine⟨by have:=s.ph;have:=jF c;have:=F.head.many;omega,by have:=jF c;have:=F.head.many;omega,?_,λp m=>?_,λx H=>?_,λh=>?_⟩
 rcases E.kind with⟨_,h⟩|⟨_,t,h⟩|⟨_,t,u,h,_⟩<;>rw[h]<;>simp;have⟨_,l,D,k⟩:=B.bz p m;have:=k.dst;unfold BV at this;have:=k.len;have:=ans F D;exact⟨ab,ab,λv a=>IB (k.row v a)⟩
 .have I:=B.list x H;have:=(vU I).2;refine⟨?_,IB I.a,IB I.b,ab,λv a=>IB (We I v a)⟩;rcases ab6 I with h|h
  omega;unfold BV at h;omega
 have:=E.on h;omega
end
structure XG where
 name:ByteArray
 size:Int
 I:SV
def FW:e7 XG:=⟨λx=>[gX x.name,fc ft x.size,x.I.v],3,λ_=>rfl,ag,λ_=>rfl⟩
@[simp] def awZ:FW.sz=3:=rfl
@[simp] def ata(x:XG):FW.enc x=[gX x.name,fc ft x.size,x.I.v]:=rfl
structure XF where
 name:ByteArray
 params:Int
 aF:Int
 B:SV
def x7:e7 XF:=⟨λx=>aC x.name x.params x.aF x.B,4,λ_=>rfl,ag,λ_=>rfl⟩
@[simp] def aw4:x7.sz=4:=rfl
@[simp] def ati(x:XF):x7.enc x=[gX x.name,fc ft x.params,fc ft x.aF,x.B.v]:=rfl
def aml(h:az)(y:XG)(g:GG):Prop:=y.name=g.name/\y.size=g.size/\ad nR 1 h y.I.v g.init
def atv(s:ad (gR h) 3 h v gs):∃a:List XG,cz a=cz gs/\bp FW h v a/\∀(i:Nat)(y:XG)(g:GG),a[i]?=Z y->gs[i]?=Z g->aml h y g:=
 ad.pick (E:=FW) (Q1:=aml h) s (λc x ⟨I,e,a⟩=>⟨⟨x.name,x.size,I⟩,e,Q,Q,a⟩)
def Zl(h:az)(y:XF)(f:GF):Prop:=y.name=f.name/\y.params=f.params/\y.aF=f.aF/\qP h y.B f.blocks
def atr{a:List GF}(s:ad (fR h) 4 h v a):∃x:List XF,cz x=cz a/\bp x7 h v x/\∀(i:Nat)(y:XF)(f:GF),x[i]?=Z y->a[i]?=Z f->Zl h y f:=
 ad.pick (E:=x7) (Q1:=Zl h) s (λc x ⟨B,e,a⟩=>⟨⟨x.name,x.params,x.aF,B⟩,e,Q,Q,Q,a⟩)
def UR(a:List XG)(gs:List GG):Prop:=cz a=cz gs/\∀(i:Nat)(y:XG)(g:GG),a[i]?=Z y->gs[i]?=Z g->y.name=g.name/\y.size=g.size
def aV:List Int->Int->Int
 |[],_=> -1
 |x::xs,t=>if x=t then 0 else if aV xs t<0 then-1 else aV xs t+1
def v7:∀ {xs:List Int} {t:Int},t∉xs->aV xs t= -1
 |[],_,_=>rfl
 |x::xs,t,h=>by simp only[bn,not_or] at h;unfold aV;rw[bM (λe=>h.1 e.symm),v7 h.2];rfl
def Aq:∀ {xs:List Int} {t:Int} {j:Nat},xs[j]?=Z t->(∀i,i<j->xs[i]? ≠Z t)->aV xs t=j
 |[],_,_,h,_=>by simp at h
 |x::xs,t,0,h,_=>by simp at h;subst h;simp[aV]
 |x::xs,t,j+1,h,a=>by have j:=a 0 ab;simp at h j;have:=Aq (xs:=xs) (t:=t) h (λi k=>by have:=a (i+1) ab;simpa using this);unfold aV;rw[bM j,this,bM ab];omega
def ash(h:az)(W:SV)(t:Int)(xs:List Int)(m:Nat)(e:Env)(a:az):Prop:=
 ∃j:Nat,m=cz xs-j/\j<=cz xs/\bY e 0=W.v/\bC e 1 t/\bC e 5 j/\(∀i,i<j->xs[i]? ≠Z t)/\a=h
def ML(p:bp encI h W.v xs)(b:cz xs<1000000)(t:Int):aY FF 104 [W.v,fc ft t] h (λv i=>i=h/\v=dC (decide (t∈xs))):=by
 have D:W.l=cz xs:=by have⟨a,L,e,_⟩:=p;simp at e;exact e.2.1
 refine aY.of Hg ?_;unfold yy;simp[D];refine aK.loop (ash h W t xs) ?_ (n:=cz xs) ⟨0,Q,ab,au D,J,J,λi G=>ab,Q⟩;rintro m e g⟨j,rfl,g,k,I,C,d,rfl⟩;unfold vv;by_cases z:j<cz xs
 .have S:=ch ((j:Int)+1) ab ab;have⟨x,O⟩:=aQ xs j z;obtain⟨y,c,B,V,_,_,B⟩:=p.read O;have H:=B 0 1 ag;simp[-ax] at H V;simp at k;rw[V.1,D] at k;by_cases b:x=t
  subst b;have F:=cO O;simp[k,I,C,z,H,F,-ax]
  .have T:(x==t)=cd:=by simp[b]
   simp[k,I,C,z,H,T,S,-ax];refine⟨cz xs-(j+1),ab,j+1,Q,ab,by simp[k,V.1,D],au I,J,λi G=>?_,Q⟩;by_cases X:i=j;subst X;rw[O];simp[b];exact d i ab
 .have:j=cz xs:=ab
  subst this;have F:t∉xs:=λF=>by have⟨i,G⟩:=iG F;exact d i (cY.mp G).1 G
  simp at k;rw[D] at k;simp[k,C,F]
def xB(d:bp encI h W.v xs)(b:cz xs<1000000)(t:Int):aY FF 92 [W.v,fc ft t] h (λv p=>p=h/\v=fc ft (aV xs t)):=by
 have D:W.l=cz xs:=by have⟨a,L,e,_⟩:=d;simp at e;exact e.2.1
 refine aY.of Eb ?_;unfold u9;simp[D];refine aK.loop (ash h W t xs) ?_ (n:=cz xs) ⟨0,Q,ab,au D,J,J,λi F=>ab,Q⟩;rintro m e g⟨j,rfl,g,k,H,z,O,rfl⟩;unfold rI;by_cases I:j<cz xs
 .have S:=ch ((j:Int)+1) ab ab;have⟨x,C⟩:=aQ xs j I;obtain⟨y,c,B,p,_,_,B⟩:=d.read C;have G:=B 0 1 ag;simp[-ax] at G p;simp at k;rw[p.1,D] at k;by_cases V:x=t
  subst V;simp[k,H,z,I,G,-ax];exact(Aq C O).symm
  .have T:(x==t)=cd:=by simp[V]
   simp[k,H,z,I,G,T,S,-ax];refine⟨cz xs-(j+1),ab,j+1,Q,ab,by simp[k,p.1,D],au H,J,λi F=>?_,Q⟩;by_cases X:i=j;subst X;rw[C];simp[V];exact O i ab
 .have:j=cz xs:=ab
  subst this;have b:t∉xs:=λb=>by have⟨i,F⟩:=iG b;exact O i (cY.mp F).1 F
  simp at k;rw[D] at k;simp[k,z];exact(v7 b).symm
def jX(d:List GB)(j:Nat)(b:Int):List Int:=((aU j).filter λi=>decide (∃x,d[i]?=Z x/\b∈x.to)).map λi:Nat=>(i:Int)
def aN(d:List GB)(b:Int):List Int:=jX d (cz d) b
def azm(c:az)(S:Nat)(B:SV)(d:List GB)(b:Int)(m:Nat)(e:Env)(a:az):Prop:=
 ∃(j:Nat) (W:SV),m=cz d-j/\j<=cz d/\bC e 1 b/\bU e 2 S/\bY e 5=W.v/\bC e 6 j/\ay aR c a/\bm encI c.aw a W.v (jX d j b)
def B9(d:List GB)(j:Nat)(b:Int):cz (jX d j b)<=j:=by unfold jX;rw[AZ];exact qN (IW _ _) J
def C6(f:cu h){name:ByteArray}{p r:Int}(O:qP h B d)(q:cz d<100000)(q:∀x∈d,cz x.to<1000000)(b:Int):aY FF 63 [ix ⟨aC name p r B⟩,fc ft b] h (λv a=>ay aR h a/\∃L:SV,v=L.v/\bm encI h.aw a L.v (aN d b)):=by
 have m:=ad.len O;refine aY.of D3 ?_;unfold uW;simp[aC];refine aK.cut (λj=>ay aR h j/\di j h.aw (aC name p r B)) ⟨(ay.refl f).new _ _,0,by simp[aC]⟩ ?_;rintro j⟨F,H,H⟩;refine aK.loop (azm j h.aw B d b) ?_ (n:=cz d) ⟨0,cM,Q,ab,J,J,by simp[cM],J,.refl F.ok,jZ ⟨Q,Q⟩⟩;rintro j o a⟨j,W,rfl,l,l,e,i,G,g,c⟩;have n:=g.ok;have D:=g.get F.ok H;simp[aC] at D;rw[m] at D;unfold rF;by_cases H:j<cz d
 .have m:=ch ((j:Int)+1) ab ab;have⟨x,I⟩:=aQ d j H;obtain⟨k,k,k,k,_,_,⟨P,L,T,rfl,L,L,s⟩,_,t⟩:=ad.later f O I;have L:=F.trans g;have O:=t a L 5 1 ag;simp[-ax] at O;rw[k] at D;have t:=(WD s).cm f L;have f:jX d (j+1) b=jX d j b++(if b∈x.to then [(j:Int)] else []):=by unfold jX;rw[List.range_succ,List.filter_append,aL];congr 1;by_cases k:b∈x.to;simp[I,k];simp[I,k]
  simp[l,e,G,D,aB D,H,O,-ax];refine bh.call (V:=λv O=>O=a/\v=dC (decide (b∈x.to))) (aj (ML t (q x (cO I)) b)) ?_;rintro _ O⟨O,rfl⟩;rw[O];by_cases k:b∈x.to;rw[bK k] at f;simp[k,i,G];have O:=aO n [fc ft j] 0;have x:=c.grow n O ai;have n:bp encI (aJ a [fc ft j] 0) (dB (Z ⟨a.aw,0,K⟩) 1 1) [(j:Int)]:=dq (E:=encI) (x:=(j:Int)) (bX _ _ _);have I:=B9 d j b;have b:=g.aw;have b:(aJ a [fc ft j] 0).aw=a.aw+1:=Q;obtain⟨a,a,b,a,I,_⟩:=fg (bytes:=8) O.ok (z:=[fc ft 0]) rfl x n ab ag ab;obtain⟨n,rfl⟩:=bm.E5 a;refine dh (aj b) ?_;simp[G,m];refine⟨cz d-(j+1),ab,j+1,n,Q,H,au l,au e,J,J,(g.trans O).trans' I ai (λy y o=>av (c.of o)),by rw[f];exact a⟩
  rw[bM k,Bx] at f;simp[k,G,m];exact⟨cz d-(j+1),ab,j+1,W,Q,H,au l,au e,au i,J,g,by rw[f];exact c⟩
 .have:j=cz d:=ab
  subst this;simp[e,i,G,D];exact⟨F.trans g,W,J,bm.low (E:=encI) c F.aw⟩
def iw(d:List GB)(b:Int)(row:List (Bool×Int)):List (Int×(Bool×Int)):=(aN d b).zip row
def EdI(c:az)(X:Nat)(W:SV)(a:List Int)(row:List (Bool×Int))(m:Nat)(e:Env)(b:az):Prop:=
 ∃(j:Nat) (L:SV),m=cz a-j/\j<=cz a/\bU e 5 X/\bY e 7=W.v/\bY e 8=L.v/\bC e 9 j/\ay aR c b/\bm iF c.aw b L.v ((a.zip row).take j)
def FV(c:cu h){name:ByteArray}{p r dst:Int}{B A:SV}{row:List (Bool×Int)}(o:qP h B d)(q:ad vR 2 h A.v row)(j:cz d<100000)(m:∀x∈d,cz x.to<1000000)(b:Int)(a:cz (aN d b)<=cz row):aY FF 91 [ix ⟨aC name p r B⟩,fc ft b,ix ⟨[fc ft dst,A.v]⟩] h (λv a=>ay aR h a/\∃L:SV,v=L.v/\bm iF h.aw a L.v (iw d b row)):=by
 have l:=ad.len q;have G:¬h.aw=h.aw+1:=ab
 refine aY.of D7 ?_;unfold uY;simp[aC,G];refine bh.cut (λG=>ay aR h G/\di G (h.aw+1) [fc ft dst,A.v]) ⟨((ay.refl c).new _ _).new _ _,0,J⟩ ?_;rintro G⟨e,A,A⟩;refine bh.call (V:=λv a=>ay aR G a/\∃L:SV,v=L.v/\bm encI G.aw a L.v (aN d b)) (by simpa [aC] using C6 e.ok (name:=name) (p:=p) (r:=r) (o.mono c e) j m b) ?_;rintro _ j⟨G,W,rfl,o⟩;have m:=e.trans G;have s:=o.sl;have z:=G.get e.ok A;have o:W.l=cz (aN d b):=by obtain⟨e,e,e,_⟩:=id s;simp at e;exact e.2.1
 have A:=B9 d (cz d) b;change (cz (aN d b))<=cz d at A;simp;refine aK.loop (EdI j (h.aw+1) W (aN d b) row) ?_ (n:=cz (aN d b)) ⟨0,cM,Q,ab,J,J,by simp[cM],J,.refl G.ok,jZ ⟨Q,Q⟩⟩;rintro j e a⟨j,L,rfl,A,t,D,w,A,g,k⟩;have I:=g.ok;have i:=m.trans g;have F:=g.get G.ok z;simp at F;rw[l] at F;unfold rG;by_cases l:j<cz (aN d b)
 .have z:=ch ((j:Int)+1) ab ab;have⟨x,n⟩:=aQ (aN d b) j l;have⟨v,u⟩:=aQ row j;obtain⟨f,f,f,f,_,⟨C,C,C,C,C⟩,H⟩:=(s.cm G.ok g).read n;obtain⟨s,s,s,s,_,_,rfl,G,O⟩:=ad.later c q u;have c:=H 0 1 ag;have q:=O a i 0 2 ag;simp[-ax] at c q f;simp at D;rw[f.1] at D;rw[s] at F;have y:j<cz row:=ab
  have H:=I.cg F;have O:=I.cg C;have s:=i.cg G;simp[t,D,w,A,o,l,c,q,F,aB F,y,H,O,s,aI,-ax];have F:=bk I;have s:(tick a).aw=a.aw:=Q;have c:=k.grow I F ai;rw[<-s];generalize tick a=h3 at*;have a:=aO F.ok (iF.enc (x,v)) 0;have y:=c.grow F.ok a ai;have s:bp iF (aJ h3 (iF.enc (x,v)) 0) (dB (Z ⟨h3.aw,0,K⟩) 1 1) [(x,v)]:=dq (bX _ _ _);have c:=g.aw;have c:(aJ h3 (iF.enc (x,v)) 0).aw=h3.aw+1:=Q;have c:cz (((aN d b).zip row).take j)<=j:=by rw[gv];omega
  obtain⟨c,c,c,I,q,_⟩:=fg (bytes:=24) a.ok (z:=[fc ft 0,dC cd,fc ft 0]) rfl y s ab ag ab;obtain⟨s,rfl⟩:=bm.E5 I;refine mn (aj c) ?_;simp[A,z];refine⟨cz (aN d b)-(j+1),ab,j+1,s,Q,l,au t,by simp[D,f],J,J,((g.trans F).trans a).trans' q ai (λy q e=>av (k.of e)),?_⟩;have e:((aN d b).zip row)[j]?=Z (x,v):=by rw[List.getElem?_zip_eq_some];exact⟨n,u⟩
  rw[kh,e];exact I
 .have:j=cz (aN d b):=ab
  subst this;rw[tK (by simp;omega)] at k;simp at D;rw[o] at D;simp[D,w,A];exact⟨i,L,J,bm.low (E:=iF) k m.aw⟩
def fE(l:List (Int×(Bool×Int)))(b:Int):Option (Bool×Int):=(l.find? λx=>x.1==b).map (·.2)
def iP(l:List (Int×(Bool×Int)))(n:Nat):List (Bool×Int):=(aU n).filterMap λb:Nat=>fE l b
def N7(l:List (Int×(Bool×Int)))(n:Nat):iP l (n+1)=iP l n++(fE l n).toList:=by unfold iP;rw[List.range_succ,List.filterMap_append];cases h:fE l n<;>simp[h]
def Jr(l:List (Int×(Bool×Int)))(n:Nat):cz (iP l n)<=n:=by unfold iP;exact qN (List.length_filterMap_le _ _) J
def azF(x:az)(W:SV)(l:List (Int×(Bool×Int)))(L:SV)(k b:Nat)(m:Nat)(e:Env)(i:az):Prop:=
 ∃j:Nat,m=cz l-j/\j<=cz l/\bY e 0=W.v/\bC e 1 k/\bY e 5=L.v/\bC e 6 b/\bC e 7 j/\i=x/\∀i x,i<j->l[i]?=Z x->x.1≠b
def Vx{b:Int}(h:∀(i:Nat)(x:Int×(Bool×Int)),l[i]?=Z x->x.1≠b):fE l b=K:=by unfold fE;rw[List.find?_eq_none.2 (λx k=>by have⟨i,a⟩:=iG k;simpa using h i x a)];rfl
def agI:∀ {l:List (Int×(Bool×Int))} {b:Int} {j:Nat} {x:Int×(Bool×Int)},l[j]?=Z x->x.1=b->(∀i y,i<j->l[i]?=Z y->y.1≠b)->fE l b=Z x.2
 |[],_,_,_,h,_,_=>by simp at h
 |y::l,b,0,x,h,e,_=>by simp at h;subst h;simp[fE,e]
 |y::l,b,j+1,x,h,e,a=>by
  have x:=a 0 y ab rfl;have:=agI (l:=l) (b:=b) (j:=j) (aj h) e (λi z D m=>a (i+1) z ab (aj m));unfold fE at this⊢;have k:(y.1==b)=cd:=aj x
  rw[List.find?_cons,k];exact this
def aeU{D:az}(X:cu D){W L:SV}{i:List (Bool×Int)}{p k b:Nat}(q:bp iF D W.v l)(o:cz l<1000000)(F:p<=D.aw)(O:bm cZ p D L.v i)(o:cz i<1000000){e:Env}{T:bH->Env->az->Prop}(y:bY e 0=W.v)(s:bC e 1 k)(x:bY e 5=L.v)(C:bC e 6 b)(d:bC e 7 0)(n:∀I B (M:SV),bY I 0=W.v->bC I 1 k->bY I 5=M.v->bC I 6 b->ay (bx L.v) D B->bm cZ p B M.v (i++(fE l b).toList)->T (.exit 2) I B):aK FF (.loop ot) e D T:=by
 have E:W.l=cz l:=by have⟨a,o,e,_⟩:=id q;simp at e;exact e.2.1
 refine aK.loop (azF D W l L k b) ?_ (n:=cz l) ⟨0,Q,ab,y,s,x,C,d,Q,λi x T=>ab⟩;rintro m I B⟨j,rfl,s,D,h,A,H,y,rfl,G⟩;unfold ot;by_cases V:j<cz l
 .have f:=ch ((j:Int)+1) ab ab;have⟨x,v⟩:=aQ l j V;obtain⟨s,p,u,C,_,⟨p,w,N,U,c⟩,F⟩:=q.read v;have P:=F 0 1 ag;have w:=F 1 2 ag;simp[-ax] at P w C;simp at D;rw[C.1,E] at D;by_cases t:x.1=b
  .have g:=agI v t G;simp[D,A,H,y,V,P,w,t,-ax];have p:=aO X (cZ.enc x.2) 0;have e:=O.grow X p ai;have F:bp cZ (aJ B (cZ.enc x.2) 0) (dB (Z ⟨B.aw,0,K⟩) 1 1) [x.2]:=dq (bX _ _ _);have r:(aJ B (cZ.enc x.2) 0).aw=B.aw+1:=Q;have⟨o,U,u,m,N,_⟩:=fg (bytes:=16) p.ok (z:=[dC cd,fc ft 0]) rfl e F ab ag ab;obtain⟨M,rfl⟩:=bm.E5 m;refine dh (aj u) ?_;simp
   first
    |(rw[NK _ _ _ _ _ ag];simp;exact n _ _ M (by simp[D,C,E]) (au h) J (au H) (p.cm.trans N) (by rw[g];exact m))
    |exact n _ _ M (by simp[D,C,E]) (au h) J (au H) (p.cm.trans N) (by rw[g];exact m)
  .have m:(x.1==(b:Int))=cd:=aj t
   simp[D,H,y,V,P,m,f,-ax];refine⟨cz l-(j+1),ab,j+1,Q,V,by simp[D,C,E],au h,au A,au H,J,Q,λi e T B=>?_⟩;by_cases r:i=j;subst r;rw[v] at B;cases B;exact t;exact G i e ab B
 .have:j=cz l:=ab
  subst this;have g:=Vx (l:=l) (b:=b) (λi x v=>G i x (cY.mp v).1 v);simp at D;rw[E] at D;simp[D,y];exact n _ _ L (by simp[D,E]) (au h) (au A) (au H) (.refl X) (by rw[g];simpa using O)
def azG(c:az)(W:SV)(l:List (Int×(Bool×Int)))(k:Nat)(m:Nat)(e:Env)(a:az):Prop:=
 ∃(b:Nat) (L:SV),m=k-b/\b<=k/\bY e 0=W.v/\bC e 1 k/\bY e 5=L.v/\bC e 6 b/\ay aR c a/\bm cZ c.aw a L.v (iP l b)
def Jt(I:cu h)(c:bp iF h W.v l)(d:cz l<1000000)(k:Nat)(b:k<100000):aY FF 93 [W.v,fc ft k] h (λv b=>ay aR h b/\∃L:SV,v=L.v/\bm cZ h.aw b L.v (iP l k)):=by
 refine aY.of Hi ?_;unfold yA;simp;refine aK.loop (azG h W l k) ?_ (n:=k) ⟨0,cM,Q,ab,J,J,by simp[cM],J,.refl I,jZ ⟨Q,Q⟩⟩;rintro m e b⟨b,L,rfl,i,i,F,H,D,g,a⟩;have O:=g.ok;unfold vw;by_cases G:b<k
 have V:=ch ((b:Int)+1) ab ab;have f:=Jr l b;simp[F,D,G];refine aeU O (c.cm I g) d g.aw a ab (k:=k) (b:=b) (au i) (au F) (au H) (au D) J ?_;intro i i L2 i I c O f d;simp[O,V];refine⟨k-(b+1),ab,b+1,L2,Q,G,au i,au I,au c,J,g.trans' f ai (λy y e=>av (a.of e)),by rw[N7];exact d⟩
 .have:b=k:=ab
  subst this;simp[F,H,D];exact⟨g,L,J,a⟩
end Go.Proofs.YtdhnndleffachaaGreatDoor
namespace Go.Proofs.YtdhnndleffachaaGreatDoor
open Go.AI Go.AI.Dfs
variable{B:SV}{d:List GB}{bytes c:Nat}{h:az}{w:aa}{z:List aa}{f:Type}
def wo{f:Type}(E:e7 f)(c:Nat)(h:az)(v:aa)(b:List f):Prop:=bm E c h v b\/(b=[]/\∃b s,v=dB (Z ⟨b,0,K⟩) 0 0/\h.tr.get b=Z (.bZ [] cd 0 s)/\c<=b)
def vA{E:e7 f}(D:cu h){v w:aa}{d a:List f}(m:cz z=E.sz)(e:wo E c h v d)(G:bp E h w a)(F:cz d+cz a<1000000)(I:bytes<=1000)(i:c<=h.aw):∃k b,js h z bytes cd v w=Z (k,b)/\wo E c b k (d++a)/\(a≠[]->bm E c b k (d++a))/\ay (bx v) h b:=by
 rcases e with e|⟨rfl,g,s,rfl,d,O⟩;have⟨k,b,v,y,H⟩:=yq D m e G F I i;exact⟨k,b,v,jZ y,λ_=>y,H⟩
 .unfold js;rw[HN m G];dsimp only;have H:=E.pos;have y:E.sz≠0:=ab
  rcases a with _|⟨y,a⟩;refine⟨dB (Z ⟨g,0,K⟩) 0 0,h,?_,kd ⟨Q,g,s,Q,d,O⟩,λv=>absurd Q v,.refl D⟩;simp[eI,m,H];have V:roomy (cz a+1)=ck:=by simp[roomy];simp at F;omega
  have O:roomy ((cz a+1)*bytes)=ck:=by have:(cz a+1)*bytes<=1000000*1000:=sn (by simp at F;omega) I;simp[roomy];omega
  have F:bm E c (aJ h (E.flat (y::a)) E.sz) (dB (Z ⟨h.aw,0,K⟩) (cz a+1) (cz a+1)) ([]++y::a):=kd ⟨h.aw,0,J,J,J,i⟩;refine⟨dB (Z ⟨h.aw,0,K⟩) (cz a+1) (cz a+1),aJ h (E.flat (y::a)) E.sz,?_,jZ F,λ_=>F,(aO D _ _).cm⟩;simp[eI,m,H,V,O,d]
def UT{E:e7 f}(a:c<=h.aw):wo E c (aJ h [] 0) (dB (Z ⟨h.aw,0,K⟩) 0 0) []:=kd ⟨Q,h.aw,0,Q,bX _ _ _,a⟩
def PS{E:e7 f}(V:cu h){b:List f}{y:f}(g:cz z=E.sz)(m:bp E h w b)(O:cz b<100000)(O:bytes<=1000):∃k a I D,js (aJ h [] 0) z bytes cd (dB (Z ⟨h.aw,0,K⟩) 0 0) w=Z (k,a)/\ay aR h a/\js (aJ a (E.enc y) 0) z bytes cd k (dB (Z ⟨a.aw,0,K⟩) 1 1)=Z (I,D)/\ay aR h D/\bm E h.aw D I (b++[y]):=by
 have H:=aO V [] 0;obtain⟨k,a,i,s,_,x⟩:=vA (bytes:=bytes) H.ok g (UT (fq _)) (m.cm V H) (by simp;omega) O H.aw;have m:ay aR h a:=H.trans' x ai (λx V e=>by obtain⟨_,_,_,e⟩:=e;cases e;omega);have G:=aO m.ok (E.enc y) 0;have d:wo E h.aw (aJ a (E.enc y) 0) k ([]++b):=by rcases s with H|⟨e,b,s,F,E,c⟩;exact jZ (H.grow m.ok G ai);exact kd ⟨e,b,s,F,G.get m.ok E,c⟩
 have j:∀b,bx k b->h.aw<=b:=λb E=>by rcases d with H|⟨_,b,s,F,_,c⟩;exact H.of E;rw[F] at E;obtain⟨_,_,_,e⟩:=E;cases e;exact c
 obtain⟨I,D,F,_,c,E⟩:=vA (bytes:=bytes) G.ok g d (dq (bX _ _ _)) (by simp;omega) O (qN m.aw G.aw);refine⟨k,a,I,D,i,m,F,(m.trans G).trans' E ai (λx V e=>av (j x e)),?_⟩;simpa using c J
def adh{tos:List (List Nat)}{k:Nat}{l:List Nat}{i t:Nat}(h:l[i]?=Z t)(s:DS):foldM tos k (l.take (i+1)) s=(if(foldM tos k (l.take i) s).seen[t]?=Z ck then foldM tos k (l.take i) s else visitM tos k t (foldM tos k (l.take i) s)):=by unfold foldM;rw[kh,h,eE];rfl
def Zp(n:Nat)(a:List Int)(s:DS):Prop:=∀x:Nat,x<n->(s.seen[x]?=Z ck↔(x:Int)∈a)
def RWQ(d:List GB)(h:az)(c:List Int)(s k:DS)(v:aa)(a:az):Prop:=
 ay aR h a/\∃(S L:SV) (b:List Int),v=.tuple #[S.v,L.v]/\bp encI a S.v b/\bp encI a L.v (nI k.left)/\Zp (cz d) b k/\cz b+dj k<=cz c+dj s
def azo(e:az)(c:ByteArray)(p r:Int)(B:SV)(d:List GB)(k:Nat):Prop:=
 ∀(b:Nat)(h:az)(S L:SV)(a:List Int)(s:DS),cu h->ay aR e h->bp encI h S.v a->bp encI h L.v (nI s.left)->Zp (cz d) a s->cz a+dj s<=cz d->cz s.left+dj s<=cz d->cz s.seen=cz d->b<cz d->¬s.seen[b]?=Z ck->dj s<=k->aY FF 94 [ix ⟨aC c p r B⟩,fc ft b,S.v,L.v] h (RWQ d h a s (visitM (ir d) k b s))
def RWI(h:az)(F:Nat)(T:SV)(g k:Nat)(d:List GB)(a:List Nat)(D:List Int)(b:DS)(m:Nat)(e:Env)(c:az):Prop:=
 ∃(i:Nat) (S L:SV) (f:List Int),m=cz a-i/\i<=cz a/\bC e 1 g/\bY e 2=S.v/\bY e 3=L.v/\bU e 4 F/\bY e 10=T.v/\bC e 11 ((cz a:Int)-1-i)/\ay aR h c/\bp encI c S.v f/\bp encI c L.v (nI (foldM (ir d) k (a.take i) b).left)/\Zp (cz d) f (foldM (ir d) k (a.take i) b)/\cz f+dj (foldM (ir d) k (a.take i) b)<=cz D+dj b
def aaY{h0:az}(dv:cu h0){u:ByteArray}{p r:Int}(hB:qP h0 B d)(E:kE d):∀k,azo h0 u p r B d k:=by
 have ht:=yY E;have hl:=E.len;intro k;induction k with
 |zero=>
  intro b h S' L' sl s y g sS sL W' c1 c2 hn v hs hk;exfalso;have:=pH (s:=s) (b:=b) ab hs;omega
 |succ k IH=>
  intro b h S' L' sl s y g0 sS sL W' c1 c2 hn v hs hk;have hf:=pH (s:=s) (b:=b) ab hs;have eo:=ad.len hB;have⟨x,V⟩:=aQ d b v;have MX:=cO V;obtain⟨bb,off,c,fD,_,_,⟨P',LL,T',rfl,sP,sLL,sT⟩,_,dg⟩:=ad.later dv hB V;have pO:row (ir d) b=x.to.map qA:=by unfold row ir;rw[gM,V];rfl
  have⟨a,C⟩:∃a,a=(row (ir d) b).reverse:=⟨_,Q⟩;have qW:cz a=cz x.to:=by rw[C,pO];simp
  have avr:∀t∈a,t<cz d:=λt h=>ht b t (by rw[C] at h;exact List.mem_reverse.1 h);have h2:=E.two x MX;have qg:=ad.len sT;have⟨D,I⟩:∃D,D=(⟨s.seen.set b ck,s.left⟩:DS):=⟨_,Q⟩;have zm:dj D+1=dj s:=by rw[I];exact hf
  have hn1:cz D.seen=cz d:=by rw[I];simpa using hn
  have U:D.left=s.left:=by rw[I]
  have vis:visitM (ir d) (k+1) b s=⟨(foldM (ir d) k a D).seen,(foldM (ir d) k a D).left++[b]⟩:=by rw[iE,C,I]
  rw[vis];refine aY.of Fz ?_;unfold wN;have P:=aO y (aC u p r B) 0;have n1:(aJ h (aC u p r B) 0).aw=h.aw+1:=Q;have vH:(aJ h (aC u p r B) 0).tr.get h.aw=Z (.bZ (aC u p r B) cd 0 0):=bX _ _ _;have⟨v1,yK,v2,h3,e1,gA,e2,w,aS⟩:=PS (bytes:=8) (y:=(b:Int)) P.ok (z:=[fc ft 0]) rfl (sS.cm y P) ab ag;rw[n1] at e1;obtain⟨S1,rfl⟩:=bm.E5 aS;have ux:=w.get P.ok vH;have g13:=P.trans w;have eS:=g0.trans g13;have S:=ux;simp[aC] at S;rw[fD,eo] at S;have rT:=dg h3 eS 5 1 ag;simp[-ax] at rT;have wl:ec.wrap ((T'.l:Int)-1)=(cz a:Int)-1-(0:Nat):=by rw[ch _ ab ab];omega
  have sL3:=sL.cm y g13;simp[aC];refine dh (by simpa [aC] using e1) ?_;simp;refine dh (aj e2) ?_;simp[S,aB S,v,rT,wl,-ax];have SL1:Zp (cz d) (sl++[(b:Int)]) D:=λM hy=>by rw[I];dsimp only;rw[fO,kg,bl];by_cases z:b=M;subst z;simp[hn,v];rw[bM z,W' M hy];constructor;exactλh=>jZ h;rintro(h|h);exact h;omega
  refine aK.loop (RWI h3 h.aw T' b k d a (sl++[(b:Int)]) D) ?_ (n:=cz a) ⟨0,S1,L',_,Q,ab,J,J,J,J,J,J,.refl w.ok,aS.sl,by rw[lH,zX,U];exact sL3,by rw[lH,zX];exact SL1,by rw[lH,zX];exact fq _⟩;rintro m' e' o⟨i,X,L2,F,rfl,hi,f1,m,f3,W,H,G,g,N,O,l,c3⟩;have f:=g.ok;have gg:=eS.trans g;have vl:=MB (JA (ir d) k) (a.take i) D;have vc:=xe (zc ht k) (a.take i) D hn1 (λt h=>avr t (ET h));have vf:=yI (Br (ir d) k) (a.take i) D;simp at c3;unfold ua;by_cases fI:i<cz a
  .have⟨t,q⟩:=aQ a i fI;have⟨j,hj⟩:∃j:Nat,j+1+i=cz a:=⟨cz a-1-i,ab⟩;have ej:(cz a:Int)-1-i=(j:Nat):=ab
   rw[ej] at G;have hjx:j<cz x.to:=ab
   have⟨u',hu⟩:=aQ x.to j hjx;have htu:t=u'.toNat:=by rw[C,pO,y8 (by rw[AZ];omega),gM] at q;rw[AZ,show cz x.to-1-i=j by omega,hu] at q;simpa using q.symm
   have hu0:=(E.to x MX u' (cO hu)).1;have T:t<cz d:=avr t (cO q);have etu:u'=(t:Int):=ab
   obtain⟨bT,aeh,cT,BO,_,_,rfl,oT,Ge⟩:=ad.later dv sT hu;have ZH:=Ge o gg 0 1 ag;simp[-ax] at ZH H;rw[BO,qg] at H;have OJ:(0:Int)<=(j:Nat):=ab
   have wj:ec.wrap ((j:Int)-1)=(cz a:Int)-1-(i+1:Nat):=by rw[ch _ ab ab];omega
   have e:=adh (tos:=ir d) (k:=k) q D;subst etu;simp[m,H,G,hjx,ZH,-ax];refine bh.call (V:=λv' h2=>h2=o/\v'=dC (decide ((t:Int)∈F))) (by simpa [m] using ML N ab (t:Int)) ?_;rintro _ h2⟨eh,rfl⟩;rw[eh];by_cases A:(t:Int)∈F;have L:=(l t T).2 A;rw[bK L] at e;simp[A,G,wj];exact⟨cz a-(i+1),ab,i+1,X,L2,F,Q,fI,au f1,au m,au f3,au W,by simp[H,BO,qg],J,g,N,by rw[e];exact O,by rw[e];exact l,by rw[e];simpa using c3⟩;have L:¬(foldM (ir d) k (a.take i) D).seen[t]?=Z ck:=λz=>A ((l t T).1 z);rw[bM L] at e;have HA:=g.get w.ok ux;have aon:=HA;simp[aC] at aon;have oF:=f.cg HA;have oT':=gg.cg oT;simp[A,m,f3,W,H,G,hjx,ZH,aon,aB aon,oF,oT',aI,-ax];have n:=bk f;refine bS.call (V:=RWQ d (tick o) F (foldM (ir d) k (a.take i) D) (visitM (ir d) k t (foldM (ir d) k (a.take i) D))) (by simpa [aC,fD,eo] using IH t (tick o) X L2 F _ n.ok (gg.trans n) (N.cm f n) (O.cm f n) l ab (by rw[U] at vc;omega) (by rw[vl];exact hn1) T L ab) ?_;rintro _ h4⟨g4,S4,L4,sl4,rfl,sS4,sL4,W4,c4⟩;simp[G,wj];exact⟨cz a-(i+1),ab,i+1,S4,L4,sl4,Q,fI,au f1,J,J,au W,by simp[H,BO,qg],J,(g.trans n).trans g4,sS4,by rw[e];exact sL4,by rw[e];exact W4,by rw[e];simp;omega⟩
  .have:i=cz a:=ab
   subst this;rw[mO] at O l c3 vc vf vl;have q:¬(cz a:Int)<=(cz a:Int)-1:=ab
   simp[m,f3,G,q];have T:bp encI o (dB L2.a L2.l L2.c) (nI (foldM (ir d) k a D).left):=O;have⟨v5,h5,v6,h6,A,gC,n,j,e⟩:=PS (bytes:=8) (y:=(b:Int)) f (z:=[fc ft 0]) rfl T (by simp[nI];rw[U] at vc;omega) ag;obtain⟨L,rfl⟩:=bm.E5 e;refine dh (aj A) ?_;simp[f1];refine dh (aj n) ?_;simp;exact⟨(g13.trans g).trans j,X,L,F,J,N.cm f j,by simpa [nI] using e.sl,λM hy=>l M hy,by show cz F+dj (foldM (ir d) k a D)<=_;omega⟩
def ROI(c:az)(W:SV)(a:List Int)(m:Nat)(e:Env)(b:az):Prop:=
 ∃(i:Nat) (L:SV),m=cz a-i/\i<=cz a/\bY e 4=W.v/\bY e 5=L.v/\bC e 6 ((cz a:Int)-1-i)/\ay aR c b/\bm encI c.aw b L.v (a.reverse.take i)
def Kd(C:cu h){name:ByteArray}{p r:Int}(z:qP h B d)(N:kE d)(H:0<cz d):aY FF 39 [ix ⟨aC name p r B⟩] h (λv T=>ay aR h T/\∃L:SV,v=L.v/\bm encI h.aw T L.v (nI (eH d))):=by
 have o:=N.len;have k:dj ⟨ae (cz d) cd,[]⟩=cz d:=FY _;refine aY.of Ea ?_;unfold u7;simp[aC];have G:=aO C (aC name p r B) 0;refine bh.cut (λD=>ay aR h D) (by simpa [aC] using G) ?_;intro D G;refine bh.call (V:=RWQ d D [] ⟨ae (cz d) cd,[]⟩ (visitM (ir d) (cz d) 0 ⟨ae (cz d) cd,[]⟩)) (by simpa [aC,cM] using aaY C z N (cz d) 0 D cM cM [] ⟨ae (cz d) cd,[]⟩ G.ok G (bp.nil _ _ _) (bp.nil _ _ _) (λx I=>by simp[Qp]) (by rw[k];simp) (by rw[k];simp) J H (by simp[Qp]) (by rw[k];exact fq _)) ?_;rintro _ t⟨C,S,L,a,rfl,_,b,_,_⟩;have S:=G.trans C;have⟨E,O⟩:∃E,E=nI (visitM (ir d) (cz d) 0 ⟨ae (cz d) cd,[]⟩).left:=⟨_,Q⟩;have U:nI (eH d)=E.reverse:=by rw[O];unfold eH Dfs.vu nI;rw[List.map_reverse]
 rw[<-O] at b;have z:cz E<=cz d:=by have:=zc (yY N) (cz d) 0 ⟨ae (cz d) cd,[]⟩ J H (by simp[Qp]);rw[k] at this;rw[O];simp[nI] at this⊢;omega
 have v:L.l=cz E:=by have⟨a,o,e,_⟩:=id b;simp at e;exact e.2.1
 have f:ec.wrap ((cz E:Int)-1)=(cz E:Int)-1-(0:Nat):=by rw[ch _ ab ab];omega
 simp[v,f];refine aK.loop (ROI t L E) ?_ (n:=cz E) ⟨0,cM,Q,ab,au v,by simp[cM],J,.refl C.ok,jZ ⟨J,Q⟩⟩;rintro m e T⟨i,A,rfl,q,l,x,I,g,D⟩;have F:=g.ok;unfold rH;by_cases n:i<cz E
 .have⟨j,s⟩:∃j:Nat,j+1+i=cz E:=⟨cz E-1-i,ab⟩;have N:(cz E:Int)-1-i=(j:Nat):=ab
  rw[N] at I;have H:j<cz E:=ab
  have⟨u,a⟩:=aQ E j H;obtain⟨s,k,N,V,_,⟨y,y,y,P,c⟩,M⟩:=(b.cm C.ok g).read a;have P:=M 0 1 ag;simp[-ax] at P V;simp at l;rw[V.1,v] at l;have N:(0:Int)<=(j:Nat):=ab
  have f:ec.wrap ((j:Int)-1)=(cz E:Int)-1-(i+1:Nat):=by rw[ch _ ab ab];omega
  simp[l,x,I,H,P,-ax];have z:=aO F [fc ft u] 0;have G:=D.grow F z ai;have H:bp encI (aJ T [fc ft u] 0) (dB (Z ⟨T.aw,0,K⟩) 1 1) [u]:=dq (E:=encI) (x:=u) (bX _ _ _);have X:=g.aw;have b:(aJ T [fc ft u] 0).aw=T.aw+1:=Q;have⟨k,C,w,y,b,_⟩:=fg (bytes:=8) z.ok (z:=[fc ft 0]) rfl G H (by rw[gv];omega) ag ab;obtain⟨N,rfl⟩:=bm.E5 y;refine dh (aj w) ?_;simp[I,f];have C:E.reverse[i]?=Z u:=by rw[y8 n,show cz E-1-i=j by omega,a]
  refine⟨cz E-(i+1),ab,i+1,N,Q,n,by simp[l,V,v],J,J,(g.trans z).trans' b ai (λW o e=>av (D.of e)),?_⟩;rw[kh,C];exact y
 .have:i=cz E:=ab
  subst this;have G:¬(cz E:Int)<=(cz E:Int)-1:=ab
  simp[x,I,G];rw[tK J] at D;exact⟨S.trans g,A,J,by rw[U];exact bm.low (E:=encI) D S.aw⟩
end Go.Proofs.YtdhnndleffachaaGreatDoor
namespace Go.Proofs.YtdhnndleffachaaGreatDoor
open Go.AI
variable{B P W:SV}{s:bH->Env->az->Prop}{X j n0 t:Nat}{f:List GB}{r:List aa}{e:Env}{h q d:az}{l o b:List Int}{n:List GP}{i:List (Bool×Int)}{x:GI}
def ee(l:List Int)(r:Int):List Int:=if r∈l then l else l++[r]
def gP(l:List Int)(i:List (Bool×Int)):List Int:=i.foldl (λl v=>if v.1 then ee l v.2 else l) l
def Jh(l:List Int)(r:Int):cz (ee l r)<=cz l+1:=by unfold ee;split<;>simp
def Ww{v:Bool×Int}(h:i[j]?=Z v):gP l (i.take (j+1))=if v.1 then ee (gP l (i.take j)) v.2 else gP l (i.take j):=by unfold gP;rw[kh,h,eE];rfl
def Be:∀(i:List (Bool×Int))(l:List Int),cz (gP l i)<=cz l+cz i
 |[],l=>fq _
 |v::i,l=>by
  have d:gP l (v::i)=gP (if v.1 then ee l v.2 else l) i:=Q;rw[d];have a:=Be i (if v.1 then ee l v.2 else l);have k:cz (if v.1=ck then ee l v.2 else l)<=cz l+1:=by split;exact Jh _ _;omega
  simp only[eN];omega
def Pn(n0:Nat)(W:SV)(b:List Int)(h:az)(v:aa)(c:az):Prop:=ay (bx W.v) h c/\∃L:SV,v=L.v/\bm encI n0 c L.v b/\∀c,bx L.v c->bx W.v c\/h.aw<=c
def Gr(D:cu h)(a:n0<=h.aw)(a:bm encI n0 h W.v b)(v:cz b<100000)(r:Int):aY FF 151 [W.v,fc ft r] h (Pn n0 W (ee b r) h):=by
 refine aY.of FA ?_;unfold wO;simp;refine bh.call (V:=λv k=>k=h/\v=dC (decide (r∈b))) (aj (ML a.sl ab r)) ?_;rintro _ k⟨k,rfl⟩;rw[k];by_cases k:r∈b;simp[k];exact⟨.refl D,W,J,by unfold ee;rw[bK k];exact a,λc F=>jZ F⟩;simp[k];have m:=aO D [fc ft r] 0;have I:=a.grow D m ai;have D:bp encI (aJ h [fc ft r] 0) (dB (Z ⟨h.aw,0,K⟩) 1 1) [r]:=dq (E:=encI) (x:=r) (bX _ _ _);have a:(aJ h [fc ft r] 0).aw=h.aw+1:=Q;obtain⟨a,a,a,G,O,H⟩:=fg (bytes:=8) m.ok (z:=[fc ft 0]) rfl I D ab ag ab;obtain⟨D,rfl⟩:=bm.E5 G;refine dh (aj a) ?_;simp;exact⟨m.cm.trans O,D,J,by unfold ee;rw[bM k];exact G,λc F=>kd (av (H c F))⟩
def MaI(d:az)(n0:Nat)(W V:SV)(i:List (Bool×Int))(b:List Int)(m:Nat)(e:Env)(c:az):Prop:=
 ∃(j:Nat) (L:SV),m=cz i-j/\j<=cz i/\bY e 0=L.v/\bY e 1=V.v/\bC e 5 j/\ay (bx W.v) d c/\bm encI n0 c L.v (gP b (i.take j))/\∀c,bx L.v c->bx W.v c\/d.aw<=c
def Bc(F:cu h)(G:n0<=h.aw){W V:SV}(G:bm encI n0 h W.v b)(O:bp cZ h V.v i)(m:∀c,bx V.v c->¬bx W.v c)(k:cz b+cz i<100000):aY FF 152 [W.v,V.v] h (Pn n0 W (gP b i) h):=by
 have k:V.l=cz i:=by obtain⟨a,a,e,_⟩:=id O;simp at e;exact e.2.1
 refine aY.of BJ ?_;unfold rj;simp[k];refine aK.loop (MaI h n0 W V i b) ?_ (n:=cz i) ⟨0,W,Q,ab,J,au k,J,.refl F,by simpa [gP] using G,λc G=>jZ G⟩;rintro a e p⟨j,L,rfl,a,d,D,a,g,l,f⟩;have q:=g.ok;unfold qc;by_cases I:j<cz i
 .have n:=ch ((j:Int)+1) ab ab;have⟨v,o⟩:=aQ i j I;have H:=O.grow F g (λc G e=>m c G e);obtain⟨F,F,F,F,_,_,O⟩:=H.read o;have H:=O 0 1 ag;have m:=O 1 1 ag;simp[-ax] at H m F;simp at D;rw[F.1,k] at D;have O:=Ww (l:=b) o;have o:=Be (i.take j) b;have o:cz (i.take j)<=j:=by simp;omega
  have o:=g.aw;cases o:v.1;rw[o] at H O;simp[D,a,I,H,n,-ax];exact⟨cz i-(j+1),ab,j+1,L,Q,I,au d,by simp[D,F,k],J,g,by rw[O];simpa using l,f⟩;rw[o] at H O;simp[d,D,a,I,H,m,-ax];refine bh.call (V:=Pn n0 L (ee (gP b (i.take j)) v.2) p) (by simpa [d] using Gr q ab l ab v.2) ?_;rintro _ v⟨v,L2,rfl,q,p⟩;simp[a,n];exact⟨cz i-(j+1),ab,j+1,L2,Q,I,J,by simp[D,F,k],J,g.trans' v ai (λc G e=>(f c e).elim id (λh=>ab)),by rw[O];simpa using q,λc G=>(p c G).elim (λh=>f c h) (λh=>kd ab)⟩
 .have:j=cz i:=ab
  subst this;rw[mO] at l;simp at D;rw[k] at D;simp[d,D,a];exact⟨g,L,J,l,f⟩
def bq(l:List Int)(v:Bool×Int):Bool×Int:=if v.1 then(ck,aV l v.2) else v
def xv(c:cu h)(G:bp encI h W.v b)(D:cz b<1000000)(v:Bool×Int):aY FF 153 [ix ⟨[dC v.1,fc ft v.2]⟩,W.v] h (λu a=>ay aR h a/\u=ix ⟨[dC (bq b v).1,fc ft (bq b v).2]⟩):=by
 have e:¬h.aw=h.aw+1:=ab
 refine aY.of Ef ?_;unfold ve;have⟨t,i⟩:=v;cases t;simp[e,bq,aX];exact(((ay.refl c).new _ _).new _ _).put ⟨0,J⟩ (jZ ab);simp[e];refine bh.cut (λd=>ay aR h d/\di d (h.aw+1) [dC cd,fc ft 0]) ⟨((ay.refl c).new _ _).new _ _,0,J⟩ ?_;rintro d⟨k,I,m⟩;refine bh.call (V:=λv a=>a=d/\v=fc ft (aV b i)) (aj (xB (G.cm c k) D i)) ?_;rintro _ H⟨F,rfl⟩;rw[F];simp[m,bq,aX];exact k.put ⟨_,m⟩ (jZ ab)
def iT(x:GI):List (Bool×Int):=
 if x.op=21 then [] else if x.op=20 then x.args else if(2<=x.op/\x.op<=15)\/x.op=19 then [x.a,x.b] else if 1<=x.op/\x.op<=22 then [x.a] else []
def aaX(f:cu h){A:SV}(n:bp cZ h A.v x.args)(v:cz x.args<100000):aY FF 44 [ix ⟨aM x.op x.dst x.a.1 x.a.2 x.b.1 x.b.2 x.fn A.v⟩] h (λv D=>ay aR h D/\∃L:SV,v=L.v/\bm cZ h.aw D L.v (iT x)):=by
 have D:=aO f (aM x.op x.dst x.a.1 x.a.2 x.b.1 x.b.2 x.fn A.v) 0;have v:(aJ h (aM x.op x.dst x.a.1 x.a.2 x.b.1 x.b.2 x.fn A.v) 0).aw=h.aw+1:=Q;refine aY.of Fy ?_;unfold wM;by_cases I:x.op=21
 .have F:(x.op==21)=ck:=by simp[I]
  simp[aM,F];refine⟨by simpa [aM] using D,cM,by simp[cM],jZ ⟨by unfold iT;rw[bK I],Q⟩⟩
 have F:(x.op==21)=cd:=aj I
 by_cases O:x.op=20
 .have H:(x.op==20)=ck:=by simp[O]
  obtain⟨l,b,b,k,m⟩:=yq (bytes:=16) (E:=cZ) D.ok (z:=[dC cd,fc ft 0]) rfl (n0:=h.aw) (xs:=[]) (v:=dB K 0 0) (jZ ⟨Q,Q⟩) (n.cm f D) (by simp;omega) ag ab;obtain⟨L,rfl⟩:=bm.E5 k;simp[aM,F,H];refine dh (by simpa [aM] using b) ?_;simp;exact⟨D.trans' m ai (λn _ e=>by have⟨_,_,_,e⟩:=e;cases e),L,J,by unfold iT;rw[bM I,bK O];simpa using k⟩
 have H:(x.op==20)=cd:=aj O
 by_cases f:(2<=x.op/\x.op<=15)\/x.op=19
 .have m:=aO D.ok [dC x.a.1,fc ft x.a.2,dC x.b.1,fc ft x.b.2] 0;have i:bp cZ (aJ (aJ h (aM x.op x.dst x.a.1 x.a.2 x.b.1 x.b.2 x.fn A.v) 0) [dC x.a.1,fc ft x.a.2,dC x.b.1,fc ft x.b.2] 0) (dB (Z ⟨h.aw+1,0,K⟩) 2 2) [x.a,x.b]:=⟨_,2,Q,kd ⟨h.aw+1,0,_,_,_,_,Q,bX _ _ _,J,by simp[e7.flat]⟩⟩;have⟨l,V,b,k,j⟩:=yq (bytes:=16) (E:=cZ) m.ok (z:=[dC cd,fc ft 0]) rfl (n0:=h.aw) (xs:=[]) (v:=dB K 0 0) (jZ ⟨Q,Q⟩) i J ag (av m.aw);obtain⟨L,rfl⟩:=bm.E5 k;have a:ay aR h V/\∃L2:SV,L.v=L2.v/\bm cZ h.aw V L2.v (iT x):=⟨(D.trans m).trans' j ai (λn _ e=>by have⟨_,_,_,e⟩:=e;cases e),L,Q,by unfold iT;rw[bM I,bM O,bK f];simpa using k⟩;by_cases G:2<=x.op
  .by_cases d:x.op<=15;simp[aM,F,H,G,d];refine dh (by simpa [aM] using b) ?_;simpa using a
   .have c:(x.op==19)=ck:=by simp;omega
    simp[aM,F,H,G,d,c];refine dh (by simpa [aM] using b) ?_;simpa using a
  omega
 have c:(x.op==19)=cd:=by simp;omega
 by_cases g:1<=x.op/\x.op<=22
 .have m:=aO D.ok (cZ.enc x.a) 0;have i:bp cZ (aJ (aJ h (aM x.op x.dst x.a.1 x.a.2 x.b.1 x.b.2 x.fn A.v) 0) (cZ.enc x.a) 0) (dB (Z ⟨h.aw+1,0,K⟩) 1 1) [x.a]:=dq (bX _ _ _);have⟨l,V,b,k,j⟩:=yq (bytes:=16) (E:=cZ) m.ok (z:=[dC cd,fc ft 0]) rfl (n0:=h.aw) (xs:=[]) (v:=dB K 0 0) (jZ ⟨Q,Q⟩) i J ag (av m.aw);obtain⟨L,rfl⟩:=bm.E5 k;have a:ay aR h V/\∃L2:SV,L.v=L2.v/\bm cZ h.aw V L2.v (iT x):=⟨(D.trans m).trans' j ai (λn _ e=>by have⟨_,_,_,e⟩:=e;cases e),L,Q,by unfold iT;rw[bM I,bM O,bM f,bK g];simpa using k⟩;have⟨k,L⟩:=g;by_cases G:2<=x.op
  .have d:¬x.op<=15:=ab
   simp[aM,F,H,G,d,c,k,L];refine dh (by simpa [aM] using b) ?_;simpa using a
  simp[aM,F,H,G,c,k,L];refine dh (by simpa [aM] using b) ?_;simpa using a
 .have a:ay aR h (aJ h (aM x.op x.dst x.a.1 x.a.2 x.b.1 x.b.2 x.fn A.v) 0)/\∃L2:SV,cM.v=L2.v/\bm cZ h.aw (aJ h (aM x.op x.dst x.a.1 x.a.2 x.b.1 x.b.2 x.fn A.v) 0) L2.v (iT x):=⟨D,cM,Q,jZ ⟨by unfold iT;rw[bM I,bM O,bM f,bM g],Q⟩⟩;by_cases k:1<=x.op
  .have L:¬x.op<=22:=ab
   have G:2<=x.op:=ab
   have d:¬x.op<=15:=ab
   simp[aM,F,H,G,d,c,k,L];simpa [aM,cM] using a
  .have G:¬2<=x.op:=ab
   simp[aM,F,H,G,c,k];simpa [aM,cM] using a
def RmI(d:az)(U:Nat)(f:List GB)(m:Nat)(e:Env)(a:az):Prop:=
 ∃j:Nat,m=cz f-j/\j<=cz f/\bU e 1 U/\bC e 3 (dF (f.take j))/\bC e 4 j/\ay aR d a
def Pz(f:List GB)(j:Nat):dF (f.take j)<=dF f:=by
 induction f generalizing j with
 |nil=>simp
 |cons b f a=>
  cases j with
  |zero=>simp[dF]
  |succ j=>simp only[List.take_succ_cons,dF];have:=a j;omega
def aaO(O:cu h){name:ByteArray}{p r:Int}(V:qP h B f)(v:cz f<100000)(v:dF f<1000000000):aY FF 97 [ix ⟨aC name p r B⟩] h (λv c=>ay aR h c/\v=fc ft (dF f)):=by
 have G:=ad.len V;refine aY.of Fu ?_;unfold wJ;simp[aC];refine aK.cut (λd=>ay aR h d/\di d h.aw (aC name p r B)) ⟨(ay.refl O).new _ _,0,by simp[aC]⟩ ?_;rintro d⟨H,v,v⟩;refine aK.loop (RmI d h.aw f) ?_ (n:=cz f) ⟨0,Q,ab,J,by simp[dF],J,.refl H.ok⟩;rintro m e c⟨j,rfl,m,D,F,i,g⟩;have n:=g.ok;have k:=H.trans g;have a:=g.get H.ok v;simp[aC] at a;rw[G] at a;unfold tY;by_cases G:j<cz f
 .have m:=ch ((j:Int)+1) ab ab;have⟨b,H⟩:=aQ f j G;obtain⟨v,Sg,v,v,_,_,⟨P,L,T,rfl,o,I,q⟩,q,l⟩:=ad.later O V H;have O:=ad.len o;have O:=ad.len I;have O:=l c k 0 1 ag;have I:=l c k 1 1 ag;simp[-ax] at O I;rw[v] at a;have v:=xt H;have H:=Pz f (j+1);have H:ec.wrap ((dF (f.take j):Int)+(P.l:Int))=((dF (f.take j)+cz b.bz:Nat):Int):=by rw[ch _ ab ab];omega
  have v:ec.wrap (((dF (f.take j)+cz b.bz:Nat):Int)+(L.l:Int))=((dF (f.take (j+1)):Nat):Int):=by rw[ch _ ab ab];omega
  have L:=n.cg a;have n:=k.cg q;simp[D,F,i,a,aB a,G,O,I,L,n,aI,H,v,m,-ax,-Int.natCast_add];exact⟨cz f-(j+1),ab,j+1,Q,G,au D,J,J,by first|exact g.tick|exact g⟩
 .have:j=cz f:=ab
  subst this;rw[mO] at F;simp[D,F,i,a];exact k
def jE(r:Int)(f:List GB):Bool:=decide (40<cz f)||decide (300<dF f)||decide (100<r)
def Xc(I:cu h){name:ByteArray}{p r:Int}(H:qP h B f)(G:cz f<100000)(O:dF f<1000000000):aY FF 45 [ix ⟨aC name p r B⟩] h (λv b=>ay aR h b/\v=dC (jE r f)):=by
 have D:=ad.len H;refine aY.of D8 ?_;unfold uZ;by_cases a:40<cz f
 .have k:(40:Int)<cz f:=ab
  simp[aC,D,a,k,jE];exact(by simpa [aC,D] using aO I (aC name p r B) 0)
 have k:¬(40:Int)<cz f:=ab
 simp[aC,D,a,k];refine bh.cut (λd=>ay aR h d/\di d h.aw (aC name p r B)) ⟨by simpa [aC,D] using aO I (aC name p r B) 0,0,by simp[aC,D]⟩ ?_;rintro d⟨F,m,m⟩;refine bh.call (V:=λv b=>ay aR d b/\v=fc ft (dF f)) (by simpa [aC,D] using aaO F.ok (name:=name) (p:=p) (r:=r) (H.mono I F) G O) ?_;rintro _ H⟨H,rfl⟩;have I:=H.get F.ok m;simp[aC] at I;by_cases G:300<dF f
 .have m:(300:Int)<dF f:=ab
  simp[G,m,jE,a];exact F.trans H
 .have m:¬(300:Int)<dF f:=ab
  simp[G,m,I,jE,a];exact F.trans H
def Jk(l:List Int)(n:List GP):List Int:=n.foldl (λl p=>ee l p.dst) l
def Jl(l:List Int)(x:GI):List Int:=if 0<=x.dst then ee (gP l (iT x)) x.dst else gP l (iT x)
def zv(l:List Int)(b:List GI):List Int:=b.foldl Jl l
def ad8{p:GP}(h:n[j]?=Z p):Jk l (n.take (j+1))=ee (Jk l (n.take j)) p.dst:=by unfold Jk;rw[kh,h,eE];rfl
def Nv:∀(n:List GP)(l:List Int),cz (Jk l n)<=cz l+cz n
 |[],l=>fq _
 |p::n,l=>by have d:Jk l (p::n)=Jk (ee l p.dst) n:=Q;rw[d];have a:=Nv n (ee l p.dst);have k:=Jh l p.dst;simp only[eN];omega
def azh(d:az)(n0 X:Nat)(W:SV)(b:List Int)(n:List GP)(e:Env)(m:Nat)(c:Env)(a:az):Prop:=
 ∃(j:Nat) (L:SV),m=cz n-j/\j<=cz n/\aG ([3,7]++(aU 15).map (· +33)) e c/\bY c 3=L.v/\bC c 7 j/\ay (bx W.v) d a/\bm encI n0 a L.v (Jk b (n.take j))/\∀c,bx L.v c->bx W.v c\/d.aw<=c
def ah8(u:cu q)(i:cu d)(F:n0<=d.aw)(F:∀ {a:az},ay (bx W.v) d a->ay aR q a)(m:ad (pR q) 2 q P.v n)(I:bm encI n0 d W.v b)(v:cz b+cz n<100000)(v:eR d X (P.v::r) t)(p:¬bx W.v X)(H:bY e 3=W.v)(f:bU e 6 X)(D:bC e 7 0)(C:∀k a (L:SV),aG ([3,7]++(aU 15).map (· +33)) e k->bY k 3=L.v->ay (bx W.v) d a->bm encI n0 a L.v (Jk b n)->(∀c,bx L.v c->bx W.v c\/d.aw<=c)->s (.exit 4) k a):aK FF (.loop oi) e d s:=by
 have o:=ad.len m;refine aK.loop (azh d n0 X W b n e) ?_ (n:=cz n) ⟨0,W,Q,ab,aG.refl _ _,H,D,.refl i,by simpa [Jk] using I,λc D=>jZ D⟩;rintro I k a⟨j,L,rfl,I,I,k,H,g,G,O⟩;have y:=g.ok;have x:ay aR q a:=F g;have l:=I.at f;have f:=g.get i v p;simp at f;rw[o] at f;unfold oi;by_cases i:j<cz n
 .have v:=ch ((j:Int)+1) ab ab;have⟨p,o⟩:=aQ n j i;obtain⟨F,ap8,F,F,_,_,⟨A,rfl,A⟩,w,w⟩:=ad.later u m o;have m:=w a x 0 1 ag;simp[-ax] at m;rw[F] at f;have u:=ad8 (l:=b) o;have o:=Nv (n.take j) b;have o:cz (n.take j)<=j:=by simp;omega
  have o:=g.aw;simp[k,l,H,f,aB f,i,m,-ax];refine bh.call (V:=Pn n0 L (ee (Jk b (n.take j)) p.dst) a) (by simpa [k] using Gr y ab G ab p.dst) ?_;rintro _ p⟨p,L2,rfl,y,a⟩;simp[H,v];refine⟨cz n-(j+1),ab,j+1,L2,Q,i,?_,J,J,g.trans' p ai (λc D e=>(O c e).elim id (λh=>ab)),by rw[u];exact y,λc D=>(a c D).elim (λh=>O c h) (λh=>kd ab)⟩
  exact aq
 .have:j=cz n:=ab
  subst this;rw[mO] at G;simp[l,H,f,aB f,-ax];refine C _ _ L ?_ (au k) g G O
  exact aq
def ad7{b:List GI}(h:b[j]?=Z x):zv l (b.take (j+1))=Jl (zv l (b.take j)) x:=by unfold zv;rw[kh,h,eE];rfl
def Ru(x:GI):cz (iT x)<=cz x.args+2:=by
 unfold iT
 (repeat' split)<;>simp<;>omega
def ah5(l:List Int)(x:GI):cz (Jl l x)<=cz l+cz x.args+3:=by
 have d:=Be (iT x) l;have a:=Ru x;unfold Jl;split
 have:=Jh (gP l (iT x)) x.dst;omega;omega
def Nu(k:Nat):∀(b:List GI)(l:List Int),(∀x∈b,cz x.args<=k)->cz (zv l b)<=cz l+cz b*(k+3)
 |[],l,_=>by simp[zv]
 |x::b,l,h=>by have d:zv l (x::b)=zv (Jl l x) b:=Q;rw[d];have a:=Nu k b (Jl l x) (λy k=>h y (xV _ k));have D:=ah5 l x;have m:=h x (iY ..);simp only[eN,xf,wv];omega
def aso:List Nat:=[3,8]++(aU 30).map (· +48)
def azg(d:az)(n0:Nat)(W:SV)(o:List Int)(b:List GI)(e:Env)(m:Nat)(c:Env)(a:az):Prop:=
 ∃(j:Nat) (L:SV),m=cz b-j/\j<=cz b/\aG aso e c/\bY c 3=L.v/\bC c 8 j/\ay (bx W.v) d a/\bm encI n0 a L.v (zv o (b.take j))/\∀c,bx L.v c->bx W.v c\/d.aw<=c
def ah6(T:cu q)(y:cu d)(F:n0<=d.aw){W P I:SV}(p:∀ {B:az},ay (bx W.v) d B->ay aR q B){b:List GI}(A:ad (iR q) 8 q I.v b)(V:bm encI n0 d W.v o)(z:cz b<=300)(N:∀x∈b,cz x.args<=100)(G:cz o<60000)(z:eR d X (P.v::I.v::r) t)(E:¬bx W.v X)(I:bY e 3=W.v)(S:bU e 6 X)(k:bC e 8 0)(C':∀v B (L:SV),aG aso e v->bY v 3=L.v->ay (bx W.v) d B->bm encI n0 B L.v (zv o b)->(∀c,bx L.v c->bx W.v c\/d.aw<=c)->s (.exit 6) v B):aK FF (.loop oh) e d s:=by
 have m:=ad.len A;refine aK.loop (azg d n0 W o b e) ?_ (n:=cz b) ⟨0,W,Q,ab,aG.refl _ _,I,k,.refl y,by simpa [zv] using V,λc k=>jZ k⟩;rintro i v B⟨j,L,rfl,I,a,U,C,g,l,D⟩;have F:=g.ok;have G:ay aR q B:=p g;have w:=a.at S;have a:=g.get y z E;have n:=a;simp at a;rw[m] at a;unfold oh;by_cases H:j<cz b
 .have f:=ch ((j:Int)+1) ab ab;have⟨x,I⟩:=aQ b j H;have n:=cO I;obtain⟨O,M,S,m,_,_,⟨S,rfl,S⟩,v,O⟩:=ad.later T A I;have v:=O B G 0 8 ag;simp[-ax,aM] at v;rw[m] at a;have i:=ad7 (l:=o) I;have m:=Nu 100 (b.take j) o (λA M=>N A (ET M));have M:cz (b.take j)<=j:=by simp;omega
  have u:=Ru x;have I:=N x n;have A:=g.aw;have V:cz (zv o (b.take j))<92000:=by have:cz (b.take j)*103<=300*103:=IX _ ab;omega
  simp[U,w,C,a,aB a,H,v,-ax];refine bh.call (V:=λv M=>ay aR B M/\∃A:SV,v=A.v/\bm cZ B.aw M A.v (iT x)) (by simpa [aM] using aaX F ((XQ S).cm T G) (x:=x) ab) ?_;rintro _ M⟨G,A,rfl,V⟩;have u:=l.grow F G ai;have A:=G.aw;have N:∀c,bx L.v c->c<B.aw:=λc e=>by rcases l with⟨_,m⟩|⟨A,T,m,S,_,_⟩;rw[m] at e;have⟨_,_,_,n⟩:=e;cases n;rw[m] at e;have⟨_,_,_,n⟩:=e;cases n;exact F.wf _ _ S
  simp[U];refine bh.call (V:=Pn n0 L (gP (zv o (b.take j)) (iT x)) M) (by simpa [U] using Bc G.ok ab u V.sl (λc k e=>by have:=V.of k;have:=N c e;omega) ab) ?_;rintro _ S⟨B,L3,rfl,m,I⟩;have A:=B.aw;have A:¬bx L.v X:=λe=>by rcases D X e with h|h;exact E h;have:=y.wf _ _ z;omega
  have M:=B.get G.ok (G.get F a) A;have T:ay (bx W.v) d S:=(g.trans G.cm).trans' B ai (λc k e=>(D c e).elim id (λh=>ab));have u:=O S (p T) 1 1 ag;simp[-ax,aM] at u;have F:∀c,bx L3.v c->bx W.v c\/d.aw<=c:=λc k=>(I c k).elim (λh=>D c h) (λh=>kd ab);by_cases V:0<=x.dst
  .have O:Jl (zv o (b.take j)) x=ee (gP (zv o (b.take j)) (iT x)) x.dst:=by unfold Jl;rw[bK V]
   have v:=Be (iT x) (zv o (b.take j));simp[w,C,M,aB M,H,u,V,-ax];refine bh.call (V:=Pn n0 L3 (ee (gP (zv o (b.take j)) (iT x)) x.dst) S) (aj (Gr B.ok ab m ab x.dst)) ?_;rintro _ G⟨p,v,rfl,E,z⟩;have n:=p.aw;simp[C,f];refine⟨cz b-(j+1),ab,j+1,v,Q,H,?_,J,J,T.trans' p ai (λc k e=>(F c e).elim id (λh=>ab)),by rw[i,O];exact E,λc k=>(z c k).elim (λh=>F c h) (λh=>kd ab)⟩
   exact aq
  .have O:Jl (zv o (b.take j)) x=gP (zv o (b.take j)) (iT x):=by unfold Jl;rw[bM V]
   simp[w,C,M,aB M,H,u,V,f,-ax];refine⟨cz b-(j+1),ab,j+1,L3,Q,H,?_,J,J,T,by rw[i,O];exact m,F⟩
   exact aq
 .have:j=cz b:=ab
  subst this;rw[mO] at l;simp[w,C,a,aB a,-ax];refine C' _ _ L ?_ (au U) g l D
  exact aq
def QB(l:List Int)(b:GB):List Int:=gP (zv (Jk l b.bz) b.list) [b.on]
def tT(l:List Int)(f:List GB):List Int:=f.foldl QB l
def aal{b:GB}(h:f[j]?=Z b):tT l (f.take (j+1))=QB (tT l (f.take j)) b:=by unfold tT;rw[kh,h,eE];rfl
def azi(d:az)(S:Nat)(o:List Int)(f:List GB)(m:Nat)(a:Env)(b:az):Prop:=
 ∃(j:Nat) (L:SV),m=cz f-j/\j<=cz f/\bU a 1 S/\bY a 3=L.v/\bC a 5 j/\ay (λc=>d.aw<=c) d b/\bm encI d.aw b L.v (tT o (f.take j))
def aan{q d y:az}(i:cu q)(g:ay aR q d)(T:ay aR d y){M:ByteArray}{p r:Int}(U:qP q B f)(N:bm encI d.aw y W.v o)(S:cz f<=100)(H:∀b∈f,cz b.bz<=300)(GH:∀b∈f,cz b.list<=300)(AE:∀b∈f,∀x∈b.list,cz x.args<=100)(O:∀j,cz (tT o (f.take j))<50000){S c:Nat}(D:eR d S (aC M p r B) c)(X:bU e 1 S)(A:bY e 3=W.v)(G:bC e 5 0)(C':∀k p (u:SV),bU k 1 S->bY k 3=u.v->ay aR d p->bm encI d.aw p u.v (tT o f)->s (.exit 2) k p):aK FF (.loop om) e y s:=by
 have n:=ad.len U;have l:∀ {p},ay (λc=>d.aw<=c) d p->ay aR d p:=λL=>(ay.refl g.ok).trans' L ai (λc F e=>ab);refine aK.loop (azi d S o f) ?_ (n:=cz f) ⟨0,W,Q,ab,X,A,G,T.cm,by simpa [tT] using N⟩;rintro m k p⟨j,u,rfl,v,y,M,w,L,N⟩;have I:=L.ok;have X:=l L;have a:ay aR q p:=g.trans X;have G:=X.get g.ok D;simp[aC] at G;rw[n] at G;unfold om;by_cases n:j<cz f
 .have wj:=ch ((j:Int)+1) ab ab;have⟨b,A⟩:=aQ f j n;have T:=cO A;obtain⟨D,Sg,E,k,_,_,⟨P,C,m,rfl,v,sL,l⟩,V,V⟩:=ad.later i U A;have l:=V p a 0 6 ag;simp[-ax] at l;rw[k] at G;have tk:=aal (l:=o) A;have E:=L.aw;have V:=O j;have E:=Nv b.bz (tT o (f.take j));have z:=H b T;have D:∀c,bx u.v c->c<p.aw:=λc e=>by rcases N with⟨_,z⟩|⟨b2,s2,z,H,_,_⟩;rw[z] at e;have⟨_,_,_,k⟩:=e;cases k;rw[z] at e;have⟨_,_,_,k⟩:=e;cases k;exact I.wf _ _ H
  simp[y,w,G,aB G,n,l,aH,-ax];refine aK.cut (λA=>ay aR p A/\di A p.aw [P.v,C.v,fc ft b.kind,dC b.on.1,fc ft b.on.2,m.v]) ⟨(ay.refl I).var _ _,p.clock,by simp[aX]⟩ ?_;rintro A⟨O,t,U⟩;have E:=N.grow I O ai;have m:=a.trans O;have I:=O.aw;have a:=O.ok.wf _ _ U;have C:∀c,bx u.v c->d.aw<=c:=λc F=>N.of F;refine ah8 i O.ok (n0:=d.aw) (X:=p.aw) ab (λV=>m.trans' V ai (λc F e=>by have:=C c e;have:=g.aw;omega)) v E ab U (λe=>av (D _ e)) (au M) J J ?_;intro k h3 L3 I a l A v;have m1:=I.at (t:=1) (ak y);have m5:=I.at (t:=5) (ak w);have m6:=I.at (t:=6) (show bU _ 6 p.aw by simp);have dK:=l.get O.ok U (λe=>av (D _ e));have U:=l.aw;have E:ay aR q h3:=m.trans' l ai (λc F e=>by have:=C c e;have:=g.aw;omega);simp;refine ah6 i l.ok (n0:=d.aw) (X:=p.aw) ab (λV=>E.trans' V ai (λc F e=>by have:=A.of e;have:=g.aw;omega)) sL A (GH b T) (AE b T) ab dK (λe=>(v _ e).elim (λh=>av (D _ h)) (λh=>ab)) (au a) (au m6) J ?_;intro m I E U i a V g;have n1:bU m 1 S:=U.at (ak m1);have g:bY m 5=fc ft j:=U.at (ak m5);have n6:bU m 6 p.aw:=U.at (ak m6);have S:¬bx L3.v p.aw:=λe=>(v _ e).elim (λh=>av (D _ h)) (λh=>ab);have v:=a.get l.ok dK S;have m:=a.aw;simp at v;simp[n6,i,v];have v:=aO a.ok (cZ.enc b.on) 0;have U:=V.grow a.ok v ai;have D:bp cZ (aJ I (cZ.enc b.on) 0) (dB (Z ⟨I.aw,0,K⟩) 1 1) [b.on]:=dq (bX _ _ _);have p:(aJ I (cZ.enc b.on) 0).aw=I.aw+1:=Q;have m:=Nu 100 b.list (Jk (tT o (f.take j)) b.bz) (AE b T);have p:=GH b T;have S:∀c,bx E.v c->c<I.aw:=λc e=>by rcases V with⟨_,z⟩|⟨b2,s2,z,H,_,_⟩;rw[z] at e;have⟨_,_,_,k⟩:=e;cases k;rw[z] at e;have⟨_,_,_,k⟩:=e;cases k;exact a.ok.wf _ _ H
  have m:cz b.list*103<=300*103:=IX _ p;refine bh.call (V:=Pn d.aw E (QB (tT o (f.take j)) b) (aJ I (cZ.enc b.on) 0)) (by simpa [QB] using Bc (V:=⟨Z ⟨I.aw,0,K⟩,1,1⟩) v.ok ab U D (λc F e=>by have⟨_,_,_,k⟩:=F;cases k;have:=S _ e;omega) (by simp;omega)) ?_;rintro _ m⟨T,z,rfl,I,F⟩;simp[g,wj];refine⟨cz f-(j+1),ab,j+1,z,Q,n,au n1,J,J,?_,by rw[tk];exact I⟩;have S:ay (λc=>d.aw<=c) d h3:=(L.trans O.cm).trans' l ai (λc _ e=>C c e);have D:=S.trans' a ai (λc _ e=>A.of e);exact(D.trans v.cm).trans' T ai (λc _ e=>V.of e)
 .have:j=cz f:=ab
  subst this;rw[mO] at N;simp[y,w,G,aB G,-ax];exact C' _ _ u (au y) (au M) X N
end Go.Proofs.YtdhnndleffachaaGreatDoor
