/- Parts of the proof. -/
import Derived.Test.YtdhnndleffachaaGreatDoorP03
import Derived.Test.YtdhnndleffachaaGreatDoorP04
import Derived.Test.YtdhnndleffachaaGreatDoorP05
set_option linter.all false
namespace Go.AI.Edge
variable{p x:Nat}{t:Int}{ts:List Int}
def Cz(dp:List (List Int))(x:Nat):Prop:=∀S:Nat->Prop,S 0->(∀a ts,S a->dp[a]?=some ts->∀t∈ts,S t.toNat)->S x
theorem Cz.zero(dp:List (List Int)):Cz dp 0:=fun _ h _=>h
theorem Cz.step{dp:List (List Int)}{a:Nat}{ts:List Int}(h:Cz dp a)(ha:dp[a]?=some ts){t:Int}(ht:t∈ts):Cz dp t.toNat:=fun S h0 hs=>hs a ts (h S h0 hs) ha t ht
def uQ(dp:List (List Int)):List (List Nat):=dp.map (·.map Int.toNat)
theorem AB{dp:List (List Int)}(h:x∈Dfs.row (uQ dp) p):∃ts t,dp[p]?=some ts/\t∈ts/\x=t.toNat:=by
 unfold Dfs.row uQ at h;rw[tT] at h;cases hp:dp[p]? with
 |none=>rw[hp] at h;simp at h
 |some ts=>
  rw[hp] at h;simp at h;obtain⟨t,ht,e⟩:=h;exact⟨ts,t,rfl,ht,e.symm⟩
theorem SK{dp:List (List Int)}(hp:dp[p]?=some ts)(ht:t∈ts):t.toNat∈Dfs.row (uQ dp) p:=by unfold Dfs.row uQ;rw[tT,hp];simp;exact⟨t,ht,rfl⟩
theorem LD{dp:List (List Int)}(h0:0<dp.length)(KY:∀ts∈dp,∀t∈ts,t.toNat<dp.length)(x:Nat):x∈Dfs.ly (uQ dp) dp.length↔Cz dp x:=by
 obtain⟨nd,lt,⟨new,e0⟩,cl,up⟩:=Dfs.xh (dy:=uQ dp) h0 (fun b t ht=>by obtain⟨ts,u,h1,h2,rfl⟩:=AB ht;exact KY ts (dG h1) u h2)
 constructor
 .
  intro hx;obtain⟨l1,l2,e⟩:=List.append_of_mem hx;have key:∀(n:Nat)(l1 l2:List Nat)(x:Nat),l2.length<=n->Dfs.ly (uQ dp) dp.length=l1++x::l2->Cz dp x:=by
   intro n;induction n with
   |zero=>
    intro l1 l2 x hl e;have:l2=[]:=JC (by omega);subst this;rw[e0] at e;have:=(List.append_inj' e rfl).2;cases this;exact Cz.zero _
   |succ n ih=>
    intro l1 l2 x hl e;by_cases IM:x=0
    .subst IM;exact Cz.zero _
    .obtain⟨p,hp,m1,m2,em,Fm⟩:=up x (by rw[e];simp) IM;have e2:l1++x::l2=m1++x::m2:=by rw[<-e,<-em]
     have nd':(l1++x::l2).Nodup:=by rw[<-e];exact nd
     have bY:l1.length=m1.length:=by
      have i1:(l1++x::l2)[l1.length]?=some x:=by simp
      have i2:(l1++x::l2)[m1.length]?=some x:=by rw[e2];simp
      have h1:=(cr.mp i1);have h2:=(cr.mp i2);obtain⟨a1,a2⟩:=h1;obtain⟨b1,b2⟩:=h2;exact(List.getElem_inj nd').1 (a2.trans b2.symm)
     have e3:=(List.append_inj e2 bY).2;cases e3;obtain⟨k1,k2,ek⟩:=List.append_of_mem Fm;have hr:=ih (l1++x::k1) k2 p (by rw[ek] at hl;simp at hl;omega) (by rw[e,ek];simp);obtain⟨ts,t,h1,h2,rfl⟩:=AB hp;exact hr.step h1 h2
  exact key l2.length l1 l2 x (dw _) e
 .intro h;refine h (fun y=>y∈Dfs.ly (uQ dp) dp.length) (by rw[e0];simp) (fun a ts ha qE t ht=>cl a ha _ (SK qE ht))
theorem Cz.mE{dp Jw:List (List Int)}{aO:List Nat}(nd:aO.Nodup)(h00:aO[0]?=some 0)(cl:∀x∈aO,∀ts,dp[x]?=some ts->∀t∈ts,t.toNat∈aO)(qE:∀(i k:Nat),aO[i]?=some k->∃ts Df,dp[k]?=some ts/\Jw[i]?=some Df/\Df.length=ts.length/\∀(j:Nat)(t t':Int),ts[j]?=some t->Df[j]?=some t'->0<=t'/\aO[t'.toNat]?=some t.toNat){i k:Nat}(hk:aO[i]?=some k)(h:Cz dp k):Cz Jw i:=by
 intro S h0 hs;have:=h (fun x=>∃j,aO[j]?=some x/\S j) ⟨0,h00,h0⟩ (by rintro a ts⟨j,hj,hS⟩ ha t ht;obtain⟨ts1,Df,e1,e2,e3,e4⟩:=qE j a hj;rw[ha] at e1;cases e1;obtain⟨m,hm⟩:=sv ht;have Yg:=(cr.mp hm).1;obtain⟨t',zk⟩:∃t',Df[m]?=some t':=⟨_,fI (by omega)⟩;obtain⟨_,h6⟩:=e4 m t t' hm zk;exact⟨t'.toNat,h6,hs j Df hS e2 t' (dG zk)⟩)
 obtain⟨j,hj,hS⟩:=this;have a1:=cr.mp hk;have a2:=cr.mp hj;obtain⟨b1,b2⟩:=a1;obtain⟨c1,c2⟩:=a2;have:i=j:=(List.getElem_inj nd).1 (b2.trans c2.symm);subst this;exact hS
section
variable{dp:List (List Int)}{b to:Nat}{t:Int}{XB:List Int}
def qy(dp:List (List Int))(b to:Nat)(XB:List Int):List (List Int):=(dp.set b XB).set to []
theorem pY(hb:dp[b]?=some [(to:Int)])(ht:dp[to]?=some XB)(cq:to≠b)(u i:Nat):xC (qy dp b to XB) u i=if i=to then 0 else if i=b then xC dp u to else xC dp u i:=by
 have vh:=(cr.mp hb).1;have sG:=(cr.mp ht).1;unfold xC qy;by_cases h1:i=to
 .subst h1;rw[aZ rfl,fg,aZ rfl,aZ (by simpa using sG)];rfl
 .rw[aW h1,fg,aW (Ne.symm h1),fg];by_cases h2:i=b
  .subst h2;rw[aZ rfl,aZ rfl,aZ vh,ht]
  .rw[aW (Ne.symm h2),aW h2]
theorem Qx(f g:Nat->Nat)(x y:Nat)(cq:x≠y)(h:∀i,i≠x->i≠y->f i=g i):∀n,((List.range n).map f).sum+(if x<n then g x else 0)+(if y<n then g y else 0)=((List.range n).map g).sum+(if x<n then f x else 0)+(if y<n then f y else 0):=by
 intro n;induction n with
 |zero=>simp
 |succ n ih=>
  rw[List.range_succ,List.map_append,List.map_append,List.sum_append_nat,List.sum_append_nat];simp only[BY,List.map_nil,PF,List.sum_nil,Nu];have st:∀(v z:Nat),(if z<n+1 then v else 0)=(if z<n then v else 0)+(if n=z then v else 0):=by
   intro v z;by_cases h1:z<n
   .rw[aZ h1,aZ (by omega),aW (by omega)];rfl
   .by_cases h2:n=z
    .rw[aW h1,aZ (by omega),aZ h2];omega
    .rw[aW h1,aW (by omega),aW h2]
  rw[st,st,st,st];by_cases h1:n=x
  .have h2:¬n=y:=by omega
   simp only[aZ h1,aW h2];subst h1;omega
  .by_cases h2:n=y
   .simp only[aW h1,aZ h2];subst h2;omega
   .have:=h n h1 h2;simp only[aW h1,aW h2];omega
theorem Qy(n:Nat)(f g:Nat->Nat)(x y:Nat)(hx:x<n)(hy:y<n)(cq:x≠y)(h:∀i,i≠x->i≠y->f i=g i)(he:f x+f y=g x+g y):((List.range n).map f).sum=((List.range n).map g).sum:=by have:=Qx f g x y cq h n;rw[aZ hx,aZ hy,aZ hx,aZ hy] at this;omega
theorem OR(n:Nat)(f g:Nat->Nat)(x y:Nat)(hx:x<n)(hy:y<n)(cq:x≠y)(h:∀i,i≠x->i≠y->f i=g i)(he:f x+f y<=g x+g y):((List.range n).map f).sum<=((List.range n).map g).sum:=by have:=Qx f g x y cq h n;rw[aZ hx,aZ hy,aZ hx,aZ hy] at this;omega
theorem SJ(hb:dp[b]?=some [(to:Int)])(ht:dp[to]?=some XB)(cq:to≠b){u:Nat}(hu:u≠to):(rowOf (qy dp b to XB) u dp.length).length=(rowOf dp u dp.length).length:=by
 have vh:=(cr.mp hb).1;have sG:=(cr.mp ht).1;rw[p9,p9];refine Qy _ _ _ to b sG vh cq (fun i h1 h2=>by rw[pY hb ht cq,aW h1,aW h2]) ?_;rw[pY hb ht cq,pY hb ht cq,aZ rfl,aW (Ne.symm cq),aZ rfl];have:xC dp u b=0:=by unfold xC;rw[hb];show [((to:Int)).toNat].count u=0;rw[gP_,List.count_eq_zero];simpa using hu
 omega
theorem Jh(hb:dp[b]?=some [(to:Int)])(ht:dp[to]?=some XB)(cq:to≠b)(u:Nat):(rowOf (qy dp b to XB) u dp.length).length<=(rowOf dp u dp.length).length:=by have vh:=(cr.mp hb).1;have sG:=(cr.mp ht).1;rw[p9,p9];refine OR _ _ _ to b sG vh cq (fun i h1 h2=>by rw[pY hb ht cq,aW h1,aW h2]) ?_;rw[pY hb ht cq,pY hb ht cq,aZ rfl,aW (Ne.symm cq),aZ rfl];omega
theorem Hj(hb:dp[b]?=some [(to:Int)])(h1:(rowOf dp to dp.length).length<=1){a:Nat}(ha:dp[a]?=some ts)(h:t∈ts)(he:t.toNat=to):a=b:=by
 have vh:=(cr.mp hb).1;have B7:=(cr.mp ha).1;rcases zf 0 (if a=b then 0 else 1) with hc|hc
 .have cq:a≠b:=by intro e;rw[aZ e] at hc;omega
  rw[p9] at h1;have c1:1<=xC dp to b:=by unfold xC;rw[hb];simp
  have c2:1<=xC dp to a:=by unfold xC;rw[ha];show 1<=(ts.map Int.toNat).count to;exact List.count_pos_iff.2 (dZ.2 ⟨t,h,he⟩)
  have:2<=((List.range dp.length).map fun i=>xC dp to i).sum:=by
   have e1:((List.range dp.length).map fun i=>if i=a then xC dp to a else if i=b then xC dp to b else 0).sum<=((List.range dp.length).map fun i=>xC dp to i).sum:=by
    generalize dp.length=n;induction n with
    |zero=>exact dw _
    |succ n ih=>
     rw[List.range_succ,List.map_append,List.map_append,List.sum_append_nat,List.sum_append_nat];refine Nat.add_le_add ih ?_;simp only[BY,List.map_nil,PF,List.sum_nil,Nu];split
     .rename_i e;subst e;exact dw _
     .split
      .rename_i e;subst e;exact dw _
      .exact Nat.zero_le _
   have e2:=Qy dp.length (fun i=>if i=a then xC dp to a else if i=b then xC dp to b else 0) (fun i=>if i=a then xC dp to a+xC dp to b else 0) a b B7 vh cq (fun i h1 h2=>by simp only[aW h1,aW h2]) (by simp only[if_true,aW (Ne.symm cq)];omega);have e3:∀n,a<n->xC dp to a+xC dp to b<=((List.range n).map fun i=>if i=a then xC dp to a+xC dp to b else 0).sum:=by
    intro n hn;induction n with
    |zero=>omega
    |succ n ih=>
     rw[List.range_succ,List.map_append,List.sum_append_nat];simp only[BY,List.map_nil,PF,List.sum_nil,Nu];by_cases e:n=a
     .rw[aZ e];omega
     .have:=ih (by omega);omega
   have:=e3 _ B7;rw[<-e2] at this;omega
  omega
 .by_cases e:a=b
  .exact e
  .rw[aW e] at hc;omega
theorem Cz.chain(hb:dp[b]?=some [(to:Int)])(ht:dp[to]?=some XB)(cq:to≠b)(h0:to≠0)(h1:(rowOf dp to dp.length).length<=1)(hx:Cz dp x)(hxt:x≠to):Cz (qy dp b to XB) x:=by
 have vh:=(cr.mp hb).1;have sG:=(cr.mp ht).1;intro S s0 hs;have:=hx (fun y=>if y=to then S b else S y) (by simp only[aW (Ne.symm h0)];exact s0) (by
  intro a ts ha qE t htm;by_cases ea:a=to
  .subst ea;rw[aZ rfl] at ha;rw[ht] at qE;cases qE;have hn:t.toNat≠a:=fun e=>cq (Hj hb h1 ht htm e);rw[aW hn];exact hs b XB ha (by unfold qy;rw[fg,aW cq,fg,aZ rfl,aZ vh]) t htm
  .rw[aW ea] at ha;by_cases eb:a=b
   .subst eb;rw[hb] at qE;cases qE;simp at htm;subst htm;simp only[gP_,if_true];exact ha
   .have hn:t.toNat≠to:=fun e=>eb (Hj hb h1 qE htm e);rw[aW hn];exact hs a ts ha (by unfold qy;rw[fg,aW (Ne.symm ea),fg,aW (Ne.symm eb)];exact qE) t htm)
 rw[aW hxt] at this;exact this
end
end Go.AI.Edge
namespace Go.Proofs.YtdhnndleffachaaGreatDoor
open Go.AI
variable{A B L L' P' W:SV}{Bt mp:List (Key×Int)}{C3 left ls:List XI}{C7:List (Int×SV)}{F N X ai b bB d f i j k m n n0 nb nl oB sB sF sX to:Nat}{P:Bool×Int->Prop}{QQ:aT->Env->ae->Prop}{aR:Bool}{bu p rg:Int}{cap κ κ0:Nat->Nat}{cs xc:List Value}{e:Env}{h h' h0:ae}{name:ByteArray}{now ps us:List Int}{r r' rb rt x x':XR}{rs vA:List XR}{v1 v2:Value}{y y':XI}{α:Type}
def RnC:List Nat:=[10,12,45,46,47,48,49,50,51,52,53,54,55,56,57,58,59]
def I8(bC:Int)(l:List Int):Nat:=(l.filter fun x=> !(x==bC)).length
def agj(h:ae)(ps:List Int)(bC:Int)(e:Env)(m:Nat)(e':Env)(h':ae):Prop:=
 ∃t j:Nat,m=ps.length-t/\t<=ps.length/\aA RnC e e'/\ak e' 45=.int .i64 t/\ak e' 10=.int .i64 j/\h'=h/\j<=I8 bC (ps.take t)
theorem aet{bC:Int}(h:bC∈ps):I8 bC ps<ps.length:=by
 obtain⟨l1,l2,rfl⟩:=List.append_of_mem h;unfold I8;have h1:=XP (fun x:Int=> !(x==bC)) l1;have h2:=XP (fun x:Int=> !(x==bC)) l2;have h3:(!(bC==bC))=false:=by simp
 rw[List.filter_append,List.filter_cons,h3];simp only[GJ,List.length_cons,Nt,if_false];omega
theorem SD(hW:bc bj h W.v ps)(hl:ps.length<1000000){bC now:Nat}(f1:ak e 1=.int .i64 bC)(f2:ak e 2=.int .i64 now)(f10:ak e 10=.int .i64 0)(f43:ak e 43=W.v)(f44:ak e 44=.int .i64 ps.length)(f45:ak e 45=.int .i64 0)(C:∀e' j,aA RnC e e'->ak e' 10=.int .i64 (j:Nat)->j<=I8 bC ps->QQ (.exit 2) e' h):aB FF (.loop pg) e h QQ:=by
 have FP:W.l=ps.length:=by obtain⟨a,cap,e,_⟩:=hW;simp at e;exact e.2.1
 refine aB.loop (agj h ps bC e) ?_ (n:=ps.length) ⟨0,0,rfl,by omega,aA.refl _ _,f45,f10,rfl,Nat.zero_le _⟩;rintro m e' h'⟨t,j,rfl,ht,K,OC,y9,rfl,hj⟩;have q1:=K.at f1;have q2:=K.at f2;have Qn:=K.at f43;have Jb:=K.at f44;unfold pg;by_cases sG:t<ps.length
 .have wt:=wrap_i64 ((t:Int)+1) (by omega) (by omega);have hjt:I8 bC (ps.take t)<=t:=sD (XP _ _) (by simp;omega);have wj:=wrap_i64 ((j:Int)+1) (by omega) (by omega);have hx:ps[t]?=some ps[t]:=fI sG;generalize ps[t]=x at hx;obtain⟨bW,ajn,agA,XX,_,_,dj⟩:=hW.read hx;have r1:=dj 0 1 (by decide);simp[-ag] at r1 XX Qn;rw[XX.1,FP] at Qn;have Rw:ps.take (t+1)=ps.take t++[x]:=by rw[v9,hx];rfl
  have WJ:I8 bC (ps.take (t+1))=I8 bC (ps.take t)+(if x==(bC:Int) then 0 else 1):=by unfold I8;rw[Rw,List.filter_append,GJ];by_cases e:x=(bC:Int)<;>simp[e]
  have fin:∀(e2:Env)(j':Nat),aA RnC e e2->ak e2 45=.int .i64 ((t:Int)+1)->ak e2 10=.int .i64 (j':Nat)->j'<=I8 bC (ps.take (t+1))->∃m,m<ps.length-t/\agj h' ps bC e m e2 h':=by intro e2 j' K2 k45 k10 Rm;exact⟨ps.length-(t+1),by omega,t+1,j',rfl,sG,K2,by rw[k45];rfl,k10,rfl,Rm⟩
  by_cases c1:x<(now:Int)
  .by_cases c2:x=(bC:Int)
   .have c3:(x !=(bC:Int))=false:=by simp[c2]
    simp[q1,q2,Qn,Jb,OC,y9,sG,r1,c1,c3,wt,-ag];refine fin _ j ?_ (by simp) (by simp[y9]) (by rw[WJ];omega)
    repeat (refine aA.set ?_)
    exact K
   .have c3:(x !=(bC:Int))=true:=by simp[c2]
    have c4:(x==(bC:Int))=false:=by simp[c2]
    rw[c4] at WJ;simp at WJ;simp[q1,q2,Qn,Jb,OC,y9,sG,r1,c1,c3,wt,wj,-ag];refine fin _ (j+1) ?_ (by simp) (by simp) (by rw[WJ];omega)
    repeat (refine aA.set ?_)
    exact K
  .simp[q1,q2,Qn,Jb,OC,y9,sG,r1,c1,wt,-ag];refine fin _ j ?_ (by simp) (by simp[y9]) (by rw[WJ];omega)
   repeat (refine aA.set ?_)
   exact K
 .have:t=ps.length:=by omega
  subst this;simp[Jb,OC];exact C _ j (aA.set K) (by simp[y9]) (by rw[we] at hj;exact hj)
def mN(cC rs:List XR):Prop:=cC.length=rs.length/\∀(i:Nat)(r' r:XR),cC[i]?=some r'->rs[i]?=some r->r'= {r with ps:=r'.ps} /\mF r'.ps r.ps
theorem mN.refl(rs:List XR):mN rs rs:=⟨rfl,fun i a b h1 h2=>by rw[h1] at h2;cases h2;exact⟨rfl,mF.refl _⟩⟩
theorem mN.set{cC rs:List XR}(h:mN cC rs){y:Nat}{r:XR}(hr:cC[y]?=some r){qs:List (Int×SV)}(hq:mF qs r.ps):mN (cC.set y {r with ps:=qs}) rs:=by
 refine⟨by simp[h.1],fun i a b h1 h2=>?_⟩;rw[fg] at h1;by_cases e:y=i
 .subst e;rw[aZ rfl,aZ (cr.mp hr).1] at h1;cases h1;obtain⟨a1,a2⟩:=h.2 y r b hr h2;exact⟨by rw[a1],hq.trans a2⟩
 .rw[aW e] at h1;exact h.2 i a b h1 h2
def agi(n0 ai:Nat)(κ cap:Nat->Nat)(B:SV)(rs:List XR)(h:ae)(_:Value)(h':ae):Prop:=
 ab (fun b=>κ b=1\/κ b=3) h h'/\∃cC,pV h' n0 ai κ cap B cC/\mN cC rs
def amh(h:ae)(n0 ai:Nat)(κ cap:Nat->Nat)(B:SV)(rs:List XR)(c6:Value)(F:Nat)(bC now:Nat)(T:SV)(l:Nat)(m:Nat)(e:Env)(h':ae):Prop:=
 ∃(i:Nat) (cC:List XR),m=l-i/\i<=l/\ak e 0=.pointer (some ⟨F,0,none⟩)/\ak e 1=.int .i64 bC/\ak e 2=.int .i64 now/\ak e 6=c6/\ak e 28=T.v/\ak e 29=.int .i64 l/\ak e 30=.int .i64 i/\ab (fun b=>κ b=1\/κ b=3) h h'/\pV h' n0 ai κ cap B cC/\mN cC rs
def RowsIn(rs:List XR):Prop:=∀(k:Nat)(r:XR)(pk:List Int),rs[k]?=some r->(Edge.bD (bA rs))[k]?=some pk->∀q∈r.ps,q.2.l=pk.length
theorem LH(ok:bm h)(O:pV h n0 ai κ cap B rs)(wv:n0<=h.next)(hF:h.tr.get F=some (.aC (aw name p rg B) false 0 sF))(κF:κ F=0){bC now:Nat}{ro:XR}(JG:rs[bC]?=some ro)(T:TOk (bA rs))(rows:RowsIn rs)(pl:∀r∈rs,r.ps.length<1000000):
  aF FF yi [.pointer (some ⟨F,0,none⟩),.int .i64 bC,.int .i64 now] h (agi n0 ai κ cap B rs h):=by
 have sG:(bA rs).length=rs.length:=by simp[bA]
 have hn:=T.len;obtain⟨bs,KH,hV⟩:=O.view;have E:=hV.ends T;have N7:=hV.dy;have vh:bs.length=rs.length:=hV.1;have NY:=(cr.mp JG).1;have Ro:=O.os.r bC ro JG;have xZ:=Ro.T.len;have κlow:∀b,κ b≠0->b<h.next:=fun b hb=>(O.os.new b hb).2;have mI:=hF;simp[aw] at mI;refine aF.of FG ?_;unfold xU;simp[mI];refine aG.call (V:=fun v h'=>ab aK h h'/\∃d ws,v=.slice (some ⟨d,0,none⟩) bs.length bs.length/\jU bj h.next h' d ws (Edge.bD (bt bs))) (by simpa [aw] using oo ok (name:=name) (p:=p) (r:=rg) KH E) ?_;rintro _ h1⟨g1,d,ws,rfl,w1⟩;rw[N7] at w1;have O1:=O.bl ok g1;have xX:=g1.get ok mI;have anr:=g1.get ok hF;obtain⟨bB,cs,oB,sB,kC,PH,hjB,eU,dj,gE⟩:=O1.A.el JG;have LG:=dj 5 1 (by decide);simp[-ag] at LG;have UY:=O1.A.len;rw[kC,UY] at xX;simp[xX,NY,LG,xZ,-ag,av xX];refine aB.loop (amh h1 n0 ai κ cap B rs (.slice (some ⟨d,0,none⟩) bs.length bs.length) F bC now ro.T ro.ts.length) ?_ (n:=ro.ts.length)
  ⟨0,rs,rfl,by omega,by simp,by simp,by simp,by simp,by simp[xZ],by simp,by simp,.refl g1.ok,O1,mN.refl _⟩
 rintro m e' h'⟨i,cC,rfl,hi,q0,q1,q2,q6,EO,W2,LF,g,O',S⟩;have bz:=g.ok;unfold vp;by_cases gY:i<ro.ts.length
 .have wi:=wrap_i64 ((i:Int)+1) (by have:=T.two ro.ts (dZ.2 ⟨ro,dG JG,rfl⟩);omega) (by have:=T.two ro.ts (dZ.2 ⟨ro,dG JG,rfl⟩);omega);obtain⟨t,ht⟩:=aE ro.ts i gY;obtain⟨VD,htn⟩:=T.to ro.ts (dZ.2 ⟨ro,dG JG,rfl⟩) t (dG ht);obtain⟨u,rfl⟩:∃u:Nat,t=u:=⟨t.toNat,by omega⟩;have IK:u<rs.length:=by omega
  obtain⟨r0,AV⟩:=aE rs u IK;obtain⟨r1,rP⟩:=aE cC u (by rw[S.1];exact IK);obtain⟨er,sl⟩:=S.2 u r1 r0 rP AV;obtain⟨pk,CK⟩:=aE (Edge.bD (bA rs)) u (by rw[Edge.eQ,sG];exact IK);obtain⟨wk,KZ⟩:=aE ws u (by rw[w1.len,Edge.eQ,sG];exact IK);have KY:∀ts∈bA rs,∀t∈ts,t.toNat<(bA rs).length:=fun ts h t h2=>by have:=T.to ts h t h2;omega
  have xG:(bC:Int)∈pk:=by have:=(Edge.w_ KY (u:=u) (x:=(bC:Int))).2 ⟨bC,rfl,ro.ts,by simp[bA,JG],(u:Int),dG ht,by simp⟩;rw[CK] at this;exact this
  have hpkl:pk.length<=2000:=by
   have h1:=Edge.ov (n:=(bA rs).length) (dy:=bA rs) T.two u (bA rs).length;have h2:((Edge.upto (bA rs).length (bA rs) (bA rs).length)[u]?).getD []=pk:=by show((Edge.bD (bA rs))[u]?).getD []=pk;rw[CK];rfl
   rw[h2] at h1;omega
  have GW:=aet xG;have w':=w1.grow g1.ok g (fun b hb h=>by have:=κlow b (by omega);omega);obtain⟨sd,hd⟩:=w'.aC;have rw6:=wJ hd KZ;have hTs:=Js Ro.T.sl ok (g1.bl.trans g) (fun _ b hb h=>by have:=Ro.kT b hb;omega);obtain⟨bT,offT,capT,hTv,_,_,adF⟩:=hTs.read ht;have rt:=adF 0 1 (by decide);simp[-ag] at rt hTv rw6;simp at EO;rw[hTv.1,xZ] at EO;have hub:u<bs.length:=by omega
  simp[q6,q1,EO,W2,LF,gY,rt,rw6,hub,-ag];have hWs:bc bj h' wk.v pk:=(w'.acc u wk pk KZ CK).sl;refine aG.call (V:=fun v h2=>h2=h'/\∃k:Nat,v=.int .i64 k/\pk[k]?=some (bC:Int)) (by simpa using Lb hWs (by omega) xG) ?_;rintro _ h2⟨rfl,k,rfl,hk⟩;have rN:=(cr.mp hk).1;have K0:wk.l=pk.length:=by obtain⟨a,cap,e,_⟩:=hWs;simp at e;exact e.2.1
  simp[q6,q1,EO,W2,LF,rw6,hub,-ag];refine SD (bC:=bC) (now:=now) hWs (by omega) (by simp[q1]) (by simp[q2]) (by simp) (by simp) (by simp[K0]) (by simp) ?_;intro e3 j K3 k10 hj;have k0:=K3.at (t:=0) (by simp;exact q0);have k1:=K3.at (t:=1) (by simp;exact q1);have k2:=K3.at (t:=2) (by simp;exact q2);have k6:=K3.at (t:=6) (by simp;exact q6);have k8:ak e3 8=.int .i64 u:=K3.at (t:=8) (by simp);have k9:ak e3 9=.int .i64 k:=K3.at (t:=9) (by simp);have k28:=K3.at (t:=28) (by simp;exact EO);have k29:=K3.at (t:=29) (by simp;exact W2);have k30:=K3.at (t:=30) (by simp;exact LF);have vf:=g.get g1.ok xX (by omega);have xD:=g.get g1.ok anr (by omega);obtain⟨bB',Uv,oB',sB',tU,hBb',hjB',GQ,apx,abm⟩:=O'.A.el rP;rw[kC] at tU;cases tU;have rd1:=apx 0 1 (by decide);simp[-ag] at rd1;have R1:=O'.os.r u r1 rP;have kj:=R1.P.len;have Ym:u<rs.length:=IK;simp[k0,k8,vf,Ym,rd1,kj,-ag,av vf];refine Xa bz O' (by have:=g1.next;have:=g.next;omega) (F:=F) (y:=u) (k:=k) (j:=j) (l:=pk.length) xD κF rP (fun q hq=>?_) rN (by omega) (by omega) (by rw[sl.1];exact pl r0 (dG AV)) (by simp[k0]) (by simp[k8]) (by simp[k9]) (by simp[k10]) (by simp[kj]) (by simp) (by simp) ?_
  .obtain⟨m,hm⟩:=sv hq;obtain⟨p0,PT⟩:=aE r0.ps m (by rw[<-sl.1];exact(cr.mp hm).1);rw[(sl.2 m q p0 hm PT).2];exact rows u r0 pk AV CK p0 (dG PT)
  intro e4 h4 qs K4 g4 O4 S4;have m0:=K4.at (t:=0) (by simp;exact k0);have m1:=K4.at (t:=1) (by simp;exact k1);have m2:=K4.at (t:=2) (by simp;exact k2);have m6:=K4.at (t:=6) (by simp;exact k6);have m28:=K4.at (t:=28) (by simp;exact k28);have m29:=K4.at (t:=29) (by simp;exact k29);have m30:=K4.at (t:=30) (by simp;exact k30);simp[m30,wi];exact⟨ro.ts.length-(i+1),by omega,i+1,cC.set u {r1 with ps:=qs},rfl,gY,by simp[m0],by simp[m1],by simp[m2],by simp[m6],by simp[m28,hTv.1,xZ],by simp[m29],by simp,g.trans g4,O4,S.set rP S4⟩
 .have:i=ro.ts.length:=by omega
  subst this;simp[W2,LF];exact⟨(g1.bl.trans g),cC,O',S⟩
def ku(r:XR):Nat:=r.ps.length+r.ls.length
abbrev Sh:Type:=Int×(Bool×Int)×(Bool×Int)
def shV(v:Bool×Int):Bool×Int:=(v.1,if v.1 then 0 else v.2)
def shX(x:XI):Sh:=(x.op,shV x.a,shV x.b)
def uF(φ:Sh->Bool)(ls:List XI):Nat:=(ls.filter fun x=>φ (shX x)).length
def kK(φ:Sh->Bool)(rs:List XR):Nat:=(rs.map fun r=>uF φ r.ls).sum
def Yx(r:XR):Prop:=(r.kind=1/\r.ts=[])\/(r.kind=2/\∃t,r.ts=[t])\/(r.kind=3/\∃t u,r.ts=[t,u])
structure TF0(rs:List XR):Prop where
 n1:0<rs.length
 F9:rs.length<=72
 kind:∀r∈rs,Yx r
 to:∀r∈rs,∀t∈r.ts,1<=t/\t<rs.length
 rows:∀(k:Nat)(r:XR),rs[k]?=some r->∀q∈r.ps,q.2.l=(Edge.rowOf (bA rs) k rs.length).length
 sum:(rs.map ku).sum<=100000
 al:∀r∈rs,∀x∈r.ls,x.args.l<=1048576
 short:∀k,k<rs.length->(Edge.rowOf (bA rs) k rs.length).length<50
def Seen(rs:List XR):Prop:=∀(k:Nat)(r:XR),rs[k]?=some r->Edge.Cz (bA rs) k\/(r.kind=1/\r.ps=[]/\r.ls=[])
structure TF(rs:List XR):Prop extends TF0 rs where
 seen:∀(k:Nat)(r:XR),rs[k]?=some r->Edge.Cz (bA rs) k\/(r.kind=1/\r.ps=[]/\r.ls=[])
theorem dW(rs:List XR):(bA rs).length=rs.length:=by simp[bA]
theorem u5(h:rs[k]?=some r):(bA rs)[k]?=some r.ts:=by simp[bA,h]
theorem TF0.two(w:TF0 rs):∀r∈rs,r.ts.length<=2:=fun r hr=>by rcases w.kind r hr with⟨_,h⟩|⟨_,t,h⟩|⟨_,t,u,h⟩<;>rw[h]<;>simp
theorem TF0.tok(w:TF0 rs):TOk (bA rs):=by
 refine⟨by rw[dW];have:=w.F9;omega,fun ts h=>?_,fun ts h t ht=>?_⟩
 .obtain⟨r,hr,rfl⟩:=dZ.1 h;exact w.two r hr
 .obtain⟨r,hr,rfl⟩:=dZ.1 h;have:=w.to r hr t ht;rw[dW];omega
theorem TF0.nat(w:TF0 rs):∀ts∈bA rs,∀t∈ts,t.toNat<(bA rs).length:=fun ts h t ht=>by have:=w.tok.to ts h t ht;omega
theorem TF0.OK(w:TF0 rs):RowsIn rs:=by intro k r pk hr CK q hq;rw[w.rows k r hr q hq,Edge.pW w.nat CK,dW]
theorem TF0.Xs(w:TF0 rs):∀ps∈Edge.bD (bA rs),ps.length<50:=by intro ps h;obtain⟨k,hk⟩:=sv h;have hl:=(cr.mp hk).1;rw[Edge.eQ,dW] at hl;have:=w.short k hl;rw[Edge.pW w.nat hk,dW];exact this
theorem Qb{α:Type}{f:α->Nat} :∀ {l:List α} {x:α},x∈l->f x<=(l.map f).sum
 |y::l,x,h=>by
  rw[BY,PF];rcases List.mem_cons.1 h with rfl|h
  .omega
  .have:=Qb (f:=f) h;omega
theorem TF0.size(w:TF0 rs):∀r∈rs,r.ps.length<=100000/\r.ls.length<=100000:=fun r hr=>by have h1:=Qb (f:=ku) hr;have h2:=w.sum;have h3:ku r=r.ps.length+r.ls.length:=rfl;omega
theorem xn{α:Type}(f:α->Nat):∀(l:List α)(i:Nat)(x y:α),l[i]?=some x->((l.set i y).map f).sum+f x=(l.map f).sum+f y
 |a::l,0,x,y,h=>by simp at h;subst h;simp only[List.set_cons_zero,BY,PF];omega
 |a::l,i+1,x,y,h=>by have:=xn f l i x y (by simpa using h);simp only[List.set_cons_succ,BY,PF];omega
theorem Mb(f:α->Nat){l:List α}{x y x' y':α}(hi:l[i]?=some x)(hj:l[j]?=some y)(cq:i≠j)(he:f x'+f y'=f x+f y):(((l.set i x').set j y').map f).sum=(l.map f).sum:=by have h1:=xn f l i x x' hi;have h2:=xn f (l.set i x') j y y' (by rw[fg,aW cq];exact hj);omega
theorem Ae{cC rs:List XR}(S:mN cC rs){β:Type}(f:XR->β)(hf:∀(r:XR)(qs:List (Int×SV)),qs.length=r.ps.length->f {r with ps:=qs} =f r):cC.map f=rs.map f:=by
 refine zS fun i=>?_;rw[tT,tT];rcases zf i rs.length with hi|hi
 .obtain⟨r,hr⟩:=aE rs i hi;obtain⟨r',CZ⟩:=aE cC i (by rw[S.1];exact hi);obtain⟨e,sl⟩:=S.2 i r' r CZ hr;rw[hr,CZ,e];simp only[DY];rw[hf r r'.ps sl.1]
 .rw[tS hi,tS (by rw[S.1];exact hi)]
def eR:XR:=⟨d_,d_,d_,1,(false,0),[],[],[]⟩
def lz(rb rt:XR)(L:SV):XR:= {rb with L:=L,ls:=rb.ls++rt.ls,kind:=rt.kind,on:=rt.on,T:=rt.T,ts:=rt.ts}
structure zm(rs:List XR)(b to:Nat)(rb rt:XR):Prop where
 w:TF rs
 hb:rs[b]?=some rb
 ht:rs[to]?=some rt
 ne:to≠b
 h0:to≠0
 kind:rb.kind=2
 ts:rb.ts=[(to:Int)]
 ZS:rt.ps=[]
 one:(Edge.rowOf (bA rs) to rs.length).length<=1
def jumps(rs:List XR):Nat:=(rs.map fun r=>if r.kind=2 then 1 else 0).sum
section
variable{rs cC:List XR}{b to:Nat}{rb rt C9:XR}{L:SV}
theorem OU(rs:List XR)(b to:Nat)(x:XR)(t:List Int)(hx:x.ts=t):bA ((rs.set b x).set to eR)=Edge.qy (bA rs) b to t:=by unfold bA Edge.qy;rw[List.map_set,List.map_set,hx];rfl
theorem Ur(c:zm rs b to rb rt)(S:mN cC rs)(gk:cC[b]?=some C9):TF ((cC.set b (lz C9 rt L)).set to eR):=by
 have w:=c.w;have vh:=(cr.mp c.hb).1;have sG:=(cr.mp c.ht).1;have qE:bA cC=bA rs:=Ae S (·.ts) (fun _ _ _=>rfl);obtain⟨eb,sb⟩:=S.2 b C9 rb gk c.hb;obtain⟨rt',zk⟩:=aE cC to (by rw[S.1];exact sG);obtain⟨et,st⟩:=S.2 to rt' rt zk c.ht;have hT:bA ((cC.set b (lz C9 rt L)).set to eR)=Edge.qy (bA rs) b to rt.ts:=by rw[OU cC b to (lz C9 rt L) rt.ts rfl,qE]
 have bY:((cC.set b (lz C9 rt L)).set to eR).length=rs.length:=by simp[S.1]
 have hbT:(bA rs)[b]?=some [(to:Int)]:=by rw[u5 c.hb,c.ts]
 have htT:=u5 c.ht;have adx:(Edge.rowOf (bA rs) to (bA rs).length).length<=1:=by rw[dW];exact c.one
 have ro:∀k,k≠to->(Edge.rowOf (Edge.qy (bA rs) b to rt.ts) k rs.length).length=(Edge.rowOf (bA rs) k rs.length).length:=fun k hk=>by have:=Edge.SJ hbT htT c.ne hk;rw[dW] at this;exact this
 
 have at':∀(k:Nat)(x:XR),((cC.set b (lz C9 rt L)).set to eR)[k]?=some x->(k=to/\x=eR)\/(k≠to/\k=b/\x=lz C9 rt L)\/(k≠to/\k≠b/\∃r,rs[k]?=some r/\x= {r with ps:=x.ps} /\mF x.ps r.ps):=by
  intro k x hx;rw[fg] at hx;by_cases e1:to=k
  .subst e1;rw[aZ rfl,aZ (by simp[S.1];exact sG)] at hx;exact .inl ⟨rfl,(Option.some.inj hx).symm⟩
  .rw[aW e1,fg] at hx;by_cases e2:b=k
   .subst e2;rw[aZ rfl,aZ (by rw[S.1];exact vh)] at hx;exact .inr (.inl ⟨Ne.symm e1,rfl,(Option.some.inj hx).symm⟩)
   .rw[aW e2] at hx;have hk:k<rs.length:=by rw[<-S.1];exact(cr.mp hx).1
    obtain⟨r,hr⟩:=aE rs k hk;obtain⟨e,s⟩:=S.2 k x r hx hr;exact .inr (.inr ⟨Ne.symm e1,Ne.symm e2,r,hr,e,s⟩)
 have ad7:∀x,x∈((cC.set b (lz C9 rt L)).set to eR)->x=eR\/x=lz C9 rt L\/∃r∈rs,x= {r with ps:=x.ps} /\mF x.ps r.ps:=by
  intro x hx;obtain⟨k,hk⟩:=sv hx;rcases at' k x hk with⟨_,e⟩|⟨_,_,e⟩|⟨_,_,r,hr,e,s⟩
  .exact .inl e
  .exact .inr (.inl e)
  .exact .inr (.inr ⟨r,dG hr,e,s⟩)
 have mt:=dG c.ht;have mb:=dG c.hb;refine⟨⟨by rw[bY];exact w.n1,by rw[bY];exact w.F9,fun x hx=>?_,fun x hx t ht=>?_,fun k x hx q hq=>?_,?_,fun x hx y hy=>?_,fun k hk=>?_⟩,fun k x hx=>?_⟩
 .rcases ad7 x hx with rfl|rfl|⟨r,hr,e,_⟩
  .exact .inl ⟨rfl,rfl⟩
  .exact w.kind rt mt
  .rw[e];exact w.kind r hr
 .rw[bY];rcases ad7 x hx with rfl|rfl|⟨r,hr,e,_⟩
  .exact absurd ht (om)
  .exact w.to rt mt t ht
  .rw[e] at ht;exact w.to r hr t ht
 .rw[hT,bY];rcases at' k x hx with⟨_,rfl⟩|⟨hk,rfl,rfl⟩|⟨hk,_,r,hr,_,s⟩
  .exact absurd hq (om)
  .rw[ro _ hk];have Yj:q∈C9.ps:=hq;obtain⟨m,hm⟩:=sv Yj;obtain⟨p,hp⟩:=aE rb.ps m (by rw[<-sb.1];exact(cr.mp hm).1);rw[(sb.2 m q p hm hp).2];exact w.rows _ rb c.hb p (dG hp)
  .rw[ro _ hk];obtain⟨m,hm⟩:=sv hq;obtain⟨p,hp⟩:=aE r.ps m (by rw[<-s.1];exact(cr.mp hm).1);rw[(s.2 m q p hm hp).2];exact w.rows _ r hr p (dG hp)
 .have e1:=Mb ku (x':=lz C9 rt L) (y':=eR) gk zk (Ne.symm c.ne) (by rw[et];simp only[ku,lz,eR,GJ,List.length_nil];rw[st.1,c.ZS,eb];simp only[List.length_nil];omega)
  rw[e1,Ae S ku (fun r qs h=>by simp only[ku,h])];exact w.sum
 .rcases ad7 x hx with rfl|rfl|⟨r,hr,e,_⟩
  .exact absurd hy (om)
  .simp only[lz,lE] at hy;rcases hy with h|h
   .rw[eb] at h;exact w.al rb mb y h
   .exact w.al rt mt y h
  .rw[e] at hy;exact w.al r hr y hy
 .rw[bY] at hk;rw[hT,bY];have h1:=Edge.Jh hbT htT c.ne k;rw[dW] at h1;exact Nat.lt_of_le_of_lt h1 (w.short k hk)
 .rw[hT];rcases at' k x hx with⟨_,rfl⟩|⟨hk,rfl,rfl⟩|⟨hk,_,r,hr,e,s⟩
  .exact .inr ⟨rfl,rfl,rfl⟩
  .rcases w.seen _ rb c.hb with h|⟨h,_⟩
   .exact .inl (Edge.Cz.chain hbT htT c.ne c.h0 adx h hk)
   .rw[c.kind] at h;cases h
  .rcases w.seen k r hr with h|⟨h1,h2,h3⟩
   .exact .inl (Edge.Cz.chain hbT htT c.ne c.h0 adx h hk)
   .refine .inr ⟨by rw[e];exact h1,?_,by rw[e];exact h3⟩;refine JC ?_;rw[s.1,h2];rfl
theorem M9(c:zm rs b to rb rt)(S:mN cC rs)(gk:cC[b]?=some C9)(φ:Sh->Bool):kK φ ((cC.set b (lz C9 rt L)).set to eR)=kK φ rs:=by have sG:=(cr.mp c.ht).1;obtain⟨eb,sb⟩:=S.2 b C9 rb gk c.hb;obtain⟨rt',zk⟩:=aE cC to (by rw[S.1];exact sG);obtain⟨et,st⟩:=S.2 to rt' rt zk c.ht;unfold kK;rw[Mb (fun r=>uF φ r.ls) (x':=lz C9 rt L) (y':=eR) gk zk (Ne.symm c.ne) ?_,Ae S (fun r=>uF φ r.ls) (fun _ _ _=>rfl)];rw[et];simp only[lz,eR,uF,List.filter_append,GJ,List.filter_nil,List.length_nil];omega
theorem Ka(c:zm rs b to rb rt)(S:mN cC rs)(gk:cC[b]?=some C9):jumps ((cC.set b (lz C9 rt L)).set to eR)<jumps rs:=by
 have sG:=(cr.mp c.ht).1;have vh:=(cr.mp c.hb).1;obtain⟨eb,sb⟩:=S.2 b C9 rb gk c.hb;obtain⟨rt',zk⟩:=aE cC to (by rw[S.1];exact sG);obtain⟨et,st⟩:=S.2 to rt' rt zk c.ht;have e0:jumps cC=jumps rs:=by unfold jumps;rw[Ae S (fun r=>if r.kind=2 then 1 else 0) (fun _ _ _=>rfl)]
 have h1:=xn (fun r:XR=>if r.kind=2 then 1 else 0) cC b C9 (lz C9 rt L) gk;have h2:=xn (fun r:XR=>if r.kind=2 then 1 else 0) (cC.set b (lz C9 rt L)) to rt' eR (by rw[fg,aW (Ne.symm c.ne)];exact zk);have k1:C9.kind=2:=by rw[eb];exact c.kind
 have k2:(lz C9 rt L).kind=rt'.kind:=by rw[et];rfl
 have k3:eR.kind=1:=rfl;simp only[k1,k2,k3] at h1 h2;unfold jumps at e0⊢;simp only[if_true,show ¬((1:Int)=2) by decide,if_false] at h1 h2;omega
end
section
variable{h h':ae}{n0 ai:Nat}{κ κ' cap:Nat->Nat}{rs:List XR}
theorem Nd{f:XR->SV}{xs:List XR}(d:∀(i j:Nat)(ri rj:XR)(b:Nat),rs[i]?=some ri->rs[j]?=some rj->i≠j->ax (f ri).v b->¬ax (f rj).v b)(g:Nat->Nat)(hg:∀(i:Nat)(x:XR),xs[i]?=some x->(f x).a=none\/∃r,rs[g i]?=some r/\f r=f x)(inj:∀(i j:Nat)(x y:XR),xs[i]?=some x->xs[j]?=some y->i≠j->g i=g j->(f x).a=none\/(f y).a=none):
  ∀(i j:Nat)(ri rj:XR)(b:Nat),xs[i]?=some ri->xs[j]?=some rj->i≠j->ax (f ri).v b->¬ax (f rj).v b:=by
 intro i j x y b hx hy hn Tp CI;rcases hg i x hx with h1|⟨r1,h1,e1⟩
 .exact fS h1 Tp
 rcases hg j y hy with h2|⟨r2,h2,e2⟩
 .exact fS h2 CI
 by_cases e:g i=g j
 .rcases inj i j x y hx hy hn e with h|h
  .exact fS h Tp
  .exact fS h CI
 .exact d (g i) (g j) r1 r2 b h1 h2 e (by rw[e1];exact Tp) (by rw[e2];exact CI)
theorem cn.ad_(w:cn h n0 ai κ cap rs)(ok:bm h)(hr:rs[i]?=some r)(g:ab (ax r.L.v) h h')(hL:eY jZ h' L' C3)(ext:∀b,κ b≠0->κ' b=κ b)(e1:∀b,κ' b=1->κ b=1)(hk:∀b,ax L'.v b->κ' b=4)(hd:∀(j:Nat)(x:XR),rs[j]?=some x->i≠j->∀b,ax L'.v b->¬ax x.L.v b)(new:∀b,κ' b≠0->n0<=b/\b<h'.next)(Fl:∀x∈C3,x.dst<ai/\fk ai x.a/\fk ai x.b/\VA κ cap x.args):
  cn h' n0 ai κ' cap (rs.set i {r with L:=L',ls:=C3}):=by
 have hi:=(cr.mp hr).1;have R:=w.r i r hr;have UH:∀b,κ b≠0->κ' b=κ b/\cap b=cap b:=fun b hb=>⟨ext b hb,rfl⟩;have acp:∀b,κ b=1->κ' b=1/\cap b=cap b:=fun b hb=>⟨by rw[ext b (by omega),hb],rfl⟩;refine⟨fun j x hx=>?_,eI (f:=(·.P)) hr w.dP rfl,?_,eI (f:=(·.T)) hr w.dT rfl,fun b hb=>(w.V.grow ok g (fun b hb=>by have:=R.kL b hb;omega)) b (e1 b hb),new⟩
 .rw[fg] at hx;by_cases e1:i=j
  .rw[aZ e1,aZ hi] at hx;cases hx;have R':=R.congr UH;exact⟨R.P.grow ok g (fun b hb hs=>by have:=R.kL b hs;have:=R.kP b hb;omega),hL,R.T.grow ok g (fun b hb hs=>by have:=R.kL b hs;have:=R.kT b hb;omega),R'.kP,hk,R'.kT,R'.ps,fun x hx=>⟨(Fl x hx).1,(Fl x hx).2.1,(Fl x hx).2.2.1,(Fl x hx).2.2.2.congr acp⟩,R.on⟩
  .rw[aW e1] at hx;have Rx:=w.r j x hx;exact(Rx.grow ok g (fun b hb=>⟨fun h=>by have:=R.kL b hb;have:=Rx.kP b h;omega,w.dL i j r x b hr hx e1 hb,fun h=>by have:=R.kL b hb;have:=Rx.kT b h;omega⟩)).congr UH
 .intro i' j ri rj b h1 h2 hn hb cA;rw[fg] at h1 h2;by_cases e1:i=i'
  .rw[aZ e1,aZ hi] at h1;cases h1;rw[aW (by omega)] at h2;exact hd j rj h2 (by omega) b hb cA
  .rw[aW e1] at h1;by_cases e2:i=j
   .rw[aZ e2,aZ hi] at h2;cases h2;exact hd i' ri h1 e1 b cA hb
   .rw[aW e2] at h2;exact w.dL i' j ri rj b h1 h2 hn hb cA
theorem cn.amG(w:cn h n0 ai κ cap rs)(ok:bm h)(wv:n0<=h.next)(hr:rs[i]?=some r)(g:ab (ax r.L.v) h h')(hL:eY jZ h' L' C3)(hb:∀b,ax L'.v b->ax r.L.v b\/b=h.next)(Fl:∀x∈C3,x.dst<ai/\fk ai x.a/\fk ai x.b/\VA κ cap x.args):
  ∃κ':Nat->Nat,cn h' n0 ai κ' cap (rs.set i {r with L:=L',ls:=C3})/\(∀b,b<h.next->κ' b=κ b)/\(∀b,κ' b=2->κ b=2):=by
 have R:=w.r i r hr;have κn:κ h.next=0:=by
  have hw:=w.new h.next;rcases ve (κ h.next) with h1|h1
  .exact h1
  .have:=(hw (by omega)).2;omega
 by_cases e:ax L'.v h.next
 .obtain⟨κ',VJ,VK⟩:∃κ':Nat->Nat,κ' h.next=4/\∀b,b≠h.next->κ' b=κ b:=⟨fun b=>if b=h.next then 4 else κ b,aZ rfl,fun b hb=>aW hb⟩;have only:∀b,ax L'.v b->b=h.next:=by intro b hb;obtain⟨_,_,_,e1⟩:=hb;obtain⟨_,_,_,e2⟩:=e;rw[e1] at e2;simp at e2;exact e2.1.1
  have dS:=hL.bC g.ok e;refine⟨κ',w.ad_ ok hr g hL (fun b hb=>VK b (fun e=>hb (by rw[e];exact κn))) (fun b hb=>?_) (fun b hb=>by rw[only b hb];exact VJ) (fun j x hx _ b hb cA=>by
   have:=(w.r j x hx).kL b cA;rw[only b hb] at this;omega) (fun b hb=>?_) Fl,fun b hb=>VK b (by omega),fun b hb=>?_⟩
  .by_cases e1:b=h.next
   .rw[e1,VJ] at hb;omega
   .rw[VK b e1] at hb;exact hb
  .by_cases e1:b=h.next
   .rw[e1];exact⟨wv,dS⟩
   .rw[VK b e1] at hb;have:=w.new b hb;have:=g.next;omega
  .by_cases e1:b=h.next
   .rw[e1,VJ] at hb;omega
   .rw[VK b e1] at hb;exact hb
 .have sub:∀b,ax L'.v b->ax r.L.v b:=fun b h1=>(hb b h1).resolve_right (fun e1=>e (e1▸h1));exact⟨κ,w.ad_ ok hr g hL (fun _ _=>rfl) (fun _ h=>h) (fun b hb=>R.kL b (sub b hb)) (fun j x hx hn b hb=>w.dL i j r x b hr hx hn (sub b hb)) (fun b hb=>by have:=w.new b hb;have:=g.next;omega) Fl,fun _ _=>rfl,fun _ h=>h⟩
theorem cn.ajf(w:cn h n0 ai κ cap rs)(hb:rs[b]?=some rb)(ht:rs[to]?=some rt)(cq:b≠to)(k:Int):cn h n0 ai κ cap ((rs.set b {rb with kind:=k,on:=rt.on,T:=rt.T,ts:=rt.ts}).set to eR):=by
 have vh:=(cr.mp hb).1;have sG:=(cr.mp ht).1;have Rb:=w.r b rb hb;have Rt:=w.r to rt ht;have at':∀(i:Nat)(x:XR),((rs.set b {rb with kind:=k,on:=rt.on,T:=rt.T,ts:=rt.ts}).set to eR)[i]?=some x->(i=to/\x=eR)\/(i≠to/\i=b/\x= {rb with kind:=k,on:=rt.on,T:=rt.T,ts:=rt.ts})\/(i≠to/\i≠b/\rs[i]?=some x):=by
  intro i x hx;rw[fg] at hx;by_cases e1:to=i
  .subst e1;rw[aZ rfl,aZ (by simpa using sG)] at hx;exact .inl ⟨rfl,(Option.some.inj hx).symm⟩
  .rw[aW e1,fg] at hx;by_cases e2:b=i
   .subst e2;rw[aZ rfl,aZ vh] at hx;exact .inr (.inl ⟨Ne.symm e1,rfl,(Option.some.inj hx).symm⟩)
   .rw[aW e2] at hx;exact .inr (.inr ⟨Ne.symm e1,Ne.symm e2,hx⟩)
 have idg:∀(f:XR->SV),f eR=d_->f {rb with kind:=k,on:=rt.on,T:=rt.T,ts:=rt.ts} =f rb->∀(i:Nat)(x:XR),((rs.set b {rb with kind:=k,on:=rt.on,T:=rt.T,ts:=rt.ts}).set to eR)[i]?=some x->(f x).a=none\/∃r,rs[id i]?=some r/\f r=f x:=by
  intro f e1 e2 i x hx;rcases at' i x hx with⟨_,rfl⟩|⟨_,rfl,rfl⟩|⟨_,_,h⟩
  .rw[e1];exact .inl rfl
  .exact .inr ⟨rb,hb,e2.symm⟩
  .exact .inr ⟨x,h,rfl⟩
 refine⟨fun i x hx=>?_,Nd (f:=(·.P)) w.dP id (idg (·.P) rfl rfl) (fun i j x y _ _ h1 h2=>absurd h2 h1),Nd (f:=(·.L)) w.dL id (idg (·.L) rfl rfl) (fun i j x y _ _ h1 h2=>absurd h2 h1),
  Nd (f:=(·.T)) w.dT (fun i=>if i=b then to else i) (fun i x hx=>?_) (fun i j x y hx hy hn he=>?_),w.V,w.new⟩
 .rcases at' i x hx with⟨_,rfl⟩|⟨_,rfl,rfl⟩|⟨_,_,h⟩
  .exact⟨eY.nil _ _,eY.nil _ _,eY.nil _ _,fun b hb=>(fS rfl hb).elim,fun b hb=>(fS rfl hb).elim,fun b hb=>(fS rfl hb).elim,fun p hp=>(om hp).elim,fun p hp=>(om hp).elim,fun h=>by cases h⟩
  .exact⟨Rb.P,Rb.L,Rt.T,Rb.kP,Rb.kL,Rt.kT,Rb.ps,Rb.ls,Rt.on⟩
  .exact w.r i x h
 .rcases at' i x hx with⟨_,rfl⟩|⟨_,rfl,rfl⟩|⟨_,hn,h⟩
  .exact .inl rfl
  .exact .inr ⟨rt,by simp only[if_true];exact ht,rfl⟩
  .exact .inr ⟨x,by simp only[aW hn];exact h,rfl⟩
 .rcases at' i x hx with⟨_,rfl⟩|⟨h1,h2,h3⟩|⟨h1,h2,h3⟩
  .exact .inl rfl
  .rcases at' j y hy with⟨_,rfl⟩|⟨k1,k2,k3⟩|⟨k1,k2,k3⟩
   .exact .inr rfl
   .exact absurd (h2.trans k2.symm) hn
   .rw[aZ h2,aW k2] at he;exact absurd he.symm k1
  .rcases at' j y hy with⟨_,rfl⟩|⟨k1,k2,k3⟩|⟨k1,k2,k3⟩
   .exact .inr rfl
   .rw[aW h2,aZ k2] at he;exact absurd he h1
   .rw[aW h2,aW k2] at he;exact absurd he hn
end
section
variable{h h':ae}{n0 ai:Nat}{κ κ' cap:Nat->Nat}{rs:List XR}
theorem bH.arr{E:Enc α}{xs:List α}(a:bH E n0 h L.v xs):eY E h L xs:=by
 rcases a with⟨rfl,e⟩|⟨b,s,e,hb,hx,hn⟩
 .simp at e;exact⟨e.2.1,.inl ⟨e.1,e.2.2,rfl⟩⟩
 .simp at e;exact⟨e.2.1,.inr ⟨b,E.sz,s,[],e.1,by simp[e.2.2],by simpa using hb,.inr rfl⟩⟩
theorem cn.aqt(w:cn h n0 ai κ cap rs)(ok:bm h)(hr:rs[i]?=some r)(g:ab (ax r.P.v) h h')(hP:eY gL h' P' C7)(ext:∀b,κ b≠0->κ' b=κ b)(e1:∀b,κ' b=1->κ b=1)(hk:∀b,ax P'.v b->κ' b=3)(hd:∀(j:Nat)(x:XR),rs[j]?=some x->i≠j->∀b,ax P'.v b->¬ax x.P.v b)(new:∀b,κ' b≠0->n0<=b/\b<h'.next)(iI:∀p∈C7,(0<=p.1/\p.1<ai)/\VA κ cap p.2):
  cn h' n0 ai κ' cap (rs.set i {r with P:=P',ps:=C7}):=by
 have hi:=(cr.mp hr).1;have R:=w.r i r hr;have UH:∀b,κ b≠0->κ' b=κ b/\cap b=cap b:=fun b hb=>⟨ext b hb,rfl⟩;have acp:∀b,κ b=1->κ' b=1/\cap b=cap b:=fun b hb=>⟨by rw[ext b (by omega),hb],rfl⟩;refine⟨fun j x hx=>?_,?_,eI (f:=(·.L)) hr w.dL rfl,eI (f:=(·.T)) hr w.dT rfl,fun b hb=>(w.V.grow ok g (fun b hb=>by have:=R.kP b hb;omega)) b (e1 b hb),new⟩
 .rw[fg] at hx;by_cases e1:i=j
  .rw[aZ e1,aZ hi] at hx;cases hx;have R':=R.congr UH;exact⟨hP,R.L.grow ok g (fun b hb hs=>by have:=R.kP b hs;have:=R.kL b hb;omega),R.T.grow ok g (fun b hb hs=>by have:=R.kP b hs;have:=R.kT b hb;omega),hk,R'.kL,R'.kT,fun p hp=>⟨(iI p hp).1,(iI p hp).2.congr acp⟩,R'.ls,R.on⟩
  .rw[aW e1] at hx;have Rx:=w.r j x hx;exact(Rx.grow ok g (fun b hb=>⟨w.dP i j r x b hr hx e1 hb,fun h=>by have:=R.kP b hb;have:=Rx.kL b h;omega,fun h=>by have:=R.kP b hb;have:=Rx.kT b h;omega⟩)).congr UH
 .intro i' j ri rj b h1 h2 hn hb cA;rw[fg] at h1 h2;by_cases e1:i=i'
  .rw[aZ e1,aZ hi] at h1;cases h1;rw[aW (by omega)] at h2;exact hd j rj h2 (by omega) b hb cA
  .rw[aW e1] at h1;by_cases e2:i=j
   .rw[aZ e2,aZ hi] at h2;cases h2;exact hd i' ri h1 e1 b cA hb
   .rw[aW e2] at h2;exact w.dP i' j ri rj b h1 h2 hn hb cA
theorem cn.acy(w:cn h n0 ai κ cap rs)(ok:bm h)(wv:n0<=h.next)(hr:rs[i]?=some r)(g:ab aK h h')(hL:eY gL h' L' C7)(hb:∀b,ax L'.v b->nl<=b)(PS:n0<=nl/\nl<=h.next)(KQ:∀b,nl<=b->κ b=0)(Fl:∀p∈C7,(0<=p.1/\p.1<ai)/\VA κ cap p.2):
  ∃κ':Nat->Nat,cn h' n0 ai κ' cap (rs.set i {r with P:=L',ps:=C7})/\(∀b,b<nl->κ' b=κ b)/\(∀b,κ' b=2->κ b=2):=by
 classical
 obtain⟨κ',hκ⟩:∃κ':Nat->Nat,∀b,κ' b=if ax L'.v b then 3 else κ b:=⟨fun b=>if ax L'.v b then 3 else κ b,fun b=>rfl⟩
 have low:∀b,b<nl->κ' b=κ b:=fun b cA=>by rw[hκ,aW (fun e=>by have:=hb b e;omega)]
 have back:∀k b,k≠3->κ' b=k->κ b=k:=fun k b hk cA=>by
  rw[hκ] at cA;split at cA
  .omega
  .exact cA
 refine⟨κ',w.aqt ok hr (g.bU (fun _ _ h=>h.elim)) hL (fun b cA=>?_) (fun b cA=>back 1 b (by decide) cA) (fun b cA=>by rw[hκ,aZ cA]) (fun j x hx _ b D1 cA=>?_) (fun b cA=>?_) Fl,low,fun b cA=>back 2 b (by decide) cA⟩
 .rw[hκ,aW (fun e=>cA (KQ b (hb b e)))]
 .have:=KQ b (hb b D1);have:=(w.r j x hx).kP b cA;omega
 .rw[hκ] at cA;split at cA
  .rename_i e;have:=hb b e;exact⟨by omega,hL.bC g.ok e⟩
  .have:=w.new b cA;have:=g.next;omega
theorem cn.acx(w:cn h n0 ai κ cap rs)(ok:bm h)(wv:n0<=h.next)(hr:rs[i]?=some r)(g:ab aK h h')(hL:eY jZ h' L' C3)(hb:∀b,ax L'.v b->nl<=b)(PS:n0<=nl/\nl<=h.next)(KQ:∀b,nl<=b->κ b=0)(Fl:∀x∈C3,x.dst<ai/\fk ai x.a/\fk ai x.b/\VA κ cap x.args):
  ∃κ':Nat->Nat,cn h' n0 ai κ' cap (rs.set i {r with L:=L',ls:=C3})/\(∀b,b<nl->κ' b=κ b)/\(∀b,κ' b=2->κ b=2):=by
 classical
 obtain⟨κ',hκ⟩:∃κ':Nat->Nat,∀b,κ' b=if ax L'.v b then 4 else κ b:=⟨fun b=>if ax L'.v b then 4 else κ b,fun b=>rfl⟩
 have low:∀b,b<nl->κ' b=κ b:=fun b cA=>by rw[hκ,aW (fun e=>by have:=hb b e;omega)]
 have back:∀k b,k≠4->κ' b=k->κ b=k:=fun k b hk cA=>by
  rw[hκ] at cA;split at cA
  .omega
  .exact cA
 refine⟨κ',w.ad_ ok hr (g.bU (fun _ _ h=>h.elim)) hL (fun b cA=>?_) (fun b cA=>back 1 b (by decide) cA) (fun b cA=>by rw[hκ,aZ cA]) (fun j x hx _ b D1 cA=>?_) (fun b cA=>?_) Fl,low,fun b cA=>back 2 b (by decide) cA⟩
 .rw[hκ,aW (fun e=>cA (KQ b (hb b e)))]
 .have:=KQ b (hb b D1);have:=(w.r j x hx).kL b cA;omega
 .rw[hκ] at cA;split at cA
  .rename_i e;have:=hb b e;exact⟨by omega,hL.bC g.ok e⟩
  .have:=w.new b cA;have:=g.next;omega
end
def iN(x:XI):Int×Int×Int×SV:=(x.op,x.dst,x.fn,x.args)
def gK(ks:List (Int×Int×Int×SV)):List Int:=(ks.filter fun k=>decide (0<=k.2.1)).map (·.2.1)
def eJ(r:XR):List Int:=r.ps.map (·.1)++gK (r.ls.map iN)
def Oq(c:Int)(ls:List XI):Nat:=(ls.filter fun x=>x.op==c).length
theorem Qh(c:Int)(ls:List XI):Oq c ls=((ls.map iN).filter fun k=>k.1==c).length:=by unfold Oq;rw[List.filter_map,UP];rfl
structure vC(r r':XR):Prop where
 kind:r'.kind=r.kind
 ts:r'.ts=r.ts
 ps:r'.ps.Sublist r.ps
 ls:(r'.ls.map iN).Sublist (r.ls.map iN)
 op:∀c:Int,c<1\/17<c->Oq c r'.ls=Oq c r.ls
theorem vC.refl(r:XR):vC r r:=⟨rfl,rfl,List.Sublist.refl _,List.Sublist.refl _,fun _ _=>rfl⟩
theorem vC.trans{a b c:XR}(x:vC a b)(y:vC b c):vC a c:=⟨y.kind.trans x.kind,y.ts.trans x.ts,y.ps.trans x.ps,y.ls.trans x.ls,fun k hk=>(y.op k hk).trans (x.op k hk)⟩
theorem vC.Q0{a b:XR}(x:vC a b):(eJ b).Sublist (eJ a):=by unfold eJ gK;exact(x.ps.map _).append ((x.ls.filter _).map _)
theorem vC.size{a b:XR}(x:vC a b):ku b<=ku a:=by have h1:=x.ps.length_le;have h2:=x.ls.length_le;simp only[UP] at h2;unfold ku;omega
theorem vC.aqI{a b:XR}(x:vC a b)(c:Int):Oq c b.ls<=Oq c a.ls:=by rw[Qh,Qh];exact(x.ls.filter _).length_le
def vq(rs:List XR):Nat:=(rs.map ku).sum
structure WR(D:Nat->Prop)(rs cC:List XR)(nw ko:List (Bool×Int))(aR cH:Bool):Prop where
 len:cC.length=rs.length
 same:∀i,¬D i->cC[i]?=rs[i]?
 row:∀(i:Nat)(r r':XR),rs[i]?=some r->cC[i]?=some r'->vC r r'
 now:∀q:Nat,(∀(i:Nat)(r:XR),D i->rs[i]?=some r->(q:Int)∉eJ r)->ko[q]?=nw[q]?
 size:cH=true->aR=true\/vq cC<vq rs
theorem u4{α:Type}(f:α->Nat):∀(xs ys:List α),xs.length=ys.length->(∀(i:Nat)(x y:α),xs[i]?=some x->ys[i]?=some y->f x<=f y)->(xs.map f).sum<=(ys.map f).sum
 |[],[],_,_=>dw _
 |[],_::_,h,_=>by simp at h
 |_::_,[],h,_=>by simp at h
 |x::xs,y::ys,h,H=>by have h0:=H 0 x y rfl rfl;have h1:=u4 f xs ys (by simpa using h) (fun i a b p q=>H (i+1) a b p q);simp only[BY,PF];omega
section
variable{D D' D2:Nat->Prop}{rs tg Fv:List XR}{nw I3 nw2:List (Bool×Int)}{aR jS yb:Bool}
theorem WR.refl(D:Nat->Prop)(rs:List XR)(nw:List (Bool×Int))(aR:Bool):WR D rs rs nw nw aR aR:=
 ⟨rfl,fun _ _=>rfl,fun i r r' a b=>by rw[a] at b;cases b;exact .refl r,fun _ _=>rfl,fun h=>.inl h⟩
theorem WR.Hw(w:WR D rs tg nw I3 aR jS):vq tg<=vq rs:=u4 _ _ _ w.len (fun i x y a b=>(w.row i y x b a).size)
theorem WR.at_(w:WR D rs tg nw I3 aR jS)(h:rs[i]?=some r):∃r',tg[i]?=some r'/\vC r r':=by obtain⟨r',hr⟩:∃r',tg[i]?=some r':=⟨_,fI (by rw[w.len];exact(cr.mp h).1)⟩;exact⟨r',hr,w.row i r r' h hr⟩
theorem WR.back(w:WR D rs tg nw I3 aR jS)(h:tg[i]?=some r'):∃r,rs[i]?=some r/\vC r r':=by obtain⟨r,hr⟩:=aE rs i (by rw[<-w.len];exact(cr.mp h).1);exact⟨r,hr,w.row i r r' hr h⟩
theorem WR.trans(x:WR D rs tg nw I3 aR jS)(y:WR D' tg Fv I3 nw2 jS yb)(h1:∀i,D i->D2 i)(h2:∀i,D' i->D2 i):WR D2 rs Fv nw nw2 aR yb:=by
 refine⟨y.len.trans x.len,fun i hi=>(y.same i (fun h=>hi (h2 i h))).trans (x.same i (fun h=>hi (h1 i h))),fun i r r2 a b=>?_,fun q hq=>?_,fun hm=>?_⟩
 .obtain⟨r1,c,e⟩:=x.at_ a;exact e.trans (y.row i r1 r2 c b)
 .rw[y.now q (fun i r hi hr=>?_),x.now q (fun i r hi hr=>hq i r (h1 i hi) hr)];obtain⟨r0,a,b⟩:=x.back hr;exact fun hm=>hq i r0 (h2 i hi) a (b.Q0.subset hm)
 .have:=x.Hw;rcases y.size hm with h|h
  .rcases x.size h with h|h
   .exact .inl h
   .have:=y.Hw;exact .inr (by omega)
  .exact .inr (by omega)
def Uq(rs:List XR):Prop:=(rs.flatMap eJ).Nodup
theorem Uq.one(u:Uq rs)(h:rs[i]?=some r):(eJ r).Nodup:=by obtain⟨a,b,rfl⟩:=List.append_of_mem (dG h);unfold Uq at u;simp only[List.flatMap_append,List.flatMap_cons] at u;exact(List.nodup_append.1 (List.nodup_append.1 u).2.1).1
theorem Uq.apart:∀ {rs:List XR},Uq rs->∀ {i j:Nat} {r s:XR},rs[i]?=some r->rs[j]?=some s->i≠j->∀q∈eJ r,q∉eJ s
 |[],_,i,j,r,s,h,_,_,_,_=>by simp at h
 |x::rs,u,i,j,r,s,hi,hj,hn,q,hq=>by
  unfold Uq at u;simp only[List.flatMap_cons] at u;obtain⟨_,u2,u3⟩:=List.nodup_append.1 u;cases i with
  |zero=>
   cases j with
   |zero=>omega
   |succ j=>
    simp at hi hj;subst hi;exact fun hm=>u3 q hq q (List.mem_flatMap.2 ⟨s,dG hj,hm⟩) rfl
  |succ i=>
   cases j with
   |zero=>
    simp at hi hj;subst hj;exact fun hm=>u3 q hm q (List.mem_flatMap.2 ⟨r,dG hi,hq⟩) rfl
   |succ j=>
    simp at hi hj;exact Uq.apart (rs:=rs) u2 hi hj (by omega) q hq
theorem Uq.sub:∀ {rs tg:List XR},tg.length=rs.length->(∀(i:Nat)(r r':XR),rs[i]?=some r->tg[i]?=some r'->(eJ r').Sublist (eJ r))->(tg.flatMap eJ).Sublist (rs.flatMap eJ)
 |[],[],_,_=>List.Sublist.refl _
 |[],_::_,h,_=>by simp at h
 |_::_,[],h,_=>by simp at h
 |r::rs,r'::tg,h,H=>by simp only[List.flatMap_cons];exact(H 0 r r' rfl rfl).append (Uq.sub (by simpa using h) (fun i a b p q=>H (i+1) a b p q))
theorem WR.uq(w:WR D rs tg nw I3 aR jS)(u:Uq rs):Uq tg:=(Uq.sub w.len (fun i r r' a b=>(w.row i r r' a b).Q0)).nodup u
def Fd(rs:List XR):Prop:=∀r∈rs,∀k∈r.ls.map iN,1<=k.1/\k.1<=17->0<=k.2.1
theorem WR.fd(w:WR D rs tg nw I3 aR jS)(u:Fd rs):Fd tg:=fun r hr k hk=>by obtain⟨i,hi⟩:=sv hr;obtain⟨r0,a,b⟩:=w.back hi;exact u r0 (dG a) k (b.ls.subset hk)
theorem WR.ts(w:WR D rs tg nw I3 aR jS):bA tg=bA rs:=by
 refine zS fun i=>?_;unfold bA;rw[tT,tT];rcases zf i tg.length with hi|hi
 .obtain⟨x,hx⟩:=aE tg i hi;obtain⟨r,hr,t⟩:=w.back hx;rw[hr,hx];simp only[DY];rw[t.ts]
 .rw[tS hi,tS (by rw[<-w.len];exact hi)]
theorem WR.tf(T:WR D rs tg nw I3 aR jS)(w:TF0 rs):TF0 tg:=by
 have qE:=T.ts;have mem:∀x∈tg,∃r∈rs,vC r x:=fun x hx=>by obtain⟨i,hi⟩:=sv hx;obtain⟨r,a,b⟩:=T.back hi;exact⟨r,dG a,b⟩
 refine⟨by rw[T.len];exact w.n1,by rw[T.len];exact w.F9,fun x hx=>?_,fun x hx t ht=>?_,fun k x hx q hq=>?_,sD T.Hw w.sum,fun x hx y hy=>?_,fun k hk=>?_⟩
 .obtain⟨r,hr,t⟩:=mem x hx;unfold Yx;rw[t.kind,t.ts];exact w.kind r hr
 .obtain⟨r,hr,t'⟩:=mem x hx;rw[t'.ts] at ht;rw[T.len];exact w.to r hr t ht
 .obtain⟨r,hr,t⟩:=T.back hx;rw[qE,T.len];exact w.rows k r hr q (t.ps.subset hq)
 .obtain⟨r,hr,t⟩:=mem x hx;obtain⟨z,hz,e⟩:=dZ.1 (t.ls.subset (dZ.2 ⟨y,hy,rfl⟩));have:=w.al r hr z hz;have e2:z.args=y.args:=congrArg (fun k=>k.2.2.2) e;rw[<-e2];exact this
 .rw[T.len] at hk;rw[qE,T.len];exact w.short k hk
theorem WR.seen(T:WR D rs tg nw I3 aR jS)(w:Seen rs):Seen tg:=by
 intro k x hx;obtain⟨r,hr,t⟩:=T.back hx;rw[T.ts];rcases w k r hr with h|⟨h1,h2,h3⟩
 .exact .inl h
 .refine .inr ⟨by rw[t.kind,h1],?_,?_⟩
  .have:=t.ps;rw[h2] at this;exact List.sublist_nil.1 this
  .have:=t.ls;rw[h3] at this;exact List.map_eq_nil_iff.1 (List.sublist_nil.1 this)
end
structure WC where
 n0:Nat
 ai:Nat
 B:SV
 K:Nat
 F:Nat
 bu:Int
 name:ByteArray
 p:Int
 KI:SV
 NW:SV
 d:Nat
 ws:List SV
 kids:List (List Int)
 M:Nat
def yx(c:WC)(b:Nat):Prop:=b=c.K\/b=c.F\/b=c.d\/ax c.NW.v b\/∃w∈c.ws,ax w.v b
def VW(c:WC)(κ:Nat->Nat)(b:Nat):Prop:=κ b=1\/κ b=2\/b=c.K\/ax c.NW.v b
structure Wk(c:WC)(h:ae)(κ cap:Nat->Nat)(rs:List XR)(nw:List (Bool×Int))(aR:Bool):Prop where
 O:pV h c.n0 c.ai κ cap c.B rs
 k:Kn h c.K c.F c.ai c.bu c.KI c.NW nw aR
 hF:∃s,h.tr.get c.F=some (.aC (aw c.name c.p c.ai c.B) false 0 s)
 kd:c.KI=⟨some ⟨c.d,0,none⟩,c.kids.length,c.kids.length⟩/\c.ws.length=c.kids.length
 hd:∃s,h.tr.get c.d=some (.aC (rT.flat c.ws) false 0 s)
 rows:∀(i:Nat)(w:SV)(xs:List Int),c.ws[i]?=some w->c.kids[i]?=some xs->eY bj h w xs
 z:∀b,yx c b->κ b=0
 lo:∀b,yx c b->b<c.M
 n0:c.n0<=c.M
 hM:c.M<=h.next
 ne:∀b,(b=c.F\/b=c.d\/∃w∈c.ws,ax w.v b)->b≠c.K/\¬ax c.NW.v b
section
variable{c:WC}{h h':ae}{κ cap:Nat->Nat}{rs:List XR}{nw:List (Bool×Int)}{aR:Bool}
theorem Wk.grow{S:Nat->Prop}(w:Wk c h κ cap rs nw aR)(ok:bm h)(g:ab S h h')(hS:∀b,S b->κ b=0/\¬yx c b):Wk c h' κ cap rs nw aR:=by obtain⟨s1,hF⟩:=w.hF;obtain⟨s2,hd⟩:=w.hd;refine⟨w.O.grow ok g (fun b hb=>(hS b hb).1),w.k.grow ok g (fun hb=>(hS _ hb).2 (.inl rfl)) (fun b hb h=>(hS b h).2 (.inr (.inr (.inr (.inl hb))))),⟨s1,g.get ok hF (fun hb=>(hS _ hb).2 (.inr (.inl rfl)))⟩,w.kd,⟨s2,g.get ok hd (fun hb=>(hS _ hb).2 (.inr (.inr (.inl rfl))))⟩,fun i v xs a b=>?_,w.z,w.lo,w.n0,sD w.hM g.next,w.ne⟩;exact(w.rows i v xs a b).grow ok g (fun x hx h=>(hS x h).2 (.inr (.inr (.inr (.inr ⟨v,dG a,hx⟩)))))
theorem Wk.bl(w:Wk c h κ cap rs nw aR)(ok:bm h)(g:ab aK h h'):Wk c h' κ cap rs nw aR:=w.grow ok g (fun _ h=>h.elim)
theorem Wk.new(w:Wk c h κ cap rs nw aR){b:Nat}(hb:h.next<=b):κ b=0/\¬yx c b:=by
 refine⟨?_,fun hm=>by have:=w.lo b hm;have:=w.hM;omega⟩;rcases ve (κ b) with h1|h1
 .exact h1
 .have:=(w.O.os.new b (by omega)).2;omega
theorem Wk.BA(w:Wk c h κ cap rs nw aR)(ok:bm h){b:Nat}(hk:κ b=1)(g:ab (· =b) h h'){vs:List (Bool×Int)}{o:Nat}(hb:∃s,h'.tr.get b=some (.aC (bx.flat vs) false o s))(ho:o=0\/o=2)(hl:vs.length=cap b)(hv:∀v∈vs,fk c.ai v):Wk c h' κ cap rs nw aR:=by
 have nm:¬yx c b:=fun e=>by have:=w.z b e;omega
 obtain⟨s1,hF⟩:=w.hF;obtain⟨s2,hd⟩:=w.hd;refine⟨w.O.BA ok hk g hb ho hl hv,w.k.grow ok g (fun e=>nm (.inl e.symm)) (fun x hx e=>nm (by subst e;exact .inr (.inr (.inr (.inl hx))))),⟨s1,g.get ok hF (fun e=>nm (.inr (.inl e.symm)))⟩,w.kd,⟨s2,g.get ok hd (fun e=>nm (.inr (.inr (.inl e.symm))))⟩,fun i v xs a b'=>?_,w.z,w.lo,w.n0,sD w.hM g.next,w.ne⟩;exact(w.rows i v xs a b').grow ok g (fun x hx e=>nm (by subst e;exact .inr (.inr (.inr (.inr ⟨v,dG a,hx⟩)))))
theorem Wk.same(w:Wk c h κ cap rs nw aR)(ok:bm h){ko:List (Bool×Int)}{cH:Bool}(g:ab (fun x=>x=c.K\/ax c.NW.v x) h h')(k':Kn h' c.K c.F c.ai c.bu c.KI c.NW ko cH):Wk c h' κ cap rs ko cH:=by
 obtain⟨s1,hF⟩:=w.hF;obtain⟨s2,hd⟩:=w.hd;have z:∀b,(b=c.K\/ax c.NW.v b)->κ b=0:=fun b hb=>w.z b (by
  rcases hb with h|h
  .exact .inl h
  .exact .inr (.inr (.inr (.inl h))))
 refine⟨w.O.grow ok g z,k',⟨s1,g.get ok hF (fun e=>?_)⟩,w.kd,⟨s2,g.get ok hd (fun e=>?_)⟩,fun i v xs a b=>(w.rows i v xs a b).grow ok g (fun x hx e=>?_),w.z,w.lo,w.n0,sD w.hM g.next,w.ne⟩
 .obtain⟨a,b⟩:=w.ne c.F (.inl rfl);rcases e with e|e
  .exact a e
  .exact b e
 .obtain⟨a,b⟩:=w.ne c.d (.inr (.inl rfl));rcases e with e|e
  .exact a e
  .exact b e
 .obtain⟨a1,b1⟩:=w.ne x (.inr (.inr ⟨v,dG a,hx⟩));rcases e with e|e
  .exact a1 e
  .exact b1 e
theorem Wk.store{κ':Nat->Nat}(w:Wk c h κ cap rs nw aR)(ok:bm h)(hr:rs[i]?=some r)(Os:cn h c.n0 c.ai κ' cap (rs.set i r'))(low:∀b,κ b≠0->κ' b=κ b)(z:∀b,yx c b->κ' b=0){vs:List Value}(hk:k+vs.length<=6)(e:aH (fC.enc r) k vs=fC.enc r')(ha:c.B.a=some ⟨bB,0,none⟩)(hb:h.tr.get bB=some (.aC cs false oB sB)):
  Wk c (put h bB (i*6+k) cs vs oB) κ' cap (rs.set i r') nw aR/\ab (· =bB) h (put h bB (i*6+k) cs vs oB)/\κ bB=2/\κ' bB=2:=by
 have κB:κ bB=2:=w.O.kB bB (cw ha);have κB':κ' bB=2:=by rw[low bB (by omega)];exact κB
 have g:ab (· =bB) h (put h bB (i*6+k) cs vs oB):=aQ ok hb;have nm:¬yx c bB:=fun e=>by have:=w.z bB e;omega
 obtain⟨bB2,cs2,oB2,sB2,KF,cA,_,_,_,gE⟩:=w.O.A.el hr;rw[ha] at KF;simp at KF;subst KF;rw[hb] at cA;simp at cA;obtain⟨rfl,rfl,rfl⟩:=cA;have A':=gE r' k vs hk e (put h bB (i*6+k) cs vs oB) ⟨_,aD _ _ _ _ _ _⟩;obtain⟨s1,hF⟩:=w.hF;obtain⟨s2,hd⟩:=w.hd;refine⟨⟨⟨Os.grow ok g (fun b e=>.inr (by rw[e];exact κB')),A',fun b hb=>by rw[qw ha hb];exact κB'⟩,w.k.grow ok g (fun e=>nm (.inl e.symm)) (fun x hx e=>nm (by subst e;exact .inr (.inr (.inr (.inl hx))))),⟨s1,g.get ok hF (fun e=>nm (.inr (.inl e.symm)))⟩,w.kd,⟨s2,g.get ok hd (fun e=>nm (.inr (.inr (.inl e.symm))))⟩,fun j v xs a b'=>?_,z,w.lo,w.n0,sD w.hM g.next,w.ne⟩,g,κB,κB'⟩;exact(w.rows j v xs a b').grow ok g (fun x hx e=>nm (by subst e;exact .inr (.inr (.inr (.inr ⟨v,dG a,hx⟩)))))
theorem Wk.aez(w:Wk c h κ cap rs nw aR)(ok:bm h)(hr:rs[i]?=some r)(hP:eY gL h P' C7)(hb:∀b,ax P'.v b->nl<=b)(PS:c.M<=nl/\nl<=h.next)(KQ:∀b,nl<=b->κ b=0)(iI:∀p∈C7,p∈r.ps)(ha:c.B.a=some ⟨bB,0,none⟩)(X7:h.tr.get bB=some (.aC cs false oB sB)):
  ∃κ',Wk c (put h bB (i*6) cs [P'.v] oB) κ' cap (rs.set i {r with P:=P',ps:=C7}) nw aR/\ab (· =bB) h (put h bB (i*6) cs [P'.v] oB)/\(∀b,b<nl->κ' b=κ b)/\κ bB=2:=by
 have R:=w.O.os.r i r hr;obtain⟨κ',O',low,_⟩:=w.O.os.acy ok (by have:=w.n0;have:=w.hM;omega) hr (.refl ok) hP hb ⟨by have:=w.n0;omega,PS.2⟩ KQ (fun p hp=>R.ps p (iI p hp));have ad3:∀b,κ b≠0->κ' b=κ b:=fun b cA=>low b (by
  rcases zf b nl with h|h
  .exact h
  .exact absurd (KQ b h) cA)
 obtain⟨a,b,e,_⟩:=w.store (r':= {r with P:=P',ps:=C7}) ok hr O' ad3 (fun b hm=>by rw[low b (by have:=w.lo b hm;omega)];exact w.z b hm) (k:=0) (vs:=[P'.v]) (by simp) rfl ha X7;exact⟨κ',a,b,low,e⟩
theorem Wk.aqQ(w:Wk c h κ cap rs nw aR)(ok:bm h)(hr:rs[i]?=some r)(hL:eY jZ h L' C3)(hb:∀b,ax L'.v b->nl<=b)(PS:c.M<=nl/\nl<=h.next)(KQ:∀b,nl<=b->κ b=0)(Fl:∀x∈C3,x.dst<c.ai/\fk c.ai x.a/\fk c.ai x.b/\VA κ cap x.args)(ha:c.B.a=some ⟨bB,0,none⟩)(X7:h.tr.get bB=some (.aC cs false oB sB)):
  ∃κ',Wk c (put h bB (i*6+1) cs [L'.v] oB) κ' cap (rs.set i {r with L:=L',ls:=C3}) nw aR/\ab (· =bB) h (put h bB (i*6+1) cs [L'.v] oB)/\(∀b,b<nl->κ' b=κ b)/\κ bB=2:=by
 obtain⟨κ',O',low,_⟩:=w.O.os.acx ok (by have:=w.n0;have:=w.hM;omega) hr (.refl ok) hL hb ⟨by have:=w.n0;omega,PS.2⟩ KQ Fl;have ad3:∀b,κ b≠0->κ' b=κ b:=fun b cA=>low b (by
  rcases zf b nl with h|h
  .exact h
  .exact absurd (KQ b h) cA)
 obtain⟨a,b,e,_⟩:=w.store (r':= {r with L:=L',ls:=C3}) ok hr O' ad3 (fun b hm=>by rw[low b (by have:=w.lo b hm;omega)];exact w.z b hm) (k:=1) (vs:=[L'.v]) (by simp) rfl ha X7;exact⟨κ',a,b,low,e⟩
theorem Wk.ajt(w:Wk c h κ cap rs nw aR)(ok:bm h)(hr:rs[i]?=some r){on:Bool×Int}(hon:fk c.ai on)(ha:c.B.a=some ⟨bB,0,none⟩)(X7:h.tr.get bB=some (.aC cs false oB sB)):
  Wk c (put h bB (i*6+3) cs [.bool on.1,.int .i64 on.2] oB) κ cap (rs.set i {r with on:=on}) nw aR/\ab (· =bB) h (put h bB (i*6+3) cs [.bool on.1,.int .i64 on.2] oB)/\κ bB=2:=by
 obtain⟨a,b,e,_⟩:=w.store (r':= {r with on:=on}) ok hr (w.O.os.abN hr r.kind on hon) (fun _ _=>rfl) w.z (k:=3) (vs:=[.bool on.1,.int .i64 on.2]) (by simp) rfl ha X7;exact⟨a,b,e⟩
end
def ChD:List Nat:=[54,55,56,57,58,59,60,61,62,63]
theorem M7(ok:bm h)(O:pV h n0 ai κ cap B rs)(wv:n0<=h.next)(hb:rs[b]?=some rb)(ht:rs[to]?=some rt)(cq:b≠to)(kC:B.a=some ⟨bB,0,none⟩)(hX:h.tr.get X=some (.aC (fC.enc rt) false 0 sX))(κX:κ X=0)(JF:rb.ls.length+rt.ls.length<2000000)(f4:ak e 4=.pointer (some ⟨bB,b*6,none⟩))(f6:ak e 6=.pointer (some ⟨X,0,none⟩))(C:∀e' h' κ' L',aA ChD e e'->ab (fun x=>κ x≠0) h h'->(∀x,x<h.next->κ' x=κ x)->pV h' n0 ai κ' cap B (rs.set b {rb with L:=L',ls:=rb.ls++rt.ls})->QQ .normal e' h'):aB FF M6 e h QQ:=by
 have Rb:=O.os.r b rb hb;have Rt:=O.os.r to rt ht;obtain⟨bB',cs,oB,sB,tU,PH,hjB,eU,dj,gE⟩:=O.A.el hb;rw[kC] at tU;cases tU;have κB:κ bB=2:=O.kB bB (cw kC);have LG:=dj 1 1 (by decide);simp[-ag] at LG;have dX:=hX;simp only[qz] at dX;simp at dX;have oX:=ok.bC hX;unfold M6;simp[f4,f6,dX,LG,-ag,ay,av dX,oX];have xe:=(bh ok).ok;have O1:=O.bl ok (bh ok);have gt:ab aK h (tick h):=bh ok;generalize tick h=h1 at xe O1 gt;have Rb1:=O1.os.r b rb hb;have Rt1:=O1.os.r to rt ht;obtain⟨L',h3,ea,hL3,g3,x4,_⟩:=Dt (E:=jZ) (bytes:=80) (z:=[.int .i64 0,.int .i64 0,.bool false,.int .i64 0,.bool false,.int .i64 0,.int .i64 0,.slice none 0 0]) xe rfl Rb1.L Rt1.L.sl JF (by decide);obtain⟨κ',O3,iM,h2⟩:=O1.os.amG xe (by have:=gt.next;omega) hb g3 hL3 x4 (fun x hx=>by
  rcases lE.1 hx with h|h
  .exact Rb1.ls x h
  .exact Rt1.ls x h)
 have A3:=O1.A.grow xe g3 (fun x hx hs=>by have:=O1.kB x hx;have:=Rb1.kL x hs;omega);obtain⟨bB',Uw,oB3,sB3,tU,Ny,aoM,D7,Vv,KW⟩:=A3.el hb;rw[kC] at tU;cases tU;have Tq:=D7 1 1 (by decide);simp at Tq;refine Au ea ?_;simp[f4,Ny,Tq];have gw:ab (· =bB) h3 (put h3 bB (b*6+1) Uw [.slice L'.a L'.l L'.c] oB3):=aQ g3.ok Ny;have A4:=KW {rb with L:=L',ls:=rb.ls++rt.ls} 1 [.slice L'.a L'.l L'.c] (by simp) rfl (put h3 bB (b*6+1) Uw [.slice L'.a L'.l L'.c] oB3) ⟨_,aD _ _ _ _ _ _⟩;have hlB:bB<h1.next:=xe.wf _ _ (gt.get ok PH);have κB':κ' bB=2:=by rw[iM bB hlB];exact κB
 refine C _ _ κ' L' ?_ ?_ (fun x hx=>iM x (by have:=gt.next;omega)) ⟨O3.grow g3.ok gw (fun x e=>.inr (by rw[e];exact κB')),A4,fun x hx=>by rw[qw kC hx];exact κB'⟩
 .repeat (refine aA.set ?_)
  exact aA.refl _ _
 .exact(gt.bl.trans (g3.bU (fun x _ hs=>by have:=Rb1.kL x hs;omega))).trans (gw.bU (fun x _ e=>by rw[e];omega))
def ChA:List Nat:=[64,65,66,67,68,69,70,71,72,73,74,75,76,77]
structure ChP(n0 ai:Nat)(cap:Nat->Nat)(B:SV)(rs:List XR)(κ':Nat->Nat)(cC:List XR)(h':ae):Prop where
 O:pV h' n0 ai κ' cap B cC
 tf:TF cC
 len:cC.length=rs.length
 CL:∀φ,kK φ cC=kK φ rs
theorem J9(ok:bm h)(wv:n0<=h.next)(c:zm rs b to rb rt)(O:pV h n0 ai κ cap B (rs.set b {rb with L:=L,ls:=rb.ls++rt.ls}))(kC:B.a=some ⟨bB,0,none⟩)(hX:h.tr.get X=some (.aC (fC.enc rt) false 0 sX))(κX:κ X=0)(hF:h.tr.get F=some (.aC (aw name p rg B) false 0 sF))(κF:κ F=0)(f1:ak e 1=.pointer (some ⟨F,0,none⟩))(f3:ak e 3=.int .i64 b)(f4:ak e 4=.pointer (some ⟨bB,b*6,none⟩))(f5:ak e 5=.int .i64 to)(f6:ak e 6=.pointer (some ⟨X,0,none⟩))(C:∀e' h' cC,aA ChA e e'->ab (fun x=>κ x≠0) h h'->ChP n0 ai cap B rs κ cC h'->jumps cC<jumps rs->QQ .normal e' h'):aB FF HX e h QQ:=by
 have vh:=(cr.mp c.hb).1;have sG:=(cr.mp c.ht).1;obtain⟨tg,YM⟩:∃tg,tg=rs.set b {rb with L:=L,ls:=rb.ls++rt.ls} :=⟨_,rfl⟩;rw[<-YM] at O;have ht1:tg[to]?=some rt:=by rw[YM,fg,aW (Ne.symm c.ne)];exact c.ht
 have D1:tg[b]?=some {rb with L:=L,ls:=rb.ls++rt.ls} :=by rw[YM,fg,aZ rfl,aZ vh]
 have hT1:bA tg=bA rs:=by
  rw[YM];unfold bA;rw[List.map_set];refine zS fun m=>?_;rw[fg];by_cases e:b=m
  .subst e;rw[aZ rfl,aZ (by simpa using vh),tT,c.hb];rfl
  .rw[aW e]
 have Up:∀(k:Nat)(x:XR),tg[k]?=some x->∃y,rs[k]?=some y/\x.ps=y.ps:=by
  intro k x hx;rw[YM,fg] at hx;by_cases e:b=k
  .subst e;rw[aZ rfl,aZ vh] at hx;cases hx;exact⟨rb,c.hb,rfl⟩
  .rw[aW e] at hx;exact⟨x,hx,rfl⟩
 unfold HX;simp[f1,f3,f5];have ajP:RowsIn tg:=by intro k r pk hr CK q hq;obtain⟨y,hy,e⟩:=Up k r hr;rw[hT1] at CK;rw[e] at hq;exact c.w.OK k y pk hy CK q hq
 have pl1:∀r∈tg,r.ps.length<1000000:=by intro r hr;obtain⟨k,hk⟩:=sv hr;obtain⟨y,hy,e⟩:=Up k r hk;rw[e];have:=(c.w.size y (dG hy)).1;omega
 have Rn:=LH ok O wv hF κF (bC:=to) (now:=b) ht1 (by rw[hT1];exact c.w.tok) ajP pl1;refine aG.call (V:=agi n0 ai κ cap B tg h) (by simpa [f1] using Rn) ?_;rintro _ h2⟨g2,Fv,O2,S2⟩;have k1:∀x,(κ x=1\/κ x=3)->κ x≠0:=fun x h=>by omega
 have dX:=g2.get ok hX (by omega);have mI:=g2.get ok hF (by omega);obtain⟨rb2,adE⟩:=aE Fv b (by rw[S2.1,YM];simpa using vh);obtain⟨rt2,adK⟩:=aE Fv to (by rw[S2.1,YM];simpa using sG);obtain⟨eb2,sb2⟩:=S2.2 b rb2 _ adE D1;obtain⟨et2,Xy⟩:=S2.2 to rt2 _ adK ht1;obtain⟨bB',cs,oB,sB,tU,PH,hjB,eU,dj,gE⟩:=O2.A.el adE;rw[kC] at tU;cases tU;have κB:κ bB=2:=O2.kB bB (cw kC);have zX:=eU 2 4 (by decide);simp at zX;have fe:=dX;simp only[qz] at fe;simp at fe;have xD:=mI;have ez:=O2.A.len;have sE:Fv.length=rs.length:=by rw[S2.1,YM];simp
 simp[aw] at xD;rw[kC,ez,sE] at xD;have nFB:¬F=bB:=fun e=>by rw[e] at κF;omega
 obtain⟨rb3,acm⟩:∃r:XR,r= {rb2 with kind:=rt.kind,on:=rt.on,T:=rt.T,ts:=rt.ts} :=⟨_,rfl⟩;have A3:=gE rb3 2 [.int .i64 rt.kind,.bool rt.on.1,.int .i64 rt.on.2,.slice rt.T.a rt.T.l rt.T.c] (by simp) (by rw[acm];rfl) (put h2 bB (b*6+2) cs [.int .i64 rt.kind,.bool rt.on.1,.int .i64 rt.on.2,.slice rt.T.a rt.T.l rt.T.c] oB) ⟨_,aD _ _ _ _ _ _⟩;have ht3:(Fv.set b rb3)[to]?=some rt2:=by rw[fg,aW (Ne.symm c.ne)];exact adK
 obtain⟨bB',Uw,oB3,sB3,tU,Ny,aoM,D7,Vv,KW⟩:=A3.el ht3;rw[kC] at tU;cases tU;have hf3:=D7 0 6 (by decide);simp at hf3;have gw:ab (· =bB) h2 (put h2 bB (b*6+2) cs [.int .i64 rt.kind,.bool rt.on.1,.int .i64 rt.on.2,.slice rt.T.a rt.T.l rt.T.c] oB):=aQ g2.ok PH;have GL:=gw.get g2.ok xD nFB;simp[f4,f6,fe,PH,zX];generalize put h2 bB (b*6+2) cs _ oB=h3 at*;simp[f1,f5,GL,Ny,hf3,sG];have gw2:ab (· =bB) h3 (put h3 bB (to*6) Uw [.slice none 0 0,.slice none 0 0,.int .i64 1,.bool false,.int .i64 0,.slice none 0 0] oB3):=aQ gw.ok Ny;have A5:=KW eR 0 [.slice none 0 0,.slice none 0 0,.int .i64 1,.bool false,.int .i64 0,.slice none 0 0] (by simp) rfl (put h3 bB (to*6) Uw [.slice none 0 0,.slice none 0 0,.int .i64 1,.bool false,.int .i64 0,.slice none 0 0] oB3) ⟨h3.clock,by simp⟩;have O5:=((O2.os.ajf adE adK (Ne.symm c.ne) rt.kind).grow g2.ok gw (fun x e=>.inr (by rw[e];exact κB))).grow gw.ok gw2 (fun x e=>.inr (by rw[e];exact κB));have e3:({rb2 with kind:=rt.kind,on:=rt2.on,T:=rt2.T,ts:=rt2.ts} :XR)=rb3:=by rw[acm,et2]
 rw[e3] at O5;obtain⟨rb4,acn⟩:∃r:XR,r= {rb2 with L:=rb.L,ls:=rb.ls} :=⟨_,rfl⟩;have ahG:b<Fv.length:=by omega
 have S4:mN (Fv.set b rb4) rs:=by
  refine⟨by simp[sE],fun i x y hx hy=>?_⟩;rw[fg] at hx;by_cases e1:b=i
  .subst e1;rw[aZ rfl,aZ ahG] at hx;cases hx;rw[c.hb] at hy;cases hy;refine⟨by rw[acn,eb2],?_⟩;have:rb4.ps=rb2.ps:=by rw[acn]
   rw[this];exact sb2
  .rw[aW e1] at hx;exact S2.2 i x y hx (by rw[YM,fg,aW e1];exact hy)
 have D3:(Fv.set b rb4)[b]?=some rb4:=by rw[fg,aZ rfl,aZ ahG]
 have e4:lz rb4 rt L=rb3:=by rw[acm,acn,eb2];rfl
 have e5:((Fv.set b rb4).set b (lz rb4 rt L)).set to eR=(Fv.set b rb3).set to eR:=by rw[List.set_set,e4]
 have T5:=Ur (L:=L) c S4 D3;have L5:=M9 (L:=L) c S4 D3;have J5:=Ka (L:=L) c S4 D3;rw[e5] at T5 J5;refine C _ _ ((Fv.set b rb3).set to eR) ?_ ?_ ⟨⟨O5,A5,O2.kB⟩,T5,by simp[sE],fun φ=>by rw[<-e5];exact L5 φ⟩ J5
 .repeat (refine aA.set ?_)
  exact aA.refl _ _
 .exact((g2.bU (fun x _ e=>k1 x e)).trans (gw.bU (fun x _ e=>by rw[e];omega))).trans (gw2.bU (fun x _ e=>by rw[e];omega))
def alB(h0:ae)(κ0:Nat->Nat)(n0 ai:Nat)(cap:Nat->Nat)(B:SV)(vA:List XR)(b F R bB:Nat)(m:Nat)(e:Env)(h':ae):Prop:=
 ∃(rs:List XR) (κ:Nat->Nat),m=jumps rs/\ak e 1=.pointer (some ⟨F,0,none⟩)/\ak e 2=.pointer (some ⟨R,0,none⟩)/\ak e 3=.int .i64 b/\ak e 4=.pointer (some ⟨bB,b*6,none⟩)/\ab (fun x=>κ0 x≠0) h0 h'/\(∀x,x<h0.next->κ x=κ0 x)/\ChP n0 ai cap B vA κ rs h'
theorem M8(oD:bm h0)(wv:n0<=h0.next)(O0:pV h0 n0 ai κ0 cap B vA)(T0:TF vA){F R b bB sF:Nat}(kC:B.a=some ⟨bB,0,none⟩)(hF:h0.tr.get F=some (.aC (aw name p rg B) false 0 sF))(κF:κ0 F=0)(hb:b<vA.length)(f1:ak e 1=.pointer (some ⟨F,0,none⟩))(f2:ak e 2=.pointer (some ⟨R,0,none⟩))(f3:ak e 3=.int .i64 b)(f4:ak e 4=.pointer (some ⟨bB,b*6,none⟩))(C:∀e' h' rs κ,ak e' 1=.pointer (some ⟨F,0,none⟩)->ak e' 2=.pointer (some ⟨R,0,none⟩)->ak e' 3=.int .i64 b->ab (fun x=>κ0 x≠0) h0 h'->(∀x,x<h0.next->κ x=κ0 x)->ChP n0 ai cap B vA κ rs h'->QQ (.exit 2) e' h'):aB FF (.loop mu) e h0 QQ:=by
 refine aB.loop (alB h0 κ0 n0 ai cap B vA b F R bB) ?_ (n:=jumps vA) ⟨vA,κ0,rfl,f1,f2,f3,f4,.refl oD,fun _ _=>rfl,⟨O0,T0,rfl,fun _=>rfl⟩⟩;rintro m e' h'⟨rs,κ,rfl,q1,q2,q3,q4,g,iM,P⟩;have bz:=g.ok;have O:=P.O;have w:=P.tf;have hn:rs.length=vA.length:=P.len;obtain⟨rb,Yl⟩:=aE rs b;have hmb:=dG Yl;have Rb:=O.os.r b rb Yl;obtain⟨bB',cs,oB,sB,tU,PH,hjB,eU,dj,gE⟩:=O.A.el Yl;rw[kC] at tU;cases tU;have rdk:=dj 2 1 (by decide);have rdT:=dj 5 1 (by decide);simp[-ag] at rdk rdT;have vf:=g.get oD hF (by omega);have mI:=vf;have ez:=O.A.len;simp[aw] at mI;rw[kC,ez] at mI;have κF':κ F=0:=by rw[iM F (oD.wf _ _ hF)];exact κF
 have oF:=bz.bC vf;unfold mu;by_cases hk:rb.kind=2
 .obtain⟨t,qE⟩:∃t,rb.ts=[t]:=by
   rcases w.kind rb hmb with⟨h,_⟩|⟨_,h⟩|⟨h,_⟩
   .omega
   .exact h
   .omega
  obtain⟨ht1,ht2⟩:=w.to rb hmb t (by rw[qE];simp);obtain⟨to,rfl⟩:∃u:Nat,t=u:=⟨t.toNat,by omega⟩;have Zx:to<rs.length:=by omega
  obtain⟨rt,hrt⟩:=aE rs to Zx;have Rt:=O.os.r to rt hrt;have hTb:=Rb.T;rw[qE] at hTb;obtain⟨bT,csT,oT,sT,Fj,hTb',hjT,_,adF,_⟩:=hTb.el (i:=0) (x:=(to:Int)) rfl;have rt0:=adF 0 1 (by decide);simp[-ag] at rt0;have xZ:=hTb.len;simp at xZ;obtain⟨_,_,_,_,ag4,UX,_,_,FU,_⟩:=O.A.el hrt;rw[kC] at ag4;cases ag4;have rd6:=FU 0 6 (by decide);simp[-ag] at rd6;have IF:(rb.kind==2)=true:=by simp[hk]
  rw[Fj,xZ] at rdT;simp[q1,q3,q4,rdk,IF,rdT,rt0,mI,av mI,Zx,rd6,-ag];refine aG.cut (fun h2=>ab aK h' h2/\∃s,h2.tr.get h'.next=some (.aC (fC.enc rt) false 0 s)) ?_ ?_
  .exact⟨(ab.refl bz).var _ _,h'.clock,by simp[aH]⟩
  rintro h2⟨g2,sX,hX⟩;have O2:=O.bl bz g2;have xD:=g2.get bz mI;have KC:=g2.get bz vf;have κX:κ h'.next=0:=by
   have hw:=O.os.new h'.next;rcases ve (κ h'.next) with h1|h1
   .exact h1
   .have:=(hw (by omega)).2;omega
  have dX:=hX;simp only[qz] at dX;simp at dX;have kj:=Rt.P.len;have G2:ab (fun x=>κ0 x≠0) h0 h2:=g.trans g2.bl;have P2:ChP n0 ai cap B vA κ rs h2:=⟨O2,w,hn,P.CL⟩;by_cases e1:to=b
  .have e2:((to:Int)==(b:Int))=true:=by simp[e1]
   simp[e2];exact C _ _ rs κ (by simp[q1]) (by simp[q2]) (by simp[q3]) G2 iM P2
  have e2:((to:Int)==(b:Int))=false:=by simp;omega
  by_cases e3:0<rt.ps.length
  .simp[e2,dX,kj,e3];exact C _ _ rs κ (by simp[q1]) (by simp[q2]) (by simp[q3]) G2 iM P2
  have iI:rt.ps=[]:=JC (by omega);obtain⟨bs,KH,hV⟩:=O2.view;have E:=hV.ends w.tok;have N7:=hV.dy;have vh:bs.length=rs.length:=hV.1;simp[e2,dX,kj,iI,q1,xD];have Ah:=oo g2.ok (name:=name) (p:=p) (r:=rg) KH E;refine aG.call (V:=fun v h'=>ab aK h2 h'/\∃d ws,v=.slice (some ⟨d,0,none⟩) bs.length bs.length/\jU bj h2.next h' d ws (Edge.bD (bt bs))) (by simpa [aw,kC,ez] using Ah) ?_;rintro _ h3⟨g3,d,ws,rfl,w3⟩;rw[N7] at w3;have sG:(bA rs).length=rs.length:=dW rs;obtain⟨pk,CK⟩:=aE (Edge.bD (bA rs)) to (by rw[Edge.eQ,sG];exact Zx);obtain⟨wk,KZ⟩:=aE ws to (by rw[w3.len,Edge.eQ,sG];exact Zx);obtain⟨sd,hd⟩:=w3.aC;have rw6:=wJ hd KZ;simp[-ag] at rw6;have hWs:bc bj h3 wk.v pk:=(w3.acc to wk pk KZ CK).sl;have K0:wk.l=pk.length:=by obtain⟨a,cap,e,_⟩:=hWs;simp at e;exact e.2.1
  have Fo:=Edge.pW w.nat CK;rw[sG] at Fo;have hub:to<bs.length:=by omega
  have P3:ChP n0 ai cap B vA κ rs h3:=⟨O2.bl g2.ok g3,w,hn,P.CL⟩;have fe:=g3.get g2.ok hX;have GL:=g3.get g2.ok KC;have G3:=G2.trans g3.bl;by_cases e4:1<pk.length
  .have e5:(1:Int)<(pk.length:Int):=by omega
   simp[rw6,hub,K0,e5,-ag];exact C _ _ rs κ (by simp[q1]) (by simp[q2]) (by simp[q3]) G3 iM P3
  have c:zm rs b to rb rt:=⟨w,Yl,hrt,e1,by omega,hk,qE,iI,by rw[<-Fo];omega⟩;have e5:¬(1:Int)<(pk.length:Int):=by omega
  simp[rw6,hub,K0,e5,-ag];have s1:=(w.size rb hmb).2;have s2:=(w.size rt (dG hrt)).2;refine M7 g3.ok P3.O (by have:=G3.next;omega) Yl hrt (Ne.symm e1) kC fe κX (by omega) (by simp[q4]) (by simp) ?_;intro e5 h5 κ5 L5 K5 g5 Ea O5;have lX:h'.next<h3.next:=g3.ok.wf _ _ fe;have lF:F<h3.next:=g3.ok.wf _ _ GL;have uL:=g5.get g3.ok fe (by omega);have NB:=g5.get g3.ok GL (by omega);have m1:=K5.at (t:=1) (by simp;exact q1);have m2:=K5.at (t:=2) (by simp;exact q2);have m3:=K5.at (t:=3) (by simp;exact q3);have m4:=K5.at (t:=4) (by simp;exact q4);have m5:ak e5 5=.int .i64 to:=K5.at (t:=5) (by simp);have m6:ak e5 6=.pointer (some ⟨h'.next,0,none⟩):=K5.at (t:=6) (by simp);simp;refine J9 g5.ok (by have:=G3.next;have:=g5.next;omega) c O5 kC uL (by rw[Ea _ lX];exact κX) NB (by rw[Ea _ lF];exact κF') m1 m3 m4 m5 m6 ?_;intro e6 h6 rs6 K6 g6 P6 hj;have G5:ab (fun x=>κ0 x≠0) h0 h5:=G3.trans' g5 (fun _ _ h=>h) (fun x hx h=>by rw[iM x hx] at h;exact h);have G6:ab (fun x=>κ0 x≠0) h0 h6:=G5.trans' g6 (fun _ _ h=>h) (fun x hx h=>by have:=G3.next;rw[Ea x (by omega),iM x hx] at h;exact h)
  simp;exact⟨jumps rs6,hj,rs6,κ5,rfl,K6.at m1,K6.at m2,K6.at m3,K6.at m4,G6,fun x hx=>by have:=G3.next;rw[Ea x (by omega),iM x hx],⟨P6.O,P6.tf,P6.len.trans hn,fun φ=>(P6.CL φ).trans (P.CL φ)⟩⟩
 .have IF:(rb.kind==2)=false:=by simp[hk]
  simp[q4,rdk,IF,-ag];exact C _ _ rs κ (by simp[q1]) (by simp[q2]) (by simp[q3]) g iM P
def TP(name:ByteArray)(p rg:Int)(n0 ai:Nat)(κ0 cap:Nat->Nat)(B:SV)(vA:List XR)(h:ae)(v:Value)(h':ae):Prop:=
 ab (fun x=>κ0 x≠0) h h'/\v=.agg ⟨aw name p rg B⟩/\∃rs κ,(∀x,x<h.next->κ x=κ0 x)/\ChP n0 ai cap B vA κ rs h'
def alC(h0:ae)(κ0:Nat->Nat)(n0 ai:Nat)(cap:Nat->Nat)(B:SV)(vA:List XR)(F R:Nat)(m:Nat)(e:Env)(h':ae):Prop:=
 ∃(b:Nat) (rs:List XR) (κ:Nat->Nat),m=vA.length-b/\b<=vA.length/\ak e 1=.pointer (some ⟨F,0,none⟩)/\ak e 2=.pointer (some ⟨R,0,none⟩)/\ak e 3=.int .i64 b/\ab (fun x=>κ0 x≠0) h0 h'/\(∀x,x<h0.next->κ x=κ0 x)/\ChP n0 ai cap B vA κ rs h'
theorem Kb(ok:bm h){name:ByteArray}{p rg:Int}(wv:n0<=h.next)(O0:pV h n0 ai κ0 cap B vA)(T0:TF vA):
  aF FF vm [.agg ⟨aw name p rg B⟩] h (TP name p rg n0 ai κ0 cap B vA h):=by
 have F9:=T0.F9;have ez:=O0.A.len;obtain⟨r0,AV⟩:=aE vA 0 T0.n1;obtain⟨bB,_,_,_,kC,hBb0,_⟩:=O0.A.el AV;have κnew:∀x,h.next<=x->κ0 x=0:=fun x hx=>by
  have hw:=O0.os.new x;rcases ve (κ0 x) with h1|h1
  .exact h1
  .have:=(hw (by omega)).2;omega
 refine aF.of CG ?_;unfold vd;have n2:¬h.next=h.next+1:=by omega
 simp[aw];refine aB.cut (fun h1=>ab aK h h1/\(∃s,h1.tr.get h.next=some (.aC (aw name p rg B) false 0 s))/\(∃s,h1.tr.get (h.next+1)=some (.aC [.string ⟨⟨[]⟩⟩,.int .i64 0,.int .i64 0,.slice none 0 0] false 0 s))) ?_ ?_
 .exact⟨((ab.refl ok).new _ _).new _ _,⟨0,by simp[aw,n2]⟩,⟨0,by simp⟩⟩
 rintro h1⟨g1,⟨sF,xX⟩,⟨sR,uK⟩⟩;have ln1:=g1.next;have lF:=g1.ok.wf _ _ xX;have lR:=g1.ok.wf _ _ uK;refine aB.loop (alC h1 κ0 n0 ai cap B vA h.next (h.next+1)) ?_ (n:=vA.length) ⟨0,vA,κ0,rfl,by omega,by simp,by simp,by simp,.refl g1.ok,fun _ _=>rfl,⟨O0.bl ok g1,T0,rfl,fun _=>rfl⟩⟩;rintro m e' h'⟨b,rs,κ,rfl,hb,q1,q2,q3,g,iM,P⟩;have bz:=g.ok;have vf:=g.get g1.ok xX (fun h1=>h1 (κnew _ (by omega)));have hR':=g.get g1.ok uK (fun h1=>h1 (κnew _ (by omega)));have mI:=vf;have UY:=P.O.A.len;have hn:=P.len;simp[aw] at mI;rw[kC,UY,hn] at mI;unfold te;by_cases vh:b<vA.length
 .have wb:=wrap_i64 ((b:Int)+1) (by omega) (by omega);simp[q1,q3,mI,vh];refine M8 bz (κ0:=κ) (by have:=g.next;omega) P.O P.tf (F:=h.next) (R:=h.next+1) (b:=b) kC vf (by rw[iM _ lF];exact κnew _ (by omega)) (by omega) (by simp[q1]) (by simp[q2]) (by simp[q3]) (by simp) ?_;intro e3 h3 rs3 κ3 k1 k2 k3 g3 z8 P3;simp[k3,wb];exact⟨vA.length-(b+1),by omega,b+1,rs3,κ3,rfl,vh,by simp[k1],by simp[k2],by simp,g.trans' g3 (fun _ _ h=>h) (fun x hx h=>by rw[iM x hx] at h;exact h),fun x hx=>by have:=g.next;rw[z8 x (by omega),iM x hx],⟨P3.O,P3.tf,P3.len.trans hn,fun φ=>(P3.CL φ).trans (P.CL φ)⟩⟩
 .have:b=vA.length:=by omega
  subst this;have nR:¬h.next+1=h.next:=by omega
  simp[q1,q2,q3,mI,hR',nR];have gw:=(ab.refl bz).put (S:=fun x=>x=h.next+1) (off:=0) (vs:=[Value.string name,Value.int IntKind.i64 p,Value.int IntKind.i64 rg,Value.slice (some ⟨bB,0,none⟩) vA.length B.c]) ⟨_,hR'⟩ (.inr rfl);generalize put h' _ _ _ _ _=h6 at gw⊢;refine⟨(g1.bl.trans g).trans' gw (fun _ _ h=>h) (fun x hx e=>by omega),?_,rs,κ,fun x hx=>iM x (by omega),⟨P.O.grow bz gw (fun x e=>by rw[e,iM _ lR];exact κnew _ (by omega)),P.tf,P.len,P.CL⟩⟩;simp[aw,kC,ez]
structure QH(rs:List XR)(aO:List Nat):Prop where
 nd:aO.Nodup
 lt:∀x∈aO,x<rs.length
 h00:aO[0]?=some 0
 mem:∀k,k∈aO↔Edge.Cz (bA rs) k
theorem aqJ(w:TF0 rs):QH rs (Dfs.ly (Edge.uQ (bA rs)) rs.length).reverse:=by
 have h0:0<(bA rs).length:=by rw[dW];exact w.n1
 obtain⟨nd,lt,⟨new,e0⟩,_,_⟩:=Dfs.xh (dy:=Edge.uQ (bA rs)) h0 (fun b t ht=>by obtain⟨ts,u,h1,h2,rfl⟩:=Edge.AB ht;exact w.nat ts (dG h1) u h2)
 have pr:=Edge.LD h0 w.nat;rw[dW] at nd lt e0 pr;refine⟨?_,fun x hx=>lt x (List.mem_reverse.1 hx),by rw[e0];simp,fun k=>by rw[List.mem_reverse];exact pr k⟩;show List.Pairwise (· ≠ ·) _;rw[List.pairwise_reverse];exact List.Pairwise.imp (fun h=>Ne.symm h) nd
theorem aao{aO:List Nat}(nd:aO.Nodup)(lt:∀x∈aO,x<n)(f:Nat->Nat):(aO.map f).sum=((List.range n).map fun i=>if decide (i∈aO) then f i else 0).sum:=by rw[Edge.zd (fun i=>decide (i∈aO))];refine Edge.Ma ((List.perm_ext_iff_of_nodup nd (List.Pairwise.filter _ List.nodup_range)).2 fun x=>?_) f;rw[Ms,Kw];simp only[decide_eq_true_eq];exact⟨fun h=>⟨lt x h,h⟩,fun h=>h.2⟩
theorem By(f:α->Nat)(d:Nat)(l:List α):(List.range l.length).map (fun i=>((l[i]?).map f).getD d)=l.map f:=by
 refine zS fun i=>?_;rw[tT,tT];rcases zf i l.length with h|h
 .rw[List.getElem?_range h,fI h];simp[fI h]
 .rw[tS (by simpa using h),tS h];rfl
theorem L9{l:List Nat}{f g:Nat->Nat}(h:∀x∈l,f x<=g x):(l.map f).sum<=(l.map g).sum:=by
 induction l with
 |nil=>exact dw _
 |cons x l ih=>
  rw[BY,BY,PF,PF];exact Nat.add_le_add (h x (by simp)) (ih fun y hy=>h y (by simp[hy]))
section
variable{rs cC:List XR}{aO:List Nat}{ats:List Int}
structure vF(rs:List XR)(aO:List Nat)(ats:List Int)(cC:List XR):Prop where
 len:cC.length=aO.length
 al:ats.length=rs.length
 at_:∀i x:Nat,aO[i]?=some x->ats[x]?=some (i:Int)
 no:∀x,x<rs.length->x∉aO->ats[x]?=some (-1)
 r:∀(i k:Nat)(a b:XR),aO[i]?=some k->rs[k]?=some a->cC[i]?=some b->∃pk,(Edge.bD (bA rs))[k]?=some pk/\KR ats pk a b
theorem vF.ts(K:vF rs aO ats cC)(w:TF0 rs)(o:QH rs aO)(i k:Nat)(hk:aO[i]?=some k):∃ts Df,(bA rs)[k]?=some ts/\(bA cC)[i]?=some Df/\Df.length=ts.length/\∀(j:Nat)(t t':Int),ts[j]?=some t->Df[j]?=some t'->0<=t'/\aO[t'.toNat]?=some t.toNat:=by have rN:=o.lt k (dG hk);have gY:=(cr.mp hk).1;obtain⟨a,ha⟩:=aE rs k rN;obtain⟨b,hb⟩:=aE cC i (by rw[K.len];exact gY);obtain⟨pk,_,kr⟩:=K.r i k a b hk ha hb;refine⟨a.ts,b.ts,u5 ha,u5 hb,by rw[kr.ts];simp,fun j t t' h1 h2=>?_⟩;rw[kr.ts,tT,h1] at h2;simp only[DY,jm] at h2;have hR:Edge.Cz (bA rs) k:=(o.mem k).1 (dG hk);have hm:t.toNat∈aO:=(o.mem _).2 (hR.step (u5 ha) (dG h1));obtain⟨m,hm⟩:=sv hm;have B8:=K.at_ m _ hm;unfold Ls at h2;rw[B8] at h2;simp only[Option.getD_some] at h2;rw[<-h2];exact⟨by omega,by simpa using hm⟩
theorem vF.map(K:vF rs aO ats cC)(o:QH rs aO)(f:XR->Nat)(hf:∀(pk:List Int)(a b:XR),KR ats pk a b->f b=f a):(cC.map f).sum=((List.range rs.length).map fun i=>if decide (i∈aO) then((rs[i]?).map f).getD 0 else 0).sum:=by
 rw[<-aao o.nd o.lt (fun i=>((rs[i]?).map f).getD 0)];congr 1;refine zS fun i=>?_;rw[tT,tT];rcases zf i aO.length with h|h
 .obtain⟨k,hk⟩:=aE aO i h;have rN:=o.lt k (dG hk);obtain⟨a,ha⟩:=aE rs k rN;obtain⟨b,hb⟩:=aE cC i (by rw[K.len];exact h);obtain⟨pk,_,kr⟩:=K.r i k a b hk ha hb;rw[hk,hb];simp only[DY];rw[ha,hf pk a b kr];rfl
 .rw[tS (by rw[K.len];exact h),tS h];rfl
theorem vF.CL(K:vF rs aO ats cC)(w:Seen rs)(o:QH rs aO)(φ:Sh->Bool):kK φ cC=kK φ rs:=by
 unfold kK;rw[K.map o (fun r=>uF φ r.ls) (fun pk a b kr=>by rw[kr.ls]),<-By (fun r=>uF φ r.ls) 0 rs];congr 1;refine List.map_congr_left fun i hi=>?_;by_cases hm:i∈aO
 .simp[hm]
 .have gY:i<rs.length:=by simpa using hi
  obtain⟨a,ha⟩:=aE rs i gY;rcases w i a ha with h|⟨_,_,h⟩
  .exact absurd ((o.mem i).2 h) hm
  .simp[hm,ha,h,uF]
theorem vF.less(K:vF rs aO ats cC)(o:QH rs aO)(φ:Sh->Bool):kK φ cC<=kK φ rs:=by
 unfold kK;rw[K.map o (fun r=>uF φ r.ls) (fun pk a b kr=>by rw[kr.ls]),<-By (fun r=>uF φ r.ls) 0 rs];refine L9 fun i hi=>?_;split
 .exact dw _
 .exact Nat.zero_le _
theorem vF.tf(K:vF rs aO ats cC)(w:TF0 rs)(o:QH rs aO):TF cC/\∀k,k<cC.length->Edge.Cz (bA cC) k:=by
 have back:∀(i:Nat)(b:XR),cC[i]?=some b->∃k a pk,aO[i]?=some k/\rs[k]?=some a/\(Edge.bD (bA rs))[k]?=some pk/\KR ats pk a b:=by
  intro i b hb;have gY:i<aO.length:=by rw[<-K.len];exact(cr.mp hb).1
  obtain⟨k,hk⟩:=aE aO i gY;have rN:=o.lt k (dG hk);obtain⟨a,ha⟩:=aE rs k rN;obtain⟨pk,h1,h2⟩:=K.r i k a b hk ha hb;exact⟨k,a,pk,hk,ha,h1,h2⟩
 have all:∀k,k<cC.length->Edge.Cz (bA cC) k:=by intro i hi;obtain⟨k,hk⟩:=aE aO i (by rw[<-K.len];exact hi);have hR:=(o.mem k).1 (dG hk);exact Edge.Cz.mE o.nd o.h00 (fun x hx ts qE t ht=>(o.mem _).2 (((o.mem x).1 hx).step qE ht)) (K.ts w o) hk hR
 have Vr:aO.length<=rs.length:=by have:=gK_ o.nd (l₂:=List.range rs.length) (fun x hx=>Kw.2 (o.lt x hx));simpa using this
 have h0:=(cr.mp o.h00).1;have F9:=w.F9;have hl:=K.len;have ajO:∀(i:Nat),i<cC.length->∃k,aO[i]?=some k/\(Edge.rowOf (bA cC) i cC.length).length=((Edge.rowOf (bA rs) k (bA rs).length).filter (mh ats)).length:=by
  intro i hi;obtain⟨k,hk⟩:=aE aO i (by rw[<-K.len];exact hi);have:=Edge.Ef o.nd (fun x hx=>by rw[dW];exact o.lt x hx) (by rw[dW];exact K.len) (K.ts w o) hk (mh ats) (fun x hx=>by
   rw[dW] at hx;unfold mh;simp only[decide_eq_true_eq,gP_];by_cases hm:x∈aO
   .obtain⟨m,NU⟩:=sv hm;rw[K.at_ m x NU];simp only[Option.getD_some];exact⟨fun _=>hm,fun _=>by omega⟩
   .rw[K.no x hx hm];simp only[Option.getD_some];exact⟨fun h=>by omega,fun h=>absurd h hm⟩)
  rw[dW cC] at this;exact⟨k,hk,this⟩
 refine⟨⟨⟨by omega,by omega,fun b hb=>?_,fun b hb t ht=>?_,fun i b hb q hq=>?_,?_,fun b hb x hx=>?_,fun i hi=>?_⟩,fun i b hb=>.inl (all i (cr.mp hb).1)⟩,all⟩
 .obtain⟨i,hi⟩:=sv hb;obtain⟨k,a,pk,hk,ha,h1,kr⟩:=back i b hi;unfold Yx;rw[kr.kind,kr.ts];rcases w.kind a (dG ha) with⟨h,e⟩|⟨h,t,e⟩|⟨h,t,u,e⟩
  .exact .inl ⟨h,by rw[e];rfl⟩
  .exact .inr (.inl ⟨h,_,by rw[e];rfl⟩)
  .exact .inr (.inr ⟨h,_,_,by rw[e];rfl⟩)
 .obtain⟨i,hi⟩:=sv hb;obtain⟨k,a,pk,hk,ha,h1,kr⟩:=back i b hi;obtain⟨ts,Df,e1,e2,e3,e4⟩:=K.ts w o i k hk;rw[u5 ha] at e1;cases e1;rw[u5 hi] at e2;cases e2;obtain⟨j,hj⟩:=sv ht;obtain⟨t0,VD⟩:=aE a.ts j (by rw[<-e3];exact(cr.mp hj).1);obtain⟨p0,p1⟩:=e4 j t0 t VD hj;have p2:=(cr.mp p1).1;refine⟨?_,by omega⟩;rcases ve t.toNat with h|h
  .rw[h,o.h00] at p1;have:=w.to a (dG ha) t0 (dG VD);have p3:=Option.some.inj p1;omega
  .omega
 .obtain⟨k,a,pk,hk,ha,h1,kr⟩:=back i b hb;obtain⟨j,hj⟩:=sv hq;obtain⟨p,hp⟩:=aE a.ps j (by rw[<-kr.pl];exact(cr.mp hj).1);rw[(kr.ps j q p hj hp).2];have CK:=Edge.pW w.nat h1;obtain⟨k2,AT,this⟩:=ajO i (cr.mp hb).1;rw[hk] at AT;cases AT;rw[this,<-CK]
 .rw[K.map o ku (fun pk a b kr=>by simp only[ku];rw[kr.ls,kr.pl])];refine sD (L9 (g:=fun i=>((rs[i]?).map ku).getD 0) (fun i _=>?_)) ?_
  .split
   .exact dw _
   .exact Nat.zero_le _
  .rw[By];exact w.sum
 .obtain⟨i,hi⟩:=sv hb;obtain⟨k,a,pk,hk,ha,h1,kr⟩:=back i b hi;rw[kr.ls] at hx;exact w.al a (dG ha) x hx
 .obtain⟨k,hk,e⟩:=ajO i hi;rw[e,dW];exact Nat.lt_of_le_of_lt (XP _ _) (w.short k (o.lt k (dG hk)))
end
def So(rs:List XR):List Nat:=(Dfs.ly (Edge.uQ (bA rs)) rs.length).reverse
def ab6(rs:List XR)(h:ae)(v:Value)(h':ae):Prop:=ab aK h h'/\∃L:SV,v=L.v/\bH bj h.next h' L.v (nI (So rs))
theorem Ly(ok:bm h){name:ByteArray}{p r:Int}(O:pV h n0 ai κ cap B rs)(w:TF0 rs):
  aF FF pb [.agg ⟨aw name p r B⟩] h (ab6 rs h):=by
 obtain⟨bs,KH,hV⟩:=O.view;have E:=hV.ends w.tok;have N7:=hV.dy;have vh:bs.length=rs.length:=hV.1;have h0:0<bs.length:=by rw[vh];exact w.n1
 refine(EG ok (name:=name) (p:=p) (r:=r) KH E h0).mono ?_;rintro v h'⟨g,L,rfl,hL⟩;refine⟨g,L,rfl,?_⟩;have e1:po bs=Edge.uQ (bA rs):=by rw[<-N7];simp[po,bt,Edge.uQ]
 have e2:(pJ bs).reverse=nI (So rs):=by unfold pJ nI So;rw[e1,vh,List.map_reverse]
 rw[<-e2];exact hL
def ab4(name:ByteArray)(p r:Int)(n0 ai:Nat)(κ0:Nat->Nat)(rs:List XR)(h:ae)(v:Value)(h':ae):Prop:=
 ab (fun b=>κ0 b=3\/κ0 b=5) h h'/\∃(B':SV) (cC:List XR) (κ cap:Nat->Nat),v=.agg ⟨aw name p r B'⟩/\(∀x,x<h.next->κ x=κ0 x)/\pV h' n0 ai κ cap B' cC/\TF cC/\(∀k,k<cC.length->Edge.Cz (bA cC) k)/\∀φ,kK φ cC<=kK φ rs/\(Seen rs->kK φ cC=kK φ rs)
theorem P5(ok:bm h){name:ByteArray}{p r:Int}{κ0 pP:Nat->Nat}{B O:SV}(W:pV h n0 ai κ0 pP B rs)(wv:n0<=h.next)(w:TF0 rs)(hO:bH bj m h O.v (nI (So rs)))(κO:∀x,m<=x->κ0 x=0):
  aF FF wz [.agg ⟨aw name p r B⟩,O.v] h (ab4 name p r n0 ai κ0 rs h):=by
 have o:=aqJ w;refine(RH ok W wv (aO:=So rs) ⟨w.tok,w.F9,w.Xs,o.nd,o.lt,fun r hr=>by have:=(w.size r hr).1;omega,w.OK⟩ hO.sl (fun _ b hb=>κO b (hO.of hb))).mono ?_;rintro v h'⟨g,B',cC,κ,cap,ats,e,iM,O',hl,B7,B8,hno,hr⟩;have K:vF rs (So rs) ats cC:=⟨hl,B7,B8,hno,hr⟩;obtain⟨T',R'⟩:=K.tf w o;exact⟨g,B',cC,κ,cap,e,iM,O',T',R',fun φ=>⟨K.less o φ,fun sn=>K.CL sn o φ⟩⟩
structure TY(now:List Int)(many ai:Nat):Prop where
 len:now.length=ai
 lt:∀v∈now,v= -1\/(0<=v/\v<many)
 xC:many+now.countP (fun v=>decide (v<0))=ai
def Nm(h:ae)(N nb ai:Nat):Prop:=∃(now:List Int) (many s s':Nat),h.tr.get N=some (.aC [.slice (some ⟨nb,0,none⟩) ai ai,.int .i64 many] false 0 s)/\h.tr.get nb=some (.aC (bj.flat now) false 0 s')/\N≠nb/\TY now many ai
def wP(N nb:Nat)(x:Nat):Prop:=x=N\/x=nb
theorem Nm.grow{S:Nat->Prop}(w:Nm h N nb ai)(ok:bm h)(g:ab S h h')(h1:¬S N)(h2:¬S nb):Nm h' N nb ai:=by obtain⟨now,many,s,s',a,b,c,d⟩:=w;exact⟨now,many,s,s',g.get ok a h1,g.get ok b h2,c,d⟩
theorem DJ{r:Nat}{x:Int}(hr:now[r]?=some x)(hx:x<0){y:Int}(hy:¬y<0):(now.set r y).countP (fun v=>decide (v<0))+1=now.countP (fun v=>decide (v<0)):=by
 induction now generalizing r with
 |nil=>simp at hr
 |cons a l ih=>
  cases r with
  |zero=>
   simp at hr;subst hr;simp[List.countP_cons,hx,hy]
  |succ r=>
   have:=ih (r:=r) (by simpa using hr);simp only[List.set_cons_succ,List.countP_cons];omega
theorem TY.put{many ai r:Nat}{x:Int}(w:TY now many ai)(hr:now[r]?=some x)(hx:x<0):TY (now.set r (many:Int)) (many+1) ai:=by
 refine⟨by simp[w.len],fun v hv=>?_,?_⟩
 .rcases Kx hv with h|h
  .rcases w.lt v h with h|h
   .exact .inl h
   .exact .inr (by omega)
  .exact .inr (by omega)
 .have:=DJ hr hx (y:=(many:Int)) (by omega);have:=w.xC;omega
def NmQ(N nb ai:Nat)(h:ae)(v:Value)(h':ae):Prop:=ab (wP N nb) h h'/\Nm h' N nb ai/\∃x:Nat,v=.int .i64 x/\x<ai
theorem xb(ok:bm h){N nb ai r:Nat}(w:Nm h N nb ai)(hr:r<ai)(yV:ai<1000000):
  aF FF sQ [.pointer (some ⟨N,0,none⟩),.int .i64 r] h (NmQ N nb ai h):=by
 obtain⟨now,many,s,s',hN,hb,cq,w⟩:=w;have hl:=w.len;obtain⟨x,hx⟩:=aE now r;have rx:=jI hb hx;have hcnt:=w.xC;refine aF.of zI ?_;unfold se;by_cases IM:x<0
 .have hm:many<ai:=by have:0<now.countP (fun v=>decide (v<0)):=List.countP_pos_iff.2 ⟨x,dG hx,by simpa using IM⟩;omega
  have wm:=wrap_i64 ((many:Int)+1) (by omega) (by omega);have C0:=ok.st _ _ _ _ _ hN;have vj:r<now.length:=by omega
  have ne2:¬N=nb:=cq;have ne3:¬nb=N:=Ne.symm cq;have rP:r+1<=now.length:=by omega
  simp[hN,hb,hr,vj,rP,rx,IM,-ag,av hN,ay];have e1:=oO now r (many:Int) vj;have g1:=aQ (off:=r) (vs:=[Value.int .i64 (many:Int)]) (bh ok).ok (b:=nb) (by simpa using hb);have D1:(put (tick h) nb r (bj.flat now) [Value.int .i64 (many:Int)] 0).tr.get nb=some (.aC (bj.flat (now.set r (many:Int))) false 0 (h.clock+1)):=by rw[aD,e1];rfl
  have hN1:=g1.get (bh ok).ok (b:=N) (by simpa using hN) cq;have gg1:=(bh ok).bl.trans g1;generalize put (tick h) nb r (bj.flat now) [Value.int .i64 (many:Int)] 0=h1 at*;simp[hN1,wm];have g2:=aQ (off:=1) (vs:=[Value.int .i64 ((many:Int)+1)]) g1.ok hN1;have hN2:(put h1 N 1 [Value.slice (some ⟨nb,0,none⟩) ai ai,Value.int .i64 many] [Value.int .i64 ((many:Int)+1)] 0).tr.get N=some (.aC [.slice (some ⟨nb,0,none⟩) ai ai,.int .i64 ((many:Int)+1)] false 0 h1.clock):=by rw[aD];rfl
  have cA:=g2.get g1.ok D1 ne3;generalize put h1 N 1 _ _ 0=h2 at*;have Xj:=jI cA (k:=r) (x:=(many:Int)) (by rw[fg,aZ rfl,aZ vj]);simp[hN2,hr,Xj,-ag,av hN2];refine⟨(gg1.bU (fun x _ e=>.inr e)).trans (g2.bU (fun x _ e=>.inl e)),⟨now.set r (many:Int),many+1,_,_,hN2,cA,cq,w.put hx IM⟩,many,rfl,by omega⟩
 .have:0<=x/\x<many:=by
   rcases w.lt x (dG hx) with h|h
   .omega
   .exact h
  obtain⟨y,rfl⟩:∃y:Nat,x=y:=⟨x.toNat,by omega⟩;simp[hN,hr,rx,IM,-ag,av hN];exact⟨.refl ok,⟨now,many,s,s',hN,hb,cq,w⟩,y,rfl,by omega⟩
def XO(N nb ai:Nat)(u:Bool×Int)(h:ae)(v:Value)(h':ae):Prop:=ab (wP N nb) h h'/\Nm h' N nb ai/\∃w:Bool×Int,v=.agg ⟨[.bool w.1,.int .i64 w.2]⟩/\w.1=u.1/\fk ai w/\(u.1=false->w=u)
theorem uT(ok:bm h)(w:Nm h N nb ai){u:Bool×Int}(hu:fk ai u)(yV:ai<1000000):
  aF FF ub [.pointer (some ⟨N,0,none⟩),.agg ⟨[.bool u.1,.int .i64 u.2]⟩] h (XO N nb ai u h):=by
 obtain⟨ur,un⟩:=u;have lN:N<h.next:=by obtain⟨_,_,_,_,hN,_⟩:=w;exact ok.wf _ _ hN
 have lb:nb<h.next:=by obtain⟨_,_,_,_,_,hb,_⟩:=w;exact ok.wf _ _ hb
 refine aF.of Bc ?_;unfold tN;have n2:¬h.next=h.next+1:=by omega
 have n3:¬h.next+1=h.next:=by omega
 simp;refine aB.cut (fun h1=>ab aK h h1/\(∃s,h1.tr.get h.next=some (.aC [.bool ur,.int .i64 un] false 0 s))/\(∃s,h1.tr.get (h.next+1)=some (.aC [.bool false,.int .i64 0] false 0 s))) ?_ ?_
 .exact⟨((ab.refl ok).new _ _).new _ _,⟨0,by simp[n2]⟩,⟨0,by simp⟩⟩
 rintro h1⟨g1,⟨sV,hV1⟩,⟨sR,uK⟩⟩;have w1:=w.grow ok g1 (fun h=>h) (fun h=>h);cases ur with
 |false=>
  simp[hV1,uK];refine⟨g1.bl.put ⟨_,uK⟩ (.inl (by omega)),?_,(false,un),rfl,rfl,hu,fun _=>rfl⟩;exact w1.grow g1.ok (aQ g1.ok uK) (by omega) (by omega)
 |true=>
  obtain⟨h0,h2⟩:=hu rfl;obtain⟨r,hr⟩:∃r:Nat,un=r:=⟨un.toNat,by simp at h0;omega⟩;subst hr;simp[hV1];refine aG.call (V:=NmQ N nb ai h1) (by simpa using xb g1.ok w1 (r:=r) (by simpa using h2) yV) ?_;rintro _ h2⟨g2,w2,x,rfl,hx⟩;have hV2:=g2.get g1.ok hV1 (fun e=>by rcases e with e|e<;>omega);have AO:=g2.get g1.ok uK (fun e=>by rcases e with e|e<;>omega);have g3:=aQ (off:=1) (vs:=[Value.int .i64 (x:Int)]) g2.ok hV2;have hV3:(put h2 h.next 1 [Value.bool true,Value.int .i64 r] [Value.int .i64 (x:Int)] 0).tr.get h.next=some (.aC [.bool true,.int .i64 x] false 0 h2.clock):=by rw[aD];rfl
  have zh:=g3.get g2.ok AO n3;simp[hV2,AO,n2,n3];generalize put h2 h.next 1 _ _ 0=h3 at*;have w3:=w2.grow g2.ok g3 (by omega) (by omega);have g4:=aQ (off:=0) (vs:=[Value.bool true,Value.int .i64 (x:Int)]) g3.ok zh;have w4:=w3.grow g3.ok g4 (by omega) (by omega);exact⟨((g1.bl.trans g2).trans' g3 (fun _ _ h=>h) (fun y hy e=>by omega)).trans' g4 (fun _ _ h=>h) (fun y hy e=>by omega),w4,(true,(x:Int)),rfl,rfl,fun _=>⟨by show(0:Int)<=x;omega,by show(x:Int)<ai;omega⟩,fun h=>by cases h⟩
section
variable{n0 ai:Nat}{κ cap:Nat->Nat}{B:SV}{rs:List XR}{N nb:Nat}
structure NR(h:ae)(n0 ai:Nat)(κ cap:Nat->Nat)(B:SV)(rs:List XR)(N nb:Nat):Prop where
 O:pV h n0 ai κ cap B rs
 w:Nm h N nb ai
 κN:κ N=0
 κb:κ nb=0
 Fu:ai<1000000
theorem NR.step{h h2 h3:ae}(k:NR h n0 ai κ cap B rs N nb)(ok:bm h)(g2:ab aK h h2)(g3:ab (wP N nb) h2 h3)(w3:Nm h3 N nb ai):NR h3 n0 ai κ cap B rs N nb:=
 ⟨(k.O.bl ok g2).grow g2.ok g3 (fun b hb=>by rcases hb with e|e<;>(rw[e];first|exact k.κN|exact k.κb)),w3,k.κN,k.κb,k.Fu⟩
theorem NR.bl{h h2:ae}(k:NR h n0 ai κ cap B rs N nb)(ok:bm h)(g2:ab aK h h2):NR h2 n0 ai κ cap B rs N nb:=
 ⟨k.O.bl ok g2,k.w.grow ok g2 (fun h=>h) (fun h=>h),k.κN,k.κb,k.Fu⟩
theorem NR.lt(k:NR h n0 ai κ cap B rs N nb)(ok:bm h):N<h.next/\nb<h.next:=by obtain⟨_,_,_,_,a,b,_⟩:=k.w;exact⟨ok.wf _ _ a,ok.wf _ _ b⟩
theorem VA.val(w:VA κ cap A)(V:yy h κ cap ai)(hj:j<A.l):∃b vs o s v,A.a=some ⟨b,0,none⟩/\κ b=1/\A.c=cap b/\h.tr.get b=some (.aC (bx.flat vs) false o s)/\(o=0\/o=2)/\vs.length=cap b/\(∀v∈vs,fk ai v)/\vs[j]?=some v/\fk ai v/\aV h b (j*2) 2=some [.bool v.1,.int .i64 v.2]:=by
 obtain⟨hl,h0|⟨b,ha,hk,hc⟩⟩:=w
 .omega
 obtain⟨vs,o,s,hb,ho,Fq,hv⟩:=V b hk;obtain⟨v,hx⟩:=aE vs j;refine⟨b,vs,o,s,v,ha,hk,hc,hb,ho,Fq,hv,hx,hv v (dG hx),?_⟩;rw[bV hb (by rw[bx.bI,dI];have:=(cr.mp hx).1;omega)];have:=bx.lL vs j v hx;simp only[dI] at this;rw[this];rfl
def NaL:List Nat:=[12,79,80,81,82,83,84,85,86]
def NaI(h:ae)(n0 ai:Nat)(κ cap:Nat->Nat)(B:SV)(rs:List XR)(N nb:Nat)(A:SV)(e:Env)(m:Nat)(e':Env)(h':ae):Prop:=
 ∃j:Nat,m=A.l-j/\j<=A.l/\aA NaL e e'/\ak e' 79=.int .i64 j/\ab (wP N nb) h h'/\NR h' n0 ai κ cap B rs N nb
theorem ZO(ok:bm h)(k:NR h n0 ai κ cap B rs N nb)(hA:VA κ cap A)(hl:A.l<=1048576)(f3:ak e 3=.pointer (some ⟨N,0,none⟩))(f77:ak e 77=A.v)(f78:ak e 78=.int .i64 A.l)(f79:ak e 79=.int .i64 0)(C:∀e' h',aA NaL e e'->ab (wP N nb) h h'->NR h' n0 ai κ cap B rs N nb->QQ (.exit 8) e' h'):aB FF (.loop nq) e h QQ:=by
 refine aB.loop (NaI h n0 ai κ cap B rs N nb A e) ?_ (n:=A.l) ⟨0,rfl,by omega,aA.refl _ _,f79,.refl ok,k⟩;rintro m e' h'⟨j,rfl,hj,K,q79,g,k'⟩;have bz:=g.ok;have q3:=K.at f3;have q77:=K.at f77;have q78:=K.at f78;unfold nq;by_cases aS:j<A.l
 .have wj:=wrap_i64 ((j:Int)+1) (by omega) (by omega);obtain⟨b,vs,o,s,v,ha,IF,hc,hb,ho,Fq,x5,hx,hv,rd⟩:=hA.val k'.O.os.V aS;simp at q77;rw[ha] at q77;simp[q3,q77,q78,q79,aS,rd,-ag,au];have g2:ab aK h' (put (aJ h' [.bool false,.int .i64 0] 0) h'.next 0 [.bool false,.int .i64 0] [.bool v.1,.int .i64 v.2] 0):=(ab.refl bz).var _ _;generalize put (aJ h' [.bool false,.int .i64 0] 0) h'.next 0 _ _ 0=h2 at*;refine aG.call (V:=XO N nb ai v h2) (by simpa using uT g2.ok (k'.bl bz g2).w hv k.Fu) ?_;rintro _ h3⟨g3,w3,u,rfl,_,_,_⟩;simp[q79,wj];refine⟨A.l-(j+1),by omega,j+1,rfl,aS,?_,by simp,g.trans (g2.bl.trans g3),k'.step bz g2 g3 w3⟩
  repeat (refine aA.set ?_)
  exact K
 .have:j=A.l:=by omega
  subst this;simp[q78,q79];exact C _ _ (aA.set K) g k'
def NpL:List Nat:=[8,52,53,54,55,56,57,58,59,60]
def NpI(h:ae)(n0 ai:Nat)(κ cap:Nat->Nat)(B:SV)(rs:List XR)(N nb:Nat)(r:XR)(e:Env)(m:Nat)(e':Env)(h':ae):Prop:=
 ∃j:Nat,m=r.ps.length-j/\j<=r.ps.length/\aA NpL e e'/\ak e' 52=.int .i64 j/\ab (wP N nb) h h'/\NR h' n0 ai κ cap B rs N nb
theorem ZQ(ok:bm h)(k:NR h n0 ai κ cap B rs N nb)(hr:rs[i]?=some r)(hl:r.ps.length<=1048576)(f3:ak e 3=.pointer (some ⟨N,0,none⟩))(f50:ak e 50=r.P.v)(f51:ak e 51=.int .i64 r.ps.length)(f52:ak e 52=.int .i64 0)(C:∀e' h',aA NpL e e'->ab (wP N nb) h h'->NR h' n0 ai κ cap B rs N nb->QQ (.exit 4) e' h'):aB FF (.loop nu) e h QQ:=by
 refine aB.loop (NpI h n0 ai κ cap B rs N nb r e) ?_ (n:=r.ps.length) ⟨0,rfl,by omega,aA.refl _ _,f52,.refl ok,k⟩;rintro m e' h'⟨j,rfl,hj,K,q52,g,k'⟩;have bz:=g.ok;have q3:=K.at f3;have q50:=K.at f50;have q51:=K.at f51;unfold nu;by_cases aS:j<r.ps.length
 .have wj:=wrap_i64 ((j:Int)+1) (by omega) (by omega);obtain⟨q,hq⟩:=aE r.ps j aS;have R:=k'.O.os.r i r hr;obtain⟨b,cs,o,s,ha,hb,_,_,dj,_⟩:=R.P.el hq;have rd:=dj 0 2 (by decide);simp[-ag] at rd;have kj:=R.P.len;obtain⟨h0,h1⟩:=(R.ps q (dG hq)).1;obtain⟨u,hu⟩:∃u:Nat,q.1=u:=⟨q.1.toNat,by omega⟩;rw[hu] at rd;simp at q50;rw[ha,kj] at q50;simp[q3,q50,q51,q52,aS,rd,-ag,au];have g2:ab aK h' (put (aJ h' [.int .i64 0,.slice none 0 0] 0) h'.next 0 [.int .i64 0,.slice none 0 0] [.int .i64 u,.slice q.2.a q.2.l q.2.c] 0):=(ab.refl bz).var _ _;generalize put (aJ h' [.int .i64 0,.slice none 0 0] 0) h'.next 0 _ _ 0=h2 at*;refine aG.call (V:=NmQ N nb ai h2) (by simpa using xb g2.ok (k'.bl bz g2).w (r:=u) (by omega) k.Fu) ?_;rintro _ h3⟨g3,w3,x,rfl,_⟩;simp[q52,wj];refine⟨r.ps.length-(j+1),by omega,j+1,rfl,aS,?_,by simp,g.trans (g2.bl.trans g3),k'.step bz g2 g3 w3⟩
  repeat (refine aA.set ?_)
  exact K
 .have:j=r.ps.length:=by omega
  subst this;simp[q51,q52];exact C _ _ (aA.set K) g k'
end
def tl(κ:Nat->Nat)(x:Nat):Prop:=κ x=1
def tL(h:ae)(A:SV)(j:Nat)(P:Bool×Int->Prop):Prop:=j=0\/∃b vs o s,A.a=some ⟨b,0,none⟩/\h.tr.get b=some (.aC (bx.flat vs) false o s)/\∀(i:Nat)(v:Bool×Int),i<j->vs[i]?=some v->P v
theorem tL.zero :tL h A 0 P:=.inl rfl
theorem Kl{xs ys:List (Bool×Int)}(h:bx.flat xs=bx.flat ys):xs=ys:=by
 have hl:xs.length=ys.length:=by have:=congrArg List.length h;rw[bx.bI,bx.bI,dI] at this;omega
 refine zS fun i=>?_;rcases zf i xs.length with hi|hi
 .have hx:xs[i]?=some xs[i]:=fI hi;have hy:ys[i]?=some (ys[i]'(by omega)):=fI (by omega);have a:=bx.lL xs i _ hx;have b:=bx.lL ys i _ hy;rw[h,b] at a;rw[hx,hy];generalize xs[i]=u at*;generalize ys[i]'(by omega)=v at*;simp at a;rw[Prod.ext_iff.2 ⟨a.1,a.2⟩]
 .rw[tS hi,tS (by omega)]
theorem tL.step{h h2:ae}{A:SV}{j:Nat}{P:Bool×Int->Prop}(r:tL h A j P){b:Nat}{vs:List (Bool×Int)}{o s:Nat}(ha:A.a=some ⟨b,0,none⟩)(hb:h.tr.get b=some (.aC (bx.flat vs) false o s))(hj:j<vs.length){u:Bool×Int}{o2:Nat}(cA:∃s,h2.tr.get b=some (.aC (bx.flat (vs.set j u)) false o2 s))(hu:P u):tL h2 A (j+1) P:=by
 obtain⟨s2,cA⟩:=cA;refine .inr ⟨b,_,o2,s2,ha,cA,fun i v hi hv=>?_⟩;rw[fg] at hv;by_cases e:j=i
 .rw[aZ e] at hv;split at hv
  .cases hv;exact hu
  .rename_i hn;exact absurd hj (e▸hn)
 .rw[aW e] at hv;rcases r with r|⟨b',vs',o',s',PJ,gk,H⟩
  .omega
  .rw[ha] at PJ;simp at PJ;subst PJ;rw[hb] at gk;simp only[jm,o9.aC.injEq] at gk;have:=Kl gk.1;subst this;exact H i v (by omega) hv
theorem tL.all(r:tL h A A.l P)(hA:VA κ cap A)(V:yy h κ cap ai):T9 h A P:=by
 rcases r with r|⟨b,vs,o,s,ha,hb,H⟩
 .exact .inl r
 .refine .inr ⟨b,vs,o,s,ha,hb,?_,H⟩;obtain⟨hl,h0|⟨b',PJ,hk,hc⟩⟩:=hA
  .rw[h0.1] at ha;cases ha
  .rw[ha] at PJ;simp at PJ;subst PJ;obtain⟨vs',o',s',gk,_,Fq,_⟩:=V b hk;rw[hb] at gk;simp only[jm,o9.aC.injEq] at gk;have:=Kl gk.1;subst this;omega
def PhL:List Nat:=[8,9,34,35,36,37,38,39,40,41,42,43,44,45,46]
def Z9(c:WC)(h:ae)(κ cap:Nat->Nat)(rs:List XR)(nw:List (Bool×Int))(aR:Bool)(A:SV)(e:Env)(mm:Nat)(e':Env)(h':ae):Prop:=
 ∃j:Nat,mm=A.l-j/\j<=A.l/\aA PhL e e'/\ak e' 34=.int .i64 j/\ab (tl κ) h h'/\Wk c h' κ cap rs nw aR/\tL h' A j (fun v=>fk c.ai v/\nJ nw v)
theorem aew{c:WC}{nw:List (Bool×Int)}(ok:bm h)(w:Wk c h κ cap rs nw aR)(hA:VA κ cap A)(hl:A.l<=1048576)(hX:h.tr.get X=some (.aC xc false 0 sX))(κX:κ X=0)(C1:(xc.drop 1).take 1=[A.v])(f0:ak e 0=.pointer (some ⟨c.K,0,none⟩))(fX:ak e 7=.pointer (some ⟨X,0,none⟩))(fA:ak e 32=A.v)(fl:ak e 33=.int .i64 A.l)(fj:ak e 34=.int .i64 0)(C:∀e' h',aA PhL e e'->ab (tl κ) h h'->Wk c h' κ cap rs nw aR->T9 h' A (fun v=>fk c.ai v/\nJ nw v)->QQ (.exit 2) e' h'):aB FF (.loop jD) e h QQ:=by
 refine aB.loop (Z9 c h κ cap rs nw aR A e) ?_ (n:=A.l) ⟨0,rfl,by omega,aA.refl _ _,fj,.refl ok,w,tL.zero⟩;rintro mm e' h'⟨j,rfl,hj,K,qj,g,k',rt⟩;have bz:=g.ok;have q0:=K.at f0;have qX:=K.at fX;have qA:=K.at fA;have ql:=K.at fl;have mf:=g.get ok hX (fun e=>by unfold tl at e;omega);have rV:1+1<=xc.length:=by have:=congrArg List.length C1;simp at this;omega
 unfold jD;by_cases aS:j<A.l
 .have wj:=wrap_i64 ((j:Int)+1) (by omega) (by omega);obtain⟨b,vs,o,s,v,ha,IF,hc,hb,ho,Fq,x5,hx,hv,rd⟩:=hA.val k'.O.os.V aS;simp at qA;rw[ha] at qA;have xI:(xc.drop 1).take 1=[.slice (some ⟨b,0,none⟩) A.l A.c]:=by rw[C1];simp[ha]
  have rX:aV h' X 1 1=some [.slice (some ⟨b,0,none⟩) A.l A.c]:=by rw[bV mf rV,xI]
  have oX:=bz.bC mf;have C0:=bz.st _ _ _ _ _ mf;have lX:=oX.lt;have Wi:¬X=h'.next:=by omega
  have lb:=bz.wf _ _ hb;simp[q0,qX,qA,ql,qj,aS,rd,rX,oX,Wi,-ag,au,aX,aN,ay];refine aU.cut (fun h2=>ab aK h' h2) ?_ ?_
  .exact((ab.refl bz).var _ _).tick
  intro h2 g2;have k2:=k'.bl bz g2;have dX:=g2.get bz mf;refine aU.call (V:=Dp nw c.ai h2) (by simpa using qc g2.ok k2.k hv) ?_;rintro _ h3⟨g3,u,rfl,hu,hur⟩;have k3:=k2.bl g2.ok g3;have fe:=g3.get g2.ok dX;have x4:=g3.get g2.ok (g2.get bz hb (fun h=>h));have Ts:j<vs.length:=(cr.mp hx).1;have zX:j*2+2<=vs.length*2:=by omega
  have tY:sX<=h'.clock+1:=by omega
  have rX3:aV h3 X 1 1=some [.slice (some ⟨b,0,none⟩) A.l A.c]:=by rw[bV fe rV,xI]
  simp[qX,fe,tY,aS,x4,zX,qj,wj,rX3];have g4:=aQ (off:=j*2) (vs:=[Value.bool u.1,Value.int .i64 u.2]) g3.ok x4;have e4:=bx.eD vs j u Ts;simp only[dI,qB] at e4;have D3:∃s,(put h3 b (j*2) (bx.flat vs) [Value.bool u.1,Value.int .i64 u.2] o).tr.get b=some (.aC (bx.flat (vs.set j u)) false o s):=⟨_,by rw[aD,e4]⟩;generalize put h3 b (j*2) (bx.flat vs) [Value.bool u.1,Value.int .i64 u.2] o=h4 at*;have k4:=k3.BA g3.ok IF g4 D3 ho (by simp[Fq]) (fun w hw=>by
   rcases Kx hw with h|h
   .exact x5 w h
   .rw[h];exact hu)
  refine⟨A.l-(j+1),by omega,j+1,rfl,aS,?_,by simp,?_,k4,rt.step ha hb Ts D3 ⟨hu,hur⟩⟩
  .repeat (refine aA.set ?_)
   exact K
  .exact((g.trans g2.bl).trans g3.bl).trans (g4.bU (fun x _ e=>by unfold tl;rw[e];exact IF))
 .have:j=A.l:=by omega
  subst this;simp[ql,qj];exact C _ _ (aA.set K) g k' (rt.all hA k'.O.os.V)
def ago:List Nat:=[13,14,66,67,68,69,70,71,72,73,74,75,76,77,78]
def XN(c:WC)(h:ae)(κ cap:Nat->Nat)(rs:List XR)(nw:List (Bool×Int))(aR:Bool)(A:SV)(e:Env)(mm:Nat)(e':Env)(h':ae):Prop:=
 ∃j:Nat,mm=A.l-j/\j<=A.l/\aA ago e e'/\ak e' 66=.int .i64 j/\ab (tl κ) h h'/\Wk c h' κ cap rs nw aR/\tL h' A j (fun v=>fk c.ai v/\nJ nw v)
theorem aaB{c:WC}{nw:List (Bool×Int)}(ok:bm h)(w:Wk c h κ cap rs nw aR)(hA:VA κ cap A)(hl:A.l<=1048576)(hX:h.tr.get X=some (.aC xc false 0 sX))(κX:κ X=0)(C1:(xc.drop 7).take 1=[A.v])(f0:ak e 0=.pointer (some ⟨c.K,0,none⟩))(fX:ak e 12=.pointer (some ⟨X,0,none⟩))(fA:ak e 64=A.v)(fl:ak e 65=.int .i64 A.l)(fj:ak e 66=.int .i64 0)(C:∀e' h',aA ago e e'->ab (tl κ) h h'->Wk c h' κ cap rs nw aR->T9 h' A (fun v=>fk c.ai v/\nJ nw v)->QQ (.exit 4) e' h'):aB FF (.loop jG) e h QQ:=by
 refine aB.loop (XN c h κ cap rs nw aR A e) ?_ (n:=A.l) ⟨0,rfl,by omega,aA.refl _ _,fj,.refl ok,w,tL.zero⟩;rintro mm e' h'⟨j,rfl,hj,K,qj,g,k',rt⟩;have bz:=g.ok;have q0:=K.at f0;have qX:=K.at fX;have qA:=K.at fA;have ql:=K.at fl;have mf:=g.get ok hX (fun e=>by unfold tl at e;omega);have rV:7+1<=xc.length:=by have:=congrArg List.length C1;simp at this;omega
 unfold jG;by_cases aS:j<A.l
 .have wj:=wrap_i64 ((j:Int)+1) (by omega) (by omega);obtain⟨b,vs,o,s,v,ha,IF,hc,hb,ho,Fq,x5,hx,hv,rd⟩:=hA.val k'.O.os.V aS;simp at qA;rw[ha] at qA;have xI:(xc.drop 7).take 1=[.slice (some ⟨b,0,none⟩) A.l A.c]:=by rw[C1];simp[ha]
  have rX:aV h' X 7 1=some [.slice (some ⟨b,0,none⟩) A.l A.c]:=by rw[bV mf rV,xI]
  have oX:=bz.bC mf;have C0:=bz.st _ _ _ _ _ mf;have lX:=oX.lt;have Wi:¬X=h'.next:=by omega
  have lb:=bz.wf _ _ hb;simp[q0,qX,qA,ql,qj,aS,rd,rX,oX,Wi,-ag,au,aX,aN,ay];refine aU.cut (fun h2=>ab aK h' h2) ?_ ?_
  .exact((ab.refl bz).var _ _).tick
  intro h2 g2;have k2:=k'.bl bz g2;have dX:=g2.get bz mf;refine aU.call (V:=Dp nw c.ai h2) (by simpa using qc g2.ok k2.k hv) ?_;rintro _ h3⟨g3,u,rfl,hu,hur⟩;have k3:=k2.bl g2.ok g3;have fe:=g3.get g2.ok dX;have x4:=g3.get g2.ok (g2.get bz hb (fun h=>h));have Ts:j<vs.length:=(cr.mp hx).1;have zX:j*2+2<=vs.length*2:=by omega
  have tY:sX<=h'.clock+1:=by omega
  have rX3:aV h3 X 7 1=some [.slice (some ⟨b,0,none⟩) A.l A.c]:=by rw[bV fe rV,xI]
  simp[qX,fe,tY,aS,x4,zX,qj,wj,rX3];have g4:=aQ (off:=j*2) (vs:=[Value.bool u.1,Value.int .i64 u.2]) g3.ok x4;have e4:=bx.eD vs j u Ts;simp only[dI,qB] at e4;have D3:∃s,(put h3 b (j*2) (bx.flat vs) [Value.bool u.1,Value.int .i64 u.2] o).tr.get b=some (.aC (bx.flat (vs.set j u)) false o s):=⟨_,by rw[aD,e4]⟩;generalize put h3 b (j*2) (bx.flat vs) [Value.bool u.1,Value.int .i64 u.2] o=h4 at*;have k4:=k3.BA g3.ok IF g4 D3 ho (by simp[Fq]) (fun w hw=>by
   rcases Kx hw with h|h
   .exact x5 w h
   .rw[h];exact hu)
  refine⟨A.l-(j+1),by omega,j+1,rfl,aS,?_,by simp,?_,k4,rt.step ha hb Ts D3 ⟨hu,hur⟩⟩
  .repeat (refine aA.set ?_)
   exact K
  .exact((g.trans g2.bl).trans g3.bl).trans (g4.bU (fun x _ e=>by unfold tl;rw[e];exact IF))
 .have:j=A.l:=by omega
  subst this;simp[ql,qj];exact C _ _ (aA.set K) g k' (rt.all hA k'.O.os.V)
def OnL:List Nat:=[13,14,95,96,97,98,99,100,101,102,103,104,105,106,107]
def ZX(c:WC)(h:ae)(κ cap:Nat->Nat)(rs:List XR)(nw:List (Bool×Int))(aR:Bool)(A:SV)(e:Env)(mm:Nat)(e':Env)(h':ae):Prop:=
 ∃j:Nat,mm=A.l-j/\j<=A.l/\aA OnL e e'/\ak e' 95=.int .i64 j/\ab (tl κ) h h'/\Wk c h' κ cap rs nw aR/\tL h' A j (fun v=>fk c.ai v/\nJ nw v)
theorem aek{c:WC}{nw:List (Bool×Int)}(ok:bm h)(w:Wk c h κ cap rs nw aR)(hA:VA κ cap A)(hl:A.l<=1048576)(hX:h.tr.get X=some (.aC xc false 0 sX))(κX:κ X=0)(C1:(xc.drop 1).take 1=[A.v])(f0:ak e 5=.pointer (some ⟨c.K,0,none⟩))(fX:ak e 12=.pointer (some ⟨X,0,none⟩))(fA:ak e 93=A.v)(fl:ak e 94=.int .i64 A.l)(fj:ak e 95=.int .i64 0)(C:∀e' h',aA OnL e e'->ab (tl κ) h h'->Wk c h' κ cap rs nw aR->T9 h' A (fun v=>fk c.ai v/\nJ nw v)->QQ (.exit 8) e' h'):aB FF (.loop rC) e h QQ:=by
 refine aB.loop (ZX c h κ cap rs nw aR A e) ?_ (n:=A.l) ⟨0,rfl,by omega,aA.refl _ _,fj,.refl ok,w,tL.zero⟩;rintro mm e' h'⟨j,rfl,hj,K,qj,g,k',rt⟩;have bz:=g.ok;have q0:=K.at f0;have qX:=K.at fX;have qA:=K.at fA;have ql:=K.at fl;have mf:=g.get ok hX (fun e=>by unfold tl at e;omega);have rV:1+1<=xc.length:=by have:=congrArg List.length C1;simp at this;omega
 unfold rC;by_cases aS:j<A.l
 .have wj:=wrap_i64 ((j:Int)+1) (by omega) (by omega);obtain⟨b,vs,o,s,v,ha,IF,hc,hb,ho,Fq,x5,hx,hv,rd⟩:=hA.val k'.O.os.V aS;simp at qA;rw[ha] at qA;have xI:(xc.drop 1).take 1=[.slice (some ⟨b,0,none⟩) A.l A.c]:=by rw[C1];simp[ha]
  have rX:aV h' X 1 1=some [.slice (some ⟨b,0,none⟩) A.l A.c]:=by rw[bV mf rV,xI]
  have oX:=bz.bC mf;have C0:=bz.st _ _ _ _ _ mf;have lX:=oX.lt;have Wi:¬X=h'.next:=by omega
  have lb:=bz.wf _ _ hb;simp[q0,qX,qA,ql,qj,aS,rd,rX,oX,Wi,-ag,au,aX,aN,ay];refine aU.cut (fun h2=>ab aK h' h2) ?_ ?_
  .exact((ab.refl bz).var _ _).tick
  intro h2 g2;have k2:=k'.bl bz g2;have dX:=g2.get bz mf;refine aU.call (V:=Dp nw c.ai h2) (by simpa using qc g2.ok k2.k hv) ?_;rintro _ h3⟨g3,u,rfl,hu,hur⟩;have k3:=k2.bl g2.ok g3;have fe:=g3.get g2.ok dX;have x4:=g3.get g2.ok (g2.get bz hb (fun h=>h));have Ts:j<vs.length:=(cr.mp hx).1;have zX:j*2+2<=vs.length*2:=by omega
  have tY:sX<=h'.clock+1:=by omega
  have rX3:aV h3 X 1 1=some [.slice (some ⟨b,0,none⟩) A.l A.c]:=by rw[bV fe rV,xI]
  simp[qX,fe,tY,aS,x4,zX,qj,wj,rX3];have g4:=aQ (off:=j*2) (vs:=[Value.bool u.1,Value.int .i64 u.2]) g3.ok x4;have e4:=bx.eD vs j u Ts;simp only[dI,qB] at e4;have D3:∃s,(put h3 b (j*2) (bx.flat vs) [Value.bool u.1,Value.int .i64 u.2] o).tr.get b=some (.aC (bx.flat (vs.set j u)) false o s):=⟨_,by rw[aD,e4]⟩;generalize put h3 b (j*2) (bx.flat vs) [Value.bool u.1,Value.int .i64 u.2] o=h4 at*;have k4:=k3.BA g3.ok IF g4 D3 ho (by simp[Fq]) (fun w hw=>by
   rcases Kx hw with h|h
   .exact x5 w h
   .rw[h];exact hu)
  refine⟨A.l-(j+1),by omega,j+1,rfl,aS,?_,by simp,?_,k4,rt.step ha hb Ts D3 ⟨hu,hur⟩⟩
  .repeat (refine aA.set ?_)
   exact K
  .exact((g.trans g2.bl).trans g3.bl).trans (g4.bU (fun x _ e=>by unfold tl;rw[e];exact IF))
 .have:j=A.l:=by omega
  subst this;simp[ql,qj];exact C _ _ (aA.set K) g k' (rt.all hA k'.O.os.V)
def TM(h:ae)(v:Value)(h':ae):Prop:=ab aK h h'/\∃b:Bool,v=.bool b
def VeI(h:ae)(A1 A2:SV)(m:Nat)(e:Env)(h2:ae):Prop:=
 ∃j:Nat,m=A1.l-j/\j<=A1.l/\ak e 0=A1.v/\ak e 1=A2.v/\ak e 12=.int .i64 A1.l/\ak e 13=.int .i64 j/\ab aK h h2
theorem Mg(ok:bm h)(V:yy h κ cap ai){A1 A2:SV}(h1:VA κ cap A1)(h2:VA κ cap A2)(hl:A1.l<=1048576):
  aF FF gO [A1.v,A2.v] h (TM h):=by
 refine aF.of mT ?_;unfold gI;by_cases he:A1.l=A2.l
 .simp[he];refine aB.loop (VeI h A1 A2) ?_ (n:=A1.l) ⟨0,rfl,by omega,by simp[he],by simp,by simp[he],by simp,.refl ok⟩;rintro m e h'⟨j,rfl,hj,f0,f1,f12,f13,g⟩;unfold fZ;by_cases aS:j<A1.l
  .have wj:=wrap_i64 ((j:Int)+1) (by omega) (by omega);have V':=V.grow ok g (fun _ h=>h.elim);obtain⟨b,vs,o,s,v,ha,_,_,hb,_,_,_,_,_,rd⟩:=h1.val V' aS;obtain⟨b',vs',o',s',v',PJ,_,_,gk,_,_,_,_,_,rd'⟩:=h2.val V' (j:=j) (by omega);have ah_:j<A2.l:=by omega
   simp at f0 f1;rw[ha] at f0;rw[PJ] at f1;obtain⟨v1,v2⟩:=v;obtain⟨u1,u2⟩:=v';cases hq:(!(v1==u1)|| !(v2==u2)) with
   |true=>
    simp[f0,f1,f12,f13,aS,ah_,rd,rd',hq,-ag,ay];exact⟨g.tick,_,rfl⟩
   |false=>
    simp[f0,f1,f12,f13,aS,ah_,rd,rd',hq,wj,-ag,ay];exact⟨A1.l-(j+1),by omega,j+1,rfl,aS,by simp[f0,ha],by simp[f1,PJ],by simp[f12],by simp,g.tick⟩
  .have:j=A1.l:=by omega
   subst this;simp[f12,f13];exact⟨g,_,rfl⟩
 .have hb:((A1.l:Int) !=(A2.l:Int))=true:=by simp;omega
  simp[hb];exact⟨.refl ok,_,rfl⟩
theorem Oz(ok:bm h)(V:yy h κ cap ai){q p:Int×SV}(h1:VA κ cap q.2)(h2:VA κ cap p.2)(hl:q.2.l<=1048576){X s:Nat}(hX:h.tr.get X=some (.aC [.int .i64 p.1,p.2.v] false 0 s)):
  c_ FF (.func (.func jw) #[] #[.pointer (some ⟨X,0,none⟩)]) [.agg ⟨gL.enc q⟩] h (TM h):=by
 refine c_.func ?_;refine aF.of vU ?_;unfold oe;have oX:=ok.bC hX;have dX:=hX;simp at dX;have nX:¬X=h.next:=by have:=oX.lt;omega
 simp[oX,nX,av dX,aN,iy,-ag];refine aG.cut (fun h2=>ab aK h h2) ((ab.refl ok).new _ _) ?_;intro GK g2;refine aG.call (V:=TM GK) (by simpa using Mg g2.ok (V.grow ok g2 (fun _ h=>h.elim)) h1 h2 hl) ?_;rintro _ h3⟨g3,b,rfl⟩;simp;exact⟨g2.trans g3,b,rfl⟩
def agm{α:Type}(E:Enc α)(y:Value)(xs:List α)(h:ae):Prop:=∀x∈xs,∀h1,ab aK h h1->c_ FF y [.agg ⟨E.enc x⟩] h1 (TM h1)
def IaI{α:Type}(h:ae)(y:Value)(A:SV)(xs:List α)(m:Nat)(e:Env)(h2:ae):Prop:=
 ∃j:Nat,m=xs.length-j/\j<=xs.length/\ak e 0=A.v/\ak e 1=y/\ak e 7=.int .i64 xs.length/\ak e 8=.int .i64 j/\ab aK h h2
theorem RA{E:Enc α}{y:Value}(hf:FF f=some ⟨[.tmp 4],IP E.sz,.no⟩)(ok:bm h){xs:List α}(w:eY E h A xs)(hl:xs.length<2000000)(H:agm E y xs h):
  aF FF f [A.v,y] h (fun v h'=>ab aK h h'/\(v=.int .i64 (-1)\/∃(j:Nat) (x:α),v=.int .i64 j/\xs[j]?=some x)):=by
 have B1:=w.len;refine aF.of hf ?_;unfold IP;simp[B1];refine aB.loop (IaI h y A xs) ?_ (n:=xs.length) ⟨0,rfl,by omega,by simp[B1],by simp,by simp,by simp,.refl ok⟩;rintro m e h2⟨j,rfl,hj,f0,f1,f7,f8,g2⟩;unfold La;by_cases aS:j<xs.length
 .have wj:=wrap_i64 ((j:Int)+1) (by omega) (by omega);obtain⟨x,hx⟩:=aE xs j aS;obtain⟨b,cs,o,s,Tk,hb,_,_,dj,_⟩:=(w.bl ok g2).el hx;have r0:=dj 0 E.sz (by omega);simp[-ag,E.len] at r0;rw[YW (by rw[E.len];exact dw _)] at r0;simp at f0;rw[Tk,B1] at f0;simp[f0,f1,f7,f8,aS,r0,E.len,-ag];refine aG.cU (V:=TM h2) (by simpa [f1] using H x (dG hx) h2 g2) ?_;rintro _ h3⟨g3,t,rfl⟩;cases t with
  |true=>
   simp;exact⟨g2.trans g3,j,rfl,_,hx⟩
  |false=>
   simp[f8,wj];exact⟨xs.length-(j+1),by omega,j+1,rfl,by omega,by simp[f0,Tk,B1],by simp[f1],by simp[f7],by simp,g2.trans g3⟩
 .have:j=xs.length:=by omega
  subst this;simp[f7,f8];exact g2
section
variable{c:WC}{h h':ae}{κ cap:Nat->Nat}{rs:List XR}{nw ko:List (Bool×Int)}{aR cH:Bool}
def ab8:List Nat:=[5,7,8,9,10,11,12]++(List.range 60).map (· +27)
structure PhS(ai:Nat)(ps left:List (Int×SV))(nw ko:List (Bool×Int))(aR cH:Bool)(j:Nat):Prop where
 sub:left.Sublist (ps.take j)
 root:∀q∈left,nJ ko (true,q.1)
 now:∀r:Nat,(r:Int)∉(ps.take j).map (·.1)->ko[r]?=nw[r]?
 aR:cH=true->aR=true\/left.length<j
def al8(c:WC)(h:ae)(κ cap:Nat->Nat)(rs:List XR)(ps:List (Int×SV))(nw:List (Bool×Int))(aR:Bool)(e:Env)(mm:Nat)(e':Env)(h':ae):Prop:=
 ∃(j:Nat) (W:SV) (left:List (Int×SV)) (ko:List (Bool×Int)) (cH:Bool),mm=ps.length-j/\j<=ps.length/\aA ab8 e e'/\ak e' 27=.int .i64 j/\ak e' 5=W.v/\bH gL h.next h' W.v left/\ab (VW c κ) h h'/\Wk c h' κ cap rs ko cH/\PhS c.ai ps left nw ko aR cH j
theorem VW.row{c:WC}(h:tl κ b):VW c κ b:=.inl h
theorem VW.same{c:WC}(h:b=c.K\/ax c.NW.v b):VW c κ b:=by
 rcases h with h|h
 .exact .inr (.inr (.inl h))
 .exact .inr (.inr (.inr h))
theorem Jr{nw:List (Bool×Int)}{r k:Nat}{v:Bool×Int}(h:r≠k):(nw.set r v)[k]?=nw[k]? :=List.getElem?_set_ne h
theorem Z8(ok:bm h)(w:Wk c h κ cap rs nw aR)(hx:rs[i]?=some x)(uj:x.ps.length<=100000)(B7:∀q∈x.ps,q.2.l<=1048576)(yU:(x.ps.map (·.1)).Nodup)(hr:∀q∈x.ps,nJ nw (true,q.1))(f0:ak e 0=.pointer (some ⟨c.K,0,none⟩))(f5:ak e 5=d_.v)(f25:ak e 25=x.P.v)(f26:ak e 26=.int .i64 x.ps.length)(f27:ak e 27=.int .i64 0)(C:∀e' h' W left ko cH,aA ab8 e e'->ak e' 5=SV.v W->bH gL h.next h' (SV.v W) left->ab (VW c κ) h h'->Wk c h' κ cap rs ko cH->PhS c.ai x.ps left nw ko aR cH x.ps.length->QQ (.exit 0) e' h'):aB FF (.loop jE) e h QQ:=by
 refine aB.loop (al8 c h κ cap rs x.ps nw aR e) ?_ (n:=x.ps.length) ⟨0,d_,[],nw,aR,rfl,by omega,aA.refl _ _,f27,f5,.inl ⟨rfl,rfl⟩,.refl ok,w,⟨by simp,fun q h=>by simp at h,fun _ _=>rfl,fun h=>.inl h⟩⟩;rintro mm e' h'⟨j,W,left,ko,cH,rfl,hj,K,MF,q5,acc,g,w',S⟩;have bz:=g.ok;have q0:=K.at f0;have q25:=K.at f25;have TJ:=K.at f26;have ln:=g.next;unfold jE;by_cases aS:j<x.ps.length
 .have wj:=wrap_i64 ((j:Int)+1) (by omega) (by omega);obtain⟨q,hq⟩:=aE x.ps j aS;have Fp:=dG hq;have R:=w'.O.os.r i x hx;obtain⟨Yk,hqV⟩:=R.ps q Fp;obtain⟨q1,A⟩:=q;dsimp only at Yk hqV;obtain⟨qd,rfl⟩:∃n:Nat,q1=n:=⟨q1.toNat,by omega⟩;obtain⟨bP,cs,o,s,rM,hPb,Yc,eU,dj,_⟩:=R.P.el hq;have kj:=R.P.len;have r0:=dj 0 2 (by decide);simp[-ag] at r0 q25;rw[rM,kj] at q25;have ain:(qd:Int)∉(x.ps.take j).map (·.1):=by
   intro hm;obtain⟨p,hp,he⟩:=dZ.1 hm;obtain⟨k,hk⟩:=sv hp;rw[FN] at hk;split at hk
   .rename_i hkj;have a:(x.ps.map (·.1))[k]?=some p.1:=by rw[tT,hk];rfl
    have b:(x.ps.map (·.1))[j]?=some (qd:Int):=by rw[tT,hq];rfl
    have:=(List.getElem?_inj (by simp;omega) yU).1 (a.trans (by rw[b,he]));omega
   .cases hk
  have tk:x.ps.take (j+1)=x.ps.take j++[((qd:Int),A)]:=by rw[v9,hq];rfl
  have JF:left.length<=j:=by have:=S.sub.length_le;simp at this;omega
  have IG:ko[qd]?=some (true,(qd:Int)):=by rw[S.now qd ain];exact hr _ Fp rfl
  have cq:∀p∈left,p.1≠(qd:Int):=fun p hp e=>ain (dZ.2 ⟨p,S.sub.subset hp,e⟩);simp[q0,q25,TJ,MF,aS,r0,-ag,au,aX,aN,ay];refine aB.cut (fun h2=>ab aK h' h2/\∃s,h2.tr.get h'.next=some (.aC [.int .i64 qd,.slice A.a A.l A.c] false 0 s)) ?_ ?_
  .exact⟨(ab.refl bz).var _ _,h'.clock,by simp[aH]⟩
  rintro h2⟨g2,sX,dX⟩;have w2:=w'.bl bz g2;obtain⟨κX,_⟩:=w'.new (dw h'.next);refine aew g2.ok w2 hqV (B7 _ Fp) dX κX rfl (by simp[q0]) (by simp) (by simp) (by simp) (by simp) ?_;intro e3 h3 K3 g3 w3 jq;have fe:=g3.get g2.ok dX (fun e=>by unfold tl at e;omega);have m0:ak e3 0=.pointer (some ⟨c.K,0,none⟩):=K3.at (t:=0) (by simp[q0]);have m7:ak e3 7=.pointer (some ⟨h'.next,0,none⟩):=K3.at (t:=7) (by simp);have m5:ak e3 5=W.v:=K3.at (t:=5) (by simp[q5]);have m27:ak e3 27=.int .i64 j:=K3.at (t:=27) (by simp[MF]);have K03:aA ab8 e e3:=by
   refine aA.trans ?_ (K3.bU)
   repeat (refine aA.set ?_)
   exact K
  have κhi:∀b,h.next<=b->κ b=0/\¬yx c b:=fun b hb=>w.new hb;have Ud:=acc.grow bz g2 (fun _ _ h=>h);have MM:=Ud.grow g2.ok g3 (fun b hb e=>by have:=(κhi b (acc.of hb)).1;unfold tl at e;omega);have di:ab (VW c κ) h h3:=(g.trans g2.bl).trans (g3.bU (fun _ _ e=>VW.row e));simp[m7,fe];refine aG.call (V:=aaL (fun v=>fk c.ai v/\nJ ko v) h3) (by simpa [m0] using O9 g3.ok (kv:=.pointer (some ⟨c.K,0,none⟩)) jq (B7 _ Fp) qd) ?_;rintro _ h4⟨g4,v,t,rfl,hv⟩;have w4:=w3.bl g3.ok g4;have vg:=g4.get g3.ok fe;have JQ:=MM.grow g3.ok g4 (fun _ _ h=>h);have me:=di.trans g4.bl;have l3:=g3.next;have l4:=g4.next;have l2:=g2.next;have lX4:=g4.ok.wf _ _ vg;have nX4:¬h'.next=h4.next:=by omega
  have gv:ab aK h4 (put (aJ h4 [.bool false,.int .i64 0] 0) h4.next 0 [.bool false,.int .i64 0] [.bool v.1,.int .i64 v.2] 0):=(ab.refl g4.ok).var _ _;simp[m0,m7,nX4,aX nX4,aN,g4.ok.bC vg,av vg,-ag];have uL:=gv.get g4.ok vg;have hV5:(put (aJ h4 [.bool false,.int .i64 0] 0) h4.next 0 [.bool false,.int .i64 0] [.bool v.1,.int .i64 v.2] 0).tr.get h4.next=some (.aC [.bool v.1,.int .i64 v.2] false 0 h4.clock):=by simp[aH]
  have w5:=w4.bl g4.ok gv;have Ue:=JQ.grow g4.ok gv (fun _ _ h=>h);have oS:=me.trans gv.bl;have l5:=gv.next;generalize put (aJ h4 [.bool false,.int .i64 0] 0) h4.next 0 [.bool false,.int .i64 0] [.bool v.1,.int .i64 v.2] 0=h5 at*
  
  have drop:∀(u:Bool×Int)(h6 h7:ae),nJ ko u->fk c.ai u->ab aK h5 h6->ab (fun x=>x=c.K\/ax c.NW.v x) h6 h7->Kn h7 c.K c.F c.ai c.bu c.KI c.NW (ko.set qd u) true->bH gL h.next h7 W.v left/\ab (VW c κ) h h7/\Wk c h7 κ cap rs (ko.set qd u) true/\PhS c.ai x.ps left nw (ko.set qd u) aR true (j+1):=by
   intro u h6 h7 N8 hu2 g6 g7 k7;have w7:=(w5.bl oS.ok g6).same g6.ok g7 k7;refine⟨(Ue.grow oS.ok g6 (fun _ _ h=>h)).grow g6.ok g7 (fun b hb e=>(κhi b (acc.of hb)).2 (by
    rcases e with e|e
    .exact .inl e
    .exact .inr (.inr (.inr (.inl e))))),(oS.trans g6.bl).trans (g7.bU (fun _ _ e=>VW.same e)),w7,⟨?_,fun p hp=>?_,fun r hm=>?_,fun _=>.inr (by omega)⟩⟩
   .rw[tk];exact S.sub.trans (List.sublist_append_left _ _)
   .intro _;have PT:=((w'.O.os.r i x hx).ps p (Nv (S.sub.subset hp))).1.1;rw[Jr (fun e=>cq p hp (by dsimp only at e;omega))];exact S.root p hp rfl
   .rw[tk] at hm;simp only[List.map_append,BY,List.map_nil,lE,List.mem_singleton,not_or] at hm;rw[Jr (by omega)];exact S.now r hm.1
  cases t with
  |true=>
   simp[m0,m7,uL,hV5];refine aG.call (V:=fun _ h'=>ab (fun x=>x=c.K\/ax c.NW.v x) h5 h'/\Kn h' c.K c.F c.ai c.bu c.KI c.NW (ko.set qd v) true) (by simpa [m0] using u7 oS.ok w5.k (r:=qd) (by omega) (hv rfl).1 (hv rfl).2) ?_;rintro _ h6⟨g6,k6⟩;obtain⟨a1,a2,a3,a4⟩:=drop v h5 h6 (hv rfl).2 (hv rfl).1 (.refl oS.ok) g6 k6;simp[m27,wj];refine⟨x.ps.length-(j+1),by omega,j+1,W,left,_,true,rfl,aS,?_,by simp,by simp[m5],a1,a2,a3,a4⟩
   repeat (refine aA.set ?_)
   exact K03
  |false=>
   have amD:=bH.arr Ue;simp[m5,m7];refine aG.call (V:=fun v h'=>ab aK h5 h'/\(v=.int .i64 (-1)\/∃(j:Nat) (x:Int×SV),v=.int .i64 j/\left[j]?=some x)) (by simpa using RA (E:=gL) (y:=.func (.func jw) #[] #[.pointer (some ⟨h'.next,0,none⟩)]) acg oS.ok amD (by omega) (fun p hp h1 g1=>Oz g1.ok (w5.O.os.V.grow oS.ok g1 (fun _ h=>h.elim)) (q:=p) (p:=((qd:Int),A)) ((w'.O.os.r i x hx).ps p (Nv (S.sub.subset hp))).2 hqV (B7 p (Nv (S.sub.subset hp))) (g1.get oS.ok uL))) ?_
   rintro _ h6⟨g6,hi⟩;have wU:=g6.get oS.ok uL;have w6:=w5.bl oS.ok g6;have QJ:=Ue.grow oS.ok g6 (fun _ _ h=>h);have Mt:=oS.trans g6.bl;rcases hi with rfl|⟨k,p,rfl,hp⟩
   .simp[m5,m7,wU];have g8:=aP g6.ok (gL.enc ((qd:Int),A)) 0;have QK:=QJ.grow g6.ok g8 (fun _ _ h=>h);have VE:bc gL (aJ h6 (gL.enc ((qd:Int),A)) 0) (.slice (some ⟨h6.next,0,none⟩) 1 1) [((qd:Int),A)]:=qb (bS _ _ _);have l6:=g6.next;obtain⟨v',h9,ha,HF,g9,hd9⟩:=lJ (bytes:=32) g8.ok (z:=[.int .i64 0,.slice none 0 0]) rfl QK VE (by omega) (by decide) (by simp;omega);obtain⟨W',rfl⟩:=bH.Yu HF;refine iE (by simpa [aH] using ha) ?_;have w9:=(w6.bl g6.ok g8).grow g8.ok g9 (fun b hb=>κhi b (acc.of hb));simp[m27,wj];refine⟨x.ps.length-(j+1),by omega,j+1,W',left++[((qd:Int),A)],ko,cH,rfl,aS,?_,by simp,by simp,by simpa using HF,(Mt.trans g8.bl).trans' g9 (fun _ _ h=>h) (fun b hb e=>by have:=acc.of e;omega),w9,⟨?_,fun p hp=>?_,fun r hm=>?_,fun hm=>?_⟩⟩
    .repeat (refine aA.set ?_)
     exact K03
    .rw[tk];exact S.sub.append (List.Sublist.refl _)
    .rcases lE.1 hp with hp|hp
     .exact S.root p hp
     .simp only[List.mem_singleton] at hp;subst hp;exact fun _=>IG
    .rw[tk] at hm;simp only[List.map_append,lE,not_or] at hm;exact S.now r hm.1
    .rcases S.aR hm with h|h
     .exact .inl h
     .right;simp;omega
   .have Fm:=dG hp;have rN:=(cr.mp hp).1;obtain⟨⟨PT,Yh⟩,_⟩:=(w'.O.os.r i x hx).ps p (Nv (S.sub.subset Fm));obtain⟨bW,csW,oW,sW,hWa,hWb,FP,_,hWr,_⟩:=(bH.arr QJ).el hp;have aa1:=(bH.arr QJ).len;have rW:=hWr 0 1 (by decide);simp[-ag] at rW m5;rw[hWa] at m5;have KQ:(0:Int)<=k:=by omega
    simp[m0,m5,m7,wU,KQ,FP,rW,-ag,ay,av wU];refine aU.cut (fun h7=>ab aK h6 h7) (bh g6.ok) ?_;intro h7 g7;refine aU.call (V:=fun _ h'=>ab (fun x=>x=c.K\/ax c.NW.v x) h7 h'/\Kn h' c.K c.F c.ai c.bu c.KI c.NW (ko.set qd (true,p.1)) true) (by simpa [m0] using u7 g7.ok (w6.bl g6.ok g7).k (r:=qd) (by omega) (v:=(true,p.1)) (fun _=>⟨PT,Yh⟩) (S.root p Fm)) ?_;rintro _ h8⟨g8,k8⟩;obtain⟨a1,a2,a3,a4⟩:=drop (true,p.1) h7 h8 (S.root p Fm) (fun _=>⟨PT,Yh⟩) (g6.trans g7) g8 k8;simp[m27,wj];refine⟨x.ps.length-(j+1),by omega,j+1,W,left,_,true,rfl,aS,?_,by simp,by simp[m5,hWa],a1,a2,a3,a4⟩
    repeat (refine aA.set ?_)
    exact K03
 .have:j=x.ps.length:=by omega
  subst this;simp[TJ,MF];exact C _ _ W left ko cH (K.set) (by simp[q5]) acc g w' S
end
section
variable{c:WC}{h h':ae}{κ cap:Nat->Nat}{rs:List XR}{nw ko:List (Bool×Int)}{aR cH:Bool}
theorem Wk.at_(w:Wk c h κ cap rs nw aR)(hx:rs[i]?=some x):∃bB cs oB sB sK sF,c.B.a=some ⟨bB,0,none⟩/\c.B.l=rs.length/\i<c.B.l/\h.tr.get bB=some (.aC cs false oB sB)/\h.tr.get c.K=some (.aC [.int .i64 c.bu,.pointer (some ⟨c.F,0,none⟩),.slice c.KI.a c.KI.l c.KI.c,.slice c.NW.a c.NW.l c.NW.c,.bool aR] false 0 sK)/\
  h.tr.get c.F=some (.aC [.string c.name,.int .i64 c.p,.int .i64 c.ai,.slice (some ⟨bB,0,none⟩) c.B.l c.B.c] false 0 sF)/\(∀k m,k+m<=6->aV h bB (i*6+k) m=some (((fC.enc x).drop k).take m))/\(∀k m,k+m<=6->i*6+k+m<=cs.length):=by
 obtain⟨bB,cs,oB,sB,ha,hb,hi,eU,dj,_⟩:=w.O.A.el hx;obtain⟨sK,hK⟩:=w.k.hK;obtain⟨sF,hF⟩:=w.hF;refine⟨bB,cs,oB,sB,sK,sF,ha,w.O.A.len,hi,hb,by simpa [fJ] using hK,?_,dj,eU⟩;simpa [aw,ha] using hF
def PhQ(c:WC)(h:ae)(κ cap:Nat->Nat)(rs:List XR)(nw:List (Bool×Int))(aR:Bool)(i:Nat)(x:XR)(h':ae):Prop:=
 ∃(κ':Nat->Nat) (W:SV) (left:List (Int×SV)) (ko:List (Bool×Int)) (cH:Bool),ab (VW c κ) h h'/\(∀b,b<h.next->κ' b=κ b)/\Wk c h' κ' cap (rs.set i {x with P:=W,ps:=left}) ko cH/\PhS c.ai x.ps left nw ko aR cH x.ps.length
theorem Su(ok:bm h)(w:Wk c h κ cap rs nw aR)(hx:rs[i]?=some x)(uj:x.ps.length<=100000)(B7:∀q∈x.ps,q.2.l<=1048576)(yU:(x.ps.map (·.1)).Nodup)(hr:∀q∈x.ps,nJ nw (true,q.1)):
  aF FF qM [.pointer (some ⟨c.K,0,none⟩),.int .i64 i] h (fun _ h'=>PhQ c h κ cap rs nw aR i x h'):=by
 obtain⟨bB,cs,oB,sB,sK,sF,ha,ez,hi,hb,hK,hF,dj,eU⟩:=w.at_ hx;have LG:=dj 0 1 (by decide);have kj:=(w.O.os.r i x hx).P.len;simp[-ag] at LG;refine aF.of yH ?_;unfold qp;simp[hK,hF,hi,LG,av hK,av hF,-ag];refine Z8 ok w hx uj B7 yU hr (by simp) (by simp[d_]) (by simp) (by simp[kj]) (by simp) ?_;intro e1 h1 W left I3 jS K1 q5 acc g1 w1 S;have q4:ak e1 4=.pointer (some ⟨bB,i*6,none⟩):=K1.at (t:=4) (by simp);obtain⟨bB2,cs2,oB2,sB2,_,_,KF,_,_,cA,_,_,_,D6⟩:=w1.at_ hx;rw[ha] at KF;simp at KF;subst KF;have hf:=D6 0 1 (by decide);simp at hf;obtain⟨κ',w2,g2,low,κB⟩:=w1.aez g1.ok hx (bH.arr acc) (nl:=h.next) (fun b hb=>acc.of hb) ⟨w.hM,g1.next⟩ (fun b hb=>(w.new hb).1) (fun p hp=>Nv (S.sub.subset hp)) ha cA;simp[q4,q5,cA,hf];simp at w2 g2;exact⟨κ',W,left,I3,jS,g1.trans (g2.bU (fun b _ e=>.inr (.inl (by rw[e];exact κB)))),low,w2,S⟩
end
abbrev kk:List Nat:=[9,1,0,1,0,1]
def yW(c:Key):Value:=.agg ⟨c.cells⟩
def tz(mp:List (Key×Int)):List (Value×Value):=mp.map fun x=>(yW x.1,.int .i64 x.2)
theorem ack(a b:Key):pB kk (yW a) (yW b)=some (decide (a=b)):=by obtain⟨ao,⟨a1,a2⟩,⟨a3,a4⟩⟩:=a;obtain⟨bo,⟨b1,b2⟩,⟨b3,b4⟩⟩:=b;simp only[pB,yW,Key.cells,bQ,ig,if_true,Bool.and_true];congr 1;rw[Bool.eq_iff_iff];simp[and_assoc]
def TG(mp:List (Key×Int))(c:Key):Option Int:=(mp.find? fun x=>decide (c=x.1)).map (·.2)
theorem P8{c:Key} :c∉mp.map (·.1)->TG mp c=none:=by intro h;unfold TG;rw[List.find?_eq_none.2 (fun x hx e=>h (dZ.2 ⟨x,hx,(of_decide_eq_true e).symm⟩))];rfl
theorem ad1{c:Key}{r:Int}(h:TG mp c=some r):∃x∈mp,x.2=r:=by
 unfold TG at h;cases hf:mp.find? fun x=>decide (c=x.1) with
 |none=>rw[hf] at h;cases h
 |some x=>rw[hf] at h;cases h;exact⟨x,List.mem_of_find?_eq_some hf,rfl⟩
theorem ad2{c:Key}(h:TG mp c=none):c∉mp.map (·.1):=by
 intro hm;obtain⟨x,hx,rfl⟩:=dZ.1 hm;unfold TG at h;cases hf:mp.find? fun y=>decide (x.1=y.1) with
 |none=>exact absurd (List.find?_eq_none.1 hf x hx) (by simp)
 |some y=>rw[hf] at h;cases h
theorem IZ(c:Key):∀ {mp:List (Key×Int)},(mp.map (·.1)).Nodup->gM kk (yW c) (tz mp)=some ((TG mp c).map (Value.int .i64))
 |[],_=>rfl
 |x::mp,hn=>by
  obtain⟨h1,h2⟩:=List.nodup_cons.1 (by simpa using hn:(x.1::mp.map (·.1)).Nodup);show(match pB kk (yW c) (yW x.1),gM kk (yW c) (tz mp) with
   |some true,some none=>some (some (Value.int .i64 x.2))
   |some false,y=>y
   |_,_=>none)=_
  rw[ack,IZ c h2];by_cases e:c=x.1
  .subst e;rw[P8 h1];simp[TG]
  .simp[e,TG]
theorem ajX{c:Key}{r:Int}(hn:(mp.map (·.1)).Nodup)(h:TG mp c=none):yr kk (yW c) (.int .i64 r) (tz mp)=some (tz (mp++[(c,r)])):=by unfold yr;rw[IZ c hn,h];simp only[Option.map_none];have:(Bv (yW c)&&plain (.int .i64 r))=true:=rfl;rw[aZ this];simp[tz]
theorem abB:∀ {mp:List (Key×Int)},(mp.map (·.1)).Nodup->Ce kk (tz mp)=true
 |[],_=>rfl
 |x::mp,hn=>by obtain⟨h1,h2⟩:=List.nodup_cons.1 (by simpa using hn:(x.1::mp.map (·.1)).Nodup);show(pE kk (yW x.1)&&Bv (yW x.1)&&plain (.int .i64 x.2)&&CM (.int .i64 x.2)&&(match gM kk (yW x.1) (tz mp) with|some none=>true|_=>false)&&Ce kk (tz mp))=true;rw[IZ _ h2,P8 h1,abB h2];rfl
def aaI(h:ae)(v:Value)(mp:List (Key×Int)):Prop:=(v=.map none/\mp=[])\/∃m,v=.map (some m)/\h.tr.get m=some (.map (tz mp))
theorem Ln(e:Env)(js:List Nat)(t u x:Nat)(h1:x∉js)(h2:x≠t)(h3:x≠u):ak (xJ e js t u) x=ak e x:=by unfold xJ;rw[Env.az,aW h3,Env.az,aW h2,wX,aW h1]
theorem Wd(ok:bm h){src:Operand}{jn js:List Nat}{t u:Nat}(hn:(mp.map (·.1)).Nodup)(hm:aaI h (ev e src) mp){r:Nat}(hd:ak e d=.map (some r))(hr:h.tr.get r=some (.map []))(cq:∀m,ev e src=.map (some m)->m≠r)(C:∀e' h',aA (jn++js++[t,u]) e e'->ab (· =r) h h'->h'.tr.get r=some (.map (tz mp))->QQ .normal e' h'):aB FF (.mcp src d kk jn js t u) e h QQ:=by
 rcases hm with⟨hs,rfl⟩|⟨m,hs,hg⟩
 .refine⟨1,.normal,xJ e jn t u,{h with next:=h.next+1},?_,C _ _ (fun x hx=>?_) ⟨Nat.le_succ _,dw _,fun _ _ _=>rfl,⟨fun b ob hb=>Nat.lt_succ_of_lt (ok.wf b ob hb),ok.st⟩⟩ hr⟩
  .simp[dg,bN,hs]
  .simp only[lE,List.mem_cons,om,or_false,not_or] at hx;exact Ln _ _ _ _ _ hx.1.1 hx.2.1 hx.2.2
 .have hmr:Nat.beq m r=false:=by
   cases hb:Nat.beq m r with
   |false=>rfl
   |true=>exact absurd (mH hb) (cq m hs)
  have hk:=abB hn;refine⟨1,.normal,_,_,by simp only[dg,bN,hs,hd,hg,hr,hmr,hk,Bool.not_false,Bool.and_self,cond_true];rfl,C _ _ (fun x hx=>?_) ⟨Nat.le_add_right _ _,Nat.le_succ _,fun b hb KT=>?_,⟨fun b ob hb=>?_,fun b cs ro o s hb=>?_⟩⟩ ?_⟩
  .simp only[lE,List.mem_cons,om,or_false,not_or] at hx;refine Ln _ _ _ _ _ ?_ hx.2.1 hx.2.2;split
   .exact hx.1.1
   .simp only[lE,not_or];exact hx.1
  .simp only[Tr.az];rw[aW KT]
  .simp only[Tr.az] at hb⊢;split at hb
   .rename_i e1;have:=ok.wf _ _ (e1▸hr);show b<h.next+_;omega
   .have:=ok.wf _ _ hb;show b<h.next+_;omega
  .simp only[Tr.az] at hb;split at hb
   .cases hb
   .exact Nat.le_succ_of_le (ok.st b cs ro o s hb)
  .simp only[Tr.az,if_true]
section
variable{c:WC}{h h':ae}{κ cap:Nat->Nat}{rs:List XR}{nw ko:List (Bool×Int)}{aR cH:Bool}
def ab9:List Nat:=[10,12,13,14,15,16,17,18]++(List.range 68).map (· +49)
structure Mo(ai:Nat)(κ cap:Nat->Nat)(ls left:List XI)(nw ko:List (Bool×Int))(Bt mp:List (Key×Int))(aR cH:Bool)(j:Nat):Prop where
 sub:(left.map iN).Sublist ((ls.take j).map iN)
 op:∀c:Int,c<1\/17<c->Oq c left=Oq c (ls.take j)
 now:∀r:Nat,(r:Int)∉gK ((ls.take j).map iN)->ko[r]?=nw[r]?
 ok:∀x∈left,x.dst<ai/\fk ai x.a/\fk ai x.b/\VA κ cap x.args
 nd:(mp.map (·.1)).Nodup
 root:∀p∈mp,nJ ko (true,p.2)/\fk ai (true,p.2)
 frm:∀p∈mp,p∈Bt\/p.2∈gK ((ls.take j).map iN)
 aR:cH=true->aR=true\/left.length<j
def amq(c:WC)(h:ae)(κ cap:Nat->Nat)(rs:List XR)(ls:List XI)(nw:List (Bool×Int))(Bt:List (Key×Int))(m:Nat)(aR:Bool)(e:Env)(mm:Nat)(e':Env)(h':ae):Prop:=
 ∃(j:Nat) (W:SV) (left:List XI) (ko:List (Bool×Int)) (mp:List (Key×Int)) (cH:Bool),mm=ls.length-j/\j<=ls.length/\aA ab9 e e'/\ak e' 49=.int .i64 j/\ak e' 10=W.v/\bH jZ h.next h' W.v left/\ab (fun b=>VW c κ b\/b=m) h h'/\Wk c h' κ cap rs ko cH/\h'.tr.get m=some (.map (tz mp))/\Mo c.ai κ cap ls left nw ko Bt mp aR cH j
theorem yO(h:ls[j]?=some y):gK ((ls.take (j+1)).map iN)=gK ((ls.take j).map iN)++(if 0<=y.dst then [y.dst] else []):=by
 have e:ls.take (j+1)=ls.take j++[y]:=by rw[v9,h];rfl
 unfold gK;rw[e,List.map_append,List.filter_append,List.map_append];congr 1;by_cases hd:0<=y.dst<;>simp[iN,hd]
theorem Lt(h:ls[j]?=some y)(k:Int):Oq k (ls.take (j+1))=Oq k (ls.take j)+(if y.op=k then 1 else 0):=by
 have e:ls.take (j+1)=ls.take j++[y]:=by rw[v9,h];rfl
 unfold Oq;rw[e,List.filter_append,GJ];by_cases hd:y.op=k<;>simp[hd]
theorem PB(yU:(gK (ls.map iN)).Nodup)(h:ls[j]?=some y)(hd:0<=y.dst):y.dst∉gK ((ls.take j).map iN)/\y.dst∈gK (ls.map iN):=by
 have e:ls=ls.take j++y::ls.drop (j+1):=by have h2:=List.drop_eq_getElem_cons (l:=ls) (i:=j) (cr.mp h).1;rw[(cr.mp h).2] at h2;rw[<-h2,List.take_append_drop]
 have e2:gK (ls.map iN)=gK ((ls.take j).map iN)++y.dst::gK ((ls.drop (j+1)).map iN):=by
  conv=>lhs;rw[e]
  unfold gK;rw[List.map_append,BY,List.filter_append,List.map_append,List.filter_cons];have:(decide (0<=(iN y).2.1))=true:=by simp[iN,hd]
  rw[this];rfl
 rw[e2] at yU⊢;refine⟨fun hm=>(List.nodup_append.1 yU).2.2 _ hm _ (AN ..) rfl,by simp⟩
theorem Mo.len(S:Mo ai κ cap ls left nw ko Bt mp aR cH j):left.length<=j:=by have:=S.sub.length_le;simp at this;omega
theorem UT(ok:bm h)(hm:∃o,h.tr.get m=some o)(es:List (Value×Value)):ab (· =m) h { next:=h.next,clock:=h.clock+1,tr:=h.tr.set m (.map es) } :=by
 obtain⟨o0,hm⟩:=hm;refine⟨dw _,Nat.le_succ _,fun b _ hn=>?_,fun b o hb=>?_,fun b cs ro o s hb=>?_⟩
 .simp only[Tr.az];rw[aW hn]
 .simp only[Tr.az] at hb;split at hb
  .rename_i e;rw[e];exact ok.wf _ _ hm
  .exact ok.wf _ _ hb
 .simp only[Tr.az] at hb;split at hb
  .cases hb
  .exact Nat.le_succ_of_le (ok.st _ _ _ _ _ hb)
theorem Mo.drop(S:Mo ai κ cap ls left nw ko Bt mp aR cH j)(yU:(gK (ls.map iN)).Nodup)(hmd:∀p∈Bt,p.2∉gK (ls.map iN))(hy:ls[j]?=some y)(rO:1<=y.op/\y.op<=17){dn:Nat}(hd:y.dst=dn)(v:Bool×Int):
  Mo ai κ cap ls left nw (ko.set dn v) Bt mp aR true (j+1):=by
 have hl:=S.len;obtain⟨n1,n2⟩:=PB yU hy (by omega);have tk:=yO hy;rw[aZ (by omega)] at tk;have tke:ls.take (j+1)=ls.take j++[y]:=by rw[v9,hy];rfl
 refine⟨?_,fun k hk=>?_,fun r hr=>?_,S.ok,S.nd,fun p hp=>?_,fun p hp=>?_,fun _=>.inr (by omega)⟩
 .rw[tke,List.map_append];exact S.sub.trans (List.sublist_append_left _ _)
 .rw[Lt hy,aW (by omega)];exact S.op k hk
 .rw[tk] at hr;simp only[lE,List.mem_singleton,not_or] at hr;rw[Jr (by omega)];exact S.now r hr.1
 .obtain⟨a,b⟩:=S.root p hp;refine⟨fun h1=>?_,b⟩;have PT:=(b rfl).1;have cq:p.2≠y.dst:=fun e=>by
   rcases S.frm p hp with h|h
   .exact hmd p h (e▸n2)
   .exact n1 (e▸h)
  rw[Jr (by dsimp only at PT⊢;omega)];exact a rfl
 .rcases S.frm p hp with h|h
  .exact .inl h
  .exact .inr (by rw[tk];exact List.mem_append_left _ h)
theorem Mo.mE(S:Mo ai κ cap ls left nw ko Bt mp aR cH j)(hy:ls[j]?=some y)(hk:iN y'=iN y)(ho:y'.dst<ai/\fk ai y'.a/\fk ai y'.b/\VA κ cap y'.args):
  Mo ai κ cap ls (left++[y']) nw ko Bt mp aR cH (j+1):=by
 have rO:y'.op=y.op:=congrArg (fun k=>k.1) hk;have tk:=yO hy;have tke:ls.take (j+1)=ls.take j++[y]:=by rw[v9,hy];rfl
 refine⟨?_,fun k AT=>?_,fun r hr=>?_,fun x hx=>?_,S.nd,S.root,fun p hp=>?_,fun h=>?_⟩
 .rw[tke,List.map_append,List.map_append];simp only[BY,List.map_nil,hk];exact S.sub.append (List.Sublist.refl _)
 .rw[Lt hy,<-S.op k AT];unfold Oq;rw[List.filter_append,GJ];by_cases e:y.op=k<;>simp[rO,e]
 .rw[tk] at hr;simp only[lE,not_or] at hr;exact S.now r hr.1
 .rcases lE.1 hx with hx|hx
  .exact S.ok x hx
  .simp only[List.mem_singleton] at hx;subst hx;exact ho
 .rcases S.frm p hp with h|h
  .exact .inl h
  .exact .inr (by rw[tk];exact List.mem_append_left _ h)
 .rcases S.aR h with h|h
  .exact .inl h
  .right;simp;omega
theorem Mo.aqf(S:Mo ai κ cap ls left nw ko Bt mp aR cH j)(yU:(gK (ls.map iN)).Nodup)(hr:∀q∈gK (ls.map iN),nJ nw (true,q))(hy:ls[j]?=some y)(hk:iN y'=iN y)(ho:y'.dst<ai/\fk ai y'.a/\fk ai y'.b/\VA κ cap y'.args)(hd:0<=y.dst)(hdr:y.dst<ai){k:Key}(zZ:TG mp k=none):Mo ai κ cap ls (left++[y']) nw ko Bt (mp++[(k,y.dst)]) aR cH (j+1):=by
 obtain⟨n1,n2⟩:=PB yU hy hd;have tk:=yO hy;rw[aZ hd] at tk;have S2:=S.mE hy hk ho;refine⟨S2.sub,S2.op,S2.now,S2.ok,?_,fun p hp=>?_,fun p hp=>?_,S2.aR⟩
 .rw[List.map_append];refine List.nodup_append.2 ⟨S.nd,by simp,fun a ha b hb e=>?_⟩;simp only[BY,List.map_nil,List.mem_singleton] at hb;exact ad2 zZ (hb▸e▸ha)
 .rcases lE.1 hp with hp|hp
  .exact S.root p hp
  .simp only[List.mem_singleton] at hp;subst hp;refine⟨fun _=>?_,fun _=>⟨hd,hdr⟩⟩;have h1:=hr _ n2 rfl;rw[S.now _ (by dsimp only;rw[Int.toNat_of_nonneg hd];exact n1)];exact h1
 .rcases lE.1 hp with hp|hp
  .exact S2.frm p hp
  .simp only[List.mem_singleton] at hp;subst hp;exact .inr (by rw[tk];simp)
theorem aaC(ok:bm h)(w:Wk c h κ cap rs nw aR)(hw:0<=c.bu/\c.bu<1000000000)(hx:rs[i]?=some x)(JF:x.ls.length<=100000)(B7:∀y∈x.ls,y.args.l<=1048576)(hfd:∀k∈x.ls.map iN,1<=k.1/\k.1<=17->0<=k.2.1)(yU:(gK (x.ls.map iN)).Nodup)(hr:∀q∈gK (x.ls.map iN),nJ nw (true,q))(hmn:(Bt.map (·.1)).Nodup)(hmr:∀p∈Bt,nJ nw (true,p.2)/\fk c.ai (true,p.2))(hmd:∀p∈Bt,p.2∉gK (x.ls.map iN))(hm:h.tr.get m=some (.map (tz Bt)))(κm:κ m=0)(mm:¬yx c m)(f0:ak e 0=.pointer (some ⟨c.K,0,none⟩))(f6:ak e 6=.map (some m))(f10:ak e 10=d_.v)(f47:ak e 47=x.L.v)(f48:ak e 48=.int .i64 x.ls.length)(f49:ak e 49=.int .i64 0)(C:∀e' h' W left ko mp cH,aA ab9 e e'->ak e' 10=SV.v W->bH jZ h.next h' (SV.v W) left->ab (fun b=>VW c κ b\/b=m) h h'->Wk c h' κ cap rs ko cH->h'.tr.get m=some (.map (tz mp))->Mo c.ai κ cap x.ls left nw ko Bt mp aR cH x.ls.length->QQ (.exit 2) e' h'):aB FF (.loop jH) e h QQ:=by
 refine aB.loop (amq c h κ cap rs x.ls nw Bt m aR e) ?_ (n:=x.ls.length) ⟨0,d_,[],nw,Bt,aR,rfl,by omega,aA.refl _ _,f49,f10,.inl ⟨rfl,rfl⟩,.refl ok,w,hm,⟨by simp,fun _ _=>by simp[Oq],fun _ _=>rfl,fun x h=>by simp at h,hmn,hmr,fun p hp=>.inl hp,fun h=>.inl h⟩⟩;rintro mmx e' h'⟨j,W,left,ko,mp,cH,rfl,hj,K,q49,y9,acc,g,w',NU,S⟩;have bz:=g.ok;have q0:=K.at f0;have q6:=K.at f6;have q47:=K.at f47;have q48:=K.at f48;have ln:=g.next;unfold jH;by_cases aS:j<x.ls.length
 .have wj:=wrap_i64 ((j:Int)+1) (by omega) (by omega);obtain⟨y,hy⟩:=aE x.ls j aS;have hym:=dG hy;have R:=w'.O.os.r i x hx;obtain⟨hyd,hya,hyb,hyA⟩:=R.ls y hym;obtain⟨bL,cs,o,s,Y4,hbL,Yc,eU,dj,_⟩:=R.L.el hy;have ui:=R.L.len;have r0:=dj 0 8 (by decide);simp[-ag] at r0 q47;rw[Y4,ui] at q47;have κhi:∀b,h.next<=b->κ b=0/\¬yx c b:=fun b hb=>w.new hb;simp[q0,q47,q48,q49,aS,r0,-ag,au,aX,aN,ay];refine aU.cut (fun h2=>ab aK h' h2/\∃s,s<=h'.clock+1/\h2.tr.get h'.next=some (.aC [.int .i64 y.op,.int .i64 y.dst,.bool y.a.1,.int .i64 y.a.2,.bool y.b.1,.int .i64 y.b.2,.int .i64 y.fn,.slice y.args.a y.args.l y.args.c] false 0 s)) ?_ ?_
  .exact⟨((ab.refl bz).var _ _).tick,h'.clock,Nat.le_succ _,by simp[aH]⟩
  rintro h2⟨g2,sX,hsX,dX⟩;have w2:=w'.bl bz g2;refine aU.call (V:=Dp ko c.ai h2) (by simpa using qc g2.ok w2.k hya) ?_;rintro _ h3⟨g3,u,rfl,hu,hur⟩;have w3:=w2.bl g2.ok g3;have fe:=g3.get g2.ok dX;simp[q0,fe,hsX];refine aU.call (V:=Dp ko c.ai h3) (by simpa using qc g3.ok w3.k hyb) ?_;rintro _ h4⟨g4,v,rfl,hv,Zy⟩;have w4:=w3.bl g3.ok g4;have vg:=g4.get g3.ok fe;have l4:=g4.next;have l3:=g3.next;have l2:=g2.next;have me:=(g2.trans g3).trans g4;have lX4:=g4.ok.wf _ _ vg;simp[vg,hsX,aH];refine aB.cut (fun h5=>ab aK h' h5/\∃s,h5.tr.get h'.next=some (.aC [.int .i64 y.op,.int .i64 y.dst,.bool u.1,.int .i64 u.2,.bool v.1,.int .i64 v.2,.int .i64 y.fn,.slice y.args.a y.args.l y.args.c] false 0 s)) ?_ ?_
  .exact⟨(me.put ⟨sX,vg⟩ (.inl (dw _))).put ⟨h4.clock,by simp[aH]⟩ (.inl (dw _)),h4.clock+1,by simp[aH]⟩
  rintro h5⟨g5,s5,uL⟩;have w5:=w'.bl bz g5;obtain⟨κX,mX⟩:=κhi h'.next ln;refine aaB g5.ok w5 hyA (B7 y hym) uL κX rfl (by simp[q0]) (by simp) (by simp) (by simp) (by simp) ?_;intro e6 h6 K6 g6 w6 _;have wU:=g6.get g5.ok uL (fun e=>by unfold tl at e;omega);have hm6:h6.tr.get m=some (.map (tz mp)):=g6.get g5.ok (g5.get bz NU) (fun e=>by unfold tl at e;omega);have m0:ak e6 0=.pointer (some ⟨c.K,0,none⟩):=K6.at (t:=0) (by simp[q0]);have m6:ak e6 6=.map (some m):=K6.at (t:=6) (by simp[q6]);have F0:ak e6 12=.pointer (some ⟨h'.next,0,none⟩):=K6.at (t:=12) (by simp);have ZM:ak e6 10=W.v:=K6.at (t:=10) (by simp[y9]);have m49:ak e6 49=.int .i64 j:=K6.at (t:=49) (by simp[q49]);have K06:aA ab9 e e6:=by
   refine aA.trans ?_ (K6.bU)
   repeat (refine aA.set ?_)
   exact K
  have Ue:=acc.grow bz g5 (fun _ _ h=>h);have QJ:=Ue.grow g5.ok g6 (fun b hb e=>by have:=(κhi b (acc.of hb)).1;unfold tl at e;omega);have Mt:ab (fun b=>VW c κ b\/b=m) h h6:=(g.trans g5.bl).trans (g6.bU (fun _ _ e=>.inl (VW.row e)));have l5:=g5.next;have l6:=g6.next;clear vg fe dX g2 g3 g4 w2 w3 w4 me NU w' w5 uL
  
  have gone:∀(dn:Nat)(z:Bool×Int)(h7 h8:ae),y.dst=dn->(1<=y.op/\y.op<=17)->ab aK h6 h7->ab (fun x=>x=c.K\/ax c.NW.v x) h7 h8->Kn h8 c.K c.F c.ai c.bu c.KI c.NW (ko.set dn z) true->bH jZ h.next h8 W.v left/\ab (fun b=>VW c κ b\/b=m) h h8/\Wk c h8 κ cap rs (ko.set dn z) true/\h8.tr.get m=some (.map (tz mp))/\Mo c.ai κ cap x.ls left nw (ko.set dn z) Bt mp aR true (j+1):=by
   intro dn z h7 h8 Ri rO g7 g8 k8;have nm:∀b,(b=c.K\/ax c.NW.v b)->yx c b:=fun b hb=>by
    rcases hb with e|e
    .exact .inl e
    .exact .inr (.inr (.inr (.inl e)))
   refine⟨(QJ.grow g6.ok g7 (fun _ _ h=>h)).grow g7.ok g8 (fun b hb e=>(κhi b (acc.of hb)).2 (nm b e)),(Mt.trans g7.bl).trans (g8.bU (fun _ _ e=>.inl (VW.same e))),(w6.bl g6.ok g7).same g7.ok g8 k8,g8.get g7.ok (g7.get g6.ok hm6) (fun e=>mm (nm m e)),S.drop yU hmd hy rO Ri z⟩
  have MB:iN y∈x.ls.map iN:=dZ.2 ⟨y,hym,rfl⟩;have fdy:=hfd _ MB;simp only[iN] at fdy;simp[F0,wU];by_cases Zq:y.op=1
  .have D1:(y.op==1)=true:=by simp[Zq]
   obtain⟨dn,Ri⟩:∃n:Nat,y.dst=n:=⟨y.dst.toNat,by have:=fdy (by omega);omega⟩;simp[D1,m0,F0,wU];rw[Ri];refine aG.call (V:=fun _ h'=>ab (fun x=>x=c.K\/ax c.NW.v x) h6 h'/\Kn h' c.K c.F c.ai c.bu c.KI c.NW (ko.set dn u) true) (by simpa using u7 g6.ok w6.k (r:=dn) (by omega) hu hur) ?_;rintro _ h7⟨g7,k7⟩;obtain⟨a1,a2,a3,a4,a5⟩:=gone dn u h6 h7 Ri (by omega) (.refl g6.ok) g7 k7;simp[m49,wj];refine⟨x.ls.length-(j+1),by omega,j+1,W,left,_,mp,true,rfl,aS,?_,by simp,by simp[ZM],a1,a2,a3,a4,a5⟩
   repeat (refine aA.set ?_)
   exact K06
  .have D1:(y.op==1)=false:=by simp[Zq]
   obtain⟨sK,hK6⟩:=w6.k.hK;simp[D1,m0,F0,wU];refine aG.call (V:=TU y.op h6) (by simpa using Od g6.ok hw hK6 {y with a:=u,b:=v}) ?_;rintro _ h7⟨g7,key,t,rfl,ht⟩;have w7:=w6.bl g6.ok g7;have XY:=g7.get g6.ok wU;have hm7:=g7.get g6.ok hm6;have amC:=QJ.grow g6.ok g7 (fun _ _ h=>h);have gg7:=Mt.trans g7.bl;have l7:=g7.next;have lX7:=g7.ok.wf _ _ XY;have nX7:¬h'.next=h7.next:=by omega
   have lm7:=g7.ok.wf _ _ hm7;have nm7:¬m=h7.next:=by omega
   have gv:ab aK h7 (put (aJ h7 [.int .i64 0,.bool false,.int .i64 0,.bool false,.int .i64 0] 0) h7.next 0 [.int .i64 0,.bool false,.int .i64 0,.bool false,.int .i64 0] key.cells 0):=(ab.refl g7.ok).var _ _;simp[Key.cells];have Za:=gv.get g7.ok XY;have hm8:=gv.get g7.ok hm7;have hK8:(put (aJ h7 [.int .i64 0,.bool false,.int .i64 0,.bool false,.int .i64 0] 0) h7.next 0 [.int .i64 0,.bool false,.int .i64 0,.bool false,.int .i64 0] key.cells 0).tr.get h7.next=some (.aC key.cells false 0 h7.clock):=by simp[aH,Key.cells]
   have w8:=w7.bl g7.ok gv;have QK:=amC.grow g7.ok gv (fun _ _ h=>h);have UR:=gg7.trans gv.bl;have g68:=g7.trans gv;have l8:=gv.next;simp only[Key.cells] at Za hm8 hK8 w8 QK UR g68 l8;generalize put (aJ h7 [.int .i64 0,.bool false,.int .i64 0,.bool false,.int .i64 0] 0) h7.next 0 [.int .i64 0,.bool false,.int .i64 0,.bool false,.int .i64 0] [.int .i64 key.op,.bool key.a.1,.int .i64 key.a.2,.bool key.b.1,.int .i64 key.b.2] 0=h8 at*;have ok8:=g68.ok;have hyo:({y with a:=u,b:=v} :XI).dst<c.ai/\fk c.ai u/\fk c.ai v/\VA κ cap y.args:=⟨hyd,hu,hv,hyA⟩;have bY:=S.len
   
   have stay:∀(h9:ae)(mp2:List (Key×Int)),bm h9->ab (fun b=>VW c κ b\/b=m) h h9->Wk c h9 κ cap rs ko cH->bH jZ h.next h9 W.v left->h9.tr.get m=some (.map (tz mp2))->Mo c.ai κ cap x.ls (left++[{y with a:=u,b:=v}]) nw ko Bt mp2 aR cH (j+1)->
     ∃W' CU,nD (aJ h9 [.int .i64 y.op,.int .i64 y.dst,.bool u.1,.int .i64 u.2,.bool v.1,.int .i64 v.2,.int .i64 y.fn,.slice y.args.a y.args.l y.args.c] 0) [.int .i64 0,.int .i64 0,.bool false,.int .i64 0,.bool false,.int .i64 0,.int .i64 0,.slice none 0 0] 80 false W.v (.slice (some ⟨h9.next,0,none⟩) 1 1)=some (SV.v W',CU)/\
      bH jZ h.next CU (SV.v W') (left++[{y with a:=u,b:=v}])/\ab (fun b=>VW c κ b\/b=m) h CU/\Wk c CU κ cap rs ko cH/\CU.tr.get m=some (.map (tz mp2)):=by
    intro h9 mp2 ok9 gg9 w9 HF hm9 S9;have l9:=gg9.next;have Fi:=aP ok9 (jZ.enc {y with a:=u,b:=v}) 0;have agt:=HF.grow ok9 Fi (fun _ _ h=>h);have VE:bc jZ (aJ h9 (jZ.enc {y with a:=u,b:=v}) 0) (.slice (some ⟨h9.next,0,none⟩) 1 1) [{y with a:=u,b:=v}]:=qb (bS _ _ _);obtain⟨v',h11,ha,aaQ,YV,hd11⟩:=lJ (bytes:=80) Fi.ok (z:=[.int .i64 0,.int .i64 0,.bool false,.int .i64 0,.bool false,.int .i64 0,.int .i64 0,.slice none 0 0]) rfl agt VE (by omega) (by decide) (by simp;omega);obtain⟨W',rfl⟩:=bH.Yu aaQ;refine⟨W',h11,ha,aaQ,(gg9.trans Fi.bl).trans' YV (fun _ _ h=>h) (fun b hb e=>by have:=HF.of e;omega),(w9.bl ok9 Fi).grow Fi.ok YV (fun b hb=>κhi b (HF.of hb)),YV.get Fi.ok (Fi.get ok9 hm9) (fun e=>?_)⟩;have:=HF.of e;have:=ok.wf _ _ hm;omega
   cases t with
   |false=>
    obtain⟨W',CU,ha,a1,a2,a3,a4⟩:=stay h8 mp ok8 UR w8 QK hm8 (S.mE hy rfl hyo);simp[ZM,F0,Za,aH];refine iE (by simpa using ha) ?_;simp[m49,wj];refine⟨x.ls.length-(j+1),by omega,j+1,W',_,ko,mp,cH,rfl,aS,?_,by simp,by simp,a1,a2,a3,a4,S.mE hy rfl hyo⟩
    repeat (refine aA.set ?_)
    exact K06
   |true=>
    have rO:=ht rfl;have Yb:=fdy rO;have lk:=IZ key S.nd;simp only[yW,Key.cells] at lk;cases zZ:TG mp key with
    |some r=>
     rw[zZ] at lk;simp only[DY] at lk;obtain⟨p,hp,Fo⟩:=ad1 zZ;obtain⟨b1,b2⟩:=S.root p hp;rw[Fo] at b1 b2;obtain⟨dn,Ri⟩:∃n:Nat,y.dst=n:=⟨y.dst.toNat,by omega⟩;simp[m0,m6,F0,Za,hm8,hK8,lk,pE];rw[Ri];refine aG.call (V:=fun _ h'=>ab (fun x=>x=c.K\/ax c.NW.v x) h8 h'/\Kn h' c.K c.F c.ai c.bu c.KI c.NW (ko.set dn (true,r)) true) (by simpa using u7 ok8 w8.k (r:=dn) (by omega) (v:=(true,r)) b2 b1) ?_;rintro _ h9⟨g9,k9⟩;obtain⟨a1,a2,a3,a4,a5⟩:=gone dn (true,r) h8 h9 Ri rO g68 g9 k9;simp[m49,wj];refine⟨x.ls.length-(j+1),by omega,j+1,W,left,_,mp,true,rfl,aS,?_,by simp,by simp[ZM],a1,a2,a3,a4,a5⟩
     repeat (refine aA.set ?_)
     exact K06
    |none=>
     rw[zZ] at lk;simp only[Option.map_none] at lk;have up:=ajX (r:=y.dst) S.nd zZ;simp only[yW,Key.cells] at up;have nXm:¬h'.next=m:=by have:=ok.wf _ _ hm;omega
     have S9:=S.aqf yU hr hy (y':= {y with a:=u,b:=v}) rfl hyo Yb hyd zZ;have g9:ab (· =m) h8 { next:=h8.next,clock:=h8.clock+1,tr:=h8.tr.set m (.map (tz (mp++[(key,y.dst)]))) } :=UT ok8 ⟨_,hm8⟩ _;have hX9:=g9.get ok8 Za nXm;have hm9:({ next:=h8.next,clock:=h8.clock+1,tr:=h8.tr.set m (.map (tz (mp++[(key,y.dst)]))) } :ae).tr.get m=some (.map (tz (mp++[(key,y.dst)]))):=by simp[Tr.az]
     have w9:=w8.grow ok8 g9 (fun b e=>by rw[e];exact⟨κm,mm⟩);have HF:=QK.grow ok8 g9 (fun b hb e=>by have:=QK.of hb;have:=ok.wf _ _ hm;omega);obtain⟨W',CU,ha,a1,a2,a3,a4⟩:=stay _ _ g9.ok (UR.trans (g9.bU (fun _ _ e=>.inr e))) w9 HF hm9 S9;simp[m6,ZM,F0,Za,hm8,hK8,lk,up,pE,Tr.az,nXm,aH];refine iE (by simpa using ha) ?_;simp[m49,wj];refine⟨x.ls.length-(j+1),by omega,j+1,W',_,ko,_,cH,rfl,aS,?_,by simp,by simp,a1,a2,a3,a4,S9⟩
     repeat (refine aA.set ?_)
     exact K06
 .have:j=x.ls.length:=by omega
  subst this;simp[q48,q49];exact C _ _ W left ko mp cH (K.set) (by simp[y9]) acc g w' NU S
end
inductive eS(us:List Int)(b:Nat):Nat->Prop
 |refl:eS us b b
 |up {x p:Nat} (h:us[x]?=some (p:Int)) (u:eS us b p):eS us b x
structure Ge(us:List Int)(fD:Nat->Nat)(kids:List (List Int))(n:Nat):Prop where
 ul:us.length=n
 rk:∀(x p:Nat),us[x]?=some (p:Int)->fD p<fD x
 le:∀x,fD x<=n
 len:kids.length=n
 row:∀(p:Nat)(row:List Int),kids[p]?=some row->row.Nodup/\∀x∈row,∃k:Nat,x=k/\k<n/\us[k]?=some (p:Int)
section
variable{us:List Int}{fD:Nat->Nat}{kids:List (List Int)}{n:Nat}
theorem eS.rk(T:Ge us fD kids n){b x:Nat}(u:eS us b x):fD b<=fD x:=by
 induction u with
 |refl=>exact dw _
 |up h _ ih=>have:=T.rk _ _ h;omega
theorem eS.Uo{b x:Nat}(u:eS us b x):x=b\/∃p:Nat,us[x]?=some (p:Int)/\eS us b p:=by
 cases u with
 |refl=>exact .inl rfl
 |up h u=>exact .inr ⟨_,h,u⟩
theorem eS.kid{b k x:Nat}(h:us[k]?=some (b:Int))(u:eS us k x):eS us b x:=by
 induction u with
 |refl=>exact .up h .refl
 |up h' _ ih=>exact .up h' ih
theorem eS.Ev(T:Ge us fD kids n)(h:us[k]?=some (b:Int)):¬eS us k b:=fun u=>by have:=u.rk T;have:=T.rk _ _ h;omega
theorem eS.apart(T:Ge us fD kids n){b k1 k2:Nat}(h1:us[k1]?=some (b:Int))(h2:us[k2]?=some (b:Int))(hn:k1≠k2){x:Nat}(u:eS us k1 x):¬eS us k2 x:=by
 induction u with
 |refl=>
  intro v;rcases v.Uo with e|⟨p,hp,v⟩
  .exact hn e
  .rw[h1] at hp;simp only[jm,Int.natCast_inj] at hp;subst hp;exact eS.Ev T h2 v
 | @up x p h u ih=>
  intro v;rcases v.Uo with e|⟨q,hq,v⟩
  .subst e;rw[h2] at h;simp only[jm,Int.natCast_inj] at h;subst h;exact eS.Ev T h1 u
  .rw[h] at hq;simp only[jm,Int.natCast_inj] at hq;subst hq;exact ih v
end
theorem SS(h:rs[i]?=some x):vq (rs.set i x')+ku x=vq rs+ku x':=by
 obtain⟨a,b,rfl,ha⟩:∃a b,rs=a++x::b/\a.length=i:=by refine⟨rs.take i,rs.drop (i+1),?_,by simp;have:=(cr.mp h).1;omega⟩;have h2:=List.drop_eq_getElem_cons (l:=rs) (i:=i) (cr.mp h).1;rw[(cr.mp h).2] at h2;rw[<-h2,List.take_append_drop]
 subst ha;unfold vq;simp;omega
theorem QN{c:WC}(hx:rs[i]?=some x){nw I3 nw2:List (Bool×Int)}{aR jS yb:Bool}{left:List (Int×SV)}{ll:List XI}(P:PhS c.ai x.ps left nw I3 aR jS x.ps.length)(L:Mo c.ai κ cap x.ls ll I3 nw2 Bt mp jS yb x.ls.length)(hk:x'.kind=x.kind)(ht:x'.ts=x.ts)(hp:x'.ps=left)(hl:x'.ls=ll):
  WR (· =i) rs (rs.set i x') nw nw2 aR yb:=by
 have hi:=(cr.mp hx).1;have e1:x.ps.take x.ps.length=x.ps:=we;have e2:x.ls.take x.ls.length=x.ls:=we;have s1:=P.sub;rw[e1] at s1;have s2:=L.sub;rw[e2] at s2;have B:vC x x':=⟨hk,ht,by rw[hp];exact s1,by rw[hl];exact s2,fun k hk=>by rw[hl,L.op k hk,e2]⟩;have l1:=s1.length_le;have l2:=s2.length_le;simp only[UP] at l2;refine⟨by simp,fun j hj=>List.getElem?_set_ne (Ne.symm hj),fun j r r' a b=>?_,fun q hq=>?_,fun hm=>?_⟩
 .rw[fg] at b;by_cases e:i=j
  .subst e;rw[aZ rfl,aZ hi] at b;cases b;rw[hx] at a;cases a;exact B
  .rw[aW e,a] at b;cases b;exact .refl r
 .have:=hq i x rfl hx;unfold eJ at this;simp only[lE,not_or] at this;rw[L.now q (by rw[e2];exact this.2),P.now q (by rw[e1];exact this.1)]
 .have sz:=SS (x':=x') hx;have z1:ku x'=left.length+ll.length:=by unfold ku;rw[hp,hl]
  have z2:ku x=x.ps.length+x.ls.length:=rfl;rcases L.aR hm with h|h
  .rcases P.aR h with h|h
   .exact .inl h
   .exact .inr (by omega)
  .exact .inr (by omega)
theorem Kz(ok:bm h)(es:List (Value×Value)):ab aK h (h.new (.map es))/\(h.new (.map es)).tr.get h.next=some (.map es):=by
 refine⟨⟨Nat.le_succ _,dw _,fun b hb _=>?_,⟨fun b ob hb=>?_,fun b cs ro op s hb=>?_⟩⟩,by simp[ae.new,Tr.az]⟩
 .simp only[ae.new,Tr.az];rw[aW (by omega)]
 .simp only[ae.new,Tr.az] at hb⊢;by_cases e:b=h.next
  .omega
  .rw[aW e] at hb;exact Nat.lt_succ_of_lt (ok.wf b ob hb)
 .simp only[ae.new,Tr.az] at hb⊢;by_cases e:b=h.next
  .rw[aZ e] at hb;cases hb
  .rw[aW e] at hb;exact ok.st b cs ro op s hb
section
variable{c:WC}{cap:Nat->Nat}{us:List Int}{fD:Nat->Nat}{n:Nat}
def JP(c:WC)(h:ae)(κ cap:Nat->Nat)(rs:List XR)(nw:List (Bool×Int))(aR:Bool)(D:Nat->Prop)(h':ae):Prop:=
 ∃(κ':Nat->Nat) (cC:List XR) (ko:List (Bool×Int)) (cH:Bool),ab (VW c κ) h h'/\(∀b,b<h.next->κ' b=κ b)/\Wk c h' κ' cap cC ko cH/\WR D rs cC nw ko aR cH
structure ML(c:WC)(h:ae)(κ cap:Nat->Nat)(rs:List XR)(nw:List (Bool×Int))(aR:Bool)(us:List Int)(n b:Nat)(kv:Value)(mp:List (Key×Int)):Prop where
 w:Wk c h κ cap rs nw aR
 tf:TF0 rs
 uq:Uq rs
 fd:Fd rs
 len:rs.length=n
 lt:b<n
 root:∀(i:Nat)(r:XR),eS us b i->rs[i]?=some r->∀q∈eJ r,nJ nw (true,q)
 nd:(mp.map (·.1)).Nodup
 abA:aaI h kv mp
 mr:∀p∈mp,nJ nw (true,p.2)/\fk c.ai (true,p.2)
 md:∀p∈mp,∀(i:Nat)(r:XR),eS us b i->rs[i]?=some r->p.2∉eJ r
 id:∀m,kv=.map (some m)->κ m=0/\¬yx c m
def Ub(c:WC)(cap:Nat->Nat)(us:List Int)(fD:Nat->Nat)(n f:Nat):Prop:=
 ∀(b:Nat)(h:ae)(κ:Nat->Nat)(rs:List XR)(nw:List (Bool×Int))(aR:Bool)(kv:Value)(mp:List (Key×Int)),n<fD b+f->bm h->ML c h κ cap rs nw aR us n b kv mp->
  aF FF qO [.pointer (some ⟨c.K,0,none⟩),.int .i64 b,kv] h (fun _ h'=>JP c h κ cap rs nw aR (eS us b) h')
def KlL:List Nat:=[20]++(List.range 9).map (· +140)
def KlD(us:List Int)(row:List Int)(i:Nat):Prop:=∃k:Nat,(k:Int)∈row/\eS us k i
def KlI(c:WC)(h:ae)(κ cap:Nat->Nat)(rs:List XR)(nw:List (Bool×Int))(aR:Bool)(us:List Int)(row:List Int)(e:Env)(mm:Nat)(e':Env)(h':ae):Prop:=
 ∃j:Nat,mm=row.length-j/\j<=row.length/\aA KlL e e'/\ak e' 140=.int .i64 j/\JP c h κ cap rs nw aR (KlD us (row.take j)) h'/\bm h'
theorem RM{nw:List (Bool×Int)}(T:Ge us fD c.kids n)(IH:Ub c cap us fD n f)(hf:n<fD b+(f+1))(ok:bm h)(w:Wk c h κ cap rs nw aR)(tf:TF0 rs)(uq:Uq rs)(fd:Fd rs)(len:rs.length=n){row:List Int}(jq:c.kids[b]?=some row)(hW:c.ws[b]?=some W)(root:∀(k:Nat),(k:Int)∈row->∀(i:Nat)(r:XR),eS us k i->rs[i]?=some r->∀q∈eJ r,nJ nw (true,q))(nd:(mp.map (·.1)).Nodup)(hm:h.tr.get m=some (.map (tz mp)))(mr:∀p∈mp,nJ nw (true,p.2)/\fk c.ai (true,p.2))(md:∀p∈mp,∀(k:Nat),(k:Int)∈row->∀(i:Nat)(r:XR),eS us k i->rs[i]?=some r->p.2∉eJ r)(κm:κ m=0)(mm:¬yx c m)(f0:ak e 0=.pointer (some ⟨c.K,0,none⟩))(f6:ak e 6=.map (some m))(f138:ak e 138=W.v)(f139:ak e 139=.int .i64 row.length)(f140:ak e 140=.int .i64 0)(C:∀e' h',JP c h κ cap rs nw aR (KlD us row) h'->QQ (.exit 6) e' h'):aB FF (.loop jF) e h QQ:=by
 obtain⟨rnd,rin⟩:=T.row b row jq;have lm:=ok.wf _ _ hm;refine aB.loop (KlI c h κ cap rs nw aR us row e) ?_ (n:=row.length) ⟨0,rfl,by omega,aA.refl _ _,f140,⟨κ,rs,nw,aR,.refl ok,fun _ _=>rfl,w,.refl _ _ _ _⟩,ok⟩;rintro mmx e' h'⟨j,rfl,hj,K,aeH,⟨κj,rsj,nwj,Qd,g,low,wj',R⟩,bz⟩;have q0:=K.at f0;have q6:=K.at f6;have aeG:=K.at f138;have ajx:=K.at f139;unfold jF;by_cases aS:j<row.length
 .have wj:=wrap_i64 ((j:Int)+1) (by omega) (by
   have:row.length<=n:=by
    have h1:=rnd;have:=gK_ (l₁:=row) (l₂:=(List.range n).map (fun k:Nat=>(k:Int))) h1 (fun x hx=>by obtain⟨k,rfl,hk,_⟩:=rin x hx;exact dZ.2 ⟨k,Kw.2 hk,rfl⟩)
    simpa using this
   have:=tf.F9;omega)
  obtain⟨x,hx⟩:=aE row j aS;have Fs:=dG hx;obtain⟨k,rfl,zZ,Fk⟩:=rin x Fs;obtain⟨bW,cs,o,s,hWa,hWb,FP,_,dj,_⟩:=(wj'.rows b W row hW jq).el hx;have aa1:=(wj'.rows b W row hW jq).len;have r0:=dj 0 1 (by decide);simp[-ag] at r0 aeG;rw[hWa] at aeG;have tk:row.take (j+1)=row.take j++[(k:Int)]:=by rw[v9,hx];rfl
  have aqe:(k:Int)∉row.take j:=by
   intro hm2;obtain⟨i2,AS⟩:=sv hm2;rw[FN] at AS;split at AS
   .rename_i dS;have:=(List.getElem?_inj (by omega) rnd).1 (AS.trans hx.symm);omega
   .cases AS
  
  have rU:∀(i:Nat)(r:XR),eS us k i->rs[i]?=some r->∀(i':Nat)(r':XR),KlD us (row.take j) i'->rs[i']?=some r'->∀q∈eJ r,q∉eJ r':=by rintro i r hu hr i' r'⟨k',wV,IJ⟩ CZ q hq;obtain⟨k2,e2,_,aoQ⟩:=rin (k':Int) (Nv wV);simp only[Int.natCast_inj] at e2;subst e2;have cq:k'≠k:=fun e=>aqe (e▸wV);refine uq.apart hr CZ (fun e=>?_) q hq;subst e;exact eS.apart T aoQ Fk cq IJ hu
  have aby:∀q:Int,0<=q->(∀(i':Nat)(r':XR),KlD us (row.take j) i'->rs[i']?=some r'->q∉eJ r')->nJ nw (true,q)->nJ nwj (true,q):=by intro q h0 hq hr _;have:=R.now q.toNat (fun i' r' zi CZ=>by rw[Int.toNat_of_nonneg h0];exact hq i' r' zi CZ);rw[this];exact hr rfl
  have inK:ML c h' κj cap rsj nwj Qd us n k (.map (some m)) mp:=by
   refine⟨wj',R.tf tf,R.uq uq,R.fd fd,by rw[R.len,len],zZ,fun i r hu hr q hq=>?_,nd,.inr ⟨m,rfl,?_⟩,fun p hp=>⟨?_,(mr p hp).2⟩,fun p hp i r hu hr hq=>?_,fun m' e=>?_⟩
   .obtain⟨r0',AV,B⟩:=R.back hr;have Yk:=B.Q0.subset hq;have hqn:0<=q:=by
     unfold eJ at Yk;rcases lE.1 Yk with h1|h1
     .obtain⟨p,hp,rfl⟩:=dZ.1 h1;exact((w.O.os.r i r0' AV).ps p hp).1.1
     .unfold gK at h1;obtain⟨p,hp,rfl⟩:=dZ.1 h1;simpa using(Ms.1 hp).2
    exact aby q hqn (fun i' r' zi CZ=>rU i r0' hu AV i' r' zi CZ q Yk) (root k Fs i r0' hu AV q Yk)
   .exact g.get ok hm (fun e=>by
     rcases e with e|e|e|e
     .omega
     .omega
     .exact mm (.inl e)
     .exact mm (.inr (.inr (.inr (.inl e)))))
   .refine aby p.2 ((mr p hp).2 rfl).1 (fun i' r' zi CZ=>?_) (mr p hp).1;obtain⟨k',wV,IJ⟩:=zi;exact md p hp k' (Nv wV) i' r' IJ CZ
   .obtain⟨r0',AV,B⟩:=R.back hr;exact md p hp k Fs i r0' hu AV (B.Q0.subset hq)
   .cases e;exact⟨by rw[low m lm];exact κm,mm⟩
  have hrk:=T.rk _ _ Fk;simp[q0,q6,aeG,ajx,aeH,aS,aa1,r0,-ag];refine aG.call (V:=fun _ h2=>JP c h' κj cap rsj nwj Qd (eS us k) h2/\bm h2) (by have:=IH k h' κj rsj nwj Qd (.map (some m)) mp (by omega) bz inK;refine aF.mono (by simpa [q0,q6] using this) ?_;intro v h2 hq;refine⟨hq,?_⟩;obtain⟨_,_,_,_,g2,_⟩:=hq;exact g2.ok) ?_
  rintro _ h2⟨⟨κ2,Fv,nw2,yb,g2,ad4,w2,R2⟩,Wo⟩;have ln:=g.next;simp[aeH,wj];refine⟨row.length-(j+1),by omega,j+1,rfl,aS,?_,by simp,⟨κ2,Fv,nw2,yb,g.trans' g2 (fun _ _ h=>h) (fun x hx e=>?_),fun x hx=>by rw[ad4 x (by omega),low x hx],w2,R.trans R2 (fun i hi=>?_) (fun i hi=>?_)⟩,Wo⟩
  .repeat (refine aA.set ?_)
   exact K
  .unfold VW at e⊢;rw[low x hx] at e;exact e
  .obtain⟨k',wV,IJ⟩:=hi;exact⟨k',by rw[tk];exact List.mem_append_left _ wV,IJ⟩
  .exact⟨k,by rw[tk];simp,hi⟩
 .have:j=row.length:=by omega
  subst this;simp[ajx,aeH];rw[we] at R;exact C _ _ ⟨κj,rsj,nwj,Qd,g,low,wj',R⟩
end
section
variable{c:WC}{cap:Nat->Nat}{us:List Int}{fD:Nat->Nat}{n:Nat}
theorem VW.not(h1:κ b=0)(h2:¬yx c b):¬VW c κ b:=by
 rintro(e|e|e|e)
 .omega
 .omega
 .exact h2 (.inl e)
 .exact h2 (.inr (.inr (.inr (.inl e))))
theorem Kj(w:cn h n0 ai κ cap rs)(hr:rs[i]?=some r){q:Int}(hq:q∈eJ r):0<=q:=by
 unfold eJ at hq;rcases lE.1 hq with h1|h1
 .obtain⟨p,hp,rfl⟩:=dZ.1 h1;exact((w.r i r hr).ps p hp).1.1
 .unfold gK at h1;obtain⟨p,hp,rfl⟩:=dZ.1 h1;simpa using(Ms.1 hp).2
theorem Te(T:Ge us fD c.kids n)(hw:0<=c.bu/\c.bu<1000000000):∀f,Ub c cap us fD n f:=by
 intro f;induction f with
 |zero=>intro b h κ rs nw aR kv mp hf;have:=T.le b;omega
 |succ f IH=>
  intro b h κ rs nw aR kv mp hfu ok I;have w:=I.w;obtain⟨x,hx⟩:=aE rs b (by rw[I.len];exact I.lt);have Fs:=dG hx;have sz:=I.tf.size x Fs;have Fo:∀q∈x.ps,q.2.l<=1048576:=fun q hq=>by have:=I.tf.rows b x hx q hq;have:=I.tf.short b (by rw[I.len];exact I.lt);omega
  have uq1:=I.uq.one hx;have rt:=I.root b x .refl hx;unfold eJ at uq1;obtain⟨up,ul,ud⟩:=List.nodup_append.1 uq1;refine aF.of yJ ?_;unfold qt;simp;obtain⟨g1,Zk⟩:=Kz ok [];have n1:(h.new (.map [])).next=h.next+1:=rfl
  generalize h.new (.map [])=h1 at*;have hid:∀m',kv=.map (some m')->m'<h.next:=by
   intro m' e;rcases I.abA with⟨e2,_⟩|⟨m2,e2,hg⟩
   .rw[e2] at e;cases e
   .rw[e2] at e;cases e;exact ok.wf _ _ hg
  refine Wd g1.ok I.nd (r:=h.next) ?_ (by simp) Zk ?_ ?_
  .rcases I.abA with⟨e2,e3⟩|⟨m2,e2,hg⟩
   .exact .inl ⟨by simp[e2],e3⟩
   .exact .inr ⟨m2,by simp[e2],g1.get ok hg⟩
  .intro m' e;have:=hid m' (by simpa using e);omega
  intro e2 h2 K2 g2 hm2;have Q8:ab aK h h2:=g1.trans' g2 (fun _ _ h=>h) (fun x hx e=>by omega);have w2:=w.bl ok Q8;obtain⟨κm,mm⟩:=w.new (dw h.next);have k0:ak e2 0=.pointer (some ⟨c.K,0,none⟩):=K2.at (t:=0) (by simp);have k1:ak e2 1=.int .i64 b:=K2.at (t:=1) (by simp);have k6:ak e2 6=.map (some h.next):=K2.at (t:=6) (by simp);have l2:=Q8.next;have lm2:=Q8.ok.wf _ _ hm2;simp[k0,k1];refine aG.call (V:=fun _ h'=>PhQ c h2 κ cap rs nw aR b x h') (by simpa [k0,k1] using Su Q8.ok w2 hx sz.1 Fo up (fun q hq=>rt _ (by unfold eJ;exact List.mem_append_left _ (dZ.2 ⟨q,hq,rfl⟩)))) ?_;rintro _ h3⟨κ3,P,left,nw3,atO,g3,aja,w3,S3⟩;have hx3:(rs.set b {x with P:=P,ps:=left})[b]?=some {x with P:=P,ps:=left} :=by rw[fg,aZ rfl,aZ (by rw[I.len];exact I.lt)]
  obtain⟨bB,cs,oB,sB,sK,sF,ha,ez,hi,hb,hK,hF,dj,eU⟩:=w3.at_ hx3;have rd1:=dj 1 1 (by decide);have ui:=(w3.O.os.r b _ hx3).L.len;simp[-ag] at rd1 ui;have hm3:=g3.get Q8.ok hm2 (VW.not κm mm);have κm3:κ3 h.next=0:=by rw[aja _ lm2];exact κm
  have abx:∀q:Int,0<=q->q∉x.ps.map (·.1)->nJ nw (true,q)->nJ nw3 (true,q):=by intro q h0 hq hr _;have:=S3.now q.toNat (by rw[we,Int.toNat_of_nonneg h0];exact hq);rw[this];exact hr rfl
  have d0:∀q∈gK (x.ls.map iN),0<=q:=fun q hq=>by unfold gK at hq;obtain⟨p,hp,rfl⟩:=dZ.1 hq;simpa using(Ms.1 hp).2
  simp[k0,k1,hK,hF,hi,rd1,av hK,av hF,-ag];refine aaC (x:= {x with P:=P,ps:=left}) g3.ok w3 hw hx3 sz.2 (I.tf.al x Fs) (I.fd x Fs) ul (fun q hq=>abx q (d0 q hq) (fun Vu=>ud q Vu q hq rfl) (rt q (by unfold eJ;exact List.mem_append_right _ hq))) I.nd
   (fun p hp=>⟨abx p.2 ((I.mr p hp).2 rfl).1 (fun hq=>I.md p hp b x .refl hx (by unfold eJ;exact List.mem_append_left _ hq)) (I.mr p hp).1,(I.mr p hp).2⟩) (fun p hp hq=>I.md p hp b x .refl hx (by unfold eJ;exact List.mem_append_right _ hq)) hm3 κm3 mm (by simp[k0]) (by simp[k6]) (by simp[d_]) (by simp) (by simp[ui]) (by simp) ?_
  intro e4 h4 W ll nw4 mp4 atP K4 y9 JQ g4 w4 hm4 S4;have q0:ak e4 0=.pointer (some ⟨c.K,0,none⟩):=K4.at (t:=0) (by simp[k0]);have q1:ak e4 1=.int .i64 b:=K4.at (t:=1) (by simp[k1]);have q6:ak e4 6=.map (some h.next):=K4.at (t:=6) (by simp[k6]);have q9:ak e4 9=.pointer (some ⟨bB,b*6,none⟩):=K4.at (t:=9) (by simp);have l3:=g3.next;have l4:=g4.next;obtain⟨bB2,cs2,oB2,sB2,_,_,KF,_,_,cA,_,_,_,D6⟩:=w4.at_ hx3;rw[ha] at KF;simp at KF;subst KF;have hf:=D6 1 1 (by decide);obtain⟨κ5,w5,g5,V0,κB⟩:=w4.aqQ g4.ok hx3 (bH.arr JQ) (nl:=h3.next) (fun b hb=>JQ.of hb) ⟨w3.hM,l4⟩ (fun b hb=>(w3.new hb).1) S4.ok ha cA;simp[q9,y9,cA,hf,-ag];simp at w5 g5;generalize put h4 bB (b*6+1) cs2 _ oB2=h5 at*;have hx5:(rs.set b {x with P:=P,ps:=left,L:=W,ls:=ll})[b]?=some {x with P:=P,ps:=left,L:=W,ls:=ll} :=by rw[fg,aZ rfl,aZ (by rw[I.len];exact I.lt)]
  obtain⟨bB3,Uw,oB3,sB3,sK3,sF3,Zb,hBl3,Zi,x4,KD,xD,Vv,D7⟩:=w5.at_ hx5;rw[ha] at Zb;simp at Zb;subst Zb;have rd3:=Vv 3 2 (by decide);simp[-ag] at rd3;have hon:=(w5.O.os.r b _ hx5).on;have arj:aV h5 bB (b*6+2+1) 2=some [.bool x.on.1,.int .i64 x.on.2]:=rd3;simp[q0,arj,-ag];refine aG.call (V:=Dp nw4 c.ai h5) (by simpa [q0] using qc g5.ok w5.k hon) ?_;rintro _ h6⟨g6,u,rfl,hu,_⟩;have w6:=w5.bl g5.ok g6;have NJ:=g6.get g5.ok x4;have hf3:=D7 3 2 (by decide);obtain⟨w7,g7,κB5⟩:=w6.ajt g6.ok hx5 hu ha NJ;rw[List.set_set] at w7;have aot:b*6+2+1+2<=Uw.length:=by omega
  simp[q9,NJ,aot,-ag];have e7:b*6+2+1=b*6+3:=rfl;rw[e7];generalize put h6 bB (b*6+3) Uw _ oB3=h7 at*;obtain⟨sK7,hK7⟩:=w7.k.hK;obtain⟨sd7,hd7⟩:=w7.hd;obtain⟨row,jq⟩:=aE c.kids b (by rw[T.len];exact I.lt);obtain⟨Wb,hWb⟩:=aE c.ws b (by rw[w7.kd.2,T.len];exact I.lt);have rkd:=wJ hd7 hWb;have hKI:=w7.kd.1;have CV:b<c.kids.length:=by rw[T.len];exact I.lt
  have FP:=(w7.rows b Wb row hWb jq).len;simp[fJ,hKI] at hK7;simp[-ag] at rkd;simp[q0,q1,hK7,CV,rkd,av hK7,-ag]
  
  have BR:=QN (x':= {x with P:=P,L:=W,on:=u,ps:=left,ls:=ll}) hx S3 S4 rfl rfl rfl rfl;have gE:∀(i:Nat)(r:XR)(y:XR),i≠b->(rs.set b y)[i]?=some r->rs[i]?=some r:=fun i r y hi hr=>by rwa [List.getElem?_set_ne (Ne.symm hi)] at hr
  have neB:∀(k:Nat),(k:Int)∈row->∀i,eS us k i->i≠b:=fun k hk i hu e=>by obtain⟨k2,e2,_,Fk⟩:=(T.row b row jq).2 _ hk;simp only[Int.natCast_inj] at e2;subst e2;exact eS.Ev T Fk (e▸hu)
  have upB:∀(k:Nat),(k:Int)∈row->∀i,eS us k i->eS us b i:=fun k hk i hu=>by obtain⟨k2,e2,_,Fk⟩:=(T.row b row jq).2 _ hk;simp only[Int.natCast_inj] at e2;subst e2;exact hu.kid Fk
  have l5:=g5.next;have l6:=g6.next;have l7:=g7.next;have nB:¬h.next=bB:=fun e=>by rw[e] at κm3;have:=w3.O.kB bB (cw ha);omega
  have hm7:=g7.get g6.ok (g6.get g5.ok (g5.get g4.ok hm4 nB)) nB;refine RM T IH hfu g7.ok w7 (BR.tf I.tf) (BR.uq I.uq) (BR.fd I.fd) (by rw[List.length_set,I.len]) jq hWb (fun k hk i r hu hr q hq=>?_) S4.nd hm7 S4.root (fun p hp k hk i r hu hr hq=>?_) (by rw[V0 _ (by omega)];exact κm3) mm (by simp[q0]) (by simp[q6]) (by simp) (by simp[FP]) (by simp) ?_
  .have PO:=neB k hk i hu;have AV:=gE i r _ PO hr;have Yk:=Kj w.O.os AV hq;intro _;have:=BR.now q.toNat (fun i' r' e CZ=>by subst e;rw[Int.toNat_of_nonneg Yk];exact I.uq.apart AV CZ PO q hq)
   rw[this];exact I.root i r (upB k hk i hu) AV q hq rfl
  .have PO:=neB k hk i hu;have AV:=gE i r _ PO hr;rcases S4.frm p hp with h8|h8
   .exact I.md p h8 i r (upB k hk i hu) AV hq
   .rw[we] at h8;exact I.uq.apart hx AV (Ne.symm PO) p.2 (by unfold eJ;exact List.mem_append_right _ h8) hq
  .rintro e8 h8⟨κ8,rs8,nw8,aje,g8,aqi,w8,R8⟩;simp;have b3:∀x,x<h.next->κ3 x=κ x:=fun x hx=>aja x (by omega);have b5:∀x,x<h.next->κ5 x=κ x:=fun x hx=>by rw[V0 x (by omega),b3 x hx]
   have vw:∀(κ':Nat->Nat) x,κ' x=κ x->VW c κ' x->VW c κ x:=fun κ' x e hv=>by unfold VW at hv⊢;rw[e] at hv;exact hv
   have y3:ab (VW c κ) h h3:=Q8.bl.trans' g3 (fun _ _ h=>h) (fun x hx e=>e);have y4:ab (VW c κ) h h4:=y3.trans' g4 (fun _ _ h=>h) (fun x hx e=>by
    rcases e with e|e
    .exact vw κ3 x (b3 x hx) e
    .omega)
   have y5:ab (VW c κ) h h5:=y4.trans' g5 (fun _ _ h=>h) (fun x hx e=>by rw[e] at hx⊢;exact .inr (.inl (by rw[<-b3 _ hx];exact κB)));have y7:ab (VW c κ) h h7:=(y5.trans g6.bl).trans' g7 (fun _ _ h=>h) (fun x hx e=>by rw[e] at hx⊢;exact .inr (.inl (by rw[<-b3 _ hx];exact κB)));refine⟨κ8,rs8,nw8,aje,y7.trans' g8 (fun _ _ h=>h) (fun x hx e=>vw κ5 x (b5 x hx) e),fun x hx=>by rw[aqi x (by omega),b5 x hx],w8,BR.trans R8 (fun i e=>by subst e;exact .refl) (fun i hi=>?_)⟩;obtain⟨k,hk,hu⟩:=hi;exact upB k hk i hu
end
def mJ(us:List Int)(n j:Nat):List (List Int):=(List.range n).map fun(p:Nat)=>((List.range j).filter fun x=>decide (us[x]?=some (p:Int))).map fun x:Nat=>(x:Int)
theorem mW(us:List Int)(n j:Nat):(mJ us n j).length=n:=by simp[mJ]
theorem ua{n j p:Nat}(hp:p<n):(mJ us n j)[p]?=some (((List.range j).filter fun x=>decide (us[x]?=some (p:Int))).map fun x:Nat=>(x:Int)):=by simp[mJ,List.getElem?_range hp]
theorem RN{v:Int}(h:us[j]?=some v)(hv:v<0):mJ us n (j+1)=mJ us n j:=by
 unfold mJ;refine List.map_congr_left fun p _=>?_;rw[List.range_succ,List.filter_append];have:decide (us[j]?=some (p:Int))=false:=by rw[h];simp;omega
 simp[this]
theorem RO{n j p:Nat}(h:us[j]?=some (p:Int))(hp:p<n){row:List Int}(hr:(mJ us n j)[p]?=some row):mJ us n (j+1)=(mJ us n j).set p (row++[(j:Int)]):=by
 rw[ua hp] at hr;cases hr;refine zS fun q=>?_;rw[fg,mW];rcases zf q n with hq|hq
 .rw[ua hq,ua hq,List.range_succ,List.filter_append,List.map_append];by_cases e:p=q
  .subst e;rw[aZ rfl,aZ hq];simp[h]
  .rw[aW e];have:¬us[j]?=some (q:Int):=by rw[h];simp;omega
   simp[this]
 .rw[tS (by rw[mW];omega),tS (by rw[mW];omega),aW (by omega)]
theorem ZI(U:Tree.JO us n):∃fD,Ge us fD (mJ us n n) n:=by
 obtain⟨hl,fD,h1,h2⟩:=U;refine⟨fD,hl,fun x p hx=>?_,h1,mW _ _ _,fun p row hr=>?_⟩
 .rcases h2 x p hx with h|⟨y,e,_,h⟩
  .omega
  .simp only[Int.natCast_inj] at e;subst e;exact h
 .have hp:p<n:=by have:=(cr.mp hr).1;rwa [mW] at this
  rw[ua hp] at hr;cases hr;refine⟨?_,fun x hx=>?_⟩
  .have hn:(((List.range n).filter fun x=>decide (us[x]?=some (p:Int)))).Nodup:=List.nodup_range.filter _;exact List.Pairwise.map _ (fun a b yT e=>yT (by omega)) hn
  .obtain⟨k,hk,rfl⟩:=dZ.1 hx;obtain⟨a,b⟩:=Ms.1 hk;exact⟨k,rfl,Kw.1 a,of_decide_eq_true b⟩
structure Ks(h0 h:ae)(K F n d N up:Nat)(bu:Int)(us:List Int)(ws:List SV)(j:Nat):Prop where
 g:ab aK h0 h
 hK:∃s,h.tr.get K=some (.aC (fJ bu F ⟨some ⟨d,0,none⟩,n,n⟩ d_ false) false 0 s)
 hu:∃s,h.tr.get up=some (.aC (bj.flat us) false 0 s)
 A:jU bj h0.next h d ws (mJ us n j)
 hi:∀w∈ws,∀b,ax (SV.v w) b->N<=b
 lo:K<N/\d<N/\up<N/\N<=h.next
 ne:K≠d/\up≠d
 n0:h0.next<=K/\h0.next<=d
def alR(h0:ae)(K F n d N up:Nat)(bu:Int)(us:List Int)(e:Env)(mm:Nat)(e':Env)(h':ae):Prop:=
 ∃(j:Nat) (ws:List SV),mm=n-j/\j<=n/\aA ([6,7]++(List.range 24).map (· +30)) e e'/\ak e' 30=.int .i64 j/\Ks h0 h' K F n d N up bu us ws j
theorem Sf{K F n d N up:Nat}(U:Tree.JO us n)(hn:n<=1000){ws0:List SV}(S0:Ks h0 h K F n d N up bu us ws0 0)(f5:ak e 5=.pointer (some ⟨K,0,none⟩))(f28:ak e 28=.slice (some ⟨up,0,none⟩) n n)(f29:ak e 29=.int .i64 n)(f30:ak e 30=.int .i64 0)(C:∀e' h' ws,aA ([6,7]++(List.range 24).map (· +30)) e e'->Ks h0 h' K F n d N up bu us ws n->QQ (.exit 0) e' h'):aB FF (.loop rH) e h QQ:=by
 obtain⟨ul,fD,_,hrk⟩:=U;refine aB.loop (alR h0 K F n d N up bu us e) ?_ (n:=n) ⟨0,ws0,rfl,by omega,aA.refl _ _,f30,S0⟩;rintro mm e' h'⟨j,ws,rfl,hj,Kp,LF,S⟩;have bz:=S.g.ok;have q5:=Kp.at f5;have EO:=Kp.at f28;have W2:=Kp.at f29;unfold rH;by_cases aS:j<n
 .have wj:=wrap_i64 ((j:Int)+1) (by omega) (by omega);obtain⟨v,hv⟩:=aE us j;obtain⟨su,hu⟩:=S.hu;have rv:=jI hu hv;rcases hrk j v hv with rfl|⟨p,rfl,hp,_⟩
  .simp[EO,W2,LF,aS,rv,wj,-ag];refine⟨n-(j+1),by omega,j+1,ws,rfl,aS,?_,by simp,⟨S.g,S.hK,S.hu,by rw[RN hv (by omega)];exact S.A,S.hi,S.lo,S.ne,S.n0⟩⟩
   repeat (refine aA.set ?_)
   exact Kp
  .obtain⟨sK,hK⟩:=S.hK;obtain⟨sd,hd⟩:=S.A.aC;have xY:=hK;simp[fJ] at xY;have wl:=S.A.len;rw[mW] at wl;obtain⟨w,hw⟩:=aE ws p;obtain⟨row,jq⟩:∃row,(mJ us n j)[p]?=some row:=⟨_,ua hp⟩;have acc:=S.A.acc p w row hw jq;have rw0:=wJ hd hw;simp[-ag] at rw0;have PT:(0:Int)<=p:=by omega
   have oK:=bz.bC hK;have od:=bz.bC hd;have C0:=bz.st _ _ _ _ _ hK;have lK:=oK.lt;have ld:=od.lt;have vj:row.length<=j:=by rw[ua hp] at jq;cases jq;simp only[UP];exact sD (XP _ _) (by simp)
   simp[q5,EO,W2,LF,aS,rv,PT,xY,hp,rw0,av xY,-ag,ay];have gt:=bh bz;have A1:=S.A.bl bz gt;have amB:=acc.grow bz gt (fun _ _ h=>h);have Y3:=gt.get bz xY;have N8:=gt.get bz hu;have nt:(tick h').next=h'.next:=rfl
   have ct:(tick h').clock=h'.clock+1:=rfl;generalize tick h'=h1 at*;have g2:=aP gt.ok [.int .i64 j] 0;have A2:=A1.bl gt.ok g2;have Ud:=amB.grow gt.ok g2 (fun _ _ h=>h);have VE:bc bj (aJ h1 [.int .i64 j] 0) (.slice (some ⟨h1.next,0,none⟩) 1 1) [(j:Int)]:=qb (E:=bj) (x:=(j:Int)) (bS _ _ _);have ln:=S.g.next;have n2:(aJ h1 [.int .i64 j] 0).next=h1.next+1:=rfl
   obtain⟨v',h3,ha,MM,g3,GN⟩:=lJ (bytes:=8) g2.ok (z:=[.int .i64 0]) rfl Ud VE (by omega) (by decide) (by omega);obtain⟨W',rfl⟩:=bH.Yu MM;have hwm:=dG hw;have nKw:¬ax w.v K:=fun hb=>by have:=S.hi w hwm K hb;have:=S.lo;omega
   have nuw:¬ax w.v up:=fun hb=>by have:=S.hi w hwm up hb;have:=S.lo;omega
   have KD:=g3.get g2.ok (g2.get gt.ok Y3) nKw;have hu3:=g3.get g2.ok (g2.get gt.ok N8) nuw;obtain⟨s3,ahQ,A3⟩:=A2.set g2.ok hw jq g3 MM (fun b hb=>by have:=GN b hb;omega);have tY:sK<=h'.clock:=C0;rw[nt] at ha;refine Au (by simpa using ha) ?_;have hdl:p+1<=ws.length:=by omega
   simp[KD,hp,ahQ,tY,hdl,Nat.le_succ_of_le tY,LF,wj];have g4:ab (· =d) h3 (put h3 d p (rT.flat ws) [SV.v W'] 0):=aQ g3.ok ahQ;simp at g4 A3;generalize put h3 d p (rT.flat ws) [.slice W'.a W'.l W'.c] 0=h4 at*;have Kv:ab aK h0 h3:=((S.g.trans gt).trans g2).trans' g3 (fun _ _ h=>h) (fun x hx e=>by have:=acc.of e;omega);have Tj:ab aK h0 h4:=Kv.trans' g4 (fun _ _ h=>h) (fun x hx e=>by have:=S.n0;omega);have l3:=g3.next;have l4:=g4.next;refine⟨n-(j+1),by omega,j+1,ws.set p W',rfl,aS,?_,by simp,⟨Tj,⟨sK,by simpa [fJ] using g4.get g3.ok KD S.ne.1⟩,⟨su,g4.get g3.ok hu3 S.ne.2⟩,by rw[RO hv hp jq];exact A3,fun w' hw' b hb=>?_,by have:=S.lo;omega,S.ne,S.n0⟩⟩
   .repeat (refine aA.set ?_)
    exact Kp
   .rcases Kx hw' with h|h
    .exact S.hi w' h b hb
    .subst h;have:=GN b hb;have:=S.lo;omega
 .have:j=n:=by omega
  subst this;simp[W2,LF];exact C _ _ ws (Kp.set) S
def wD(j:Nat):List (Bool×Int):=(List.range j).map fun r:Nat=>(true,(r:Int))
theorem Qf{j r:Nat}(h:r<j):(wD j)[r]?=some (true,(r:Int)):=by simp[wD,List.getElem?_range h]
theorem ZT(n:Nat):TZ n (wD n):=by
 refine⟨by simp[wD],fun v hv=>?_,fun _=>0,fun r v hr hv=>.inl ?_⟩
 .obtain⟨r,hr,rfl⟩:=dZ.1 hv;have:=Kw.1 hr;exact fun _=>⟨by dsimp only;omega,by dsimp only;omega⟩
 .have:r<n:=by have:=(cr.mp hr).1;simpa [wD] using this
  rw[Qf this] at hr;cases hr;rfl
def alQ(h0:ae)(K F n:Nat)(bu:Int)(KI:SV)(e:Env)(mm:Nat)(e':Env)(h':ae):Prop:=
 ∃(j:Nat) (NW:SV),mm=n-j/\j<=n/\aA ([8]++(List.range 15).map (· +58)) e e'/\ak e' 58=.int .i64 j/\ab (· =K) h0 h'/\(∃s,h'.tr.get K=some (.aC (fJ bu F KI NW false) false 0 s))/\bH bx h0.next h' NW.v (wD j)
theorem Wp(ok:bm h){K F n sK:Nat}{KI:SV}(hn:n<1000000)(hK:h.tr.get K=some (.aC (fJ bu F KI d_ false) false 0 sK))(f5:ak e 5=.pointer (some ⟨K,0,none⟩))(f57:ak e 57=.int .i64 n)(f58:ak e 58=.int .i64 0)(C:∀e' h' NW,aA ([8]++(List.range 15).map (· +58)) e e'->ab (· =K) h h'->(∃s,h'.tr.get K=some (.aC (fJ bu F KI NW false) false 0 s))->bH bx h.next h' (SV.v NW) (wD n)->QQ (.exit 2) e' h'):aB FF (.loop rG) e h QQ:=by
 refine aB.loop (alQ h K F n bu KI e) ?_ (n:=n) ⟨0,d_,rfl,by omega,aA.refl _ _,f58,.refl ok,⟨sK,hK⟩,.inl ⟨rfl,rfl⟩⟩;rintro mm e' h'⟨j,NW,rfl,hj,Kp,q58,g,⟨s,hK'⟩,acc⟩;have bz:=g.ok;have q5:=Kp.at f5;have q57:=Kp.at f57;have lK:=ok.wf _ _ hK;unfold rG;by_cases aS:j<n
 .have wj:=wrap_i64 ((j:Int)+1) (by omega) (by omega);have xY:=hK';simp[fJ] at xY;simp[q5,q57,q58,aS,xY,aH];have g2:=aP bz [.bool true,.int .i64 j] 0;have Ud:=acc.grow bz g2 (fun _ _ h=>h);have VE:bc bx (aJ h' [.bool true,.int .i64 j] 0) (.slice (some ⟨h'.next,0,none⟩) 1 1) [(true,(j:Int))]:=qb (E:=bx) (x:=(true,(j:Int))) (bS _ _ _);have ln:=g.next;have n2:(aJ h' [.bool true,.int .i64 j] 0).next=h'.next+1:=rfl
  have hl:(wD j).length=j:=by simp[wD]
  obtain⟨v',h3,ha,MM,g3,GN⟩:=lJ (bytes:=16) g2.ok (z:=[.bool false,.int .i64 0]) rfl Ud VE (by omega) (by decide) (by omega);obtain⟨W',rfl⟩:=bH.Yu MM;have nK:¬ax NW.v K:=fun hb=>by have:=acc.of hb;omega
  have KD:=g3.get g2.ok (g2.get bz xY) nK;refine iE (by simpa using ha) ?_;simp[KD,q58,wj];have g4:=aQ (off:=3) (vs:=[.slice W'.a W'.l W'.c]) g3.ok KD;have e4:wD (j+1)=wD j++[(true,(j:Int))]:=by unfold wD;rw[List.range_succ];simp
  refine⟨n-(j+1),by omega,j+1,W',rfl,aS,?_,by simp,?_,⟨h3.clock,by rw[aD];simp[fJ,aH]⟩,?_⟩
  .repeat (refine aA.set ?_)
   exact Kp
  .exact((g.trans g2.bl).trans' g3 (fun _ _ h=>h) (fun x hx e=>by have:=acc.of e;omega)).trans' g4 (fun _ _ h=>h) (fun x _ e=>e)
  .rw[e4];exact MM.grow g3.ok g4 (fun b hb e=>by have:=GN b hb;omega)
 .have:j=n:=by omega
  subst this;simp[q57,q58];exact C _ _ NW (Kp.set) g ⟨s,hK'⟩ acc
section
variable{c:WC}{κ cap:Nat->Nat}{rs:List XR}{nw:List (Bool×Int)}{aR:Bool}
def agb:List Nat:=[11,12,13,14]++(List.range 21).map (· +88)
def al0(c:WC)(h:ae)(κ cap:Nat->Nat)(rs:List XR)(nw:List (Bool×Int))(aR:Bool)(k:Nat)(e:Env)(mm:Nat)(e':Env)(h':ae):Prop:=
 ∃j:Nat,mm=k-j/\j<=k/\aA agb e e'/\ak e' 88=.int .i64 j/\ab (tl κ) h h'/\Wk c h' κ cap rs nw aR
theorem ZW(ok:bm h)(w:Wk c h κ cap rs nw aR)(hx:rs[i]?=some x)(uj:x.ps.length<=100000)(B7:∀q∈x.ps,q.2.l<=1048576)(f5:ak e 5=.pointer (some ⟨c.K,0,none⟩))(f86:ak e 86=x.P.v)(f87:ak e 87=.int .i64 x.ps.length)(f88:ak e 88=.int .i64 0)(C:∀e' h',aA agb e e'->ab (tl κ) h h'->Wk c h' κ cap rs nw aR->QQ (.exit 6) e' h'):aB FF (.loop rD) e h QQ:=by
 refine aB.loop (al0 c h κ cap rs nw aR x.ps.length e) ?_ (n:=x.ps.length) ⟨0,rfl,by omega,aA.refl _ _,f88,.refl ok,w⟩;rintro mm e' h'⟨j,rfl,hj,K,q88,g,w'⟩;have bz:=g.ok;have q5:=K.at f5;have q86:=K.at f86;have q87:=K.at f87;unfold rD;by_cases aS:j<x.ps.length
 .have wj:=wrap_i64 ((j:Int)+1) (by omega) (by omega);obtain⟨q,hq⟩:=aE x.ps j aS;have Fp:=dG hq;have R:=w'.O.os.r i x hx;obtain⟨bP,cs,o,s,rM,hPb,Yc,eU,dj,_⟩:=R.P.el hq;have kj:=R.P.len;have r0:=dj 0 2 (by decide);simp[-ag] at r0 q86;rw[rM,kj] at q86;simp[q5,q86,q87,q88,aS,r0,-ag,au,aX,aN,ay];refine aB.cut (fun h2=>ab aK h' h2/\∃s,h2.tr.get h'.next=some (.aC [.int .i64 q.1,.slice q.2.a q.2.l q.2.c] false 0 s)) ?_ ?_
  .exact⟨(ab.refl bz).var _ _,h'.clock,by simp[aH]⟩
  rintro h2⟨g2,sX,dX⟩;have w2:=w'.bl bz g2;obtain⟨κX,_⟩:=w'.new (dw h'.next);refine aek g2.ok w2 (R.ps q Fp).2 (B7 q Fp) dX κX rfl (by simp[q5]) (by simp) (by simp) (by simp) (by simp) ?_;intro e3 h3 K3 g3 w3 _;have m88:=K3.at (t:=88) (by simp;exact q88);simp[m88,wj];refine⟨x.ps.length-(j+1),by omega,j+1,rfl,aS,?_,by simp,(g.trans g2.bl).trans g3,w3⟩;refine aA.set (aA.set (aA.trans ?_ (K3.bU)))
  repeat (refine aA.set ?_)
  exact K
 .have:j=x.ps.length:=by omega
  subst this;simp[q87,q88];exact C _ _ (K.set) g w'
def agc:List Nat:=[9,10,11,12,13,14]++(List.range 37).map (· +80)
def al1(c:WC)(h:ae)(κ cap:Nat->Nat)(rs:List XR)(nw:List (Bool×Int))(aR:Bool)(e:Env)(mm:Nat)(e':Env)(h':ae):Prop:=
 ∃j:Nat,mm=rs.length-j/\j<=rs.length/\aA agc e e'/\ak e' 80=.int .i64 j/\ab (fun b=>κ b=1\/κ b=2) h h'/\Wk c h' κ cap rs nw aR
theorem Sd(ok:bm h)(w:Wk c h κ cap rs nw aR)(tf:TF0 rs)(f1:ak e 1=.pointer (some ⟨c.F,0,none⟩))(f5:ak e 5=.pointer (some ⟨c.K,0,none⟩))(f78:ak e 78=c.B.v)(f79:ak e 79=.int .i64 rs.length)(f80:ak e 80=.int .i64 0)(C:∀e' h',aA agc e e'->ab (fun b=>κ b=1\/κ b=2) h h'->Wk c h' κ cap rs nw aR->QQ (.exit 4) e' h'):aB FF (.loop rE) e h QQ:=by
 have F9:=tf.F9;refine aB.loop (al1 c h κ cap rs nw aR e) ?_ (n:=rs.length) ⟨0,rfl,by omega,aA.refl _ _,f80,.refl ok,w⟩;rintro mm e' h'⟨j,rfl,hj,K,q80,g,w'⟩;have bz:=g.ok;have q1:=K.at f1;have q5:=K.at f5;have q78:=K.at f78;have q79:=K.at f79;unfold rE;by_cases aS:j<rs.length
 .have wj:=wrap_i64 ((j:Int)+1) (by omega) (by omega);obtain⟨x,hx⟩:=aE rs j aS;have Fs:=dG hx;obtain⟨bB,cs,oB,sB,sK,sF,ha,ez,hi,hb,hK,hF,dj,eU⟩:=w'.at_ hx;have LG:=dj 0 6 (by decide);have kj:=(w'.O.os.r j x hx).P.len;have Fo:∀q∈x.ps,q.2.l<=1048576:=fun q hq=>by have:=tf.rows j x hx q hq;have:=tf.short j aS;omega
  simp[-ag] at LG q78;rw[ha] at q78;simp[q1,q5,q78,q79,q80,aS,hi,LG,-ag,au,aX,aN,ay];refine aB.cut (fun h2=>ab aK h' h2/\∃s,h2.tr.get h'.next=some (.aC [.slice x.P.a x.P.l x.P.c,.slice x.L.a x.L.l x.L.c,.int .i64 x.kind,.bool x.on.1,.int .i64 x.on.2,.slice x.T.a x.T.l x.T.c] false 0 s)) ?_ ?_
  .exact⟨(ab.refl bz).var _ _,h'.clock,by simp[aH]⟩
  rintro h2⟨g2,sX,dX⟩;have w2:=w'.bl bz g2;obtain⟨κX,_⟩:=w'.new (dw h'.next);refine ZW g2.ok w2 hx (tf.size x Fs).1 Fo (by simp[q5]) (by simp) (by simp[kj]) (by simp) ?_;intro e3 h3 K3 g3 w3;have fe:=g3.get g2.ok dX (fun e=>by unfold tl at e;omega);have m1:ak e3 1=.pointer (some ⟨c.F,0,none⟩):=K3.at (t:=1) (by simp[q1]);have m9:ak e3 9=.int .i64 j:=K3.at (t:=9) (by simp);have ZM:ak e3 10=.pointer (some ⟨h'.next,0,none⟩):=K3.at (t:=10) (by simp);have m80:ak e3 80=.int .i64 j:=K3.at (t:=80) (by simp[q80]);obtain⟨bB2,cs2,oB2,sB2,_,sF2,KF,_,AS,cA,_,mI,_,D6⟩:=w3.at_ hx;rw[ha] at KF;simp at KF;subst KF;have hf:=D6 0 6 (by decide);simp at hf;have gE:rs.set j x=rs:=by
   refine zS fun i=>?_;rw[fg];by_cases e:j=i
   .subst e;rw[aZ rfl,aZ aS,hx]
   .rw[aW e]
  have gt:=bh g3.ok;have wt:=w3.bl g3.ok gt;obtain⟨w4,g4,κB,_⟩:=wt.store (r':=x) gt.ok hx (by rw[gE];exact wt.O.os) (fun _ _=>rfl) wt.z (k:=0) (vs:=fC.enc x) (by simp) (by simp[aH]) ha (gt.get g3.ok cA);rw[gE] at w4;simp at w4 g4;have oX3:=g3.ok.bC fe;have oF2:=g3.ok.bC mI;simp[m1,m9,ZM,m80,mI,fe,AS,cA,hf,wj,-ag,av mI,av fe,ay];refine⟨rs.length-(j+1),by omega,j+1,rfl,aS,?_,by simp,(((((g.trans g2.bl).trans' g3 (fun _ _ h=>h) (fun x _ e=>.inl e)).trans gt.bl)).trans' g4 (fun _ _ h=>h) (fun x _ e=>by subst e;exact .inr κB)),w4⟩
  repeat (refine aA.set ?_)
  refine aA.trans ?_ (K3.bU)
  repeat (refine aA.set ?_)
  exact K
 .have:j=rs.length:=by omega
  subst this;simp[q79,q80];exact C _ _ (K.set) g w'
end
section
variable{n0 ai:Nat}{κ cap:Nat->Nat}{B:SV}{rs:List XR}{N nb:Nat}
def NlL:List Nat:=[10,12,64,65,66,67,68,69,70,71,72,73,74,75,76,77,78,79,80,81,82,83,84,85,86,87,88,89,90,91,92,93,94]
def NlI(h:ae)(n0 ai:Nat)(κ cap:Nat->Nat)(B:SV)(rs:List XR)(N nb:Nat)(r:XR)(e:Env)(m:Nat)(e':Env)(h':ae):Prop:=
 ∃j:Nat,m=r.ls.length-j/\j<=r.ls.length/\aA NlL e e'/\ak e' 64=.int .i64 j/\ab (wP N nb) h h'/\NR h' n0 ai κ cap B rs N nb
theorem ZP(ok:bm h)(k:NR h n0 ai κ cap B rs N nb)(hr:rs[i]?=some r)(hl:r.ls.length<=1048576)(al:∀x∈r.ls,x.args.l<=1048576)(f3:ak e 3=.pointer (some ⟨N,0,none⟩))(f62:ak e 62=r.L.v)(f63:ak e 63=.int .i64 r.ls.length)(f64:ak e 64=.int .i64 0)(C:∀e' h',aA NlL e e'->ab (wP N nb) h h'->NR h' n0 ai κ cap B rs N nb->QQ (.exit 6) e' h'):aB FF (.loop nr) e h QQ:=by
 refine aB.loop (NlI h n0 ai κ cap B rs N nb r e) ?_ (n:=r.ls.length) ⟨0,rfl,by omega,aA.refl _ _,f64,.refl ok,k⟩;rintro m e' h'⟨j,rfl,hj,K,q64,g,k'⟩;have bz:=g.ok;have q3:=K.at f3;have Sz:=K.at f62;have q63:=K.at f63;unfold nr;by_cases aS:j<r.ls.length
 .have wj:=wrap_i64 ((j:Int)+1) (by omega) (by omega);obtain⟨x,hx⟩:=aE r.ls j aS;have Fs:=dG hx;have R:=k'.O.os.r i r hr;obtain⟨b,cs,o,s,ha,hb,_,_,dj,_⟩:=R.L.el hx;have rd:=dj 0 8 (by decide);simp[-ag] at rd;have ui:=R.L.len;obtain⟨hd,Yn,FW,TA⟩:=R.ls x Fs;simp at Sz;rw[ha,ui] at Sz;simp[q3,Sz,q63,q64,aS,rd,-ag,au];refine aG.cut (fun h2=>ab aK h' h2/\∃s,h2.tr.get h'.next=some (.aC [.int .i64 x.op,.int .i64 x.dst,.bool x.a.1,.int .i64 x.a.2,.bool x.b.1,.int .i64 x.b.2,.int .i64 x.fn,.slice x.args.a x.args.l x.args.c] false 0 s)) ?_ ?_
  .exact⟨(ab.refl bz).var _ _,h'.clock,by simp[aH]⟩
  rintro h2⟨g2,sX,dX⟩;have k2:=k'.bl bz g2;obtain⟨lN,lnb⟩:=k'.lt bz;have nX:¬wP N nb h'.next:=fun e=>by rcases e with e|e<;>omega
  refine aG.call (V:=XO N nb ai x.a h2) (by simpa using uT g2.ok k2.w Yn k.Fu) ?_;rintro _ h3⟨g3,w3,u,rfl,_,_,_⟩;have k3:=k2.step g2.ok (.refl g2.ok) g3 w3;have fe:=g3.get g2.ok dX nX;simp[q3,fe];refine aG.call (V:=XO N nb ai x.b h3) (by simpa using uT g3.ok k3.w FW k.Fu) ?_;rintro _ h4⟨g4,w4,u2,rfl,_,_,_⟩;have k4:=k3.step g3.ok (.refl g3.ok) g4 w4;have vg:=g4.get g3.ok fe nX;simp[vg];refine ZO g4.ok k4 TA (al x Fs) (by simp[q3]) (by simp) (by simp) (by simp) ?_;intro e5 h5 K5 g5 k5;have uL:=g5.get g4.ok vg nX;have m3:=K5.at (t:=3) (by simp;exact q3);have ZM:ak e5 10=.pointer (some ⟨h'.next,0,none⟩):=K5.at (t:=10) (by simp);have m64:=K5.at (t:=64) (by simp;exact q64);have G5:=g.trans (g2.bl.trans (g3.trans (g4.trans g5)));have KK:aA NlL e e5:=by
   refine aA.trans ?_ (K5.bU)
   repeat (refine aA.set ?_)
   exact K
  by_cases Yb:0<=x.dst
  .obtain⟨dn,Ri⟩:∃u:Nat,x.dst=u:=⟨x.dst.toNat,by omega⟩;rw[Ri] at uL hd;have ac1:(0:Int)<=(dn:Int):=by omega
   simp[m3,ZM,uL,ac1];refine aG.call (V:=NmQ N nb ai h5) (by simpa using xb g5.ok k5.w (r:=dn) (by omega) k.Fu) ?_;rintro _ h6⟨g6,w6,y,rfl,_⟩;simp[m64,wj];refine⟨r.ls.length-(j+1),by omega,j+1,rfl,aS,?_,by simp,G5.trans g6,k5.step g5.ok (.refl g5.ok) g6 w6⟩
   repeat (refine aA.set ?_)
   exact KK
  .simp[m3,ZM,uL,Yb,m64,wj];refine⟨r.ls.length-(j+1),by omega,j+1,rfl,aS,?_,by simp,G5,k5⟩
   repeat (refine aA.set ?_)
   exact KK
 .have:j=r.ls.length:=by omega
  subst this;simp[q63,q64];exact C _ _ (aA.set K) g k'
def NbI(h:ae)(n0 ai:Nat)(κ cap:Nat->Nat)(B:SV)(rs:List XR)(N nb:Nat)(v1 v2:Value)(m:Nat)(e':Env)(h':ae):Prop:=
 ∃j:Nat,m=rs.length-j/\j<=rs.length/\ak e' 1=v1/\ak e' 2=v2/\ak e' 3=.pointer (some ⟨N,0,none⟩)/\ak e' 43=B.v/\ak e' 44=.int .i64 rs.length/\ak e' 45=.int .i64 j/\ab (wP N nb) h h'/\NR h' n0 ai κ cap B rs N nb
theorem R_(ok:bm h)(k:NR h n0 ai κ cap B rs N nb)(T:TF rs)(f1:ak e 1=v1)(f2:ak e 2=v2)(f3:ak e 3=.pointer (some ⟨N,0,none⟩))(f43:ak e 43=B.v)(f44:ak e 44=.int .i64 rs.length)(f45:ak e 45=.int .i64 0)(C:∀e' h',ak e' 1=v1->ak e' 2=v2->ak e' 3=.pointer (some ⟨N,0,none⟩)->ab (wP N nb) h h'->NR h' n0 ai κ cap B rs N nb->QQ (.exit 2) e' h'):aB FF (.loop nv) e h QQ:=by
 have F9:=T.F9;refine aB.loop (NbI h n0 ai κ cap B rs N nb v1 v2) ?_ (n:=rs.length) ⟨0,rfl,by omega,f1,f2,f3,f43,f44,f45,.refl ok,k⟩;rintro m e' h'⟨j,rfl,hj,q1,q2,q3,Qn,Jb,OC,g,k'⟩;have bz:=g.ok;unfold nv;by_cases aS:j<rs.length
 .have wj:=wrap_i64 ((j:Int)+1) (by omega) (by omega);obtain⟨r,hr⟩:=aE rs j aS;have hm:=dG hr;obtain⟨sp,sl⟩:=T.size r hm;have R:=k'.O.os.r j r hr;obtain⟨b,cs,o,s,ha,hb,_,_,dj,_⟩:=k'.O.A.el hr;have rd:=dj 0 6 (by decide);simp[-ag] at rd;have ez:=k'.O.A.len;have kj:=R.P.len;have ui:=R.L.len;simp at Qn;rw[ha,ez] at Qn;simp[q3,Qn,Jb,OC,aS,rd,-ag,au,kj];refine aB.cut (fun h2=>ab aK h' h2/\∃s,h2.tr.get h'.next=some (.aC [.slice r.P.a r.ps.length r.P.c,.slice r.L.a r.ls.length r.L.c,.int .i64 r.kind,.bool r.on.1,.int .i64 r.on.2,.slice r.T.a r.T.l r.T.c] false 0 s)) ?_ ?_
  .exact⟨(ab.refl bz).var _ _,h'.clock,by simp[aH,kj,ui]⟩
  rintro h2⟨g2,sX,dX⟩;have k2:=k'.bl bz g2;obtain⟨lN,lnb⟩:=k'.lt bz;have nX:¬wP N nb h'.next:=fun e=>by rcases e with e|e<;>omega
  refine ZQ g2.ok k2 hr (by omega) (by simp[q3]) (by simp[kj]) (by simp) (by simp) ?_;intro e3 h3 K3 g3 k3;have fe:=g3.get g2.ok dX nX;have a1:=K3.at (t:=1) (by simp;exact q1);have a2:=K3.at (t:=2) (by simp;exact q2);have a3:=K3.at (t:=3) (by simp;exact q3);have a6:ak e3 6=.pointer (some ⟨h'.next,0,none⟩):=K3.at (t:=6) (by simp);have a43:=K3.at (t:=43) (by simp;exact Qn);have a44:=K3.at (t:=44) (by simp;exact Jb);have a45:=K3.at (t:=45) (by simp;exact OC);simp[a6,fe];refine ZP g3.ok k3 hr (by omega) (T.al r hm) (by simp[a3]) (by simp[ui]) (by simp) (by simp) ?_;intro e4 h4 K4 g4 k4;have vg:=g4.get g3.ok fe nX;have b1:=K4.at (t:=1) (by simp;exact a1);have b2:=K4.at (t:=2) (by simp;exact a2);have b3:=K4.at (t:=3) (by simp;exact a3);have b6:=K4.at (t:=6) (by simp;exact a6);have b43:=K4.at (t:=43) (by simp;exact a43);have b44:=K4.at (t:=44) (by simp;exact a44);have b45:=K4.at (t:=45) (by simp;exact a45);simp[b3,b6,vg];refine aG.call (V:=XO N nb ai r.on h4) (by simpa using uT g4.ok k4.w R.on k.Fu) ?_;rintro _ h5⟨g5,w5,u,rfl,_,_,_⟩;simp[b45,wj];exact⟨rs.length-(j+1),by omega,j+1,rfl,aS,by simp[b1],by simp[b2],by simp[b3],by simp[b43,ha,ez],by simp[b44],by simp,g.trans (g2.bl.trans (g3.trans (g4.trans g5))),k4.step g4.ok (.refl g4.ok) g5 w5⟩
 .have:j=rs.length:=by omega
  subst this;simp[Jb,OC];exact C _ _ (by simp[q1]) (by simp[q2]) (by simp[q3]) g k'
def NqI(h:ae)(n0 ai:Nat)(κ cap:Nat->Nat)(B:SV)(rs:List XR)(N nb:Nat)(p:Nat)(v1 v2:Value)(m:Nat)(e':Env)(h':ae):Prop:=
 ∃j:Nat,m=p-j/\j<=p/\ak e' 1=v1/\ak e' 2=v2/\ak e' 3=.pointer (some ⟨N,0,none⟩)/\ak e' 34=.int .i64 p/\ak e' 35=.int .i64 j/\ab (wP N nb) h h'/\NR h' n0 ai κ cap B rs N nb
theorem Sa(ok:bm h)(k:NR h n0 ai κ cap B rs N nb){p:Nat}(hp:p<=ai)(f1:ak e 1=v1)(f2:ak e 2=v2)(f3:ak e 3=.pointer (some ⟨N,0,none⟩))(f34:ak e 34=.int .i64 p)(f35:ak e 35=.int .i64 0)(C:∀e' h',ak e' 1=v1->ak e' 2=v2->ak e' 3=.pointer (some ⟨N,0,none⟩)->ab (wP N nb) h h'->NR h' n0 ai κ cap B rs N nb->QQ (.exit 0) e' h'):aB FF (.loop nx) e h QQ:=by
 have yV:=k.Fu;refine aB.loop (NqI h n0 ai κ cap B rs N nb p v1 v2) ?_ (n:=p) ⟨0,rfl,by omega,f1,f2,f3,f34,f35,.refl ok,k⟩;rintro m e' h'⟨j,rfl,hj,q1,q2,q3,q34,q35,g,k'⟩;unfold nx;by_cases aS:j<p
 .have wj:=wrap_i64 ((j:Int)+1) (by omega) (by omega);simp[q3,q34,q35,aS];refine aG.call (V:=NmQ N nb ai h') (by simpa using xb g.ok k'.w (r:=j) (by omega) k.Fu) ?_;rintro _ h3⟨g3,w3,x,rfl,_⟩;simp[q35,wj];exact⟨p-(j+1),by omega,j+1,rfl,aS,by simp[q1],by simp[q2],by simp[q3],by simp[q34],by simp,g.trans g3,k'.step g.ok (.refl g.ok) g3 w3⟩
 .have:j=p:=by omega
  subst this;simp[q34,q35];exact C _ _ (by simp[q1]) (by simp[q2]) (by simp[q3]) g k'
end
section
variable{n0 ai:Nat}{κ cap:Nat->Nat}{B:SV}{rs:List XR}{N nb:Nat}
def JB(κ:Nat->Nat)(N nb x:Nat):Prop:=wP N nb x\/κ x≠0
theorem NR.BA{h h':ae}(k:NR h n0 ai κ cap B rs N nb)(ok:bm h){b:Nat}(hk:κ b=1)(g:ab (· =b) h h'){vs:List (Bool×Int)}{o:Nat}(hb:∃s,h'.tr.get b=some (.aC (bx.flat vs) false o s))(ho:o=0\/o=2)(hl:vs.length=cap b)(hv:∀v∈vs,fk ai v):NR h' n0 ai κ cap B rs N nb:=
 ⟨k.O.BA ok hk g hb ho hl hv,k.w.grow ok g (fun e=>by have:=k.κN;rw[e] at this;omega) (fun e=>by have:=k.κb;rw[e] at this;omega),k.κN,k.κb,k.Fu⟩
def WaL:List Nat:=[21,22,164,165,166,167,168,169,170,171,172,173,174,175,176]
def WaI(h:ae)(n0 ai:Nat)(κ cap:Nat->Nat)(B:SV)(rs:List XR)(N nb:Nat)(A:SV)(X:Nat)(xc:List Value)(sX:Nat)(e:Env)(m:Nat)(e':Env)(h':ae):Prop:=
 ∃j:Nat,m=A.l-j/\j<=A.l/\aA WaL e e'/\ak e' 164=.int .i64 j/\ab (JB κ N nb) h h'/\NR h' n0 ai κ cap B rs N nb/\h'.tr.get X=some (.aC xc false 0 sX)
theorem aji(ok:bm h)(k:NR h n0 ai κ cap B rs N nb)(hA:VA κ cap A)(hl:A.l<=1048576)(hX:h.tr.get X=some (.aC xc false 0 sX))(κX:κ X=0)(nX:¬wP N nb X)(C1:(xc.drop 7).take 1=[A.v])(f3:ak e 3=.pointer (some ⟨N,0,none⟩))(fX:ak e 20=.pointer (some ⟨X,0,none⟩))(fA:ak e 162=A.v)(fl:ak e 163=.int .i64 A.l)(fj:ak e 164=.int .i64 0)(C:∀e' h',aA WaL e e'->ab (JB κ N nb) h h'->NR h' n0 ai κ cap B rs N nb->h'.tr.get X=some (.aC xc false 0 sX)->QQ (.exit 18) e' h'):aB FF (.loop nh) e h QQ:=by
 refine aB.loop (WaI h n0 ai κ cap B rs N nb A X xc sX e) ?_ (n:=A.l) ⟨0,rfl,by omega,aA.refl _ _,fj,.refl ok,k,hX⟩;rintro m e' h'⟨j,rfl,hj,K,qj,g,k',mf⟩;have bz:=g.ok;have q3:=K.at f3;have qX:=K.at fX;have qA:=K.at fA;have ql:=K.at fl;have rV:7+1<=xc.length:=by have:=congrArg List.length C1;simp at this;omega
 unfold nh;by_cases aS:j<A.l
 .have wj:=wrap_i64 ((j:Int)+1) (by omega) (by omega);obtain⟨b,vs,o,s,v,ha,IF,hc,hb,ho,Fq,x5,hx,hv,rd⟩:=hA.val k'.O.os.V aS;simp at qA;rw[ha] at qA;have xI:(xc.drop 7).take 1=[.slice (some ⟨b,0,none⟩) A.l A.c]:=by rw[C1];simp[ha]
  have rX:aV h' X 7 1=some [.slice (some ⟨b,0,none⟩) A.l A.c]:=by rw[bV mf rV,xI]
  have oX:=bz.bC mf;have C0:=bz.st _ _ _ _ _ mf;have lX:=oX.lt;have Wi:¬X=h'.next:=by omega
  have lb:=bz.wf _ _ hb;simp[q3,qX,qA,ql,qj,aS,rd,rX,oX,Wi,-ag,au,aX,aN,ay];refine aU.cut (fun h2=>ab aK h' h2) ?_ ?_
  .exact((ab.refl bz).var _ _).tick
  intro h2 g2;have k2:=k'.bl bz g2;have dX:=g2.get bz mf;refine aU.call (V:=XO N nb ai v h2) (by simpa using uT g2.ok k2.w hv k.Fu) ?_;rintro _ h3⟨g3,w3,u,rfl,_,hu,_⟩;have k3:=k2.step g2.ok (.refl g2.ok) g3 w3;have fe:=g3.get g2.ok dX nX;have nbS:¬wP N nb b:=fun e=>by have h1:=k.κN;have h2:=k.κb;rcases e with e|e<;>(rw[e] at IF;omega)
  have x4:=g3.get g2.ok (g2.get bz hb) nbS;have Ts:j<vs.length:=(cr.mp hx).1;have hf:j*2+2<=(bx.flat vs).length:=by rw[bx.bI,dI];omega
  have zX:j*2+2<=vs.length*2:=by omega
  have tY:sX<=h'.clock+1:=by omega
  simp[qX,fe,tY,aS,x4,zX,qj,wj];have g4:=aQ (off:=j*2) (vs:=[Value.bool u.1,Value.int .i64 u.2]) g3.ok x4;have e4:=bx.eD vs j u Ts;simp only[dI,qB] at e4;have D3:∃s,(put h3 b (j*2) (bx.flat vs) [Value.bool u.1,Value.int .i64 u.2] o).tr.get b=some (.aC (bx.flat (vs.set j u)) false o s):=⟨_,by rw[aD,e4]⟩;generalize put h3 b (j*2) (bx.flat vs) [Value.bool u.1,Value.int .i64 u.2] o=h4 at*;have k4:=k3.BA g3.ok IF g4 D3 ho (by simp[Fq]) (fun w hw=>by
   rcases Kx hw with h|h
   .exact x5 w h
   .rw[h];exact hu)
  have nXb:¬X=b:=fun e=>by rw[e] at κX;omega
  refine⟨A.l-(j+1),by omega,j+1,rfl,aS,?_,by simp,?_,k4,g4.get g3.ok fe nXb⟩
  .repeat (refine aA.set ?_)
   exact K
  .exact((g.trans g2.bl).trans (g3.bU (fun x _ h=>.inl h))).trans (g4.bU (fun x _ e=>.inr (by rw[e];omega)))
 .have:j=A.l:=by omega
  subst this;simp[ql,qj];exact C _ _ (aA.set K) g k' mf
def WrL:List Nat:=[17,18,129,130,131,132,133,134,135,136,137,138,139,140,141]
def WrI(h:ae)(n0 ai:Nat)(κ cap:Nat->Nat)(B:SV)(rs:List XR)(N nb:Nat)(A:SV)(X:Nat)(xc:List Value)(sX:Nat)(e:Env)(m:Nat)(e':Env)(h':ae):Prop:=
 ∃j:Nat,m=A.l-j/\j<=A.l/\aA WrL e e'/\ak e' 129=.int .i64 j/\ab (JB κ N nb) h h'/\NR h' n0 ai κ cap B rs N nb/\h'.tr.get X=some (.aC xc false 0 sX)
theorem ajj(ok:bm h)(k:NR h n0 ai κ cap B rs N nb)(hA:VA κ cap A)(hl:A.l<=1048576)(hX:h.tr.get X=some (.aC xc false 0 sX))(κX:κ X=0)(nX:¬wP N nb X)(C1:(xc.drop 1).take 1=[A.v])(f3:ak e 3=.pointer (some ⟨N,0,none⟩))(fX:ak e 16=.pointer (some ⟨X,0,none⟩))(fA:ak e 127=A.v)(fl:ak e 128=.int .i64 A.l)(fj:ak e 129=.int .i64 0)(C:∀e' h',aA WrL e e'->ab (JB κ N nb) h h'->NR h' n0 ai κ cap B rs N nb->h'.tr.get X=some (.aC xc false 0 sX)->QQ (.exit 14) e' h'):aB FF (.loop nj) e h QQ:=by
 refine aB.loop (WrI h n0 ai κ cap B rs N nb A X xc sX e) ?_ (n:=A.l) ⟨0,rfl,by omega,aA.refl _ _,fj,.refl ok,k,hX⟩;rintro m e' h'⟨j,rfl,hj,K,qj,g,k',mf⟩;have bz:=g.ok;have q3:=K.at f3;have qX:=K.at fX;have qA:=K.at fA;have ql:=K.at fl;have rV:1+1<=xc.length:=by have:=congrArg List.length C1;simp at this;omega
 unfold nj;by_cases aS:j<A.l
 .have wj:=wrap_i64 ((j:Int)+1) (by omega) (by omega);obtain⟨b,vs,o,s,v,ha,IF,hc,hb,ho,Fq,x5,hx,hv,rd⟩:=hA.val k'.O.os.V aS;simp at qA;rw[ha] at qA;have xI:(xc.drop 1).take 1=[.slice (some ⟨b,0,none⟩) A.l A.c]:=by rw[C1];simp[ha]
  have rX:aV h' X 1 1=some [.slice (some ⟨b,0,none⟩) A.l A.c]:=by rw[bV mf rV,xI]
  have oX:=bz.bC mf;have C0:=bz.st _ _ _ _ _ mf;have lX:=oX.lt;have Wi:¬X=h'.next:=by omega
  have lb:=bz.wf _ _ hb;simp[q3,qX,qA,ql,qj,aS,rd,rX,oX,Wi,-ag,au,aX,aN,ay];refine aU.cut (fun h2=>ab aK h' h2) ?_ ?_
  .exact((ab.refl bz).var _ _).tick
  intro h2 g2;have k2:=k'.bl bz g2;have dX:=g2.get bz mf;refine aU.call (V:=XO N nb ai v h2) (by simpa using uT g2.ok k2.w hv k.Fu) ?_;rintro _ h3⟨g3,w3,u,rfl,_,hu,_⟩;have k3:=k2.step g2.ok (.refl g2.ok) g3 w3;have fe:=g3.get g2.ok dX nX;have nbS:¬wP N nb b:=fun e=>by have h1:=k.κN;have h2:=k.κb;rcases e with e|e<;>(rw[e] at IF;omega)
  have x4:=g3.get g2.ok (g2.get bz hb) nbS;have Ts:j<vs.length:=(cr.mp hx).1;have hf:j*2+2<=(bx.flat vs).length:=by rw[bx.bI,dI];omega
  have zX:j*2+2<=vs.length*2:=by omega
  have tY:sX<=h'.clock+1:=by omega
  simp[qX,fe,tY,aS,x4,zX,qj,wj];have g4:=aQ (off:=j*2) (vs:=[Value.bool u.1,Value.int .i64 u.2]) g3.ok x4;have e4:=bx.eD vs j u Ts;simp only[dI,qB] at e4;have D3:∃s,(put h3 b (j*2) (bx.flat vs) [Value.bool u.1,Value.int .i64 u.2] o).tr.get b=some (.aC (bx.flat (vs.set j u)) false o s):=⟨_,by rw[aD,e4]⟩;generalize put h3 b (j*2) (bx.flat vs) [Value.bool u.1,Value.int .i64 u.2] o=h4 at*;have k4:=k3.BA g3.ok IF g4 D3 ho (by simp[Fq]) (fun w hw=>by
   rcases Kx hw with h|h
   .exact x5 w h
   .rw[h];exact hu)
  have nXb:¬X=b:=fun e=>by rw[e] at κX;omega
  refine⟨A.l-(j+1),by omega,j+1,rfl,aS,?_,by simp,?_,k4,g4.get g3.ok fe nXb⟩
  .repeat (refine aA.set ?_)
   exact K
  .exact((g.trans g2.bl).trans (g3.bU (fun x _ h=>.inl h))).trans (g4.bU (fun x _ e=>.inr (by rw[e];omega)))
 .have:j=A.l:=by omega
  subst this;simp[ql,qj];exact C _ _ (aA.set K) g k' mf
end
section
variable{n0 ai:Nat}{κ cap:Nat->Nat}{B:SV}{rs:List XR}{N nb:Nat}
theorem LY(hr:rs[i]?=some r):rs.set i r=rs:=by
 refine zS fun m=>?_;rw[fg];by_cases e:i=m
 .subst e;rw[aZ rfl,aZ (cr.mp hr).1,hr]
 .rw[aW e]
theorem Kk(w:eY fC h B rs)(hr:rs[i]?=some r)(e:fC.enc r'=fC.enc r):eY fC h B (rs.set i r'):=by
 refine DO w (by simp) (fun m a c h1 h2=>?_);rw[fg] at h2;by_cases e1:i=m
 .subst e1;rw[aZ rfl,aZ (cr.mp hr).1] at h2;cases h2;rw[hr] at h1;cases h1;exact e
 .rw[aW e1,h1] at h2;cases h2;rfl
theorem NR.aal{h h':ae}(k:NR h n0 ai κ cap B rs N nb)(ok:bm h){i:Nat}{r:XR}(hr:rs[i]?=some r)(g:ab (ax r.P.v) h h'){C7:List (Int×SV)}(hP:eY gL h' r.P C7)(iI:∀p∈C7,(0<=p.1/\p.1<ai)/\VA κ cap p.2):NR h' n0 ai κ cap B (rs.set i {r with ps:=C7}) N nb:=by have R:=k.O.os.r i r hr;have hA:=k.O.A.grow ok g (fun b hb hs=>by have:=k.O.kB b hb;have:=R.kP b hs;omega);exact⟨⟨k.O.os.aal ok hr g hP rfl iI,Kk hA hr rfl,k.O.kB⟩,k.w.grow ok g (fun e=>by have:=k.κN;have:=R.kP _ e;omega) (fun e=>by have:=k.κb;have:=R.kP _ e;omega),k.κN,k.κb,k.Fu⟩
theorem NR.aeY{h h':ae}(k:NR h n0 ai κ cap B rs N nb)(ok:bm h){i:Nat}{r:XR}(hr:rs[i]?=some r)(g:ab (ax r.L.v) h h'){C3:List XI}(hL:eY jZ h' r.L C3)(Fl:∀x∈C3,x.dst<ai/\fk ai x.a/\fk ai x.b/\VA κ cap x.args):NR h' n0 ai κ cap B (rs.set i {r with ls:=C3}) N nb:=by have R:=k.O.os.r i r hr;have hA:=k.O.A.grow ok g (fun b hb hs=>by have:=k.O.kB b hb;have:=R.kL b hs;omega);exact⟨⟨k.O.os.aeY ok hr g hL rfl Fl,Kk hA hr rfl,k.O.kB⟩,k.w.grow ok g (fun e=>by have:=k.κN;have:=R.kL _ e;omega) (fun e=>by have:=k.κb;have:=R.kL _ e;omega),k.κN,k.κb,k.Fu⟩
def WpL:List Nat:=[15,16,17,18,112,113,114,115,116,117,118,119,120,121,122,123,124,125,126,127,128,129,130,131,132,133,134,135,136,137,138,139,140,141,142]
def WpI(h:ae)(n0 ai:Nat)(κ cap:Nat->Nat)(B:SV)(rs:List XR)(N nb i:Nat)(r:XR)(X:Nat)(xc:List Value)(sX:Nat)(e:Env)(m:Nat)(e':Env)(h':ae):Prop:=
 ∃(j:Nat) (qs:List (Int×SV)),m=r.ps.length-j/\j<=r.ps.length/\aA WpL e e'/\ak e' 112=.int .i64 j/\ab (JB κ N nb) h h'/\NR h' n0 ai κ cap B (rs.set i {r with ps:=qs}) N nb/\qs.length=r.ps.length/\(∀q∈qs,q.2.l<=1048576)/\h'.tr.get X=some (.aC xc false 0 sX)
theorem Wm(ok:bm h)(k:NR h n0 ai κ cap B rs N nb)(hr:rs[i]?=some r)(hl:r.ps.length<=1048576)(hX:h.tr.get X=some (.aC xc false 0 sX))(κX:κ X=0)(nX:¬wP N nb X)(C1:xc.take 1=[r.P.v])(Tv:∀q∈r.ps,q.2.l<=1048576)(f3:ak e 3=.pointer (some ⟨N,0,none⟩))(f14:ak e 14=.pointer (some ⟨X,0,none⟩))(f110:ak e 110=r.P.v)(f111:ak e 111=.int .i64 r.ps.length)(f112:ak e 112=.int .i64 0)(C:∀e' h' qs,qs.length=r.ps.length->aA WpL e e'->ab (JB κ N nb) h h'->NR h' n0 ai κ cap B (rs.set i {r with ps:=qs}) N nb->h'.tr.get X=some (.aC xc false 0 sX)->QQ (.exit 12) e' h'):aB FF (.loop nk) e h QQ:=by
 have gY:=(cr.mp hr).1;refine aB.loop (WpI h n0 ai κ cap B rs N nb i r X xc sX e) ?_ (n:=r.ps.length) ⟨0,r.ps,rfl,by omega,aA.refl _ _,f112,.refl ok,by rw[LY hr];exact k,rfl,Tv,hX⟩;rintro m e' h'⟨j,qs,rfl,hj,K,aeD,g,k',hqs,hqv,mf⟩;have bz:=g.ok;have q3:=K.at f3;have Hq:=K.at f14;have aeC:=K.at f110;have aju:=K.at f111;have rV:1<=xc.length:=by have:=congrArg List.length C1;simp at this;omega
 unfold nk;by_cases aS:j<r.ps.length
 .have wj:=wrap_i64 ((j:Int)+1) (by omega) (by omega);obtain⟨q,hq⟩:=aE qs j;have Fp:=dG hq;have ME:(rs.set i {r with ps:=qs})[i]?=some {r with ps:=qs} :=by rw[fg,aZ rfl,aZ gY]
  have R:=k'.O.os.r i _ ME;have RP:eY gL h' r.P qs:=R.P;obtain⟨bP,cs,o,s,ha,hb,_,eU,dj,_⟩:=RP.el hq;have rd:=dj 0 2 (by decide);simp[-ag] at rd;have kj:=RP.len;obtain⟨⟨h0,h1⟩,hVA⟩:=R.ps q Fp;obtain⟨u,hu⟩:∃u:Nat,q.1=u:=⟨q.1.toNat,by omega⟩;rw[hu] at rd;simp at aeC;rw[ha,kj,hqs] at aeC;have xI:(xc.drop 0).take 1=[.slice (some ⟨bP,0,none⟩) r.ps.length r.P.c]:=by rw[List.drop_zero,C1];simp[ha,kj,hqs]
  have rX:aV h' X 0 1=some [.slice (some ⟨bP,0,none⟩) r.ps.length r.P.c]:=by rw[bV mf (by omega),xI]
  have oX:=bz.bC mf;have C0:=bz.st _ _ _ _ _ mf;have lX:=oX.lt;have Wi:¬X=h'.next:=by omega
  simp[q3,Hq,aeC,aju,aeD,aS,rd,rX,oX,Wi,-ag,au,aX,aN,ay];refine aU.cut (fun h2=>ab aK h' h2/\∃s,h2.tr.get h'.next=some (.aC [.int .i64 u,.slice q.2.a q.2.l q.2.c] false 0 s)) ?_ ?_
  .exact⟨((ab.refl bz).var _ _).tick,h'.clock,by simp[aH]⟩
  rintro h2⟨g2,s2,Rd⟩;have k2:=k'.bl bz g2;have dX:=g2.get bz mf;refine aU.call (V:=NmQ N nb ai h2) (by simpa using xb g2.ok k2.w (r:=u) (by omega) k.Fu) ?_;rintro _ h3⟨g3,w3,x,rfl,hx⟩;have k3:=k2.step g2.ok (.refl g2.ok) g3 w3;have fe:=g3.get g2.ok dX nX;obtain⟨lN,lnb⟩:=k'.lt bz;have nY:¬wP N nb h'.next:=fun e=>by rcases e with e|e<;>omega
  have PI:=g3.get g2.ok Rd nY;have κP:κ bP=3:=R.kP bP (cw ha);have R3:=(k3.O.os.r i _ ME).P;obtain⟨bP',Uw,o3,s3,Zb,x4,_,D7,_,KW⟩:=R3.el hq;rw[ha] at Zb;cases Zb;have hf:=D7 0 1 (by decide);simp at hf;have tY:sX<=h'.clock+1:=by omega
  have nYP:¬h'.next=bP:=fun e=>by have hw:=k'.O.os.new h'.next;rw[<-e] at κP;have:=(hw (by omega)).2;omega
  simp[Hq,fe,tY,aS,x4,hf,nYP,PI];have g4:=aQ (off:=j*2) (vs:=[Value.int .i64 x]) g3.ok x4;have XT:=KW ((x:Int),q.2) 0 [.int .i64 x] (by simp) rfl (put h3 bP (j*2) Uw [Value.int .i64 x] o3) ⟨h3.clock,by simp⟩;have XZ:=g4.get g3.ok PI nYP;have vg:=g4.get g3.ok fe (fun e=>by rw[e] at κX;omega);generalize put h3 bP (j*2) Uw [Value.int .i64 x] o3=h4 at*;have k4:=k3.aal g3.ok ME (g4.bU (fun y _ e=>e▸cw ha)) XT (fun p hp=>by
   rcases Kx hp with h|h
   .exact R.ps p h
   .rw[h];exact⟨⟨by show(0:Int)<=x;omega,by show(x:Int)<ai;omega⟩,hVA⟩)
  rw[List.set_set] at k4;refine ajj g4.ok k4 hVA (hqv q Fp) XZ ?_ nY rfl (by simp[q3]) (by simp) (by simp) (by simp) (by simp) ?_
  .have hw:=k'.O.os.new h'.next;rcases ve (κ h'.next) with h|h
   .exact h
   .have:=(hw (by omega)).2;omega
  intro e5 h5 K5 g5 k5 hY5;have aqk:=K5.at (t:=112) (by simp;exact aeD);have uL:=g5.get g4.ok vg (fun e=>by rcases e with e|e;exact nX e;exact e κX);simp[aqk,wj];refine⟨r.ps.length-(j+1),by omega,j+1,qs.set j ((x:Int),q.2),rfl,aS,?_,by simp,?_,k5,by simp[hqs],fun p hp=>?_,uL⟩
  .refine aA.set (aA.set (aA.trans ?_ (K5.bU)))
   repeat (refine aA.set ?_)
   exact K
  .exact(((g.trans g2.bl).trans (g3.bU (fun x _ h=>.inl h))).trans (g4.bU (fun x _ e=>.inr (by rw[e];omega)))).trans g5
  .rcases Kx hp with h|h
   .exact hqv p h
   .rw[h];exact hqv q Fp
 .have:j=r.ps.length:=by omega
  subst this;simp[aju,aeD];exact C _ _ qs hqs (aA.set K) g k' mf
end
end Go.Proofs.YtdhnndleffachaaGreatDoor
